/- Walks of single functions, written by a program of this work. -/
import Derived.Test.YtgpolejhaglddaaGWWcetMet2
namespace Go.Proofs.Ytgpolejhaglddaa.GV
open Go Go.RowKit
set_option linter.unusedVariables false
set_option linter.unusedSimpArgs false
set_option maxRecDepth 100000

/-! punctual/punctuallaw.timed -/
abbrev timed.Post (w0 : World) (r : Bool) (e : Ending) (w : World) : Prop := e = .returned (.bool r) ∧ St w0 w []
def timed.f (K : Nat) : Option Bool :=
 match wcet_Analyse.f K image.f with
 | none => none
 | some r1 =>
  if r1.2.Code = 0 then
   if r1.1.Worst = 28 then
    if (r1.1.Rest.length : Int) = 10 then
     match r1.1.Rest[9]? with
     | none => none
     | some e1 =>
      if e1 = 2 then
       match wcet_Proves.f K image.f r1.1.Worst r1.1.Rest with
       | none => none
       | some r2 =>
        if r2 = true then
         match wcet_Proves.f K image.f 27 r1.1.Rest with
         | none => none
         | some r3 =>
          some (!r3)
        else
         some false
      else
       some false
    else
     some false
   else
    some false
  else
   some false
theorem timed_ok (K : Nat)  (w0 : World) (r : Bool) (h : timed.f K = some r) :
  Calls Try.prog 6 #[] w0 (timed.Post w0 r) := by
 have hS := St.start w0
 unfold timed.f at h
 refine calls_enter (n := 42) (args := []) (fn := Try.f6) rfl rfl rfl rfl ?_
 show WE _ _ _ _ [] _
 refine ws fun K1 hK1 => ?_
 refine wr [(0, 0)] ?_
 refine gb0 [0] [(0, .bool false)] ?_
 refine gn hK1 ?_
 refine ws fun K2 hK2 => ?_
 refine wr [(0, 1), (1, 1), (2, 0), (3, 0), (4, 0), (5, 1), (6, 1), (7, 2), (8, 2)] ?_
 refine ge_call (d := some 4) (f := 14) (args := #[]) (by kernel_rfl) (image_ok _ _ rfl) ?_
 rintro _ w1 ⟨v1, rfl, hS1⟩
 refine ⟨_, rfl, hS1.below, ?_⟩
 have hS2 := hS.call hS1
 obtain ⟨Z1, cz1, rfl⟩ := hS2.open 0 rfl
 rcases hq2 : wcet_Analyse.f K image.f with _ | r1
 ·rw [hq2] at h; cases h
 rw [hq2] at h
 simp only [] at h
 refine ge_call (d := some 5) (f := 8) (args := #[(.slice Z1 image.f.length cz1)]) (by kernel_rfl) (wcet_Analyse_ok K image.f Z1 cz1 _ (hS2.rdAt 0 rfl) (hS2.capAt 0 rfl) _ hq2) ?_
 rintro _ w2 ⟨v2, rfl, hS3⟩
 refine ⟨_, rfl, hS3.below, ?_⟩
 have hS4 := hS2.call hS3
 refine gb0 [2, 3, 4] [(7, .agg #[vI r1.2.Code, vI r1.2.At]), (6, .agg #[vI r1.1.Worst, v2]), (3, .tuple #[.agg #[vI r1.1.Worst, v2], .agg #[vI r1.2.Code, vI r1.2.At]])] ?_
 refine gw (some 1) (.cells #[vI 0, .slice none 0 0] 26) (fun b => pP b 0) hS4 fun b1 w3 hx1 hS5 => ?_
 refine gw (some 2) (.cells #[vI 0, vI 0] 29) (fun b => pP b 0) hS5 fun b2 w4 hx2 hS6 => ?_
 obtain ⟨Z2, cz2, rfl⟩ := hS6.open 2 rfl
 have hS7 := hS6.bring 1 rfl
 refine gs b1 0 #[vI 0, .slice none 0 0] 26 [vI r1.1.Worst, (.slice Z2 r1.1.Rest.length cz2)] hS7 fun w5 hS8 => ?_
 have hS9 : St w0 w5 [Own.blk b1 (.cells #[vI r1.1.Worst, (.slice Z2 r1.1.Rest.length cz2)] 26 (0, 0)), Own.blk b2 (.cells #[vI 0, vI 0] 29 (0, 0)), Own.of (.slice Z2 r1.1.Rest.length cz2) 3 r1.1.Rest, Own.of (.slice Z1 image.f.length cz1) 41 image.f] := hS8
 have hS10 := hS9.bring 1 rfl
 refine gs b2 0 #[vI 0, vI 0] 29 [vI r1.2.Code, vI r1.2.At] hS10 fun w6 hS11 => ?_
 have hS12 : St w0 w6 [Own.blk b2 (.cells #[vI r1.2.Code, vI r1.2.At] 29 (0, 0)), Own.blk b1 (.cells #[vI r1.1.Worst, (.slice Z2 r1.1.Rest.length cz2)] 26 (0, 0)), Own.of (.slice Z2 r1.1.Rest.length cz2) 3 r1.1.Rest, Own.of (.slice Z1 image.f.length cz1) 41 image.f] := hS11
 refine gn hK2 ?_
 refine ws fun K3 hK3 => ?_
 refine we_draws (by kernel_rfl) [(0, 0), (1, 0), (2, 0), (3, 0), (4, 0), (5, 0), (6, 0), (7, 0), (8, 0), (9, 0), (10, 0), (11, 0), (12, 0), (13, 0), (14, 0), (15, 0), (16, 0), (17, 0), (18, 0), (19, 0), (20, 0), (21, 0), (23, 0), (22, 1), (24, 1), (25, 0), (26, 0), (28, 0), (29, 0), (30, 0), (27, 1), (31, 1), (32, 0), (33, 0), (34, 0)] (by kernel_rfl) ?_
 have hS13 := hS12.drew
 refine gb [0, 1, 2, 3] [(11, .bool (r1.2.Code == 0)), (10, .bool (r1.2.Code == 0)), (9, vI r1.2.Code), (8, pP b2 0)] [.loaded ⟨b2, 0, none⟩ (vI r1.2.Code)] ⟨hS13.c 0, trivial⟩ ?_
 by_cases hc1 : r1.2.Code = 0
 ·rw [if_pos hc1] at h
  refine gk 11 (r1.2.Code == 0) true (beq_iff_eq.2 hc1) ?_
  refine gb [4, 5, 6, 7, 8] [(16, .bool (r1.1.Worst == 28)), (15, .bool (r1.1.Worst == 28)), (14, .bool (r1.1.Worst == 28)), (13, vI r1.1.Worst), (12, pP b1 0)] [.loaded ⟨b1, 0, none⟩ (vI r1.1.Worst)] ⟨hS13.c 1, trivial⟩ ?_
  by_cases hc2 : r1.1.Worst = 28
  ·rw [if_pos hc2] at h
   refine gk 16 (r1.1.Worst == 28) true (beq_iff_eq.2 hc2) ?_
   refine gb [9, 10, 11, 12, 13, 14] [(22, .bool ((r1.1.Rest.length : Int) == 10)), (21, .bool ((r1.1.Rest.length : Int) == 10)), (20, .bool ((r1.1.Rest.length : Int) == 10)), (19, vI (r1.1.Rest.length : Int)), (18, (.slice Z2 r1.1.Rest.length cz2)), (17, pP b1 1)] [.loaded ⟨b1, 1, none⟩ ((.slice Z2 r1.1.Rest.length cz2))] ⟨hS13.c 1, trivial⟩ ?_
   by_cases hc3 : (r1.1.Rest.length : Int) = 10
   ·rw [if_pos hc3] at h
    refine gk 22 ((r1.1.Rest.length : Int) == 10) true (beq_iff_eq.2 hc3) ?_
    refine gb [15, 16] [(24, (.slice Z2 r1.1.Rest.length cz2)), (23, pP b1 1)] [.loaded ⟨b1, 1, none⟩ ((.slice Z2 r1.1.Rest.length cz2))] ⟨hS13.c 1, trivial⟩ ?_
    rcases hx3 : r1.1.Rest[9]? with _ | e1
    ·rw [hx3] at h; cases h
    rw [hx3] at h
    simp only [] at h
    refine gi 25 0 23 3 1 r1.1.Rest.length cz2 (.tmp 24) (.const (vI 9)) Z2 .i64 9 9 ((hS13.rdAt 2 rfl).eqSome (pos_of_get hx3)) rfl (lt_of_get hx3) ?_
    refine gb [18, 19, 20, 21] [(29, .bool (e1 == 2)), (28, .bool (e1 == 2)), (27, .bool (e1 == 2)), (26, vI e1)] [.loaded ⟨blkOf Z2, offOf Z2 + 9 * 1, none⟩ (vI e1)] ⟨RdL.cell (j := 0) (hS13.rdAt 2 rfl) hx3 rfl, trivial⟩ ?_
    by_cases hc4 : e1 = 2
    ·rw [if_pos hc4] at h
     refine gk 29 (e1 == 2) true (beq_iff_eq.2 hc4) ?_
     refine gb [23] [(31, .agg #[vI r1.1.Worst, (.slice Z2 r1.1.Rest.length cz2)])] [.loaded ⟨b1, 0, none⟩ (vI r1.1.Worst), .loaded ⟨b1, 1, none⟩ ((.slice Z2 r1.1.Rest.length cz2))] ⟨hS13.c 1, hS13.c 1, trivial⟩ ?_
     refine ge_call (d := some 30) (f := 14) (args := #[]) (by kernel_rfl) (image_ok _ _ rfl) ?_
     rintro _ w7 ⟨v3, rfl, hS14⟩
     refine ⟨_, rfl, hS14.below, ?_⟩
     have hS15 := hS13.call hS14
     obtain ⟨Z3, cz3, rfl⟩ := hS15.open 0 rfl
     rcases hq4 : wcet_Proves.f K image.f r1.1.Worst r1.1.Rest with _ | r2
     ·rw [hq4] at h; cases h
     rw [hq4] at h
     simp only [] at h
     refine ge_call (d := some 32) (f := 9) (args := #[(.slice Z3 image.f.length cz3), .agg #[vI r1.1.Worst, (.slice Z2 r1.1.Rest.length cz2)]]) (by kernel_rfl) (wcet_Proves_ok K image.f Z3 cz3 r1.1.Worst r1.1.Rest Z2 cz2 _ (hS15.rdAt 0 rfl) (hS15.capAt 0 rfl) (hS15.rdAt 3 rfl) (hS15.capAt 3 rfl) _ hq4) ?_
     rintro _ w8 ⟨rfl, hS16⟩
     refine ⟨_, rfl, hS16.below, ?_⟩
     have hS17 := hS15.call hS16
     refine gb0 [25, 26] [(34, .bool r2), (33, .bool r2)] ?_
     by_cases hc5 : r2 = true
     ·rw [if_pos hc5] at h
      refine gk 34 r2 true hc5 ?_
      refine gb [28, 29, 30] [(38, .agg #[vI 27, (.slice Z2 r1.1.Rest.length cz2)]), (37, (.slice Z2 r1.1.Rest.length cz2)), (36, pP b1 1)] [.loaded ⟨b1, 1, none⟩ ((.slice Z2 r1.1.Rest.length cz2))] ⟨hS17.c 2, trivial⟩ ?_
      refine ge_call (d := some 35) (f := 14) (args := #[]) (by kernel_rfl) (image_ok _ _ rfl) ?_
      rintro _ w9 ⟨v4, rfl, hS18⟩
      refine ⟨_, rfl, hS18.below, ?_⟩
      have hS19 := hS17.call hS18
      obtain ⟨Z4, cz4, rfl⟩ := hS19.open 0 rfl
      rcases hq6 : wcet_Proves.f K image.f 27 r1.1.Rest with _ | r3
      ·rw [hq6] at h; cases h
      rw [hq6] at h
      simp only [] at h
      refine ge_call (d := some 39) (f := 9) (args := #[(.slice Z4 image.f.length cz4), .agg #[vI 27, (.slice Z2 r1.1.Rest.length cz2)]]) (by kernel_rfl) (wcet_Proves_ok K image.f Z4 cz4 27 r1.1.Rest Z2 cz2 _ (hS19.rdAt 0 rfl) (hS19.capAt 0 rfl) (hS19.rdAt 4 rfl) (hS19.capAt 4 rfl) _ hq6) ?_
      rintro _ w10 ⟨rfl, hS20⟩
      refine ⟨_, rfl, hS20.below, ?_⟩
      have hS21 := hS19.call hS20
      refine gb0 [32, 33, 34] [(0, .bool (!r3)), (41, .bool (!r3)), (40, .bool (!r3))] ?_
      refine gn hK3 ?_
      have hS22 := hS21.takeN 0
      obtain rfl := si h
      exact we_ret (pr0 [.tmp 0] [.bool (!r3)] ⟨rfl, hS22⟩)
     ·rw [if_neg hc5] at h
      refine gk 34 r2 false (Bool.eq_false_iff.2 hc5) ?_
      refine gb0 [28, 29, 30] [(38, undef), (37, undef), (36, undef)] ?_
      refine ge_off rfl rfl rfl (by kernel_rfl) ?_
      refine ge_off rfl rfl rfl (by kernel_rfl) ?_
      refine gb0 [32, 33, 34] [(0, .bool false), (41, .bool false), (40, undef)] ?_
      refine gn hK3 ?_
      have hS23 := hS17.takeN 0
      obtain rfl := si h
      exact we_ret (pr0 [.tmp 0] [.bool false] ⟨rfl, hS23⟩)
    ·rw [if_neg hc4] at h
     refine gk 29 (e1 == 2) false (beq_eq_false_iff_ne.2 hc4) ?_
     refine gb0 [23] [(31, undef)] ?_
     refine ge_off rfl rfl rfl (by kernel_rfl) ?_
     refine ge_off rfl rfl rfl (by kernel_rfl) ?_
     refine gb0 [25, 26, 28, 29, 30] [(38, undef), (37, undef), (36, undef), (34, .bool false), (33, .bool false)] ?_
     refine ge_off rfl rfl rfl (by kernel_rfl) ?_
     refine ge_off rfl rfl rfl (by kernel_rfl) ?_
     refine gb0 [32, 33, 34] [(0, .bool false), (41, .bool false), (40, undef)] ?_
     refine gn hK3 ?_
     have hS24 := hS13.takeN 0
     obtain rfl := si h
     exact we_ret (pr0 [.tmp 0] [.bool false] ⟨rfl, hS24⟩)
   ·rw [if_neg hc3] at h
    refine gk 22 ((r1.1.Rest.length : Int) == 10) false (beq_eq_false_iff_ne.2 hc3) ?_
    refine gb0 [15, 16, 17, 18, 19, 20, 21, 23] [(31, undef), (29, .bool false), (28, .bool false), (27, undef), (26, undef), (25, undef), (24, undef), (23, undef)] ?_
    refine ge_off rfl rfl rfl (by kernel_rfl) ?_
    refine ge_off rfl rfl rfl (by kernel_rfl) ?_
    refine gb0 [25, 26, 28, 29, 30] [(38, undef), (37, undef), (36, undef), (34, .bool false), (33, .bool false)] ?_
    refine ge_off rfl rfl rfl (by kernel_rfl) ?_
    refine ge_off rfl rfl rfl (by kernel_rfl) ?_
    refine gb0 [32, 33, 34] [(0, .bool false), (41, .bool false), (40, undef)] ?_
    refine gn hK3 ?_
    have hS25 := hS13.takeN 0
    obtain rfl := si h
    exact we_ret (pr0 [.tmp 0] [.bool false] ⟨rfl, hS25⟩)
  ·rw [if_neg hc2] at h
   refine gk 16 (r1.1.Worst == 28) false (beq_eq_false_iff_ne.2 hc2) ?_
   refine gb0 [9, 10, 11, 12, 13, 14, 15, 16, 17, 18, 19, 20, 21, 23] [(31, undef), (29, .bool false), (28, .bool false), (27, undef), (26, undef), (25, undef), (24, undef), (23, undef), (22, .bool false), (21, .bool false), (20, undef), (19, undef), (18, undef), (17, undef)] ?_
   refine ge_off rfl rfl rfl (by kernel_rfl) ?_
   refine ge_off rfl rfl rfl (by kernel_rfl) ?_
   refine gb0 [25, 26, 28, 29, 30] [(38, undef), (37, undef), (36, undef), (34, .bool false), (33, .bool false)] ?_
   refine ge_off rfl rfl rfl (by kernel_rfl) ?_
   refine ge_off rfl rfl rfl (by kernel_rfl) ?_
   refine gb0 [32, 33, 34] [(0, .bool false), (41, .bool false), (40, undef)] ?_
   refine gn hK3 ?_
   have hS26 := hS13.takeN 0
   obtain rfl := si h
   exact we_ret (pr0 [.tmp 0] [.bool false] ⟨rfl, hS26⟩)
 ·rw [if_neg hc1] at h
  refine gk 11 (r1.2.Code == 0) false (beq_eq_false_iff_ne.2 hc1) ?_
  refine gb0 [4, 5, 6, 7, 8, 9, 10, 11, 12, 13, 14, 15, 16, 17, 18, 19, 20, 21, 23] [(31, undef), (29, .bool false), (28, .bool false), (27, undef), (26, undef), (25, undef), (24, undef), (23, undef), (22, .bool false), (21, .bool false), (20, undef), (19, undef), (18, undef), (17, undef), (16, .bool false), (15, .bool false), (14, undef), (13, undef), (12, undef)] ?_
  refine ge_off rfl rfl rfl (by kernel_rfl) ?_
  refine ge_off rfl rfl rfl (by kernel_rfl) ?_
  refine gb0 [25, 26, 28, 29, 30] [(38, undef), (37, undef), (36, undef), (34, .bool false), (33, .bool false)] ?_
  refine ge_off rfl rfl rfl (by kernel_rfl) ?_
  refine ge_off rfl rfl rfl (by kernel_rfl) ?_
  refine gb0 [32, 33, 34] [(0, .bool false), (41, .bool false), (40, undef)] ?_
  refine gn hK3 ?_
  have hS27 := hS13.takeN 0
  obtain rfl := si h
  exact we_ret (pr0 [.tmp 0] [.bool false] ⟨rfl, hS27⟩)

/-! punctual/mach.Check -/
abbrev mach_Check.Post (w0 : World) (r : SFault) (e : Ending) (w : World) : Prop := e = .returned (.agg #[vI r.Code, vI r.At]) ∧ St w0 w []
def mach_Check.f (K : Nat) (l0 : List SIns) : Option SFault :=
 match mach_Look.f K l0 with
 | none => none
 | some r1 =>
  some r1.2
theorem mach_Check_ok (K : Nat) (l0 : List SIns) (A0 : Option Addr) (c0 : Nat) (w0 : World) (hR0 : RdL w0 A0 l0) (hL0 : l0.length ≤ c0) (r : SFault) (h : mach_Check.f K l0 = some r) :
  Calls Try.prog 18 #[.slice A0 l0.length c0] w0 (mach_Check.Post w0 r) := by
 have hS := St.start w0
 unfold mach_Check.f at h
 refine calls_enter (n := 11) (args := [.slice A0 l0.length c0]) (fn := Try.f18) rfl rfl rfl rfl ?_
 show WE _ _ _ _ [(0, .slice A0 l0.length c0)] _
 refine ws fun K1 hK1 => ?_
 refine wr [(0, 1)] ?_
 refine gw (some 2) (.cells #[vI 0, vI 0] 29) (fun b => pP b 0) hS fun b1 w1 hx1 hS1 => ?_
 refine gn hK1 ?_
 refine ws fun K2 hK2 => ?_
 refine wr [(0, 0), (1, 1), (2, 0), (3, 0), (4, 0), (5, 1), (6, 1), (7, 2), (8, 2)] ?_
 rcases hq1 : mach_Look.f K l0 with _ | r1
 ·rw [hq1] at h; cases h
 rw [hq1] at h
 simp only [] at h
 refine gb0 [0] [(6, .slice A0 l0.length c0)] ?_
 refine ge_call (d := some 7) (f := 22) (args := #[.slice A0 l0.length c0]) (by kernel_rfl) (mach_Look_ok K l0 A0 c0 _ (hS1.rd hR0) hL0 _ hq1) ?_
 rintro _ w2 ⟨v1, m1, rfl, hS2⟩
 refine ⟨_, rfl, hS2.below, ?_⟩
 have hS3 := hS1.call hS2
 refine gb0 [2, 3, 4] [(9, .agg #[vI r1.2.Code, vI r1.2.At]), (8, .agg #[v1, .map m1]), (5, .tuple #[.agg #[v1, .map m1], .agg #[vI r1.2.Code, vI r1.2.At]])] ?_
 refine gw (some 3) (.cells #[.slice none 0 0, .map none] 60) (fun b => pP b 0) hS3 fun b2 w3 hx2 hS4 => ?_
 refine gw (some 4) (.cells #[vI 0, vI 0] 29) (fun b => pP b 0) hS4 fun b3 w4 hx3 hS5 => ?_
 obtain ⟨Z1, cz1, rfl⟩ := hS5.open 2 rfl
 have hS6 := hS5.bring 1 rfl
 refine gs b2 0 #[.slice none 0 0, .map none] 60 [(.slice Z1 r1.1.In.length cz1), .map m1] hS6 fun w5 hS7 => ?_
 have hS8 : St w0 w5 [Own.blk b2 (.cells #[(.slice Z1 r1.1.In.length cz1), .map m1] 60 (0, 0)), Own.blk b3 (.cells #[vI 0, vI 0] 29 (0, 0)), Own.of (.slice Z1 r1.1.In.length cz1) 3 r1.1.In, Own.mapv (κ := Int) (ν := Int) m1 r1.1.Close, Own.blk b1 (.cells #[vI 0, vI 0] 29 (0, 0))] := hS7
 have hS9 := hS8.bring 1 rfl
 refine gs b3 0 #[vI 0, vI 0] 29 [vI r1.2.Code, vI r1.2.At] hS9 fun w6 hS10 => ?_
 have hS11 : St w0 w6 [Own.blk b3 (.cells #[vI r1.2.Code, vI r1.2.At] 29 (0, 0)), Own.blk b2 (.cells #[(.slice Z1 r1.1.In.length cz1), .map m1] 60 (0, 0)), Own.of (.slice Z1 r1.1.In.length cz1) 3 r1.1.In, Own.mapv (κ := Int) (ν := Int) m1 r1.1.Close, Own.blk b1 (.cells #[vI 0, vI 0] 29 (0, 0))] := hS10
 refine gn hK2 ?_
 refine ws fun K3 hK3 => ?_
 refine wr [(0, 0), (1, 2)] ?_
 refine gb [0] [(10, .agg #[vI r1.2.Code, vI r1.2.At])] [.loaded ⟨b3, 0, none⟩ (vI r1.2.Code), .loaded ⟨b3, 1, none⟩ (vI r1.2.At)] ⟨hS11.c 0, hS11.c 0, trivial⟩ ?_
 have hS12 := hS11.bring 4 rfl
 refine gs b1 0 #[vI 0, vI 0] 29 [vI r1.2.Code, vI r1.2.At] hS12 fun w7 hS13 => ?_
 have hS14 : St w0 w7 [Own.blk b1 (.cells #[vI r1.2.Code, vI r1.2.At] 29 (0, 0)), Own.blk b3 (.cells #[vI r1.2.Code, vI r1.2.At] 29 (0, 0)), Own.blk b2 (.cells #[(.slice Z1 r1.1.In.length cz1), .map m1] 60 (0, 0)), Own.of (.slice Z1 r1.1.In.length cz1) 3 r1.1.In, Own.mapv (κ := Int) (ν := Int) m1 r1.1.Close] := hS13
 refine gn hK3 ?_
 have hS15 := hS14.takeN 0
 obtain rfl := si h
 exact we_ret (pr [.cell 2 29] [.agg #[vI r1.2.Code, vI r1.2.At]] [.loaded ⟨b1, 0, none⟩ (vI r1.2.Code), .loaded ⟨b1, 1, none⟩ (vI r1.2.At)] ⟨hS14.c 0, hS14.c 0, trivial⟩ ⟨rfl, hS15⟩)

/-! slices.Clone[[]punctual/api.Ins,punctual/api.Ins] -/
abbrev slices_Clone_api_Ins_api_Ins.Post (w0 : World) (r : List SIns) (e : Ending) (w : World) : Prop := ∃ (v0 : Value), e = .returned (v0) ∧ St w0 w [Own.of v0 41 r]
def slices_Clone_api_Ins_api_Ins.f (l0 : List SIns) : Option (List SIns) :=
 if 0 + l0.length ≤ 5864062014805 then
  some l0
 else
  none
theorem slices_Clone_api_Ins_api_Ins_ok (l0 : List SIns) (A0 : Option Addr) (c0 : Nat) (w0 : World) (hR0 : RdL w0 A0 l0) (hL0 : l0.length ≤ c0) (r : List SIns) (h : slices_Clone_api_Ins_api_Ins.f l0 = some r) :
  Calls Try.prog 44 #[.slice A0 l0.length c0] w0 (slices_Clone_api_Ins_api_Ins.Post w0 r) := by
 have hS := St.start w0
 unfold slices_Clone_api_Ins_api_Ins.f at h
 rcases A0 with _ | ad
 ·obtain rfl := RdL.nil_of hR0
  rw [if_pos (by decide)] at h
  refine calls_enter (n := 8) (args := [.slice none ([] : List SIns).length c0]) (fn := Try.f44) rfl rfl rfl rfl ?_
  show WE _ _ _ _ [(0, .slice none ([] : List SIns).length c0)] _
  refine ws fun K1 hK1 => ?_
  refine wr [(0, 0)] ?_
  refine gb0 [0] [(2, .slice none 0 0)] ?_
  refine gn hK1 ?_
  refine ws fun K2 hK2 => ?_
  refine ws fun K3 hK3 => ?_
  refine wr [(0, 0), (1, 0)] ?_
  refine gb0 [0, 1] [(4, .bool true), (3, .slice none (([] : List SIns).length) c0)] ?_
  refine gn hK3 ?_
  refine we_true (by kernel_rfl) ?_
  refine ws fun K4 hK4 => ?_
  refine wr [(0, 0)] ?_
  refine gb0 [0] [(2, .slice none 0 0)] ?_
  refine gn hK4 ?_
  have hS1 := hS.nil (α := SIns) 41
  obtain rfl := si h
  exact we_ret (pr0 [.tmp 2] [(.slice none 0 0)] ⟨(.slice none 0 0), rfl, hS1⟩)
 ·refine calls_enter (n := 8) (args := [.slice (some ad) l0.length c0]) (fn := Try.f44) rfl rfl rfl rfl ?_
  show WE _ _ _ _ [(0, .slice (some ad) l0.length c0)] _
  refine ws fun K5 hK5 => ?_
  refine wr [(0, 0)] ?_
  refine gb0 [0] [(2, .slice none 0 0)] ?_
  refine gn hK5 ?_
  refine ws fun K6 hK6 => ?_
  refine ws fun K7 hK7 => ?_
  refine wr [(0, 0), (1, 0)] ?_
  refine gb0 [0, 1] [(4, .bool false), (3, .slice (some ad) l0.length c0)] ?_
  refine gn hK7 ?_
  refine we_false (by kernel_rfl) ?_
  refine we_skip fun a hF => hK6 _ _ ?_ a hF
  refine ws fun K8 hK8 => ?_
  refine wr [(0, 1), (1, 0), (2, 2), (3, 0)] ?_
  refine gw (some 5) (.cells #[] 41) (fun b => .slice (some ⟨b, 0, none⟩) 0 0) hS fun b1 w1 hx1 hS2 => ?_
  refine gb0 [1] [(6, .slice (some ad) l0.length c0)] ?_
  have hS3 := hS2.asRow (α := SIns) (c := 0) ([] : List SIns) (Nat.le_refl _) (by decide) rfl rfl
  by_cases hc1 : 0 + l0.length ≤ 5864062014805
  ·rw [if_pos hc1] at h
   refine ge_appendL (α := SIns) (m := 0) (d := 7) (t := 22) (el := 41) (bytes := 24) (c1 := c0) (A1 := (some ad)) (x := (.tmp 5)) (y := (.tmp 6)) (ty := 22) (v := (.slice (some ⟨b1, 0, none⟩) 0 0)) (z := .agg #[vI 0, vI 0, vI 0]) (l := ([] : List SIns)) (us := l0) (by kernel_rfl) (by kernel_rfl) (by kernel_rfl) (by kernel_rfl) (by kernel_rfl) rfl hS3 (hS3.rd hR0) rfl (Nat.mul_le_of_le_div _ _ _ hc1) fun v1 w2 hS4 => ?_
   have hS5 : St w0 w2 [Own.of v1 41 l0] := hS4
   refine gb0 [3] [(2, v1)] ?_
   refine gn hK8 ?_
   obtain rfl := si h
   exact we_ret (pr0 [.tmp 2] [v1] ⟨v1, rfl, hS5⟩)
  ·rw [if_neg hc1] at h
   cases h

/-! slices.Clone[[]int,int] -/
abbrev slices_Clone_int_int.Post (w0 : World) (r : List Int) (e : Ending) (w : World) : Prop := ∃ (v0 : Value), e = .returned (v0) ∧ St w0 w [Own.of v0 3 r]
def slices_Clone_int_int.f (l0 : List Int) : Option (List Int) :=
 if 0 + l0.length ≤ 17592186044416 then
  some l0
 else
  none
theorem slices_Clone_int_int_ok (l0 : List Int) (A0 : Option Addr) (c0 : Nat) (w0 : World) (hR0 : RdL w0 A0 l0) (hL0 : l0.length ≤ c0) (r : List Int) (h : slices_Clone_int_int.f l0 = some r) :
  Calls Try.prog 35 #[.slice A0 l0.length c0] w0 (slices_Clone_int_int.Post w0 r) := by
 have hS := St.start w0
 unfold slices_Clone_int_int.f at h
 rcases A0 with _ | ad
 ·obtain rfl := RdL.nil_of hR0
  rw [if_pos (by decide)] at h
  refine calls_enter (n := 8) (args := [.slice none ([] : List Int).length c0]) (fn := Try.f35) rfl rfl rfl rfl ?_
  show WE _ _ _ _ [(0, .slice none ([] : List Int).length c0)] _
  refine ws fun K1 hK1 => ?_
  refine wr [(0, 0)] ?_
  refine gb0 [0] [(2, .slice none 0 0)] ?_
  refine gn hK1 ?_
  refine ws fun K2 hK2 => ?_
  refine ws fun K3 hK3 => ?_
  refine wr [(0, 0), (1, 0)] ?_
  refine gb0 [0, 1] [(4, .bool true), (3, .slice none (([] : List Int).length) c0)] ?_
  refine gn hK3 ?_
  refine we_true (by kernel_rfl) ?_
  refine ws fun K4 hK4 => ?_
  refine wr [(0, 0)] ?_
  refine gb0 [0] [(2, .slice none 0 0)] ?_
  refine gn hK4 ?_
  have hS1 := hS.nil (α := Int) 3
  obtain rfl := si h
  exact we_ret (pr0 [.tmp 2] [(.slice none 0 0)] ⟨(.slice none 0 0), rfl, hS1⟩)
 ·refine calls_enter (n := 8) (args := [.slice (some ad) l0.length c0]) (fn := Try.f35) rfl rfl rfl rfl ?_
  show WE _ _ _ _ [(0, .slice (some ad) l0.length c0)] _
  refine ws fun K5 hK5 => ?_
  refine wr [(0, 0)] ?_
  refine gb0 [0] [(2, .slice none 0 0)] ?_
  refine gn hK5 ?_
  refine ws fun K6 hK6 => ?_
  refine ws fun K7 hK7 => ?_
  refine wr [(0, 0), (1, 0)] ?_
  refine gb0 [0, 1] [(4, .bool false), (3, .slice (some ad) l0.length c0)] ?_
  refine gn hK7 ?_
  refine we_false (by kernel_rfl) ?_
  refine we_skip fun a hF => hK6 _ _ ?_ a hF
  refine ws fun K8 hK8 => ?_
  refine wr [(0, 1), (1, 0), (2, 2), (3, 0)] ?_
  refine gw (some 5) (.cells #[] 3) (fun b => .slice (some ⟨b, 0, none⟩) 0 0) hS fun b1 w1 hx1 hS2 => ?_
  refine gb0 [1] [(6, .slice (some ad) l0.length c0)] ?_
  have hS3 := hS2.asRow (α := Int) (c := 0) ([] : List Int) (Nat.le_refl _) (by decide) rfl rfl
  by_cases hc1 : 0 + l0.length ≤ 17592186044416
  ·rw [if_pos hc1] at h
   refine ge_appendL (α := Int) (m := 0) (d := 7) (t := 23) (el := 3) (bytes := 8) (c1 := c0) (A1 := (some ad)) (x := (.tmp 5)) (y := (.tmp 6)) (ty := 23) (v := (.slice (some ⟨b1, 0, none⟩) 0 0)) (z := vI 0) (l := ([] : List Int)) (us := l0) (by kernel_rfl) (by kernel_rfl) (by kernel_rfl) (by kernel_rfl) (by kernel_rfl) rfl hS3 (hS3.rd hR0) rfl (Nat.mul_le_of_le_div _ _ _ hc1) fun v1 w2 hS4 => ?_
   have hS5 : St w0 w2 [Own.of v1 3 l0] := hS4
   refine gb0 [3] [(2, v1)] ?_
   refine gn hK8 ?_
   obtain rfl := si h
   exact we_ret (pr0 [.tmp 2] [v1] ⟨v1, rfl, hS5⟩)
  ·rw [if_neg hc1] at h
   cases h

structure SPut where
 Port : Int
 Value : Int
def SPut.eqb (x y : SPut) : Bool := ((x.Port == y.Port) && ((x.Value == y.Value) && true))
instance : Ok SPut := ⟨fun x => Ok.ok x.Port ∧ Ok.ok x.Value ∧ True⟩
instance : Flat SPut := ⟨2, fun x => [vI x.Port, vI x.Value], fun _ => rfl, fun _ => rfl, by decide⟩

structure PMachine where
 m_image : List SIns
 m_in_ : List Int
 m_vars : List Int
 m_puts : List SPut
 m_stack : List Int
 m_count : List Int
 m_at_ : Int
 m_left : Int

/-! punctual/mach.New -/
abbrev mach_New.Post (w0 : World) (r : (Option PMachine) × SFault) (e : Ending) (w : World) : Prop := match r.1 with
 | none => e = .returned (.tuple #[.pointer none, .agg #[vI r.2.Code, vI r.2.At]]) ∧ St w0 w []
 | some x => ∃ (pb : Nat) (pv0 : Value) (pv1 : Value) (pv2 : Value) (pv3 : Value) (pv4 : Value), e = .returned (.tuple #[pP pb 0, .agg #[vI r.2.Code, vI r.2.At]]) ∧ St w0 w [Own.blk pb (.cells #[pv0, pv1, pv2, pv3, pv4, vI ((x.m_count[0]?).getD 0), vI ((x.m_count[1]?).getD 0), vI ((x.m_count[2]?).getD 0), vI ((x.m_count[3]?).getD 0), vI ((x.m_count[4]?).getD 0), vI ((x.m_count[5]?).getD 0), vI ((x.m_count[6]?).getD 0), vI ((x.m_count[7]?).getD 0), vI x.m_at_, vI x.m_left] 71 (0, 0)), Own.of pv0 41 x.m_image, Own.of pv1 3 x.m_in_, Own.of pv2 3 x.m_vars, Own.of pv3 56 x.m_puts, Own.of pv4 3 x.m_stack]
def mach_New.f (K : Nat) (l0 : List SIns) (l1 : List Int) (l2 : List Int) : Option ((Option PMachine) × SFault) :=
 match mach_Check.f K l0 with
 | none => none
 | some r1 =>
  if r1.Code = 0 then
   if (l1.length : Int) = 8 then
    if (l2.length : Int) = 4 then
     match slices_Clone_api_Ins_api_Ins.f l0 with
     | none => none
     | some r2 =>
      match slices_Clone_int_int.f l2 with
      | none => none
      | some r3 =>
       match slices_Clone_int_int.f l1 with
       | none => none
       | some r4 =>
        some ((some (⟨r2, r3, r4, ([] : List SPut), ([] : List Int), ([0, 0, 0, 0, 0, 0, 0, 0] : List Int), 0, 0⟩ : PMachine)), (⟨0, 0⟩ : SFault))
    else
     some (none, (⟨3, 0⟩ : SFault))
   else
    some (none, (⟨3, 0⟩ : SFault))
  else
   some (none, r1)
theorem mach_New_ok (K : Nat) (l0 : List SIns) (A0 : Option Addr) (c0 : Nat) (l1 : List Int) (A1 : Option Addr) (c1 : Nat) (l2 : List Int) (A2 : Option Addr) (c2 : Nat) (w0 : World) (hR0 : RdL w0 A0 l0) (hL0 : l0.length ≤ c0) (hR1 : RdL w0 A1 l1) (hL1 : l1.length ≤ c1) (hR2 : RdL w0 A2 l2) (hL2 : l2.length ≤ c2) (r : (Option PMachine) × SFault) (h : mach_New.f K l0 l1 l2 = some r) :
  Calls Try.prog 25 #[.slice A0 l0.length c0, .slice A1 l1.length c1, .slice A2 l2.length c2] w0 (mach_New.Post w0 r) := by
 have hS := St.start w0
 unfold mach_New.f at h
 refine calls_enter (n := 33) (args := [.slice A0 l0.length c0, .slice A1 l1.length c1, .slice A2 l2.length c2]) (fn := Try.f25) rfl rfl rfl rfl ?_
 show WE _ _ _ _ [(0, .slice A0 l0.length c0), (1, .slice A1 l1.length c1), (2, .slice A2 l2.length c2)] _
 refine ws fun K1 hK1 => ?_
 refine wr [(0, 0), (1, 1)] ?_
 refine gb0 [0] [(6, .pointer none)] ?_
 refine gw (some 7) (.cells #[vI 0, vI 0] 29) (fun b => pP b 0) hS fun b1 w1 hx1 hS1 => ?_
 refine gn hK1 ?_
 refine ws fun K2 hK2 => ?_
 refine ws fun K3 hK3 => ?_
 refine wr [(0, 0), (1, 1), (2, 1), (3, 2)] ?_
 rcases hq1 : mach_Check.f K l0 with _ | r1
 ·rw [hq1] at h; cases h
 rw [hq1] at h
 simp only [] at h
 refine gb0 [0] [(9, .slice A0 l0.length c0)] ?_
 refine ge_call (d := some 10) (f := 18) (args := #[.slice A0 l0.length c0]) (by kernel_rfl) (mach_Check_ok K l0 A0 c0 _ (hS1.rd hR0) hL0 _ hq1) ?_
 rintro _ w2 ⟨rfl, hS2⟩
 refine ⟨_, rfl, hS2.below, ?_⟩
 have hS3 := hS1.call hS2
 refine gw (some 8) (.cells #[vI 0, vI 0] 29) (fun b => pP b 0) hS3 fun b2 w3 hx2 hS4 => ?_
 refine gs b2 0 #[vI 0, vI 0] 29 [vI r1.Code, vI r1.At] hS4 fun w4 hS5 => ?_
 have hS6 : St w0 w4 [Own.blk b2 (.cells #[vI r1.Code, vI r1.At] 29 (0, 0)), Own.blk b1 (.cells #[vI 0, vI 0] 29 (0, 0))] := hS5
 refine gn hK3 ?_
 refine ws fun K4 hK4 => ?_
 refine wr [(0, 0), (1, 0), (2, 0)] ?_
 refine gb [0, 1, 2] [(13, .bool (r1.Code != 0)), (12, vI r1.Code), (11, pP b2 0)] [.loaded ⟨b2, 0, none⟩ (vI r1.Code)] ⟨hS6.c 0, trivial⟩ ?_
 refine gn hK4 ?_
 by_cases hc1 : r1.Code = 0
 ·rw [if_pos hc1] at h
  refine wk 13 (r1.Code != 0) false (bne_eq_false_iff_eq.2 hc1) ?_
  refine we_false (by kernel_rfl) ?_
  refine we_skip fun a hF => hK2 _ _ ?_ a hF
  refine ws fun K5 hK5 => ?_
  refine ws fun K6 hK6 => ?_
  refine wr [(0, 0), (1, 0), (2, 0), (3, 0), (4, 0), (5, 0), (6, 0), (7, 0)] ?_
  refine gb0 [0, 1, 2, 3] [(18, .bool ((l1.length : Int) != 8)), (17, .bool ((l1.length : Int) != 8)), (16, vI (l1.length : Int)), (15, .slice A1 l1.length c1)] ?_
  by_cases hc2 : (l1.length : Int) = 8
  ·rw [if_pos hc2] at h
   refine gk 18 ((l1.length : Int) != 8) false (bne_eq_false_iff_eq.2 hc2) ?_
   refine gb0 [4, 5, 6, 7] [(22, .bool ((l2.length : Int) != 4)), (21, .bool ((l2.length : Int) != 4)), (20, vI (l2.length : Int)), (19, .slice A2 l2.length c2)] ?_
   refine gn hK6 ?_
   by_cases hc3 : (l2.length : Int) = 4
   ·rw [if_pos hc3] at h
    refine wk 22 ((l2.length : Int) != 4) false (bne_eq_false_iff_eq.2 hc3) ?_
    refine we_false (by kernel_rfl) ?_
    refine we_skip fun a hF => hK5 _ _ ?_ a hF
    refine ws fun K7 hK7 => ?_
    refine wr [(0, 0), (1, 1), (2, 0), (3, 1), (4, 0), (5, 1), (6, 0), (7, 1), (8, 0), (9, 0), (10, 2)] ?_
    rcases hq2 : slices_Clone_api_Ins_api_Ins.f l0 with _ | r2
    ·rw [hq2] at h; cases h
    rw [hq2] at h
    simp only [] at h
    refine gb0 [0] [(24, .slice A0 l0.length c0)] ?_
    refine ge_call (d := some 25) (f := 44) (args := #[.slice A0 l0.length c0]) (by kernel_rfl) (slices_Clone_api_Ins_api_Ins_ok l0 A0 c0 _ (hS6.rd hR0) hL0 _ hq2) ?_
    rintro _ w5 ⟨v1, rfl, hS7⟩
    refine ⟨_, rfl, hS7.below, ?_⟩
    have hS8 := hS6.call hS7
    rcases hq3 : slices_Clone_int_int.f l2 with _ | r3
    ·rw [hq3] at h; cases h
    rw [hq3] at h
    simp only [] at h
    refine gb0 [2] [(26, .slice A2 l2.length c2)] ?_
    refine ge_call (d := some 27) (f := 35) (args := #[.slice A2 l2.length c2]) (by kernel_rfl) (slices_Clone_int_int_ok l2 A2 c2 _ (hS8.rd hR2) hL2 _ hq3) ?_
    rintro _ w6 ⟨v2, rfl, hS9⟩
    refine ⟨_, rfl, hS9.below, ?_⟩
    have hS10 := hS8.call hS9
    rcases hq4 : slices_Clone_int_int.f l1 with _ | r4
    ·rw [hq4] at h; cases h
    rw [hq4] at h
    simp only [] at h
    refine gb0 [4] [(28, .slice A1 l1.length c1)] ?_
    refine ge_call (d := some 29) (f := 35) (args := #[.slice A1 l1.length c1]) (by kernel_rfl) (slices_Clone_int_int_ok l1 A1 c1 _ (hS10.rd hR1) hL1 _ hq4) ?_
    rintro _ w7 ⟨v3, rfl, hS11⟩
    refine ⟨_, rfl, hS11.below, ?_⟩
    have hS12 := hS10.call hS11
    obtain ⟨Z1, cz1, rfl⟩ := hS12.open 2 rfl
    obtain ⟨Z2, cz2, rfl⟩ := hS12.open 1 rfl
    obtain ⟨Z3, cz3, rfl⟩ := hS12.open 0 rfl
    refine gb0 [6] [(30, .agg #[(.slice Z1 r2.length cz1), (.slice Z2 r3.length cz2), (.slice Z3 r4.length cz3), .slice none 0 0, .slice none 0 0, vI 0, vI 0, vI 0, vI 0, vI 0, vI 0, vI 0, vI 0, vI 0, vI 0])] ?_
    refine gw (some 31) (.cells #[(.slice Z1 r2.length cz1), (.slice Z2 r3.length cz2), (.slice Z3 r4.length cz3), .slice none 0 0, .slice none 0 0, vI 0, vI 0, vI 0, vI 0, vI 0, vI 0, vI 0, vI 0, vI 0, vI 0] 71) (fun b => pP b 0) hS12 fun b3 w8 hx3 hS13 => ?_
    refine gb0 [8, 9] [(6, pP b3 0), (32, .agg #[vI 0, vI 0])] ?_
    have hS14 := hS13.bring 5 rfl
    refine gs b1 0 #[vI 0, vI 0] 29 [vI 0, vI 0] hS14 fun w9 hS15 => ?_
    have hS16 : St w0 w9 [Own.blk b1 (.cells #[vI 0, vI 0] 29 (0, 0)), Own.blk b3 (.cells #[(.slice Z1 r2.length cz1), (.slice Z2 r3.length cz2), (.slice Z3 r4.length cz3), .slice none 0 0, .slice none 0 0, vI 0, vI 0, vI 0, vI 0, vI 0, vI 0, vI 0, vI 0, vI 0, vI 0] 71 (0, 0)), Own.of (.slice Z3 r4.length cz3) 3 r4, Own.of (.slice Z2 r3.length cz2) 3 r3, Own.of (.slice Z1 r2.length cz1) 41 r2, Own.blk b2 (.cells #[vI r1.Code, vI r1.At] 29 (0, 0))] := hS15
    refine gn hK7 ?_
    have hS17 := hS16.nil (α := SPut) 56
    have hS18 := hS17.nil (α := Int) 3
    have hS19 := hS18.bring 1 rfl
    have hS20 := hS19.bring 4 rfl
    have hS21 := hS20.bring 5 rfl
    have hS22 := hS21.bring 6 rfl
    have hS23 := hS22.bring 6 rfl
    have hS24 := hS23.takeN 6
    obtain rfl := si h
    exact we_ret (pr [.tmp 6, .cell 7 29] [pP b3 0, .agg #[vI 0, vI 0]] [.loaded ⟨b1, 0, none⟩ (vI 0), .loaded ⟨b1, 1, none⟩ (vI 0)] ⟨hS18.c 2, hS18.c 2, trivial⟩ ⟨b3, (.slice Z1 r2.length cz1), (.slice Z2 r3.length cz2), (.slice Z3 r4.length cz3), (.slice none 0 0), (.slice none 0 0), rfl, hS24⟩)
   ·rw [if_neg hc3] at h
    refine wk 22 ((l2.length : Int) != 4) true (bne_iff_ne.2 hc3) ?_
    refine we_true (by kernel_rfl) ?_
    refine ws fun K8 hK8 => ?_
    refine wr [(0, 0), (1, 0), (2, 2)] ?_
    refine gb0 [0, 1] [(6, .pointer none), (23, .agg #[vI 3, vI 0])] ?_
    have hS25 := hS6.bring 1 rfl
    refine gs b1 0 #[vI 0, vI 0] 29 [vI 3, vI 0] hS25 fun w10 hS26 => ?_
    have hS27 : St w0 w10 [Own.blk b1 (.cells #[vI 3, vI 0] 29 (0, 0)), Own.blk b2 (.cells #[vI r1.Code, vI r1.At] 29 (0, 0))] := hS26
    refine gn hK8 ?_
    have hS28 := hS27.takeN 0
    obtain rfl := si h
    exact we_ret (pr [.tmp 6, .cell 7 29] [.pointer none, .agg #[vI 3, vI 0]] [.loaded ⟨b1, 0, none⟩ (vI 3), .loaded ⟨b1, 1, none⟩ (vI 0)] ⟨hS27.c 0, hS27.c 0, trivial⟩ ⟨rfl, hS28⟩)
  ·rw [if_neg hc2] at h
   refine gk 18 ((l1.length : Int) != 8) true (bne_iff_ne.2 hc2) ?_
   refine gb0 [4, 5, 6, 7] [(22, .bool true), (21, undef), (20, undef), (19, undef)] ?_
   refine gn hK6 ?_
   refine we_true (by kernel_rfl) ?_
   refine ws fun K9 hK9 => ?_
   refine wr [(0, 0), (1, 0), (2, 2)] ?_
   refine gb0 [0, 1] [(6, .pointer none), (23, .agg #[vI 3, vI 0])] ?_
   have hS29 := hS6.bring 1 rfl
   refine gs b1 0 #[vI 0, vI 0] 29 [vI 3, vI 0] hS29 fun w11 hS30 => ?_
   have hS31 : St w0 w11 [Own.blk b1 (.cells #[vI 3, vI 0] 29 (0, 0)), Own.blk b2 (.cells #[vI r1.Code, vI r1.At] 29 (0, 0))] := hS30
   refine gn hK9 ?_
   have hS32 := hS31.takeN 0
   obtain rfl := si h
   exact we_ret (pr [.tmp 6, .cell 7 29] [.pointer none, .agg #[vI 3, vI 0]] [.loaded ⟨b1, 0, none⟩ (vI 3), .loaded ⟨b1, 1, none⟩ (vI 0)] ⟨hS31.c 0, hS31.c 0, trivial⟩ ⟨rfl, hS32⟩)
 ·rw [if_neg hc1] at h
  refine wk 13 (r1.Code != 0) true (bne_iff_ne.2 hc1) ?_
  refine we_true (by kernel_rfl) ?_
  refine ws fun K10 hK10 => ?_
  refine we_draws (by kernel_rfl) [(0, 0), (1, 0), (2, 2)] (by kernel_rfl) ?_
  have hS33 := hS6.drew
  refine gb [0, 1] [(6, .pointer none), (14, .agg #[vI r1.Code, vI r1.At])] [.loaded ⟨b2, 0, none⟩ (vI r1.Code), .loaded ⟨b2, 1, none⟩ (vI r1.At)] ⟨hS33.c 0, hS33.c 0, trivial⟩ ?_
  have hS34 := hS33.bring 1 rfl
  refine gs b1 0 #[vI 0, vI 0] 29 [vI r1.Code, vI r1.At] hS34 fun w12 hS35 => ?_
  have hS36 : St w0 w12 [Own.blk b1 (.cells #[vI r1.Code, vI r1.At] 29 (0, 0)), Own.blk b2 (.cells #[vI r1.Code, vI r1.At] 29 (0, 0))] := hS35
  refine gn hK10 ?_
  have hS37 := hS36.takeN 0
  obtain rfl := si h
  exact we_ret (pr [.tmp 6, .cell 7 29] [.pointer none, .agg #[vI r1.Code, vI r1.At]] [.loaded ⟨b1, 0, none⟩ (vI r1.Code), .loaded ⟨b1, 1, none⟩ (vI r1.At)] ⟨hS36.c 0, hS36.c 0, trivial⟩ ⟨rfl, hS37⟩)

/-! (*punctual/mach.Machine).Done -/
abbrev mach_Machine_Done.Post (w0 : World) (bp0 : Nat) (lp0_0 : List SIns) (Ap0_0 : Option Addr) (cp0_0 : Nat) (lp0_1 : List Int) (Ap0_1 : Option Addr) (cp0_1 : Nat) (lp0_2 : List Int) (Ap0_2 : Option Addr) (cp0_2 : Nat) (lp0_3 : List SPut) (Ap0_3 : Option Addr) (cp0_3 : Nat) (lp0_4 : List Int) (Ap0_4 : Option Addr) (cp0_4 : Nat) (sp0_5 : List Int) (sp0_13 : Int) (sp0_14 : Int) (LT : List Own) (r : Bool) (e : Ending) (w : World) : Prop := e = .returned (.bool r) ∧ St w0 w [Own.blk bp0 (.cells #[(.slice Ap0_0 lp0_0.length cp0_0), (.slice Ap0_1 lp0_1.length cp0_1), (.slice Ap0_2 lp0_2.length cp0_2), (.slice Ap0_3 lp0_3.length cp0_3), (.slice Ap0_4 lp0_4.length cp0_4), vI ((sp0_5[0]?).getD 0), vI ((sp0_5[1]?).getD 0), vI ((sp0_5[2]?).getD 0), vI ((sp0_5[3]?).getD 0), vI ((sp0_5[4]?).getD 0), vI ((sp0_5[5]?).getD 0), vI ((sp0_5[6]?).getD 0), vI ((sp0_5[7]?).getD 0), vI sp0_13, vI sp0_14] 71 (0, 0)), Own.of (.slice Ap0_0 lp0_0.length cp0_0) 41 lp0_0, Own.of (.slice Ap0_1 lp0_1.length cp0_1) 3 lp0_1, Own.of (.slice Ap0_2 lp0_2.length cp0_2) 3 lp0_2, Own.of (.slice Ap0_3 lp0_3.length cp0_3) 56 lp0_3, Own.of (.slice Ap0_4 lp0_4.length cp0_4) 3 lp0_4, Own.all LT]
def mach_Machine_Done.f (lp0_0 : List SIns) (lp0_1 : List Int) (lp0_2 : List Int) (lp0_3 : List SPut) (lp0_4 : List Int) (sp0_5 : List Int) (sp0_13 : Int) (sp0_14 : Int) : Bool :=
 (sp0_13 == (lp0_0.length : Int))
theorem mach_Machine_Done_ok (bp0 : Nat) (lp0_0 : List SIns) (Ap0_0 : Option Addr) (cp0_0 : Nat) (lp0_1 : List Int) (Ap0_1 : Option Addr) (cp0_1 : Nat) (lp0_2 : List Int) (Ap0_2 : Option Addr) (cp0_2 : Nat) (lp0_3 : List SPut) (Ap0_3 : Option Addr) (cp0_3 : Nat) (lp0_4 : List Int) (Ap0_4 : Option Addr) (cp0_4 : Nat) (sp0_5 : List Int) (sp0_13 : Int) (sp0_14 : Int) (w0 wE : World) (LT : List Own) (hS : St w0 wE [Own.blk bp0 (.cells #[(.slice Ap0_0 lp0_0.length cp0_0), (.slice Ap0_1 lp0_1.length cp0_1), (.slice Ap0_2 lp0_2.length cp0_2), (.slice Ap0_3 lp0_3.length cp0_3), (.slice Ap0_4 lp0_4.length cp0_4), vI ((sp0_5[0]?).getD 0), vI ((sp0_5[1]?).getD 0), vI ((sp0_5[2]?).getD 0), vI ((sp0_5[3]?).getD 0), vI ((sp0_5[4]?).getD 0), vI ((sp0_5[5]?).getD 0), vI ((sp0_5[6]?).getD 0), vI ((sp0_5[7]?).getD 0), vI sp0_13, vI sp0_14] 71 (0, 0)), Own.of (.slice Ap0_0 lp0_0.length cp0_0) 41 lp0_0, Own.of (.slice Ap0_1 lp0_1.length cp0_1) 3 lp0_1, Own.of (.slice Ap0_2 lp0_2.length cp0_2) 3 lp0_2, Own.of (.slice Ap0_3 lp0_3.length cp0_3) 56 lp0_3, Own.of (.slice Ap0_4 lp0_4.length cp0_4) 3 lp0_4, Own.all LT]) (r : Bool) (h : mach_Machine_Done.f lp0_0 lp0_1 lp0_2 lp0_3 lp0_4 sp0_5 sp0_13 sp0_14 = r) :
  Calls Try.prog 26 #[pP bp0 0] wE (mach_Machine_Done.Post w0 bp0 lp0_0 Ap0_0 cp0_0 lp0_1 Ap0_1 cp0_1 lp0_2 Ap0_2 cp0_2 lp0_3 Ap0_3 cp0_3 lp0_4 Ap0_4 cp0_4 sp0_5 sp0_13 sp0_14 LT r) := by
 unfold mach_Machine_Done.f at h
 refine calls_enter (n := 13) (args := [pP bp0 0]) (fn := Try.f26) rfl rfl rfl rfl ?_
 show WE _ _ _ _ [(0, pP bp0 0)] _
 refine ws fun K1 hK1 => ?_
 refine wr [(0, 0)] ?_
 refine gb0 [0] [(2, .bool false)] ?_
 refine gn hK1 ?_
 refine ws fun K2 hK2 => ?_
 refine we_draws (by kernel_rfl) [(0, 0), (1, 0), (2, 0), (3, 0), (4, 0), (5, 0), (6, 0), (7, 0), (8, 0), (9, 0), (10, 0)] (by kernel_rfl) ?_
 have hS1 := hS.drew
 refine gb [0, 1, 2, 3, 4, 5, 6, 7, 8, 9, 10] [(2, .bool (sp0_13 == (lp0_0.length : Int))), (12, .bool (sp0_13 == (lp0_0.length : Int))), (11, vI (lp0_0.length : Int)), (10, (.slice Ap0_0 lp0_0.length cp0_0)), (9, pP bp0 0), (8, pP bp0 0), (7, pP bp0 0), (6, vI sp0_13), (5, pP bp0 13), (4, pP bp0 0), (3, pP bp0 0)] [.loaded ⟨bp0, 13, none⟩ (vI sp0_13), .loaded ⟨bp0, 0, none⟩ ((.slice Ap0_0 lp0_0.length cp0_0))] ⟨hS1.c 0, hS1.c 0, trivial⟩ ?_
 refine gn hK2 ?_
 have hS2 := hS1.bring 6 rfl
 have hS3 := hS2.bring 6 rfl
 have hS4 := hS3.bring 6 rfl
 have hS5 := hS4.bring 6 rfl
 have hS6 := hS5.bring 6 rfl
 have hS7 := hS6.bring 6 rfl
 have hS8 := hS7.bring 6 rfl
 subst h
 exact we_ret (pr0 [.tmp 2] [.bool (sp0_13 == (lp0_0.length : Int))] ⟨rfl, hS8⟩)

/-! (*punctual/mach.Machine).over -/
abbrev mach_Machine_over.Post (w0 : World) (bp0 : Nat) (lp0_0 : List SIns) (Ap0_0 : Option Addr) (cp0_0 : Nat) (lp0_1 : List Int) (Ap0_1 : Option Addr) (cp0_1 : Nat) (lp0_2 : List Int) (Ap0_2 : Option Addr) (cp0_2 : Nat) (lp0_3 : List SPut) (Ap0_3 : Option Addr) (cp0_3 : Nat) (lp0_4 : List Int) (Ap0_4 : Option Addr) (cp0_4 : Nat) (sp0_5 : List Int) (sp0_13 : Int) (sp0_14 : Int) (x1 : SIns) (LT : List Own) (r : Bool) (e : Ending) (w : World) : Prop := e = .returned (.bool r) ∧ St w0 w [Own.blk bp0 (.cells #[(.slice Ap0_0 lp0_0.length cp0_0), (.slice Ap0_1 lp0_1.length cp0_1), (.slice Ap0_2 lp0_2.length cp0_2), (.slice Ap0_3 lp0_3.length cp0_3), (.slice Ap0_4 lp0_4.length cp0_4), vI ((sp0_5[0]?).getD 0), vI ((sp0_5[1]?).getD 0), vI ((sp0_5[2]?).getD 0), vI ((sp0_5[3]?).getD 0), vI ((sp0_5[4]?).getD 0), vI ((sp0_5[5]?).getD 0), vI ((sp0_5[6]?).getD 0), vI ((sp0_5[7]?).getD 0), vI sp0_13, vI sp0_14] 71 (0, 0)), Own.of (.slice Ap0_0 lp0_0.length cp0_0) 41 lp0_0, Own.of (.slice Ap0_1 lp0_1.length cp0_1) 3 lp0_1, Own.of (.slice Ap0_2 lp0_2.length cp0_2) 3 lp0_2, Own.of (.slice Ap0_3 lp0_3.length cp0_3) 56 lp0_3, Own.of (.slice Ap0_4 lp0_4.length cp0_4) 3 lp0_4, Own.all LT]
def mach_Machine_over.f (lp0_0 : List SIns) (lp0_1 : List Int) (lp0_2 : List Int) (lp0_3 : List SPut) (lp0_4 : List Int) (sp0_5 : List Int) (sp0_13 : Int) (sp0_14 : Int) (x1 : SIns) : Option Bool :=
 if x1.Op = 12 then
  if 0 ≤ (IntKind.i64.wrap ((lp0_4.length : Int) - 1)) then
   match lp0_4[(IntKind.i64.wrap ((lp0_4.length : Int) - 1)).toNat]? with
   | none => none
   | some e1 =>
    some (e1 == 0)
  else
   none
 else
  if x1.Op = 14 then
   if 0 ≤ x1.A then
    match (arrN 8 sp0_5)[(x1.A).toNat]? with
    | none => none
    | some e2 =>
     some (decide (e2 > 0))
   else
    none
  else
   some false
theorem mach_Machine_over_ok (bp0 : Nat) (lp0_0 : List SIns) (Ap0_0 : Option Addr) (cp0_0 : Nat) (lp0_1 : List Int) (Ap0_1 : Option Addr) (cp0_1 : Nat) (lp0_2 : List Int) (Ap0_2 : Option Addr) (cp0_2 : Nat) (lp0_3 : List SPut) (Ap0_3 : Option Addr) (cp0_3 : Nat) (lp0_4 : List Int) (Ap0_4 : Option Addr) (cp0_4 : Nat) (sp0_5 : List Int) (sp0_13 : Int) (sp0_14 : Int) (x1 : SIns) (w0 wE : World) (LT : List Own) (hS : St w0 wE [Own.blk bp0 (.cells #[(.slice Ap0_0 lp0_0.length cp0_0), (.slice Ap0_1 lp0_1.length cp0_1), (.slice Ap0_2 lp0_2.length cp0_2), (.slice Ap0_3 lp0_3.length cp0_3), (.slice Ap0_4 lp0_4.length cp0_4), vI ((sp0_5[0]?).getD 0), vI ((sp0_5[1]?).getD 0), vI ((sp0_5[2]?).getD 0), vI ((sp0_5[3]?).getD 0), vI ((sp0_5[4]?).getD 0), vI ((sp0_5[5]?).getD 0), vI ((sp0_5[6]?).getD 0), vI ((sp0_5[7]?).getD 0), vI sp0_13, vI sp0_14] 71 (0, 0)), Own.of (.slice Ap0_0 lp0_0.length cp0_0) 41 lp0_0, Own.of (.slice Ap0_1 lp0_1.length cp0_1) 3 lp0_1, Own.of (.slice Ap0_2 lp0_2.length cp0_2) 3 lp0_2, Own.of (.slice Ap0_3 lp0_3.length cp0_3) 56 lp0_3, Own.of (.slice Ap0_4 lp0_4.length cp0_4) 3 lp0_4, Own.all LT]) (r : Bool) (h : mach_Machine_over.f lp0_0 lp0_1 lp0_2 lp0_3 lp0_4 sp0_5 sp0_13 sp0_14 x1 = some r) :
  Calls Try.prog 45 #[pP bp0 0, .agg #[vI x1.Op, vI x1.A, vI x1.B]] wE (mach_Machine_over.Post w0 bp0 lp0_0 Ap0_0 cp0_0 lp0_1 Ap0_1 cp0_1 lp0_2 Ap0_2 cp0_2 lp0_3 Ap0_3 cp0_3 lp0_4 Ap0_4 cp0_4 sp0_5 sp0_13 sp0_14 x1 LT r) := by
 unfold mach_Machine_over.f at h
 refine calls_enter (n := 32) (args := [pP bp0 0, .agg #[vI x1.Op, vI x1.A, vI x1.B]]) (fn := Try.f45) rfl rfl rfl rfl ?_
 show WE _ _ _ _ [(0, pP bp0 0), (1, .agg #[vI x1.Op, vI x1.A, vI x1.B])] _
 refine ws fun K1 hK1 => ?_
 refine wr [(0, 1), (1, 0)] ?_
 refine gw (some 3) (.cells #[vI x1.Op, vI x1.A, vI x1.B] 41) (fun b => pP b 0) hS fun b1 w1 hx1 hS1 => ?_
 refine gb0 [1] [(4, .bool false)] ?_
 refine gn hK1 ?_
 refine ws fun K2 hK2 => ?_
 refine ws fun K3 hK3 => ?_
 refine wr [(0, 0), (1, 0)] ?_
 refine gb [0, 1] [(6, vI x1.Op), (5, pP b1 0)] [.loaded ⟨b1, 0, none⟩ (vI x1.Op)] ⟨hS1.c 0, trivial⟩ ?_
 refine gn hK3 ?_
 refine we_block ?_
 refine ws fun K4 hK4 => ?_
 refine wr [(0, 0), (1, 0)] ?_
 refine gb0 [0, 1] [(7, .bool (x1.Op == 12)), (8, .bool (x1.Op == 12))] ?_
 refine gn hK4 ?_
 by_cases hc1 : x1.Op = 12
 ·rw [if_pos hc1] at h
  refine wk 7 (x1.Op == 12) true (beq_iff_eq.2 hc1) ?_
  refine we_true (by kernel_rfl) ?_
  refine ws fun K5 hK5 => ?_
  refine we_draws (by kernel_rfl) [(0, 0), (1, 0), (2, 0), (3, 0), (4, 0), (5, 0), (6, 0), (7, 0), (8, 0), (9, 0), (10, 0), (11, 0), (12, 0), (13, 0)] (by kernel_rfl) ?_
  have hS2 := hS1.drew
  refine gb [0, 1, 2, 3, 4, 5, 6, 7, 8, 9] [(18, vI (IntKind.i64.wrap ((lp0_4.length : Int) - 1))), (17, vI (lp0_4.length : Int)), (16, (.slice Ap0_4 lp0_4.length cp0_4)), (15, pP bp0 4), (14, pP bp0 0), (13, pP bp0 0), (12, (.slice Ap0_4 lp0_4.length cp0_4)), (11, pP bp0 4), (10, pP bp0 0), (9, pP bp0 0)] [.loaded ⟨bp0, 4, none⟩ ((.slice Ap0_4 lp0_4.length cp0_4)), .loaded ⟨bp0, 4, none⟩ ((.slice Ap0_4 lp0_4.length cp0_4))] ⟨hS2.c 1, hS2.c 1, trivial⟩ ?_
  by_cases hc2 : 0 ≤ (IntKind.i64.wrap ((lp0_4.length : Int) - 1))
  ·rw [if_pos hc2] at h
   rcases hx2 : lp0_4[(IntKind.i64.wrap ((lp0_4.length : Int) - 1)).toNat]? with _ | e1
   ·rw [hx2] at h; cases h
   rw [hx2] at h
   simp only [] at h
   refine gi 19 0 23 3 1 lp0_4.length cp0_4 (.tmp 12) (.tmp 18) Ap0_4 .i64 (IntKind.i64.wrap ((lp0_4.length : Int) - 1)) ((IntKind.i64.wrap ((lp0_4.length : Int) - 1)).toNat) ((hS2.rdAt 6 rfl).eqSome (pos_of_get hx2)) (Int.toNat_of_nonneg hc2).symm (lt_of_get hx2) ?_
   refine gb [11, 12, 13] [(4, .bool (e1 == 0)), (21, .bool (e1 == 0)), (20, vI e1)] [.loaded ⟨blkOf Ap0_4, offOf Ap0_4 + ((IntKind.i64.wrap ((lp0_4.length : Int) - 1)).toNat) * 1, none⟩ (vI e1)] ⟨RdL.cell (j := 0) (hS2.rdAt 6 rfl) hx2 rfl, trivial⟩ ?_
   refine gn hK5 ?_
   have hS3 := hS2.bring 7 rfl
   have hS4 := hS3.bring 7 rfl
   have hS5 := hS4.bring 7 rfl
   have hS6 := hS5.bring 7 rfl
   have hS7 := hS6.bring 7 rfl
   have hS8 := hS7.bring 7 rfl
   have hS9 := hS8.bring 7 rfl
   have hS10 := hS9.takeN 7
   obtain rfl := si h
   exact we_ret (pr0 [.tmp 4] [.bool (e1 == 0)] ⟨rfl, hS10⟩)
  ·rw [if_neg hc2] at h
   cases h
 ·rw [if_neg hc1] at h
  refine wk 7 (x1.Op == 12) false (beq_eq_false_iff_ne.2 hc1) ?_
  refine we_false (by kernel_rfl) ?_
  refine ws fun K6 hK6 => ?_
  refine wr [(0, 0), (1, 0)] ?_
  refine gb0 [0, 1] [(22, .bool (x1.Op == 14)), (23, .bool (x1.Op == 14))] ?_
  refine gn hK6 ?_
  by_cases hc3 : x1.Op = 14
  ·rw [if_pos hc3] at h
   refine wk 22 (x1.Op == 14) true (beq_iff_eq.2 hc3) ?_
   refine we_true (by kernel_rfl) ?_
   refine ws fun K7 hK7 => ?_
   refine we_draws (by kernel_rfl) [(0, 0), (1, 0), (2, 0), (3, 0), (4, 0), (5, 0), (6, 0), (7, 0), (8, 0)] (by kernel_rfl) ?_
   have hS11 := hS1.drew
   refine gb [0, 1, 2, 3, 4] [(28, pP bp0 5), (27, pP bp0 0), (26, vI x1.A), (25, pP b1 1), (24, pP bp0 0)] [.loaded ⟨b1, 1, none⟩ (vI x1.A)] ⟨hS11.c 0, trivial⟩ ?_
   by_cases hc4 : 0 ≤ x1.A
   ·rw [if_pos hc4] at h
    rcases hx3 : (arrN 8 sp0_5)[(x1.A).toNat]? with _ | e2
    ·rw [hx3] at h; cases h
    rw [hx3] at h
    simp only [] at h
    refine ge_arrAddr (d := 29) (ty := 0) (t := 69) (len := 8) (el := 3) (b := bp0) (o0 := 5) (sz := 1) (x := (.tmp 28)) (y := (.tmp 26)) (k' := .i64) (j := x1.A) (jn := ((x1.A).toNat)) (by kernel_rfl) (by kernel_rfl) (by kernel_rfl) (by kernel_rfl) (by kernel_rfl) (Int.toNat_of_nonneg hc4).symm (lt_of_get hx3) ?_
    refine gb [6, 7, 8] [(4, .bool (decide (e2 > 0))), (31, .bool (decide (e2 > 0))), (30, vI e2)] [.loaded ⟨bp0, 5 + ((x1.A).toNat) * 1, none⟩ (vI e2)] ⟨hS11.cellA 1 (pre := [(.slice Ap0_0 lp0_0.length cp0_0), (.slice Ap0_1 lp0_1.length cp0_1), (.slice Ap0_2 lp0_2.length cp0_2), (.slice Ap0_3 lp0_3.length cp0_3), (.slice Ap0_4 lp0_4.length cp0_4)]) (post := [vI sp0_13, vI sp0_14]) (l := (arrN 8 sp0_5)) rfl rfl rfl hx3 rfl rfl, trivial⟩ ?_
    refine gn hK7 ?_
    have hS12 := hS11.bring 7 rfl
    have hS13 := hS12.bring 7 rfl
    have hS14 := hS13.bring 7 rfl
    have hS15 := hS14.bring 7 rfl
    have hS16 := hS15.bring 7 rfl
    have hS17 := hS16.bring 7 rfl
    have hS18 := hS17.bring 7 rfl
    have hS19 := hS18.takeN 7
    obtain rfl := si h
    exact we_ret (pr0 [.tmp 4] [.bool (decide (e2 > 0))] ⟨rfl, hS19⟩)
   ·rw [if_neg hc4] at h
    cases h
  ·rw [if_neg hc3] at h
   refine wk 22 (x1.Op == 14) false (beq_eq_false_iff_ne.2 hc3) ?_
   refine we_false (by kernel_rfl) ?_
   refine we_skip fun a hF => hK2 _ _ ?_ a hF
   refine ws fun K8 hK8 => ?_
   refine wr [(0, 0)] ?_
   refine gb0 [0] [(4, .bool false)] ?_
   refine gn hK8 ?_
   have hS20 := hS1.bring 7 rfl
   have hS21 := hS20.bring 7 rfl
   have hS22 := hS21.bring 7 rfl
   have hS23 := hS22.bring 7 rfl
   have hS24 := hS23.bring 7 rfl
   have hS25 := hS24.bring 7 rfl
   have hS26 := hS25.bring 7 rfl
   have hS27 := hS26.takeN 7
   obtain rfl := si h
   exact we_ret (pr0 [.tmp 4] [.bool false] ⟨rfl, hS27⟩)

/-! (*punctual/mach.Machine).pop -/
abbrev mach_Machine_pop.Post (w0 : World) (bp0 : Nat) (lp0_0 : List SIns) (Ap0_0 : Option Addr) (cp0_0 : Nat) (lp0_1 : List Int) (Ap0_1 : Option Addr) (cp0_1 : Nat) (lp0_2 : List Int) (Ap0_2 : Option Addr) (cp0_2 : Nat) (lp0_3 : List SPut) (Ap0_3 : Option Addr) (cp0_3 : Nat) (lp0_4 : List Int) (Ap0_4 : Option Addr) (cp0_4 : Nat) (sp0_5 : List Int) (sp0_13 : Int) (sp0_14 : Int) (LT : List Own) (r : Int × (List Int)) (e : Ending) (w : World) : Prop := ∃ (nbp0_4 : Value), e = .returned (vI r.1) ∧ St w0 w [Own.blk bp0 (.cells #[(.slice Ap0_0 lp0_0.length cp0_0), (.slice Ap0_1 lp0_1.length cp0_1), (.slice Ap0_2 lp0_2.length cp0_2), (.slice Ap0_3 lp0_3.length cp0_3), nbp0_4, vI ((sp0_5[0]?).getD 0), vI ((sp0_5[1]?).getD 0), vI ((sp0_5[2]?).getD 0), vI ((sp0_5[3]?).getD 0), vI ((sp0_5[4]?).getD 0), vI ((sp0_5[5]?).getD 0), vI ((sp0_5[6]?).getD 0), vI ((sp0_5[7]?).getD 0), vI sp0_13, vI sp0_14] 71 (0, 0)), Own.of (.slice Ap0_0 lp0_0.length cp0_0) 41 lp0_0, Own.of (.slice Ap0_1 lp0_1.length cp0_1) 3 lp0_1, Own.of (.slice Ap0_2 lp0_2.length cp0_2) 3 lp0_2, Own.of (.slice Ap0_3 lp0_3.length cp0_3) 56 lp0_3, Own.of nbp0_4 3 r.2, Own.all LT]
def mach_Machine_pop.f (lp0_0 : List SIns) (lp0_1 : List Int) (lp0_2 : List Int) (lp0_3 : List SPut) (lp0_4 : List Int) (sp0_5 : List Int) (sp0_13 : Int) (sp0_14 : Int) : Option (Int × (List Int)) :=
 if 0 ≤ (IntKind.i64.wrap ((lp0_4.length : Int) - 1)) then
  match lp0_4[(IntKind.i64.wrap ((lp0_4.length : Int) - 1)).toNat]? with
  | none => none
  | some e1 =>
   if ((IntKind.i64.wrap ((lp0_4.length : Int) - 1)).toNat) ≤ lp0_4.length then
    some (e1, (lp0_4.take ((IntKind.i64.wrap ((lp0_4.length : Int) - 1)).toNat)))
   else
    none
 else
  none
theorem mach_Machine_pop_ok (bp0 : Nat) (lp0_0 : List SIns) (Ap0_0 : Option Addr) (cp0_0 : Nat) (lp0_1 : List Int) (Ap0_1 : Option Addr) (cp0_1 : Nat) (lp0_2 : List Int) (Ap0_2 : Option Addr) (cp0_2 : Nat) (lp0_3 : List SPut) (Ap0_3 : Option Addr) (cp0_3 : Nat) (lp0_4 : List Int) (Ap0_4 : Option Addr) (cp0_4 : Nat) (sp0_5 : List Int) (sp0_13 : Int) (sp0_14 : Int) (w0 wE : World) (LT : List Own) (hS : St w0 wE [Own.blk bp0 (.cells #[(.slice Ap0_0 lp0_0.length cp0_0), (.slice Ap0_1 lp0_1.length cp0_1), (.slice Ap0_2 lp0_2.length cp0_2), (.slice Ap0_3 lp0_3.length cp0_3), (.slice Ap0_4 lp0_4.length cp0_4), vI ((sp0_5[0]?).getD 0), vI ((sp0_5[1]?).getD 0), vI ((sp0_5[2]?).getD 0), vI ((sp0_5[3]?).getD 0), vI ((sp0_5[4]?).getD 0), vI ((sp0_5[5]?).getD 0), vI ((sp0_5[6]?).getD 0), vI ((sp0_5[7]?).getD 0), vI sp0_13, vI sp0_14] 71 (0, 0)), Own.of (.slice Ap0_0 lp0_0.length cp0_0) 41 lp0_0, Own.of (.slice Ap0_1 lp0_1.length cp0_1) 3 lp0_1, Own.of (.slice Ap0_2 lp0_2.length cp0_2) 3 lp0_2, Own.of (.slice Ap0_3 lp0_3.length cp0_3) 56 lp0_3, Own.of (.slice Ap0_4 lp0_4.length cp0_4) 3 lp0_4, Own.all LT]) (r : Int × (List Int)) (h : mach_Machine_pop.f lp0_0 lp0_1 lp0_2 lp0_3 lp0_4 sp0_5 sp0_13 sp0_14 = some r) :
  Calls Try.prog 57 #[pP bp0 0] wE (mach_Machine_pop.Post w0 bp0 lp0_0 Ap0_0 cp0_0 lp0_1 Ap0_1 cp0_1 lp0_2 Ap0_2 cp0_2 lp0_3 Ap0_3 cp0_3 lp0_4 Ap0_4 cp0_4 sp0_5 sp0_13 sp0_14 LT r) := by
 unfold mach_Machine_pop.f at h
 refine calls_enter (n := 31) (args := [pP bp0 0]) (fn := Try.f57) rfl rfl rfl rfl ?_
 show WE _ _ _ _ [(0, pP bp0 0)] _
 refine ws fun K1 hK1 => ?_
 refine wr [(0, 0)] ?_
 refine gb0 [0] [(2, vI 0)] ?_
 refine gn hK1 ?_
 refine ws fun K2 hK2 => ?_
 refine we_draws (by kernel_rfl) [(0, 0), (1, 0), (2, 0), (3, 0), (4, 0), (5, 0), (6, 0), (7, 0), (8, 0), (9, 0), (10, 0), (11, 0), (12, 0)] (by kernel_rfl) ?_
 have hS1 := hS.drew
 refine gb [0, 1, 2, 3, 4, 5, 6, 7, 8, 9] [(13, vI (IntKind.i64.wrap ((lp0_4.length : Int) - 1))), (12, vI (lp0_4.length : Int)), (11, (.slice Ap0_4 lp0_4.length cp0_4)), (10, pP bp0 4), (9, pP bp0 0), (8, pP bp0 0), (7, (.slice Ap0_4 lp0_4.length cp0_4)), (6, pP bp0 4), (5, pP bp0 0), (4, pP bp0 0)] [.loaded ⟨bp0, 4, none⟩ ((.slice Ap0_4 lp0_4.length cp0_4)), .loaded ⟨bp0, 4, none⟩ ((.slice Ap0_4 lp0_4.length cp0_4))] ⟨hS1.c 0, hS1.c 0, trivial⟩ ?_
 by_cases hc1 : 0 ≤ (IntKind.i64.wrap ((lp0_4.length : Int) - 1))
 ·rw [if_pos hc1] at h
  rcases hx1 : lp0_4[(IntKind.i64.wrap ((lp0_4.length : Int) - 1)).toNat]? with _ | e1
  ·rw [hx1] at h; cases h
  rw [hx1] at h
  simp only [] at h
  refine gi 14 0 23 3 1 lp0_4.length cp0_4 (.tmp 7) (.tmp 13) Ap0_4 .i64 (IntKind.i64.wrap ((lp0_4.length : Int) - 1)) ((IntKind.i64.wrap ((lp0_4.length : Int) - 1)).toNat) ((hS1.rdAt 5 rfl).eqSome (pos_of_get hx1)) (Int.toNat_of_nonneg hc1).symm (lt_of_get hx1) ?_
  refine gb [11, 12] [(3, vI e1), (15, vI e1)] [.loaded ⟨blkOf Ap0_4, offOf Ap0_4 + ((IntKind.i64.wrap ((lp0_4.length : Int) - 1)).toNat) * 1, none⟩ (vI e1)] ⟨RdL.cell (j := 0) (hS1.rdAt 5 rfl) hx1 rfl, trivial⟩ ?_
  refine gn hK2 ?_
  refine ws fun K3 hK3 => ?_
  refine we_orders3 (by kernel_rfl) [(4, [⟨bp0, 4, none⟩], [], []), (8, [⟨bp0, 4, none⟩], [], [])] (.vals [0] (.vals [1] (.vals [2] (.vals [3] (.vals [4] (.vals [5] (.vals [6] (.vals [7] (.vals [8] (.vals [9] (.vals [10] (.vals [11] (.vals [12] (.vals [13] (.alt 14 2 .fin .nomore))))))))))))))) (by kernel_rfl) (by kernel_rfl) ?_
  have hS2 := hS1.drew
  refine go3_batch [0, 1, 2, 3] (ans := []) (vs := [(19, pP bp0 4), (18, pP bp0 0), (17, pP bp0 0), (16, pP bp0 0)]) (l := []) (by kernel_rfl) trivial mem_nil3 ?_
  refine go3_batch [4] (ans := [.val ((.slice Ap0_4 lp0_4.length cp0_4))]) (vs := [(20, (.slice Ap0_4 lp0_4.length cp0_4))]) (l := [.loaded ⟨bp0, 4, none⟩ ((.slice Ap0_4 lp0_4.length cp0_4))]) (by kernel_rfl) ⟨hS2.c 0, trivial⟩ (mem_one3 (by kernel_rfl)) ?_
  refine go3_batch [5, 6, 7] (ans := []) (vs := [(23, pP bp0 4), (22, pP bp0 0), (21, pP bp0 0)]) (l := []) (by kernel_rfl) trivial mem_nil3 ?_
  refine go3_batch [8] (ans := [.val ((.slice Ap0_4 lp0_4.length cp0_4))]) (vs := [(24, (.slice Ap0_4 lp0_4.length cp0_4))]) (l := [.loaded ⟨bp0, 4, none⟩ ((.slice Ap0_4 lp0_4.length cp0_4))]) (by kernel_rfl) ⟨hS2.c 0, trivial⟩ (mem_one3 (by kernel_rfl)) ?_
  refine go3_batch [9, 10] (ans := []) (vs := [(26, vI (IntKind.i64.wrap ((lp0_4.length : Int) - 1))), (25, vI (lp0_4.length : Int))]) (l := []) (by kernel_rfl) trivial mem_nil3 ?_
  by_cases hc2 : ((IntKind.i64.wrap ((lp0_4.length : Int) - 1)).toNat) ≤ lp0_4.length
  ·rw [if_pos hc2] at h
   refine go3_sliceHi (d := 27) (ty := 23) (t := 23) (el := 3) (sz := 1) (m := lp0_4.length) (c := cp0_4) (hn := ((IntKind.i64.wrap ((lp0_4.length : Int) - 1)).toNat)) (x := (.tmp 20)) (y := (.tmp 26)) (A := Ap0_4) (k' := .i64) (hi := (IntKind.i64.wrap ((lp0_4.length : Int) - 1))) (by kernel_rfl) (by kernel_rfl) (by kernel_rfl) (Int.toNat_of_nonneg hc1).symm (by kernel_rfl) (by kernel_rfl) (by have f0 := hc2; have f1 := (hS2.capAt 5 rfl); omega) ?_
   refine go3_same (t := 27) (v := .slice Ap0_4 ((IntKind.i64.wrap ((lp0_4.length : Int) - 1)).toNat) cp0_4) (v' := .slice Ap0_4 ((lp0_4.take ((IntKind.i64.wrap ((lp0_4.length : Int) - 1)).toNat)).length) cp0_4) (by kernel_rfl) (congrArg (fun z => Value.slice Ap0_4 z cp0_4) (show (IntKind.i64.wrap ((lp0_4.length : Int) - 1)).toNat = (lp0_4.take ((IntKind.i64.wrap ((lp0_4.length : Int) - 1)).toNat)).length by have f0 := hc2; have f1 := (hS2.capAt 5 rfl); simp only [List.length_take]; omega)) ?_
   refine go3_batch [12, 13] (ans := []) (vs := [(29, pP bp0 4), (28, pP bp0 0)]) (l := []) (by kernel_rfl) trivial mem_nil3 ?_
   refine go_alt3 (fun KK hKK => ?_) ?_
   ·refine gs bp0 4 #[(.slice Ap0_0 lp0_0.length cp0_0), (.slice Ap0_1 lp0_1.length cp0_1), (.slice Ap0_2 lp0_2.length cp0_2), (.slice Ap0_3 lp0_3.length cp0_3), (.slice Ap0_4 lp0_4.length cp0_4), vI ((sp0_5[0]?).getD 0), vI ((sp0_5[1]?).getD 0), vI ((sp0_5[2]?).getD 0), vI ((sp0_5[3]?).getD 0), vI ((sp0_5[4]?).getD 0), vI ((sp0_5[5]?).getD 0), vI ((sp0_5[6]?).getD 0), vI ((sp0_5[7]?).getD 0), vI sp0_13, vI sp0_14] 71 [.slice Ap0_4 ((lp0_4.take ((IntKind.i64.wrap ((lp0_4.length : Int) - 1)).toNat)).length) cp0_4] hS2 fun w1 hS3 => ?_
    have hS4 : St w0 w1 [Own.blk bp0 (.cells #[(.slice Ap0_0 lp0_0.length cp0_0), (.slice Ap0_1 lp0_1.length cp0_1), (.slice Ap0_2 lp0_2.length cp0_2), (.slice Ap0_3 lp0_3.length cp0_3), .slice Ap0_4 ((lp0_4.take ((IntKind.i64.wrap ((lp0_4.length : Int) - 1)).toNat)).length) cp0_4, vI ((sp0_5[0]?).getD 0), vI ((sp0_5[1]?).getD 0), vI ((sp0_5[2]?).getD 0), vI ((sp0_5[3]?).getD 0), vI ((sp0_5[4]?).getD 0), vI ((sp0_5[5]?).getD 0), vI ((sp0_5[6]?).getD 0), vI ((sp0_5[7]?).getD 0), vI sp0_13, vI sp0_14] 71 (0, 0)), Own.of (.slice Ap0_0 lp0_0.length cp0_0) 41 lp0_0, Own.of (.slice Ap0_1 lp0_1.length cp0_1) 3 lp0_1, Own.of (.slice Ap0_2 lp0_2.length cp0_2) 3 lp0_2, Own.of (.slice Ap0_3 lp0_3.length cp0_3) 56 lp0_3, Own.of (.slice Ap0_4 lp0_4.length cp0_4) 3 lp0_4, Own.all LT] := hS3
    refine ge_nil fun a hF => hKK _ _ (RS.of2 (l := []) (by kernel_rfl) trivial trivial) ?_ a hF
    refine go_fin3 fun a hF => hK3 _ _ ?_ a hF
    refine ws fun K4 hK4 => ?_
    refine wr [(0, 0), (1, 0)] ?_
    refine gb0 [0, 1] [(2, vI e1), (30, vI e1)] ?_
    refine gn hK4 ?_
    have hS5 := hS4.bring 5 rfl
    have hS6 := hS5.shrink ((IntKind.i64.wrap ((lp0_4.length : Int) - 1)).toNat)
    have hS7 := hS6.bring 6 rfl
    have hS8 := hS7.bring 1 rfl
    have hS9 := hS8.bring 6 rfl
    have hS10 := hS9.bring 6 rfl
    have hS11 := hS10.bring 6 rfl
    have hS12 := hS11.bring 6 rfl
    have hS13 := hS12.bring 6 rfl
    obtain rfl := si h
    exact we_ret (pr0 [.tmp 2] [vI e1] ⟨(.slice Ap0_4 (lp0_4.take ((IntKind.i64.wrap ((lp0_4.length : Int) - 1)).toNat)).length cp0_4), rfl, hS13⟩)
   exact go_nomore3
  ·rw [if_neg hc2] at h
   cases h
 ·rw [if_neg hc1] at h
  cases h

/-! (*punctual/mach.Machine).do$1 -/
abbrev mach_Machine_do_1.Post (w0 : World) (r : Int) (e : Ending) (w : World) : Prop := e = .returned (vI r) ∧ St w0 w []
def mach_Machine_do_1.f (x0 : Int) (x1 : Int) : Int :=
 IntKind.i64.wrap (x0 + x1)
theorem mach_Machine_do_1_ok (x0 : Int) (x1 : Int) (w0 : World) (r : Int) (h : mach_Machine_do_1.f x0 x1 = r) :
  Calls Try.prog 59 #[vI x0, vI x1] w0 (mach_Machine_do_1.Post w0 r) := by
 have hS := St.start w0
 unfold mach_Machine_do_1.f at h
 refine calls_enter (n := 8) (args := [vI x0, vI x1]) (fn := Try.f59) rfl rfl rfl rfl ?_
 show WE _ _ _ _ [(0, vI x0), (1, vI x1)] _
 refine ws fun K1 hK1 => ?_
 refine wr [(0, 0)] ?_
 refine gb0 [0] [(4, vI 0)] ?_
 refine gn hK1 ?_
 refine ws fun K2 hK2 => ?_
 refine wr [(0, 0), (1, 0), (2, 0), (3, 0)] ?_
 refine gb0 [0, 1, 2, 3] [(4, vI (IntKind.i64.wrap (x0 + x1))), (7, vI (IntKind.i64.wrap (x0 + x1))), (6, vI x1), (5, vI x0)] ?_
 refine gn hK2 ?_
 subst h
 exact we_ret (pr0 [.tmp 4] [vI (IntKind.i64.wrap (x0 + x1))] ⟨rfl, hS⟩)

/-! (*punctual/mach.Machine).two -/
abbrev mach_Machine_two.Post (w0 : World) (bp0 : Nat) (lp0_0 : List SIns) (Ap0_0 : Option Addr) (cp0_0 : Nat) (lp0_1 : List Int) (Ap0_1 : Option Addr) (cp0_1 : Nat) (lp0_2 : List Int) (Ap0_2 : Option Addr) (cp0_2 : Nat) (lp0_3 : List SPut) (Ap0_3 : Option Addr) (cp0_3 : Nat) (lp0_4 : List Int) (Ap0_4 : Option Addr) (cp0_4 : Nat) (sp0_5 : List Int) (sp0_13 : Int) (sp0_14 : Int) (LT : List Own) (r : List Int) (e : Ending) (w : World) : Prop := ∃ (nbp0_4 : Value), e = .returned (.tuple #[]) ∧ St w0 w [Own.blk bp0 (.cells #[(.slice Ap0_0 lp0_0.length cp0_0), (.slice Ap0_1 lp0_1.length cp0_1), (.slice Ap0_2 lp0_2.length cp0_2), (.slice Ap0_3 lp0_3.length cp0_3), nbp0_4, vI ((sp0_5[0]?).getD 0), vI ((sp0_5[1]?).getD 0), vI ((sp0_5[2]?).getD 0), vI ((sp0_5[3]?).getD 0), vI ((sp0_5[4]?).getD 0), vI ((sp0_5[5]?).getD 0), vI ((sp0_5[6]?).getD 0), vI ((sp0_5[7]?).getD 0), vI sp0_13, vI sp0_14] 71 (0, 0)), Own.of (.slice Ap0_0 lp0_0.length cp0_0) 41 lp0_0, Own.of (.slice Ap0_1 lp0_1.length cp0_1) 3 lp0_1, Own.of (.slice Ap0_2 lp0_2.length cp0_2) 3 lp0_2, Own.of (.slice Ap0_3 lp0_3.length cp0_3) 56 lp0_3, Own.of nbp0_4 3 r, Own.all LT]
def mach_Machine_two.f (lp0_0 : List SIns) (lp0_1 : List Int) (lp0_2 : List Int) (lp0_3 : List SPut) (lp0_4 : List Int) (sp0_5 : List Int) (sp0_13 : Int) (sp0_14 : Int) : Option (List Int) :=
 match mach_Machine_pop.f lp0_0 lp0_1 lp0_2 lp0_3 lp0_4 sp0_5 sp0_13 sp0_14 with
 | none => none
 | some r1 =>
  match mach_Machine_pop.f lp0_0 lp0_1 lp0_2 lp0_3 r1.2 sp0_5 sp0_13 sp0_14 with
  | none => none
  | some r2 =>
   if r2.2.length < 17592186044416 then
    some (r2.2 ++ [(mach_Machine_do_1.f r2.1 r1.1)])
   else
    none
theorem mach_Machine_two_ok (bp0 : Nat) (lp0_0 : List SIns) (Ap0_0 : Option Addr) (cp0_0 : Nat) (lp0_1 : List Int) (Ap0_1 : Option Addr) (cp0_1 : Nat) (lp0_2 : List Int) (Ap0_2 : Option Addr) (cp0_2 : Nat) (lp0_3 : List SPut) (Ap0_3 : Option Addr) (cp0_3 : Nat) (lp0_4 : List Int) (Ap0_4 : Option Addr) (cp0_4 : Nat) (sp0_5 : List Int) (sp0_13 : Int) (sp0_14 : Int) (w0 wE : World) (LT : List Own) (hS : St w0 wE [Own.blk bp0 (.cells #[(.slice Ap0_0 lp0_0.length cp0_0), (.slice Ap0_1 lp0_1.length cp0_1), (.slice Ap0_2 lp0_2.length cp0_2), (.slice Ap0_3 lp0_3.length cp0_3), (.slice Ap0_4 lp0_4.length cp0_4), vI ((sp0_5[0]?).getD 0), vI ((sp0_5[1]?).getD 0), vI ((sp0_5[2]?).getD 0), vI ((sp0_5[3]?).getD 0), vI ((sp0_5[4]?).getD 0), vI ((sp0_5[5]?).getD 0), vI ((sp0_5[6]?).getD 0), vI ((sp0_5[7]?).getD 0), vI sp0_13, vI sp0_14] 71 (0, 0)), Own.of (.slice Ap0_0 lp0_0.length cp0_0) 41 lp0_0, Own.of (.slice Ap0_1 lp0_1.length cp0_1) 3 lp0_1, Own.of (.slice Ap0_2 lp0_2.length cp0_2) 3 lp0_2, Own.of (.slice Ap0_3 lp0_3.length cp0_3) 56 lp0_3, Own.of (.slice Ap0_4 lp0_4.length cp0_4) 3 lp0_4, Own.all LT]) (r : List Int) (h : mach_Machine_two.f lp0_0 lp0_1 lp0_2 lp0_3 lp0_4 sp0_5 sp0_13 sp0_14 = some r) :
  Calls Try.prog 58 #[pP bp0 0, .func (.func 59) #[] #[]] wE (mach_Machine_two.Post w0 bp0 lp0_0 Ap0_0 cp0_0 lp0_1 Ap0_1 cp0_1 lp0_2 Ap0_2 cp0_2 lp0_3 Ap0_3 cp0_3 lp0_4 Ap0_4 cp0_4 sp0_5 sp0_13 sp0_14 LT r) := by
 unfold mach_Machine_two.f at h
 refine calls_enter (n := 23) (args := [pP bp0 0, .func (.func 59) #[] #[]]) (fn := Try.f58) rfl rfl rfl rfl ?_
 show WE _ _ _ _ [(0, pP bp0 0), (1, .func (.func 59) #[] #[])] _
 refine ws fun K1 hK1 => ?_
 refine wr [(0, 0), (1, 2), (2, 0)] ?_
 refine gb0 [0] [(6, pP bp0 0)] ?_
 rcases hq1 : mach_Machine_pop.f lp0_0 lp0_1 lp0_2 lp0_3 lp0_4 sp0_5 sp0_13 sp0_14 with _ | r1
 ·rw [hq1] at h; cases h
 rw [hq1] at h
 simp only [] at h
 have hS1 := hS.bring 5 rfl
 have hS2 := hS1.bring 5 rfl
 have hS3 := hS2.bring 5 rfl
 have hS4 := hS3.bring 5 rfl
 have hS5 := hS4.bring 5 rfl
 have hS6 := hS5.bring 5 rfl
 have hS8 : St w0 wE [Own.blk bp0 (.cells #[(.slice Ap0_0 lp0_0.length cp0_0), (.slice Ap0_1 lp0_1.length cp0_1), (.slice Ap0_2 lp0_2.length cp0_2), (.slice Ap0_3 lp0_3.length cp0_3), (.slice Ap0_4 lp0_4.length cp0_4), vI ((sp0_5[0]?).getD 0), vI ((sp0_5[1]?).getD 0), vI ((sp0_5[2]?).getD 0), vI ((sp0_5[3]?).getD 0), vI ((sp0_5[4]?).getD 0), vI ((sp0_5[5]?).getD 0), vI ((sp0_5[6]?).getD 0), vI ((sp0_5[7]?).getD 0), vI sp0_13, vI sp0_14] 71 (0, 0)), Own.of (.slice Ap0_0 lp0_0.length cp0_0) 41 lp0_0, Own.of (.slice Ap0_1 lp0_1.length cp0_1) 3 lp0_1, Own.of (.slice Ap0_2 lp0_2.length cp0_2) 3 lp0_2, Own.of (.slice Ap0_3 lp0_3.length cp0_3) 56 lp0_3, Own.of (.slice Ap0_4 lp0_4.length cp0_4) 3 lp0_4, Own.all [Own.all LT]] := hS6.packN 6
 refine ge_call2 (m := 0) (d := some 7) (f := 57) (args := #[pP bp0 0]) (by kernel_rfl) (mach_Machine_pop_ok bp0 lp0_0 Ap0_0 cp0_0 lp0_1 Ap0_1 cp0_1 lp0_2 Ap0_2 cp0_2 lp0_3 Ap0_3 cp0_3 lp0_4 Ap0_4 cp0_4 sp0_5 sp0_13 sp0_14 _ _ _ hS8 _ hq1) ?_
 rintro _ w1 ⟨v1, rfl, hS7⟩
 refine ⟨_, rfl, ?_⟩
 have hS9 : St w0 w1 [Own.blk bp0 (.cells #[(.slice Ap0_0 lp0_0.length cp0_0), (.slice Ap0_1 lp0_1.length cp0_1), (.slice Ap0_2 lp0_2.length cp0_2), (.slice Ap0_3 lp0_3.length cp0_3), v1, vI ((sp0_5[0]?).getD 0), vI ((sp0_5[1]?).getD 0), vI ((sp0_5[2]?).getD 0), vI ((sp0_5[3]?).getD 0), vI ((sp0_5[4]?).getD 0), vI ((sp0_5[5]?).getD 0), vI ((sp0_5[6]?).getD 0), vI ((sp0_5[7]?).getD 0), vI sp0_13, vI sp0_14] 71 (0, 0)), Own.of (.slice Ap0_0 lp0_0.length cp0_0) 41 lp0_0, Own.of (.slice Ap0_1 lp0_1.length cp0_1) 3 lp0_1, Own.of (.slice Ap0_2 lp0_2.length cp0_2) 3 lp0_2, Own.of (.slice Ap0_3 lp0_3.length cp0_3) 56 lp0_3, Own.of v1 3 r1.2, Own.all LT] := hS7.unpack [Own.blk bp0 (.cells #[(.slice Ap0_0 lp0_0.length cp0_0), (.slice Ap0_1 lp0_1.length cp0_1), (.slice Ap0_2 lp0_2.length cp0_2), (.slice Ap0_3 lp0_3.length cp0_3), v1, vI ((sp0_5[0]?).getD 0), vI ((sp0_5[1]?).getD 0), vI ((sp0_5[2]?).getD 0), vI ((sp0_5[3]?).getD 0), vI ((sp0_5[4]?).getD 0), vI ((sp0_5[5]?).getD 0), vI ((sp0_5[6]?).getD 0), vI ((sp0_5[7]?).getD 0), vI sp0_13, vI sp0_14] 71 (0, 0)), Own.of (.slice Ap0_0 lp0_0.length cp0_0) 41 lp0_0, Own.of (.slice Ap0_1 lp0_1.length cp0_1) 3 lp0_1, Own.of (.slice Ap0_2 lp0_2.length cp0_2) 3 lp0_2, Own.of (.slice Ap0_3 lp0_3.length cp0_3) 56 lp0_3, Own.of v1 3 r1.2]
 refine gb0 [2] [(4, vI r1.1)] ?_
 refine gn hK1 ?_
 refine ws fun K2 hK2 => ?_
 refine wr [(0, 0), (1, 2), (2, 0)] ?_
 refine gb0 [0] [(8, pP bp0 0)] ?_
 obtain ⟨Z1, cz1, rfl⟩ := hS9.open 5 rfl
 rcases hq2 : mach_Machine_pop.f lp0_0 lp0_1 lp0_2 lp0_3 r1.2 sp0_5 sp0_13 sp0_14 with _ | r2
 ·rw [hq2] at h; cases h
 rw [hq2] at h
 simp only [] at h
 have hS10 := hS9.bring 5 rfl
 have hS11 := hS10.bring 5 rfl
 have hS12 := hS11.bring 5 rfl
 have hS13 := hS12.bring 5 rfl
 have hS14 := hS13.bring 5 rfl
 have hS15 := hS14.bring 5 rfl
 have hS17 : St w0 w1 [Own.blk bp0 (.cells #[(.slice Ap0_0 lp0_0.length cp0_0), (.slice Ap0_1 lp0_1.length cp0_1), (.slice Ap0_2 lp0_2.length cp0_2), (.slice Ap0_3 lp0_3.length cp0_3), (.slice Z1 r1.2.length cz1), vI ((sp0_5[0]?).getD 0), vI ((sp0_5[1]?).getD 0), vI ((sp0_5[2]?).getD 0), vI ((sp0_5[3]?).getD 0), vI ((sp0_5[4]?).getD 0), vI ((sp0_5[5]?).getD 0), vI ((sp0_5[6]?).getD 0), vI ((sp0_5[7]?).getD 0), vI sp0_13, vI sp0_14] 71 (0, 0)), Own.of (.slice Ap0_0 lp0_0.length cp0_0) 41 lp0_0, Own.of (.slice Ap0_1 lp0_1.length cp0_1) 3 lp0_1, Own.of (.slice Ap0_2 lp0_2.length cp0_2) 3 lp0_2, Own.of (.slice Ap0_3 lp0_3.length cp0_3) 56 lp0_3, Own.of (.slice Z1 r1.2.length cz1) 3 r1.2, Own.all [Own.all LT]] := hS15.packN 6
 refine ge_call2 (m := 0) (d := some 9) (f := 57) (args := #[pP bp0 0]) (by kernel_rfl) (mach_Machine_pop_ok bp0 lp0_0 Ap0_0 cp0_0 lp0_1 Ap0_1 cp0_1 lp0_2 Ap0_2 cp0_2 lp0_3 Ap0_3 cp0_3 r1.2 Z1 cz1 sp0_5 sp0_13 sp0_14 _ _ _ hS17 _ hq2) ?_
 rintro _ w2 ⟨v2, rfl, hS16⟩
 refine ⟨_, rfl, ?_⟩
 have hS18 : St w0 w2 [Own.blk bp0 (.cells #[(.slice Ap0_0 lp0_0.length cp0_0), (.slice Ap0_1 lp0_1.length cp0_1), (.slice Ap0_2 lp0_2.length cp0_2), (.slice Ap0_3 lp0_3.length cp0_3), v2, vI ((sp0_5[0]?).getD 0), vI ((sp0_5[1]?).getD 0), vI ((sp0_5[2]?).getD 0), vI ((sp0_5[3]?).getD 0), vI ((sp0_5[4]?).getD 0), vI ((sp0_5[5]?).getD 0), vI ((sp0_5[6]?).getD 0), vI ((sp0_5[7]?).getD 0), vI sp0_13, vI sp0_14] 71 (0, 0)), Own.of (.slice Ap0_0 lp0_0.length cp0_0) 41 lp0_0, Own.of (.slice Ap0_1 lp0_1.length cp0_1) 3 lp0_1, Own.of (.slice Ap0_2 lp0_2.length cp0_2) 3 lp0_2, Own.of (.slice Ap0_3 lp0_3.length cp0_3) 56 lp0_3, Own.of v2 3 r2.2, Own.all LT] := hS16.unpack [Own.blk bp0 (.cells #[(.slice Ap0_0 lp0_0.length cp0_0), (.slice Ap0_1 lp0_1.length cp0_1), (.slice Ap0_2 lp0_2.length cp0_2), (.slice Ap0_3 lp0_3.length cp0_3), v2, vI ((sp0_5[0]?).getD 0), vI ((sp0_5[1]?).getD 0), vI ((sp0_5[2]?).getD 0), vI ((sp0_5[3]?).getD 0), vI ((sp0_5[4]?).getD 0), vI ((sp0_5[5]?).getD 0), vI ((sp0_5[6]?).getD 0), vI ((sp0_5[7]?).getD 0), vI sp0_13, vI sp0_14] 71 (0, 0)), Own.of (.slice Ap0_0 lp0_0.length cp0_0) 41 lp0_0, Own.of (.slice Ap0_1 lp0_1.length cp0_1) 3 lp0_1, Own.of (.slice Ap0_2 lp0_2.length cp0_2) 3 lp0_2, Own.of (.slice Ap0_3 lp0_3.length cp0_3) 56 lp0_3, Own.of v2 3 r2.2]
 refine gb0 [2] [(5, vI r2.1)] ?_
 refine gn hK2 ?_
 refine we_orders3 (by kernel_rfl) [(4, [⟨bp0, 4, none⟩], [], [])] (.vals [0] (.vals [1] (.vals [2] (.vals [3] (.vals [4] (.vals [5] (.vals [6] (.vals [7] (.alt 8 1 (.alt 9 1 (.alt 10 2 (.vals [11] (.vals [12] (.alt 13 2 .fin .nomore))) .nomore) .nomore) .nomore))))))))) (by kernel_rfl) (by kernel_rfl) ?_
 have hS19 := hS18.drew
 refine go3_batch [0, 1, 2, 3] (ans := []) (vs := [(13, pP bp0 4), (12, pP bp0 0), (11, pP bp0 0), (10, pP bp0 0)]) (l := []) (by kernel_rfl) trivial mem_nil3 ?_
 refine go3_batch [4] (ans := [.val (v2)]) (vs := [(14, v2)]) (l := [.loaded ⟨bp0, 4, none⟩ (v2)]) (by kernel_rfl) ⟨hS19.c 0, trivial⟩ (mem_one3 (by kernel_rfl)) ?_
 refine go3_batch [5, 6, 7] (ans := []) (vs := [(17, vI r1.1), (16, vI r2.1), (15, .func (.func 59) #[] #[])]) (l := []) (by kernel_rfl) trivial mem_nil3 ?_
 refine go_alt3 (fun KK hKK => ?_) ?_
 ·refine ge_one2 ?_
  refine ge_call (d := some 18) (f := 59) (args := #[vI r2.1, vI r1.1]) (by kernel_rfl) (mach_Machine_do_1_ok r2.1 r1.1 _ _ rfl) ?_
  rintro _ w3 ⟨rfl, hS20⟩
  refine ⟨_, rfl, hS20.below, ?_⟩
  have hS21 := hS19.call hS20
  refine ge_nil fun a hF => hKK _ _ (RS.of2 (l := [.loaded ⟨bp0, 4, none⟩ (v2)]) (by kernel_rfl) ⟨hS19.c 0, trivial⟩ ⟨hS21.c 0, trivial⟩) ?_ a hF
  refine go_alt3 (fun KK hKK => ?_) ?_
  ·refine ge_one2 ?_
   refine gw (some 19) (.cells #[vI (mach_Machine_do_1.f r2.1 r1.1)] 3) (fun b => .slice (some ⟨b, 0, none⟩) 1 1) hS21 fun b1 w4 hx1 hS22 => ?_
   refine ge_nil fun a hF => hKK _ _ (RS.of2 (l := [.loaded ⟨bp0, 4, none⟩ (v2)]) (by kernel_rfl) ⟨hS21.c 0, trivial⟩ ⟨hS22.c 1, trivial⟩) ?_ a hF
   refine go_alt3 (fun KK hKK => ?_) ?_
   ·have hS23 := hS22.bring 6 rfl
    by_cases hc1 : r2.2.length < 17592186044416
    ·rw [if_pos hc1] at h
     refine ge_append (α := Int) (m := 0) (d := 20) (t := 23) (el := 3) (bytes := 8) (c1 := 1) (b1 := b1) (x := (.tmp 14)) (y := (.tmp 19)) (ty := 23) (v := v2) (z := vI 0) (l := r2.2) (u := (mach_Machine_do_1.f r2.1 r1.1)) (by kernel_rfl) (by kernel_rfl) (by kernel_rfl) (by kernel_rfl) (by kernel_rfl) rfl hS23 rfl (by omega) fun v3 w5 hS24 => ?_
     refine ge_nil fun a hF => hKK _ _ (RS.of2 (l := []) (by kernel_rfl) trivial trivial) ?_ a hF
     refine go3_batch [11, 12] (ans := []) (vs := [(22, pP bp0 4), (21, pP bp0 0)]) (l := []) (by kernel_rfl) trivial mem_nil3 ?_
     refine go_alt3 (fun KK hKK => ?_) ?_
     ·obtain ⟨Z2, cz2, rfl⟩ := hS24.open 0 rfl
      have hS25 := hS24.bring 1 rfl
      refine gs bp0 4 #[(.slice Ap0_0 lp0_0.length cp0_0), (.slice Ap0_1 lp0_1.length cp0_1), (.slice Ap0_2 lp0_2.length cp0_2), (.slice Ap0_3 lp0_3.length cp0_3), v2, vI ((sp0_5[0]?).getD 0), vI ((sp0_5[1]?).getD 0), vI ((sp0_5[2]?).getD 0), vI ((sp0_5[3]?).getD 0), vI ((sp0_5[4]?).getD 0), vI ((sp0_5[5]?).getD 0), vI ((sp0_5[6]?).getD 0), vI ((sp0_5[7]?).getD 0), vI sp0_13, vI sp0_14] 71 [(.slice Z2 (r2.2 ++ [(mach_Machine_do_1.f r2.1 r1.1)]).length cz2)] hS25 fun w6 hS26 => ?_
      have hS27 : St w0 w6 [Own.blk bp0 (.cells #[(.slice Ap0_0 lp0_0.length cp0_0), (.slice Ap0_1 lp0_1.length cp0_1), (.slice Ap0_2 lp0_2.length cp0_2), (.slice Ap0_3 lp0_3.length cp0_3), (.slice Z2 (r2.2 ++ [(mach_Machine_do_1.f r2.1 r1.1)]).length cz2), vI ((sp0_5[0]?).getD 0), vI ((sp0_5[1]?).getD 0), vI ((sp0_5[2]?).getD 0), vI ((sp0_5[3]?).getD 0), vI ((sp0_5[4]?).getD 0), vI ((sp0_5[5]?).getD 0), vI ((sp0_5[6]?).getD 0), vI ((sp0_5[7]?).getD 0), vI sp0_13, vI sp0_14] 71 (0, 0)), Own.of (.slice Z2 (r2.2 ++ [(mach_Machine_do_1.f r2.1 r1.1)]).length cz2) 3 (r2.2 ++ [(mach_Machine_do_1.f r2.1 r1.1)]), Own.of (.slice Ap0_0 lp0_0.length cp0_0) 41 lp0_0, Own.of (.slice Ap0_1 lp0_1.length cp0_1) 3 lp0_1, Own.of (.slice Ap0_2 lp0_2.length cp0_2) 3 lp0_2, Own.of (.slice Ap0_3 lp0_3.length cp0_3) 56 lp0_3, Own.all LT] := hS26
      refine ge_nil fun a hF => hKK _ _ (RS.of2 (l := []) (by kernel_rfl) trivial trivial) ?_ a hF
      have hS28 := hS27.bring 6 rfl
      have hS29 := hS28.bring 2 rfl
      have hS30 := hS29.bring 6 rfl
      have hS31 := hS30.bring 6 rfl
      have hS32 := hS31.bring 6 rfl
      have hS33 := hS32.bring 6 rfl
      have hS34 := hS33.bring 6 rfl
      obtain rfl := si h
      exact go_fin3 (pe0 [] [] ⟨(.slice Z2 (r2.2 ++ [(mach_Machine_do_1.f r2.1 r1.1)]).length cz2), rfl, hS34⟩)
     exact go_nomore3
    ·rw [if_neg hc1] at h
     cases h
   exact go_nomore3
  exact go_nomore3
 exact go_nomore3

/-! (*punctual/mach.Machine).do$2 -/
abbrev mach_Machine_do_2.Post (w0 : World) (r : Int) (e : Ending) (w : World) : Prop := e = .returned (vI r) ∧ St w0 w []
def mach_Machine_do_2.f (x0 : Int) (x1 : Int) : Int :=
 IntKind.i64.wrap (x0 - x1)
theorem mach_Machine_do_2_ok (x0 : Int) (x1 : Int) (w0 : World) (r : Int) (h : mach_Machine_do_2.f x0 x1 = r) :
  Calls Try.prog 60 #[vI x0, vI x1] w0 (mach_Machine_do_2.Post w0 r) := by
 have hS := St.start w0
 unfold mach_Machine_do_2.f at h
 refine calls_enter (n := 8) (args := [vI x0, vI x1]) (fn := Try.f60) rfl rfl rfl rfl ?_
 show WE _ _ _ _ [(0, vI x0), (1, vI x1)] _
 refine ws fun K1 hK1 => ?_
 refine wr [(0, 0)] ?_
 refine gb0 [0] [(4, vI 0)] ?_
 refine gn hK1 ?_
 refine ws fun K2 hK2 => ?_
 refine wr [(0, 0), (1, 0), (2, 0), (3, 0)] ?_
 refine gb0 [0, 1, 2, 3] [(4, vI (IntKind.i64.wrap (x0 - x1))), (7, vI (IntKind.i64.wrap (x0 - x1))), (6, vI x1), (5, vI x0)] ?_
 refine gn hK2 ?_
 subst h
 exact we_ret (pr0 [.tmp 4] [vI (IntKind.i64.wrap (x0 - x1))] ⟨rfl, hS⟩)

/-! (*punctual/mach.Machine).two -/
abbrev mach_Machine_two_1.Post (w0 : World) (bp0 : Nat) (lp0_0 : List SIns) (Ap0_0 : Option Addr) (cp0_0 : Nat) (lp0_1 : List Int) (Ap0_1 : Option Addr) (cp0_1 : Nat) (lp0_2 : List Int) (Ap0_2 : Option Addr) (cp0_2 : Nat) (lp0_3 : List SPut) (Ap0_3 : Option Addr) (cp0_3 : Nat) (lp0_4 : List Int) (Ap0_4 : Option Addr) (cp0_4 : Nat) (sp0_5 : List Int) (sp0_13 : Int) (sp0_14 : Int) (LT : List Own) (r : List Int) (e : Ending) (w : World) : Prop := ∃ (nbp0_4 : Value), e = .returned (.tuple #[]) ∧ St w0 w [Own.blk bp0 (.cells #[(.slice Ap0_0 lp0_0.length cp0_0), (.slice Ap0_1 lp0_1.length cp0_1), (.slice Ap0_2 lp0_2.length cp0_2), (.slice Ap0_3 lp0_3.length cp0_3), nbp0_4, vI ((sp0_5[0]?).getD 0), vI ((sp0_5[1]?).getD 0), vI ((sp0_5[2]?).getD 0), vI ((sp0_5[3]?).getD 0), vI ((sp0_5[4]?).getD 0), vI ((sp0_5[5]?).getD 0), vI ((sp0_5[6]?).getD 0), vI ((sp0_5[7]?).getD 0), vI sp0_13, vI sp0_14] 71 (0, 0)), Own.of (.slice Ap0_0 lp0_0.length cp0_0) 41 lp0_0, Own.of (.slice Ap0_1 lp0_1.length cp0_1) 3 lp0_1, Own.of (.slice Ap0_2 lp0_2.length cp0_2) 3 lp0_2, Own.of (.slice Ap0_3 lp0_3.length cp0_3) 56 lp0_3, Own.of nbp0_4 3 r, Own.all LT]
def mach_Machine_two_1.f (lp0_0 : List SIns) (lp0_1 : List Int) (lp0_2 : List Int) (lp0_3 : List SPut) (lp0_4 : List Int) (sp0_5 : List Int) (sp0_13 : Int) (sp0_14 : Int) : Option (List Int) :=
 match mach_Machine_pop.f lp0_0 lp0_1 lp0_2 lp0_3 lp0_4 sp0_5 sp0_13 sp0_14 with
 | none => none
 | some r1 =>
  match mach_Machine_pop.f lp0_0 lp0_1 lp0_2 lp0_3 r1.2 sp0_5 sp0_13 sp0_14 with
  | none => none
  | some r2 =>
   if r2.2.length < 17592186044416 then
    some (r2.2 ++ [(mach_Machine_do_2.f r2.1 r1.1)])
   else
    none
theorem mach_Machine_two_1_ok (bp0 : Nat) (lp0_0 : List SIns) (Ap0_0 : Option Addr) (cp0_0 : Nat) (lp0_1 : List Int) (Ap0_1 : Option Addr) (cp0_1 : Nat) (lp0_2 : List Int) (Ap0_2 : Option Addr) (cp0_2 : Nat) (lp0_3 : List SPut) (Ap0_3 : Option Addr) (cp0_3 : Nat) (lp0_4 : List Int) (Ap0_4 : Option Addr) (cp0_4 : Nat) (sp0_5 : List Int) (sp0_13 : Int) (sp0_14 : Int) (w0 wE : World) (LT : List Own) (hS : St w0 wE [Own.blk bp0 (.cells #[(.slice Ap0_0 lp0_0.length cp0_0), (.slice Ap0_1 lp0_1.length cp0_1), (.slice Ap0_2 lp0_2.length cp0_2), (.slice Ap0_3 lp0_3.length cp0_3), (.slice Ap0_4 lp0_4.length cp0_4), vI ((sp0_5[0]?).getD 0), vI ((sp0_5[1]?).getD 0), vI ((sp0_5[2]?).getD 0), vI ((sp0_5[3]?).getD 0), vI ((sp0_5[4]?).getD 0), vI ((sp0_5[5]?).getD 0), vI ((sp0_5[6]?).getD 0), vI ((sp0_5[7]?).getD 0), vI sp0_13, vI sp0_14] 71 (0, 0)), Own.of (.slice Ap0_0 lp0_0.length cp0_0) 41 lp0_0, Own.of (.slice Ap0_1 lp0_1.length cp0_1) 3 lp0_1, Own.of (.slice Ap0_2 lp0_2.length cp0_2) 3 lp0_2, Own.of (.slice Ap0_3 lp0_3.length cp0_3) 56 lp0_3, Own.of (.slice Ap0_4 lp0_4.length cp0_4) 3 lp0_4, Own.all LT]) (r : List Int) (h : mach_Machine_two_1.f lp0_0 lp0_1 lp0_2 lp0_3 lp0_4 sp0_5 sp0_13 sp0_14 = some r) :
  Calls Try.prog 58 #[pP bp0 0, .func (.func 60) #[] #[]] wE (mach_Machine_two_1.Post w0 bp0 lp0_0 Ap0_0 cp0_0 lp0_1 Ap0_1 cp0_1 lp0_2 Ap0_2 cp0_2 lp0_3 Ap0_3 cp0_3 lp0_4 Ap0_4 cp0_4 sp0_5 sp0_13 sp0_14 LT r) := by
 unfold mach_Machine_two_1.f at h
 refine calls_enter (n := 23) (args := [pP bp0 0, .func (.func 60) #[] #[]]) (fn := Try.f58) rfl rfl rfl rfl ?_
 show WE _ _ _ _ [(0, pP bp0 0), (1, .func (.func 60) #[] #[])] _
 refine ws fun K1 hK1 => ?_
 refine wr [(0, 0), (1, 2), (2, 0)] ?_
 refine gb0 [0] [(6, pP bp0 0)] ?_
 rcases hq1 : mach_Machine_pop.f lp0_0 lp0_1 lp0_2 lp0_3 lp0_4 sp0_5 sp0_13 sp0_14 with _ | r1
 ·rw [hq1] at h; cases h
 rw [hq1] at h
 simp only [] at h
 have hS1 := hS.bring 5 rfl
 have hS2 := hS1.bring 5 rfl
 have hS3 := hS2.bring 5 rfl
 have hS4 := hS3.bring 5 rfl
 have hS5 := hS4.bring 5 rfl
 have hS6 := hS5.bring 5 rfl
 have hS8 : St w0 wE [Own.blk bp0 (.cells #[(.slice Ap0_0 lp0_0.length cp0_0), (.slice Ap0_1 lp0_1.length cp0_1), (.slice Ap0_2 lp0_2.length cp0_2), (.slice Ap0_3 lp0_3.length cp0_3), (.slice Ap0_4 lp0_4.length cp0_4), vI ((sp0_5[0]?).getD 0), vI ((sp0_5[1]?).getD 0), vI ((sp0_5[2]?).getD 0), vI ((sp0_5[3]?).getD 0), vI ((sp0_5[4]?).getD 0), vI ((sp0_5[5]?).getD 0), vI ((sp0_5[6]?).getD 0), vI ((sp0_5[7]?).getD 0), vI sp0_13, vI sp0_14] 71 (0, 0)), Own.of (.slice Ap0_0 lp0_0.length cp0_0) 41 lp0_0, Own.of (.slice Ap0_1 lp0_1.length cp0_1) 3 lp0_1, Own.of (.slice Ap0_2 lp0_2.length cp0_2) 3 lp0_2, Own.of (.slice Ap0_3 lp0_3.length cp0_3) 56 lp0_3, Own.of (.slice Ap0_4 lp0_4.length cp0_4) 3 lp0_4, Own.all [Own.all LT]] := hS6.packN 6
 refine ge_call2 (m := 0) (d := some 7) (f := 57) (args := #[pP bp0 0]) (by kernel_rfl) (mach_Machine_pop_ok bp0 lp0_0 Ap0_0 cp0_0 lp0_1 Ap0_1 cp0_1 lp0_2 Ap0_2 cp0_2 lp0_3 Ap0_3 cp0_3 lp0_4 Ap0_4 cp0_4 sp0_5 sp0_13 sp0_14 _ _ _ hS8 _ hq1) ?_
 rintro _ w1 ⟨v1, rfl, hS7⟩
 refine ⟨_, rfl, ?_⟩
 have hS9 : St w0 w1 [Own.blk bp0 (.cells #[(.slice Ap0_0 lp0_0.length cp0_0), (.slice Ap0_1 lp0_1.length cp0_1), (.slice Ap0_2 lp0_2.length cp0_2), (.slice Ap0_3 lp0_3.length cp0_3), v1, vI ((sp0_5[0]?).getD 0), vI ((sp0_5[1]?).getD 0), vI ((sp0_5[2]?).getD 0), vI ((sp0_5[3]?).getD 0), vI ((sp0_5[4]?).getD 0), vI ((sp0_5[5]?).getD 0), vI ((sp0_5[6]?).getD 0), vI ((sp0_5[7]?).getD 0), vI sp0_13, vI sp0_14] 71 (0, 0)), Own.of (.slice Ap0_0 lp0_0.length cp0_0) 41 lp0_0, Own.of (.slice Ap0_1 lp0_1.length cp0_1) 3 lp0_1, Own.of (.slice Ap0_2 lp0_2.length cp0_2) 3 lp0_2, Own.of (.slice Ap0_3 lp0_3.length cp0_3) 56 lp0_3, Own.of v1 3 r1.2, Own.all LT] := hS7.unpack [Own.blk bp0 (.cells #[(.slice Ap0_0 lp0_0.length cp0_0), (.slice Ap0_1 lp0_1.length cp0_1), (.slice Ap0_2 lp0_2.length cp0_2), (.slice Ap0_3 lp0_3.length cp0_3), v1, vI ((sp0_5[0]?).getD 0), vI ((sp0_5[1]?).getD 0), vI ((sp0_5[2]?).getD 0), vI ((sp0_5[3]?).getD 0), vI ((sp0_5[4]?).getD 0), vI ((sp0_5[5]?).getD 0), vI ((sp0_5[6]?).getD 0), vI ((sp0_5[7]?).getD 0), vI sp0_13, vI sp0_14] 71 (0, 0)), Own.of (.slice Ap0_0 lp0_0.length cp0_0) 41 lp0_0, Own.of (.slice Ap0_1 lp0_1.length cp0_1) 3 lp0_1, Own.of (.slice Ap0_2 lp0_2.length cp0_2) 3 lp0_2, Own.of (.slice Ap0_3 lp0_3.length cp0_3) 56 lp0_3, Own.of v1 3 r1.2]
 refine gb0 [2] [(4, vI r1.1)] ?_
 refine gn hK1 ?_
 refine ws fun K2 hK2 => ?_
 refine wr [(0, 0), (1, 2), (2, 0)] ?_
 refine gb0 [0] [(8, pP bp0 0)] ?_
 obtain ⟨Z1, cz1, rfl⟩ := hS9.open 5 rfl
 rcases hq2 : mach_Machine_pop.f lp0_0 lp0_1 lp0_2 lp0_3 r1.2 sp0_5 sp0_13 sp0_14 with _ | r2
 ·rw [hq2] at h; cases h
 rw [hq2] at h
 simp only [] at h
 have hS10 := hS9.bring 5 rfl
 have hS11 := hS10.bring 5 rfl
 have hS12 := hS11.bring 5 rfl
 have hS13 := hS12.bring 5 rfl
 have hS14 := hS13.bring 5 rfl
 have hS15 := hS14.bring 5 rfl
 have hS17 : St w0 w1 [Own.blk bp0 (.cells #[(.slice Ap0_0 lp0_0.length cp0_0), (.slice Ap0_1 lp0_1.length cp0_1), (.slice Ap0_2 lp0_2.length cp0_2), (.slice Ap0_3 lp0_3.length cp0_3), (.slice Z1 r1.2.length cz1), vI ((sp0_5[0]?).getD 0), vI ((sp0_5[1]?).getD 0), vI ((sp0_5[2]?).getD 0), vI ((sp0_5[3]?).getD 0), vI ((sp0_5[4]?).getD 0), vI ((sp0_5[5]?).getD 0), vI ((sp0_5[6]?).getD 0), vI ((sp0_5[7]?).getD 0), vI sp0_13, vI sp0_14] 71 (0, 0)), Own.of (.slice Ap0_0 lp0_0.length cp0_0) 41 lp0_0, Own.of (.slice Ap0_1 lp0_1.length cp0_1) 3 lp0_1, Own.of (.slice Ap0_2 lp0_2.length cp0_2) 3 lp0_2, Own.of (.slice Ap0_3 lp0_3.length cp0_3) 56 lp0_3, Own.of (.slice Z1 r1.2.length cz1) 3 r1.2, Own.all [Own.all LT]] := hS15.packN 6
 refine ge_call2 (m := 0) (d := some 9) (f := 57) (args := #[pP bp0 0]) (by kernel_rfl) (mach_Machine_pop_ok bp0 lp0_0 Ap0_0 cp0_0 lp0_1 Ap0_1 cp0_1 lp0_2 Ap0_2 cp0_2 lp0_3 Ap0_3 cp0_3 r1.2 Z1 cz1 sp0_5 sp0_13 sp0_14 _ _ _ hS17 _ hq2) ?_
 rintro _ w2 ⟨v2, rfl, hS16⟩
 refine ⟨_, rfl, ?_⟩
 have hS18 : St w0 w2 [Own.blk bp0 (.cells #[(.slice Ap0_0 lp0_0.length cp0_0), (.slice Ap0_1 lp0_1.length cp0_1), (.slice Ap0_2 lp0_2.length cp0_2), (.slice Ap0_3 lp0_3.length cp0_3), v2, vI ((sp0_5[0]?).getD 0), vI ((sp0_5[1]?).getD 0), vI ((sp0_5[2]?).getD 0), vI ((sp0_5[3]?).getD 0), vI ((sp0_5[4]?).getD 0), vI ((sp0_5[5]?).getD 0), vI ((sp0_5[6]?).getD 0), vI ((sp0_5[7]?).getD 0), vI sp0_13, vI sp0_14] 71 (0, 0)), Own.of (.slice Ap0_0 lp0_0.length cp0_0) 41 lp0_0, Own.of (.slice Ap0_1 lp0_1.length cp0_1) 3 lp0_1, Own.of (.slice Ap0_2 lp0_2.length cp0_2) 3 lp0_2, Own.of (.slice Ap0_3 lp0_3.length cp0_3) 56 lp0_3, Own.of v2 3 r2.2, Own.all LT] := hS16.unpack [Own.blk bp0 (.cells #[(.slice Ap0_0 lp0_0.length cp0_0), (.slice Ap0_1 lp0_1.length cp0_1), (.slice Ap0_2 lp0_2.length cp0_2), (.slice Ap0_3 lp0_3.length cp0_3), v2, vI ((sp0_5[0]?).getD 0), vI ((sp0_5[1]?).getD 0), vI ((sp0_5[2]?).getD 0), vI ((sp0_5[3]?).getD 0), vI ((sp0_5[4]?).getD 0), vI ((sp0_5[5]?).getD 0), vI ((sp0_5[6]?).getD 0), vI ((sp0_5[7]?).getD 0), vI sp0_13, vI sp0_14] 71 (0, 0)), Own.of (.slice Ap0_0 lp0_0.length cp0_0) 41 lp0_0, Own.of (.slice Ap0_1 lp0_1.length cp0_1) 3 lp0_1, Own.of (.slice Ap0_2 lp0_2.length cp0_2) 3 lp0_2, Own.of (.slice Ap0_3 lp0_3.length cp0_3) 56 lp0_3, Own.of v2 3 r2.2]
 refine gb0 [2] [(5, vI r2.1)] ?_
 refine gn hK2 ?_
 refine we_orders3 (by kernel_rfl) [(4, [⟨bp0, 4, none⟩], [], [])] (.vals [0] (.vals [1] (.vals [2] (.vals [3] (.vals [4] (.vals [5] (.vals [6] (.vals [7] (.alt 8 1 (.alt 9 1 (.alt 10 2 (.vals [11] (.vals [12] (.alt 13 2 .fin .nomore))) .nomore) .nomore) .nomore))))))))) (by kernel_rfl) (by kernel_rfl) ?_
 have hS19 := hS18.drew
 refine go3_batch [0, 1, 2, 3] (ans := []) (vs := [(13, pP bp0 4), (12, pP bp0 0), (11, pP bp0 0), (10, pP bp0 0)]) (l := []) (by kernel_rfl) trivial mem_nil3 ?_
 refine go3_batch [4] (ans := [.val (v2)]) (vs := [(14, v2)]) (l := [.loaded ⟨bp0, 4, none⟩ (v2)]) (by kernel_rfl) ⟨hS19.c 0, trivial⟩ (mem_one3 (by kernel_rfl)) ?_
 refine go3_batch [5, 6, 7] (ans := []) (vs := [(17, vI r1.1), (16, vI r2.1), (15, .func (.func 60) #[] #[])]) (l := []) (by kernel_rfl) trivial mem_nil3 ?_
 refine go_alt3 (fun KK hKK => ?_) ?_
 ·refine ge_one2 ?_
  refine ge_call (d := some 18) (f := 60) (args := #[vI r2.1, vI r1.1]) (by kernel_rfl) (mach_Machine_do_2_ok r2.1 r1.1 _ _ rfl) ?_
  rintro _ w3 ⟨rfl, hS20⟩
  refine ⟨_, rfl, hS20.below, ?_⟩
  have hS21 := hS19.call hS20
  refine ge_nil fun a hF => hKK _ _ (RS.of2 (l := [.loaded ⟨bp0, 4, none⟩ (v2)]) (by kernel_rfl) ⟨hS19.c 0, trivial⟩ ⟨hS21.c 0, trivial⟩) ?_ a hF
  refine go_alt3 (fun KK hKK => ?_) ?_
  ·refine ge_one2 ?_
   refine gw (some 19) (.cells #[vI (mach_Machine_do_2.f r2.1 r1.1)] 3) (fun b => .slice (some ⟨b, 0, none⟩) 1 1) hS21 fun b1 w4 hx1 hS22 => ?_
   refine ge_nil fun a hF => hKK _ _ (RS.of2 (l := [.loaded ⟨bp0, 4, none⟩ (v2)]) (by kernel_rfl) ⟨hS21.c 0, trivial⟩ ⟨hS22.c 1, trivial⟩) ?_ a hF
   refine go_alt3 (fun KK hKK => ?_) ?_
   ·have hS23 := hS22.bring 6 rfl
    by_cases hc1 : r2.2.length < 17592186044416
    ·rw [if_pos hc1] at h
     refine ge_append (α := Int) (m := 0) (d := 20) (t := 23) (el := 3) (bytes := 8) (c1 := 1) (b1 := b1) (x := (.tmp 14)) (y := (.tmp 19)) (ty := 23) (v := v2) (z := vI 0) (l := r2.2) (u := (mach_Machine_do_2.f r2.1 r1.1)) (by kernel_rfl) (by kernel_rfl) (by kernel_rfl) (by kernel_rfl) (by kernel_rfl) rfl hS23 rfl (by omega) fun v3 w5 hS24 => ?_
     refine ge_nil fun a hF => hKK _ _ (RS.of2 (l := []) (by kernel_rfl) trivial trivial) ?_ a hF
     refine go3_batch [11, 12] (ans := []) (vs := [(22, pP bp0 4), (21, pP bp0 0)]) (l := []) (by kernel_rfl) trivial mem_nil3 ?_
     refine go_alt3 (fun KK hKK => ?_) ?_
     ·obtain ⟨Z2, cz2, rfl⟩ := hS24.open 0 rfl
      have hS25 := hS24.bring 1 rfl
      refine gs bp0 4 #[(.slice Ap0_0 lp0_0.length cp0_0), (.slice Ap0_1 lp0_1.length cp0_1), (.slice Ap0_2 lp0_2.length cp0_2), (.slice Ap0_3 lp0_3.length cp0_3), v2, vI ((sp0_5[0]?).getD 0), vI ((sp0_5[1]?).getD 0), vI ((sp0_5[2]?).getD 0), vI ((sp0_5[3]?).getD 0), vI ((sp0_5[4]?).getD 0), vI ((sp0_5[5]?).getD 0), vI ((sp0_5[6]?).getD 0), vI ((sp0_5[7]?).getD 0), vI sp0_13, vI sp0_14] 71 [(.slice Z2 (r2.2 ++ [(mach_Machine_do_2.f r2.1 r1.1)]).length cz2)] hS25 fun w6 hS26 => ?_
      have hS27 : St w0 w6 [Own.blk bp0 (.cells #[(.slice Ap0_0 lp0_0.length cp0_0), (.slice Ap0_1 lp0_1.length cp0_1), (.slice Ap0_2 lp0_2.length cp0_2), (.slice Ap0_3 lp0_3.length cp0_3), (.slice Z2 (r2.2 ++ [(mach_Machine_do_2.f r2.1 r1.1)]).length cz2), vI ((sp0_5[0]?).getD 0), vI ((sp0_5[1]?).getD 0), vI ((sp0_5[2]?).getD 0), vI ((sp0_5[3]?).getD 0), vI ((sp0_5[4]?).getD 0), vI ((sp0_5[5]?).getD 0), vI ((sp0_5[6]?).getD 0), vI ((sp0_5[7]?).getD 0), vI sp0_13, vI sp0_14] 71 (0, 0)), Own.of (.slice Z2 (r2.2 ++ [(mach_Machine_do_2.f r2.1 r1.1)]).length cz2) 3 (r2.2 ++ [(mach_Machine_do_2.f r2.1 r1.1)]), Own.of (.slice Ap0_0 lp0_0.length cp0_0) 41 lp0_0, Own.of (.slice Ap0_1 lp0_1.length cp0_1) 3 lp0_1, Own.of (.slice Ap0_2 lp0_2.length cp0_2) 3 lp0_2, Own.of (.slice Ap0_3 lp0_3.length cp0_3) 56 lp0_3, Own.all LT] := hS26
      refine ge_nil fun a hF => hKK _ _ (RS.of2 (l := []) (by kernel_rfl) trivial trivial) ?_ a hF
      have hS28 := hS27.bring 6 rfl
      have hS29 := hS28.bring 2 rfl
      have hS30 := hS29.bring 6 rfl
      have hS31 := hS30.bring 6 rfl
      have hS32 := hS31.bring 6 rfl
      have hS33 := hS32.bring 6 rfl
      have hS34 := hS33.bring 6 rfl
      obtain rfl := si h
      exact go_fin3 (pe0 [] [] ⟨(.slice Z2 (r2.2 ++ [(mach_Machine_do_2.f r2.1 r1.1)]).length cz2), rfl, hS34⟩)
     exact go_nomore3
    ·rw [if_neg hc1] at h
     cases h
   exact go_nomore3
  exact go_nomore3
 exact go_nomore3

/-! (*punctual/mach.Machine).do$3 -/
abbrev mach_Machine_do_3.Post (w0 : World) (r : Int) (e : Ending) (w : World) : Prop := e = .returned (vI r) ∧ St w0 w []
def mach_Machine_do_3.f (x0 : Int) (x1 : Int) : Int :=
 IntKind.i64.wrap (x0 * x1)
theorem mach_Machine_do_3_ok (x0 : Int) (x1 : Int) (w0 : World) (r : Int) (h : mach_Machine_do_3.f x0 x1 = r) :
  Calls Try.prog 61 #[vI x0, vI x1] w0 (mach_Machine_do_3.Post w0 r) := by
 have hS := St.start w0
 unfold mach_Machine_do_3.f at h
 refine calls_enter (n := 8) (args := [vI x0, vI x1]) (fn := Try.f61) rfl rfl rfl rfl ?_
 show WE _ _ _ _ [(0, vI x0), (1, vI x1)] _
 refine ws fun K1 hK1 => ?_
 refine wr [(0, 0)] ?_
 refine gb0 [0] [(4, vI 0)] ?_
 refine gn hK1 ?_
 refine ws fun K2 hK2 => ?_
 refine wr [(0, 0), (1, 0), (2, 0), (3, 0)] ?_
 refine gb0 [0, 1, 2, 3] [(4, vI (IntKind.i64.wrap (x0 * x1))), (7, vI (IntKind.i64.wrap (x0 * x1))), (6, vI x1), (5, vI x0)] ?_
 refine gn hK2 ?_
 subst h
 exact we_ret (pr0 [.tmp 4] [vI (IntKind.i64.wrap (x0 * x1))] ⟨rfl, hS⟩)

/-! (*punctual/mach.Machine).two -/
abbrev mach_Machine_two_2.Post (w0 : World) (bp0 : Nat) (lp0_0 : List SIns) (Ap0_0 : Option Addr) (cp0_0 : Nat) (lp0_1 : List Int) (Ap0_1 : Option Addr) (cp0_1 : Nat) (lp0_2 : List Int) (Ap0_2 : Option Addr) (cp0_2 : Nat) (lp0_3 : List SPut) (Ap0_3 : Option Addr) (cp0_3 : Nat) (lp0_4 : List Int) (Ap0_4 : Option Addr) (cp0_4 : Nat) (sp0_5 : List Int) (sp0_13 : Int) (sp0_14 : Int) (LT : List Own) (r : List Int) (e : Ending) (w : World) : Prop := ∃ (nbp0_4 : Value), e = .returned (.tuple #[]) ∧ St w0 w [Own.blk bp0 (.cells #[(.slice Ap0_0 lp0_0.length cp0_0), (.slice Ap0_1 lp0_1.length cp0_1), (.slice Ap0_2 lp0_2.length cp0_2), (.slice Ap0_3 lp0_3.length cp0_3), nbp0_4, vI ((sp0_5[0]?).getD 0), vI ((sp0_5[1]?).getD 0), vI ((sp0_5[2]?).getD 0), vI ((sp0_5[3]?).getD 0), vI ((sp0_5[4]?).getD 0), vI ((sp0_5[5]?).getD 0), vI ((sp0_5[6]?).getD 0), vI ((sp0_5[7]?).getD 0), vI sp0_13, vI sp0_14] 71 (0, 0)), Own.of (.slice Ap0_0 lp0_0.length cp0_0) 41 lp0_0, Own.of (.slice Ap0_1 lp0_1.length cp0_1) 3 lp0_1, Own.of (.slice Ap0_2 lp0_2.length cp0_2) 3 lp0_2, Own.of (.slice Ap0_3 lp0_3.length cp0_3) 56 lp0_3, Own.of nbp0_4 3 r, Own.all LT]
def mach_Machine_two_2.f (lp0_0 : List SIns) (lp0_1 : List Int) (lp0_2 : List Int) (lp0_3 : List SPut) (lp0_4 : List Int) (sp0_5 : List Int) (sp0_13 : Int) (sp0_14 : Int) : Option (List Int) :=
 match mach_Machine_pop.f lp0_0 lp0_1 lp0_2 lp0_3 lp0_4 sp0_5 sp0_13 sp0_14 with
 | none => none
 | some r1 =>
  match mach_Machine_pop.f lp0_0 lp0_1 lp0_2 lp0_3 r1.2 sp0_5 sp0_13 sp0_14 with
  | none => none
  | some r2 =>
   if r2.2.length < 17592186044416 then
    some (r2.2 ++ [(mach_Machine_do_3.f r2.1 r1.1)])
   else
    none
theorem mach_Machine_two_2_ok (bp0 : Nat) (lp0_0 : List SIns) (Ap0_0 : Option Addr) (cp0_0 : Nat) (lp0_1 : List Int) (Ap0_1 : Option Addr) (cp0_1 : Nat) (lp0_2 : List Int) (Ap0_2 : Option Addr) (cp0_2 : Nat) (lp0_3 : List SPut) (Ap0_3 : Option Addr) (cp0_3 : Nat) (lp0_4 : List Int) (Ap0_4 : Option Addr) (cp0_4 : Nat) (sp0_5 : List Int) (sp0_13 : Int) (sp0_14 : Int) (w0 wE : World) (LT : List Own) (hS : St w0 wE [Own.blk bp0 (.cells #[(.slice Ap0_0 lp0_0.length cp0_0), (.slice Ap0_1 lp0_1.length cp0_1), (.slice Ap0_2 lp0_2.length cp0_2), (.slice Ap0_3 lp0_3.length cp0_3), (.slice Ap0_4 lp0_4.length cp0_4), vI ((sp0_5[0]?).getD 0), vI ((sp0_5[1]?).getD 0), vI ((sp0_5[2]?).getD 0), vI ((sp0_5[3]?).getD 0), vI ((sp0_5[4]?).getD 0), vI ((sp0_5[5]?).getD 0), vI ((sp0_5[6]?).getD 0), vI ((sp0_5[7]?).getD 0), vI sp0_13, vI sp0_14] 71 (0, 0)), Own.of (.slice Ap0_0 lp0_0.length cp0_0) 41 lp0_0, Own.of (.slice Ap0_1 lp0_1.length cp0_1) 3 lp0_1, Own.of (.slice Ap0_2 lp0_2.length cp0_2) 3 lp0_2, Own.of (.slice Ap0_3 lp0_3.length cp0_3) 56 lp0_3, Own.of (.slice Ap0_4 lp0_4.length cp0_4) 3 lp0_4, Own.all LT]) (r : List Int) (h : mach_Machine_two_2.f lp0_0 lp0_1 lp0_2 lp0_3 lp0_4 sp0_5 sp0_13 sp0_14 = some r) :
  Calls Try.prog 58 #[pP bp0 0, .func (.func 61) #[] #[]] wE (mach_Machine_two_2.Post w0 bp0 lp0_0 Ap0_0 cp0_0 lp0_1 Ap0_1 cp0_1 lp0_2 Ap0_2 cp0_2 lp0_3 Ap0_3 cp0_3 lp0_4 Ap0_4 cp0_4 sp0_5 sp0_13 sp0_14 LT r) := by
 unfold mach_Machine_two_2.f at h
 refine calls_enter (n := 23) (args := [pP bp0 0, .func (.func 61) #[] #[]]) (fn := Try.f58) rfl rfl rfl rfl ?_
 show WE _ _ _ _ [(0, pP bp0 0), (1, .func (.func 61) #[] #[])] _
 refine ws fun K1 hK1 => ?_
 refine wr [(0, 0), (1, 2), (2, 0)] ?_
 refine gb0 [0] [(6, pP bp0 0)] ?_
 rcases hq1 : mach_Machine_pop.f lp0_0 lp0_1 lp0_2 lp0_3 lp0_4 sp0_5 sp0_13 sp0_14 with _ | r1
 ·rw [hq1] at h; cases h
 rw [hq1] at h
 simp only [] at h
 have hS1 := hS.bring 5 rfl
 have hS2 := hS1.bring 5 rfl
 have hS3 := hS2.bring 5 rfl
 have hS4 := hS3.bring 5 rfl
 have hS5 := hS4.bring 5 rfl
 have hS6 := hS5.bring 5 rfl
 have hS8 : St w0 wE [Own.blk bp0 (.cells #[(.slice Ap0_0 lp0_0.length cp0_0), (.slice Ap0_1 lp0_1.length cp0_1), (.slice Ap0_2 lp0_2.length cp0_2), (.slice Ap0_3 lp0_3.length cp0_3), (.slice Ap0_4 lp0_4.length cp0_4), vI ((sp0_5[0]?).getD 0), vI ((sp0_5[1]?).getD 0), vI ((sp0_5[2]?).getD 0), vI ((sp0_5[3]?).getD 0), vI ((sp0_5[4]?).getD 0), vI ((sp0_5[5]?).getD 0), vI ((sp0_5[6]?).getD 0), vI ((sp0_5[7]?).getD 0), vI sp0_13, vI sp0_14] 71 (0, 0)), Own.of (.slice Ap0_0 lp0_0.length cp0_0) 41 lp0_0, Own.of (.slice Ap0_1 lp0_1.length cp0_1) 3 lp0_1, Own.of (.slice Ap0_2 lp0_2.length cp0_2) 3 lp0_2, Own.of (.slice Ap0_3 lp0_3.length cp0_3) 56 lp0_3, Own.of (.slice Ap0_4 lp0_4.length cp0_4) 3 lp0_4, Own.all [Own.all LT]] := hS6.packN 6
 refine ge_call2 (m := 0) (d := some 7) (f := 57) (args := #[pP bp0 0]) (by kernel_rfl) (mach_Machine_pop_ok bp0 lp0_0 Ap0_0 cp0_0 lp0_1 Ap0_1 cp0_1 lp0_2 Ap0_2 cp0_2 lp0_3 Ap0_3 cp0_3 lp0_4 Ap0_4 cp0_4 sp0_5 sp0_13 sp0_14 _ _ _ hS8 _ hq1) ?_
 rintro _ w1 ⟨v1, rfl, hS7⟩
 refine ⟨_, rfl, ?_⟩
 have hS9 : St w0 w1 [Own.blk bp0 (.cells #[(.slice Ap0_0 lp0_0.length cp0_0), (.slice Ap0_1 lp0_1.length cp0_1), (.slice Ap0_2 lp0_2.length cp0_2), (.slice Ap0_3 lp0_3.length cp0_3), v1, vI ((sp0_5[0]?).getD 0), vI ((sp0_5[1]?).getD 0), vI ((sp0_5[2]?).getD 0), vI ((sp0_5[3]?).getD 0), vI ((sp0_5[4]?).getD 0), vI ((sp0_5[5]?).getD 0), vI ((sp0_5[6]?).getD 0), vI ((sp0_5[7]?).getD 0), vI sp0_13, vI sp0_14] 71 (0, 0)), Own.of (.slice Ap0_0 lp0_0.length cp0_0) 41 lp0_0, Own.of (.slice Ap0_1 lp0_1.length cp0_1) 3 lp0_1, Own.of (.slice Ap0_2 lp0_2.length cp0_2) 3 lp0_2, Own.of (.slice Ap0_3 lp0_3.length cp0_3) 56 lp0_3, Own.of v1 3 r1.2, Own.all LT] := hS7.unpack [Own.blk bp0 (.cells #[(.slice Ap0_0 lp0_0.length cp0_0), (.slice Ap0_1 lp0_1.length cp0_1), (.slice Ap0_2 lp0_2.length cp0_2), (.slice Ap0_3 lp0_3.length cp0_3), v1, vI ((sp0_5[0]?).getD 0), vI ((sp0_5[1]?).getD 0), vI ((sp0_5[2]?).getD 0), vI ((sp0_5[3]?).getD 0), vI ((sp0_5[4]?).getD 0), vI ((sp0_5[5]?).getD 0), vI ((sp0_5[6]?).getD 0), vI ((sp0_5[7]?).getD 0), vI sp0_13, vI sp0_14] 71 (0, 0)), Own.of (.slice Ap0_0 lp0_0.length cp0_0) 41 lp0_0, Own.of (.slice Ap0_1 lp0_1.length cp0_1) 3 lp0_1, Own.of (.slice Ap0_2 lp0_2.length cp0_2) 3 lp0_2, Own.of (.slice Ap0_3 lp0_3.length cp0_3) 56 lp0_3, Own.of v1 3 r1.2]
 refine gb0 [2] [(4, vI r1.1)] ?_
 refine gn hK1 ?_
 refine ws fun K2 hK2 => ?_
 refine wr [(0, 0), (1, 2), (2, 0)] ?_
 refine gb0 [0] [(8, pP bp0 0)] ?_
 obtain ⟨Z1, cz1, rfl⟩ := hS9.open 5 rfl
 rcases hq2 : mach_Machine_pop.f lp0_0 lp0_1 lp0_2 lp0_3 r1.2 sp0_5 sp0_13 sp0_14 with _ | r2
 ·rw [hq2] at h; cases h
 rw [hq2] at h
 simp only [] at h
 have hS10 := hS9.bring 5 rfl
 have hS11 := hS10.bring 5 rfl
 have hS12 := hS11.bring 5 rfl
 have hS13 := hS12.bring 5 rfl
 have hS14 := hS13.bring 5 rfl
 have hS15 := hS14.bring 5 rfl
 have hS17 : St w0 w1 [Own.blk bp0 (.cells #[(.slice Ap0_0 lp0_0.length cp0_0), (.slice Ap0_1 lp0_1.length cp0_1), (.slice Ap0_2 lp0_2.length cp0_2), (.slice Ap0_3 lp0_3.length cp0_3), (.slice Z1 r1.2.length cz1), vI ((sp0_5[0]?).getD 0), vI ((sp0_5[1]?).getD 0), vI ((sp0_5[2]?).getD 0), vI ((sp0_5[3]?).getD 0), vI ((sp0_5[4]?).getD 0), vI ((sp0_5[5]?).getD 0), vI ((sp0_5[6]?).getD 0), vI ((sp0_5[7]?).getD 0), vI sp0_13, vI sp0_14] 71 (0, 0)), Own.of (.slice Ap0_0 lp0_0.length cp0_0) 41 lp0_0, Own.of (.slice Ap0_1 lp0_1.length cp0_1) 3 lp0_1, Own.of (.slice Ap0_2 lp0_2.length cp0_2) 3 lp0_2, Own.of (.slice Ap0_3 lp0_3.length cp0_3) 56 lp0_3, Own.of (.slice Z1 r1.2.length cz1) 3 r1.2, Own.all [Own.all LT]] := hS15.packN 6
 refine ge_call2 (m := 0) (d := some 9) (f := 57) (args := #[pP bp0 0]) (by kernel_rfl) (mach_Machine_pop_ok bp0 lp0_0 Ap0_0 cp0_0 lp0_1 Ap0_1 cp0_1 lp0_2 Ap0_2 cp0_2 lp0_3 Ap0_3 cp0_3 r1.2 Z1 cz1 sp0_5 sp0_13 sp0_14 _ _ _ hS17 _ hq2) ?_
 rintro _ w2 ⟨v2, rfl, hS16⟩
 refine ⟨_, rfl, ?_⟩
 have hS18 : St w0 w2 [Own.blk bp0 (.cells #[(.slice Ap0_0 lp0_0.length cp0_0), (.slice Ap0_1 lp0_1.length cp0_1), (.slice Ap0_2 lp0_2.length cp0_2), (.slice Ap0_3 lp0_3.length cp0_3), v2, vI ((sp0_5[0]?).getD 0), vI ((sp0_5[1]?).getD 0), vI ((sp0_5[2]?).getD 0), vI ((sp0_5[3]?).getD 0), vI ((sp0_5[4]?).getD 0), vI ((sp0_5[5]?).getD 0), vI ((sp0_5[6]?).getD 0), vI ((sp0_5[7]?).getD 0), vI sp0_13, vI sp0_14] 71 (0, 0)), Own.of (.slice Ap0_0 lp0_0.length cp0_0) 41 lp0_0, Own.of (.slice Ap0_1 lp0_1.length cp0_1) 3 lp0_1, Own.of (.slice Ap0_2 lp0_2.length cp0_2) 3 lp0_2, Own.of (.slice Ap0_3 lp0_3.length cp0_3) 56 lp0_3, Own.of v2 3 r2.2, Own.all LT] := hS16.unpack [Own.blk bp0 (.cells #[(.slice Ap0_0 lp0_0.length cp0_0), (.slice Ap0_1 lp0_1.length cp0_1), (.slice Ap0_2 lp0_2.length cp0_2), (.slice Ap0_3 lp0_3.length cp0_3), v2, vI ((sp0_5[0]?).getD 0), vI ((sp0_5[1]?).getD 0), vI ((sp0_5[2]?).getD 0), vI ((sp0_5[3]?).getD 0), vI ((sp0_5[4]?).getD 0), vI ((sp0_5[5]?).getD 0), vI ((sp0_5[6]?).getD 0), vI ((sp0_5[7]?).getD 0), vI sp0_13, vI sp0_14] 71 (0, 0)), Own.of (.slice Ap0_0 lp0_0.length cp0_0) 41 lp0_0, Own.of (.slice Ap0_1 lp0_1.length cp0_1) 3 lp0_1, Own.of (.slice Ap0_2 lp0_2.length cp0_2) 3 lp0_2, Own.of (.slice Ap0_3 lp0_3.length cp0_3) 56 lp0_3, Own.of v2 3 r2.2]
 refine gb0 [2] [(5, vI r2.1)] ?_
 refine gn hK2 ?_
 refine we_orders3 (by kernel_rfl) [(4, [⟨bp0, 4, none⟩], [], [])] (.vals [0] (.vals [1] (.vals [2] (.vals [3] (.vals [4] (.vals [5] (.vals [6] (.vals [7] (.alt 8 1 (.alt 9 1 (.alt 10 2 (.vals [11] (.vals [12] (.alt 13 2 .fin .nomore))) .nomore) .nomore) .nomore))))))))) (by kernel_rfl) (by kernel_rfl) ?_
 have hS19 := hS18.drew
 refine go3_batch [0, 1, 2, 3] (ans := []) (vs := [(13, pP bp0 4), (12, pP bp0 0), (11, pP bp0 0), (10, pP bp0 0)]) (l := []) (by kernel_rfl) trivial mem_nil3 ?_
 refine go3_batch [4] (ans := [.val (v2)]) (vs := [(14, v2)]) (l := [.loaded ⟨bp0, 4, none⟩ (v2)]) (by kernel_rfl) ⟨hS19.c 0, trivial⟩ (mem_one3 (by kernel_rfl)) ?_
 refine go3_batch [5, 6, 7] (ans := []) (vs := [(17, vI r1.1), (16, vI r2.1), (15, .func (.func 61) #[] #[])]) (l := []) (by kernel_rfl) trivial mem_nil3 ?_
 refine go_alt3 (fun KK hKK => ?_) ?_
 ·refine ge_one2 ?_
  refine ge_call (d := some 18) (f := 61) (args := #[vI r2.1, vI r1.1]) (by kernel_rfl) (mach_Machine_do_3_ok r2.1 r1.1 _ _ rfl) ?_
  rintro _ w3 ⟨rfl, hS20⟩
  refine ⟨_, rfl, hS20.below, ?_⟩
  have hS21 := hS19.call hS20
  refine ge_nil fun a hF => hKK _ _ (RS.of2 (l := [.loaded ⟨bp0, 4, none⟩ (v2)]) (by kernel_rfl) ⟨hS19.c 0, trivial⟩ ⟨hS21.c 0, trivial⟩) ?_ a hF
  refine go_alt3 (fun KK hKK => ?_) ?_
  ·refine ge_one2 ?_
   refine gw (some 19) (.cells #[vI (mach_Machine_do_3.f r2.1 r1.1)] 3) (fun b => .slice (some ⟨b, 0, none⟩) 1 1) hS21 fun b1 w4 hx1 hS22 => ?_
   refine ge_nil fun a hF => hKK _ _ (RS.of2 (l := [.loaded ⟨bp0, 4, none⟩ (v2)]) (by kernel_rfl) ⟨hS21.c 0, trivial⟩ ⟨hS22.c 1, trivial⟩) ?_ a hF
   refine go_alt3 (fun KK hKK => ?_) ?_
   ·have hS23 := hS22.bring 6 rfl
    by_cases hc1 : r2.2.length < 17592186044416
    ·rw [if_pos hc1] at h
     refine ge_append (α := Int) (m := 0) (d := 20) (t := 23) (el := 3) (bytes := 8) (c1 := 1) (b1 := b1) (x := (.tmp 14)) (y := (.tmp 19)) (ty := 23) (v := v2) (z := vI 0) (l := r2.2) (u := (mach_Machine_do_3.f r2.1 r1.1)) (by kernel_rfl) (by kernel_rfl) (by kernel_rfl) (by kernel_rfl) (by kernel_rfl) rfl hS23 rfl (by omega) fun v3 w5 hS24 => ?_
     refine ge_nil fun a hF => hKK _ _ (RS.of2 (l := []) (by kernel_rfl) trivial trivial) ?_ a hF
     refine go3_batch [11, 12] (ans := []) (vs := [(22, pP bp0 4), (21, pP bp0 0)]) (l := []) (by kernel_rfl) trivial mem_nil3 ?_
     refine go_alt3 (fun KK hKK => ?_) ?_
     ·obtain ⟨Z2, cz2, rfl⟩ := hS24.open 0 rfl
      have hS25 := hS24.bring 1 rfl
      refine gs bp0 4 #[(.slice Ap0_0 lp0_0.length cp0_0), (.slice Ap0_1 lp0_1.length cp0_1), (.slice Ap0_2 lp0_2.length cp0_2), (.slice Ap0_3 lp0_3.length cp0_3), v2, vI ((sp0_5[0]?).getD 0), vI ((sp0_5[1]?).getD 0), vI ((sp0_5[2]?).getD 0), vI ((sp0_5[3]?).getD 0), vI ((sp0_5[4]?).getD 0), vI ((sp0_5[5]?).getD 0), vI ((sp0_5[6]?).getD 0), vI ((sp0_5[7]?).getD 0), vI sp0_13, vI sp0_14] 71 [(.slice Z2 (r2.2 ++ [(mach_Machine_do_3.f r2.1 r1.1)]).length cz2)] hS25 fun w6 hS26 => ?_
      have hS27 : St w0 w6 [Own.blk bp0 (.cells #[(.slice Ap0_0 lp0_0.length cp0_0), (.slice Ap0_1 lp0_1.length cp0_1), (.slice Ap0_2 lp0_2.length cp0_2), (.slice Ap0_3 lp0_3.length cp0_3), (.slice Z2 (r2.2 ++ [(mach_Machine_do_3.f r2.1 r1.1)]).length cz2), vI ((sp0_5[0]?).getD 0), vI ((sp0_5[1]?).getD 0), vI ((sp0_5[2]?).getD 0), vI ((sp0_5[3]?).getD 0), vI ((sp0_5[4]?).getD 0), vI ((sp0_5[5]?).getD 0), vI ((sp0_5[6]?).getD 0), vI ((sp0_5[7]?).getD 0), vI sp0_13, vI sp0_14] 71 (0, 0)), Own.of (.slice Z2 (r2.2 ++ [(mach_Machine_do_3.f r2.1 r1.1)]).length cz2) 3 (r2.2 ++ [(mach_Machine_do_3.f r2.1 r1.1)]), Own.of (.slice Ap0_0 lp0_0.length cp0_0) 41 lp0_0, Own.of (.slice Ap0_1 lp0_1.length cp0_1) 3 lp0_1, Own.of (.slice Ap0_2 lp0_2.length cp0_2) 3 lp0_2, Own.of (.slice Ap0_3 lp0_3.length cp0_3) 56 lp0_3, Own.all LT] := hS26
      refine ge_nil fun a hF => hKK _ _ (RS.of2 (l := []) (by kernel_rfl) trivial trivial) ?_ a hF
      have hS28 := hS27.bring 6 rfl
      have hS29 := hS28.bring 2 rfl
      have hS30 := hS29.bring 6 rfl
      have hS31 := hS30.bring 6 rfl
      have hS32 := hS31.bring 6 rfl
      have hS33 := hS32.bring 6 rfl
      have hS34 := hS33.bring 6 rfl
      obtain rfl := si h
      exact go_fin3 (pe0 [] [] ⟨(.slice Z2 (r2.2 ++ [(mach_Machine_do_3.f r2.1 r1.1)]).length cz2), rfl, hS34⟩)
     exact go_nomore3
    ·rw [if_neg hc1] at h
     cases h
   exact go_nomore3
  exact go_nomore3
 exact go_nomore3

/-! punctual/mach.truth -/
abbrev mach_truth.Post (w0 : World) (r : Int) (e : Ending) (w : World) : Prop := e = .returned (vI r) ∧ St w0 w []
def mach_truth.f (x0 : Bool) : Int :=
 if x0 = true then
  1
 else
  0
theorem mach_truth_ok (x0 : Bool) (w0 : World) (r : Int) (h : mach_truth.f x0 = r) :
  Calls Try.prog 63 #[.bool x0] w0 (mach_truth.Post w0 r) := by
 have hS := St.start w0
 unfold mach_truth.f at h
 refine calls_enter (n := 4) (args := [.bool x0]) (fn := Try.f63) rfl rfl rfl rfl ?_
 show WE _ _ _ _ [(0, .bool x0)] _
 refine ws fun K1 hK1 => ?_
 refine wr [(0, 0)] ?_
 refine gb0 [0] [(2, vI 0)] ?_
 refine gn hK1 ?_
 refine ws fun K2 hK2 => ?_
 refine ws fun K3 hK3 => ?_
 refine wr [(0, 0)] ?_
 refine gb0 [0] [(3, .bool x0)] ?_
 refine gn hK3 ?_
 by_cases hc1 : x0 = true
 ·rw [if_pos hc1] at h
  refine wk 3 x0 true hc1 ?_
  refine we_true (by kernel_rfl) ?_
  refine ws fun K4 hK4 => ?_
  refine wr [(0, 0)] ?_
  refine gb0 [0] [(2, vI 1)] ?_
  refine gn hK4 ?_
  subst h
  exact we_ret (pr0 [.tmp 2] [vI 1] ⟨rfl, hS⟩)
 ·rw [if_neg hc1] at h
  refine wk 3 x0 false (Bool.eq_false_iff.2 hc1) ?_
  refine we_false (by kernel_rfl) ?_
  refine we_skip fun a hF => hK2 _ _ ?_ a hF
  refine ws fun K5 hK5 => ?_
  refine wr [(0, 0)] ?_
  refine gb0 [0] [(2, vI 0)] ?_
  refine gn hK5 ?_
  subst h
  exact we_ret (pr0 [.tmp 2] [vI 0] ⟨rfl, hS⟩)

/-! (*punctual/mach.Machine).do$4 -/
abbrev mach_Machine_do_4.Post (w0 : World) (r : Int) (e : Ending) (w : World) : Prop := e = .returned (vI r) ∧ St w0 w []
def mach_Machine_do_4.f (x0 : Int) (x1 : Int) : Int :=
 (mach_truth.f (decide (x0 < x1)))
theorem mach_Machine_do_4_ok (x0 : Int) (x1 : Int) (w0 : World) (r : Int) (h : mach_Machine_do_4.f x0 x1 = r) :
  Calls Try.prog 62 #[vI x0, vI x1] w0 (mach_Machine_do_4.Post w0 r) := by
 have hS := St.start w0
 unfold mach_Machine_do_4.f at h
 refine calls_enter (n := 9) (args := [vI x0, vI x1]) (fn := Try.f62) rfl rfl rfl rfl ?_
 show WE _ _ _ _ [(0, vI x0), (1, vI x1)] _
 refine ws fun K1 hK1 => ?_
 refine wr [(0, 0)] ?_
 refine gb0 [0] [(4, vI 0)] ?_
 refine gn hK1 ?_
 refine ws fun K2 hK2 => ?_
 refine wr [(0, 0), (1, 0), (2, 0), (3, 1), (4, 0)] ?_
 refine gb0 [0, 1, 2] [(7, .bool (decide (x0 < x1))), (6, vI x1), (5, vI x0)] ?_
 refine ge_call (d := some 8) (f := 63) (args := #[.bool (decide (x0 < x1))]) (by kernel_rfl) (mach_truth_ok (decide (x0 < x1)) _ _ rfl) ?_
 rintro _ w1 ⟨rfl, hS1⟩
 refine ⟨_, rfl, hS1.below, ?_⟩
 have hS2 := hS.call hS1
 refine gb0 [4] [(4, vI (mach_truth.f (decide (x0 < x1))))] ?_
 refine gn hK2 ?_
 subst h
 exact we_ret (pr0 [.tmp 4] [vI (mach_truth.f (decide (x0 < x1)))] ⟨rfl, hS2⟩)

/-! (*punctual/mach.Machine).two -/
abbrev mach_Machine_two_3.Post (w0 : World) (bp0 : Nat) (lp0_0 : List SIns) (Ap0_0 : Option Addr) (cp0_0 : Nat) (lp0_1 : List Int) (Ap0_1 : Option Addr) (cp0_1 : Nat) (lp0_2 : List Int) (Ap0_2 : Option Addr) (cp0_2 : Nat) (lp0_3 : List SPut) (Ap0_3 : Option Addr) (cp0_3 : Nat) (lp0_4 : List Int) (Ap0_4 : Option Addr) (cp0_4 : Nat) (sp0_5 : List Int) (sp0_13 : Int) (sp0_14 : Int) (LT : List Own) (r : List Int) (e : Ending) (w : World) : Prop := ∃ (nbp0_4 : Value), e = .returned (.tuple #[]) ∧ St w0 w [Own.blk bp0 (.cells #[(.slice Ap0_0 lp0_0.length cp0_0), (.slice Ap0_1 lp0_1.length cp0_1), (.slice Ap0_2 lp0_2.length cp0_2), (.slice Ap0_3 lp0_3.length cp0_3), nbp0_4, vI ((sp0_5[0]?).getD 0), vI ((sp0_5[1]?).getD 0), vI ((sp0_5[2]?).getD 0), vI ((sp0_5[3]?).getD 0), vI ((sp0_5[4]?).getD 0), vI ((sp0_5[5]?).getD 0), vI ((sp0_5[6]?).getD 0), vI ((sp0_5[7]?).getD 0), vI sp0_13, vI sp0_14] 71 (0, 0)), Own.of (.slice Ap0_0 lp0_0.length cp0_0) 41 lp0_0, Own.of (.slice Ap0_1 lp0_1.length cp0_1) 3 lp0_1, Own.of (.slice Ap0_2 lp0_2.length cp0_2) 3 lp0_2, Own.of (.slice Ap0_3 lp0_3.length cp0_3) 56 lp0_3, Own.of nbp0_4 3 r, Own.all LT]
def mach_Machine_two_3.f (lp0_0 : List SIns) (lp0_1 : List Int) (lp0_2 : List Int) (lp0_3 : List SPut) (lp0_4 : List Int) (sp0_5 : List Int) (sp0_13 : Int) (sp0_14 : Int) : Option (List Int) :=
 match mach_Machine_pop.f lp0_0 lp0_1 lp0_2 lp0_3 lp0_4 sp0_5 sp0_13 sp0_14 with
 | none => none
 | some r1 =>
  match mach_Machine_pop.f lp0_0 lp0_1 lp0_2 lp0_3 r1.2 sp0_5 sp0_13 sp0_14 with
  | none => none
  | some r2 =>
   if r2.2.length < 17592186044416 then
    some (r2.2 ++ [(mach_Machine_do_4.f r2.1 r1.1)])
   else
    none
theorem mach_Machine_two_3_ok (bp0 : Nat) (lp0_0 : List SIns) (Ap0_0 : Option Addr) (cp0_0 : Nat) (lp0_1 : List Int) (Ap0_1 : Option Addr) (cp0_1 : Nat) (lp0_2 : List Int) (Ap0_2 : Option Addr) (cp0_2 : Nat) (lp0_3 : List SPut) (Ap0_3 : Option Addr) (cp0_3 : Nat) (lp0_4 : List Int) (Ap0_4 : Option Addr) (cp0_4 : Nat) (sp0_5 : List Int) (sp0_13 : Int) (sp0_14 : Int) (w0 wE : World) (LT : List Own) (hS : St w0 wE [Own.blk bp0 (.cells #[(.slice Ap0_0 lp0_0.length cp0_0), (.slice Ap0_1 lp0_1.length cp0_1), (.slice Ap0_2 lp0_2.length cp0_2), (.slice Ap0_3 lp0_3.length cp0_3), (.slice Ap0_4 lp0_4.length cp0_4), vI ((sp0_5[0]?).getD 0), vI ((sp0_5[1]?).getD 0), vI ((sp0_5[2]?).getD 0), vI ((sp0_5[3]?).getD 0), vI ((sp0_5[4]?).getD 0), vI ((sp0_5[5]?).getD 0), vI ((sp0_5[6]?).getD 0), vI ((sp0_5[7]?).getD 0), vI sp0_13, vI sp0_14] 71 (0, 0)), Own.of (.slice Ap0_0 lp0_0.length cp0_0) 41 lp0_0, Own.of (.slice Ap0_1 lp0_1.length cp0_1) 3 lp0_1, Own.of (.slice Ap0_2 lp0_2.length cp0_2) 3 lp0_2, Own.of (.slice Ap0_3 lp0_3.length cp0_3) 56 lp0_3, Own.of (.slice Ap0_4 lp0_4.length cp0_4) 3 lp0_4, Own.all LT]) (r : List Int) (h : mach_Machine_two_3.f lp0_0 lp0_1 lp0_2 lp0_3 lp0_4 sp0_5 sp0_13 sp0_14 = some r) :
  Calls Try.prog 58 #[pP bp0 0, .func (.func 62) #[] #[]] wE (mach_Machine_two_3.Post w0 bp0 lp0_0 Ap0_0 cp0_0 lp0_1 Ap0_1 cp0_1 lp0_2 Ap0_2 cp0_2 lp0_3 Ap0_3 cp0_3 lp0_4 Ap0_4 cp0_4 sp0_5 sp0_13 sp0_14 LT r) := by
 unfold mach_Machine_two_3.f at h
 refine calls_enter (n := 23) (args := [pP bp0 0, .func (.func 62) #[] #[]]) (fn := Try.f58) rfl rfl rfl rfl ?_
 show WE _ _ _ _ [(0, pP bp0 0), (1, .func (.func 62) #[] #[])] _
 refine ws fun K1 hK1 => ?_
 refine wr [(0, 0), (1, 2), (2, 0)] ?_
 refine gb0 [0] [(6, pP bp0 0)] ?_
 rcases hq1 : mach_Machine_pop.f lp0_0 lp0_1 lp0_2 lp0_3 lp0_4 sp0_5 sp0_13 sp0_14 with _ | r1
 ·rw [hq1] at h; cases h
 rw [hq1] at h
 simp only [] at h
 have hS1 := hS.bring 5 rfl
 have hS2 := hS1.bring 5 rfl
 have hS3 := hS2.bring 5 rfl
 have hS4 := hS3.bring 5 rfl
 have hS5 := hS4.bring 5 rfl
 have hS6 := hS5.bring 5 rfl
 have hS8 : St w0 wE [Own.blk bp0 (.cells #[(.slice Ap0_0 lp0_0.length cp0_0), (.slice Ap0_1 lp0_1.length cp0_1), (.slice Ap0_2 lp0_2.length cp0_2), (.slice Ap0_3 lp0_3.length cp0_3), (.slice Ap0_4 lp0_4.length cp0_4), vI ((sp0_5[0]?).getD 0), vI ((sp0_5[1]?).getD 0), vI ((sp0_5[2]?).getD 0), vI ((sp0_5[3]?).getD 0), vI ((sp0_5[4]?).getD 0), vI ((sp0_5[5]?).getD 0), vI ((sp0_5[6]?).getD 0), vI ((sp0_5[7]?).getD 0), vI sp0_13, vI sp0_14] 71 (0, 0)), Own.of (.slice Ap0_0 lp0_0.length cp0_0) 41 lp0_0, Own.of (.slice Ap0_1 lp0_1.length cp0_1) 3 lp0_1, Own.of (.slice Ap0_2 lp0_2.length cp0_2) 3 lp0_2, Own.of (.slice Ap0_3 lp0_3.length cp0_3) 56 lp0_3, Own.of (.slice Ap0_4 lp0_4.length cp0_4) 3 lp0_4, Own.all [Own.all LT]] := hS6.packN 6
 refine ge_call2 (m := 0) (d := some 7) (f := 57) (args := #[pP bp0 0]) (by kernel_rfl) (mach_Machine_pop_ok bp0 lp0_0 Ap0_0 cp0_0 lp0_1 Ap0_1 cp0_1 lp0_2 Ap0_2 cp0_2 lp0_3 Ap0_3 cp0_3 lp0_4 Ap0_4 cp0_4 sp0_5 sp0_13 sp0_14 _ _ _ hS8 _ hq1) ?_
 rintro _ w1 ⟨v1, rfl, hS7⟩
 refine ⟨_, rfl, ?_⟩
 have hS9 : St w0 w1 [Own.blk bp0 (.cells #[(.slice Ap0_0 lp0_0.length cp0_0), (.slice Ap0_1 lp0_1.length cp0_1), (.slice Ap0_2 lp0_2.length cp0_2), (.slice Ap0_3 lp0_3.length cp0_3), v1, vI ((sp0_5[0]?).getD 0), vI ((sp0_5[1]?).getD 0), vI ((sp0_5[2]?).getD 0), vI ((sp0_5[3]?).getD 0), vI ((sp0_5[4]?).getD 0), vI ((sp0_5[5]?).getD 0), vI ((sp0_5[6]?).getD 0), vI ((sp0_5[7]?).getD 0), vI sp0_13, vI sp0_14] 71 (0, 0)), Own.of (.slice Ap0_0 lp0_0.length cp0_0) 41 lp0_0, Own.of (.slice Ap0_1 lp0_1.length cp0_1) 3 lp0_1, Own.of (.slice Ap0_2 lp0_2.length cp0_2) 3 lp0_2, Own.of (.slice Ap0_3 lp0_3.length cp0_3) 56 lp0_3, Own.of v1 3 r1.2, Own.all LT] := hS7.unpack [Own.blk bp0 (.cells #[(.slice Ap0_0 lp0_0.length cp0_0), (.slice Ap0_1 lp0_1.length cp0_1), (.slice Ap0_2 lp0_2.length cp0_2), (.slice Ap0_3 lp0_3.length cp0_3), v1, vI ((sp0_5[0]?).getD 0), vI ((sp0_5[1]?).getD 0), vI ((sp0_5[2]?).getD 0), vI ((sp0_5[3]?).getD 0), vI ((sp0_5[4]?).getD 0), vI ((sp0_5[5]?).getD 0), vI ((sp0_5[6]?).getD 0), vI ((sp0_5[7]?).getD 0), vI sp0_13, vI sp0_14] 71 (0, 0)), Own.of (.slice Ap0_0 lp0_0.length cp0_0) 41 lp0_0, Own.of (.slice Ap0_1 lp0_1.length cp0_1) 3 lp0_1, Own.of (.slice Ap0_2 lp0_2.length cp0_2) 3 lp0_2, Own.of (.slice Ap0_3 lp0_3.length cp0_3) 56 lp0_3, Own.of v1 3 r1.2]
 refine gb0 [2] [(4, vI r1.1)] ?_
 refine gn hK1 ?_
 refine ws fun K2 hK2 => ?_
 refine wr [(0, 0), (1, 2), (2, 0)] ?_
 refine gb0 [0] [(8, pP bp0 0)] ?_
 obtain ⟨Z1, cz1, rfl⟩ := hS9.open 5 rfl
 rcases hq2 : mach_Machine_pop.f lp0_0 lp0_1 lp0_2 lp0_3 r1.2 sp0_5 sp0_13 sp0_14 with _ | r2
 ·rw [hq2] at h; cases h
 rw [hq2] at h
 simp only [] at h
 have hS10 := hS9.bring 5 rfl
 have hS11 := hS10.bring 5 rfl
 have hS12 := hS11.bring 5 rfl
 have hS13 := hS12.bring 5 rfl
 have hS14 := hS13.bring 5 rfl
 have hS15 := hS14.bring 5 rfl
 have hS17 : St w0 w1 [Own.blk bp0 (.cells #[(.slice Ap0_0 lp0_0.length cp0_0), (.slice Ap0_1 lp0_1.length cp0_1), (.slice Ap0_2 lp0_2.length cp0_2), (.slice Ap0_3 lp0_3.length cp0_3), (.slice Z1 r1.2.length cz1), vI ((sp0_5[0]?).getD 0), vI ((sp0_5[1]?).getD 0), vI ((sp0_5[2]?).getD 0), vI ((sp0_5[3]?).getD 0), vI ((sp0_5[4]?).getD 0), vI ((sp0_5[5]?).getD 0), vI ((sp0_5[6]?).getD 0), vI ((sp0_5[7]?).getD 0), vI sp0_13, vI sp0_14] 71 (0, 0)), Own.of (.slice Ap0_0 lp0_0.length cp0_0) 41 lp0_0, Own.of (.slice Ap0_1 lp0_1.length cp0_1) 3 lp0_1, Own.of (.slice Ap0_2 lp0_2.length cp0_2) 3 lp0_2, Own.of (.slice Ap0_3 lp0_3.length cp0_3) 56 lp0_3, Own.of (.slice Z1 r1.2.length cz1) 3 r1.2, Own.all [Own.all LT]] := hS15.packN 6
 refine ge_call2 (m := 0) (d := some 9) (f := 57) (args := #[pP bp0 0]) (by kernel_rfl) (mach_Machine_pop_ok bp0 lp0_0 Ap0_0 cp0_0 lp0_1 Ap0_1 cp0_1 lp0_2 Ap0_2 cp0_2 lp0_3 Ap0_3 cp0_3 r1.2 Z1 cz1 sp0_5 sp0_13 sp0_14 _ _ _ hS17 _ hq2) ?_
 rintro _ w2 ⟨v2, rfl, hS16⟩
 refine ⟨_, rfl, ?_⟩
 have hS18 : St w0 w2 [Own.blk bp0 (.cells #[(.slice Ap0_0 lp0_0.length cp0_0), (.slice Ap0_1 lp0_1.length cp0_1), (.slice Ap0_2 lp0_2.length cp0_2), (.slice Ap0_3 lp0_3.length cp0_3), v2, vI ((sp0_5[0]?).getD 0), vI ((sp0_5[1]?).getD 0), vI ((sp0_5[2]?).getD 0), vI ((sp0_5[3]?).getD 0), vI ((sp0_5[4]?).getD 0), vI ((sp0_5[5]?).getD 0), vI ((sp0_5[6]?).getD 0), vI ((sp0_5[7]?).getD 0), vI sp0_13, vI sp0_14] 71 (0, 0)), Own.of (.slice Ap0_0 lp0_0.length cp0_0) 41 lp0_0, Own.of (.slice Ap0_1 lp0_1.length cp0_1) 3 lp0_1, Own.of (.slice Ap0_2 lp0_2.length cp0_2) 3 lp0_2, Own.of (.slice Ap0_3 lp0_3.length cp0_3) 56 lp0_3, Own.of v2 3 r2.2, Own.all LT] := hS16.unpack [Own.blk bp0 (.cells #[(.slice Ap0_0 lp0_0.length cp0_0), (.slice Ap0_1 lp0_1.length cp0_1), (.slice Ap0_2 lp0_2.length cp0_2), (.slice Ap0_3 lp0_3.length cp0_3), v2, vI ((sp0_5[0]?).getD 0), vI ((sp0_5[1]?).getD 0), vI ((sp0_5[2]?).getD 0), vI ((sp0_5[3]?).getD 0), vI ((sp0_5[4]?).getD 0), vI ((sp0_5[5]?).getD 0), vI ((sp0_5[6]?).getD 0), vI ((sp0_5[7]?).getD 0), vI sp0_13, vI sp0_14] 71 (0, 0)), Own.of (.slice Ap0_0 lp0_0.length cp0_0) 41 lp0_0, Own.of (.slice Ap0_1 lp0_1.length cp0_1) 3 lp0_1, Own.of (.slice Ap0_2 lp0_2.length cp0_2) 3 lp0_2, Own.of (.slice Ap0_3 lp0_3.length cp0_3) 56 lp0_3, Own.of v2 3 r2.2]
 refine gb0 [2] [(5, vI r2.1)] ?_
 refine gn hK2 ?_
 refine we_orders3 (by kernel_rfl) [(4, [⟨bp0, 4, none⟩], [], [])] (.vals [0] (.vals [1] (.vals [2] (.vals [3] (.vals [4] (.vals [5] (.vals [6] (.vals [7] (.alt 8 1 (.alt 9 1 (.alt 10 2 (.vals [11] (.vals [12] (.alt 13 2 .fin .nomore))) .nomore) .nomore) .nomore))))))))) (by kernel_rfl) (by kernel_rfl) ?_
 have hS19 := hS18.drew
 refine go3_batch [0, 1, 2, 3] (ans := []) (vs := [(13, pP bp0 4), (12, pP bp0 0), (11, pP bp0 0), (10, pP bp0 0)]) (l := []) (by kernel_rfl) trivial mem_nil3 ?_
 refine go3_batch [4] (ans := [.val (v2)]) (vs := [(14, v2)]) (l := [.loaded ⟨bp0, 4, none⟩ (v2)]) (by kernel_rfl) ⟨hS19.c 0, trivial⟩ (mem_one3 (by kernel_rfl)) ?_
 refine go3_batch [5, 6, 7] (ans := []) (vs := [(17, vI r1.1), (16, vI r2.1), (15, .func (.func 62) #[] #[])]) (l := []) (by kernel_rfl) trivial mem_nil3 ?_
 refine go_alt3 (fun KK hKK => ?_) ?_
 ·refine ge_one2 ?_
  refine ge_call (d := some 18) (f := 62) (args := #[vI r2.1, vI r1.1]) (by kernel_rfl) (mach_Machine_do_4_ok r2.1 r1.1 _ _ rfl) ?_
  rintro _ w3 ⟨rfl, hS20⟩
  refine ⟨_, rfl, hS20.below, ?_⟩
  have hS21 := hS19.call hS20
  refine ge_nil fun a hF => hKK _ _ (RS.of2 (l := [.loaded ⟨bp0, 4, none⟩ (v2)]) (by kernel_rfl) ⟨hS19.c 0, trivial⟩ ⟨hS21.c 0, trivial⟩) ?_ a hF
  refine go_alt3 (fun KK hKK => ?_) ?_
  ·refine ge_one2 ?_
   refine gw (some 19) (.cells #[vI (mach_Machine_do_4.f r2.1 r1.1)] 3) (fun b => .slice (some ⟨b, 0, none⟩) 1 1) hS21 fun b1 w4 hx1 hS22 => ?_
   refine ge_nil fun a hF => hKK _ _ (RS.of2 (l := [.loaded ⟨bp0, 4, none⟩ (v2)]) (by kernel_rfl) ⟨hS21.c 0, trivial⟩ ⟨hS22.c 1, trivial⟩) ?_ a hF
   refine go_alt3 (fun KK hKK => ?_) ?_
   ·have hS23 := hS22.bring 6 rfl
    by_cases hc1 : r2.2.length < 17592186044416
    ·rw [if_pos hc1] at h
     refine ge_append (α := Int) (m := 0) (d := 20) (t := 23) (el := 3) (bytes := 8) (c1 := 1) (b1 := b1) (x := (.tmp 14)) (y := (.tmp 19)) (ty := 23) (v := v2) (z := vI 0) (l := r2.2) (u := (mach_Machine_do_4.f r2.1 r1.1)) (by kernel_rfl) (by kernel_rfl) (by kernel_rfl) (by kernel_rfl) (by kernel_rfl) rfl hS23 rfl (by omega) fun v3 w5 hS24 => ?_
     refine ge_nil fun a hF => hKK _ _ (RS.of2 (l := []) (by kernel_rfl) trivial trivial) ?_ a hF
     refine go3_batch [11, 12] (ans := []) (vs := [(22, pP bp0 4), (21, pP bp0 0)]) (l := []) (by kernel_rfl) trivial mem_nil3 ?_
     refine go_alt3 (fun KK hKK => ?_) ?_
     ·obtain ⟨Z2, cz2, rfl⟩ := hS24.open 0 rfl
      have hS25 := hS24.bring 1 rfl
      refine gs bp0 4 #[(.slice Ap0_0 lp0_0.length cp0_0), (.slice Ap0_1 lp0_1.length cp0_1), (.slice Ap0_2 lp0_2.length cp0_2), (.slice Ap0_3 lp0_3.length cp0_3), v2, vI ((sp0_5[0]?).getD 0), vI ((sp0_5[1]?).getD 0), vI ((sp0_5[2]?).getD 0), vI ((sp0_5[3]?).getD 0), vI ((sp0_5[4]?).getD 0), vI ((sp0_5[5]?).getD 0), vI ((sp0_5[6]?).getD 0), vI ((sp0_5[7]?).getD 0), vI sp0_13, vI sp0_14] 71 [(.slice Z2 (r2.2 ++ [(mach_Machine_do_4.f r2.1 r1.1)]).length cz2)] hS25 fun w6 hS26 => ?_
      have hS27 : St w0 w6 [Own.blk bp0 (.cells #[(.slice Ap0_0 lp0_0.length cp0_0), (.slice Ap0_1 lp0_1.length cp0_1), (.slice Ap0_2 lp0_2.length cp0_2), (.slice Ap0_3 lp0_3.length cp0_3), (.slice Z2 (r2.2 ++ [(mach_Machine_do_4.f r2.1 r1.1)]).length cz2), vI ((sp0_5[0]?).getD 0), vI ((sp0_5[1]?).getD 0), vI ((sp0_5[2]?).getD 0), vI ((sp0_5[3]?).getD 0), vI ((sp0_5[4]?).getD 0), vI ((sp0_5[5]?).getD 0), vI ((sp0_5[6]?).getD 0), vI ((sp0_5[7]?).getD 0), vI sp0_13, vI sp0_14] 71 (0, 0)), Own.of (.slice Z2 (r2.2 ++ [(mach_Machine_do_4.f r2.1 r1.1)]).length cz2) 3 (r2.2 ++ [(mach_Machine_do_4.f r2.1 r1.1)]), Own.of (.slice Ap0_0 lp0_0.length cp0_0) 41 lp0_0, Own.of (.slice Ap0_1 lp0_1.length cp0_1) 3 lp0_1, Own.of (.slice Ap0_2 lp0_2.length cp0_2) 3 lp0_2, Own.of (.slice Ap0_3 lp0_3.length cp0_3) 56 lp0_3, Own.all LT] := hS26
      refine ge_nil fun a hF => hKK _ _ (RS.of2 (l := []) (by kernel_rfl) trivial trivial) ?_ a hF
      have hS28 := hS27.bring 6 rfl
      have hS29 := hS28.bring 2 rfl
      have hS30 := hS29.bring 6 rfl
      have hS31 := hS30.bring 6 rfl
      have hS32 := hS31.bring 6 rfl
      have hS33 := hS32.bring 6 rfl
      have hS34 := hS33.bring 6 rfl
      obtain rfl := si h
      exact go_fin3 (pe0 [] [] ⟨(.slice Z2 (r2.2 ++ [(mach_Machine_do_4.f r2.1 r1.1)]).length cz2), rfl, hS34⟩)
     exact go_nomore3
    ·rw [if_neg hc1] at h
     cases h
   exact go_nomore3
  exact go_nomore3
 exact go_nomore3

/-! (*punctual/mach.Machine).do$5 -/
abbrev mach_Machine_do_5.Post (w0 : World) (r : Int) (e : Ending) (w : World) : Prop := e = .returned (vI r) ∧ St w0 w []
def mach_Machine_do_5.f (x0 : Int) (x1 : Int) : Int :=
 (mach_truth.f (x0 == x1))
theorem mach_Machine_do_5_ok (x0 : Int) (x1 : Int) (w0 : World) (r : Int) (h : mach_Machine_do_5.f x0 x1 = r) :
  Calls Try.prog 64 #[vI x0, vI x1] w0 (mach_Machine_do_5.Post w0 r) := by
 have hS := St.start w0
 unfold mach_Machine_do_5.f at h
 refine calls_enter (n := 9) (args := [vI x0, vI x1]) (fn := Try.f64) rfl rfl rfl rfl ?_
 show WE _ _ _ _ [(0, vI x0), (1, vI x1)] _
 refine ws fun K1 hK1 => ?_
 refine wr [(0, 0)] ?_
 refine gb0 [0] [(4, vI 0)] ?_
 refine gn hK1 ?_
 refine ws fun K2 hK2 => ?_
 refine wr [(0, 0), (1, 0), (2, 0), (3, 1), (4, 0)] ?_
 refine gb0 [0, 1, 2] [(7, .bool (x0 == x1)), (6, vI x1), (5, vI x0)] ?_
 refine ge_call (d := some 8) (f := 63) (args := #[.bool (x0 == x1)]) (by kernel_rfl) (mach_truth_ok (x0 == x1) _ _ rfl) ?_
 rintro _ w1 ⟨rfl, hS1⟩
 refine ⟨_, rfl, hS1.below, ?_⟩
 have hS2 := hS.call hS1
 refine gb0 [4] [(4, vI (mach_truth.f (x0 == x1)))] ?_
 refine gn hK2 ?_
 subst h
 exact we_ret (pr0 [.tmp 4] [vI (mach_truth.f (x0 == x1))] ⟨rfl, hS2⟩)

/-! (*punctual/mach.Machine).two -/
abbrev mach_Machine_two_4.Post (w0 : World) (bp0 : Nat) (lp0_0 : List SIns) (Ap0_0 : Option Addr) (cp0_0 : Nat) (lp0_1 : List Int) (Ap0_1 : Option Addr) (cp0_1 : Nat) (lp0_2 : List Int) (Ap0_2 : Option Addr) (cp0_2 : Nat) (lp0_3 : List SPut) (Ap0_3 : Option Addr) (cp0_3 : Nat) (lp0_4 : List Int) (Ap0_4 : Option Addr) (cp0_4 : Nat) (sp0_5 : List Int) (sp0_13 : Int) (sp0_14 : Int) (LT : List Own) (r : List Int) (e : Ending) (w : World) : Prop := ∃ (nbp0_4 : Value), e = .returned (.tuple #[]) ∧ St w0 w [Own.blk bp0 (.cells #[(.slice Ap0_0 lp0_0.length cp0_0), (.slice Ap0_1 lp0_1.length cp0_1), (.slice Ap0_2 lp0_2.length cp0_2), (.slice Ap0_3 lp0_3.length cp0_3), nbp0_4, vI ((sp0_5[0]?).getD 0), vI ((sp0_5[1]?).getD 0), vI ((sp0_5[2]?).getD 0), vI ((sp0_5[3]?).getD 0), vI ((sp0_5[4]?).getD 0), vI ((sp0_5[5]?).getD 0), vI ((sp0_5[6]?).getD 0), vI ((sp0_5[7]?).getD 0), vI sp0_13, vI sp0_14] 71 (0, 0)), Own.of (.slice Ap0_0 lp0_0.length cp0_0) 41 lp0_0, Own.of (.slice Ap0_1 lp0_1.length cp0_1) 3 lp0_1, Own.of (.slice Ap0_2 lp0_2.length cp0_2) 3 lp0_2, Own.of (.slice Ap0_3 lp0_3.length cp0_3) 56 lp0_3, Own.of nbp0_4 3 r, Own.all LT]
def mach_Machine_two_4.f (lp0_0 : List SIns) (lp0_1 : List Int) (lp0_2 : List Int) (lp0_3 : List SPut) (lp0_4 : List Int) (sp0_5 : List Int) (sp0_13 : Int) (sp0_14 : Int) : Option (List Int) :=
 match mach_Machine_pop.f lp0_0 lp0_1 lp0_2 lp0_3 lp0_4 sp0_5 sp0_13 sp0_14 with
 | none => none
 | some r1 =>
  match mach_Machine_pop.f lp0_0 lp0_1 lp0_2 lp0_3 r1.2 sp0_5 sp0_13 sp0_14 with
  | none => none
  | some r2 =>
   if r2.2.length < 17592186044416 then
    some (r2.2 ++ [(mach_Machine_do_5.f r2.1 r1.1)])
   else
    none
theorem mach_Machine_two_4_ok (bp0 : Nat) (lp0_0 : List SIns) (Ap0_0 : Option Addr) (cp0_0 : Nat) (lp0_1 : List Int) (Ap0_1 : Option Addr) (cp0_1 : Nat) (lp0_2 : List Int) (Ap0_2 : Option Addr) (cp0_2 : Nat) (lp0_3 : List SPut) (Ap0_3 : Option Addr) (cp0_3 : Nat) (lp0_4 : List Int) (Ap0_4 : Option Addr) (cp0_4 : Nat) (sp0_5 : List Int) (sp0_13 : Int) (sp0_14 : Int) (w0 wE : World) (LT : List Own) (hS : St w0 wE [Own.blk bp0 (.cells #[(.slice Ap0_0 lp0_0.length cp0_0), (.slice Ap0_1 lp0_1.length cp0_1), (.slice Ap0_2 lp0_2.length cp0_2), (.slice Ap0_3 lp0_3.length cp0_3), (.slice Ap0_4 lp0_4.length cp0_4), vI ((sp0_5[0]?).getD 0), vI ((sp0_5[1]?).getD 0), vI ((sp0_5[2]?).getD 0), vI ((sp0_5[3]?).getD 0), vI ((sp0_5[4]?).getD 0), vI ((sp0_5[5]?).getD 0), vI ((sp0_5[6]?).getD 0), vI ((sp0_5[7]?).getD 0), vI sp0_13, vI sp0_14] 71 (0, 0)), Own.of (.slice Ap0_0 lp0_0.length cp0_0) 41 lp0_0, Own.of (.slice Ap0_1 lp0_1.length cp0_1) 3 lp0_1, Own.of (.slice Ap0_2 lp0_2.length cp0_2) 3 lp0_2, Own.of (.slice Ap0_3 lp0_3.length cp0_3) 56 lp0_3, Own.of (.slice Ap0_4 lp0_4.length cp0_4) 3 lp0_4, Own.all LT]) (r : List Int) (h : mach_Machine_two_4.f lp0_0 lp0_1 lp0_2 lp0_3 lp0_4 sp0_5 sp0_13 sp0_14 = some r) :
  Calls Try.prog 58 #[pP bp0 0, .func (.func 64) #[] #[]] wE (mach_Machine_two_4.Post w0 bp0 lp0_0 Ap0_0 cp0_0 lp0_1 Ap0_1 cp0_1 lp0_2 Ap0_2 cp0_2 lp0_3 Ap0_3 cp0_3 lp0_4 Ap0_4 cp0_4 sp0_5 sp0_13 sp0_14 LT r) := by
 unfold mach_Machine_two_4.f at h
 refine calls_enter (n := 23) (args := [pP bp0 0, .func (.func 64) #[] #[]]) (fn := Try.f58) rfl rfl rfl rfl ?_
 show WE _ _ _ _ [(0, pP bp0 0), (1, .func (.func 64) #[] #[])] _
 refine ws fun K1 hK1 => ?_
 refine wr [(0, 0), (1, 2), (2, 0)] ?_
 refine gb0 [0] [(6, pP bp0 0)] ?_
 rcases hq1 : mach_Machine_pop.f lp0_0 lp0_1 lp0_2 lp0_3 lp0_4 sp0_5 sp0_13 sp0_14 with _ | r1
 ·rw [hq1] at h; cases h
 rw [hq1] at h
 simp only [] at h
 have hS1 := hS.bring 5 rfl
 have hS2 := hS1.bring 5 rfl
 have hS3 := hS2.bring 5 rfl
 have hS4 := hS3.bring 5 rfl
 have hS5 := hS4.bring 5 rfl
 have hS6 := hS5.bring 5 rfl
 have hS8 : St w0 wE [Own.blk bp0 (.cells #[(.slice Ap0_0 lp0_0.length cp0_0), (.slice Ap0_1 lp0_1.length cp0_1), (.slice Ap0_2 lp0_2.length cp0_2), (.slice Ap0_3 lp0_3.length cp0_3), (.slice Ap0_4 lp0_4.length cp0_4), vI ((sp0_5[0]?).getD 0), vI ((sp0_5[1]?).getD 0), vI ((sp0_5[2]?).getD 0), vI ((sp0_5[3]?).getD 0), vI ((sp0_5[4]?).getD 0), vI ((sp0_5[5]?).getD 0), vI ((sp0_5[6]?).getD 0), vI ((sp0_5[7]?).getD 0), vI sp0_13, vI sp0_14] 71 (0, 0)), Own.of (.slice Ap0_0 lp0_0.length cp0_0) 41 lp0_0, Own.of (.slice Ap0_1 lp0_1.length cp0_1) 3 lp0_1, Own.of (.slice Ap0_2 lp0_2.length cp0_2) 3 lp0_2, Own.of (.slice Ap0_3 lp0_3.length cp0_3) 56 lp0_3, Own.of (.slice Ap0_4 lp0_4.length cp0_4) 3 lp0_4, Own.all [Own.all LT]] := hS6.packN 6
 refine ge_call2 (m := 0) (d := some 7) (f := 57) (args := #[pP bp0 0]) (by kernel_rfl) (mach_Machine_pop_ok bp0 lp0_0 Ap0_0 cp0_0 lp0_1 Ap0_1 cp0_1 lp0_2 Ap0_2 cp0_2 lp0_3 Ap0_3 cp0_3 lp0_4 Ap0_4 cp0_4 sp0_5 sp0_13 sp0_14 _ _ _ hS8 _ hq1) ?_
 rintro _ w1 ⟨v1, rfl, hS7⟩
 refine ⟨_, rfl, ?_⟩
 have hS9 : St w0 w1 [Own.blk bp0 (.cells #[(.slice Ap0_0 lp0_0.length cp0_0), (.slice Ap0_1 lp0_1.length cp0_1), (.slice Ap0_2 lp0_2.length cp0_2), (.slice Ap0_3 lp0_3.length cp0_3), v1, vI ((sp0_5[0]?).getD 0), vI ((sp0_5[1]?).getD 0), vI ((sp0_5[2]?).getD 0), vI ((sp0_5[3]?).getD 0), vI ((sp0_5[4]?).getD 0), vI ((sp0_5[5]?).getD 0), vI ((sp0_5[6]?).getD 0), vI ((sp0_5[7]?).getD 0), vI sp0_13, vI sp0_14] 71 (0, 0)), Own.of (.slice Ap0_0 lp0_0.length cp0_0) 41 lp0_0, Own.of (.slice Ap0_1 lp0_1.length cp0_1) 3 lp0_1, Own.of (.slice Ap0_2 lp0_2.length cp0_2) 3 lp0_2, Own.of (.slice Ap0_3 lp0_3.length cp0_3) 56 lp0_3, Own.of v1 3 r1.2, Own.all LT] := hS7.unpack [Own.blk bp0 (.cells #[(.slice Ap0_0 lp0_0.length cp0_0), (.slice Ap0_1 lp0_1.length cp0_1), (.slice Ap0_2 lp0_2.length cp0_2), (.slice Ap0_3 lp0_3.length cp0_3), v1, vI ((sp0_5[0]?).getD 0), vI ((sp0_5[1]?).getD 0), vI ((sp0_5[2]?).getD 0), vI ((sp0_5[3]?).getD 0), vI ((sp0_5[4]?).getD 0), vI ((sp0_5[5]?).getD 0), vI ((sp0_5[6]?).getD 0), vI ((sp0_5[7]?).getD 0), vI sp0_13, vI sp0_14] 71 (0, 0)), Own.of (.slice Ap0_0 lp0_0.length cp0_0) 41 lp0_0, Own.of (.slice Ap0_1 lp0_1.length cp0_1) 3 lp0_1, Own.of (.slice Ap0_2 lp0_2.length cp0_2) 3 lp0_2, Own.of (.slice Ap0_3 lp0_3.length cp0_3) 56 lp0_3, Own.of v1 3 r1.2]
 refine gb0 [2] [(4, vI r1.1)] ?_
 refine gn hK1 ?_
 refine ws fun K2 hK2 => ?_
 refine wr [(0, 0), (1, 2), (2, 0)] ?_
 refine gb0 [0] [(8, pP bp0 0)] ?_
 obtain ⟨Z1, cz1, rfl⟩ := hS9.open 5 rfl
 rcases hq2 : mach_Machine_pop.f lp0_0 lp0_1 lp0_2 lp0_3 r1.2 sp0_5 sp0_13 sp0_14 with _ | r2
 ·rw [hq2] at h; cases h
 rw [hq2] at h
 simp only [] at h
 have hS10 := hS9.bring 5 rfl
 have hS11 := hS10.bring 5 rfl
 have hS12 := hS11.bring 5 rfl
 have hS13 := hS12.bring 5 rfl
 have hS14 := hS13.bring 5 rfl
 have hS15 := hS14.bring 5 rfl
 have hS17 : St w0 w1 [Own.blk bp0 (.cells #[(.slice Ap0_0 lp0_0.length cp0_0), (.slice Ap0_1 lp0_1.length cp0_1), (.slice Ap0_2 lp0_2.length cp0_2), (.slice Ap0_3 lp0_3.length cp0_3), (.slice Z1 r1.2.length cz1), vI ((sp0_5[0]?).getD 0), vI ((sp0_5[1]?).getD 0), vI ((sp0_5[2]?).getD 0), vI ((sp0_5[3]?).getD 0), vI ((sp0_5[4]?).getD 0), vI ((sp0_5[5]?).getD 0), vI ((sp0_5[6]?).getD 0), vI ((sp0_5[7]?).getD 0), vI sp0_13, vI sp0_14] 71 (0, 0)), Own.of (.slice Ap0_0 lp0_0.length cp0_0) 41 lp0_0, Own.of (.slice Ap0_1 lp0_1.length cp0_1) 3 lp0_1, Own.of (.slice Ap0_2 lp0_2.length cp0_2) 3 lp0_2, Own.of (.slice Ap0_3 lp0_3.length cp0_3) 56 lp0_3, Own.of (.slice Z1 r1.2.length cz1) 3 r1.2, Own.all [Own.all LT]] := hS15.packN 6
 refine ge_call2 (m := 0) (d := some 9) (f := 57) (args := #[pP bp0 0]) (by kernel_rfl) (mach_Machine_pop_ok bp0 lp0_0 Ap0_0 cp0_0 lp0_1 Ap0_1 cp0_1 lp0_2 Ap0_2 cp0_2 lp0_3 Ap0_3 cp0_3 r1.2 Z1 cz1 sp0_5 sp0_13 sp0_14 _ _ _ hS17 _ hq2) ?_
 rintro _ w2 ⟨v2, rfl, hS16⟩
 refine ⟨_, rfl, ?_⟩
 have hS18 : St w0 w2 [Own.blk bp0 (.cells #[(.slice Ap0_0 lp0_0.length cp0_0), (.slice Ap0_1 lp0_1.length cp0_1), (.slice Ap0_2 lp0_2.length cp0_2), (.slice Ap0_3 lp0_3.length cp0_3), v2, vI ((sp0_5[0]?).getD 0), vI ((sp0_5[1]?).getD 0), vI ((sp0_5[2]?).getD 0), vI ((sp0_5[3]?).getD 0), vI ((sp0_5[4]?).getD 0), vI ((sp0_5[5]?).getD 0), vI ((sp0_5[6]?).getD 0), vI ((sp0_5[7]?).getD 0), vI sp0_13, vI sp0_14] 71 (0, 0)), Own.of (.slice Ap0_0 lp0_0.length cp0_0) 41 lp0_0, Own.of (.slice Ap0_1 lp0_1.length cp0_1) 3 lp0_1, Own.of (.slice Ap0_2 lp0_2.length cp0_2) 3 lp0_2, Own.of (.slice Ap0_3 lp0_3.length cp0_3) 56 lp0_3, Own.of v2 3 r2.2, Own.all LT] := hS16.unpack [Own.blk bp0 (.cells #[(.slice Ap0_0 lp0_0.length cp0_0), (.slice Ap0_1 lp0_1.length cp0_1), (.slice Ap0_2 lp0_2.length cp0_2), (.slice Ap0_3 lp0_3.length cp0_3), v2, vI ((sp0_5[0]?).getD 0), vI ((sp0_5[1]?).getD 0), vI ((sp0_5[2]?).getD 0), vI ((sp0_5[3]?).getD 0), vI ((sp0_5[4]?).getD 0), vI ((sp0_5[5]?).getD 0), vI ((sp0_5[6]?).getD 0), vI ((sp0_5[7]?).getD 0), vI sp0_13, vI sp0_14] 71 (0, 0)), Own.of (.slice Ap0_0 lp0_0.length cp0_0) 41 lp0_0, Own.of (.slice Ap0_1 lp0_1.length cp0_1) 3 lp0_1, Own.of (.slice Ap0_2 lp0_2.length cp0_2) 3 lp0_2, Own.of (.slice Ap0_3 lp0_3.length cp0_3) 56 lp0_3, Own.of v2 3 r2.2]
 refine gb0 [2] [(5, vI r2.1)] ?_
 refine gn hK2 ?_
 refine we_orders3 (by kernel_rfl) [(4, [⟨bp0, 4, none⟩], [], [])] (.vals [0] (.vals [1] (.vals [2] (.vals [3] (.vals [4] (.vals [5] (.vals [6] (.vals [7] (.alt 8 1 (.alt 9 1 (.alt 10 2 (.vals [11] (.vals [12] (.alt 13 2 .fin .nomore))) .nomore) .nomore) .nomore))))))))) (by kernel_rfl) (by kernel_rfl) ?_
 have hS19 := hS18.drew
 refine go3_batch [0, 1, 2, 3] (ans := []) (vs := [(13, pP bp0 4), (12, pP bp0 0), (11, pP bp0 0), (10, pP bp0 0)]) (l := []) (by kernel_rfl) trivial mem_nil3 ?_
 refine go3_batch [4] (ans := [.val (v2)]) (vs := [(14, v2)]) (l := [.loaded ⟨bp0, 4, none⟩ (v2)]) (by kernel_rfl) ⟨hS19.c 0, trivial⟩ (mem_one3 (by kernel_rfl)) ?_
 refine go3_batch [5, 6, 7] (ans := []) (vs := [(17, vI r1.1), (16, vI r2.1), (15, .func (.func 64) #[] #[])]) (l := []) (by kernel_rfl) trivial mem_nil3 ?_
 refine go_alt3 (fun KK hKK => ?_) ?_
 ·refine ge_one2 ?_
  refine ge_call (d := some 18) (f := 64) (args := #[vI r2.1, vI r1.1]) (by kernel_rfl) (mach_Machine_do_5_ok r2.1 r1.1 _ _ rfl) ?_
  rintro _ w3 ⟨rfl, hS20⟩
  refine ⟨_, rfl, hS20.below, ?_⟩
  have hS21 := hS19.call hS20
  refine ge_nil fun a hF => hKK _ _ (RS.of2 (l := [.loaded ⟨bp0, 4, none⟩ (v2)]) (by kernel_rfl) ⟨hS19.c 0, trivial⟩ ⟨hS21.c 0, trivial⟩) ?_ a hF
  refine go_alt3 (fun KK hKK => ?_) ?_
  ·refine ge_one2 ?_
   refine gw (some 19) (.cells #[vI (mach_Machine_do_5.f r2.1 r1.1)] 3) (fun b => .slice (some ⟨b, 0, none⟩) 1 1) hS21 fun b1 w4 hx1 hS22 => ?_
   refine ge_nil fun a hF => hKK _ _ (RS.of2 (l := [.loaded ⟨bp0, 4, none⟩ (v2)]) (by kernel_rfl) ⟨hS21.c 0, trivial⟩ ⟨hS22.c 1, trivial⟩) ?_ a hF
   refine go_alt3 (fun KK hKK => ?_) ?_
   ·have hS23 := hS22.bring 6 rfl
    by_cases hc1 : r2.2.length < 17592186044416
    ·rw [if_pos hc1] at h
     refine ge_append (α := Int) (m := 0) (d := 20) (t := 23) (el := 3) (bytes := 8) (c1 := 1) (b1 := b1) (x := (.tmp 14)) (y := (.tmp 19)) (ty := 23) (v := v2) (z := vI 0) (l := r2.2) (u := (mach_Machine_do_5.f r2.1 r1.1)) (by kernel_rfl) (by kernel_rfl) (by kernel_rfl) (by kernel_rfl) (by kernel_rfl) rfl hS23 rfl (by omega) fun v3 w5 hS24 => ?_
     refine ge_nil fun a hF => hKK _ _ (RS.of2 (l := []) (by kernel_rfl) trivial trivial) ?_ a hF
     refine go3_batch [11, 12] (ans := []) (vs := [(22, pP bp0 4), (21, pP bp0 0)]) (l := []) (by kernel_rfl) trivial mem_nil3 ?_
     refine go_alt3 (fun KK hKK => ?_) ?_
     ·obtain ⟨Z2, cz2, rfl⟩ := hS24.open 0 rfl
      have hS25 := hS24.bring 1 rfl
      refine gs bp0 4 #[(.slice Ap0_0 lp0_0.length cp0_0), (.slice Ap0_1 lp0_1.length cp0_1), (.slice Ap0_2 lp0_2.length cp0_2), (.slice Ap0_3 lp0_3.length cp0_3), v2, vI ((sp0_5[0]?).getD 0), vI ((sp0_5[1]?).getD 0), vI ((sp0_5[2]?).getD 0), vI ((sp0_5[3]?).getD 0), vI ((sp0_5[4]?).getD 0), vI ((sp0_5[5]?).getD 0), vI ((sp0_5[6]?).getD 0), vI ((sp0_5[7]?).getD 0), vI sp0_13, vI sp0_14] 71 [(.slice Z2 (r2.2 ++ [(mach_Machine_do_5.f r2.1 r1.1)]).length cz2)] hS25 fun w6 hS26 => ?_
      have hS27 : St w0 w6 [Own.blk bp0 (.cells #[(.slice Ap0_0 lp0_0.length cp0_0), (.slice Ap0_1 lp0_1.length cp0_1), (.slice Ap0_2 lp0_2.length cp0_2), (.slice Ap0_3 lp0_3.length cp0_3), (.slice Z2 (r2.2 ++ [(mach_Machine_do_5.f r2.1 r1.1)]).length cz2), vI ((sp0_5[0]?).getD 0), vI ((sp0_5[1]?).getD 0), vI ((sp0_5[2]?).getD 0), vI ((sp0_5[3]?).getD 0), vI ((sp0_5[4]?).getD 0), vI ((sp0_5[5]?).getD 0), vI ((sp0_5[6]?).getD 0), vI ((sp0_5[7]?).getD 0), vI sp0_13, vI sp0_14] 71 (0, 0)), Own.of (.slice Z2 (r2.2 ++ [(mach_Machine_do_5.f r2.1 r1.1)]).length cz2) 3 (r2.2 ++ [(mach_Machine_do_5.f r2.1 r1.1)]), Own.of (.slice Ap0_0 lp0_0.length cp0_0) 41 lp0_0, Own.of (.slice Ap0_1 lp0_1.length cp0_1) 3 lp0_1, Own.of (.slice Ap0_2 lp0_2.length cp0_2) 3 lp0_2, Own.of (.slice Ap0_3 lp0_3.length cp0_3) 56 lp0_3, Own.all LT] := hS26
      refine ge_nil fun a hF => hKK _ _ (RS.of2 (l := []) (by kernel_rfl) trivial trivial) ?_ a hF
      have hS28 := hS27.bring 6 rfl
      have hS29 := hS28.bring 2 rfl
      have hS30 := hS29.bring 6 rfl
      have hS31 := hS30.bring 6 rfl
      have hS32 := hS31.bring 6 rfl
      have hS33 := hS32.bring 6 rfl
      have hS34 := hS33.bring 6 rfl
      obtain rfl := si h
      exact go_fin3 (pe0 [] [] ⟨(.slice Z2 (r2.2 ++ [(mach_Machine_do_5.f r2.1 r1.1)]).length cz2), rfl, hS34⟩)
     exact go_nomore3
    ·rw [if_neg hc1] at h
     cases h
   exact go_nomore3
  exact go_nomore3
 exact go_nomore3

/-! (*punctual/mach.Machine).do -/
abbrev mach_Machine_do.Post (w0 : World) (bp0 : Nat) (lp0_0 : List SIns) (Ap0_0 : Option Addr) (cp0_0 : Nat) (lp0_1 : List Int) (Ap0_1 : Option Addr) (cp0_1 : Nat) (lp0_2 : List Int) (Ap0_2 : Option Addr) (cp0_2 : Nat) (lp0_3 : List SPut) (Ap0_3 : Option Addr) (cp0_3 : Nat) (lp0_4 : List Int) (Ap0_4 : Option Addr) (cp0_4 : Nat) (sp0_5 : List Int) (sp0_13 : Int) (sp0_14 : Int) (x1 : SIns) (LT : List Own) (r : Int × (List Int) × (List SPut) × (List Int) × (List Int)) (e : Ending) (w : World) : Prop := ∃ (nbp0_2 : Value) (nbp0_3 : Value) (nbp0_4 : Value), e = .returned (vI r.1) ∧ St w0 w [Own.blk bp0 (.cells #[(.slice Ap0_0 lp0_0.length cp0_0), (.slice Ap0_1 lp0_1.length cp0_1), nbp0_2, nbp0_3, nbp0_4, vI ((r.2.2.2.2[0]?).getD 0), vI ((r.2.2.2.2[1]?).getD 0), vI ((r.2.2.2.2[2]?).getD 0), vI ((r.2.2.2.2[3]?).getD 0), vI ((r.2.2.2.2[4]?).getD 0), vI ((r.2.2.2.2[5]?).getD 0), vI ((r.2.2.2.2[6]?).getD 0), vI ((r.2.2.2.2[7]?).getD 0), vI sp0_13, vI sp0_14] 71 (0, 0)), Own.of (.slice Ap0_0 lp0_0.length cp0_0) 41 lp0_0, Own.of (.slice Ap0_1 lp0_1.length cp0_1) 3 lp0_1, Own.of nbp0_2 3 r.2.1, Own.of nbp0_3 56 r.2.2.1, Own.of nbp0_4 3 r.2.2.2.1, Own.all LT]
def mach_Machine_do.f (lp0_0 : List SIns) (lp0_1 : List Int) (lp0_2 : List Int) (lp0_3 : List SPut) (lp0_4 : List Int) (sp0_5 : List Int) (sp0_13 : Int) (sp0_14 : Int) (x1 : SIns) : Option (Int × (List Int) × (List SPut) × (List Int) × (List Int)) :=
 if x1.Op = 1 then
  if lp0_4.length < 17592186044416 then
   some (IntKind.i64.wrap (sp0_13 + 1), lp0_2, lp0_3, (lp0_4 ++ [x1.A]), sp0_5)
  else
   none
 else
  if x1.Op = 2 then
   if 0 ≤ x1.A then
    match lp0_2[(x1.A).toNat]? with
    | none => none
    | some e1 =>
     if lp0_4.length < 17592186044416 then
      some (IntKind.i64.wrap (sp0_13 + 1), lp0_2, lp0_3, (lp0_4 ++ [e1]), sp0_5)
     else
      none
   else
    none
  else
   if x1.Op = 3 then
    match mach_Machine_pop.f lp0_0 lp0_1 lp0_2 lp0_3 lp0_4 sp0_5 sp0_13 sp0_14 with
    | none => none
    | some r1 =>
     if 0 ≤ x1.A then
      match lp0_2[(x1.A).toNat]? with
      | none => none
      | some e2 =>
       some (IntKind.i64.wrap (sp0_13 + 1), (lp0_2.set ((x1.A).toNat) r1.1), lp0_3, r1.2, sp0_5)
     else
      none
   else
    if x1.Op = 4 then
     match mach_Machine_two.f lp0_0 lp0_1 lp0_2 lp0_3 lp0_4 sp0_5 sp0_13 sp0_14 with
     | none => none
     | some r2 =>
      some (IntKind.i64.wrap (sp0_13 + 1), lp0_2, lp0_3, r2, sp0_5)
    else
     if x1.Op = 5 then
      match mach_Machine_two_1.f lp0_0 lp0_1 lp0_2 lp0_3 lp0_4 sp0_5 sp0_13 sp0_14 with
      | none => none
      | some r3 =>
       some (IntKind.i64.wrap (sp0_13 + 1), lp0_2, lp0_3, r3, sp0_5)
     else
      if x1.Op = 6 then
       match mach_Machine_two_2.f lp0_0 lp0_1 lp0_2 lp0_3 lp0_4 sp0_5 sp0_13 sp0_14 with
       | none => none
       | some r4 =>
        some (IntKind.i64.wrap (sp0_13 + 1), lp0_2, lp0_3, r4, sp0_5)
      else
       if x1.Op = 7 then
        match mach_Machine_two_3.f lp0_0 lp0_1 lp0_2 lp0_3 lp0_4 sp0_5 sp0_13 sp0_14 with
        | none => none
        | some r5 =>
         some (IntKind.i64.wrap (sp0_13 + 1), lp0_2, lp0_3, r5, sp0_5)
       else
        if x1.Op = 8 then
         match mach_Machine_two_4.f lp0_0 lp0_1 lp0_2 lp0_3 lp0_4 sp0_5 sp0_13 sp0_14 with
         | none => none
         | some r6 =>
          some (IntKind.i64.wrap (sp0_13 + 1), lp0_2, lp0_3, r6, sp0_5)
        else
         if x1.Op = 9 then
          if 0 ≤ x1.A then
           match lp0_1[(x1.A).toNat]? with
           | none => none
           | some e3 =>
            if lp0_4.length < 17592186044416 then
             some (IntKind.i64.wrap (sp0_13 + 1), lp0_2, lp0_3, (lp0_4 ++ [e3]), sp0_5)
            else
             none
          else
           none
         else
          if x1.Op = 10 then
           match mach_Machine_pop.f lp0_0 lp0_1 lp0_2 lp0_3 lp0_4 sp0_5 sp0_13 sp0_14 with
           | none => none
           | some r7 =>
            if lp0_3.length < 8796093022208 then
             some (IntKind.i64.wrap (sp0_13 + 1), lp0_2, (lp0_3 ++ [(⟨x1.A, r7.1⟩ : SPut)]), r7.2, sp0_5)
            else
             none
          else
           if x1.Op = 11 then
            some (x1.A, lp0_2, lp0_3, lp0_4, sp0_5)
           else
            if x1.Op = 12 then
             match mach_Machine_pop.f lp0_0 lp0_1 lp0_2 lp0_3 lp0_4 sp0_5 sp0_13 sp0_14 with
             | none => none
             | some r8 =>
              if r8.1 = 0 then
               some (x1.A, lp0_2, lp0_3, r8.2, sp0_5)
              else
               some (IntKind.i64.wrap (sp0_13 + 1), lp0_2, lp0_3, r8.2, sp0_5)
            else
             if x1.Op = 13 then
              if 0 ≤ x1.A then
               match (arrN 8 sp0_5)[(x1.A).toNat]? with
               | none => none
               | some e4 =>
                some (IntKind.i64.wrap (sp0_13 + 1), lp0_2, lp0_3, lp0_4, ((arrN 8 sp0_5).set ((x1.A).toNat) x1.B))
              else
               none
             else
              if x1.Op = 14 then
               if 0 ≤ x1.A then
                match (arrN 8 sp0_5)[(x1.A).toNat]? with
                | none => none
                | some e5 =>
                 if e5 > 0 then
                  some (x1.B, lp0_2, lp0_3, lp0_4, ((arrN 8 sp0_5).set ((x1.A).toNat) (IntKind.i64.wrap (e5 - 1))))
                 else
                  some (IntKind.i64.wrap (sp0_13 + 1), lp0_2, lp0_3, lp0_4, sp0_5)
               else
                none
              else
               if x1.Op = 15 then
                if 0 ≤ x1.A then
                 match (arrN 8 sp0_5)[(x1.A).toNat]? with
                 | none => none
                 | some e6 =>
                  some (IntKind.i64.wrap (sp0_13 + 1), lp0_2, lp0_3, lp0_4, ((arrN 8 sp0_5).set ((x1.A).toNat) 0))
                else
                 none
               else
                some (IntKind.i64.wrap (sp0_13 + 1), lp0_2, lp0_3, lp0_4, sp0_5)
theorem mach_Machine_do_ok (bp0 : Nat) (lp0_0 : List SIns) (Ap0_0 : Option Addr) (cp0_0 : Nat) (lp0_1 : List Int) (Ap0_1 : Option Addr) (cp0_1 : Nat) (lp0_2 : List Int) (Ap0_2 : Option Addr) (cp0_2 : Nat) (lp0_3 : List SPut) (Ap0_3 : Option Addr) (cp0_3 : Nat) (lp0_4 : List Int) (Ap0_4 : Option Addr) (cp0_4 : Nat) (sp0_5 : List Int) (sp0_13 : Int) (sp0_14 : Int) (x1 : SIns) (w0 wE : World) (LT : List Own) (hS : St w0 wE [Own.blk bp0 (.cells #[(.slice Ap0_0 lp0_0.length cp0_0), (.slice Ap0_1 lp0_1.length cp0_1), (.slice Ap0_2 lp0_2.length cp0_2), (.slice Ap0_3 lp0_3.length cp0_3), (.slice Ap0_4 lp0_4.length cp0_4), vI ((sp0_5[0]?).getD 0), vI ((sp0_5[1]?).getD 0), vI ((sp0_5[2]?).getD 0), vI ((sp0_5[3]?).getD 0), vI ((sp0_5[4]?).getD 0), vI ((sp0_5[5]?).getD 0), vI ((sp0_5[6]?).getD 0), vI ((sp0_5[7]?).getD 0), vI sp0_13, vI sp0_14] 71 (0, 0)), Own.of (.slice Ap0_0 lp0_0.length cp0_0) 41 lp0_0, Own.of (.slice Ap0_1 lp0_1.length cp0_1) 3 lp0_1, Own.of (.slice Ap0_2 lp0_2.length cp0_2) 3 lp0_2, Own.of (.slice Ap0_3 lp0_3.length cp0_3) 56 lp0_3, Own.of (.slice Ap0_4 lp0_4.length cp0_4) 3 lp0_4, Own.all LT]) (r : Int × (List Int) × (List SPut) × (List Int) × (List Int)) (h : mach_Machine_do.f lp0_0 lp0_1 lp0_2 lp0_3 lp0_4 sp0_5 sp0_13 sp0_14 x1 = some r) :
  Calls Try.prog 46 #[pP bp0 0, .agg #[vI x1.Op, vI x1.A, vI x1.B]] wE (mach_Machine_do.Post w0 bp0 lp0_0 Ap0_0 cp0_0 lp0_1 Ap0_1 cp0_1 lp0_2 Ap0_2 cp0_2 lp0_3 Ap0_3 cp0_3 lp0_4 Ap0_4 cp0_4 sp0_5 sp0_13 sp0_14 x1 LT r) := by
 unfold mach_Machine_do.f at h
 refine calls_enter (n := 162) (args := [pP bp0 0, .agg #[vI x1.Op, vI x1.A, vI x1.B]]) (fn := Try.f46) rfl rfl rfl rfl ?_
 show WE _ _ _ _ [(0, pP bp0 0), (1, .agg #[vI x1.Op, vI x1.A, vI x1.B])] _
 refine ws fun K1 hK1 => ?_
 refine wr [(0, 1), (1, 0)] ?_
 refine gw (some 3) (.cells #[vI x1.Op, vI x1.A, vI x1.B] 41) (fun b => pP b 0) hS fun b1 w1 hx1 hS1 => ?_
 refine gb0 [1] [(4, vI 0)] ?_
 refine gn hK1 ?_
 refine ws fun K2 hK2 => ?_
 refine ws fun K3 hK3 => ?_
 refine wr [(0, 0), (1, 0)] ?_
 refine gb [0, 1] [(6, vI x1.Op), (5, pP b1 0)] [.loaded ⟨b1, 0, none⟩ (vI x1.Op)] ⟨hS1.c 0, trivial⟩ ?_
 refine gn hK3 ?_
 refine we_block ?_
 refine ws fun K4 hK4 => ?_
 refine wr [(0, 0), (1, 0)] ?_
 refine gb0 [0, 1] [(7, .bool (x1.Op == 1)), (8, .bool (x1.Op == 1))] ?_
 refine gn hK4 ?_
 by_cases hc1 : x1.Op = 1
 ·rw [if_pos hc1] at h
  refine wk 7 (x1.Op == 1) true (beq_iff_eq.2 hc1) ?_
  refine we_true (by kernel_rfl) ?_
  refine we_orders3 (by kernel_rfl) [(4, [⟨bp0, 4, none⟩], [], []), (6, [⟨b1, 1, none⟩], [7, 8], [])] (.vals [0] (.vals [1] (.vals [2] (.vals [3] (.vals [4] (.vals [5] (.vals [6] (.alt 7 1 (.alt 8 2 (.vals [9] (.vals [10] (.alt 11 2 .fin .nomore))) .nomore) .nomore)))))))) (by kernel_rfl) (by kernel_rfl) ?_
  have hS2 := hS1.drew
  refine go3_batch [0, 1, 2, 3] (ans := []) (vs := [(12, pP bp0 4), (11, pP bp0 0), (10, pP bp0 0), (9, pP bp0 0)]) (l := []) (by kernel_rfl) trivial mem_nil3 ?_
  refine go3_batch [4] (ans := [.val ((.slice Ap0_4 lp0_4.length cp0_4))]) (vs := [(13, (.slice Ap0_4 lp0_4.length cp0_4))]) (l := [.loaded ⟨bp0, 4, none⟩ ((.slice Ap0_4 lp0_4.length cp0_4))]) (by kernel_rfl) ⟨hS2.c 1, trivial⟩ (mem_one3 (by kernel_rfl)) ?_
  refine go3_batch [5] (ans := []) (vs := [(14, pP b1 1)]) (l := []) (by kernel_rfl) trivial mem_nil3 ?_
  refine go3_batch [6] (ans := [.val (vI x1.A)]) (vs := [(15, vI x1.A)]) (l := [.loaded ⟨b1, 1, none⟩ (vI x1.A)]) (by kernel_rfl) ⟨hS2.c 0, trivial⟩ (mem_one3 (by kernel_rfl)) ?_
  refine go_alt3 (fun KK hKK => ?_) ?_
  ·refine ge_one2 ?_
   refine gw (some 16) (.cells #[vI x1.A] 3) (fun b => .slice (some ⟨b, 0, none⟩) 1 1) hS2 fun b2 w2 hx2 hS3 => ?_
   refine ge_nil fun a hF => hKK _ _ (RS.of2 (l := [.loaded ⟨bp0, 4, none⟩ ((.slice Ap0_4 lp0_4.length cp0_4))]) (by kernel_rfl) ⟨hS2.c 1, trivial⟩ ⟨hS3.c 2, trivial⟩) ?_ a hF
   refine go_alt3 (fun KK hKK => ?_) ?_
   ·have hS4 := hS3.bring 7 rfl
    by_cases hc2 : lp0_4.length < 17592186044416
    ·rw [if_pos hc2] at h
     refine ge_append (α := Int) (m := 0) (d := 17) (t := 23) (el := 3) (bytes := 8) (c1 := 1) (b1 := b2) (x := (.tmp 13)) (y := (.tmp 16)) (ty := 23) (v := (.slice Ap0_4 lp0_4.length cp0_4)) (z := vI 0) (l := lp0_4) (u := x1.A) (by kernel_rfl) (by kernel_rfl) (by kernel_rfl) (by kernel_rfl) (by kernel_rfl) rfl hS4 rfl (by omega) fun v1 w3 hS5 => ?_
     refine ge_nil fun a hF => hKK _ _ (RS.of2 (l := []) (by kernel_rfl) trivial trivial) ?_ a hF
     refine go3_batch [9, 10] (ans := []) (vs := [(19, pP bp0 4), (18, pP bp0 0)]) (l := []) (by kernel_rfl) trivial mem_nil3 ?_
     refine go_alt3 (fun KK hKK => ?_) ?_
     ·obtain ⟨Z1, cz1, rfl⟩ := hS5.open 0 rfl
      have hS6 := hS5.bring 2 rfl
      refine gs bp0 4 #[(.slice Ap0_0 lp0_0.length cp0_0), (.slice Ap0_1 lp0_1.length cp0_1), (.slice Ap0_2 lp0_2.length cp0_2), (.slice Ap0_3 lp0_3.length cp0_3), (.slice Ap0_4 lp0_4.length cp0_4), vI ((sp0_5[0]?).getD 0), vI ((sp0_5[1]?).getD 0), vI ((sp0_5[2]?).getD 0), vI ((sp0_5[3]?).getD 0), vI ((sp0_5[4]?).getD 0), vI ((sp0_5[5]?).getD 0), vI ((sp0_5[6]?).getD 0), vI ((sp0_5[7]?).getD 0), vI sp0_13, vI sp0_14] 71 [(.slice Z1 (lp0_4 ++ [x1.A]).length cz1)] hS6 fun w4 hS7 => ?_
      have hS8 : St w0 w4 [Own.blk bp0 (.cells #[(.slice Ap0_0 lp0_0.length cp0_0), (.slice Ap0_1 lp0_1.length cp0_1), (.slice Ap0_2 lp0_2.length cp0_2), (.slice Ap0_3 lp0_3.length cp0_3), (.slice Z1 (lp0_4 ++ [x1.A]).length cz1), vI ((sp0_5[0]?).getD 0), vI ((sp0_5[1]?).getD 0), vI ((sp0_5[2]?).getD 0), vI ((sp0_5[3]?).getD 0), vI ((sp0_5[4]?).getD 0), vI ((sp0_5[5]?).getD 0), vI ((sp0_5[6]?).getD 0), vI ((sp0_5[7]?).getD 0), vI sp0_13, vI sp0_14] 71 (0, 0)), Own.of (.slice Z1 (lp0_4 ++ [x1.A]).length cz1) 3 (lp0_4 ++ [x1.A]), Own.blk b1 (.cells #[vI x1.Op, vI x1.A, vI x1.B] 41 (0, 0)), Own.of (.slice Ap0_0 lp0_0.length cp0_0) 41 lp0_0, Own.of (.slice Ap0_1 lp0_1.length cp0_1) 3 lp0_1, Own.of (.slice Ap0_2 lp0_2.length cp0_2) 3 lp0_2, Own.of (.slice Ap0_3 lp0_3.length cp0_3) 56 lp0_3, Own.all LT] := hS7
      refine ge_nil fun a hF => hKK _ _ (RS.of2 (l := []) (by kernel_rfl) trivial trivial) ?_ a hF
      refine go_fin3 fun a hF => hK2 _ _ ?_ a hF
      refine ws fun K5 hK5 => ?_
      refine wr [(0, 0), (1, 0), (2, 0), (3, 0), (4, 0), (5, 0)] ?_
      refine gb [0, 1, 2, 3, 4, 5] [(4, vI (IntKind.i64.wrap (sp0_13 + 1))), (161, vI (IntKind.i64.wrap (sp0_13 + 1))), (160, vI sp0_13), (159, pP bp0 13), (158, pP bp0 0), (157, pP bp0 0)] [.loaded ⟨bp0, 13, none⟩ (vI sp0_13)] ⟨hS8.c 0, trivial⟩ ?_
      refine gn hK5 ?_
      have hS9 := hS8.bring 7 rfl
      have hS10 := hS9.bring 2 rfl
      have hS11 := hS10.bring 7 rfl
      have hS12 := hS11.bring 7 rfl
      have hS13 := hS12.bring 7 rfl
      have hS14 := hS13.bring 7 rfl
      have hS15 := hS14.bring 6 rfl
      have hS16 := hS15.takeN 7
      obtain rfl := si h
      exact we_ret (pr0 [.tmp 4] [vI (IntKind.i64.wrap (sp0_13 + 1))] ⟨(.slice Ap0_2 lp0_2.length cp0_2), (.slice Ap0_3 lp0_3.length cp0_3), (.slice Z1 (lp0_4 ++ [x1.A]).length cz1), rfl, hS16⟩)
     exact go_nomore3
    ·rw [if_neg hc2] at h
     cases h
   exact go_nomore3
  exact go_nomore3
 ·rw [if_neg hc1] at h
  refine wk 7 (x1.Op == 1) false (beq_eq_false_iff_ne.2 hc1) ?_
  refine we_false (by kernel_rfl) ?_
  refine ws fun K6 hK6 => ?_
  refine wr [(0, 0), (1, 0)] ?_
  refine gb0 [0, 1] [(20, .bool (x1.Op == 2)), (21, .bool (x1.Op == 2))] ?_
  refine gn hK6 ?_
  by_cases hc3 : x1.Op = 2
  ·rw [if_pos hc3] at h
   refine wk 20 (x1.Op == 2) true (beq_iff_eq.2 hc3) ?_
   refine we_true (by kernel_rfl) ?_
   refine we_orders3 (by kernel_rfl) [(4, [⟨bp0, 4, none⟩], [], []), (8, [⟨bp0, 2, none⟩], [11, 12, 13, 14], []), (10, [⟨b1, 1, none⟩], [11, 12, 13, 14], []), (12, [⟨blkOf Ap0_2, offOf Ap0_2 + ((x1.A).toNat) * 1, none⟩], [13, 14], [])] (.vals [0] (.vals [1] (.vals [2] (.vals [3] (.vals [4] (.vals [5] (.vals [6] (.vals [7] (.vals [8] (.vals [9] (.vals [10] (.vals [11] (.vals [12] (.alt 13 1 (.alt 14 2 (.vals [15] (.vals [16] (.alt 17 2 .fin .nomore))) .nomore) .nomore)))))))))))))) (by kernel_rfl) (by kernel_rfl) ?_
   have hS17 := hS1.drew
   refine go3_batch [0, 1, 2, 3] (ans := []) (vs := [(25, pP bp0 4), (24, pP bp0 0), (23, pP bp0 0), (22, pP bp0 0)]) (l := []) (by kernel_rfl) trivial mem_nil3 ?_
   refine go3_batch [4] (ans := [.val ((.slice Ap0_4 lp0_4.length cp0_4))]) (vs := [(26, (.slice Ap0_4 lp0_4.length cp0_4))]) (l := [.loaded ⟨bp0, 4, none⟩ ((.slice Ap0_4 lp0_4.length cp0_4))]) (by kernel_rfl) ⟨hS17.c 1, trivial⟩ (mem_one3 (by kernel_rfl)) ?_
   refine go3_batch [5, 6, 7] (ans := []) (vs := [(29, pP bp0 2), (28, pP bp0 0), (27, pP bp0 0)]) (l := []) (by kernel_rfl) trivial mem_nil3 ?_
   refine go3_batch [8] (ans := [.val ((.slice Ap0_2 lp0_2.length cp0_2))]) (vs := [(30, (.slice Ap0_2 lp0_2.length cp0_2))]) (l := [.loaded ⟨bp0, 2, none⟩ ((.slice Ap0_2 lp0_2.length cp0_2))]) (by kernel_rfl) ⟨hS17.c 1, trivial⟩ (mem_one3 (by kernel_rfl)) ?_
   refine go3_batch [9] (ans := []) (vs := [(31, pP b1 1)]) (l := []) (by kernel_rfl) trivial mem_nil3 ?_
   refine go3_batch [10] (ans := [.val (vI x1.A)]) (vs := [(32, vI x1.A)]) (l := [.loaded ⟨b1, 1, none⟩ (vI x1.A)]) (by kernel_rfl) ⟨hS17.c 0, trivial⟩ (mem_one3 (by kernel_rfl)) ?_
   by_cases hc4 : 0 ≤ x1.A
   ·rw [if_pos hc4] at h
    rcases hx3 : lp0_2[(x1.A).toNat]? with _ | e1
    ·rw [hx3] at h; cases h
    rw [hx3] at h
    simp only [] at h
    refine go3_index (d := 33) (ty := 0) (t := 23) (el := 3) (sz := 1) (m := lp0_2.length) (c := cp0_2) (x := (.tmp 30)) (y := (.tmp 32)) (A := Ap0_2) (k' := .i64) (j := x1.A) (jn := ((x1.A).toNat)) (b0 := blkOf Ap0_2) (o0 := offOf Ap0_2) (by kernel_rfl) (by kernel_rfl) (by kernel_rfl) (by kernel_rfl) (by kernel_rfl) ((hS17.rdAt 4 rfl).eqSome (pos_of_get hx3)) (Int.toNat_of_nonneg hc4).symm (lt_of_get hx3) ?_
    refine go3_batch [12] (ans := [.val (vI e1)]) (vs := [(34, vI e1)]) (l := [.loaded ⟨blkOf Ap0_2, offOf Ap0_2 + ((x1.A).toNat) * 1, none⟩ (vI e1)]) (by kernel_rfl) ⟨RdL.cell (j := 0) (hS17.rdAt 4 rfl) hx3 rfl, trivial⟩ (mem_one3 (by kernel_rfl)) ?_
    refine go_alt3 (fun KK hKK => ?_) ?_
    ·refine ge_one2 ?_
     refine gw (some 35) (.cells #[vI e1] 3) (fun b => .slice (some ⟨b, 0, none⟩) 1 1) hS17 fun b3 w5 hx4 hS18 => ?_
     refine ge_nil fun a hF => hKK _ _ (RS.of2 (l := [.loaded ⟨bp0, 4, none⟩ ((.slice Ap0_4 lp0_4.length cp0_4))]) (by kernel_rfl) ⟨hS17.c 1, trivial⟩ ⟨hS18.c 2, trivial⟩) ?_ a hF
     refine go_alt3 (fun KK hKK => ?_) ?_
     ·have hS19 := hS18.bring 7 rfl
      by_cases hc5 : lp0_4.length < 17592186044416
      ·rw [if_pos hc5] at h
       refine ge_append (α := Int) (m := 0) (d := 36) (t := 23) (el := 3) (bytes := 8) (c1 := 1) (b1 := b3) (x := (.tmp 26)) (y := (.tmp 35)) (ty := 23) (v := (.slice Ap0_4 lp0_4.length cp0_4)) (z := vI 0) (l := lp0_4) (u := e1) (by kernel_rfl) (by kernel_rfl) (by kernel_rfl) (by kernel_rfl) (by kernel_rfl) rfl hS19 rfl (by omega) fun v2 w6 hS20 => ?_
       refine ge_nil fun a hF => hKK _ _ (RS.of2 (l := []) (by kernel_rfl) trivial trivial) ?_ a hF
       refine go3_batch [15, 16] (ans := []) (vs := [(38, pP bp0 4), (37, pP bp0 0)]) (l := []) (by kernel_rfl) trivial mem_nil3 ?_
       refine go_alt3 (fun KK hKK => ?_) ?_
       ·obtain ⟨Z2, cz2, rfl⟩ := hS20.open 0 rfl
        have hS21 := hS20.bring 2 rfl
        refine gs bp0 4 #[(.slice Ap0_0 lp0_0.length cp0_0), (.slice Ap0_1 lp0_1.length cp0_1), (.slice Ap0_2 lp0_2.length cp0_2), (.slice Ap0_3 lp0_3.length cp0_3), (.slice Ap0_4 lp0_4.length cp0_4), vI ((sp0_5[0]?).getD 0), vI ((sp0_5[1]?).getD 0), vI ((sp0_5[2]?).getD 0), vI ((sp0_5[3]?).getD 0), vI ((sp0_5[4]?).getD 0), vI ((sp0_5[5]?).getD 0), vI ((sp0_5[6]?).getD 0), vI ((sp0_5[7]?).getD 0), vI sp0_13, vI sp0_14] 71 [(.slice Z2 (lp0_4 ++ [e1]).length cz2)] hS21 fun w7 hS22 => ?_
        have hS23 : St w0 w7 [Own.blk bp0 (.cells #[(.slice Ap0_0 lp0_0.length cp0_0), (.slice Ap0_1 lp0_1.length cp0_1), (.slice Ap0_2 lp0_2.length cp0_2), (.slice Ap0_3 lp0_3.length cp0_3), (.slice Z2 (lp0_4 ++ [e1]).length cz2), vI ((sp0_5[0]?).getD 0), vI ((sp0_5[1]?).getD 0), vI ((sp0_5[2]?).getD 0), vI ((sp0_5[3]?).getD 0), vI ((sp0_5[4]?).getD 0), vI ((sp0_5[5]?).getD 0), vI ((sp0_5[6]?).getD 0), vI ((sp0_5[7]?).getD 0), vI sp0_13, vI sp0_14] 71 (0, 0)), Own.of (.slice Z2 (lp0_4 ++ [e1]).length cz2) 3 (lp0_4 ++ [e1]), Own.blk b1 (.cells #[vI x1.Op, vI x1.A, vI x1.B] 41 (0, 0)), Own.of (.slice Ap0_0 lp0_0.length cp0_0) 41 lp0_0, Own.of (.slice Ap0_1 lp0_1.length cp0_1) 3 lp0_1, Own.of (.slice Ap0_2 lp0_2.length cp0_2) 3 lp0_2, Own.of (.slice Ap0_3 lp0_3.length cp0_3) 56 lp0_3, Own.all LT] := hS22
        refine ge_nil fun a hF => hKK _ _ (RS.of2 (l := []) (by kernel_rfl) trivial trivial) ?_ a hF
        refine go_fin3 fun a hF => hK2 _ _ ?_ a hF
        refine ws fun K7 hK7 => ?_
        refine wr [(0, 0), (1, 0), (2, 0), (3, 0), (4, 0), (5, 0)] ?_
        refine gb [0, 1, 2, 3, 4, 5] [(4, vI (IntKind.i64.wrap (sp0_13 + 1))), (161, vI (IntKind.i64.wrap (sp0_13 + 1))), (160, vI sp0_13), (159, pP bp0 13), (158, pP bp0 0), (157, pP bp0 0)] [.loaded ⟨bp0, 13, none⟩ (vI sp0_13)] ⟨hS23.c 0, trivial⟩ ?_
        refine gn hK7 ?_
        have hS24 := hS23.bring 7 rfl
        have hS25 := hS24.bring 2 rfl
        have hS26 := hS25.bring 7 rfl
        have hS27 := hS26.bring 7 rfl
        have hS28 := hS27.bring 7 rfl
        have hS29 := hS28.bring 7 rfl
        have hS30 := hS29.bring 6 rfl
        have hS31 := hS30.takeN 7
        obtain rfl := si h
        exact we_ret (pr0 [.tmp 4] [vI (IntKind.i64.wrap (sp0_13 + 1))] ⟨(.slice Ap0_2 lp0_2.length cp0_2), (.slice Ap0_3 lp0_3.length cp0_3), (.slice Z2 (lp0_4 ++ [e1]).length cz2), rfl, hS31⟩)
       exact go_nomore3
      ·rw [if_neg hc5] at h
       cases h
     exact go_nomore3
    exact go_nomore3
   ·rw [if_neg hc4] at h
    cases h
  ·rw [if_neg hc3] at h
   refine wk 20 (x1.Op == 2) false (beq_eq_false_iff_ne.2 hc3) ?_
   refine we_false (by kernel_rfl) ?_
   refine ws fun K8 hK8 => ?_
   refine wr [(0, 0), (1, 0)] ?_
   refine gb0 [0, 1] [(39, .bool (x1.Op == 3)), (40, .bool (x1.Op == 3))] ?_
   refine gn hK8 ?_
   by_cases hc6 : x1.Op = 3
   ·rw [if_pos hc6] at h
    refine wk 39 (x1.Op == 3) true (beq_iff_eq.2 hc6) ?_
    refine we_true (by kernel_rfl) ?_
    refine we_orders3 (by kernel_rfl) [(3, [⟨bp0, 2, none⟩], [], []), (5, [⟨b1, 1, none⟩], [], [])] (.vals [0] (.vals [1] (.vals [2] (.vals [3] (.vals [4] (.vals [5] (.vals [6] (.alt 7 2 (.vals [8] (.alt 9 2 .fin .nomore)) .nomore)))))))) (by kernel_rfl) (by kernel_rfl) ?_
    have hS32 := hS1.drew
    refine go3_batch [0, 1, 2] (ans := []) (vs := [(43, pP bp0 2), (42, pP bp0 0), (41, pP bp0 0)]) (l := []) (by kernel_rfl) trivial mem_nil3 ?_
    refine go3_batch [3] (ans := [.val ((.slice Ap0_2 lp0_2.length cp0_2))]) (vs := [(44, (.slice Ap0_2 lp0_2.length cp0_2))]) (l := [.loaded ⟨bp0, 2, none⟩ ((.slice Ap0_2 lp0_2.length cp0_2))]) (by kernel_rfl) ⟨hS32.c 1, trivial⟩ (mem_one3 (by kernel_rfl)) ?_
    refine go3_batch [4] (ans := []) (vs := [(45, pP b1 1)]) (l := []) (by kernel_rfl) trivial mem_nil3 ?_
    refine go3_batch [5] (ans := [.val (vI x1.A)]) (vs := [(46, vI x1.A)]) (l := [.loaded ⟨b1, 1, none⟩ (vI x1.A)]) (by kernel_rfl) ⟨hS32.c 0, trivial⟩ (mem_one3 (by kernel_rfl)) ?_
    refine go3_batch [6] (ans := []) (vs := [(47, pP bp0 0)]) (l := []) (by kernel_rfl) trivial mem_nil3 ?_
    refine go_alt3 (fun KK hKK => ?_) ?_
    ·rcases hq1 : mach_Machine_pop.f lp0_0 lp0_1 lp0_2 lp0_3 lp0_4 sp0_5 sp0_13 sp0_14 with _ | r1
     ·rw [hq1] at h; cases h
     rw [hq1] at h
     simp only [] at h
     have hS33 := hS32.bring 6 rfl
     have hS34 := hS33.bring 6 rfl
     have hS35 := hS34.bring 6 rfl
     have hS36 := hS35.bring 6 rfl
     have hS37 := hS36.bring 6 rfl
     have hS38 := hS37.bring 6 rfl
     have hS40 : St w0 w1.drew [Own.blk bp0 (.cells #[(.slice Ap0_0 lp0_0.length cp0_0), (.slice Ap0_1 lp0_1.length cp0_1), (.slice Ap0_2 lp0_2.length cp0_2), (.slice Ap0_3 lp0_3.length cp0_3), (.slice Ap0_4 lp0_4.length cp0_4), vI ((sp0_5[0]?).getD 0), vI ((sp0_5[1]?).getD 0), vI ((sp0_5[2]?).getD 0), vI ((sp0_5[3]?).getD 0), vI ((sp0_5[4]?).getD 0), vI ((sp0_5[5]?).getD 0), vI ((sp0_5[6]?).getD 0), vI ((sp0_5[7]?).getD 0), vI sp0_13, vI sp0_14] 71 (0, 0)), Own.of (.slice Ap0_0 lp0_0.length cp0_0) 41 lp0_0, Own.of (.slice Ap0_1 lp0_1.length cp0_1) 3 lp0_1, Own.of (.slice Ap0_2 lp0_2.length cp0_2) 3 lp0_2, Own.of (.slice Ap0_3 lp0_3.length cp0_3) 56 lp0_3, Own.of (.slice Ap0_4 lp0_4.length cp0_4) 3 lp0_4, Own.all [Own.blk b1 (.cells #[vI x1.Op, vI x1.A, vI x1.B] 41 (0, 0)), Own.all LT]] := hS38.packN 6
     refine ge_call2 (m := 0) (d := some 48) (f := 57) (args := #[pP bp0 0]) (by kernel_rfl) (mach_Machine_pop_ok bp0 lp0_0 Ap0_0 cp0_0 lp0_1 Ap0_1 cp0_1 lp0_2 Ap0_2 cp0_2 lp0_3 Ap0_3 cp0_3 lp0_4 Ap0_4 cp0_4 sp0_5 sp0_13 sp0_14 _ _ _ hS40 _ hq1) ?_
     rintro _ w8 ⟨v3, rfl, hS39⟩
     refine ⟨_, rfl, ?_⟩
     have hS41 : St w0 w8 [Own.blk bp0 (.cells #[(.slice Ap0_0 lp0_0.length cp0_0), (.slice Ap0_1 lp0_1.length cp0_1), (.slice Ap0_2 lp0_2.length cp0_2), (.slice Ap0_3 lp0_3.length cp0_3), v3, vI ((sp0_5[0]?).getD 0), vI ((sp0_5[1]?).getD 0), vI ((sp0_5[2]?).getD 0), vI ((sp0_5[3]?).getD 0), vI ((sp0_5[4]?).getD 0), vI ((sp0_5[5]?).getD 0), vI ((sp0_5[6]?).getD 0), vI ((sp0_5[7]?).getD 0), vI sp0_13, vI sp0_14] 71 (0, 0)), Own.of (.slice Ap0_0 lp0_0.length cp0_0) 41 lp0_0, Own.of (.slice Ap0_1 lp0_1.length cp0_1) 3 lp0_1, Own.of (.slice Ap0_2 lp0_2.length cp0_2) 3 lp0_2, Own.of (.slice Ap0_3 lp0_3.length cp0_3) 56 lp0_3, Own.of v3 3 r1.2, Own.blk b1 (.cells #[vI x1.Op, vI x1.A, vI x1.B] 41 (0, 0)), Own.all LT] := hS39.unpack [Own.blk bp0 (.cells #[(.slice Ap0_0 lp0_0.length cp0_0), (.slice Ap0_1 lp0_1.length cp0_1), (.slice Ap0_2 lp0_2.length cp0_2), (.slice Ap0_3 lp0_3.length cp0_3), v3, vI ((sp0_5[0]?).getD 0), vI ((sp0_5[1]?).getD 0), vI ((sp0_5[2]?).getD 0), vI ((sp0_5[3]?).getD 0), vI ((sp0_5[4]?).getD 0), vI ((sp0_5[5]?).getD 0), vI ((sp0_5[6]?).getD 0), vI ((sp0_5[7]?).getD 0), vI sp0_13, vI sp0_14] 71 (0, 0)), Own.of (.slice Ap0_0 lp0_0.length cp0_0) 41 lp0_0, Own.of (.slice Ap0_1 lp0_1.length cp0_1) 3 lp0_1, Own.of (.slice Ap0_2 lp0_2.length cp0_2) 3 lp0_2, Own.of (.slice Ap0_3 lp0_3.length cp0_3) 56 lp0_3, Own.of v3 3 r1.2]
     refine ge_nil fun a hF => hKK _ _ (RS.of2 (l := [.loaded ⟨bp0, 2, none⟩ ((.slice Ap0_2 lp0_2.length cp0_2)), .loaded ⟨b1, 1, none⟩ (vI x1.A)]) (by kernel_rfl) ⟨hS32.c 1, hS32.c 0, trivial⟩ ⟨hS41.c 0, hS41.c 6, trivial⟩) ?_ a hF
     by_cases hc7 : 0 ≤ x1.A
     ·rw [if_pos hc7] at h
      rcases hx5 : lp0_2[(x1.A).toNat]? with _ | e2
      ·rw [hx5] at h; cases h
      rw [hx5] at h
      simp only [] at h
      refine go3_index (d := 49) (ty := 0) (t := 23) (el := 3) (sz := 1) (m := lp0_2.length) (c := cp0_2) (x := (.tmp 44)) (y := (.tmp 46)) (A := Ap0_2) (k' := .i64) (j := x1.A) (jn := ((x1.A).toNat)) (b0 := blkOf Ap0_2) (o0 := offOf Ap0_2) (by kernel_rfl) (by kernel_rfl) (by kernel_rfl) (by kernel_rfl) (by kernel_rfl) ((hS41.rdAt 3 rfl).eqSome (pos_of_get hx5)) (Int.toNat_of_nonneg hc7).symm (lt_of_get hx5) ?_
      refine go_alt3 (fun KK hKK => ?_) ?_
      ·have hS42 := hS41.bring 3 rfl
       refine ge_seti (α := Int) (A := Ap0_2) (nn := lp0_2.length) (c := cp0_2) (t := 3) (l := lp0_2) (x := e2) (x' := r1.1) (jn := ((x1.A).toNat)) (j := 0) (vs := [vI r1.1]) (l' := [.stored ⟨blkOf Ap0_2, offOf Ap0_2 + ((x1.A).toNat) * 1, none⟩ (vI r1.1)]) hS42 (by kernel_rfl) (by kernel_rfl) hx5 rfl rfl rfl fun w9 hS43 => ?_
       have hS44 : St w0 w9 [Own.of (.slice Ap0_2 lp0_2.length cp0_2) 3 (lp0_2.set ((x1.A).toNat) r1.1), Own.blk bp0 (.cells #[(.slice Ap0_0 lp0_0.length cp0_0), (.slice Ap0_1 lp0_1.length cp0_1), (.slice Ap0_2 lp0_2.length cp0_2), (.slice Ap0_3 lp0_3.length cp0_3), v3, vI ((sp0_5[0]?).getD 0), vI ((sp0_5[1]?).getD 0), vI ((sp0_5[2]?).getD 0), vI ((sp0_5[3]?).getD 0), vI ((sp0_5[4]?).getD 0), vI ((sp0_5[5]?).getD 0), vI ((sp0_5[6]?).getD 0), vI ((sp0_5[7]?).getD 0), vI sp0_13, vI sp0_14] 71 (0, 0)), Own.of (.slice Ap0_0 lp0_0.length cp0_0) 41 lp0_0, Own.of (.slice Ap0_1 lp0_1.length cp0_1) 3 lp0_1, Own.of (.slice Ap0_3 lp0_3.length cp0_3) 56 lp0_3, Own.of v3 3 r1.2, Own.blk b1 (.cells #[vI x1.Op, vI x1.A, vI x1.B] 41 (0, 0)), Own.all LT] := hS43
       have hE1 : lp0_2.length = (lp0_2.set ((x1.A).toNat) r1.1).length := hS44.lenAt 0 rfl
       have hS45 : St w0 w9 [Own.of (.slice Ap0_2 (lp0_2.set ((x1.A).toNat) r1.1).length cp0_2) 3 (lp0_2.set ((x1.A).toNat) r1.1), Own.blk bp0 (.cells #[(.slice Ap0_0 lp0_0.length cp0_0), (.slice Ap0_1 lp0_1.length cp0_1), (.slice Ap0_2 (lp0_2.set ((x1.A).toNat) r1.1).length cp0_2), (.slice Ap0_3 lp0_3.length cp0_3), v3, vI ((sp0_5[0]?).getD 0), vI ((sp0_5[1]?).getD 0), vI ((sp0_5[2]?).getD 0), vI ((sp0_5[3]?).getD 0), vI ((sp0_5[4]?).getD 0), vI ((sp0_5[5]?).getD 0), vI ((sp0_5[6]?).getD 0), vI ((sp0_5[7]?).getD 0), vI sp0_13, vI sp0_14] 71 (0, 0)), Own.of (.slice Ap0_0 lp0_0.length cp0_0) 41 lp0_0, Own.of (.slice Ap0_1 lp0_1.length cp0_1) 3 lp0_1, Own.of (.slice Ap0_3 lp0_3.length cp0_3) 56 lp0_3, Own.of v3 3 r1.2, Own.blk b1 (.cells #[vI x1.Op, vI x1.A, vI x1.B] 41 (0, 0)), Own.all LT] := by rw [← hE1]; exact hS44
       refine ge_same (t := 44) (v := (.slice Ap0_2 lp0_2.length cp0_2)) (v' := (.slice Ap0_2 (lp0_2.set ((x1.A).toNat) r1.1).length cp0_2)) (by kernel_rfl) (by rw [hE1]) ?_
       refine ge_nil fun a hF => hKK _ _ (RS.of2 (l := []) (by kernel_rfl) trivial trivial) ?_ a hF
       refine go_fin3 fun a hF => hK2 _ _ ?_ a hF
       refine ws fun K9 hK9 => ?_
       refine wr [(0, 0), (1, 0), (2, 0), (3, 0), (4, 0), (5, 0)] ?_
       refine gb [0, 1, 2, 3, 4, 5] [(4, vI (IntKind.i64.wrap (sp0_13 + 1))), (161, vI (IntKind.i64.wrap (sp0_13 + 1))), (160, vI sp0_13), (159, pP bp0 13), (158, pP bp0 0), (157, pP bp0 0)] [.loaded ⟨bp0, 13, none⟩ (vI sp0_13)] ⟨hS45.c 1, trivial⟩ ?_
       refine gn hK9 ?_
       have hS46 := hS45.bring 7 rfl
       have hS47 := hS46.bring 6 rfl
       have hS48 := hS47.bring 6 rfl
       have hS49 := hS48.bring 3 rfl
       have hS50 := hS49.bring 6 rfl
       have hS51 := hS50.bring 6 rfl
       have hS52 := hS51.bring 6 rfl
       have hS53 := hS52.takeN 7
       obtain rfl := si h
       exact we_ret (pr0 [.tmp 4] [vI (IntKind.i64.wrap (sp0_13 + 1))] ⟨(.slice Ap0_2 (lp0_2.set ((x1.A).toNat) r1.1).length cp0_2), (.slice Ap0_3 lp0_3.length cp0_3), v3, rfl, hS53⟩)
      exact go_nomore3
     ·rw [if_neg hc7] at h
      cases h
    exact go_nomore3
   ·rw [if_neg hc6] at h
    refine wk 39 (x1.Op == 3) false (beq_eq_false_iff_ne.2 hc6) ?_
    refine we_false (by kernel_rfl) ?_
    refine ws fun K10 hK10 => ?_
    refine wr [(0, 0), (1, 0)] ?_
    refine gb0 [0, 1] [(50, .bool (x1.Op == 4)), (51, .bool (x1.Op == 4))] ?_
    refine gn hK10 ?_
    by_cases hc8 : x1.Op = 4
    ·rw [if_pos hc8] at h
     refine wk 50 (x1.Op == 4) true (beq_iff_eq.2 hc8) ?_
     refine we_true (by kernel_rfl) ?_
     refine wr [(0, 0), (1, 2)] ?_
     refine gb0 [0] [(52, pP bp0 0)] ?_
     rcases hq2 : mach_Machine_two.f lp0_0 lp0_1 lp0_2 lp0_3 lp0_4 sp0_5 sp0_13 sp0_14 with _ | r2
     ·rw [hq2] at h; cases h
     rw [hq2] at h
     simp only [] at h
     have hS54 := hS1.bring 6 rfl
     have hS55 := hS54.bring 6 rfl
     have hS56 := hS55.bring 6 rfl
     have hS57 := hS56.bring 6 rfl
     have hS58 := hS57.bring 6 rfl
     have hS59 := hS58.bring 6 rfl
     have hS61 : St w0 w1 [Own.blk bp0 (.cells #[(.slice Ap0_0 lp0_0.length cp0_0), (.slice Ap0_1 lp0_1.length cp0_1), (.slice Ap0_2 lp0_2.length cp0_2), (.slice Ap0_3 lp0_3.length cp0_3), (.slice Ap0_4 lp0_4.length cp0_4), vI ((sp0_5[0]?).getD 0), vI ((sp0_5[1]?).getD 0), vI ((sp0_5[2]?).getD 0), vI ((sp0_5[3]?).getD 0), vI ((sp0_5[4]?).getD 0), vI ((sp0_5[5]?).getD 0), vI ((sp0_5[6]?).getD 0), vI ((sp0_5[7]?).getD 0), vI sp0_13, vI sp0_14] 71 (0, 0)), Own.of (.slice Ap0_0 lp0_0.length cp0_0) 41 lp0_0, Own.of (.slice Ap0_1 lp0_1.length cp0_1) 3 lp0_1, Own.of (.slice Ap0_2 lp0_2.length cp0_2) 3 lp0_2, Own.of (.slice Ap0_3 lp0_3.length cp0_3) 56 lp0_3, Own.of (.slice Ap0_4 lp0_4.length cp0_4) 3 lp0_4, Own.all [Own.blk b1 (.cells #[vI x1.Op, vI x1.A, vI x1.B] 41 (0, 0)), Own.all LT]] := hS59.packN 6
     refine ge_call2 (m := 0) (d := some 53) (f := 58) (args := #[pP bp0 0, .func (.func 59) #[] #[]]) (by kernel_rfl) (mach_Machine_two_ok bp0 lp0_0 Ap0_0 cp0_0 lp0_1 Ap0_1 cp0_1 lp0_2 Ap0_2 cp0_2 lp0_3 Ap0_3 cp0_3 lp0_4 Ap0_4 cp0_4 sp0_5 sp0_13 sp0_14 _ _ _ hS61 _ hq2) ?_
     rintro _ w10 ⟨v4, rfl, hS60⟩
     refine ⟨_, rfl, ?_⟩
     have hS62 : St w0 w10 [Own.blk bp0 (.cells #[(.slice Ap0_0 lp0_0.length cp0_0), (.slice Ap0_1 lp0_1.length cp0_1), (.slice Ap0_2 lp0_2.length cp0_2), (.slice Ap0_3 lp0_3.length cp0_3), v4, vI ((sp0_5[0]?).getD 0), vI ((sp0_5[1]?).getD 0), vI ((sp0_5[2]?).getD 0), vI ((sp0_5[3]?).getD 0), vI ((sp0_5[4]?).getD 0), vI ((sp0_5[5]?).getD 0), vI ((sp0_5[6]?).getD 0), vI ((sp0_5[7]?).getD 0), vI sp0_13, vI sp0_14] 71 (0, 0)), Own.of (.slice Ap0_0 lp0_0.length cp0_0) 41 lp0_0, Own.of (.slice Ap0_1 lp0_1.length cp0_1) 3 lp0_1, Own.of (.slice Ap0_2 lp0_2.length cp0_2) 3 lp0_2, Own.of (.slice Ap0_3 lp0_3.length cp0_3) 56 lp0_3, Own.of v4 3 r2, Own.blk b1 (.cells #[vI x1.Op, vI x1.A, vI x1.B] 41 (0, 0)), Own.all LT] := hS60.unpack [Own.blk bp0 (.cells #[(.slice Ap0_0 lp0_0.length cp0_0), (.slice Ap0_1 lp0_1.length cp0_1), (.slice Ap0_2 lp0_2.length cp0_2), (.slice Ap0_3 lp0_3.length cp0_3), v4, vI ((sp0_5[0]?).getD 0), vI ((sp0_5[1]?).getD 0), vI ((sp0_5[2]?).getD 0), vI ((sp0_5[3]?).getD 0), vI ((sp0_5[4]?).getD 0), vI ((sp0_5[5]?).getD 0), vI ((sp0_5[6]?).getD 0), vI ((sp0_5[7]?).getD 0), vI sp0_13, vI sp0_14] 71 (0, 0)), Own.of (.slice Ap0_0 lp0_0.length cp0_0) 41 lp0_0, Own.of (.slice Ap0_1 lp0_1.length cp0_1) 3 lp0_1, Own.of (.slice Ap0_2 lp0_2.length cp0_2) 3 lp0_2, Own.of (.slice Ap0_3 lp0_3.length cp0_3) 56 lp0_3, Own.of v4 3 r2]
     refine gn hK2 ?_
     refine ws fun K11 hK11 => ?_
     refine wr [(0, 0), (1, 0), (2, 0), (3, 0), (4, 0), (5, 0)] ?_
     refine gb [0, 1, 2, 3, 4, 5] [(4, vI (IntKind.i64.wrap (sp0_13 + 1))), (161, vI (IntKind.i64.wrap (sp0_13 + 1))), (160, vI sp0_13), (159, pP bp0 13), (158, pP bp0 0), (157, pP bp0 0)] [.loaded ⟨bp0, 13, none⟩ (vI sp0_13)] ⟨hS62.c 0, trivial⟩ ?_
     refine gn hK11 ?_
     have hS63 := hS62.bring 7 rfl
     have hS64 := hS63.bring 6 rfl
     have hS65 := hS64.bring 6 rfl
     have hS66 := hS65.bring 6 rfl
     have hS67 := hS66.bring 6 rfl
     have hS68 := hS67.bring 6 rfl
     have hS69 := hS68.bring 6 rfl
     have hS70 := hS69.takeN 7
     obtain rfl := si h
     exact we_ret (pr0 [.tmp 4] [vI (IntKind.i64.wrap (sp0_13 + 1))] ⟨(.slice Ap0_2 lp0_2.length cp0_2), (.slice Ap0_3 lp0_3.length cp0_3), v4, rfl, hS70⟩)
    ·rw [if_neg hc8] at h
     refine wk 50 (x1.Op == 4) false (beq_eq_false_iff_ne.2 hc8) ?_
     refine we_false (by kernel_rfl) ?_
     refine ws fun K12 hK12 => ?_
     refine wr [(0, 0), (1, 0)] ?_
     refine gb0 [0, 1] [(54, .bool (x1.Op == 5)), (55, .bool (x1.Op == 5))] ?_
     refine gn hK12 ?_
     by_cases hc9 : x1.Op = 5
     ·rw [if_pos hc9] at h
      refine wk 54 (x1.Op == 5) true (beq_iff_eq.2 hc9) ?_
      refine we_true (by kernel_rfl) ?_
      refine wr [(0, 0), (1, 2)] ?_
      refine gb0 [0] [(56, pP bp0 0)] ?_
      rcases hq3 : mach_Machine_two_1.f lp0_0 lp0_1 lp0_2 lp0_3 lp0_4 sp0_5 sp0_13 sp0_14 with _ | r3
      ·rw [hq3] at h; cases h
      rw [hq3] at h
      simp only [] at h
      have hS71 := hS1.bring 6 rfl
      have hS72 := hS71.bring 6 rfl
      have hS73 := hS72.bring 6 rfl
      have hS74 := hS73.bring 6 rfl
      have hS75 := hS74.bring 6 rfl
      have hS76 := hS75.bring 6 rfl
      have hS78 : St w0 w1 [Own.blk bp0 (.cells #[(.slice Ap0_0 lp0_0.length cp0_0), (.slice Ap0_1 lp0_1.length cp0_1), (.slice Ap0_2 lp0_2.length cp0_2), (.slice Ap0_3 lp0_3.length cp0_3), (.slice Ap0_4 lp0_4.length cp0_4), vI ((sp0_5[0]?).getD 0), vI ((sp0_5[1]?).getD 0), vI ((sp0_5[2]?).getD 0), vI ((sp0_5[3]?).getD 0), vI ((sp0_5[4]?).getD 0), vI ((sp0_5[5]?).getD 0), vI ((sp0_5[6]?).getD 0), vI ((sp0_5[7]?).getD 0), vI sp0_13, vI sp0_14] 71 (0, 0)), Own.of (.slice Ap0_0 lp0_0.length cp0_0) 41 lp0_0, Own.of (.slice Ap0_1 lp0_1.length cp0_1) 3 lp0_1, Own.of (.slice Ap0_2 lp0_2.length cp0_2) 3 lp0_2, Own.of (.slice Ap0_3 lp0_3.length cp0_3) 56 lp0_3, Own.of (.slice Ap0_4 lp0_4.length cp0_4) 3 lp0_4, Own.all [Own.blk b1 (.cells #[vI x1.Op, vI x1.A, vI x1.B] 41 (0, 0)), Own.all LT]] := hS76.packN 6
      refine ge_call2 (m := 0) (d := some 57) (f := 58) (args := #[pP bp0 0, .func (.func 60) #[] #[]]) (by kernel_rfl) (mach_Machine_two_1_ok bp0 lp0_0 Ap0_0 cp0_0 lp0_1 Ap0_1 cp0_1 lp0_2 Ap0_2 cp0_2 lp0_3 Ap0_3 cp0_3 lp0_4 Ap0_4 cp0_4 sp0_5 sp0_13 sp0_14 _ _ _ hS78 _ hq3) ?_
      rintro _ w11 ⟨v5, rfl, hS77⟩
      refine ⟨_, rfl, ?_⟩
      have hS79 : St w0 w11 [Own.blk bp0 (.cells #[(.slice Ap0_0 lp0_0.length cp0_0), (.slice Ap0_1 lp0_1.length cp0_1), (.slice Ap0_2 lp0_2.length cp0_2), (.slice Ap0_3 lp0_3.length cp0_3), v5, vI ((sp0_5[0]?).getD 0), vI ((sp0_5[1]?).getD 0), vI ((sp0_5[2]?).getD 0), vI ((sp0_5[3]?).getD 0), vI ((sp0_5[4]?).getD 0), vI ((sp0_5[5]?).getD 0), vI ((sp0_5[6]?).getD 0), vI ((sp0_5[7]?).getD 0), vI sp0_13, vI sp0_14] 71 (0, 0)), Own.of (.slice Ap0_0 lp0_0.length cp0_0) 41 lp0_0, Own.of (.slice Ap0_1 lp0_1.length cp0_1) 3 lp0_1, Own.of (.slice Ap0_2 lp0_2.length cp0_2) 3 lp0_2, Own.of (.slice Ap0_3 lp0_3.length cp0_3) 56 lp0_3, Own.of v5 3 r3, Own.blk b1 (.cells #[vI x1.Op, vI x1.A, vI x1.B] 41 (0, 0)), Own.all LT] := hS77.unpack [Own.blk bp0 (.cells #[(.slice Ap0_0 lp0_0.length cp0_0), (.slice Ap0_1 lp0_1.length cp0_1), (.slice Ap0_2 lp0_2.length cp0_2), (.slice Ap0_3 lp0_3.length cp0_3), v5, vI ((sp0_5[0]?).getD 0), vI ((sp0_5[1]?).getD 0), vI ((sp0_5[2]?).getD 0), vI ((sp0_5[3]?).getD 0), vI ((sp0_5[4]?).getD 0), vI ((sp0_5[5]?).getD 0), vI ((sp0_5[6]?).getD 0), vI ((sp0_5[7]?).getD 0), vI sp0_13, vI sp0_14] 71 (0, 0)), Own.of (.slice Ap0_0 lp0_0.length cp0_0) 41 lp0_0, Own.of (.slice Ap0_1 lp0_1.length cp0_1) 3 lp0_1, Own.of (.slice Ap0_2 lp0_2.length cp0_2) 3 lp0_2, Own.of (.slice Ap0_3 lp0_3.length cp0_3) 56 lp0_3, Own.of v5 3 r3]
      refine gn hK2 ?_
      refine ws fun K13 hK13 => ?_
      refine wr [(0, 0), (1, 0), (2, 0), (3, 0), (4, 0), (5, 0)] ?_
      refine gb [0, 1, 2, 3, 4, 5] [(4, vI (IntKind.i64.wrap (sp0_13 + 1))), (161, vI (IntKind.i64.wrap (sp0_13 + 1))), (160, vI sp0_13), (159, pP bp0 13), (158, pP bp0 0), (157, pP bp0 0)] [.loaded ⟨bp0, 13, none⟩ (vI sp0_13)] ⟨hS79.c 0, trivial⟩ ?_
      refine gn hK13 ?_
      have hS80 := hS79.bring 7 rfl
      have hS81 := hS80.bring 6 rfl
      have hS82 := hS81.bring 6 rfl
      have hS83 := hS82.bring 6 rfl
      have hS84 := hS83.bring 6 rfl
      have hS85 := hS84.bring 6 rfl
      have hS86 := hS85.bring 6 rfl
      have hS87 := hS86.takeN 7
      obtain rfl := si h
      exact we_ret (pr0 [.tmp 4] [vI (IntKind.i64.wrap (sp0_13 + 1))] ⟨(.slice Ap0_2 lp0_2.length cp0_2), (.slice Ap0_3 lp0_3.length cp0_3), v5, rfl, hS87⟩)
     ·rw [if_neg hc9] at h
      refine wk 54 (x1.Op == 5) false (beq_eq_false_iff_ne.2 hc9) ?_
      refine we_false (by kernel_rfl) ?_
      refine ws fun K14 hK14 => ?_
      refine wr [(0, 0), (1, 0)] ?_
      refine gb0 [0, 1] [(58, .bool (x1.Op == 6)), (59, .bool (x1.Op == 6))] ?_
      refine gn hK14 ?_
      by_cases hc10 : x1.Op = 6
      ·rw [if_pos hc10] at h
       refine wk 58 (x1.Op == 6) true (beq_iff_eq.2 hc10) ?_
       refine we_true (by kernel_rfl) ?_
       refine wr [(0, 0), (1, 2)] ?_
       refine gb0 [0] [(60, pP bp0 0)] ?_
       rcases hq4 : mach_Machine_two_2.f lp0_0 lp0_1 lp0_2 lp0_3 lp0_4 sp0_5 sp0_13 sp0_14 with _ | r4
       ·rw [hq4] at h; cases h
       rw [hq4] at h
       simp only [] at h
       have hS88 := hS1.bring 6 rfl
       have hS89 := hS88.bring 6 rfl
       have hS90 := hS89.bring 6 rfl
       have hS91 := hS90.bring 6 rfl
       have hS92 := hS91.bring 6 rfl
       have hS93 := hS92.bring 6 rfl
       have hS95 : St w0 w1 [Own.blk bp0 (.cells #[(.slice Ap0_0 lp0_0.length cp0_0), (.slice Ap0_1 lp0_1.length cp0_1), (.slice Ap0_2 lp0_2.length cp0_2), (.slice Ap0_3 lp0_3.length cp0_3), (.slice Ap0_4 lp0_4.length cp0_4), vI ((sp0_5[0]?).getD 0), vI ((sp0_5[1]?).getD 0), vI ((sp0_5[2]?).getD 0), vI ((sp0_5[3]?).getD 0), vI ((sp0_5[4]?).getD 0), vI ((sp0_5[5]?).getD 0), vI ((sp0_5[6]?).getD 0), vI ((sp0_5[7]?).getD 0), vI sp0_13, vI sp0_14] 71 (0, 0)), Own.of (.slice Ap0_0 lp0_0.length cp0_0) 41 lp0_0, Own.of (.slice Ap0_1 lp0_1.length cp0_1) 3 lp0_1, Own.of (.slice Ap0_2 lp0_2.length cp0_2) 3 lp0_2, Own.of (.slice Ap0_3 lp0_3.length cp0_3) 56 lp0_3, Own.of (.slice Ap0_4 lp0_4.length cp0_4) 3 lp0_4, Own.all [Own.blk b1 (.cells #[vI x1.Op, vI x1.A, vI x1.B] 41 (0, 0)), Own.all LT]] := hS93.packN 6
       refine ge_call2 (m := 0) (d := some 61) (f := 58) (args := #[pP bp0 0, .func (.func 61) #[] #[]]) (by kernel_rfl) (mach_Machine_two_2_ok bp0 lp0_0 Ap0_0 cp0_0 lp0_1 Ap0_1 cp0_1 lp0_2 Ap0_2 cp0_2 lp0_3 Ap0_3 cp0_3 lp0_4 Ap0_4 cp0_4 sp0_5 sp0_13 sp0_14 _ _ _ hS95 _ hq4) ?_
       rintro _ w12 ⟨v6, rfl, hS94⟩
       refine ⟨_, rfl, ?_⟩
       have hS96 : St w0 w12 [Own.blk bp0 (.cells #[(.slice Ap0_0 lp0_0.length cp0_0), (.slice Ap0_1 lp0_1.length cp0_1), (.slice Ap0_2 lp0_2.length cp0_2), (.slice Ap0_3 lp0_3.length cp0_3), v6, vI ((sp0_5[0]?).getD 0), vI ((sp0_5[1]?).getD 0), vI ((sp0_5[2]?).getD 0), vI ((sp0_5[3]?).getD 0), vI ((sp0_5[4]?).getD 0), vI ((sp0_5[5]?).getD 0), vI ((sp0_5[6]?).getD 0), vI ((sp0_5[7]?).getD 0), vI sp0_13, vI sp0_14] 71 (0, 0)), Own.of (.slice Ap0_0 lp0_0.length cp0_0) 41 lp0_0, Own.of (.slice Ap0_1 lp0_1.length cp0_1) 3 lp0_1, Own.of (.slice Ap0_2 lp0_2.length cp0_2) 3 lp0_2, Own.of (.slice Ap0_3 lp0_3.length cp0_3) 56 lp0_3, Own.of v6 3 r4, Own.blk b1 (.cells #[vI x1.Op, vI x1.A, vI x1.B] 41 (0, 0)), Own.all LT] := hS94.unpack [Own.blk bp0 (.cells #[(.slice Ap0_0 lp0_0.length cp0_0), (.slice Ap0_1 lp0_1.length cp0_1), (.slice Ap0_2 lp0_2.length cp0_2), (.slice Ap0_3 lp0_3.length cp0_3), v6, vI ((sp0_5[0]?).getD 0), vI ((sp0_5[1]?).getD 0), vI ((sp0_5[2]?).getD 0), vI ((sp0_5[3]?).getD 0), vI ((sp0_5[4]?).getD 0), vI ((sp0_5[5]?).getD 0), vI ((sp0_5[6]?).getD 0), vI ((sp0_5[7]?).getD 0), vI sp0_13, vI sp0_14] 71 (0, 0)), Own.of (.slice Ap0_0 lp0_0.length cp0_0) 41 lp0_0, Own.of (.slice Ap0_1 lp0_1.length cp0_1) 3 lp0_1, Own.of (.slice Ap0_2 lp0_2.length cp0_2) 3 lp0_2, Own.of (.slice Ap0_3 lp0_3.length cp0_3) 56 lp0_3, Own.of v6 3 r4]
       refine gn hK2 ?_
       refine ws fun K15 hK15 => ?_
       refine wr [(0, 0), (1, 0), (2, 0), (3, 0), (4, 0), (5, 0)] ?_
       refine gb [0, 1, 2, 3, 4, 5] [(4, vI (IntKind.i64.wrap (sp0_13 + 1))), (161, vI (IntKind.i64.wrap (sp0_13 + 1))), (160, vI sp0_13), (159, pP bp0 13), (158, pP bp0 0), (157, pP bp0 0)] [.loaded ⟨bp0, 13, none⟩ (vI sp0_13)] ⟨hS96.c 0, trivial⟩ ?_
       refine gn hK15 ?_
       have hS97 := hS96.bring 7 rfl
       have hS98 := hS97.bring 6 rfl
       have hS99 := hS98.bring 6 rfl
       have hS100 := hS99.bring 6 rfl
       have hS101 := hS100.bring 6 rfl
       have hS102 := hS101.bring 6 rfl
       have hS103 := hS102.bring 6 rfl
       have hS104 := hS103.takeN 7
       obtain rfl := si h
       exact we_ret (pr0 [.tmp 4] [vI (IntKind.i64.wrap (sp0_13 + 1))] ⟨(.slice Ap0_2 lp0_2.length cp0_2), (.slice Ap0_3 lp0_3.length cp0_3), v6, rfl, hS104⟩)
      ·rw [if_neg hc10] at h
       refine wk 58 (x1.Op == 6) false (beq_eq_false_iff_ne.2 hc10) ?_
       refine we_false (by kernel_rfl) ?_
       refine ws fun K16 hK16 => ?_
       refine wr [(0, 0), (1, 0)] ?_
       refine gb0 [0, 1] [(62, .bool (x1.Op == 7)), (63, .bool (x1.Op == 7))] ?_
       refine gn hK16 ?_
       by_cases hc11 : x1.Op = 7
       ·rw [if_pos hc11] at h
        refine wk 62 (x1.Op == 7) true (beq_iff_eq.2 hc11) ?_
        refine we_true (by kernel_rfl) ?_
        refine wr [(0, 0), (1, 2)] ?_
        refine gb0 [0] [(64, pP bp0 0)] ?_
        rcases hq5 : mach_Machine_two_3.f lp0_0 lp0_1 lp0_2 lp0_3 lp0_4 sp0_5 sp0_13 sp0_14 with _ | r5
        ·rw [hq5] at h; cases h
        rw [hq5] at h
        simp only [] at h
        have hS105 := hS1.bring 6 rfl
        have hS106 := hS105.bring 6 rfl
        have hS107 := hS106.bring 6 rfl
        have hS108 := hS107.bring 6 rfl
        have hS109 := hS108.bring 6 rfl
        have hS110 := hS109.bring 6 rfl
        have hS112 : St w0 w1 [Own.blk bp0 (.cells #[(.slice Ap0_0 lp0_0.length cp0_0), (.slice Ap0_1 lp0_1.length cp0_1), (.slice Ap0_2 lp0_2.length cp0_2), (.slice Ap0_3 lp0_3.length cp0_3), (.slice Ap0_4 lp0_4.length cp0_4), vI ((sp0_5[0]?).getD 0), vI ((sp0_5[1]?).getD 0), vI ((sp0_5[2]?).getD 0), vI ((sp0_5[3]?).getD 0), vI ((sp0_5[4]?).getD 0), vI ((sp0_5[5]?).getD 0), vI ((sp0_5[6]?).getD 0), vI ((sp0_5[7]?).getD 0), vI sp0_13, vI sp0_14] 71 (0, 0)), Own.of (.slice Ap0_0 lp0_0.length cp0_0) 41 lp0_0, Own.of (.slice Ap0_1 lp0_1.length cp0_1) 3 lp0_1, Own.of (.slice Ap0_2 lp0_2.length cp0_2) 3 lp0_2, Own.of (.slice Ap0_3 lp0_3.length cp0_3) 56 lp0_3, Own.of (.slice Ap0_4 lp0_4.length cp0_4) 3 lp0_4, Own.all [Own.blk b1 (.cells #[vI x1.Op, vI x1.A, vI x1.B] 41 (0, 0)), Own.all LT]] := hS110.packN 6
        refine ge_call2 (m := 0) (d := some 65) (f := 58) (args := #[pP bp0 0, .func (.func 62) #[] #[]]) (by kernel_rfl) (mach_Machine_two_3_ok bp0 lp0_0 Ap0_0 cp0_0 lp0_1 Ap0_1 cp0_1 lp0_2 Ap0_2 cp0_2 lp0_3 Ap0_3 cp0_3 lp0_4 Ap0_4 cp0_4 sp0_5 sp0_13 sp0_14 _ _ _ hS112 _ hq5) ?_
        rintro _ w13 ⟨v7, rfl, hS111⟩
        refine ⟨_, rfl, ?_⟩
        have hS113 : St w0 w13 [Own.blk bp0 (.cells #[(.slice Ap0_0 lp0_0.length cp0_0), (.slice Ap0_1 lp0_1.length cp0_1), (.slice Ap0_2 lp0_2.length cp0_2), (.slice Ap0_3 lp0_3.length cp0_3), v7, vI ((sp0_5[0]?).getD 0), vI ((sp0_5[1]?).getD 0), vI ((sp0_5[2]?).getD 0), vI ((sp0_5[3]?).getD 0), vI ((sp0_5[4]?).getD 0), vI ((sp0_5[5]?).getD 0), vI ((sp0_5[6]?).getD 0), vI ((sp0_5[7]?).getD 0), vI sp0_13, vI sp0_14] 71 (0, 0)), Own.of (.slice Ap0_0 lp0_0.length cp0_0) 41 lp0_0, Own.of (.slice Ap0_1 lp0_1.length cp0_1) 3 lp0_1, Own.of (.slice Ap0_2 lp0_2.length cp0_2) 3 lp0_2, Own.of (.slice Ap0_3 lp0_3.length cp0_3) 56 lp0_3, Own.of v7 3 r5, Own.blk b1 (.cells #[vI x1.Op, vI x1.A, vI x1.B] 41 (0, 0)), Own.all LT] := hS111.unpack [Own.blk bp0 (.cells #[(.slice Ap0_0 lp0_0.length cp0_0), (.slice Ap0_1 lp0_1.length cp0_1), (.slice Ap0_2 lp0_2.length cp0_2), (.slice Ap0_3 lp0_3.length cp0_3), v7, vI ((sp0_5[0]?).getD 0), vI ((sp0_5[1]?).getD 0), vI ((sp0_5[2]?).getD 0), vI ((sp0_5[3]?).getD 0), vI ((sp0_5[4]?).getD 0), vI ((sp0_5[5]?).getD 0), vI ((sp0_5[6]?).getD 0), vI ((sp0_5[7]?).getD 0), vI sp0_13, vI sp0_14] 71 (0, 0)), Own.of (.slice Ap0_0 lp0_0.length cp0_0) 41 lp0_0, Own.of (.slice Ap0_1 lp0_1.length cp0_1) 3 lp0_1, Own.of (.slice Ap0_2 lp0_2.length cp0_2) 3 lp0_2, Own.of (.slice Ap0_3 lp0_3.length cp0_3) 56 lp0_3, Own.of v7 3 r5]
        refine gn hK2 ?_
        refine ws fun K17 hK17 => ?_
        refine wr [(0, 0), (1, 0), (2, 0), (3, 0), (4, 0), (5, 0)] ?_
        refine gb [0, 1, 2, 3, 4, 5] [(4, vI (IntKind.i64.wrap (sp0_13 + 1))), (161, vI (IntKind.i64.wrap (sp0_13 + 1))), (160, vI sp0_13), (159, pP bp0 13), (158, pP bp0 0), (157, pP bp0 0)] [.loaded ⟨bp0, 13, none⟩ (vI sp0_13)] ⟨hS113.c 0, trivial⟩ ?_
        refine gn hK17 ?_
        have hS114 := hS113.bring 7 rfl
        have hS115 := hS114.bring 6 rfl
        have hS116 := hS115.bring 6 rfl
        have hS117 := hS116.bring 6 rfl
        have hS118 := hS117.bring 6 rfl
        have hS119 := hS118.bring 6 rfl
        have hS120 := hS119.bring 6 rfl
        have hS121 := hS120.takeN 7
        obtain rfl := si h
        exact we_ret (pr0 [.tmp 4] [vI (IntKind.i64.wrap (sp0_13 + 1))] ⟨(.slice Ap0_2 lp0_2.length cp0_2), (.slice Ap0_3 lp0_3.length cp0_3), v7, rfl, hS121⟩)
       ·rw [if_neg hc11] at h
        refine wk 62 (x1.Op == 7) false (beq_eq_false_iff_ne.2 hc11) ?_
        refine we_false (by kernel_rfl) ?_
        refine ws fun K18 hK18 => ?_
        refine wr [(0, 0), (1, 0)] ?_
        refine gb0 [0, 1] [(66, .bool (x1.Op == 8)), (67, .bool (x1.Op == 8))] ?_
        refine gn hK18 ?_
        by_cases hc12 : x1.Op = 8
        ·rw [if_pos hc12] at h
         refine wk 66 (x1.Op == 8) true (beq_iff_eq.2 hc12) ?_
         refine we_true (by kernel_rfl) ?_
         refine wr [(0, 0), (1, 2)] ?_
         refine gb0 [0] [(68, pP bp0 0)] ?_
         rcases hq6 : mach_Machine_two_4.f lp0_0 lp0_1 lp0_2 lp0_3 lp0_4 sp0_5 sp0_13 sp0_14 with _ | r6
         ·rw [hq6] at h; cases h
         rw [hq6] at h
         simp only [] at h
         have hS122 := hS1.bring 6 rfl
         have hS123 := hS122.bring 6 rfl
         have hS124 := hS123.bring 6 rfl
         have hS125 := hS124.bring 6 rfl
         have hS126 := hS125.bring 6 rfl
         have hS127 := hS126.bring 6 rfl
         have hS129 : St w0 w1 [Own.blk bp0 (.cells #[(.slice Ap0_0 lp0_0.length cp0_0), (.slice Ap0_1 lp0_1.length cp0_1), (.slice Ap0_2 lp0_2.length cp0_2), (.slice Ap0_3 lp0_3.length cp0_3), (.slice Ap0_4 lp0_4.length cp0_4), vI ((sp0_5[0]?).getD 0), vI ((sp0_5[1]?).getD 0), vI ((sp0_5[2]?).getD 0), vI ((sp0_5[3]?).getD 0), vI ((sp0_5[4]?).getD 0), vI ((sp0_5[5]?).getD 0), vI ((sp0_5[6]?).getD 0), vI ((sp0_5[7]?).getD 0), vI sp0_13, vI sp0_14] 71 (0, 0)), Own.of (.slice Ap0_0 lp0_0.length cp0_0) 41 lp0_0, Own.of (.slice Ap0_1 lp0_1.length cp0_1) 3 lp0_1, Own.of (.slice Ap0_2 lp0_2.length cp0_2) 3 lp0_2, Own.of (.slice Ap0_3 lp0_3.length cp0_3) 56 lp0_3, Own.of (.slice Ap0_4 lp0_4.length cp0_4) 3 lp0_4, Own.all [Own.blk b1 (.cells #[vI x1.Op, vI x1.A, vI x1.B] 41 (0, 0)), Own.all LT]] := hS127.packN 6
         refine ge_call2 (m := 0) (d := some 69) (f := 58) (args := #[pP bp0 0, .func (.func 64) #[] #[]]) (by kernel_rfl) (mach_Machine_two_4_ok bp0 lp0_0 Ap0_0 cp0_0 lp0_1 Ap0_1 cp0_1 lp0_2 Ap0_2 cp0_2 lp0_3 Ap0_3 cp0_3 lp0_4 Ap0_4 cp0_4 sp0_5 sp0_13 sp0_14 _ _ _ hS129 _ hq6) ?_
         rintro _ w14 ⟨v8, rfl, hS128⟩
         refine ⟨_, rfl, ?_⟩
         have hS130 : St w0 w14 [Own.blk bp0 (.cells #[(.slice Ap0_0 lp0_0.length cp0_0), (.slice Ap0_1 lp0_1.length cp0_1), (.slice Ap0_2 lp0_2.length cp0_2), (.slice Ap0_3 lp0_3.length cp0_3), v8, vI ((sp0_5[0]?).getD 0), vI ((sp0_5[1]?).getD 0), vI ((sp0_5[2]?).getD 0), vI ((sp0_5[3]?).getD 0), vI ((sp0_5[4]?).getD 0), vI ((sp0_5[5]?).getD 0), vI ((sp0_5[6]?).getD 0), vI ((sp0_5[7]?).getD 0), vI sp0_13, vI sp0_14] 71 (0, 0)), Own.of (.slice Ap0_0 lp0_0.length cp0_0) 41 lp0_0, Own.of (.slice Ap0_1 lp0_1.length cp0_1) 3 lp0_1, Own.of (.slice Ap0_2 lp0_2.length cp0_2) 3 lp0_2, Own.of (.slice Ap0_3 lp0_3.length cp0_3) 56 lp0_3, Own.of v8 3 r6, Own.blk b1 (.cells #[vI x1.Op, vI x1.A, vI x1.B] 41 (0, 0)), Own.all LT] := hS128.unpack [Own.blk bp0 (.cells #[(.slice Ap0_0 lp0_0.length cp0_0), (.slice Ap0_1 lp0_1.length cp0_1), (.slice Ap0_2 lp0_2.length cp0_2), (.slice Ap0_3 lp0_3.length cp0_3), v8, vI ((sp0_5[0]?).getD 0), vI ((sp0_5[1]?).getD 0), vI ((sp0_5[2]?).getD 0), vI ((sp0_5[3]?).getD 0), vI ((sp0_5[4]?).getD 0), vI ((sp0_5[5]?).getD 0), vI ((sp0_5[6]?).getD 0), vI ((sp0_5[7]?).getD 0), vI sp0_13, vI sp0_14] 71 (0, 0)), Own.of (.slice Ap0_0 lp0_0.length cp0_0) 41 lp0_0, Own.of (.slice Ap0_1 lp0_1.length cp0_1) 3 lp0_1, Own.of (.slice Ap0_2 lp0_2.length cp0_2) 3 lp0_2, Own.of (.slice Ap0_3 lp0_3.length cp0_3) 56 lp0_3, Own.of v8 3 r6]
         refine gn hK2 ?_
         refine ws fun K19 hK19 => ?_
         refine wr [(0, 0), (1, 0), (2, 0), (3, 0), (4, 0), (5, 0)] ?_
         refine gb [0, 1, 2, 3, 4, 5] [(4, vI (IntKind.i64.wrap (sp0_13 + 1))), (161, vI (IntKind.i64.wrap (sp0_13 + 1))), (160, vI sp0_13), (159, pP bp0 13), (158, pP bp0 0), (157, pP bp0 0)] [.loaded ⟨bp0, 13, none⟩ (vI sp0_13)] ⟨hS130.c 0, trivial⟩ ?_
         refine gn hK19 ?_
         have hS131 := hS130.bring 7 rfl
         have hS132 := hS131.bring 6 rfl
         have hS133 := hS132.bring 6 rfl
         have hS134 := hS133.bring 6 rfl
         have hS135 := hS134.bring 6 rfl
         have hS136 := hS135.bring 6 rfl
         have hS137 := hS136.bring 6 rfl
         have hS138 := hS137.takeN 7
         obtain rfl := si h
         exact we_ret (pr0 [.tmp 4] [vI (IntKind.i64.wrap (sp0_13 + 1))] ⟨(.slice Ap0_2 lp0_2.length cp0_2), (.slice Ap0_3 lp0_3.length cp0_3), v8, rfl, hS138⟩)
        ·rw [if_neg hc12] at h
         refine wk 66 (x1.Op == 8) false (beq_eq_false_iff_ne.2 hc12) ?_
         refine we_false (by kernel_rfl) ?_
         refine ws fun K20 hK20 => ?_
         refine wr [(0, 0), (1, 0)] ?_
         refine gb0 [0, 1] [(70, .bool (x1.Op == 9)), (71, .bool (x1.Op == 9))] ?_
         refine gn hK20 ?_
         by_cases hc13 : x1.Op = 9
         ·rw [if_pos hc13] at h
          refine wk 70 (x1.Op == 9) true (beq_iff_eq.2 hc13) ?_
          refine we_true (by kernel_rfl) ?_
          refine we_orders3 (by kernel_rfl) [(4, [⟨bp0, 4, none⟩], [], []), (8, [⟨bp0, 1, none⟩], [11, 12, 13, 14], []), (10, [⟨b1, 1, none⟩], [11, 12, 13, 14], []), (12, [⟨blkOf Ap0_1, offOf Ap0_1 + ((x1.A).toNat) * 1, none⟩], [13, 14], [])] (.vals [0] (.vals [1] (.vals [2] (.vals [3] (.vals [4] (.vals [5] (.vals [6] (.vals [7] (.vals [8] (.vals [9] (.vals [10] (.vals [11] (.vals [12] (.alt 13 1 (.alt 14 2 (.vals [15] (.vals [16] (.alt 17 2 .fin .nomore))) .nomore) .nomore)))))))))))))) (by kernel_rfl) (by kernel_rfl) ?_
          have hS139 := hS1.drew
          refine go3_batch [0, 1, 2, 3] (ans := []) (vs := [(75, pP bp0 4), (74, pP bp0 0), (73, pP bp0 0), (72, pP bp0 0)]) (l := []) (by kernel_rfl) trivial mem_nil3 ?_
          refine go3_batch [4] (ans := [.val ((.slice Ap0_4 lp0_4.length cp0_4))]) (vs := [(76, (.slice Ap0_4 lp0_4.length cp0_4))]) (l := [.loaded ⟨bp0, 4, none⟩ ((.slice Ap0_4 lp0_4.length cp0_4))]) (by kernel_rfl) ⟨hS139.c 1, trivial⟩ (mem_one3 (by kernel_rfl)) ?_
          refine go3_batch [5, 6, 7] (ans := []) (vs := [(79, pP bp0 1), (78, pP bp0 0), (77, pP bp0 0)]) (l := []) (by kernel_rfl) trivial mem_nil3 ?_
          refine go3_batch [8] (ans := [.val ((.slice Ap0_1 lp0_1.length cp0_1))]) (vs := [(80, (.slice Ap0_1 lp0_1.length cp0_1))]) (l := [.loaded ⟨bp0, 1, none⟩ ((.slice Ap0_1 lp0_1.length cp0_1))]) (by kernel_rfl) ⟨hS139.c 1, trivial⟩ (mem_one3 (by kernel_rfl)) ?_
          refine go3_batch [9] (ans := []) (vs := [(81, pP b1 1)]) (l := []) (by kernel_rfl) trivial mem_nil3 ?_
          refine go3_batch [10] (ans := [.val (vI x1.A)]) (vs := [(82, vI x1.A)]) (l := [.loaded ⟨b1, 1, none⟩ (vI x1.A)]) (by kernel_rfl) ⟨hS139.c 0, trivial⟩ (mem_one3 (by kernel_rfl)) ?_
          by_cases hc14 : 0 ≤ x1.A
          ·rw [if_pos hc14] at h
           rcases hx6 : lp0_1[(x1.A).toNat]? with _ | e3
           ·rw [hx6] at h; cases h
           rw [hx6] at h
           simp only [] at h
           refine go3_index (d := 83) (ty := 0) (t := 23) (el := 3) (sz := 1) (m := lp0_1.length) (c := cp0_1) (x := (.tmp 80)) (y := (.tmp 82)) (A := Ap0_1) (k' := .i64) (j := x1.A) (jn := ((x1.A).toNat)) (b0 := blkOf Ap0_1) (o0 := offOf Ap0_1) (by kernel_rfl) (by kernel_rfl) (by kernel_rfl) (by kernel_rfl) (by kernel_rfl) ((hS139.rdAt 3 rfl).eqSome (pos_of_get hx6)) (Int.toNat_of_nonneg hc14).symm (lt_of_get hx6) ?_
           refine go3_batch [12] (ans := [.val (vI e3)]) (vs := [(84, vI e3)]) (l := [.loaded ⟨blkOf Ap0_1, offOf Ap0_1 + ((x1.A).toNat) * 1, none⟩ (vI e3)]) (by kernel_rfl) ⟨RdL.cell (j := 0) (hS139.rdAt 3 rfl) hx6 rfl, trivial⟩ (mem_one3 (by kernel_rfl)) ?_
           refine go_alt3 (fun KK hKK => ?_) ?_
           ·refine ge_one2 ?_
            refine gw (some 85) (.cells #[vI e3] 3) (fun b => .slice (some ⟨b, 0, none⟩) 1 1) hS139 fun b4 w15 hx7 hS140 => ?_
            refine ge_nil fun a hF => hKK _ _ (RS.of2 (l := [.loaded ⟨bp0, 4, none⟩ ((.slice Ap0_4 lp0_4.length cp0_4))]) (by kernel_rfl) ⟨hS139.c 1, trivial⟩ ⟨hS140.c 2, trivial⟩) ?_ a hF
            refine go_alt3 (fun KK hKK => ?_) ?_
            ·have hS141 := hS140.bring 7 rfl
             by_cases hc15 : lp0_4.length < 17592186044416
             ·rw [if_pos hc15] at h
              refine ge_append (α := Int) (m := 0) (d := 86) (t := 23) (el := 3) (bytes := 8) (c1 := 1) (b1 := b4) (x := (.tmp 76)) (y := (.tmp 85)) (ty := 23) (v := (.slice Ap0_4 lp0_4.length cp0_4)) (z := vI 0) (l := lp0_4) (u := e3) (by kernel_rfl) (by kernel_rfl) (by kernel_rfl) (by kernel_rfl) (by kernel_rfl) rfl hS141 rfl (by omega) fun v9 w16 hS142 => ?_
              refine ge_nil fun a hF => hKK _ _ (RS.of2 (l := []) (by kernel_rfl) trivial trivial) ?_ a hF
              refine go3_batch [15, 16] (ans := []) (vs := [(88, pP bp0 4), (87, pP bp0 0)]) (l := []) (by kernel_rfl) trivial mem_nil3 ?_
              refine go_alt3 (fun KK hKK => ?_) ?_
              ·obtain ⟨Z3, cz3, rfl⟩ := hS142.open 0 rfl
               have hS143 := hS142.bring 2 rfl
               refine gs bp0 4 #[(.slice Ap0_0 lp0_0.length cp0_0), (.slice Ap0_1 lp0_1.length cp0_1), (.slice Ap0_2 lp0_2.length cp0_2), (.slice Ap0_3 lp0_3.length cp0_3), (.slice Ap0_4 lp0_4.length cp0_4), vI ((sp0_5[0]?).getD 0), vI ((sp0_5[1]?).getD 0), vI ((sp0_5[2]?).getD 0), vI ((sp0_5[3]?).getD 0), vI ((sp0_5[4]?).getD 0), vI ((sp0_5[5]?).getD 0), vI ((sp0_5[6]?).getD 0), vI ((sp0_5[7]?).getD 0), vI sp0_13, vI sp0_14] 71 [(.slice Z3 (lp0_4 ++ [e3]).length cz3)] hS143 fun w17 hS144 => ?_
               have hS145 : St w0 w17 [Own.blk bp0 (.cells #[(.slice Ap0_0 lp0_0.length cp0_0), (.slice Ap0_1 lp0_1.length cp0_1), (.slice Ap0_2 lp0_2.length cp0_2), (.slice Ap0_3 lp0_3.length cp0_3), (.slice Z3 (lp0_4 ++ [e3]).length cz3), vI ((sp0_5[0]?).getD 0), vI ((sp0_5[1]?).getD 0), vI ((sp0_5[2]?).getD 0), vI ((sp0_5[3]?).getD 0), vI ((sp0_5[4]?).getD 0), vI ((sp0_5[5]?).getD 0), vI ((sp0_5[6]?).getD 0), vI ((sp0_5[7]?).getD 0), vI sp0_13, vI sp0_14] 71 (0, 0)), Own.of (.slice Z3 (lp0_4 ++ [e3]).length cz3) 3 (lp0_4 ++ [e3]), Own.blk b1 (.cells #[vI x1.Op, vI x1.A, vI x1.B] 41 (0, 0)), Own.of (.slice Ap0_0 lp0_0.length cp0_0) 41 lp0_0, Own.of (.slice Ap0_1 lp0_1.length cp0_1) 3 lp0_1, Own.of (.slice Ap0_2 lp0_2.length cp0_2) 3 lp0_2, Own.of (.slice Ap0_3 lp0_3.length cp0_3) 56 lp0_3, Own.all LT] := hS144
               refine ge_nil fun a hF => hKK _ _ (RS.of2 (l := []) (by kernel_rfl) trivial trivial) ?_ a hF
               refine go_fin3 fun a hF => hK2 _ _ ?_ a hF
               refine ws fun K21 hK21 => ?_
               refine wr [(0, 0), (1, 0), (2, 0), (3, 0), (4, 0), (5, 0)] ?_
               refine gb [0, 1, 2, 3, 4, 5] [(4, vI (IntKind.i64.wrap (sp0_13 + 1))), (161, vI (IntKind.i64.wrap (sp0_13 + 1))), (160, vI sp0_13), (159, pP bp0 13), (158, pP bp0 0), (157, pP bp0 0)] [.loaded ⟨bp0, 13, none⟩ (vI sp0_13)] ⟨hS145.c 0, trivial⟩ ?_
               refine gn hK21 ?_
               have hS146 := hS145.bring 7 rfl
               have hS147 := hS146.bring 2 rfl
               have hS148 := hS147.bring 7 rfl
               have hS149 := hS148.bring 7 rfl
               have hS150 := hS149.bring 7 rfl
               have hS151 := hS150.bring 7 rfl
               have hS152 := hS151.bring 6 rfl
               have hS153 := hS152.takeN 7
               obtain rfl := si h
               exact we_ret (pr0 [.tmp 4] [vI (IntKind.i64.wrap (sp0_13 + 1))] ⟨(.slice Ap0_2 lp0_2.length cp0_2), (.slice Ap0_3 lp0_3.length cp0_3), (.slice Z3 (lp0_4 ++ [e3]).length cz3), rfl, hS153⟩)
              exact go_nomore3
             ·rw [if_neg hc15] at h
              cases h
            exact go_nomore3
           exact go_nomore3
          ·rw [if_neg hc14] at h
           cases h
         ·rw [if_neg hc13] at h
          refine wk 70 (x1.Op == 9) false (beq_eq_false_iff_ne.2 hc13) ?_
          refine we_false (by kernel_rfl) ?_
          refine ws fun K22 hK22 => ?_
          refine wr [(0, 0), (1, 0)] ?_
          refine gb0 [0, 1] [(89, .bool (x1.Op == 10)), (90, .bool (x1.Op == 10))] ?_
          refine gn hK22 ?_
          by_cases hc16 : x1.Op = 10
          ·rw [if_pos hc16] at h
           refine wk 89 (x1.Op == 10) true (beq_iff_eq.2 hc16) ?_
           refine we_true (by kernel_rfl) ?_
           refine we_orders3 (by kernel_rfl) [(4, [⟨bp0, 3, none⟩], [], []), (6, [⟨b1, 1, none⟩], [9, 10, 11], [])] (.vals [0] (.vals [1] (.vals [2] (.vals [3] (.vals [4] (.vals [5] (.vals [6] (.vals [7] (.alt 8 2 (.vals [9] (.alt 10 1 (.alt 11 2 (.vals [12] (.vals [13] (.alt 14 2 .fin .nomore))) .nomore) .nomore)) .nomore))))))))) (by kernel_rfl) (by kernel_rfl) ?_
           have hS154 := hS1.drew
           refine go3_batch [0, 1, 2, 3] (ans := []) (vs := [(94, pP bp0 3), (93, pP bp0 0), (92, pP bp0 0), (91, pP bp0 0)]) (l := []) (by kernel_rfl) trivial mem_nil3 ?_
           refine go3_batch [4] (ans := [.val ((.slice Ap0_3 lp0_3.length cp0_3))]) (vs := [(95, (.slice Ap0_3 lp0_3.length cp0_3))]) (l := [.loaded ⟨bp0, 3, none⟩ ((.slice Ap0_3 lp0_3.length cp0_3))]) (by kernel_rfl) ⟨hS154.c 1, trivial⟩ (mem_one3 (by kernel_rfl)) ?_
           refine go3_batch [5] (ans := []) (vs := [(96, pP b1 1)]) (l := []) (by kernel_rfl) trivial mem_nil3 ?_
           refine go3_batch [6] (ans := [.val (vI x1.A)]) (vs := [(97, vI x1.A)]) (l := [.loaded ⟨b1, 1, none⟩ (vI x1.A)]) (by kernel_rfl) ⟨hS154.c 0, trivial⟩ (mem_one3 (by kernel_rfl)) ?_
           refine go3_batch [7] (ans := []) (vs := [(98, pP bp0 0)]) (l := []) (by kernel_rfl) trivial mem_nil3 ?_
           refine go_alt3 (fun KK hKK => ?_) ?_
           ·rcases hq7 : mach_Machine_pop.f lp0_0 lp0_1 lp0_2 lp0_3 lp0_4 sp0_5 sp0_13 sp0_14 with _ | r7
            ·rw [hq7] at h; cases h
            rw [hq7] at h
            simp only [] at h
            have hS155 := hS154.bring 6 rfl
            have hS156 := hS155.bring 6 rfl
            have hS157 := hS156.bring 6 rfl
            have hS158 := hS157.bring 6 rfl
            have hS159 := hS158.bring 6 rfl
            have hS160 := hS159.bring 6 rfl
            have hS162 : St w0 w1.drew [Own.blk bp0 (.cells #[(.slice Ap0_0 lp0_0.length cp0_0), (.slice Ap0_1 lp0_1.length cp0_1), (.slice Ap0_2 lp0_2.length cp0_2), (.slice Ap0_3 lp0_3.length cp0_3), (.slice Ap0_4 lp0_4.length cp0_4), vI ((sp0_5[0]?).getD 0), vI ((sp0_5[1]?).getD 0), vI ((sp0_5[2]?).getD 0), vI ((sp0_5[3]?).getD 0), vI ((sp0_5[4]?).getD 0), vI ((sp0_5[5]?).getD 0), vI ((sp0_5[6]?).getD 0), vI ((sp0_5[7]?).getD 0), vI sp0_13, vI sp0_14] 71 (0, 0)), Own.of (.slice Ap0_0 lp0_0.length cp0_0) 41 lp0_0, Own.of (.slice Ap0_1 lp0_1.length cp0_1) 3 lp0_1, Own.of (.slice Ap0_2 lp0_2.length cp0_2) 3 lp0_2, Own.of (.slice Ap0_3 lp0_3.length cp0_3) 56 lp0_3, Own.of (.slice Ap0_4 lp0_4.length cp0_4) 3 lp0_4, Own.all [Own.blk b1 (.cells #[vI x1.Op, vI x1.A, vI x1.B] 41 (0, 0)), Own.all LT]] := hS160.packN 6
            refine ge_call2 (m := 0) (d := some 99) (f := 57) (args := #[pP bp0 0]) (by kernel_rfl) (mach_Machine_pop_ok bp0 lp0_0 Ap0_0 cp0_0 lp0_1 Ap0_1 cp0_1 lp0_2 Ap0_2 cp0_2 lp0_3 Ap0_3 cp0_3 lp0_4 Ap0_4 cp0_4 sp0_5 sp0_13 sp0_14 _ _ _ hS162 _ hq7) ?_
            rintro _ w18 ⟨v10, rfl, hS161⟩
            refine ⟨_, rfl, ?_⟩
            have hS163 : St w0 w18 [Own.blk bp0 (.cells #[(.slice Ap0_0 lp0_0.length cp0_0), (.slice Ap0_1 lp0_1.length cp0_1), (.slice Ap0_2 lp0_2.length cp0_2), (.slice Ap0_3 lp0_3.length cp0_3), v10, vI ((sp0_5[0]?).getD 0), vI ((sp0_5[1]?).getD 0), vI ((sp0_5[2]?).getD 0), vI ((sp0_5[3]?).getD 0), vI ((sp0_5[4]?).getD 0), vI ((sp0_5[5]?).getD 0), vI ((sp0_5[6]?).getD 0), vI ((sp0_5[7]?).getD 0), vI sp0_13, vI sp0_14] 71 (0, 0)), Own.of (.slice Ap0_0 lp0_0.length cp0_0) 41 lp0_0, Own.of (.slice Ap0_1 lp0_1.length cp0_1) 3 lp0_1, Own.of (.slice Ap0_2 lp0_2.length cp0_2) 3 lp0_2, Own.of (.slice Ap0_3 lp0_3.length cp0_3) 56 lp0_3, Own.of v10 3 r7.2, Own.blk b1 (.cells #[vI x1.Op, vI x1.A, vI x1.B] 41 (0, 0)), Own.all LT] := hS161.unpack [Own.blk bp0 (.cells #[(.slice Ap0_0 lp0_0.length cp0_0), (.slice Ap0_1 lp0_1.length cp0_1), (.slice Ap0_2 lp0_2.length cp0_2), (.slice Ap0_3 lp0_3.length cp0_3), v10, vI ((sp0_5[0]?).getD 0), vI ((sp0_5[1]?).getD 0), vI ((sp0_5[2]?).getD 0), vI ((sp0_5[3]?).getD 0), vI ((sp0_5[4]?).getD 0), vI ((sp0_5[5]?).getD 0), vI ((sp0_5[6]?).getD 0), vI ((sp0_5[7]?).getD 0), vI sp0_13, vI sp0_14] 71 (0, 0)), Own.of (.slice Ap0_0 lp0_0.length cp0_0) 41 lp0_0, Own.of (.slice Ap0_1 lp0_1.length cp0_1) 3 lp0_1, Own.of (.slice Ap0_2 lp0_2.length cp0_2) 3 lp0_2, Own.of (.slice Ap0_3 lp0_3.length cp0_3) 56 lp0_3, Own.of v10 3 r7.2]
            refine ge_nil fun a hF => hKK _ _ (RS.of2 (l := [.loaded ⟨bp0, 3, none⟩ ((.slice Ap0_3 lp0_3.length cp0_3)), .loaded ⟨b1, 1, none⟩ (vI x1.A)]) (by kernel_rfl) ⟨hS154.c 1, hS154.c 0, trivial⟩ ⟨hS163.c 0, hS163.c 6, trivial⟩) ?_ a hF
            refine go3_batch [9] (ans := []) (vs := [(100, .agg #[vI x1.A, vI r7.1])]) (l := []) (by kernel_rfl) trivial mem_nil3 ?_
            refine go_alt3 (fun KK hKK => ?_) ?_
            ·refine ge_one2 ?_
             refine gw (some 101) (.cells #[vI x1.A, vI r7.1] 56) (fun b => .slice (some ⟨b, 0, none⟩) 1 1) hS163 fun b5 w19 hx8 hS164 => ?_
             refine ge_nil fun a hF => hKK _ _ (RS.of2 (l := [.loaded ⟨bp0, 3, none⟩ ((.slice Ap0_3 lp0_3.length cp0_3))]) (by kernel_rfl) ⟨hS163.c 0, trivial⟩ ⟨hS164.c 1, trivial⟩) ?_ a hF
             refine go_alt3 (fun KK hKK => ?_) ?_
             ·have hS165 := hS164.bring 5 rfl
              by_cases hc17 : lp0_3.length < 8796093022208
              ·rw [if_pos hc17] at h
               refine ge_append (α := SPut) (m := 0) (d := 102) (t := 34) (el := 56) (bytes := 16) (c1 := 1) (b1 := b5) (x := (.tmp 95)) (y := (.tmp 101)) (ty := 34) (v := (.slice Ap0_3 lp0_3.length cp0_3)) (z := .agg #[vI 0, vI 0]) (l := lp0_3) (u := (⟨x1.A, r7.1⟩ : SPut)) (by kernel_rfl) (by kernel_rfl) (by kernel_rfl) (by kernel_rfl) (by kernel_rfl) rfl hS165 rfl (by omega) fun v11 w20 hS166 => ?_
               refine ge_nil fun a hF => hKK _ _ (RS.of2 (l := []) (by kernel_rfl) trivial trivial) ?_ a hF
               refine go3_batch [12, 13] (ans := []) (vs := [(104, pP bp0 3), (103, pP bp0 0)]) (l := []) (by kernel_rfl) trivial mem_nil3 ?_
               refine go_alt3 (fun KK hKK => ?_) ?_
               ·obtain ⟨Z4, cz4, rfl⟩ := hS166.open 0 rfl
                have hS167 := hS166.bring 1 rfl
                refine gs bp0 3 #[(.slice Ap0_0 lp0_0.length cp0_0), (.slice Ap0_1 lp0_1.length cp0_1), (.slice Ap0_2 lp0_2.length cp0_2), (.slice Ap0_3 lp0_3.length cp0_3), v10, vI ((sp0_5[0]?).getD 0), vI ((sp0_5[1]?).getD 0), vI ((sp0_5[2]?).getD 0), vI ((sp0_5[3]?).getD 0), vI ((sp0_5[4]?).getD 0), vI ((sp0_5[5]?).getD 0), vI ((sp0_5[6]?).getD 0), vI ((sp0_5[7]?).getD 0), vI sp0_13, vI sp0_14] 71 [(.slice Z4 (lp0_3 ++ [(⟨x1.A, r7.1⟩ : SPut)]).length cz4)] hS167 fun w21 hS168 => ?_
                have hS169 : St w0 w21 [Own.blk bp0 (.cells #[(.slice Ap0_0 lp0_0.length cp0_0), (.slice Ap0_1 lp0_1.length cp0_1), (.slice Ap0_2 lp0_2.length cp0_2), (.slice Z4 (lp0_3 ++ [(⟨x1.A, r7.1⟩ : SPut)]).length cz4), v10, vI ((sp0_5[0]?).getD 0), vI ((sp0_5[1]?).getD 0), vI ((sp0_5[2]?).getD 0), vI ((sp0_5[3]?).getD 0), vI ((sp0_5[4]?).getD 0), vI ((sp0_5[5]?).getD 0), vI ((sp0_5[6]?).getD 0), vI ((sp0_5[7]?).getD 0), vI sp0_13, vI sp0_14] 71 (0, 0)), Own.of (.slice Z4 (lp0_3 ++ [(⟨x1.A, r7.1⟩ : SPut)]).length cz4) 56 (lp0_3 ++ [(⟨x1.A, r7.1⟩ : SPut)]), Own.of (.slice Ap0_0 lp0_0.length cp0_0) 41 lp0_0, Own.of (.slice Ap0_1 lp0_1.length cp0_1) 3 lp0_1, Own.of (.slice Ap0_2 lp0_2.length cp0_2) 3 lp0_2, Own.of v10 3 r7.2, Own.blk b1 (.cells #[vI x1.Op, vI x1.A, vI x1.B] 41 (0, 0)), Own.all LT] := hS168
                refine ge_nil fun a hF => hKK _ _ (RS.of2 (l := []) (by kernel_rfl) trivial trivial) ?_ a hF
                refine go_fin3 fun a hF => hK2 _ _ ?_ a hF
                refine ws fun K23 hK23 => ?_
                refine wr [(0, 0), (1, 0), (2, 0), (3, 0), (4, 0), (5, 0)] ?_
                refine gb [0, 1, 2, 3, 4, 5] [(4, vI (IntKind.i64.wrap (sp0_13 + 1))), (161, vI (IntKind.i64.wrap (sp0_13 + 1))), (160, vI sp0_13), (159, pP bp0 13), (158, pP bp0 0), (157, pP bp0 0)] [.loaded ⟨bp0, 13, none⟩ (vI sp0_13)] ⟨hS169.c 0, trivial⟩ ?_
                refine gn hK23 ?_
                have hS170 := hS169.bring 7 rfl
                have hS171 := hS170.bring 6 rfl
                have hS172 := hS171.bring 3 rfl
                have hS173 := hS172.bring 6 rfl
                have hS174 := hS173.bring 6 rfl
                have hS175 := hS174.bring 6 rfl
                have hS176 := hS175.bring 6 rfl
                have hS177 := hS176.takeN 7
                obtain rfl := si h
                exact we_ret (pr0 [.tmp 4] [vI (IntKind.i64.wrap (sp0_13 + 1))] ⟨(.slice Ap0_2 lp0_2.length cp0_2), (.slice Z4 (lp0_3 ++ [(⟨x1.A, r7.1⟩ : SPut)]).length cz4), v10, rfl, hS177⟩)
               exact go_nomore3
              ·rw [if_neg hc17] at h
               cases h
             exact go_nomore3
            exact go_nomore3
           exact go_nomore3
          ·rw [if_neg hc16] at h
           refine wk 89 (x1.Op == 10) false (beq_eq_false_iff_ne.2 hc16) ?_
           refine we_false (by kernel_rfl) ?_
           refine ws fun K24 hK24 => ?_
           refine wr [(0, 0), (1, 0)] ?_
           refine gb0 [0, 1] [(105, .bool (x1.Op == 11)), (106, .bool (x1.Op == 11))] ?_
           refine gn hK24 ?_
           by_cases hc18 : x1.Op = 11
           ·rw [if_pos hc18] at h
            refine wk 105 (x1.Op == 11) true (beq_iff_eq.2 hc18) ?_
            refine we_true (by kernel_rfl) ?_
            refine ws fun K25 hK25 => ?_
            refine wr [(0, 0), (1, 0), (2, 0)] ?_
            refine gb [0, 1, 2] [(4, vI x1.A), (108, vI x1.A), (107, pP b1 1)] [.loaded ⟨b1, 1, none⟩ (vI x1.A)] ⟨hS1.c 0, trivial⟩ ?_
            refine gn hK25 ?_
            have hS178 := hS1.bring 7 rfl
            have hS179 := hS178.bring 7 rfl
            have hS180 := hS179.bring 7 rfl
            have hS181 := hS180.bring 7 rfl
            have hS182 := hS181.bring 7 rfl
            have hS183 := hS182.bring 7 rfl
            have hS184 := hS183.bring 7 rfl
            have hS185 := hS184.takeN 7
            obtain rfl := si h
            exact we_ret (pr0 [.tmp 4] [vI x1.A] ⟨(.slice Ap0_2 lp0_2.length cp0_2), (.slice Ap0_3 lp0_3.length cp0_3), (.slice Ap0_4 lp0_4.length cp0_4), rfl, hS185⟩)
           ·rw [if_neg hc18] at h
            refine wk 105 (x1.Op == 11) false (beq_eq_false_iff_ne.2 hc18) ?_
            refine we_false (by kernel_rfl) ?_
            refine ws fun K26 hK26 => ?_
            refine wr [(0, 0), (1, 0)] ?_
            refine gb0 [0, 1] [(109, .bool (x1.Op == 12)), (110, .bool (x1.Op == 12))] ?_
            refine gn hK26 ?_
            by_cases hc19 : x1.Op = 12
            ·rw [if_pos hc19] at h
             refine wk 109 (x1.Op == 12) true (beq_iff_eq.2 hc19) ?_
             refine we_true (by kernel_rfl) ?_
             refine ws fun K27 hK27 => ?_
             refine wr [(0, 0), (1, 2), (2, 0)] ?_
             refine gb0 [0] [(111, pP bp0 0)] ?_
             rcases hq8 : mach_Machine_pop.f lp0_0 lp0_1 lp0_2 lp0_3 lp0_4 sp0_5 sp0_13 sp0_14 with _ | r8
             ·rw [hq8] at h; cases h
             rw [hq8] at h
             simp only [] at h
             have hS186 := hS1.bring 6 rfl
             have hS187 := hS186.bring 6 rfl
             have hS188 := hS187.bring 6 rfl
             have hS189 := hS188.bring 6 rfl
             have hS190 := hS189.bring 6 rfl
             have hS191 := hS190.bring 6 rfl
             have hS193 : St w0 w1 [Own.blk bp0 (.cells #[(.slice Ap0_0 lp0_0.length cp0_0), (.slice Ap0_1 lp0_1.length cp0_1), (.slice Ap0_2 lp0_2.length cp0_2), (.slice Ap0_3 lp0_3.length cp0_3), (.slice Ap0_4 lp0_4.length cp0_4), vI ((sp0_5[0]?).getD 0), vI ((sp0_5[1]?).getD 0), vI ((sp0_5[2]?).getD 0), vI ((sp0_5[3]?).getD 0), vI ((sp0_5[4]?).getD 0), vI ((sp0_5[5]?).getD 0), vI ((sp0_5[6]?).getD 0), vI ((sp0_5[7]?).getD 0), vI sp0_13, vI sp0_14] 71 (0, 0)), Own.of (.slice Ap0_0 lp0_0.length cp0_0) 41 lp0_0, Own.of (.slice Ap0_1 lp0_1.length cp0_1) 3 lp0_1, Own.of (.slice Ap0_2 lp0_2.length cp0_2) 3 lp0_2, Own.of (.slice Ap0_3 lp0_3.length cp0_3) 56 lp0_3, Own.of (.slice Ap0_4 lp0_4.length cp0_4) 3 lp0_4, Own.all [Own.blk b1 (.cells #[vI x1.Op, vI x1.A, vI x1.B] 41 (0, 0)), Own.all LT]] := hS191.packN 6
             refine ge_call2 (m := 0) (d := some 112) (f := 57) (args := #[pP bp0 0]) (by kernel_rfl) (mach_Machine_pop_ok bp0 lp0_0 Ap0_0 cp0_0 lp0_1 Ap0_1 cp0_1 lp0_2 Ap0_2 cp0_2 lp0_3 Ap0_3 cp0_3 lp0_4 Ap0_4 cp0_4 sp0_5 sp0_13 sp0_14 _ _ _ hS193 _ hq8) ?_
             rintro _ w22 ⟨v12, rfl, hS192⟩
             refine ⟨_, rfl, ?_⟩
             have hS194 : St w0 w22 [Own.blk bp0 (.cells #[(.slice Ap0_0 lp0_0.length cp0_0), (.slice Ap0_1 lp0_1.length cp0_1), (.slice Ap0_2 lp0_2.length cp0_2), (.slice Ap0_3 lp0_3.length cp0_3), v12, vI ((sp0_5[0]?).getD 0), vI ((sp0_5[1]?).getD 0), vI ((sp0_5[2]?).getD 0), vI ((sp0_5[3]?).getD 0), vI ((sp0_5[4]?).getD 0), vI ((sp0_5[5]?).getD 0), vI ((sp0_5[6]?).getD 0), vI ((sp0_5[7]?).getD 0), vI sp0_13, vI sp0_14] 71 (0, 0)), Own.of (.slice Ap0_0 lp0_0.length cp0_0) 41 lp0_0, Own.of (.slice Ap0_1 lp0_1.length cp0_1) 3 lp0_1, Own.of (.slice Ap0_2 lp0_2.length cp0_2) 3 lp0_2, Own.of (.slice Ap0_3 lp0_3.length cp0_3) 56 lp0_3, Own.of v12 3 r8.2, Own.blk b1 (.cells #[vI x1.Op, vI x1.A, vI x1.B] 41 (0, 0)), Own.all LT] := hS192.unpack [Own.blk bp0 (.cells #[(.slice Ap0_0 lp0_0.length cp0_0), (.slice Ap0_1 lp0_1.length cp0_1), (.slice Ap0_2 lp0_2.length cp0_2), (.slice Ap0_3 lp0_3.length cp0_3), v12, vI ((sp0_5[0]?).getD 0), vI ((sp0_5[1]?).getD 0), vI ((sp0_5[2]?).getD 0), vI ((sp0_5[3]?).getD 0), vI ((sp0_5[4]?).getD 0), vI ((sp0_5[5]?).getD 0), vI ((sp0_5[6]?).getD 0), vI ((sp0_5[7]?).getD 0), vI sp0_13, vI sp0_14] 71 (0, 0)), Own.of (.slice Ap0_0 lp0_0.length cp0_0) 41 lp0_0, Own.of (.slice Ap0_1 lp0_1.length cp0_1) 3 lp0_1, Own.of (.slice Ap0_2 lp0_2.length cp0_2) 3 lp0_2, Own.of (.slice Ap0_3 lp0_3.length cp0_3) 56 lp0_3, Own.of v12 3 r8.2]
             refine gb0 [2] [(113, .bool (r8.1 == 0))] ?_
             refine gn hK27 ?_
             by_cases hc20 : r8.1 = 0
             ·rw [if_pos hc20] at h
              refine wk 113 (r8.1 == 0) true (beq_iff_eq.2 hc20) ?_
              refine we_true (by kernel_rfl) ?_
              refine ws fun K28 hK28 => ?_
              refine wr [(0, 0), (1, 0), (2, 0)] ?_
              refine gb [0, 1, 2] [(4, vI x1.A), (115, vI x1.A), (114, pP b1 1)] [.loaded ⟨b1, 1, none⟩ (vI x1.A)] ⟨hS194.c 6, trivial⟩ ?_
              refine gn hK28 ?_
              have hS195 := hS194.bring 7 rfl
              have hS196 := hS195.bring 6 rfl
              have hS197 := hS196.bring 6 rfl
              have hS198 := hS197.bring 6 rfl
              have hS199 := hS198.bring 6 rfl
              have hS200 := hS199.bring 6 rfl
              have hS201 := hS200.bring 6 rfl
              have hS202 := hS201.takeN 7
              obtain rfl := si h
              exact we_ret (pr0 [.tmp 4] [vI x1.A] ⟨(.slice Ap0_2 lp0_2.length cp0_2), (.slice Ap0_3 lp0_3.length cp0_3), v12, rfl, hS202⟩)
             ·rw [if_neg hc20] at h
              refine wk 113 (r8.1 == 0) false (beq_eq_false_iff_ne.2 hc20) ?_
              refine we_false (by kernel_rfl) ?_
              refine we_skip fun a hF => hK2 _ _ ?_ a hF
              refine ws fun K29 hK29 => ?_
              refine wr [(0, 0), (1, 0), (2, 0), (3, 0), (4, 0), (5, 0)] ?_
              refine gb [0, 1, 2, 3, 4, 5] [(4, vI (IntKind.i64.wrap (sp0_13 + 1))), (161, vI (IntKind.i64.wrap (sp0_13 + 1))), (160, vI sp0_13), (159, pP bp0 13), (158, pP bp0 0), (157, pP bp0 0)] [.loaded ⟨bp0, 13, none⟩ (vI sp0_13)] ⟨hS194.c 0, trivial⟩ ?_
              refine gn hK29 ?_
              have hS203 := hS194.bring 7 rfl
              have hS204 := hS203.bring 6 rfl
              have hS205 := hS204.bring 6 rfl
              have hS206 := hS205.bring 6 rfl
              have hS207 := hS206.bring 6 rfl
              have hS208 := hS207.bring 6 rfl
              have hS209 := hS208.bring 6 rfl
              have hS210 := hS209.takeN 7
              obtain rfl := si h
              exact we_ret (pr0 [.tmp 4] [vI (IntKind.i64.wrap (sp0_13 + 1))] ⟨(.slice Ap0_2 lp0_2.length cp0_2), (.slice Ap0_3 lp0_3.length cp0_3), v12, rfl, hS210⟩)
            ·rw [if_neg hc19] at h
             refine wk 109 (x1.Op == 12) false (beq_eq_false_iff_ne.2 hc19) ?_
             refine we_false (by kernel_rfl) ?_
             refine ws fun K30 hK30 => ?_
             refine wr [(0, 0), (1, 0)] ?_
             refine gb0 [0, 1] [(116, .bool (x1.Op == 13)), (117, .bool (x1.Op == 13))] ?_
             refine gn hK30 ?_
             by_cases hc21 : x1.Op = 13
             ·rw [if_pos hc21] at h
              refine wk 116 (x1.Op == 13) true (beq_iff_eq.2 hc21) ?_
              refine we_true (by kernel_rfl) ?_
              refine we_orders3 (by kernel_rfl) [(2, [⟨b1, 1, none⟩], [], []), (4, [⟨b1, 2, none⟩], [], [])] (.vals [0] (.vals [1] (.vals [2] (.vals [3] (.vals [4] (.vals [5] (.vals [6] (.vals [7] (.alt 8 2 .fin .nomore))))))))) (by kernel_rfl) (by kernel_rfl) ?_
              have hS211 := hS1.drew
              refine go3_batch [0, 1] (ans := []) (vs := [(119, pP b1 1), (118, pP bp0 0)]) (l := []) (by kernel_rfl) trivial mem_nil3 ?_
              refine go3_batch [2] (ans := [.val (vI x1.A)]) (vs := [(120, vI x1.A)]) (l := [.loaded ⟨b1, 1, none⟩ (vI x1.A)]) (by kernel_rfl) ⟨hS211.c 0, trivial⟩ (mem_one3 (by kernel_rfl)) ?_
              refine go3_batch [3] (ans := []) (vs := [(121, pP b1 2)]) (l := []) (by kernel_rfl) trivial mem_nil3 ?_
              refine go3_batch [4] (ans := [.val (vI x1.B)]) (vs := [(122, vI x1.B)]) (l := [.loaded ⟨b1, 2, none⟩ (vI x1.B)]) (by kernel_rfl) ⟨hS211.c 0, trivial⟩ (mem_one3 (by kernel_rfl)) ?_
              refine go3_batch [5, 6] (ans := []) (vs := [(124, pP bp0 5), (123, pP bp0 0)]) (l := []) (by kernel_rfl) trivial mem_nil3 ?_
              by_cases hc22 : 0 ≤ x1.A
              ·rw [if_pos hc22] at h
               rcases hx9 : (arrN 8 sp0_5)[(x1.A).toNat]? with _ | e4
               ·rw [hx9] at h; cases h
               rw [hx9] at h
               simp only [] at h
               refine go3_arrAddr (d := 125) (ty := 0) (t := 69) (len := 8) (el := 3) (b := bp0) (o0 := 5) (sz := 1) (x := (.tmp 124)) (y := (.tmp 120)) (k' := .i64) (j := x1.A) (jn := ((x1.A).toNat)) (by kernel_rfl) (by kernel_rfl) (by kernel_rfl) (by kernel_rfl) (by kernel_rfl) (Int.toNat_of_nonneg hc22).symm (lt_of_get hx9) ?_
               refine go_alt3 (fun KK hKK => ?_) ?_
               ·have hS212 := hS211.bring 1 rfl
                refine ge_setA (b := bp0) (off := 5) (jn := ((x1.A).toNat)) (nn := 8) (t := 71) (pre := [(.slice Ap0_0 lp0_0.length cp0_0), (.slice Ap0_1 lp0_1.length cp0_1), (.slice Ap0_2 lp0_2.length cp0_2), (.slice Ap0_3 lp0_3.length cp0_3), (.slice Ap0_4 lp0_4.length cp0_4)]) (post := [vI sp0_13, vI sp0_14]) (l := (arrN 8 sp0_5)) (u := e4) (v := x1.B) (cs := #[(.slice Ap0_0 lp0_0.length cp0_0), (.slice Ap0_1 lp0_1.length cp0_1), (.slice Ap0_2 lp0_2.length cp0_2), (.slice Ap0_3 lp0_3.length cp0_3), (.slice Ap0_4 lp0_4.length cp0_4), vI ((sp0_5[0]?).getD 0), vI ((sp0_5[1]?).getD 0), vI ((sp0_5[2]?).getD 0), vI ((sp0_5[3]?).getD 0), vI ((sp0_5[4]?).getD 0), vI ((sp0_5[5]?).getD 0), vI ((sp0_5[6]?).getD 0), vI ((sp0_5[7]?).getD 0), vI sp0_13, vI sp0_14]) hS212 (by kernel_rfl) rfl rfl rfl hx9 fun w23 hS213 => ?_
                have hS214 : St w0 w23 [Own.blk bp0 (.cells #[(.slice Ap0_0 lp0_0.length cp0_0), (.slice Ap0_1 lp0_1.length cp0_1), (.slice Ap0_2 lp0_2.length cp0_2), (.slice Ap0_3 lp0_3.length cp0_3), (.slice Ap0_4 lp0_4.length cp0_4), vI ((((arrN 8 sp0_5).set ((x1.A).toNat) x1.B)[0]?).getD 0), vI ((((arrN 8 sp0_5).set ((x1.A).toNat) x1.B)[1]?).getD 0), vI ((((arrN 8 sp0_5).set ((x1.A).toNat) x1.B)[2]?).getD 0), vI ((((arrN 8 sp0_5).set ((x1.A).toNat) x1.B)[3]?).getD 0), vI ((((arrN 8 sp0_5).set ((x1.A).toNat) x1.B)[4]?).getD 0), vI ((((arrN 8 sp0_5).set ((x1.A).toNat) x1.B)[5]?).getD 0), vI ((((arrN 8 sp0_5).set ((x1.A).toNat) x1.B)[6]?).getD 0), vI ((((arrN 8 sp0_5).set ((x1.A).toNat) x1.B)[7]?).getD 0), vI sp0_13, vI sp0_14] 71 (0, 0)), Own.blk b1 (.cells #[vI x1.Op, vI x1.A, vI x1.B] 41 (0, 0)), Own.of (.slice Ap0_0 lp0_0.length cp0_0) 41 lp0_0, Own.of (.slice Ap0_1 lp0_1.length cp0_1) 3 lp0_1, Own.of (.slice Ap0_2 lp0_2.length cp0_2) 3 lp0_2, Own.of (.slice Ap0_3 lp0_3.length cp0_3) 56 lp0_3, Own.of (.slice Ap0_4 lp0_4.length cp0_4) 3 lp0_4, Own.all LT] := by exact hS213
                refine ge_nil fun a hF => hKK _ _ (RS.of2 (l := []) (by kernel_rfl) trivial trivial) ?_ a hF
                refine go_fin3 fun a hF => hK2 _ _ ?_ a hF
                refine ws fun K31 hK31 => ?_
                refine wr [(0, 0), (1, 0), (2, 0), (3, 0), (4, 0), (5, 0)] ?_
                refine gb [0, 1, 2, 3, 4, 5] [(4, vI (IntKind.i64.wrap (sp0_13 + 1))), (161, vI (IntKind.i64.wrap (sp0_13 + 1))), (160, vI sp0_13), (159, pP bp0 13), (158, pP bp0 0), (157, pP bp0 0)] [.loaded ⟨bp0, 13, none⟩ (vI sp0_13)] ⟨hS214.c 0, trivial⟩ ?_
                refine gn hK31 ?_
                have hS215 := hS214.bring 7 rfl
                have hS216 := hS215.bring 7 rfl
                have hS217 := hS216.bring 7 rfl
                have hS218 := hS217.bring 7 rfl
                have hS219 := hS218.bring 7 rfl
                have hS220 := hS219.bring 7 rfl
                have hS221 := hS220.bring 6 rfl
                have hS222 := hS221.takeN 7
                obtain rfl := si h
                exact we_ret (pr0 [.tmp 4] [vI (IntKind.i64.wrap (sp0_13 + 1))] ⟨(.slice Ap0_2 lp0_2.length cp0_2), (.slice Ap0_3 lp0_3.length cp0_3), (.slice Ap0_4 lp0_4.length cp0_4), rfl, hS222⟩)
               exact go_nomore3
              ·rw [if_neg hc22] at h
               cases h
             ·rw [if_neg hc21] at h
              refine wk 116 (x1.Op == 13) false (beq_eq_false_iff_ne.2 hc21) ?_
              refine we_false (by kernel_rfl) ?_
              refine ws fun K32 hK32 => ?_
              refine wr [(0, 0), (1, 0)] ?_
              refine gb0 [0, 1] [(126, .bool (x1.Op == 14)), (127, .bool (x1.Op == 14))] ?_
              refine gn hK32 ?_
              by_cases hc23 : x1.Op = 14
              ·rw [if_pos hc23] at h
               refine wk 126 (x1.Op == 14) true (beq_iff_eq.2 hc23) ?_
               refine we_true (by kernel_rfl) ?_
               refine ws fun K33 hK33 => ?_
               refine we_draws (by kernel_rfl) [(0, 0), (1, 0), (2, 0), (3, 0), (4, 0), (5, 0), (6, 0), (7, 0)] (by kernel_rfl) ?_
               have hS223 := hS1.drew
               refine gb [0, 1, 2, 3, 4] [(132, pP bp0 5), (131, pP bp0 0), (130, vI x1.A), (129, pP b1 1), (128, pP bp0 0)] [.loaded ⟨b1, 1, none⟩ (vI x1.A)] ⟨hS223.c 0, trivial⟩ ?_
               by_cases hc24 : 0 ≤ x1.A
               ·rw [if_pos hc24] at h
                rcases hx10 : (arrN 8 sp0_5)[(x1.A).toNat]? with _ | e5
                ·rw [hx10] at h; cases h
                rw [hx10] at h
                simp only [] at h
                refine ge_arrAddr (d := 133) (ty := 0) (t := 69) (len := 8) (el := 3) (b := bp0) (o0 := 5) (sz := 1) (x := (.tmp 132)) (y := (.tmp 130)) (k' := .i64) (j := x1.A) (jn := ((x1.A).toNat)) (by kernel_rfl) (by kernel_rfl) (by kernel_rfl) (by kernel_rfl) (by kernel_rfl) (Int.toNat_of_nonneg hc24).symm (lt_of_get hx10) ?_
                refine gb [6, 7] [(135, .bool (decide (e5 > 0))), (134, vI e5)] [.loaded ⟨bp0, 5 + ((x1.A).toNat) * 1, none⟩ (vI e5)] ⟨hS223.cellA 1 (pre := [(.slice Ap0_0 lp0_0.length cp0_0), (.slice Ap0_1 lp0_1.length cp0_1), (.slice Ap0_2 lp0_2.length cp0_2), (.slice Ap0_3 lp0_3.length cp0_3), (.slice Ap0_4 lp0_4.length cp0_4)]) (post := [vI sp0_13, vI sp0_14]) (l := (arrN 8 sp0_5)) rfl rfl rfl hx10 rfl rfl, trivial⟩ ?_
                refine gn hK33 ?_
                by_cases hc25 : e5 > 0
                ·rw [if_pos hc25] at h
                 refine wk 135 (decide (e5 > 0)) true (decide_eq_true hc25) ?_
                 refine we_true (by kernel_rfl) ?_
                 refine ws fun K34 hK34 => ?_
                 refine we_orders3 (by kernel_rfl) [(2, [⟨b1, 1, none⟩], [], []), (6, [⟨bp0, 5 + ((x1.A).toNat) * 1, none⟩], [], [])] (.vals [0] (.vals [1] (.vals [2] (.vals [3] (.vals [4] (.vals [5] (.vals [6] (.vals [7] (.vals [8] (.vals [9] (.vals [10] (.alt 11 2 .fin .nomore)))))))))))) (by kernel_rfl) (by kernel_rfl) ?_
                 have hS224 := hS223.drew
                 refine go3_batch [0, 1] (ans := []) (vs := [(137, pP b1 1), (136, pP bp0 0)]) (l := []) (by kernel_rfl) trivial mem_nil3 ?_
                 refine go3_batch [2] (ans := [.val (vI x1.A)]) (vs := [(138, vI x1.A)]) (l := [.loaded ⟨b1, 1, none⟩ (vI x1.A)]) (by kernel_rfl) ⟨hS224.c 0, trivial⟩ (mem_one3 (by kernel_rfl)) ?_
                 refine go3_batch [3, 4] (ans := []) (vs := [(140, pP bp0 5), (139, pP bp0 0)]) (l := []) (by kernel_rfl) trivial mem_nil3 ?_
                 refine go3_arrAddr (d := 141) (ty := 0) (t := 69) (len := 8) (el := 3) (b := bp0) (o0 := 5) (sz := 1) (x := (.tmp 140)) (y := (.tmp 138)) (k' := .i64) (j := x1.A) (jn := ((x1.A).toNat)) (by kernel_rfl) (by kernel_rfl) (by kernel_rfl) (by kernel_rfl) (by kernel_rfl) (Int.toNat_of_nonneg hc24).symm (lt_of_get hx10) ?_
                 refine go3_batch [6] (ans := [.val (vI e5)]) (vs := [(142, vI e5)]) (l := [.loaded ⟨bp0, 5 + ((x1.A).toNat) * 1, none⟩ (vI e5)]) (by kernel_rfl) ⟨hS224.cellA 1 (pre := [(.slice Ap0_0 lp0_0.length cp0_0), (.slice Ap0_1 lp0_1.length cp0_1), (.slice Ap0_2 lp0_2.length cp0_2), (.slice Ap0_3 lp0_3.length cp0_3), (.slice Ap0_4 lp0_4.length cp0_4)]) (post := [vI sp0_13, vI sp0_14]) (l := (arrN 8 sp0_5)) rfl rfl rfl hx10 rfl rfl, trivial⟩ (mem_one3 (by kernel_rfl)) ?_
                 refine go3_batch [7, 8, 9] (ans := []) (vs := [(145, pP bp0 5), (144, pP bp0 0), (143, vI (IntKind.i64.wrap (e5 - 1)))]) (l := []) (by kernel_rfl) trivial mem_nil3 ?_
                 refine go3_arrAddr (d := 146) (ty := 0) (t := 69) (len := 8) (el := 3) (b := bp0) (o0 := 5) (sz := 1) (x := (.tmp 145)) (y := (.tmp 138)) (k' := .i64) (j := x1.A) (jn := ((x1.A).toNat)) (by kernel_rfl) (by kernel_rfl) (by kernel_rfl) (by kernel_rfl) (by kernel_rfl) (Int.toNat_of_nonneg hc24).symm (lt_of_get hx10) ?_
                 refine go_alt3 (fun KK hKK => ?_) ?_
                 ·have hS225 := hS224.bring 1 rfl
                  refine ge_setA (b := bp0) (off := 5) (jn := ((x1.A).toNat)) (nn := 8) (t := 71) (pre := [(.slice Ap0_0 lp0_0.length cp0_0), (.slice Ap0_1 lp0_1.length cp0_1), (.slice Ap0_2 lp0_2.length cp0_2), (.slice Ap0_3 lp0_3.length cp0_3), (.slice Ap0_4 lp0_4.length cp0_4)]) (post := [vI sp0_13, vI sp0_14]) (l := (arrN 8 sp0_5)) (u := e5) (v := (IntKind.i64.wrap (e5 - 1))) (cs := #[(.slice Ap0_0 lp0_0.length cp0_0), (.slice Ap0_1 lp0_1.length cp0_1), (.slice Ap0_2 lp0_2.length cp0_2), (.slice Ap0_3 lp0_3.length cp0_3), (.slice Ap0_4 lp0_4.length cp0_4), vI ((sp0_5[0]?).getD 0), vI ((sp0_5[1]?).getD 0), vI ((sp0_5[2]?).getD 0), vI ((sp0_5[3]?).getD 0), vI ((sp0_5[4]?).getD 0), vI ((sp0_5[5]?).getD 0), vI ((sp0_5[6]?).getD 0), vI ((sp0_5[7]?).getD 0), vI sp0_13, vI sp0_14]) hS225 (by kernel_rfl) rfl rfl rfl hx10 fun w24 hS226 => ?_
                  have hS227 : St w0 w24 [Own.blk bp0 (.cells #[(.slice Ap0_0 lp0_0.length cp0_0), (.slice Ap0_1 lp0_1.length cp0_1), (.slice Ap0_2 lp0_2.length cp0_2), (.slice Ap0_3 lp0_3.length cp0_3), (.slice Ap0_4 lp0_4.length cp0_4), vI ((((arrN 8 sp0_5).set ((x1.A).toNat) (IntKind.i64.wrap (e5 - 1)))[0]?).getD 0), vI ((((arrN 8 sp0_5).set ((x1.A).toNat) (IntKind.i64.wrap (e5 - 1)))[1]?).getD 0), vI ((((arrN 8 sp0_5).set ((x1.A).toNat) (IntKind.i64.wrap (e5 - 1)))[2]?).getD 0), vI ((((arrN 8 sp0_5).set ((x1.A).toNat) (IntKind.i64.wrap (e5 - 1)))[3]?).getD 0), vI ((((arrN 8 sp0_5).set ((x1.A).toNat) (IntKind.i64.wrap (e5 - 1)))[4]?).getD 0), vI ((((arrN 8 sp0_5).set ((x1.A).toNat) (IntKind.i64.wrap (e5 - 1)))[5]?).getD 0), vI ((((arrN 8 sp0_5).set ((x1.A).toNat) (IntKind.i64.wrap (e5 - 1)))[6]?).getD 0), vI ((((arrN 8 sp0_5).set ((x1.A).toNat) (IntKind.i64.wrap (e5 - 1)))[7]?).getD 0), vI sp0_13, vI sp0_14] 71 (0, 0)), Own.blk b1 (.cells #[vI x1.Op, vI x1.A, vI x1.B] 41 (0, 0)), Own.of (.slice Ap0_0 lp0_0.length cp0_0) 41 lp0_0, Own.of (.slice Ap0_1 lp0_1.length cp0_1) 3 lp0_1, Own.of (.slice Ap0_2 lp0_2.length cp0_2) 3 lp0_2, Own.of (.slice Ap0_3 lp0_3.length cp0_3) 56 lp0_3, Own.of (.slice Ap0_4 lp0_4.length cp0_4) 3 lp0_4, Own.all LT] := by exact hS226
                  refine ge_nil fun a hF => hKK _ _ (RS.of2 (l := []) (by kernel_rfl) trivial trivial) ?_ a hF
                  refine go_fin3 fun a hF => hK34 _ _ ?_ a hF
                  refine ws fun K35 hK35 => ?_
                  refine wr [(0, 0), (1, 0), (2, 0)] ?_
                  refine gb [0, 1, 2] [(4, vI x1.B), (148, vI x1.B), (147, pP b1 2)] [.loaded ⟨b1, 2, none⟩ (vI x1.B)] ⟨hS227.c 1, trivial⟩ ?_
                  refine gn hK35 ?_
                  have hS228 := hS227.bring 7 rfl
                  have hS229 := hS228.bring 7 rfl
                  have hS230 := hS229.bring 7 rfl
                  have hS231 := hS230.bring 7 rfl
                  have hS232 := hS231.bring 7 rfl
                  have hS233 := hS232.bring 7 rfl
                  have hS234 := hS233.bring 6 rfl
                  have hS235 := hS234.takeN 7
                  obtain rfl := si h
                  exact we_ret (pr0 [.tmp 4] [vI x1.B] ⟨(.slice Ap0_2 lp0_2.length cp0_2), (.slice Ap0_3 lp0_3.length cp0_3), (.slice Ap0_4 lp0_4.length cp0_4), rfl, hS235⟩)
                 exact go_nomore3
                ·rw [if_neg hc25] at h
                 refine wk 135 (decide (e5 > 0)) false (decide_eq_false hc25) ?_
                 refine we_false (by kernel_rfl) ?_
                 refine we_skip fun a hF => hK2 _ _ ?_ a hF
                 refine ws fun K36 hK36 => ?_
                 refine wr [(0, 0), (1, 0), (2, 0), (3, 0), (4, 0), (5, 0)] ?_
                 refine gb [0, 1, 2, 3, 4, 5] [(4, vI (IntKind.i64.wrap (sp0_13 + 1))), (161, vI (IntKind.i64.wrap (sp0_13 + 1))), (160, vI sp0_13), (159, pP bp0 13), (158, pP bp0 0), (157, pP bp0 0)] [.loaded ⟨bp0, 13, none⟩ (vI sp0_13)] ⟨hS223.c 1, trivial⟩ ?_
                 refine gn hK36 ?_
                 have hS236 := hS223.bring 7 rfl
                 have hS237 := hS236.bring 7 rfl
                 have hS238 := hS237.bring 7 rfl
                 have hS239 := hS238.bring 7 rfl
                 have hS240 := hS239.bring 7 rfl
                 have hS241 := hS240.bring 7 rfl
                 have hS242 := hS241.bring 7 rfl
                 have hS243 := hS242.takeN 7
                 obtain rfl := si h
                 exact we_ret (pr0 [.tmp 4] [vI (IntKind.i64.wrap (sp0_13 + 1))] ⟨(.slice Ap0_2 lp0_2.length cp0_2), (.slice Ap0_3 lp0_3.length cp0_3), (.slice Ap0_4 lp0_4.length cp0_4), rfl, hS243⟩)
               ·rw [if_neg hc24] at h
                cases h
              ·rw [if_neg hc23] at h
               refine wk 126 (x1.Op == 14) false (beq_eq_false_iff_ne.2 hc23) ?_
               refine we_false (by kernel_rfl) ?_
               refine ws fun K37 hK37 => ?_
               refine wr [(0, 0), (1, 0)] ?_
               refine gb0 [0, 1] [(149, .bool (x1.Op == 15)), (150, .bool (x1.Op == 15))] ?_
               refine gn hK37 ?_
               by_cases hc26 : x1.Op = 15
               ·rw [if_pos hc26] at h
                refine wk 149 (x1.Op == 15) true (beq_iff_eq.2 hc26) ?_
                refine we_true (by kernel_rfl) ?_
                refine we_orders3 (by kernel_rfl) [(2, [⟨b1, 1, none⟩], [], [])] (.vals [0] (.vals [1] (.vals [2] (.vals [3] (.vals [4] (.vals [5] (.alt 6 2 .fin .nomore))))))) (by kernel_rfl) (by kernel_rfl) ?_
                have hS244 := hS1.drew
                refine go3_batch [0, 1] (ans := []) (vs := [(152, pP b1 1), (151, pP bp0 0)]) (l := []) (by kernel_rfl) trivial mem_nil3 ?_
                refine go3_batch [2] (ans := [.val (vI x1.A)]) (vs := [(153, vI x1.A)]) (l := [.loaded ⟨b1, 1, none⟩ (vI x1.A)]) (by kernel_rfl) ⟨hS244.c 0, trivial⟩ (mem_one3 (by kernel_rfl)) ?_
                refine go3_batch [3, 4] (ans := []) (vs := [(155, pP bp0 5), (154, pP bp0 0)]) (l := []) (by kernel_rfl) trivial mem_nil3 ?_
                by_cases hc27 : 0 ≤ x1.A
                ·rw [if_pos hc27] at h
                 rcases hx11 : (arrN 8 sp0_5)[(x1.A).toNat]? with _ | e6
                 ·rw [hx11] at h; cases h
                 rw [hx11] at h
                 simp only [] at h
                 refine go3_arrAddr (d := 156) (ty := 0) (t := 69) (len := 8) (el := 3) (b := bp0) (o0 := 5) (sz := 1) (x := (.tmp 155)) (y := (.tmp 153)) (k' := .i64) (j := x1.A) (jn := ((x1.A).toNat)) (by kernel_rfl) (by kernel_rfl) (by kernel_rfl) (by kernel_rfl) (by kernel_rfl) (Int.toNat_of_nonneg hc27).symm (lt_of_get hx11) ?_
                 refine go_alt3 (fun KK hKK => ?_) ?_
                 ·have hS245 := hS244.bring 1 rfl
                  refine ge_setA (b := bp0) (off := 5) (jn := ((x1.A).toNat)) (nn := 8) (t := 71) (pre := [(.slice Ap0_0 lp0_0.length cp0_0), (.slice Ap0_1 lp0_1.length cp0_1), (.slice Ap0_2 lp0_2.length cp0_2), (.slice Ap0_3 lp0_3.length cp0_3), (.slice Ap0_4 lp0_4.length cp0_4)]) (post := [vI sp0_13, vI sp0_14]) (l := (arrN 8 sp0_5)) (u := e6) (v := 0) (cs := #[(.slice Ap0_0 lp0_0.length cp0_0), (.slice Ap0_1 lp0_1.length cp0_1), (.slice Ap0_2 lp0_2.length cp0_2), (.slice Ap0_3 lp0_3.length cp0_3), (.slice Ap0_4 lp0_4.length cp0_4), vI ((sp0_5[0]?).getD 0), vI ((sp0_5[1]?).getD 0), vI ((sp0_5[2]?).getD 0), vI ((sp0_5[3]?).getD 0), vI ((sp0_5[4]?).getD 0), vI ((sp0_5[5]?).getD 0), vI ((sp0_5[6]?).getD 0), vI ((sp0_5[7]?).getD 0), vI sp0_13, vI sp0_14]) hS245 (by kernel_rfl) rfl rfl rfl hx11 fun w25 hS246 => ?_
                  have hS247 : St w0 w25 [Own.blk bp0 (.cells #[(.slice Ap0_0 lp0_0.length cp0_0), (.slice Ap0_1 lp0_1.length cp0_1), (.slice Ap0_2 lp0_2.length cp0_2), (.slice Ap0_3 lp0_3.length cp0_3), (.slice Ap0_4 lp0_4.length cp0_4), vI ((((arrN 8 sp0_5).set ((x1.A).toNat) 0)[0]?).getD 0), vI ((((arrN 8 sp0_5).set ((x1.A).toNat) 0)[1]?).getD 0), vI ((((arrN 8 sp0_5).set ((x1.A).toNat) 0)[2]?).getD 0), vI ((((arrN 8 sp0_5).set ((x1.A).toNat) 0)[3]?).getD 0), vI ((((arrN 8 sp0_5).set ((x1.A).toNat) 0)[4]?).getD 0), vI ((((arrN 8 sp0_5).set ((x1.A).toNat) 0)[5]?).getD 0), vI ((((arrN 8 sp0_5).set ((x1.A).toNat) 0)[6]?).getD 0), vI ((((arrN 8 sp0_5).set ((x1.A).toNat) 0)[7]?).getD 0), vI sp0_13, vI sp0_14] 71 (0, 0)), Own.blk b1 (.cells #[vI x1.Op, vI x1.A, vI x1.B] 41 (0, 0)), Own.of (.slice Ap0_0 lp0_0.length cp0_0) 41 lp0_0, Own.of (.slice Ap0_1 lp0_1.length cp0_1) 3 lp0_1, Own.of (.slice Ap0_2 lp0_2.length cp0_2) 3 lp0_2, Own.of (.slice Ap0_3 lp0_3.length cp0_3) 56 lp0_3, Own.of (.slice Ap0_4 lp0_4.length cp0_4) 3 lp0_4, Own.all LT] := by exact hS246
                  refine ge_nil fun a hF => hKK _ _ (RS.of2 (l := []) (by kernel_rfl) trivial trivial) ?_ a hF
                  refine go_fin3 fun a hF => hK2 _ _ ?_ a hF
                  refine ws fun K38 hK38 => ?_
                  refine wr [(0, 0), (1, 0), (2, 0), (3, 0), (4, 0), (5, 0)] ?_
                  refine gb [0, 1, 2, 3, 4, 5] [(4, vI (IntKind.i64.wrap (sp0_13 + 1))), (161, vI (IntKind.i64.wrap (sp0_13 + 1))), (160, vI sp0_13), (159, pP bp0 13), (158, pP bp0 0), (157, pP bp0 0)] [.loaded ⟨bp0, 13, none⟩ (vI sp0_13)] ⟨hS247.c 0, trivial⟩ ?_
                  refine gn hK38 ?_
                  have hS248 := hS247.bring 7 rfl
                  have hS249 := hS248.bring 7 rfl
                  have hS250 := hS249.bring 7 rfl
                  have hS251 := hS250.bring 7 rfl
                  have hS252 := hS251.bring 7 rfl
                  have hS253 := hS252.bring 7 rfl
                  have hS254 := hS253.bring 6 rfl
                  have hS255 := hS254.takeN 7
                  obtain rfl := si h
                  exact we_ret (pr0 [.tmp 4] [vI (IntKind.i64.wrap (sp0_13 + 1))] ⟨(.slice Ap0_2 lp0_2.length cp0_2), (.slice Ap0_3 lp0_3.length cp0_3), (.slice Ap0_4 lp0_4.length cp0_4), rfl, hS255⟩)
                 exact go_nomore3
                ·rw [if_neg hc27] at h
                 cases h
               ·rw [if_neg hc26] at h
                refine wk 149 (x1.Op == 15) false (beq_eq_false_iff_ne.2 hc26) ?_
                refine we_false (by kernel_rfl) ?_
                refine we_skip fun a hF => hK2 _ _ ?_ a hF
                refine ws fun K39 hK39 => ?_
                refine wr [(0, 0), (1, 0), (2, 0), (3, 0), (4, 0), (5, 0)] ?_
                refine gb [0, 1, 2, 3, 4, 5] [(4, vI (IntKind.i64.wrap (sp0_13 + 1))), (161, vI (IntKind.i64.wrap (sp0_13 + 1))), (160, vI sp0_13), (159, pP bp0 13), (158, pP bp0 0), (157, pP bp0 0)] [.loaded ⟨bp0, 13, none⟩ (vI sp0_13)] ⟨hS1.c 1, trivial⟩ ?_
                refine gn hK39 ?_
                have hS256 := hS1.bring 7 rfl
                have hS257 := hS256.bring 7 rfl
                have hS258 := hS257.bring 7 rfl
                have hS259 := hS258.bring 7 rfl
                have hS260 := hS259.bring 7 rfl
                have hS261 := hS260.bring 7 rfl
                have hS262 := hS261.bring 7 rfl
                have hS263 := hS262.takeN 7
                obtain rfl := si h
                exact we_ret (pr0 [.tmp 4] [vI (IntKind.i64.wrap (sp0_13 + 1))] ⟨(.slice Ap0_2 lp0_2.length cp0_2), (.slice Ap0_3 lp0_3.length cp0_3), (.slice Ap0_4 lp0_4.length cp0_4), rfl, hS263⟩)
end Go.Proofs.Ytgpolejhaglddaa.GV
