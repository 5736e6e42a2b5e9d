/- Walks of single functions, written by a program of this work. -/
import Derived.Test.YtgpolejhaglddaaGWWcetBound4
namespace Go.Proofs.Ytgpolejhaglddaa.GV
open Go Go.RowKit
set_option linter.unusedVariables false
set_option linter.unusedSimpArgs false
set_option maxRecDepth 100000

/-! punctual/punctuallaw.WcetBound -/
abbrev WcetBound.Post (w0 : World) (r : Bool) (e : Ending) (w : World) : Prop := e = .returned (.bool r) ∧ St w0 w []
def WcetBound.p0 (K : Nat) : Option (Unit ⊕ Bool) :=
  match timed.f K with
  | none => none
  | some r1 =>
   if r1 = true then
    match works.f K with
    | none => none
    | some r2 =>
     if r2 = true then
      some (.inl ())
     else
      some (.inr false)
   else
    some (.inr false)
def WcetBound.f (K : Nat) (l0 : List SIns) (x1 : Int) (l2 : List Int) (l3 : List Int) (l4 : List Int) : Option Bool :=
 match WcetBound.p0 K with
 | none => none
 | some (.inl _) =>
  if (l0.length : Int) > 3000 then
   some true
  else
   match wcet_Analyse.f K l0 with
   | none => none
   | some r3 =>
    if r3.2.Code = 0 then
     match wcet_Proves.f K l0 r3.1.Worst r3.1.Rest with
     | none => none
     | some r4 =>
      if r4 = true then
       match mach_Run.f K l0 l3 l4 with
       | none => none
       | some r5 =>
        if r5.2.Code = 0 then
         if r5.1.Steps > r3.1.Worst then
          some false
         else
          match wcet_Proves.f K l0 x1 l2 with
          | none => none
          | some r6 =>
           if r6 = true then
            if r5.1.Steps > x1 then
             some false
            else
             some true
           else
            some true
        else
         match wcet_Proves.f K l0 x1 l2 with
         | none => none
         | some r7 =>
          if r7 = true then
           some true
          else
           some true
      else
       match wcet_Proves.f K l0 x1 l2 with
       | none => none
       | some r8 =>
        if r8 = true then
         match mach_Run.f K l0 l3 l4 with
         | none => none
         | some r9 =>
          if r9.2.Code = 0 then
           if r9.1.Steps > x1 then
            some false
           else
            some true
          else
           some true
        else
         some true
    else
     some true
 | some (.inr rr1) =>
  some rr1
abbrev WcetBound.A0 (w0 : World) (l0 : List SIns) (A0 : Option Addr) (c0 : Nat) (x1 : Int) (l2 : List Int) (A2 : Option Addr) (c2 : Nat) (l3 : List Int) (A3 : Option Addr) (c3 : Nat) (l4 : List Int) (A4 : Option Addr) (c4 : Nat) : Unit → Act → World → Prop := fun (s : Unit) a w => St w0 w [] ∧ Frm 68 a [(0, .slice A0 l0.length c0), (1, vI x1), (2, .slice A2 l2.length c2), (3, .slice A3 l3.length c3), (4, .slice A4 l4.length c4)]
abbrev WcetBound.B0 (w0 : World) : Bool → Exit → Act → World → Prop := Rets Try.prog Try.f3 (WcetBound.Post w0)
theorem WcetBound_p0 (K : Nat) (w0 : World) (l0 : List SIns) (A0 : Option Addr) (c0 : Nat) (x1 : Int) (l2 : List Int) (A2 : Option Addr) (c2 : Nat) (l3 : List Int) (A3 : Option Addr) (c3 : Nat) (l4 : List Int) (A4 : Option Addr) (c4 : Nat) (hR0 : RdL w0 A0 l0) (hL0 : l0.length ≤ c0) (hR2 : RdL w0 A2 l2) (hL2 : l2.length ≤ c2) (hR3 : RdL w0 A3 l3) (hL3 : l3.length ≤ c3) (hR4 : RdL w0 A4 l4) (hL4 : l4.length ≤ c4) (o : Unit ⊕ Bool) (h : WcetBound.p0 K = some o) (w : World) (hS : St w0 w []) (Q : Exit → Act → World → Prop) (hQ : ∀ x a w, Outs (WcetBound.A0 w0 l0 A0 c0 x1 l2 A2 c2 l3 A3 c3 l4 A4 c4) (WcetBound.B0 w0) o x a w → Q x a w) : WE Try.prog 68 (subF Try.f3 [1, 0]) Q [(0, .slice A0 l0.length c0), (1, vI x1), (2, .slice A2 l2.length c2), (3, .slice A3 l3.length c3), (4, .slice A4 l4.length c4), (10, .bool false)] w := by
 simp only [WcetBound.p0] at h
 refine ws fun K3 hK3 => ?_
 refine wr [(0, 1), (1, 0), (2, 0), (3, 1), (4, 0), (5, 0)] ?_
 rcases hq1 : timed.f K with _ | r1
 ·rw [hq1] at h; cases h
 rw [hq1] at h
 simp only [] at h
 refine ge_call (d := some 17) (f := 6) (args := #[]) (by kernel_rfl) (timed_ok K _ _ hq1) ?_
 rintro _ w1 ⟨rfl, hS1⟩
 refine ⟨_, rfl, hS1.below, ?_⟩
 have hS2 := hS.call hS1
 refine gb0 [1, 2] [(19, .bool (!r1)), (18, .bool (!r1))] ?_
 by_cases hc1 : r1 = true
 ·rw [if_pos hc1] at h
  refine gk 19 (!r1) false (congrArg (fun z => !z) hc1) ?_
  rcases hq2 : works.f K with _ | r2
  ·rw [hq2] at h; cases h
  rw [hq2] at h
  simp only [] at h
  refine ge_call (d := some 20) (f := 7) (args := #[]) (by kernel_rfl) (works_ok K _ _ hq2) ?_
  rintro _ w2 ⟨rfl, hS3⟩
  refine ⟨_, rfl, hS3.below, ?_⟩
  have hS4 := hS2.call hS3
  refine gb0 [4, 5] [(22, .bool (!r2)), (21, .bool (!r2))] ?_
  refine gn hK3 ?_
  by_cases hc2 : r2 = true
  ·rw [if_pos hc2] at h
   refine wk 22 (!r2) false (congrArg (fun z => !z) hc2) ?_
   refine we_false (by kernel_rfl) ?_
   obtain rfl := si h
   exact we_skip fun a hF => hQ _ _ _ (Outs.again ⟨hS4, hF.weaken ea⟩)
  ·rw [if_neg hc2] at h
   refine wk 22 (!r2) true (congrArg (fun z => !z) (Bool.eq_false_iff.2 hc2)) ?_
   refine we_true (by kernel_rfl) ?_
   refine ws fun K4 hK4 => ?_
   refine wr [(0, 0)] ?_
   refine gb0 [0] [(10, .bool false)] ?_
   refine gn hK4 ?_
   obtain rfl := si h
   exact we_ret fun a hF => hQ _ _ _ (Outs.out nofun ⟨rfl, (pr0 [.tmp 10] [.bool false] ⟨rfl, hS4⟩) a hF⟩)
 ·rw [if_neg hc1] at h
  refine gk 19 (!r1) true (congrArg (fun z => !z) (Bool.eq_false_iff.2 hc1)) ?_
  refine ge_off rfl rfl rfl (by kernel_rfl) ?_
  refine gb0 [4, 5] [(22, .bool true), (21, undef)] ?_
  refine gn hK3 ?_
  refine we_true (by kernel_rfl) ?_
  refine ws fun K5 hK5 => ?_
  refine wr [(0, 0)] ?_
  refine gb0 [0] [(10, .bool false)] ?_
  refine gn hK5 ?_
  obtain rfl := si h
  exact we_ret fun a hF => hQ _ _ _ (Outs.out nofun ⟨rfl, (pr0 [.tmp 10] [.bool false] ⟨rfl, hS2⟩) a hF⟩)
theorem WcetBound_ok (K : Nat) (l0 : List SIns) (A0 : Option Addr) (c0 : Nat) (x1 : Int) (l2 : List Int) (A2 : Option Addr) (c2 : Nat) (l3 : List Int) (A3 : Option Addr) (c3 : Nat) (l4 : List Int) (A4 : Option Addr) (c4 : Nat) (w0 : World) (hR0 : RdL w0 A0 l0) (hL0 : l0.length ≤ c0) (hR2 : RdL w0 A2 l2) (hL2 : l2.length ≤ c2) (hR3 : RdL w0 A3 l3) (hL3 : l3.length ≤ c3) (hR4 : RdL w0 A4 l4) (hL4 : l4.length ≤ c4) (r : Bool) (h : WcetBound.f K l0 x1 l2 l3 l4 = some r) :
  Calls Try.prog 3 #[.slice A0 l0.length c0, vI x1, .slice A2 l2.length c2, .slice A3 l3.length c3, .slice A4 l4.length c4] w0 (WcetBound.Post w0 r) := by
 have hS := St.start w0
 unfold WcetBound.f at h
 refine calls_enter (n := 68) (args := [.slice A0 l0.length c0, vI x1, .slice A2 l2.length c2, .slice A3 l3.length c3, .slice A4 l4.length c4]) (fn := Try.f3) rfl rfl rfl rfl ?_
 show WE _ _ _ _ [(0, .slice A0 l0.length c0), (1, vI x1), (2, .slice A2 l2.length c2), (3, .slice A3 l3.length c3), (4, .slice A4 l4.length c4)] _
 refine ws fun K1 hK1 => ?_
 refine wr [(0, 0)] ?_
 refine gb0 [0] [(10, .bool false)] ?_
 refine gn hK1 ?_
 refine ws fun K2 hK2 => ?_
 rcases hq3 : WcetBound.p0 K with _ | (_ | rr1)
 ·rw [hq3] at h; cases h
 ·rw [hq3] at h
  simp only [] at h
  refine we_keep (e' := [(0, .slice A0 l0.length c0), (1, vI x1), (2, .slice A2 l2.length c2), (3, .slice A3 l3.length c3), (4, .slice A4 l4.length c4), (10, .bool false)]) ea (WcetBound_p0 K w0 l0 A0 c0 x1 l2 A2 c2 l3 A3 c3 l4 A4 c4 hR0 hL0 hR2 hL2 hR3 hL3 hR4 hL4 _ hq3 _ hS _ ?_)
  rintro _ a w3 ⟨rfl, hS5, hF⟩
  replace hS5 : St w0 w3 [] := hS5
  refine hK2 [(0, .slice A0 l0.length c0), (1, vI x1), (2, .slice A2 l2.length c2), (3, .slice A3 l3.length c3), (4, .slice A4 l4.length c4)] w3 ?_ a hF
  refine ws fun K6 hK6 => ?_
  refine ws fun K7 hK7 => ?_
  refine wr [(0, 0), (1, 0), (2, 0)] ?_
  refine gb0 [0, 1, 2] [(25, .bool (decide ((l0.length : Int) > 3000))), (24, vI (l0.length : Int)), (23, .slice A0 l0.length c0)] ?_
  refine gn hK7 ?_
  by_cases hc3 : (l0.length : Int) > 3000
  ·rw [if_pos hc3] at h
   refine wk 25 (decide ((l0.length : Int) > 3000)) true (decide_eq_true hc3) ?_
   refine we_true (by kernel_rfl) ?_
   refine ws fun K8 hK8 => ?_
   refine wr [(0, 0)] ?_
   refine gb0 [0] [(10, .bool true)] ?_
   refine gn hK8 ?_
   obtain rfl := si h
   exact we_ret (pr0 [.tmp 10] [.bool true] ⟨rfl, hS5⟩)
  ·rw [if_neg hc3] at h
   refine wk 25 (decide ((l0.length : Int) > 3000)) false (decide_eq_false hc3) ?_
   refine we_false (by kernel_rfl) ?_
   refine we_skip fun a hF => hK6 _ _ ?_ a hF
   refine ws fun K9 hK9 => ?_
   refine wr [(0, 0), (1, 1), (2, 0), (3, 0), (4, 0), (5, 1), (6, 1), (7, 2), (8, 2)] ?_
   rcases hq4 : wcet_Analyse.f K l0 with _ | r3
   ·rw [hq4] at h; cases h
   rw [hq4] at h
   simp only [] at h
   refine gb0 [0] [(27, .slice A0 l0.length c0)] ?_
   refine ge_call (d := some 28) (f := 8) (args := #[.slice A0 l0.length c0]) (by kernel_rfl) (wcet_Analyse_ok K l0 A0 c0 _ (hS5.rd hR0) hL0 _ hq4) ?_
   rintro _ w4 ⟨v1, rfl, hS6⟩
   refine ⟨_, rfl, hS6.below, ?_⟩
   have hS7 := hS5.call hS6
   refine gb0 [2, 3, 4] [(30, .agg #[vI r3.2.Code, vI r3.2.At]), (29, .agg #[vI r3.1.Worst, v1]), (26, .tuple #[.agg #[vI r3.1.Worst, v1], .agg #[vI r3.2.Code, vI r3.2.At]])] ?_
   refine gw (some 11) (.cells #[vI 0, .slice none 0 0] 26) (fun b => pP b 0) hS7 fun b1 w5 hx1 hS8 => ?_
   refine gw (some 12) (.cells #[vI 0, vI 0] 29) (fun b => pP b 0) hS8 fun b2 w6 hx2 hS9 => ?_
   obtain ⟨Z1, cz1, rfl⟩ := hS9.open 2 rfl
   have hS10 := hS9.bring 1 rfl
   refine gs b1 0 #[vI 0, .slice none 0 0] 26 [vI r3.1.Worst, (.slice Z1 r3.1.Rest.length cz1)] hS10 fun w7 hS11 => ?_
   have hS12 : St w0 w7 [Own.blk b1 (.cells #[vI r3.1.Worst, (.slice Z1 r3.1.Rest.length cz1)] 26 (0, 0)), Own.blk b2 (.cells #[vI 0, vI 0] 29 (0, 0)), Own.of (.slice Z1 r3.1.Rest.length cz1) 3 r3.1.Rest] := hS11
   have hS13 := hS12.bring 1 rfl
   refine gs b2 0 #[vI 0, vI 0] 29 [vI r3.2.Code, vI r3.2.At] hS13 fun w8 hS14 => ?_
   have hS15 : St w0 w8 [Own.blk b2 (.cells #[vI r3.2.Code, vI r3.2.At] 29 (0, 0)), Own.blk b1 (.cells #[vI r3.1.Worst, (.slice Z1 r3.1.Rest.length cz1)] 26 (0, 0)), Own.of (.slice Z1 r3.1.Rest.length cz1) 3 r3.1.Rest] := hS14
   refine gn hK9 ?_
   refine ws fun K10 hK10 => ?_
   refine ws fun K11 hK11 => ?_
   refine wr [(0, 0), (1, 0), (2, 0), (3, 0), (4, 1), (5, 0), (6, 0)] ?_
   refine gb [0, 1, 2, 3] [(34, .agg #[vI x1, .slice A2 l2.length c2]), (33, .slice A2 l2.length c2), (32, vI x1), (31, .agg #[vI r3.1.Worst, (.slice Z1 r3.1.Rest.length cz1)])] [.loaded ⟨b1, 0, none⟩ (vI r3.1.Worst), .loaded ⟨b1, 1, none⟩ ((.slice Z1 r3.1.Rest.length cz1))] ⟨hS15.c 1, hS15.c 1, trivial⟩ ?_
   refine gw (some 35) (.cells #[vI r3.1.Worst, (.slice Z1 r3.1.Rest.length cz1), vI x1, .slice A2 l2.length c2] 26) (fun b => .slice (some ⟨b, 0, none⟩) 2 2) hS15 fun b3 w9 hx3 hS16 => ?_
   refine gb0 [5, 6] [(37, vI 0), (36, vI 2)] ?_
   refine gn hK11 ?_
   refine we_block ?_
   refine we_unroll 13 ?_
   refine ue_succ fun K12 hK12 => ?_
   refine ws fun K13 hK13 => ?_
   refine wr [(0, 0)] ?_
   refine gb0 [0] [(38, .bool true)] ?_
   refine gn hK13 ?_
   refine ws fun K14 hK14 => ?_
   refine we_true (by kernel_rfl) ?_
   refine we_skip fun a hF => hK14 _ _ ?_ a hF
   refine ws fun K15 hK15 => ?_
   refine we_block ?_
   refine ws fun K16 hK16 => ?_
   refine wr [(0, 0), (1, 0), (2, 1), (3, 2)] ?_
   refine gb [0, 1] [(40, .agg #[vI r3.1.Worst, (.slice Z1 r3.1.Rest.length cz1)]), (39, pP b3 0)] [.loaded ⟨b3, 0, none⟩ (vI r3.1.Worst), .loaded ⟨b3, 1, none⟩ ((.slice Z1 r3.1.Rest.length cz1))] ⟨hS16.c 0, hS16.c 0, trivial⟩ ?_
   refine gw (some 14) (.cells #[vI 0, .slice none 0 0] 26) (fun b => pP b 0) hS16 fun b4 w10 hx4 hS17 => ?_
   refine gs b4 0 #[vI 0, .slice none 0 0] 26 [vI r3.1.Worst, (.slice Z1 r3.1.Rest.length cz1)] hS17 fun w11 hS18 => ?_
   have hS19 : St w0 w11 [Own.blk b4 (.cells #[vI r3.1.Worst, (.slice Z1 r3.1.Rest.length cz1)] 26 (0, 0)), Own.blk b3 (.cells #[vI r3.1.Worst, (.slice Z1 r3.1.Rest.length cz1), vI x1, .slice A2 l2.length c2] 26 (0, 0)), Own.blk b2 (.cells #[vI r3.2.Code, vI r3.2.At] 29 (0, 0)), Own.blk b1 (.cells #[vI r3.1.Worst, (.slice Z1 r3.1.Rest.length cz1)] 26 (0, 0)), Own.of (.slice Z1 r3.1.Rest.length cz1) 3 r3.1.Rest] := hS18
   refine gn hK16 ?_
   refine ws fun K17 hK17 => ?_
   refine ws fun K18 hK18 => ?_
   refine wr [(0, 0), (1, 0), (2, 0), (3, 0), (4, 0), (5, 0), (6, 1), (7, 0), (8, 0)] ?_
   refine gb [0, 1, 2, 3] [(44, .bool (r3.2.Code != 0)), (43, .bool (r3.2.Code != 0)), (42, vI r3.2.Code), (41, pP b2 0)] [.loaded ⟨b2, 0, none⟩ (vI r3.2.Code)] ⟨hS19.c 2, trivial⟩ ?_
   by_cases hc4 : r3.2.Code = 0
   ·rw [if_pos hc4] at h
    refine gk 44 (r3.2.Code != 0) false (bne_eq_false_iff_eq.2 hc4) ?_
    rcases hq5 : wcet_Proves.f K l0 r3.1.Worst r3.1.Rest with _ | r4
    ·rw [hq5] at h; cases h
    rw [hq5] at h
    simp only [] at h
    refine gb [4, 5] [(46, .agg #[vI r3.1.Worst, (.slice Z1 r3.1.Rest.length cz1)]), (45, .slice A0 l0.length c0)] [.loaded ⟨b4, 0, none⟩ (vI r3.1.Worst), .loaded ⟨b4, 1, none⟩ ((.slice Z1 r3.1.Rest.length cz1))] ⟨hS19.c 0, hS19.c 0, trivial⟩ ?_
    refine ge_call (d := some 47) (f := 9) (args := #[.slice A0 l0.length c0, .agg #[vI r3.1.Worst, (.slice Z1 r3.1.Rest.length cz1)]]) (by kernel_rfl) (wcet_Proves_ok K l0 A0 c0 r3.1.Worst r3.1.Rest Z1 cz1 _ (hS19.rd hR0) hL0 (hS19.rdAt 4 rfl) (hS19.capAt 4 rfl) _ hq5) ?_
    rintro _ w12 ⟨rfl, hS20⟩
    refine ⟨_, rfl, hS20.below, ?_⟩
    have hS21 := hS19.call hS20
    refine gb0 [7, 8] [(49, .bool (!r4)), (48, .bool (!r4))] ?_
    refine gn hK18 ?_
    by_cases hc5 : r4 = true
    ·rw [if_pos hc5] at h
     refine wk 49 (!r4) false (congrArg (fun z => !z) hc5) ?_
     refine we_false (by kernel_rfl) ?_
     refine we_skip fun a hF => hK17 _ _ ?_ a hF
     refine ws fun K19 hK19 => ?_
     refine wr [(0, 0), (1, 0), (2, 0), (3, 1), (4, 0), (5, 0), (6, 0), (7, 1), (8, 1), (9, 2), (10, 2)] ?_
     rcases hq6 : mach_Run.f K l0 l3 l4 with _ | r5
     ·rw [hq6] at h; cases h
     rw [hq6] at h
     simp only [] at h
     refine gb0 [0, 1, 2] [(53, .slice A4 l4.length c4), (52, .slice A3 l3.length c3), (51, .slice A0 l0.length c0)] ?_
     refine ge_call (d := some 54) (f := 10) (args := #[.slice A0 l0.length c0, .slice A3 l3.length c3, .slice A4 l4.length c4]) (by kernel_rfl) (mach_Run_ok K l0 A0 c0 l3 A3 c3 l4 A4 c4 _ (hS21.rd hR0) hL0 (hS21.rd hR3) hL3 (hS21.rd hR4) hL4 _ hq6) ?_
     rintro _ w13 ⟨v2, v3, rfl, hS22⟩
     refine ⟨_, rfl, hS22.below, ?_⟩
     have hS23 := hS21.call hS22
     refine gb0 [4, 5, 6] [(56, .agg #[vI r5.2.Code, vI r5.2.At]), (55, .agg #[v2, v3, vI r5.1.Steps]), (50, .tuple #[.agg #[v2, v3, vI r5.1.Steps], .agg #[vI r5.2.Code, vI r5.2.At]])] ?_
     refine gw (some 15) (.cells #[.slice none 0 0, .slice none 0 0, vI 0] 36) (fun b => pP b 0) hS23 fun b5 w14 hx5 hS24 => ?_
     refine gw (some 16) (.cells #[vI 0, vI 0] 29) (fun b => pP b 0) hS24 fun b6 w15 hx6 hS25 => ?_
     obtain ⟨Z2, cz2, rfl⟩ := hS25.open 2 rfl
     obtain ⟨Z3, cz3, rfl⟩ := hS25.open 3 rfl
     have hS26 := hS25.bring 1 rfl
     refine gs b5 0 #[.slice none 0 0, .slice none 0 0, vI 0] 36 [(.slice Z2 r5.1.Vars.length cz2), (.slice Z3 r5.1.Puts.length cz3), vI r5.1.Steps] hS26 fun w16 hS27 => ?_
     have hS28 : St w0 w16 [Own.blk b5 (.cells #[(.slice Z2 r5.1.Vars.length cz2), (.slice Z3 r5.1.Puts.length cz3), vI r5.1.Steps] 36 (0, 0)), Own.blk b6 (.cells #[vI 0, vI 0] 29 (0, 0)), Own.of (.slice Z2 r5.1.Vars.length cz2) 3 r5.1.Vars, Own.of (.slice Z3 r5.1.Puts.length cz3) 56 r5.1.Puts, Own.blk b4 (.cells #[vI r3.1.Worst, (.slice Z1 r3.1.Rest.length cz1)] 26 (0, 0)), Own.blk b3 (.cells #[vI r3.1.Worst, (.slice Z1 r3.1.Rest.length cz1), vI x1, .slice A2 l2.length c2] 26 (0, 0)), Own.blk b2 (.cells #[vI r3.2.Code, vI r3.2.At] 29 (0, 0)), Own.blk b1 (.cells #[vI r3.1.Worst, (.slice Z1 r3.1.Rest.length cz1)] 26 (0, 0)), Own.of (.slice Z1 r3.1.Rest.length cz1) 3 r3.1.Rest] := hS27
     have hS29 := hS28.bring 1 rfl
     refine gs b6 0 #[vI 0, vI 0] 29 [vI r5.2.Code, vI r5.2.At] hS29 fun w17 hS30 => ?_
     have hS31 : St w0 w17 [Own.blk b6 (.cells #[vI r5.2.Code, vI r5.2.At] 29 (0, 0)), Own.blk b5 (.cells #[(.slice Z2 r5.1.Vars.length cz2), (.slice Z3 r5.1.Puts.length cz3), vI r5.1.Steps] 36 (0, 0)), Own.of (.slice Z2 r5.1.Vars.length cz2) 3 r5.1.Vars, Own.of (.slice Z3 r5.1.Puts.length cz3) 56 r5.1.Puts, Own.blk b4 (.cells #[vI r3.1.Worst, (.slice Z1 r3.1.Rest.length cz1)] 26 (0, 0)), Own.blk b3 (.cells #[vI r3.1.Worst, (.slice Z1 r3.1.Rest.length cz1), vI x1, .slice A2 l2.length c2] 26 (0, 0)), Own.blk b2 (.cells #[vI r3.2.Code, vI r3.2.At] 29 (0, 0)), Own.blk b1 (.cells #[vI r3.1.Worst, (.slice Z1 r3.1.Rest.length cz1)] 26 (0, 0)), Own.of (.slice Z1 r3.1.Rest.length cz1) 3 r3.1.Rest] := hS30
     refine gn hK19 ?_
     refine ws fun K20 hK20 => ?_
     refine wr [(0, 0), (1, 0), (2, 0), (3, 0), (4, 0), (5, 0), (6, 0), (7, 0), (8, 0), (9, 0)] ?_
     refine gb [0, 1, 2, 3] [(60, .bool (r5.2.Code == 0)), (59, .bool (r5.2.Code == 0)), (58, vI r5.2.Code), (57, pP b6 0)] [.loaded ⟨b6, 0, none⟩ (vI r5.2.Code)] ⟨hS31.c 0, trivial⟩ ?_
     by_cases hc6 : r5.2.Code = 0
     ·rw [if_pos hc6] at h
      refine gk 60 (r5.2.Code == 0) true (beq_iff_eq.2 hc6) ?_
      refine gb [4, 5, 6, 7, 8, 9] [(66, .bool (decide (r5.1.Steps > r3.1.Worst))), (65, .bool (decide (r5.1.Steps > r3.1.Worst))), (64, vI r3.1.Worst), (63, pP b4 0), (62, vI r5.1.Steps), (61, pP b5 2)] [.loaded ⟨b5, 2, none⟩ (vI r5.1.Steps), .loaded ⟨b4, 0, none⟩ (vI r3.1.Worst)] ⟨hS31.c 1, hS31.c 4, trivial⟩ ?_
      refine gn hK20 ?_
      by_cases hc7 : r5.1.Steps > r3.1.Worst
      ·rw [if_pos hc7] at h
       refine wk 66 (decide (r5.1.Steps > r3.1.Worst)) true (decide_eq_true hc7) ?_
       refine we_true (by kernel_rfl) ?_
       refine ws fun K21 hK21 => ?_
       refine wr [(0, 0)] ?_
       refine gb0 [0] [(10, .bool false)] ?_
       refine gn hK21 ?_
       have hS32 := hS31.takeN 0
       obtain rfl := si h
       exact we_ret (pr0 [.tmp 10] [.bool false] ⟨rfl, hS32⟩)
      ·rw [if_neg hc7] at h
       refine wk 66 (decide (r5.1.Steps > r3.1.Worst)) false (decide_eq_false hc7) ?_
       refine we_false (by kernel_rfl) ?_
       refine we_skip fun a hF => hK15 _ _ ?_ a hF
       refine wr [(0, 0), (1, 0)] ?_
       refine gb0 [0, 1] [(37, vI 1), (67, vI 1)] ?_
       refine gn hK12 ?_
       refine ue_succ fun K22 hK22 => ?_
       refine ws fun K23 hK23 => ?_
       refine wr [(0, 0)] ?_
       refine gb0 [0] [(38, .bool true)] ?_
       refine gn hK23 ?_
       refine ws fun K24 hK24 => ?_
       refine we_true (by kernel_rfl) ?_
       refine we_skip fun a hF => hK24 _ _ ?_ a hF
       refine ws fun K25 hK25 => ?_
       refine we_block ?_
       refine ws fun K26 hK26 => ?_
       refine wr [(0, 0), (1, 0), (2, 1), (3, 2)] ?_
       refine gb [0, 1] [(40, .agg #[vI x1, .slice A2 l2.length c2]), (39, pP b3 2)] [.loaded ⟨b3, 2, none⟩ (vI x1), .loaded ⟨b3, 3, none⟩ (.slice A2 l2.length c2)] ⟨hS31.c 5, hS31.c 5, trivial⟩ ?_
       refine gw (some 14) (.cells #[vI 0, .slice none 0 0] 26) (fun b => pP b 0) hS31 fun b7 w18 hx7 hS33 => ?_
       refine gs b7 0 #[vI 0, .slice none 0 0] 26 [vI x1, .slice A2 l2.length c2] hS33 fun w19 hS34 => ?_
       have hS35 : St w0 w19 [Own.blk b7 (.cells #[vI x1, .slice A2 l2.length c2] 26 (0, 0)), Own.blk b6 (.cells #[vI r5.2.Code, vI r5.2.At] 29 (0, 0)), Own.blk b5 (.cells #[(.slice Z2 r5.1.Vars.length cz2), (.slice Z3 r5.1.Puts.length cz3), vI r5.1.Steps] 36 (0, 0)), Own.of (.slice Z2 r5.1.Vars.length cz2) 3 r5.1.Vars, Own.of (.slice Z3 r5.1.Puts.length cz3) 56 r5.1.Puts, Own.blk b4 (.cells #[vI r3.1.Worst, (.slice Z1 r3.1.Rest.length cz1)] 26 (0, 0)), Own.blk b3 (.cells #[vI r3.1.Worst, (.slice Z1 r3.1.Rest.length cz1), vI x1, .slice A2 l2.length c2] 26 (0, 0)), Own.blk b2 (.cells #[vI r3.2.Code, vI r3.2.At] 29 (0, 0)), Own.blk b1 (.cells #[vI r3.1.Worst, (.slice Z1 r3.1.Rest.length cz1)] 26 (0, 0)), Own.of (.slice Z1 r3.1.Rest.length cz1) 3 r3.1.Rest] := hS34
       refine gn hK26 ?_
       refine ws fun K27 hK27 => ?_
       refine ws fun K28 hK28 => ?_
       refine wr [(0, 0), (1, 0), (2, 0), (3, 0), (4, 0), (5, 0), (6, 1), (7, 0), (8, 0)] ?_
       refine gb [0, 1, 2, 3] [(44, .bool (r3.2.Code != 0)), (43, .bool (r3.2.Code != 0)), (42, vI r3.2.Code), (41, pP b2 0)] [.loaded ⟨b2, 0, none⟩ (vI r3.2.Code)] ⟨hS35.c 7, trivial⟩ ?_
       refine gk 44 (r3.2.Code != 0) false (bne_eq_false_iff_eq.2 hc4) ?_
       rcases hq7 : wcet_Proves.f K l0 x1 l2 with _ | r6
       ·rw [hq7] at h; cases h
       rw [hq7] at h
       simp only [] at h
       refine gb [4, 5] [(46, .agg #[vI x1, .slice A2 l2.length c2]), (45, .slice A0 l0.length c0)] [.loaded ⟨b7, 0, none⟩ (vI x1), .loaded ⟨b7, 1, none⟩ (.slice A2 l2.length c2)] ⟨hS35.c 0, hS35.c 0, trivial⟩ ?_
       refine ge_call (d := some 47) (f := 9) (args := #[.slice A0 l0.length c0, .agg #[vI x1, .slice A2 l2.length c2]]) (by kernel_rfl) (wcet_Proves_ok K l0 A0 c0 x1 l2 A2 c2 _ (hS35.rd hR0) hL0 (hS35.rd hR2) hL2 _ hq7) ?_
       rintro _ w20 ⟨rfl, hS36⟩
       refine ⟨_, rfl, hS36.below, ?_⟩
       have hS37 := hS35.call hS36
       refine gb0 [7, 8] [(49, .bool (!r6)), (48, .bool (!r6))] ?_
       refine gn hK28 ?_
       by_cases hc8 : r6 = true
       ·rw [if_pos hc8] at h
        refine wk 49 (!r6) false (congrArg (fun z => !z) hc8) ?_
        refine we_false (by kernel_rfl) ?_
        refine we_skip fun a hF => hK27 _ _ ?_ a hF
        refine ws fun K29 hK29 => ?_
        refine wr [(0, 0), (1, 0), (2, 0), (3, 1), (4, 0), (5, 0), (6, 0), (7, 1), (8, 1), (9, 2), (10, 2)] ?_
        refine gb0 [0, 1, 2] [(53, .slice A4 l4.length c4), (52, .slice A3 l3.length c3), (51, .slice A0 l0.length c0)] ?_
        refine ge_call (d := some 54) (f := 10) (args := #[.slice A0 l0.length c0, .slice A3 l3.length c3, .slice A4 l4.length c4]) (by kernel_rfl) (mach_Run_ok K l0 A0 c0 l3 A3 c3 l4 A4 c4 _ (hS37.rd hR0) hL0 (hS37.rd hR3) hL3 (hS37.rd hR4) hL4 _ hq6) ?_
        rintro _ w21 ⟨v4, v5, rfl, hS38⟩
        refine ⟨_, rfl, hS38.below, ?_⟩
        have hS39 := hS37.call hS38
        refine gb0 [4, 5, 6] [(56, .agg #[vI r5.2.Code, vI r5.2.At]), (55, .agg #[v4, v5, vI r5.1.Steps]), (50, .tuple #[.agg #[v4, v5, vI r5.1.Steps], .agg #[vI r5.2.Code, vI r5.2.At]])] ?_
        refine gw (some 15) (.cells #[.slice none 0 0, .slice none 0 0, vI 0] 36) (fun b => pP b 0) hS39 fun b8 w22 hx8 hS40 => ?_
        refine gw (some 16) (.cells #[vI 0, vI 0] 29) (fun b => pP b 0) hS40 fun b9 w23 hx9 hS41 => ?_
        obtain ⟨Z4, cz4, rfl⟩ := hS41.open 2 rfl
        obtain ⟨Z5, cz5, rfl⟩ := hS41.open 3 rfl
        have hS42 := hS41.bring 1 rfl
        refine gs b8 0 #[.slice none 0 0, .slice none 0 0, vI 0] 36 [(.slice Z4 r5.1.Vars.length cz4), (.slice Z5 r5.1.Puts.length cz5), vI r5.1.Steps] hS42 fun w24 hS43 => ?_
        have hS44 : St w0 w24 [Own.blk b8 (.cells #[(.slice Z4 r5.1.Vars.length cz4), (.slice Z5 r5.1.Puts.length cz5), vI r5.1.Steps] 36 (0, 0)), Own.blk b9 (.cells #[vI 0, vI 0] 29 (0, 0)), Own.of (.slice Z4 r5.1.Vars.length cz4) 3 r5.1.Vars, Own.of (.slice Z5 r5.1.Puts.length cz5) 56 r5.1.Puts, Own.blk b7 (.cells #[vI x1, .slice A2 l2.length c2] 26 (0, 0)), Own.blk b6 (.cells #[vI r5.2.Code, vI r5.2.At] 29 (0, 0)), Own.blk b5 (.cells #[(.slice Z2 r5.1.Vars.length cz2), (.slice Z3 r5.1.Puts.length cz3), vI r5.1.Steps] 36 (0, 0)), Own.of (.slice Z2 r5.1.Vars.length cz2) 3 r5.1.Vars, Own.of (.slice Z3 r5.1.Puts.length cz3) 56 r5.1.Puts, Own.blk b4 (.cells #[vI r3.1.Worst, (.slice Z1 r3.1.Rest.length cz1)] 26 (0, 0)), Own.blk b3 (.cells #[vI r3.1.Worst, (.slice Z1 r3.1.Rest.length cz1), vI x1, .slice A2 l2.length c2] 26 (0, 0)), Own.blk b2 (.cells #[vI r3.2.Code, vI r3.2.At] 29 (0, 0)), Own.blk b1 (.cells #[vI r3.1.Worst, (.slice Z1 r3.1.Rest.length cz1)] 26 (0, 0)), Own.of (.slice Z1 r3.1.Rest.length cz1) 3 r3.1.Rest] := hS43
        have hS45 := hS44.bring 1 rfl
        refine gs b9 0 #[vI 0, vI 0] 29 [vI r5.2.Code, vI r5.2.At] hS45 fun w25 hS46 => ?_
        have hS47 : St w0 w25 [Own.blk b9 (.cells #[vI r5.2.Code, vI r5.2.At] 29 (0, 0)), Own.blk b8 (.cells #[(.slice Z4 r5.1.Vars.length cz4), (.slice Z5 r5.1.Puts.length cz5), vI r5.1.Steps] 36 (0, 0)), Own.of (.slice Z4 r5.1.Vars.length cz4) 3 r5.1.Vars, Own.of (.slice Z5 r5.1.Puts.length cz5) 56 r5.1.Puts, Own.blk b7 (.cells #[vI x1, .slice A2 l2.length c2] 26 (0, 0)), Own.blk b6 (.cells #[vI r5.2.Code, vI r5.2.At] 29 (0, 0)), Own.blk b5 (.cells #[(.slice Z2 r5.1.Vars.length cz2), (.slice Z3 r5.1.Puts.length cz3), vI r5.1.Steps] 36 (0, 0)), Own.of (.slice Z2 r5.1.Vars.length cz2) 3 r5.1.Vars, Own.of (.slice Z3 r5.1.Puts.length cz3) 56 r5.1.Puts, Own.blk b4 (.cells #[vI r3.1.Worst, (.slice Z1 r3.1.Rest.length cz1)] 26 (0, 0)), Own.blk b3 (.cells #[vI r3.1.Worst, (.slice Z1 r3.1.Rest.length cz1), vI x1, .slice A2 l2.length c2] 26 (0, 0)), Own.blk b2 (.cells #[vI r3.2.Code, vI r3.2.At] 29 (0, 0)), Own.blk b1 (.cells #[vI r3.1.Worst, (.slice Z1 r3.1.Rest.length cz1)] 26 (0, 0)), Own.of (.slice Z1 r3.1.Rest.length cz1) 3 r3.1.Rest] := hS46
        refine gn hK29 ?_
        refine ws fun K30 hK30 => ?_
        refine wr [(0, 0), (1, 0), (2, 0), (3, 0), (4, 0), (5, 0), (6, 0), (7, 0), (8, 0), (9, 0)] ?_
        refine gb [0, 1, 2, 3] [(60, .bool (r5.2.Code == 0)), (59, .bool (r5.2.Code == 0)), (58, vI r5.2.Code), (57, pP b9 0)] [.loaded ⟨b9, 0, none⟩ (vI r5.2.Code)] ⟨hS47.c 0, trivial⟩ ?_
        refine gk 60 (r5.2.Code == 0) true (beq_iff_eq.2 hc6) ?_
        refine gb [4, 5, 6, 7, 8, 9] [(66, .bool (decide (r5.1.Steps > x1))), (65, .bool (decide (r5.1.Steps > x1))), (64, vI x1), (63, pP b7 0), (62, vI r5.1.Steps), (61, pP b8 2)] [.loaded ⟨b8, 2, none⟩ (vI r5.1.Steps), .loaded ⟨b7, 0, none⟩ (vI x1)] ⟨hS47.c 1, hS47.c 4, trivial⟩ ?_
        refine gn hK30 ?_
        by_cases hc9 : r5.1.Steps > x1
        ·rw [if_pos hc9] at h
         refine wk 66 (decide (r5.1.Steps > x1)) true (decide_eq_true hc9) ?_
         refine we_true (by kernel_rfl) ?_
         refine ws fun K31 hK31 => ?_
         refine wr [(0, 0)] ?_
         refine gb0 [0] [(10, .bool false)] ?_
         refine gn hK31 ?_
         have hS48 := hS47.takeN 0
         obtain rfl := si h
         exact we_ret (pr0 [.tmp 10] [.bool false] ⟨rfl, hS48⟩)
        ·rw [if_neg hc9] at h
         refine wk 66 (decide (r5.1.Steps > x1)) false (decide_eq_false hc9) ?_
         refine we_false (by kernel_rfl) ?_
         refine we_skip fun a hF => hK25 _ _ ?_ a hF
         refine wr [(0, 0), (1, 0)] ?_
         refine gb0 [0, 1] [(37, vI 2), (67, vI 2)] ?_
         refine gn hK22 ?_
         refine ue_succ fun K32 hK32 => ?_
         refine ws fun K33 hK33 => ?_
         refine wr [(0, 0)] ?_
         refine gb0 [0] [(38, .bool false)] ?_
         refine gn hK33 ?_
         refine ws fun K34 hK34 => ?_
         refine we_false (by kernel_rfl) ?_
         refine we_exit fun a hF => hK10 _ _ ?_ a hF
         refine ws fun K35 hK35 => ?_
         refine wr [(0, 0)] ?_
         refine gb0 [0] [(10, .bool true)] ?_
         refine gn hK35 ?_
         have hS49 := hS47.takeN 0
         obtain rfl := si h
         exact we_ret (pr0 [.tmp 10] [.bool true] ⟨rfl, hS49⟩)
       ·rw [if_neg hc8] at h
        refine wk 49 (!r6) true (congrArg (fun z => !z) (Bool.eq_false_iff.2 hc8)) ?_
        refine we_true (by kernel_rfl) ?_
        refine we_exit fun a hF => hK25 _ _ ?_ a hF
        refine wr [(0, 0), (1, 0)] ?_
        refine gb0 [0, 1] [(37, vI 2), (67, vI 2)] ?_
        refine gn hK22 ?_
        refine ue_succ fun K36 hK36 => ?_
        refine ws fun K37 hK37 => ?_
        refine wr [(0, 0)] ?_
        refine gb0 [0] [(38, .bool false)] ?_
        refine gn hK37 ?_
        refine ws fun K38 hK38 => ?_
        refine we_false (by kernel_rfl) ?_
        refine we_exit fun a hF => hK10 _ _ ?_ a hF
        refine ws fun K39 hK39 => ?_
        refine wr [(0, 0)] ?_
        refine gb0 [0] [(10, .bool true)] ?_
        refine gn hK39 ?_
        have hS50 := hS37.takeN 0
        obtain rfl := si h
        exact we_ret (pr0 [.tmp 10] [.bool true] ⟨rfl, hS50⟩)
     ·rw [if_neg hc6] at h
      refine gk 60 (r5.2.Code == 0) false (beq_eq_false_iff_ne.2 hc6) ?_
      refine gb0 [4, 5, 6, 7, 8, 9] [(66, .bool false), (65, undef), (64, undef), (63, undef), (62, undef), (61, undef)] ?_
      refine gn hK20 ?_
      refine we_false (by kernel_rfl) ?_
      refine we_skip fun a hF => hK15 _ _ ?_ a hF
      refine wr [(0, 0), (1, 0)] ?_
      refine gb0 [0, 1] [(37, vI 1), (67, vI 1)] ?_
      refine gn hK12 ?_
      refine ue_succ fun K40 hK40 => ?_
      refine ws fun K41 hK41 => ?_
      refine wr [(0, 0)] ?_
      refine gb0 [0] [(38, .bool true)] ?_
      refine gn hK41 ?_
      refine ws fun K42 hK42 => ?_
      refine we_true (by kernel_rfl) ?_
      refine we_skip fun a hF => hK42 _ _ ?_ a hF
      refine ws fun K43 hK43 => ?_
      refine we_block ?_
      refine ws fun K44 hK44 => ?_
      refine wr [(0, 0), (1, 0), (2, 1), (3, 2)] ?_
      refine gb [0, 1] [(40, .agg #[vI x1, .slice A2 l2.length c2]), (39, pP b3 2)] [.loaded ⟨b3, 2, none⟩ (vI x1), .loaded ⟨b3, 3, none⟩ (.slice A2 l2.length c2)] ⟨hS31.c 5, hS31.c 5, trivial⟩ ?_
      refine gw (some 14) (.cells #[vI 0, .slice none 0 0] 26) (fun b => pP b 0) hS31 fun b10 w26 hx10 hS51 => ?_
      refine gs b10 0 #[vI 0, .slice none 0 0] 26 [vI x1, .slice A2 l2.length c2] hS51 fun w27 hS52 => ?_
      have hS53 : St w0 w27 [Own.blk b10 (.cells #[vI x1, .slice A2 l2.length c2] 26 (0, 0)), Own.blk b6 (.cells #[vI r5.2.Code, vI r5.2.At] 29 (0, 0)), Own.blk b5 (.cells #[(.slice Z2 r5.1.Vars.length cz2), (.slice Z3 r5.1.Puts.length cz3), vI r5.1.Steps] 36 (0, 0)), Own.of (.slice Z2 r5.1.Vars.length cz2) 3 r5.1.Vars, Own.of (.slice Z3 r5.1.Puts.length cz3) 56 r5.1.Puts, Own.blk b4 (.cells #[vI r3.1.Worst, (.slice Z1 r3.1.Rest.length cz1)] 26 (0, 0)), Own.blk b3 (.cells #[vI r3.1.Worst, (.slice Z1 r3.1.Rest.length cz1), vI x1, .slice A2 l2.length c2] 26 (0, 0)), Own.blk b2 (.cells #[vI r3.2.Code, vI r3.2.At] 29 (0, 0)), Own.blk b1 (.cells #[vI r3.1.Worst, (.slice Z1 r3.1.Rest.length cz1)] 26 (0, 0)), Own.of (.slice Z1 r3.1.Rest.length cz1) 3 r3.1.Rest] := hS52
      refine gn hK44 ?_
      refine ws fun K45 hK45 => ?_
      refine ws fun K46 hK46 => ?_
      refine wr [(0, 0), (1, 0), (2, 0), (3, 0), (4, 0), (5, 0), (6, 1), (7, 0), (8, 0)] ?_
      refine gb [0, 1, 2, 3] [(44, .bool (r3.2.Code != 0)), (43, .bool (r3.2.Code != 0)), (42, vI r3.2.Code), (41, pP b2 0)] [.loaded ⟨b2, 0, none⟩ (vI r3.2.Code)] ⟨hS53.c 7, trivial⟩ ?_
      refine gk 44 (r3.2.Code != 0) false (bne_eq_false_iff_eq.2 hc4) ?_
      rcases hq9 : wcet_Proves.f K l0 x1 l2 with _ | r7
      ·rw [hq9] at h; cases h
      rw [hq9] at h
      simp only [] at h
      refine gb [4, 5] [(46, .agg #[vI x1, .slice A2 l2.length c2]), (45, .slice A0 l0.length c0)] [.loaded ⟨b10, 0, none⟩ (vI x1), .loaded ⟨b10, 1, none⟩ (.slice A2 l2.length c2)] ⟨hS53.c 0, hS53.c 0, trivial⟩ ?_
      refine ge_call (d := some 47) (f := 9) (args := #[.slice A0 l0.length c0, .agg #[vI x1, .slice A2 l2.length c2]]) (by kernel_rfl) (wcet_Proves_ok K l0 A0 c0 x1 l2 A2 c2 _ (hS53.rd hR0) hL0 (hS53.rd hR2) hL2 _ hq9) ?_
      rintro _ w28 ⟨rfl, hS54⟩
      refine ⟨_, rfl, hS54.below, ?_⟩
      have hS55 := hS53.call hS54
      refine gb0 [7, 8] [(49, .bool (!r7)), (48, .bool (!r7))] ?_
      refine gn hK46 ?_
      by_cases hc10 : r7 = true
      ·rw [if_pos hc10] at h
       refine wk 49 (!r7) false (congrArg (fun z => !z) hc10) ?_
       refine we_false (by kernel_rfl) ?_
       refine we_skip fun a hF => hK45 _ _ ?_ a hF
       refine ws fun K47 hK47 => ?_
       refine wr [(0, 0), (1, 0), (2, 0), (3, 1), (4, 0), (5, 0), (6, 0), (7, 1), (8, 1), (9, 2), (10, 2)] ?_
       refine gb0 [0, 1, 2] [(53, .slice A4 l4.length c4), (52, .slice A3 l3.length c3), (51, .slice A0 l0.length c0)] ?_
       refine ge_call (d := some 54) (f := 10) (args := #[.slice A0 l0.length c0, .slice A3 l3.length c3, .slice A4 l4.length c4]) (by kernel_rfl) (mach_Run_ok K l0 A0 c0 l3 A3 c3 l4 A4 c4 _ (hS55.rd hR0) hL0 (hS55.rd hR3) hL3 (hS55.rd hR4) hL4 _ hq6) ?_
       rintro _ w29 ⟨v6, v7, rfl, hS56⟩
       refine ⟨_, rfl, hS56.below, ?_⟩
       have hS57 := hS55.call hS56
       refine gb0 [4, 5, 6] [(56, .agg #[vI r5.2.Code, vI r5.2.At]), (55, .agg #[v6, v7, vI r5.1.Steps]), (50, .tuple #[.agg #[v6, v7, vI r5.1.Steps], .agg #[vI r5.2.Code, vI r5.2.At]])] ?_
       refine gw (some 15) (.cells #[.slice none 0 0, .slice none 0 0, vI 0] 36) (fun b => pP b 0) hS57 fun b11 w30 hx11 hS58 => ?_
       refine gw (some 16) (.cells #[vI 0, vI 0] 29) (fun b => pP b 0) hS58 fun b12 w31 hx12 hS59 => ?_
       obtain ⟨Z6, cz6, rfl⟩ := hS59.open 2 rfl
       obtain ⟨Z7, cz7, rfl⟩ := hS59.open 3 rfl
       have hS60 := hS59.bring 1 rfl
       refine gs b11 0 #[.slice none 0 0, .slice none 0 0, vI 0] 36 [(.slice Z6 r5.1.Vars.length cz6), (.slice Z7 r5.1.Puts.length cz7), vI r5.1.Steps] hS60 fun w32 hS61 => ?_
       have hS62 : St w0 w32 [Own.blk b11 (.cells #[(.slice Z6 r5.1.Vars.length cz6), (.slice Z7 r5.1.Puts.length cz7), vI r5.1.Steps] 36 (0, 0)), Own.blk b12 (.cells #[vI 0, vI 0] 29 (0, 0)), Own.of (.slice Z6 r5.1.Vars.length cz6) 3 r5.1.Vars, Own.of (.slice Z7 r5.1.Puts.length cz7) 56 r5.1.Puts, Own.blk b10 (.cells #[vI x1, .slice A2 l2.length c2] 26 (0, 0)), Own.blk b6 (.cells #[vI r5.2.Code, vI r5.2.At] 29 (0, 0)), Own.blk b5 (.cells #[(.slice Z2 r5.1.Vars.length cz2), (.slice Z3 r5.1.Puts.length cz3), vI r5.1.Steps] 36 (0, 0)), Own.of (.slice Z2 r5.1.Vars.length cz2) 3 r5.1.Vars, Own.of (.slice Z3 r5.1.Puts.length cz3) 56 r5.1.Puts, Own.blk b4 (.cells #[vI r3.1.Worst, (.slice Z1 r3.1.Rest.length cz1)] 26 (0, 0)), Own.blk b3 (.cells #[vI r3.1.Worst, (.slice Z1 r3.1.Rest.length cz1), vI x1, .slice A2 l2.length c2] 26 (0, 0)), Own.blk b2 (.cells #[vI r3.2.Code, vI r3.2.At] 29 (0, 0)), Own.blk b1 (.cells #[vI r3.1.Worst, (.slice Z1 r3.1.Rest.length cz1)] 26 (0, 0)), Own.of (.slice Z1 r3.1.Rest.length cz1) 3 r3.1.Rest] := hS61
       have hS63 := hS62.bring 1 rfl
       refine gs b12 0 #[vI 0, vI 0] 29 [vI r5.2.Code, vI r5.2.At] hS63 fun w33 hS64 => ?_
       have hS65 : St w0 w33 [Own.blk b12 (.cells #[vI r5.2.Code, vI r5.2.At] 29 (0, 0)), Own.blk b11 (.cells #[(.slice Z6 r5.1.Vars.length cz6), (.slice Z7 r5.1.Puts.length cz7), vI r5.1.Steps] 36 (0, 0)), Own.of (.slice Z6 r5.1.Vars.length cz6) 3 r5.1.Vars, Own.of (.slice Z7 r5.1.Puts.length cz7) 56 r5.1.Puts, Own.blk b10 (.cells #[vI x1, .slice A2 l2.length c2] 26 (0, 0)), Own.blk b6 (.cells #[vI r5.2.Code, vI r5.2.At] 29 (0, 0)), Own.blk b5 (.cells #[(.slice Z2 r5.1.Vars.length cz2), (.slice Z3 r5.1.Puts.length cz3), vI r5.1.Steps] 36 (0, 0)), Own.of (.slice Z2 r5.1.Vars.length cz2) 3 r5.1.Vars, Own.of (.slice Z3 r5.1.Puts.length cz3) 56 r5.1.Puts, Own.blk b4 (.cells #[vI r3.1.Worst, (.slice Z1 r3.1.Rest.length cz1)] 26 (0, 0)), Own.blk b3 (.cells #[vI r3.1.Worst, (.slice Z1 r3.1.Rest.length cz1), vI x1, .slice A2 l2.length c2] 26 (0, 0)), Own.blk b2 (.cells #[vI r3.2.Code, vI r3.2.At] 29 (0, 0)), Own.blk b1 (.cells #[vI r3.1.Worst, (.slice Z1 r3.1.Rest.length cz1)] 26 (0, 0)), Own.of (.slice Z1 r3.1.Rest.length cz1) 3 r3.1.Rest] := hS64
       refine gn hK47 ?_
       refine ws fun K48 hK48 => ?_
       refine wr [(0, 0), (1, 0), (2, 0), (3, 0), (4, 0), (5, 0), (6, 0), (7, 0), (8, 0), (9, 0)] ?_
       refine gb [0, 1, 2, 3] [(60, .bool (r5.2.Code == 0)), (59, .bool (r5.2.Code == 0)), (58, vI r5.2.Code), (57, pP b12 0)] [.loaded ⟨b12, 0, none⟩ (vI r5.2.Code)] ⟨hS65.c 0, trivial⟩ ?_
       refine gk 60 (r5.2.Code == 0) false (beq_eq_false_iff_ne.2 hc6) ?_
       refine gb0 [4, 5, 6, 7, 8, 9] [(66, .bool false), (65, undef), (64, undef), (63, undef), (62, undef), (61, undef)] ?_
       refine gn hK48 ?_
       refine we_false (by kernel_rfl) ?_
       refine we_skip fun a hF => hK43 _ _ ?_ a hF
       refine wr [(0, 0), (1, 0)] ?_
       refine gb0 [0, 1] [(37, vI 2), (67, vI 2)] ?_
       refine gn hK40 ?_
       refine ue_succ fun K49 hK49 => ?_
       refine ws fun K50 hK50 => ?_
       refine wr [(0, 0)] ?_
       refine gb0 [0] [(38, .bool false)] ?_
       refine gn hK50 ?_
       refine ws fun K51 hK51 => ?_
       refine we_false (by kernel_rfl) ?_
       refine we_exit fun a hF => hK10 _ _ ?_ a hF
       refine ws fun K52 hK52 => ?_
       refine wr [(0, 0)] ?_
       refine gb0 [0] [(10, .bool true)] ?_
       refine gn hK52 ?_
       have hS66 := hS65.takeN 0
       obtain rfl := si h
       exact we_ret (pr0 [.tmp 10] [.bool true] ⟨rfl, hS66⟩)
      ·rw [if_neg hc10] at h
       refine wk 49 (!r7) true (congrArg (fun z => !z) (Bool.eq_false_iff.2 hc10)) ?_
       refine we_true (by kernel_rfl) ?_
       refine we_exit fun a hF => hK43 _ _ ?_ a hF
       refine wr [(0, 0), (1, 0)] ?_
       refine gb0 [0, 1] [(37, vI 2), (67, vI 2)] ?_
       refine gn hK40 ?_
       refine ue_succ fun K53 hK53 => ?_
       refine ws fun K54 hK54 => ?_
       refine wr [(0, 0)] ?_
       refine gb0 [0] [(38, .bool false)] ?_
       refine gn hK54 ?_
       refine ws fun K55 hK55 => ?_
       refine we_false (by kernel_rfl) ?_
       refine we_exit fun a hF => hK10 _ _ ?_ a hF
       refine ws fun K56 hK56 => ?_
       refine wr [(0, 0)] ?_
       refine gb0 [0] [(10, .bool true)] ?_
       refine gn hK56 ?_
       have hS67 := hS55.takeN 0
       obtain rfl := si h
       exact we_ret (pr0 [.tmp 10] [.bool true] ⟨rfl, hS67⟩)
    ·rw [if_neg hc5] at h
     refine wk 49 (!r4) true (congrArg (fun z => !z) (Bool.eq_false_iff.2 hc5)) ?_
     refine we_true (by kernel_rfl) ?_
     refine we_exit fun a hF => hK15 _ _ ?_ a hF
     refine wr [(0, 0), (1, 0)] ?_
     refine gb0 [0, 1] [(37, vI 1), (67, vI 1)] ?_
     refine gn hK12 ?_
     refine ue_succ fun K57 hK57 => ?_
     refine ws fun K58 hK58 => ?_
     refine wr [(0, 0)] ?_
     refine gb0 [0] [(38, .bool true)] ?_
     refine gn hK58 ?_
     refine ws fun K59 hK59 => ?_
     refine we_true (by kernel_rfl) ?_
     refine we_skip fun a hF => hK59 _ _ ?_ a hF
     refine ws fun K60 hK60 => ?_
     refine we_block ?_
     refine ws fun K61 hK61 => ?_
     refine wr [(0, 0), (1, 0), (2, 1), (3, 2)] ?_
     refine gb [0, 1] [(40, .agg #[vI x1, .slice A2 l2.length c2]), (39, pP b3 2)] [.loaded ⟨b3, 2, none⟩ (vI x1), .loaded ⟨b3, 3, none⟩ (.slice A2 l2.length c2)] ⟨hS21.c 1, hS21.c 1, trivial⟩ ?_
     refine gw (some 14) (.cells #[vI 0, .slice none 0 0] 26) (fun b => pP b 0) hS21 fun b13 w34 hx13 hS68 => ?_
     refine gs b13 0 #[vI 0, .slice none 0 0] 26 [vI x1, .slice A2 l2.length c2] hS68 fun w35 hS69 => ?_
     have hS70 : St w0 w35 [Own.blk b13 (.cells #[vI x1, .slice A2 l2.length c2] 26 (0, 0)), Own.blk b4 (.cells #[vI r3.1.Worst, (.slice Z1 r3.1.Rest.length cz1)] 26 (0, 0)), Own.blk b3 (.cells #[vI r3.1.Worst, (.slice Z1 r3.1.Rest.length cz1), vI x1, .slice A2 l2.length c2] 26 (0, 0)), Own.blk b2 (.cells #[vI r3.2.Code, vI r3.2.At] 29 (0, 0)), Own.blk b1 (.cells #[vI r3.1.Worst, (.slice Z1 r3.1.Rest.length cz1)] 26 (0, 0)), Own.of (.slice Z1 r3.1.Rest.length cz1) 3 r3.1.Rest] := hS69
     refine gn hK61 ?_
     refine ws fun K62 hK62 => ?_
     refine ws fun K63 hK63 => ?_
     refine wr [(0, 0), (1, 0), (2, 0), (3, 0), (4, 0), (5, 0), (6, 1), (7, 0), (8, 0)] ?_
     refine gb [0, 1, 2, 3] [(44, .bool (r3.2.Code != 0)), (43, .bool (r3.2.Code != 0)), (42, vI r3.2.Code), (41, pP b2 0)] [.loaded ⟨b2, 0, none⟩ (vI r3.2.Code)] ⟨hS70.c 3, trivial⟩ ?_
     refine gk 44 (r3.2.Code != 0) false (bne_eq_false_iff_eq.2 hc4) ?_
     rcases hq11 : wcet_Proves.f K l0 x1 l2 with _ | r8
     ·rw [hq11] at h; cases h
     rw [hq11] at h
     simp only [] at h
     refine gb [4, 5] [(46, .agg #[vI x1, .slice A2 l2.length c2]), (45, .slice A0 l0.length c0)] [.loaded ⟨b13, 0, none⟩ (vI x1), .loaded ⟨b13, 1, none⟩ (.slice A2 l2.length c2)] ⟨hS70.c 0, hS70.c 0, trivial⟩ ?_
     refine ge_call (d := some 47) (f := 9) (args := #[.slice A0 l0.length c0, .agg #[vI x1, .slice A2 l2.length c2]]) (by kernel_rfl) (wcet_Proves_ok K l0 A0 c0 x1 l2 A2 c2 _ (hS70.rd hR0) hL0 (hS70.rd hR2) hL2 _ hq11) ?_
     rintro _ w36 ⟨rfl, hS71⟩
     refine ⟨_, rfl, hS71.below, ?_⟩
     have hS72 := hS70.call hS71
     refine gb0 [7, 8] [(49, .bool (!r8)), (48, .bool (!r8))] ?_
     refine gn hK63 ?_
     by_cases hc11 : r8 = true
     ·rw [if_pos hc11] at h
      refine wk 49 (!r8) false (congrArg (fun z => !z) hc11) ?_
      refine we_false (by kernel_rfl) ?_
      refine we_skip fun a hF => hK62 _ _ ?_ a hF
      refine ws fun K64 hK64 => ?_
      refine wr [(0, 0), (1, 0), (2, 0), (3, 1), (4, 0), (5, 0), (6, 0), (7, 1), (8, 1), (9, 2), (10, 2)] ?_
      rcases hq12 : mach_Run.f K l0 l3 l4 with _ | r9
      ·rw [hq12] at h; cases h
      rw [hq12] at h
      simp only [] at h
      refine gb0 [0, 1, 2] [(53, .slice A4 l4.length c4), (52, .slice A3 l3.length c3), (51, .slice A0 l0.length c0)] ?_
      refine ge_call (d := some 54) (f := 10) (args := #[.slice A0 l0.length c0, .slice A3 l3.length c3, .slice A4 l4.length c4]) (by kernel_rfl) (mach_Run_ok K l0 A0 c0 l3 A3 c3 l4 A4 c4 _ (hS72.rd hR0) hL0 (hS72.rd hR3) hL3 (hS72.rd hR4) hL4 _ hq12) ?_
      rintro _ w37 ⟨v8, v9, rfl, hS73⟩
      refine ⟨_, rfl, hS73.below, ?_⟩
      have hS74 := hS72.call hS73
      refine gb0 [4, 5, 6] [(56, .agg #[vI r9.2.Code, vI r9.2.At]), (55, .agg #[v8, v9, vI r9.1.Steps]), (50, .tuple #[.agg #[v8, v9, vI r9.1.Steps], .agg #[vI r9.2.Code, vI r9.2.At]])] ?_
      refine gw (some 15) (.cells #[.slice none 0 0, .slice none 0 0, vI 0] 36) (fun b => pP b 0) hS74 fun b14 w38 hx14 hS75 => ?_
      refine gw (some 16) (.cells #[vI 0, vI 0] 29) (fun b => pP b 0) hS75 fun b15 w39 hx15 hS76 => ?_
      obtain ⟨Z8, cz8, rfl⟩ := hS76.open 2 rfl
      obtain ⟨Z9, cz9, rfl⟩ := hS76.open 3 rfl
      have hS77 := hS76.bring 1 rfl
      refine gs b14 0 #[.slice none 0 0, .slice none 0 0, vI 0] 36 [(.slice Z8 r9.1.Vars.length cz8), (.slice Z9 r9.1.Puts.length cz9), vI r9.1.Steps] hS77 fun w40 hS78 => ?_
      have hS79 : St w0 w40 [Own.blk b14 (.cells #[(.slice Z8 r9.1.Vars.length cz8), (.slice Z9 r9.1.Puts.length cz9), vI r9.1.Steps] 36 (0, 0)), Own.blk b15 (.cells #[vI 0, vI 0] 29 (0, 0)), Own.of (.slice Z8 r9.1.Vars.length cz8) 3 r9.1.Vars, Own.of (.slice Z9 r9.1.Puts.length cz9) 56 r9.1.Puts, Own.blk b13 (.cells #[vI x1, .slice A2 l2.length c2] 26 (0, 0)), Own.blk b4 (.cells #[vI r3.1.Worst, (.slice Z1 r3.1.Rest.length cz1)] 26 (0, 0)), Own.blk b3 (.cells #[vI r3.1.Worst, (.slice Z1 r3.1.Rest.length cz1), vI x1, .slice A2 l2.length c2] 26 (0, 0)), Own.blk b2 (.cells #[vI r3.2.Code, vI r3.2.At] 29 (0, 0)), Own.blk b1 (.cells #[vI r3.1.Worst, (.slice Z1 r3.1.Rest.length cz1)] 26 (0, 0)), Own.of (.slice Z1 r3.1.Rest.length cz1) 3 r3.1.Rest] := hS78
      have hS80 := hS79.bring 1 rfl
      refine gs b15 0 #[vI 0, vI 0] 29 [vI r9.2.Code, vI r9.2.At] hS80 fun w41 hS81 => ?_
      have hS82 : St w0 w41 [Own.blk b15 (.cells #[vI r9.2.Code, vI r9.2.At] 29 (0, 0)), Own.blk b14 (.cells #[(.slice Z8 r9.1.Vars.length cz8), (.slice Z9 r9.1.Puts.length cz9), vI r9.1.Steps] 36 (0, 0)), Own.of (.slice Z8 r9.1.Vars.length cz8) 3 r9.1.Vars, Own.of (.slice Z9 r9.1.Puts.length cz9) 56 r9.1.Puts, Own.blk b13 (.cells #[vI x1, .slice A2 l2.length c2] 26 (0, 0)), Own.blk b4 (.cells #[vI r3.1.Worst, (.slice Z1 r3.1.Rest.length cz1)] 26 (0, 0)), Own.blk b3 (.cells #[vI r3.1.Worst, (.slice Z1 r3.1.Rest.length cz1), vI x1, .slice A2 l2.length c2] 26 (0, 0)), Own.blk b2 (.cells #[vI r3.2.Code, vI r3.2.At] 29 (0, 0)), Own.blk b1 (.cells #[vI r3.1.Worst, (.slice Z1 r3.1.Rest.length cz1)] 26 (0, 0)), Own.of (.slice Z1 r3.1.Rest.length cz1) 3 r3.1.Rest] := hS81
      refine gn hK64 ?_
      refine ws fun K65 hK65 => ?_
      refine wr [(0, 0), (1, 0), (2, 0), (3, 0), (4, 0), (5, 0), (6, 0), (7, 0), (8, 0), (9, 0)] ?_
      refine gb [0, 1, 2, 3] [(60, .bool (r9.2.Code == 0)), (59, .bool (r9.2.Code == 0)), (58, vI r9.2.Code), (57, pP b15 0)] [.loaded ⟨b15, 0, none⟩ (vI r9.2.Code)] ⟨hS82.c 0, trivial⟩ ?_
      by_cases hc12 : r9.2.Code = 0
      ·rw [if_pos hc12] at h
       refine gk 60 (r9.2.Code == 0) true (beq_iff_eq.2 hc12) ?_
       refine gb [4, 5, 6, 7, 8, 9] [(66, .bool (decide (r9.1.Steps > x1))), (65, .bool (decide (r9.1.Steps > x1))), (64, vI x1), (63, pP b13 0), (62, vI r9.1.Steps), (61, pP b14 2)] [.loaded ⟨b14, 2, none⟩ (vI r9.1.Steps), .loaded ⟨b13, 0, none⟩ (vI x1)] ⟨hS82.c 1, hS82.c 4, trivial⟩ ?_
       refine gn hK65 ?_
       by_cases hc13 : r9.1.Steps > x1
       ·rw [if_pos hc13] at h
        refine wk 66 (decide (r9.1.Steps > x1)) true (decide_eq_true hc13) ?_
        refine we_true (by kernel_rfl) ?_
        refine ws fun K66 hK66 => ?_
        refine wr [(0, 0)] ?_
        refine gb0 [0] [(10, .bool false)] ?_
        refine gn hK66 ?_
        have hS83 := hS82.takeN 0
        obtain rfl := si h
        exact we_ret (pr0 [.tmp 10] [.bool false] ⟨rfl, hS83⟩)
       ·rw [if_neg hc13] at h
        refine wk 66 (decide (r9.1.Steps > x1)) false (decide_eq_false hc13) ?_
        refine we_false (by kernel_rfl) ?_
        refine we_skip fun a hF => hK60 _ _ ?_ a hF
        refine wr [(0, 0), (1, 0)] ?_
        refine gb0 [0, 1] [(37, vI 2), (67, vI 2)] ?_
        refine gn hK57 ?_
        refine ue_succ fun K67 hK67 => ?_
        refine ws fun K68 hK68 => ?_
        refine wr [(0, 0)] ?_
        refine gb0 [0] [(38, .bool false)] ?_
        refine gn hK68 ?_
        refine ws fun K69 hK69 => ?_
        refine we_false (by kernel_rfl) ?_
        refine we_exit fun a hF => hK10 _ _ ?_ a hF
        refine ws fun K70 hK70 => ?_
        refine wr [(0, 0)] ?_
        refine gb0 [0] [(10, .bool true)] ?_
        refine gn hK70 ?_
        have hS84 := hS82.takeN 0
        obtain rfl := si h
        exact we_ret (pr0 [.tmp 10] [.bool true] ⟨rfl, hS84⟩)
      ·rw [if_neg hc12] at h
       refine gk 60 (r9.2.Code == 0) false (beq_eq_false_iff_ne.2 hc12) ?_
       refine gb0 [4, 5, 6, 7, 8, 9] [(66, .bool false), (65, undef), (64, undef), (63, undef), (62, undef), (61, undef)] ?_
       refine gn hK65 ?_
       refine we_false (by kernel_rfl) ?_
       refine we_skip fun a hF => hK60 _ _ ?_ a hF
       refine wr [(0, 0), (1, 0)] ?_
       refine gb0 [0, 1] [(37, vI 2), (67, vI 2)] ?_
       refine gn hK57 ?_
       refine ue_succ fun K71 hK71 => ?_
       refine ws fun K72 hK72 => ?_
       refine wr [(0, 0)] ?_
       refine gb0 [0] [(38, .bool false)] ?_
       refine gn hK72 ?_
       refine ws fun K73 hK73 => ?_
       refine we_false (by kernel_rfl) ?_
       refine we_exit fun a hF => hK10 _ _ ?_ a hF
       refine ws fun K74 hK74 => ?_
       refine wr [(0, 0)] ?_
       refine gb0 [0] [(10, .bool true)] ?_
       refine gn hK74 ?_
       have hS85 := hS82.takeN 0
       obtain rfl := si h
       exact we_ret (pr0 [.tmp 10] [.bool true] ⟨rfl, hS85⟩)
     ·rw [if_neg hc11] at h
      refine wk 49 (!r8) true (congrArg (fun z => !z) (Bool.eq_false_iff.2 hc11)) ?_
      refine we_true (by kernel_rfl) ?_
      refine we_exit fun a hF => hK60 _ _ ?_ a hF
      refine wr [(0, 0), (1, 0)] ?_
      refine gb0 [0, 1] [(37, vI 2), (67, vI 2)] ?_
      refine gn hK57 ?_
      refine ue_succ fun K75 hK75 => ?_
      refine ws fun K76 hK76 => ?_
      refine wr [(0, 0)] ?_
      refine gb0 [0] [(38, .bool false)] ?_
      refine gn hK76 ?_
      refine ws fun K77 hK77 => ?_
      refine we_false (by kernel_rfl) ?_
      refine we_exit fun a hF => hK10 _ _ ?_ a hF
      refine ws fun K78 hK78 => ?_
      refine wr [(0, 0)] ?_
      refine gb0 [0] [(10, .bool true)] ?_
      refine gn hK78 ?_
      have hS86 := hS72.takeN 0
      obtain rfl := si h
      exact we_ret (pr0 [.tmp 10] [.bool true] ⟨rfl, hS86⟩)
   ·rw [if_neg hc4] at h
    refine gk 44 (r3.2.Code != 0) true (bne_iff_ne.2 hc4) ?_
    refine gb0 [4, 5] [(46, undef), (45, undef)] ?_
    refine ge_off rfl rfl rfl (by kernel_rfl) ?_
    refine gb0 [7, 8] [(49, .bool true), (48, undef)] ?_
    refine gn hK18 ?_
    refine we_true (by kernel_rfl) ?_
    refine we_exit fun a hF => hK15 _ _ ?_ a hF
    refine wr [(0, 0), (1, 0)] ?_
    refine gb0 [0, 1] [(37, vI 1), (67, vI 1)] ?_
    refine gn hK12 ?_
    refine ue_succ fun K79 hK79 => ?_
    refine ws fun K80 hK80 => ?_
    refine wr [(0, 0)] ?_
    refine gb0 [0] [(38, .bool true)] ?_
    refine gn hK80 ?_
    refine ws fun K81 hK81 => ?_
    refine we_true (by kernel_rfl) ?_
    refine we_skip fun a hF => hK81 _ _ ?_ a hF
    refine ws fun K82 hK82 => ?_
    refine we_block ?_
    refine ws fun K83 hK83 => ?_
    refine wr [(0, 0), (1, 0), (2, 1), (3, 2)] ?_
    refine gb [0, 1] [(40, .agg #[vI x1, .slice A2 l2.length c2]), (39, pP b3 2)] [.loaded ⟨b3, 2, none⟩ (vI x1), .loaded ⟨b3, 3, none⟩ (.slice A2 l2.length c2)] ⟨hS19.c 1, hS19.c 1, trivial⟩ ?_
    refine gw (some 14) (.cells #[vI 0, .slice none 0 0] 26) (fun b => pP b 0) hS19 fun b16 w42 hx16 hS87 => ?_
    refine gs b16 0 #[vI 0, .slice none 0 0] 26 [vI x1, .slice A2 l2.length c2] hS87 fun w43 hS88 => ?_
    have hS89 : St w0 w43 [Own.blk b16 (.cells #[vI x1, .slice A2 l2.length c2] 26 (0, 0)), Own.blk b4 (.cells #[vI r3.1.Worst, (.slice Z1 r3.1.Rest.length cz1)] 26 (0, 0)), Own.blk b3 (.cells #[vI r3.1.Worst, (.slice Z1 r3.1.Rest.length cz1), vI x1, .slice A2 l2.length c2] 26 (0, 0)), Own.blk b2 (.cells #[vI r3.2.Code, vI r3.2.At] 29 (0, 0)), Own.blk b1 (.cells #[vI r3.1.Worst, (.slice Z1 r3.1.Rest.length cz1)] 26 (0, 0)), Own.of (.slice Z1 r3.1.Rest.length cz1) 3 r3.1.Rest] := hS88
    refine gn hK83 ?_
    refine ws fun K84 hK84 => ?_
    refine ws fun K85 hK85 => ?_
    refine wr [(0, 0), (1, 0), (2, 0), (3, 0), (4, 0), (5, 0), (6, 1), (7, 0), (8, 0)] ?_
    refine gb [0, 1, 2, 3] [(44, .bool (r3.2.Code != 0)), (43, .bool (r3.2.Code != 0)), (42, vI r3.2.Code), (41, pP b2 0)] [.loaded ⟨b2, 0, none⟩ (vI r3.2.Code)] ⟨hS89.c 3, trivial⟩ ?_
    refine gk 44 (r3.2.Code != 0) true (bne_iff_ne.2 hc4) ?_
    refine gb0 [4, 5] [(46, undef), (45, undef)] ?_
    refine ge_off rfl rfl rfl (by kernel_rfl) ?_
    refine gb0 [7, 8] [(49, .bool true), (48, undef)] ?_
    refine gn hK85 ?_
    refine we_true (by kernel_rfl) ?_
    refine we_exit fun a hF => hK82 _ _ ?_ a hF
    refine wr [(0, 0), (1, 0)] ?_
    refine gb0 [0, 1] [(37, vI 2), (67, vI 2)] ?_
    refine gn hK79 ?_
    refine ue_succ fun K86 hK86 => ?_
    refine ws fun K87 hK87 => ?_
    refine wr [(0, 0)] ?_
    refine gb0 [0] [(38, .bool false)] ?_
    refine gn hK87 ?_
    refine ws fun K88 hK88 => ?_
    refine we_false (by kernel_rfl) ?_
    refine we_exit fun a hF => hK10 _ _ ?_ a hF
    refine ws fun K89 hK89 => ?_
    refine wr [(0, 0)] ?_
    refine gb0 [0] [(10, .bool true)] ?_
    refine gn hK89 ?_
    have hS90 := hS89.takeN 0
    obtain rfl := si h
    exact we_ret (pr0 [.tmp 10] [.bool true] ⟨rfl, hS90⟩)
 ·rw [hq3] at h
  simp only [] at h
  refine we_keep (e' := [(0, .slice A0 l0.length c0), (1, vI x1), (2, .slice A2 l2.length c2), (3, .slice A3 l3.length c3), (4, .slice A4 l4.length c4), (10, .bool false)]) ea (WcetBound_p0 K w0 l0 A0 c0 x1 l2 A2 c2 l3 A3 c3 l4 A4 c4 hR0 hL0 hR2 hL2 hR3 hL3 hR4 hL4 _ hq3 _ hS _ ?_)
  rintro _ a w1 ⟨_, rfl, hb⟩
  obtain rfl := si h
  exact hb
end Go.Proofs.Ytgpolejhaglddaa.GV
