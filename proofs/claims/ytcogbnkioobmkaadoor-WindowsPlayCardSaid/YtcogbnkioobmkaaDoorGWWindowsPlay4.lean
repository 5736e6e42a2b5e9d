/- Walks of single functions, written by a program of this work. -/
import Derived.Test.YtcogbnkioobmkaaDoorGWWindowsPlay3
namespace Go.Proofs.YtcogbnkioobmkaaDoor.GV
open Go Go.RowKit
set_option linter.unusedVariables false
set_option linter.unusedSimpArgs false
set_option maxRecDepth 100000

/-! punctual/punctualref.HostedOf -/
abbrev punctualref_HostedOf.Post (w0 : World) (r : SPlayed × SFault) (e : Ending) (w : World) : Prop := ∃ (v0 : Value) (v1 : Value), e = .returned (.tuple #[.agg #[v0, v1], .agg #[vI r.2.Code, vI r.2.At]]) ∧ St w0 w [Own.of v0 3 r.1.Runs, Own.of v1 3 r.1.Ends]
def punctualref_HostedOf.p0 (r2 : SFault) : Option ((Int × Int × (List Int) × (List Int)) ⊕ (SPlayed × SFault)) :=
  some (.inl (r2.Code, r2.At, ([] : List Int), ([] : List Int)))
def punctualref_HostedOf.p1 (r1 : SFault) : Option ((Int × Int × (List Int) × (List Int)) ⊕ (SPlayed × SFault)) :=
  some (.inl (r1.Code, r1.At, ([] : List Int), ([] : List Int)))
def punctualref_HostedOf.f (K : Nat) (l0 : List SJob) (x1 : Int) (l2 : List SWindow) (x3 : Int) : Option (SPlayed × SFault) :=
 match punctualref_CheckFrame.f K x1 l2 with
 | none => none
 | some r1 =>
  if r1.Code = 0 then
   match punctualref_CheckJobs.f K l0 with
   | none => none
   | some r2 =>
    if r2.Code = 0 then
     if x3 < 0 then
      some ((⟨([] : List Int), ([] : List Int)⟩ : SPlayed), (punctualref_F.f 3 0))
     else
      if x3 > 20000 then
       some ((⟨([] : List Int), ([] : List Int)⟩ : SPlayed), (punctualref_F.f 3 0))
      else
       match punctualref_Played.f K l0 1 true 1 x3 x1 l2 with
       | none => none
       | some r3 =>
        match punctualref_One.f K r3.1 with
        | none => none
        | some r4 =>
         some ((⟨r4, r3.2⟩ : SPlayed), (⟨0, 0⟩ : SFault))
    else
     match punctualref_HostedOf.p0 r2 with
     | none => none
     | some (.inl (z3, z4, m3, m4)) =>
      some ((⟨m3, m4⟩ : SPlayed), (⟨z3, z4⟩ : SFault))
     | some (.inr rr1) =>
      some rr1
  else
   match punctualref_HostedOf.p1 r1 with
   | none => none
   | some (.inl (z7, z8, m7, m8)) =>
    some ((⟨m7, m8⟩ : SPlayed), (⟨z7, z8⟩ : SFault))
   | some (.inr rr2) =>
    some rr2
abbrev punctualref_HostedOf.A0 (w0 : World) (b3 : Nat) (b4 : Nat) : (Int × Int × (List Int) × (List Int)) → Act → World → Prop := fun (s : Int × Int × (List Int) × (List Int)) a w => ∃ (v3 : Value) (v4 : Value), St w0 w [Own.blk b4 (.cells #[vI s.1, vI s.2.1] 39 (0, 0)), Own.blk b3 (.cells #[v3, v4] 36 (0, 0)), Own.of v3 3 s.2.2.1, Own.of v4 3 s.2.2.2] ∧ Frm 49 a [(8, pP b3 0), (9, pP b4 0)]
abbrev punctualref_HostedOf.B0 (w0 : World) : (SPlayed × SFault) → Exit → Act → World → Prop := Rets Tryd.prog Tryd.f28 (punctualref_HostedOf.Post w0)
theorem punctualref_HostedOf_p0 (K : Nat) (w0 : World) (l0 : List SJob) (A0 : Option Addr) (c0 : Nat) (x1 : Int) (l2 : List SWindow) (A2 : Option Addr) (c2 : Nat) (x3 : Int) (hR0 : RdL w0 A0 l0) (hL0 : l0.length ≤ c0) (hR2 : RdL w0 A2 l2) (hL2 : l2.length ≤ c2) (b1 : Nat) (b2 : Nat) (b3 : Nat) (b4 : Nat) (r1 : SFault) (b5 : Nat) (hc1 : r1.Code = 0) (r2 : SFault) (b6 : Nat) (hc2 : ¬ (r2.Code = 0)) (o : (Int × Int × (List Int) × (List Int)) ⊕ (SPlayed × SFault)) (h : punctualref_HostedOf.p0 r2 = some o) (w : World) (hS : St w0 w [Own.blk b6 (.cells #[vI r2.Code, vI r2.At] 39 (0, 0)), Own.blk b5 (.cells #[vI r1.Code, vI r1.At] 39 (0, 0)), Own.blk b4 (.cells #[vI 0, vI 0] 39 (0, 0)), Own.blk b3 (.cells #[.slice none 0 0, .slice none 0 0] 36 (0, 0)), Own.blk b2 (.cells #[.slice A2 l2.length c2] 48 (0, 0)), Own.blk b1 (.cells #[vI x1] 3 (0, 0))]) (Q : Exit → Act → World → Prop) (hQ : ∀ x a w, Outs (punctualref_HostedOf.A0 w0 b3 b4) (punctualref_HostedOf.B0 w0) o x a w → Q x a w) : WE Tryd.prog 49 (subF Tryd.f28 [1, 1, 0, 1, 1, 0, 0]) Q [(0, .slice A0 l0.length c0), (1, vI x1), (2, .slice A2 l2.length c2), (3, vI x3), (5, pP b1 0), (6, pP b2 0), (8, pP b3 0), (9, pP b4 0), (10, pP b5 0), (11, pP b6 0), (14, vI x1), (15, .slice A2 l2.length c2), (16, .agg #[vI r1.Code, vI r1.At]), (17, pP b5 0), (18, vI r1.Code), (19, .bool false), (22, .slice A0 l0.length c0), (23, .agg #[vI r2.Code, vI r2.At]), (24, pP b6 0), (25, vI r2.Code), (26, .bool true)] w := by
 simp only [punctualref_HostedOf.p0] at h
 refine we_orders2 (by kernel_rfl) [(1, [⟨b6, 0, none⟩, ⟨b6, 1, none⟩])] (.vals [0] (.vals [1] (.alt 2 2 (.alt 3 2 .fin .nomore) .nomore))) (by kernel_rfl) ?_
 have hS54 := hS.drew
 refine go2_batch [0] (ans := []) (vs := [(27, .agg #[.slice none 0 0, .slice none 0 0])]) (l := []) (by kernel_rfl) trivial mem_nil ?_
 refine go2_batch [1] (ans := [.val (vI r2.Code), .val (vI r2.At)]) (vs := [(28, .agg #[vI r2.Code, vI r2.At])]) (l := [.loaded ⟨b6, 0, none⟩ (vI r2.Code), .loaded ⟨b6, 1, none⟩ (vI r2.At)]) (by kernel_rfl) ⟨hS54.c 0, hS54.c 0, trivial⟩ (mem_one (by kernel_rfl)) ?_
 refine go_alt2 (fun KK hKK => ?_) ?_
 ·have hS55 := hS54.bring 3 rfl
  refine gs b3 0 #[.slice none 0 0, .slice none 0 0] 36 [.slice none 0 0, .slice none 0 0] hS55 fun w21 hS56 => ?_
  have hS57 : St w0 w21 [Own.blk b3 (.cells #[.slice none 0 0, .slice none 0 0] 36 (0, 0)), Own.blk b6 (.cells #[vI r2.Code, vI r2.At] 39 (0, 0)), Own.blk b5 (.cells #[vI r1.Code, vI r1.At] 39 (0, 0)), Own.blk b4 (.cells #[vI 0, vI 0] 39 (0, 0)), Own.blk b2 (.cells #[.slice A2 l2.length c2] 48 (0, 0)), Own.blk b1 (.cells #[vI x1] 3 (0, 0))] := hS56
  refine ge_nil fun a hF => hKK _ _ (RS.of2 (l := [.loaded ⟨b6, 0, none⟩ (vI r2.Code), .loaded ⟨b6, 1, none⟩ (vI r2.At)]) (by kernel_rfl) ⟨hS54.c 0, hS54.c 0, trivial⟩ ⟨hS57.c 1, hS57.c 1, trivial⟩) ?_ a hF
  refine go_alt2 (fun KK hKK => ?_) ?_
  ·have hS58 := hS57.bring 3 rfl
   refine gs b4 0 #[vI 0, vI 0] 39 [vI r2.Code, vI r2.At] hS58 fun w22 hS59 => ?_
   have hS60 : St w0 w22 [Own.blk b4 (.cells #[vI r2.Code, vI r2.At] 39 (0, 0)), Own.blk b3 (.cells #[.slice none 0 0, .slice none 0 0] 36 (0, 0)), Own.blk b6 (.cells #[vI r2.Code, vI r2.At] 39 (0, 0)), Own.blk b5 (.cells #[vI r1.Code, vI r1.At] 39 (0, 0)), Own.blk b2 (.cells #[.slice A2 l2.length c2] 48 (0, 0)), Own.blk b1 (.cells #[vI x1] 3 (0, 0))] := hS59
   refine ge_nil fun a hF => hKK _ _ (RS.of2 (l := []) (by kernel_rfl) trivial trivial) ?_ a hF
   have hS61 := hS60.nil (α := Int) 3
   have hS62 := hS61.nil (α := Int) 3
   have hS63 := hS62.bring 1 rfl
   have hS64 := hS63.bring 1 rfl
   have hS65 := hS64.bring 3 rfl
   have hS66 := hS65.bring 3 rfl
   have hS67 := hS66.takeN 4
   obtain rfl := si h
   exact go_fin2 fun a hF => hQ _ _ _ (Outs.again ⟨(.slice none 0 0), (.slice none 0 0), hS67, hF.weaken ea⟩)
  exact go_nomore2
 exact go_nomore2
abbrev punctualref_HostedOf.A1 (w0 : World) (b3 : Nat) (b4 : Nat) : (Int × Int × (List Int) × (List Int)) → Act → World → Prop := fun (s : Int × Int × (List Int) × (List Int)) a w => ∃ (v7 : Value) (v8 : Value), St w0 w [Own.blk b4 (.cells #[vI s.1, vI s.2.1] 39 (0, 0)), Own.blk b3 (.cells #[v7, v8] 36 (0, 0)), Own.of v7 3 s.2.2.1, Own.of v8 3 s.2.2.2] ∧ Frm 49 a [(8, pP b3 0), (9, pP b4 0)]
abbrev punctualref_HostedOf.B1 (w0 : World) : (SPlayed × SFault) → Exit → Act → World → Prop := Rets Tryd.prog Tryd.f28 (punctualref_HostedOf.Post w0)
theorem punctualref_HostedOf_p1 (K : Nat) (w0 : World) (l0 : List SJob) (A0 : Option Addr) (c0 : Nat) (x1 : Int) (l2 : List SWindow) (A2 : Option Addr) (c2 : Nat) (x3 : Int) (hR0 : RdL w0 A0 l0) (hL0 : l0.length ≤ c0) (hR2 : RdL w0 A2 l2) (hL2 : l2.length ≤ c2) (b1 : Nat) (b2 : Nat) (b3 : Nat) (b4 : Nat) (r1 : SFault) (b5 : Nat) (hc1 : ¬ (r1.Code = 0)) (o : (Int × Int × (List Int) × (List Int)) ⊕ (SPlayed × SFault)) (h : punctualref_HostedOf.p1 r1 = some o) (w : World) (hS : St w0 w [Own.blk b5 (.cells #[vI r1.Code, vI r1.At] 39 (0, 0)), Own.blk b4 (.cells #[vI 0, vI 0] 39 (0, 0)), Own.blk b3 (.cells #[.slice none 0 0, .slice none 0 0] 36 (0, 0)), Own.blk b2 (.cells #[.slice A2 l2.length c2] 48 (0, 0)), Own.blk b1 (.cells #[vI x1] 3 (0, 0))]) (Q : Exit → Act → World → Prop) (hQ : ∀ x a w, Outs (punctualref_HostedOf.A1 w0 b3 b4) (punctualref_HostedOf.B1 w0) o x a w → Q x a w) : WE Tryd.prog 49 (subF Tryd.f28 [1, 0, 1, 1, 0, 0]) Q [(0, .slice A0 l0.length c0), (1, vI x1), (2, .slice A2 l2.length c2), (3, vI x3), (5, pP b1 0), (6, pP b2 0), (8, pP b3 0), (9, pP b4 0), (10, pP b5 0), (14, vI x1), (15, .slice A2 l2.length c2), (16, .agg #[vI r1.Code, vI r1.At]), (17, pP b5 0), (18, vI r1.Code), (19, .bool true)] w := by
 simp only [punctualref_HostedOf.p1] at h
 refine we_orders2 (by kernel_rfl) [(1, [⟨b5, 0, none⟩, ⟨b5, 1, none⟩])] (.vals [0] (.vals [1] (.alt 2 2 (.alt 3 2 .fin .nomore) .nomore))) (by kernel_rfl) ?_
 have hS72 := hS.drew
 refine go2_batch [0] (ans := []) (vs := [(20, .agg #[.slice none 0 0, .slice none 0 0])]) (l := []) (by kernel_rfl) trivial mem_nil ?_
 refine go2_batch [1] (ans := [.val (vI r1.Code), .val (vI r1.At)]) (vs := [(21, .agg #[vI r1.Code, vI r1.At])]) (l := [.loaded ⟨b5, 0, none⟩ (vI r1.Code), .loaded ⟨b5, 1, none⟩ (vI r1.At)]) (by kernel_rfl) ⟨hS72.c 0, hS72.c 0, trivial⟩ (mem_one (by kernel_rfl)) ?_
 refine go_alt2 (fun KK hKK => ?_) ?_
 ·have hS73 := hS72.bring 2 rfl
  refine gs b3 0 #[.slice none 0 0, .slice none 0 0] 36 [.slice none 0 0, .slice none 0 0] hS73 fun w24 hS74 => ?_
  have hS75 : St w0 w24 [Own.blk b3 (.cells #[.slice none 0 0, .slice none 0 0] 36 (0, 0)), Own.blk b5 (.cells #[vI r1.Code, vI r1.At] 39 (0, 0)), Own.blk b4 (.cells #[vI 0, vI 0] 39 (0, 0)), Own.blk b2 (.cells #[.slice A2 l2.length c2] 48 (0, 0)), Own.blk b1 (.cells #[vI x1] 3 (0, 0))] := hS74
  refine ge_nil fun a hF => hKK _ _ (RS.of2 (l := [.loaded ⟨b5, 0, none⟩ (vI r1.Code), .loaded ⟨b5, 1, none⟩ (vI r1.At)]) (by kernel_rfl) ⟨hS72.c 0, hS72.c 0, trivial⟩ ⟨hS75.c 1, hS75.c 1, trivial⟩) ?_ a hF
  refine go_alt2 (fun KK hKK => ?_) ?_
  ·have hS76 := hS75.bring 2 rfl
   refine gs b4 0 #[vI 0, vI 0] 39 [vI r1.Code, vI r1.At] hS76 fun w25 hS77 => ?_
   have hS78 : St w0 w25 [Own.blk b4 (.cells #[vI r1.Code, vI r1.At] 39 (0, 0)), Own.blk b3 (.cells #[.slice none 0 0, .slice none 0 0] 36 (0, 0)), Own.blk b5 (.cells #[vI r1.Code, vI r1.At] 39 (0, 0)), Own.blk b2 (.cells #[.slice A2 l2.length c2] 48 (0, 0)), Own.blk b1 (.cells #[vI x1] 3 (0, 0))] := hS77
   refine ge_nil fun a hF => hKK _ _ (RS.of2 (l := []) (by kernel_rfl) trivial trivial) ?_ a hF
   have hS79 := hS78.nil (α := Int) 3
   have hS80 := hS79.nil (α := Int) 3
   have hS81 := hS80.bring 1 rfl
   have hS82 := hS81.bring 1 rfl
   have hS83 := hS82.bring 3 rfl
   have hS84 := hS83.bring 3 rfl
   have hS85 := hS84.takeN 4
   obtain rfl := si h
   exact go_fin2 fun a hF => hQ _ _ _ (Outs.again ⟨(.slice none 0 0), (.slice none 0 0), hS85, hF.weaken ea⟩)
  exact go_nomore2
 exact go_nomore2
theorem punctualref_HostedOf_ok (K : Nat) (l0 : List SJob) (A0 : Option Addr) (c0 : Nat) (x1 : Int) (l2 : List SWindow) (A2 : Option Addr) (c2 : Nat) (x3 : Int) (w0 : World) (hR0 : RdL w0 A0 l0) (hL0 : l0.length ≤ c0) (hR2 : RdL w0 A2 l2) (hL2 : l2.length ≤ c2) (r : SPlayed × SFault) (h : punctualref_HostedOf.f K l0 x1 l2 x3 = some r) :
  Calls Tryd.prog 28 #[.slice A0 l0.length c0, vI x1, .slice A2 l2.length c2, vI x3] w0 (punctualref_HostedOf.Post w0 r) := by
 have hS := St.start w0
 unfold punctualref_HostedOf.f at h
 refine calls_enter (n := 49) (args := [.slice A0 l0.length c0, vI x1, .slice A2 l2.length c2, vI x3]) (fn := Tryd.f28) rfl rfl rfl rfl ?_
 show WE _ _ _ _ [(0, .slice A0 l0.length c0), (1, vI x1), (2, .slice A2 l2.length c2), (3, vI x3)] _
 refine ws fun K1 hK1 => ?_
 refine wr [(0, 1), (1, 1), (2, 1), (3, 1)] ?_
 refine gw (some 5) (.cells #[vI x1] 3) (fun b => pP b 0) hS fun b1 w1 hx1 hS1 => ?_
 refine gw (some 6) (.cells #[.slice A2 l2.length c2] 48) (fun b => pP b 0) hS1 fun b2 w2 hx2 hS2 => ?_
 refine gw (some 8) (.cells #[.slice none 0 0, .slice none 0 0] 36) (fun b => pP b 0) hS2 fun b3 w3 hx3 hS3 => ?_
 refine gw (some 9) (.cells #[vI 0, vI 0] 39) (fun b => pP b 0) hS3 fun b4 w4 hx4 hS4 => ?_
 refine gn hK1 ?_
 refine ws fun K2 hK2 => ?_
 refine ws fun K3 hK3 => ?_
 refine wr [(0, 0), (1, 0), (2, 1), (3, 1), (4, 2)] ?_
 rcases hq1 : punctualref_CheckFrame.f K x1 l2 with _ | r1
 ·rw [hq1] at h; cases h
 rw [hq1] at h
 simp only [] at h
 refine gb [0, 1] [(15, .slice A2 l2.length c2), (14, vI x1)] [.loaded ⟨b1, 0, none⟩ (vI x1), .loaded ⟨b2, 0, none⟩ (.slice A2 l2.length c2)] ⟨hS4.c 3, hS4.c 2, trivial⟩ ?_
 refine ge_call (d := some 16) (f := 84) (args := #[vI x1, .slice A2 l2.length c2]) (by kernel_rfl) (punctualref_CheckFrame_ok K x1 l2 A2 c2 _ (hS4.rd hR2) hL2 _ hq1) ?_
 rintro _ w5 ⟨rfl, hS5⟩
 refine ⟨_, rfl, hS5.below, ?_⟩
 have hS6 := hS4.call hS5
 refine gw (some 10) (.cells #[vI 0, vI 0] 39) (fun b => pP b 0) hS6 fun b5 w6 hx5 hS7 => ?_
 refine gs b5 0 #[vI 0, vI 0] 39 [vI r1.Code, vI r1.At] hS7 fun w7 hS8 => ?_
 have hS9 : St w0 w7 [Own.blk b5 (.cells #[vI r1.Code, vI r1.At] 39 (0, 0)), Own.blk b4 (.cells #[vI 0, vI 0] 39 (0, 0)), Own.blk b3 (.cells #[.slice none 0 0, .slice none 0 0] 36 (0, 0)), Own.blk b2 (.cells #[.slice A2 l2.length c2] 48 (0, 0)), Own.blk b1 (.cells #[vI x1] 3 (0, 0))] := hS8
 refine gn hK3 ?_
 refine ws fun K4 hK4 => ?_
 refine wr [(0, 0), (1, 0), (2, 0)] ?_
 refine gb [0, 1, 2] [(19, .bool (r1.Code != 0)), (18, vI r1.Code), (17, pP b5 0)] [.loaded ⟨b5, 0, none⟩ (vI r1.Code)] ⟨hS9.c 0, trivial⟩ ?_
 refine gn hK4 ?_
 by_cases hc1 : r1.Code = 0
 ·rw [if_pos hc1] at h
  refine wk 19 (r1.Code != 0) false (bne_eq_false_iff_eq.2 hc1) ?_
  refine we_false (by kernel_rfl) ?_
  refine we_skip fun a hF => hK2 _ _ ?_ a hF
  refine ws fun K5 hK5 => ?_
  refine ws fun K6 hK6 => ?_
  refine wr [(0, 0), (1, 1), (2, 1), (3, 2)] ?_
  rcases hq2 : punctualref_CheckJobs.f K l0 with _ | r2
  ·rw [hq2] at h; cases h
  rw [hq2] at h
  simp only [] at h
  refine gb0 [0] [(22, .slice A0 l0.length c0)] ?_
  refine ge_call (d := some 23) (f := 87) (args := #[.slice A0 l0.length c0]) (by kernel_rfl) (punctualref_CheckJobs_ok K l0 A0 c0 _ (hS9.rd hR0) hL0 _ hq2) ?_
  rintro _ w8 ⟨rfl, hS10⟩
  refine ⟨_, rfl, hS10.below, ?_⟩
  have hS11 := hS9.call hS10
  refine gw (some 11) (.cells #[vI 0, vI 0] 39) (fun b => pP b 0) hS11 fun b6 w9 hx6 hS12 => ?_
  refine gs b6 0 #[vI 0, vI 0] 39 [vI r2.Code, vI r2.At] hS12 fun w10 hS13 => ?_
  have hS14 : St w0 w10 [Own.blk b6 (.cells #[vI r2.Code, vI r2.At] 39 (0, 0)), Own.blk b5 (.cells #[vI r1.Code, vI r1.At] 39 (0, 0)), Own.blk b4 (.cells #[vI 0, vI 0] 39 (0, 0)), Own.blk b3 (.cells #[.slice none 0 0, .slice none 0 0] 36 (0, 0)), Own.blk b2 (.cells #[.slice A2 l2.length c2] 48 (0, 0)), Own.blk b1 (.cells #[vI x1] 3 (0, 0))] := hS13
  refine gn hK6 ?_
  refine ws fun K7 hK7 => ?_
  refine wr [(0, 0), (1, 0), (2, 0)] ?_
  refine gb [0, 1, 2] [(26, .bool (r2.Code != 0)), (25, vI r2.Code), (24, pP b6 0)] [.loaded ⟨b6, 0, none⟩ (vI r2.Code)] ⟨hS14.c 0, trivial⟩ ?_
  refine gn hK7 ?_
  by_cases hc2 : r2.Code = 0
  ·rw [if_pos hc2] at h
   refine wk 26 (r2.Code != 0) false (bne_eq_false_iff_eq.2 hc2) ?_
   refine we_false (by kernel_rfl) ?_
   refine we_skip fun a hF => hK5 _ _ ?_ a hF
   refine ws fun K8 hK8 => ?_
   refine ws fun K9 hK9 => ?_
   refine wr [(0, 0), (1, 0), (2, 0), (3, 0), (4, 0), (5, 0)] ?_
   refine gb0 [0, 1, 2] [(31, .bool (decide (x3 < 0))), (30, .bool (decide (x3 < 0))), (29, vI x3)] ?_
   by_cases hc3 : x3 < 0
   ·rw [if_pos hc3] at h
    refine gk 31 (decide (x3 < 0)) true (decide_eq_true hc3) ?_
    refine gb0 [3, 4, 5] [(34, .bool true), (33, undef), (32, undef)] ?_
    refine gn hK9 ?_
    refine we_true (by kernel_rfl) ?_
    refine ws fun K10 hK10 => ?_
    refine wr [(0, 0), (1, 1), (2, 2), (3, 2)] ?_
    refine gb0 [0] [(35, .agg #[.slice none 0 0, .slice none 0 0])] ?_
    refine ge_call (d := some 36) (f := 74) (args := #[vI 3, vI 0]) (by kernel_rfl) (punctualref_F_ok 3 0 _ _ rfl) ?_
    rintro _ w11 ⟨rfl, hS15⟩
    refine ⟨_, rfl, hS15.below, ?_⟩
    have hS16 := hS14.call hS15
    have hS17 := hS16.bring 3 rfl
    refine gs b3 0 #[.slice none 0 0, .slice none 0 0] 36 [.slice none 0 0, .slice none 0 0] hS17 fun w12 hS18 => ?_
    have hS19 : St w0 w12 [Own.blk b3 (.cells #[.slice none 0 0, .slice none 0 0] 36 (0, 0)), Own.blk b6 (.cells #[vI r2.Code, vI r2.At] 39 (0, 0)), Own.blk b5 (.cells #[vI r1.Code, vI r1.At] 39 (0, 0)), Own.blk b4 (.cells #[vI 0, vI 0] 39 (0, 0)), Own.blk b2 (.cells #[.slice A2 l2.length c2] 48 (0, 0)), Own.blk b1 (.cells #[vI x1] 3 (0, 0))] := hS18
    have hS20 := hS19.bring 3 rfl
    refine gs b4 0 #[vI 0, vI 0] 39 [vI ((punctualref_F.f 3 0).Code), vI ((punctualref_F.f 3 0).At)] hS20 fun w13 hS21 => ?_
    have hS22 : St w0 w13 [Own.blk b4 (.cells #[vI ((punctualref_F.f 3 0).Code), vI ((punctualref_F.f 3 0).At)] 39 (0, 0)), Own.blk b3 (.cells #[.slice none 0 0, .slice none 0 0] 36 (0, 0)), Own.blk b6 (.cells #[vI r2.Code, vI r2.At] 39 (0, 0)), Own.blk b5 (.cells #[vI r1.Code, vI r1.At] 39 (0, 0)), Own.blk b2 (.cells #[.slice A2 l2.length c2] 48 (0, 0)), Own.blk b1 (.cells #[vI x1] 3 (0, 0))] := hS21
    refine gn hK10 ?_
    have hS23 := hS22.nil (α := Int) 3
    have hS24 := hS23.nil (α := Int) 3
    have hS25 := hS24.bring 1 rfl
    have hS26 := hS25.bring 1 rfl
    have hS27 := hS26.takeN 2
    obtain rfl := si h
    exact we_ret (pr [.cell 8 36, .cell 9 39] [.agg #[(.slice none 0 0), (.slice none 0 0)], .agg #[vI ((punctualref_F.f 3 0).Code), vI ((punctualref_F.f 3 0).At)]] [.loaded ⟨b3, 0, none⟩ ((.slice none 0 0)), .loaded ⟨b3, 1, none⟩ ((.slice none 0 0)), .loaded ⟨b4, 0, none⟩ (vI ((punctualref_F.f 3 0).Code)), .loaded ⟨b4, 1, none⟩ (vI ((punctualref_F.f 3 0).At))] ⟨hS24.c 3, hS24.c 3, hS24.c 2, hS24.c 2, trivial⟩ ⟨(.slice none 0 0), (.slice none 0 0), rfl, hS27⟩)
   ·rw [if_neg hc3] at h
    refine gk 31 (decide (x3 < 0)) false (decide_eq_false hc3) ?_
    refine gb0 [3, 4, 5] [(34, .bool (decide (x3 > 20000))), (33, .bool (decide (x3 > 20000))), (32, vI x3)] ?_
    refine gn hK9 ?_
    by_cases hc4 : x3 > 20000
    ·rw [if_pos hc4] at h
     refine wk 34 (decide (x3 > 20000)) true (decide_eq_true hc4) ?_
     refine we_true (by kernel_rfl) ?_
     refine ws fun K11 hK11 => ?_
     refine wr [(0, 0), (1, 1), (2, 2), (3, 2)] ?_
     refine gb0 [0] [(35, .agg #[.slice none 0 0, .slice none 0 0])] ?_
     refine ge_call (d := some 36) (f := 74) (args := #[vI 3, vI 0]) (by kernel_rfl) (punctualref_F_ok 3 0 _ _ rfl) ?_
     rintro _ w14 ⟨rfl, hS28⟩
     refine ⟨_, rfl, hS28.below, ?_⟩
     have hS29 := hS14.call hS28
     have hS30 := hS29.bring 3 rfl
     refine gs b3 0 #[.slice none 0 0, .slice none 0 0] 36 [.slice none 0 0, .slice none 0 0] hS30 fun w15 hS31 => ?_
     have hS32 : St w0 w15 [Own.blk b3 (.cells #[.slice none 0 0, .slice none 0 0] 36 (0, 0)), Own.blk b6 (.cells #[vI r2.Code, vI r2.At] 39 (0, 0)), Own.blk b5 (.cells #[vI r1.Code, vI r1.At] 39 (0, 0)), Own.blk b4 (.cells #[vI 0, vI 0] 39 (0, 0)), Own.blk b2 (.cells #[.slice A2 l2.length c2] 48 (0, 0)), Own.blk b1 (.cells #[vI x1] 3 (0, 0))] := hS31
     have hS33 := hS32.bring 3 rfl
     refine gs b4 0 #[vI 0, vI 0] 39 [vI ((punctualref_F.f 3 0).Code), vI ((punctualref_F.f 3 0).At)] hS33 fun w16 hS34 => ?_
     have hS35 : St w0 w16 [Own.blk b4 (.cells #[vI ((punctualref_F.f 3 0).Code), vI ((punctualref_F.f 3 0).At)] 39 (0, 0)), Own.blk b3 (.cells #[.slice none 0 0, .slice none 0 0] 36 (0, 0)), Own.blk b6 (.cells #[vI r2.Code, vI r2.At] 39 (0, 0)), Own.blk b5 (.cells #[vI r1.Code, vI r1.At] 39 (0, 0)), Own.blk b2 (.cells #[.slice A2 l2.length c2] 48 (0, 0)), Own.blk b1 (.cells #[vI x1] 3 (0, 0))] := hS34
     refine gn hK11 ?_
     have hS36 := hS35.nil (α := Int) 3
     have hS37 := hS36.nil (α := Int) 3
     have hS38 := hS37.bring 1 rfl
     have hS39 := hS38.bring 1 rfl
     have hS40 := hS39.takeN 2
     obtain rfl := si h
     exact we_ret (pr [.cell 8 36, .cell 9 39] [.agg #[(.slice none 0 0), (.slice none 0 0)], .agg #[vI ((punctualref_F.f 3 0).Code), vI ((punctualref_F.f 3 0).At)]] [.loaded ⟨b3, 0, none⟩ ((.slice none 0 0)), .loaded ⟨b3, 1, none⟩ ((.slice none 0 0)), .loaded ⟨b4, 0, none⟩ (vI ((punctualref_F.f 3 0).Code)), .loaded ⟨b4, 1, none⟩ (vI ((punctualref_F.f 3 0).At))] ⟨hS37.c 3, hS37.c 3, hS37.c 2, hS37.c 2, trivial⟩ ⟨(.slice none 0 0), (.slice none 0 0), rfl, hS40⟩)
    ·rw [if_neg hc4] at h
     refine wk 34 (decide (x3 > 20000)) false (decide_eq_false hc4) ?_
     refine we_false (by kernel_rfl) ?_
     refine we_skip fun a hF => hK8 _ _ ?_ a hF
     refine ws fun K12 hK12 => ?_
     refine wr [(0, 0), (1, 0), (2, 0), (3, 1), (4, 0), (5, 0), (6, 0), (7, 0), (8, 0)] ?_
     rcases hq5 : punctualref_Played.f K l0 1 true 1 x3 x1 l2 with _ | r3
     ·rw [hq5] at h; cases h
     rw [hq5] at h
     simp only [] at h
     refine gb0 [0, 1, 2] [(40, .func (.func 89) #[] #[pP b1 0, pP b2 0]), (39, vI x3), (38, .slice A0 l0.length c0)] ?_
     refine ge_call (d := some 41) (f := 88) (args := #[.slice A0 l0.length c0, vI 1, .bool true, vI 1, vI x3, .func (.func 89) #[] #[pP b1 0, pP b2 0]]) (by kernel_rfl) (punctualref_Played_ok K l0 A0 c0 1 true 1 x3 b1 x1 b2 l2 A2 c2 _ (hS14.rd hR0) hL0 (hS14.globOf 5 rfl) (hS14.rd hR2) hL2 (hS14.globOf 4 rfl) _ hq5) ?_
     rintro _ w17 ⟨y1, v1, rfl, hS41⟩
     refine ⟨_, rfl, hS41.below, ?_⟩
     have hS42 := hS14.call hS41
     refine gb0 [4, 5, 6, 7, 8] [(13, v1), (12, (Rows.val y1)), (43, v1), (42, (Rows.val y1)), (37, .tuple #[(Rows.val y1), v1])] ?_
     refine gn hK12 ?_
     refine ws fun K13 hK13 => ?_
     refine wr [(0, 0), (1, 1), (2, 0), (3, 0), (4, 0), (5, 2), (6, 2)] ?_
     refine gb0 [0] [(44, (Rows.val y1))] ?_
     refine ge_same (t := 44) (v := (Rows.val y1)) (v' := .slice y1.A r3.1.length y1.c) (by kernel_rfl) (congrArg (fun z => Value.slice y1.A z y1.c) (hS42.nestAt 0 rfl).n) ?_
     rcases hq6 : punctualref_One.f K r3.1 with _ | r4
     ·rw [hq6] at h; cases h
     rw [hq6] at h
     simp only [] at h
     refine ge_call (d := some 45) (f := 91) (args := #[.slice y1.A r3.1.length y1.c]) (by kernel_rfl) (punctualref_One_ok K r3.1 y1.hs y1.A y1.c _ (hS42.nestAt 0 rfl).rd (hS42.nestAt 0 rfl).cap (hS42.nestAt 0 rfl).nl _ hq6) ?_
     rintro _ w18 ⟨v2, rfl, hS43⟩
     refine ⟨_, rfl, hS43.below, ?_⟩
     have hS44 := hS42.call hS43
     refine gb0 [2] [(46, v1)] ?_
     obtain ⟨Z1, cz1, rfl⟩ := hS44.open 0 rfl
     obtain ⟨Z2, cz2, rfl⟩ := hS44.open 2 rfl
     refine gb0 [3, 4] [(48, .agg #[vI 0, vI 0]), (47, .agg #[(.slice Z1 r4.length cz1), (.slice Z2 r3.2.length cz2)])] ?_
     have hS45 := hS44.bring 6 rfl
     refine gs b3 0 #[.slice none 0 0, .slice none 0 0] 36 [(.slice Z1 r4.length cz1), (.slice Z2 r3.2.length cz2)] hS45 fun w19 hS46 => ?_
     have hS47 : St w0 w19 [Own.blk b3 (.cells #[(.slice Z1 r4.length cz1), (.slice Z2 r3.2.length cz2)] 36 (0, 0)), Own.of (.slice Z1 r4.length cz1) 3 r4, Own.nest y1 24 3 r3.1, Own.of (.slice Z2 r3.2.length cz2) 3 r3.2, Own.blk b6 (.cells #[vI r2.Code, vI r2.At] 39 (0, 0)), Own.blk b5 (.cells #[vI r1.Code, vI r1.At] 39 (0, 0)), Own.blk b4 (.cells #[vI 0, vI 0] 39 (0, 0)), Own.blk b2 (.cells #[.slice A2 l2.length c2] 48 (0, 0)), Own.blk b1 (.cells #[vI x1] 3 (0, 0))] := hS46
     have hS48 := hS47.bring 6 rfl
     refine gs b4 0 #[vI 0, vI 0] 39 [vI 0, vI 0] hS48 fun w20 hS49 => ?_
     have hS50 : St w0 w20 [Own.blk b4 (.cells #[vI 0, vI 0] 39 (0, 0)), Own.blk b3 (.cells #[(.slice Z1 r4.length cz1), (.slice Z2 r3.2.length cz2)] 36 (0, 0)), Own.of (.slice Z1 r4.length cz1) 3 r4, Own.nest y1 24 3 r3.1, Own.of (.slice Z2 r3.2.length cz2) 3 r3.2, Own.blk b6 (.cells #[vI r2.Code, vI r2.At] 39 (0, 0)), Own.blk b5 (.cells #[vI r1.Code, vI r1.At] 39 (0, 0)), Own.blk b2 (.cells #[.slice A2 l2.length c2] 48 (0, 0)), Own.blk b1 (.cells #[vI x1] 3 (0, 0))] := hS49
     refine gn hK13 ?_
     have hS51 := hS50.bring 4 rfl
     have hS52 := hS51.bring 3 rfl
     have hS53 := hS52.takeN 2
     obtain rfl := si h
     exact we_ret (pr [.cell 8 36, .cell 9 39] [.agg #[(.slice Z1 r4.length cz1), (.slice Z2 r3.2.length cz2)], .agg #[vI 0, vI 0]] [.loaded ⟨b3, 0, none⟩ ((.slice Z1 r4.length cz1)), .loaded ⟨b3, 1, none⟩ ((.slice Z2 r3.2.length cz2)), .loaded ⟨b4, 0, none⟩ (vI 0), .loaded ⟨b4, 1, none⟩ (vI 0)] ⟨hS50.c 1, hS50.c 1, hS50.c 0, hS50.c 0, trivial⟩ ⟨(.slice Z1 r4.length cz1), (.slice Z2 r3.2.length cz2), rfl, hS53⟩)
  ·rw [if_neg hc2] at h
   refine wk 26 (r2.Code != 0) true (bne_iff_ne.2 hc2) ?_
   refine we_true (by kernel_rfl) ?_
   refine ws fun K14 hK14 => ?_
   rcases hq7 : punctualref_HostedOf.p0 r2 with _ | (⟨z3, z4, m3, m4⟩ | rr1)
   ·rw [hq7] at h; cases h
   ·rw [hq7] at h
    simp only [] at h
    refine we_keep (e' := [(0, .slice A0 l0.length c0), (1, vI x1), (2, .slice A2 l2.length c2), (3, vI x3), (5, pP b1 0), (6, pP b2 0), (8, pP b3 0), (9, pP b4 0), (10, pP b5 0), (11, pP b6 0), (14, vI x1), (15, .slice A2 l2.length c2), (16, .agg #[vI r1.Code, vI r1.At]), (17, pP b5 0), (18, vI r1.Code), (19, .bool false), (22, .slice A0 l0.length c0), (23, .agg #[vI r2.Code, vI r2.At]), (24, pP b6 0), (25, vI r2.Code), (26, .bool true)]) ea (punctualref_HostedOf_p0 K w0 l0 A0 c0 x1 l2 A2 c2 x3 hR0 hL0 hR2 hL2 b1 b2 b3 b4 r1 b5 hc1 r2 b6 hc2 _ hq7 _ hS14 _ ?_)
    rintro _ a w23 ⟨rfl, v5, v6, hS68, hF⟩
    replace hS68 : St w0 w23 [Own.blk b4 (.cells #[vI z3, vI z4] 39 (0, 0)), Own.blk b3 (.cells #[v5, v6] 36 (0, 0)), Own.of v5 3 m3, Own.of v6 3 m4] := hS68
    refine hK14 [(8, pP b3 0), (9, pP b4 0)] w23 ?_ a hF
    have hS69 := hS68.bring 3 rfl
    have hS70 := hS69.bring 3 rfl
    have hS71 := hS70.takeN 2
    obtain rfl := si h
    exact we_ret (pr [.cell 8 36, .cell 9 39] [.agg #[v5, v6], .agg #[vI z3, vI z4]] [.loaded ⟨b3, 0, none⟩ (v5), .loaded ⟨b3, 1, none⟩ (v6), .loaded ⟨b4, 0, none⟩ (vI z3), .loaded ⟨b4, 1, none⟩ (vI z4)] ⟨hS68.c 1, hS68.c 1, hS68.c 0, hS68.c 0, trivial⟩ ⟨v5, v6, rfl, hS71⟩)
   ·rw [hq7] at h
    simp only [] at h
    refine we_keep (e' := [(0, .slice A0 l0.length c0), (1, vI x1), (2, .slice A2 l2.length c2), (3, vI x3), (5, pP b1 0), (6, pP b2 0), (8, pP b3 0), (9, pP b4 0), (10, pP b5 0), (11, pP b6 0), (14, vI x1), (15, .slice A2 l2.length c2), (16, .agg #[vI r1.Code, vI r1.At]), (17, pP b5 0), (18, vI r1.Code), (19, .bool false), (22, .slice A0 l0.length c0), (23, .agg #[vI r2.Code, vI r2.At]), (24, pP b6 0), (25, vI r2.Code), (26, .bool true)]) ea (punctualref_HostedOf_p0 K w0 l0 A0 c0 x1 l2 A2 c2 x3 hR0 hL0 hR2 hL2 b1 b2 b3 b4 r1 b5 hc1 r2 b6 hc2 _ hq7 _ hS14 _ ?_)
    rintro _ a w1 ⟨_, rfl, hb⟩
    obtain rfl := si h
    exact hb
 ·rw [if_neg hc1] at h
  refine wk 19 (r1.Code != 0) true (bne_iff_ne.2 hc1) ?_
  refine we_true (by kernel_rfl) ?_
  refine ws fun K15 hK15 => ?_
  rcases hq8 : punctualref_HostedOf.p1 r1 with _ | (⟨z7, z8, m7, m8⟩ | rr2)
  ·rw [hq8] at h; cases h
  ·rw [hq8] at h
   simp only [] at h
   refine we_keep (e' := [(0, .slice A0 l0.length c0), (1, vI x1), (2, .slice A2 l2.length c2), (3, vI x3), (5, pP b1 0), (6, pP b2 0), (8, pP b3 0), (9, pP b4 0), (10, pP b5 0), (14, vI x1), (15, .slice A2 l2.length c2), (16, .agg #[vI r1.Code, vI r1.At]), (17, pP b5 0), (18, vI r1.Code), (19, .bool true)]) ea (punctualref_HostedOf_p1 K w0 l0 A0 c0 x1 l2 A2 c2 x3 hR0 hL0 hR2 hL2 b1 b2 b3 b4 r1 b5 hc1 _ hq8 _ hS9 _ ?_)
   rintro _ a w26 ⟨rfl, v9, v10, hS86, hF⟩
   replace hS86 : St w0 w26 [Own.blk b4 (.cells #[vI z7, vI z8] 39 (0, 0)), Own.blk b3 (.cells #[v9, v10] 36 (0, 0)), Own.of v9 3 m7, Own.of v10 3 m8] := hS86
   refine hK15 [(8, pP b3 0), (9, pP b4 0)] w26 ?_ a hF
   have hS87 := hS86.bring 3 rfl
   have hS88 := hS87.bring 3 rfl
   have hS89 := hS88.takeN 2
   obtain rfl := si h
   exact we_ret (pr [.cell 8 36, .cell 9 39] [.agg #[v9, v10], .agg #[vI z7, vI z8]] [.loaded ⟨b3, 0, none⟩ (v9), .loaded ⟨b3, 1, none⟩ (v10), .loaded ⟨b4, 0, none⟩ (vI z7), .loaded ⟨b4, 1, none⟩ (vI z8)] ⟨hS86.c 1, hS86.c 1, hS86.c 0, hS86.c 0, trivial⟩ ⟨v9, v10, rfl, hS89⟩)
  ·rw [hq8] at h
   simp only [] at h
   refine we_keep (e' := [(0, .slice A0 l0.length c0), (1, vI x1), (2, .slice A2 l2.length c2), (3, vI x3), (5, pP b1 0), (6, pP b2 0), (8, pP b3 0), (9, pP b4 0), (10, pP b5 0), (14, vI x1), (15, .slice A2 l2.length c2), (16, .agg #[vI r1.Code, vI r1.At]), (17, pP b5 0), (18, vI r1.Code), (19, .bool true)]) ea (punctualref_HostedOf_p1 K w0 l0 A0 c0 x1 l2 A2 c2 x3 hR0 hL0 hR2 hL2 b1 b2 b3 b4 r1 b5 hc1 _ hq8 _ hS9 _ ?_)
   rintro _ a w1 ⟨_, rfl, hb⟩
   obtain rfl := si h
   exact hb

/-! punctual/sched.Check -/
abbrev sched_Check.Post (w0 : World) (r : SFault) (e : Ending) (w : World) : Prop := e = .returned (.agg #[vI r.Code, vI r.At]) ∧ St w0 w []
def sched_Check.r0 (l0 : List SJob) : Nat → Option (Nat ⊕ (Unit ⊕ SFault))
 | i1 =>
  if (i1 : Int) < (l0.length : Int) then
   match l0[i1]? with
   | none => none
   | some e1 =>
    if e1.At < 0 then
     some (.inr (.inr (⟨3, (i1 : Int)⟩ : SFault)))
    else
     if e1.At > 60000 then
      some (.inr (.inr (⟨3, (i1 : Int)⟩ : SFault)))
     else
      if e1.C < 1 then
       some (.inr (.inr (⟨3, (i1 : Int)⟩ : SFault)))
      else
       if e1.C > 10000 then
        some (.inr (.inr (⟨3, (i1 : Int)⟩ : SFault)))
       else
        if e1.Due < 0 then
         some (.inr (.inr (⟨3, (i1 : Int)⟩ : SFault)))
        else
         if e1.Due > 80000 then
          some (.inr (.inr (⟨3, (i1 : Int)⟩ : SFault)))
         else
          some (.inl (i1 + 1))
  else
   some (.inr (.inl ()))
def sched_Check.f (K : Nat) (l0 : List SJob) : Option SFault :=
 if (l0.length : Int) > 4000 then
  some (⟨2, 0⟩ : SFault)
 else
  match iter (sched_Check.r0 l0) K 0 with
  | none => none
  | some (.inl _) =>
   some (⟨0, 0⟩ : SFault)
  | some (.inr rr1) =>
   some rr1
abbrev sched_Check.A0 (w0 : World) (l0 : List SJob) (A0 : Option Addr) (c0 : Nat) (b1 : Nat) : Nat → Act → World → Prop := fun (s : Nat) a w => St w0 w [Own.blk b1 (.cells #[vI 0, vI 0] 39 (0, 0))] ∧ Frm 48 a [(2, pP b1 0), (9, .slice A0 l0.length c0), (10, vI (l0.length : Int)), (11, vI (s : Int))]
abbrev sched_Check.B0 (w0 : World) (b1 : Nat) : (Unit ⊕ SFault) → Exit → Act → World → Prop := Exits 0 (fun (s : Unit) a w => St w0 w [Own.blk b1 (.cells #[vI 0, vI 0] 39 (0, 0))] ∧ Frm 48 a [(2, pP b1 0)]) (Rets Tryd.prog Tryd.f129 (sched_Check.Post w0))
theorem sched_Check_r0 (K : Nat) (w0 : World) (l0 : List SJob) (A0 : Option Addr) (c0 : Nat) (hR0 : RdL w0 A0 l0) (hL0 : l0.length ≤ c0) (b1 : Nat) (hc1 : ¬ ((l0.length : Int) > 4000)) (s : Nat) (o : Nat ⊕ (Unit ⊕ SFault)) (h : sched_Check.r0 l0 s = some o) (a : Act) (w : World) (hA : sched_Check.A0 w0 l0 A0 c0 b1 s a w) (Q : Exit → Act → World → Prop) (hQ : ∀ x a w, Outs (sched_Check.A0 w0 l0 A0 c0 b1) (sched_Check.B0 w0 b1) o x a w → Q x a w) : (subF Tryd.f129 [1, 1, 0, 1, 0, 0]).wp Tryd.prog Q a w := by
 obtain ⟨i1, hs⟩ : ∃ z, z = s := ⟨s, rfl⟩
 subst hs
 obtain ⟨hS, hF⟩ := hA
 replace hS : St w0 w [Own.blk b1 (.cells #[vI 0, vI 0] 39 (0, 0))] := hS
 simp only [sched_Check.r0] at h
 refine (?_ : WE Tryd.prog 48 (subF Tryd.f129 [1, 1, 0, 1, 0, 0]) Q [(2, pP b1 0), (9, .slice A0 l0.length c0), (10, vI (l0.length : Int)), (11, vI (i1 : Int))] w) a hF
 clear hF a
 refine ws fun K7 hK7 => ?_
 refine wr [(0, 0)] ?_
 refine gb0 [0] [(12, .bool (decide ((i1 : Int) < (l0.length : Int))))] ?_
 refine gn hK7 ?_
 refine ws fun K8 hK8 => ?_
 by_cases hc2 : (i1 : Int) < (l0.length : Int)
 ·rw [if_pos hc2] at h
  refine wk 12 (decide ((i1 : Int) < (l0.length : Int))) true (decide_eq_true hc2) ?_
  refine we_true (by kernel_rfl) ?_
  refine we_skip fun a hF => hK8 _ _ ?_ a hF
  refine ws fun K9 hK9 => ?_
  refine we_block ?_
  refine ws fun K10 hK10 => ?_
  refine wr [(0, 0), (1, 0), (2, 0), (3, 1), (4, 0), (5, 2)] ?_
  refine gb0 [0] [(13, vI (i1 : Int))] ?_
  rcases hx2 : l0[i1]? with _ | e1
  ·rw [hx2] at h; cases h
  rw [hx2] at h
  simp only [] at h
  refine gi 14 0 49 58 5 l0.length c0 (.tmp 9) (.tmp 11) A0 .i64 (i1 : Int) i1 ((hS.rd hR0).eqSome (pos_of_get hx2)) rfl (lt_of_get hx2) ?_
  refine gb [2] [(15, .agg #[vI e1.Task, vI e1.At, vI e1.C, vI e1.Due, vI e1.P])] [.loaded ⟨blkOf A0, offOf A0 + i1 * 5, none⟩ (vI e1.Task), .loaded ⟨blkOf A0, offOf A0 + i1 * 5 + 1, none⟩ (vI e1.At), .loaded ⟨blkOf A0, offOf A0 + i1 * 5 + 2, none⟩ (vI e1.C), .loaded ⟨blkOf A0, offOf A0 + i1 * 5 + 3, none⟩ (vI e1.Due), .loaded ⟨blkOf A0, offOf A0 + i1 * 5 + 4, none⟩ (vI e1.P)] ⟨RdL.cell (j := 0) (hS.rd hR0) hx2 rfl, RdL.cell (j := 1) (hS.rd hR0) hx2 rfl, RdL.cell (j := 2) (hS.rd hR0) hx2 rfl, RdL.cell (j := 3) (hS.rd hR0) hx2 rfl, RdL.cell (j := 4) (hS.rd hR0) hx2 rfl, trivial⟩ ?_
  refine gw (some 4) (.cells #[vI 0, vI 0, vI 0, vI 0, vI 0] 58) (fun b => pP b 0) hS fun b2 w3 hx3 hS5 => ?_
  refine gb0 [4] [(3, vI (i1 : Int))] ?_
  refine gs b2 0 #[vI 0, vI 0, vI 0, vI 0, vI 0] 58 [vI e1.Task, vI e1.At, vI e1.C, vI e1.Due, vI e1.P] hS5 fun w4 hS6 => ?_
  have hS7 : St w0 w4 [Own.blk b2 (.cells #[vI e1.Task, vI e1.At, vI e1.C, vI e1.Due, vI e1.P] 58 (0, 0)), Own.blk b1 (.cells #[vI 0, vI 0] 39 (0, 0))] := hS6
  refine gn hK10 ?_
  refine ws fun K11 hK11 => ?_
  refine wr [(0, 0), (1, 0), (2, 0), (3, 0), (4, 0), (5, 0), (6, 0), (7, 0), (8, 0), (9, 0), (10, 0), (11, 0), (12, 0), (13, 0), (14, 0), (15, 0), (16, 0), (17, 0), (18, 0), (19, 0), (20, 0), (21, 0), (22, 0), (23, 0), (24, 0), (25, 0), (26, 0), (27, 0)] ?_
  refine gb [0, 1, 2, 3] [(19, .bool (decide (e1.At < 0))), (18, .bool (decide (e1.At < 0))), (17, vI e1.At), (16, pP b2 1)] [.loaded ⟨b2, 1, none⟩ (vI e1.At)] ⟨hS7.c 0, trivial⟩ ?_
  by_cases hc3 : e1.At < 0
  ·rw [if_pos hc3] at h
   refine gk 19 (decide (e1.At < 0)) true (decide_eq_true hc3) ?_
   refine gb0 [4, 5, 6, 7, 8, 9, 10, 11, 12, 13, 14, 15, 16, 17, 18, 19, 20, 21, 22, 23, 24, 25, 26, 27] [(43, .bool true), (42, undef), (41, undef), (40, undef), (39, .bool true), (38, .bool true), (37, undef), (36, undef), (35, undef), (34, .bool true), (33, .bool true), (32, undef), (31, undef), (30, undef), (29, .bool true), (28, .bool true), (27, undef), (26, undef), (25, undef), (24, .bool true), (23, .bool true), (22, undef), (21, undef), (20, undef)] ?_
   refine gn hK11 ?_
   refine we_true (by kernel_rfl) ?_
   refine ws fun K12 hK12 => ?_
   refine wr [(0, 0), (1, 0), (2, 2)] ?_
   refine gb0 [0, 1] [(45, .agg #[vI 3, vI (i1 : Int)]), (44, vI (i1 : Int))] ?_
   have hS8 := hS7.bring 1 rfl
   refine gs b1 0 #[vI 0, vI 0] 39 [vI 3, vI (i1 : Int)] hS8 fun w5 hS9 => ?_
   have hS10 : St w0 w5 [Own.blk b1 (.cells #[vI 3, vI (i1 : Int)] 39 (0, 0)), Own.blk b2 (.cells #[vI e1.Task, vI e1.At, vI e1.C, vI e1.Due, vI e1.P] 58 (0, 0))] := hS9
   refine gn hK12 ?_
   have hS11 := hS10.takeN 0
   obtain rfl := si h
   exact we_ret fun a hF => hQ _ _ _ (Outs.out nofun (Exits.on ⟨rfl, (pr [.cell 2 39] [.agg #[vI 3, vI (i1 : Int)]] [.loaded ⟨b1, 0, none⟩ (vI 3), .loaded ⟨b1, 1, none⟩ (vI (i1 : Int))] ⟨hS10.c 0, hS10.c 0, trivial⟩ ⟨rfl, hS11⟩) a hF⟩))
  ·rw [if_neg hc3] at h
   refine gk 19 (decide (e1.At < 0)) false (decide_eq_false hc3) ?_
   refine gb [4, 5, 6, 7, 8] [(24, .bool (decide (e1.At > 60000))), (23, .bool (decide (e1.At > 60000))), (22, .bool (decide (e1.At > 60000))), (21, vI e1.At), (20, pP b2 1)] [.loaded ⟨b2, 1, none⟩ (vI e1.At)] ⟨hS7.c 0, trivial⟩ ?_
   by_cases hc4 : e1.At > 60000
   ·rw [if_pos hc4] at h
    refine gk 24 (decide (e1.At > 60000)) true (decide_eq_true hc4) ?_
    refine gb0 [9, 10, 11, 12, 13, 14, 15, 16, 17, 18, 19, 20, 21, 22, 23, 24, 25, 26, 27] [(43, .bool true), (42, undef), (41, undef), (40, undef), (39, .bool true), (38, .bool true), (37, undef), (36, undef), (35, undef), (34, .bool true), (33, .bool true), (32, undef), (31, undef), (30, undef), (29, .bool true), (28, .bool true), (27, undef), (26, undef), (25, undef)] ?_
    refine gn hK11 ?_
    refine we_true (by kernel_rfl) ?_
    refine ws fun K13 hK13 => ?_
    refine wr [(0, 0), (1, 0), (2, 2)] ?_
    refine gb0 [0, 1] [(45, .agg #[vI 3, vI (i1 : Int)]), (44, vI (i1 : Int))] ?_
    have hS12 := hS7.bring 1 rfl
    refine gs b1 0 #[vI 0, vI 0] 39 [vI 3, vI (i1 : Int)] hS12 fun w6 hS13 => ?_
    have hS14 : St w0 w6 [Own.blk b1 (.cells #[vI 3, vI (i1 : Int)] 39 (0, 0)), Own.blk b2 (.cells #[vI e1.Task, vI e1.At, vI e1.C, vI e1.Due, vI e1.P] 58 (0, 0))] := hS13
    refine gn hK13 ?_
    have hS15 := hS14.takeN 0
    obtain rfl := si h
    exact we_ret fun a hF => hQ _ _ _ (Outs.out nofun (Exits.on ⟨rfl, (pr [.cell 2 39] [.agg #[vI 3, vI (i1 : Int)]] [.loaded ⟨b1, 0, none⟩ (vI 3), .loaded ⟨b1, 1, none⟩ (vI (i1 : Int))] ⟨hS14.c 0, hS14.c 0, trivial⟩ ⟨rfl, hS15⟩) a hF⟩))
   ·rw [if_neg hc4] at h
    refine gk 24 (decide (e1.At > 60000)) false (decide_eq_false hc4) ?_
    refine gb [9, 10, 11, 12, 13] [(29, .bool (decide (e1.C < 1))), (28, .bool (decide (e1.C < 1))), (27, .bool (decide (e1.C < 1))), (26, vI e1.C), (25, pP b2 2)] [.loaded ⟨b2, 2, none⟩ (vI e1.C)] ⟨hS7.c 0, trivial⟩ ?_
    by_cases hc5 : e1.C < 1
    ·rw [if_pos hc5] at h
     refine gk 29 (decide (e1.C < 1)) true (decide_eq_true hc5) ?_
     refine gb0 [14, 15, 16, 17, 18, 19, 20, 21, 22, 23, 24, 25, 26, 27] [(43, .bool true), (42, undef), (41, undef), (40, undef), (39, .bool true), (38, .bool true), (37, undef), (36, undef), (35, undef), (34, .bool true), (33, .bool true), (32, undef), (31, undef), (30, undef)] ?_
     refine gn hK11 ?_
     refine we_true (by kernel_rfl) ?_
     refine ws fun K14 hK14 => ?_
     refine wr [(0, 0), (1, 0), (2, 2)] ?_
     refine gb0 [0, 1] [(45, .agg #[vI 3, vI (i1 : Int)]), (44, vI (i1 : Int))] ?_
     have hS16 := hS7.bring 1 rfl
     refine gs b1 0 #[vI 0, vI 0] 39 [vI 3, vI (i1 : Int)] hS16 fun w7 hS17 => ?_
     have hS18 : St w0 w7 [Own.blk b1 (.cells #[vI 3, vI (i1 : Int)] 39 (0, 0)), Own.blk b2 (.cells #[vI e1.Task, vI e1.At, vI e1.C, vI e1.Due, vI e1.P] 58 (0, 0))] := hS17
     refine gn hK14 ?_
     have hS19 := hS18.takeN 0
     obtain rfl := si h
     exact we_ret fun a hF => hQ _ _ _ (Outs.out nofun (Exits.on ⟨rfl, (pr [.cell 2 39] [.agg #[vI 3, vI (i1 : Int)]] [.loaded ⟨b1, 0, none⟩ (vI 3), .loaded ⟨b1, 1, none⟩ (vI (i1 : Int))] ⟨hS18.c 0, hS18.c 0, trivial⟩ ⟨rfl, hS19⟩) a hF⟩))
    ·rw [if_neg hc5] at h
     refine gk 29 (decide (e1.C < 1)) false (decide_eq_false hc5) ?_
     refine gb [14, 15, 16, 17, 18] [(34, .bool (decide (e1.C > 10000))), (33, .bool (decide (e1.C > 10000))), (32, .bool (decide (e1.C > 10000))), (31, vI e1.C), (30, pP b2 2)] [.loaded ⟨b2, 2, none⟩ (vI e1.C)] ⟨hS7.c 0, trivial⟩ ?_
     by_cases hc6 : e1.C > 10000
     ·rw [if_pos hc6] at h
      refine gk 34 (decide (e1.C > 10000)) true (decide_eq_true hc6) ?_
      refine gb0 [19, 20, 21, 22, 23, 24, 25, 26, 27] [(43, .bool true), (42, undef), (41, undef), (40, undef), (39, .bool true), (38, .bool true), (37, undef), (36, undef), (35, undef)] ?_
      refine gn hK11 ?_
      refine we_true (by kernel_rfl) ?_
      refine ws fun K15 hK15 => ?_
      refine wr [(0, 0), (1, 0), (2, 2)] ?_
      refine gb0 [0, 1] [(45, .agg #[vI 3, vI (i1 : Int)]), (44, vI (i1 : Int))] ?_
      have hS20 := hS7.bring 1 rfl
      refine gs b1 0 #[vI 0, vI 0] 39 [vI 3, vI (i1 : Int)] hS20 fun w8 hS21 => ?_
      have hS22 : St w0 w8 [Own.blk b1 (.cells #[vI 3, vI (i1 : Int)] 39 (0, 0)), Own.blk b2 (.cells #[vI e1.Task, vI e1.At, vI e1.C, vI e1.Due, vI e1.P] 58 (0, 0))] := hS21
      refine gn hK15 ?_
      have hS23 := hS22.takeN 0
      obtain rfl := si h
      exact we_ret fun a hF => hQ _ _ _ (Outs.out nofun (Exits.on ⟨rfl, (pr [.cell 2 39] [.agg #[vI 3, vI (i1 : Int)]] [.loaded ⟨b1, 0, none⟩ (vI 3), .loaded ⟨b1, 1, none⟩ (vI (i1 : Int))] ⟨hS22.c 0, hS22.c 0, trivial⟩ ⟨rfl, hS23⟩) a hF⟩))
     ·rw [if_neg hc6] at h
      refine gk 34 (decide (e1.C > 10000)) false (decide_eq_false hc6) ?_
      refine gb [19, 20, 21, 22, 23] [(39, .bool (decide (e1.Due < 0))), (38, .bool (decide (e1.Due < 0))), (37, .bool (decide (e1.Due < 0))), (36, vI e1.Due), (35, pP b2 3)] [.loaded ⟨b2, 3, none⟩ (vI e1.Due)] ⟨hS7.c 0, trivial⟩ ?_
      by_cases hc7 : e1.Due < 0
      ·rw [if_pos hc7] at h
       refine gk 39 (decide (e1.Due < 0)) true (decide_eq_true hc7) ?_
       refine gb0 [24, 25, 26, 27] [(43, .bool true), (42, undef), (41, undef), (40, undef)] ?_
       refine gn hK11 ?_
       refine we_true (by kernel_rfl) ?_
       refine ws fun K16 hK16 => ?_
       refine wr [(0, 0), (1, 0), (2, 2)] ?_
       refine gb0 [0, 1] [(45, .agg #[vI 3, vI (i1 : Int)]), (44, vI (i1 : Int))] ?_
       have hS24 := hS7.bring 1 rfl
       refine gs b1 0 #[vI 0, vI 0] 39 [vI 3, vI (i1 : Int)] hS24 fun w9 hS25 => ?_
       have hS26 : St w0 w9 [Own.blk b1 (.cells #[vI 3, vI (i1 : Int)] 39 (0, 0)), Own.blk b2 (.cells #[vI e1.Task, vI e1.At, vI e1.C, vI e1.Due, vI e1.P] 58 (0, 0))] := hS25
       refine gn hK16 ?_
       have hS27 := hS26.takeN 0
       obtain rfl := si h
       exact we_ret fun a hF => hQ _ _ _ (Outs.out nofun (Exits.on ⟨rfl, (pr [.cell 2 39] [.agg #[vI 3, vI (i1 : Int)]] [.loaded ⟨b1, 0, none⟩ (vI 3), .loaded ⟨b1, 1, none⟩ (vI (i1 : Int))] ⟨hS26.c 0, hS26.c 0, trivial⟩ ⟨rfl, hS27⟩) a hF⟩))
      ·rw [if_neg hc7] at h
       refine gk 39 (decide (e1.Due < 0)) false (decide_eq_false hc7) ?_
       refine gb [24, 25, 26, 27] [(43, .bool (decide (e1.Due > 80000))), (42, .bool (decide (e1.Due > 80000))), (41, vI e1.Due), (40, pP b2 3)] [.loaded ⟨b2, 3, none⟩ (vI e1.Due)] ⟨hS7.c 0, trivial⟩ ?_
       refine gn hK11 ?_
       by_cases hc8 : e1.Due > 80000
       ·rw [if_pos hc8] at h
        refine wk 43 (decide (e1.Due > 80000)) true (decide_eq_true hc8) ?_
        refine we_true (by kernel_rfl) ?_
        refine ws fun K17 hK17 => ?_
        refine wr [(0, 0), (1, 0), (2, 2)] ?_
        refine gb0 [0, 1] [(45, .agg #[vI 3, vI (i1 : Int)]), (44, vI (i1 : Int))] ?_
        have hS28 := hS7.bring 1 rfl
        refine gs b1 0 #[vI 0, vI 0] 39 [vI 3, vI (i1 : Int)] hS28 fun w10 hS29 => ?_
        have hS30 : St w0 w10 [Own.blk b1 (.cells #[vI 3, vI (i1 : Int)] 39 (0, 0)), Own.blk b2 (.cells #[vI e1.Task, vI e1.At, vI e1.C, vI e1.Due, vI e1.P] 58 (0, 0))] := hS29
        refine gn hK17 ?_
        have hS31 := hS30.takeN 0
        obtain rfl := si h
        exact we_ret fun a hF => hQ _ _ _ (Outs.out nofun (Exits.on ⟨rfl, (pr [.cell 2 39] [.agg #[vI 3, vI (i1 : Int)]] [.loaded ⟨b1, 0, none⟩ (vI 3), .loaded ⟨b1, 1, none⟩ (vI (i1 : Int))] ⟨hS30.c 0, hS30.c 0, trivial⟩ ⟨rfl, hS31⟩) a hF⟩))
       ·rw [if_neg hc8] at h
        refine wk 43 (decide (e1.Due > 80000)) false (decide_eq_false hc8) ?_
        refine we_false (by kernel_rfl) ?_
        refine we_skip fun a hF => hK9 _ _ ?_ a hF
        refine wr [(0, 0), (1, 0)] ?_
        refine ge_addn (d := 46) (ty := 3) (x := (.tmp 11)) (y := (.const (vI 1))) (t := 3) (t2 := 3) (k := .i64) (m := i1) (by kernel_rfl) (by kernel_rfl) (by kernel_rfl) (by have h0 := hR0.small; omega) ?_
        refine gb0 [1] [(11, vI ((i1 + 1 : Nat) : Int))] ?_
        have hS32 := hS7.bring 1 rfl
        have hS33 := hS32.takeN 1
        obtain rfl := si h
        exact ge_nil fun a hF => hQ _ _ _ (Outs.again ⟨hS33, hF.weaken ea⟩)
 ·rw [if_neg hc2] at h
  refine wk 12 (decide ((i1 : Int) < (l0.length : Int))) false (decide_eq_false hc2) ?_
  refine we_false (by kernel_rfl) ?_
  obtain rfl := si h
  exact we_exit fun a hF => hQ _ _ _ (Outs.out nofun (Exits.here ⟨hS, hF.weaken ea⟩))
theorem sched_Check_ok (K : Nat) (l0 : List SJob) (A0 : Option Addr) (c0 : Nat) (w0 : World) (hR0 : RdL w0 A0 l0) (hL0 : l0.length ≤ c0) (r : SFault) (h : sched_Check.f K l0 = some r) :
  Calls Tryd.prog 129 #[.slice A0 l0.length c0] w0 (sched_Check.Post w0 r) := by
 have hS := St.start w0
 unfold sched_Check.f at h
 refine calls_enter (n := 48) (args := [.slice A0 l0.length c0]) (fn := Tryd.f129) rfl rfl rfl rfl ?_
 show WE _ _ _ _ [(0, .slice A0 l0.length c0)] _
 refine ws fun K1 hK1 => ?_
 refine wr [(0, 1)] ?_
 refine gw (some 2) (.cells #[vI 0, vI 0] 39) (fun b => pP b 0) hS fun b1 w1 hx1 hS1 => ?_
 refine gn hK1 ?_
 refine ws fun K2 hK2 => ?_
 refine ws fun K3 hK3 => ?_
 refine wr [(0, 0), (1, 0), (2, 0)] ?_
 refine gb0 [0, 1, 2] [(7, .bool (decide ((l0.length : Int) > 4000))), (6, vI (l0.length : Int)), (5, .slice A0 l0.length c0)] ?_
 refine gn hK3 ?_
 by_cases hc1 : (l0.length : Int) > 4000
 ·rw [if_pos hc1] at h
  refine wk 7 (decide ((l0.length : Int) > 4000)) true (decide_eq_true hc1) ?_
  refine we_true (by kernel_rfl) ?_
  refine ws fun K4 hK4 => ?_
  refine wr [(0, 0), (1, 2)] ?_
  refine gb0 [0] [(8, .agg #[vI 2, vI 0])] ?_
  refine gs b1 0 #[vI 0, vI 0] 39 [vI 2, vI 0] hS1 fun w2 hS2 => ?_
  have hS3 : St w0 w2 [Own.blk b1 (.cells #[vI 2, vI 0] 39 (0, 0))] := hS2
  refine gn hK4 ?_
  have hS4 := hS3.takeN 0
  obtain rfl := si h
  exact we_ret (pr [.cell 2 39] [.agg #[vI 2, vI 0]] [.loaded ⟨b1, 0, none⟩ (vI 2), .loaded ⟨b1, 1, none⟩ (vI 0)] ⟨hS3.c 0, hS3.c 0, trivial⟩ ⟨rfl, hS4⟩)
 ·rw [if_neg hc1] at h
  refine wk 7 (decide ((l0.length : Int) > 4000)) false (decide_eq_false hc1) ?_
  refine we_false (by kernel_rfl) ?_
  refine we_skip fun a hF => hK2 _ _ ?_ a hF
  refine ws fun K5 hK5 => ?_
  refine ws fun K6 hK6 => ?_
  refine wr [(0, 0), (1, 0), (2, 0)] ?_
  refine gb0 [0, 1, 2] [(11, vI 0), (10, vI (l0.length : Int)), (9, .slice A0 l0.length c0)] ?_
  refine gn hK6 ?_
  refine we_block ?_
  rcases hq1 : iter (sched_Check.r0 l0) K 0 with _ | (_ | rr1)
  ·rw [hq1] at h; cases h
  ·rw [hq1] at h
   simp only [] at h
   refine we_iter (A := sched_Check.A0 w0 l0 A0 c0 b1) (B := sched_Check.B0 w0 b1) hq1 (fun a hF => ⟨hS1, hF.weaken ea⟩) (fun s o hf a w hA Q hQ => sched_Check_r0 K w0 l0 A0 c0 hR0 hL0 b1 hc1 s o hf a w hA Q hQ) ?_
   rintro _ a w11 _ ⟨rfl, hS34, hF⟩
   replace hS34 : St w0 w11 [Own.blk b1 (.cells #[vI 0, vI 0] 39 (0, 0))] := hS34
   refine hK5 [(2, pP b1 0)] w11 ?_ a hF
   refine ws fun K18 hK18 => ?_
   refine wr [(0, 0), (1, 2)] ?_
   refine gb0 [0] [(47, .agg #[vI 0, vI 0])] ?_
   refine gs b1 0 #[vI 0, vI 0] 39 [vI 0, vI 0] hS34 fun w12 hS35 => ?_
   have hS36 : St w0 w12 [Own.blk b1 (.cells #[vI 0, vI 0] 39 (0, 0))] := hS35
   refine gn hK18 ?_
   have hS37 := hS36.takeN 0
   obtain rfl := si h
   exact we_ret (pr [.cell 2 39] [.agg #[vI 0, vI 0]] [.loaded ⟨b1, 0, none⟩ (vI 0), .loaded ⟨b1, 1, none⟩ (vI 0)] ⟨hS36.c 0, hS36.c 0, trivial⟩ ⟨rfl, hS37⟩)
  ·rw [hq1] at h
   simp only [] at h
   refine we_iter (A := sched_Check.A0 w0 l0 A0 c0 b1) (B := sched_Check.B0 w0 b1) hq1 (fun a hF => ⟨hS1, hF.weaken ea⟩) (fun s o hf a w hA Q hQ => sched_Check_r0 K w0 l0 A0 c0 hR0 hL0 b1 hc1 s o hf a w hA Q hQ) ?_
   rintro _ a w1 _ ⟨rfl, hb⟩
   obtain rfl := si h
   exact hb

/-! punctual/modes.Hosted$1 -/
abbrev modes_Hosted_1.Post (w0 : World) (r : Bool) (e : Ending) (w : World) : Prop := e = .returned (.bool r) ∧ St w0 w []
def modes_Hosted_1.f (K : Nat) (x0 : Int) (xf_0 : Int) (lf_1 : List SWindow) : Option Bool :=
 match modes_Open.f K xf_0 lf_1 x0 with
 | none => none
 | some r1 =>
  some r1
theorem modes_Hosted_1_ok (K : Nat) (x0 : Int) (bf_0 : Nat) (xf_0 : Int) (bf_1 : Nat) (lf_1 : List SWindow) (Af_1 : Option Addr) (cf_1 : Nat) (w0 : World) (hBf_0 : Glob w0 bf_0 [vI xf_0]) (hRf_1 : RdL w0 Af_1 lf_1) (hLf_1 : lf_1.length ≤ cf_1) (hBf_1 : Glob w0 bf_1 [.slice Af_1 lf_1.length cf_1]) (r : Bool) (h : modes_Hosted_1.f K x0 xf_0 lf_1 = some r) :
  Calls Tryd.prog 93 #[vI x0, pP bf_0 0, pP bf_1 0] w0 (modes_Hosted_1.Post w0 r) := by
 have hS := St.start w0
 unfold modes_Hosted_1.f at h
 refine calls_enter (n := 9) (args := [vI x0, pP bf_0 0, pP bf_1 0]) (fn := Tryd.f93) rfl rfl rfl rfl ?_
 show WE _ _ _ _ [(0, vI x0), (1, pP bf_0 0), (2, pP bf_1 0)] _
 refine ws fun K1 hK1 => ?_
 refine wr [(0, 0)] ?_
 refine gb0 [0] [(4, .bool false)] ?_
 refine gn hK1 ?_
 refine ws fun K2 hK2 => ?_
 refine wr [(0, 0), (1, 0), (2, 0), (3, 1), (4, 0)] ?_
 rcases hq1 : modes_Open.f K xf_0 lf_1 x0 with _ | r1
 ·rw [hq1] at h; cases h
 rw [hq1] at h
 simp only [] at h
 refine gb [0, 1, 2] [(7, vI x0), (6, .slice Af_1 lf_1.length cf_1), (5, vI xf_0)] [.loaded ⟨bf_0, 0, none⟩ (vI xf_0), .loaded ⟨bf_1, 0, none⟩ (.slice Af_1 lf_1.length cf_1)] ⟨hS.glob hBf_0 rfl, hS.glob hBf_1 rfl, trivial⟩ ?_
 refine ge_call (d := some 8) (f := 78) (args := #[vI xf_0, .slice Af_1 lf_1.length cf_1, vI x0]) (by kernel_rfl) (modes_Open_ok K xf_0 lf_1 Af_1 cf_1 x0 _ (hS.rd hRf_1) hLf_1 _ hq1) ?_
 rintro _ w1 ⟨rfl, hS1⟩
 refine ⟨_, rfl, hS1.below, ?_⟩
 have hS2 := hS.call hS1
 refine gb0 [4] [(4, .bool r1)] ?_
 refine gn hK2 ?_
 obtain rfl := si h
 exact we_ret (pr0 [.tmp 4] [.bool r1] ⟨rfl, hS2⟩)

/-! punctual/modes.hosted$1 -/
abbrev modes_hosted_1.Post (w0 : World) (r : Bool) (e : Ending) (w : World) : Prop := e = .returned (.bool r) ∧ St w0 w []
def modes_hosted_1.f (x0 : Int) (lf_0 : List SJob) (xf_1 : Int) (lf_2 : List Int) : Option Bool :=
 if 0 ≤ x0 then
  match lf_0[(x0).toNat]? with
  | none => none
  | some e1 =>
   if e1.At ≤ xf_1 then
    match lf_2[(x0).toNat]? with
    | none => none
    | some e2 =>
     some (decide (e2 > 0))
   else
    some false
 else
  none
theorem modes_hosted_1_ok (x0 : Int) (bf_0 : Nat) (lf_0 : List SJob) (Af_0 : Option Addr) (cf_0 : Nat) (bf_1 : Nat) (xf_1 : Int) (bf_2 : Nat) (lf_2 : List Int) (Af_2 : Option Addr) (cf_2 : Nat) (w0 : World) (hRf_0 : RdL w0 Af_0 lf_0) (hLf_0 : lf_0.length ≤ cf_0) (hBf_0 : Glob w0 bf_0 [.slice Af_0 lf_0.length cf_0]) (hBf_1 : Glob w0 bf_1 [vI xf_1]) (hRf_2 : RdL w0 Af_2 lf_2) (hLf_2 : lf_2.length ≤ cf_2) (hBf_2 : Glob w0 bf_2 [.slice Af_2 lf_2.length cf_2]) (r : Bool) (h : modes_hosted_1.f x0 lf_0 xf_1 lf_2 = some r) :
  Calls Tryd.prog 141 #[vI x0, pP bf_0 0, pP bf_1 0, pP bf_2 0] w0 (modes_hosted_1.Post w0 r) := by
 have hS := St.start w0
 unfold modes_hosted_1.f at h
 refine calls_enter (n := 20) (args := [vI x0, pP bf_0 0, pP bf_1 0, pP bf_2 0]) (fn := Tryd.f141) rfl rfl rfl rfl ?_
 show WE _ _ _ _ [(0, vI x0), (1, pP bf_0 0), (2, pP bf_1 0), (3, pP bf_2 0)] _
 refine ws fun K1 hK1 => ?_
 refine wr [(0, 0)] ?_
 refine gb0 [0] [(5, .bool false)] ?_
 refine gn hK1 ?_
 refine ws fun K2 hK2 => ?_
 refine we_draws (by kernel_rfl) [(0, 0), (1, 0), (2, 0), (3, 0), (4, 0), (5, 0), (6, 0), (7, 0), (8, 0), (9, 0), (10, 0), (11, 0), (12, 0), (13, 0), (14, 0)] (by kernel_rfl) ?_
 have hS1 := hS.drew
 refine gb [0, 1] [(7, vI x0), (6, .slice Af_0 lf_0.length cf_0)] [.loaded ⟨bf_0, 0, none⟩ (.slice Af_0 lf_0.length cf_0)] ⟨hS1.glob hBf_0 rfl, trivial⟩ ?_
 by_cases hc1 : 0 ≤ x0
 ·rw [if_pos hc1] at h
  rcases hx1 : lf_0[(x0).toNat]? with _ | e1
  ·rw [hx1] at h; cases h
  rw [hx1] at h
  simp only [] at h
  refine gi 8 0 49 58 5 lf_0.length cf_0 (.tmp 6) (.tmp 7) Af_0 .i64 x0 ((x0).toNat) ((hS1.rd hRf_0).eqSome (pos_of_get hx1)) (Int.toNat_of_nonneg hc1).symm (lt_of_get hx1) ?_
  refine gb [3, 4, 5, 6, 7] [(13, .bool (decide (e1.At ≤ xf_1))), (12, .bool (decide (e1.At ≤ xf_1))), (11, vI xf_1), (10, vI e1.At), (9, .pointer (some ⟨blkOf Af_0, offOf Af_0 + (x0).toNat * 5 + 1, none⟩))] [.loaded ⟨blkOf Af_0, offOf Af_0 + ((x0).toNat) * 5 + 1, none⟩ (vI e1.At), .loaded ⟨bf_1, 0, none⟩ (vI xf_1)] ⟨RdL.cell (j := 1) (hS1.rd hRf_0) hx1 rfl, hS1.glob hBf_1 rfl, trivial⟩ ?_
  by_cases hc2 : e1.At ≤ xf_1
  ·rw [if_pos hc2] at h
   refine gk 13 (decide (e1.At ≤ xf_1)) true (decide_eq_true hc2) ?_
   refine gb [8, 9] [(15, vI x0), (14, .slice Af_2 lf_2.length cf_2)] [.loaded ⟨bf_2, 0, none⟩ (.slice Af_2 lf_2.length cf_2)] ⟨hS1.glob hBf_2 rfl, trivial⟩ ?_
   rcases hx2 : lf_2[(x0).toNat]? with _ | e2
   ·rw [hx2] at h; cases h
   rw [hx2] at h
   simp only [] at h
   refine gi 16 0 24 3 1 lf_2.length cf_2 (.tmp 14) (.tmp 15) Af_2 .i64 x0 ((x0).toNat) ((hS1.rd hRf_2).eqSome (pos_of_get hx2)) (Int.toNat_of_nonneg hc1).symm (lt_of_get hx2) ?_
   refine gb [11, 12, 13, 14] [(5, .bool (decide (e2 > 0))), (19, .bool (decide (e2 > 0))), (18, .bool (decide (e2 > 0))), (17, vI e2)] [.loaded ⟨blkOf Af_2, offOf Af_2 + ((x0).toNat) * 1, none⟩ (vI e2)] ⟨RdL.cell (j := 0) (hS1.rd hRf_2) hx2 rfl, trivial⟩ ?_
   refine gn hK2 ?_
   obtain rfl := si h
   exact we_ret (pr0 [.tmp 5] [.bool (decide (e2 > 0))] ⟨rfl, hS1⟩)
  ·rw [if_neg hc2] at h
   refine gk 13 (decide (e1.At ≤ xf_1)) false (decide_eq_false hc2) ?_
   refine gb0 [8, 9, 10, 11, 12, 13, 14] [(5, .bool false), (19, .bool false), (18, undef), (17, undef), (16, undef), (15, undef), (14, undef)] ?_
   refine gn hK2 ?_
   obtain rfl := si h
   exact we_ret (pr0 [.tmp 5] [.bool false] ⟨rfl, hS1⟩)
 ·rw [if_neg hc1] at h
  cases h

/-! punctual/sched.rule -/
abbrev sched_rule.Post (w0 : World) (r : Nat) (e : Ending) (w : World) : Prop := e = .returned (fnVal r) ∧ St w0 w []
def sched_rule.f (x0 : Int) : Nat :=
 if x0 = 1 then
  172
 else
  if x0 = 2 then
   173
  else
   0
theorem sched_rule_ok (x0 : Int) (w0 : World) (r : Nat) (h : sched_rule.f x0 = r) :
  Calls Tryd.prog 133 #[vI x0] w0 (sched_rule.Post w0 r) := by
 have hS := St.start w0
 unfold sched_rule.f at h
 refine calls_enter (n := 8) (args := [vI x0]) (fn := Tryd.f133) rfl rfl rfl rfl ?_
 show WE _ _ _ _ [(0, vI x0)] _
 refine ws fun K1 hK1 => ?_
 refine wr [(0, 0)] ?_
 refine gb0 [0] [(2, .nilFunc)] ?_
 refine gn hK1 ?_
 refine ws fun K2 hK2 => ?_
 refine ws fun K3 hK3 => ?_
 refine wr [(0, 0)] ?_
 refine gb0 [0] [(3, vI x0)] ?_
 refine gn hK3 ?_
 refine we_block ?_
 refine ws fun K4 hK4 => ?_
 refine wr [(0, 0), (1, 0)] ?_
 refine gb0 [0, 1] [(4, .bool (x0 == 1)), (5, .bool (x0 == 1))] ?_
 refine gn hK4 ?_
 by_cases hc1 : x0 = 1
 ·rw [if_pos hc1] at h
  refine wk 4 (x0 == 1) true (beq_iff_eq.2 hc1) ?_
  refine we_true (by kernel_rfl) ?_
  refine ws fun K5 hK5 => ?_
  refine wr [(0, 0)] ?_
  refine gb0 [0] [(2, .func (.func 171) #[] #[])] ?_
  refine gn hK5 ?_
  subst h
  exact we_ret (pr0 [.tmp 2] [.func (.func 171) #[] #[]] ⟨rfl, hS⟩)
 ·rw [if_neg hc1] at h
  refine wk 4 (x0 == 1) false (beq_eq_false_iff_ne.2 hc1) ?_
  refine we_false (by kernel_rfl) ?_
  refine ws fun K6 hK6 => ?_
  refine wr [(0, 0), (1, 0)] ?_
  refine gb0 [0, 1] [(6, .bool (x0 == 2)), (7, .bool (x0 == 2))] ?_
  refine gn hK6 ?_
  by_cases hc2 : x0 = 2
  ·rw [if_pos hc2] at h
   refine wk 6 (x0 == 2) true (beq_iff_eq.2 hc2) ?_
   refine we_true (by kernel_rfl) ?_
   refine ws fun K7 hK7 => ?_
   refine wr [(0, 0)] ?_
   refine gb0 [0] [(2, .func (.func 172) #[] #[])] ?_
   refine gn hK7 ?_
   subst h
   exact we_ret (pr0 [.tmp 2] [.func (.func 172) #[] #[]] ⟨rfl, hS⟩)
  ·rw [if_neg hc2] at h
   refine wk 6 (x0 == 2) false (beq_eq_false_iff_ne.2 hc2) ?_
   refine we_false (by kernel_rfl) ?_
   refine we_skip fun a hF => hK2 _ _ ?_ a hF
   refine ws fun K8 hK8 => ?_
   refine wr [(0, 0)] ?_
   refine gb0 [0] [(2, .nilFunc)] ?_
   refine gn hK8 ?_
   subst h
   exact we_ret (pr0 [.tmp 2] [.nilFunc] ⟨rfl, hS⟩)

/-! cmp.isNaN[int] -/
abbrev cmp_isNaN_int.Post (w0 : World) (r : Bool) (e : Ending) (w : World) : Prop := e = .returned (.bool r) ∧ St w0 w []
def cmp_isNaN_int.f (x0 : Int) : Bool :=
 false
theorem cmp_isNaN_int_ok (x0 : Int) (w0 : World) (r : Bool) (h : cmp_isNaN_int.f x0 = r) :
  Calls Tryd.prog 193 #[vI x0] w0 (cmp_isNaN_int.Post w0 r) := by
 have hS := St.start w0
 unfold cmp_isNaN_int.f at h
 refine calls_enter (n := 6) (args := [vI x0]) (fn := Tryd.f193) rfl rfl rfl rfl ?_
 show WE _ _ _ _ [(0, vI x0)] _
 refine ws fun K1 hK1 => ?_
 refine wr [(0, 0)] ?_
 refine gb0 [0] [(2, .bool false)] ?_
 refine gn hK1 ?_
 refine ws fun K2 hK2 => ?_
 refine wr [(0, 0), (1, 0), (2, 0), (3, 0)] ?_
 refine gb0 [0, 1, 2] [(5, .bool (x0 != x0)), (4, vI x0), (3, vI x0)] ?_
 refine gk 5 (x0 != x0) false (by simp) ?_
 refine gb0 [3] [(2, .bool false)] ?_
 refine gn hK2 ?_
 subst h
 exact we_ret (pr0 [.tmp 2] [.bool false] ⟨rfl, hS⟩)

/-! cmp.Compare[int] -/
abbrev cmp_Compare_int.Post (w0 : World) (r : Int) (e : Ending) (w : World) : Prop := e = .returned (vI r) ∧ St w0 w []
def cmp_Compare_int.f (x0 : Int) (x1 : Int) : Int :=
 if (cmp_isNaN_int.f x0) = true then
  if (cmp_isNaN_int.f x1) = true then
   0
  else
   (-1)
 else
  if (cmp_isNaN_int.f x1) = true then
   1
  else
   if x0 < x1 then
    (-1)
   else
    if x0 > x1 then
     1
    else
     0
theorem cmp_Compare_int_ok (x0 : Int) (x1 : Int) (w0 : World) (r : Int) (h : cmp_Compare_int.f x0 x1 = r) :
  Calls Tryd.prog 165 #[vI x0, vI x1] w0 (cmp_Compare_int.Post w0 r) := by
 have hS := St.start w0
 unfold cmp_Compare_int.f at h
 refine calls_enter (n := 20) (args := [vI x0, vI x1]) (fn := Tryd.f165) rfl rfl rfl rfl ?_
 show WE _ _ _ _ [(0, vI x0), (1, vI x1)] _
 refine ws fun K1 hK1 => ?_
 refine wr [(0, 0)] ?_
 refine gb0 [0] [(4, vI 0)] ?_
 refine gn hK1 ?_
 refine ws fun K2 hK2 => ?_
 refine wr [(0, 0), (1, 1), (2, 0)] ?_
 refine gb0 [0] [(7, vI x0)] ?_
 refine ge_call (d := some 8) (f := 193) (args := #[vI x0]) (by kernel_rfl) (cmp_isNaN_int_ok x0 _ _ rfl) ?_
 rintro _ w1 ⟨rfl, hS1⟩
 refine ⟨_, rfl, hS1.below, ?_⟩
 have hS2 := hS.call hS1
 refine gb0 [2] [(5, .bool (cmp_isNaN_int.f x0))] ?_
 refine gn hK2 ?_
 refine ws fun K3 hK3 => ?_
 refine wr [(0, 0), (1, 1), (2, 0)] ?_
 refine gb0 [0] [(9, vI x1)] ?_
 refine ge_call (d := some 10) (f := 193) (args := #[vI x1]) (by kernel_rfl) (cmp_isNaN_int_ok x1 _ _ rfl) ?_
 rintro _ w2 ⟨rfl, hS3⟩
 refine ⟨_, rfl, hS3.below, ?_⟩
 have hS4 := hS2.call hS3
 refine gb0 [2] [(6, .bool (cmp_isNaN_int.f x1))] ?_
 refine gn hK3 ?_
 refine ws fun K4 hK4 => ?_
 refine ws fun K5 hK5 => ?_
 refine wr [(0, 0)] ?_
 refine gb0 [0] [(11, .bool (cmp_isNaN_int.f x0))] ?_
 refine gn hK5 ?_
 by_cases hc1 : (cmp_isNaN_int.f x0) = true
 ·rw [if_pos hc1] at h
  refine wk 11 (cmp_isNaN_int.f x0) true hc1 ?_
  refine we_true (by kernel_rfl) ?_
  refine ws fun K6 hK6 => ?_
  refine ws fun K7 hK7 => ?_
  refine wr [(0, 0)] ?_
  refine gb0 [0] [(12, .bool (cmp_isNaN_int.f x1))] ?_
  refine gn hK7 ?_
  by_cases hc2 : (cmp_isNaN_int.f x1) = true
  ·rw [if_pos hc2] at h
   refine wk 12 (cmp_isNaN_int.f x1) true hc2 ?_
   refine we_true (by kernel_rfl) ?_
   refine ws fun K8 hK8 => ?_
   refine wr [(0, 0)] ?_
   refine gb0 [0] [(4, vI 0)] ?_
   refine gn hK8 ?_
   subst h
   exact we_ret (pr0 [.tmp 4] [vI 0] ⟨rfl, hS4⟩)
  ·rw [if_neg hc2] at h
   refine wk 12 (cmp_isNaN_int.f x1) false (Bool.eq_false_iff.2 hc2) ?_
   refine we_false (by kernel_rfl) ?_
   refine we_skip fun a hF => hK6 _ _ ?_ a hF
   refine ws fun K9 hK9 => ?_
   refine wr [(0, 0)] ?_
   refine gb0 [0] [(4, vI (-1))] ?_
   refine gn hK9 ?_
   subst h
   exact we_ret (pr0 [.tmp 4] [vI (-1)] ⟨rfl, hS4⟩)
 ·rw [if_neg hc1] at h
  refine wk 11 (cmp_isNaN_int.f x0) false (Bool.eq_false_iff.2 hc1) ?_
  refine we_false (by kernel_rfl) ?_
  refine we_skip fun a hF => hK4 _ _ ?_ a hF
  refine ws fun K10 hK10 => ?_
  refine ws fun K11 hK11 => ?_
  refine wr [(0, 0)] ?_
  refine gb0 [0] [(13, .bool (cmp_isNaN_int.f x1))] ?_
  refine gn hK11 ?_
  by_cases hc3 : (cmp_isNaN_int.f x1) = true
  ·rw [if_pos hc3] at h
   refine wk 13 (cmp_isNaN_int.f x1) true hc3 ?_
   refine we_true (by kernel_rfl) ?_
   refine ws fun K12 hK12 => ?_
   refine wr [(0, 0)] ?_
   refine gb0 [0] [(4, vI 1)] ?_
   refine gn hK12 ?_
   subst h
   exact we_ret (pr0 [.tmp 4] [vI 1] ⟨rfl, hS4⟩)
  ·rw [if_neg hc3] at h
   refine wk 13 (cmp_isNaN_int.f x1) false (Bool.eq_false_iff.2 hc3) ?_
   refine we_false (by kernel_rfl) ?_
   refine we_skip fun a hF => hK10 _ _ ?_ a hF
   refine ws fun K13 hK13 => ?_
   refine ws fun K14 hK14 => ?_
   refine wr [(0, 0), (1, 0), (2, 0)] ?_
   refine gb0 [0, 1, 2] [(16, .bool (decide (x0 < x1))), (15, vI x1), (14, vI x0)] ?_
   refine gn hK14 ?_
   by_cases hc4 : x0 < x1
   ·rw [if_pos hc4] at h
    refine wk 16 (decide (x0 < x1)) true (decide_eq_true hc4) ?_
    refine we_true (by kernel_rfl) ?_
    refine ws fun K15 hK15 => ?_
    refine wr [(0, 0)] ?_
    refine gb0 [0] [(4, vI (-1))] ?_
    refine gn hK15 ?_
    subst h
    exact we_ret (pr0 [.tmp 4] [vI (-1)] ⟨rfl, hS4⟩)
   ·rw [if_neg hc4] at h
    refine wk 16 (decide (x0 < x1)) false (decide_eq_false hc4) ?_
    refine we_false (by kernel_rfl) ?_
    refine we_skip fun a hF => hK13 _ _ ?_ a hF
    refine ws fun K16 hK16 => ?_
    refine ws fun K17 hK17 => ?_
    refine wr [(0, 0), (1, 0), (2, 0)] ?_
    refine gb0 [0, 1, 2] [(19, .bool (decide (x0 > x1))), (18, vI x1), (17, vI x0)] ?_
    refine gn hK17 ?_
    by_cases hc5 : x0 > x1
    ·rw [if_pos hc5] at h
     refine wk 19 (decide (x0 > x1)) true (decide_eq_true hc5) ?_
     refine we_true (by kernel_rfl) ?_
     refine ws fun K18 hK18 => ?_
     refine wr [(0, 0)] ?_
     refine gb0 [0] [(4, vI 1)] ?_
     refine gn hK18 ?_
     subst h
     exact we_ret (pr0 [.tmp 4] [vI 1] ⟨rfl, hS4⟩)
    ·rw [if_neg hc5] at h
     refine wk 19 (decide (x0 > x1)) false (decide_eq_false hc5) ?_
     refine we_false (by kernel_rfl) ?_
     refine we_skip fun a hF => hK16 _ _ ?_ a hF
     refine ws fun K19 hK19 => ?_
     refine wr [(0, 0)] ?_
     refine gb0 [0] [(4, vI 0)] ?_
     refine gn hK19 ?_
     subst h
     exact we_ret (pr0 [.tmp 4] [vI 0] ⟨rfl, hS4⟩)

/-! punctual/sched.byPriority -/
abbrev sched_byPriority.Post (w0 : World) (r : Int) (e : Ending) (w : World) : Prop := e = .returned (vI r) ∧ St w0 w []
def sched_byPriority.f (x0 : SJob) (x1 : SJob) : Int :=
 (cmp_Compare_int.f x1.P x0.P)
theorem sched_byPriority_ok (x0 : SJob) (x1 : SJob) (w0 : World) (r : Int) (h : sched_byPriority.f x0 x1 = r) :
  Calls Tryd.prog 171 #[.agg #[vI x0.Task, vI x0.At, vI x0.C, vI x0.Due, vI x0.P], .agg #[vI x1.Task, vI x1.At, vI x1.C, vI x1.Due, vI x1.P]] w0 (sched_byPriority.Post w0 r) := by
 have hS := St.start w0
 unfold sched_byPriority.f at h
 refine calls_enter (n := 10) (args := [.agg #[vI x0.Task, vI x0.At, vI x0.C, vI x0.Due, vI x0.P], .agg #[vI x1.Task, vI x1.At, vI x1.C, vI x1.Due, vI x1.P]]) (fn := Tryd.f171) rfl rfl rfl rfl ?_
 show WE _ _ _ _ [(0, .agg #[vI x0.Task, vI x0.At, vI x0.C, vI x0.Due, vI x0.P]), (1, .agg #[vI x1.Task, vI x1.At, vI x1.C, vI x1.Due, vI x1.P])] _
 refine ws fun K1 hK1 => ?_
 refine wr [(0, 1), (1, 1), (2, 0)] ?_
 refine gw (some 2) (.cells #[vI x0.Task, vI x0.At, vI x0.C, vI x0.Due, vI x0.P] 58) (fun b => pP b 0) hS fun b1 w1 hx1 hS1 => ?_
 refine gw (some 3) (.cells #[vI x1.Task, vI x1.At, vI x1.C, vI x1.Due, vI x1.P] 58) (fun b => pP b 0) hS1 fun b2 w2 hx2 hS2 => ?_
 refine gb0 [2] [(4, vI 0)] ?_
 refine gn hK1 ?_
 refine ws fun K2 hK2 => ?_
 refine wr [(0, 0), (1, 0), (2, 0), (3, 0), (4, 1), (5, 0)] ?_
 refine gb [0, 1, 2, 3] [(8, vI x0.P), (7, pP b1 4), (6, vI x1.P), (5, pP b2 4)] [.loaded ⟨b2, 4, none⟩ (vI x1.P), .loaded ⟨b1, 4, none⟩ (vI x0.P)] ⟨hS2.c 0, hS2.c 1, trivial⟩ ?_
 refine ge_call (d := some 9) (f := 165) (args := #[vI x1.P, vI x0.P]) (by kernel_rfl) (cmp_Compare_int_ok x1.P x0.P _ _ rfl) ?_
 rintro _ w3 ⟨rfl, hS3⟩
 refine ⟨_, rfl, hS3.below, ?_⟩
 have hS4 := hS2.call hS3
 refine gb0 [5] [(4, vI (cmp_Compare_int.f x1.P x0.P))] ?_
 refine gn hK2 ?_
 have hS5 := hS4.takeN 0
 subst h
 exact we_ret (pr0 [.tmp 4] [vI (cmp_Compare_int.f x1.P x0.P)] ⟨rfl, hS5⟩)

/-! cmp.Or[int] -/
abbrev cmp_Or_int.Post (w0 : World) (r : Int) (e : Ending) (w : World) : Prop := e = .returned (vI r) ∧ St w0 w []
def cmp_Or_int.r0 (l0 : List Int) : Nat → Option (Nat ⊕ (Unit ⊕ Int))
 | i1 =>
  if (i1 : Int) < (l0.length : Int) then
   match l0[i1]? with
   | none => none
   | some e1 =>
    if e1 = 0 then
     some (.inl (i1 + 1))
    else
     some (.inr (.inr e1))
  else
   some (.inr (.inl ()))
def cmp_Or_int.f (K : Nat) (l0 : List Int) : Option Int :=
 match iter (cmp_Or_int.r0 l0) K 0 with
 | none => none
 | some (.inl _) =>
  some 0
 | some (.inr rr1) =>
  some rr1
abbrev cmp_Or_int.A0 (w0 : World) (l0 : List Int) (A0 : Option Addr) (c0 : Nat) : Nat → Act → World → Prop := fun (s : Nat) a w => St w0 w [] ∧ Frm 18 a [(3, vI 0), (6, .slice A0 l0.length c0), (7, vI (l0.length : Int)), (8, vI (s : Int))]
abbrev cmp_Or_int.B0 (w0 : World) : (Unit ⊕ Int) → Exit → Act → World → Prop := Exits 0 (fun (s : Unit) a w => St w0 w [] ∧ Frm 18 a [(3, vI 0)]) (Rets Tryd.prog Tryd.f164 (cmp_Or_int.Post w0))
theorem cmp_Or_int_r0 (K : Nat) (w0 : World) (l0 : List Int) (A0 : Option Addr) (c0 : Nat) (hR0 : RdL w0 A0 l0) (hL0 : l0.length ≤ c0) (s : Nat) (o : Nat ⊕ (Unit ⊕ Int)) (h : cmp_Or_int.r0 l0 s = some o) (a : Act) (w : World) (hA : cmp_Or_int.A0 w0 l0 A0 c0 s a w) (Q : Exit → Act → World → Prop) (hQ : ∀ x a w, Outs (cmp_Or_int.A0 w0 l0 A0 c0) (cmp_Or_int.B0 w0) o x a w → Q x a w) : (subF Tryd.f164 [1, 1, 0, 1, 0, 0]).wp Tryd.prog Q a w := by
 obtain ⟨i1, hs⟩ : ∃ z, z = s := ⟨s, rfl⟩
 subst hs
 obtain ⟨hS, hF⟩ := hA
 replace hS : St w0 w [] := hS
 simp only [cmp_Or_int.r0] at h
 refine (?_ : WE Tryd.prog 18 (subF Tryd.f164 [1, 1, 0, 1, 0, 0]) Q [(3, vI 0), (6, .slice A0 l0.length c0), (7, vI (l0.length : Int)), (8, vI (i1 : Int))] w) a hF
 clear hF a
 refine ws fun K5 hK5 => ?_
 refine wr [(0, 0)] ?_
 refine gb0 [0] [(9, .bool (decide ((i1 : Int) < (l0.length : Int))))] ?_
 refine gn hK5 ?_
 refine ws fun K6 hK6 => ?_
 by_cases hc1 : (i1 : Int) < (l0.length : Int)
 ·rw [if_pos hc1] at h
  refine wk 9 (decide ((i1 : Int) < (l0.length : Int))) true (decide_eq_true hc1) ?_
  refine we_true (by kernel_rfl) ?_
  refine we_skip fun a hF => hK6 _ _ ?_ a hF
  refine ws fun K7 hK7 => ?_
  refine we_block ?_
  refine ws fun K8 hK8 => ?_
  refine wr [(0, 0), (1, 0), (2, 0)] ?_
  rcases hx1 : l0[i1]? with _ | e1
  ·rw [hx1] at h; cases h
  rw [hx1] at h
  simp only [] at h
  refine gi 10 0 24 3 1 l0.length c0 (.tmp 6) (.tmp 8) A0 .i64 (i1 : Int) i1 ((hS.rd hR0).eqSome (pos_of_get hx1)) rfl (lt_of_get hx1) ?_
  refine gb [1, 2] [(5, vI e1), (11, vI e1)] [.loaded ⟨blkOf A0, offOf A0 + i1 * 1, none⟩ (vI e1)] ⟨RdL.cell (j := 0) (hS.rd hR0) hx1 rfl, trivial⟩ ?_
  refine gn hK8 ?_
  refine ws fun K9 hK9 => ?_
  refine wr [(0, 0), (1, 0), (2, 0)] ?_
  refine gb0 [0, 1, 2] [(14, .bool (e1 != 0)), (13, vI 0), (12, vI e1)] ?_
  refine gn hK9 ?_
  by_cases hc2 : e1 = 0
  ·rw [if_pos hc2] at h
   refine wk 14 (e1 != 0) false (bne_eq_false_iff_eq.2 hc2) ?_
   refine we_false (by kernel_rfl) ?_
   refine we_skip fun a hF => hK7 _ _ ?_ a hF
   refine wr [(0, 0), (1, 0)] ?_
   refine ge_addn (d := 16) (ty := 3) (x := (.tmp 8)) (y := (.const (vI 1))) (t := 3) (t2 := 3) (k := .i64) (m := i1) (by kernel_rfl) (by kernel_rfl) (by kernel_rfl) (by have h0 := hR0.small; omega) ?_
   refine gb0 [1] [(8, vI ((i1 + 1 : Nat) : Int))] ?_
   obtain rfl := si h
   exact ge_nil fun a hF => hQ _ _ _ (Outs.again ⟨hS, hF.weaken ea⟩)
  ·rw [if_neg hc2] at h
   refine wk 14 (e1 != 0) true (bne_iff_ne.2 hc2) ?_
   refine we_true (by kernel_rfl) ?_
   refine ws fun K10 hK10 => ?_
   refine wr [(0, 0), (1, 0)] ?_
   refine gb0 [0, 1] [(2, vI e1), (15, vI e1)] ?_
   refine gn hK10 ?_
   obtain rfl := si h
   exact we_ret fun a hF => hQ _ _ _ (Outs.out nofun (Exits.on ⟨rfl, (pr0 [.tmp 2] [vI e1] ⟨rfl, hS⟩) a hF⟩))
 ·rw [if_neg hc1] at h
  refine wk 9 (decide ((i1 : Int) < (l0.length : Int))) false (decide_eq_false hc1) ?_
  refine we_false (by kernel_rfl) ?_
  obtain rfl := si h
  exact we_exit fun a hF => hQ _ _ _ (Outs.out nofun (Exits.here ⟨hS, hF.weaken ea⟩))
theorem cmp_Or_int_ok (K : Nat) (l0 : List Int) (A0 : Option Addr) (c0 : Nat) (w0 : World) (hR0 : RdL w0 A0 l0) (hL0 : l0.length ≤ c0) (r : Int) (h : cmp_Or_int.f K l0 = some r) :
  Calls Tryd.prog 164 #[.slice A0 l0.length c0] w0 (cmp_Or_int.Post w0 r) := by
 have hS := St.start w0
 unfold cmp_Or_int.f at h
 refine calls_enter (n := 18) (args := [.slice A0 l0.length c0]) (fn := Tryd.f164) rfl rfl rfl rfl ?_
 show WE _ _ _ _ [(0, .slice A0 l0.length c0)] _
 refine ws fun K1 hK1 => ?_
 refine wr [(0, 0)] ?_
 refine gb0 [0] [(2, vI 0)] ?_
 refine gn hK1 ?_
 refine ws fun K2 hK2 => ?_
 refine wr [(0, 0)] ?_
 refine gb0 [0] [(3, vI 0)] ?_
 refine gn hK2 ?_
 refine ws fun K3 hK3 => ?_
 refine ws fun K4 hK4 => ?_
 refine wr [(0, 0), (1, 0), (2, 0)] ?_
 refine gb0 [0, 1, 2] [(8, vI 0), (7, vI (l0.length : Int)), (6, .slice A0 l0.length c0)] ?_
 refine gn hK4 ?_
 refine we_block ?_
 rcases hq1 : iter (cmp_Or_int.r0 l0) K 0 with _ | (_ | rr1)
 ·rw [hq1] at h; cases h
 ·rw [hq1] at h
  simp only [] at h
  refine we_iter (A := cmp_Or_int.A0 w0 l0 A0 c0) (B := cmp_Or_int.B0 w0) hq1 (fun a hF => ⟨hS, hF.weaken ea⟩) (fun s o hf a w hA Q hQ => cmp_Or_int_r0 K w0 l0 A0 c0 hR0 hL0 s o hf a w hA Q hQ) ?_
  rintro _ a w1 _ ⟨rfl, hS1, hF⟩
  replace hS1 : St w0 w1 [] := hS1
  refine hK3 [(3, vI 0)] w1 ?_ a hF
  refine ws fun K11 hK11 => ?_
  refine wr [(0, 0), (1, 0)] ?_
  refine gb0 [0, 1] [(2, vI 0), (17, vI 0)] ?_
  refine gn hK11 ?_
  obtain rfl := si h
  exact we_ret (pr0 [.tmp 2] [vI 0] ⟨rfl, hS1⟩)
 ·rw [hq1] at h
  simp only [] at h
  refine we_iter (A := cmp_Or_int.A0 w0 l0 A0 c0) (B := cmp_Or_int.B0 w0) hq1 (fun a hF => ⟨hS, hF.weaken ea⟩) (fun s o hf a w hA Q hQ => cmp_Or_int_r0 K w0 l0 A0 c0 hR0 hL0 s o hf a w hA Q hQ) ?_
  rintro _ a w1 _ ⟨rfl, hb⟩
  obtain rfl := si h
  exact hb

/-! punctual/sched.byDue -/
abbrev sched_byDue.Post (w0 : World) (r : Int) (e : Ending) (w : World) : Prop := e = .returned (vI r) ∧ St w0 w []
def sched_byDue.f (x0 : SJob) (x1 : SJob) : Int :=
 (cmp_Compare_int.f x0.Due x1.Due)
theorem sched_byDue_ok (x0 : SJob) (x1 : SJob) (w0 : World) (r : Int) (h : sched_byDue.f x0 x1 = r) :
  Calls Tryd.prog 172 #[.agg #[vI x0.Task, vI x0.At, vI x0.C, vI x0.Due, vI x0.P], .agg #[vI x1.Task, vI x1.At, vI x1.C, vI x1.Due, vI x1.P]] w0 (sched_byDue.Post w0 r) := by
 have hS := St.start w0
 unfold sched_byDue.f at h
 refine calls_enter (n := 10) (args := [.agg #[vI x0.Task, vI x0.At, vI x0.C, vI x0.Due, vI x0.P], .agg #[vI x1.Task, vI x1.At, vI x1.C, vI x1.Due, vI x1.P]]) (fn := Tryd.f172) rfl rfl rfl rfl ?_
 show WE _ _ _ _ [(0, .agg #[vI x0.Task, vI x0.At, vI x0.C, vI x0.Due, vI x0.P]), (1, .agg #[vI x1.Task, vI x1.At, vI x1.C, vI x1.Due, vI x1.P])] _
 refine ws fun K1 hK1 => ?_
 refine wr [(0, 1), (1, 1), (2, 0)] ?_
 refine gw (some 2) (.cells #[vI x0.Task, vI x0.At, vI x0.C, vI x0.Due, vI x0.P] 58) (fun b => pP b 0) hS fun b1 w1 hx1 hS1 => ?_
 refine gw (some 3) (.cells #[vI x1.Task, vI x1.At, vI x1.C, vI x1.Due, vI x1.P] 58) (fun b => pP b 0) hS1 fun b2 w2 hx2 hS2 => ?_
 refine gb0 [2] [(4, vI 0)] ?_
 refine gn hK1 ?_
 refine ws fun K2 hK2 => ?_
 refine wr [(0, 0), (1, 0), (2, 0), (3, 0), (4, 1), (5, 0)] ?_
 refine gb [0, 1, 2, 3] [(8, vI x1.Due), (7, pP b2 3), (6, vI x0.Due), (5, pP b1 3)] [.loaded ⟨b1, 3, none⟩ (vI x0.Due), .loaded ⟨b2, 3, none⟩ (vI x1.Due)] ⟨hS2.c 1, hS2.c 0, trivial⟩ ?_
 refine ge_call (d := some 9) (f := 165) (args := #[vI x0.Due, vI x1.Due]) (by kernel_rfl) (cmp_Compare_int_ok x0.Due x1.Due _ _ rfl) ?_
 rintro _ w3 ⟨rfl, hS3⟩
 refine ⟨_, rfl, hS3.below, ?_⟩
 have hS4 := hS2.call hS3
 refine gb0 [5] [(4, vI (cmp_Compare_int.f x0.Due x1.Due))] ?_
 refine gn hK2 ?_
 have hS5 := hS4.takeN 0
 subst h
 exact we_ret (pr0 [.tmp 4] [vI (cmp_Compare_int.f x0.Due x1.Due)] ⟨rfl, hS5⟩)

/-! punctual/sched.First -/
abbrev sched_First.Post (w0 : World) (r : Int) (e : Ending) (w : World) : Prop := e = .returned (vI r) ∧ St w0 w []
def sched_First.r0 (K : Nat) (l0 : List SJob) (lg1_0 : List SJob) (xg1_1 : Int) (lg1_2 : List Int) (x2 : Int) : Int × Nat → Option ((Int × Nat) ⊕ (Int ⊕ Int))
 | (z1, i1) =>
  if (i1 : Int) < (l0.length : Int) then
   match l0[i1]? with
   | none => none
   | some e1 =>
    match modes_hosted_1.f (i1 : Int) lg1_0 xg1_1 lg1_2 with
    | none => none
    | some r1 =>
     if r1 = true then
      if z1 < 0 then
       some (.inl ((i1 : Int), (i1 + 1)))
      else
       if 0 ≤ z1 then
        match l0[(z1).toNat]? with
        | none => none
        | some e2 =>
         if (sched_rule.f x2) = 0 then
          none
         else
          if (sched_rule.f x2) = 172 then
           match cmp_Or_int.f K ([(sched_byPriority.f e1 e2), (cmp_Compare_int.f e1.At e2.At)] : List Int) with
           | none => none
           | some r2 =>
            if r2 < 0 then
             some (.inl ((i1 : Int), (i1 + 1)))
            else
             some (.inl (z1, (i1 + 1)))
          else
           if (sched_rule.f x2) = 173 then
            match cmp_Or_int.f K ([(sched_byDue.f e1 e2), (cmp_Compare_int.f e1.At e2.At)] : List Int) with
            | none => none
            | some r3 =>
             if r3 < 0 then
              some (.inl ((i1 : Int), (i1 + 1)))
             else
              some (.inl (z1, (i1 + 1)))
           else
            none
       else
        none
     else
      some (.inl (z1, (i1 + 1)))
  else
   some (.inr (.inl z1))
def sched_First.f (K : Nat) (l0 : List SJob) (lg1_0 : List SJob) (xg1_1 : Int) (lg1_2 : List Int) (x2 : Int) : Option Int :=
 match iter (sched_First.r0 K l0 lg1_0 xg1_1 lg1_2 x2) K ((-1), 0) with
 | none => none
 | some (.inl z3) =>
  some z3
 | some (.inr rr1) =>
  some rr1
abbrev sched_First.A0 (w0 : World) (l0 : List SJob) (A0 : Option Addr) (c0 : Nat) (bg1_0 : Nat) (bg1_1 : Nat) (bg1_2 : Nat) (x2 : Int) : (Int × Nat) → Act → World → Prop := fun (s : Int × Nat) a w => St w0 w [] ∧ Frm 47 a [(0, .slice A0 l0.length c0), (1, .func (.func 141) #[] #[pP bg1_0 0, pP bg1_1 0, pP bg1_2 0]), (2, vI x2), (7, vI s.1), (10, .slice A0 l0.length c0), (11, vI (l0.length : Int)), (12, vI (s.2 : Int))]
abbrev sched_First.B0 (w0 : World) : (Int ⊕ Int) → Exit → Act → World → Prop := Exits 0 (fun (s : Int) a w => St w0 w [] ∧ Frm 47 a [(7, vI s)]) (Rets Tryd.prog Tryd.f130 (sched_First.Post w0))
theorem sched_First_r0 (K : Nat) (w0 : World) (l0 : List SJob) (A0 : Option Addr) (c0 : Nat) (bg1_0 : Nat) (lg1_0 : List SJob) (Ag1_0 : Option Addr) (cg1_0 : Nat) (bg1_1 : Nat) (xg1_1 : Int) (bg1_2 : Nat) (lg1_2 : List Int) (Ag1_2 : Option Addr) (cg1_2 : Nat) (x2 : Int) (hR0 : RdL w0 A0 l0) (hL0 : l0.length ≤ c0) (hRg1_0 : RdL w0 Ag1_0 lg1_0) (hLg1_0 : lg1_0.length ≤ cg1_0) (hBg1_0 : Glob w0 bg1_0 [.slice Ag1_0 lg1_0.length cg1_0]) (hBg1_1 : Glob w0 bg1_1 [vI xg1_1]) (hRg1_2 : RdL w0 Ag1_2 lg1_2) (hLg1_2 : lg1_2.length ≤ cg1_2) (hBg1_2 : Glob w0 bg1_2 [.slice Ag1_2 lg1_2.length cg1_2]) (s : Int × Nat) (o : (Int × Nat) ⊕ (Int ⊕ Int)) (h : sched_First.r0 K l0 lg1_0 xg1_1 lg1_2 x2 s = some o) (a : Act) (w : World) (hA : sched_First.A0 w0 l0 A0 c0 bg1_0 bg1_1 bg1_2 x2 s a w) (Q : Exit → Act → World → Prop) (hQ : ∀ x a w, Outs (sched_First.A0 w0 l0 A0 c0 bg1_0 bg1_1 bg1_2 x2) (sched_First.B0 w0) o x a w → Q x a w) : (subF Tryd.f130 [1, 1, 0, 1, 0, 0]).wp Tryd.prog Q a w := by
 obtain ⟨z1, i1⟩ := s
 obtain ⟨hS, hF⟩ := hA
 replace hS : St w0 w [] := hS
 simp only [sched_First.r0] at h
 refine (?_ : WE Tryd.prog 47 (subF Tryd.f130 [1, 1, 0, 1, 0, 0]) Q [(0, .slice A0 l0.length c0), (1, .func (.func 141) #[] #[pP bg1_0 0, pP bg1_1 0, pP bg1_2 0]), (2, vI x2), (7, vI z1), (10, .slice A0 l0.length c0), (11, vI (l0.length : Int)), (12, vI (i1 : Int))] w) a hF
 clear hF a
 refine ws fun K5 hK5 => ?_
 refine wr [(0, 0)] ?_
 refine gb0 [0] [(13, .bool (decide ((i1 : Int) < (l0.length : Int))))] ?_
 refine gn hK5 ?_
 refine ws fun K6 hK6 => ?_
 by_cases hc1 : (i1 : Int) < (l0.length : Int)
 ·rw [if_pos hc1] at h
  refine wk 13 (decide ((i1 : Int) < (l0.length : Int))) true (decide_eq_true hc1) ?_
  refine we_true (by kernel_rfl) ?_
  refine we_skip fun a hF => hK6 _ _ ?_ a hF
  refine ws fun K7 hK7 => ?_
  refine we_block ?_
  refine ws fun K8 hK8 => ?_
  refine wr [(0, 0), (1, 0), (2, 0), (3, 1), (4, 0), (5, 2)] ?_
  refine gb0 [0] [(14, vI (i1 : Int))] ?_
  rcases hx1 : l0[i1]? with _ | e1
  ·rw [hx1] at h; cases h
  rw [hx1] at h
  simp only [] at h
  refine gi 15 0 49 58 5 l0.length c0 (.tmp 10) (.tmp 12) A0 .i64 (i1 : Int) i1 ((hS.rd hR0).eqSome (pos_of_get hx1)) rfl (lt_of_get hx1) ?_
  refine gb [2] [(16, .agg #[vI e1.Task, vI e1.At, vI e1.C, vI e1.Due, vI e1.P])] [.loaded ⟨blkOf A0, offOf A0 + i1 * 5, none⟩ (vI e1.Task), .loaded ⟨blkOf A0, offOf A0 + i1 * 5 + 1, none⟩ (vI e1.At), .loaded ⟨blkOf A0, offOf A0 + i1 * 5 + 2, none⟩ (vI e1.C), .loaded ⟨blkOf A0, offOf A0 + i1 * 5 + 3, none⟩ (vI e1.Due), .loaded ⟨blkOf A0, offOf A0 + i1 * 5 + 4, none⟩ (vI e1.P)] ⟨RdL.cell (j := 0) (hS.rd hR0) hx1 rfl, RdL.cell (j := 1) (hS.rd hR0) hx1 rfl, RdL.cell (j := 2) (hS.rd hR0) hx1 rfl, RdL.cell (j := 3) (hS.rd hR0) hx1 rfl, RdL.cell (j := 4) (hS.rd hR0) hx1 rfl, trivial⟩ ?_
  refine gw (some 9) (.cells #[vI 0, vI 0, vI 0, vI 0, vI 0] 58) (fun b => pP b 0) hS fun b1 w1 hx2 hS1 => ?_
  refine gb0 [4] [(8, vI (i1 : Int))] ?_
  refine gs b1 0 #[vI 0, vI 0, vI 0, vI 0, vI 0] 58 [vI e1.Task, vI e1.At, vI e1.C, vI e1.Due, vI e1.P] hS1 fun w2 hS2 => ?_
  have hS3 : St w0 w2 [Own.blk b1 (.cells #[vI e1.Task, vI e1.At, vI e1.C, vI e1.Due, vI e1.P] 58 (0, 0))] := hS2
  refine gn hK8 ?_
  refine ws fun K9 hK9 => ?_
  refine ws fun K10 hK10 => ?_
  refine wr [(0, 0), (1, 0), (2, 1), (3, 0)] ?_
  rcases hq1 : modes_hosted_1.f (i1 : Int) lg1_0 xg1_1 lg1_2 with _ | r1
  ·rw [hq1] at h; cases h
  rw [hq1] at h
  simp only [] at h
  refine gb0 [0, 1] [(18, vI (i1 : Int)), (17, .func (.func 141) #[] #[pP bg1_0 0, pP bg1_1 0, pP bg1_2 0])] ?_
  refine ge_call (d := some 19) (f := 141) (args := #[vI (i1 : Int), pP bg1_0 0, pP bg1_1 0, pP bg1_2 0]) (by kernel_rfl) (modes_hosted_1_ok (i1 : Int) bg1_0 lg1_0 Ag1_0 cg1_0 bg1_1 xg1_1 bg1_2 lg1_2 Ag1_2 cg1_2 _ (hS3.rd hRg1_0) hLg1_0 (Glob.ext hBg1_0 hS3.below) (Glob.ext hBg1_1 hS3.below) (hS3.rd hRg1_2) hLg1_2 (Glob.ext hBg1_2 hS3.below) _ hq1) ?_
  rintro _ w3 ⟨rfl, hS4⟩
  refine ⟨_, rfl, hS4.below, ?_⟩
  have hS5 := hS3.call hS4
  refine gb0 [3] [(20, .bool (!r1))] ?_
  refine gn hK10 ?_
  by_cases hc2 : r1 = true
  ·rw [if_pos hc2] at h
   refine wk 20 (!r1) false (congrArg (fun z => !z) hc2) ?_
   refine we_false (by kernel_rfl) ?_
   refine we_skip fun a hF => hK9 _ _ ?_ a hF
   refine ws fun K11 hK11 => ?_
   refine we_draws (by kernel_rfl) [(0, 0), (1, 0), (2, 0), (3, 0), (5, 0), (6, 0), (7, 0), (8, 0), (9, 0), (11, 0), (12, 0), (13, 0), (14, 0), (15, 0), (16, 0), (17, 0), (4, 1), (10, 1), (18, 1), (19, 1), (20, 1), (21, 0), (22, 0)] (by kernel_rfl) ?_
   have hS6 := hS5.drew
   refine gb0 [0, 1, 2] [(23, .bool (decide (z1 < 0))), (22, .bool (decide (z1 < 0))), (21, vI z1)] ?_
   by_cases hc3 : z1 < 0
   ·rw [if_pos hc3] at h
    refine gk 23 (decide (z1 < 0)) true (decide_eq_true hc3) ?_
    refine gb0 [3, 5, 6, 7, 8, 9, 11, 12, 13, 14, 15, 16, 17] [(38, undef), (37, undef), (36, undef), (35, undef), (34, undef), (33, undef), (32, undef), (30, undef), (29, undef), (28, undef), (27, undef), (26, undef), (24, undef)] ?_
    refine ge_off rfl rfl rfl (by kernel_rfl) ?_
    refine ge_off rfl rfl rfl (by kernel_rfl) ?_
    refine ge_off rfl rfl rfl (by kernel_rfl) ?_
    refine ge_off rfl rfl rfl (by kernel_rfl) ?_
    refine ge_off rfl rfl rfl (by kernel_rfl) ?_
    refine gb0 [21, 22] [(43, .bool true), (42, undef)] ?_
    refine gn hK11 ?_
    refine we_true (by kernel_rfl) ?_
    refine wr [(0, 0), (1, 0)] ?_
    refine gb0 [0, 1] [(7, vI (i1 : Int)), (44, vI (i1 : Int))] ?_
    refine gn hK7 ?_
    refine wr [(0, 0), (1, 0)] ?_
    refine ge_addn (d := 45) (ty := 3) (x := (.tmp 12)) (y := (.const (vI 1))) (t := 3) (t2 := 3) (k := .i64) (m := i1) (by kernel_rfl) (by kernel_rfl) (by kernel_rfl) (by have h0 := hR0.small; omega) ?_
    refine gb0 [1] [(12, vI ((i1 + 1 : Nat) : Int))] ?_
    have hS7 := hS6.takeN 0
    obtain rfl := si h
    exact ge_nil fun a hF => hQ _ _ _ (Outs.again ⟨hS7, hF.weaken ea⟩)
   ·rw [if_neg hc3] at h
    refine gk 23 (decide (z1 < 0)) false (decide_eq_false hc3) ?_
    refine gb [3, 5, 6, 7] [(28, vI z1), (27, .slice A0 l0.length c0), (26, .agg #[vI e1.Task, vI e1.At, vI e1.C, vI e1.Due, vI e1.P]), (24, vI x2)] [.loaded ⟨b1, 0, none⟩ (vI e1.Task), .loaded ⟨b1, 1, none⟩ (vI e1.At), .loaded ⟨b1, 2, none⟩ (vI e1.C), .loaded ⟨b1, 3, none⟩ (vI e1.Due), .loaded ⟨b1, 4, none⟩ (vI e1.P)] ⟨hS6.c 0, hS6.c 0, hS6.c 0, hS6.c 0, hS6.c 0, trivial⟩ ?_
    by_cases hc4 : 0 ≤ z1
    ·rw [if_pos hc4] at h
     rcases hx3 : l0[(z1).toNat]? with _ | e2
     ·rw [hx3] at h; cases h
     rw [hx3] at h
     simp only [] at h
     refine gi 29 0 49 58 5 l0.length c0 (.tmp 27) (.tmp 28) A0 .i64 z1 ((z1).toNat) ((hS6.rd hR0).eqSome (pos_of_get hx3)) (Int.toNat_of_nonneg hc4).symm (lt_of_get hx3) ?_
     refine gb [9, 11, 12, 13, 14] [(35, vI z1), (34, .slice A0 l0.length c0), (33, vI e1.At), (32, pP b1 1), (30, .agg #[vI e2.Task, vI e2.At, vI e2.C, vI e2.Due, vI e2.P])] [.loaded ⟨blkOf A0, offOf A0 + ((z1).toNat) * 5, none⟩ (vI e2.Task), .loaded ⟨blkOf A0, offOf A0 + ((z1).toNat) * 5 + 1, none⟩ (vI e2.At), .loaded ⟨blkOf A0, offOf A0 + ((z1).toNat) * 5 + 2, none⟩ (vI e2.C), .loaded ⟨blkOf A0, offOf A0 + ((z1).toNat) * 5 + 3, none⟩ (vI e2.Due), .loaded ⟨blkOf A0, offOf A0 + ((z1).toNat) * 5 + 4, none⟩ (vI e2.P), .loaded ⟨b1, 1, none⟩ (vI e1.At)] ⟨RdL.cell (j := 0) (hS6.rd hR0) hx3 rfl, RdL.cell (j := 1) (hS6.rd hR0) hx3 rfl, RdL.cell (j := 2) (hS6.rd hR0) hx3 rfl, RdL.cell (j := 3) (hS6.rd hR0) hx3 rfl, RdL.cell (j := 4) (hS6.rd hR0) hx3 rfl, hS6.c 0, trivial⟩ ?_
     refine gi 36 0 49 58 5 l0.length c0 (.tmp 34) (.tmp 35) A0 .i64 z1 ((z1).toNat) ((hS6.rd hR0).eqSome (pos_of_get hx3)) (Int.toNat_of_nonneg hc4).symm (lt_of_get hx3) ?_
     refine gb [16, 17] [(38, vI e2.At), (37, .pointer (some ⟨blkOf A0, offOf A0 + (z1).toNat * 5 + 1, none⟩))] [.loaded ⟨blkOf A0, offOf A0 + ((z1).toNat) * 5 + 1, none⟩ (vI e2.At)] ⟨RdL.cell (j := 1) (hS6.rd hR0) hx3 rfl, trivial⟩ ?_
     refine ge_call (d := some 25) (f := 133) (args := #[vI x2]) (by kernel_rfl) (sched_rule_ok x2 _ _ rfl) ?_
     rintro _ w4 ⟨rfl, hS8⟩
     refine ⟨_, rfl, hS8.below, ?_⟩
     have hS9 := hS6.call hS8
     by_cases hc5 : (sched_rule.f x2) = 0
     ·rw [if_pos hc5] at h
      refine ge_same (t := 25) (v := fnVal (sched_rule.f x2)) (v' := .nilFunc) (by kernel_rfl) (by rw [hc5]; rfl) ?_
      cases h
     ·rw [if_neg hc5] at h
      by_cases hc6 : (sched_rule.f x2) = 172
      ·rw [if_pos hc6] at h
       refine ge_same (t := 25) (v := fnVal (sched_rule.f x2)) (v' := .func (.func 171) #[] #[]) (by kernel_rfl) (by rw [hc6]; rfl) ?_
       refine ge_call (d := some 31) (f := 171) (args := #[.agg #[vI e1.Task, vI e1.At, vI e1.C, vI e1.Due, vI e1.P], .agg #[vI e2.Task, vI e2.At, vI e2.C, vI e2.Due, vI e2.P]]) (by kernel_rfl) (sched_byPriority_ok e1 e2 _ _ rfl) ?_
       rintro _ w5 ⟨rfl, hS10⟩
       refine ⟨_, rfl, hS10.below, ?_⟩
       have hS11 := hS9.call hS10
       refine ge_call (d := some 39) (f := 165) (args := #[vI e1.At, vI e2.At]) (by kernel_rfl) (cmp_Compare_int_ok e1.At e2.At _ _ rfl) ?_
       rintro _ w6 ⟨rfl, hS12⟩
       refine ⟨_, rfl, hS12.below, ?_⟩
       have hS13 := hS11.call hS12
       refine gw (some 40) (.cells #[vI (sched_byPriority.f e1 e2), vI (cmp_Compare_int.f e1.At e2.At)] 3) (fun b => .slice (some ⟨b, 0, none⟩) 2 2) hS13 fun b2 w7 hx4 hS14 => ?_
       rcases hq5 : cmp_Or_int.f K ([(sched_byPriority.f e1 e2), (cmp_Compare_int.f e1.At e2.At)] : List Int) with _ | r2
       ·rw [hq5] at h; cases h
       rw [hq5] at h
       simp only [] at h
       refine ge_call (d := some 41) (f := 164) (args := #[.slice (some ⟨b2, 0, none⟩) 2 2]) (by kernel_rfl) (cmp_Or_int_ok K ([(sched_byPriority.f e1 e2), (cmp_Compare_int.f e1.At e2.At)] : List Int) (some ⟨b2, 0, none⟩) 2 _ (hS14.rdBlk 0 ([(sched_byPriority.f e1 e2), (cmp_Compare_int.f e1.At e2.At)] : List Int) rfl rfl rfl) (Nat.le_refl _) _ hq5) ?_
       rintro _ w8 ⟨rfl, hS15⟩
       refine ⟨_, rfl, hS15.below, ?_⟩
       have hS16 := hS14.call hS15
       refine gb0 [21, 22] [(43, .bool (decide (r2 < 0))), (42, .bool (decide (r2 < 0)))] ?_
       refine gn hK11 ?_
       by_cases hc7 : r2 < 0
       ·rw [if_pos hc7] at h
        refine wk 43 (decide (r2 < 0)) true (decide_eq_true hc7) ?_
        refine we_true (by kernel_rfl) ?_
        refine wr [(0, 0), (1, 0)] ?_
        refine gb0 [0, 1] [(7, vI (i1 : Int)), (44, vI (i1 : Int))] ?_
        refine gn hK7 ?_
        refine wr [(0, 0), (1, 0)] ?_
        refine ge_addn (d := 45) (ty := 3) (x := (.tmp 12)) (y := (.const (vI 1))) (t := 3) (t2 := 3) (k := .i64) (m := i1) (by kernel_rfl) (by kernel_rfl) (by kernel_rfl) (by have h0 := hR0.small; omega) ?_
        refine gb0 [1] [(12, vI ((i1 + 1 : Nat) : Int))] ?_
        have hS17 := hS16.takeN 0
        obtain rfl := si h
        exact ge_nil fun a hF => hQ _ _ _ (Outs.again ⟨hS17, hF.weaken ea⟩)
       ·rw [if_neg hc7] at h
        refine wk 43 (decide (r2 < 0)) false (decide_eq_false hc7) ?_
        refine we_false (by kernel_rfl) ?_
        refine we_skip fun a hF => hK7 _ _ ?_ a hF
        refine wr [(0, 0), (1, 0)] ?_
        refine ge_addn (d := 45) (ty := 3) (x := (.tmp 12)) (y := (.const (vI 1))) (t := 3) (t2 := 3) (k := .i64) (m := i1) (by kernel_rfl) (by kernel_rfl) (by kernel_rfl) (by have h0 := hR0.small; omega) ?_
        refine gb0 [1] [(12, vI ((i1 + 1 : Nat) : Int))] ?_
        have hS18 := hS16.takeN 0
        obtain rfl := si h
        exact ge_nil fun a hF => hQ _ _ _ (Outs.again ⟨hS18, hF.weaken ea⟩)
      ·rw [if_neg hc6] at h
       by_cases hc8 : (sched_rule.f x2) = 173
       ·rw [if_pos hc8] at h
        refine ge_same (t := 25) (v := fnVal (sched_rule.f x2)) (v' := .func (.func 172) #[] #[]) (by kernel_rfl) (by rw [hc8]; rfl) ?_
        refine ge_call (d := some 31) (f := 172) (args := #[.agg #[vI e1.Task, vI e1.At, vI e1.C, vI e1.Due, vI e1.P], .agg #[vI e2.Task, vI e2.At, vI e2.C, vI e2.Due, vI e2.P]]) (by kernel_rfl) (sched_byDue_ok e1 e2 _ _ rfl) ?_
        rintro _ w9 ⟨rfl, hS19⟩
        refine ⟨_, rfl, hS19.below, ?_⟩
        have hS20 := hS9.call hS19
        refine ge_call (d := some 39) (f := 165) (args := #[vI e1.At, vI e2.At]) (by kernel_rfl) (cmp_Compare_int_ok e1.At e2.At _ _ rfl) ?_
        rintro _ w10 ⟨rfl, hS21⟩
        refine ⟨_, rfl, hS21.below, ?_⟩
        have hS22 := hS20.call hS21
        refine gw (some 40) (.cells #[vI (sched_byDue.f e1 e2), vI (cmp_Compare_int.f e1.At e2.At)] 3) (fun b => .slice (some ⟨b, 0, none⟩) 2 2) hS22 fun b3 w11 hx5 hS23 => ?_
        rcases hq8 : cmp_Or_int.f K ([(sched_byDue.f e1 e2), (cmp_Compare_int.f e1.At e2.At)] : List Int) with _ | r3
        ·rw [hq8] at h; cases h
        rw [hq8] at h
        simp only [] at h
        refine ge_call (d := some 41) (f := 164) (args := #[.slice (some ⟨b3, 0, none⟩) 2 2]) (by kernel_rfl) (cmp_Or_int_ok K ([(sched_byDue.f e1 e2), (cmp_Compare_int.f e1.At e2.At)] : List Int) (some ⟨b3, 0, none⟩) 2 _ (hS23.rdBlk 0 ([(sched_byDue.f e1 e2), (cmp_Compare_int.f e1.At e2.At)] : List Int) rfl rfl rfl) (Nat.le_refl _) _ hq8) ?_
        rintro _ w12 ⟨rfl, hS24⟩
        refine ⟨_, rfl, hS24.below, ?_⟩
        have hS25 := hS23.call hS24
        refine gb0 [21, 22] [(43, .bool (decide (r3 < 0))), (42, .bool (decide (r3 < 0)))] ?_
        refine gn hK11 ?_
        by_cases hc9 : r3 < 0
        ·rw [if_pos hc9] at h
         refine wk 43 (decide (r3 < 0)) true (decide_eq_true hc9) ?_
         refine we_true (by kernel_rfl) ?_
         refine wr [(0, 0), (1, 0)] ?_
         refine gb0 [0, 1] [(7, vI (i1 : Int)), (44, vI (i1 : Int))] ?_
         refine gn hK7 ?_
         refine wr [(0, 0), (1, 0)] ?_
         refine ge_addn (d := 45) (ty := 3) (x := (.tmp 12)) (y := (.const (vI 1))) (t := 3) (t2 := 3) (k := .i64) (m := i1) (by kernel_rfl) (by kernel_rfl) (by kernel_rfl) (by have h0 := hR0.small; omega) ?_
         refine gb0 [1] [(12, vI ((i1 + 1 : Nat) : Int))] ?_
         have hS26 := hS25.takeN 0
         obtain rfl := si h
         exact ge_nil fun a hF => hQ _ _ _ (Outs.again ⟨hS26, hF.weaken ea⟩)
        ·rw [if_neg hc9] at h
         refine wk 43 (decide (r3 < 0)) false (decide_eq_false hc9) ?_
         refine we_false (by kernel_rfl) ?_
         refine we_skip fun a hF => hK7 _ _ ?_ a hF
         refine wr [(0, 0), (1, 0)] ?_
         refine ge_addn (d := 45) (ty := 3) (x := (.tmp 12)) (y := (.const (vI 1))) (t := 3) (t2 := 3) (k := .i64) (m := i1) (by kernel_rfl) (by kernel_rfl) (by kernel_rfl) (by have h0 := hR0.small; omega) ?_
         refine gb0 [1] [(12, vI ((i1 + 1 : Nat) : Int))] ?_
         have hS27 := hS25.takeN 0
         obtain rfl := si h
         exact ge_nil fun a hF => hQ _ _ _ (Outs.again ⟨hS27, hF.weaken ea⟩)
       ·rw [if_neg hc8] at h
        cases h
    ·rw [if_neg hc4] at h
     cases h
  ·rw [if_neg hc2] at h
   refine wk 20 (!r1) true (congrArg (fun z => !z) (Bool.eq_false_iff.2 hc2)) ?_
   refine we_true (by kernel_rfl) ?_
   refine we_exit fun a hF => hK7 _ _ ?_ a hF
   refine wr [(0, 0), (1, 0)] ?_
   refine ge_addn (d := 45) (ty := 3) (x := (.tmp 12)) (y := (.const (vI 1))) (t := 3) (t2 := 3) (k := .i64) (m := i1) (by kernel_rfl) (by kernel_rfl) (by kernel_rfl) (by have h0 := hR0.small; omega) ?_
   refine gb0 [1] [(12, vI ((i1 + 1 : Nat) : Int))] ?_
   have hS28 := hS5.takeN 0
   obtain rfl := si h
   exact ge_nil fun a hF => hQ _ _ _ (Outs.again ⟨hS28, hF.weaken ea⟩)
 ·rw [if_neg hc1] at h
  refine wk 13 (decide ((i1 : Int) < (l0.length : Int))) false (decide_eq_false hc1) ?_
  refine we_false (by kernel_rfl) ?_
  obtain rfl := si h
  exact we_exit fun a hF => hQ _ _ _ (Outs.out nofun (Exits.here ⟨hS, hF.weaken ea⟩))
theorem sched_First_ok (K : Nat) (l0 : List SJob) (A0 : Option Addr) (c0 : Nat) (bg1_0 : Nat) (lg1_0 : List SJob) (Ag1_0 : Option Addr) (cg1_0 : Nat) (bg1_1 : Nat) (xg1_1 : Int) (bg1_2 : Nat) (lg1_2 : List Int) (Ag1_2 : Option Addr) (cg1_2 : Nat) (x2 : Int) (w0 : World) (hR0 : RdL w0 A0 l0) (hL0 : l0.length ≤ c0) (hRg1_0 : RdL w0 Ag1_0 lg1_0) (hLg1_0 : lg1_0.length ≤ cg1_0) (hBg1_0 : Glob w0 bg1_0 [.slice Ag1_0 lg1_0.length cg1_0]) (hBg1_1 : Glob w0 bg1_1 [vI xg1_1]) (hRg1_2 : RdL w0 Ag1_2 lg1_2) (hLg1_2 : lg1_2.length ≤ cg1_2) (hBg1_2 : Glob w0 bg1_2 [.slice Ag1_2 lg1_2.length cg1_2]) (r : Int) (h : sched_First.f K l0 lg1_0 xg1_1 lg1_2 x2 = some r) :
  Calls Tryd.prog 130 #[.slice A0 l0.length c0, .func (.func 141) #[] #[pP bg1_0 0, pP bg1_1 0, pP bg1_2 0], vI x2] w0 (sched_First.Post w0 r) := by
 have hS := St.start w0
 unfold sched_First.f at h
 refine calls_enter (n := 47) (args := [.slice A0 l0.length c0, .func (.func 141) #[] #[pP bg1_0 0, pP bg1_1 0, pP bg1_2 0], vI x2]) (fn := Tryd.f130) rfl rfl rfl rfl ?_
 show WE _ _ _ _ [(0, .slice A0 l0.length c0), (1, .func (.func 141) #[] #[pP bg1_0 0, pP bg1_1 0, pP bg1_2 0]), (2, vI x2)] _
 refine ws fun K1 hK1 => ?_
 refine wr [(0, 0)] ?_
 refine gb0 [0] [(6, vI 0)] ?_
 refine gn hK1 ?_
 refine ws fun K2 hK2 => ?_
 refine wr [(0, 0)] ?_
 refine gb0 [0] [(7, vI (-1))] ?_
 refine gn hK2 ?_
 refine ws fun K3 hK3 => ?_
 refine ws fun K4 hK4 => ?_
 refine wr [(0, 0), (1, 0), (2, 0)] ?_
 refine gb0 [0, 1, 2] [(12, vI 0), (11, vI (l0.length : Int)), (10, .slice A0 l0.length c0)] ?_
 refine gn hK4 ?_
 refine we_block ?_
 rcases hq9 : iter (sched_First.r0 K l0 lg1_0 xg1_1 lg1_2 x2) K ((-1), 0) with _ | (z3 | rr1)
 ·rw [hq9] at h; cases h
 ·rw [hq9] at h
  simp only [] at h
  refine we_iter (A := sched_First.A0 w0 l0 A0 c0 bg1_0 bg1_1 bg1_2 x2) (B := sched_First.B0 w0) hq9 (fun a hF => ⟨hS, hF.weaken ea⟩) (fun s o hf a w hA Q hQ => sched_First_r0 K w0 l0 A0 c0 bg1_0 lg1_0 Ag1_0 cg1_0 bg1_1 xg1_1 bg1_2 lg1_2 Ag1_2 cg1_2 x2 hR0 hL0 hRg1_0 hLg1_0 hBg1_0 hBg1_1 hRg1_2 hLg1_2 hBg1_2 s o hf a w hA Q hQ) ?_
  rintro _ a w13 _ ⟨rfl, hS29, hF⟩
  replace hS29 : St w0 w13 [] := hS29
  refine hK3 [(7, vI z3)] w13 ?_ a hF
  refine ws fun K12 hK12 => ?_
  refine wr [(0, 0), (1, 0)] ?_
  refine gb0 [0, 1] [(6, vI z3), (46, vI z3)] ?_
  refine gn hK12 ?_
  obtain rfl := si h
  exact we_ret (pr0 [.tmp 6] [vI z3] ⟨rfl, hS29⟩)
 ·rw [hq9] at h
  simp only [] at h
  refine we_iter (A := sched_First.A0 w0 l0 A0 c0 bg1_0 bg1_1 bg1_2 x2) (B := sched_First.B0 w0) hq9 (fun a hF => ⟨hS, hF.weaken ea⟩) (fun s o hf a w hA Q hQ => sched_First_r0 K w0 l0 A0 c0 bg1_0 lg1_0 Ag1_0 cg1_0 bg1_1 xg1_1 bg1_2 lg1_2 Ag1_2 cg1_2 x2 hR0 hL0 hRg1_0 hLg1_0 hBg1_0 hBg1_1 hRg1_2 hLg1_2 hBg1_2 s o hf a w hA Q hQ) ?_
  rintro _ a w1 _ ⟨rfl, hb⟩
  obtain rfl := si h
  exact hb

/-! punctual/modes.hosted -/
abbrev modes_hosted.Post (w0 : World) (r : SPlayed × SFault) (e : Ending) (w : World) : Prop := ∃ (v0 : Value) (v1 : Value), e = .returned (.tuple #[.agg #[v0, v1], .agg #[vI r.2.Code, vI r.2.At]]) ∧ St w0 w [Own.of v0 3 r.1.Runs, Own.of v1 3 r.1.Ends]
def modes_hosted.p0 (x2 : Int) : Option (Unit ⊕ (SPlayed × SFault)) :=
  if x2 < 0 then
   some (.inr ((⟨([] : List Int), ([] : List Int)⟩ : SPlayed), (⟨3, 0⟩ : SFault)))
  else
   if x2 > 20000 then
    some (.inr ((⟨([] : List Int), ([] : List Int)⟩ : SPlayed), (⟨3, 0⟩ : SFault)))
   else
    some (.inl ())
def modes_hosted.p1 (l0 : List SJob) (x2 : Int) : Option (((List Int) × (List Int)) ⊕ (SPlayed × SFault)) :=
  if 0 ≤ x2 then
   if ((x2).toNat) ≤ 17592186044416 then
    if l0.length ≤ 17592186044416 then
     some (.inl ((List.replicate ((x2).toNat) (0 : Int)), (List.replicate l0.length (0 : Int))))
    else
     none
   else
    none
  else
   none
def modes_hosted.r2 (l0 : List SJob) : Nat × (List Int) × (List Int) → Option ((Nat × (List Int) × (List Int)) ⊕ (((List Int) × (List Int)) ⊕ (SPlayed × SFault)))
 | (i1, m5, m6) =>
  if (i1 : Int) < (l0.length : Int) then
   match l0[i1]? with
   | none => none
   | some e1 =>
    match m5[i1]? with
    | none => none
    | some e2 =>
     match m6[i1]? with
     | none => none
     | some e3 =>
      some (.inl ((i1 + 1), (m5.set i1 e1.C), (m6.set i1 (-1))))
  else
   some (.inr (.inl (m5, m6)))
def modes_hosted.r3 (K : Nat) (l0 : List SJob) (xg1_0 : Int) (lg1_1 : List SWindow) (x2 : Int) : Int × (List Int) × (List Int) × (List Int) → Option ((Int × (List Int) × (List Int) × (List Int)) ⊕ (((List Int) × (List Int)) ⊕ (SPlayed × SFault)))
 | (z1, m11, m12, m13) =>
  if z1 < x2 then
   if 0 ≤ z1 then
    match m12[(z1).toNat]? with
    | none => none
    | some e4 =>
     match modes_Hosted_1.f K z1 xg1_0 lg1_1 with
     | none => none
     | some r2 =>
      if r2 = true then
       match sched_First.f K l0 l0 z1 m11 1 with
       | none => none
       | some r3 =>
        match (m12.set ((z1).toNat) (-1))[(z1).toNat]? with
        | none => none
        | some e5 =>
         if r3 < 0 then
          some (.inl (IntKind.i64.wrap (z1 + 1), m11, ((m12.set ((z1).toNat) (-1)).set ((z1).toNat) r3), m13))
         else
          if 0 ≤ r3 then
           match m11[(r3).toNat]? with
           | none => none
           | some e6 =>
            match (m11.set ((r3).toNat) (IntKind.i64.wrap (e6 - 1)))[(r3).toNat]? with
            | none => none
            | some e7 =>
             if e7 = 0 then
              match m13[(r3).toNat]? with
              | none => none
              | some e8 =>
               some (.inl (IntKind.i64.wrap (z1 + 1), (m11.set ((r3).toNat) (IntKind.i64.wrap (e6 - 1))), ((m12.set ((z1).toNat) (-1)).set ((z1).toNat) r3), (m13.set ((r3).toNat) (IntKind.i64.wrap (z1 + 1)))))
             else
              some (.inl (IntKind.i64.wrap (z1 + 1), (m11.set ((r3).toNat) (IntKind.i64.wrap (e6 - 1))), ((m12.set ((z1).toNat) (-1)).set ((z1).toNat) r3), m13))
          else
           none
      else
       some (.inl (IntKind.i64.wrap (z1 + 1), m11, (m12.set ((z1).toNat) (-1)), m13))
   else
    none
  else
   some (.inr (.inl (m12, m13)))
def modes_hosted.p4 (r1 : SFault) : Option ((Int × Int × (List Int) × (List Int)) ⊕ (SPlayed × SFault)) :=
  some (.inl (r1.Code, r1.At, ([] : List Int), ([] : List Int)))
def modes_hosted.f (K : Nat) (l0 : List SJob) (xg1_0 : Int) (lg1_1 : List SWindow) (x2 : Int) : Option (SPlayed × SFault) :=
 match sched_Check.f K l0 with
 | none => none
 | some r1 =>
  if r1.Code = 0 then
   match modes_hosted.p0 x2 with
   | none => none
   | some (.inl _) =>
    match modes_hosted.p1 l0 x2 with
    | none => none
    | some (.inl (m3, m4)) =>
     if l0.length ≤ 17592186044416 then
      match iter (modes_hosted.r2 l0) K (0, (List.replicate l0.length (0 : Int)), m4) with
      | none => none
      | some (.inl (m9, m10)) =>
       match iter (modes_hosted.r3 K l0 xg1_0 lg1_1 x2) K (0, m9, m3, m10) with
       | none => none
       | some (.inl (m16, m17)) =>
        some ((⟨m16, m17⟩ : SPlayed), (⟨0, 0⟩ : SFault))
       | some (.inr rr1) =>
        some rr1
      | some (.inr rr2) =>
       some rr2
     else
      none
    | some (.inr rr3) =>
     some rr3
   | some (.inr rr4) =>
    some rr4
  else
   match modes_hosted.p4 r1 with
   | none => none
   | some (.inl (z4, z5, m20, m21)) =>
    some ((⟨m20, m21⟩ : SPlayed), (⟨z4, z5⟩ : SFault))
   | some (.inr rr5) =>
    some rr5
abbrev modes_hosted.A0 (w0 : World) (l0 : List SJob) (A0 : Option Addr) (c0 : Nat) (bg1_0 : Nat) (bg1_1 : Nat) (x2 : Int) (b1 : Nat) (b2 : Nat) (b3 : Nat) : Unit → Act → World → Prop := fun (s : Unit) a w => St w0 w [Own.blk b3 (.cells #[vI 0, vI 0] 39 (0, 0)), Own.blk b2 (.cells #[.slice none 0 0, .slice none 0 0] 36 (0, 0)), Own.blk b1 (.cells #[.slice A0 l0.length c0] 49 (0, 0))] ∧ Frm 98 a [(1, .func (.func 93) #[] #[pP bg1_0 0, pP bg1_1 0]), (2, vI x2), (3, pP b1 0), (6, pP b2 0), (7, pP b3 0)]
abbrev modes_hosted.B0 (w0 : World) : (SPlayed × SFault) → Exit → Act → World → Prop := Rets Tryd.prog Tryd.f92 (modes_hosted.Post w0)
theorem modes_hosted_p0 (K : Nat) (w0 : World) (l0 : List SJob) (A0 : Option Addr) (c0 : Nat) (bg1_0 : Nat) (xg1_0 : Int) (bg1_1 : Nat) (lg1_1 : List SWindow) (Ag1_1 : Option Addr) (cg1_1 : Nat) (x2 : Int) (hR0 : RdL w0 A0 l0) (hL0 : l0.length ≤ c0) (hBg1_0 : Glob w0 bg1_0 [vI xg1_0]) (hRg1_1 : RdL w0 Ag1_1 lg1_1) (hLg1_1 : lg1_1.length ≤ cg1_1) (hBg1_1 : Glob w0 bg1_1 [.slice Ag1_1 lg1_1.length cg1_1]) (b1 : Nat) (b2 : Nat) (b3 : Nat) (r1 : SFault) (b4 : Nat) (hc1 : r1.Code = 0) (o : Unit ⊕ (SPlayed × SFault)) (h : modes_hosted.p0 x2 = some o) (w : World) (hS : St w0 w [Own.blk b4 (.cells #[vI r1.Code, vI r1.At] 39 (0, 0)), Own.blk b3 (.cells #[vI 0, vI 0] 39 (0, 0)), Own.blk b2 (.cells #[.slice none 0 0, .slice none 0 0] 36 (0, 0)), Own.blk b1 (.cells #[.slice A0 l0.length c0] 49 (0, 0))]) (Q : Exit → Act → World → Prop) (hQ : ∀ x a w, Outs (modes_hosted.A0 w0 l0 A0 c0 bg1_0 bg1_1 x2 b1 b2 b3) (modes_hosted.B0 w0) o x a w → Q x a w) : WE Tryd.prog 98 (subF Tryd.f92 [1, 1, 0]) Q [(0, .slice A0 l0.length c0), (1, .func (.func 93) #[] #[pP bg1_0 0, pP bg1_1 0]), (2, vI x2), (3, pP b1 0), (6, pP b2 0), (7, pP b3 0), (8, pP b4 0), (15, .slice A0 l0.length c0), (16, .agg #[vI r1.Code, vI r1.At]), (17, pP b4 0), (18, vI r1.Code), (19, .bool false)] w := by
 simp only [modes_hosted.p0] at h
 refine ws fun K6 hK6 => ?_
 refine wr [(0, 0), (1, 0), (2, 0), (3, 0), (4, 0), (5, 0)] ?_
 refine gb0 [0, 1, 2] [(24, .bool (decide (x2 < 0))), (23, .bool (decide (x2 < 0))), (22, vI x2)] ?_
 by_cases hc2 : x2 < 0
 ·rw [if_pos hc2] at h
  refine gk 24 (decide (x2 < 0)) true (decide_eq_true hc2) ?_
  refine gb0 [3, 4, 5] [(27, .bool true), (26, undef), (25, undef)] ?_
  refine gn hK6 ?_
  refine we_true (by kernel_rfl) ?_
  refine ws fun K7 hK7 => ?_
  refine wr [(0, 0), (1, 0), (2, 2), (3, 2)] ?_
  refine gb0 [0, 1] [(29, .agg #[vI 3, vI 0]), (28, .agg #[.slice none 0 0, .slice none 0 0])] ?_
  have hS9 := hS.bring 2 rfl
  refine gs b2 0 #[.slice none 0 0, .slice none 0 0] 36 [.slice none 0 0, .slice none 0 0] hS9 fun w7 hS10 => ?_
  have hS11 : St w0 w7 [Own.blk b2 (.cells #[.slice none 0 0, .slice none 0 0] 36 (0, 0)), Own.blk b4 (.cells #[vI r1.Code, vI r1.At] 39 (0, 0)), Own.blk b3 (.cells #[vI 0, vI 0] 39 (0, 0)), Own.blk b1 (.cells #[.slice A0 l0.length c0] 49 (0, 0))] := hS10
  have hS12 := hS11.bring 2 rfl
  refine gs b3 0 #[vI 0, vI 0] 39 [vI 3, vI 0] hS12 fun w8 hS13 => ?_
  have hS14 : St w0 w8 [Own.blk b3 (.cells #[vI 3, vI 0] 39 (0, 0)), Own.blk b2 (.cells #[.slice none 0 0, .slice none 0 0] 36 (0, 0)), Own.blk b4 (.cells #[vI r1.Code, vI r1.At] 39 (0, 0)), Own.blk b1 (.cells #[.slice A0 l0.length c0] 49 (0, 0))] := hS13
  refine gn hK7 ?_
  have hS15 := hS14.nil (α := Int) 3
  have hS16 := hS15.nil (α := Int) 3
  have hS17 := hS16.bring 1 rfl
  have hS18 := hS17.bring 1 rfl
  have hS19 := hS18.takeN 2
  obtain rfl := si h
  exact we_ret fun a hF => hQ _ _ _ (Outs.out nofun ⟨rfl, (pr [.cell 6 36, .cell 7 39] [.agg #[(.slice none 0 0), (.slice none 0 0)], .agg #[vI 3, vI 0]] [.loaded ⟨b2, 0, none⟩ ((.slice none 0 0)), .loaded ⟨b2, 1, none⟩ ((.slice none 0 0)), .loaded ⟨b3, 0, none⟩ (vI 3), .loaded ⟨b3, 1, none⟩ (vI 0)] ⟨hS16.c 3, hS16.c 3, hS16.c 2, hS16.c 2, trivial⟩ ⟨(.slice none 0 0), (.slice none 0 0), rfl, hS19⟩) a hF⟩)
 ·rw [if_neg hc2] at h
  refine gk 24 (decide (x2 < 0)) false (decide_eq_false hc2) ?_
  refine gb0 [3, 4, 5] [(27, .bool (decide (x2 > 20000))), (26, .bool (decide (x2 > 20000))), (25, vI x2)] ?_
  refine gn hK6 ?_
  by_cases hc3 : x2 > 20000
  ·rw [if_pos hc3] at h
   refine wk 27 (decide (x2 > 20000)) true (decide_eq_true hc3) ?_
   refine we_true (by kernel_rfl) ?_
   refine ws fun K8 hK8 => ?_
   refine wr [(0, 0), (1, 0), (2, 2), (3, 2)] ?_
   refine gb0 [0, 1] [(29, .agg #[vI 3, vI 0]), (28, .agg #[.slice none 0 0, .slice none 0 0])] ?_
   have hS20 := hS.bring 2 rfl
   refine gs b2 0 #[.slice none 0 0, .slice none 0 0] 36 [.slice none 0 0, .slice none 0 0] hS20 fun w9 hS21 => ?_
   have hS22 : St w0 w9 [Own.blk b2 (.cells #[.slice none 0 0, .slice none 0 0] 36 (0, 0)), Own.blk b4 (.cells #[vI r1.Code, vI r1.At] 39 (0, 0)), Own.blk b3 (.cells #[vI 0, vI 0] 39 (0, 0)), Own.blk b1 (.cells #[.slice A0 l0.length c0] 49 (0, 0))] := hS21
   have hS23 := hS22.bring 2 rfl
   refine gs b3 0 #[vI 0, vI 0] 39 [vI 3, vI 0] hS23 fun w10 hS24 => ?_
   have hS25 : St w0 w10 [Own.blk b3 (.cells #[vI 3, vI 0] 39 (0, 0)), Own.blk b2 (.cells #[.slice none 0 0, .slice none 0 0] 36 (0, 0)), Own.blk b4 (.cells #[vI r1.Code, vI r1.At] 39 (0, 0)), Own.blk b1 (.cells #[.slice A0 l0.length c0] 49 (0, 0))] := hS24
   refine gn hK8 ?_
   have hS26 := hS25.nil (α := Int) 3
   have hS27 := hS26.nil (α := Int) 3
   have hS28 := hS27.bring 1 rfl
   have hS29 := hS28.bring 1 rfl
   have hS30 := hS29.takeN 2
   obtain rfl := si h
   exact we_ret fun a hF => hQ _ _ _ (Outs.out nofun ⟨rfl, (pr [.cell 6 36, .cell 7 39] [.agg #[(.slice none 0 0), (.slice none 0 0)], .agg #[vI 3, vI 0]] [.loaded ⟨b2, 0, none⟩ ((.slice none 0 0)), .loaded ⟨b2, 1, none⟩ ((.slice none 0 0)), .loaded ⟨b3, 0, none⟩ (vI 3), .loaded ⟨b3, 1, none⟩ (vI 0)] ⟨hS27.c 3, hS27.c 3, hS27.c 2, hS27.c 2, trivial⟩ ⟨(.slice none 0 0), (.slice none 0 0), rfl, hS30⟩) a hF⟩)
  ·rw [if_neg hc3] at h
   refine wk 27 (decide (x2 > 20000)) false (decide_eq_false hc3) ?_
   refine we_false (by kernel_rfl) ?_
   have hS31 := hS.bring 3 rfl
   have hS32 := hS31.bring 3 rfl
   have hS33 := hS32.bring 3 rfl
   have hS34 := hS33.takeN 3
   obtain rfl := si h
   exact we_skip fun a hF => hQ _ _ _ (Outs.again ⟨hS34, hF.weaken ea⟩)
abbrev modes_hosted.A1 (w0 : World) (l0 : List SJob) (A0 : Option Addr) (c0 : Nat) (bg1_0 : Nat) (bg1_1 : Nat) (x2 : Int) (b1 : Nat) (b2 : Nat) (b3 : Nat) : ((List Int) × (List Int)) → Act → World → Prop := fun (s : (List Int) × (List Int)) a w => ∃ (b5 : Nat) (v1 : Value) (v2 : Value), St w0 w [Own.blk b5 (.cells #[v1, v2] 36 (0, 0)), Own.blk b3 (.cells #[vI 0, vI 0] 39 (0, 0)), Own.blk b2 (.cells #[.slice none 0 0, .slice none 0 0] 36 (0, 0)), Own.blk b1 (.cells #[.slice A0 l0.length c0] 49 (0, 0)), Own.of v1 3 s.1, Own.of v2 3 s.2] ∧ Frm 98 a [(1, .func (.func 93) #[] #[pP bg1_0 0, pP bg1_1 0]), (2, vI x2), (3, pP b1 0), (6, pP b2 0), (7, pP b3 0), (9, pP b5 0)]
abbrev modes_hosted.B1 (w0 : World) : (SPlayed × SFault) → Exit → Act → World → Prop := Rets Tryd.prog Tryd.f92 (modes_hosted.Post w0)
theorem modes_hosted_p1 (K : Nat) (w0 : World) (l0 : List SJob) (A0 : Option Addr) (c0 : Nat) (bg1_0 : Nat) (xg1_0 : Int) (bg1_1 : Nat) (lg1_1 : List SWindow) (Ag1_1 : Option Addr) (cg1_1 : Nat) (x2 : Int) (hR0 : RdL w0 A0 l0) (hL0 : l0.length ≤ c0) (hBg1_0 : Glob w0 bg1_0 [vI xg1_0]) (hRg1_1 : RdL w0 Ag1_1 lg1_1) (hLg1_1 : lg1_1.length ≤ cg1_1) (hBg1_1 : Glob w0 bg1_1 [.slice Ag1_1 lg1_1.length cg1_1]) (b1 : Nat) (b2 : Nat) (b3 : Nat) (r1 : SFault) (b4 : Nat) (hc1 : r1.Code = 0) (o : ((List Int) × (List Int)) ⊕ (SPlayed × SFault)) (h : modes_hosted.p1 l0 x2 = some o) (w : World) (hS : St w0 w [Own.blk b3 (.cells #[vI 0, vI 0] 39 (0, 0)), Own.blk b2 (.cells #[.slice none 0 0, .slice none 0 0] 36 (0, 0)), Own.blk b1 (.cells #[.slice A0 l0.length c0] 49 (0, 0))]) (Q : Exit → Act → World → Prop) (hQ : ∀ x a w, Outs (modes_hosted.A1 w0 l0 A0 c0 bg1_0 bg1_1 x2 b1 b2 b3) (modes_hosted.B1 w0) o x a w → Q x a w) : WE Tryd.prog 98 (subF Tryd.f92 [1, 1, 1, 0]) Q [(1, .func (.func 93) #[] #[pP bg1_0 0, pP bg1_1 0]), (2, vI x2), (3, pP b1 0), (6, pP b2 0), (7, pP b3 0)] w := by
 simp only [modes_hosted.p1] at h
 refine we_orders2 (by kernel_rfl) [(2, [⟨b1, 0, none⟩])] (.vals [0] (.vals [2] (.vals [3] (.alt 1 1 (.alt 4 1 (.vals [5] (.alt 6 1 (.alt 7 2 .fin .nomore) .nomore)) (.alt 6 1 (.alt 4 1 (.vals [5] (.alt 7 2 .fin .nomore)) .nomore) .nomore)) (.alt 4 1 (.alt 1 1 (.vals [5] (.alt 6 1 (.alt 7 2 .fin .nomore) .nomore)) (.alt 6 1 (.alt 1 1 (.vals [5] (.alt 7 2 .fin .nomore)) .nomore) .nomore)) (.alt 6 1 (.alt 1 1 (.alt 4 1 (.vals [5] (.alt 7 2 .fin .nomore)) .nomore) (.alt 4 1 (.alt 1 1 (.vals [5] (.alt 7 2 .fin .nomore)) .nomore) .nomore)) .nomore)))))) (by kernel_rfl) ?_
 have hS36 := hS.drew
 refine go2_batch [0] (ans := []) (vs := [(30, vI x2)]) (l := []) (by kernel_rfl) trivial mem_nil ?_
 refine go2_batch [2] (ans := [.val (.slice A0 l0.length c0)]) (vs := [(32, .slice A0 l0.length c0)]) (l := [.loaded ⟨b1, 0, none⟩ (.slice A0 l0.length c0)]) (by kernel_rfl) ⟨hS36.c 2, trivial⟩ (mem_one (by kernel_rfl)) ?_
 refine go2_batch [3] (ans := []) (vs := [(33, vI (l0.length : Int))]) (l := []) (by kernel_rfl) trivial mem_nil ?_
 by_cases hc4 : 0 ≤ x2
 ·rw [if_pos hc4] at h
  by_cases hc5 : ((x2).toNat) ≤ 17592186044416
  ·rw [if_pos hc5] at h
   by_cases hc6 : l0.length ≤ 17592186044416
   ·rw [if_pos hc6] at h
    refine go_alt2 (fun KK hKK => ?_) ?_
    ·refine ge_one2 ?_
     refine ge_make (α := Int) (d := 31) (t := 24) (el := 3) (bytes := 8) (l := ((x2).toNat)) (c := ((x2).toNat)) (x := (.tmp 30)) (y := (.tmp 30)) (ty := 24) (k1 := .i64) (k2 := .i64) (li := x2) (ci := x2) (z := vI 0) (z' := (0 : Int)) (by kernel_rfl) (by kernel_rfl) (by kernel_rfl) (Int.toNat_of_nonneg hc4).symm (Int.toNat_of_nonneg hc4).symm (by kernel_rfl) (by kernel_rfl) rfl hS36 (Nat.le_refl _) rfl (by omega) fun v3 w12 _ hS37 => ?_
     refine ge_nil fun a hF => hKK _ _ (RS.of2 (l := [.loaded ⟨b1, 0, none⟩ (.slice A0 l0.length c0)]) (by kernel_rfl) ⟨hS36.c 2, trivial⟩ ⟨hS37.c 3, trivial⟩) ?_ a hF
     refine go_alt2 (fun KK hKK => ?_) ?_
     ·refine ge_one2 ?_
      refine ge_make (α := Int) (d := 34) (t := 24) (el := 3) (bytes := 8) (l := l0.length) (c := l0.length) (x := (.tmp 33)) (y := (.tmp 33)) (ty := 24) (k1 := .i64) (k2 := .i64) (li := (l0.length : Int)) (ci := (l0.length : Int)) (z := vI 0) (z' := (0 : Int)) (by kernel_rfl) (by kernel_rfl) (by kernel_rfl) rfl rfl (by kernel_rfl) (by kernel_rfl) rfl hS37 (Nat.le_refl _) rfl (by omega) fun v4 w13 _ hS38 => ?_
      refine ge_nil fun a hF => hKK _ _ (RS.of2 (l := [.loaded ⟨b1, 0, none⟩ (.slice A0 l0.length c0)]) (by kernel_rfl) ⟨hS37.c 3, trivial⟩ ⟨hS38.c 4, trivial⟩) ?_ a hF
      obtain ⟨Z1, cz1, rfl⟩ := hS38.open 1 rfl
      obtain ⟨Z2, cz2, rfl⟩ := hS38.open 0 rfl
      refine go2_batch [5] (ans := []) (vs := [(35, .agg #[(.slice Z1 (List.replicate ((x2).toNat) (0 : Int)).length cz1), (.slice Z2 (List.replicate l0.length (0 : Int)).length cz2)])]) (l := []) (by kernel_rfl) trivial mem_nil ?_
      refine go_alt2 (fun KK hKK => ?_) ?_
      ·refine ge_one2 ?_
       refine gw (some 9) (.cells #[.slice none 0 0, .slice none 0 0] 36) (fun b => pP b 0) hS38 fun b6 w14 hx5 hS39 => ?_
       refine ge_nil fun a hF => hKK _ _ (RS.of2 (l := [.loaded ⟨b1, 0, none⟩ (.slice A0 l0.length c0)]) (by kernel_rfl) ⟨hS38.c 4, trivial⟩ ⟨hS39.c 5, trivial⟩) ?_ a hF
       refine go_alt2 (fun KK hKK => ?_) ?_
       ·refine gs b6 0 #[.slice none 0 0, .slice none 0 0] 36 [(.slice Z1 (List.replicate ((x2).toNat) (0 : Int)).length cz1), (.slice Z2 (List.replicate l0.length (0 : Int)).length cz2)] hS39 fun w15 hS40 => ?_
        have hS41 : St w0 w15 [Own.blk b6 (.cells #[(.slice Z1 (List.replicate ((x2).toNat) (0 : Int)).length cz1), (.slice Z2 (List.replicate l0.length (0 : Int)).length cz2)] 36 (0, 0)), Own.of (.slice Z2 (List.replicate l0.length (0 : Int)).length cz2) 3 (List.replicate l0.length (0 : Int)), Own.of (.slice Z1 (List.replicate ((x2).toNat) (0 : Int)).length cz1) 3 (List.replicate ((x2).toNat) (0 : Int)), Own.blk b3 (.cells #[vI 0, vI 0] 39 (0, 0)), Own.blk b2 (.cells #[.slice none 0 0, .slice none 0 0] 36 (0, 0)), Own.blk b1 (.cells #[.slice A0 l0.length c0] 49 (0, 0))] := hS40
        refine ge_nil fun a hF => hKK _ _ (RS.of2 (l := []) (by kernel_rfl) trivial trivial) ?_ a hF
        have hS42 := hS41.bring 1 rfl
        have hS43 := hS42.bring 2 rfl
        have hS44 := hS43.bring 5 rfl
        have hS45 := hS44.bring 5 rfl
        have hS46 := hS45.bring 5 rfl
        have hS47 := hS46.bring 5 rfl
        obtain rfl := si h
        exact go_fin2 fun a hF => hQ _ _ _ (Outs.again ⟨b6, (.slice Z1 (List.replicate ((x2).toNat) (0 : Int)).length cz1), (.slice Z2 (List.replicate l0.length (0 : Int)).length cz2), hS47, hF.weaken ea⟩)
       exact go_nomore2
      exact go_nomore2
     refine go_alt2 (fun KK hKK => ?_) ?_
     ·refine ge_one2 ?_
      refine gw (some 9) (.cells #[.slice none 0 0, .slice none 0 0] 36) (fun b => pP b 0) hS37 fun b6 w13 hx5 hS38 => ?_
      refine ge_nil fun a hF => hKK _ _ (RS.of2 (l := [.loaded ⟨b1, 0, none⟩ (.slice A0 l0.length c0)]) (by kernel_rfl) ⟨hS37.c 3, trivial⟩ ⟨hS38.c 4, trivial⟩) ?_ a hF
      refine go_alt2 (fun KK hKK => ?_) ?_
      ·refine ge_one2 ?_
       refine ge_make (α := Int) (d := 34) (t := 24) (el := 3) (bytes := 8) (l := l0.length) (c := l0.length) (x := (.tmp 33)) (y := (.tmp 33)) (ty := 24) (k1 := .i64) (k2 := .i64) (li := (l0.length : Int)) (ci := (l0.length : Int)) (z := vI 0) (z' := (0 : Int)) (by kernel_rfl) (by kernel_rfl) (by kernel_rfl) rfl rfl (by kernel_rfl) (by kernel_rfl) rfl hS38 (Nat.le_refl _) rfl (by omega) fun v4 w14 _ hS39 => ?_
       refine ge_nil fun a hF => hKK _ _ (RS.of2 (l := [.loaded ⟨b1, 0, none⟩ (.slice A0 l0.length c0)]) (by kernel_rfl) ⟨hS38.c 4, trivial⟩ ⟨hS39.c 5, trivial⟩) ?_ a hF
       obtain ⟨Z1, cz1, rfl⟩ := hS39.open 2 rfl
       obtain ⟨Z2, cz2, rfl⟩ := hS39.open 0 rfl
       refine go2_batch [5] (ans := []) (vs := [(35, .agg #[(.slice Z1 (List.replicate ((x2).toNat) (0 : Int)).length cz1), (.slice Z2 (List.replicate l0.length (0 : Int)).length cz2)])]) (l := []) (by kernel_rfl) trivial mem_nil ?_
       refine go_alt2 (fun KK hKK => ?_) ?_
       ·have hS40 := hS39.bring 1 rfl
        refine gs b6 0 #[.slice none 0 0, .slice none 0 0] 36 [(.slice Z1 (List.replicate ((x2).toNat) (0 : Int)).length cz1), (.slice Z2 (List.replicate l0.length (0 : Int)).length cz2)] hS40 fun w15 hS41 => ?_
        have hS42 : St w0 w15 [Own.blk b6 (.cells #[(.slice Z1 (List.replicate ((x2).toNat) (0 : Int)).length cz1), (.slice Z2 (List.replicate l0.length (0 : Int)).length cz2)] 36 (0, 0)), Own.of (.slice Z2 (List.replicate l0.length (0 : Int)).length cz2) 3 (List.replicate l0.length (0 : Int)), Own.of (.slice Z1 (List.replicate ((x2).toNat) (0 : Int)).length cz1) 3 (List.replicate ((x2).toNat) (0 : Int)), Own.blk b3 (.cells #[vI 0, vI 0] 39 (0, 0)), Own.blk b2 (.cells #[.slice none 0 0, .slice none 0 0] 36 (0, 0)), Own.blk b1 (.cells #[.slice A0 l0.length c0] 49 (0, 0))] := hS41
        refine ge_nil fun a hF => hKK _ _ (RS.of2 (l := []) (by kernel_rfl) trivial trivial) ?_ a hF
        have hS43 := hS42.bring 1 rfl
        have hS44 := hS43.bring 2 rfl
        have hS45 := hS44.bring 5 rfl
        have hS46 := hS45.bring 5 rfl
        have hS47 := hS46.bring 5 rfl
        have hS48 := hS47.bring 5 rfl
        obtain rfl := si h
        exact go_fin2 fun a hF => hQ _ _ _ (Outs.again ⟨b6, (.slice Z1 (List.replicate ((x2).toNat) (0 : Int)).length cz1), (.slice Z2 (List.replicate l0.length (0 : Int)).length cz2), hS48, hF.weaken ea⟩)
       exact go_nomore2
      exact go_nomore2
     exact go_nomore2
    refine go_alt2 (fun KK hKK => ?_) ?_
    ·refine ge_one2 ?_
     refine ge_make (α := Int) (d := 34) (t := 24) (el := 3) (bytes := 8) (l := l0.length) (c := l0.length) (x := (.tmp 33)) (y := (.tmp 33)) (ty := 24) (k1 := .i64) (k2 := .i64) (li := (l0.length : Int)) (ci := (l0.length : Int)) (z := vI 0) (z' := (0 : Int)) (by kernel_rfl) (by kernel_rfl) (by kernel_rfl) rfl rfl (by kernel_rfl) (by kernel_rfl) rfl hS36 (Nat.le_refl _) rfl (by omega) fun v3 w12 _ hS37 => ?_
     refine ge_nil fun a hF => hKK _ _ (RS.of2 (l := [.loaded ⟨b1, 0, none⟩ (.slice A0 l0.length c0)]) (by kernel_rfl) ⟨hS36.c 2, trivial⟩ ⟨hS37.c 3, trivial⟩) ?_ a hF
     refine go_alt2 (fun KK hKK => ?_) ?_
     ·refine ge_one2 ?_
      refine ge_make (α := Int) (d := 31) (t := 24) (el := 3) (bytes := 8) (l := ((x2).toNat)) (c := ((x2).toNat)) (x := (.tmp 30)) (y := (.tmp 30)) (ty := 24) (k1 := .i64) (k2 := .i64) (li := x2) (ci := x2) (z := vI 0) (z' := (0 : Int)) (by kernel_rfl) (by kernel_rfl) (by kernel_rfl) (Int.toNat_of_nonneg hc4).symm (Int.toNat_of_nonneg hc4).symm (by kernel_rfl) (by kernel_rfl) rfl hS37 (Nat.le_refl _) rfl (by omega) fun v4 w13 _ hS38 => ?_
      refine ge_nil fun a hF => hKK _ _ (RS.of2 (l := [.loaded ⟨b1, 0, none⟩ (.slice A0 l0.length c0)]) (by kernel_rfl) ⟨hS37.c 3, trivial⟩ ⟨hS38.c 4, trivial⟩) ?_ a hF
      obtain ⟨Z1, cz1, rfl⟩ := hS38.open 0 rfl
      obtain ⟨Z2, cz2, rfl⟩ := hS38.open 1 rfl
      refine go2_batch [5] (ans := []) (vs := [(35, .agg #[(.slice Z1 (List.replicate ((x2).toNat) (0 : Int)).length cz1), (.slice Z2 (List.replicate l0.length (0 : Int)).length cz2)])]) (l := []) (by kernel_rfl) trivial mem_nil ?_
      refine go_alt2 (fun KK hKK => ?_) ?_
      ·refine ge_one2 ?_
       refine gw (some 9) (.cells #[.slice none 0 0, .slice none 0 0] 36) (fun b => pP b 0) hS38 fun b6 w14 hx5 hS39 => ?_
       refine ge_nil fun a hF => hKK _ _ (RS.of2 (l := [.loaded ⟨b1, 0, none⟩ (.slice A0 l0.length c0)]) (by kernel_rfl) ⟨hS38.c 4, trivial⟩ ⟨hS39.c 5, trivial⟩) ?_ a hF
       refine go_alt2 (fun KK hKK => ?_) ?_
       ·refine gs b6 0 #[.slice none 0 0, .slice none 0 0] 36 [(.slice Z1 (List.replicate ((x2).toNat) (0 : Int)).length cz1), (.slice Z2 (List.replicate l0.length (0 : Int)).length cz2)] hS39 fun w15 hS40 => ?_
        have hS41 : St w0 w15 [Own.blk b6 (.cells #[(.slice Z1 (List.replicate ((x2).toNat) (0 : Int)).length cz1), (.slice Z2 (List.replicate l0.length (0 : Int)).length cz2)] 36 (0, 0)), Own.of (.slice Z1 (List.replicate ((x2).toNat) (0 : Int)).length cz1) 3 (List.replicate ((x2).toNat) (0 : Int)), Own.of (.slice Z2 (List.replicate l0.length (0 : Int)).length cz2) 3 (List.replicate l0.length (0 : Int)), Own.blk b3 (.cells #[vI 0, vI 0] 39 (0, 0)), Own.blk b2 (.cells #[.slice none 0 0, .slice none 0 0] 36 (0, 0)), Own.blk b1 (.cells #[.slice A0 l0.length c0] 49 (0, 0))] := hS40
        refine ge_nil fun a hF => hKK _ _ (RS.of2 (l := []) (by kernel_rfl) trivial trivial) ?_ a hF
        have hS42 := hS41.bring 2 rfl
        have hS43 := hS42.bring 2 rfl
        have hS44 := hS43.bring 5 rfl
        have hS45 := hS44.bring 5 rfl
        have hS46 := hS45.bring 5 rfl
        have hS47 := hS46.bring 5 rfl
        obtain rfl := si h
        exact go_fin2 fun a hF => hQ _ _ _ (Outs.again ⟨b6, (.slice Z1 (List.replicate ((x2).toNat) (0 : Int)).length cz1), (.slice Z2 (List.replicate l0.length (0 : Int)).length cz2), hS47, hF.weaken ea⟩)
       exact go_nomore2
      exact go_nomore2
     refine go_alt2 (fun KK hKK => ?_) ?_
     ·refine ge_one2 ?_
      refine gw (some 9) (.cells #[.slice none 0 0, .slice none 0 0] 36) (fun b => pP b 0) hS37 fun b6 w13 hx5 hS38 => ?_
      refine ge_nil fun a hF => hKK _ _ (RS.of2 (l := [.loaded ⟨b1, 0, none⟩ (.slice A0 l0.length c0)]) (by kernel_rfl) ⟨hS37.c 3, trivial⟩ ⟨hS38.c 4, trivial⟩) ?_ a hF
      refine go_alt2 (fun KK hKK => ?_) ?_
      ·refine ge_one2 ?_
       refine ge_make (α := Int) (d := 31) (t := 24) (el := 3) (bytes := 8) (l := ((x2).toNat)) (c := ((x2).toNat)) (x := (.tmp 30)) (y := (.tmp 30)) (ty := 24) (k1 := .i64) (k2 := .i64) (li := x2) (ci := x2) (z := vI 0) (z' := (0 : Int)) (by kernel_rfl) (by kernel_rfl) (by kernel_rfl) (Int.toNat_of_nonneg hc4).symm (Int.toNat_of_nonneg hc4).symm (by kernel_rfl) (by kernel_rfl) rfl hS38 (Nat.le_refl _) rfl (by omega) fun v4 w14 _ hS39 => ?_
       refine ge_nil fun a hF => hKK _ _ (RS.of2 (l := [.loaded ⟨b1, 0, none⟩ (.slice A0 l0.length c0)]) (by kernel_rfl) ⟨hS38.c 4, trivial⟩ ⟨hS39.c 5, trivial⟩) ?_ a hF
       obtain ⟨Z1, cz1, rfl⟩ := hS39.open 0 rfl
       obtain ⟨Z2, cz2, rfl⟩ := hS39.open 2 rfl
       refine go2_batch [5] (ans := []) (vs := [(35, .agg #[(.slice Z1 (List.replicate ((x2).toNat) (0 : Int)).length cz1), (.slice Z2 (List.replicate l0.length (0 : Int)).length cz2)])]) (l := []) (by kernel_rfl) trivial mem_nil ?_
       refine go_alt2 (fun KK hKK => ?_) ?_
       ·have hS40 := hS39.bring 1 rfl
        refine gs b6 0 #[.slice none 0 0, .slice none 0 0] 36 [(.slice Z1 (List.replicate ((x2).toNat) (0 : Int)).length cz1), (.slice Z2 (List.replicate l0.length (0 : Int)).length cz2)] hS40 fun w15 hS41 => ?_
        have hS42 : St w0 w15 [Own.blk b6 (.cells #[(.slice Z1 (List.replicate ((x2).toNat) (0 : Int)).length cz1), (.slice Z2 (List.replicate l0.length (0 : Int)).length cz2)] 36 (0, 0)), Own.of (.slice Z1 (List.replicate ((x2).toNat) (0 : Int)).length cz1) 3 (List.replicate ((x2).toNat) (0 : Int)), Own.of (.slice Z2 (List.replicate l0.length (0 : Int)).length cz2) 3 (List.replicate l0.length (0 : Int)), Own.blk b3 (.cells #[vI 0, vI 0] 39 (0, 0)), Own.blk b2 (.cells #[.slice none 0 0, .slice none 0 0] 36 (0, 0)), Own.blk b1 (.cells #[.slice A0 l0.length c0] 49 (0, 0))] := hS41
        refine ge_nil fun a hF => hKK _ _ (RS.of2 (l := []) (by kernel_rfl) trivial trivial) ?_ a hF
        have hS43 := hS42.bring 2 rfl
        have hS44 := hS43.bring 2 rfl
        have hS45 := hS44.bring 5 rfl
        have hS46 := hS45.bring 5 rfl
        have hS47 := hS46.bring 5 rfl
        have hS48 := hS47.bring 5 rfl
        obtain rfl := si h
        exact go_fin2 fun a hF => hQ _ _ _ (Outs.again ⟨b6, (.slice Z1 (List.replicate ((x2).toNat) (0 : Int)).length cz1), (.slice Z2 (List.replicate l0.length (0 : Int)).length cz2), hS48, hF.weaken ea⟩)
       exact go_nomore2
      exact go_nomore2
     exact go_nomore2
    refine go_alt2 (fun KK hKK => ?_) ?_
    ·refine ge_one2 ?_
     refine gw (some 9) (.cells #[.slice none 0 0, .slice none 0 0] 36) (fun b => pP b 0) hS36 fun b6 w12 hx5 hS37 => ?_
     refine ge_nil fun a hF => hKK _ _ (RS.of2 (l := [.loaded ⟨b1, 0, none⟩ (.slice A0 l0.length c0)]) (by kernel_rfl) ⟨hS36.c 2, trivial⟩ ⟨hS37.c 3, trivial⟩) ?_ a hF
     refine go_alt2 (fun KK hKK => ?_) ?_
     ·refine ge_one2 ?_
      refine ge_make (α := Int) (d := 31) (t := 24) (el := 3) (bytes := 8) (l := ((x2).toNat)) (c := ((x2).toNat)) (x := (.tmp 30)) (y := (.tmp 30)) (ty := 24) (k1 := .i64) (k2 := .i64) (li := x2) (ci := x2) (z := vI 0) (z' := (0 : Int)) (by kernel_rfl) (by kernel_rfl) (by kernel_rfl) (Int.toNat_of_nonneg hc4).symm (Int.toNat_of_nonneg hc4).symm (by kernel_rfl) (by kernel_rfl) rfl hS37 (Nat.le_refl _) rfl (by omega) fun v3 w13 _ hS38 => ?_
      refine ge_nil fun a hF => hKK _ _ (RS.of2 (l := [.loaded ⟨b1, 0, none⟩ (.slice A0 l0.length c0)]) (by kernel_rfl) ⟨hS37.c 3, trivial⟩ ⟨hS38.c 4, trivial⟩) ?_ a hF
      refine go_alt2 (fun KK hKK => ?_) ?_
      ·refine ge_one2 ?_
       refine ge_make (α := Int) (d := 34) (t := 24) (el := 3) (bytes := 8) (l := l0.length) (c := l0.length) (x := (.tmp 33)) (y := (.tmp 33)) (ty := 24) (k1 := .i64) (k2 := .i64) (li := (l0.length : Int)) (ci := (l0.length : Int)) (z := vI 0) (z' := (0 : Int)) (by kernel_rfl) (by kernel_rfl) (by kernel_rfl) rfl rfl (by kernel_rfl) (by kernel_rfl) rfl hS38 (Nat.le_refl _) rfl (by omega) fun v4 w14 _ hS39 => ?_
       refine ge_nil fun a hF => hKK _ _ (RS.of2 (l := [.loaded ⟨b1, 0, none⟩ (.slice A0 l0.length c0)]) (by kernel_rfl) ⟨hS38.c 4, trivial⟩ ⟨hS39.c 5, trivial⟩) ?_ a hF
       obtain ⟨Z1, cz1, rfl⟩ := hS39.open 1 rfl
       obtain ⟨Z2, cz2, rfl⟩ := hS39.open 0 rfl
       refine go2_batch [5] (ans := []) (vs := [(35, .agg #[(.slice Z1 (List.replicate ((x2).toNat) (0 : Int)).length cz1), (.slice Z2 (List.replicate l0.length (0 : Int)).length cz2)])]) (l := []) (by kernel_rfl) trivial mem_nil ?_
       refine go_alt2 (fun KK hKK => ?_) ?_
       ·have hS40 := hS39.bring 2 rfl
        refine gs b6 0 #[.slice none 0 0, .slice none 0 0] 36 [(.slice Z1 (List.replicate ((x2).toNat) (0 : Int)).length cz1), (.slice Z2 (List.replicate l0.length (0 : Int)).length cz2)] hS40 fun w15 hS41 => ?_
        have hS42 : St w0 w15 [Own.blk b6 (.cells #[(.slice Z1 (List.replicate ((x2).toNat) (0 : Int)).length cz1), (.slice Z2 (List.replicate l0.length (0 : Int)).length cz2)] 36 (0, 0)), Own.of (.slice Z2 (List.replicate l0.length (0 : Int)).length cz2) 3 (List.replicate l0.length (0 : Int)), Own.of (.slice Z1 (List.replicate ((x2).toNat) (0 : Int)).length cz1) 3 (List.replicate ((x2).toNat) (0 : Int)), Own.blk b3 (.cells #[vI 0, vI 0] 39 (0, 0)), Own.blk b2 (.cells #[.slice none 0 0, .slice none 0 0] 36 (0, 0)), Own.blk b1 (.cells #[.slice A0 l0.length c0] 49 (0, 0))] := hS41
        refine ge_nil fun a hF => hKK _ _ (RS.of2 (l := []) (by kernel_rfl) trivial trivial) ?_ a hF
        have hS43 := hS42.bring 1 rfl
        have hS44 := hS43.bring 2 rfl
        have hS45 := hS44.bring 5 rfl
        have hS46 := hS45.bring 5 rfl
        have hS47 := hS46.bring 5 rfl
        have hS48 := hS47.bring 5 rfl
        obtain rfl := si h
        exact go_fin2 fun a hF => hQ _ _ _ (Outs.again ⟨b6, (.slice Z1 (List.replicate ((x2).toNat) (0 : Int)).length cz1), (.slice Z2 (List.replicate l0.length (0 : Int)).length cz2), hS48, hF.weaken ea⟩)
       exact go_nomore2
      exact go_nomore2
     refine go_alt2 (fun KK hKK => ?_) ?_
     ·refine ge_one2 ?_
      refine ge_make (α := Int) (d := 34) (t := 24) (el := 3) (bytes := 8) (l := l0.length) (c := l0.length) (x := (.tmp 33)) (y := (.tmp 33)) (ty := 24) (k1 := .i64) (k2 := .i64) (li := (l0.length : Int)) (ci := (l0.length : Int)) (z := vI 0) (z' := (0 : Int)) (by kernel_rfl) (by kernel_rfl) (by kernel_rfl) rfl rfl (by kernel_rfl) (by kernel_rfl) rfl hS37 (Nat.le_refl _) rfl (by omega) fun v3 w13 _ hS38 => ?_
      refine ge_nil fun a hF => hKK _ _ (RS.of2 (l := [.loaded ⟨b1, 0, none⟩ (.slice A0 l0.length c0)]) (by kernel_rfl) ⟨hS37.c 3, trivial⟩ ⟨hS38.c 4, trivial⟩) ?_ a hF
      refine go_alt2 (fun KK hKK => ?_) ?_
      ·refine ge_one2 ?_
       refine ge_make (α := Int) (d := 31) (t := 24) (el := 3) (bytes := 8) (l := ((x2).toNat)) (c := ((x2).toNat)) (x := (.tmp 30)) (y := (.tmp 30)) (ty := 24) (k1 := .i64) (k2 := .i64) (li := x2) (ci := x2) (z := vI 0) (z' := (0 : Int)) (by kernel_rfl) (by kernel_rfl) (by kernel_rfl) (Int.toNat_of_nonneg hc4).symm (Int.toNat_of_nonneg hc4).symm (by kernel_rfl) (by kernel_rfl) rfl hS38 (Nat.le_refl _) rfl (by omega) fun v4 w14 _ hS39 => ?_
       refine ge_nil fun a hF => hKK _ _ (RS.of2 (l := [.loaded ⟨b1, 0, none⟩ (.slice A0 l0.length c0)]) (by kernel_rfl) ⟨hS38.c 4, trivial⟩ ⟨hS39.c 5, trivial⟩) ?_ a hF
       obtain ⟨Z1, cz1, rfl⟩ := hS39.open 0 rfl
       obtain ⟨Z2, cz2, rfl⟩ := hS39.open 1 rfl
       refine go2_batch [5] (ans := []) (vs := [(35, .agg #[(.slice Z1 (List.replicate ((x2).toNat) (0 : Int)).length cz1), (.slice Z2 (List.replicate l0.length (0 : Int)).length cz2)])]) (l := []) (by kernel_rfl) trivial mem_nil ?_
       refine go_alt2 (fun KK hKK => ?_) ?_
       ·have hS40 := hS39.bring 2 rfl
        refine gs b6 0 #[.slice none 0 0, .slice none 0 0] 36 [(.slice Z1 (List.replicate ((x2).toNat) (0 : Int)).length cz1), (.slice Z2 (List.replicate l0.length (0 : Int)).length cz2)] hS40 fun w15 hS41 => ?_
        have hS42 : St w0 w15 [Own.blk b6 (.cells #[(.slice Z1 (List.replicate ((x2).toNat) (0 : Int)).length cz1), (.slice Z2 (List.replicate l0.length (0 : Int)).length cz2)] 36 (0, 0)), Own.of (.slice Z1 (List.replicate ((x2).toNat) (0 : Int)).length cz1) 3 (List.replicate ((x2).toNat) (0 : Int)), Own.of (.slice Z2 (List.replicate l0.length (0 : Int)).length cz2) 3 (List.replicate l0.length (0 : Int)), Own.blk b3 (.cells #[vI 0, vI 0] 39 (0, 0)), Own.blk b2 (.cells #[.slice none 0 0, .slice none 0 0] 36 (0, 0)), Own.blk b1 (.cells #[.slice A0 l0.length c0] 49 (0, 0))] := hS41
        refine ge_nil fun a hF => hKK _ _ (RS.of2 (l := []) (by kernel_rfl) trivial trivial) ?_ a hF
        have hS43 := hS42.bring 2 rfl
        have hS44 := hS43.bring 2 rfl
        have hS45 := hS44.bring 5 rfl
        have hS46 := hS45.bring 5 rfl
        have hS47 := hS46.bring 5 rfl
        have hS48 := hS47.bring 5 rfl
        obtain rfl := si h
        exact go_fin2 fun a hF => hQ _ _ _ (Outs.again ⟨b6, (.slice Z1 (List.replicate ((x2).toNat) (0 : Int)).length cz1), (.slice Z2 (List.replicate l0.length (0 : Int)).length cz2), hS48, hF.weaken ea⟩)
       exact go_nomore2
      exact go_nomore2
     exact go_nomore2
    exact go_nomore2
   ·rw [if_neg hc6] at h
    cases h
  ·rw [if_neg hc5] at h
   cases h
 ·rw [if_neg hc4] at h
  cases h
abbrev modes_hosted.A2 (w0 : World) (l0 : List SJob) (A0 : Option Addr) (c0 : Nat) (bg1_0 : Nat) (bg1_1 : Nat) (x2 : Int) (b1 : Nat) (b2 : Nat) (b3 : Nat) (b7 : Nat) (m3 : List Int) (b8 : Nat) (Z3 : Option Addr) (cz3 : Nat) (Z4 : Option Addr) (cz4 : Nat) (Z5 : Option Addr) (cz5 : Nat) : (Nat × (List Int) × (List Int)) → Act → World → Prop := fun (s : Nat × (List Int) × (List Int)) a w => St w0 w [Own.blk b8 (.cells #[(.slice Z3 s.2.1.length cz3)] 24 (0, 0)), Own.blk b7 (.cells #[(.slice Z4 m3.length cz4), (.slice Z5 s.2.2.length cz5)] 36 (0, 0)), Own.blk b3 (.cells #[vI 0, vI 0] 39 (0, 0)), Own.blk b2 (.cells #[.slice none 0 0, .slice none 0 0] 36 (0, 0)), Own.blk b1 (.cells #[.slice A0 l0.length c0] 49 (0, 0)), Own.of (.slice Z3 s.2.1.length cz3) 3 s.2.1, Own.of (.slice Z4 m3.length cz4) 3 m3, Own.of (.slice Z5 s.2.2.length cz5) 3 s.2.2] ∧ Frm 98 a [(1, .func (.func 93) #[] #[pP bg1_0 0, pP bg1_1 0]), (2, vI x2), (3, pP b1 0), (6, pP b2 0), (7, pP b3 0), (9, pP b7 0), (10, pP b8 0), (39, .slice A0 l0.length c0), (40, vI (l0.length : Int)), (41, vI (s.1 : Int))]
abbrev modes_hosted.B2 (w0 : World) (l0 : List SJob) (A0 : Option Addr) (c0 : Nat) (bg1_0 : Nat) (bg1_1 : Nat) (x2 : Int) (b1 : Nat) (b2 : Nat) (b3 : Nat) (b7 : Nat) (m3 : List Int) (b8 : Nat) (Z3 : Option Addr) (cz3 : Nat) (Z4 : Option Addr) (cz4 : Nat) (Z5 : Option Addr) (cz5 : Nat) : (((List Int) × (List Int)) ⊕ (SPlayed × SFault)) → Exit → Act → World → Prop := Exits 0 (fun (s : (List Int) × (List Int)) a w => St w0 w [Own.blk b8 (.cells #[(.slice Z3 s.1.length cz3)] 24 (0, 0)), Own.blk b7 (.cells #[(.slice Z4 m3.length cz4), (.slice Z5 s.2.length cz5)] 36 (0, 0)), Own.blk b3 (.cells #[vI 0, vI 0] 39 (0, 0)), Own.blk b2 (.cells #[.slice none 0 0, .slice none 0 0] 36 (0, 0)), Own.blk b1 (.cells #[.slice A0 l0.length c0] 49 (0, 0)), Own.of (.slice Z3 s.1.length cz3) 3 s.1, Own.of (.slice Z4 m3.length cz4) 3 m3, Own.of (.slice Z5 s.2.length cz5) 3 s.2] ∧ Frm 98 a [(1, .func (.func 93) #[] #[pP bg1_0 0, pP bg1_1 0]), (2, vI x2), (3, pP b1 0), (6, pP b2 0), (7, pP b3 0), (9, pP b7 0), (10, pP b8 0)]) (Rets Tryd.prog Tryd.f92 (modes_hosted.Post w0))
theorem modes_hosted_r2 (K : Nat) (w0 : World) (l0 : List SJob) (A0 : Option Addr) (c0 : Nat) (bg1_0 : Nat) (xg1_0 : Int) (bg1_1 : Nat) (lg1_1 : List SWindow) (Ag1_1 : Option Addr) (cg1_1 : Nat) (x2 : Int) (hR0 : RdL w0 A0 l0) (hL0 : l0.length ≤ c0) (hBg1_0 : Glob w0 bg1_0 [vI xg1_0]) (hRg1_1 : RdL w0 Ag1_1 lg1_1) (hLg1_1 : lg1_1.length ≤ cg1_1) (hBg1_1 : Glob w0 bg1_1 [.slice Ag1_1 lg1_1.length cg1_1]) (b1 : Nat) (b2 : Nat) (b3 : Nat) (r1 : SFault) (b4 : Nat) (hc1 : r1.Code = 0) (b7 : Nat) (m3 : List Int) (m4 : List Int) (hc7 : l0.length ≤ 17592186044416) (b8 : Nat) (Z3 : Option Addr) (cz3 : Nat) (Z4 : Option Addr) (cz4 : Nat) (Z5 : Option Addr) (cz5 : Nat) (s : Nat × (List Int) × (List Int)) (o : (Nat × (List Int) × (List Int)) ⊕ (((List Int) × (List Int)) ⊕ (SPlayed × SFault))) (h : modes_hosted.r2 l0 s = some o) (a : Act) (w : World) (hA : modes_hosted.A2 w0 l0 A0 c0 bg1_0 bg1_1 x2 b1 b2 b3 b7 m3 b8 Z3 cz3 Z4 cz4 Z5 cz5 s a w) (Q : Exit → Act → World → Prop) (hQ : ∀ x a w, Outs (modes_hosted.A2 w0 l0 A0 c0 bg1_0 bg1_1 x2 b1 b2 b3 b7 m3 b8 Z3 cz3 Z4 cz4 Z5 cz5) (modes_hosted.B2 w0 l0 A0 c0 bg1_0 bg1_1 x2 b1 b2 b3 b7 m3 b8 Z3 cz3 Z4 cz4 Z5 cz5) o x a w → Q x a w) : (subF Tryd.f92 [1, 1, 1, 1, 1, 0, 1, 0, 0]).wp Tryd.prog Q a w := by
 obtain ⟨i1, m5, m6⟩ := s
 obtain ⟨hS, hF⟩ := hA
 replace hS : St w0 w [Own.blk b8 (.cells #[(.slice Z3 m5.length cz3)] 24 (0, 0)), Own.blk b7 (.cells #[(.slice Z4 m3.length cz4), (.slice Z5 m6.length cz5)] 36 (0, 0)), Own.blk b3 (.cells #[vI 0, vI 0] 39 (0, 0)), Own.blk b2 (.cells #[.slice none 0 0, .slice none 0 0] 36 (0, 0)), Own.blk b1 (.cells #[.slice A0 l0.length c0] 49 (0, 0)), Own.of (.slice Z3 m5.length cz3) 3 m5, Own.of (.slice Z4 m3.length cz4) 3 m3, Own.of (.slice Z5 m6.length cz5) 3 m6] := hS
 simp only [modes_hosted.r2] at h
 refine (?_ : WE Tryd.prog 98 (subF Tryd.f92 [1, 1, 1, 1, 1, 0, 1, 0, 0]) Q [(1, .func (.func 93) #[] #[pP bg1_0 0, pP bg1_1 0]), (2, vI x2), (3, pP b1 0), (6, pP b2 0), (7, pP b3 0), (9, pP b7 0), (10, pP b8 0), (39, .slice A0 l0.length c0), (40, vI (l0.length : Int)), (41, vI (i1 : Int))] w) a hF
 clear hF a
 refine ws fun K13 hK13 => ?_
 refine wr [(0, 0)] ?_
 refine gb0 [0] [(42, .bool (decide ((i1 : Int) < (l0.length : Int))))] ?_
 refine gn hK13 ?_
 refine ws fun K14 hK14 => ?_
 by_cases hc8 : (i1 : Int) < (l0.length : Int)
 ·rw [if_pos hc8] at h
  refine wk 42 (decide ((i1 : Int) < (l0.length : Int))) true (decide_eq_true hc8) ?_
  refine we_true (by kernel_rfl) ?_
  refine we_skip fun a hF => hK14 _ _ ?_ a hF
  refine ws fun K15 hK15 => ?_
  refine we_block ?_
  refine ws fun K16 hK16 => ?_
  refine wr [(0, 0), (1, 0), (2, 0), (3, 1), (4, 0), (5, 2)] ?_
  refine gb0 [0] [(43, vI (i1 : Int))] ?_
  rcases hx7 : l0[i1]? with _ | e1
  ·rw [hx7] at h; cases h
  rw [hx7] at h
  simp only [] at h
  refine gi 44 0 49 58 5 l0.length c0 (.tmp 39) (.tmp 41) A0 .i64 (i1 : Int) i1 ((hS.rd hR0).eqSome (pos_of_get hx7)) rfl (lt_of_get hx7) ?_
  refine gb [2] [(45, .agg #[vI e1.Task, vI e1.At, vI e1.C, vI e1.Due, vI e1.P])] [.loaded ⟨blkOf A0, offOf A0 + i1 * 5, none⟩ (vI e1.Task), .loaded ⟨blkOf A0, offOf A0 + i1 * 5 + 1, none⟩ (vI e1.At), .loaded ⟨blkOf A0, offOf A0 + i1 * 5 + 2, none⟩ (vI e1.C), .loaded ⟨blkOf A0, offOf A0 + i1 * 5 + 3, none⟩ (vI e1.Due), .loaded ⟨blkOf A0, offOf A0 + i1 * 5 + 4, none⟩ (vI e1.P)] ⟨RdL.cell (j := 0) (hS.rd hR0) hx7 rfl, RdL.cell (j := 1) (hS.rd hR0) hx7 rfl, RdL.cell (j := 2) (hS.rd hR0) hx7 rfl, RdL.cell (j := 3) (hS.rd hR0) hx7 rfl, RdL.cell (j := 4) (hS.rd hR0) hx7 rfl, trivial⟩ ?_
  refine gw (some 12) (.cells #[vI 0, vI 0, vI 0, vI 0, vI 0] 58) (fun b => pP b 0) hS fun b9 w20 hx8 hS62 => ?_
  refine gb0 [4] [(11, vI (i1 : Int))] ?_
  refine gs b9 0 #[vI 0, vI 0, vI 0, vI 0, vI 0] 58 [vI e1.Task, vI e1.At, vI e1.C, vI e1.Due, vI e1.P] hS62 fun w21 hS63 => ?_
  have hS64 : St w0 w21 [Own.blk b9 (.cells #[vI e1.Task, vI e1.At, vI e1.C, vI e1.Due, vI e1.P] 58 (0, 0)), Own.blk b8 (.cells #[(.slice Z3 m5.length cz3)] 24 (0, 0)), Own.blk b7 (.cells #[(.slice Z4 m3.length cz4), (.slice Z5 m6.length cz5)] 36 (0, 0)), Own.blk b3 (.cells #[vI 0, vI 0] 39 (0, 0)), Own.blk b2 (.cells #[.slice none 0 0, .slice none 0 0] 36 (0, 0)), Own.blk b1 (.cells #[.slice A0 l0.length c0] 49 (0, 0)), Own.of (.slice Z3 m5.length cz3) 3 m5, Own.of (.slice Z4 m3.length cz4) 3 m3, Own.of (.slice Z5 m6.length cz5) 3 m6] := hS63
  refine gn hK16 ?_
  refine we_orders2 (by kernel_rfl) [(0, [⟨b8, 0, none⟩]), (3, [⟨b7, 1, none⟩]), (6, [⟨b9, 2, none⟩])] (.vals [0] (.vals [1] (.vals [2] (.vals [3] (.vals [4] (.vals [5] (.vals [6] (.vals [7] (.alt 8 2 (.vals [9] (.alt 10 2 .fin .nomore)) .nomore))))))))) (by kernel_rfl) ?_
  have hS65 := hS64.drew
  refine go2_batch [0] (ans := [.val ((.slice Z3 m5.length cz3))]) (vs := [(46, (.slice Z3 m5.length cz3))]) (l := [.loaded ⟨b8, 0, none⟩ ((.slice Z3 m5.length cz3))]) (by kernel_rfl) ⟨hS65.c 1, trivial⟩ (mem_one (by kernel_rfl)) ?_
  refine go2_batch [1, 2] (ans := []) (vs := [(48, pP b7 1), (47, vI (i1 : Int))]) (l := []) (by kernel_rfl) trivial mem_nil ?_
  refine go2_batch [3] (ans := [.val ((.slice Z5 m6.length cz5))]) (vs := [(49, (.slice Z5 m6.length cz5))]) (l := [.loaded ⟨b7, 1, none⟩ ((.slice Z5 m6.length cz5))]) (by kernel_rfl) ⟨hS65.c 2, trivial⟩ (mem_one (by kernel_rfl)) ?_
  refine go2_batch [4, 5] (ans := []) (vs := [(51, pP b9 2), (50, vI (i1 : Int))]) (l := []) (by kernel_rfl) trivial mem_nil ?_
  refine go2_batch [6] (ans := [.val (vI e1.C)]) (vs := [(52, vI e1.C)]) (l := [.loaded ⟨b9, 2, none⟩ (vI e1.C)]) (by kernel_rfl) ⟨hS65.c 0, trivial⟩ (mem_one (by kernel_rfl)) ?_
  rcases hx9 : m5[i1]? with _ | e2
  ·rw [hx9] at h; cases h
  rw [hx9] at h
  simp only [] at h
  refine go2_index (d := 53) (ty := 0) (t := 24) (el := 3) (sz := 1) (m := m5.length) (c := cz3) (x := (.tmp 46)) (y := (.tmp 47)) (A := Z3) (k' := .i64) (j := (i1 : Int)) (jn := i1) (b0 := blkOf Z3) (o0 := offOf Z3) (by kernel_rfl) (by kernel_rfl) (by kernel_rfl) (by kernel_rfl) (by kernel_rfl) ((hS65.rdAt 6 rfl).eqSome (pos_of_get hx9)) rfl (lt_of_get hx9) ?_
  refine go_alt2 (fun KK hKK => ?_) ?_
  ·have hS66 := hS65.bring 6 rfl
   refine ge_seti (α := Int) (A := Z3) (nn := m5.length) (c := cz3) (t := 3) (l := m5) (x := e2) (x' := e1.C) (jn := i1) (j := 0) (vs := [vI e1.C]) (l' := [.stored ⟨blkOf Z3, offOf Z3 + i1 * 1, none⟩ (vI e1.C)]) hS66 (by kernel_rfl) (by kernel_rfl) hx9 rfl rfl rfl fun w22 hS67 => ?_
   have hS68 : St w0 w22 [Own.of (.slice Z3 m5.length cz3) 3 (m5.set i1 e1.C), Own.blk b9 (.cells #[vI e1.Task, vI e1.At, vI e1.C, vI e1.Due, vI e1.P] 58 (0, 0)), Own.blk b8 (.cells #[(.slice Z3 m5.length cz3)] 24 (0, 0)), Own.blk b7 (.cells #[(.slice Z4 m3.length cz4), (.slice Z5 m6.length cz5)] 36 (0, 0)), Own.blk b3 (.cells #[vI 0, vI 0] 39 (0, 0)), Own.blk b2 (.cells #[.slice none 0 0, .slice none 0 0] 36 (0, 0)), Own.blk b1 (.cells #[.slice A0 l0.length c0] 49 (0, 0)), Own.of (.slice Z4 m3.length cz4) 3 m3, Own.of (.slice Z5 m6.length cz5) 3 m6] := hS67
   have hE1 : m5.length = (m5.set i1 e1.C).length := hS68.lenAt 0 rfl
   have hS69 : St w0 w22 [Own.of (.slice Z3 (m5.set i1 e1.C).length cz3) 3 (m5.set i1 e1.C), Own.blk b9 (.cells #[vI e1.Task, vI e1.At, vI e1.C, vI e1.Due, vI e1.P] 58 (0, 0)), Own.blk b8 (.cells #[(.slice Z3 (m5.set i1 e1.C).length cz3)] 24 (0, 0)), Own.blk b7 (.cells #[(.slice Z4 m3.length cz4), (.slice Z5 m6.length cz5)] 36 (0, 0)), Own.blk b3 (.cells #[vI 0, vI 0] 39 (0, 0)), Own.blk b2 (.cells #[.slice none 0 0, .slice none 0 0] 36 (0, 0)), Own.blk b1 (.cells #[.slice A0 l0.length c0] 49 (0, 0)), Own.of (.slice Z4 m3.length cz4) 3 m3, Own.of (.slice Z5 m6.length cz5) 3 m6] := by rw [← hE1]; exact hS68
   refine ge_same (t := 46) (v := (.slice Z3 m5.length cz3)) (v' := (.slice Z3 (m5.set i1 e1.C).length cz3)) (by kernel_rfl) (by rw [hE1]) ?_
   refine ge_nil fun a hF => hKK _ _ (RS.of2 (l := [.loaded ⟨b7, 1, none⟩ ((.slice Z5 m6.length cz5))]) (by kernel_rfl) ⟨hS65.c 2, trivial⟩ ⟨hS69.c 3, trivial⟩) ?_ a hF
   rcases hx10 : m6[i1]? with _ | e3
   ·rw [hx10] at h; cases h
   rw [hx10] at h
   simp only [] at h
   refine go2_index (d := 54) (ty := 0) (t := 24) (el := 3) (sz := 1) (m := m6.length) (c := cz5) (x := (.tmp 49)) (y := (.tmp 50)) (A := Z5) (k' := .i64) (j := (i1 : Int)) (jn := i1) (b0 := blkOf Z5) (o0 := offOf Z5) (by kernel_rfl) (by kernel_rfl) (by kernel_rfl) (by kernel_rfl) (by kernel_rfl) ((hS69.rdAt 8 rfl).eqSome (pos_of_get hx10)) rfl (lt_of_get hx10) ?_
   refine go_alt2 (fun KK hKK => ?_) ?_
   ·have hS70 := hS69.bring 8 rfl
    refine ge_seti (α := Int) (A := Z5) (nn := m6.length) (c := cz5) (t := 3) (l := m6) (x := e3) (x' := (-1)) (jn := i1) (j := 0) (vs := [vI (-1)]) (l' := [.stored ⟨blkOf Z5, offOf Z5 + i1 * 1, none⟩ (vI (-1))]) hS70 (by kernel_rfl) (by kernel_rfl) hx10 rfl rfl rfl fun w23 hS71 => ?_
    have hS72 : St w0 w23 [Own.of (.slice Z5 m6.length cz5) 3 (m6.set i1 (-1)), Own.of (.slice Z3 (m5.set i1 e1.C).length cz3) 3 (m5.set i1 e1.C), Own.blk b9 (.cells #[vI e1.Task, vI e1.At, vI e1.C, vI e1.Due, vI e1.P] 58 (0, 0)), Own.blk b8 (.cells #[(.slice Z3 (m5.set i1 e1.C).length cz3)] 24 (0, 0)), Own.blk b7 (.cells #[(.slice Z4 m3.length cz4), (.slice Z5 m6.length cz5)] 36 (0, 0)), Own.blk b3 (.cells #[vI 0, vI 0] 39 (0, 0)), Own.blk b2 (.cells #[.slice none 0 0, .slice none 0 0] 36 (0, 0)), Own.blk b1 (.cells #[.slice A0 l0.length c0] 49 (0, 0)), Own.of (.slice Z4 m3.length cz4) 3 m3] := hS71
    have hE2 : m6.length = (m6.set i1 (-1)).length := hS72.lenAt 0 rfl
    have hS73 : St w0 w23 [Own.of (.slice Z5 (m6.set i1 (-1)).length cz5) 3 (m6.set i1 (-1)), Own.of (.slice Z3 (m5.set i1 e1.C).length cz3) 3 (m5.set i1 e1.C), Own.blk b9 (.cells #[vI e1.Task, vI e1.At, vI e1.C, vI e1.Due, vI e1.P] 58 (0, 0)), Own.blk b8 (.cells #[(.slice Z3 (m5.set i1 e1.C).length cz3)] 24 (0, 0)), Own.blk b7 (.cells #[(.slice Z4 m3.length cz4), (.slice Z5 (m6.set i1 (-1)).length cz5)] 36 (0, 0)), Own.blk b3 (.cells #[vI 0, vI 0] 39 (0, 0)), Own.blk b2 (.cells #[.slice none 0 0, .slice none 0 0] 36 (0, 0)), Own.blk b1 (.cells #[.slice A0 l0.length c0] 49 (0, 0)), Own.of (.slice Z4 m3.length cz4) 3 m3] := by rw [← hE2]; exact hS72
    refine ge_same (t := 49) (v := (.slice Z5 m6.length cz5)) (v' := (.slice Z5 (m6.set i1 (-1)).length cz5)) (by kernel_rfl) (by rw [hE2]) ?_
    refine ge_nil fun a hF => hKK _ _ (RS.of2 (l := []) (by kernel_rfl) trivial trivial) ?_ a hF
    refine go_fin2 fun a hF => hK15 _ _ ?_ a hF
    refine wr [(0, 0), (1, 0)] ?_
    refine ge_addn (d := 55) (ty := 3) (x := (.tmp 41)) (y := (.const (vI 1))) (t := 3) (t2 := 3) (k := .i64) (m := i1) (by kernel_rfl) (by kernel_rfl) (by kernel_rfl) (by have h0 := hR0.small; omega) ?_
    refine gb0 [1] [(41, vI ((i1 + 1 : Nat) : Int))] ?_
    have hS74 := hS73.bring 8 rfl
    have hS75 := hS74.bring 2 rfl
    have hS76 := hS75.bring 8 rfl
    have hS77 := hS76.bring 8 rfl
    have hS78 := hS77.bring 8 rfl
    have hS79 := hS78.bring 8 rfl
    have hS80 := hS79.bring 8 rfl
    have hS81 := hS80.takeN 8
    obtain rfl := si h
    exact ge_nil fun a hF => hQ _ _ _ (Outs.again ⟨hS81, hF.weaken ea⟩)
   exact go_nomore2
  exact go_nomore2
 ·rw [if_neg hc8] at h
  refine wk 42 (decide ((i1 : Int) < (l0.length : Int))) false (decide_eq_false hc8) ?_
  refine we_false (by kernel_rfl) ?_
  have hS82 := hS.bring 7 rfl
  have hS83 := hS82.bring 7 rfl
  have hS84 := hS83.bring 7 rfl
  have hS85 := hS84.bring 7 rfl
  have hS86 := hS85.bring 7 rfl
  have hS87 := hS86.bring 7 rfl
  have hS88 := hS87.bring 7 rfl
  have hS89 := hS88.bring 7 rfl
  obtain rfl := si h
  exact we_exit fun a hF => hQ _ _ _ (Outs.out nofun (Exits.here ⟨hS89, hF.weaken ea⟩))
abbrev modes_hosted.A3 (w0 : World) (l0 : List SJob) (A0 : Option Addr) (c0 : Nat) (bg1_0 : Nat) (bg1_1 : Nat) (x2 : Int) (b1 : Nat) (b2 : Nat) (b3 : Nat) (b7 : Nat) (b8 : Nat) (Z3 : Option Addr) (cz3 : Nat) (Z4 : Option Addr) (cz4 : Nat) (Z5 : Option Addr) (cz5 : Nat) : (Int × (List Int) × (List Int) × (List Int)) → Act → World → Prop := fun (s : Int × (List Int) × (List Int) × (List Int)) a w => St w0 w [Own.blk b8 (.cells #[(.slice Z3 s.2.1.length cz3)] 24 (0, 0)), Own.blk b7 (.cells #[(.slice Z4 s.2.2.1.length cz4), (.slice Z5 s.2.2.2.length cz5)] 36 (0, 0)), Own.blk b3 (.cells #[vI 0, vI 0] 39 (0, 0)), Own.blk b2 (.cells #[.slice none 0 0, .slice none 0 0] 36 (0, 0)), Own.blk b1 (.cells #[.slice A0 l0.length c0] 49 (0, 0)), Own.of (.slice Z3 s.2.1.length cz3) 3 s.2.1, Own.of (.slice Z4 s.2.2.1.length cz4) 3 s.2.2.1, Own.of (.slice Z5 s.2.2.2.length cz5) 3 s.2.2.2] ∧ Frm 98 a [(1, .func (.func 93) #[] #[pP bg1_0 0, pP bg1_1 0]), (3, pP b1 0), (6, pP b2 0), (7, pP b3 0), (9, pP b7 0), (10, pP b8 0), (56, vI x2), (57, vI s.1)]
abbrev modes_hosted.B3 (w0 : World) (b2 : Nat) (b3 : Nat) (b7 : Nat) (Z4 : Option Addr) (cz4 : Nat) (Z5 : Option Addr) (cz5 : Nat) : (((List Int) × (List Int)) ⊕ (SPlayed × SFault)) → Exit → Act → World → Prop := Exits 2 (fun (s : (List Int) × (List Int)) a w => St w0 w [Own.blk b7 (.cells #[(.slice Z4 s.1.length cz4), (.slice Z5 s.2.length cz5)] 36 (0, 0)), Own.blk b3 (.cells #[vI 0, vI 0] 39 (0, 0)), Own.blk b2 (.cells #[.slice none 0 0, .slice none 0 0] 36 (0, 0)), Own.of (.slice Z4 s.1.length cz4) 3 s.1, Own.of (.slice Z5 s.2.length cz5) 3 s.2] ∧ Frm 98 a [(6, pP b2 0), (7, pP b3 0), (9, pP b7 0)]) (Rets Tryd.prog Tryd.f92 (modes_hosted.Post w0))
theorem modes_hosted_r3 (K : Nat) (w0 : World) (l0 : List SJob) (A0 : Option Addr) (c0 : Nat) (bg1_0 : Nat) (xg1_0 : Int) (bg1_1 : Nat) (lg1_1 : List SWindow) (Ag1_1 : Option Addr) (cg1_1 : Nat) (x2 : Int) (hR0 : RdL w0 A0 l0) (hL0 : l0.length ≤ c0) (hBg1_0 : Glob w0 bg1_0 [vI xg1_0]) (hRg1_1 : RdL w0 Ag1_1 lg1_1) (hLg1_1 : lg1_1.length ≤ cg1_1) (hBg1_1 : Glob w0 bg1_1 [.slice Ag1_1 lg1_1.length cg1_1]) (b1 : Nat) (b2 : Nat) (b3 : Nat) (r1 : SFault) (b4 : Nat) (hc1 : r1.Code = 0) (b7 : Nat) (m3 : List Int) (m4 : List Int) (hc7 : l0.length ≤ 17592186044416) (b8 : Nat) (Z3 : Option Addr) (cz3 : Nat) (Z4 : Option Addr) (cz4 : Nat) (Z5 : Option Addr) (cz5 : Nat) (m9 : List Int) (m10 : List Int) (s : Int × (List Int) × (List Int) × (List Int)) (o : (Int × (List Int) × (List Int) × (List Int)) ⊕ (((List Int) × (List Int)) ⊕ (SPlayed × SFault))) (h : modes_hosted.r3 K l0 xg1_0 lg1_1 x2 s = some o) (a : Act) (w : World) (hA : modes_hosted.A3 w0 l0 A0 c0 bg1_0 bg1_1 x2 b1 b2 b3 b7 b8 Z3 cz3 Z4 cz4 Z5 cz5 s a w) (Q : Exit → Act → World → Prop) (hQ : ∀ x a w, Outs (modes_hosted.A3 w0 l0 A0 c0 bg1_0 bg1_1 x2 b1 b2 b3 b7 b8 Z3 cz3 Z4 cz4 Z5 cz5) (modes_hosted.B3 w0 b2 b3 b7 Z4 cz4 Z5 cz5) o x a w → Q x a w) : (subF Tryd.f92 [1, 1, 1, 1, 1, 1, 0, 1, 0, 0]).wp Tryd.prog Q a w := by
 obtain ⟨z1, m11, m12, m13⟩ := s
 obtain ⟨hS, hF⟩ := hA
 replace hS : St w0 w [Own.blk b8 (.cells #[(.slice Z3 m11.length cz3)] 24 (0, 0)), Own.blk b7 (.cells #[(.slice Z4 m12.length cz4), (.slice Z5 m13.length cz5)] 36 (0, 0)), Own.blk b3 (.cells #[vI 0, vI 0] 39 (0, 0)), Own.blk b2 (.cells #[.slice none 0 0, .slice none 0 0] 36 (0, 0)), Own.blk b1 (.cells #[.slice A0 l0.length c0] 49 (0, 0)), Own.of (.slice Z3 m11.length cz3) 3 m11, Own.of (.slice Z4 m12.length cz4) 3 m12, Own.of (.slice Z5 m13.length cz5) 3 m13] := hS
 simp only [modes_hosted.r3] at h
 refine (?_ : WE Tryd.prog 98 (subF Tryd.f92 [1, 1, 1, 1, 1, 1, 0, 1, 0, 0]) Q [(1, .func (.func 93) #[] #[pP bg1_0 0, pP bg1_1 0]), (3, pP b1 0), (6, pP b2 0), (7, pP b3 0), (9, pP b7 0), (10, pP b8 0), (56, vI x2), (57, vI z1)] w) a hF
 clear hF a
 refine ws fun K19 hK19 => ?_
 refine wr [(0, 0)] ?_
 refine gb0 [0] [(58, .bool (decide (z1 < x2)))] ?_
 refine gn hK19 ?_
 refine ws fun K20 hK20 => ?_
 by_cases hc9 : z1 < x2
 ·rw [if_pos hc9] at h
  refine wk 58 (decide (z1 < x2)) true (decide_eq_true hc9) ?_
  refine we_true (by kernel_rfl) ?_
  refine we_skip fun a hF => hK20 _ _ ?_ a hF
  refine ws fun K21 hK21 => ?_
  refine we_block ?_
  refine ws fun K22 hK22 => ?_
  refine wr [(0, 0), (1, 1), (2, 2)] ?_
  refine gb0 [0] [(59, vI z1)] ?_
  refine gw (some 13) (.cells #[vI 0] 3) (fun b => pP b 0) hS fun b10 w25 hx11 hS99 => ?_
  refine gs b10 0 #[vI 0] 3 [vI z1] hS99 fun w26 hS100 => ?_
  have hS101 : St w0 w26 [Own.blk b10 (.cells #[vI z1] 3 (0, 0)), Own.blk b8 (.cells #[(.slice Z3 m11.length cz3)] 24 (0, 0)), Own.blk b7 (.cells #[(.slice Z4 m12.length cz4), (.slice Z5 m13.length cz5)] 36 (0, 0)), Own.blk b3 (.cells #[vI 0, vI 0] 39 (0, 0)), Own.blk b2 (.cells #[.slice none 0 0, .slice none 0 0] 36 (0, 0)), Own.blk b1 (.cells #[.slice A0 l0.length c0] 49 (0, 0)), Own.of (.slice Z3 m11.length cz3) 3 m11, Own.of (.slice Z4 m12.length cz4) 3 m12, Own.of (.slice Z5 m13.length cz5) 3 m13] := hS100
  refine gn hK22 ?_
  refine ws fun K23 hK23 => ?_
  refine wr [(0, 0), (1, 0), (2, 0), (3, 0), (4, 2)] ?_
  refine gb [0, 1, 2] [(62, vI z1), (61, (.slice Z4 m12.length cz4)), (60, pP b7 0)] [.loaded ⟨b7, 0, none⟩ ((.slice Z4 m12.length cz4)), .loaded ⟨b10, 0, none⟩ (vI z1)] ⟨hS101.c 2, hS101.c 0, trivial⟩ ?_
  by_cases hc10 : 0 ≤ z1
  ·rw [if_pos hc10] at h
   rcases hx12 : m12[(z1).toNat]? with _ | e4
   ·rw [hx12] at h; cases h
   rw [hx12] at h
   simp only [] at h
   refine gi 63 0 24 3 1 m12.length cz4 (.tmp 61) (.tmp 62) Z4 .i64 z1 ((z1).toNat) ((hS101.rdAt 7 rfl).eqSome (pos_of_get hx12)) (Int.toNat_of_nonneg hc10).symm (lt_of_get hx12) ?_
   have hS102 := hS101.bring 7 rfl
   refine ge_seti (α := Int) (A := Z4) (nn := m12.length) (c := cz4) (t := 3) (l := m12) (x := e4) (x' := (-1)) (jn := ((z1).toNat)) (j := 0) (vs := [vI (-1)]) (l' := [.stored ⟨blkOf Z4, offOf Z4 + ((z1).toNat) * 1, none⟩ (vI (-1))]) hS102 (by kernel_rfl) (by kernel_rfl) hx12 rfl rfl rfl fun w27 hS103 => ?_
   have hS104 : St w0 w27 [Own.of (.slice Z4 m12.length cz4) 3 (m12.set ((z1).toNat) (-1)), Own.blk b10 (.cells #[vI z1] 3 (0, 0)), Own.blk b8 (.cells #[(.slice Z3 m11.length cz3)] 24 (0, 0)), Own.blk b7 (.cells #[(.slice Z4 m12.length cz4), (.slice Z5 m13.length cz5)] 36 (0, 0)), Own.blk b3 (.cells #[vI 0, vI 0] 39 (0, 0)), Own.blk b2 (.cells #[.slice none 0 0, .slice none 0 0] 36 (0, 0)), Own.blk b1 (.cells #[.slice A0 l0.length c0] 49 (0, 0)), Own.of (.slice Z3 m11.length cz3) 3 m11, Own.of (.slice Z5 m13.length cz5) 3 m13] := hS103
   have hE3 : m12.length = (m12.set ((z1).toNat) (-1)).length := hS104.lenAt 0 rfl
   have hS105 : St w0 w27 [Own.of (.slice Z4 (m12.set ((z1).toNat) (-1)).length cz4) 3 (m12.set ((z1).toNat) (-1)), Own.blk b10 (.cells #[vI z1] 3 (0, 0)), Own.blk b8 (.cells #[(.slice Z3 m11.length cz3)] 24 (0, 0)), Own.blk b7 (.cells #[(.slice Z4 (m12.set ((z1).toNat) (-1)).length cz4), (.slice Z5 m13.length cz5)] 36 (0, 0)), Own.blk b3 (.cells #[vI 0, vI 0] 39 (0, 0)), Own.blk b2 (.cells #[.slice none 0 0, .slice none 0 0] 36 (0, 0)), Own.blk b1 (.cells #[.slice A0 l0.length c0] 49 (0, 0)), Own.of (.slice Z3 m11.length cz3) 3 m11, Own.of (.slice Z5 m13.length cz5) 3 m13] := by rw [← hE3]; exact hS104
   refine ge_same (t := 61) (v := (.slice Z4 m12.length cz4)) (v' := (.slice Z4 (m12.set ((z1).toNat) (-1)).length cz4)) (by kernel_rfl) (by rw [hE3]) ?_
   refine gn hK23 ?_
   refine ws fun K24 hK24 => ?_
   refine ws fun K25 hK25 => ?_
   refine wr [(0, 0), (1, 0), (2, 1), (3, 0)] ?_
   rcases hq5 : modes_Hosted_1.f K z1 xg1_0 lg1_1 with _ | r2
   ·rw [hq5] at h; cases h
   rw [hq5] at h
   simp only [] at h
   refine gb [0, 1] [(65, vI z1), (64, .func (.func 93) #[] #[pP bg1_0 0, pP bg1_1 0])] [.loaded ⟨b10, 0, none⟩ (vI z1)] ⟨hS105.c 1, trivial⟩ ?_
   refine ge_call (d := some 66) (f := 93) (args := #[vI z1, pP bg1_0 0, pP bg1_1 0]) (by kernel_rfl) (modes_Hosted_1_ok K z1 bg1_0 xg1_0 bg1_1 lg1_1 Ag1_1 cg1_1 _ (Glob.ext hBg1_0 hS105.below) (hS105.rd hRg1_1) hLg1_1 (Glob.ext hBg1_1 hS105.below) _ hq5) ?_
   rintro _ w28 ⟨rfl, hS106⟩
   refine ⟨_, rfl, hS106.below, ?_⟩
   have hS107 := hS105.call hS106
   refine gb0 [3] [(67, .bool (!r2))] ?_
   refine gn hK25 ?_
   by_cases hc11 : r2 = true
   ·rw [if_pos hc11] at h
    refine wk 67 (!r2) false (congrArg (fun z => !z) hc11) ?_
    refine we_false (by kernel_rfl) ?_
    refine we_skip fun a hF => hK24 _ _ ?_ a hF
    refine ws fun K26 hK26 => ?_
    refine wr [(0, 0), (1, 0), (2, 1), (3, 0)] ?_
    rcases hq6 : sched_First.f K l0 l0 z1 m11 1 with _ | r3
    ·rw [hq6] at h; cases h
    rw [hq6] at h
    simp only [] at h
    refine gb [0, 1] [(69, .func (.func 141) #[] #[pP b1 0, pP b10 0, pP b8 0]), (68, .slice A0 l0.length c0)] [.loaded ⟨b1, 0, none⟩ (.slice A0 l0.length c0)] ⟨hS107.c 6, trivial⟩ ?_
    refine ge_call (d := some 70) (f := 130) (args := #[.slice A0 l0.length c0, .func (.func 141) #[] #[pP b1 0, pP b10 0, pP b8 0], vI 1]) (by kernel_rfl) (sched_First_ok K l0 A0 c0 b1 l0 A0 c0 b10 z1 b8 m11 Z3 cz3 1 _ (hS107.rd hR0) hL0 (hS107.rd hR0) hL0 (hS107.globOf 6 rfl) (hS107.globOf 1 rfl) (hS107.rdAt 7 rfl) (hS107.capAt 7 rfl) (hS107.globOf 2 rfl) _ hq6) ?_
    rintro _ w29 ⟨rfl, hS108⟩
    refine ⟨_, rfl, hS108.below, ?_⟩
    have hS109 := hS107.call hS108
    refine gb0 [3] [(14, vI r3)] ?_
    refine gn hK26 ?_
    refine ws fun K27 hK27 => ?_
    refine wr [(0, 0), (1, 0), (2, 0), (3, 0), (4, 0), (5, 2)] ?_
    refine gb [0, 1, 2, 3] [(74, vI r3), (73, vI z1), (72, (.slice Z4 (m12.set ((z1).toNat) (-1)).length cz4)), (71, pP b7 0)] [.loaded ⟨b7, 0, none⟩ ((.slice Z4 (m12.set ((z1).toNat) (-1)).length cz4)), .loaded ⟨b10, 0, none⟩ (vI z1)] ⟨hS109.c 3, hS109.c 1, trivial⟩ ?_
    rcases hx13 : (m12.set ((z1).toNat) (-1))[(z1).toNat]? with _ | e5
    ·rw [hx13] at h; cases h
    rw [hx13] at h
    simp only [] at h
    refine gi 75 0 24 3 1 ((m12.set ((z1).toNat) (-1)).length) cz4 (.tmp 72) (.tmp 73) Z4 .i64 z1 ((z1).toNat) ((hS109.rdAt 0 rfl).eqSome (pos_of_get hx13)) (Int.toNat_of_nonneg hc10).symm (lt_of_get hx13) ?_
    refine ge_seti (α := Int) (A := Z4) (nn := ((m12.set ((z1).toNat) (-1)).length)) (c := cz4) (t := 3) (l := (m12.set ((z1).toNat) (-1))) (x := e5) (x' := r3) (jn := ((z1).toNat)) (j := 0) (vs := [vI r3]) (l' := [.stored ⟨blkOf Z4, offOf Z4 + ((z1).toNat) * 1, none⟩ (vI r3)]) hS109 (by kernel_rfl) (by kernel_rfl) hx13 rfl rfl rfl fun w30 hS110 => ?_
    have hS111 : St w0 w30 [Own.of (.slice Z4 (m12.set ((z1).toNat) (-1)).length cz4) 3 ((m12.set ((z1).toNat) (-1)).set ((z1).toNat) r3), Own.blk b10 (.cells #[vI z1] 3 (0, 0)), Own.blk b8 (.cells #[(.slice Z3 m11.length cz3)] 24 (0, 0)), Own.blk b7 (.cells #[(.slice Z4 (m12.set ((z1).toNat) (-1)).length cz4), (.slice Z5 m13.length cz5)] 36 (0, 0)), Own.blk b3 (.cells #[vI 0, vI 0] 39 (0, 0)), Own.blk b2 (.cells #[.slice none 0 0, .slice none 0 0] 36 (0, 0)), Own.blk b1 (.cells #[.slice A0 l0.length c0] 49 (0, 0)), Own.of (.slice Z3 m11.length cz3) 3 m11, Own.of (.slice Z5 m13.length cz5) 3 m13] := hS110
    have hE4 : (m12.set ((z1).toNat) (-1)).length = ((m12.set ((z1).toNat) (-1)).set ((z1).toNat) r3).length := hS111.lenAt 0 rfl
    have hS112 : St w0 w30 [Own.of (.slice Z4 ((m12.set ((z1).toNat) (-1)).set ((z1).toNat) r3).length cz4) 3 ((m12.set ((z1).toNat) (-1)).set ((z1).toNat) r3), Own.blk b10 (.cells #[vI z1] 3 (0, 0)), Own.blk b8 (.cells #[(.slice Z3 m11.length cz3)] 24 (0, 0)), Own.blk b7 (.cells #[(.slice Z4 ((m12.set ((z1).toNat) (-1)).set ((z1).toNat) r3).length cz4), (.slice Z5 m13.length cz5)] 36 (0, 0)), Own.blk b3 (.cells #[vI 0, vI 0] 39 (0, 0)), Own.blk b2 (.cells #[.slice none 0 0, .slice none 0 0] 36 (0, 0)), Own.blk b1 (.cells #[.slice A0 l0.length c0] 49 (0, 0)), Own.of (.slice Z3 m11.length cz3) 3 m11, Own.of (.slice Z5 m13.length cz5) 3 m13] := by rw [← hE4]; exact hS111
    refine ge_same (t := 61) (v := (.slice Z4 (m12.set ((z1).toNat) (-1)).length cz4)) (v' := (.slice Z4 ((m12.set ((z1).toNat) (-1)).set ((z1).toNat) r3).length cz4)) (by kernel_rfl) (by rw [hE4]) ?_
    refine ge_same (t := 72) (v := (.slice Z4 (m12.set ((z1).toNat) (-1)).length cz4)) (v' := (.slice Z4 ((m12.set ((z1).toNat) (-1)).set ((z1).toNat) r3).length cz4)) (by kernel_rfl) (by rw [hE4]) ?_
    refine gn hK27 ?_
    refine ws fun K28 hK28 => ?_
    refine ws fun K29 hK29 => ?_
    refine wr [(0, 0), (1, 0)] ?_
    refine gb0 [0, 1] [(77, .bool (decide (r3 < 0))), (76, vI r3)] ?_
    refine gn hK29 ?_
    by_cases hc12 : r3 < 0
    ·rw [if_pos hc12] at h
     refine wk 77 (decide (r3 < 0)) true (decide_eq_true hc12) ?_
     refine we_true (by kernel_rfl) ?_
     refine we_exit fun a hF => hK21 _ _ ?_ a hF
     refine wr [(0, 0), (1, 0)] ?_
     refine gb0 [0, 1] [(57, vI (IntKind.i64.wrap (z1 + 1))), (95, vI (IntKind.i64.wrap (z1 + 1)))] ?_
     have hS113 := hS112.bring 8 rfl
     have hS114 := hS113.bring 1 rfl
     have hS115 := hS114.bring 8 rfl
     have hS116 := hS115.bring 8 rfl
     have hS117 := hS116.bring 8 rfl
     have hS118 := hS117.bring 8 rfl
     have hS119 := hS118.bring 8 rfl
     have hS120 := hS119.bring 8 rfl
     have hS121 := hS120.takeN 8
     obtain rfl := si h
     exact ge_nil fun a hF => hQ _ _ _ (Outs.again ⟨hS121, hF.weaken ea⟩)
    ·rw [if_neg hc12] at h
     refine wk 77 (decide (r3 < 0)) false (decide_eq_false hc12) ?_
     refine we_false (by kernel_rfl) ?_
     refine we_skip fun a hF => hK28 _ _ ?_ a hF
     refine ws fun K30 hK30 => ?_
     refine wr [(0, 0), (1, 0), (2, 0), (3, 0), (4, 0), (5, 0), (6, 2)] ?_
     refine gb [0, 1] [(79, vI r3), (78, (.slice Z3 m11.length cz3))] [.loaded ⟨b8, 0, none⟩ ((.slice Z3 m11.length cz3))] ⟨hS112.c 2, trivial⟩ ?_
     by_cases hc13 : 0 ≤ r3
     ·rw [if_pos hc13] at h
      rcases hx14 : m11[(r3).toNat]? with _ | e6
      ·rw [hx14] at h; cases h
      rw [hx14] at h
      simp only [] at h
      refine gi 80 0 24 3 1 m11.length cz3 (.tmp 78) (.tmp 79) Z3 .i64 r3 ((r3).toNat) ((hS112.rdAt 7 rfl).eqSome (pos_of_get hx14)) (Int.toNat_of_nonneg hc13).symm (lt_of_get hx14) ?_
      refine gb [3, 4] [(82, vI (IntKind.i64.wrap (e6 - 1))), (81, vI e6)] [.loaded ⟨blkOf Z3, offOf Z3 + ((r3).toNat) * 1, none⟩ (vI e6)] ⟨RdL.cell (j := 0) (hS112.rdAt 7 rfl) hx14 rfl, trivial⟩ ?_
      refine gi 83 0 24 3 1 m11.length cz3 (.tmp 78) (.tmp 79) Z3 .i64 r3 ((r3).toNat) ((hS112.rdAt 7 rfl).eqSome (pos_of_get hx14)) (Int.toNat_of_nonneg hc13).symm (lt_of_get hx14) ?_
      have hS122 := hS112.bring 7 rfl
      refine ge_seti (α := Int) (A := Z3) (nn := m11.length) (c := cz3) (t := 3) (l := m11) (x := e6) (x' := (IntKind.i64.wrap (e6 - 1))) (jn := ((r3).toNat)) (j := 0) (vs := [vI (IntKind.i64.wrap (e6 - 1))]) (l' := [.stored ⟨blkOf Z3, offOf Z3 + ((r3).toNat) * 1, none⟩ (vI (IntKind.i64.wrap (e6 - 1)))]) hS122 (by kernel_rfl) (by kernel_rfl) hx14 rfl rfl rfl fun w31 hS123 => ?_
      have hS124 : St w0 w31 [Own.of (.slice Z3 m11.length cz3) 3 (m11.set ((r3).toNat) (IntKind.i64.wrap (e6 - 1))), Own.of (.slice Z4 ((m12.set ((z1).toNat) (-1)).set ((z1).toNat) r3).length cz4) 3 ((m12.set ((z1).toNat) (-1)).set ((z1).toNat) r3), Own.blk b10 (.cells #[vI z1] 3 (0, 0)), Own.blk b8 (.cells #[(.slice Z3 m11.length cz3)] 24 (0, 0)), Own.blk b7 (.cells #[(.slice Z4 ((m12.set ((z1).toNat) (-1)).set ((z1).toNat) r3).length cz4), (.slice Z5 m13.length cz5)] 36 (0, 0)), Own.blk b3 (.cells #[vI 0, vI 0] 39 (0, 0)), Own.blk b2 (.cells #[.slice none 0 0, .slice none 0 0] 36 (0, 0)), Own.blk b1 (.cells #[.slice A0 l0.length c0] 49 (0, 0)), Own.of (.slice Z5 m13.length cz5) 3 m13] := hS123
      have hE5 : m11.length = (m11.set ((r3).toNat) (IntKind.i64.wrap (e6 - 1))).length := hS124.lenAt 0 rfl
      have hS125 : St w0 w31 [Own.of (.slice Z3 (m11.set ((r3).toNat) (IntKind.i64.wrap (e6 - 1))).length cz3) 3 (m11.set ((r3).toNat) (IntKind.i64.wrap (e6 - 1))), Own.of (.slice Z4 ((m12.set ((z1).toNat) (-1)).set ((z1).toNat) r3).length cz4) 3 ((m12.set ((z1).toNat) (-1)).set ((z1).toNat) r3), Own.blk b10 (.cells #[vI z1] 3 (0, 0)), Own.blk b8 (.cells #[(.slice Z3 (m11.set ((r3).toNat) (IntKind.i64.wrap (e6 - 1))).length cz3)] 24 (0, 0)), Own.blk b7 (.cells #[(.slice Z4 ((m12.set ((z1).toNat) (-1)).set ((z1).toNat) r3).length cz4), (.slice Z5 m13.length cz5)] 36 (0, 0)), Own.blk b3 (.cells #[vI 0, vI 0] 39 (0, 0)), Own.blk b2 (.cells #[.slice none 0 0, .slice none 0 0] 36 (0, 0)), Own.blk b1 (.cells #[.slice A0 l0.length c0] 49 (0, 0)), Own.of (.slice Z5 m13.length cz5) 3 m13] := by rw [← hE5]; exact hS124
      refine ge_same (t := 78) (v := (.slice Z3 m11.length cz3)) (v' := (.slice Z3 (m11.set ((r3).toNat) (IntKind.i64.wrap (e6 - 1))).length cz3)) (by kernel_rfl) (by rw [hE5]) ?_
      refine gn hK30 ?_
      refine ws fun K31 hK31 => ?_
      refine wr [(0, 0), (1, 0), (2, 0), (3, 0), (4, 0)] ?_
      refine gb [0, 1] [(85, vI r3), (84, (.slice Z3 (m11.set ((r3).toNat) (IntKind.i64.wrap (e6 - 1))).length cz3))] [.loaded ⟨b8, 0, none⟩ ((.slice Z3 (m11.set ((r3).toNat) (IntKind.i64.wrap (e6 - 1))).length cz3))] ⟨hS125.c 3, trivial⟩ ?_
      rcases hx15 : (m11.set ((r3).toNat) (IntKind.i64.wrap (e6 - 1)))[(r3).toNat]? with _ | e7
      ·rw [hx15] at h; cases h
      rw [hx15] at h
      simp only [] at h
      refine gi 86 0 24 3 1 ((m11.set ((r3).toNat) (IntKind.i64.wrap (e6 - 1))).length) cz3 (.tmp 84) (.tmp 85) Z3 .i64 r3 ((r3).toNat) ((hS125.rdAt 0 rfl).eqSome (pos_of_get hx15)) (Int.toNat_of_nonneg hc13).symm (lt_of_get hx15) ?_
      refine gb [3, 4] [(88, .bool (e7 == 0)), (87, vI e7)] [.loaded ⟨blkOf Z3, offOf Z3 + ((r3).toNat) * 1, none⟩ (vI e7)] ⟨RdL.cell (j := 0) (hS125.rdAt 0 rfl) hx15 rfl, trivial⟩ ?_
      refine gn hK31 ?_
      by_cases hc14 : e7 = 0
      ·rw [if_pos hc14] at h
       refine wk 88 (e7 == 0) true (beq_iff_eq.2 hc14) ?_
       refine we_true (by kernel_rfl) ?_
       refine wr [(0, 0), (1, 0), (2, 0), (3, 0), (4, 0), (5, 0), (6, 2)] ?_
       refine gb [0, 1, 2, 3, 4] [(93, vI (IntKind.i64.wrap (z1 + 1))), (92, vI z1), (91, vI r3), (90, (.slice Z5 m13.length cz5)), (89, pP b7 1)] [.loaded ⟨b7, 1, none⟩ ((.slice Z5 m13.length cz5)), .loaded ⟨b10, 0, none⟩ (vI z1)] ⟨hS125.c 4, hS125.c 2, trivial⟩ ?_
       rcases hx16 : m13[(r3).toNat]? with _ | e8
       ·rw [hx16] at h; cases h
       rw [hx16] at h
       simp only [] at h
       refine gi 94 0 24 3 1 m13.length cz5 (.tmp 90) (.tmp 91) Z5 .i64 r3 ((r3).toNat) ((hS125.rdAt 8 rfl).eqSome (pos_of_get hx16)) (Int.toNat_of_nonneg hc13).symm (lt_of_get hx16) ?_
       have hS126 := hS125.bring 8 rfl
       refine ge_seti (α := Int) (A := Z5) (nn := m13.length) (c := cz5) (t := 3) (l := m13) (x := e8) (x' := (IntKind.i64.wrap (z1 + 1))) (jn := ((r3).toNat)) (j := 0) (vs := [vI (IntKind.i64.wrap (z1 + 1))]) (l' := [.stored ⟨blkOf Z5, offOf Z5 + ((r3).toNat) * 1, none⟩ (vI (IntKind.i64.wrap (z1 + 1)))]) hS126 (by kernel_rfl) (by kernel_rfl) hx16 rfl rfl rfl fun w32 hS127 => ?_
       have hS128 : St w0 w32 [Own.of (.slice Z5 m13.length cz5) 3 (m13.set ((r3).toNat) (IntKind.i64.wrap (z1 + 1))), Own.of (.slice Z3 (m11.set ((r3).toNat) (IntKind.i64.wrap (e6 - 1))).length cz3) 3 (m11.set ((r3).toNat) (IntKind.i64.wrap (e6 - 1))), Own.of (.slice Z4 ((m12.set ((z1).toNat) (-1)).set ((z1).toNat) r3).length cz4) 3 ((m12.set ((z1).toNat) (-1)).set ((z1).toNat) r3), Own.blk b10 (.cells #[vI z1] 3 (0, 0)), Own.blk b8 (.cells #[(.slice Z3 (m11.set ((r3).toNat) (IntKind.i64.wrap (e6 - 1))).length cz3)] 24 (0, 0)), Own.blk b7 (.cells #[(.slice Z4 ((m12.set ((z1).toNat) (-1)).set ((z1).toNat) r3).length cz4), (.slice Z5 m13.length cz5)] 36 (0, 0)), Own.blk b3 (.cells #[vI 0, vI 0] 39 (0, 0)), Own.blk b2 (.cells #[.slice none 0 0, .slice none 0 0] 36 (0, 0)), Own.blk b1 (.cells #[.slice A0 l0.length c0] 49 (0, 0))] := hS127
       have hE6 : m13.length = (m13.set ((r3).toNat) (IntKind.i64.wrap (z1 + 1))).length := hS128.lenAt 0 rfl
       have hS129 : St w0 w32 [Own.of (.slice Z5 (m13.set ((r3).toNat) (IntKind.i64.wrap (z1 + 1))).length cz5) 3 (m13.set ((r3).toNat) (IntKind.i64.wrap (z1 + 1))), Own.of (.slice Z3 (m11.set ((r3).toNat) (IntKind.i64.wrap (e6 - 1))).length cz3) 3 (m11.set ((r3).toNat) (IntKind.i64.wrap (e6 - 1))), Own.of (.slice Z4 ((m12.set ((z1).toNat) (-1)).set ((z1).toNat) r3).length cz4) 3 ((m12.set ((z1).toNat) (-1)).set ((z1).toNat) r3), Own.blk b10 (.cells #[vI z1] 3 (0, 0)), Own.blk b8 (.cells #[(.slice Z3 (m11.set ((r3).toNat) (IntKind.i64.wrap (e6 - 1))).length cz3)] 24 (0, 0)), Own.blk b7 (.cells #[(.slice Z4 ((m12.set ((z1).toNat) (-1)).set ((z1).toNat) r3).length cz4), (.slice Z5 (m13.set ((r3).toNat) (IntKind.i64.wrap (z1 + 1))).length cz5)] 36 (0, 0)), Own.blk b3 (.cells #[vI 0, vI 0] 39 (0, 0)), Own.blk b2 (.cells #[.slice none 0 0, .slice none 0 0] 36 (0, 0)), Own.blk b1 (.cells #[.slice A0 l0.length c0] 49 (0, 0))] := by rw [← hE6]; exact hS128
       refine ge_same (t := 90) (v := (.slice Z5 m13.length cz5)) (v' := (.slice Z5 (m13.set ((r3).toNat) (IntKind.i64.wrap (z1 + 1))).length cz5)) (by kernel_rfl) (by rw [hE6]) ?_
       refine gn hK21 ?_
       refine wr [(0, 0), (1, 0)] ?_
       refine gb0 [0, 1] [(57, vI (IntKind.i64.wrap (z1 + 1))), (95, vI (IntKind.i64.wrap (z1 + 1)))] ?_
       have hS130 := hS129.bring 2 rfl
       have hS131 := hS130.bring 2 rfl
       have hS132 := hS131.bring 8 rfl
       have hS133 := hS132.bring 8 rfl
       have hS134 := hS133.bring 8 rfl
       have hS135 := hS134.bring 8 rfl
       have hS136 := hS135.bring 8 rfl
       have hS137 := hS136.takeN 8
       obtain rfl := si h
       exact ge_nil fun a hF => hQ _ _ _ (Outs.again ⟨hS137, hF.weaken ea⟩)
      ·rw [if_neg hc14] at h
       refine wk 88 (e7 == 0) false (beq_eq_false_iff_ne.2 hc14) ?_
       refine we_false (by kernel_rfl) ?_
       refine we_skip fun a hF => hK21 _ _ ?_ a hF
       refine wr [(0, 0), (1, 0)] ?_
       refine gb0 [0, 1] [(57, vI (IntKind.i64.wrap (z1 + 1))), (95, vI (IntKind.i64.wrap (z1 + 1)))] ?_
       have hS138 := hS125.bring 8 rfl
       have hS139 := hS138.bring 2 rfl
       have hS140 := hS139.bring 2 rfl
       have hS141 := hS140.bring 8 rfl
       have hS142 := hS141.bring 8 rfl
       have hS143 := hS142.bring 8 rfl
       have hS144 := hS143.bring 8 rfl
       have hS145 := hS144.bring 8 rfl
       have hS146 := hS145.takeN 8
       obtain rfl := si h
       exact ge_nil fun a hF => hQ _ _ _ (Outs.again ⟨hS146, hF.weaken ea⟩)
     ·rw [if_neg hc13] at h
      cases h
   ·rw [if_neg hc11] at h
    refine wk 67 (!r2) true (congrArg (fun z => !z) (Bool.eq_false_iff.2 hc11)) ?_
    refine we_true (by kernel_rfl) ?_
    refine we_exit fun a hF => hK21 _ _ ?_ a hF
    refine wr [(0, 0), (1, 0)] ?_
    refine gb0 [0, 1] [(57, vI (IntKind.i64.wrap (z1 + 1))), (95, vI (IntKind.i64.wrap (z1 + 1)))] ?_
    have hS147 := hS107.bring 8 rfl
    have hS148 := hS147.bring 1 rfl
    have hS149 := hS148.bring 8 rfl
    have hS150 := hS149.bring 8 rfl
    have hS151 := hS150.bring 8 rfl
    have hS152 := hS151.bring 8 rfl
    have hS153 := hS152.bring 8 rfl
    have hS154 := hS153.bring 8 rfl
    have hS155 := hS154.takeN 8
    obtain rfl := si h
    exact ge_nil fun a hF => hQ _ _ _ (Outs.again ⟨hS155, hF.weaken ea⟩)
  ·rw [if_neg hc10] at h
   cases h
 ·rw [if_neg hc9] at h
  refine wk 58 (decide (z1 < x2)) false (decide_eq_false hc9) ?_
  refine we_false (by kernel_rfl) ?_
  have hS156 := hS.bring 7 rfl
  have hS157 := hS156.bring 7 rfl
  have hS158 := hS157.bring 5 rfl
  have hS159 := hS158.bring 5 rfl
  have hS160 := hS159.bring 5 rfl
  have hS161 := hS160.takeN 5
  obtain rfl := si h
  exact we_exit fun a hF => hQ _ _ _ (Outs.out nofun (Exits.here ⟨hS161, hF.weaken ea⟩))
abbrev modes_hosted.A4 (w0 : World) (b2 : Nat) (b3 : Nat) : (Int × Int × (List Int) × (List Int)) → Act → World → Prop := fun (s : Int × Int × (List Int) × (List Int)) a w => ∃ (v8 : Value) (v9 : Value), St w0 w [Own.blk b3 (.cells #[vI s.1, vI s.2.1] 39 (0, 0)), Own.blk b2 (.cells #[v8, v9] 36 (0, 0)), Own.of v8 3 s.2.2.1, Own.of v9 3 s.2.2.2] ∧ Frm 98 a [(6, pP b2 0), (7, pP b3 0)]
abbrev modes_hosted.B4 (w0 : World) : (SPlayed × SFault) → Exit → Act → World → Prop := Rets Tryd.prog Tryd.f92 (modes_hosted.Post w0)
theorem modes_hosted_p4 (K : Nat) (w0 : World) (l0 : List SJob) (A0 : Option Addr) (c0 : Nat) (bg1_0 : Nat) (xg1_0 : Int) (bg1_1 : Nat) (lg1_1 : List SWindow) (Ag1_1 : Option Addr) (cg1_1 : Nat) (x2 : Int) (hR0 : RdL w0 A0 l0) (hL0 : l0.length ≤ c0) (hBg1_0 : Glob w0 bg1_0 [vI xg1_0]) (hRg1_1 : RdL w0 Ag1_1 lg1_1) (hLg1_1 : lg1_1.length ≤ cg1_1) (hBg1_1 : Glob w0 bg1_1 [.slice Ag1_1 lg1_1.length cg1_1]) (b1 : Nat) (b2 : Nat) (b3 : Nat) (r1 : SFault) (b4 : Nat) (hc1 : ¬ (r1.Code = 0)) (o : (Int × Int × (List Int) × (List Int)) ⊕ (SPlayed × SFault)) (h : modes_hosted.p4 r1 = some o) (w : World) (hS : St w0 w [Own.blk b4 (.cells #[vI r1.Code, vI r1.At] 39 (0, 0)), Own.blk b3 (.cells #[vI 0, vI 0] 39 (0, 0)), Own.blk b2 (.cells #[.slice none 0 0, .slice none 0 0] 36 (0, 0)), Own.blk b1 (.cells #[.slice A0 l0.length c0] 49 (0, 0))]) (Q : Exit → Act → World → Prop) (hQ : ∀ x a w, Outs (modes_hosted.A4 w0 b2 b3) (modes_hosted.B4 w0) o x a w → Q x a w) : WE Tryd.prog 98 (subF Tryd.f92 [1, 0, 1, 1, 0, 0]) Q [(0, .slice A0 l0.length c0), (1, .func (.func 93) #[] #[pP bg1_0 0, pP bg1_1 0]), (2, vI x2), (3, pP b1 0), (6, pP b2 0), (7, pP b3 0), (8, pP b4 0), (15, .slice A0 l0.length c0), (16, .agg #[vI r1.Code, vI r1.At]), (17, pP b4 0), (18, vI r1.Code), (19, .bool true)] w := by
 simp only [modes_hosted.p4] at h
 refine we_orders2 (by kernel_rfl) [(1, [⟨b4, 0, none⟩, ⟨b4, 1, none⟩])] (.vals [0] (.vals [1] (.alt 2 2 (.alt 3 2 .fin .nomore) .nomore))) (by kernel_rfl) ?_
 have hS172 := hS.drew
 refine go2_batch [0] (ans := []) (vs := [(20, .agg #[.slice none 0 0, .slice none 0 0])]) (l := []) (by kernel_rfl) trivial mem_nil ?_
 refine go2_batch [1] (ans := [.val (vI r1.Code), .val (vI r1.At)]) (vs := [(21, .agg #[vI r1.Code, vI r1.At])]) (l := [.loaded ⟨b4, 0, none⟩ (vI r1.Code), .loaded ⟨b4, 1, none⟩ (vI r1.At)]) (by kernel_rfl) ⟨hS172.c 0, hS172.c 0, trivial⟩ (mem_one (by kernel_rfl)) ?_
 refine go_alt2 (fun KK hKK => ?_) ?_
 ·have hS173 := hS172.bring 2 rfl
  refine gs b2 0 #[.slice none 0 0, .slice none 0 0] 36 [.slice none 0 0, .slice none 0 0] hS173 fun w36 hS174 => ?_
  have hS175 : St w0 w36 [Own.blk b2 (.cells #[.slice none 0 0, .slice none 0 0] 36 (0, 0)), Own.blk b4 (.cells #[vI r1.Code, vI r1.At] 39 (0, 0)), Own.blk b3 (.cells #[vI 0, vI 0] 39 (0, 0)), Own.blk b1 (.cells #[.slice A0 l0.length c0] 49 (0, 0))] := hS174
  refine ge_nil fun a hF => hKK _ _ (RS.of2 (l := [.loaded ⟨b4, 0, none⟩ (vI r1.Code), .loaded ⟨b4, 1, none⟩ (vI r1.At)]) (by kernel_rfl) ⟨hS172.c 0, hS172.c 0, trivial⟩ ⟨hS175.c 1, hS175.c 1, trivial⟩) ?_ a hF
  refine go_alt2 (fun KK hKK => ?_) ?_
  ·have hS176 := hS175.bring 2 rfl
   refine gs b3 0 #[vI 0, vI 0] 39 [vI r1.Code, vI r1.At] hS176 fun w37 hS177 => ?_
   have hS178 : St w0 w37 [Own.blk b3 (.cells #[vI r1.Code, vI r1.At] 39 (0, 0)), Own.blk b2 (.cells #[.slice none 0 0, .slice none 0 0] 36 (0, 0)), Own.blk b4 (.cells #[vI r1.Code, vI r1.At] 39 (0, 0)), Own.blk b1 (.cells #[.slice A0 l0.length c0] 49 (0, 0))] := hS177
   refine ge_nil fun a hF => hKK _ _ (RS.of2 (l := []) (by kernel_rfl) trivial trivial) ?_ a hF
   have hS179 := hS178.nil (α := Int) 3
   have hS180 := hS179.nil (α := Int) 3
   have hS181 := hS180.bring 1 rfl
   have hS182 := hS181.bring 1 rfl
   have hS183 := hS182.bring 3 rfl
   have hS184 := hS183.bring 3 rfl
   have hS185 := hS184.takeN 4
   obtain rfl := si h
   exact go_fin2 fun a hF => hQ _ _ _ (Outs.again ⟨(.slice none 0 0), (.slice none 0 0), hS185, hF.weaken ea⟩)
  exact go_nomore2
 exact go_nomore2
theorem modes_hosted_ok (K : Nat) (l0 : List SJob) (A0 : Option Addr) (c0 : Nat) (bg1_0 : Nat) (xg1_0 : Int) (bg1_1 : Nat) (lg1_1 : List SWindow) (Ag1_1 : Option Addr) (cg1_1 : Nat) (x2 : Int) (w0 : World) (hR0 : RdL w0 A0 l0) (hL0 : l0.length ≤ c0) (hBg1_0 : Glob w0 bg1_0 [vI xg1_0]) (hRg1_1 : RdL w0 Ag1_1 lg1_1) (hLg1_1 : lg1_1.length ≤ cg1_1) (hBg1_1 : Glob w0 bg1_1 [.slice Ag1_1 lg1_1.length cg1_1]) (r : SPlayed × SFault) (h : modes_hosted.f K l0 xg1_0 lg1_1 x2 = some r) :
  Calls Tryd.prog 92 #[.slice A0 l0.length c0, .func (.func 93) #[] #[pP bg1_0 0, pP bg1_1 0], vI x2] w0 (modes_hosted.Post w0 r) := by
 have hS := St.start w0
 unfold modes_hosted.f at h
 refine calls_enter (n := 98) (args := [.slice A0 l0.length c0, .func (.func 93) #[] #[pP bg1_0 0, pP bg1_1 0], vI x2]) (fn := Tryd.f92) rfl rfl rfl rfl ?_
 show WE _ _ _ _ [(0, .slice A0 l0.length c0), (1, .func (.func 93) #[] #[pP bg1_0 0, pP bg1_1 0]), (2, vI x2)] _
 refine ws fun K1 hK1 => ?_
 refine wr [(0, 1), (1, 1), (2, 1)] ?_
 refine gw (some 3) (.cells #[.slice A0 l0.length c0] 49) (fun b => pP b 0) hS fun b1 w1 hx1 hS1 => ?_
 refine gw (some 6) (.cells #[.slice none 0 0, .slice none 0 0] 36) (fun b => pP b 0) hS1 fun b2 w2 hx2 hS2 => ?_
 refine gw (some 7) (.cells #[vI 0, vI 0] 39) (fun b => pP b 0) hS2 fun b3 w3 hx3 hS3 => ?_
 refine gn hK1 ?_
 refine ws fun K2 hK2 => ?_
 refine ws fun K3 hK3 => ?_
 refine wr [(0, 0), (1, 1), (2, 1), (3, 2)] ?_
 rcases hq1 : sched_Check.f K l0 with _ | r1
 ·rw [hq1] at h; cases h
 rw [hq1] at h
 simp only [] at h
 refine gb [0] [(15, .slice A0 l0.length c0)] [.loaded ⟨b1, 0, none⟩ (.slice A0 l0.length c0)] ⟨hS3.c 2, trivial⟩ ?_
 refine ge_call (d := some 16) (f := 129) (args := #[.slice A0 l0.length c0]) (by kernel_rfl) (sched_Check_ok K l0 A0 c0 _ (hS3.rd hR0) hL0 _ hq1) ?_
 rintro _ w4 ⟨rfl, hS4⟩
 refine ⟨_, rfl, hS4.below, ?_⟩
 have hS5 := hS3.call hS4
 refine gw (some 8) (.cells #[vI 0, vI 0] 39) (fun b => pP b 0) hS5 fun b4 w5 hx4 hS6 => ?_
 refine gs b4 0 #[vI 0, vI 0] 39 [vI r1.Code, vI r1.At] hS6 fun w6 hS7 => ?_
 have hS8 : St w0 w6 [Own.blk b4 (.cells #[vI r1.Code, vI r1.At] 39 (0, 0)), Own.blk b3 (.cells #[vI 0, vI 0] 39 (0, 0)), Own.blk b2 (.cells #[.slice none 0 0, .slice none 0 0] 36 (0, 0)), Own.blk b1 (.cells #[.slice A0 l0.length c0] 49 (0, 0))] := hS7
 refine gn hK3 ?_
 refine ws fun K4 hK4 => ?_
 refine wr [(0, 0), (1, 0), (2, 0)] ?_
 refine gb [0, 1, 2] [(19, .bool (r1.Code != 0)), (18, vI r1.Code), (17, pP b4 0)] [.loaded ⟨b4, 0, none⟩ (vI r1.Code)] ⟨hS8.c 0, trivial⟩ ?_
 refine gn hK4 ?_
 by_cases hc1 : r1.Code = 0
 ·rw [if_pos hc1] at h
  refine wk 19 (r1.Code != 0) false (bne_eq_false_iff_eq.2 hc1) ?_
  refine we_false (by kernel_rfl) ?_
  refine we_skip fun a hF => hK2 _ _ ?_ a hF
  refine ws fun K5 hK5 => ?_
  rcases hq2 : modes_hosted.p0 x2 with _ | (_ | rr4)
  ·rw [hq2] at h; cases h
  ·rw [hq2] at h
   simp only [] at h
   refine we_keep (e' := [(0, .slice A0 l0.length c0), (1, .func (.func 93) #[] #[pP bg1_0 0, pP bg1_1 0]), (2, vI x2), (3, pP b1 0), (6, pP b2 0), (7, pP b3 0), (8, pP b4 0), (15, .slice A0 l0.length c0), (16, .agg #[vI r1.Code, vI r1.At]), (17, pP b4 0), (18, vI r1.Code), (19, .bool false)]) ea (modes_hosted_p0 K w0 l0 A0 c0 bg1_0 xg1_0 bg1_1 lg1_1 Ag1_1 cg1_1 x2 hR0 hL0 hBg1_0 hRg1_1 hLg1_1 hBg1_1 b1 b2 b3 r1 b4 hc1 _ hq2 _ hS8 _ ?_)
   rintro _ a w11 ⟨rfl, hS35, hF⟩
   replace hS35 : St w0 w11 [Own.blk b3 (.cells #[vI 0, vI 0] 39 (0, 0)), Own.blk b2 (.cells #[.slice none 0 0, .slice none 0 0] 36 (0, 0)), Own.blk b1 (.cells #[.slice A0 l0.length c0] 49 (0, 0))] := hS35
   refine hK5 [(1, .func (.func 93) #[] #[pP bg1_0 0, pP bg1_1 0]), (2, vI x2), (3, pP b1 0), (6, pP b2 0), (7, pP b3 0)] w11 ?_ a hF
   refine ws fun K9 hK9 => ?_
   rcases hq3 : modes_hosted.p1 l0 x2 with _ | (⟨m3, m4⟩ | rr3)
   ·rw [hq3] at h; cases h
   ·rw [hq3] at h
    simp only [] at h
    refine we_keep (e' := [(1, .func (.func 93) #[] #[pP bg1_0 0, pP bg1_1 0]), (2, vI x2), (3, pP b1 0), (6, pP b2 0), (7, pP b3 0)]) ea (modes_hosted_p1 K w0 l0 A0 c0 bg1_0 xg1_0 bg1_1 lg1_1 Ag1_1 cg1_1 x2 hR0 hL0 hBg1_0 hRg1_1 hLg1_1 hBg1_1 b1 b2 b3 r1 b4 hc1 _ hq3 _ hS35 _ ?_)
    rintro _ a w16 ⟨rfl, b7, v5, v6, hS49, hF⟩
    replace hS49 : St w0 w16 [Own.blk b7 (.cells #[v5, v6] 36 (0, 0)), Own.blk b3 (.cells #[vI 0, vI 0] 39 (0, 0)), Own.blk b2 (.cells #[.slice none 0 0, .slice none 0 0] 36 (0, 0)), Own.blk b1 (.cells #[.slice A0 l0.length c0] 49 (0, 0)), Own.of v5 3 m3, Own.of v6 3 m4] := hS49
    refine hK9 [(1, .func (.func 93) #[] #[pP bg1_0 0, pP bg1_1 0]), (2, vI x2), (3, pP b1 0), (6, pP b2 0), (7, pP b3 0), (9, pP b7 0)] w16 ?_ a hF
    refine ws fun K10 hK10 => ?_
    refine wr [(0, 0), (1, 0), (2, 1), (3, 1), (4, 2)] ?_
    refine gb [0, 1] [(37, vI (l0.length : Int)), (36, .slice A0 l0.length c0)] [.loaded ⟨b1, 0, none⟩ (.slice A0 l0.length c0)] ⟨hS49.c 3, trivial⟩ ?_
    by_cases hc7 : l0.length ≤ 17592186044416
    ·rw [if_pos hc7] at h
     refine ge_make (α := Int) (d := 38) (t := 24) (el := 3) (bytes := 8) (l := l0.length) (c := l0.length) (x := (.tmp 37)) (y := (.tmp 37)) (ty := 24) (k1 := .i64) (k2 := .i64) (li := (l0.length : Int)) (ci := (l0.length : Int)) (z := vI 0) (z' := (0 : Int)) (by kernel_rfl) (by kernel_rfl) (by kernel_rfl) rfl rfl (by kernel_rfl) (by kernel_rfl) rfl hS49 (Nat.le_refl _) rfl (by omega) fun v7 w17 _ hS50 => ?_
     refine gw (some 10) (.cells #[.slice none 0 0] 24) (fun b => pP b 0) hS50 fun b8 w18 hx6 hS51 => ?_
     obtain ⟨Z3, cz3, rfl⟩ := hS51.open 1 rfl
     refine gs b8 0 #[.slice none 0 0] 24 [(.slice Z3 (List.replicate l0.length (0 : Int)).length cz3)] hS51 fun w19 hS52 => ?_
     have hS53 : St w0 w19 [Own.blk b8 (.cells #[(.slice Z3 (List.replicate l0.length (0 : Int)).length cz3)] 24 (0, 0)), Own.of (.slice Z3 (List.replicate l0.length (0 : Int)).length cz3) 3 (List.replicate l0.length (0 : Int)), Own.blk b7 (.cells #[v5, v6] 36 (0, 0)), Own.blk b3 (.cells #[vI 0, vI 0] 39 (0, 0)), Own.blk b2 (.cells #[.slice none 0 0, .slice none 0 0] 36 (0, 0)), Own.blk b1 (.cells #[.slice A0 l0.length c0] 49 (0, 0)), Own.of v5 3 m3, Own.of v6 3 m4] := hS52
     refine gn hK10 ?_
     refine ws fun K11 hK11 => ?_
     refine ws fun K12 hK12 => ?_
     refine wr [(0, 0), (1, 0), (2, 0)] ?_
     refine gb [0, 1, 2] [(41, vI 0), (40, vI (l0.length : Int)), (39, .slice A0 l0.length c0)] [.loaded ⟨b1, 0, none⟩ (.slice A0 l0.length c0)] ⟨hS53.c 5, trivial⟩ ?_
     refine gn hK12 ?_
     refine we_block ?_
     obtain ⟨Z4, cz4, rfl⟩ := hS53.open 6 rfl
     obtain ⟨Z5, cz5, rfl⟩ := hS53.open 7 rfl
     have hS54 := hS53.bring 7 rfl
     have hS55 := hS54.bring 7 rfl
     have hS56 := hS55.bring 3 rfl
     have hS57 := hS56.bring 7 rfl
     have hS58 := hS57.bring 7 rfl
     have hS59 := hS58.bring 7 rfl
     have hS60 := hS59.bring 7 rfl
     have hS61 := hS60.bring 7 rfl
     rcases hq4 : iter (modes_hosted.r2 l0) K (0, (List.replicate l0.length (0 : Int)), m4) with _ | (⟨m9, m10⟩ | rr2)
     ·rw [hq4] at h; cases h
     ·rw [hq4] at h
      simp only [] at h
      refine we_iter (A := modes_hosted.A2 w0 l0 A0 c0 bg1_0 bg1_1 x2 b1 b2 b3 b7 m3 b8 Z3 cz3 Z4 cz4 Z5 cz5) (B := modes_hosted.B2 w0 l0 A0 c0 bg1_0 bg1_1 x2 b1 b2 b3 b7 m3 b8 Z3 cz3 Z4 cz4 Z5 cz5) hq4 (fun a hF => ⟨hS61, hF.weaken ea⟩) (fun s o hf a w hA Q hQ => modes_hosted_r2 K w0 l0 A0 c0 bg1_0 xg1_0 bg1_1 lg1_1 Ag1_1 cg1_1 x2 hR0 hL0 hBg1_0 hRg1_1 hLg1_1 hBg1_1 b1 b2 b3 r1 b4 hc1 b7 m3 m4 hc7 b8 Z3 cz3 Z4 cz4 Z5 cz5 s o hf a w hA Q hQ) ?_
      rintro _ a w24 _ ⟨rfl, hS90, hF⟩
      replace hS90 : St w0 w24 [Own.blk b8 (.cells #[(.slice Z3 m9.length cz3)] 24 (0, 0)), Own.blk b7 (.cells #[(.slice Z4 m3.length cz4), (.slice Z5 m10.length cz5)] 36 (0, 0)), Own.blk b3 (.cells #[vI 0, vI 0] 39 (0, 0)), Own.blk b2 (.cells #[.slice none 0 0, .slice none 0 0] 36 (0, 0)), Own.blk b1 (.cells #[.slice A0 l0.length c0] 49 (0, 0)), Own.of (.slice Z3 m9.length cz3) 3 m9, Own.of (.slice Z4 m3.length cz4) 3 m3, Own.of (.slice Z5 m10.length cz5) 3 m10] := hS90
      refine hK11 [(1, .func (.func 93) #[] #[pP bg1_0 0, pP bg1_1 0]), (2, vI x2), (3, pP b1 0), (6, pP b2 0), (7, pP b3 0), (9, pP b7 0), (10, pP b8 0)] w24 ?_ a hF
      refine ws fun K17 hK17 => ?_
      refine ws fun K18 hK18 => ?_
      refine wr [(0, 0), (1, 0)] ?_
      refine gb0 [0, 1] [(57, vI 0), (56, vI x2)] ?_
      refine gn hK18 ?_
      refine we_block ?_
      have hS91 := hS90.bring 7 rfl
      have hS92 := hS91.bring 7 rfl
      have hS93 := hS92.bring 7 rfl
      have hS94 := hS93.bring 7 rfl
      have hS95 := hS94.bring 7 rfl
      have hS96 := hS95.bring 7 rfl
      have hS97 := hS96.bring 7 rfl
      have hS98 := hS97.bring 7 rfl
      rcases hq7 : iter (modes_hosted.r3 K l0 xg1_0 lg1_1 x2) K (0, m9, m3, m10) with _ | (⟨m16, m17⟩ | rr1)
      ·rw [hq7] at h; cases h
      ·rw [hq7] at h
       simp only [] at h
       refine we_iter (A := modes_hosted.A3 w0 l0 A0 c0 bg1_0 bg1_1 x2 b1 b2 b3 b7 b8 Z3 cz3 Z4 cz4 Z5 cz5) (B := modes_hosted.B3 w0 b2 b3 b7 Z4 cz4 Z5 cz5) hq7 (fun a hF => ⟨hS98, hF.weaken ea⟩) (fun s o hf a w hA Q hQ => modes_hosted_r3 K w0 l0 A0 c0 bg1_0 xg1_0 bg1_1 lg1_1 Ag1_1 cg1_1 x2 hR0 hL0 hBg1_0 hRg1_1 hLg1_1 hBg1_1 b1 b2 b3 r1 b4 hc1 b7 m3 m4 hc7 b8 Z3 cz3 Z4 cz4 Z5 cz5 m9 m10 s o hf a w hA Q hQ) ?_
       rintro _ a w33 _ ⟨rfl, hS162, hF⟩
       replace hS162 : St w0 w33 [Own.blk b7 (.cells #[(.slice Z4 m16.length cz4), (.slice Z5 m17.length cz5)] 36 (0, 0)), Own.blk b3 (.cells #[vI 0, vI 0] 39 (0, 0)), Own.blk b2 (.cells #[.slice none 0 0, .slice none 0 0] 36 (0, 0)), Own.of (.slice Z4 m16.length cz4) 3 m16, Own.of (.slice Z5 m17.length cz5) 3 m17] := hS162
       refine hK17 [(6, pP b2 0), (7, pP b3 0), (9, pP b7 0)] w33 ?_ a hF
       refine ws fun K32 hK32 => ?_
       refine wr [(0, 0), (1, 0), (2, 2), (3, 2)] ?_
       refine gb [0, 1] [(97, .agg #[vI 0, vI 0]), (96, .agg #[(.slice Z4 m16.length cz4), (.slice Z5 m17.length cz5)])] [.loaded ⟨b7, 0, none⟩ ((.slice Z4 m16.length cz4)), .loaded ⟨b7, 1, none⟩ ((.slice Z5 m17.length cz5))] ⟨hS162.c 0, hS162.c 0, trivial⟩ ?_
       have hS163 := hS162.bring 2 rfl
       refine gs b2 0 #[.slice none 0 0, .slice none 0 0] 36 [(.slice Z4 m16.length cz4), (.slice Z5 m17.length cz5)] hS163 fun w34 hS164 => ?_
       have hS165 : St w0 w34 [Own.blk b2 (.cells #[(.slice Z4 m16.length cz4), (.slice Z5 m17.length cz5)] 36 (0, 0)), Own.blk b7 (.cells #[(.slice Z4 m16.length cz4), (.slice Z5 m17.length cz5)] 36 (0, 0)), Own.blk b3 (.cells #[vI 0, vI 0] 39 (0, 0)), Own.of (.slice Z4 m16.length cz4) 3 m16, Own.of (.slice Z5 m17.length cz5) 3 m17] := hS164
       have hS166 := hS165.bring 2 rfl
       refine gs b3 0 #[vI 0, vI 0] 39 [vI 0, vI 0] hS166 fun w35 hS167 => ?_
       have hS168 : St w0 w35 [Own.blk b3 (.cells #[vI 0, vI 0] 39 (0, 0)), Own.blk b2 (.cells #[(.slice Z4 m16.length cz4), (.slice Z5 m17.length cz5)] 36 (0, 0)), Own.blk b7 (.cells #[(.slice Z4 m16.length cz4), (.slice Z5 m17.length cz5)] 36 (0, 0)), Own.of (.slice Z4 m16.length cz4) 3 m16, Own.of (.slice Z5 m17.length cz5) 3 m17] := hS167
       refine gn hK32 ?_
       have hS169 := hS168.bring 4 rfl
       have hS170 := hS169.bring 4 rfl
       have hS171 := hS170.takeN 2
       obtain rfl := si h
       exact we_ret (pr [.cell 6 36, .cell 7 39] [.agg #[(.slice Z4 m16.length cz4), (.slice Z5 m17.length cz5)], .agg #[vI 0, vI 0]] [.loaded ⟨b2, 0, none⟩ ((.slice Z4 m16.length cz4)), .loaded ⟨b2, 1, none⟩ ((.slice Z5 m17.length cz5)), .loaded ⟨b3, 0, none⟩ (vI 0), .loaded ⟨b3, 1, none⟩ (vI 0)] ⟨hS168.c 1, hS168.c 1, hS168.c 0, hS168.c 0, trivial⟩ ⟨(.slice Z4 m16.length cz4), (.slice Z5 m17.length cz5), rfl, hS171⟩)
      ·rw [hq7] at h
       simp only [] at h
       refine we_iter (A := modes_hosted.A3 w0 l0 A0 c0 bg1_0 bg1_1 x2 b1 b2 b3 b7 b8 Z3 cz3 Z4 cz4 Z5 cz5) (B := modes_hosted.B3 w0 b2 b3 b7 Z4 cz4 Z5 cz5) hq7 (fun a hF => ⟨hS98, hF.weaken ea⟩) (fun s o hf a w hA Q hQ => modes_hosted_r3 K w0 l0 A0 c0 bg1_0 xg1_0 bg1_1 lg1_1 Ag1_1 cg1_1 x2 hR0 hL0 hBg1_0 hRg1_1 hLg1_1 hBg1_1 b1 b2 b3 r1 b4 hc1 b7 m3 m4 hc7 b8 Z3 cz3 Z4 cz4 Z5 cz5 m9 m10 s o hf a w hA Q hQ) ?_
       rintro _ a w1 _ ⟨rfl, hb⟩
       obtain rfl := si h
       exact hb
     ·rw [hq4] at h
      simp only [] at h
      refine we_iter (A := modes_hosted.A2 w0 l0 A0 c0 bg1_0 bg1_1 x2 b1 b2 b3 b7 m3 b8 Z3 cz3 Z4 cz4 Z5 cz5) (B := modes_hosted.B2 w0 l0 A0 c0 bg1_0 bg1_1 x2 b1 b2 b3 b7 m3 b8 Z3 cz3 Z4 cz4 Z5 cz5) hq4 (fun a hF => ⟨hS61, hF.weaken ea⟩) (fun s o hf a w hA Q hQ => modes_hosted_r2 K w0 l0 A0 c0 bg1_0 xg1_0 bg1_1 lg1_1 Ag1_1 cg1_1 x2 hR0 hL0 hBg1_0 hRg1_1 hLg1_1 hBg1_1 b1 b2 b3 r1 b4 hc1 b7 m3 m4 hc7 b8 Z3 cz3 Z4 cz4 Z5 cz5 s o hf a w hA Q hQ) ?_
      rintro _ a w1 _ ⟨rfl, hb⟩
      obtain rfl := si h
      exact hb
    ·rw [if_neg hc7] at h
     cases h
   ·rw [hq3] at h
    simp only [] at h
    refine we_keep (e' := [(1, .func (.func 93) #[] #[pP bg1_0 0, pP bg1_1 0]), (2, vI x2), (3, pP b1 0), (6, pP b2 0), (7, pP b3 0)]) ea (modes_hosted_p1 K w0 l0 A0 c0 bg1_0 xg1_0 bg1_1 lg1_1 Ag1_1 cg1_1 x2 hR0 hL0 hBg1_0 hRg1_1 hLg1_1 hBg1_1 b1 b2 b3 r1 b4 hc1 _ hq3 _ hS35 _ ?_)
    rintro _ a w1 ⟨_, rfl, hb⟩
    obtain rfl := si h
    exact hb
  ·rw [hq2] at h
   simp only [] at h
   refine we_keep (e' := [(0, .slice A0 l0.length c0), (1, .func (.func 93) #[] #[pP bg1_0 0, pP bg1_1 0]), (2, vI x2), (3, pP b1 0), (6, pP b2 0), (7, pP b3 0), (8, pP b4 0), (15, .slice A0 l0.length c0), (16, .agg #[vI r1.Code, vI r1.At]), (17, pP b4 0), (18, vI r1.Code), (19, .bool false)]) ea (modes_hosted_p0 K w0 l0 A0 c0 bg1_0 xg1_0 bg1_1 lg1_1 Ag1_1 cg1_1 x2 hR0 hL0 hBg1_0 hRg1_1 hLg1_1 hBg1_1 b1 b2 b3 r1 b4 hc1 _ hq2 _ hS8 _ ?_)
   rintro _ a w1 ⟨_, rfl, hb⟩
   obtain rfl := si h
   exact hb
 ·rw [if_neg hc1] at h
  refine wk 19 (r1.Code != 0) true (bne_iff_ne.2 hc1) ?_
  refine we_true (by kernel_rfl) ?_
  refine ws fun K33 hK33 => ?_
  rcases hq8 : modes_hosted.p4 r1 with _ | (⟨z4, z5, m20, m21⟩ | rr5)
  ·rw [hq8] at h; cases h
  ·rw [hq8] at h
   simp only [] at h
   refine we_keep (e' := [(0, .slice A0 l0.length c0), (1, .func (.func 93) #[] #[pP bg1_0 0, pP bg1_1 0]), (2, vI x2), (3, pP b1 0), (6, pP b2 0), (7, pP b3 0), (8, pP b4 0), (15, .slice A0 l0.length c0), (16, .agg #[vI r1.Code, vI r1.At]), (17, pP b4 0), (18, vI r1.Code), (19, .bool true)]) ea (modes_hosted_p4 K w0 l0 A0 c0 bg1_0 xg1_0 bg1_1 lg1_1 Ag1_1 cg1_1 x2 hR0 hL0 hBg1_0 hRg1_1 hLg1_1 hBg1_1 b1 b2 b3 r1 b4 hc1 _ hq8 _ hS8 _ ?_)
   rintro _ a w38 ⟨rfl, v10, v11, hS186, hF⟩
   replace hS186 : St w0 w38 [Own.blk b3 (.cells #[vI z4, vI z5] 39 (0, 0)), Own.blk b2 (.cells #[v10, v11] 36 (0, 0)), Own.of v10 3 m20, Own.of v11 3 m21] := hS186
   refine hK33 [(6, pP b2 0), (7, pP b3 0)] w38 ?_ a hF
   have hS187 := hS186.bring 3 rfl
   have hS188 := hS187.bring 3 rfl
   have hS189 := hS188.takeN 2
   obtain rfl := si h
   exact we_ret (pr [.cell 6 36, .cell 7 39] [.agg #[v10, v11], .agg #[vI z4, vI z5]] [.loaded ⟨b2, 0, none⟩ (v10), .loaded ⟨b2, 1, none⟩ (v11), .loaded ⟨b3, 0, none⟩ (vI z4), .loaded ⟨b3, 1, none⟩ (vI z5)] ⟨hS186.c 1, hS186.c 1, hS186.c 0, hS186.c 0, trivial⟩ ⟨v10, v11, rfl, hS189⟩)
  ·rw [hq8] at h
   simp only [] at h
   refine we_keep (e' := [(0, .slice A0 l0.length c0), (1, .func (.func 93) #[] #[pP bg1_0 0, pP bg1_1 0]), (2, vI x2), (3, pP b1 0), (6, pP b2 0), (7, pP b3 0), (8, pP b4 0), (15, .slice A0 l0.length c0), (16, .agg #[vI r1.Code, vI r1.At]), (17, pP b4 0), (18, vI r1.Code), (19, .bool true)]) ea (modes_hosted_p4 K w0 l0 A0 c0 bg1_0 xg1_0 bg1_1 lg1_1 Ag1_1 cg1_1 x2 hR0 hL0 hBg1_0 hRg1_1 hLg1_1 hBg1_1 b1 b2 b3 r1 b4 hc1 _ hq8 _ hS8 _ ?_)
   rintro _ a w1 ⟨_, rfl, hb⟩
   obtain rfl := si h
   exact hb

/-! punctual/modes.Hosted -/
abbrev modes_Hosted.Post (w0 : World) (r : SPlayed × SFault) (e : Ending) (w : World) : Prop := ∃ (v0 : Value) (v1 : Value), e = .returned (.tuple #[.agg #[v0, v1], .agg #[vI r.2.Code, vI r.2.At]]) ∧ St w0 w [Own.of v0 3 r.1.Runs, Own.of v1 3 r.1.Ends]
def modes_Hosted.f (K : Nat) (l0 : List SJob) (x1 : Int) (l2 : List SWindow) (x3 : Int) : Option (SPlayed × SFault) :=
 match modes_Frame.f K x1 l2 with
 | none => none
 | some r1 =>
  if r1.Code = 0 then
   match modes_hosted.f K l0 x1 l2 x3 with
   | none => none
   | some r2 =>
    some (r2.1, r2.2)
  else
   some ((⟨([] : List Int), ([] : List Int)⟩ : SPlayed), r1)
theorem modes_Hosted_ok (K : Nat) (l0 : List SJob) (A0 : Option Addr) (c0 : Nat) (x1 : Int) (l2 : List SWindow) (A2 : Option Addr) (c2 : Nat) (x3 : Int) (w0 : World) (hR0 : RdL w0 A0 l0) (hL0 : l0.length ≤ c0) (hR2 : RdL w0 A2 l2) (hL2 : l2.length ≤ c2) (r : SPlayed × SFault) (h : modes_Hosted.f K l0 x1 l2 x3 = some r) :
  Calls Tryd.prog 29 #[.slice A0 l0.length c0, vI x1, .slice A2 l2.length c2, vI x3] w0 (modes_Hosted.Post w0 r) := by
 have hS := St.start w0
 unfold modes_Hosted.f at h
 refine calls_enter (n := 25) (args := [.slice A0 l0.length c0, vI x1, .slice A2 l2.length c2, vI x3]) (fn := Tryd.f29) rfl rfl rfl rfl ?_
 show WE _ _ _ _ [(0, .slice A0 l0.length c0), (1, vI x1), (2, .slice A2 l2.length c2), (3, vI x3)] _
 refine ws fun K1 hK1 => ?_
 refine wr [(0, 1), (1, 1), (2, 1), (3, 1)] ?_
 refine gw (some 5) (.cells #[vI x1] 3) (fun b => pP b 0) hS fun b1 w1 hx1 hS1 => ?_
 refine gw (some 6) (.cells #[.slice A2 l2.length c2] 48) (fun b => pP b 0) hS1 fun b2 w2 hx2 hS2 => ?_
 refine gw (some 8) (.cells #[.slice none 0 0, .slice none 0 0] 36) (fun b => pP b 0) hS2 fun b3 w3 hx3 hS3 => ?_
 refine gw (some 9) (.cells #[vI 0, vI 0] 39) (fun b => pP b 0) hS3 fun b4 w4 hx4 hS4 => ?_
 refine gn hK1 ?_
 refine ws fun K2 hK2 => ?_
 refine ws fun K3 hK3 => ?_
 refine wr [(0, 0), (1, 0), (2, 1), (3, 1), (4, 2)] ?_
 rcases hq1 : modes_Frame.f K x1 l2 with _ | r1
 ·rw [hq1] at h; cases h
 rw [hq1] at h
 simp only [] at h
 refine gb [0, 1] [(12, .slice A2 l2.length c2), (11, vI x1)] [.loaded ⟨b1, 0, none⟩ (vI x1), .loaded ⟨b2, 0, none⟩ (.slice A2 l2.length c2)] ⟨hS4.c 3, hS4.c 2, trivial⟩ ?_
 refine ge_call (d := some 13) (f := 80) (args := #[vI x1, .slice A2 l2.length c2]) (by kernel_rfl) (modes_Frame_ok K x1 l2 A2 c2 _ (hS4.rd hR2) hL2 _ hq1) ?_
 rintro _ w5 ⟨rfl, hS5⟩
 refine ⟨_, rfl, hS5.below, ?_⟩
 have hS6 := hS4.call hS5
 refine gw (some 10) (.cells #[vI 0, vI 0] 39) (fun b => pP b 0) hS6 fun b5 w6 hx5 hS7 => ?_
 refine gs b5 0 #[vI 0, vI 0] 39 [vI r1.Code, vI r1.At] hS7 fun w7 hS8 => ?_
 have hS9 : St w0 w7 [Own.blk b5 (.cells #[vI r1.Code, vI r1.At] 39 (0, 0)), Own.blk b4 (.cells #[vI 0, vI 0] 39 (0, 0)), Own.blk b3 (.cells #[.slice none 0 0, .slice none 0 0] 36 (0, 0)), Own.blk b2 (.cells #[.slice A2 l2.length c2] 48 (0, 0)), Own.blk b1 (.cells #[vI x1] 3 (0, 0))] := hS8
 refine gn hK3 ?_
 refine ws fun K4 hK4 => ?_
 refine wr [(0, 0), (1, 0), (2, 0)] ?_
 refine gb [0, 1, 2] [(16, .bool (r1.Code != 0)), (15, vI r1.Code), (14, pP b5 0)] [.loaded ⟨b5, 0, none⟩ (vI r1.Code)] ⟨hS9.c 0, trivial⟩ ?_
 refine gn hK4 ?_
 by_cases hc1 : r1.Code = 0
 ·rw [if_pos hc1] at h
  refine wk 16 (r1.Code != 0) false (bne_eq_false_iff_eq.2 hc1) ?_
  refine we_false (by kernel_rfl) ?_
  refine we_skip fun a hF => hK2 _ _ ?_ a hF
  refine ws fun K5 hK5 => ?_
  refine wr [(0, 0), (1, 0), (2, 0), (3, 1), (4, 0), (5, 0), (6, 2), (7, 2)] ?_
  rcases hq2 : modes_hosted.f K l0 x1 l2 x3 with _ | r2
  ·rw [hq2] at h; cases h
  rw [hq2] at h
  simp only [] at h
  refine gb0 [0, 1, 2] [(21, vI x3), (20, .func (.func 93) #[] #[pP b1 0, pP b2 0]), (19, .slice A0 l0.length c0)] ?_
  refine ge_call (d := some 22) (f := 92) (args := #[.slice A0 l0.length c0, .func (.func 93) #[] #[pP b1 0, pP b2 0], vI x3]) (by kernel_rfl) (modes_hosted_ok K l0 A0 c0 b1 x1 b2 l2 A2 c2 x3 _ (hS9.rd hR0) hL0 (hS9.globOf 4 rfl) (hS9.rd hR2) hL2 (hS9.globOf 3 rfl) _ hq2) ?_
  rintro _ w8 ⟨v1, v2, rfl, hS10⟩
  refine ⟨_, rfl, hS10.below, ?_⟩
  have hS11 := hS9.call hS10
  refine gb0 [4, 5] [(24, .agg #[vI r2.2.Code, vI r2.2.At]), (23, .agg #[v1, v2])] ?_
  obtain ⟨Z1, cz1, rfl⟩ := hS11.open 0 rfl
  obtain ⟨Z2, cz2, rfl⟩ := hS11.open 1 rfl
  have hS12 := hS11.bring 4 rfl
  refine gs b3 0 #[.slice none 0 0, .slice none 0 0] 36 [(.slice Z1 r2.1.Runs.length cz1), (.slice Z2 r2.1.Ends.length cz2)] hS12 fun w9 hS13 => ?_
  have hS14 : St w0 w9 [Own.blk b3 (.cells #[(.slice Z1 r2.1.Runs.length cz1), (.slice Z2 r2.1.Ends.length cz2)] 36 (0, 0)), Own.of (.slice Z1 r2.1.Runs.length cz1) 3 r2.1.Runs, Own.of (.slice Z2 r2.1.Ends.length cz2) 3 r2.1.Ends, Own.blk b5 (.cells #[vI r1.Code, vI r1.At] 39 (0, 0)), Own.blk b4 (.cells #[vI 0, vI 0] 39 (0, 0)), Own.blk b2 (.cells #[.slice A2 l2.length c2] 48 (0, 0)), Own.blk b1 (.cells #[vI x1] 3 (0, 0))] := hS13
  have hS15 := hS14.bring 4 rfl
  refine gs b4 0 #[vI 0, vI 0] 39 [vI r2.2.Code, vI r2.2.At] hS15 fun w10 hS16 => ?_
  have hS17 : St w0 w10 [Own.blk b4 (.cells #[vI r2.2.Code, vI r2.2.At] 39 (0, 0)), Own.blk b3 (.cells #[(.slice Z1 r2.1.Runs.length cz1), (.slice Z2 r2.1.Ends.length cz2)] 36 (0, 0)), Own.of (.slice Z1 r2.1.Runs.length cz1) 3 r2.1.Runs, Own.of (.slice Z2 r2.1.Ends.length cz2) 3 r2.1.Ends, Own.blk b5 (.cells #[vI r1.Code, vI r1.At] 39 (0, 0)), Own.blk b2 (.cells #[.slice A2 l2.length c2] 48 (0, 0)), Own.blk b1 (.cells #[vI x1] 3 (0, 0))] := hS16
  refine gn hK5 ?_
  have hS18 := hS17.bring 3 rfl
  have hS19 := hS18.bring 3 rfl
  have hS20 := hS19.takeN 2
  obtain rfl := si h
  exact we_ret (pr [.cell 8 36, .cell 9 39] [.agg #[(.slice Z1 r2.1.Runs.length cz1), (.slice Z2 r2.1.Ends.length cz2)], .agg #[vI r2.2.Code, vI r2.2.At]] [.loaded ⟨b3, 0, none⟩ ((.slice Z1 r2.1.Runs.length cz1)), .loaded ⟨b3, 1, none⟩ ((.slice Z2 r2.1.Ends.length cz2)), .loaded ⟨b4, 0, none⟩ (vI r2.2.Code), .loaded ⟨b4, 1, none⟩ (vI r2.2.At)] ⟨hS17.c 1, hS17.c 1, hS17.c 0, hS17.c 0, trivial⟩ ⟨(.slice Z1 r2.1.Runs.length cz1), (.slice Z2 r2.1.Ends.length cz2), rfl, hS20⟩)
 ·rw [if_neg hc1] at h
  refine wk 16 (r1.Code != 0) true (bne_iff_ne.2 hc1) ?_
  refine we_true (by kernel_rfl) ?_
  refine ws fun K6 hK6 => ?_
  refine we_orders2 (by kernel_rfl) [(1, [⟨b5, 0, none⟩, ⟨b5, 1, none⟩])] (.vals [0] (.vals [1] (.alt 2 2 (.alt 3 2 .fin .nomore) .nomore))) (by kernel_rfl) ?_
  have hS21 := hS9.drew
  refine go2_batch [0] (ans := []) (vs := [(17, .agg #[.slice none 0 0, .slice none 0 0])]) (l := []) (by kernel_rfl) trivial mem_nil ?_
  refine go2_batch [1] (ans := [.val (vI r1.Code), .val (vI r1.At)]) (vs := [(18, .agg #[vI r1.Code, vI r1.At])]) (l := [.loaded ⟨b5, 0, none⟩ (vI r1.Code), .loaded ⟨b5, 1, none⟩ (vI r1.At)]) (by kernel_rfl) ⟨hS21.c 0, hS21.c 0, trivial⟩ (mem_one (by kernel_rfl)) ?_
  refine go_alt2 (fun KK hKK => ?_) ?_
  ·have hS22 := hS21.bring 2 rfl
   refine gs b3 0 #[.slice none 0 0, .slice none 0 0] 36 [.slice none 0 0, .slice none 0 0] hS22 fun w11 hS23 => ?_
   have hS24 : St w0 w11 [Own.blk b3 (.cells #[.slice none 0 0, .slice none 0 0] 36 (0, 0)), Own.blk b5 (.cells #[vI r1.Code, vI r1.At] 39 (0, 0)), Own.blk b4 (.cells #[vI 0, vI 0] 39 (0, 0)), Own.blk b2 (.cells #[.slice A2 l2.length c2] 48 (0, 0)), Own.blk b1 (.cells #[vI x1] 3 (0, 0))] := hS23
   refine ge_nil fun a hF => hKK _ _ (RS.of2 (l := [.loaded ⟨b5, 0, none⟩ (vI r1.Code), .loaded ⟨b5, 1, none⟩ (vI r1.At)]) (by kernel_rfl) ⟨hS21.c 0, hS21.c 0, trivial⟩ ⟨hS24.c 1, hS24.c 1, trivial⟩) ?_ a hF
   refine go_alt2 (fun KK hKK => ?_) ?_
   ·have hS25 := hS24.bring 2 rfl
    refine gs b4 0 #[vI 0, vI 0] 39 [vI r1.Code, vI r1.At] hS25 fun w12 hS26 => ?_
    have hS27 : St w0 w12 [Own.blk b4 (.cells #[vI r1.Code, vI r1.At] 39 (0, 0)), Own.blk b3 (.cells #[.slice none 0 0, .slice none 0 0] 36 (0, 0)), Own.blk b5 (.cells #[vI r1.Code, vI r1.At] 39 (0, 0)), Own.blk b2 (.cells #[.slice A2 l2.length c2] 48 (0, 0)), Own.blk b1 (.cells #[vI x1] 3 (0, 0))] := hS26
    refine ge_nil fun a hF => hKK _ _ (RS.of2 (l := []) (by kernel_rfl) trivial trivial) ?_ a hF
    refine go_fin2 fun a hF => hK6 _ _ ?_ a hF
    have hS28 := hS27.nil (α := Int) 3
    have hS29 := hS28.nil (α := Int) 3
    have hS30 := hS29.bring 1 rfl
    have hS31 := hS30.bring 1 rfl
    have hS32 := hS31.takeN 2
    obtain rfl := si h
    exact we_ret (pr [.cell 8 36, .cell 9 39] [.agg #[(.slice none 0 0), (.slice none 0 0)], .agg #[vI r1.Code, vI r1.At]] [.loaded ⟨b3, 0, none⟩ ((.slice none 0 0)), .loaded ⟨b3, 1, none⟩ ((.slice none 0 0)), .loaded ⟨b4, 0, none⟩ (vI r1.Code), .loaded ⟨b4, 1, none⟩ (vI r1.At)] ⟨hS29.c 3, hS29.c 3, hS29.c 2, hS29.c 2, trivial⟩ ⟨(.slice none 0 0), (.slice none 0 0), rfl, hS32⟩)
   exact go_nomore2
  exact go_nomore2

/-! punctual/punctualsame.Same[int] -/
abbrev punctualsame_Same_int.Post (w0 : World) (r : Bool) (e : Ending) (w : World) : Prop := e = .returned (.bool r) ∧ St w0 w []
def punctualsame_Same_int.r0 (l0 : List Int) (l1 : List Int) : Nat → Option (Nat ⊕ (Unit ⊕ Bool))
 | i1 =>
  if (i1 : Int) < (l0.length : Int) then
   match l0[i1]? with
   | none => none
   | some e1 =>
    match l1[i1]? with
    | none => none
    | some e2 =>
     if e1 = e2 then
      some (.inl (i1 + 1))
     else
      some (.inr (.inr false))
  else
   some (.inr (.inl ()))
def punctualsame_Same_int.f (K : Nat) (l0 : List Int) (l1 : List Int) : Option Bool :=
 if (l0.length : Int) = (l1.length : Int) then
  match iter (punctualsame_Same_int.r0 l0 l1) K 0 with
  | none => none
  | some (.inl _) =>
   some true
  | some (.inr rr1) =>
   some rr1
 else
  some false
abbrev punctualsame_Same_int.A0 (w0 : World) (l0 : List Int) (A0 : Option Addr) (c0 : Nat) (l1 : List Int) (A1 : Option Addr) (c1 : Nat) : Nat → Act → World → Prop := fun (s : Nat) a w => St w0 w [] ∧ Frm 26 a [(0, .slice A0 l0.length c0), (1, .slice A1 l1.length c1), (12, vI (l0.length : Int)), (13, vI (s : Int))]
abbrev punctualsame_Same_int.B0 (w0 : World) : (Unit ⊕ Bool) → Exit → Act → World → Prop := Exits 0 (fun (s : Unit) a w => St w0 w [] ∧ Frm 26 a []) (Rets Tryd.prog Tryd.f40 (punctualsame_Same_int.Post w0))
theorem punctualsame_Same_int_r0 (K : Nat) (w0 : World) (l0 : List Int) (A0 : Option Addr) (c0 : Nat) (l1 : List Int) (A1 : Option Addr) (c1 : Nat) (hR0 : RdL w0 A0 l0) (hL0 : l0.length ≤ c0) (hR1 : RdL w0 A1 l1) (hL1 : l1.length ≤ c1) (hc1 : (l0.length : Int) = (l1.length : Int)) (s : Nat) (o : Nat ⊕ (Unit ⊕ Bool)) (h : punctualsame_Same_int.r0 l0 l1 s = some o) (a : Act) (w : World) (hA : punctualsame_Same_int.A0 w0 l0 A0 c0 l1 A1 c1 s a w) (Q : Exit → Act → World → Prop) (hQ : ∀ x a w, Outs (punctualsame_Same_int.A0 w0 l0 A0 c0 l1 A1 c1) (punctualsame_Same_int.B0 w0) o x a w → Q x a w) : (subF Tryd.f40 [1, 1, 0, 1, 0, 0]).wp Tryd.prog Q a w := by
 obtain ⟨i1, hs⟩ : ∃ z, z = s := ⟨s, rfl⟩
 subst hs
 obtain ⟨hS, hF⟩ := hA
 replace hS : St w0 w [] := hS
 simp only [punctualsame_Same_int.r0] at h
 refine (?_ : WE Tryd.prog 26 (subF Tryd.f40 [1, 1, 0, 1, 0, 0]) Q [(0, .slice A0 l0.length c0), (1, .slice A1 l1.length c1), (12, vI (l0.length : Int)), (13, vI (i1 : Int))] w) a hF
 clear hF a
 refine ws fun K6 hK6 => ?_
 refine wr [(0, 0)] ?_
 refine gb0 [0] [(14, .bool (decide ((i1 : Int) < (l0.length : Int))))] ?_
 refine gn hK6 ?_
 refine ws fun K7 hK7 => ?_
 by_cases hc2 : (i1 : Int) < (l0.length : Int)
 ·rw [if_pos hc2] at h
  refine wk 14 (decide ((i1 : Int) < (l0.length : Int))) true (decide_eq_true hc2) ?_
  refine we_true (by kernel_rfl) ?_
  refine we_skip fun a hF => hK7 _ _ ?_ a hF
  refine ws fun K8 hK8 => ?_
  refine we_block ?_
  refine ws fun K9 hK9 => ?_
  refine wr [(0, 0), (1, 0)] ?_
  refine gb0 [0, 1] [(5, vI (i1 : Int)), (15, vI (i1 : Int))] ?_
  refine gn hK9 ?_
  refine ws fun K10 hK10 => ?_
  refine we_draws (by kernel_rfl) [(0, 0), (1, 0), (2, 0), (3, 0), (4, 0), (5, 0), (6, 0), (7, 0), (8, 0)] (by kernel_rfl) ?_
  have hS1 := hS.drew
  refine gb0 [0, 1] [(17, vI (i1 : Int)), (16, .slice A0 l0.length c0)] ?_
  rcases hx1 : l0[i1]? with _ | e1
  ·rw [hx1] at h; cases h
  rw [hx1] at h
  simp only [] at h
  refine gi 18 0 24 3 1 l0.length c0 (.tmp 16) (.tmp 17) A0 .i64 (i1 : Int) i1 ((hS1.rd hR0).eqSome (pos_of_get hx1)) rfl (lt_of_get hx1) ?_
  refine gb [3, 4, 5] [(21, vI (i1 : Int)), (20, .slice A1 l1.length c1), (19, vI e1)] [.loaded ⟨blkOf A0, offOf A0 + i1 * 1, none⟩ (vI e1)] ⟨RdL.cell (j := 0) (hS1.rd hR0) hx1 rfl, trivial⟩ ?_
  rcases hx2 : l1[i1]? with _ | e2
  ·rw [hx2] at h; cases h
  rw [hx2] at h
  simp only [] at h
  refine gi 22 0 24 3 1 l1.length c1 (.tmp 20) (.tmp 21) A1 .i64 (i1 : Int) i1 ((hS1.rd hR1).eqSome (pos_of_get hx2)) rfl (lt_of_get hx2) ?_
  refine gb [7, 8] [(24, .bool (e1 != e2)), (23, vI e2)] [.loaded ⟨blkOf A1, offOf A1 + i1 * 1, none⟩ (vI e2)] ⟨RdL.cell (j := 0) (hS1.rd hR1) hx2 rfl, trivial⟩ ?_
  refine gn hK10 ?_
  by_cases hc3 : e1 = e2
  ·rw [if_pos hc3] at h
   refine wk 24 (e1 != e2) false (bne_eq_false_iff_eq.2 hc3) ?_
   refine we_false (by kernel_rfl) ?_
   refine we_skip fun a hF => hK8 _ _ ?_ a hF
   refine wr [(0, 0), (1, 0)] ?_
   refine ge_addn (d := 25) (ty := 3) (x := (.tmp 13)) (y := (.const (vI 1))) (t := 3) (t2 := 3) (k := .i64) (m := i1) (by kernel_rfl) (by kernel_rfl) (by kernel_rfl) (by have h0 := hR0.small; omega) ?_
   refine gb0 [1] [(13, vI ((i1 + 1 : Nat) : Int))] ?_
   obtain rfl := si h
   exact ge_nil fun a hF => hQ _ _ _ (Outs.again ⟨hS1, hF.weaken ea⟩)
  ·rw [if_neg hc3] at h
   refine wk 24 (e1 != e2) true (bne_iff_ne.2 hc3) ?_
   refine we_true (by kernel_rfl) ?_
   refine ws fun K11 hK11 => ?_
   refine wr [(0, 0)] ?_
   refine gb0 [0] [(4, .bool false)] ?_
   refine gn hK11 ?_
   obtain rfl := si h
   exact we_ret fun a hF => hQ _ _ _ (Outs.out nofun (Exits.on ⟨rfl, (pr0 [.tmp 4] [.bool false] ⟨rfl, hS1⟩) a hF⟩))
 ·rw [if_neg hc2] at h
  refine wk 14 (decide ((i1 : Int) < (l0.length : Int))) false (decide_eq_false hc2) ?_
  refine we_false (by kernel_rfl) ?_
  obtain rfl := si h
  exact we_exit fun a hF => hQ _ _ _ (Outs.out nofun (Exits.here ⟨hS, hF.weaken trivial⟩))
theorem punctualsame_Same_int_ok (K : Nat) (l0 : List Int) (A0 : Option Addr) (c0 : Nat) (l1 : List Int) (A1 : Option Addr) (c1 : Nat) (w0 : World) (hR0 : RdL w0 A0 l0) (hL0 : l0.length ≤ c0) (hR1 : RdL w0 A1 l1) (hL1 : l1.length ≤ c1) (r : Bool) (h : punctualsame_Same_int.f K l0 l1 = some r) :
  Calls Tryd.prog 40 #[.slice A0 l0.length c0, .slice A1 l1.length c1] w0 (punctualsame_Same_int.Post w0 r) := by
 have hS := St.start w0
 unfold punctualsame_Same_int.f at h
 refine calls_enter (n := 26) (args := [.slice A0 l0.length c0, .slice A1 l1.length c1]) (fn := Tryd.f40) rfl rfl rfl rfl ?_
 show WE _ _ _ _ [(0, .slice A0 l0.length c0), (1, .slice A1 l1.length c1)] _
 refine ws fun K1 hK1 => ?_
 refine wr [(0, 0)] ?_
 refine gb0 [0] [(4, .bool false)] ?_
 refine gn hK1 ?_
 refine ws fun K2 hK2 => ?_
 refine ws fun K3 hK3 => ?_
 refine wr [(0, 0), (1, 0), (2, 0), (3, 0), (4, 0)] ?_
 refine gb0 [0, 1, 2, 3, 4] [(10, .bool ((l0.length : Int) != (l1.length : Int))), (9, vI (l1.length : Int)), (8, .slice A1 l1.length c1), (7, vI (l0.length : Int)), (6, .slice A0 l0.length c0)] ?_
 refine gn hK3 ?_
 by_cases hc1 : (l0.length : Int) = (l1.length : Int)
 ·rw [if_pos hc1] at h
  refine wk 10 ((l0.length : Int) != (l1.length : Int)) false (bne_eq_false_iff_eq.2 hc1) ?_
  refine we_false (by kernel_rfl) ?_
  refine we_skip fun a hF => hK2 _ _ ?_ a hF
  refine ws fun K4 hK4 => ?_
  refine ws fun K5 hK5 => ?_
  refine wr [(0, 0), (1, 0), (2, 0)] ?_
  refine gb0 [0, 1, 2] [(13, vI 0), (12, vI (l0.length : Int)), (11, .slice A0 l0.length c0)] ?_
  refine gn hK5 ?_
  refine we_block ?_
  rcases hq1 : iter (punctualsame_Same_int.r0 l0 l1) K 0 with _ | (_ | rr1)
  ·rw [hq1] at h; cases h
  ·rw [hq1] at h
   simp only [] at h
   refine we_iter (A := punctualsame_Same_int.A0 w0 l0 A0 c0 l1 A1 c1) (B := punctualsame_Same_int.B0 w0) hq1 (fun a hF => ⟨hS, hF.weaken ea⟩) (fun s o hf a w hA Q hQ => punctualsame_Same_int_r0 K w0 l0 A0 c0 l1 A1 c1 hR0 hL0 hR1 hL1 hc1 s o hf a w hA Q hQ) ?_
   rintro _ a w1 _ ⟨rfl, hS2, hF⟩
   replace hS2 : St w0 w1 [] := hS2
   refine hK4 [] w1 ?_ a hF
   refine ws fun K12 hK12 => ?_
   refine wr [(0, 0)] ?_
   refine gb0 [0] [(4, .bool true)] ?_
   refine gn hK12 ?_
   obtain rfl := si h
   exact we_ret (pr0 [.tmp 4] [.bool true] ⟨rfl, hS2⟩)
  ·rw [hq1] at h
   simp only [] at h
   refine we_iter (A := punctualsame_Same_int.A0 w0 l0 A0 c0 l1 A1 c1) (B := punctualsame_Same_int.B0 w0) hq1 (fun a hF => ⟨hS, hF.weaken ea⟩) (fun s o hf a w hA Q hQ => punctualsame_Same_int_r0 K w0 l0 A0 c0 l1 A1 c1 hR0 hL0 hR1 hL1 hc1 s o hf a w hA Q hQ) ?_
   rintro _ a w1 _ ⟨rfl, hb⟩
   obtain rfl := si h
   exact hb
 ·rw [if_neg hc1] at h
  refine wk 10 ((l0.length : Int) != (l1.length : Int)) true (bne_iff_ne.2 hc1) ?_
  refine we_true (by kernel_rfl) ?_
  refine ws fun K13 hK13 => ?_
  refine wr [(0, 0)] ?_
  refine gb0 [0] [(4, .bool false)] ?_
  refine gn hK13 ?_
  obtain rfl := si h
  exact we_ret (pr0 [.tmp 4] [.bool false] ⟨rfl, hS⟩)

/-! punctual/punctualsame.Played -/
abbrev punctualsame_Played.Post (w0 : World) (r : Bool) (e : Ending) (w : World) : Prop := e = .returned (.bool r) ∧ St w0 w []
def punctualsame_Played.f (K : Nat) (l0_0 : List Int) (l0_1 : List Int) (l1_0 : List Int) (l1_1 : List Int) : Option Bool :=
 match punctualsame_Same_int.f K l0_0 l1_0 with
 | none => none
 | some r1 =>
  if r1 = true then
   match punctualsame_Same_int.f K l0_1 l1_1 with
   | none => none
   | some r2 =>
    some r2
  else
   some false
theorem punctualsame_Played_ok (K : Nat) (l0_0 : List Int) (A0_0 : Option Addr) (c0_0 : Nat) (l0_1 : List Int) (A0_1 : Option Addr) (c0_1 : Nat) (l1_0 : List Int) (A1_0 : Option Addr) (c1_0 : Nat) (l1_1 : List Int) (A1_1 : Option Addr) (c1_1 : Nat) (w0 : World) (hR0_0 : RdL w0 A0_0 l0_0) (hL0_0 : l0_0.length ≤ c0_0) (hR0_1 : RdL w0 A0_1 l0_1) (hL0_1 : l0_1.length ≤ c0_1) (hR1_0 : RdL w0 A1_0 l1_0) (hL1_0 : l1_0.length ≤ c1_0) (hR1_1 : RdL w0 A1_1 l1_1) (hL1_1 : l1_1.length ≤ c1_1) (r : Bool) (h : punctualsame_Played.f K l0_0 l0_1 l1_0 l1_1 = some r) :
  Calls Tryd.prog 18 #[.agg #[.slice A0_0 l0_0.length c0_0, .slice A0_1 l0_1.length c0_1], .agg #[.slice A1_0 l1_0.length c1_0, .slice A1_1 l1_1.length c1_1]] w0 (punctualsame_Played.Post w0 r) := by
 have hS := St.start w0
 unfold punctualsame_Played.f at h
 refine calls_enter (n := 17) (args := [.agg #[.slice A0_0 l0_0.length c0_0, .slice A0_1 l0_1.length c0_1], .agg #[.slice A1_0 l1_0.length c1_0, .slice A1_1 l1_1.length c1_1]]) (fn := Tryd.f18) rfl rfl rfl rfl ?_
 show WE _ _ _ _ [(0, .agg #[.slice A0_0 l0_0.length c0_0, .slice A0_1 l0_1.length c0_1]), (1, .agg #[.slice A1_0 l1_0.length c1_0, .slice A1_1 l1_1.length c1_1])] _
 refine ws fun K1 hK1 => ?_
 refine wr [(0, 1), (1, 1), (2, 0)] ?_
 refine gw (some 2) (.cells #[.slice A0_0 l0_0.length c0_0, .slice A0_1 l0_1.length c0_1] 36) (fun b => pP b 0) hS fun b1 w1 hx1 hS1 => ?_
 refine gw (some 3) (.cells #[.slice A1_0 l1_0.length c1_0, .slice A1_1 l1_1.length c1_1] 36) (fun b => pP b 0) hS1 fun b2 w2 hx2 hS2 => ?_
 refine gb0 [2] [(4, .bool false)] ?_
 refine gn hK1 ?_
 refine ws fun K2 hK2 => ?_
 refine wr [(0, 0), (1, 0), (2, 0), (3, 0), (4, 1), (5, 0), (6, 0), (7, 0), (8, 0), (9, 0), (10, 1), (11, 0), (12, 0)] ?_
 rcases hq1 : punctualsame_Same_int.f K l0_0 l1_0 with _ | r1
 ·rw [hq1] at h; cases h
 rw [hq1] at h
 simp only [] at h
 refine gb [0, 1, 2, 3] [(8, .slice A1_0 l1_0.length c1_0), (7, pP b2 0), (6, .slice A0_0 l0_0.length c0_0), (5, pP b1 0)] [.loaded ⟨b1, 0, none⟩ (.slice A0_0 l0_0.length c0_0), .loaded ⟨b2, 0, none⟩ (.slice A1_0 l1_0.length c1_0)] ⟨hS2.c 1, hS2.c 0, trivial⟩ ?_
 refine ge_call (d := some 9) (f := 40) (args := #[.slice A0_0 l0_0.length c0_0, .slice A1_0 l1_0.length c1_0]) (by kernel_rfl) (punctualsame_Same_int_ok K l0_0 A0_0 c0_0 l1_0 A1_0 c1_0 _ (hS2.rd hR0_0) hL0_0 (hS2.rd hR1_0) hL1_0 _ hq1) ?_
 rintro _ w3 ⟨rfl, hS3⟩
 refine ⟨_, rfl, hS3.below, ?_⟩
 have hS4 := hS2.call hS3
 refine gb0 [5] [(10, .bool r1)] ?_
 by_cases hc1 : r1 = true
 ·rw [if_pos hc1] at h
  refine gk 10 r1 true hc1 ?_
  rcases hq2 : punctualsame_Same_int.f K l0_1 l1_1 with _ | r2
  ·rw [hq2] at h; cases h
  rw [hq2] at h
  simp only [] at h
  refine gb [6, 7, 8, 9] [(14, .slice A1_1 l1_1.length c1_1), (13, pP b2 1), (12, .slice A0_1 l0_1.length c0_1), (11, pP b1 1)] [.loaded ⟨b1, 1, none⟩ (.slice A0_1 l0_1.length c0_1), .loaded ⟨b2, 1, none⟩ (.slice A1_1 l1_1.length c1_1)] ⟨hS4.c 1, hS4.c 0, trivial⟩ ?_
  refine ge_call (d := some 15) (f := 40) (args := #[.slice A0_1 l0_1.length c0_1, .slice A1_1 l1_1.length c1_1]) (by kernel_rfl) (punctualsame_Same_int_ok K l0_1 A0_1 c0_1 l1_1 A1_1 c1_1 _ (hS4.rd hR0_1) hL0_1 (hS4.rd hR1_1) hL1_1 _ hq2) ?_
  rintro _ w4 ⟨rfl, hS5⟩
  refine ⟨_, rfl, hS5.below, ?_⟩
  have hS6 := hS4.call hS5
  refine gb0 [11, 12] [(4, .bool r2), (16, .bool r2)] ?_
  refine gn hK2 ?_
  have hS7 := hS6.takeN 0
  obtain rfl := si h
  exact we_ret (pr0 [.tmp 4] [.bool r2] ⟨rfl, hS7⟩)
 ·rw [if_neg hc1] at h
  refine gk 10 r1 false (Bool.eq_false_iff.2 hc1) ?_
  refine gb0 [6, 7, 8, 9] [(14, undef), (13, undef), (12, undef), (11, undef)] ?_
  refine ge_off rfl rfl rfl (by kernel_rfl) ?_
  refine gb0 [11, 12] [(4, .bool false), (16, .bool false)] ?_
  refine gn hK2 ?_
  have hS8 := hS4.takeN 0
  obtain rfl := si h
  exact we_ret (pr0 [.tmp 4] [.bool false] ⟨rfl, hS8⟩)

/-! punctual/punctualsame.Spoil[int] -/
theorem punctualsame_Spoil_int_ok (w0 w : World) {L : List Own} (A : Option Addr) (n c : Nat) (l : List Int) (hS : St w0 w (Own.of (.slice A n c) 3 l :: L)) : Calls Tryd.prog 30 #[.slice A n c] w (fun e w' => e = .returned (.tuple #[]) ∧ St w0 w' L) := by
 refine calls_enter (n := 6) (args := [.slice A n c]) (fn := Tryd.f30) rfl rfl rfl rfl ?_
 show WE _ _ _ _ [(0, .slice A n c)] _
 refine wr [(0, 0), (1, 0), (2, 0), (3, 0), (4, 2)] ?_
 refine gb0 [0, 1, 2] [(4, vI (c : Int)), (3, .slice A n c), (2, .slice A n c)] ?_
 refine ge_sliceHi (d := 5) (ty := 24) (t := 24) (el := 3) (sz := 1) (m := n) (c := c) (hn := c) (x := (.tmp 2)) (y := (.tmp 4)) (A := A) (k' := .i64) (hi := (c : Int)) (by kernel_rfl) (by kernel_rfl) (by kernel_rfl) rfl (by kernel_rfl) (by kernel_rfl) (Nat.le_refl _) ?_
 refine ge_clear (α := Int) (m := 0) (t := 24) (el := 3) (c := c) (k := n) (bytes := 8) (x := (.tmp 5)) (ty := 0) (A := A) (z := vI 0) (l := l) (by kernel_rfl) (by kernel_rfl) (by kernel_rfl) (by kernel_rfl) rfl rfl hS fun w1 hS1 => ?_
 exact ge_nil (pe0 [] [] ⟨rfl, hS1⟩)

/-! punctual/punctualsame.Still[punctual/api.Task] -/
abbrev punctualsame_Still_api_Task.Post (w0 : World) (r : Bool) (e : Ending) (w : World) : Prop := e = .returned (.bool r) ∧ St w0 w []
def punctualsame_Still_api_Task.r0 (f0 : List STask) (l1 : List STask) (x2 : STask) : Nat → Option (Nat ⊕ (Unit ⊕ Bool))
 | i1 =>
  if (i1 : Int) < (f0.length : Int) then
   match f0[i1]? with
   | none => none
   | some e1 =>
    if (i1 : Int) < (l1.length : Int) then
     match l1[i1]? with
     | none => none
     | some e2 =>
      if (STask.eqb e1 e2) = true then
       if (i1 : Int) ≥ (l1.length : Int) then
        if (STask.eqb e1 x2) = true then
         some (.inl (i1 + 1))
        else
         some (.inr (.inr false))
       else
        some (.inl (i1 + 1))
      else
       some (.inr (.inr false))
    else
     if (i1 : Int) ≥ (l1.length : Int) then
      if (STask.eqb e1 x2) = true then
       some (.inl (i1 + 1))
      else
       some (.inr (.inr false))
     else
      some (.inl (i1 + 1))
  else
   some (.inr (.inl ()))
def punctualsame_Still_api_Task.f (K : Nat) (f0 : List STask) (l1 : List STask) (x2 : STask) : Option Bool :=
 if (IntKind.i64.wrap ((l1.length : Int) + 3)) = (f0.length : Int) then
  match iter (punctualsame_Still_api_Task.r0 f0 l1 x2) K 0 with
  | none => none
  | some (.inl _) =>
   some true
  | some (.inr rr1) =>
   some rr1
 else
  none
abbrev punctualsame_Still_api_Task.A0 (w0 : World) (f0 : List STask) (A0 : Option Addr) (c0 : Nat) (l1 : List STask) (A1 : Option Addr) (c1 : Nat) (x2 : STask) (b1 : Nat) : Nat → Act → World → Prop := fun (s : Nat) a w => St w0 w [Own.blk b1 (.cells #[.string x2.Name, vI x2.C, vI x2.T, vI x2.D, vI x2.J, vI x2.O, vI x2.P] 51 (0, 0))] ∧ Frm 46 a [(1, .slice A1 l1.length c1), (5, pP b1 0), (15, .slice A0 f0.length c0), (16, vI (f0.length : Int)), (17, vI (s : Int))]
abbrev punctualsame_Still_api_Task.B0 (w0 : World) : (Unit ⊕ Bool) → Exit → Act → World → Prop := Exits 0 (fun (s : Unit) a w => St w0 w [] ∧ Frm 46 a []) (Rets Tryd.prog Tryd.f31 (punctualsame_Still_api_Task.Post w0))
theorem punctualsame_Still_api_Task_r0 (K : Nat) (w0 : World) (f0 : List STask) (A0 : Option Addr) (n0 : Nat) (c0 : Nat) (l1 : List STask) (A1 : Option Addr) (c1 : Nat) (x2 : STask) (hR0 : RdL w0 A0 f0) (hc0 : f0.length ≤ c0) (hR1 : RdL w0 A1 l1) (hL1 : l1.length ≤ c1) (b1 : Nat) (hc1 : (IntKind.i64.wrap ((l1.length : Int) + 3)) = (f0.length : Int)) (s : Nat) (o : Nat ⊕ (Unit ⊕ Bool)) (h : punctualsame_Still_api_Task.r0 f0 l1 x2 s = some o) (a : Act) (w : World) (hA : punctualsame_Still_api_Task.A0 w0 f0 A0 c0 l1 A1 c1 x2 b1 s a w) (Q : Exit → Act → World → Prop) (hQ : ∀ x a w, Outs (punctualsame_Still_api_Task.A0 w0 f0 A0 c0 l1 A1 c1 x2 b1) (punctualsame_Still_api_Task.B0 w0) o x a w → Q x a w) : (subF Tryd.f31 [1, 1, 0, 1, 0, 0]).wp Tryd.prog Q a w := by
 obtain ⟨i1, hs⟩ : ∃ z, z = s := ⟨s, rfl⟩
 subst hs
 obtain ⟨hS, hF⟩ := hA
 replace hS : St w0 w [Own.blk b1 (.cells #[.string x2.Name, vI x2.C, vI x2.T, vI x2.D, vI x2.J, vI x2.O, vI x2.P] 51 (0, 0))] := hS
 simp only [punctualsame_Still_api_Task.r0] at h
 refine (?_ : WE Tryd.prog 46 (subF Tryd.f31 [1, 1, 0, 1, 0, 0]) Q [(1, .slice A1 l1.length c1), (5, pP b1 0), (15, .slice A0 f0.length c0), (16, vI (f0.length : Int)), (17, vI (i1 : Int))] w) a hF
 clear hF a
 refine ws fun K5 hK5 => ?_
 refine wr [(0, 0)] ?_
 refine gb0 [0] [(18, .bool (decide ((i1 : Int) < (f0.length : Int))))] ?_
 refine gn hK5 ?_
 refine ws fun K6 hK6 => ?_
 by_cases hc2 : (i1 : Int) < (f0.length : Int)
 ·rw [if_pos hc2] at h
  refine wk 18 (decide ((i1 : Int) < (f0.length : Int))) true (decide_eq_true hc2) ?_
  refine we_true (by kernel_rfl) ?_
  refine we_skip fun a hF => hK6 _ _ ?_ a hF
  refine ws fun K7 hK7 => ?_
  refine we_block ?_
  refine ws fun K8 hK8 => ?_
  refine wr [(0, 0), (1, 0), (2, 0), (3, 1), (4, 0), (5, 2)] ?_
  refine gb0 [0] [(19, vI (i1 : Int))] ?_
  rcases hx2 : f0[i1]? with _ | e1
  ·rw [hx2] at h; cases h
  rw [hx2] at h
  simp only [] at h
  refine gi 20 0 47 51 7 f0.length c0 (.tmp 15) (.tmp 17) A0 .i64 (i1 : Int) i1 ((hS.rd hR0).eqSome (pos_of_get hx2)) rfl (lt_of_get hx2) ?_
  refine gb [2] [(21, .agg #[.string e1.Name, vI e1.C, vI e1.T, vI e1.D, vI e1.J, vI e1.O, vI e1.P])] [.loaded ⟨blkOf A0, offOf A0 + i1 * 7, none⟩ (.string e1.Name), .loaded ⟨blkOf A0, offOf A0 + i1 * 7 + 1, none⟩ (vI e1.C), .loaded ⟨blkOf A0, offOf A0 + i1 * 7 + 2, none⟩ (vI e1.T), .loaded ⟨blkOf A0, offOf A0 + i1 * 7 + 3, none⟩ (vI e1.D), .loaded ⟨blkOf A0, offOf A0 + i1 * 7 + 4, none⟩ (vI e1.J), .loaded ⟨blkOf A0, offOf A0 + i1 * 7 + 5, none⟩ (vI e1.O), .loaded ⟨blkOf A0, offOf A0 + i1 * 7 + 6, none⟩ (vI e1.P)] ⟨RdL.cell (j := 0) (hS.rd hR0) hx2 rfl, RdL.cell (j := 1) (hS.rd hR0) hx2 rfl, RdL.cell (j := 2) (hS.rd hR0) hx2 rfl, RdL.cell (j := 3) (hS.rd hR0) hx2 rfl, RdL.cell (j := 4) (hS.rd hR0) hx2 rfl, RdL.cell (j := 5) (hS.rd hR0) hx2 rfl, RdL.cell (j := 6) (hS.rd hR0) hx2 rfl, trivial⟩ ?_
  refine gw (some 9) (.cells #[.string (⟨#[]⟩), vI 0, vI 0, vI 0, vI 0, vI 0, vI 0] 51) (fun b => pP b 0) hS fun b2 w2 hx3 hS2 => ?_
  refine gb0 [4] [(8, vI (i1 : Int))] ?_
  refine gs b2 0 #[.string (⟨#[]⟩), vI 0, vI 0, vI 0, vI 0, vI 0, vI 0] 51 [.string e1.Name, vI e1.C, vI e1.T, vI e1.D, vI e1.J, vI e1.O, vI e1.P] hS2 fun w3 hS3 => ?_
  have hS4 : St w0 w3 [Own.blk b2 (.cells #[.string e1.Name, vI e1.C, vI e1.T, vI e1.D, vI e1.J, vI e1.O, vI e1.P] 51 (0, 0)), Own.blk b1 (.cells #[.string x2.Name, vI x2.C, vI x2.T, vI x2.D, vI x2.J, vI x2.O, vI x2.P] 51 (0, 0))] := hS3
  refine gn hK8 ?_
  refine ws fun K9 hK9 => ?_
  refine we_draws (by kernel_rfl) [(0, 0), (1, 0), (2, 0), (3, 0), (4, 0), (5, 0), (6, 0), (7, 0), (8, 0), (9, 0), (10, 0), (11, 0), (12, 0), (13, 0), (14, 0), (15, 0), (16, 0), (17, 0), (18, 0), (19, 0), (20, 0), (21, 0), (22, 0)] (by kernel_rfl) ?_
  have hS5 := hS4.drew
  refine gb0 [0, 1, 2, 3, 4] [(26, .bool (decide ((i1 : Int) < (l1.length : Int)))), (25, .bool (decide ((i1 : Int) < (l1.length : Int)))), (24, vI (l1.length : Int)), (23, .slice A1 l1.length c1), (22, vI (i1 : Int))] ?_
  by_cases hc3 : (i1 : Int) < (l1.length : Int)
  ·rw [if_pos hc3] at h
   refine gk 26 (decide ((i1 : Int) < (l1.length : Int))) true (decide_eq_true hc3) ?_
   refine gb [5, 6, 7] [(29, vI (i1 : Int)), (28, .slice A1 l1.length c1), (27, .agg #[.string e1.Name, vI e1.C, vI e1.T, vI e1.D, vI e1.J, vI e1.O, vI e1.P])] [.loaded ⟨b2, 0, none⟩ (.string e1.Name), .loaded ⟨b2, 1, none⟩ (vI e1.C), .loaded ⟨b2, 2, none⟩ (vI e1.T), .loaded ⟨b2, 3, none⟩ (vI e1.D), .loaded ⟨b2, 4, none⟩ (vI e1.J), .loaded ⟨b2, 5, none⟩ (vI e1.O), .loaded ⟨b2, 6, none⟩ (vI e1.P)] ⟨hS5.c 0, hS5.c 0, hS5.c 0, hS5.c 0, hS5.c 0, hS5.c 0, hS5.c 0, trivial⟩ ?_
   rcases hx4 : l1[i1]? with _ | e2
   ·rw [hx4] at h; cases h
   rw [hx4] at h
   simp only [] at h
   refine gi 30 0 47 51 7 l1.length c1 (.tmp 28) (.tmp 29) A1 .i64 (i1 : Int) i1 ((hS5.rd hR1).eqSome (pos_of_get hx4)) rfl (lt_of_get hx4) ?_
   refine gb [9] [(31, .agg #[.string e2.Name, vI e2.C, vI e2.T, vI e2.D, vI e2.J, vI e2.O, vI e2.P])] [.loaded ⟨blkOf A1, offOf A1 + i1 * 7, none⟩ (.string e2.Name), .loaded ⟨blkOf A1, offOf A1 + i1 * 7 + 1, none⟩ (vI e2.C), .loaded ⟨blkOf A1, offOf A1 + i1 * 7 + 2, none⟩ (vI e2.T), .loaded ⟨blkOf A1, offOf A1 + i1 * 7 + 3, none⟩ (vI e2.D), .loaded ⟨blkOf A1, offOf A1 + i1 * 7 + 4, none⟩ (vI e2.J), .loaded ⟨blkOf A1, offOf A1 + i1 * 7 + 5, none⟩ (vI e2.O), .loaded ⟨blkOf A1, offOf A1 + i1 * 7 + 6, none⟩ (vI e2.P)] ⟨RdL.cell (j := 0) (hS5.rd hR1) hx4 rfl, RdL.cell (j := 1) (hS5.rd hR1) hx4 rfl, RdL.cell (j := 2) (hS5.rd hR1) hx4 rfl, RdL.cell (j := 3) (hS5.rd hR1) hx4 rfl, RdL.cell (j := 4) (hS5.rd hR1) hx4 rfl, RdL.cell (j := 5) (hS5.rd hR1) hx4 rfl, RdL.cell (j := 6) (hS5.rd hR1) hx4 rfl, trivial⟩ ?_
   refine ge_eqs (d := 32) (ty := 4) (op := .neq) (x := (.tmp 27)) (y := (.tmp 31)) (t := 51) (t2 := 51) (xs := #[.string e1.Name, vI e1.C, vI e1.T, vI e1.D, vI e1.J, vI e1.O, vI e1.P]) (ys := #[.string e2.Name, vI e2.C, vI e2.T, vI e2.D, vI e2.J, vI e2.O, vI e2.P]) (r := (STask.eqb e1 e2)) (v := !(STask.eqb e1 e2)) (by kernel_rfl) (by kernel_rfl) (by kernel_rfl) (by kernel_rfl) (by kernel_rfl) rfl ?_
   refine gb0 [11, 12] [(34, .bool (!(STask.eqb e1 e2))), (33, .bool (!(STask.eqb e1 e2)))] ?_
   by_cases hc4 : (STask.eqb e1 e2) = true
   ·rw [if_pos hc4] at h
    refine gk 34 (!(STask.eqb e1 e2)) false (congrArg (fun z => !z) hc4) ?_
    refine gb0 [13, 14, 15, 16, 17] [(39, .bool (decide ((i1 : Int) ≥ (l1.length : Int)))), (38, .bool (decide ((i1 : Int) ≥ (l1.length : Int)))), (37, vI (l1.length : Int)), (36, .slice A1 l1.length c1), (35, vI (i1 : Int))] ?_
    by_cases hc5 : (i1 : Int) ≥ (l1.length : Int)
    ·rw [if_pos hc5] at h
     refine gk 39 (decide ((i1 : Int) ≥ (l1.length : Int))) true (decide_eq_true hc5) ?_
     refine gb [18, 19] [(41, .agg #[.string x2.Name, vI x2.C, vI x2.T, vI x2.D, vI x2.J, vI x2.O, vI x2.P]), (40, .agg #[.string e1.Name, vI e1.C, vI e1.T, vI e1.D, vI e1.J, vI e1.O, vI e1.P])] [.loaded ⟨b2, 0, none⟩ (.string e1.Name), .loaded ⟨b2, 1, none⟩ (vI e1.C), .loaded ⟨b2, 2, none⟩ (vI e1.T), .loaded ⟨b2, 3, none⟩ (vI e1.D), .loaded ⟨b2, 4, none⟩ (vI e1.J), .loaded ⟨b2, 5, none⟩ (vI e1.O), .loaded ⟨b2, 6, none⟩ (vI e1.P), .loaded ⟨b1, 0, none⟩ (.string x2.Name), .loaded ⟨b1, 1, none⟩ (vI x2.C), .loaded ⟨b1, 2, none⟩ (vI x2.T), .loaded ⟨b1, 3, none⟩ (vI x2.D), .loaded ⟨b1, 4, none⟩ (vI x2.J), .loaded ⟨b1, 5, none⟩ (vI x2.O), .loaded ⟨b1, 6, none⟩ (vI x2.P)] ⟨hS5.c 0, hS5.c 0, hS5.c 0, hS5.c 0, hS5.c 0, hS5.c 0, hS5.c 0, hS5.c 1, hS5.c 1, hS5.c 1, hS5.c 1, hS5.c 1, hS5.c 1, hS5.c 1, trivial⟩ ?_
     refine ge_eqs (d := 42) (ty := 4) (op := .neq) (x := (.tmp 40)) (y := (.tmp 41)) (t := 51) (t2 := 51) (xs := #[.string e1.Name, vI e1.C, vI e1.T, vI e1.D, vI e1.J, vI e1.O, vI e1.P]) (ys := #[.string x2.Name, vI x2.C, vI x2.T, vI x2.D, vI x2.J, vI x2.O, vI x2.P]) (r := (STask.eqb e1 x2)) (v := !(STask.eqb e1 x2)) (by kernel_rfl) (by kernel_rfl) (by kernel_rfl) (by kernel_rfl) (by kernel_rfl) rfl ?_
     refine gb0 [21, 22] [(44, .bool (!(STask.eqb e1 x2))), (43, .bool (!(STask.eqb e1 x2)))] ?_
     refine gn hK9 ?_
     by_cases hc6 : (STask.eqb e1 x2) = true
     ·rw [if_pos hc6] at h
      refine wk 44 (!(STask.eqb e1 x2)) false (congrArg (fun z => !z) hc6) ?_
      refine we_false (by kernel_rfl) ?_
      refine we_skip fun a hF => hK7 _ _ ?_ a hF
      refine wr [(0, 0), (1, 0)] ?_
      refine ge_addn (d := 45) (ty := 3) (x := (.tmp 17)) (y := (.const (vI 1))) (t := 3) (t2 := 3) (k := .i64) (m := i1) (by kernel_rfl) (by kernel_rfl) (by kernel_rfl) (by have h0 := hR0.small; omega) ?_
      refine gb0 [1] [(17, vI ((i1 + 1 : Nat) : Int))] ?_
      have hS6 := hS5.bring 1 rfl
      have hS7 := hS6.takeN 1
      obtain rfl := si h
      exact ge_nil fun a hF => hQ _ _ _ (Outs.again ⟨hS7, hF.weaken ea⟩)
     ·rw [if_neg hc6] at h
      refine wk 44 (!(STask.eqb e1 x2)) true (congrArg (fun z => !z) (Bool.eq_false_iff.2 hc6)) ?_
      refine we_true (by kernel_rfl) ?_
      refine ws fun K10 hK10 => ?_
      refine wr [(0, 0)] ?_
      refine gb0 [0] [(6, .bool false)] ?_
      refine gn hK10 ?_
      have hS8 := hS5.takeN 0
      obtain rfl := si h
      exact we_ret fun a hF => hQ _ _ _ (Outs.out nofun (Exits.on ⟨rfl, (pr0 [.tmp 6] [.bool false] ⟨rfl, hS8⟩) a hF⟩))
    ·rw [if_neg hc5] at h
     refine gk 39 (decide ((i1 : Int) ≥ (l1.length : Int))) false (decide_eq_false hc5) ?_
     refine gb0 [18, 19, 20, 21, 22] [(44, .bool false), (43, .bool false), (42, undef), (41, undef), (40, undef)] ?_
     refine gn hK9 ?_
     refine we_false (by kernel_rfl) ?_
     refine we_skip fun a hF => hK7 _ _ ?_ a hF
     refine wr [(0, 0), (1, 0)] ?_
     refine ge_addn (d := 45) (ty := 3) (x := (.tmp 17)) (y := (.const (vI 1))) (t := 3) (t2 := 3) (k := .i64) (m := i1) (by kernel_rfl) (by kernel_rfl) (by kernel_rfl) (by have h0 := hR0.small; omega) ?_
     refine gb0 [1] [(17, vI ((i1 + 1 : Nat) : Int))] ?_
     have hS9 := hS5.bring 1 rfl
     have hS10 := hS9.takeN 1
     obtain rfl := si h
     exact ge_nil fun a hF => hQ _ _ _ (Outs.again ⟨hS10, hF.weaken ea⟩)
   ·rw [if_neg hc4] at h
    refine gk 34 (!(STask.eqb e1 e2)) true (congrArg (fun z => !z) (Bool.eq_false_iff.2 hc4)) ?_
    refine gb0 [13, 14, 15, 16, 17, 18, 19, 20, 21, 22] [(44, .bool true), (43, undef), (42, undef), (41, undef), (40, undef), (39, undef), (38, undef), (37, undef), (36, undef), (35, undef)] ?_
    refine gn hK9 ?_
    refine we_true (by kernel_rfl) ?_
    refine ws fun K11 hK11 => ?_
    refine wr [(0, 0)] ?_
    refine gb0 [0] [(6, .bool false)] ?_
    refine gn hK11 ?_
    have hS11 := hS5.takeN 0
    obtain rfl := si h
    exact we_ret fun a hF => hQ _ _ _ (Outs.out nofun (Exits.on ⟨rfl, (pr0 [.tmp 6] [.bool false] ⟨rfl, hS11⟩) a hF⟩))
  ·rw [if_neg hc3] at h
   refine gk 26 (decide ((i1 : Int) < (l1.length : Int))) false (decide_eq_false hc3) ?_
   refine gb0 [5, 6, 7, 8, 9, 10, 11, 12, 13, 14, 15, 16, 17] [(39, .bool (decide ((i1 : Int) ≥ (l1.length : Int)))), (38, .bool (decide ((i1 : Int) ≥ (l1.length : Int)))), (37, vI (l1.length : Int)), (36, .slice A1 l1.length c1), (35, vI (i1 : Int)), (34, .bool false), (33, .bool false), (32, undef), (31, undef), (30, undef), (29, undef), (28, undef), (27, undef)] ?_
   by_cases hc7 : (i1 : Int) ≥ (l1.length : Int)
   ·rw [if_pos hc7] at h
    refine gk 39 (decide ((i1 : Int) ≥ (l1.length : Int))) true (decide_eq_true hc7) ?_
    refine gb [18, 19] [(41, .agg #[.string x2.Name, vI x2.C, vI x2.T, vI x2.D, vI x2.J, vI x2.O, vI x2.P]), (40, .agg #[.string e1.Name, vI e1.C, vI e1.T, vI e1.D, vI e1.J, vI e1.O, vI e1.P])] [.loaded ⟨b2, 0, none⟩ (.string e1.Name), .loaded ⟨b2, 1, none⟩ (vI e1.C), .loaded ⟨b2, 2, none⟩ (vI e1.T), .loaded ⟨b2, 3, none⟩ (vI e1.D), .loaded ⟨b2, 4, none⟩ (vI e1.J), .loaded ⟨b2, 5, none⟩ (vI e1.O), .loaded ⟨b2, 6, none⟩ (vI e1.P), .loaded ⟨b1, 0, none⟩ (.string x2.Name), .loaded ⟨b1, 1, none⟩ (vI x2.C), .loaded ⟨b1, 2, none⟩ (vI x2.T), .loaded ⟨b1, 3, none⟩ (vI x2.D), .loaded ⟨b1, 4, none⟩ (vI x2.J), .loaded ⟨b1, 5, none⟩ (vI x2.O), .loaded ⟨b1, 6, none⟩ (vI x2.P)] ⟨hS5.c 0, hS5.c 0, hS5.c 0, hS5.c 0, hS5.c 0, hS5.c 0, hS5.c 0, hS5.c 1, hS5.c 1, hS5.c 1, hS5.c 1, hS5.c 1, hS5.c 1, hS5.c 1, trivial⟩ ?_
    refine ge_eqs (d := 42) (ty := 4) (op := .neq) (x := (.tmp 40)) (y := (.tmp 41)) (t := 51) (t2 := 51) (xs := #[.string e1.Name, vI e1.C, vI e1.T, vI e1.D, vI e1.J, vI e1.O, vI e1.P]) (ys := #[.string x2.Name, vI x2.C, vI x2.T, vI x2.D, vI x2.J, vI x2.O, vI x2.P]) (r := (STask.eqb e1 x2)) (v := !(STask.eqb e1 x2)) (by kernel_rfl) (by kernel_rfl) (by kernel_rfl) (by kernel_rfl) (by kernel_rfl) rfl ?_
    refine gb0 [21, 22] [(44, .bool (!(STask.eqb e1 x2))), (43, .bool (!(STask.eqb e1 x2)))] ?_
    refine gn hK9 ?_
    by_cases hc8 : (STask.eqb e1 x2) = true
    ·rw [if_pos hc8] at h
     refine wk 44 (!(STask.eqb e1 x2)) false (congrArg (fun z => !z) hc8) ?_
     refine we_false (by kernel_rfl) ?_
     refine we_skip fun a hF => hK7 _ _ ?_ a hF
     refine wr [(0, 0), (1, 0)] ?_
     refine ge_addn (d := 45) (ty := 3) (x := (.tmp 17)) (y := (.const (vI 1))) (t := 3) (t2 := 3) (k := .i64) (m := i1) (by kernel_rfl) (by kernel_rfl) (by kernel_rfl) (by have h0 := hR0.small; omega) ?_
     refine gb0 [1] [(17, vI ((i1 + 1 : Nat) : Int))] ?_
     have hS12 := hS5.bring 1 rfl
     have hS13 := hS12.takeN 1
     obtain rfl := si h
     exact ge_nil fun a hF => hQ _ _ _ (Outs.again ⟨hS13, hF.weaken ea⟩)
    ·rw [if_neg hc8] at h
     refine wk 44 (!(STask.eqb e1 x2)) true (congrArg (fun z => !z) (Bool.eq_false_iff.2 hc8)) ?_
     refine we_true (by kernel_rfl) ?_
     refine ws fun K12 hK12 => ?_
     refine wr [(0, 0)] ?_
     refine gb0 [0] [(6, .bool false)] ?_
     refine gn hK12 ?_
     have hS14 := hS5.takeN 0
     obtain rfl := si h
     exact we_ret fun a hF => hQ _ _ _ (Outs.out nofun (Exits.on ⟨rfl, (pr0 [.tmp 6] [.bool false] ⟨rfl, hS14⟩) a hF⟩))
   ·rw [if_neg hc7] at h
    refine gk 39 (decide ((i1 : Int) ≥ (l1.length : Int))) false (decide_eq_false hc7) ?_
    refine gb0 [18, 19, 20, 21, 22] [(44, .bool false), (43, .bool false), (42, undef), (41, undef), (40, undef)] ?_
    refine gn hK9 ?_
    refine we_false (by kernel_rfl) ?_
    refine we_skip fun a hF => hK7 _ _ ?_ a hF
    refine wr [(0, 0), (1, 0)] ?_
    refine ge_addn (d := 45) (ty := 3) (x := (.tmp 17)) (y := (.const (vI 1))) (t := 3) (t2 := 3) (k := .i64) (m := i1) (by kernel_rfl) (by kernel_rfl) (by kernel_rfl) (by have h0 := hR0.small; omega) ?_
    refine gb0 [1] [(17, vI ((i1 + 1 : Nat) : Int))] ?_
    have hS15 := hS5.bring 1 rfl
    have hS16 := hS15.takeN 1
    obtain rfl := si h
    exact ge_nil fun a hF => hQ _ _ _ (Outs.again ⟨hS16, hF.weaken ea⟩)
 ·rw [if_neg hc2] at h
  refine wk 18 (decide ((i1 : Int) < (f0.length : Int))) false (decide_eq_false hc2) ?_
  refine we_false (by kernel_rfl) ?_
  have hS17 := hS.takeN 0
  obtain rfl := si h
  exact we_exit fun a hF => hQ _ _ _ (Outs.out nofun (Exits.here ⟨hS17, hF.weaken trivial⟩))
theorem punctualsame_Still_api_Task_ok (K : Nat) (f0 : List STask) (A0 : Option Addr) (n0 : Nat) (c0 : Nat) (l1 : List STask) (A1 : Option Addr) (c1 : Nat) (x2 : STask) (w0 : World) (hR0 : RdL w0 A0 f0) (hc0 : f0.length ≤ c0) (hR1 : RdL w0 A1 l1) (hL1 : l1.length ≤ c1) (r : Bool) (h : punctualsame_Still_api_Task.f K f0 l1 x2 = some r) :
  Calls Tryd.prog 31 #[.slice A0 n0 c0, .slice A1 l1.length c1, .agg #[.string x2.Name, vI x2.C, vI x2.T, vI x2.D, vI x2.J, vI x2.O, vI x2.P]] w0 (punctualsame_Still_api_Task.Post w0 r) := by
 have hS := St.start w0
 unfold punctualsame_Still_api_Task.f at h
 refine calls_enter (n := 46) (args := [.slice A0 n0 c0, .slice A1 l1.length c1, .agg #[.string x2.Name, vI x2.C, vI x2.T, vI x2.D, vI x2.J, vI x2.O, vI x2.P]]) (fn := Tryd.f31) rfl rfl rfl rfl ?_
 show WE _ _ _ _ [(0, .slice A0 n0 c0), (1, .slice A1 l1.length c1), (2, .agg #[.string x2.Name, vI x2.C, vI x2.T, vI x2.D, vI x2.J, vI x2.O, vI x2.P])] _
 refine ws fun K1 hK1 => ?_
 refine wr [(0, 1), (1, 0)] ?_
 refine gw (some 5) (.cells #[.string x2.Name, vI x2.C, vI x2.T, vI x2.D, vI x2.J, vI x2.O, vI x2.P] 51) (fun b => pP b 0) hS fun b1 w1 hx1 hS1 => ?_
 refine gb0 [1] [(6, .bool false)] ?_
 refine gn hK1 ?_
 refine ws fun K2 hK2 => ?_
 refine wr [(0, 0), (1, 0), (2, 0), (3, 0), (4, 0), (5, 0)] ?_
 refine gb0 [0, 1, 2, 3] [(13, vI (IntKind.i64.wrap ((l1.length : Int) + 3))), (12, vI (l1.length : Int)), (11, .slice A1 l1.length c1), (10, .slice A0 n0 c0)] ?_
 by_cases hc1 : (IntKind.i64.wrap ((l1.length : Int) + 3)) = (f0.length : Int)
 ·rw [if_pos hc1] at h
  refine ge_sliceHi (d := 14) (ty := 47) (t := 47) (el := 51) (sz := 7) (m := n0) (c := c0) (hn := f0.length) (x := (.tmp 10)) (y := (.tmp 13)) (A := A0) (k' := .i64) (hi := (IntKind.i64.wrap ((l1.length : Int) + 3))) (by kernel_rfl) (by kernel_rfl) (by kernel_rfl) hc1 (by kernel_rfl) (by kernel_rfl) hc0 ?_
  refine gb0 [5] [(7, .slice A0 f0.length c0)] ?_
  refine gn hK2 ?_
  refine ws fun K3 hK3 => ?_
  refine ws fun K4 hK4 => ?_
  refine wr [(0, 0), (1, 0), (2, 0)] ?_
  refine gb0 [0, 1, 2] [(17, vI 0), (16, vI (f0.length : Int)), (15, .slice A0 f0.length c0)] ?_
  refine gn hK4 ?_
  refine we_block ?_
  rcases hq1 : iter (punctualsame_Still_api_Task.r0 f0 l1 x2) K 0 with _ | (_ | rr1)
  ·rw [hq1] at h; cases h
  ·rw [hq1] at h
   simp only [] at h
   refine we_iter (A := punctualsame_Still_api_Task.A0 w0 f0 A0 c0 l1 A1 c1 x2 b1) (B := punctualsame_Still_api_Task.B0 w0) hq1 (fun a hF => ⟨hS1, hF.weaken ea⟩) (fun s o hf a w hA Q hQ => punctualsame_Still_api_Task_r0 K w0 f0 A0 n0 c0 l1 A1 c1 x2 hR0 hc0 hR1 hL1 b1 hc1 s o hf a w hA Q hQ) ?_
   rintro _ a w4 _ ⟨rfl, hS18, hF⟩
   replace hS18 : St w0 w4 [] := hS18
   refine hK3 [] w4 ?_ a hF
   refine ws fun K13 hK13 => ?_
   refine wr [(0, 0)] ?_
   refine gb0 [0] [(6, .bool true)] ?_
   refine gn hK13 ?_
   obtain rfl := si h
   exact we_ret (pr0 [.tmp 6] [.bool true] ⟨rfl, hS18⟩)
  ·rw [hq1] at h
   simp only [] at h
   refine we_iter (A := punctualsame_Still_api_Task.A0 w0 f0 A0 c0 l1 A1 c1 x2 b1) (B := punctualsame_Still_api_Task.B0 w0) hq1 (fun a hF => ⟨hS1, hF.weaken ea⟩) (fun s o hf a w hA Q hQ => punctualsame_Still_api_Task_r0 K w0 f0 A0 n0 c0 l1 A1 c1 x2 hR0 hc0 hR1 hL1 b1 hc1 s o hf a w hA Q hQ) ?_
   rintro _ a w1 _ ⟨rfl, hb⟩
   obtain rfl := si h
   exact hb
 ·rw [if_neg hc1] at h
  cases h
end Go.Proofs.YtcogbnkioobmkaaDoor.GV
