/- Walks of single functions, written by a program of this work. -/
import Derived.Test.YtcogbnkioobmkaaDoorGWWindowsPlay4
namespace Go.Proofs.YtcogbnkioobmkaaDoor.GV
open Go Go.RowKit
set_option linter.unusedVariables false
set_option linter.unusedSimpArgs false
set_option maxRecDepth 100000

/-! punctual/punctualsame.Still[punctual/api.Window] -/
abbrev punctualsame_Still_api_Window.Post (w0 : World) (r : Bool) (e : Ending) (w : World) : Prop := e = .returned (.bool r) ∧ St w0 w []
def punctualsame_Still_api_Window.r0 (f0 : List SWindow) (l1 : List SWindow) (x2 : SWindow) : Nat → Option (Nat ⊕ (Unit ⊕ Bool))
 | i1 =>
  if (i1 : Int) < (f0.length : Int) then
   match f0[i1]? with
   | none => none
   | some e1 =>
    if (i1 : Int) < (l1.length : Int) then
     match l1[i1]? with
     | none => none
     | some e2 =>
      if (SWindow.eqb e1 e2) = true then
       if (i1 : Int) ≥ (l1.length : Int) then
        if (SWindow.eqb e1 x2) = true then
         some (.inl (i1 + 1))
        else
         some (.inr (.inr false))
       else
        some (.inl (i1 + 1))
      else
       some (.inr (.inr false))
    else
     if (i1 : Int) ≥ (l1.length : Int) then
      if (SWindow.eqb e1 x2) = true then
       some (.inl (i1 + 1))
      else
       some (.inr (.inr false))
     else
      some (.inl (i1 + 1))
  else
   some (.inr (.inl ()))
def punctualsame_Still_api_Window.f (K : Nat) (f0 : List SWindow) (l1 : List SWindow) (x2 : SWindow) : Option Bool :=
 if (IntKind.i64.wrap ((l1.length : Int) + 3)) = (f0.length : Int) then
  match iter (punctualsame_Still_api_Window.r0 f0 l1 x2) K 0 with
  | none => none
  | some (.inl _) =>
   some true
  | some (.inr rr1) =>
   some rr1
 else
  none
abbrev punctualsame_Still_api_Window.A0 (w0 : World) (f0 : List SWindow) (A0 : Option Addr) (c0 : Nat) (l1 : List SWindow) (A1 : Option Addr) (c1 : Nat) (x2 : SWindow) (b1 : Nat) : Nat → Act → World → Prop := fun (s : Nat) a w => St w0 w [Own.blk b1 (.cells #[vI x2.At, vI x2.Len] 55 (0, 0))] ∧ Frm 46 a [(1, .slice A1 l1.length c1), (5, pP b1 0), (15, .slice A0 f0.length c0), (16, vI (f0.length : Int)), (17, vI (s : Int))]
abbrev punctualsame_Still_api_Window.B0 (w0 : World) : (Unit ⊕ Bool) → Exit → Act → World → Prop := Exits 0 (fun (s : Unit) a w => St w0 w [] ∧ Frm 46 a []) (Rets Tryd.prog Tryd.f32 (punctualsame_Still_api_Window.Post w0))
theorem punctualsame_Still_api_Window_r0 (K : Nat) (w0 : World) (f0 : List SWindow) (A0 : Option Addr) (n0 : Nat) (c0 : Nat) (l1 : List SWindow) (A1 : Option Addr) (c1 : Nat) (x2 : SWindow) (hR0 : RdL w0 A0 f0) (hc0 : f0.length ≤ c0) (hR1 : RdL w0 A1 l1) (hL1 : l1.length ≤ c1) (b1 : Nat) (hc1 : (IntKind.i64.wrap ((l1.length : Int) + 3)) = (f0.length : Int)) (s : Nat) (o : Nat ⊕ (Unit ⊕ Bool)) (h : punctualsame_Still_api_Window.r0 f0 l1 x2 s = some o) (a : Act) (w : World) (hA : punctualsame_Still_api_Window.A0 w0 f0 A0 c0 l1 A1 c1 x2 b1 s a w) (Q : Exit → Act → World → Prop) (hQ : ∀ x a w, Outs (punctualsame_Still_api_Window.A0 w0 f0 A0 c0 l1 A1 c1 x2 b1) (punctualsame_Still_api_Window.B0 w0) o x a w → Q x a w) : (subF Tryd.f32 [1, 1, 0, 1, 0, 0]).wp Tryd.prog Q a w := by
 obtain ⟨i1, hs⟩ : ∃ z, z = s := ⟨s, rfl⟩
 subst hs
 obtain ⟨hS, hF⟩ := hA
 replace hS : St w0 w [Own.blk b1 (.cells #[vI x2.At, vI x2.Len] 55 (0, 0))] := hS
 simp only [punctualsame_Still_api_Window.r0] at h
 refine (?_ : WE Tryd.prog 46 (subF Tryd.f32 [1, 1, 0, 1, 0, 0]) Q [(1, .slice A1 l1.length c1), (5, pP b1 0), (15, .slice A0 f0.length c0), (16, vI (f0.length : Int)), (17, vI (i1 : Int))] w) a hF
 clear hF a
 refine ws fun K5 hK5 => ?_
 refine wr [(0, 0)] ?_
 refine gb0 [0] [(18, .bool (decide ((i1 : Int) < (f0.length : Int))))] ?_
 refine gn hK5 ?_
 refine ws fun K6 hK6 => ?_
 by_cases hc2 : (i1 : Int) < (f0.length : Int)
 ·rw [if_pos hc2] at h
  refine wk 18 (decide ((i1 : Int) < (f0.length : Int))) true (decide_eq_true hc2) ?_
  refine we_true (by kernel_rfl) ?_
  refine we_skip fun a hF => hK6 _ _ ?_ a hF
  refine ws fun K7 hK7 => ?_
  refine we_block ?_
  refine ws fun K8 hK8 => ?_
  refine wr [(0, 0), (1, 0), (2, 0), (3, 1), (4, 0), (5, 2)] ?_
  refine gb0 [0] [(19, vI (i1 : Int))] ?_
  rcases hx2 : f0[i1]? with _ | e1
  ·rw [hx2] at h; cases h
  rw [hx2] at h
  simp only [] at h
  refine gi 20 0 48 55 2 f0.length c0 (.tmp 15) (.tmp 17) A0 .i64 (i1 : Int) i1 ((hS.rd hR0).eqSome (pos_of_get hx2)) rfl (lt_of_get hx2) ?_
  refine gb [2] [(21, .agg #[vI e1.At, vI e1.Len])] [.loaded ⟨blkOf A0, offOf A0 + i1 * 2, none⟩ (vI e1.At), .loaded ⟨blkOf A0, offOf A0 + i1 * 2 + 1, none⟩ (vI e1.Len)] ⟨RdL.cell (j := 0) (hS.rd hR0) hx2 rfl, RdL.cell (j := 1) (hS.rd hR0) hx2 rfl, trivial⟩ ?_
  refine gw (some 9) (.cells #[vI 0, vI 0] 55) (fun b => pP b 0) hS fun b2 w2 hx3 hS2 => ?_
  refine gb0 [4] [(8, vI (i1 : Int))] ?_
  refine gs b2 0 #[vI 0, vI 0] 55 [vI e1.At, vI e1.Len] hS2 fun w3 hS3 => ?_
  have hS4 : St w0 w3 [Own.blk b2 (.cells #[vI e1.At, vI e1.Len] 55 (0, 0)), Own.blk b1 (.cells #[vI x2.At, vI x2.Len] 55 (0, 0))] := hS3
  refine gn hK8 ?_
  refine ws fun K9 hK9 => ?_
  refine we_draws (by kernel_rfl) [(0, 0), (1, 0), (2, 0), (3, 0), (4, 0), (5, 0), (6, 0), (7, 0), (8, 0), (9, 0), (10, 0), (11, 0), (12, 0), (13, 0), (14, 0), (15, 0), (16, 0), (17, 0), (18, 0), (19, 0), (20, 0), (21, 0), (22, 0)] (by kernel_rfl) ?_
  have hS5 := hS4.drew
  refine gb0 [0, 1, 2, 3, 4] [(26, .bool (decide ((i1 : Int) < (l1.length : Int)))), (25, .bool (decide ((i1 : Int) < (l1.length : Int)))), (24, vI (l1.length : Int)), (23, .slice A1 l1.length c1), (22, vI (i1 : Int))] ?_
  by_cases hc3 : (i1 : Int) < (l1.length : Int)
  ·rw [if_pos hc3] at h
   refine gk 26 (decide ((i1 : Int) < (l1.length : Int))) true (decide_eq_true hc3) ?_
   refine gb [5, 6, 7] [(29, vI (i1 : Int)), (28, .slice A1 l1.length c1), (27, .agg #[vI e1.At, vI e1.Len])] [.loaded ⟨b2, 0, none⟩ (vI e1.At), .loaded ⟨b2, 1, none⟩ (vI e1.Len)] ⟨hS5.c 0, hS5.c 0, trivial⟩ ?_
   rcases hx4 : l1[i1]? with _ | e2
   ·rw [hx4] at h; cases h
   rw [hx4] at h
   simp only [] at h
   refine gi 30 0 48 55 2 l1.length c1 (.tmp 28) (.tmp 29) A1 .i64 (i1 : Int) i1 ((hS5.rd hR1).eqSome (pos_of_get hx4)) rfl (lt_of_get hx4) ?_
   refine gb [9] [(31, .agg #[vI e2.At, vI e2.Len])] [.loaded ⟨blkOf A1, offOf A1 + i1 * 2, none⟩ (vI e2.At), .loaded ⟨blkOf A1, offOf A1 + i1 * 2 + 1, none⟩ (vI e2.Len)] ⟨RdL.cell (j := 0) (hS5.rd hR1) hx4 rfl, RdL.cell (j := 1) (hS5.rd hR1) hx4 rfl, trivial⟩ ?_
   refine ge_eqs (d := 32) (ty := 4) (op := .neq) (x := (.tmp 27)) (y := (.tmp 31)) (t := 55) (t2 := 55) (xs := #[vI e1.At, vI e1.Len]) (ys := #[vI e2.At, vI e2.Len]) (r := (SWindow.eqb e1 e2)) (v := !(SWindow.eqb e1 e2)) (by kernel_rfl) (by kernel_rfl) (by kernel_rfl) (by kernel_rfl) (by kernel_rfl) rfl ?_
   refine gb0 [11, 12] [(34, .bool (!(SWindow.eqb e1 e2))), (33, .bool (!(SWindow.eqb e1 e2)))] ?_
   by_cases hc4 : (SWindow.eqb e1 e2) = true
   ·rw [if_pos hc4] at h
    refine gk 34 (!(SWindow.eqb e1 e2)) false (congrArg (fun z => !z) hc4) ?_
    refine gb0 [13, 14, 15, 16, 17] [(39, .bool (decide ((i1 : Int) ≥ (l1.length : Int)))), (38, .bool (decide ((i1 : Int) ≥ (l1.length : Int)))), (37, vI (l1.length : Int)), (36, .slice A1 l1.length c1), (35, vI (i1 : Int))] ?_
    by_cases hc5 : (i1 : Int) ≥ (l1.length : Int)
    ·rw [if_pos hc5] at h
     refine gk 39 (decide ((i1 : Int) ≥ (l1.length : Int))) true (decide_eq_true hc5) ?_
     refine gb [18, 19] [(41, .agg #[vI x2.At, vI x2.Len]), (40, .agg #[vI e1.At, vI e1.Len])] [.loaded ⟨b2, 0, none⟩ (vI e1.At), .loaded ⟨b2, 1, none⟩ (vI e1.Len), .loaded ⟨b1, 0, none⟩ (vI x2.At), .loaded ⟨b1, 1, none⟩ (vI x2.Len)] ⟨hS5.c 0, hS5.c 0, hS5.c 1, hS5.c 1, trivial⟩ ?_
     refine ge_eqs (d := 42) (ty := 4) (op := .neq) (x := (.tmp 40)) (y := (.tmp 41)) (t := 55) (t2 := 55) (xs := #[vI e1.At, vI e1.Len]) (ys := #[vI x2.At, vI x2.Len]) (r := (SWindow.eqb e1 x2)) (v := !(SWindow.eqb e1 x2)) (by kernel_rfl) (by kernel_rfl) (by kernel_rfl) (by kernel_rfl) (by kernel_rfl) rfl ?_
     refine gb0 [21, 22] [(44, .bool (!(SWindow.eqb e1 x2))), (43, .bool (!(SWindow.eqb e1 x2)))] ?_
     refine gn hK9 ?_
     by_cases hc6 : (SWindow.eqb e1 x2) = true
     ·rw [if_pos hc6] at h
      refine wk 44 (!(SWindow.eqb e1 x2)) false (congrArg (fun z => !z) hc6) ?_
      refine we_false (by kernel_rfl) ?_
      refine we_skip fun a hF => hK7 _ _ ?_ a hF
      refine wr [(0, 0), (1, 0)] ?_
      refine ge_addn (d := 45) (ty := 3) (x := (.tmp 17)) (y := (.const (vI 1))) (t := 3) (t2 := 3) (k := .i64) (m := i1) (by kernel_rfl) (by kernel_rfl) (by kernel_rfl) (by have h0 := hR0.small; omega) ?_
      refine gb0 [1] [(17, vI ((i1 + 1 : Nat) : Int))] ?_
      have hS6 := hS5.bring 1 rfl
      have hS7 := hS6.takeN 1
      obtain rfl := si h
      exact ge_nil fun a hF => hQ _ _ _ (Outs.again ⟨hS7, hF.weaken ea⟩)
     ·rw [if_neg hc6] at h
      refine wk 44 (!(SWindow.eqb e1 x2)) true (congrArg (fun z => !z) (Bool.eq_false_iff.2 hc6)) ?_
      refine we_true (by kernel_rfl) ?_
      refine ws fun K10 hK10 => ?_
      refine wr [(0, 0)] ?_
      refine gb0 [0] [(6, .bool false)] ?_
      refine gn hK10 ?_
      have hS8 := hS5.takeN 0
      obtain rfl := si h
      exact we_ret fun a hF => hQ _ _ _ (Outs.out nofun (Exits.on ⟨rfl, (pr0 [.tmp 6] [.bool false] ⟨rfl, hS8⟩) a hF⟩))
    ·rw [if_neg hc5] at h
     refine gk 39 (decide ((i1 : Int) ≥ (l1.length : Int))) false (decide_eq_false hc5) ?_
     refine gb0 [18, 19, 20, 21, 22] [(44, .bool false), (43, .bool false), (42, undef), (41, undef), (40, undef)] ?_
     refine gn hK9 ?_
     refine we_false (by kernel_rfl) ?_
     refine we_skip fun a hF => hK7 _ _ ?_ a hF
     refine wr [(0, 0), (1, 0)] ?_
     refine ge_addn (d := 45) (ty := 3) (x := (.tmp 17)) (y := (.const (vI 1))) (t := 3) (t2 := 3) (k := .i64) (m := i1) (by kernel_rfl) (by kernel_rfl) (by kernel_rfl) (by have h0 := hR0.small; omega) ?_
     refine gb0 [1] [(17, vI ((i1 + 1 : Nat) : Int))] ?_
     have hS9 := hS5.bring 1 rfl
     have hS10 := hS9.takeN 1
     obtain rfl := si h
     exact ge_nil fun a hF => hQ _ _ _ (Outs.again ⟨hS10, hF.weaken ea⟩)
   ·rw [if_neg hc4] at h
    refine gk 34 (!(SWindow.eqb e1 e2)) true (congrArg (fun z => !z) (Bool.eq_false_iff.2 hc4)) ?_
    refine gb0 [13, 14, 15, 16, 17, 18, 19, 20, 21, 22] [(44, .bool true), (43, undef), (42, undef), (41, undef), (40, undef), (39, undef), (38, undef), (37, undef), (36, undef), (35, undef)] ?_
    refine gn hK9 ?_
    refine we_true (by kernel_rfl) ?_
    refine ws fun K11 hK11 => ?_
    refine wr [(0, 0)] ?_
    refine gb0 [0] [(6, .bool false)] ?_
    refine gn hK11 ?_
    have hS11 := hS5.takeN 0
    obtain rfl := si h
    exact we_ret fun a hF => hQ _ _ _ (Outs.out nofun (Exits.on ⟨rfl, (pr0 [.tmp 6] [.bool false] ⟨rfl, hS11⟩) a hF⟩))
  ·rw [if_neg hc3] at h
   refine gk 26 (decide ((i1 : Int) < (l1.length : Int))) false (decide_eq_false hc3) ?_
   refine gb0 [5, 6, 7, 8, 9, 10, 11, 12, 13, 14, 15, 16, 17] [(39, .bool (decide ((i1 : Int) ≥ (l1.length : Int)))), (38, .bool (decide ((i1 : Int) ≥ (l1.length : Int)))), (37, vI (l1.length : Int)), (36, .slice A1 l1.length c1), (35, vI (i1 : Int)), (34, .bool false), (33, .bool false), (32, undef), (31, undef), (30, undef), (29, undef), (28, undef), (27, undef)] ?_
   by_cases hc7 : (i1 : Int) ≥ (l1.length : Int)
   ·rw [if_pos hc7] at h
    refine gk 39 (decide ((i1 : Int) ≥ (l1.length : Int))) true (decide_eq_true hc7) ?_
    refine gb [18, 19] [(41, .agg #[vI x2.At, vI x2.Len]), (40, .agg #[vI e1.At, vI e1.Len])] [.loaded ⟨b2, 0, none⟩ (vI e1.At), .loaded ⟨b2, 1, none⟩ (vI e1.Len), .loaded ⟨b1, 0, none⟩ (vI x2.At), .loaded ⟨b1, 1, none⟩ (vI x2.Len)] ⟨hS5.c 0, hS5.c 0, hS5.c 1, hS5.c 1, trivial⟩ ?_
    refine ge_eqs (d := 42) (ty := 4) (op := .neq) (x := (.tmp 40)) (y := (.tmp 41)) (t := 55) (t2 := 55) (xs := #[vI e1.At, vI e1.Len]) (ys := #[vI x2.At, vI x2.Len]) (r := (SWindow.eqb e1 x2)) (v := !(SWindow.eqb e1 x2)) (by kernel_rfl) (by kernel_rfl) (by kernel_rfl) (by kernel_rfl) (by kernel_rfl) rfl ?_
    refine gb0 [21, 22] [(44, .bool (!(SWindow.eqb e1 x2))), (43, .bool (!(SWindow.eqb e1 x2)))] ?_
    refine gn hK9 ?_
    by_cases hc8 : (SWindow.eqb e1 x2) = true
    ·rw [if_pos hc8] at h
     refine wk 44 (!(SWindow.eqb e1 x2)) false (congrArg (fun z => !z) hc8) ?_
     refine we_false (by kernel_rfl) ?_
     refine we_skip fun a hF => hK7 _ _ ?_ a hF
     refine wr [(0, 0), (1, 0)] ?_
     refine ge_addn (d := 45) (ty := 3) (x := (.tmp 17)) (y := (.const (vI 1))) (t := 3) (t2 := 3) (k := .i64) (m := i1) (by kernel_rfl) (by kernel_rfl) (by kernel_rfl) (by have h0 := hR0.small; omega) ?_
     refine gb0 [1] [(17, vI ((i1 + 1 : Nat) : Int))] ?_
     have hS12 := hS5.bring 1 rfl
     have hS13 := hS12.takeN 1
     obtain rfl := si h
     exact ge_nil fun a hF => hQ _ _ _ (Outs.again ⟨hS13, hF.weaken ea⟩)
    ·rw [if_neg hc8] at h
     refine wk 44 (!(SWindow.eqb e1 x2)) true (congrArg (fun z => !z) (Bool.eq_false_iff.2 hc8)) ?_
     refine we_true (by kernel_rfl) ?_
     refine ws fun K12 hK12 => ?_
     refine wr [(0, 0)] ?_
     refine gb0 [0] [(6, .bool false)] ?_
     refine gn hK12 ?_
     have hS14 := hS5.takeN 0
     obtain rfl := si h
     exact we_ret fun a hF => hQ _ _ _ (Outs.out nofun (Exits.on ⟨rfl, (pr0 [.tmp 6] [.bool false] ⟨rfl, hS14⟩) a hF⟩))
   ·rw [if_neg hc7] at h
    refine gk 39 (decide ((i1 : Int) ≥ (l1.length : Int))) false (decide_eq_false hc7) ?_
    refine gb0 [18, 19, 20, 21, 22] [(44, .bool false), (43, .bool false), (42, undef), (41, undef), (40, undef)] ?_
    refine gn hK9 ?_
    refine we_false (by kernel_rfl) ?_
    refine we_skip fun a hF => hK7 _ _ ?_ a hF
    refine wr [(0, 0), (1, 0)] ?_
    refine ge_addn (d := 45) (ty := 3) (x := (.tmp 17)) (y := (.const (vI 1))) (t := 3) (t2 := 3) (k := .i64) (m := i1) (by kernel_rfl) (by kernel_rfl) (by kernel_rfl) (by have h0 := hR0.small; omega) ?_
    refine gb0 [1] [(17, vI ((i1 + 1 : Nat) : Int))] ?_
    have hS15 := hS5.bring 1 rfl
    have hS16 := hS15.takeN 1
    obtain rfl := si h
    exact ge_nil fun a hF => hQ _ _ _ (Outs.again ⟨hS16, hF.weaken ea⟩)
 ·rw [if_neg hc2] at h
  refine wk 18 (decide ((i1 : Int) < (f0.length : Int))) false (decide_eq_false hc2) ?_
  refine we_false (by kernel_rfl) ?_
  have hS17 := hS.takeN 0
  obtain rfl := si h
  exact we_exit fun a hF => hQ _ _ _ (Outs.out nofun (Exits.here ⟨hS17, hF.weaken trivial⟩))
theorem punctualsame_Still_api_Window_ok (K : Nat) (f0 : List SWindow) (A0 : Option Addr) (n0 : Nat) (c0 : Nat) (l1 : List SWindow) (A1 : Option Addr) (c1 : Nat) (x2 : SWindow) (w0 : World) (hR0 : RdL w0 A0 f0) (hc0 : f0.length ≤ c0) (hR1 : RdL w0 A1 l1) (hL1 : l1.length ≤ c1) (r : Bool) (h : punctualsame_Still_api_Window.f K f0 l1 x2 = some r) :
  Calls Tryd.prog 32 #[.slice A0 n0 c0, .slice A1 l1.length c1, .agg #[vI x2.At, vI x2.Len]] w0 (punctualsame_Still_api_Window.Post w0 r) := by
 have hS := St.start w0
 unfold punctualsame_Still_api_Window.f at h
 refine calls_enter (n := 46) (args := [.slice A0 n0 c0, .slice A1 l1.length c1, .agg #[vI x2.At, vI x2.Len]]) (fn := Tryd.f32) rfl rfl rfl rfl ?_
 show WE _ _ _ _ [(0, .slice A0 n0 c0), (1, .slice A1 l1.length c1), (2, .agg #[vI x2.At, vI x2.Len])] _
 refine ws fun K1 hK1 => ?_
 refine wr [(0, 1), (1, 0)] ?_
 refine gw (some 5) (.cells #[vI x2.At, vI x2.Len] 55) (fun b => pP b 0) hS fun b1 w1 hx1 hS1 => ?_
 refine gb0 [1] [(6, .bool false)] ?_
 refine gn hK1 ?_
 refine ws fun K2 hK2 => ?_
 refine wr [(0, 0), (1, 0), (2, 0), (3, 0), (4, 0), (5, 0)] ?_
 refine gb0 [0, 1, 2, 3] [(13, vI (IntKind.i64.wrap ((l1.length : Int) + 3))), (12, vI (l1.length : Int)), (11, .slice A1 l1.length c1), (10, .slice A0 n0 c0)] ?_
 by_cases hc1 : (IntKind.i64.wrap ((l1.length : Int) + 3)) = (f0.length : Int)
 ·rw [if_pos hc1] at h
  refine ge_sliceHi (d := 14) (ty := 48) (t := 48) (el := 55) (sz := 2) (m := n0) (c := c0) (hn := f0.length) (x := (.tmp 10)) (y := (.tmp 13)) (A := A0) (k' := .i64) (hi := (IntKind.i64.wrap ((l1.length : Int) + 3))) (by kernel_rfl) (by kernel_rfl) (by kernel_rfl) hc1 (by kernel_rfl) (by kernel_rfl) hc0 ?_
  refine gb0 [5] [(7, .slice A0 f0.length c0)] ?_
  refine gn hK2 ?_
  refine ws fun K3 hK3 => ?_
  refine ws fun K4 hK4 => ?_
  refine wr [(0, 0), (1, 0), (2, 0)] ?_
  refine gb0 [0, 1, 2] [(17, vI 0), (16, vI (f0.length : Int)), (15, .slice A0 f0.length c0)] ?_
  refine gn hK4 ?_
  refine we_block ?_
  rcases hq1 : iter (punctualsame_Still_api_Window.r0 f0 l1 x2) K 0 with _ | (_ | rr1)
  ·rw [hq1] at h; cases h
  ·rw [hq1] at h
   simp only [] at h
   refine we_iter (A := punctualsame_Still_api_Window.A0 w0 f0 A0 c0 l1 A1 c1 x2 b1) (B := punctualsame_Still_api_Window.B0 w0) hq1 (fun a hF => ⟨hS1, hF.weaken ea⟩) (fun s o hf a w hA Q hQ => punctualsame_Still_api_Window_r0 K w0 f0 A0 n0 c0 l1 A1 c1 x2 hR0 hc0 hR1 hL1 b1 hc1 s o hf a w hA Q hQ) ?_
   rintro _ a w4 _ ⟨rfl, hS18, hF⟩
   replace hS18 : St w0 w4 [] := hS18
   refine hK3 [] w4 ?_ a hF
   refine ws fun K13 hK13 => ?_
   refine wr [(0, 0)] ?_
   refine gb0 [0] [(6, .bool true)] ?_
   refine gn hK13 ?_
   obtain rfl := si h
   exact we_ret (pr0 [.tmp 6] [.bool true] ⟨rfl, hS18⟩)
  ·rw [hq1] at h
   simp only [] at h
   refine we_iter (A := punctualsame_Still_api_Window.A0 w0 f0 A0 c0 l1 A1 c1 x2 b1) (B := punctualsame_Still_api_Window.B0 w0) hq1 (fun a hF => ⟨hS1, hF.weaken ea⟩) (fun s o hf a w hA Q hQ => punctualsame_Still_api_Window_r0 K w0 f0 A0 n0 c0 l1 A1 c1 x2 hR0 hc0 hR1 hL1 b1 hc1 s o hf a w hA Q hQ) ?_
   rintro _ a w1 _ ⟨rfl, hb⟩
   obtain rfl := si h
   exact hb
 ·rw [if_neg hc1] at h
  cases h

/-! punctual/punctualsame.Still[punctual/api.Job] -/
abbrev punctualsame_Still_api_Job.Post (w0 : World) (r : Bool) (e : Ending) (w : World) : Prop := e = .returned (.bool r) ∧ St w0 w []
def punctualsame_Still_api_Job.r0 (f0 : List SJob) (l1 : List SJob) (x2 : SJob) : Nat → Option (Nat ⊕ (Unit ⊕ Bool))
 | i1 =>
  if (i1 : Int) < (f0.length : Int) then
   match f0[i1]? with
   | none => none
   | some e1 =>
    if (i1 : Int) < (l1.length : Int) then
     match l1[i1]? with
     | none => none
     | some e2 =>
      if (SJob.eqb e1 e2) = true then
       if (i1 : Int) ≥ (l1.length : Int) then
        if (SJob.eqb e1 x2) = true then
         some (.inl (i1 + 1))
        else
         some (.inr (.inr false))
       else
        some (.inl (i1 + 1))
      else
       some (.inr (.inr false))
    else
     if (i1 : Int) ≥ (l1.length : Int) then
      if (SJob.eqb e1 x2) = true then
       some (.inl (i1 + 1))
      else
       some (.inr (.inr false))
     else
      some (.inl (i1 + 1))
  else
   some (.inr (.inl ()))
def punctualsame_Still_api_Job.f (K : Nat) (f0 : List SJob) (l1 : List SJob) (x2 : SJob) : Option Bool :=
 if (IntKind.i64.wrap ((l1.length : Int) + 3)) = (f0.length : Int) then
  match iter (punctualsame_Still_api_Job.r0 f0 l1 x2) K 0 with
  | none => none
  | some (.inl _) =>
   some true
  | some (.inr rr1) =>
   some rr1
 else
  none
abbrev punctualsame_Still_api_Job.A0 (w0 : World) (f0 : List SJob) (A0 : Option Addr) (c0 : Nat) (l1 : List SJob) (A1 : Option Addr) (c1 : Nat) (x2 : SJob) (b1 : Nat) : Nat → Act → World → Prop := fun (s : Nat) a w => St w0 w [Own.blk b1 (.cells #[vI x2.Task, vI x2.At, vI x2.C, vI x2.Due, vI x2.P] 58 (0, 0))] ∧ Frm 46 a [(1, .slice A1 l1.length c1), (5, pP b1 0), (15, .slice A0 f0.length c0), (16, vI (f0.length : Int)), (17, vI (s : Int))]
abbrev punctualsame_Still_api_Job.B0 (w0 : World) : (Unit ⊕ Bool) → Exit → Act → World → Prop := Exits 0 (fun (s : Unit) a w => St w0 w [] ∧ Frm 46 a []) (Rets Tryd.prog Tryd.f33 (punctualsame_Still_api_Job.Post w0))
theorem punctualsame_Still_api_Job_r0 (K : Nat) (w0 : World) (f0 : List SJob) (A0 : Option Addr) (n0 : Nat) (c0 : Nat) (l1 : List SJob) (A1 : Option Addr) (c1 : Nat) (x2 : SJob) (hR0 : RdL w0 A0 f0) (hc0 : f0.length ≤ c0) (hR1 : RdL w0 A1 l1) (hL1 : l1.length ≤ c1) (b1 : Nat) (hc1 : (IntKind.i64.wrap ((l1.length : Int) + 3)) = (f0.length : Int)) (s : Nat) (o : Nat ⊕ (Unit ⊕ Bool)) (h : punctualsame_Still_api_Job.r0 f0 l1 x2 s = some o) (a : Act) (w : World) (hA : punctualsame_Still_api_Job.A0 w0 f0 A0 c0 l1 A1 c1 x2 b1 s a w) (Q : Exit → Act → World → Prop) (hQ : ∀ x a w, Outs (punctualsame_Still_api_Job.A0 w0 f0 A0 c0 l1 A1 c1 x2 b1) (punctualsame_Still_api_Job.B0 w0) o x a w → Q x a w) : (subF Tryd.f33 [1, 1, 0, 1, 0, 0]).wp Tryd.prog Q a w := by
 obtain ⟨i1, hs⟩ : ∃ z, z = s := ⟨s, rfl⟩
 subst hs
 obtain ⟨hS, hF⟩ := hA
 replace hS : St w0 w [Own.blk b1 (.cells #[vI x2.Task, vI x2.At, vI x2.C, vI x2.Due, vI x2.P] 58 (0, 0))] := hS
 simp only [punctualsame_Still_api_Job.r0] at h
 refine (?_ : WE Tryd.prog 46 (subF Tryd.f33 [1, 1, 0, 1, 0, 0]) Q [(1, .slice A1 l1.length c1), (5, pP b1 0), (15, .slice A0 f0.length c0), (16, vI (f0.length : Int)), (17, vI (i1 : Int))] w) a hF
 clear hF a
 refine ws fun K5 hK5 => ?_
 refine wr [(0, 0)] ?_
 refine gb0 [0] [(18, .bool (decide ((i1 : Int) < (f0.length : Int))))] ?_
 refine gn hK5 ?_
 refine ws fun K6 hK6 => ?_
 by_cases hc2 : (i1 : Int) < (f0.length : Int)
 ·rw [if_pos hc2] at h
  refine wk 18 (decide ((i1 : Int) < (f0.length : Int))) true (decide_eq_true hc2) ?_
  refine we_true (by kernel_rfl) ?_
  refine we_skip fun a hF => hK6 _ _ ?_ a hF
  refine ws fun K7 hK7 => ?_
  refine we_block ?_
  refine ws fun K8 hK8 => ?_
  refine wr [(0, 0), (1, 0), (2, 0), (3, 1), (4, 0), (5, 2)] ?_
  refine gb0 [0] [(19, vI (i1 : Int))] ?_
  rcases hx2 : f0[i1]? with _ | e1
  ·rw [hx2] at h; cases h
  rw [hx2] at h
  simp only [] at h
  refine gi 20 0 49 58 5 f0.length c0 (.tmp 15) (.tmp 17) A0 .i64 (i1 : Int) i1 ((hS.rd hR0).eqSome (pos_of_get hx2)) rfl (lt_of_get hx2) ?_
  refine gb [2] [(21, .agg #[vI e1.Task, vI e1.At, vI e1.C, vI e1.Due, vI e1.P])] [.loaded ⟨blkOf A0, offOf A0 + i1 * 5, none⟩ (vI e1.Task), .loaded ⟨blkOf A0, offOf A0 + i1 * 5 + 1, none⟩ (vI e1.At), .loaded ⟨blkOf A0, offOf A0 + i1 * 5 + 2, none⟩ (vI e1.C), .loaded ⟨blkOf A0, offOf A0 + i1 * 5 + 3, none⟩ (vI e1.Due), .loaded ⟨blkOf A0, offOf A0 + i1 * 5 + 4, none⟩ (vI e1.P)] ⟨RdL.cell (j := 0) (hS.rd hR0) hx2 rfl, RdL.cell (j := 1) (hS.rd hR0) hx2 rfl, RdL.cell (j := 2) (hS.rd hR0) hx2 rfl, RdL.cell (j := 3) (hS.rd hR0) hx2 rfl, RdL.cell (j := 4) (hS.rd hR0) hx2 rfl, trivial⟩ ?_
  refine gw (some 9) (.cells #[vI 0, vI 0, vI 0, vI 0, vI 0] 58) (fun b => pP b 0) hS fun b2 w2 hx3 hS2 => ?_
  refine gb0 [4] [(8, vI (i1 : Int))] ?_
  refine gs b2 0 #[vI 0, vI 0, vI 0, vI 0, vI 0] 58 [vI e1.Task, vI e1.At, vI e1.C, vI e1.Due, vI e1.P] hS2 fun w3 hS3 => ?_
  have hS4 : St w0 w3 [Own.blk b2 (.cells #[vI e1.Task, vI e1.At, vI e1.C, vI e1.Due, vI e1.P] 58 (0, 0)), Own.blk b1 (.cells #[vI x2.Task, vI x2.At, vI x2.C, vI x2.Due, vI x2.P] 58 (0, 0))] := hS3
  refine gn hK8 ?_
  refine ws fun K9 hK9 => ?_
  refine we_draws (by kernel_rfl) [(0, 0), (1, 0), (2, 0), (3, 0), (4, 0), (5, 0), (6, 0), (7, 0), (8, 0), (9, 0), (10, 0), (11, 0), (12, 0), (13, 0), (14, 0), (15, 0), (16, 0), (17, 0), (18, 0), (19, 0), (20, 0), (21, 0), (22, 0)] (by kernel_rfl) ?_
  have hS5 := hS4.drew
  refine gb0 [0, 1, 2, 3, 4] [(26, .bool (decide ((i1 : Int) < (l1.length : Int)))), (25, .bool (decide ((i1 : Int) < (l1.length : Int)))), (24, vI (l1.length : Int)), (23, .slice A1 l1.length c1), (22, vI (i1 : Int))] ?_
  by_cases hc3 : (i1 : Int) < (l1.length : Int)
  ·rw [if_pos hc3] at h
   refine gk 26 (decide ((i1 : Int) < (l1.length : Int))) true (decide_eq_true hc3) ?_
   refine gb [5, 6, 7] [(29, vI (i1 : Int)), (28, .slice A1 l1.length c1), (27, .agg #[vI e1.Task, vI e1.At, vI e1.C, vI e1.Due, vI e1.P])] [.loaded ⟨b2, 0, none⟩ (vI e1.Task), .loaded ⟨b2, 1, none⟩ (vI e1.At), .loaded ⟨b2, 2, none⟩ (vI e1.C), .loaded ⟨b2, 3, none⟩ (vI e1.Due), .loaded ⟨b2, 4, none⟩ (vI e1.P)] ⟨hS5.c 0, hS5.c 0, hS5.c 0, hS5.c 0, hS5.c 0, trivial⟩ ?_
   rcases hx4 : l1[i1]? with _ | e2
   ·rw [hx4] at h; cases h
   rw [hx4] at h
   simp only [] at h
   refine gi 30 0 49 58 5 l1.length c1 (.tmp 28) (.tmp 29) A1 .i64 (i1 : Int) i1 ((hS5.rd hR1).eqSome (pos_of_get hx4)) rfl (lt_of_get hx4) ?_
   refine gb [9] [(31, .agg #[vI e2.Task, vI e2.At, vI e2.C, vI e2.Due, vI e2.P])] [.loaded ⟨blkOf A1, offOf A1 + i1 * 5, none⟩ (vI e2.Task), .loaded ⟨blkOf A1, offOf A1 + i1 * 5 + 1, none⟩ (vI e2.At), .loaded ⟨blkOf A1, offOf A1 + i1 * 5 + 2, none⟩ (vI e2.C), .loaded ⟨blkOf A1, offOf A1 + i1 * 5 + 3, none⟩ (vI e2.Due), .loaded ⟨blkOf A1, offOf A1 + i1 * 5 + 4, none⟩ (vI e2.P)] ⟨RdL.cell (j := 0) (hS5.rd hR1) hx4 rfl, RdL.cell (j := 1) (hS5.rd hR1) hx4 rfl, RdL.cell (j := 2) (hS5.rd hR1) hx4 rfl, RdL.cell (j := 3) (hS5.rd hR1) hx4 rfl, RdL.cell (j := 4) (hS5.rd hR1) hx4 rfl, trivial⟩ ?_
   refine ge_eqs (d := 32) (ty := 4) (op := .neq) (x := (.tmp 27)) (y := (.tmp 31)) (t := 58) (t2 := 58) (xs := #[vI e1.Task, vI e1.At, vI e1.C, vI e1.Due, vI e1.P]) (ys := #[vI e2.Task, vI e2.At, vI e2.C, vI e2.Due, vI e2.P]) (r := (SJob.eqb e1 e2)) (v := !(SJob.eqb e1 e2)) (by kernel_rfl) (by kernel_rfl) (by kernel_rfl) (by kernel_rfl) (by kernel_rfl) rfl ?_
   refine gb0 [11, 12] [(34, .bool (!(SJob.eqb e1 e2))), (33, .bool (!(SJob.eqb e1 e2)))] ?_
   by_cases hc4 : (SJob.eqb e1 e2) = true
   ·rw [if_pos hc4] at h
    refine gk 34 (!(SJob.eqb e1 e2)) false (congrArg (fun z => !z) hc4) ?_
    refine gb0 [13, 14, 15, 16, 17] [(39, .bool (decide ((i1 : Int) ≥ (l1.length : Int)))), (38, .bool (decide ((i1 : Int) ≥ (l1.length : Int)))), (37, vI (l1.length : Int)), (36, .slice A1 l1.length c1), (35, vI (i1 : Int))] ?_
    by_cases hc5 : (i1 : Int) ≥ (l1.length : Int)
    ·rw [if_pos hc5] at h
     refine gk 39 (decide ((i1 : Int) ≥ (l1.length : Int))) true (decide_eq_true hc5) ?_
     refine gb [18, 19] [(41, .agg #[vI x2.Task, vI x2.At, vI x2.C, vI x2.Due, vI x2.P]), (40, .agg #[vI e1.Task, vI e1.At, vI e1.C, vI e1.Due, vI e1.P])] [.loaded ⟨b2, 0, none⟩ (vI e1.Task), .loaded ⟨b2, 1, none⟩ (vI e1.At), .loaded ⟨b2, 2, none⟩ (vI e1.C), .loaded ⟨b2, 3, none⟩ (vI e1.Due), .loaded ⟨b2, 4, none⟩ (vI e1.P), .loaded ⟨b1, 0, none⟩ (vI x2.Task), .loaded ⟨b1, 1, none⟩ (vI x2.At), .loaded ⟨b1, 2, none⟩ (vI x2.C), .loaded ⟨b1, 3, none⟩ (vI x2.Due), .loaded ⟨b1, 4, none⟩ (vI x2.P)] ⟨hS5.c 0, hS5.c 0, hS5.c 0, hS5.c 0, hS5.c 0, hS5.c 1, hS5.c 1, hS5.c 1, hS5.c 1, hS5.c 1, trivial⟩ ?_
     refine ge_eqs (d := 42) (ty := 4) (op := .neq) (x := (.tmp 40)) (y := (.tmp 41)) (t := 58) (t2 := 58) (xs := #[vI e1.Task, vI e1.At, vI e1.C, vI e1.Due, vI e1.P]) (ys := #[vI x2.Task, vI x2.At, vI x2.C, vI x2.Due, vI x2.P]) (r := (SJob.eqb e1 x2)) (v := !(SJob.eqb e1 x2)) (by kernel_rfl) (by kernel_rfl) (by kernel_rfl) (by kernel_rfl) (by kernel_rfl) rfl ?_
     refine gb0 [21, 22] [(44, .bool (!(SJob.eqb e1 x2))), (43, .bool (!(SJob.eqb e1 x2)))] ?_
     refine gn hK9 ?_
     by_cases hc6 : (SJob.eqb e1 x2) = true
     ·rw [if_pos hc6] at h
      refine wk 44 (!(SJob.eqb e1 x2)) false (congrArg (fun z => !z) hc6) ?_
      refine we_false (by kernel_rfl) ?_
      refine we_skip fun a hF => hK7 _ _ ?_ a hF
      refine wr [(0, 0), (1, 0)] ?_
      refine ge_addn (d := 45) (ty := 3) (x := (.tmp 17)) (y := (.const (vI 1))) (t := 3) (t2 := 3) (k := .i64) (m := i1) (by kernel_rfl) (by kernel_rfl) (by kernel_rfl) (by have h0 := hR0.small; omega) ?_
      refine gb0 [1] [(17, vI ((i1 + 1 : Nat) : Int))] ?_
      have hS6 := hS5.bring 1 rfl
      have hS7 := hS6.takeN 1
      obtain rfl := si h
      exact ge_nil fun a hF => hQ _ _ _ (Outs.again ⟨hS7, hF.weaken ea⟩)
     ·rw [if_neg hc6] at h
      refine wk 44 (!(SJob.eqb e1 x2)) true (congrArg (fun z => !z) (Bool.eq_false_iff.2 hc6)) ?_
      refine we_true (by kernel_rfl) ?_
      refine ws fun K10 hK10 => ?_
      refine wr [(0, 0)] ?_
      refine gb0 [0] [(6, .bool false)] ?_
      refine gn hK10 ?_
      have hS8 := hS5.takeN 0
      obtain rfl := si h
      exact we_ret fun a hF => hQ _ _ _ (Outs.out nofun (Exits.on ⟨rfl, (pr0 [.tmp 6] [.bool false] ⟨rfl, hS8⟩) a hF⟩))
    ·rw [if_neg hc5] at h
     refine gk 39 (decide ((i1 : Int) ≥ (l1.length : Int))) false (decide_eq_false hc5) ?_
     refine gb0 [18, 19, 20, 21, 22] [(44, .bool false), (43, .bool false), (42, undef), (41, undef), (40, undef)] ?_
     refine gn hK9 ?_
     refine we_false (by kernel_rfl) ?_
     refine we_skip fun a hF => hK7 _ _ ?_ a hF
     refine wr [(0, 0), (1, 0)] ?_
     refine ge_addn (d := 45) (ty := 3) (x := (.tmp 17)) (y := (.const (vI 1))) (t := 3) (t2 := 3) (k := .i64) (m := i1) (by kernel_rfl) (by kernel_rfl) (by kernel_rfl) (by have h0 := hR0.small; omega) ?_
     refine gb0 [1] [(17, vI ((i1 + 1 : Nat) : Int))] ?_
     have hS9 := hS5.bring 1 rfl
     have hS10 := hS9.takeN 1
     obtain rfl := si h
     exact ge_nil fun a hF => hQ _ _ _ (Outs.again ⟨hS10, hF.weaken ea⟩)
   ·rw [if_neg hc4] at h
    refine gk 34 (!(SJob.eqb e1 e2)) true (congrArg (fun z => !z) (Bool.eq_false_iff.2 hc4)) ?_
    refine gb0 [13, 14, 15, 16, 17, 18, 19, 20, 21, 22] [(44, .bool true), (43, undef), (42, undef), (41, undef), (40, undef), (39, undef), (38, undef), (37, undef), (36, undef), (35, undef)] ?_
    refine gn hK9 ?_
    refine we_true (by kernel_rfl) ?_
    refine ws fun K11 hK11 => ?_
    refine wr [(0, 0)] ?_
    refine gb0 [0] [(6, .bool false)] ?_
    refine gn hK11 ?_
    have hS11 := hS5.takeN 0
    obtain rfl := si h
    exact we_ret fun a hF => hQ _ _ _ (Outs.out nofun (Exits.on ⟨rfl, (pr0 [.tmp 6] [.bool false] ⟨rfl, hS11⟩) a hF⟩))
  ·rw [if_neg hc3] at h
   refine gk 26 (decide ((i1 : Int) < (l1.length : Int))) false (decide_eq_false hc3) ?_
   refine gb0 [5, 6, 7, 8, 9, 10, 11, 12, 13, 14, 15, 16, 17] [(39, .bool (decide ((i1 : Int) ≥ (l1.length : Int)))), (38, .bool (decide ((i1 : Int) ≥ (l1.length : Int)))), (37, vI (l1.length : Int)), (36, .slice A1 l1.length c1), (35, vI (i1 : Int)), (34, .bool false), (33, .bool false), (32, undef), (31, undef), (30, undef), (29, undef), (28, undef), (27, undef)] ?_
   by_cases hc7 : (i1 : Int) ≥ (l1.length : Int)
   ·rw [if_pos hc7] at h
    refine gk 39 (decide ((i1 : Int) ≥ (l1.length : Int))) true (decide_eq_true hc7) ?_
    refine gb [18, 19] [(41, .agg #[vI x2.Task, vI x2.At, vI x2.C, vI x2.Due, vI x2.P]), (40, .agg #[vI e1.Task, vI e1.At, vI e1.C, vI e1.Due, vI e1.P])] [.loaded ⟨b2, 0, none⟩ (vI e1.Task), .loaded ⟨b2, 1, none⟩ (vI e1.At), .loaded ⟨b2, 2, none⟩ (vI e1.C), .loaded ⟨b2, 3, none⟩ (vI e1.Due), .loaded ⟨b2, 4, none⟩ (vI e1.P), .loaded ⟨b1, 0, none⟩ (vI x2.Task), .loaded ⟨b1, 1, none⟩ (vI x2.At), .loaded ⟨b1, 2, none⟩ (vI x2.C), .loaded ⟨b1, 3, none⟩ (vI x2.Due), .loaded ⟨b1, 4, none⟩ (vI x2.P)] ⟨hS5.c 0, hS5.c 0, hS5.c 0, hS5.c 0, hS5.c 0, hS5.c 1, hS5.c 1, hS5.c 1, hS5.c 1, hS5.c 1, trivial⟩ ?_
    refine ge_eqs (d := 42) (ty := 4) (op := .neq) (x := (.tmp 40)) (y := (.tmp 41)) (t := 58) (t2 := 58) (xs := #[vI e1.Task, vI e1.At, vI e1.C, vI e1.Due, vI e1.P]) (ys := #[vI x2.Task, vI x2.At, vI x2.C, vI x2.Due, vI x2.P]) (r := (SJob.eqb e1 x2)) (v := !(SJob.eqb e1 x2)) (by kernel_rfl) (by kernel_rfl) (by kernel_rfl) (by kernel_rfl) (by kernel_rfl) rfl ?_
    refine gb0 [21, 22] [(44, .bool (!(SJob.eqb e1 x2))), (43, .bool (!(SJob.eqb e1 x2)))] ?_
    refine gn hK9 ?_
    by_cases hc8 : (SJob.eqb e1 x2) = true
    ·rw [if_pos hc8] at h
     refine wk 44 (!(SJob.eqb e1 x2)) false (congrArg (fun z => !z) hc8) ?_
     refine we_false (by kernel_rfl) ?_
     refine we_skip fun a hF => hK7 _ _ ?_ a hF
     refine wr [(0, 0), (1, 0)] ?_
     refine ge_addn (d := 45) (ty := 3) (x := (.tmp 17)) (y := (.const (vI 1))) (t := 3) (t2 := 3) (k := .i64) (m := i1) (by kernel_rfl) (by kernel_rfl) (by kernel_rfl) (by have h0 := hR0.small; omega) ?_
     refine gb0 [1] [(17, vI ((i1 + 1 : Nat) : Int))] ?_
     have hS12 := hS5.bring 1 rfl
     have hS13 := hS12.takeN 1
     obtain rfl := si h
     exact ge_nil fun a hF => hQ _ _ _ (Outs.again ⟨hS13, hF.weaken ea⟩)
    ·rw [if_neg hc8] at h
     refine wk 44 (!(SJob.eqb e1 x2)) true (congrArg (fun z => !z) (Bool.eq_false_iff.2 hc8)) ?_
     refine we_true (by kernel_rfl) ?_
     refine ws fun K12 hK12 => ?_
     refine wr [(0, 0)] ?_
     refine gb0 [0] [(6, .bool false)] ?_
     refine gn hK12 ?_
     have hS14 := hS5.takeN 0
     obtain rfl := si h
     exact we_ret fun a hF => hQ _ _ _ (Outs.out nofun (Exits.on ⟨rfl, (pr0 [.tmp 6] [.bool false] ⟨rfl, hS14⟩) a hF⟩))
   ·rw [if_neg hc7] at h
    refine gk 39 (decide ((i1 : Int) ≥ (l1.length : Int))) false (decide_eq_false hc7) ?_
    refine gb0 [18, 19, 20, 21, 22] [(44, .bool false), (43, .bool false), (42, undef), (41, undef), (40, undef)] ?_
    refine gn hK9 ?_
    refine we_false (by kernel_rfl) ?_
    refine we_skip fun a hF => hK7 _ _ ?_ a hF
    refine wr [(0, 0), (1, 0)] ?_
    refine ge_addn (d := 45) (ty := 3) (x := (.tmp 17)) (y := (.const (vI 1))) (t := 3) (t2 := 3) (k := .i64) (m := i1) (by kernel_rfl) (by kernel_rfl) (by kernel_rfl) (by have h0 := hR0.small; omega) ?_
    refine gb0 [1] [(17, vI ((i1 + 1 : Nat) : Int))] ?_
    have hS15 := hS5.bring 1 rfl
    have hS16 := hS15.takeN 1
    obtain rfl := si h
    exact ge_nil fun a hF => hQ _ _ _ (Outs.again ⟨hS16, hF.weaken ea⟩)
 ·rw [if_neg hc2] at h
  refine wk 18 (decide ((i1 : Int) < (f0.length : Int))) false (decide_eq_false hc2) ?_
  refine we_false (by kernel_rfl) ?_
  have hS17 := hS.takeN 0
  obtain rfl := si h
  exact we_exit fun a hF => hQ _ _ _ (Outs.out nofun (Exits.here ⟨hS17, hF.weaken trivial⟩))
theorem punctualsame_Still_api_Job_ok (K : Nat) (f0 : List SJob) (A0 : Option Addr) (n0 : Nat) (c0 : Nat) (l1 : List SJob) (A1 : Option Addr) (c1 : Nat) (x2 : SJob) (w0 : World) (hR0 : RdL w0 A0 f0) (hc0 : f0.length ≤ c0) (hR1 : RdL w0 A1 l1) (hL1 : l1.length ≤ c1) (r : Bool) (h : punctualsame_Still_api_Job.f K f0 l1 x2 = some r) :
  Calls Tryd.prog 33 #[.slice A0 n0 c0, .slice A1 l1.length c1, .agg #[vI x2.Task, vI x2.At, vI x2.C, vI x2.Due, vI x2.P]] w0 (punctualsame_Still_api_Job.Post w0 r) := by
 have hS := St.start w0
 unfold punctualsame_Still_api_Job.f at h
 refine calls_enter (n := 46) (args := [.slice A0 n0 c0, .slice A1 l1.length c1, .agg #[vI x2.Task, vI x2.At, vI x2.C, vI x2.Due, vI x2.P]]) (fn := Tryd.f33) rfl rfl rfl rfl ?_
 show WE _ _ _ _ [(0, .slice A0 n0 c0), (1, .slice A1 l1.length c1), (2, .agg #[vI x2.Task, vI x2.At, vI x2.C, vI x2.Due, vI x2.P])] _
 refine ws fun K1 hK1 => ?_
 refine wr [(0, 1), (1, 0)] ?_
 refine gw (some 5) (.cells #[vI x2.Task, vI x2.At, vI x2.C, vI x2.Due, vI x2.P] 58) (fun b => pP b 0) hS fun b1 w1 hx1 hS1 => ?_
 refine gb0 [1] [(6, .bool false)] ?_
 refine gn hK1 ?_
 refine ws fun K2 hK2 => ?_
 refine wr [(0, 0), (1, 0), (2, 0), (3, 0), (4, 0), (5, 0)] ?_
 refine gb0 [0, 1, 2, 3] [(13, vI (IntKind.i64.wrap ((l1.length : Int) + 3))), (12, vI (l1.length : Int)), (11, .slice A1 l1.length c1), (10, .slice A0 n0 c0)] ?_
 by_cases hc1 : (IntKind.i64.wrap ((l1.length : Int) + 3)) = (f0.length : Int)
 ·rw [if_pos hc1] at h
  refine ge_sliceHi (d := 14) (ty := 49) (t := 49) (el := 58) (sz := 5) (m := n0) (c := c0) (hn := f0.length) (x := (.tmp 10)) (y := (.tmp 13)) (A := A0) (k' := .i64) (hi := (IntKind.i64.wrap ((l1.length : Int) + 3))) (by kernel_rfl) (by kernel_rfl) (by kernel_rfl) hc1 (by kernel_rfl) (by kernel_rfl) hc0 ?_
  refine gb0 [5] [(7, .slice A0 f0.length c0)] ?_
  refine gn hK2 ?_
  refine ws fun K3 hK3 => ?_
  refine ws fun K4 hK4 => ?_
  refine wr [(0, 0), (1, 0), (2, 0)] ?_
  refine gb0 [0, 1, 2] [(17, vI 0), (16, vI (f0.length : Int)), (15, .slice A0 f0.length c0)] ?_
  refine gn hK4 ?_
  refine we_block ?_
  rcases hq1 : iter (punctualsame_Still_api_Job.r0 f0 l1 x2) K 0 with _ | (_ | rr1)
  ·rw [hq1] at h; cases h
  ·rw [hq1] at h
   simp only [] at h
   refine we_iter (A := punctualsame_Still_api_Job.A0 w0 f0 A0 c0 l1 A1 c1 x2 b1) (B := punctualsame_Still_api_Job.B0 w0) hq1 (fun a hF => ⟨hS1, hF.weaken ea⟩) (fun s o hf a w hA Q hQ => punctualsame_Still_api_Job_r0 K w0 f0 A0 n0 c0 l1 A1 c1 x2 hR0 hc0 hR1 hL1 b1 hc1 s o hf a w hA Q hQ) ?_
   rintro _ a w4 _ ⟨rfl, hS18, hF⟩
   replace hS18 : St w0 w4 [] := hS18
   refine hK3 [] w4 ?_ a hF
   refine ws fun K13 hK13 => ?_
   refine wr [(0, 0)] ?_
   refine gb0 [0] [(6, .bool true)] ?_
   refine gn hK13 ?_
   obtain rfl := si h
   exact we_ret (pr0 [.tmp 6] [.bool true] ⟨rfl, hS18⟩)
  ·rw [hq1] at h
   simp only [] at h
   refine we_iter (A := punctualsame_Still_api_Job.A0 w0 f0 A0 c0 l1 A1 c1 x2 b1) (B := punctualsame_Still_api_Job.B0 w0) hq1 (fun a hF => ⟨hS1, hF.weaken ea⟩) (fun s o hf a w hA Q hQ => punctualsame_Still_api_Job_r0 K w0 f0 A0 n0 c0 l1 A1 c1 x2 hR0 hc0 hR1 hL1 b1 hc1 s o hf a w hA Q hQ) ?_
   rintro _ a w1 _ ⟨rfl, hb⟩
   obtain rfl := si h
   exact hb
 ·rw [if_neg hc1] at h
  cases h

/-! punctual/punctuallaw.WindowsPlay -/
abbrev WindowsPlay.Post (w0 : World) (r : Bool) (e : Ending) (w : World) : Prop := e = .returned (.bool r) ∧ St w0 w []
def WindowsPlay.p0 (l0 : List STask) (x2 : Int) (l3 : List SWindow) (l4 : List SJob) (x5 : Int) : Option (Unit ⊕ Bool) :=
  if (few.f (l0.length : Int)) = true then
   if (few.f (l3.length : Int)) = true then
    if (few.f (l4.length : Int)) = true then
     if (small.f (l4.length : Int) x5) = true then
      if x2 > 500 then
       if x2 ≤ 10000 then
        some (.inr true)
       else
        some (.inl ())
      else
       some (.inl ())
     else
      some (.inr true)
    else
     some (.inr true)
   else
    some (.inr true)
  else
   some (.inr true)
def WindowsPlay.r1 (l0 : List STask) : Nat → Option (Nat ⊕ (Unit ⊕ Bool))
 | i1 =>
  if (i1 : Int) < (l0.length : Int) then
   match l0[i1]? with
   | none => none
   | some e1 =>
    if e1.D > 500 then
     if e1.D ≤ 10000 then
      some (.inr (.inr true))
     else
      some (.inl (i1 + 1))
    else
     some (.inl (i1 + 1))
  else
   some (.inr (.inl ()))
def WindowsPlay.p2 (r5 : Int × SFault) (r6 : Int × SFault) : Option (Unit ⊕ Bool) :=
  if r5.1 = r6.1 then
   if (SFault.eqb r5.2 r6.2) = true then
    some (.inl ())
   else
    some (.inr false)
  else
   some (.inr false)
def WindowsPlay.r3 (K : Nat) (x2 : Int) (l3 : List SWindow) (l4 : List SJob) (x5 : Int) (r7 : SPlayed × SFault) : Nat → Option (Nat ⊕ (Unit ⊕ Bool))
 | i2 =>
  if (i2 : Int) < 2 then
   match modes_Hosted.f K l4 x2 l3 x5 with
   | none => none
   | some r8 =>
    if (SFault.eqb r8.2 r7.2) = true then
     match punctualsame_Played.f K r8.1.Runs r8.1.Ends r7.1.Runs r7.1.Ends with
     | none => none
     | some r9 =>
      if r9 = true then
       some (.inl (i2 + 1))
      else
       some (.inr (.inr false))
    else
     some (.inr (.inr false))
  else
   some (.inr (.inl ()))
def WindowsPlay.f (K : Nat) (l0 : List STask) (x1 : Int) (x2 : Int) (l3 : List SWindow) (l4 : List SJob) (x5 : Int) : Option Bool :=
 match opens.f K with
 | none => none
 | some r1 =>
  if r1 = true then
   match WindowsPlay.p0 l0 x2 l3 l4 x5 with
   | none => none
   | some (.inl _) =>
    match iter (WindowsPlay.r1 l0) K 0 with
    | none => none
    | some (.inl _) =>
     match punctualsame_Lend_api_Task.f l0 (⟨⟨#[63]⟩, (-9), 0, 0, 0, 0, 0⟩ : STask) with
     | none => none
     | some _ =>
      match punctualsame_Lend_api_Window.f l3 (⟨(-9), 0⟩ : SWindow) with
      | none => none
      | some _ =>
       match punctualsame_Lend_api_Job.f l4 (⟨(-9), 0, 0, 0, 0⟩ : SJob) with
       | none => none
       | some _ =>
        match modes_Within.f K l0 x1 x2 l3 with
        | none => none
        | some r5 =>
         match punctualref_WithinOf.f K l0 x1 x2 l3 with
         | none => none
         | some r6 =>
          match WindowsPlay.p2 r5 r6 with
          | none => none
          | some (.inl _) =>
           match punctualref_HostedOf.f K l4 x2 l3 x5 with
           | none => none
           | some r7 =>
            match iter (WindowsPlay.r3 K x2 l3 l4 x5 r7) K 0 with
            | none => none
            | some (.inl _) =>
             match punctualsame_Still_api_Task.f K (l0 ++ [(⟨⟨#[63]⟩, (-9), 0, 0, 0, 0, 0⟩ : STask), (⟨⟨#[63]⟩, (-9), 0, 0, 0, 0, 0⟩ : STask), (⟨⟨#[63]⟩, (-9), 0, 0, 0, 0, 0⟩ : STask)]) l0 (⟨⟨#[63]⟩, (-9), 0, 0, 0, 0, 0⟩ : STask) with
             | none => none
             | some r10 =>
              if r10 = true then
               match punctualsame_Still_api_Window.f K (l3 ++ [(⟨(-9), 0⟩ : SWindow), (⟨(-9), 0⟩ : SWindow), (⟨(-9), 0⟩ : SWindow)]) l3 (⟨(-9), 0⟩ : SWindow) with
               | none => none
               | some r11 =>
                if r11 = true then
                 match punctualsame_Still_api_Job.f K (l4 ++ [(⟨(-9), 0, 0, 0, 0⟩ : SJob), (⟨(-9), 0, 0, 0, 0⟩ : SJob), (⟨(-9), 0, 0, 0, 0⟩ : SJob)]) l4 (⟨(-9), 0, 0, 0, 0⟩ : SJob) with
                 | none => none
                 | some r12 =>
                  some r12
                else
                 some false
              else
               some false
            | some (.inr rr1) =>
             some rr1
          | some (.inr rr2) =>
           some rr2
    | some (.inr rr3) =>
     some rr3
   | some (.inr rr4) =>
    some rr4
  else
   some false
abbrev WindowsPlay.A0 (w0 : World) (l0 : List STask) (A0 : Option Addr) (c0 : Nat) (x1 : Int) (x2 : Int) (l3 : List SWindow) (A3 : Option Addr) (c3 : Nat) (l4 : List SJob) (A4 : Option Addr) (c4 : Nat) (x5 : Int) : Unit → Act → World → Prop := fun (s : Unit) a w => St w0 w [] ∧ Frm 157 a [(0, .slice A0 l0.length c0), (1, vI x1), (2, vI x2), (3, .slice A3 l3.length c3), (4, .slice A4 l4.length c4), (5, vI x5)]
abbrev WindowsPlay.B0 (w0 : World) : Bool → Exit → Act → World → Prop := Rets Tryd.prog Tryd.f4 (WindowsPlay.Post w0)
theorem WindowsPlay_p0 (K : Nat) (w0 : World) (l0 : List STask) (A0 : Option Addr) (c0 : Nat) (x1 : Int) (x2 : Int) (l3 : List SWindow) (A3 : Option Addr) (c3 : Nat) (l4 : List SJob) (A4 : Option Addr) (c4 : Nat) (x5 : Int) (hR0 : RdL w0 A0 l0) (hL0 : l0.length ≤ c0) (hR3 : RdL w0 A3 l3) (hL3 : l3.length ≤ c3) (hR4 : RdL w0 A4 l4) (hL4 : l4.length ≤ c4) (hG2 : Glob w0 2 [.string (⟨#[63]⟩), vI (-9), vI 0, vI 0, vI 0, vI 0, vI 0]) (hG3 : Glob w0 3 [vI (-9), vI 0]) (hG4 : Glob w0 4 [vI (-9), vI 0, vI 0, vI 0, vI 0]) (r1 : Bool) (hc1 : r1 = true) (o : Unit ⊕ Bool) (h : WindowsPlay.p0 l0 x2 l3 l4 x5 = some o) (w : World) (hS : St w0 w []) (Q : Exit → Act → World → Prop) (hQ : ∀ x a w, Outs (WindowsPlay.A0 w0 l0 A0 c0 x1 x2 l3 A3 c3 l4 A4 c4 x5) (WindowsPlay.B0 w0) o x a w → Q x a w) : WE Tryd.prog 157 (subF Tryd.f4 [1, 1, 0]) Q [(0, .slice A0 l0.length c0), (1, vI x1), (2, vI x2), (3, .slice A3 l3.length c3), (4, .slice A4 l4.length c4), (5, vI x5), (12, .bool false), (26, .bool r1), (27, .bool false)] w := by
 simp only [WindowsPlay.p0] at h
 refine ws fun K5 hK5 => ?_
 refine wr [(0, 0), (1, 0), (2, 1), (3, 0), (4, 0), (5, 0), (6, 0), (7, 1), (8, 0), (9, 0), (10, 0), (11, 0), (12, 0), (13, 1), (14, 0), (15, 0), (16, 0), (17, 0), (18, 0), (19, 0), (20, 1), (21, 0), (22, 0), (23, 0), (24, 0), (25, 0), (26, 0), (27, 0), (28, 0), (29, 0), (30, 0)] ?_
 refine gb0 [0, 1] [(29, vI (l0.length : Int)), (28, .slice A0 l0.length c0)] ?_
 refine ge_call (d := some 30) (f := 11) (args := #[vI (l0.length : Int)]) (by kernel_rfl) (few_ok (l0.length : Int) _ _ rfl) ?_
 rintro _ w2 ⟨rfl, hS3⟩
 refine ⟨_, rfl, hS3.below, ?_⟩
 have hS4 := hS.call hS3
 refine gb0 [3, 4] [(32, .bool (!(few.f (l0.length : Int)))), (31, .bool (!(few.f (l0.length : Int))))] ?_
 by_cases hc2 : (few.f (l0.length : Int)) = true
 ·rw [if_pos hc2] at h
  refine gk 32 (!(few.f (l0.length : Int))) false (congrArg (fun z => !z) hc2) ?_
  refine gb0 [5, 6] [(34, vI (l3.length : Int)), (33, .slice A3 l3.length c3)] ?_
  refine ge_call (d := some 35) (f := 11) (args := #[vI (l3.length : Int)]) (by kernel_rfl) (few_ok (l3.length : Int) _ _ rfl) ?_
  rintro _ w3 ⟨rfl, hS5⟩
  refine ⟨_, rfl, hS5.below, ?_⟩
  have hS6 := hS4.call hS5
  refine gb0 [8, 9, 10] [(38, .bool (!(few.f (l3.length : Int)))), (37, .bool (!(few.f (l3.length : Int)))), (36, .bool (!(few.f (l3.length : Int))))] ?_
  by_cases hc3 : (few.f (l3.length : Int)) = true
  ·rw [if_pos hc3] at h
   refine gk 38 (!(few.f (l3.length : Int))) false (congrArg (fun z => !z) hc3) ?_
   refine gb0 [11, 12] [(40, vI (l4.length : Int)), (39, .slice A4 l4.length c4)] ?_
   refine ge_call (d := some 41) (f := 11) (args := #[vI (l4.length : Int)]) (by kernel_rfl) (few_ok (l4.length : Int) _ _ rfl) ?_
   rintro _ w4 ⟨rfl, hS7⟩
   refine ⟨_, rfl, hS7.below, ?_⟩
   have hS8 := hS6.call hS7
   refine gb0 [14, 15, 16] [(44, .bool (!(few.f (l4.length : Int)))), (43, .bool (!(few.f (l4.length : Int)))), (42, .bool (!(few.f (l4.length : Int))))] ?_
   by_cases hc4 : (few.f (l4.length : Int)) = true
   ·rw [if_pos hc4] at h
    refine gk 44 (!(few.f (l4.length : Int))) false (congrArg (fun z => !z) hc4) ?_
    refine gb0 [17, 18, 19] [(47, vI x5), (46, vI (l4.length : Int)), (45, .slice A4 l4.length c4)] ?_
    refine ge_call (d := some 48) (f := 12) (args := #[vI (l4.length : Int), vI x5]) (by kernel_rfl) (small_ok (l4.length : Int) x5 _ _ rfl) ?_
    rintro _ w5 ⟨rfl, hS9⟩
    refine ⟨_, rfl, hS9.below, ?_⟩
    have hS10 := hS8.call hS9
    refine gb0 [21, 22, 23] [(51, .bool (!(small.f (l4.length : Int) x5))), (50, .bool (!(small.f (l4.length : Int) x5))), (49, .bool (!(small.f (l4.length : Int) x5)))] ?_
    by_cases hc5 : (small.f (l4.length : Int) x5) = true
    ·rw [if_pos hc5] at h
     refine gk 51 (!(small.f (l4.length : Int) x5)) false (congrArg (fun z => !z) hc5) ?_
     refine gb0 [24, 25, 26] [(54, .bool (decide (x2 > 500))), (53, .bool (decide (x2 > 500))), (52, vI x2)] ?_
     by_cases hc6 : x2 > 500
     ·rw [if_pos hc6] at h
      refine gk 54 (decide (x2 > 500)) true (decide_eq_true hc6) ?_
      refine gb0 [27, 28, 29, 30] [(58, .bool (decide (x2 ≤ 10000))), (57, .bool (decide (x2 ≤ 10000))), (56, .bool (decide (x2 ≤ 10000))), (55, vI x2)] ?_
      refine gn hK5 ?_
      by_cases hc7 : x2 ≤ 10000
      ·rw [if_pos hc7] at h
       refine wk 58 (decide (x2 ≤ 10000)) true (decide_eq_true hc7) ?_
       refine we_true (by kernel_rfl) ?_
       refine ws fun K6 hK6 => ?_
       refine wr [(0, 0)] ?_
       refine gb0 [0] [(12, .bool true)] ?_
       refine gn hK6 ?_
       obtain rfl := si h
       exact we_ret fun a hF => hQ _ _ _ (Outs.out nofun ⟨rfl, (pr0 [.tmp 12] [.bool true] ⟨rfl, hS10⟩) a hF⟩)
      ·rw [if_neg hc7] at h
       refine wk 58 (decide (x2 ≤ 10000)) false (decide_eq_false hc7) ?_
       refine we_false (by kernel_rfl) ?_
       obtain rfl := si h
       exact we_skip fun a hF => hQ _ _ _ (Outs.again ⟨hS10, hF.weaken ea⟩)
     ·rw [if_neg hc6] at h
      refine gk 54 (decide (x2 > 500)) false (decide_eq_false hc6) ?_
      refine gb0 [27, 28, 29, 30] [(58, .bool false), (57, .bool false), (56, undef), (55, undef)] ?_
      refine gn hK5 ?_
      refine we_false (by kernel_rfl) ?_
      obtain rfl := si h
      exact we_skip fun a hF => hQ _ _ _ (Outs.again ⟨hS10, hF.weaken ea⟩)
    ·rw [if_neg hc5] at h
     refine gk 51 (!(small.f (l4.length : Int) x5)) true (congrArg (fun z => !z) (Bool.eq_false_iff.2 hc5)) ?_
     refine gb0 [24, 25, 26, 27, 28, 29, 30] [(58, .bool true), (57, undef), (56, undef), (55, undef), (54, undef), (53, undef), (52, undef)] ?_
     refine gn hK5 ?_
     refine we_true (by kernel_rfl) ?_
     refine ws fun K7 hK7 => ?_
     refine wr [(0, 0)] ?_
     refine gb0 [0] [(12, .bool true)] ?_
     refine gn hK7 ?_
     obtain rfl := si h
     exact we_ret fun a hF => hQ _ _ _ (Outs.out nofun ⟨rfl, (pr0 [.tmp 12] [.bool true] ⟨rfl, hS10⟩) a hF⟩)
   ·rw [if_neg hc4] at h
    refine gk 44 (!(few.f (l4.length : Int))) true (congrArg (fun z => !z) (Bool.eq_false_iff.2 hc4)) ?_
    refine gb0 [17, 18, 19] [(47, undef), (46, undef), (45, undef)] ?_
    refine ge_off rfl rfl rfl (by kernel_rfl) ?_
    refine gb0 [21, 22, 23, 24, 25, 26, 27, 28, 29, 30] [(58, .bool true), (57, undef), (56, undef), (55, undef), (54, undef), (53, undef), (52, undef), (51, .bool true), (50, .bool true), (49, undef)] ?_
    refine gn hK5 ?_
    refine we_true (by kernel_rfl) ?_
    refine ws fun K8 hK8 => ?_
    refine wr [(0, 0)] ?_
    refine gb0 [0] [(12, .bool true)] ?_
    refine gn hK8 ?_
    obtain rfl := si h
    exact we_ret fun a hF => hQ _ _ _ (Outs.out nofun ⟨rfl, (pr0 [.tmp 12] [.bool true] ⟨rfl, hS8⟩) a hF⟩)
  ·rw [if_neg hc3] at h
   refine gk 38 (!(few.f (l3.length : Int))) true (congrArg (fun z => !z) (Bool.eq_false_iff.2 hc3)) ?_
   refine gb0 [11, 12] [(40, undef), (39, undef)] ?_
   refine ge_off rfl rfl rfl (by kernel_rfl) ?_
   refine gb0 [14, 15, 16, 17, 18, 19] [(47, undef), (46, undef), (45, undef), (44, .bool true), (43, .bool true), (42, undef)] ?_
   refine ge_off rfl rfl rfl (by kernel_rfl) ?_
   refine gb0 [21, 22, 23, 24, 25, 26, 27, 28, 29, 30] [(58, .bool true), (57, undef), (56, undef), (55, undef), (54, undef), (53, undef), (52, undef), (51, .bool true), (50, .bool true), (49, undef)] ?_
   refine gn hK5 ?_
   refine we_true (by kernel_rfl) ?_
   refine ws fun K9 hK9 => ?_
   refine wr [(0, 0)] ?_
   refine gb0 [0] [(12, .bool true)] ?_
   refine gn hK9 ?_
   obtain rfl := si h
   exact we_ret fun a hF => hQ _ _ _ (Outs.out nofun ⟨rfl, (pr0 [.tmp 12] [.bool true] ⟨rfl, hS6⟩) a hF⟩)
 ·rw [if_neg hc2] at h
  refine gk 32 (!(few.f (l0.length : Int))) true (congrArg (fun z => !z) (Bool.eq_false_iff.2 hc2)) ?_
  refine gb0 [5, 6] [(34, undef), (33, undef)] ?_
  refine ge_off rfl rfl rfl (by kernel_rfl) ?_
  refine gb0 [8, 9, 10, 11, 12] [(40, undef), (39, undef), (38, .bool true), (37, .bool true), (36, undef)] ?_
  refine ge_off rfl rfl rfl (by kernel_rfl) ?_
  refine gb0 [14, 15, 16, 17, 18, 19] [(47, undef), (46, undef), (45, undef), (44, .bool true), (43, .bool true), (42, undef)] ?_
  refine ge_off rfl rfl rfl (by kernel_rfl) ?_
  refine gb0 [21, 22, 23, 24, 25, 26, 27, 28, 29, 30] [(58, .bool true), (57, undef), (56, undef), (55, undef), (54, undef), (53, undef), (52, undef), (51, .bool true), (50, .bool true), (49, undef)] ?_
  refine gn hK5 ?_
  refine we_true (by kernel_rfl) ?_
  refine ws fun K10 hK10 => ?_
  refine wr [(0, 0)] ?_
  refine gb0 [0] [(12, .bool true)] ?_
  refine gn hK10 ?_
  obtain rfl := si h
  exact we_ret fun a hF => hQ _ _ _ (Outs.out nofun ⟨rfl, (pr0 [.tmp 12] [.bool true] ⟨rfl, hS4⟩) a hF⟩)
abbrev WindowsPlay.A1 (w0 : World) (l0 : List STask) (A0 : Option Addr) (c0 : Nat) (x1 : Int) (x2 : Int) (l3 : List SWindow) (A3 : Option Addr) (c3 : Nat) (l4 : List SJob) (A4 : Option Addr) (c4 : Nat) (x5 : Int) : Nat → Act → World → Prop := fun (s : Nat) a w => St w0 w [] ∧ Frm 157 a [(0, .slice A0 l0.length c0), (1, vI x1), (2, vI x2), (3, .slice A3 l3.length c3), (4, .slice A4 l4.length c4), (5, vI x5), (59, .slice A0 l0.length c0), (60, vI (l0.length : Int)), (61, vI (s : Int))]
abbrev WindowsPlay.B1 (w0 : World) (l0 : List STask) (A0 : Option Addr) (c0 : Nat) (x1 : Int) (x2 : Int) (l3 : List SWindow) (A3 : Option Addr) (c3 : Nat) (l4 : List SJob) (A4 : Option Addr) (c4 : Nat) (x5 : Int) : (Unit ⊕ Bool) → Exit → Act → World → Prop := Exits 0 (fun (s : Unit) a w => St w0 w [] ∧ Frm 157 a [(0, .slice A0 l0.length c0), (1, vI x1), (2, vI x2), (3, .slice A3 l3.length c3), (4, .slice A4 l4.length c4), (5, vI x5)]) (Rets Tryd.prog Tryd.f4 (WindowsPlay.Post w0))
theorem WindowsPlay_r1 (K : Nat) (w0 : World) (l0 : List STask) (A0 : Option Addr) (c0 : Nat) (x1 : Int) (x2 : Int) (l3 : List SWindow) (A3 : Option Addr) (c3 : Nat) (l4 : List SJob) (A4 : Option Addr) (c4 : Nat) (x5 : Int) (hR0 : RdL w0 A0 l0) (hL0 : l0.length ≤ c0) (hR3 : RdL w0 A3 l3) (hL3 : l3.length ≤ c3) (hR4 : RdL w0 A4 l4) (hL4 : l4.length ≤ c4) (hG2 : Glob w0 2 [.string (⟨#[63]⟩), vI (-9), vI 0, vI 0, vI 0, vI 0, vI 0]) (hG3 : Glob w0 3 [vI (-9), vI 0]) (hG4 : Glob w0 4 [vI (-9), vI 0, vI 0, vI 0, vI 0]) (r1 : Bool) (hc1 : r1 = true) (s : Nat) (o : Nat ⊕ (Unit ⊕ Bool)) (h : WindowsPlay.r1 l0 s = some o) (a : Act) (w : World) (hA : WindowsPlay.A1 w0 l0 A0 c0 x1 x2 l3 A3 c3 l4 A4 c4 x5 s a w) (Q : Exit → Act → World → Prop) (hQ : ∀ x a w, Outs (WindowsPlay.A1 w0 l0 A0 c0 x1 x2 l3 A3 c3 l4 A4 c4 x5) (WindowsPlay.B1 w0 l0 A0 c0 x1 x2 l3 A3 c3 l4 A4 c4 x5) o x a w → Q x a w) : (subF Tryd.f4 [1, 1, 1, 0, 1, 0, 0]).wp Tryd.prog Q a w := by
 obtain ⟨i1, hs⟩ : ∃ z, z = s := ⟨s, rfl⟩
 subst hs
 obtain ⟨hS, hF⟩ := hA
 replace hS : St w0 w [] := hS
 simp only [WindowsPlay.r1] at h
 refine (?_ : WE Tryd.prog 157 (subF Tryd.f4 [1, 1, 1, 0, 1, 0, 0]) Q [(0, .slice A0 l0.length c0), (1, vI x1), (2, vI x2), (3, .slice A3 l3.length c3), (4, .slice A4 l4.length c4), (5, vI x5), (59, .slice A0 l0.length c0), (60, vI (l0.length : Int)), (61, vI (i1 : Int))] w) a hF
 clear hF a
 refine ws fun K13 hK13 => ?_
 refine wr [(0, 0)] ?_
 refine gb0 [0] [(62, .bool (decide ((i1 : Int) < (l0.length : Int))))] ?_
 refine gn hK13 ?_
 refine ws fun K14 hK14 => ?_
 by_cases hc8 : (i1 : Int) < (l0.length : Int)
 ·rw [if_pos hc8] at h
  refine wk 62 (decide ((i1 : Int) < (l0.length : Int))) true (decide_eq_true hc8) ?_
  refine we_true (by kernel_rfl) ?_
  refine we_skip fun a hF => hK14 _ _ ?_ a hF
  refine ws fun K15 hK15 => ?_
  refine we_block ?_
  refine ws fun K16 hK16 => ?_
  refine wr [(0, 0), (1, 0), (2, 1), (3, 2)] ?_
  rcases hx1 : l0[i1]? with _ | e1
  ·rw [hx1] at h; cases h
  rw [hx1] at h
  simp only [] at h
  refine gi 63 0 47 51 7 l0.length c0 (.tmp 59) (.tmp 61) A0 .i64 (i1 : Int) i1 ((hS.rd hR0).eqSome (pos_of_get hx1)) rfl (lt_of_get hx1) ?_
  refine gb [1] [(64, .agg #[.string e1.Name, vI e1.C, vI e1.T, vI e1.D, vI e1.J, vI e1.O, vI e1.P])] [.loaded ⟨blkOf A0, offOf A0 + i1 * 7, none⟩ (.string e1.Name), .loaded ⟨blkOf A0, offOf A0 + i1 * 7 + 1, none⟩ (vI e1.C), .loaded ⟨blkOf A0, offOf A0 + i1 * 7 + 2, none⟩ (vI e1.T), .loaded ⟨blkOf A0, offOf A0 + i1 * 7 + 3, none⟩ (vI e1.D), .loaded ⟨blkOf A0, offOf A0 + i1 * 7 + 4, none⟩ (vI e1.J), .loaded ⟨blkOf A0, offOf A0 + i1 * 7 + 5, none⟩ (vI e1.O), .loaded ⟨blkOf A0, offOf A0 + i1 * 7 + 6, none⟩ (vI e1.P)] ⟨RdL.cell (j := 0) (hS.rd hR0) hx1 rfl, RdL.cell (j := 1) (hS.rd hR0) hx1 rfl, RdL.cell (j := 2) (hS.rd hR0) hx1 rfl, RdL.cell (j := 3) (hS.rd hR0) hx1 rfl, RdL.cell (j := 4) (hS.rd hR0) hx1 rfl, RdL.cell (j := 5) (hS.rd hR0) hx1 rfl, RdL.cell (j := 6) (hS.rd hR0) hx1 rfl, trivial⟩ ?_
  refine gw (some 14) (.cells #[.string (⟨#[]⟩), vI 0, vI 0, vI 0, vI 0, vI 0, vI 0] 51) (fun b => pP b 0) hS fun b1 w7 hx2 hS12 => ?_
  refine gs b1 0 #[.string (⟨#[]⟩), vI 0, vI 0, vI 0, vI 0, vI 0, vI 0] 51 [.string e1.Name, vI e1.C, vI e1.T, vI e1.D, vI e1.J, vI e1.O, vI e1.P] hS12 fun w8 hS13 => ?_
  have hS14 : St w0 w8 [Own.blk b1 (.cells #[.string e1.Name, vI e1.C, vI e1.T, vI e1.D, vI e1.J, vI e1.O, vI e1.P] 51 (0, 0))] := hS13
  refine gn hK16 ?_
  refine ws fun K17 hK17 => ?_
  refine wr [(0, 0), (1, 0), (2, 0), (3, 0), (4, 0), (5, 0), (6, 0), (7, 0)] ?_
  refine gb [0, 1, 2, 3] [(68, .bool (decide (e1.D > 500))), (67, .bool (decide (e1.D > 500))), (66, vI e1.D), (65, pP b1 3)] [.loaded ⟨b1, 3, none⟩ (vI e1.D)] ⟨hS14.c 0, trivial⟩ ?_
  by_cases hc9 : e1.D > 500
  ·rw [if_pos hc9] at h
   refine gk 68 (decide (e1.D > 500)) true (decide_eq_true hc9) ?_
   refine gb [4, 5, 6, 7] [(72, .bool (decide (e1.D ≤ 10000))), (71, .bool (decide (e1.D ≤ 10000))), (70, vI e1.D), (69, pP b1 3)] [.loaded ⟨b1, 3, none⟩ (vI e1.D)] ⟨hS14.c 0, trivial⟩ ?_
   refine gn hK17 ?_
   by_cases hc10 : e1.D ≤ 10000
   ·rw [if_pos hc10] at h
    refine wk 72 (decide (e1.D ≤ 10000)) true (decide_eq_true hc10) ?_
    refine we_true (by kernel_rfl) ?_
    refine ws fun K18 hK18 => ?_
    refine wr [(0, 0)] ?_
    refine gb0 [0] [(12, .bool true)] ?_
    refine gn hK18 ?_
    have hS15 := hS14.takeN 0
    obtain rfl := si h
    exact we_ret fun a hF => hQ _ _ _ (Outs.out nofun (Exits.on ⟨rfl, (pr0 [.tmp 12] [.bool true] ⟨rfl, hS15⟩) a hF⟩))
   ·rw [if_neg hc10] at h
    refine wk 72 (decide (e1.D ≤ 10000)) false (decide_eq_false hc10) ?_
    refine we_false (by kernel_rfl) ?_
    refine we_skip fun a hF => hK15 _ _ ?_ a hF
    refine wr [(0, 0), (1, 0)] ?_
    refine ge_addn (d := 73) (ty := 3) (x := (.tmp 61)) (y := (.const (vI 1))) (t := 3) (t2 := 3) (k := .i64) (m := i1) (by kernel_rfl) (by kernel_rfl) (by kernel_rfl) (by have h0 := hR0.small; omega) ?_
    refine gb0 [1] [(61, vI ((i1 + 1 : Nat) : Int))] ?_
    have hS16 := hS14.takeN 0
    obtain rfl := si h
    exact ge_nil fun a hF => hQ _ _ _ (Outs.again ⟨hS16, hF.weaken ea⟩)
  ·rw [if_neg hc9] at h
   refine gk 68 (decide (e1.D > 500)) false (decide_eq_false hc9) ?_
   refine gb0 [4, 5, 6, 7] [(72, .bool false), (71, undef), (70, undef), (69, undef)] ?_
   refine gn hK17 ?_
   refine we_false (by kernel_rfl) ?_
   refine we_skip fun a hF => hK15 _ _ ?_ a hF
   refine wr [(0, 0), (1, 0)] ?_
   refine ge_addn (d := 73) (ty := 3) (x := (.tmp 61)) (y := (.const (vI 1))) (t := 3) (t2 := 3) (k := .i64) (m := i1) (by kernel_rfl) (by kernel_rfl) (by kernel_rfl) (by have h0 := hR0.small; omega) ?_
   refine gb0 [1] [(61, vI ((i1 + 1 : Nat) : Int))] ?_
   have hS17 := hS14.takeN 0
   obtain rfl := si h
   exact ge_nil fun a hF => hQ _ _ _ (Outs.again ⟨hS17, hF.weaken ea⟩)
 ·rw [if_neg hc8] at h
  refine wk 62 (decide ((i1 : Int) < (l0.length : Int))) false (decide_eq_false hc8) ?_
  refine we_false (by kernel_rfl) ?_
  obtain rfl := si h
  exact we_exit fun a hF => hQ _ _ _ (Outs.out nofun (Exits.here ⟨hS, hF.weaken ea⟩))
abbrev WindowsPlay.A2 (w0 : World) (l0 : List STask) (A0 : Option Addr) (c0 : Nat) (x2 : Int) (l3 : List SWindow) (A3 : Option Addr) (c3 : Nat) (l4 : List SJob) (A4 : Option Addr) (c4 : Nat) (x5 : Int) (Z1 : Option Addr) (cz1 : Nat) (Z2 : Option Addr) (cz2 : Nat) (Z3 : Option Addr) (cz3 : Nat) : Unit → Act → World → Prop := fun (s : Unit) a w => St w0 w [Own.of (.slice Z1 (l0 ++ [(⟨⟨#[63]⟩, (-9), 0, 0, 0, 0, 0⟩ : STask), (⟨⟨#[63]⟩, (-9), 0, 0, 0, 0, 0⟩ : STask), (⟨⟨#[63]⟩, (-9), 0, 0, 0, 0, 0⟩ : STask)]).length cz1) 51 (l0 ++ [(⟨⟨#[63]⟩, (-9), 0, 0, 0, 0, 0⟩ : STask), (⟨⟨#[63]⟩, (-9), 0, 0, 0, 0, 0⟩ : STask), (⟨⟨#[63]⟩, (-9), 0, 0, 0, 0, 0⟩ : STask)]), Own.of (.slice Z2 (l3 ++ [(⟨(-9), 0⟩ : SWindow), (⟨(-9), 0⟩ : SWindow), (⟨(-9), 0⟩ : SWindow)]).length cz2) 55 (l3 ++ [(⟨(-9), 0⟩ : SWindow), (⟨(-9), 0⟩ : SWindow), (⟨(-9), 0⟩ : SWindow)]), Own.of (.slice Z3 (l4 ++ [(⟨(-9), 0, 0, 0, 0⟩ : SJob), (⟨(-9), 0, 0, 0, 0⟩ : SJob), (⟨(-9), 0, 0, 0, 0⟩ : SJob)]).length cz3) 58 (l4 ++ [(⟨(-9), 0, 0, 0, 0⟩ : SJob), (⟨(-9), 0, 0, 0, 0⟩ : SJob), (⟨(-9), 0, 0, 0, 0⟩ : SJob)])] ∧ Frm 157 a [(0, .slice A0 l0.length c0), (2, vI x2), (3, .slice A3 l3.length c3), (4, .slice A4 l4.length c4), (5, vI x5), (15, .slice Z1 l0.length cz1), (16, .slice Z2 l3.length cz2), (17, .slice Z3 l4.length cz3)]
abbrev WindowsPlay.B2 (w0 : World) : Bool → Exit → Act → World → Prop := Rets Tryd.prog Tryd.f4 (WindowsPlay.Post w0)
theorem WindowsPlay_p2 (K : Nat) (w0 : World) (l0 : List STask) (A0 : Option Addr) (c0 : Nat) (x1 : Int) (x2 : Int) (l3 : List SWindow) (A3 : Option Addr) (c3 : Nat) (l4 : List SJob) (A4 : Option Addr) (c4 : Nat) (x5 : Int) (hR0 : RdL w0 A0 l0) (hL0 : l0.length ≤ c0) (hR3 : RdL w0 A3 l3) (hL3 : l3.length ≤ c3) (hR4 : RdL w0 A4 l4) (hL4 : l4.length ≤ c4) (hG2 : Glob w0 2 [.string (⟨#[63]⟩), vI (-9), vI 0, vI 0, vI 0, vI 0, vI 0]) (hG3 : Glob w0 3 [vI (-9), vI 0]) (hG4 : Glob w0 4 [vI (-9), vI 0, vI 0, vI 0, vI 0]) (r1 : Bool) (hc1 : r1 = true) (Z1 : Option Addr) (cz1 : Nat) (hcp1 : (l0 ++ [(⟨⟨#[63]⟩, (-9), 0, 0, 0, 0, 0⟩ : STask), (⟨⟨#[63]⟩, (-9), 0, 0, 0, 0, 0⟩ : STask), (⟨⟨#[63]⟩, (-9), 0, 0, 0, 0, 0⟩ : STask)]).length ≤ cz1) (Z2 : Option Addr) (cz2 : Nat) (hcp2 : (l3 ++ [(⟨(-9), 0⟩ : SWindow), (⟨(-9), 0⟩ : SWindow), (⟨(-9), 0⟩ : SWindow)]).length ≤ cz2) (Z3 : Option Addr) (cz3 : Nat) (hcp3 : (l4 ++ [(⟨(-9), 0, 0, 0, 0⟩ : SJob), (⟨(-9), 0, 0, 0, 0⟩ : SJob), (⟨(-9), 0, 0, 0, 0⟩ : SJob)]).length ≤ cz3) (r5 : Int × SFault) (b2 : Nat) (r6 : Int × SFault) (b3 : Nat) (o : Unit ⊕ Bool) (h : WindowsPlay.p2 r5 r6 = some o) (w : World) (hS : St w0 w [Own.blk b3 (.cells #[vI r6.2.Code, vI r6.2.At] 39 (0, 0)), Own.blk b2 (.cells #[vI r5.2.Code, vI r5.2.At] 39 (0, 0)), Own.of (.slice Z3 (l4 ++ [(⟨(-9), 0, 0, 0, 0⟩ : SJob), (⟨(-9), 0, 0, 0, 0⟩ : SJob), (⟨(-9), 0, 0, 0, 0⟩ : SJob)]).length cz3) 58 (l4 ++ [(⟨(-9), 0, 0, 0, 0⟩ : SJob), (⟨(-9), 0, 0, 0, 0⟩ : SJob), (⟨(-9), 0, 0, 0, 0⟩ : SJob)]), Own.of (.slice Z2 (l3 ++ [(⟨(-9), 0⟩ : SWindow), (⟨(-9), 0⟩ : SWindow), (⟨(-9), 0⟩ : SWindow)]).length cz2) 55 (l3 ++ [(⟨(-9), 0⟩ : SWindow), (⟨(-9), 0⟩ : SWindow), (⟨(-9), 0⟩ : SWindow)]), Own.of (.slice Z1 (l0 ++ [(⟨⟨#[63]⟩, (-9), 0, 0, 0, 0, 0⟩ : STask), (⟨⟨#[63]⟩, (-9), 0, 0, 0, 0, 0⟩ : STask), (⟨⟨#[63]⟩, (-9), 0, 0, 0, 0, 0⟩ : STask)]).length cz1) 51 (l0 ++ [(⟨⟨#[63]⟩, (-9), 0, 0, 0, 0, 0⟩ : STask), (⟨⟨#[63]⟩, (-9), 0, 0, 0, 0, 0⟩ : STask), (⟨⟨#[63]⟩, (-9), 0, 0, 0, 0, 0⟩ : STask)])]) (Q : Exit → Act → World → Prop) (hQ : ∀ x a w, Outs (WindowsPlay.A2 w0 l0 A0 c0 x2 l3 A3 c3 l4 A4 c4 x5 Z1 cz1 Z2 cz2 Z3 cz3) (WindowsPlay.B2 w0) o x a w → Q x a w) : WE Tryd.prog 157 (subF Tryd.f4 [1, 1, 1, 1, 1, 1, 1, 0]) Q ((0, .slice A0 l0.length c0) :: (1, vI x1) :: (2, vI x2) :: (3, .slice A3 l3.length c3) :: (4, .slice A4 l4.length c4) :: (5, vI x5) :: (15, .slice Z1 l0.length cz1) :: (16, .slice Z2 l3.length cz2) :: (17, .slice Z3 l4.length cz3) :: (18, vI r5.1) :: (19, pP b2 0) :: (20, vI r6.1) :: (21, pP b3 0) :: (74, .slice A0 l0.length c0) :: (75, .agg #[.string (⟨#[63]⟩), vI (-9), vI 0, vI 0, vI 0, vI 0, vI 0]) :: (76, .slice Z1 l0.length cz1) :: (77, .slice A3 l3.length c3) :: (78, .agg #[vI (-9), vI 0]) :: (79, .slice Z2 l3.length cz2) :: (80, .slice A4 l4.length c4) :: (81, .agg #[vI (-9), vI 0, vI 0, vI 0, vI 0]) :: (82, .slice Z3 l4.length cz3) :: (83, .tuple #[vI r5.1, .agg #[vI r5.2.Code, vI r5.2.At]]) :: (84, .slice Z1 l0.length cz1) :: (85, vI x1) :: (86, vI x2) :: (87, .slice Z2 l3.length cz2) :: (88, .tuple #[vI r5.1, .agg #[vI r5.2.Code, vI r5.2.At]]) :: (89, vI r5.1) :: (90, .agg #[vI r5.2.Code, vI r5.2.At]) :: (91, .tuple #[vI r6.1, .agg #[vI r6.2.Code, vI r6.2.At]]) :: (92, .slice A0 l0.length c0) :: (93, vI x1) :: (94, vI x2) :: (95, .slice A3 l3.length c3) :: (96, .tuple #[vI r6.1, .agg #[vI r6.2.Code, vI r6.2.At]]) :: (97, vI r6.1) :: (98, .agg #[vI r6.2.Code, vI r6.2.At]) :: []) w := by
 simp only [WindowsPlay.p2] at h
 refine ws fun K23 hK23 => ?_
 refine wr [(0, 0), (1, 0), (2, 0), (3, 0), (4, 0), (5, 0), (6, 0), (7, 0)] ?_
 refine gb0 [0, 1, 2, 3] [(102, .bool (r5.1 != r6.1)), (101, .bool (r5.1 != r6.1)), (100, vI r6.1), (99, vI r5.1)] ?_
 by_cases hc11 : r5.1 = r6.1
 ·rw [if_pos hc11] at h
  refine gk 102 (r5.1 != r6.1) false (bne_eq_false_iff_eq.2 hc11) ?_
  refine gb [4, 5] [(104, .agg #[vI r6.2.Code, vI r6.2.At]), (103, .agg #[vI r5.2.Code, vI r5.2.At])] [.loaded ⟨b2, 0, none⟩ (vI r5.2.Code), .loaded ⟨b2, 1, none⟩ (vI r5.2.At), .loaded ⟨b3, 0, none⟩ (vI r6.2.Code), .loaded ⟨b3, 1, none⟩ (vI r6.2.At)] ⟨hS.c 1, hS.c 1, hS.c 0, hS.c 0, trivial⟩ ?_
  refine ge_eqs (d := 105) (ty := 4) (op := .neq) (x := (.tmp 103)) (y := (.tmp 104)) (t := 39) (t2 := 39) (xs := #[vI r5.2.Code, vI r5.2.At]) (ys := #[vI r6.2.Code, vI r6.2.At]) (r := (SFault.eqb r5.2 r6.2)) (v := !(SFault.eqb r5.2 r6.2)) (by kernel_rfl) (by kernel_rfl) (by kernel_rfl) (by kernel_rfl) (by kernel_rfl) rfl ?_
  refine gb0 [7] [(106, .bool (!(SFault.eqb r5.2 r6.2)))] ?_
  refine gn hK23 ?_
  by_cases hc12 : (SFault.eqb r5.2 r6.2) = true
  ·rw [if_pos hc12] at h
   refine wk 106 (!(SFault.eqb r5.2 r6.2)) false (congrArg (fun z => !z) hc12) ?_
   refine we_false (by kernel_rfl) ?_
   have hS36 := hS.bring 2 rfl
   have hS37 := hS36.bring 3 rfl
   have hS38 := hS37.bring 4 rfl
   have hS39 := hS38.takeN 3
   obtain rfl := si h
   exact we_skip fun a hF => hQ _ _ _ (Outs.again ⟨hS39, hF.weaken ea⟩)
  ·rw [if_neg hc12] at h
   refine wk 106 (!(SFault.eqb r5.2 r6.2)) true (congrArg (fun z => !z) (Bool.eq_false_iff.2 hc12)) ?_
   refine we_true (by kernel_rfl) ?_
   refine ws fun K24 hK24 => ?_
   refine wr [(0, 0)] ?_
   refine gb0 [0] [(12, .bool false)] ?_
   refine gn hK24 ?_
   have hS40 := hS.takeN 0
   obtain rfl := si h
   exact we_ret fun a hF => hQ _ _ _ (Outs.out nofun ⟨rfl, (pr0 [.tmp 12] [.bool false] ⟨rfl, hS40⟩) a hF⟩)
 ·rw [if_neg hc11] at h
  refine gk 102 (r5.1 != r6.1) true (bne_iff_ne.2 hc11) ?_
  refine gb0 [4, 5, 6, 7] [(106, .bool true), (105, undef), (104, undef), (103, undef)] ?_
  refine gn hK23 ?_
  refine we_true (by kernel_rfl) ?_
  refine ws fun K25 hK25 => ?_
  refine wr [(0, 0)] ?_
  refine gb0 [0] [(12, .bool false)] ?_
  refine gn hK25 ?_
  have hS41 := hS.takeN 0
  obtain rfl := si h
  exact we_ret fun a hF => hQ _ _ _ (Outs.out nofun ⟨rfl, (pr0 [.tmp 12] [.bool false] ⟨rfl, hS41⟩) a hF⟩)
abbrev WindowsPlay.A3 (w0 : World) (l0 : List STask) (A0 : Option Addr) (c0 : Nat) (x2 : Int) (l3 : List SWindow) (A3 : Option Addr) (c3 : Nat) (l4 : List SJob) (A4 : Option Addr) (c4 : Nat) (x5 : Int) (Z1 : Option Addr) (cz1 : Nat) (Z2 : Option Addr) (cz2 : Nat) (Z3 : Option Addr) (cz3 : Nat) (r7 : SPlayed × SFault) (b4 : Nat) (b5 : Nat) (Z4 : Option Addr) (cz4 : Nat) (Z5 : Option Addr) (cz5 : Nat) : Nat → Act → World → Prop := fun (s : Nat) a w => St w0 w [Own.blk b5 (.cells #[vI r7.2.Code, vI r7.2.At] 39 (0, 0)), Own.blk b4 (.cells #[(.slice Z4 r7.1.Runs.length cz4), (.slice Z5 r7.1.Ends.length cz5)] 36 (0, 0)), Own.of (.slice Z1 (l0 ++ [(⟨⟨#[63]⟩, (-9), 0, 0, 0, 0, 0⟩ : STask), (⟨⟨#[63]⟩, (-9), 0, 0, 0, 0, 0⟩ : STask), (⟨⟨#[63]⟩, (-9), 0, 0, 0, 0, 0⟩ : STask)]).length cz1) 51 (l0 ++ [(⟨⟨#[63]⟩, (-9), 0, 0, 0, 0, 0⟩ : STask), (⟨⟨#[63]⟩, (-9), 0, 0, 0, 0, 0⟩ : STask), (⟨⟨#[63]⟩, (-9), 0, 0, 0, 0, 0⟩ : STask)]), Own.of (.slice Z2 (l3 ++ [(⟨(-9), 0⟩ : SWindow), (⟨(-9), 0⟩ : SWindow), (⟨(-9), 0⟩ : SWindow)]).length cz2) 55 (l3 ++ [(⟨(-9), 0⟩ : SWindow), (⟨(-9), 0⟩ : SWindow), (⟨(-9), 0⟩ : SWindow)]), Own.of (.slice Z3 (l4 ++ [(⟨(-9), 0, 0, 0, 0⟩ : SJob), (⟨(-9), 0, 0, 0, 0⟩ : SJob), (⟨(-9), 0, 0, 0, 0⟩ : SJob)]).length cz3) 58 (l4 ++ [(⟨(-9), 0, 0, 0, 0⟩ : SJob), (⟨(-9), 0, 0, 0, 0⟩ : SJob), (⟨(-9), 0, 0, 0, 0⟩ : SJob)]), Own.of (.slice Z4 r7.1.Runs.length cz4) 3 r7.1.Runs, Own.of (.slice Z5 r7.1.Ends.length cz5) 3 r7.1.Ends] ∧ Frm 157 a [(0, .slice A0 l0.length c0), (2, vI x2), (3, .slice A3 l3.length c3), (4, .slice A4 l4.length c4), (5, vI x5), (15, .slice Z1 l0.length cz1), (16, .slice Z2 l3.length cz2), (17, .slice Z3 l4.length cz3), (22, pP b4 0), (23, pP b5 0), (115, vI (s : Int))]
abbrev WindowsPlay.B3 (w0 : World) (l0 : List STask) (A0 : Option Addr) (c0 : Nat) (l3 : List SWindow) (A3 : Option Addr) (c3 : Nat) (l4 : List SJob) (A4 : Option Addr) (c4 : Nat) (Z1 : Option Addr) (cz1 : Nat) (Z2 : Option Addr) (cz2 : Nat) (Z3 : Option Addr) (cz3 : Nat) : (Unit ⊕ Bool) → Exit → Act → World → Prop := Exits 2 (fun (s : Unit) a w => St w0 w [Own.of (.slice Z1 (l0 ++ [(⟨⟨#[63]⟩, (-9), 0, 0, 0, 0, 0⟩ : STask), (⟨⟨#[63]⟩, (-9), 0, 0, 0, 0, 0⟩ : STask), (⟨⟨#[63]⟩, (-9), 0, 0, 0, 0, 0⟩ : STask)]).length cz1) 51 (l0 ++ [(⟨⟨#[63]⟩, (-9), 0, 0, 0, 0, 0⟩ : STask), (⟨⟨#[63]⟩, (-9), 0, 0, 0, 0, 0⟩ : STask), (⟨⟨#[63]⟩, (-9), 0, 0, 0, 0, 0⟩ : STask)]), Own.of (.slice Z2 (l3 ++ [(⟨(-9), 0⟩ : SWindow), (⟨(-9), 0⟩ : SWindow), (⟨(-9), 0⟩ : SWindow)]).length cz2) 55 (l3 ++ [(⟨(-9), 0⟩ : SWindow), (⟨(-9), 0⟩ : SWindow), (⟨(-9), 0⟩ : SWindow)]), Own.of (.slice Z3 (l4 ++ [(⟨(-9), 0, 0, 0, 0⟩ : SJob), (⟨(-9), 0, 0, 0, 0⟩ : SJob), (⟨(-9), 0, 0, 0, 0⟩ : SJob)]).length cz3) 58 (l4 ++ [(⟨(-9), 0, 0, 0, 0⟩ : SJob), (⟨(-9), 0, 0, 0, 0⟩ : SJob), (⟨(-9), 0, 0, 0, 0⟩ : SJob)])] ∧ Frm 157 a [(0, .slice A0 l0.length c0), (3, .slice A3 l3.length c3), (4, .slice A4 l4.length c4), (15, .slice Z1 l0.length cz1), (16, .slice Z2 l3.length cz2), (17, .slice Z3 l4.length cz3)]) (Rets Tryd.prog Tryd.f4 (WindowsPlay.Post w0))
theorem WindowsPlay_r3 (K : Nat) (w0 : World) (l0 : List STask) (A0 : Option Addr) (c0 : Nat) (x1 : Int) (x2 : Int) (l3 : List SWindow) (A3 : Option Addr) (c3 : Nat) (l4 : List SJob) (A4 : Option Addr) (c4 : Nat) (x5 : Int) (hR0 : RdL w0 A0 l0) (hL0 : l0.length ≤ c0) (hR3 : RdL w0 A3 l3) (hL3 : l3.length ≤ c3) (hR4 : RdL w0 A4 l4) (hL4 : l4.length ≤ c4) (hG2 : Glob w0 2 [.string (⟨#[63]⟩), vI (-9), vI 0, vI 0, vI 0, vI 0, vI 0]) (hG3 : Glob w0 3 [vI (-9), vI 0]) (hG4 : Glob w0 4 [vI (-9), vI 0, vI 0, vI 0, vI 0]) (r1 : Bool) (hc1 : r1 = true) (Z1 : Option Addr) (cz1 : Nat) (hcp1 : (l0 ++ [(⟨⟨#[63]⟩, (-9), 0, 0, 0, 0, 0⟩ : STask), (⟨⟨#[63]⟩, (-9), 0, 0, 0, 0, 0⟩ : STask), (⟨⟨#[63]⟩, (-9), 0, 0, 0, 0, 0⟩ : STask)]).length ≤ cz1) (Z2 : Option Addr) (cz2 : Nat) (hcp2 : (l3 ++ [(⟨(-9), 0⟩ : SWindow), (⟨(-9), 0⟩ : SWindow), (⟨(-9), 0⟩ : SWindow)]).length ≤ cz2) (Z3 : Option Addr) (cz3 : Nat) (hcp3 : (l4 ++ [(⟨(-9), 0, 0, 0, 0⟩ : SJob), (⟨(-9), 0, 0, 0, 0⟩ : SJob), (⟨(-9), 0, 0, 0, 0⟩ : SJob)]).length ≤ cz3) (r5 : Int × SFault) (b2 : Nat) (r6 : Int × SFault) (b3 : Nat) (r7 : SPlayed × SFault) (b4 : Nat) (b5 : Nat) (Z4 : Option Addr) (cz4 : Nat) (Z5 : Option Addr) (cz5 : Nat) (s : Nat) (o : Nat ⊕ (Unit ⊕ Bool)) (h : WindowsPlay.r3 K x2 l3 l4 x5 r7 s = some o) (a : Act) (w : World) (hA : WindowsPlay.A3 w0 l0 A0 c0 x2 l3 A3 c3 l4 A4 c4 x5 Z1 cz1 Z2 cz2 Z3 cz3 r7 b4 b5 Z4 cz4 Z5 cz5 s a w) (Q : Exit → Act → World → Prop) (hQ : ∀ x a w, Outs (WindowsPlay.A3 w0 l0 A0 c0 x2 l3 A3 c3 l4 A4 c4 x5 Z1 cz1 Z2 cz2 Z3 cz3 r7 b4 b5 Z4 cz4 Z5 cz5) (WindowsPlay.B3 w0 l0 A0 c0 l3 A3 c3 l4 A4 c4 Z1 cz1 Z2 cz2 Z3 cz3) o x a w → Q x a w) : (subF Tryd.f4 [1, 1, 1, 1, 1, 1, 1, 1, 1, 0, 1, 0, 0]).wp Tryd.prog Q a w := by
 obtain ⟨i2, hs⟩ : ∃ z, z = s := ⟨s, rfl⟩
 subst hs
 obtain ⟨hS, hF⟩ := hA
 replace hS : St w0 w [Own.blk b5 (.cells #[vI r7.2.Code, vI r7.2.At] 39 (0, 0)), Own.blk b4 (.cells #[(.slice Z4 r7.1.Runs.length cz4), (.slice Z5 r7.1.Ends.length cz5)] 36 (0, 0)), Own.of (.slice Z1 (l0 ++ [(⟨⟨#[63]⟩, (-9), 0, 0, 0, 0, 0⟩ : STask), (⟨⟨#[63]⟩, (-9), 0, 0, 0, 0, 0⟩ : STask), (⟨⟨#[63]⟩, (-9), 0, 0, 0, 0, 0⟩ : STask)]).length cz1) 51 (l0 ++ [(⟨⟨#[63]⟩, (-9), 0, 0, 0, 0, 0⟩ : STask), (⟨⟨#[63]⟩, (-9), 0, 0, 0, 0, 0⟩ : STask), (⟨⟨#[63]⟩, (-9), 0, 0, 0, 0, 0⟩ : STask)]), Own.of (.slice Z2 (l3 ++ [(⟨(-9), 0⟩ : SWindow), (⟨(-9), 0⟩ : SWindow), (⟨(-9), 0⟩ : SWindow)]).length cz2) 55 (l3 ++ [(⟨(-9), 0⟩ : SWindow), (⟨(-9), 0⟩ : SWindow), (⟨(-9), 0⟩ : SWindow)]), Own.of (.slice Z3 (l4 ++ [(⟨(-9), 0, 0, 0, 0⟩ : SJob), (⟨(-9), 0, 0, 0, 0⟩ : SJob), (⟨(-9), 0, 0, 0, 0⟩ : SJob)]).length cz3) 58 (l4 ++ [(⟨(-9), 0, 0, 0, 0⟩ : SJob), (⟨(-9), 0, 0, 0, 0⟩ : SJob), (⟨(-9), 0, 0, 0, 0⟩ : SJob)]), Own.of (.slice Z4 r7.1.Runs.length cz4) 3 r7.1.Runs, Own.of (.slice Z5 r7.1.Ends.length cz5) 3 r7.1.Ends] := hS
 simp only [WindowsPlay.r3] at h
 refine (?_ : WE Tryd.prog 157 (subF Tryd.f4 [1, 1, 1, 1, 1, 1, 1, 1, 1, 0, 1, 0, 0]) Q [(0, .slice A0 l0.length c0), (2, vI x2), (3, .slice A3 l3.length c3), (4, .slice A4 l4.length c4), (5, vI x5), (15, .slice Z1 l0.length cz1), (16, .slice Z2 l3.length cz2), (17, .slice Z3 l4.length cz3), (22, pP b4 0), (23, pP b5 0), (115, vI (i2 : Int))] w) a hF
 clear hF a
 refine ws fun K29 hK29 => ?_
 refine wr [(0, 0)] ?_
 refine gb0 [0] [(116, .bool (decide ((i2 : Int) < 2)))] ?_
 refine gn hK29 ?_
 refine ws fun K30 hK30 => ?_
 by_cases hc13 : (i2 : Int) < 2
 ·rw [if_pos hc13] at h
  refine wk 116 (decide ((i2 : Int) < 2)) true (decide_eq_true hc13) ?_
  refine we_true (by kernel_rfl) ?_
  refine we_skip fun a hF => hK30 _ _ ?_ a hF
  refine ws fun K31 hK31 => ?_
  refine we_block ?_
  refine ws fun K32 hK32 => ?_
  refine wr [(0, 0), (1, 0), (2, 0), (3, 0), (4, 1), (5, 0), (6, 0), (7, 0), (8, 1), (9, 1), (10, 2), (11, 2)] ?_
  rcases hq15 : modes_Hosted.f K l4 x2 l3 x5 with _ | r8
  ·rw [hq15] at h; cases h
  rw [hq15] at h
  simp only [] at h
  refine gb0 [0, 1, 2, 3] [(121, vI x5), (120, .slice Z2 l3.length cz2), (119, vI x2), (118, .slice Z3 l4.length cz3)] ?_
  refine ge_call (d := some 122) (f := 29) (args := #[.slice Z3 l4.length cz3, vI x2, .slice Z2 l3.length cz2, vI x5]) (by kernel_rfl) (modes_Hosted_ok K l4 Z3 cz3 x2 l3 Z2 cz2 x5 _ ((hS.rdAt 4 rfl).pre) (by have h0 := hcp3; simp only [List.length_append, List.length_cons, List.length_nil] at h0; omega) ((hS.rdAt 3 rfl).pre) (by have h0 := hcp2; simp only [List.length_append, List.length_cons, List.length_nil] at h0; omega) _ hq15) ?_
  rintro _ w25 ⟨v3, v4, rfl, hS60⟩
  refine ⟨_, rfl, hS60.below, ?_⟩
  have hS61 := hS.call hS60
  refine gb0 [5, 6, 7] [(124, .agg #[vI r8.2.Code, vI r8.2.At]), (123, .agg #[v3, v4]), (117, .tuple #[.agg #[v3, v4], .agg #[vI r8.2.Code, vI r8.2.At]])] ?_
  refine gw (some 24) (.cells #[.slice none 0 0, .slice none 0 0] 36) (fun b => pP b 0) hS61 fun b6 w26 hx7 hS62 => ?_
  refine gw (some 25) (.cells #[vI 0, vI 0] 39) (fun b => pP b 0) hS62 fun b7 w27 hx8 hS63 => ?_
  obtain ⟨Z6, cz6, rfl⟩ := hS63.open 2 rfl
  obtain ⟨Z7, cz7, rfl⟩ := hS63.open 3 rfl
  have hS64 := hS63.bring 1 rfl
  refine gs b6 0 #[.slice none 0 0, .slice none 0 0] 36 [(.slice Z6 r8.1.Runs.length cz6), (.slice Z7 r8.1.Ends.length cz7)] hS64 fun w28 hS65 => ?_
  have hS66 : St w0 w28 [Own.blk b6 (.cells #[(.slice Z6 r8.1.Runs.length cz6), (.slice Z7 r8.1.Ends.length cz7)] 36 (0, 0)), Own.blk b7 (.cells #[vI 0, vI 0] 39 (0, 0)), Own.of (.slice Z6 r8.1.Runs.length cz6) 3 r8.1.Runs, Own.of (.slice Z7 r8.1.Ends.length cz7) 3 r8.1.Ends, Own.blk b5 (.cells #[vI r7.2.Code, vI r7.2.At] 39 (0, 0)), Own.blk b4 (.cells #[(.slice Z4 r7.1.Runs.length cz4), (.slice Z5 r7.1.Ends.length cz5)] 36 (0, 0)), Own.of (.slice Z1 (l0 ++ [(⟨⟨#[63]⟩, (-9), 0, 0, 0, 0, 0⟩ : STask), (⟨⟨#[63]⟩, (-9), 0, 0, 0, 0, 0⟩ : STask), (⟨⟨#[63]⟩, (-9), 0, 0, 0, 0, 0⟩ : STask)]).length cz1) 51 (l0 ++ [(⟨⟨#[63]⟩, (-9), 0, 0, 0, 0, 0⟩ : STask), (⟨⟨#[63]⟩, (-9), 0, 0, 0, 0, 0⟩ : STask), (⟨⟨#[63]⟩, (-9), 0, 0, 0, 0, 0⟩ : STask)]), Own.of (.slice Z2 (l3 ++ [(⟨(-9), 0⟩ : SWindow), (⟨(-9), 0⟩ : SWindow), (⟨(-9), 0⟩ : SWindow)]).length cz2) 55 (l3 ++ [(⟨(-9), 0⟩ : SWindow), (⟨(-9), 0⟩ : SWindow), (⟨(-9), 0⟩ : SWindow)]), Own.of (.slice Z3 (l4 ++ [(⟨(-9), 0, 0, 0, 0⟩ : SJob), (⟨(-9), 0, 0, 0, 0⟩ : SJob), (⟨(-9), 0, 0, 0, 0⟩ : SJob)]).length cz3) 58 (l4 ++ [(⟨(-9), 0, 0, 0, 0⟩ : SJob), (⟨(-9), 0, 0, 0, 0⟩ : SJob), (⟨(-9), 0, 0, 0, 0⟩ : SJob)]), Own.of (.slice Z4 r7.1.Runs.length cz4) 3 r7.1.Runs, Own.of (.slice Z5 r7.1.Ends.length cz5) 3 r7.1.Ends] := hS65
  have hS67 := hS66.bring 1 rfl
  refine gs b7 0 #[vI 0, vI 0] 39 [vI r8.2.Code, vI r8.2.At] hS67 fun w29 hS68 => ?_
  have hS69 : St w0 w29 [Own.blk b7 (.cells #[vI r8.2.Code, vI r8.2.At] 39 (0, 0)), Own.blk b6 (.cells #[(.slice Z6 r8.1.Runs.length cz6), (.slice Z7 r8.1.Ends.length cz7)] 36 (0, 0)), Own.of (.slice Z6 r8.1.Runs.length cz6) 3 r8.1.Runs, Own.of (.slice Z7 r8.1.Ends.length cz7) 3 r8.1.Ends, Own.blk b5 (.cells #[vI r7.2.Code, vI r7.2.At] 39 (0, 0)), Own.blk b4 (.cells #[(.slice Z4 r7.1.Runs.length cz4), (.slice Z5 r7.1.Ends.length cz5)] 36 (0, 0)), Own.of (.slice Z1 (l0 ++ [(⟨⟨#[63]⟩, (-9), 0, 0, 0, 0, 0⟩ : STask), (⟨⟨#[63]⟩, (-9), 0, 0, 0, 0, 0⟩ : STask), (⟨⟨#[63]⟩, (-9), 0, 0, 0, 0, 0⟩ : STask)]).length cz1) 51 (l0 ++ [(⟨⟨#[63]⟩, (-9), 0, 0, 0, 0, 0⟩ : STask), (⟨⟨#[63]⟩, (-9), 0, 0, 0, 0, 0⟩ : STask), (⟨⟨#[63]⟩, (-9), 0, 0, 0, 0, 0⟩ : STask)]), Own.of (.slice Z2 (l3 ++ [(⟨(-9), 0⟩ : SWindow), (⟨(-9), 0⟩ : SWindow), (⟨(-9), 0⟩ : SWindow)]).length cz2) 55 (l3 ++ [(⟨(-9), 0⟩ : SWindow), (⟨(-9), 0⟩ : SWindow), (⟨(-9), 0⟩ : SWindow)]), Own.of (.slice Z3 (l4 ++ [(⟨(-9), 0, 0, 0, 0⟩ : SJob), (⟨(-9), 0, 0, 0, 0⟩ : SJob), (⟨(-9), 0, 0, 0, 0⟩ : SJob)]).length cz3) 58 (l4 ++ [(⟨(-9), 0, 0, 0, 0⟩ : SJob), (⟨(-9), 0, 0, 0, 0⟩ : SJob), (⟨(-9), 0, 0, 0, 0⟩ : SJob)]), Own.of (.slice Z4 r7.1.Runs.length cz4) 3 r7.1.Runs, Own.of (.slice Z5 r7.1.Ends.length cz5) 3 r7.1.Ends] := hS68
  refine gn hK32 ?_
  refine ws fun K33 hK33 => ?_
  refine ws fun K34 hK34 => ?_
  refine wr [(0, 0), (1, 0), (2, 0), (3, 0), (4, 0), (5, 0), (6, 1), (7, 0), (8, 0)] ?_
  refine gb [0, 1] [(126, .agg #[vI r7.2.Code, vI r7.2.At]), (125, .agg #[vI r8.2.Code, vI r8.2.At])] [.loaded ⟨b7, 0, none⟩ (vI r8.2.Code), .loaded ⟨b7, 1, none⟩ (vI r8.2.At), .loaded ⟨b5, 0, none⟩ (vI r7.2.Code), .loaded ⟨b5, 1, none⟩ (vI r7.2.At)] ⟨hS69.c 0, hS69.c 0, hS69.c 4, hS69.c 4, trivial⟩ ?_
  refine ge_eqs (d := 127) (ty := 4) (op := .neq) (x := (.tmp 125)) (y := (.tmp 126)) (t := 39) (t2 := 39) (xs := #[vI r8.2.Code, vI r8.2.At]) (ys := #[vI r7.2.Code, vI r7.2.At]) (r := (SFault.eqb r8.2 r7.2)) (v := !(SFault.eqb r8.2 r7.2)) (by kernel_rfl) (by kernel_rfl) (by kernel_rfl) (by kernel_rfl) (by kernel_rfl) rfl ?_
  refine gb0 [3] [(128, .bool (!(SFault.eqb r8.2 r7.2)))] ?_
  by_cases hc14 : (SFault.eqb r8.2 r7.2) = true
  ·rw [if_pos hc14] at h
   refine gk 128 (!(SFault.eqb r8.2 r7.2)) false (congrArg (fun z => !z) hc14) ?_
   rcases hq16 : punctualsame_Played.f K r8.1.Runs r8.1.Ends r7.1.Runs r7.1.Ends with _ | r9
   ·rw [hq16] at h; cases h
   rw [hq16] at h
   simp only [] at h
   refine gb [4, 5] [(130, .agg #[(.slice Z4 r7.1.Runs.length cz4), (.slice Z5 r7.1.Ends.length cz5)]), (129, .agg #[(.slice Z6 r8.1.Runs.length cz6), (.slice Z7 r8.1.Ends.length cz7)])] [.loaded ⟨b6, 0, none⟩ ((.slice Z6 r8.1.Runs.length cz6)), .loaded ⟨b6, 1, none⟩ ((.slice Z7 r8.1.Ends.length cz7)), .loaded ⟨b4, 0, none⟩ ((.slice Z4 r7.1.Runs.length cz4)), .loaded ⟨b4, 1, none⟩ ((.slice Z5 r7.1.Ends.length cz5))] ⟨hS69.c 1, hS69.c 1, hS69.c 5, hS69.c 5, trivial⟩ ?_
   refine ge_call (d := some 131) (f := 18) (args := #[.agg #[(.slice Z6 r8.1.Runs.length cz6), (.slice Z7 r8.1.Ends.length cz7)], .agg #[(.slice Z4 r7.1.Runs.length cz4), (.slice Z5 r7.1.Ends.length cz5)]]) (by kernel_rfl) (punctualsame_Played_ok K r8.1.Runs Z6 cz6 r8.1.Ends Z7 cz7 r7.1.Runs Z4 cz4 r7.1.Ends Z5 cz5 _ (hS69.rdAt 2 rfl) (hS69.capAt 2 rfl) (hS69.rdAt 3 rfl) (hS69.capAt 3 rfl) (hS69.rdAt 9 rfl) (hS69.capAt 9 rfl) (hS69.rdAt 10 rfl) (hS69.capAt 10 rfl) _ hq16) ?_
   rintro _ w30 ⟨rfl, hS70⟩
   refine ⟨_, rfl, hS70.below, ?_⟩
   have hS71 := hS69.call hS70
   refine gb0 [7, 8] [(133, .bool (!r9)), (132, .bool (!r9))] ?_
   refine gn hK34 ?_
   by_cases hc15 : r9 = true
   ·rw [if_pos hc15] at h
    refine wk 133 (!r9) false (congrArg (fun z => !z) hc15) ?_
    refine we_false (by kernel_rfl) ?_
    refine we_skip fun a hF => hK33 _ _ ?_ a hF
    refine ws fun K35 hK35 => ?_
    refine wr [(0, 0), (1, 0), (2, 2)] ?_
    refine gb [0, 1] [(135, (.slice Z6 r8.1.Runs.length cz6)), (134, pP b6 0)] [.loaded ⟨b6, 0, none⟩ ((.slice Z6 r8.1.Runs.length cz6))] ⟨hS71.c 1, trivial⟩ ?_
    have hS72 := hS71.bring 2 rfl
    refine ge_call2 (m := 0) (d := some 136) (f := 30) (args := #[.slice Z6 r8.1.Runs.length cz6]) (by kernel_rfl) (punctualsame_Spoil_int_ok _ _ Z6 r8.1.Runs.length cz6 _ hS72) ?_
    rintro _ w31 ⟨rfl, hS73⟩
    refine ⟨_, rfl, ?_⟩
    refine gn hK35 ?_
    refine wr [(0, 0), (1, 0), (2, 2)] ?_
    refine gb [0, 1] [(138, (.slice Z7 r8.1.Ends.length cz7)), (137, pP b6 1)] [.loaded ⟨b6, 1, none⟩ ((.slice Z7 r8.1.Ends.length cz7))] ⟨hS73.c 1, trivial⟩ ?_
    have hS74 := hS73.bring 2 rfl
    refine ge_call2 (m := 0) (d := some 139) (f := 30) (args := #[.slice Z7 r8.1.Ends.length cz7]) (by kernel_rfl) (punctualsame_Spoil_int_ok _ _ Z7 r8.1.Ends.length cz7 _ hS74) ?_
    rintro _ w32 ⟨rfl, hS75⟩
    refine ⟨_, rfl, ?_⟩
    refine gn hK31 ?_
    refine wr [(0, 0), (1, 0)] ?_
    refine ge_addn (d := 140) (ty := 3) (x := (.tmp 115)) (y := (.const (vI 1))) (t := 3) (t2 := 3) (k := .i64) (m := i2) (by kernel_rfl) (by kernel_rfl) (by kernel_rfl) (by omega) ?_
    refine gb0 [1] [(115, vI ((i2 + 1 : Nat) : Int))] ?_
    have hS76 := hS75.bring 8 rfl
    have hS77 := hS76.bring 8 rfl
    have hS78 := hS77.bring 8 rfl
    have hS79 := hS78.bring 8 rfl
    have hS80 := hS79.bring 8 rfl
    have hS81 := hS80.bring 8 rfl
    have hS82 := hS81.bring 8 rfl
    have hS83 := hS82.takeN 7
    obtain rfl := si h
    exact ge_nil fun a hF => hQ _ _ _ (Outs.again ⟨hS83, hF.weaken ea⟩)
   ·rw [if_neg hc15] at h
    refine wk 133 (!r9) true (congrArg (fun z => !z) (Bool.eq_false_iff.2 hc15)) ?_
    refine we_true (by kernel_rfl) ?_
    refine ws fun K36 hK36 => ?_
    refine wr [(0, 0)] ?_
    refine gb0 [0] [(12, .bool false)] ?_
    refine gn hK36 ?_
    have hS84 := hS71.takeN 0
    obtain rfl := si h
    exact we_ret fun a hF => hQ _ _ _ (Outs.out nofun (Exits.on ⟨rfl, (pr0 [.tmp 12] [.bool false] ⟨rfl, hS84⟩) a hF⟩))
  ·rw [if_neg hc14] at h
   refine gk 128 (!(SFault.eqb r8.2 r7.2)) true (congrArg (fun z => !z) (Bool.eq_false_iff.2 hc14)) ?_
   refine gb0 [4, 5] [(130, undef), (129, undef)] ?_
   refine ge_off rfl rfl rfl (by kernel_rfl) ?_
   refine gb0 [7, 8] [(133, .bool true), (132, undef)] ?_
   refine gn hK34 ?_
   refine we_true (by kernel_rfl) ?_
   refine ws fun K37 hK37 => ?_
   refine wr [(0, 0)] ?_
   refine gb0 [0] [(12, .bool false)] ?_
   refine gn hK37 ?_
   have hS85 := hS69.takeN 0
   obtain rfl := si h
   exact we_ret fun a hF => hQ _ _ _ (Outs.out nofun (Exits.on ⟨rfl, (pr0 [.tmp 12] [.bool false] ⟨rfl, hS85⟩) a hF⟩))
 ·rw [if_neg hc13] at h
  refine wk 116 (decide ((i2 : Int) < 2)) false (decide_eq_false hc13) ?_
  refine we_false (by kernel_rfl) ?_
  have hS86 := hS.bring 4 rfl
  have hS87 := hS86.bring 4 rfl
  have hS88 := hS87.bring 4 rfl
  have hS89 := hS88.takeN 3
  obtain rfl := si h
  exact we_exit fun a hF => hQ _ _ _ (Outs.out nofun (Exits.here ⟨hS89, hF.weaken ea⟩))
theorem WindowsPlay_ok (K : Nat) (l0 : List STask) (A0 : Option Addr) (c0 : Nat) (x1 : Int) (x2 : Int) (l3 : List SWindow) (A3 : Option Addr) (c3 : Nat) (l4 : List SJob) (A4 : Option Addr) (c4 : Nat) (x5 : Int) (w0 : World) (hR0 : RdL w0 A0 l0) (hL0 : l0.length ≤ c0) (hR3 : RdL w0 A3 l3) (hL3 : l3.length ≤ c3) (hR4 : RdL w0 A4 l4) (hL4 : l4.length ≤ c4) (hG2 : Glob w0 2 [.string (⟨#[63]⟩), vI (-9), vI 0, vI 0, vI 0, vI 0, vI 0]) (hG3 : Glob w0 3 [vI (-9), vI 0]) (hG4 : Glob w0 4 [vI (-9), vI 0, vI 0, vI 0, vI 0]) (r : Bool) (h : WindowsPlay.f K l0 x1 x2 l3 l4 x5 = some r) :
  Calls Tryd.prog 4 #[.slice A0 l0.length c0, vI x1, vI x2, .slice A3 l3.length c3, .slice A4 l4.length c4, vI x5] w0 (WindowsPlay.Post w0 r) := by
 have hS := St.start w0
 unfold WindowsPlay.f at h
 refine calls_enter (n := 157) (args := [.slice A0 l0.length c0, vI x1, vI x2, .slice A3 l3.length c3, .slice A4 l4.length c4, vI x5]) (fn := Tryd.f4) rfl rfl rfl rfl ?_
 show WE _ _ _ _ [(0, .slice A0 l0.length c0), (1, vI x1), (2, vI x2), (3, .slice A3 l3.length c3), (4, .slice A4 l4.length c4), (5, vI x5)] _
 refine ws fun K1 hK1 => ?_
 refine wr [(0, 0)] ?_
 refine gb0 [0] [(12, .bool false)] ?_
 refine gn hK1 ?_
 refine ws fun K2 hK2 => ?_
 refine ws fun K3 hK3 => ?_
 refine wr [(0, 1), (1, 0)] ?_
 rcases hq1 : opens.f K with _ | r1
 ·rw [hq1] at h; cases h
 rw [hq1] at h
 simp only [] at h
 refine ge_call (d := some 26) (f := 22) (args := #[]) (by kernel_rfl) (opens_ok K _ _ hq1) ?_
 rintro _ w1 ⟨rfl, hS1⟩
 refine ⟨_, rfl, hS1.below, ?_⟩
 have hS2 := hS.call hS1
 refine gb0 [1] [(27, .bool (!r1))] ?_
 refine gn hK3 ?_
 by_cases hc1 : r1 = true
 ·rw [if_pos hc1] at h
  refine wk 27 (!r1) false (congrArg (fun z => !z) hc1) ?_
  refine we_false (by kernel_rfl) ?_
  refine we_skip fun a hF => hK2 _ _ ?_ a hF
  refine ws fun K4 hK4 => ?_
  rcases hq6 : WindowsPlay.p0 l0 x2 l3 l4 x5 with _ | (_ | rr4)
  ·rw [hq6] at h; cases h
  ·rw [hq6] at h
   simp only [] at h
   refine we_keep (e' := [(0, .slice A0 l0.length c0), (1, vI x1), (2, vI x2), (3, .slice A3 l3.length c3), (4, .slice A4 l4.length c4), (5, vI x5), (12, .bool false), (26, .bool r1), (27, .bool false)]) ea (WindowsPlay_p0 K w0 l0 A0 c0 x1 x2 l3 A3 c3 l4 A4 c4 x5 hR0 hL0 hR3 hL3 hR4 hL4 hG2 hG3 hG4 r1 hc1 _ hq6 _ hS2 _ ?_)
   rintro _ a w6 ⟨rfl, hS11, hF⟩
   replace hS11 : St w0 w6 [] := hS11
   refine hK4 [(0, .slice A0 l0.length c0), (1, vI x1), (2, vI x2), (3, .slice A3 l3.length c3), (4, .slice A4 l4.length c4), (5, vI x5)] w6 ?_ a hF
   refine ws fun K11 hK11 => ?_
   refine ws fun K12 hK12 => ?_
   refine wr [(0, 0), (1, 0), (2, 0)] ?_
   refine gb0 [0, 1, 2] [(61, vI 0), (60, vI (l0.length : Int)), (59, .slice A0 l0.length c0)] ?_
   refine gn hK12 ?_
   refine we_block ?_
   rcases hq7 : iter (WindowsPlay.r1 l0) K 0 with _ | (_ | rr3)
   ·rw [hq7] at h; cases h
   ·rw [hq7] at h
    simp only [] at h
    refine we_iter (A := WindowsPlay.A1 w0 l0 A0 c0 x1 x2 l3 A3 c3 l4 A4 c4 x5) (B := WindowsPlay.B1 w0 l0 A0 c0 x1 x2 l3 A3 c3 l4 A4 c4 x5) hq7 (fun a hF => ⟨hS11, hF.weaken ea⟩) (fun s o hf a w hA Q hQ => WindowsPlay_r1 K w0 l0 A0 c0 x1 x2 l3 A3 c3 l4 A4 c4 x5 hR0 hL0 hR3 hL3 hR4 hL4 hG2 hG3 hG4 r1 hc1 s o hf a w hA Q hQ) ?_
    rintro _ a w9 _ ⟨rfl, hS18, hF⟩
    replace hS18 : St w0 w9 [] := hS18
    refine hK11 [(0, .slice A0 l0.length c0), (1, vI x1), (2, vI x2), (3, .slice A3 l3.length c3), (4, .slice A4 l4.length c4), (5, vI x5)] w9 ?_ a hF
    refine ws fun K19 hK19 => ?_
    refine we_draws (by kernel_rfl) [(0, 0), (1, 0), (3, 0), (4, 0), (6, 0), (7, 0), (2, 1), (5, 1), (8, 1), (9, 0), (10, 0), (11, 0)] (by kernel_rfl) ?_
    have hS19 := hS18.drew
    refine gb [0, 1, 3, 4, 6, 7] [(81, .agg #[vI (-9), vI 0, vI 0, vI 0, vI 0]), (80, .slice A4 l4.length c4), (78, .agg #[vI (-9), vI 0]), (77, .slice A3 l3.length c3), (75, .agg #[.string (⟨#[63]⟩), vI (-9), vI 0, vI 0, vI 0, vI 0, vI 0]), (74, .slice A0 l0.length c0)] [.loaded ⟨2, 0, none⟩ (.string (⟨#[63]⟩)), .loaded ⟨2, 1, none⟩ (vI (-9)), .loaded ⟨2, 2, none⟩ (vI 0), .loaded ⟨2, 3, none⟩ (vI 0), .loaded ⟨2, 4, none⟩ (vI 0), .loaded ⟨2, 5, none⟩ (vI 0), .loaded ⟨2, 6, none⟩ (vI 0), .loaded ⟨3, 0, none⟩ (vI (-9)), .loaded ⟨3, 1, none⟩ (vI 0), .loaded ⟨4, 0, none⟩ (vI (-9)), .loaded ⟨4, 1, none⟩ (vI 0), .loaded ⟨4, 2, none⟩ (vI 0), .loaded ⟨4, 3, none⟩ (vI 0), .loaded ⟨4, 4, none⟩ (vI 0)] ⟨hS19.glob hG2 rfl, hS19.glob hG2 rfl, hS19.glob hG2 rfl, hS19.glob hG2 rfl, hS19.glob hG2 rfl, hS19.glob hG2 rfl, hS19.glob hG2 rfl, hS19.glob hG3 rfl, hS19.glob hG3 rfl, hS19.glob hG4 rfl, hS19.glob hG4 rfl, hS19.glob hG4 rfl, hS19.glob hG4 rfl, hS19.glob hG4 rfl, trivial⟩ ?_
    rcases hq8 : punctualsame_Lend_api_Task.f l0 (⟨⟨#[63]⟩, (-9), 0, 0, 0, 0, 0⟩ : STask) with _ | r2
    ·rw [hq8] at h; cases h
    rw [hq8] at h
    simp only [] at h
    obtain rfl := punctualsame_Lend_api_Task_full _ _ hq8
    refine ge_call (d := some 76) (f := 23) (args := #[.slice A0 l0.length c0, .agg #[.string (⟨#[63]⟩), vI (-9), vI 0, vI 0, vI 0, vI 0, vI 0]]) (by kernel_rfl) (punctualsame_Lend_api_Task_ok l0 A0 c0 (⟨⟨#[63]⟩, (-9), 0, 0, 0, 0, 0⟩ : STask) _ (hS19.rd hR0) hL0 _ hq8) ?_
    rintro _ w10 ⟨Z1, cz1, rfl, hcp1, hS20⟩
    refine ⟨_, rfl, hS20.below, ?_⟩
    have hS21 := hS19.call hS20
    rcases hq9 : punctualsame_Lend_api_Window.f l3 (⟨(-9), 0⟩ : SWindow) with _ | r3
    ·rw [hq9] at h; cases h
    rw [hq9] at h
    simp only [] at h
    obtain rfl := punctualsame_Lend_api_Window_full _ _ hq9
    refine ge_call (d := some 79) (f := 24) (args := #[.slice A3 l3.length c3, .agg #[vI (-9), vI 0]]) (by kernel_rfl) (punctualsame_Lend_api_Window_ok l3 A3 c3 (⟨(-9), 0⟩ : SWindow) _ (hS21.rd hR3) hL3 _ hq9) ?_
    rintro _ w11 ⟨Z2, cz2, rfl, hcp2, hS22⟩
    refine ⟨_, rfl, hS22.below, ?_⟩
    have hS23 := hS21.call hS22
    rcases hq10 : punctualsame_Lend_api_Job.f l4 (⟨(-9), 0, 0, 0, 0⟩ : SJob) with _ | r4
    ·rw [hq10] at h; cases h
    rw [hq10] at h
    simp only [] at h
    obtain rfl := punctualsame_Lend_api_Job_full _ _ hq10
    refine ge_call (d := some 82) (f := 25) (args := #[.slice A4 l4.length c4, .agg #[vI (-9), vI 0, vI 0, vI 0, vI 0]]) (by kernel_rfl) (punctualsame_Lend_api_Job_ok l4 A4 c4 (⟨(-9), 0, 0, 0, 0⟩ : SJob) _ (hS23.rd hR4) hL4 _ hq10) ?_
    rintro _ w12 ⟨Z3, cz3, rfl, hcp3, hS24⟩
    refine ⟨_, rfl, hS24.below, ?_⟩
    have hS25 := hS23.call hS24
    refine gb0 [9, 10, 11] [(17, .slice Z3 l4.length cz3), (16, .slice Z2 l3.length cz2), (15, .slice Z1 l0.length cz1)] ?_
    refine gn hK19 ?_
    refine ws fun K20 hK20 => ?_
    refine wr [(0, 0), (1, 0), (2, 0), (3, 0), (4, 1), (5, 0), (6, 0), (7, 0), (8, 1), (9, 0), (10, 2)] ?_
    rcases hq11 : modes_Within.f K l0 x1 x2 l3 with _ | r5
    ·rw [hq11] at h; cases h
    rw [hq11] at h
    simp only [] at h
    refine gb0 [0, 1, 2, 3] [(87, .slice Z2 l3.length cz2), (86, vI x2), (85, vI x1), (84, .slice Z1 l0.length cz1)] ?_
    refine ge_call (d := some 88) (f := 26) (args := #[.slice Z1 l0.length cz1, vI x1, vI x2, .slice Z2 l3.length cz2]) (by kernel_rfl) (modes_Within_ok K l0 Z1 cz1 x1 x2 l3 Z2 cz2 _ ((hS25.rdAt 2 rfl).pre) (by have h0 := hcp1; simp only [List.length_append, List.length_cons, List.length_nil] at h0; omega) ((hS25.rdAt 1 rfl).pre) (by have h0 := hcp2; simp only [List.length_append, List.length_cons, List.length_nil] at h0; omega) _ hq11) ?_
    rintro _ w13 ⟨rfl, hS26⟩
    refine ⟨_, rfl, hS26.below, ?_⟩
    have hS27 := hS25.call hS26
    refine gb0 [5, 6, 7] [(90, .agg #[vI r5.2.Code, vI r5.2.At]), (89, vI r5.1), (83, .tuple #[vI r5.1, .agg #[vI r5.2.Code, vI r5.2.At]])] ?_
    refine gw (some 19) (.cells #[vI 0, vI 0] 39) (fun b => pP b 0) hS27 fun b2 w14 hx3 hS28 => ?_
    refine gb0 [9] [(18, vI r5.1)] ?_
    refine gs b2 0 #[vI 0, vI 0] 39 [vI r5.2.Code, vI r5.2.At] hS28 fun w15 hS29 => ?_
    have hS30 : St w0 w15 [Own.blk b2 (.cells #[vI r5.2.Code, vI r5.2.At] 39 (0, 0)), Own.of (.slice Z3 (l4 ++ [(⟨(-9), 0, 0, 0, 0⟩ : SJob), (⟨(-9), 0, 0, 0, 0⟩ : SJob), (⟨(-9), 0, 0, 0, 0⟩ : SJob)]).length cz3) 58 (l4 ++ [(⟨(-9), 0, 0, 0, 0⟩ : SJob), (⟨(-9), 0, 0, 0, 0⟩ : SJob), (⟨(-9), 0, 0, 0, 0⟩ : SJob)]), Own.of (.slice Z2 (l3 ++ [(⟨(-9), 0⟩ : SWindow), (⟨(-9), 0⟩ : SWindow), (⟨(-9), 0⟩ : SWindow)]).length cz2) 55 (l3 ++ [(⟨(-9), 0⟩ : SWindow), (⟨(-9), 0⟩ : SWindow), (⟨(-9), 0⟩ : SWindow)]), Own.of (.slice Z1 (l0 ++ [(⟨⟨#[63]⟩, (-9), 0, 0, 0, 0, 0⟩ : STask), (⟨⟨#[63]⟩, (-9), 0, 0, 0, 0, 0⟩ : STask), (⟨⟨#[63]⟩, (-9), 0, 0, 0, 0, 0⟩ : STask)]).length cz1) 51 (l0 ++ [(⟨⟨#[63]⟩, (-9), 0, 0, 0, 0, 0⟩ : STask), (⟨⟨#[63]⟩, (-9), 0, 0, 0, 0, 0⟩ : STask), (⟨⟨#[63]⟩, (-9), 0, 0, 0, 0, 0⟩ : STask)])] := hS29
    refine gn hK20 ?_
    refine ws fun K21 hK21 => ?_
    refine wr [(0, 0), (1, 0), (2, 0), (3, 0), (4, 1), (5, 0), (6, 0), (7, 0), (8, 1), (9, 0), (10, 2)] ?_
    rcases hq12 : punctualref_WithinOf.f K l0 x1 x2 l3 with _ | r6
    ·rw [hq12] at h; cases h
    rw [hq12] at h
    simp only [] at h
    refine gb0 [0, 1, 2, 3] [(95, .slice A3 l3.length c3), (94, vI x2), (93, vI x1), (92, .slice A0 l0.length c0)] ?_
    refine ge_call (d := some 96) (f := 27) (args := #[.slice A0 l0.length c0, vI x1, vI x2, .slice A3 l3.length c3]) (by kernel_rfl) (punctualref_WithinOf_ok K l0 A0 c0 x1 x2 l3 A3 c3 _ (hS30.rd hR0) hL0 (hS30.rd hR3) hL3 _ hq12) ?_
    rintro _ w16 ⟨rfl, hS31⟩
    refine ⟨_, rfl, hS31.below, ?_⟩
    have hS32 := hS30.call hS31
    refine gb0 [5, 6, 7] [(98, .agg #[vI r6.2.Code, vI r6.2.At]), (97, vI r6.1), (91, .tuple #[vI r6.1, .agg #[vI r6.2.Code, vI r6.2.At]])] ?_
    refine gw (some 21) (.cells #[vI 0, vI 0] 39) (fun b => pP b 0) hS32 fun b3 w17 hx4 hS33 => ?_
    refine gb0 [9] [(20, vI r6.1)] ?_
    refine gs b3 0 #[vI 0, vI 0] 39 [vI r6.2.Code, vI r6.2.At] hS33 fun w18 hS34 => ?_
    have hS35 : St w0 w18 [Own.blk b3 (.cells #[vI r6.2.Code, vI r6.2.At] 39 (0, 0)), Own.blk b2 (.cells #[vI r5.2.Code, vI r5.2.At] 39 (0, 0)), Own.of (.slice Z3 (l4 ++ [(⟨(-9), 0, 0, 0, 0⟩ : SJob), (⟨(-9), 0, 0, 0, 0⟩ : SJob), (⟨(-9), 0, 0, 0, 0⟩ : SJob)]).length cz3) 58 (l4 ++ [(⟨(-9), 0, 0, 0, 0⟩ : SJob), (⟨(-9), 0, 0, 0, 0⟩ : SJob), (⟨(-9), 0, 0, 0, 0⟩ : SJob)]), Own.of (.slice Z2 (l3 ++ [(⟨(-9), 0⟩ : SWindow), (⟨(-9), 0⟩ : SWindow), (⟨(-9), 0⟩ : SWindow)]).length cz2) 55 (l3 ++ [(⟨(-9), 0⟩ : SWindow), (⟨(-9), 0⟩ : SWindow), (⟨(-9), 0⟩ : SWindow)]), Own.of (.slice Z1 (l0 ++ [(⟨⟨#[63]⟩, (-9), 0, 0, 0, 0, 0⟩ : STask), (⟨⟨#[63]⟩, (-9), 0, 0, 0, 0, 0⟩ : STask), (⟨⟨#[63]⟩, (-9), 0, 0, 0, 0, 0⟩ : STask)]).length cz1) 51 (l0 ++ [(⟨⟨#[63]⟩, (-9), 0, 0, 0, 0, 0⟩ : STask), (⟨⟨#[63]⟩, (-9), 0, 0, 0, 0, 0⟩ : STask), (⟨⟨#[63]⟩, (-9), 0, 0, 0, 0, 0⟩ : STask)])] := hS34
    refine gn hK21 ?_
    refine ws fun K22 hK22 => ?_
    rcases hq13 : WindowsPlay.p2 r5 r6 with _ | (_ | rr2)
    ·rw [hq13] at h; cases h
    ·rw [hq13] at h
     simp only [] at h
     refine we_keep (e' := ((0, .slice A0 l0.length c0) :: (1, vI x1) :: (2, vI x2) :: (3, .slice A3 l3.length c3) :: (4, .slice A4 l4.length c4) :: (5, vI x5) :: (15, .slice Z1 l0.length cz1) :: (16, .slice Z2 l3.length cz2) :: (17, .slice Z3 l4.length cz3) :: (18, vI r5.1) :: (19, pP b2 0) :: (20, vI r6.1) :: (21, pP b3 0) :: (74, .slice A0 l0.length c0) :: (75, .agg #[.string (⟨#[63]⟩), vI (-9), vI 0, vI 0, vI 0, vI 0, vI 0]) :: (76, .slice Z1 l0.length cz1) :: (77, .slice A3 l3.length c3) :: (78, .agg #[vI (-9), vI 0]) :: (79, .slice Z2 l3.length cz2) :: (80, .slice A4 l4.length c4) :: (81, .agg #[vI (-9), vI 0, vI 0, vI 0, vI 0]) :: (82, .slice Z3 l4.length cz3) :: (83, .tuple #[vI r5.1, .agg #[vI r5.2.Code, vI r5.2.At]]) :: (84, .slice Z1 l0.length cz1) :: (85, vI x1) :: (86, vI x2) :: (87, .slice Z2 l3.length cz2) :: (88, .tuple #[vI r5.1, .agg #[vI r5.2.Code, vI r5.2.At]]) :: (89, vI r5.1) :: (90, .agg #[vI r5.2.Code, vI r5.2.At]) :: (91, .tuple #[vI r6.1, .agg #[vI r6.2.Code, vI r6.2.At]]) :: (92, .slice A0 l0.length c0) :: (93, vI x1) :: (94, vI x2) :: (95, .slice A3 l3.length c3) :: (96, .tuple #[vI r6.1, .agg #[vI r6.2.Code, vI r6.2.At]]) :: (97, vI r6.1) :: (98, .agg #[vI r6.2.Code, vI r6.2.At]) :: [])) ea (WindowsPlay_p2 K w0 l0 A0 c0 x1 x2 l3 A3 c3 l4 A4 c4 x5 hR0 hL0 hR3 hL3 hR4 hL4 hG2 hG3 hG4 r1 hc1 Z1 cz1 hcp1 Z2 cz2 hcp2 Z3 cz3 hcp3 r5 b2 r6 b3 _ hq13 _ hS35 _ ?_)
     rintro _ a w19 ⟨rfl, hS42, hF⟩
     replace hS42 : St w0 w19 [Own.of (.slice Z1 (l0 ++ [(⟨⟨#[63]⟩, (-9), 0, 0, 0, 0, 0⟩ : STask), (⟨⟨#[63]⟩, (-9), 0, 0, 0, 0, 0⟩ : STask), (⟨⟨#[63]⟩, (-9), 0, 0, 0, 0, 0⟩ : STask)]).length cz1) 51 (l0 ++ [(⟨⟨#[63]⟩, (-9), 0, 0, 0, 0, 0⟩ : STask), (⟨⟨#[63]⟩, (-9), 0, 0, 0, 0, 0⟩ : STask), (⟨⟨#[63]⟩, (-9), 0, 0, 0, 0, 0⟩ : STask)]), Own.of (.slice Z2 (l3 ++ [(⟨(-9), 0⟩ : SWindow), (⟨(-9), 0⟩ : SWindow), (⟨(-9), 0⟩ : SWindow)]).length cz2) 55 (l3 ++ [(⟨(-9), 0⟩ : SWindow), (⟨(-9), 0⟩ : SWindow), (⟨(-9), 0⟩ : SWindow)]), Own.of (.slice Z3 (l4 ++ [(⟨(-9), 0, 0, 0, 0⟩ : SJob), (⟨(-9), 0, 0, 0, 0⟩ : SJob), (⟨(-9), 0, 0, 0, 0⟩ : SJob)]).length cz3) 58 (l4 ++ [(⟨(-9), 0, 0, 0, 0⟩ : SJob), (⟨(-9), 0, 0, 0, 0⟩ : SJob), (⟨(-9), 0, 0, 0, 0⟩ : SJob)])] := hS42
     refine hK22 [(0, .slice A0 l0.length c0), (2, vI x2), (3, .slice A3 l3.length c3), (4, .slice A4 l4.length c4), (5, vI x5), (15, .slice Z1 l0.length cz1), (16, .slice Z2 l3.length cz2), (17, .slice Z3 l4.length cz3)] w19 ?_ a hF
     refine ws fun K26 hK26 => ?_
     refine wr [(0, 0), (1, 0), (2, 0), (3, 0), (4, 1), (5, 0), (6, 0), (7, 0), (8, 1), (9, 1), (10, 2), (11, 2)] ?_
     rcases hq14 : punctualref_HostedOf.f K l4 x2 l3 x5 with _ | r7
     ·rw [hq14] at h; cases h
     rw [hq14] at h
     simp only [] at h
     refine gb0 [0, 1, 2, 3] [(111, vI x5), (110, .slice A3 l3.length c3), (109, vI x2), (108, .slice A4 l4.length c4)] ?_
     refine ge_call (d := some 112) (f := 28) (args := #[.slice A4 l4.length c4, vI x2, .slice A3 l3.length c3, vI x5]) (by kernel_rfl) (punctualref_HostedOf_ok K l4 A4 c4 x2 l3 A3 c3 x5 _ (hS42.rd hR4) hL4 (hS42.rd hR3) hL3 _ hq14) ?_
     rintro _ w20 ⟨v1, v2, rfl, hS43⟩
     refine ⟨_, rfl, hS43.below, ?_⟩
     have hS44 := hS42.call hS43
     refine gb0 [5, 6, 7] [(114, .agg #[vI r7.2.Code, vI r7.2.At]), (113, .agg #[v1, v2]), (107, .tuple #[.agg #[v1, v2], .agg #[vI r7.2.Code, vI r7.2.At]])] ?_
     refine gw (some 22) (.cells #[.slice none 0 0, .slice none 0 0] 36) (fun b => pP b 0) hS44 fun b4 w21 hx5 hS45 => ?_
     refine gw (some 23) (.cells #[vI 0, vI 0] 39) (fun b => pP b 0) hS45 fun b5 w22 hx6 hS46 => ?_
     obtain ⟨Z4, cz4, rfl⟩ := hS46.open 2 rfl
     obtain ⟨Z5, cz5, rfl⟩ := hS46.open 3 rfl
     have hS47 := hS46.bring 1 rfl
     refine gs b4 0 #[.slice none 0 0, .slice none 0 0] 36 [(.slice Z4 r7.1.Runs.length cz4), (.slice Z5 r7.1.Ends.length cz5)] hS47 fun w23 hS48 => ?_
     have hS49 : St w0 w23 [Own.blk b4 (.cells #[(.slice Z4 r7.1.Runs.length cz4), (.slice Z5 r7.1.Ends.length cz5)] 36 (0, 0)), Own.blk b5 (.cells #[vI 0, vI 0] 39 (0, 0)), Own.of (.slice Z4 r7.1.Runs.length cz4) 3 r7.1.Runs, Own.of (.slice Z5 r7.1.Ends.length cz5) 3 r7.1.Ends, Own.of (.slice Z1 (l0 ++ [(⟨⟨#[63]⟩, (-9), 0, 0, 0, 0, 0⟩ : STask), (⟨⟨#[63]⟩, (-9), 0, 0, 0, 0, 0⟩ : STask), (⟨⟨#[63]⟩, (-9), 0, 0, 0, 0, 0⟩ : STask)]).length cz1) 51 (l0 ++ [(⟨⟨#[63]⟩, (-9), 0, 0, 0, 0, 0⟩ : STask), (⟨⟨#[63]⟩, (-9), 0, 0, 0, 0, 0⟩ : STask), (⟨⟨#[63]⟩, (-9), 0, 0, 0, 0, 0⟩ : STask)]), Own.of (.slice Z2 (l3 ++ [(⟨(-9), 0⟩ : SWindow), (⟨(-9), 0⟩ : SWindow), (⟨(-9), 0⟩ : SWindow)]).length cz2) 55 (l3 ++ [(⟨(-9), 0⟩ : SWindow), (⟨(-9), 0⟩ : SWindow), (⟨(-9), 0⟩ : SWindow)]), Own.of (.slice Z3 (l4 ++ [(⟨(-9), 0, 0, 0, 0⟩ : SJob), (⟨(-9), 0, 0, 0, 0⟩ : SJob), (⟨(-9), 0, 0, 0, 0⟩ : SJob)]).length cz3) 58 (l4 ++ [(⟨(-9), 0, 0, 0, 0⟩ : SJob), (⟨(-9), 0, 0, 0, 0⟩ : SJob), (⟨(-9), 0, 0, 0, 0⟩ : SJob)])] := hS48
     have hS50 := hS49.bring 1 rfl
     refine gs b5 0 #[vI 0, vI 0] 39 [vI r7.2.Code, vI r7.2.At] hS50 fun w24 hS51 => ?_
     have hS52 : St w0 w24 [Own.blk b5 (.cells #[vI r7.2.Code, vI r7.2.At] 39 (0, 0)), Own.blk b4 (.cells #[(.slice Z4 r7.1.Runs.length cz4), (.slice Z5 r7.1.Ends.length cz5)] 36 (0, 0)), Own.of (.slice Z4 r7.1.Runs.length cz4) 3 r7.1.Runs, Own.of (.slice Z5 r7.1.Ends.length cz5) 3 r7.1.Ends, Own.of (.slice Z1 (l0 ++ [(⟨⟨#[63]⟩, (-9), 0, 0, 0, 0, 0⟩ : STask), (⟨⟨#[63]⟩, (-9), 0, 0, 0, 0, 0⟩ : STask), (⟨⟨#[63]⟩, (-9), 0, 0, 0, 0, 0⟩ : STask)]).length cz1) 51 (l0 ++ [(⟨⟨#[63]⟩, (-9), 0, 0, 0, 0, 0⟩ : STask), (⟨⟨#[63]⟩, (-9), 0, 0, 0, 0, 0⟩ : STask), (⟨⟨#[63]⟩, (-9), 0, 0, 0, 0, 0⟩ : STask)]), Own.of (.slice Z2 (l3 ++ [(⟨(-9), 0⟩ : SWindow), (⟨(-9), 0⟩ : SWindow), (⟨(-9), 0⟩ : SWindow)]).length cz2) 55 (l3 ++ [(⟨(-9), 0⟩ : SWindow), (⟨(-9), 0⟩ : SWindow), (⟨(-9), 0⟩ : SWindow)]), Own.of (.slice Z3 (l4 ++ [(⟨(-9), 0, 0, 0, 0⟩ : SJob), (⟨(-9), 0, 0, 0, 0⟩ : SJob), (⟨(-9), 0, 0, 0, 0⟩ : SJob)]).length cz3) 58 (l4 ++ [(⟨(-9), 0, 0, 0, 0⟩ : SJob), (⟨(-9), 0, 0, 0, 0⟩ : SJob), (⟨(-9), 0, 0, 0, 0⟩ : SJob)])] := hS51
     refine gn hK26 ?_
     refine ws fun K27 hK27 => ?_
     refine ws fun K28 hK28 => ?_
     refine wr [(0, 0)] ?_
     refine gb0 [0] [(115, vI 0)] ?_
     refine gn hK28 ?_
     refine we_block ?_
     have hS53 := hS52.bring 3 rfl
     have hS54 := hS53.bring 3 rfl
     have hS55 := hS54.bring 6 rfl
     have hS56 := hS55.bring 6 rfl
     have hS57 := hS56.bring 6 rfl
     have hS58 := hS57.bring 6 rfl
     have hS59 := hS58.bring 6 rfl
     rcases hq17 : iter (WindowsPlay.r3 K x2 l3 l4 x5 r7) K 0 with _ | (_ | rr1)
     ·rw [hq17] at h; cases h
     ·rw [hq17] at h
      simp only [] at h
      refine we_iter (A := WindowsPlay.A3 w0 l0 A0 c0 x2 l3 A3 c3 l4 A4 c4 x5 Z1 cz1 Z2 cz2 Z3 cz3 r7 b4 b5 Z4 cz4 Z5 cz5) (B := WindowsPlay.B3 w0 l0 A0 c0 l3 A3 c3 l4 A4 c4 Z1 cz1 Z2 cz2 Z3 cz3) hq17 (fun a hF => ⟨hS59, hF.weaken ea⟩) (fun s o hf a w hA Q hQ => WindowsPlay_r3 K w0 l0 A0 c0 x1 x2 l3 A3 c3 l4 A4 c4 x5 hR0 hL0 hR3 hL3 hR4 hL4 hG2 hG3 hG4 r1 hc1 Z1 cz1 hcp1 Z2 cz2 hcp2 Z3 cz3 hcp3 r5 b2 r6 b3 r7 b4 b5 Z4 cz4 Z5 cz5 s o hf a w hA Q hQ) ?_
      rintro _ a w33 _ ⟨rfl, hS90, hF⟩
      replace hS90 : St w0 w33 [Own.of (.slice Z1 (l0 ++ [(⟨⟨#[63]⟩, (-9), 0, 0, 0, 0, 0⟩ : STask), (⟨⟨#[63]⟩, (-9), 0, 0, 0, 0, 0⟩ : STask), (⟨⟨#[63]⟩, (-9), 0, 0, 0, 0, 0⟩ : STask)]).length cz1) 51 (l0 ++ [(⟨⟨#[63]⟩, (-9), 0, 0, 0, 0, 0⟩ : STask), (⟨⟨#[63]⟩, (-9), 0, 0, 0, 0, 0⟩ : STask), (⟨⟨#[63]⟩, (-9), 0, 0, 0, 0, 0⟩ : STask)]), Own.of (.slice Z2 (l3 ++ [(⟨(-9), 0⟩ : SWindow), (⟨(-9), 0⟩ : SWindow), (⟨(-9), 0⟩ : SWindow)]).length cz2) 55 (l3 ++ [(⟨(-9), 0⟩ : SWindow), (⟨(-9), 0⟩ : SWindow), (⟨(-9), 0⟩ : SWindow)]), Own.of (.slice Z3 (l4 ++ [(⟨(-9), 0, 0, 0, 0⟩ : SJob), (⟨(-9), 0, 0, 0, 0⟩ : SJob), (⟨(-9), 0, 0, 0, 0⟩ : SJob)]).length cz3) 58 (l4 ++ [(⟨(-9), 0, 0, 0, 0⟩ : SJob), (⟨(-9), 0, 0, 0, 0⟩ : SJob), (⟨(-9), 0, 0, 0, 0⟩ : SJob)])] := hS90
      refine hK27 [(0, .slice A0 l0.length c0), (3, .slice A3 l3.length c3), (4, .slice A4 l4.length c4), (15, .slice Z1 l0.length cz1), (16, .slice Z2 l3.length cz2), (17, .slice Z3 l4.length cz3)] w33 ?_ a hF
      refine ws fun K38 hK38 => ?_
      refine wr [(0, 0), (1, 0), (2, 0), (3, 1), (4, 0), (5, 0), (6, 0), (7, 0), (8, 1), (9, 0), (10, 0), (11, 0), (12, 0), (13, 0), (14, 1), (15, 0), (16, 0)] ?_
      refine gb [0, 1, 2] [(143, .agg #[.string (⟨#[63]⟩), vI (-9), vI 0, vI 0, vI 0, vI 0, vI 0]), (142, .slice A0 l0.length c0), (141, .slice Z1 l0.length cz1)] [.loaded ⟨2, 0, none⟩ (.string (⟨#[63]⟩)), .loaded ⟨2, 1, none⟩ (vI (-9)), .loaded ⟨2, 2, none⟩ (vI 0), .loaded ⟨2, 3, none⟩ (vI 0), .loaded ⟨2, 4, none⟩ (vI 0), .loaded ⟨2, 5, none⟩ (vI 0), .loaded ⟨2, 6, none⟩ (vI 0)] ⟨hS90.glob hG2 rfl, hS90.glob hG2 rfl, hS90.glob hG2 rfl, hS90.glob hG2 rfl, hS90.glob hG2 rfl, hS90.glob hG2 rfl, hS90.glob hG2 rfl, trivial⟩ ?_
      rcases hq18 : punctualsame_Still_api_Task.f K (l0 ++ [(⟨⟨#[63]⟩, (-9), 0, 0, 0, 0, 0⟩ : STask), (⟨⟨#[63]⟩, (-9), 0, 0, 0, 0, 0⟩ : STask), (⟨⟨#[63]⟩, (-9), 0, 0, 0, 0, 0⟩ : STask)]) l0 (⟨⟨#[63]⟩, (-9), 0, 0, 0, 0, 0⟩ : STask) with _ | r10
      ·rw [hq18] at h; cases h
      rw [hq18] at h
      simp only [] at h
      refine ge_call (d := some 144) (f := 31) (args := #[.slice Z1 l0.length cz1, .slice A0 l0.length c0, .agg #[.string (⟨#[63]⟩), vI (-9), vI 0, vI 0, vI 0, vI 0, vI 0]]) (by kernel_rfl) (punctualsame_Still_api_Task_ok K (l0 ++ [(⟨⟨#[63]⟩, (-9), 0, 0, 0, 0, 0⟩ : STask), (⟨⟨#[63]⟩, (-9), 0, 0, 0, 0, 0⟩ : STask), (⟨⟨#[63]⟩, (-9), 0, 0, 0, 0, 0⟩ : STask)]) Z1 l0.length cz1 l0 A0 c0 (⟨⟨#[63]⟩, (-9), 0, 0, 0, 0, 0⟩ : STask) _ (hS90.rdAt 0 rfl) hcp1 (hS90.rd hR0) hL0 _ hq18) ?_
      rintro _ w34 ⟨rfl, hS91⟩
      refine ⟨_, rfl, hS91.below, ?_⟩
      have hS92 := hS90.call hS91
      refine gb0 [4] [(145, .bool r10)] ?_
      by_cases hc16 : r10 = true
      ·rw [if_pos hc16] at h
       refine gk 145 r10 true hc16 ?_
       refine gb [5, 6, 7] [(148, .agg #[vI (-9), vI 0]), (147, .slice A3 l3.length c3), (146, .slice Z2 l3.length cz2)] [.loaded ⟨3, 0, none⟩ (vI (-9)), .loaded ⟨3, 1, none⟩ (vI 0)] ⟨hS92.glob hG3 rfl, hS92.glob hG3 rfl, trivial⟩ ?_
       rcases hq19 : punctualsame_Still_api_Window.f K (l3 ++ [(⟨(-9), 0⟩ : SWindow), (⟨(-9), 0⟩ : SWindow), (⟨(-9), 0⟩ : SWindow)]) l3 (⟨(-9), 0⟩ : SWindow) with _ | r11
       ·rw [hq19] at h; cases h
       rw [hq19] at h
       simp only [] at h
       refine ge_call (d := some 149) (f := 32) (args := #[.slice Z2 l3.length cz2, .slice A3 l3.length c3, .agg #[vI (-9), vI 0]]) (by kernel_rfl) (punctualsame_Still_api_Window_ok K (l3 ++ [(⟨(-9), 0⟩ : SWindow), (⟨(-9), 0⟩ : SWindow), (⟨(-9), 0⟩ : SWindow)]) Z2 l3.length cz2 l3 A3 c3 (⟨(-9), 0⟩ : SWindow) _ (hS92.rdAt 1 rfl) hcp2 (hS92.rd hR3) hL3 _ hq19) ?_
       rintro _ w35 ⟨rfl, hS93⟩
       refine ⟨_, rfl, hS93.below, ?_⟩
       have hS94 := hS92.call hS93
       refine gb0 [9, 10] [(151, .bool r11), (150, .bool r11)] ?_
       by_cases hc17 : r11 = true
       ·rw [if_pos hc17] at h
        refine gk 151 r11 true hc17 ?_
        refine gb [11, 12, 13] [(154, .agg #[vI (-9), vI 0, vI 0, vI 0, vI 0]), (153, .slice A4 l4.length c4), (152, .slice Z3 l4.length cz3)] [.loaded ⟨4, 0, none⟩ (vI (-9)), .loaded ⟨4, 1, none⟩ (vI 0), .loaded ⟨4, 2, none⟩ (vI 0), .loaded ⟨4, 3, none⟩ (vI 0), .loaded ⟨4, 4, none⟩ (vI 0)] ⟨hS94.glob hG4 rfl, hS94.glob hG4 rfl, hS94.glob hG4 rfl, hS94.glob hG4 rfl, hS94.glob hG4 rfl, trivial⟩ ?_
        rcases hq20 : punctualsame_Still_api_Job.f K (l4 ++ [(⟨(-9), 0, 0, 0, 0⟩ : SJob), (⟨(-9), 0, 0, 0, 0⟩ : SJob), (⟨(-9), 0, 0, 0, 0⟩ : SJob)]) l4 (⟨(-9), 0, 0, 0, 0⟩ : SJob) with _ | r12
        ·rw [hq20] at h; cases h
        rw [hq20] at h
        simp only [] at h
        refine ge_call (d := some 155) (f := 33) (args := #[.slice Z3 l4.length cz3, .slice A4 l4.length c4, .agg #[vI (-9), vI 0, vI 0, vI 0, vI 0]]) (by kernel_rfl) (punctualsame_Still_api_Job_ok K (l4 ++ [(⟨(-9), 0, 0, 0, 0⟩ : SJob), (⟨(-9), 0, 0, 0, 0⟩ : SJob), (⟨(-9), 0, 0, 0, 0⟩ : SJob)]) Z3 l4.length cz3 l4 A4 c4 (⟨(-9), 0, 0, 0, 0⟩ : SJob) _ (hS94.rdAt 2 rfl) hcp3 (hS94.rd hR4) hL4 _ hq20) ?_
        rintro _ w36 ⟨rfl, hS95⟩
        refine ⟨_, rfl, hS95.below, ?_⟩
        have hS96 := hS94.call hS95
        refine gb0 [15, 16] [(12, .bool r12), (156, .bool r12)] ?_
        refine gn hK38 ?_
        have hS97 := hS96.takeN 0
        obtain rfl := si h
        exact we_ret (pr0 [.tmp 12] [.bool r12] ⟨rfl, hS97⟩)
       ·rw [if_neg hc17] at h
        refine gk 151 r11 false (Bool.eq_false_iff.2 hc17) ?_
        refine gb0 [11, 12, 13] [(154, undef), (153, undef), (152, undef)] ?_
        refine ge_off rfl rfl rfl (by kernel_rfl) ?_
        refine gb0 [15, 16] [(12, .bool false), (156, .bool false)] ?_
        refine gn hK38 ?_
        have hS98 := hS94.takeN 0
        obtain rfl := si h
        exact we_ret (pr0 [.tmp 12] [.bool false] ⟨rfl, hS98⟩)
      ·rw [if_neg hc16] at h
       refine gk 145 r10 false (Bool.eq_false_iff.2 hc16) ?_
       refine gb0 [5, 6, 7] [(148, undef), (147, undef), (146, undef)] ?_
       refine ge_off rfl rfl rfl (by kernel_rfl) ?_
       refine gb0 [9, 10, 11, 12, 13] [(154, undef), (153, undef), (152, undef), (151, .bool false), (150, .bool false)] ?_
       refine ge_off rfl rfl rfl (by kernel_rfl) ?_
       refine gb0 [15, 16] [(12, .bool false), (156, .bool false)] ?_
       refine gn hK38 ?_
       have hS99 := hS92.takeN 0
       obtain rfl := si h
       exact we_ret (pr0 [.tmp 12] [.bool false] ⟨rfl, hS99⟩)
     ·rw [hq17] at h
      simp only [] at h
      refine we_iter (A := WindowsPlay.A3 w0 l0 A0 c0 x2 l3 A3 c3 l4 A4 c4 x5 Z1 cz1 Z2 cz2 Z3 cz3 r7 b4 b5 Z4 cz4 Z5 cz5) (B := WindowsPlay.B3 w0 l0 A0 c0 l3 A3 c3 l4 A4 c4 Z1 cz1 Z2 cz2 Z3 cz3) hq17 (fun a hF => ⟨hS59, hF.weaken ea⟩) (fun s o hf a w hA Q hQ => WindowsPlay_r3 K w0 l0 A0 c0 x1 x2 l3 A3 c3 l4 A4 c4 x5 hR0 hL0 hR3 hL3 hR4 hL4 hG2 hG3 hG4 r1 hc1 Z1 cz1 hcp1 Z2 cz2 hcp2 Z3 cz3 hcp3 r5 b2 r6 b3 r7 b4 b5 Z4 cz4 Z5 cz5 s o hf a w hA Q hQ) ?_
      rintro _ a w1 _ ⟨rfl, hb⟩
      obtain rfl := si h
      exact hb
    ·rw [hq13] at h
     simp only [] at h
     refine we_keep (e' := ((0, .slice A0 l0.length c0) :: (1, vI x1) :: (2, vI x2) :: (3, .slice A3 l3.length c3) :: (4, .slice A4 l4.length c4) :: (5, vI x5) :: (15, .slice Z1 l0.length cz1) :: (16, .slice Z2 l3.length cz2) :: (17, .slice Z3 l4.length cz3) :: (18, vI r5.1) :: (19, pP b2 0) :: (20, vI r6.1) :: (21, pP b3 0) :: (74, .slice A0 l0.length c0) :: (75, .agg #[.string (⟨#[63]⟩), vI (-9), vI 0, vI 0, vI 0, vI 0, vI 0]) :: (76, .slice Z1 l0.length cz1) :: (77, .slice A3 l3.length c3) :: (78, .agg #[vI (-9), vI 0]) :: (79, .slice Z2 l3.length cz2) :: (80, .slice A4 l4.length c4) :: (81, .agg #[vI (-9), vI 0, vI 0, vI 0, vI 0]) :: (82, .slice Z3 l4.length cz3) :: (83, .tuple #[vI r5.1, .agg #[vI r5.2.Code, vI r5.2.At]]) :: (84, .slice Z1 l0.length cz1) :: (85, vI x1) :: (86, vI x2) :: (87, .slice Z2 l3.length cz2) :: (88, .tuple #[vI r5.1, .agg #[vI r5.2.Code, vI r5.2.At]]) :: (89, vI r5.1) :: (90, .agg #[vI r5.2.Code, vI r5.2.At]) :: (91, .tuple #[vI r6.1, .agg #[vI r6.2.Code, vI r6.2.At]]) :: (92, .slice A0 l0.length c0) :: (93, vI x1) :: (94, vI x2) :: (95, .slice A3 l3.length c3) :: (96, .tuple #[vI r6.1, .agg #[vI r6.2.Code, vI r6.2.At]]) :: (97, vI r6.1) :: (98, .agg #[vI r6.2.Code, vI r6.2.At]) :: [])) ea (WindowsPlay_p2 K w0 l0 A0 c0 x1 x2 l3 A3 c3 l4 A4 c4 x5 hR0 hL0 hR3 hL3 hR4 hL4 hG2 hG3 hG4 r1 hc1 Z1 cz1 hcp1 Z2 cz2 hcp2 Z3 cz3 hcp3 r5 b2 r6 b3 _ hq13 _ hS35 _ ?_)
     rintro _ a w1 ⟨_, rfl, hb⟩
     obtain rfl := si h
     exact hb
   ·rw [hq7] at h
    simp only [] at h
    refine we_iter (A := WindowsPlay.A1 w0 l0 A0 c0 x1 x2 l3 A3 c3 l4 A4 c4 x5) (B := WindowsPlay.B1 w0 l0 A0 c0 x1 x2 l3 A3 c3 l4 A4 c4 x5) hq7 (fun a hF => ⟨hS11, hF.weaken ea⟩) (fun s o hf a w hA Q hQ => WindowsPlay_r1 K w0 l0 A0 c0 x1 x2 l3 A3 c3 l4 A4 c4 x5 hR0 hL0 hR3 hL3 hR4 hL4 hG2 hG3 hG4 r1 hc1 s o hf a w hA Q hQ) ?_
    rintro _ a w1 _ ⟨rfl, hb⟩
    obtain rfl := si h
    exact hb
  ·rw [hq6] at h
   simp only [] at h
   refine we_keep (e' := [(0, .slice A0 l0.length c0), (1, vI x1), (2, vI x2), (3, .slice A3 l3.length c3), (4, .slice A4 l4.length c4), (5, vI x5), (12, .bool false), (26, .bool r1), (27, .bool false)]) ea (WindowsPlay_p0 K w0 l0 A0 c0 x1 x2 l3 A3 c3 l4 A4 c4 x5 hR0 hL0 hR3 hL3 hR4 hL4 hG2 hG3 hG4 r1 hc1 _ hq6 _ hS2 _ ?_)
   rintro _ a w1 ⟨_, rfl, hb⟩
   obtain rfl := si h
   exact hb
 ·rw [if_neg hc1] at h
  refine wk 27 (!r1) true (congrArg (fun z => !z) (Bool.eq_false_iff.2 hc1)) ?_
  refine we_true (by kernel_rfl) ?_
  refine ws fun K39 hK39 => ?_
  refine wr [(0, 0)] ?_
  refine gb0 [0] [(12, .bool false)] ?_
  refine gn hK39 ?_
  obtain rfl := si h
  exact we_ret (pr0 [.tmp 12] [.bool false] ⟨rfl, hS2⟩)
end Go.Proofs.YtcogbnkioobmkaaDoor.GV
