/- Walks of single functions, written by a program of this work. -/
import Derived.Test.YtnckikjcjgmdlaaDoorGWWcetProves4
namespace Go.Proofs.YtnckikjcjgmdlaaDoor.GV
open Go Go.RowKit
set_option linter.unusedVariables false
set_option linter.unusedSimpArgs false
set_option maxRecDepth 100000

/-! punctual/punctualref.Shown -/
abbrev punctualref_Shown.Post (w0 : World) (r : Bool) (e : Ending) (w : World) : Prop := e = .returned (.bool r) ∧ St w0 w []
def punctualref_Shown.p0 (l0 : List SIns) (l1_1 : List Int) (r1 : (Option PImage) × SFault) : Option (Unit ⊕ Bool) :=
  if r1.2.Code = 0 then
   if (l1_1.length : Int) = (l0.length : Int) then
    some (.inl ())
   else
    some (.inr false)
  else
   some (.inr false)
def punctualref_Shown.r1 (l1_1 : List Int) : Nat → Option (Nat ⊕ (Unit ⊕ Bool))
 | i1 =>
  if (i1 : Int) < (l1_1.length : Int) then
   match l1_1[i1]? with
   | none => none
   | some e1 =>
    if e1 < 0 then
     some (.inr (.inr false))
    else
     if e1 > 1099511627776 then
      some (.inr (.inr false))
     else
      some (.inl (i1 + 1))
  else
   some (.inr (.inl ()))
def punctualref_Shown.r2 (l0 : List SIns) (l1_1 : List Int) : Nat → Option (Nat ⊕ (Unit ⊕ Bool))
 | i2 =>
  if (i2 : Int) < (l0.length : Int) then
   match l1_1[i2]? with
   | none => none
   | some e2 =>
    none
  else
   some (.inr (.inl ()))
def punctualref_Shown.p3 (l0 : List SIns) (l1_1 : List Int) (r1 : (Option PImage) × SFault) : Option (Unit ⊕ Bool) :=
  if r1.2.Code = 0 then
   if (l1_1.length : Int) = (l0.length : Int) then
    some (.inl ())
   else
    some (.inr false)
  else
   some (.inr false)
def punctualref_Shown.r4 (l1_1 : List Int) : Nat → Option (Nat ⊕ (Unit ⊕ Bool))
 | i3 =>
  if (i3 : Int) < (l1_1.length : Int) then
   match l1_1[i3]? with
   | none => none
   | some e3 =>
    if e3 < 0 then
     some (.inr (.inr false))
    else
     if e3 > 1099511627776 then
      some (.inr (.inr false))
     else
      some (.inl (i3 + 1))
  else
   some (.inr (.inl ()))
def punctualref_Shown.r5 (K : Nat) (l0 : List SIns) (x1_0 : Int) (l1_1 : List Int) (px1 : PImage) : Nat → Option (Nat ⊕ (Unit ⊕ Bool))
 | i4 =>
  if (i4 : Int) < (l0.length : Int) then
   match l1_1[i4]? with
   | none => none
   | some e4 =>
    match punctualref_Image_Left.f K l0 px1.m_Regions (i4 : Int) x1_0 l1_1 with
    | none => none
    | some r3 =>
     if e4 < r3 then
      some (.inr (.inr false))
     else
      some (.inl (i4 + 1))
  else
   some (.inr (.inl ()))
def punctualref_Shown.f (K : Nat) (l0 : List SIns) (x1_0 : Int) (l1_1 : List Int) : Option Bool :=
 match punctualref_ReadImage.f K l0 with
 | none => none
 | some r1 =>
  match r1.1 with
  | none =>
   match punctualref_Shown.p0 l0 l1_1 r1 with
   | none => none
   | some (.inl _) =>
    match iter (punctualref_Shown.r1 l1_1) K 0 with
    | none => none
    | some (.inl _) =>
     match iter (punctualref_Shown.r2 l0 l1_1) K 0 with
     | none => none
     | some (.inl _) =>
      match punctualref_Shown_1.f 0 x1_0 l1_1 with
      | none => none
      | some r2 =>
       some (decide (x1_0 ≥ r2))
     | some (.inr rr1) =>
      some rr1
    | some (.inr rr2) =>
     some rr2
   | some (.inr rr3) =>
    some rr3
  | some px1 =>
   match punctualref_Shown.p3 l0 l1_1 r1 with
   | none => none
   | some (.inl _) =>
    match iter (punctualref_Shown.r4 l1_1) K 0 with
    | none => none
    | some (.inl _) =>
     match iter (punctualref_Shown.r5 K l0 x1_0 l1_1 px1) K 0 with
     | none => none
     | some (.inl _) =>
      match punctualref_Shown_1.f 0 x1_0 l1_1 with
      | none => none
      | some r4 =>
       some (decide (x1_0 ≥ r4))
     | some (.inr rr4) =>
      some rr4
    | some (.inr rr5) =>
     some rr5
   | some (.inr rr6) =>
    some rr6
abbrev punctualref_Shown.A0 (w0 : World) (l0 : List SIns) (A0 : Option Addr) (c0 : Nat) (x1_0 : Int) (l1_1 : List Int) (A1_1 : Option Addr) (c1_1 : Nat) (b1 : Nat) : Unit → Act → World → Prop := fun (s : Unit) a w => St w0 w [Own.blk b1 (.cells #[vI x1_0, .slice A1_1 l1_1.length c1_1] 42 (0, 0))] ∧ Frm 63 a [(0, .slice A0 l0.length c0), (3, pP b1 0), (5, .pointer none)]
abbrev punctualref_Shown.B0 (w0 : World) : Bool → Exit → Act → World → Prop := Rets Tryd.prog Tryd.f16 (punctualref_Shown.Post w0)
theorem punctualref_Shown_p0 (K : Nat) (w0 : World) (l0 : List SIns) (A0 : Option Addr) (c0 : Nat) (x1_0 : Int) (l1_1 : List Int) (A1_1 : Option Addr) (c1_1 : Nat) (hR0 : RdL w0 A0 l0) (hL0 : l0.length ≤ c0) (hR1_1 : RdL w0 A1_1 l1_1) (hL1_1 : l1_1.length ≤ c1_1) (b1 : Nat) (r1 : (Option PImage) × SFault) (b2 : Nat) (o : Unit ⊕ Bool) (h : punctualref_Shown.p0 l0 l1_1 r1 = some o) (w : World) (hS : St w0 w [Own.blk b2 (.cells #[vI r1.2.Code, vI r1.2.At] 25 (0, 0)), Own.blk b1 (.cells #[vI x1_0, .slice A1_1 l1_1.length c1_1] 42 (0, 0))]) (Q : Exit → Act → World → Prop) (hQ : ∀ x a w, Outs (punctualref_Shown.A0 w0 l0 A0 c0 x1_0 l1_1 A1_1 c1_1 b1) (punctualref_Shown.B0 w0) o x a w → Q x a w) : WE Tryd.prog 63 (subF Tryd.f16 [1, 1, 0]) Q [(0, .slice A0 l0.length c0), (1, .agg #[vI x1_0, .slice A1_1 l1_1.length c1_1]), (3, pP b1 0), (4, .bool false), (5, .pointer none), (6, pP b2 0), (11, .tuple #[.pointer none, .agg #[vI r1.2.Code, vI r1.2.At]]), (12, .slice A0 l0.length c0), (13, .tuple #[.pointer none, .agg #[vI r1.2.Code, vI r1.2.At]]), (14, .pointer none), (15, .agg #[vI r1.2.Code, vI r1.2.At])] w := by
 simp only [punctualref_Shown.p0] at h
 refine ws fun K4 hK4 => ?_
 refine wr [(0, 0), (1, 0), (2, 0), (3, 0), (4, 0), (5, 0), (6, 0), (7, 0), (8, 0), (9, 0), (10, 0)] ?_
 refine gb [0, 1, 2, 3] [(19, .bool (r1.2.Code != 0)), (18, .bool (r1.2.Code != 0)), (17, vI r1.2.Code), (16, pP b2 0)] [.loaded ⟨b2, 0, none⟩ (vI r1.2.Code)] ⟨hS.c 0, trivial⟩ ?_
 by_cases hc1 : r1.2.Code = 0
 ·rw [if_pos hc1] at h
  refine gk 19 (r1.2.Code != 0) false (bne_eq_false_iff_eq.2 hc1) ?_
  refine gb [4, 5, 6, 7, 8, 9, 10] [(26, .bool ((l1_1.length : Int) != (l0.length : Int))), (25, .bool ((l1_1.length : Int) != (l0.length : Int))), (24, vI (l0.length : Int)), (23, .slice A0 l0.length c0), (22, vI (l1_1.length : Int)), (21, .slice A1_1 l1_1.length c1_1), (20, pP b1 1)] [.loaded ⟨b1, 1, none⟩ (.slice A1_1 l1_1.length c1_1)] ⟨hS.c 1, trivial⟩ ?_
  refine gn hK4 ?_
  by_cases hc2 : (l1_1.length : Int) = (l0.length : Int)
  ·rw [if_pos hc2] at h
   refine wk 26 ((l1_1.length : Int) != (l0.length : Int)) false (bne_eq_false_iff_eq.2 hc2) ?_
   refine we_false (by kernel_rfl) ?_
   have hS7 := hS.bring 1 rfl
   have hS8 := hS7.takeN 1
   obtain rfl := si h
   exact we_skip fun a hF => hQ _ _ _ (Outs.again ⟨hS8, hF.weaken ea⟩)
  ·rw [if_neg hc2] at h
   refine wk 26 ((l1_1.length : Int) != (l0.length : Int)) true (bne_iff_ne.2 hc2) ?_
   refine we_true (by kernel_rfl) ?_
   refine ws fun K5 hK5 => ?_
   refine wr [(0, 0)] ?_
   refine gb0 [0] [(4, .bool false)] ?_
   refine gn hK5 ?_
   have hS9 := hS.takeN 0
   obtain rfl := si h
   exact we_ret fun a hF => hQ _ _ _ (Outs.out nofun ⟨rfl, (pr0 [.tmp 4] [.bool false] ⟨rfl, hS9⟩) a hF⟩)
 ·rw [if_neg hc1] at h
  refine gk 19 (r1.2.Code != 0) true (bne_iff_ne.2 hc1) ?_
  refine gb0 [4, 5, 6, 7, 8, 9, 10] [(26, .bool true), (25, undef), (24, undef), (23, undef), (22, undef), (21, undef), (20, undef)] ?_
  refine gn hK4 ?_
  refine we_true (by kernel_rfl) ?_
  refine ws fun K6 hK6 => ?_
  refine wr [(0, 0)] ?_
  refine gb0 [0] [(4, .bool false)] ?_
  refine gn hK6 ?_
  have hS10 := hS.takeN 0
  obtain rfl := si h
  exact we_ret fun a hF => hQ _ _ _ (Outs.out nofun ⟨rfl, (pr0 [.tmp 4] [.bool false] ⟨rfl, hS10⟩) a hF⟩)
abbrev punctualref_Shown.A1 (w0 : World) (l0 : List SIns) (A0 : Option Addr) (c0 : Nat) (x1_0 : Int) (l1_1 : List Int) (A1_1 : Option Addr) (c1_1 : Nat) (b1 : Nat) : Nat → Act → World → Prop := fun (s : Nat) a w => St w0 w [Own.blk b1 (.cells #[vI x1_0, .slice A1_1 l1_1.length c1_1] 42 (0, 0))] ∧ Frm 63 a [(0, .slice A0 l0.length c0), (3, pP b1 0), (5, .pointer none), (7, .func (.func 37) #[] #[pP b1 0]), (29, .slice A1_1 l1_1.length c1_1), (30, vI (l1_1.length : Int)), (31, vI (s : Int))]
abbrev punctualref_Shown.B1 (w0 : World) (l0 : List SIns) (A0 : Option Addr) (c0 : Nat) (x1_0 : Int) (l1_1 : List Int) (A1_1 : Option Addr) (c1_1 : Nat) (b1 : Nat) : (Unit ⊕ Bool) → Exit → Act → World → Prop := Exits 0 (fun (s : Unit) a w => St w0 w [Own.blk b1 (.cells #[vI x1_0, .slice A1_1 l1_1.length c1_1] 42 (0, 0))] ∧ Frm 63 a [(0, .slice A0 l0.length c0), (3, pP b1 0), (5, .pointer none), (7, .func (.func 37) #[] #[pP b1 0])]) (Rets Tryd.prog Tryd.f16 (punctualref_Shown.Post w0))
theorem punctualref_Shown_r1 (K : Nat) (w0 : World) (l0 : List SIns) (A0 : Option Addr) (c0 : Nat) (x1_0 : Int) (l1_1 : List Int) (A1_1 : Option Addr) (c1_1 : Nat) (hR0 : RdL w0 A0 l0) (hL0 : l0.length ≤ c0) (hR1_1 : RdL w0 A1_1 l1_1) (hL1_1 : l1_1.length ≤ c1_1) (b1 : Nat) (r1 : (Option PImage) × SFault) (b2 : Nat) (s : Nat) (o : Nat ⊕ (Unit ⊕ Bool)) (h : punctualref_Shown.r1 l1_1 s = some o) (a : Act) (w : World) (hA : punctualref_Shown.A1 w0 l0 A0 c0 x1_0 l1_1 A1_1 c1_1 b1 s a w) (Q : Exit → Act → World → Prop) (hQ : ∀ x a w, Outs (punctualref_Shown.A1 w0 l0 A0 c0 x1_0 l1_1 A1_1 c1_1 b1) (punctualref_Shown.B1 w0 l0 A0 c0 x1_0 l1_1 A1_1 c1_1 b1) o x a w → Q x a w) : (subF Tryd.f16 [1, 1, 1, 1, 0, 1, 0, 0]).wp Tryd.prog Q a w := by
 obtain ⟨i1, hs⟩ : ∃ z, z = s := ⟨s, rfl⟩
 subst hs
 obtain ⟨hS, hF⟩ := hA
 replace hS : St w0 w [Own.blk b1 (.cells #[vI x1_0, .slice A1_1 l1_1.length c1_1] 42 (0, 0))] := hS
 simp only [punctualref_Shown.r1] at h
 refine (?_ : WE Tryd.prog 63 (subF Tryd.f16 [1, 1, 1, 1, 0, 1, 0, 0]) Q [(0, .slice A0 l0.length c0), (3, pP b1 0), (5, .pointer none), (7, .func (.func 37) #[] #[pP b1 0]), (29, .slice A1_1 l1_1.length c1_1), (30, vI (l1_1.length : Int)), (31, vI (i1 : Int))] w) a hF
 clear hF a
 refine ws fun K10 hK10 => ?_
 refine wr [(0, 0)] ?_
 refine gb0 [0] [(32, .bool (decide ((i1 : Int) < (l1_1.length : Int))))] ?_
 refine gn hK10 ?_
 refine ws fun K11 hK11 => ?_
 by_cases hc3 : (i1 : Int) < (l1_1.length : Int)
 ·rw [if_pos hc3] at h
  refine wk 32 (decide ((i1 : Int) < (l1_1.length : Int))) true (decide_eq_true hc3) ?_
  refine we_true (by kernel_rfl) ?_
  refine we_skip fun a hF => hK11 _ _ ?_ a hF
  refine ws fun K12 hK12 => ?_
  refine we_block ?_
  refine ws fun K13 hK13 => ?_
  refine wr [(0, 0), (1, 0), (2, 0)] ?_
  rcases hx3 : l1_1[i1]? with _ | e1
  ·rw [hx3] at h; cases h
  rw [hx3] at h
  simp only [] at h
  refine gi 33 0 37 3 1 l1_1.length c1_1 (.tmp 29) (.tmp 31) A1_1 .i64 (i1 : Int) i1 ((hS.rd hR1_1).eqSome (pos_of_get hx3)) rfl (lt_of_get hx3) ?_
  refine gb [1, 2] [(9, vI e1), (34, vI e1)] [.loaded ⟨blkOf A1_1, offOf A1_1 + i1 * 1, none⟩ (vI e1)] ⟨RdL.cell (j := 0) (hS.rd hR1_1) hx3 rfl, trivial⟩ ?_
  refine gn hK13 ?_
  refine ws fun K14 hK14 => ?_
  refine wr [(0, 0), (1, 0), (2, 0), (3, 0), (4, 0), (5, 0)] ?_
  refine gb0 [0, 1, 2] [(37, .bool (decide (e1 < 0))), (36, .bool (decide (e1 < 0))), (35, vI e1)] ?_
  by_cases hc4 : e1 < 0
  ·rw [if_pos hc4] at h
   refine gk 37 (decide (e1 < 0)) true (decide_eq_true hc4) ?_
   refine gb0 [3, 4, 5] [(40, .bool true), (39, undef), (38, undef)] ?_
   refine gn hK14 ?_
   refine we_true (by kernel_rfl) ?_
   refine ws fun K15 hK15 => ?_
   refine wr [(0, 0)] ?_
   refine gb0 [0] [(4, .bool false)] ?_
   refine gn hK15 ?_
   have hS12 := hS.takeN 0
   obtain rfl := si h
   exact we_ret fun a hF => hQ _ _ _ (Outs.out nofun (Exits.on ⟨rfl, (pr0 [.tmp 4] [.bool false] ⟨rfl, hS12⟩) a hF⟩))
  ·rw [if_neg hc4] at h
   refine gk 37 (decide (e1 < 0)) false (decide_eq_false hc4) ?_
   refine gb0 [3, 4, 5] [(40, .bool (decide (e1 > 1099511627776))), (39, .bool (decide (e1 > 1099511627776))), (38, vI e1)] ?_
   refine gn hK14 ?_
   by_cases hc5 : e1 > 1099511627776
   ·rw [if_pos hc5] at h
    refine wk 40 (decide (e1 > 1099511627776)) true (decide_eq_true hc5) ?_
    refine we_true (by kernel_rfl) ?_
    refine ws fun K16 hK16 => ?_
    refine wr [(0, 0)] ?_
    refine gb0 [0] [(4, .bool false)] ?_
    refine gn hK16 ?_
    have hS13 := hS.takeN 0
    obtain rfl := si h
    exact we_ret fun a hF => hQ _ _ _ (Outs.out nofun (Exits.on ⟨rfl, (pr0 [.tmp 4] [.bool false] ⟨rfl, hS13⟩) a hF⟩))
   ·rw [if_neg hc5] at h
    refine wk 40 (decide (e1 > 1099511627776)) false (decide_eq_false hc5) ?_
    refine we_false (by kernel_rfl) ?_
    refine we_skip fun a hF => hK12 _ _ ?_ a hF
    refine wr [(0, 0), (1, 0)] ?_
    refine ge_addn (d := 41) (ty := 3) (x := (.tmp 31)) (y := (.const (vI 1))) (t := 3) (t2 := 3) (k := .i64) (m := i1) (by kernel_rfl) (by kernel_rfl) (by kernel_rfl) (by have h0 := hR1_1.small; omega) ?_
    refine gb0 [1] [(31, vI ((i1 + 1 : Nat) : Int))] ?_
    obtain rfl := si h
    exact ge_nil fun a hF => hQ _ _ _ (Outs.again ⟨hS, hF.weaken ea⟩)
 ·rw [if_neg hc3] at h
  refine wk 32 (decide ((i1 : Int) < (l1_1.length : Int))) false (decide_eq_false hc3) ?_
  refine we_false (by kernel_rfl) ?_
  obtain rfl := si h
  exact we_exit fun a hF => hQ _ _ _ (Outs.out nofun (Exits.here ⟨hS, hF.weaken ea⟩))
abbrev punctualref_Shown.A2 (w0 : World) (l0 : List SIns) (x1_0 : Int) (l1_1 : List Int) (A1_1 : Option Addr) (c1_1 : Nat) (b1 : Nat) : Nat → Act → World → Prop := fun (s : Nat) a w => St w0 w [Own.blk b1 (.cells #[vI x1_0, .slice A1_1 l1_1.length c1_1] 42 (0, 0))] ∧ Frm 63 a [(3, pP b1 0), (5, .pointer none), (7, .func (.func 37) #[] #[pP b1 0]), (43, vI (l0.length : Int)), (44, vI (s : Int))]
abbrev punctualref_Shown.B2 (w0 : World) (x1_0 : Int) (l1_1 : List Int) (A1_1 : Option Addr) (c1_1 : Nat) (b1 : Nat) : (Unit ⊕ Bool) → Exit → Act → World → Prop := Exits 2 (fun (s : Unit) a w => St w0 w [Own.blk b1 (.cells #[vI x1_0, .slice A1_1 l1_1.length c1_1] 42 (0, 0))] ∧ Frm 63 a [(3, pP b1 0), (7, .func (.func 37) #[] #[pP b1 0])]) (Rets Tryd.prog Tryd.f16 (punctualref_Shown.Post w0))
theorem punctualref_Shown_r2 (K : Nat) (w0 : World) (l0 : List SIns) (A0 : Option Addr) (c0 : Nat) (x1_0 : Int) (l1_1 : List Int) (A1_1 : Option Addr) (c1_1 : Nat) (hR0 : RdL w0 A0 l0) (hL0 : l0.length ≤ c0) (hR1_1 : RdL w0 A1_1 l1_1) (hL1_1 : l1_1.length ≤ c1_1) (b1 : Nat) (r1 : (Option PImage) × SFault) (b2 : Nat) (s : Nat) (o : Nat ⊕ (Unit ⊕ Bool)) (h : punctualref_Shown.r2 l0 l1_1 s = some o) (a : Act) (w : World) (hA : punctualref_Shown.A2 w0 l0 x1_0 l1_1 A1_1 c1_1 b1 s a w) (Q : Exit → Act → World → Prop) (hQ : ∀ x a w, Outs (punctualref_Shown.A2 w0 l0 x1_0 l1_1 A1_1 c1_1 b1) (punctualref_Shown.B2 w0 x1_0 l1_1 A1_1 c1_1 b1) o x a w → Q x a w) : (subF Tryd.f16 [1, 1, 1, 1, 1, 0, 1, 0, 0]).wp Tryd.prog Q a w := by
 obtain ⟨i2, hs⟩ : ∃ z, z = s := ⟨s, rfl⟩
 subst hs
 obtain ⟨hS, hF⟩ := hA
 replace hS : St w0 w [Own.blk b1 (.cells #[vI x1_0, .slice A1_1 l1_1.length c1_1] 42 (0, 0))] := hS
 simp only [punctualref_Shown.r2] at h
 refine (?_ : WE Tryd.prog 63 (subF Tryd.f16 [1, 1, 1, 1, 1, 0, 1, 0, 0]) Q [(3, pP b1 0), (5, .pointer none), (7, .func (.func 37) #[] #[pP b1 0]), (43, vI (l0.length : Int)), (44, vI (i2 : Int))] w) a hF
 clear hF a
 refine ws fun K19 hK19 => ?_
 refine wr [(0, 0)] ?_
 refine gb0 [0] [(45, .bool (decide ((i2 : Int) < (l0.length : Int))))] ?_
 refine gn hK19 ?_
 refine ws fun K20 hK20 => ?_
 by_cases hc6 : (i2 : Int) < (l0.length : Int)
 ·rw [if_pos hc6] at h
  refine wk 45 (decide ((i2 : Int) < (l0.length : Int))) true (decide_eq_true hc6) ?_
  refine we_true (by kernel_rfl) ?_
  refine we_skip fun a hF => hK20 _ _ ?_ a hF
  refine ws fun K21 hK21 => ?_
  refine we_block ?_
  refine ws fun K22 hK22 => ?_
  refine wr [(0, 0), (1, 0)] ?_
  refine gb0 [0, 1] [(10, vI (i2 : Int)), (46, vI (i2 : Int))] ?_
  refine gn hK22 ?_
  refine ws fun K23 hK23 => ?_
  refine we_draws (by kernel_rfl) [(0, 0), (1, 0), (2, 0), (3, 0), (4, 0), (5, 0), (6, 0), (7, 0), (8, 1), (9, 0)] (by kernel_rfl) ?_
  have hS15 := hS.drew
  refine gb [0, 1, 2] [(49, vI (i2 : Int)), (48, .slice A1_1 l1_1.length c1_1), (47, pP b1 1)] [.loaded ⟨b1, 1, none⟩ (.slice A1_1 l1_1.length c1_1)] ⟨hS15.c 0, trivial⟩ ?_
  rcases hx4 : l1_1[i2]? with _ | e2
  ·rw [hx4] at h; cases h
  rw [hx4] at h
  simp only [] at h
  refine gi 50 0 37 3 1 l1_1.length c1_1 (.tmp 48) (.tmp 49) A1_1 .i64 (i2 : Int) i2 ((hS15.rd hR1_1).eqSome (pos_of_get hx4)) rfl (lt_of_get hx4) ?_
  refine gb [4, 5, 6, 7] [(54, .func (.func 37) #[] #[pP b1 0]), (53, vI (i2 : Int)), (52, .pointer none), (51, vI e2)] [.loaded ⟨blkOf A1_1, offOf A1_1 + i2 * 1, none⟩ (vI e2)] ⟨RdL.cell (j := 0) (hS15.rd hR1_1) hx4 rfl, trivial⟩ ?_
  cases h
 ·rw [if_neg hc6] at h
  refine wk 45 (decide ((i2 : Int) < (l0.length : Int))) false (decide_eq_false hc6) ?_
  refine we_false (by kernel_rfl) ?_
  obtain rfl := si h
  exact we_exit fun a hF => hQ _ _ _ (Outs.out nofun (Exits.here ⟨hS, hF.weaken ea⟩))
abbrev punctualref_Shown.A3 (w0 : World) (l0 : List SIns) (A0 : Option Addr) (c0 : Nat) (x1_0 : Int) (l1_1 : List Int) (A1_1 : Option Addr) (c1_1 : Nat) (b1 : Nat) (px1 : PImage) (pb1 : Nat) (Z1 : Option Addr) (cz1 : Nat) : Unit → Act → World → Prop := fun (s : Unit) a w => St w0 w [Own.blk pb1 (.cells #[.slice A0 l0.length c0, (.slice Z1 px1.m_Regions.length cz1)] 70 (0, 0)), Own.blk b1 (.cells #[vI x1_0, .slice A1_1 l1_1.length c1_1] 42 (0, 0)), Own.of (.slice Z1 px1.m_Regions.length cz1) 74 px1.m_Regions] ∧ Frm 63 a [(0, .slice A0 l0.length c0), (3, pP b1 0), (5, pP pb1 0)]
abbrev punctualref_Shown.B3 (w0 : World) : Bool → Exit → Act → World → Prop := Rets Tryd.prog Tryd.f16 (punctualref_Shown.Post w0)
theorem punctualref_Shown_p3 (K : Nat) (w0 : World) (l0 : List SIns) (A0 : Option Addr) (c0 : Nat) (x1_0 : Int) (l1_1 : List Int) (A1_1 : Option Addr) (c1_1 : Nat) (hR0 : RdL w0 A0 l0) (hL0 : l0.length ≤ c0) (hR1_1 : RdL w0 A1_1 l1_1) (hL1_1 : l1_1.length ≤ c1_1) (b1 : Nat) (r1 : (Option PImage) × SFault) (px1 : PImage) (pb1 : Nat) (b3 : Nat) (Z1 : Option Addr) (cz1 : Nat) (o : Unit ⊕ Bool) (h : punctualref_Shown.p3 l0 l1_1 r1 = some o) (w : World) (hS : St w0 w [Own.blk b3 (.cells #[vI r1.2.Code, vI r1.2.At] 25 (0, 0)), Own.blk pb1 (.cells #[.slice A0 l0.length c0, (.slice Z1 px1.m_Regions.length cz1)] 70 (0, 0)), Own.of (.slice Z1 px1.m_Regions.length cz1) 74 px1.m_Regions, Own.blk b1 (.cells #[vI x1_0, .slice A1_1 l1_1.length c1_1] 42 (0, 0))]) (Q : Exit → Act → World → Prop) (hQ : ∀ x a w, Outs (punctualref_Shown.A3 w0 l0 A0 c0 x1_0 l1_1 A1_1 c1_1 b1 px1 pb1 Z1 cz1) (punctualref_Shown.B3 w0) o x a w → Q x a w) : WE Tryd.prog 63 (subF Tryd.f16 [1, 1, 0]) Q [(0, .slice A0 l0.length c0), (1, .agg #[vI x1_0, .slice A1_1 l1_1.length c1_1]), (3, pP b1 0), (4, .bool false), (5, pP pb1 0), (6, pP b3 0), (11, .tuple #[pP pb1 0, .agg #[vI r1.2.Code, vI r1.2.At]]), (12, .slice A0 l0.length c0), (13, .tuple #[pP pb1 0, .agg #[vI r1.2.Code, vI r1.2.At]]), (14, pP pb1 0), (15, .agg #[vI r1.2.Code, vI r1.2.At])] w := by
 simp only [punctualref_Shown.p3] at h
 refine ws fun K26 hK26 => ?_
 refine wr [(0, 0), (1, 0), (2, 0), (3, 0), (4, 0), (5, 0), (6, 0), (7, 0), (8, 0), (9, 0), (10, 0)] ?_
 refine gb [0, 1, 2, 3] [(19, .bool (r1.2.Code != 0)), (18, .bool (r1.2.Code != 0)), (17, vI r1.2.Code), (16, pP b3 0)] [.loaded ⟨b3, 0, none⟩ (vI r1.2.Code)] ⟨hS.c 0, trivial⟩ ?_
 by_cases hc7 : r1.2.Code = 0
 ·rw [if_pos hc7] at h
  refine gk 19 (r1.2.Code != 0) false (bne_eq_false_iff_eq.2 hc7) ?_
  refine gb [4, 5, 6, 7, 8, 9, 10] [(26, .bool ((l1_1.length : Int) != (l0.length : Int))), (25, .bool ((l1_1.length : Int) != (l0.length : Int))), (24, vI (l0.length : Int)), (23, .slice A0 l0.length c0), (22, vI (l1_1.length : Int)), (21, .slice A1_1 l1_1.length c1_1), (20, pP b1 1)] [.loaded ⟨b1, 1, none⟩ (.slice A1_1 l1_1.length c1_1)] ⟨hS.c 3, trivial⟩ ?_
  refine gn hK26 ?_
  by_cases hc8 : (l1_1.length : Int) = (l0.length : Int)
  ·rw [if_pos hc8] at h
   refine wk 26 ((l1_1.length : Int) != (l0.length : Int)) false (bne_eq_false_iff_eq.2 hc8) ?_
   refine we_false (by kernel_rfl) ?_
   have hS26 := hS.bring 2 rfl
   have hS27 := hS26.bring 3 rfl
   have hS28 := hS27.bring 3 rfl
   have hS29 := hS28.takeN 3
   obtain rfl := si h
   exact we_skip fun a hF => hQ _ _ _ (Outs.again ⟨hS29, hF.weaken ea⟩)
  ·rw [if_neg hc8] at h
   refine wk 26 ((l1_1.length : Int) != (l0.length : Int)) true (bne_iff_ne.2 hc8) ?_
   refine we_true (by kernel_rfl) ?_
   refine ws fun K27 hK27 => ?_
   refine wr [(0, 0)] ?_
   refine gb0 [0] [(4, .bool false)] ?_
   refine gn hK27 ?_
   have hS30 := hS.takeN 0
   obtain rfl := si h
   exact we_ret fun a hF => hQ _ _ _ (Outs.out nofun ⟨rfl, (pr0 [.tmp 4] [.bool false] ⟨rfl, hS30⟩) a hF⟩)
 ·rw [if_neg hc7] at h
  refine gk 19 (r1.2.Code != 0) true (bne_iff_ne.2 hc7) ?_
  refine gb0 [4, 5, 6, 7, 8, 9, 10] [(26, .bool true), (25, undef), (24, undef), (23, undef), (22, undef), (21, undef), (20, undef)] ?_
  refine gn hK26 ?_
  refine we_true (by kernel_rfl) ?_
  refine ws fun K28 hK28 => ?_
  refine wr [(0, 0)] ?_
  refine gb0 [0] [(4, .bool false)] ?_
  refine gn hK28 ?_
  have hS31 := hS.takeN 0
  obtain rfl := si h
  exact we_ret fun a hF => hQ _ _ _ (Outs.out nofun ⟨rfl, (pr0 [.tmp 4] [.bool false] ⟨rfl, hS31⟩) a hF⟩)
abbrev punctualref_Shown.A4 (w0 : World) (l0 : List SIns) (A0 : Option Addr) (c0 : Nat) (x1_0 : Int) (l1_1 : List Int) (A1_1 : Option Addr) (c1_1 : Nat) (b1 : Nat) (px1 : PImage) (pb1 : Nat) (Z1 : Option Addr) (cz1 : Nat) : Nat → Act → World → Prop := fun (s : Nat) a w => St w0 w [Own.blk pb1 (.cells #[.slice A0 l0.length c0, (.slice Z1 px1.m_Regions.length cz1)] 70 (0, 0)), Own.blk b1 (.cells #[vI x1_0, .slice A1_1 l1_1.length c1_1] 42 (0, 0)), Own.of (.slice Z1 px1.m_Regions.length cz1) 74 px1.m_Regions] ∧ Frm 63 a [(0, .slice A0 l0.length c0), (3, pP b1 0), (5, pP pb1 0), (7, .func (.func 37) #[] #[pP b1 0]), (29, .slice A1_1 l1_1.length c1_1), (30, vI (l1_1.length : Int)), (31, vI (s : Int))]
abbrev punctualref_Shown.B4 (w0 : World) (l0 : List SIns) (A0 : Option Addr) (c0 : Nat) (x1_0 : Int) (l1_1 : List Int) (A1_1 : Option Addr) (c1_1 : Nat) (b1 : Nat) (px1 : PImage) (pb1 : Nat) (Z1 : Option Addr) (cz1 : Nat) : (Unit ⊕ Bool) → Exit → Act → World → Prop := Exits 0 (fun (s : Unit) a w => St w0 w [Own.blk pb1 (.cells #[.slice A0 l0.length c0, (.slice Z1 px1.m_Regions.length cz1)] 70 (0, 0)), Own.blk b1 (.cells #[vI x1_0, .slice A1_1 l1_1.length c1_1] 42 (0, 0)), Own.of (.slice Z1 px1.m_Regions.length cz1) 74 px1.m_Regions] ∧ Frm 63 a [(0, .slice A0 l0.length c0), (3, pP b1 0), (5, pP pb1 0), (7, .func (.func 37) #[] #[pP b1 0])]) (Rets Tryd.prog Tryd.f16 (punctualref_Shown.Post w0))
theorem punctualref_Shown_r4 (K : Nat) (w0 : World) (l0 : List SIns) (A0 : Option Addr) (c0 : Nat) (x1_0 : Int) (l1_1 : List Int) (A1_1 : Option Addr) (c1_1 : Nat) (hR0 : RdL w0 A0 l0) (hL0 : l0.length ≤ c0) (hR1_1 : RdL w0 A1_1 l1_1) (hL1_1 : l1_1.length ≤ c1_1) (b1 : Nat) (r1 : (Option PImage) × SFault) (px1 : PImage) (pb1 : Nat) (b3 : Nat) (Z1 : Option Addr) (cz1 : Nat) (s : Nat) (o : Nat ⊕ (Unit ⊕ Bool)) (h : punctualref_Shown.r4 l1_1 s = some o) (a : Act) (w : World) (hA : punctualref_Shown.A4 w0 l0 A0 c0 x1_0 l1_1 A1_1 c1_1 b1 px1 pb1 Z1 cz1 s a w) (Q : Exit → Act → World → Prop) (hQ : ∀ x a w, Outs (punctualref_Shown.A4 w0 l0 A0 c0 x1_0 l1_1 A1_1 c1_1 b1 px1 pb1 Z1 cz1) (punctualref_Shown.B4 w0 l0 A0 c0 x1_0 l1_1 A1_1 c1_1 b1 px1 pb1 Z1 cz1) o x a w → Q x a w) : (subF Tryd.f16 [1, 1, 1, 1, 0, 1, 0, 0]).wp Tryd.prog Q a w := by
 obtain ⟨i3, hs⟩ : ∃ z, z = s := ⟨s, rfl⟩
 subst hs
 obtain ⟨hS, hF⟩ := hA
 replace hS : St w0 w [Own.blk pb1 (.cells #[.slice A0 l0.length c0, (.slice Z1 px1.m_Regions.length cz1)] 70 (0, 0)), Own.blk b1 (.cells #[vI x1_0, .slice A1_1 l1_1.length c1_1] 42 (0, 0)), Own.of (.slice Z1 px1.m_Regions.length cz1) 74 px1.m_Regions] := hS
 simp only [punctualref_Shown.r4] at h
 refine (?_ : WE Tryd.prog 63 (subF Tryd.f16 [1, 1, 1, 1, 0, 1, 0, 0]) Q [(0, .slice A0 l0.length c0), (3, pP b1 0), (5, pP pb1 0), (7, .func (.func 37) #[] #[pP b1 0]), (29, .slice A1_1 l1_1.length c1_1), (30, vI (l1_1.length : Int)), (31, vI (i3 : Int))] w) a hF
 clear hF a
 refine ws fun K32 hK32 => ?_
 refine wr [(0, 0)] ?_
 refine gb0 [0] [(32, .bool (decide ((i3 : Int) < (l1_1.length : Int))))] ?_
 refine gn hK32 ?_
 refine ws fun K33 hK33 => ?_
 by_cases hc9 : (i3 : Int) < (l1_1.length : Int)
 ·rw [if_pos hc9] at h
  refine wk 32 (decide ((i3 : Int) < (l1_1.length : Int))) true (decide_eq_true hc9) ?_
  refine we_true (by kernel_rfl) ?_
  refine we_skip fun a hF => hK33 _ _ ?_ a hF
  refine ws fun K34 hK34 => ?_
  refine we_block ?_
  refine ws fun K35 hK35 => ?_
  refine wr [(0, 0), (1, 0), (2, 0)] ?_
  rcases hx6 : l1_1[i3]? with _ | e3
  ·rw [hx6] at h; cases h
  rw [hx6] at h
  simp only [] at h
  refine gi 33 0 37 3 1 l1_1.length c1_1 (.tmp 29) (.tmp 31) A1_1 .i64 (i3 : Int) i3 ((hS.rd hR1_1).eqSome (pos_of_get hx6)) rfl (lt_of_get hx6) ?_
  refine gb [1, 2] [(9, vI e3), (34, vI e3)] [.loaded ⟨blkOf A1_1, offOf A1_1 + i3 * 1, none⟩ (vI e3)] ⟨RdL.cell (j := 0) (hS.rd hR1_1) hx6 rfl, trivial⟩ ?_
  refine gn hK35 ?_
  refine ws fun K36 hK36 => ?_
  refine wr [(0, 0), (1, 0), (2, 0), (3, 0), (4, 0), (5, 0)] ?_
  refine gb0 [0, 1, 2] [(37, .bool (decide (e3 < 0))), (36, .bool (decide (e3 < 0))), (35, vI e3)] ?_
  by_cases hc10 : e3 < 0
  ·rw [if_pos hc10] at h
   refine gk 37 (decide (e3 < 0)) true (decide_eq_true hc10) ?_
   refine gb0 [3, 4, 5] [(40, .bool true), (39, undef), (38, undef)] ?_
   refine gn hK36 ?_
   refine we_true (by kernel_rfl) ?_
   refine ws fun K37 hK37 => ?_
   refine wr [(0, 0)] ?_
   refine gb0 [0] [(4, .bool false)] ?_
   refine gn hK37 ?_
   have hS36 := hS.takeN 0
   obtain rfl := si h
   exact we_ret fun a hF => hQ _ _ _ (Outs.out nofun (Exits.on ⟨rfl, (pr0 [.tmp 4] [.bool false] ⟨rfl, hS36⟩) a hF⟩))
  ·rw [if_neg hc10] at h
   refine gk 37 (decide (e3 < 0)) false (decide_eq_false hc10) ?_
   refine gb0 [3, 4, 5] [(40, .bool (decide (e3 > 1099511627776))), (39, .bool (decide (e3 > 1099511627776))), (38, vI e3)] ?_
   refine gn hK36 ?_
   by_cases hc11 : e3 > 1099511627776
   ·rw [if_pos hc11] at h
    refine wk 40 (decide (e3 > 1099511627776)) true (decide_eq_true hc11) ?_
    refine we_true (by kernel_rfl) ?_
    refine ws fun K38 hK38 => ?_
    refine wr [(0, 0)] ?_
    refine gb0 [0] [(4, .bool false)] ?_
    refine gn hK38 ?_
    have hS37 := hS.takeN 0
    obtain rfl := si h
    exact we_ret fun a hF => hQ _ _ _ (Outs.out nofun (Exits.on ⟨rfl, (pr0 [.tmp 4] [.bool false] ⟨rfl, hS37⟩) a hF⟩))
   ·rw [if_neg hc11] at h
    refine wk 40 (decide (e3 > 1099511627776)) false (decide_eq_false hc11) ?_
    refine we_false (by kernel_rfl) ?_
    refine we_skip fun a hF => hK34 _ _ ?_ a hF
    refine wr [(0, 0), (1, 0)] ?_
    refine ge_addn (d := 41) (ty := 3) (x := (.tmp 31)) (y := (.const (vI 1))) (t := 3) (t2 := 3) (k := .i64) (m := i3) (by kernel_rfl) (by kernel_rfl) (by kernel_rfl) (by have h0 := hR1_1.small; omega) ?_
    refine gb0 [1] [(31, vI ((i3 + 1 : Nat) : Int))] ?_
    have hS38 := hS.bring 2 rfl
    have hS39 := hS38.bring 2 rfl
    have hS40 := hS39.bring 2 rfl
    obtain rfl := si h
    exact ge_nil fun a hF => hQ _ _ _ (Outs.again ⟨hS40, hF.weaken ea⟩)
 ·rw [if_neg hc9] at h
  refine wk 32 (decide ((i3 : Int) < (l1_1.length : Int))) false (decide_eq_false hc9) ?_
  refine we_false (by kernel_rfl) ?_
  have hS41 := hS.bring 2 rfl
  have hS42 := hS41.bring 2 rfl
  have hS43 := hS42.bring 2 rfl
  obtain rfl := si h
  exact we_exit fun a hF => hQ _ _ _ (Outs.out nofun (Exits.here ⟨hS43, hF.weaken ea⟩))
abbrev punctualref_Shown.A5 (w0 : World) (l0 : List SIns) (A0 : Option Addr) (c0 : Nat) (x1_0 : Int) (l1_1 : List Int) (A1_1 : Option Addr) (c1_1 : Nat) (b1 : Nat) (px1 : PImage) (pb1 : Nat) (Z1 : Option Addr) (cz1 : Nat) : Nat → Act → World → Prop := fun (s : Nat) a w => St w0 w [Own.blk pb1 (.cells #[.slice A0 l0.length c0, (.slice Z1 px1.m_Regions.length cz1)] 70 (0, 0)), Own.blk b1 (.cells #[vI x1_0, .slice A1_1 l1_1.length c1_1] 42 (0, 0)), Own.of (.slice Z1 px1.m_Regions.length cz1) 74 px1.m_Regions] ∧ Frm 63 a [(3, pP b1 0), (5, pP pb1 0), (7, .func (.func 37) #[] #[pP b1 0]), (43, vI (l0.length : Int)), (44, vI (s : Int))]
abbrev punctualref_Shown.B5 (w0 : World) (x1_0 : Int) (l1_1 : List Int) (A1_1 : Option Addr) (c1_1 : Nat) (b1 : Nat) : (Unit ⊕ Bool) → Exit → Act → World → Prop := Exits 2 (fun (s : Unit) a w => St w0 w [Own.blk b1 (.cells #[vI x1_0, .slice A1_1 l1_1.length c1_1] 42 (0, 0))] ∧ Frm 63 a [(3, pP b1 0), (7, .func (.func 37) #[] #[pP b1 0])]) (Rets Tryd.prog Tryd.f16 (punctualref_Shown.Post w0))
theorem punctualref_Shown_r5 (K : Nat) (w0 : World) (l0 : List SIns) (A0 : Option Addr) (c0 : Nat) (x1_0 : Int) (l1_1 : List Int) (A1_1 : Option Addr) (c1_1 : Nat) (hR0 : RdL w0 A0 l0) (hL0 : l0.length ≤ c0) (hR1_1 : RdL w0 A1_1 l1_1) (hL1_1 : l1_1.length ≤ c1_1) (b1 : Nat) (r1 : (Option PImage) × SFault) (px1 : PImage) (pb1 : Nat) (b3 : Nat) (Z1 : Option Addr) (cz1 : Nat) (s : Nat) (o : Nat ⊕ (Unit ⊕ Bool)) (h : punctualref_Shown.r5 K l0 x1_0 l1_1 px1 s = some o) (a : Act) (w : World) (hA : punctualref_Shown.A5 w0 l0 A0 c0 x1_0 l1_1 A1_1 c1_1 b1 px1 pb1 Z1 cz1 s a w) (Q : Exit → Act → World → Prop) (hQ : ∀ x a w, Outs (punctualref_Shown.A5 w0 l0 A0 c0 x1_0 l1_1 A1_1 c1_1 b1 px1 pb1 Z1 cz1) (punctualref_Shown.B5 w0 x1_0 l1_1 A1_1 c1_1 b1) o x a w → Q x a w) : (subF Tryd.f16 [1, 1, 1, 1, 1, 0, 1, 0, 0]).wp Tryd.prog Q a w := by
 obtain ⟨i4, hs⟩ : ∃ z, z = s := ⟨s, rfl⟩
 subst hs
 obtain ⟨hS, hF⟩ := hA
 replace hS : St w0 w [Own.blk pb1 (.cells #[.slice A0 l0.length c0, (.slice Z1 px1.m_Regions.length cz1)] 70 (0, 0)), Own.blk b1 (.cells #[vI x1_0, .slice A1_1 l1_1.length c1_1] 42 (0, 0)), Own.of (.slice Z1 px1.m_Regions.length cz1) 74 px1.m_Regions] := hS
 simp only [punctualref_Shown.r5] at h
 refine (?_ : WE Tryd.prog 63 (subF Tryd.f16 [1, 1, 1, 1, 1, 0, 1, 0, 0]) Q [(3, pP b1 0), (5, pP pb1 0), (7, .func (.func 37) #[] #[pP b1 0]), (43, vI (l0.length : Int)), (44, vI (i4 : Int))] w) a hF
 clear hF a
 refine ws fun K41 hK41 => ?_
 refine wr [(0, 0)] ?_
 refine gb0 [0] [(45, .bool (decide ((i4 : Int) < (l0.length : Int))))] ?_
 refine gn hK41 ?_
 refine ws fun K42 hK42 => ?_
 by_cases hc12 : (i4 : Int) < (l0.length : Int)
 ·rw [if_pos hc12] at h
  refine wk 45 (decide ((i4 : Int) < (l0.length : Int))) true (decide_eq_true hc12) ?_
  refine we_true (by kernel_rfl) ?_
  refine we_skip fun a hF => hK42 _ _ ?_ a hF
  refine ws fun K43 hK43 => ?_
  refine we_block ?_
  refine ws fun K44 hK44 => ?_
  refine wr [(0, 0), (1, 0)] ?_
  refine gb0 [0, 1] [(10, vI (i4 : Int)), (46, vI (i4 : Int))] ?_
  refine gn hK44 ?_
  refine ws fun K45 hK45 => ?_
  refine we_draws (by kernel_rfl) [(0, 0), (1, 0), (2, 0), (3, 0), (4, 0), (5, 0), (6, 0), (7, 0), (8, 1), (9, 0)] (by kernel_rfl) ?_
  have hS48 := hS.drew
  refine gb [0, 1, 2] [(49, vI (i4 : Int)), (48, .slice A1_1 l1_1.length c1_1), (47, pP b1 1)] [.loaded ⟨b1, 1, none⟩ (.slice A1_1 l1_1.length c1_1)] ⟨hS48.c 1, trivial⟩ ?_
  rcases hx7 : l1_1[i4]? with _ | e4
  ·rw [hx7] at h; cases h
  rw [hx7] at h
  simp only [] at h
  refine gi 50 0 37 3 1 l1_1.length c1_1 (.tmp 48) (.tmp 49) A1_1 .i64 (i4 : Int) i4 ((hS48.rd hR1_1).eqSome (pos_of_get hx7)) rfl (lt_of_get hx7) ?_
  rcases hq8 : punctualref_Image_Left.f K l0 px1.m_Regions (i4 : Int) x1_0 l1_1 with _ | r3
  ·rw [hq8] at h; cases h
  rw [hq8] at h
  simp only [] at h
  refine gb [4, 5, 6, 7] [(54, .func (.func 37) #[] #[pP b1 0]), (53, vI (i4 : Int)), (52, pP pb1 0), (51, vI e4)] [.loaded ⟨blkOf A1_1, offOf A1_1 + i4 * 1, none⟩ (vI e4)] ⟨RdL.cell (j := 0) (hS48.rd hR1_1) hx7 rfl, trivial⟩ ?_
  refine ge_call (d := some 55) (f := 38) (args := #[pP pb1 0, vI (i4 : Int), .func (.func 37) #[] #[pP b1 0]]) (by kernel_rfl) (punctualref_Image_Left_ok K pb1 l0 A0 c0 px1.m_Regions Z1 cz1 (i4 : Int) b1 x1_0 l1_1 A1_1 c1_1 _ (hS48.rd hR0) hL0 (hS48.rdAt 2 rfl) (hS48.capAt 2 rfl) (hS48.globOf 0 rfl) (hS48.rd hR1_1) hL1_1 (hS48.globOf 1 rfl) _ hq8) ?_
  rintro _ w13 ⟨rfl, hS49⟩
  refine ⟨_, rfl, hS49.below, ?_⟩
  have hS50 := hS48.call hS49
  refine gb0 [9] [(56, .bool (decide (e4 < r3)))] ?_
  refine gn hK45 ?_
  by_cases hc13 : e4 < r3
  ·rw [if_pos hc13] at h
   refine wk 56 (decide (e4 < r3)) true (decide_eq_true hc13) ?_
   refine we_true (by kernel_rfl) ?_
   refine ws fun K46 hK46 => ?_
   refine wr [(0, 0)] ?_
   refine gb0 [0] [(4, .bool false)] ?_
   refine gn hK46 ?_
   have hS51 := hS50.takeN 0
   obtain rfl := si h
   exact we_ret fun a hF => hQ _ _ _ (Outs.out nofun (Exits.on ⟨rfl, (pr0 [.tmp 4] [.bool false] ⟨rfl, hS51⟩) a hF⟩))
  ·rw [if_neg hc13] at h
   refine wk 56 (decide (e4 < r3)) false (decide_eq_false hc13) ?_
   refine we_false (by kernel_rfl) ?_
   refine we_skip fun a hF => hK43 _ _ ?_ a hF
   refine wr [(0, 0), (1, 0)] ?_
   refine ge_addn (d := 57) (ty := 3) (x := (.tmp 44)) (y := (.const (vI 1))) (t := 3) (t2 := 3) (k := .i64) (m := i4) (by kernel_rfl) (by kernel_rfl) (by kernel_rfl) (by have h0 := hR0.small; omega) ?_
   refine gb0 [1] [(44, vI ((i4 + 1 : Nat) : Int))] ?_
   have hS52 := hS50.bring 2 rfl
   have hS53 := hS52.bring 2 rfl
   have hS54 := hS53.bring 2 rfl
   obtain rfl := si h
   exact ge_nil fun a hF => hQ _ _ _ (Outs.again ⟨hS54, hF.weaken ea⟩)
 ·rw [if_neg hc12] at h
  refine wk 45 (decide ((i4 : Int) < (l0.length : Int))) false (decide_eq_false hc12) ?_
  refine we_false (by kernel_rfl) ?_
  have hS55 := hS.bring 1 rfl
  have hS56 := hS55.takeN 1
  obtain rfl := si h
  exact we_exit fun a hF => hQ _ _ _ (Outs.out nofun (Exits.here ⟨hS56, hF.weaken ea⟩))
theorem punctualref_Shown_ok (K : Nat) (l0 : List SIns) (A0 : Option Addr) (c0 : Nat) (x1_0 : Int) (l1_1 : List Int) (A1_1 : Option Addr) (c1_1 : Nat) (w0 : World) (hR0 : RdL w0 A0 l0) (hL0 : l0.length ≤ c0) (hR1_1 : RdL w0 A1_1 l1_1) (hL1_1 : l1_1.length ≤ c1_1) (r : Bool) (h : punctualref_Shown.f K l0 x1_0 l1_1 = some r) :
  Calls Tryd.prog 16 #[.slice A0 l0.length c0, .agg #[vI x1_0, .slice A1_1 l1_1.length c1_1]] w0 (punctualref_Shown.Post w0 r) := by
 have hS := St.start w0
 unfold punctualref_Shown.f at h
 refine calls_enter (n := 63) (args := [.slice A0 l0.length c0, .agg #[vI x1_0, .slice A1_1 l1_1.length c1_1]]) (fn := Tryd.f16) rfl rfl rfl rfl ?_
 show WE _ _ _ _ [(0, .slice A0 l0.length c0), (1, .agg #[vI x1_0, .slice A1_1 l1_1.length c1_1])] _
 refine ws fun K1 hK1 => ?_
 refine wr [(0, 1), (1, 0)] ?_
 refine gw (some 3) (.cells #[vI x1_0, .slice A1_1 l1_1.length c1_1] 42) (fun b => pP b 0) hS fun b1 w1 hx1 hS1 => ?_
 refine gb0 [1] [(4, .bool false)] ?_
 refine gn hK1 ?_
 refine ws fun K2 hK2 => ?_
 refine wr [(0, 0), (1, 1), (2, 0), (3, 0), (4, 0), (5, 1), (6, 0), (7, 2)] ?_
 rcases hq1 : punctualref_ReadImage.f K l0 with _ | r1
 ·rw [hq1] at h; cases h
 rw [hq1] at h
 simp only [] at h
 refine gb0 [0] [(12, .slice A0 l0.length c0)] ?_
 refine ge_call (d := some 13) (f := 11) (args := #[.slice A0 l0.length c0]) (by kernel_rfl) (punctualref_ReadImage_ok K l0 A0 c0 _ (hS1.rd hR0) hL0 _ hq1) ?_
 rintro _ w2 hP1
 unfold punctualref_ReadImage.Post at hP1
 rcases hro1 : r1.1 with _ | px1
 ·rw [hro1] at hP1 h
  simp only [] at hP1 h
  obtain ⟨rfl, hS2⟩ := hP1
  refine ⟨_, rfl, hS2.below, ?_⟩
  have hS3 := hS1.call hS2
  refine gb0 [2, 3, 4] [(15, .agg #[vI r1.2.Code, vI r1.2.At]), (14, .pointer none), (11, .tuple #[.pointer none, .agg #[vI r1.2.Code, vI r1.2.At]])] ?_
  refine gw (some 6) (.cells #[vI 0, vI 0] 25) (fun b => pP b 0) hS3 fun b2 w3 hx2 hS4 => ?_
  refine gb0 [6] [(5, .pointer none)] ?_
  refine gs b2 0 #[vI 0, vI 0] 25 [vI r1.2.Code, vI r1.2.At] hS4 fun w4 hS5 => ?_
  have hS6 : St w0 w4 [Own.blk b2 (.cells #[vI r1.2.Code, vI r1.2.At] 25 (0, 0)), Own.blk b1 (.cells #[vI x1_0, .slice A1_1 l1_1.length c1_1] 42 (0, 0))] := hS5
  refine gn hK2 ?_
  refine ws fun K3 hK3 => ?_
  rcases hq2 : punctualref_Shown.p0 l0 l1_1 r1 with _ | (_ | rr3)
  ·rw [hq2] at h; cases h
  ·rw [hq2] at h
   simp only [] at h
   refine we_keep (e' := [(0, .slice A0 l0.length c0), (1, .agg #[vI x1_0, .slice A1_1 l1_1.length c1_1]), (3, pP b1 0), (4, .bool false), (5, .pointer none), (6, pP b2 0), (11, .tuple #[.pointer none, .agg #[vI r1.2.Code, vI r1.2.At]]), (12, .slice A0 l0.length c0), (13, .tuple #[.pointer none, .agg #[vI r1.2.Code, vI r1.2.At]]), (14, .pointer none), (15, .agg #[vI r1.2.Code, vI r1.2.At])]) ea (punctualref_Shown_p0 K w0 l0 A0 c0 x1_0 l1_1 A1_1 c1_1 hR0 hL0 hR1_1 hL1_1 b1 r1 b2 _ hq2 _ hS6 _ ?_)
   rintro _ a w5 ⟨rfl, hS11, hF⟩
   replace hS11 : St w0 w5 [Own.blk b1 (.cells #[vI x1_0, .slice A1_1 l1_1.length c1_1] 42 (0, 0))] := hS11
   refine hK3 [(0, .slice A0 l0.length c0), (3, pP b1 0), (5, .pointer none)] w5 ?_ a hF
   refine ws fun K7 hK7 => ?_
   refine wr [(0, 0), (1, 0)] ?_
   refine gb0 [0, 1] [(7, .func (.func 37) #[] #[pP b1 0]), (27, .func (.func 37) #[] #[pP b1 0])] ?_
   refine gn hK7 ?_
   refine ws fun K8 hK8 => ?_
   refine ws fun K9 hK9 => ?_
   refine wr [(0, 0), (1, 0), (2, 0), (3, 0)] ?_
   refine gb [0, 1, 2, 3] [(31, vI 0), (30, vI (l1_1.length : Int)), (29, .slice A1_1 l1_1.length c1_1), (28, pP b1 1)] [.loaded ⟨b1, 1, none⟩ (.slice A1_1 l1_1.length c1_1)] ⟨hS11.c 0, trivial⟩ ?_
   refine gn hK9 ?_
   refine we_block ?_
   rcases hq3 : iter (punctualref_Shown.r1 l1_1) K 0 with _ | (_ | rr2)
   ·rw [hq3] at h; cases h
   ·rw [hq3] at h
    simp only [] at h
    refine we_iter (A := punctualref_Shown.A1 w0 l0 A0 c0 x1_0 l1_1 A1_1 c1_1 b1) (B := punctualref_Shown.B1 w0 l0 A0 c0 x1_0 l1_1 A1_1 c1_1 b1) hq3 (fun a hF => ⟨hS11, hF.weaken ea⟩) (fun s o hf a w hA Q hQ => punctualref_Shown_r1 K w0 l0 A0 c0 x1_0 l1_1 A1_1 c1_1 hR0 hL0 hR1_1 hL1_1 b1 r1 b2 s o hf a w hA Q hQ) ?_
    rintro _ a w6 _ ⟨rfl, hS14, hF⟩
    replace hS14 : St w0 w6 [Own.blk b1 (.cells #[vI x1_0, .slice A1_1 l1_1.length c1_1] 42 (0, 0))] := hS14
    refine hK8 [(0, .slice A0 l0.length c0), (3, pP b1 0), (5, .pointer none), (7, .func (.func 37) #[] #[pP b1 0])] w6 ?_ a hF
    refine ws fun K17 hK17 => ?_
    refine ws fun K18 hK18 => ?_
    refine wr [(0, 0), (1, 0), (2, 0)] ?_
    refine gb0 [0, 1, 2] [(44, vI 0), (43, vI (l0.length : Int)), (42, .slice A0 l0.length c0)] ?_
    refine gn hK18 ?_
    refine we_block ?_
    rcases hq4 : iter (punctualref_Shown.r2 l0 l1_1) K 0 with _ | (_ | rr1)
    ·rw [hq4] at h; cases h
    ·rw [hq4] at h
     simp only [] at h
     refine we_iter (A := punctualref_Shown.A2 w0 l0 x1_0 l1_1 A1_1 c1_1 b1) (B := punctualref_Shown.B2 w0 x1_0 l1_1 A1_1 c1_1 b1) hq4 (fun a hF => ⟨hS14, hF.weaken ea⟩) (fun s o hf a w hA Q hQ => punctualref_Shown_r2 K w0 l0 A0 c0 x1_0 l1_1 A1_1 c1_1 hR0 hL0 hR1_1 hL1_1 b1 r1 b2 s o hf a w hA Q hQ) ?_
     rintro _ a w7 _ ⟨rfl, hS16, hF⟩
     replace hS16 : St w0 w7 [Own.blk b1 (.cells #[vI x1_0, .slice A1_1 l1_1.length c1_1] 42 (0, 0))] := hS16
     refine hK17 [(3, pP b1 0), (7, .func (.func 37) #[] #[pP b1 0])] w7 ?_ a hF
     refine ws fun K24 hK24 => ?_
     refine we_draws (by kernel_rfl) [(0, 0), (1, 0), (2, 0), (3, 1), (4, 0), (5, 0)] (by kernel_rfl) ?_
     have hS17 := hS16.drew
     rcases hq5 : punctualref_Shown_1.f 0 x1_0 l1_1 with _ | r2
     ·rw [hq5] at h; cases h
     rw [hq5] at h
     simp only [] at h
     refine gb [0, 1, 2] [(60, .func (.func 37) #[] #[pP b1 0]), (59, vI x1_0), (58, pP b1 0)] [.loaded ⟨b1, 0, none⟩ (vI x1_0)] ⟨hS17.c 0, trivial⟩ ?_
     refine ge_call (d := some 61) (f := 37) (args := #[vI 0, pP b1 0]) (by kernel_rfl) (punctualref_Shown_1_ok 0 b1 x1_0 l1_1 A1_1 c1_1 _ (hS17.rd hR1_1) hL1_1 (hS17.globOf 0 rfl) _ hq5) ?_
     rintro _ w8 ⟨rfl, hS18⟩
     refine ⟨_, rfl, hS18.below, ?_⟩
     have hS19 := hS17.call hS18
     refine gb0 [4, 5] [(4, .bool (decide (x1_0 ≥ r2))), (62, .bool (decide (x1_0 ≥ r2)))] ?_
     refine gn hK24 ?_
     have hS20 := hS19.takeN 0
     obtain rfl := si h
     exact we_ret (pr0 [.tmp 4] [.bool (decide (x1_0 ≥ r2))] ⟨rfl, hS20⟩)
    ·rw [hq4] at h
     simp only [] at h
     refine we_iter (A := punctualref_Shown.A2 w0 l0 x1_0 l1_1 A1_1 c1_1 b1) (B := punctualref_Shown.B2 w0 x1_0 l1_1 A1_1 c1_1 b1) hq4 (fun a hF => ⟨hS14, hF.weaken ea⟩) (fun s o hf a w hA Q hQ => punctualref_Shown_r2 K w0 l0 A0 c0 x1_0 l1_1 A1_1 c1_1 hR0 hL0 hR1_1 hL1_1 b1 r1 b2 s o hf a w hA Q hQ) ?_
     rintro _ a w1 _ ⟨rfl, hb⟩
     obtain rfl := si h
     exact hb
   ·rw [hq3] at h
    simp only [] at h
    refine we_iter (A := punctualref_Shown.A1 w0 l0 A0 c0 x1_0 l1_1 A1_1 c1_1 b1) (B := punctualref_Shown.B1 w0 l0 A0 c0 x1_0 l1_1 A1_1 c1_1 b1) hq3 (fun a hF => ⟨hS11, hF.weaken ea⟩) (fun s o hf a w hA Q hQ => punctualref_Shown_r1 K w0 l0 A0 c0 x1_0 l1_1 A1_1 c1_1 hR0 hL0 hR1_1 hL1_1 b1 r1 b2 s o hf a w hA Q hQ) ?_
    rintro _ a w1 _ ⟨rfl, hb⟩
    obtain rfl := si h
    exact hb
  ·rw [hq2] at h
   simp only [] at h
   refine we_keep (e' := [(0, .slice A0 l0.length c0), (1, .agg #[vI x1_0, .slice A1_1 l1_1.length c1_1]), (3, pP b1 0), (4, .bool false), (5, .pointer none), (6, pP b2 0), (11, .tuple #[.pointer none, .agg #[vI r1.2.Code, vI r1.2.At]]), (12, .slice A0 l0.length c0), (13, .tuple #[.pointer none, .agg #[vI r1.2.Code, vI r1.2.At]]), (14, .pointer none), (15, .agg #[vI r1.2.Code, vI r1.2.At])]) ea (punctualref_Shown_p0 K w0 l0 A0 c0 x1_0 l1_1 A1_1 c1_1 hR0 hL0 hR1_1 hL1_1 b1 r1 b2 _ hq2 _ hS6 _ ?_)
   rintro _ a w1 ⟨_, rfl, hb⟩
   obtain rfl := si h
   exact hb
 ·rw [hro1] at hP1 h
  simp only [] at hP1 h
  obtain ⟨pb1, pv1, rfl, hS21⟩ := hP1
  refine ⟨_, rfl, hS21.below, ?_⟩
  have hS22 := hS1.call hS21
  refine gb0 [2, 3, 4] [(15, .agg #[vI r1.2.Code, vI r1.2.At]), (14, pP pb1 0), (11, .tuple #[pP pb1 0, .agg #[vI r1.2.Code, vI r1.2.At]])] ?_
  refine gw (some 6) (.cells #[vI 0, vI 0] 25) (fun b => pP b 0) hS22 fun b3 w9 hx5 hS23 => ?_
  refine gb0 [6] [(5, pP pb1 0)] ?_
  refine gs b3 0 #[vI 0, vI 0] 25 [vI r1.2.Code, vI r1.2.At] hS23 fun w10 hS24 => ?_
  have hS25 : St w0 w10 [Own.blk b3 (.cells #[vI r1.2.Code, vI r1.2.At] 25 (0, 0)), Own.blk pb1 (.cells #[.slice A0 l0.length c0, pv1] 70 (0, 0)), Own.of pv1 74 px1.m_Regions, Own.blk b1 (.cells #[vI x1_0, .slice A1_1 l1_1.length c1_1] 42 (0, 0))] := hS24
  refine gn hK2 ?_
  refine ws fun K25 hK25 => ?_
  obtain ⟨Z1, cz1, rfl⟩ := hS25.open 2 rfl
  rcases hq6 : punctualref_Shown.p3 l0 l1_1 r1 with _ | (_ | rr6)
  ·rw [hq6] at h; cases h
  ·rw [hq6] at h
   simp only [] at h
   refine we_keep (e' := [(0, .slice A0 l0.length c0), (1, .agg #[vI x1_0, .slice A1_1 l1_1.length c1_1]), (3, pP b1 0), (4, .bool false), (5, pP pb1 0), (6, pP b3 0), (11, .tuple #[pP pb1 0, .agg #[vI r1.2.Code, vI r1.2.At]]), (12, .slice A0 l0.length c0), (13, .tuple #[pP pb1 0, .agg #[vI r1.2.Code, vI r1.2.At]]), (14, pP pb1 0), (15, .agg #[vI r1.2.Code, vI r1.2.At])]) ea (punctualref_Shown_p3 K w0 l0 A0 c0 x1_0 l1_1 A1_1 c1_1 hR0 hL0 hR1_1 hL1_1 b1 r1 px1 pb1 b3 Z1 cz1 _ hq6 _ hS25 _ ?_)
   rintro _ a w11 ⟨rfl, hS32, hF⟩
   replace hS32 : St w0 w11 [Own.blk pb1 (.cells #[.slice A0 l0.length c0, (.slice Z1 px1.m_Regions.length cz1)] 70 (0, 0)), Own.blk b1 (.cells #[vI x1_0, .slice A1_1 l1_1.length c1_1] 42 (0, 0)), Own.of (.slice Z1 px1.m_Regions.length cz1) 74 px1.m_Regions] := hS32
   refine hK25 [(0, .slice A0 l0.length c0), (3, pP b1 0), (5, pP pb1 0)] w11 ?_ a hF
   refine ws fun K29 hK29 => ?_
   refine wr [(0, 0), (1, 0)] ?_
   refine gb0 [0, 1] [(7, .func (.func 37) #[] #[pP b1 0]), (27, .func (.func 37) #[] #[pP b1 0])] ?_
   refine gn hK29 ?_
   refine ws fun K30 hK30 => ?_
   refine ws fun K31 hK31 => ?_
   refine wr [(0, 0), (1, 0), (2, 0), (3, 0)] ?_
   refine gb [0, 1, 2, 3] [(31, vI 0), (30, vI (l1_1.length : Int)), (29, .slice A1_1 l1_1.length c1_1), (28, pP b1 1)] [.loaded ⟨b1, 1, none⟩ (.slice A1_1 l1_1.length c1_1)] ⟨hS32.c 1, trivial⟩ ?_
   refine gn hK31 ?_
   refine we_block ?_
   have hS33 := hS32.bring 2 rfl
   have hS34 := hS33.bring 2 rfl
   have hS35 := hS34.bring 2 rfl
   rcases hq7 : iter (punctualref_Shown.r4 l1_1) K 0 with _ | (_ | rr5)
   ·rw [hq7] at h; cases h
   ·rw [hq7] at h
    simp only [] at h
    refine we_iter (A := punctualref_Shown.A4 w0 l0 A0 c0 x1_0 l1_1 A1_1 c1_1 b1 px1 pb1 Z1 cz1) (B := punctualref_Shown.B4 w0 l0 A0 c0 x1_0 l1_1 A1_1 c1_1 b1 px1 pb1 Z1 cz1) hq7 (fun a hF => ⟨hS35, hF.weaken ea⟩) (fun s o hf a w hA Q hQ => punctualref_Shown_r4 K w0 l0 A0 c0 x1_0 l1_1 A1_1 c1_1 hR0 hL0 hR1_1 hL1_1 b1 r1 px1 pb1 b3 Z1 cz1 s o hf a w hA Q hQ) ?_
    rintro _ a w12 _ ⟨rfl, hS44, hF⟩
    replace hS44 : St w0 w12 [Own.blk pb1 (.cells #[.slice A0 l0.length c0, (.slice Z1 px1.m_Regions.length cz1)] 70 (0, 0)), Own.blk b1 (.cells #[vI x1_0, .slice A1_1 l1_1.length c1_1] 42 (0, 0)), Own.of (.slice Z1 px1.m_Regions.length cz1) 74 px1.m_Regions] := hS44
    refine hK30 [(0, .slice A0 l0.length c0), (3, pP b1 0), (5, pP pb1 0), (7, .func (.func 37) #[] #[pP b1 0])] w12 ?_ a hF
    refine ws fun K39 hK39 => ?_
    refine ws fun K40 hK40 => ?_
    refine wr [(0, 0), (1, 0), (2, 0)] ?_
    refine gb0 [0, 1, 2] [(44, vI 0), (43, vI (l0.length : Int)), (42, .slice A0 l0.length c0)] ?_
    refine gn hK40 ?_
    refine we_block ?_
    have hS45 := hS44.bring 2 rfl
    have hS46 := hS45.bring 2 rfl
    have hS47 := hS46.bring 2 rfl
    rcases hq9 : iter (punctualref_Shown.r5 K l0 x1_0 l1_1 px1) K 0 with _ | (_ | rr4)
    ·rw [hq9] at h; cases h
    ·rw [hq9] at h
     simp only [] at h
     refine we_iter (A := punctualref_Shown.A5 w0 l0 A0 c0 x1_0 l1_1 A1_1 c1_1 b1 px1 pb1 Z1 cz1) (B := punctualref_Shown.B5 w0 x1_0 l1_1 A1_1 c1_1 b1) hq9 (fun a hF => ⟨hS47, hF.weaken ea⟩) (fun s o hf a w hA Q hQ => punctualref_Shown_r5 K w0 l0 A0 c0 x1_0 l1_1 A1_1 c1_1 hR0 hL0 hR1_1 hL1_1 b1 r1 px1 pb1 b3 Z1 cz1 s o hf a w hA Q hQ) ?_
     rintro _ a w14 _ ⟨rfl, hS57, hF⟩
     replace hS57 : St w0 w14 [Own.blk b1 (.cells #[vI x1_0, .slice A1_1 l1_1.length c1_1] 42 (0, 0))] := hS57
     refine hK39 [(3, pP b1 0), (7, .func (.func 37) #[] #[pP b1 0])] w14 ?_ a hF
     refine ws fun K47 hK47 => ?_
     refine we_draws (by kernel_rfl) [(0, 0), (1, 0), (2, 0), (3, 1), (4, 0), (5, 0)] (by kernel_rfl) ?_
     have hS58 := hS57.drew
     rcases hq10 : punctualref_Shown_1.f 0 x1_0 l1_1 with _ | r4
     ·rw [hq10] at h; cases h
     rw [hq10] at h
     simp only [] at h
     refine gb [0, 1, 2] [(60, .func (.func 37) #[] #[pP b1 0]), (59, vI x1_0), (58, pP b1 0)] [.loaded ⟨b1, 0, none⟩ (vI x1_0)] ⟨hS58.c 0, trivial⟩ ?_
     refine ge_call (d := some 61) (f := 37) (args := #[vI 0, pP b1 0]) (by kernel_rfl) (punctualref_Shown_1_ok 0 b1 x1_0 l1_1 A1_1 c1_1 _ (hS58.rd hR1_1) hL1_1 (hS58.globOf 0 rfl) _ hq10) ?_
     rintro _ w15 ⟨rfl, hS59⟩
     refine ⟨_, rfl, hS59.below, ?_⟩
     have hS60 := hS58.call hS59
     refine gb0 [4, 5] [(4, .bool (decide (x1_0 ≥ r4))), (62, .bool (decide (x1_0 ≥ r4)))] ?_
     refine gn hK47 ?_
     have hS61 := hS60.takeN 0
     obtain rfl := si h
     exact we_ret (pr0 [.tmp 4] [.bool (decide (x1_0 ≥ r4))] ⟨rfl, hS61⟩)
    ·rw [hq9] at h
     simp only [] at h
     refine we_iter (A := punctualref_Shown.A5 w0 l0 A0 c0 x1_0 l1_1 A1_1 c1_1 b1 px1 pb1 Z1 cz1) (B := punctualref_Shown.B5 w0 x1_0 l1_1 A1_1 c1_1 b1) hq9 (fun a hF => ⟨hS47, hF.weaken ea⟩) (fun s o hf a w hA Q hQ => punctualref_Shown_r5 K w0 l0 A0 c0 x1_0 l1_1 A1_1 c1_1 hR0 hL0 hR1_1 hL1_1 b1 r1 px1 pb1 b3 Z1 cz1 s o hf a w hA Q hQ) ?_
     rintro _ a w1 _ ⟨rfl, hb⟩
     obtain rfl := si h
     exact hb
   ·rw [hq7] at h
    simp only [] at h
    refine we_iter (A := punctualref_Shown.A4 w0 l0 A0 c0 x1_0 l1_1 A1_1 c1_1 b1 px1 pb1 Z1 cz1) (B := punctualref_Shown.B4 w0 l0 A0 c0 x1_0 l1_1 A1_1 c1_1 b1 px1 pb1 Z1 cz1) hq7 (fun a hF => ⟨hS35, hF.weaken ea⟩) (fun s o hf a w hA Q hQ => punctualref_Shown_r4 K w0 l0 A0 c0 x1_0 l1_1 A1_1 c1_1 hR0 hL0 hR1_1 hL1_1 b1 r1 px1 pb1 b3 Z1 cz1 s o hf a w hA Q hQ) ?_
    rintro _ a w1 _ ⟨rfl, hb⟩
    obtain rfl := si h
    exact hb
  ·rw [hq6] at h
   simp only [] at h
   refine we_keep (e' := [(0, .slice A0 l0.length c0), (1, .agg #[vI x1_0, .slice A1_1 l1_1.length c1_1]), (3, pP b1 0), (4, .bool false), (5, pP pb1 0), (6, pP b3 0), (11, .tuple #[pP pb1 0, .agg #[vI r1.2.Code, vI r1.2.At]]), (12, .slice A0 l0.length c0), (13, .tuple #[pP pb1 0, .agg #[vI r1.2.Code, vI r1.2.At]]), (14, pP pb1 0), (15, .agg #[vI r1.2.Code, vI r1.2.At])]) ea (punctualref_Shown_p3 K w0 l0 A0 c0 x1_0 l1_1 A1_1 c1_1 hR0 hL0 hR1_1 hL1_1 b1 r1 px1 pb1 b3 Z1 cz1 _ hq6 _ hS25 _ ?_)
   rintro _ a w1 ⟨_, rfl, hb⟩
   obtain rfl := si h
   exact hb

/-! punctual/punctualsame.Still[punctual/api.Ins] -/
abbrev punctualsame_Still_api_Ins.Post (w0 : World) (r : Bool) (e : Ending) (w : World) : Prop := e = .returned (.bool r) ∧ St w0 w []
def punctualsame_Still_api_Ins.r0 (f0 : List SIns) (l1 : List SIns) (x2 : SIns) : Nat → Option (Nat ⊕ (Unit ⊕ Bool))
 | i1 =>
  if (i1 : Int) < (f0.length : Int) then
   match f0[i1]? with
   | none => none
   | some e1 =>
    if (i1 : Int) < (l1.length : Int) then
     match l1[i1]? with
     | none => none
     | some e2 =>
      if (SIns.eqb e1 e2) = true then
       if (i1 : Int) ≥ (l1.length : Int) then
        if (SIns.eqb e1 x2) = true then
         some (.inl (i1 + 1))
        else
         some (.inr (.inr false))
       else
        some (.inl (i1 + 1))
      else
       some (.inr (.inr false))
    else
     if (i1 : Int) ≥ (l1.length : Int) then
      if (SIns.eqb e1 x2) = true then
       some (.inl (i1 + 1))
      else
       some (.inr (.inr false))
     else
      some (.inl (i1 + 1))
  else
   some (.inr (.inl ()))
def punctualsame_Still_api_Ins.f (K : Nat) (f0 : List SIns) (l1 : List SIns) (x2 : SIns) : Option Bool :=
 if (IntKind.i64.wrap ((l1.length : Int) + 3)) = (f0.length : Int) then
  match iter (punctualsame_Still_api_Ins.r0 f0 l1 x2) K 0 with
  | none => none
  | some (.inl _) =>
   some true
  | some (.inr rr1) =>
   some rr1
 else
  none
abbrev punctualsame_Still_api_Ins.A0 (w0 : World) (f0 : List SIns) (A0 : Option Addr) (c0 : Nat) (l1 : List SIns) (A1 : Option Addr) (c1 : Nat) (x2 : SIns) (b1 : Nat) : Nat → Act → World → Prop := fun (s : Nat) a w => St w0 w [Own.blk b1 (.cells #[vI x2.Op, vI x2.A, vI x2.B] 29 (0, 0))] ∧ Frm 46 a [(1, .slice A1 l1.length c1), (5, pP b1 0), (15, .slice A0 f0.length c0), (16, vI (f0.length : Int)), (17, vI (s : Int))]
abbrev punctualsame_Still_api_Ins.B0 (w0 : World) : (Unit ⊕ Bool) → Exit → Act → World → Prop := Exits 0 (fun (s : Unit) a w => St w0 w [] ∧ Frm 46 a []) (Rets Tryd.prog Tryd.f12 (punctualsame_Still_api_Ins.Post w0))
theorem punctualsame_Still_api_Ins_r0 (K : Nat) (w0 : World) (f0 : List SIns) (A0 : Option Addr) (n0 : Nat) (c0 : Nat) (l1 : List SIns) (A1 : Option Addr) (c1 : Nat) (x2 : SIns) (hR0 : RdL w0 A0 f0) (hc0 : f0.length ≤ c0) (hR1 : RdL w0 A1 l1) (hL1 : l1.length ≤ c1) (b1 : Nat) (hc1 : (IntKind.i64.wrap ((l1.length : Int) + 3)) = (f0.length : Int)) (s : Nat) (o : Nat ⊕ (Unit ⊕ Bool)) (h : punctualsame_Still_api_Ins.r0 f0 l1 x2 s = some o) (a : Act) (w : World) (hA : punctualsame_Still_api_Ins.A0 w0 f0 A0 c0 l1 A1 c1 x2 b1 s a w) (Q : Exit → Act → World → Prop) (hQ : ∀ x a w, Outs (punctualsame_Still_api_Ins.A0 w0 f0 A0 c0 l1 A1 c1 x2 b1) (punctualsame_Still_api_Ins.B0 w0) o x a w → Q x a w) : (subF Tryd.f12 [1, 1, 0, 1, 0, 0]).wp Tryd.prog Q a w := by
 obtain ⟨i1, hs⟩ : ∃ z, z = s := ⟨s, rfl⟩
 subst hs
 obtain ⟨hS, hF⟩ := hA
 replace hS : St w0 w [Own.blk b1 (.cells #[vI x2.Op, vI x2.A, vI x2.B] 29 (0, 0))] := hS
 simp only [punctualsame_Still_api_Ins.r0] at h
 refine (?_ : WE Tryd.prog 46 (subF Tryd.f12 [1, 1, 0, 1, 0, 0]) Q [(1, .slice A1 l1.length c1), (5, pP b1 0), (15, .slice A0 f0.length c0), (16, vI (f0.length : Int)), (17, vI (i1 : Int))] w) a hF
 clear hF a
 refine ws fun K5 hK5 => ?_
 refine wr [(0, 0)] ?_
 refine gb0 [0] [(18, .bool (decide ((i1 : Int) < (f0.length : Int))))] ?_
 refine gn hK5 ?_
 refine ws fun K6 hK6 => ?_
 by_cases hc2 : (i1 : Int) < (f0.length : Int)
 ·rw [if_pos hc2] at h
  refine wk 18 (decide ((i1 : Int) < (f0.length : Int))) true (decide_eq_true hc2) ?_
  refine we_true (by kernel_rfl) ?_
  refine we_skip fun a hF => hK6 _ _ ?_ a hF
  refine ws fun K7 hK7 => ?_
  refine we_block ?_
  refine ws fun K8 hK8 => ?_
  refine wr [(0, 0), (1, 0), (2, 0), (3, 1), (4, 0), (5, 2)] ?_
  refine gb0 [0] [(19, vI (i1 : Int))] ?_
  rcases hx2 : f0[i1]? with _ | e1
  ·rw [hx2] at h; cases h
  rw [hx2] at h
  simp only [] at h
  refine gi 20 0 22 29 3 f0.length c0 (.tmp 15) (.tmp 17) A0 .i64 (i1 : Int) i1 ((hS.rd hR0).eqSome (pos_of_get hx2)) rfl (lt_of_get hx2) ?_
  refine gb [2] [(21, .agg #[vI e1.Op, vI e1.A, vI e1.B])] [.loaded ⟨blkOf A0, offOf A0 + i1 * 3, none⟩ (vI e1.Op), .loaded ⟨blkOf A0, offOf A0 + i1 * 3 + 1, none⟩ (vI e1.A), .loaded ⟨blkOf A0, offOf A0 + i1 * 3 + 2, none⟩ (vI e1.B)] ⟨RdL.cell (j := 0) (hS.rd hR0) hx2 rfl, RdL.cell (j := 1) (hS.rd hR0) hx2 rfl, RdL.cell (j := 2) (hS.rd hR0) hx2 rfl, trivial⟩ ?_
  refine gw (some 9) (.cells #[vI 0, vI 0, vI 0] 29) (fun b => pP b 0) hS fun b2 w2 hx3 hS2 => ?_
  refine gb0 [4] [(8, vI (i1 : Int))] ?_
  refine gs b2 0 #[vI 0, vI 0, vI 0] 29 [vI e1.Op, vI e1.A, vI e1.B] hS2 fun w3 hS3 => ?_
  have hS4 : St w0 w3 [Own.blk b2 (.cells #[vI e1.Op, vI e1.A, vI e1.B] 29 (0, 0)), Own.blk b1 (.cells #[vI x2.Op, vI x2.A, vI x2.B] 29 (0, 0))] := hS3
  refine gn hK8 ?_
  refine ws fun K9 hK9 => ?_
  refine we_draws (by kernel_rfl) [(0, 0), (1, 0), (2, 0), (3, 0), (4, 0), (5, 0), (6, 0), (7, 0), (8, 0), (9, 0), (10, 0), (11, 0), (12, 0), (13, 0), (14, 0), (15, 0), (16, 0), (17, 0), (18, 0), (19, 0), (20, 0), (21, 0), (22, 0)] (by kernel_rfl) ?_
  have hS5 := hS4.drew
  refine gb0 [0, 1, 2, 3, 4] [(26, .bool (decide ((i1 : Int) < (l1.length : Int)))), (25, .bool (decide ((i1 : Int) < (l1.length : Int)))), (24, vI (l1.length : Int)), (23, .slice A1 l1.length c1), (22, vI (i1 : Int))] ?_
  by_cases hc3 : (i1 : Int) < (l1.length : Int)
  ·rw [if_pos hc3] at h
   refine gk 26 (decide ((i1 : Int) < (l1.length : Int))) true (decide_eq_true hc3) ?_
   refine gb [5, 6, 7] [(29, vI (i1 : Int)), (28, .slice A1 l1.length c1), (27, .agg #[vI e1.Op, vI e1.A, vI e1.B])] [.loaded ⟨b2, 0, none⟩ (vI e1.Op), .loaded ⟨b2, 1, none⟩ (vI e1.A), .loaded ⟨b2, 2, none⟩ (vI e1.B)] ⟨hS5.c 0, hS5.c 0, hS5.c 0, trivial⟩ ?_
   rcases hx4 : l1[i1]? with _ | e2
   ·rw [hx4] at h; cases h
   rw [hx4] at h
   simp only [] at h
   refine gi 30 0 22 29 3 l1.length c1 (.tmp 28) (.tmp 29) A1 .i64 (i1 : Int) i1 ((hS5.rd hR1).eqSome (pos_of_get hx4)) rfl (lt_of_get hx4) ?_
   refine gb [9] [(31, .agg #[vI e2.Op, vI e2.A, vI e2.B])] [.loaded ⟨blkOf A1, offOf A1 + i1 * 3, none⟩ (vI e2.Op), .loaded ⟨blkOf A1, offOf A1 + i1 * 3 + 1, none⟩ (vI e2.A), .loaded ⟨blkOf A1, offOf A1 + i1 * 3 + 2, none⟩ (vI e2.B)] ⟨RdL.cell (j := 0) (hS5.rd hR1) hx4 rfl, RdL.cell (j := 1) (hS5.rd hR1) hx4 rfl, RdL.cell (j := 2) (hS5.rd hR1) hx4 rfl, trivial⟩ ?_
   refine ge_eqs (d := 32) (ty := 4) (op := .neq) (x := (.tmp 27)) (y := (.tmp 31)) (t := 29) (t2 := 29) (xs := #[vI e1.Op, vI e1.A, vI e1.B]) (ys := #[vI e2.Op, vI e2.A, vI e2.B]) (r := (SIns.eqb e1 e2)) (v := !(SIns.eqb e1 e2)) (by kernel_rfl) (by kernel_rfl) (by kernel_rfl) (by kernel_rfl) (by kernel_rfl) rfl ?_
   refine gb0 [11, 12] [(34, .bool (!(SIns.eqb e1 e2))), (33, .bool (!(SIns.eqb e1 e2)))] ?_
   by_cases hc4 : (SIns.eqb e1 e2) = true
   ·rw [if_pos hc4] at h
    refine gk 34 (!(SIns.eqb e1 e2)) false (congrArg (fun z => !z) hc4) ?_
    refine gb0 [13, 14, 15, 16, 17] [(39, .bool (decide ((i1 : Int) ≥ (l1.length : Int)))), (38, .bool (decide ((i1 : Int) ≥ (l1.length : Int)))), (37, vI (l1.length : Int)), (36, .slice A1 l1.length c1), (35, vI (i1 : Int))] ?_
    by_cases hc5 : (i1 : Int) ≥ (l1.length : Int)
    ·rw [if_pos hc5] at h
     refine gk 39 (decide ((i1 : Int) ≥ (l1.length : Int))) true (decide_eq_true hc5) ?_
     refine gb [18, 19] [(41, .agg #[vI x2.Op, vI x2.A, vI x2.B]), (40, .agg #[vI e1.Op, vI e1.A, vI e1.B])] [.loaded ⟨b2, 0, none⟩ (vI e1.Op), .loaded ⟨b2, 1, none⟩ (vI e1.A), .loaded ⟨b2, 2, none⟩ (vI e1.B), .loaded ⟨b1, 0, none⟩ (vI x2.Op), .loaded ⟨b1, 1, none⟩ (vI x2.A), .loaded ⟨b1, 2, none⟩ (vI x2.B)] ⟨hS5.c 0, hS5.c 0, hS5.c 0, hS5.c 1, hS5.c 1, hS5.c 1, trivial⟩ ?_
     refine ge_eqs (d := 42) (ty := 4) (op := .neq) (x := (.tmp 40)) (y := (.tmp 41)) (t := 29) (t2 := 29) (xs := #[vI e1.Op, vI e1.A, vI e1.B]) (ys := #[vI x2.Op, vI x2.A, vI x2.B]) (r := (SIns.eqb e1 x2)) (v := !(SIns.eqb e1 x2)) (by kernel_rfl) (by kernel_rfl) (by kernel_rfl) (by kernel_rfl) (by kernel_rfl) rfl ?_
     refine gb0 [21, 22] [(44, .bool (!(SIns.eqb e1 x2))), (43, .bool (!(SIns.eqb e1 x2)))] ?_
     refine gn hK9 ?_
     by_cases hc6 : (SIns.eqb e1 x2) = true
     ·rw [if_pos hc6] at h
      refine wk 44 (!(SIns.eqb e1 x2)) false (congrArg (fun z => !z) hc6) ?_
      refine we_false (by kernel_rfl) ?_
      refine we_skip fun a hF => hK7 _ _ ?_ a hF
      refine wr [(0, 0), (1, 0)] ?_
      refine ge_addn (d := 45) (ty := 3) (x := (.tmp 17)) (y := (.const (vI 1))) (t := 3) (t2 := 3) (k := .i64) (m := i1) (by kernel_rfl) (by kernel_rfl) (by kernel_rfl) (by have h0 := hR0.small; omega) ?_
      refine gb0 [1] [(17, vI ((i1 + 1 : Nat) : Int))] ?_
      have hS6 := hS5.bring 1 rfl
      have hS7 := hS6.takeN 1
      obtain rfl := si h
      exact ge_nil fun a hF => hQ _ _ _ (Outs.again ⟨hS7, hF.weaken ea⟩)
     ·rw [if_neg hc6] at h
      refine wk 44 (!(SIns.eqb e1 x2)) true (congrArg (fun z => !z) (Bool.eq_false_iff.2 hc6)) ?_
      refine we_true (by kernel_rfl) ?_
      refine ws fun K10 hK10 => ?_
      refine wr [(0, 0)] ?_
      refine gb0 [0] [(6, .bool false)] ?_
      refine gn hK10 ?_
      have hS8 := hS5.takeN 0
      obtain rfl := si h
      exact we_ret fun a hF => hQ _ _ _ (Outs.out nofun (Exits.on ⟨rfl, (pr0 [.tmp 6] [.bool false] ⟨rfl, hS8⟩) a hF⟩))
    ·rw [if_neg hc5] at h
     refine gk 39 (decide ((i1 : Int) ≥ (l1.length : Int))) false (decide_eq_false hc5) ?_
     refine gb0 [18, 19, 20, 21, 22] [(44, .bool false), (43, .bool false), (42, undef), (41, undef), (40, undef)] ?_
     refine gn hK9 ?_
     refine we_false (by kernel_rfl) ?_
     refine we_skip fun a hF => hK7 _ _ ?_ a hF
     refine wr [(0, 0), (1, 0)] ?_
     refine ge_addn (d := 45) (ty := 3) (x := (.tmp 17)) (y := (.const (vI 1))) (t := 3) (t2 := 3) (k := .i64) (m := i1) (by kernel_rfl) (by kernel_rfl) (by kernel_rfl) (by have h0 := hR0.small; omega) ?_
     refine gb0 [1] [(17, vI ((i1 + 1 : Nat) : Int))] ?_
     have hS9 := hS5.bring 1 rfl
     have hS10 := hS9.takeN 1
     obtain rfl := si h
     exact ge_nil fun a hF => hQ _ _ _ (Outs.again ⟨hS10, hF.weaken ea⟩)
   ·rw [if_neg hc4] at h
    refine gk 34 (!(SIns.eqb e1 e2)) true (congrArg (fun z => !z) (Bool.eq_false_iff.2 hc4)) ?_
    refine gb0 [13, 14, 15, 16, 17, 18, 19, 20, 21, 22] [(44, .bool true), (43, undef), (42, undef), (41, undef), (40, undef), (39, undef), (38, undef), (37, undef), (36, undef), (35, undef)] ?_
    refine gn hK9 ?_
    refine we_true (by kernel_rfl) ?_
    refine ws fun K11 hK11 => ?_
    refine wr [(0, 0)] ?_
    refine gb0 [0] [(6, .bool false)] ?_
    refine gn hK11 ?_
    have hS11 := hS5.takeN 0
    obtain rfl := si h
    exact we_ret fun a hF => hQ _ _ _ (Outs.out nofun (Exits.on ⟨rfl, (pr0 [.tmp 6] [.bool false] ⟨rfl, hS11⟩) a hF⟩))
  ·rw [if_neg hc3] at h
   refine gk 26 (decide ((i1 : Int) < (l1.length : Int))) false (decide_eq_false hc3) ?_
   refine gb0 [5, 6, 7, 8, 9, 10, 11, 12, 13, 14, 15, 16, 17] [(39, .bool (decide ((i1 : Int) ≥ (l1.length : Int)))), (38, .bool (decide ((i1 : Int) ≥ (l1.length : Int)))), (37, vI (l1.length : Int)), (36, .slice A1 l1.length c1), (35, vI (i1 : Int)), (34, .bool false), (33, .bool false), (32, undef), (31, undef), (30, undef), (29, undef), (28, undef), (27, undef)] ?_
   by_cases hc7 : (i1 : Int) ≥ (l1.length : Int)
   ·rw [if_pos hc7] at h
    refine gk 39 (decide ((i1 : Int) ≥ (l1.length : Int))) true (decide_eq_true hc7) ?_
    refine gb [18, 19] [(41, .agg #[vI x2.Op, vI x2.A, vI x2.B]), (40, .agg #[vI e1.Op, vI e1.A, vI e1.B])] [.loaded ⟨b2, 0, none⟩ (vI e1.Op), .loaded ⟨b2, 1, none⟩ (vI e1.A), .loaded ⟨b2, 2, none⟩ (vI e1.B), .loaded ⟨b1, 0, none⟩ (vI x2.Op), .loaded ⟨b1, 1, none⟩ (vI x2.A), .loaded ⟨b1, 2, none⟩ (vI x2.B)] ⟨hS5.c 0, hS5.c 0, hS5.c 0, hS5.c 1, hS5.c 1, hS5.c 1, trivial⟩ ?_
    refine ge_eqs (d := 42) (ty := 4) (op := .neq) (x := (.tmp 40)) (y := (.tmp 41)) (t := 29) (t2 := 29) (xs := #[vI e1.Op, vI e1.A, vI e1.B]) (ys := #[vI x2.Op, vI x2.A, vI x2.B]) (r := (SIns.eqb e1 x2)) (v := !(SIns.eqb e1 x2)) (by kernel_rfl) (by kernel_rfl) (by kernel_rfl) (by kernel_rfl) (by kernel_rfl) rfl ?_
    refine gb0 [21, 22] [(44, .bool (!(SIns.eqb e1 x2))), (43, .bool (!(SIns.eqb e1 x2)))] ?_
    refine gn hK9 ?_
    by_cases hc8 : (SIns.eqb e1 x2) = true
    ·rw [if_pos hc8] at h
     refine wk 44 (!(SIns.eqb e1 x2)) false (congrArg (fun z => !z) hc8) ?_
     refine we_false (by kernel_rfl) ?_
     refine we_skip fun a hF => hK7 _ _ ?_ a hF
     refine wr [(0, 0), (1, 0)] ?_
     refine ge_addn (d := 45) (ty := 3) (x := (.tmp 17)) (y := (.const (vI 1))) (t := 3) (t2 := 3) (k := .i64) (m := i1) (by kernel_rfl) (by kernel_rfl) (by kernel_rfl) (by have h0 := hR0.small; omega) ?_
     refine gb0 [1] [(17, vI ((i1 + 1 : Nat) : Int))] ?_
     have hS12 := hS5.bring 1 rfl
     have hS13 := hS12.takeN 1
     obtain rfl := si h
     exact ge_nil fun a hF => hQ _ _ _ (Outs.again ⟨hS13, hF.weaken ea⟩)
    ·rw [if_neg hc8] at h
     refine wk 44 (!(SIns.eqb e1 x2)) true (congrArg (fun z => !z) (Bool.eq_false_iff.2 hc8)) ?_
     refine we_true (by kernel_rfl) ?_
     refine ws fun K12 hK12 => ?_
     refine wr [(0, 0)] ?_
     refine gb0 [0] [(6, .bool false)] ?_
     refine gn hK12 ?_
     have hS14 := hS5.takeN 0
     obtain rfl := si h
     exact we_ret fun a hF => hQ _ _ _ (Outs.out nofun (Exits.on ⟨rfl, (pr0 [.tmp 6] [.bool false] ⟨rfl, hS14⟩) a hF⟩))
   ·rw [if_neg hc7] at h
    refine gk 39 (decide ((i1 : Int) ≥ (l1.length : Int))) false (decide_eq_false hc7) ?_
    refine gb0 [18, 19, 20, 21, 22] [(44, .bool false), (43, .bool false), (42, undef), (41, undef), (40, undef)] ?_
    refine gn hK9 ?_
    refine we_false (by kernel_rfl) ?_
    refine we_skip fun a hF => hK7 _ _ ?_ a hF
    refine wr [(0, 0), (1, 0)] ?_
    refine ge_addn (d := 45) (ty := 3) (x := (.tmp 17)) (y := (.const (vI 1))) (t := 3) (t2 := 3) (k := .i64) (m := i1) (by kernel_rfl) (by kernel_rfl) (by kernel_rfl) (by have h0 := hR0.small; omega) ?_
    refine gb0 [1] [(17, vI ((i1 + 1 : Nat) : Int))] ?_
    have hS15 := hS5.bring 1 rfl
    have hS16 := hS15.takeN 1
    obtain rfl := si h
    exact ge_nil fun a hF => hQ _ _ _ (Outs.again ⟨hS16, hF.weaken ea⟩)
 ·rw [if_neg hc2] at h
  refine wk 18 (decide ((i1 : Int) < (f0.length : Int))) false (decide_eq_false hc2) ?_
  refine we_false (by kernel_rfl) ?_
  have hS17 := hS.takeN 0
  obtain rfl := si h
  exact we_exit fun a hF => hQ _ _ _ (Outs.out nofun (Exits.here ⟨hS17, hF.weaken trivial⟩))
theorem punctualsame_Still_api_Ins_ok (K : Nat) (f0 : List SIns) (A0 : Option Addr) (n0 : Nat) (c0 : Nat) (l1 : List SIns) (A1 : Option Addr) (c1 : Nat) (x2 : SIns) (w0 : World) (hR0 : RdL w0 A0 f0) (hc0 : f0.length ≤ c0) (hR1 : RdL w0 A1 l1) (hL1 : l1.length ≤ c1) (r : Bool) (h : punctualsame_Still_api_Ins.f K f0 l1 x2 = some r) :
  Calls Tryd.prog 12 #[.slice A0 n0 c0, .slice A1 l1.length c1, .agg #[vI x2.Op, vI x2.A, vI x2.B]] w0 (punctualsame_Still_api_Ins.Post w0 r) := by
 have hS := St.start w0
 unfold punctualsame_Still_api_Ins.f at h
 refine calls_enter (n := 46) (args := [.slice A0 n0 c0, .slice A1 l1.length c1, .agg #[vI x2.Op, vI x2.A, vI x2.B]]) (fn := Tryd.f12) rfl rfl rfl rfl ?_
 show WE _ _ _ _ [(0, .slice A0 n0 c0), (1, .slice A1 l1.length c1), (2, .agg #[vI x2.Op, vI x2.A, vI x2.B])] _
 refine ws fun K1 hK1 => ?_
 refine wr [(0, 1), (1, 0)] ?_
 refine gw (some 5) (.cells #[vI x2.Op, vI x2.A, vI x2.B] 29) (fun b => pP b 0) hS fun b1 w1 hx1 hS1 => ?_
 refine gb0 [1] [(6, .bool false)] ?_
 refine gn hK1 ?_
 refine ws fun K2 hK2 => ?_
 refine wr [(0, 0), (1, 0), (2, 0), (3, 0), (4, 0), (5, 0)] ?_
 refine gb0 [0, 1, 2, 3] [(13, vI (IntKind.i64.wrap ((l1.length : Int) + 3))), (12, vI (l1.length : Int)), (11, .slice A1 l1.length c1), (10, .slice A0 n0 c0)] ?_
 by_cases hc1 : (IntKind.i64.wrap ((l1.length : Int) + 3)) = (f0.length : Int)
 ·rw [if_pos hc1] at h
  refine ge_sliceHi (d := 14) (ty := 22) (t := 22) (el := 29) (sz := 3) (m := n0) (c := c0) (hn := f0.length) (x := (.tmp 10)) (y := (.tmp 13)) (A := A0) (k' := .i64) (hi := (IntKind.i64.wrap ((l1.length : Int) + 3))) (by kernel_rfl) (by kernel_rfl) (by kernel_rfl) hc1 (by kernel_rfl) (by kernel_rfl) hc0 ?_
  refine gb0 [5] [(7, .slice A0 f0.length c0)] ?_
  refine gn hK2 ?_
  refine ws fun K3 hK3 => ?_
  refine ws fun K4 hK4 => ?_
  refine wr [(0, 0), (1, 0), (2, 0)] ?_
  refine gb0 [0, 1, 2] [(17, vI 0), (16, vI (f0.length : Int)), (15, .slice A0 f0.length c0)] ?_
  refine gn hK4 ?_
  refine we_block ?_
  rcases hq1 : iter (punctualsame_Still_api_Ins.r0 f0 l1 x2) K 0 with _ | (_ | rr1)
  ·rw [hq1] at h; cases h
  ·rw [hq1] at h
   simp only [] at h
   refine we_iter (A := punctualsame_Still_api_Ins.A0 w0 f0 A0 c0 l1 A1 c1 x2 b1) (B := punctualsame_Still_api_Ins.B0 w0) hq1 (fun a hF => ⟨hS1, hF.weaken ea⟩) (fun s o hf a w hA Q hQ => punctualsame_Still_api_Ins_r0 K w0 f0 A0 n0 c0 l1 A1 c1 x2 hR0 hc0 hR1 hL1 b1 hc1 s o hf a w hA Q hQ) ?_
   rintro _ a w4 _ ⟨rfl, hS18, hF⟩
   replace hS18 : St w0 w4 [] := hS18
   refine hK3 [] w4 ?_ a hF
   refine ws fun K13 hK13 => ?_
   refine wr [(0, 0)] ?_
   refine gb0 [0] [(6, .bool true)] ?_
   refine gn hK13 ?_
   obtain rfl := si h
   exact we_ret (pr0 [.tmp 6] [.bool true] ⟨rfl, hS18⟩)
  ·rw [hq1] at h
   simp only [] at h
   refine we_iter (A := punctualsame_Still_api_Ins.A0 w0 f0 A0 c0 l1 A1 c1 x2 b1) (B := punctualsame_Still_api_Ins.B0 w0) hq1 (fun a hF => ⟨hS1, hF.weaken ea⟩) (fun s o hf a w hA Q hQ => punctualsame_Still_api_Ins_r0 K w0 f0 A0 n0 c0 l1 A1 c1 x2 hR0 hc0 hR1 hL1 b1 hc1 s o hf a w hA Q hQ) ?_
   rintro _ a w1 _ ⟨rfl, hb⟩
   obtain rfl := si h
   exact hb
 ·rw [if_neg hc1] at h
  cases h

/-! punctual/punctualsame.Still[int] -/
abbrev punctualsame_Still_int.Post (w0 : World) (r : Bool) (e : Ending) (w : World) : Prop := e = .returned (.bool r) ∧ St w0 w []
def punctualsame_Still_int.r0 (f0 : List Int) (l1 : List Int) (x2 : Int) : Nat → Option (Nat ⊕ (Unit ⊕ Bool))
 | i1 =>
  if (i1 : Int) < (f0.length : Int) then
   match f0[i1]? with
   | none => none
   | some e1 =>
    if (i1 : Int) < (l1.length : Int) then
     match l1[i1]? with
     | none => none
     | some e2 =>
      if e1 = e2 then
       if (i1 : Int) ≥ (l1.length : Int) then
        if e1 = x2 then
         some (.inl (i1 + 1))
        else
         some (.inr (.inr false))
       else
        some (.inl (i1 + 1))
      else
       some (.inr (.inr false))
    else
     if (i1 : Int) ≥ (l1.length : Int) then
      if e1 = x2 then
       some (.inl (i1 + 1))
      else
       some (.inr (.inr false))
     else
      some (.inl (i1 + 1))
  else
   some (.inr (.inl ()))
def punctualsame_Still_int.f (K : Nat) (f0 : List Int) (l1 : List Int) (x2 : Int) : Option Bool :=
 if (IntKind.i64.wrap ((l1.length : Int) + 3)) = (f0.length : Int) then
  match iter (punctualsame_Still_int.r0 f0 l1 x2) K 0 with
  | none => none
  | some (.inl _) =>
   some true
  | some (.inr rr1) =>
   some rr1
 else
  none
abbrev punctualsame_Still_int.A0 (w0 : World) (f0 : List Int) (A0 : Option Addr) (c0 : Nat) (l1 : List Int) (A1 : Option Addr) (c1 : Nat) (x2 : Int) : Nat → Act → World → Prop := fun (s : Nat) a w => St w0 w [] ∧ Frm 46 a [(1, .slice A1 l1.length c1), (2, vI x2), (15, .slice A0 f0.length c0), (16, vI (f0.length : Int)), (17, vI (s : Int))]
abbrev punctualsame_Still_int.B0 (w0 : World) : (Unit ⊕ Bool) → Exit → Act → World → Prop := Exits 0 (fun (s : Unit) a w => St w0 w [] ∧ Frm 46 a []) (Rets Tryd.prog Tryd.f17 (punctualsame_Still_int.Post w0))
theorem punctualsame_Still_int_r0 (K : Nat) (w0 : World) (f0 : List Int) (A0 : Option Addr) (n0 : Nat) (c0 : Nat) (l1 : List Int) (A1 : Option Addr) (c1 : Nat) (x2 : Int) (hR0 : RdL w0 A0 f0) (hc0 : f0.length ≤ c0) (hR1 : RdL w0 A1 l1) (hL1 : l1.length ≤ c1) (hc1 : (IntKind.i64.wrap ((l1.length : Int) + 3)) = (f0.length : Int)) (s : Nat) (o : Nat ⊕ (Unit ⊕ Bool)) (h : punctualsame_Still_int.r0 f0 l1 x2 s = some o) (a : Act) (w : World) (hA : punctualsame_Still_int.A0 w0 f0 A0 c0 l1 A1 c1 x2 s a w) (Q : Exit → Act → World → Prop) (hQ : ∀ x a w, Outs (punctualsame_Still_int.A0 w0 f0 A0 c0 l1 A1 c1 x2) (punctualsame_Still_int.B0 w0) o x a w → Q x a w) : (subF Tryd.f17 [1, 1, 0, 1, 0, 0]).wp Tryd.prog Q a w := by
 obtain ⟨i1, hs⟩ : ∃ z, z = s := ⟨s, rfl⟩
 subst hs
 obtain ⟨hS, hF⟩ := hA
 replace hS : St w0 w [] := hS
 simp only [punctualsame_Still_int.r0] at h
 refine (?_ : WE Tryd.prog 46 (subF Tryd.f17 [1, 1, 0, 1, 0, 0]) Q [(1, .slice A1 l1.length c1), (2, vI x2), (15, .slice A0 f0.length c0), (16, vI (f0.length : Int)), (17, vI (i1 : Int))] w) a hF
 clear hF a
 refine ws fun K5 hK5 => ?_
 refine wr [(0, 0)] ?_
 refine gb0 [0] [(18, .bool (decide ((i1 : Int) < (f0.length : Int))))] ?_
 refine gn hK5 ?_
 refine ws fun K6 hK6 => ?_
 by_cases hc2 : (i1 : Int) < (f0.length : Int)
 ·rw [if_pos hc2] at h
  refine wk 18 (decide ((i1 : Int) < (f0.length : Int))) true (decide_eq_true hc2) ?_
  refine we_true (by kernel_rfl) ?_
  refine we_skip fun a hF => hK6 _ _ ?_ a hF
  refine ws fun K7 hK7 => ?_
  refine we_block ?_
  refine ws fun K8 hK8 => ?_
  refine wr [(0, 0), (1, 0), (2, 0), (3, 0), (4, 0)] ?_
  refine gb0 [0] [(19, vI (i1 : Int))] ?_
  rcases hx1 : f0[i1]? with _ | e1
  ·rw [hx1] at h; cases h
  rw [hx1] at h
  simp only [] at h
  refine gi 20 0 37 3 1 f0.length c0 (.tmp 15) (.tmp 17) A0 .i64 (i1 : Int) i1 ((hS.rd hR0).eqSome (pos_of_get hx1)) rfl (lt_of_get hx1) ?_
  refine gb [2, 3, 4] [(9, vI e1), (8, vI (i1 : Int)), (21, vI e1)] [.loaded ⟨blkOf A0, offOf A0 + i1 * 1, none⟩ (vI e1)] ⟨RdL.cell (j := 0) (hS.rd hR0) hx1 rfl, trivial⟩ ?_
  refine gn hK8 ?_
  refine ws fun K9 hK9 => ?_
  refine wr [(0, 0), (1, 0), (2, 0), (3, 0), (4, 0), (5, 0), (6, 0), (7, 0), (8, 0), (9, 0), (10, 0), (11, 0), (12, 0), (13, 0), (14, 0), (15, 0), (16, 0), (17, 0), (18, 0), (19, 0), (20, 0), (21, 0), (22, 0)] ?_
  refine gb0 [0, 1, 2, 3, 4] [(26, .bool (decide ((i1 : Int) < (l1.length : Int)))), (25, .bool (decide ((i1 : Int) < (l1.length : Int)))), (24, vI (l1.length : Int)), (23, .slice A1 l1.length c1), (22, vI (i1 : Int))] ?_
  by_cases hc3 : (i1 : Int) < (l1.length : Int)
  ·rw [if_pos hc3] at h
   refine gk 26 (decide ((i1 : Int) < (l1.length : Int))) true (decide_eq_true hc3) ?_
   refine gb0 [5, 6, 7] [(29, vI (i1 : Int)), (28, .slice A1 l1.length c1), (27, vI e1)] ?_
   rcases hx2 : l1[i1]? with _ | e2
   ·rw [hx2] at h; cases h
   rw [hx2] at h
   simp only [] at h
   refine gi 30 0 37 3 1 l1.length c1 (.tmp 28) (.tmp 29) A1 .i64 (i1 : Int) i1 ((hS.rd hR1).eqSome (pos_of_get hx2)) rfl (lt_of_get hx2) ?_
   refine gb [9, 10, 11, 12] [(34, .bool (e1 != e2)), (33, .bool (e1 != e2)), (32, .bool (e1 != e2)), (31, vI e2)] [.loaded ⟨blkOf A1, offOf A1 + i1 * 1, none⟩ (vI e2)] ⟨RdL.cell (j := 0) (hS.rd hR1) hx2 rfl, trivial⟩ ?_
   by_cases hc4 : e1 = e2
   ·rw [if_pos hc4] at h
    refine gk 34 (e1 != e2) false (bne_eq_false_iff_eq.2 hc4) ?_
    refine gb0 [13, 14, 15, 16, 17] [(39, .bool (decide ((i1 : Int) ≥ (l1.length : Int)))), (38, .bool (decide ((i1 : Int) ≥ (l1.length : Int)))), (37, vI (l1.length : Int)), (36, .slice A1 l1.length c1), (35, vI (i1 : Int))] ?_
    by_cases hc5 : (i1 : Int) ≥ (l1.length : Int)
    ·rw [if_pos hc5] at h
     refine gk 39 (decide ((i1 : Int) ≥ (l1.length : Int))) true (decide_eq_true hc5) ?_
     refine gb0 [18, 19, 20, 21, 22] [(44, .bool (e1 != x2)), (43, .bool (e1 != x2)), (42, .bool (e1 != x2)), (41, vI x2), (40, vI e1)] ?_
     refine gn hK9 ?_
     by_cases hc6 : e1 = x2
     ·rw [if_pos hc6] at h
      refine wk 44 (e1 != x2) false (bne_eq_false_iff_eq.2 hc6) ?_
      refine we_false (by kernel_rfl) ?_
      refine we_skip fun a hF => hK7 _ _ ?_ a hF
      refine wr [(0, 0), (1, 0)] ?_
      refine ge_addn (d := 45) (ty := 3) (x := (.tmp 17)) (y := (.const (vI 1))) (t := 3) (t2 := 3) (k := .i64) (m := i1) (by kernel_rfl) (by kernel_rfl) (by kernel_rfl) (by have h0 := hR0.small; omega) ?_
      refine gb0 [1] [(17, vI ((i1 + 1 : Nat) : Int))] ?_
      obtain rfl := si h
      exact ge_nil fun a hF => hQ _ _ _ (Outs.again ⟨hS, hF.weaken ea⟩)
     ·rw [if_neg hc6] at h
      refine wk 44 (e1 != x2) true (bne_iff_ne.2 hc6) ?_
      refine we_true (by kernel_rfl) ?_
      refine ws fun K10 hK10 => ?_
      refine wr [(0, 0)] ?_
      refine gb0 [0] [(6, .bool false)] ?_
      refine gn hK10 ?_
      obtain rfl := si h
      exact we_ret fun a hF => hQ _ _ _ (Outs.out nofun (Exits.on ⟨rfl, (pr0 [.tmp 6] [.bool false] ⟨rfl, hS⟩) a hF⟩))
    ·rw [if_neg hc5] at h
     refine gk 39 (decide ((i1 : Int) ≥ (l1.length : Int))) false (decide_eq_false hc5) ?_
     refine gb0 [18, 19, 20, 21, 22] [(44, .bool false), (43, .bool false), (42, undef), (41, undef), (40, undef)] ?_
     refine gn hK9 ?_
     refine we_false (by kernel_rfl) ?_
     refine we_skip fun a hF => hK7 _ _ ?_ a hF
     refine wr [(0, 0), (1, 0)] ?_
     refine ge_addn (d := 45) (ty := 3) (x := (.tmp 17)) (y := (.const (vI 1))) (t := 3) (t2 := 3) (k := .i64) (m := i1) (by kernel_rfl) (by kernel_rfl) (by kernel_rfl) (by have h0 := hR0.small; omega) ?_
     refine gb0 [1] [(17, vI ((i1 + 1 : Nat) : Int))] ?_
     obtain rfl := si h
     exact ge_nil fun a hF => hQ _ _ _ (Outs.again ⟨hS, hF.weaken ea⟩)
   ·rw [if_neg hc4] at h
    refine gk 34 (e1 != e2) true (bne_iff_ne.2 hc4) ?_
    refine gb0 [13, 14, 15, 16, 17, 18, 19, 20, 21, 22] [(44, .bool true), (43, undef), (42, undef), (41, undef), (40, undef), (39, undef), (38, undef), (37, undef), (36, undef), (35, undef)] ?_
    refine gn hK9 ?_
    refine we_true (by kernel_rfl) ?_
    refine ws fun K11 hK11 => ?_
    refine wr [(0, 0)] ?_
    refine gb0 [0] [(6, .bool false)] ?_
    refine gn hK11 ?_
    obtain rfl := si h
    exact we_ret fun a hF => hQ _ _ _ (Outs.out nofun (Exits.on ⟨rfl, (pr0 [.tmp 6] [.bool false] ⟨rfl, hS⟩) a hF⟩))
  ·rw [if_neg hc3] at h
   refine gk 26 (decide ((i1 : Int) < (l1.length : Int))) false (decide_eq_false hc3) ?_
   refine gb0 [5, 6, 7, 8, 9, 10, 11, 12, 13, 14, 15, 16, 17] [(39, .bool (decide ((i1 : Int) ≥ (l1.length : Int)))), (38, .bool (decide ((i1 : Int) ≥ (l1.length : Int)))), (37, vI (l1.length : Int)), (36, .slice A1 l1.length c1), (35, vI (i1 : Int)), (34, .bool false), (33, .bool false), (32, undef), (31, undef), (30, undef), (29, undef), (28, undef), (27, undef)] ?_
   by_cases hc7 : (i1 : Int) ≥ (l1.length : Int)
   ·rw [if_pos hc7] at h
    refine gk 39 (decide ((i1 : Int) ≥ (l1.length : Int))) true (decide_eq_true hc7) ?_
    refine gb0 [18, 19, 20, 21, 22] [(44, .bool (e1 != x2)), (43, .bool (e1 != x2)), (42, .bool (e1 != x2)), (41, vI x2), (40, vI e1)] ?_
    refine gn hK9 ?_
    by_cases hc8 : e1 = x2
    ·rw [if_pos hc8] at h
     refine wk 44 (e1 != x2) false (bne_eq_false_iff_eq.2 hc8) ?_
     refine we_false (by kernel_rfl) ?_
     refine we_skip fun a hF => hK7 _ _ ?_ a hF
     refine wr [(0, 0), (1, 0)] ?_
     refine ge_addn (d := 45) (ty := 3) (x := (.tmp 17)) (y := (.const (vI 1))) (t := 3) (t2 := 3) (k := .i64) (m := i1) (by kernel_rfl) (by kernel_rfl) (by kernel_rfl) (by have h0 := hR0.small; omega) ?_
     refine gb0 [1] [(17, vI ((i1 + 1 : Nat) : Int))] ?_
     obtain rfl := si h
     exact ge_nil fun a hF => hQ _ _ _ (Outs.again ⟨hS, hF.weaken ea⟩)
    ·rw [if_neg hc8] at h
     refine wk 44 (e1 != x2) true (bne_iff_ne.2 hc8) ?_
     refine we_true (by kernel_rfl) ?_
     refine ws fun K12 hK12 => ?_
     refine wr [(0, 0)] ?_
     refine gb0 [0] [(6, .bool false)] ?_
     refine gn hK12 ?_
     obtain rfl := si h
     exact we_ret fun a hF => hQ _ _ _ (Outs.out nofun (Exits.on ⟨rfl, (pr0 [.tmp 6] [.bool false] ⟨rfl, hS⟩) a hF⟩))
   ·rw [if_neg hc7] at h
    refine gk 39 (decide ((i1 : Int) ≥ (l1.length : Int))) false (decide_eq_false hc7) ?_
    refine gb0 [18, 19, 20, 21, 22] [(44, .bool false), (43, .bool false), (42, undef), (41, undef), (40, undef)] ?_
    refine gn hK9 ?_
    refine we_false (by kernel_rfl) ?_
    refine we_skip fun a hF => hK7 _ _ ?_ a hF
    refine wr [(0, 0), (1, 0)] ?_
    refine ge_addn (d := 45) (ty := 3) (x := (.tmp 17)) (y := (.const (vI 1))) (t := 3) (t2 := 3) (k := .i64) (m := i1) (by kernel_rfl) (by kernel_rfl) (by kernel_rfl) (by have h0 := hR0.small; omega) ?_
    refine gb0 [1] [(17, vI ((i1 + 1 : Nat) : Int))] ?_
    obtain rfl := si h
    exact ge_nil fun a hF => hQ _ _ _ (Outs.again ⟨hS, hF.weaken ea⟩)
 ·rw [if_neg hc2] at h
  refine wk 18 (decide ((i1 : Int) < (f0.length : Int))) false (decide_eq_false hc2) ?_
  refine we_false (by kernel_rfl) ?_
  obtain rfl := si h
  exact we_exit fun a hF => hQ _ _ _ (Outs.out nofun (Exits.here ⟨hS, hF.weaken trivial⟩))
theorem punctualsame_Still_int_ok (K : Nat) (f0 : List Int) (A0 : Option Addr) (n0 : Nat) (c0 : Nat) (l1 : List Int) (A1 : Option Addr) (c1 : Nat) (x2 : Int) (w0 : World) (hR0 : RdL w0 A0 f0) (hc0 : f0.length ≤ c0) (hR1 : RdL w0 A1 l1) (hL1 : l1.length ≤ c1) (r : Bool) (h : punctualsame_Still_int.f K f0 l1 x2 = some r) :
  Calls Tryd.prog 17 #[.slice A0 n0 c0, .slice A1 l1.length c1, vI x2] w0 (punctualsame_Still_int.Post w0 r) := by
 have hS := St.start w0
 unfold punctualsame_Still_int.f at h
 refine calls_enter (n := 46) (args := [.slice A0 n0 c0, .slice A1 l1.length c1, vI x2]) (fn := Tryd.f17) rfl rfl rfl rfl ?_
 show WE _ _ _ _ [(0, .slice A0 n0 c0), (1, .slice A1 l1.length c1), (2, vI x2)] _
 refine ws fun K1 hK1 => ?_
 refine wr [(0, 0)] ?_
 refine gb0 [0] [(6, .bool false)] ?_
 refine gn hK1 ?_
 refine ws fun K2 hK2 => ?_
 refine wr [(0, 0), (1, 0), (2, 0), (3, 0), (4, 0), (5, 0)] ?_
 refine gb0 [0, 1, 2, 3] [(13, vI (IntKind.i64.wrap ((l1.length : Int) + 3))), (12, vI (l1.length : Int)), (11, .slice A1 l1.length c1), (10, .slice A0 n0 c0)] ?_
 by_cases hc1 : (IntKind.i64.wrap ((l1.length : Int) + 3)) = (f0.length : Int)
 ·rw [if_pos hc1] at h
  refine ge_sliceHi (d := 14) (ty := 37) (t := 37) (el := 3) (sz := 1) (m := n0) (c := c0) (hn := f0.length) (x := (.tmp 10)) (y := (.tmp 13)) (A := A0) (k' := .i64) (hi := (IntKind.i64.wrap ((l1.length : Int) + 3))) (by kernel_rfl) (by kernel_rfl) (by kernel_rfl) hc1 (by kernel_rfl) (by kernel_rfl) hc0 ?_
  refine gb0 [5] [(7, .slice A0 f0.length c0)] ?_
  refine gn hK2 ?_
  refine ws fun K3 hK3 => ?_
  refine ws fun K4 hK4 => ?_
  refine wr [(0, 0), (1, 0), (2, 0)] ?_
  refine gb0 [0, 1, 2] [(17, vI 0), (16, vI (f0.length : Int)), (15, .slice A0 f0.length c0)] ?_
  refine gn hK4 ?_
  refine we_block ?_
  rcases hq1 : iter (punctualsame_Still_int.r0 f0 l1 x2) K 0 with _ | (_ | rr1)
  ·rw [hq1] at h; cases h
  ·rw [hq1] at h
   simp only [] at h
   refine we_iter (A := punctualsame_Still_int.A0 w0 f0 A0 c0 l1 A1 c1 x2) (B := punctualsame_Still_int.B0 w0) hq1 (fun a hF => ⟨hS, hF.weaken ea⟩) (fun s o hf a w hA Q hQ => punctualsame_Still_int_r0 K w0 f0 A0 n0 c0 l1 A1 c1 x2 hR0 hc0 hR1 hL1 hc1 s o hf a w hA Q hQ) ?_
   rintro _ a w1 _ ⟨rfl, hS1, hF⟩
   replace hS1 : St w0 w1 [] := hS1
   refine hK3 [] w1 ?_ a hF
   refine ws fun K13 hK13 => ?_
   refine wr [(0, 0)] ?_
   refine gb0 [0] [(6, .bool true)] ?_
   refine gn hK13 ?_
   obtain rfl := si h
   exact we_ret (pr0 [.tmp 6] [.bool true] ⟨rfl, hS1⟩)
  ·rw [hq1] at h
   simp only [] at h
   refine we_iter (A := punctualsame_Still_int.A0 w0 f0 A0 c0 l1 A1 c1 x2) (B := punctualsame_Still_int.B0 w0) hq1 (fun a hF => ⟨hS, hF.weaken ea⟩) (fun s o hf a w hA Q hQ => punctualsame_Still_int_r0 K w0 f0 A0 n0 c0 l1 A1 c1 x2 hR0 hc0 hR1 hL1 hc1 s o hf a w hA Q hQ) ?_
   rintro _ a w1 _ ⟨rfl, hb⟩
   obtain rfl := si h
   exact hb
 ·rw [if_neg hc1] at h
  cases h

/-! punctual/punctuallaw.WcetProves -/
abbrev WcetProves.Post (w0 : World) (r : Bool) (e : Ending) (w : World) : Prop := e = .returned (.bool r) ∧ St w0 w []
def WcetProves.f (K : Nat) (l0 : List SIns) (x1 : Int) (l2 : List Int) : Option Bool :=
 match timed.f K with
 | none => none
 | some r1 =>
  if r1 = true then
   if (l0.length : Int) > 3000 then
    some true
   else
    match punctualsame_Lend_api_Ins.f l0 (⟨(-1), (-2), (-3)⟩ : SIns) with
    | none => none
    | some _ =>
     match punctualsame_Lend_int.f l2 (-9) with
     | none => none
     | some _ =>
      match wcet_Proves.f K l0 x1 l2 with
      | none => none
      | some r4 =>
       match punctualref_Shown.f K l0 x1 l2 with
       | none => none
       | some r5 =>
        if r4 = r5 then
         match punctualsame_Still_api_Ins.f K (l0 ++ [(⟨(-1), (-2), (-3)⟩ : SIns), (⟨(-1), (-2), (-3)⟩ : SIns), (⟨(-1), (-2), (-3)⟩ : SIns)]) l0 (⟨(-1), (-2), (-3)⟩ : SIns) with
         | none => none
         | some r6 =>
          if r6 = true then
           match punctualsame_Still_int.f K (l2 ++ [(-9), (-9), (-9)]) l2 (-9) with
           | none => none
           | some r7 =>
            some r7
          else
           some false
        else
         some false
  else
   some false
theorem WcetProves_ok (K : Nat) (l0 : List SIns) (A0 : Option Addr) (c0 : Nat) (x1 : Int) (l2 : List Int) (A2 : Option Addr) (c2 : Nat) (w0 : World) (hR0 : RdL w0 A0 l0) (hL0 : l0.length ≤ c0) (hR2 : RdL w0 A2 l2) (hL2 : l2.length ≤ c2) (hG0 : Glob w0 0 [vI (-1), vI (-2), vI (-3)]) (r : Bool) (h : WcetProves.f K l0 x1 l2 = some r) :
  Calls Tryd.prog 4 #[.slice A0 l0.length c0, vI x1, .slice A2 l2.length c2] w0 (WcetProves.Post w0 r) := by
 have hS := St.start w0
 unfold WcetProves.f at h
 refine calls_enter (n := 41) (args := [.slice A0 l0.length c0, vI x1, .slice A2 l2.length c2]) (fn := Tryd.f4) rfl rfl rfl rfl ?_
 show WE _ _ _ _ [(0, .slice A0 l0.length c0), (1, vI x1), (2, .slice A2 l2.length c2)] _
 refine ws fun K1 hK1 => ?_
 refine wr [(0, 0)] ?_
 refine gb0 [0] [(6, .bool false)] ?_
 refine gn hK1 ?_
 refine ws fun K2 hK2 => ?_
 refine ws fun K3 hK3 => ?_
 refine wr [(0, 1), (1, 0)] ?_
 rcases hq1 : timed.f K with _ | r1
 ·rw [hq1] at h; cases h
 rw [hq1] at h
 simp only [] at h
 refine ge_call (d := some 9) (f := 13) (args := #[]) (by kernel_rfl) (timed_ok K _ _ hq1) ?_
 rintro _ w1 ⟨rfl, hS1⟩
 refine ⟨_, rfl, hS1.below, ?_⟩
 have hS2 := hS.call hS1
 refine gb0 [1] [(10, .bool (!r1))] ?_
 refine gn hK3 ?_
 by_cases hc1 : r1 = true
 ·rw [if_pos hc1] at h
  refine wk 10 (!r1) false (congrArg (fun z => !z) hc1) ?_
  refine we_false (by kernel_rfl) ?_
  refine we_skip fun a hF => hK2 _ _ ?_ a hF
  refine ws fun K4 hK4 => ?_
  refine ws fun K5 hK5 => ?_
  refine wr [(0, 0), (1, 0), (2, 0)] ?_
  refine gb0 [0, 1, 2] [(13, .bool (decide ((l0.length : Int) > 3000))), (12, vI (l0.length : Int)), (11, .slice A0 l0.length c0)] ?_
  refine gn hK5 ?_
  by_cases hc2 : (l0.length : Int) > 3000
  ·rw [if_pos hc2] at h
   refine wk 13 (decide ((l0.length : Int) > 3000)) true (decide_eq_true hc2) ?_
   refine we_true (by kernel_rfl) ?_
   refine ws fun K6 hK6 => ?_
   refine wr [(0, 0)] ?_
   refine gb0 [0] [(6, .bool true)] ?_
   refine gn hK6 ?_
   obtain rfl := si h
   exact we_ret (pr0 [.tmp 6] [.bool true] ⟨rfl, hS2⟩)
  ·rw [if_neg hc2] at h
   refine wk 13 (decide ((l0.length : Int) > 3000)) false (decide_eq_false hc2) ?_
   refine we_false (by kernel_rfl) ?_
   refine we_skip fun a hF => hK4 _ _ ?_ a hF
   refine ws fun K7 hK7 => ?_
   refine wr [(0, 0), (1, 0), (2, 1), (3, 0), (4, 1), (5, 0), (6, 0)] ?_
   refine gb [0, 1] [(15, .agg #[vI (-1), vI (-2), vI (-3)]), (14, .slice A0 l0.length c0)] [.loaded ⟨0, 0, none⟩ (vI (-1)), .loaded ⟨0, 1, none⟩ (vI (-2)), .loaded ⟨0, 2, none⟩ (vI (-3))] ⟨hS2.glob hG0 rfl, hS2.glob hG0 rfl, hS2.glob hG0 rfl, trivial⟩ ?_
   rcases hq2 : punctualsame_Lend_api_Ins.f l0 (⟨(-1), (-2), (-3)⟩ : SIns) with _ | r2
   ·rw [hq2] at h; cases h
   rw [hq2] at h
   simp only [] at h
   obtain rfl := punctualsame_Lend_api_Ins_full _ _ hq2
   refine ge_call (d := some 16) (f := 10) (args := #[.slice A0 l0.length c0, .agg #[vI (-1), vI (-2), vI (-3)]]) (by kernel_rfl) (punctualsame_Lend_api_Ins_ok l0 A0 c0 (⟨(-1), (-2), (-3)⟩ : SIns) _ (hS2.rd hR0) hL0 _ hq2) ?_
   rintro _ w2 ⟨Z1, cz1, rfl, hcp1, hS3⟩
   refine ⟨_, rfl, hS3.below, ?_⟩
   have hS4 := hS2.call hS3
   refine gb0 [3] [(17, .slice A2 l2.length c2)] ?_
   rcases hq3 : punctualsame_Lend_int.f l2 (-9) with _ | r3
   ·rw [hq3] at h; cases h
   rw [hq3] at h
   simp only [] at h
   obtain rfl := punctualsame_Lend_int_full _ _ hq3
   refine ge_call (d := some 18) (f := 14) (args := #[.slice A2 l2.length c2, vI (-9)]) (by kernel_rfl) (punctualsame_Lend_int_ok l2 A2 c2 (-9) _ (hS4.rd hR2) hL2 _ hq3) ?_
   rintro _ w3 ⟨Z2, cz2, rfl, hcp2, hS5⟩
   refine ⟨_, rfl, hS5.below, ?_⟩
   have hS6 := hS4.call hS5
   refine gb0 [5, 6] [(8, .slice Z2 l2.length cz2), (7, .slice Z1 l0.length cz1)] ?_
   refine gn hK7 ?_
   refine ws fun K8 hK8 => ?_
   refine wr [(0, 0), (1, 0), (2, 0), (3, 0), (4, 1), (5, 0), (6, 0), (7, 0), (8, 0), (9, 1), (10, 0), (11, 0), (12, 0), (13, 0), (14, 0), (15, 1), (16, 0), (17, 0), (18, 0), (19, 0), (20, 1), (21, 0), (22, 0)] ?_
   rcases hq4 : wcet_Proves.f K l0 x1 l2 with _ | r4
   ·rw [hq4] at h; cases h
   rw [hq4] at h
   simp only [] at h
   refine gb0 [0, 1, 2, 3] [(22, .agg #[vI x1, .slice Z2 l2.length cz2]), (21, .slice Z2 l2.length cz2), (20, vI x1), (19, .slice Z1 l0.length cz1)] ?_
   refine ge_call (d := some 23) (f := 15) (args := #[.slice Z1 l0.length cz1, .agg #[vI x1, .slice Z2 l2.length cz2]]) (by kernel_rfl) (wcet_Proves_ok K l0 Z1 cz1 x1 l2 Z2 cz2 _ ((hS6.rdAt 1 rfl).pre) (by have h0 := hcp1; simp only [List.length_append, List.length_cons, List.length_nil] at h0; omega) ((hS6.rdAt 0 rfl).pre) (by have h0 := hcp2; simp only [List.length_append, List.length_cons, List.length_nil] at h0; omega) _ hq4) ?_
   rintro _ w4 ⟨rfl, hS7⟩
   refine ⟨_, rfl, hS7.below, ?_⟩
   have hS8 := hS6.call hS7
   rcases hq5 : punctualref_Shown.f K l0 x1 l2 with _ | r5
   ·rw [hq5] at h; cases h
   rw [hq5] at h
   simp only [] at h
   refine gb0 [5, 6, 7, 8] [(27, .agg #[vI x1, .slice A2 l2.length c2]), (26, .slice A2 l2.length c2), (25, vI x1), (24, .slice A0 l0.length c0)] ?_
   refine ge_call (d := some 28) (f := 16) (args := #[.slice A0 l0.length c0, .agg #[vI x1, .slice A2 l2.length c2]]) (by kernel_rfl) (punctualref_Shown_ok K l0 A0 c0 x1 l2 A2 c2 _ (hS8.rd hR0) hL0 (hS8.rd hR2) hL2 _ hq5) ?_
   rintro _ w5 ⟨rfl, hS9⟩
   refine ⟨_, rfl, hS9.below, ?_⟩
   have hS10 := hS8.call hS9
   refine gb0 [10, 11] [(30, .bool (r4 == r5)), (29, .bool (r4 == r5))] ?_
   by_cases hc3 : r4 = r5
   ·rw [if_pos hc3] at h
    refine gk 30 (r4 == r5) true (beq_iff_eq.2 hc3) ?_
    refine gb [12, 13, 14] [(33, .agg #[vI (-1), vI (-2), vI (-3)]), (32, .slice A0 l0.length c0), (31, .slice Z1 l0.length cz1)] [.loaded ⟨0, 0, none⟩ (vI (-1)), .loaded ⟨0, 1, none⟩ (vI (-2)), .loaded ⟨0, 2, none⟩ (vI (-3))] ⟨hS10.glob hG0 rfl, hS10.glob hG0 rfl, hS10.glob hG0 rfl, trivial⟩ ?_
    rcases hq6 : punctualsame_Still_api_Ins.f K (l0 ++ [(⟨(-1), (-2), (-3)⟩ : SIns), (⟨(-1), (-2), (-3)⟩ : SIns), (⟨(-1), (-2), (-3)⟩ : SIns)]) l0 (⟨(-1), (-2), (-3)⟩ : SIns) with _ | r6
    ·rw [hq6] at h; cases h
    rw [hq6] at h
    simp only [] at h
    refine ge_call (d := some 34) (f := 12) (args := #[.slice Z1 l0.length cz1, .slice A0 l0.length c0, .agg #[vI (-1), vI (-2), vI (-3)]]) (by kernel_rfl) (punctualsame_Still_api_Ins_ok K (l0 ++ [(⟨(-1), (-2), (-3)⟩ : SIns), (⟨(-1), (-2), (-3)⟩ : SIns), (⟨(-1), (-2), (-3)⟩ : SIns)]) Z1 l0.length cz1 l0 A0 c0 (⟨(-1), (-2), (-3)⟩ : SIns) _ (hS10.rdAt 1 rfl) hcp1 (hS10.rd hR0) hL0 _ hq6) ?_
    rintro _ w6 ⟨rfl, hS11⟩
    refine ⟨_, rfl, hS11.below, ?_⟩
    have hS12 := hS10.call hS11
    refine gb0 [16, 17] [(36, .bool r6), (35, .bool r6)] ?_
    by_cases hc4 : r6 = true
    ·rw [if_pos hc4] at h
     refine gk 36 r6 true hc4 ?_
     refine gb0 [18, 19] [(38, .slice A2 l2.length c2), (37, .slice Z2 l2.length cz2)] ?_
     rcases hq7 : punctualsame_Still_int.f K (l2 ++ [(-9), (-9), (-9)]) l2 (-9) with _ | r7
     ·rw [hq7] at h; cases h
     rw [hq7] at h
     simp only [] at h
     refine ge_call (d := some 39) (f := 17) (args := #[.slice Z2 l2.length cz2, .slice A2 l2.length c2, vI (-9)]) (by kernel_rfl) (punctualsame_Still_int_ok K (l2 ++ [(-9), (-9), (-9)]) Z2 l2.length cz2 l2 A2 c2 (-9) _ (hS12.rdAt 0 rfl) hcp2 (hS12.rd hR2) hL2 _ hq7) ?_
     rintro _ w7 ⟨rfl, hS13⟩
     refine ⟨_, rfl, hS13.below, ?_⟩
     have hS14 := hS12.call hS13
     refine gb0 [21, 22] [(6, .bool r7), (40, .bool r7)] ?_
     refine gn hK8 ?_
     have hS15 := hS14.takeN 0
     obtain rfl := si h
     exact we_ret (pr0 [.tmp 6] [.bool r7] ⟨rfl, hS15⟩)
    ·rw [if_neg hc4] at h
     refine gk 36 r6 false (Bool.eq_false_iff.2 hc4) ?_
     refine gb0 [18, 19] [(38, undef), (37, undef)] ?_
     refine ge_off rfl rfl rfl (by kernel_rfl) ?_
     refine gb0 [21, 22] [(6, .bool false), (40, .bool false)] ?_
     refine gn hK8 ?_
     have hS16 := hS12.takeN 0
     obtain rfl := si h
     exact we_ret (pr0 [.tmp 6] [.bool false] ⟨rfl, hS16⟩)
   ·rw [if_neg hc3] at h
    refine gk 30 (r4 == r5) false (beq_eq_false_iff_ne.2 hc3) ?_
    refine gb0 [12, 13, 14] [(33, undef), (32, undef), (31, undef)] ?_
    refine ge_off rfl rfl rfl (by kernel_rfl) ?_
    refine gb0 [16, 17, 18, 19] [(38, undef), (37, undef), (36, .bool false), (35, .bool false)] ?_
    refine ge_off rfl rfl rfl (by kernel_rfl) ?_
    refine gb0 [21, 22] [(6, .bool false), (40, .bool false)] ?_
    refine gn hK8 ?_
    have hS17 := hS10.takeN 0
    obtain rfl := si h
    exact we_ret (pr0 [.tmp 6] [.bool false] ⟨rfl, hS17⟩)
 ·rw [if_neg hc1] at h
  refine wk 10 (!r1) true (congrArg (fun z => !z) (Bool.eq_false_iff.2 hc1)) ?_
  refine we_true (by kernel_rfl) ?_
  refine ws fun K9 hK9 => ?_
  refine wr [(0, 0)] ?_
  refine gb0 [0] [(6, .bool false)] ?_
  refine gn hK9 ?_
  obtain rfl := si h
  exact we_ret (pr0 [.tmp 6] [.bool false] ⟨rfl, hS2⟩)
end Go.Proofs.YtnckikjcjgmdlaaDoor.GV
