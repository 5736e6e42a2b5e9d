/- Walks of single functions, written by a program of this work. -/
import Derived.Test.YtlipdmblinjjaaaDoorGWFixedRanks4
namespace Go.Proofs.YtlipdmblinjjaaaDoor.GV
open Go Go.RowKit
set_option linter.unusedVariables false
set_option linter.unusedSimpArgs false
set_option maxRecDepth 100000

/-! slices.IndexFunc[[]int,int] -/
abbrev slices_IndexFunc_int_int.Post (w0 : World) (r : Int) (e : Ending) (w : World) : Prop := e = .returned (vI r) ∧ St w0 w []
def slices_IndexFunc_int_int.r0 (l0 : List Int) : Nat → Option (Nat ⊕ (Unit ⊕ Int))
 | i1 =>
  if (i1 : Int) < (l0.length : Int) then
   match l0[i1]? with
   | none => none
   | some e1 =>
    if (fixed_Assign_1.f e1) = true then
     some (.inr (.inr (i1 : Int)))
    else
     some (.inl (i1 + 1))
  else
   some (.inr (.inl ()))
def slices_IndexFunc_int_int.f (K : Nat) (l0 : List Int) : Option Int :=
 match iter (slices_IndexFunc_int_int.r0 l0) K 0 with
 | none => none
 | some (.inl _) =>
  some (-1)
 | some (.inr rr1) =>
  some rr1
abbrev slices_IndexFunc_int_int.A0 (w0 : World) (l0 : List Int) (A0 : Option Addr) (c0 : Nat) : Nat → Act → World → Prop := fun (s : Nat) a w => St w0 w [] ∧ Frm 19 a [(0, .slice A0 l0.length c0), (1, .func (.func 85) #[] #[]), (7, vI (l0.length : Int)), (8, vI (s : Int))]
abbrev slices_IndexFunc_int_int.B0 (w0 : World) : (Unit ⊕ Int) → Exit → Act → World → Prop := Exits 0 (fun (s : Unit) a w => St w0 w [] ∧ Frm 19 a []) (Rets Tryd.prog Tryd.f102 (slices_IndexFunc_int_int.Post w0))
theorem slices_IndexFunc_int_int_r0 (K : Nat) (w0 : World) (l0 : List Int) (A0 : Option Addr) (c0 : Nat) (hR0 : RdL w0 A0 l0) (hL0 : l0.length ≤ c0) (s : Nat) (o : Nat ⊕ (Unit ⊕ Int)) (h : slices_IndexFunc_int_int.r0 l0 s = some o) (a : Act) (w : World) (hA : slices_IndexFunc_int_int.A0 w0 l0 A0 c0 s a w) (Q : Exit → Act → World → Prop) (hQ : ∀ x a w, Outs (slices_IndexFunc_int_int.A0 w0 l0 A0 c0) (slices_IndexFunc_int_int.B0 w0) o x a w → Q x a w) : (subF Tryd.f102 [1, 0, 1, 0, 0]).wp Tryd.prog Q a w := by
 obtain ⟨i1, hs⟩ : ∃ z, z = s := ⟨s, rfl⟩
 subst hs
 obtain ⟨hS, hF⟩ := hA
 replace hS : St w0 w [] := hS
 simp only [slices_IndexFunc_int_int.r0] at h
 refine (?_ : WE Tryd.prog 19 (subF Tryd.f102 [1, 0, 1, 0, 0]) Q [(0, .slice A0 l0.length c0), (1, .func (.func 85) #[] #[]), (7, vI (l0.length : Int)), (8, vI (i1 : Int))] w) a hF
 clear hF a
 refine ws fun K4 hK4 => ?_
 refine wr [(0, 0)] ?_
 refine gb0 [0] [(9, .bool (decide ((i1 : Int) < (l0.length : Int))))] ?_
 refine gn hK4 ?_
 refine ws fun K5 hK5 => ?_
 by_cases hc1 : (i1 : Int) < (l0.length : Int)
 ·rw [if_pos hc1] at h
  refine wk 9 (decide ((i1 : Int) < (l0.length : Int))) true (decide_eq_true hc1) ?_
  refine we_true (by kernel_rfl) ?_
  refine we_skip fun a hF => hK5 _ _ ?_ a hF
  refine ws fun K6 hK6 => ?_
  refine we_block ?_
  refine ws fun K7 hK7 => ?_
  refine wr [(0, 0), (1, 0)] ?_
  refine gb0 [0, 1] [(5, vI (i1 : Int)), (10, vI (i1 : Int))] ?_
  refine gn hK7 ?_
  refine ws fun K8 hK8 => ?_
  refine wr [(0, 0), (1, 0), (2, 0), (3, 0), (4, 0), (5, 1)] ?_
  refine gb0 [0, 1, 2] [(13, vI (i1 : Int)), (12, .slice A0 l0.length c0), (11, .func (.func 85) #[] #[])] ?_
  rcases hx1 : l0[i1]? with _ | e1
  ·rw [hx1] at h; cases h
  rw [hx1] at h
  simp only [] at h
  refine gi 14 0 23 3 1 l0.length c0 (.tmp 12) (.tmp 13) A0 .i64 (i1 : Int) i1 ((hS.rd hR0).eqSome (pos_of_get hx1)) rfl (lt_of_get hx1) ?_
  refine gb [4] [(15, vI e1)] [.loaded ⟨blkOf A0, offOf A0 + i1 * 1, none⟩ (vI e1)] ⟨RdL.cell (j := 0) (hS.rd hR0) hx1 rfl, trivial⟩ ?_
  refine ge_call (d := some 16) (f := 85) (args := #[vI e1]) (by kernel_rfl) (fixed_Assign_1_ok e1 _ _ rfl) ?_
  rintro _ w1 ⟨rfl, hS1⟩
  refine ⟨_, rfl, hS1.below, ?_⟩
  have hS2 := hS.call hS1
  refine gn hK8 ?_
  by_cases hc2 : (fixed_Assign_1.f e1) = true
  ·rw [if_pos hc2] at h
   refine wk 16 (fixed_Assign_1.f e1) true hc2 ?_
   refine we_true (by kernel_rfl) ?_
   refine ws fun K9 hK9 => ?_
   refine wr [(0, 0), (1, 0)] ?_
   refine gb0 [0, 1] [(4, vI (i1 : Int)), (17, vI (i1 : Int))] ?_
   refine gn hK9 ?_
   obtain rfl := si h
   exact we_ret fun a hF => hQ _ _ _ (Outs.out nofun (Exits.on ⟨rfl, (pr0 [.tmp 4] [vI (i1 : Int)] ⟨rfl, hS2⟩) a hF⟩))
  ·rw [if_neg hc2] at h
   refine wk 16 (fixed_Assign_1.f e1) false (Bool.eq_false_iff.2 hc2) ?_
   refine we_false (by kernel_rfl) ?_
   refine we_skip fun a hF => hK6 _ _ ?_ a hF
   refine wr [(0, 0), (1, 0)] ?_
   refine ge_addn (d := 18) (ty := 3) (x := (.tmp 8)) (y := (.const (vI 1))) (t := 3) (t2 := 3) (k := .i64) (m := i1) (by kernel_rfl) (by kernel_rfl) (by kernel_rfl) (by have h0 := hR0.small; omega) ?_
   refine gb0 [1] [(8, vI ((i1 + 1 : Nat) : Int))] ?_
   obtain rfl := si h
   exact ge_nil fun a hF => hQ _ _ _ (Outs.again ⟨hS2, hF.weaken ea⟩)
 ·rw [if_neg hc1] at h
  refine wk 9 (decide ((i1 : Int) < (l0.length : Int))) false (decide_eq_false hc1) ?_
  refine we_false (by kernel_rfl) ?_
  obtain rfl := si h
  exact we_exit fun a hF => hQ _ _ _ (Outs.out nofun (Exits.here ⟨hS, hF.weaken trivial⟩))
theorem slices_IndexFunc_int_int_ok (K : Nat) (l0 : List Int) (A0 : Option Addr) (c0 : Nat) (w0 : World) (hR0 : RdL w0 A0 l0) (hL0 : l0.length ≤ c0) (r : Int) (h : slices_IndexFunc_int_int.f K l0 = some r) :
  Calls Tryd.prog 102 #[.slice A0 l0.length c0, .func (.func 85) #[] #[]] w0 (slices_IndexFunc_int_int.Post w0 r) := by
 have hS := St.start w0
 unfold slices_IndexFunc_int_int.f at h
 refine calls_enter (n := 19) (args := [.slice A0 l0.length c0, .func (.func 85) #[] #[]]) (fn := Tryd.f102) rfl rfl rfl rfl ?_
 show WE _ _ _ _ [(0, .slice A0 l0.length c0), (1, .func (.func 85) #[] #[])] _
 refine ws fun K1 hK1 => ?_
 refine wr [(0, 0)] ?_
 refine gb0 [0] [(4, vI 0)] ?_
 refine gn hK1 ?_
 refine ws fun K2 hK2 => ?_
 refine ws fun K3 hK3 => ?_
 refine wr [(0, 0), (1, 0), (2, 0)] ?_
 refine gb0 [0, 1, 2] [(8, vI 0), (7, vI (l0.length : Int)), (6, .slice A0 l0.length c0)] ?_
 refine gn hK3 ?_
 refine we_block ?_
 rcases hq2 : iter (slices_IndexFunc_int_int.r0 l0) K 0 with _ | (_ | rr1)
 ·rw [hq2] at h; cases h
 ·rw [hq2] at h
  simp only [] at h
  refine we_iter (A := slices_IndexFunc_int_int.A0 w0 l0 A0 c0) (B := slices_IndexFunc_int_int.B0 w0) hq2 (fun a hF => ⟨hS, hF.weaken ea⟩) (fun s o hf a w hA Q hQ => slices_IndexFunc_int_int_r0 K w0 l0 A0 c0 hR0 hL0 s o hf a w hA Q hQ) ?_
  rintro _ a w2 _ ⟨rfl, hS3, hF⟩
  replace hS3 : St w0 w2 [] := hS3
  refine hK2 [] w2 ?_ a hF
  refine ws fun K10 hK10 => ?_
  refine wr [(0, 0)] ?_
  refine gb0 [0] [(4, vI (-1))] ?_
  refine gn hK10 ?_
  obtain rfl := si h
  exact we_ret (pr0 [.tmp 4] [vI (-1)] ⟨rfl, hS3⟩)
 ·rw [hq2] at h
  simp only [] at h
  refine we_iter (A := slices_IndexFunc_int_int.A0 w0 l0 A0 c0) (B := slices_IndexFunc_int_int.B0 w0) hq2 (fun a hF => ⟨hS, hF.weaken ea⟩) (fun s o hf a w hA Q hQ => slices_IndexFunc_int_int_r0 K w0 l0 A0 c0 hR0 hL0 s o hf a w hA Q hQ) ?_
  rintro _ a w1 _ ⟨rfl, hb⟩
  obtain rfl := si h
  exact hb

/-! slices.ContainsFunc[[]int,int] -/
abbrev slices_ContainsFunc_int_int.Post (w0 : World) (r : Bool) (e : Ending) (w : World) : Prop := e = .returned (.bool r) ∧ St w0 w []
def slices_ContainsFunc_int_int.f (K : Nat) (l0 : List Int) : Option Bool :=
 match slices_IndexFunc_int_int.f K l0 with
 | none => none
 | some r1 =>
  some (decide (r1 ≥ 0))
theorem slices_ContainsFunc_int_int_ok (K : Nat) (l0 : List Int) (A0 : Option Addr) (c0 : Nat) (w0 : World) (hR0 : RdL w0 A0 l0) (hL0 : l0.length ≤ c0) (r : Bool) (h : slices_ContainsFunc_int_int.f K l0 = some r) :
  Calls Tryd.prog 84 #[.slice A0 l0.length c0, .func (.func 85) #[] #[]] w0 (slices_ContainsFunc_int_int.Post w0 r) := by
 have hS := St.start w0
 unfold slices_ContainsFunc_int_int.f at h
 refine calls_enter (n := 9) (args := [.slice A0 l0.length c0, .func (.func 85) #[] #[]]) (fn := Tryd.f84) rfl rfl rfl rfl ?_
 show WE _ _ _ _ [(0, .slice A0 l0.length c0), (1, .func (.func 85) #[] #[])] _
 refine ws fun K1 hK1 => ?_
 refine wr [(0, 0)] ?_
 refine gb0 [0] [(4, .bool false)] ?_
 refine gn hK1 ?_
 refine ws fun K2 hK2 => ?_
 refine wr [(0, 0), (1, 0), (2, 1), (3, 0), (4, 0)] ?_
 rcases hq1 : slices_IndexFunc_int_int.f K l0 with _ | r1
 ·rw [hq1] at h; cases h
 rw [hq1] at h
 simp only [] at h
 refine gb0 [0, 1] [(6, .func (.func 85) #[] #[]), (5, .slice A0 l0.length c0)] ?_
 refine ge_call (d := some 7) (f := 102) (args := #[.slice A0 l0.length c0, .func (.func 85) #[] #[]]) (by kernel_rfl) (slices_IndexFunc_int_int_ok K l0 A0 c0 _ (hS.rd hR0) hL0 _ hq1) ?_
 rintro _ w1 ⟨rfl, hS1⟩
 refine ⟨_, rfl, hS1.below, ?_⟩
 have hS2 := hS.call hS1
 refine gb0 [3, 4] [(4, .bool (decide (r1 ≥ 0))), (8, .bool (decide (r1 ≥ 0)))] ?_
 refine gn hK2 ?_
 obtain rfl := si h
 exact we_ret (pr0 [.tmp 4] [.bool (decide (r1 ≥ 0))] ⟨rfl, hS2⟩)

/-! punctual/fixed.ceil -/
abbrev fixed_ceil.Post (w0 : World) (r : Int) (e : Ending) (w : World) : Prop := e = .returned (vI r) ∧ St w0 w []
def fixed_ceil.f (x0 : Int) (x1 : Int) : Option Int :=
 if x1 = 0 then
  none
 else
  some (IntKind.i64.wrap (Int.tdiv (IntKind.i64.wrap ((IntKind.i64.wrap (x0 + x1)) - 1)) x1))
theorem fixed_ceil_ok (x0 : Int) (x1 : Int) (w0 : World) (r : Int) (h : fixed_ceil.f x0 x1 = some r) :
  Calls Tryd.prog 96 #[vI x0, vI x1] w0 (fixed_ceil.Post w0 r) := by
 have hS := St.start w0
 unfold fixed_ceil.f at h
 refine calls_enter (n := 11) (args := [vI x0, vI x1]) (fn := Tryd.f96) rfl rfl rfl rfl ?_
 show WE _ _ _ _ [(0, vI x0), (1, vI x1)] _
 refine ws fun K1 hK1 => ?_
 refine wr [(0, 0)] ?_
 refine gb0 [0] [(4, vI 0)] ?_
 refine gn hK1 ?_
 refine ws fun K2 hK2 => ?_
 refine wr [(0, 0), (1, 0), (2, 0), (3, 0), (4, 0), (5, 0), (6, 0)] ?_
 refine gb0 [0, 1, 2, 3, 4] [(9, vI x1), (8, vI (IntKind.i64.wrap ((IntKind.i64.wrap (x0 + x1)) - 1))), (7, vI (IntKind.i64.wrap (x0 + x1))), (6, vI x1), (5, vI x0)] ?_
 by_cases hc1 : x1 = 0
 ·rw [if_pos hc1] at h
  cases h
 ·rw [if_neg hc1] at h
  refine ge_div (d := 10) (ty := 3) (op := .quo) (x := (.tmp 8)) (y := (.tmp 9)) (t := 3) (t2 := 3) (k := .i64) (p := (IntKind.i64.wrap ((IntKind.i64.wrap (x0 + x1)) - 1))) (q := x1) (v := vI (IntKind.i64.wrap (Int.tdiv (IntKind.i64.wrap ((IntKind.i64.wrap (x0 + x1)) - 1)) x1))) (by kernel_rfl) (by kernel_rfl) (by kernel_rfl) hc1 rfl ?_
  refine gb0 [6] [(4, vI (IntKind.i64.wrap (Int.tdiv (IntKind.i64.wrap ((IntKind.i64.wrap (x0 + x1)) - 1)) x1)))] ?_
  refine gn hK2 ?_
  obtain rfl := si h
  exact we_ret (pr0 [.tmp 4] [vI (IntKind.i64.wrap (Int.tdiv (IntKind.i64.wrap ((IntKind.i64.wrap (x0 + x1)) - 1)) x1))] ⟨rfl, hS⟩)

/-! punctual/fixed.response$1 -/
abbrev fixed_response_1.Post (w0 : World) (r : Int) (e : Ending) (w : World) : Prop := e = .returned (vI r) ∧ St w0 w []
def fixed_response_1.r0 (x0 : Int) (lf_2 : List STask) : Int × Nat → Option ((Int × Nat) ⊕ (Int ⊕ Int))
 | (z1, i1) =>
  if (i1 : Int) < (lf_2.length : Int) then
   match lf_2[i1]? with
   | none => none
   | some e1 =>
    match fixed_ceil.f (IntKind.i64.wrap (x0 + e1.J)) e1.T with
    | none => none
    | some r1 =>
     some (.inl (IntKind.i64.wrap (z1 + (IntKind.i64.wrap (r1 * e1.C))), (i1 + 1)))
  else
   some (.inr (.inl z1))
def fixed_response_1.f (K : Nat) (x0 : Int) (xf_0 : STask) (xf_1 : Int) (lf_2 : List STask) : Option Int :=
 match iter (fixed_response_1.r0 x0 lf_2) K (IntKind.i64.wrap (xf_0.C + xf_1), 0) with
 | none => none
 | some (.inl z3) =>
  some z3
 | some (.inr rr1) =>
  some rr1
abbrev fixed_response_1.A0 (w0 : World) (x0 : Int) (lf_2 : List STask) (Af_2 : Option Addr) (cf_2 : Nat) : (Int × Nat) → Act → World → Prop := fun (s : Int × Nat) a w => St w0 w [] ∧ Frm 33 a [(0, vI x0), (6, vI s.1), (13, .slice Af_2 lf_2.length cf_2), (14, vI (lf_2.length : Int)), (15, vI (s.2 : Int))]
abbrev fixed_response_1.B0 (w0 : World) : (Int ⊕ Int) → Exit → Act → World → Prop := Exits 0 (fun (s : Int) a w => St w0 w [] ∧ Frm 33 a [(6, vI s)]) (Rets Tryd.prog Tryd.f95 (fixed_response_1.Post w0))
theorem fixed_response_1_r0 (K : Nat) (w0 : World) (x0 : Int) (bf_0 : Nat) (xf_0 : STask) (bf_1 : Nat) (xf_1 : Int) (bf_2 : Nat) (lf_2 : List STask) (Af_2 : Option Addr) (cf_2 : Nat) (hBf_0 : Glob w0 bf_0 [.string xf_0.Name, vI xf_0.C, vI xf_0.T, vI xf_0.D, vI xf_0.J, vI xf_0.O, vI xf_0.P]) (hBf_1 : Glob w0 bf_1 [vI xf_1]) (hRf_2 : RdL w0 Af_2 lf_2) (hLf_2 : lf_2.length ≤ cf_2) (hBf_2 : Glob w0 bf_2 [.slice Af_2 lf_2.length cf_2]) (s : Int × Nat) (o : (Int × Nat) ⊕ (Int ⊕ Int)) (h : fixed_response_1.r0 x0 lf_2 s = some o) (a : Act) (w : World) (hA : fixed_response_1.A0 w0 x0 lf_2 Af_2 cf_2 s a w) (Q : Exit → Act → World → Prop) (hQ : ∀ x a w, Outs (fixed_response_1.A0 w0 x0 lf_2 Af_2 cf_2) (fixed_response_1.B0 w0) o x a w → Q x a w) : (subF Tryd.f95 [1, 1, 0, 1, 0, 0]).wp Tryd.prog Q a w := by
 obtain ⟨z1, i1⟩ := s
 obtain ⟨hS, hF⟩ := hA
 replace hS : St w0 w [] := hS
 simp only [fixed_response_1.r0] at h
 refine (?_ : WE Tryd.prog 33 (subF Tryd.f95 [1, 1, 0, 1, 0, 0]) Q [(0, vI x0), (6, vI z1), (13, .slice Af_2 lf_2.length cf_2), (14, vI (lf_2.length : Int)), (15, vI (i1 : Int))] w) a hF
 clear hF a
 refine ws fun K5 hK5 => ?_
 refine wr [(0, 0)] ?_
 refine gb0 [0] [(16, .bool (decide ((i1 : Int) < (lf_2.length : Int))))] ?_
 refine gn hK5 ?_
 refine ws fun K6 hK6 => ?_
 by_cases hc1 : (i1 : Int) < (lf_2.length : Int)
 ·rw [if_pos hc1] at h
  refine wk 16 (decide ((i1 : Int) < (lf_2.length : Int))) true (decide_eq_true hc1) ?_
  refine we_true (by kernel_rfl) ?_
  refine we_skip fun a hF => hK6 _ _ ?_ a hF
  refine ws fun K7 hK7 => ?_
  refine we_block ?_
  refine ws fun K8 hK8 => ?_
  refine wr [(0, 0), (1, 0), (2, 1), (3, 2)] ?_
  rcases hx1 : lf_2[i1]? with _ | e1
  ·rw [hx1] at h; cases h
  rw [hx1] at h
  simp only [] at h
  refine gi 17 0 40 46 7 lf_2.length cf_2 (.tmp 13) (.tmp 15) Af_2 .i64 (i1 : Int) i1 ((hS.rd hRf_2).eqSome (pos_of_get hx1)) rfl (lt_of_get hx1) ?_
  refine gb [1] [(18, .agg #[.string e1.Name, vI e1.C, vI e1.T, vI e1.D, vI e1.J, vI e1.O, vI e1.P])] [.loaded ⟨blkOf Af_2, offOf Af_2 + i1 * 7, none⟩ (.string e1.Name), .loaded ⟨blkOf Af_2, offOf Af_2 + i1 * 7 + 1, none⟩ (vI e1.C), .loaded ⟨blkOf Af_2, offOf Af_2 + i1 * 7 + 2, none⟩ (vI e1.T), .loaded ⟨blkOf Af_2, offOf Af_2 + i1 * 7 + 3, none⟩ (vI e1.D), .loaded ⟨blkOf Af_2, offOf Af_2 + i1 * 7 + 4, none⟩ (vI e1.J), .loaded ⟨blkOf Af_2, offOf Af_2 + i1 * 7 + 5, none⟩ (vI e1.O), .loaded ⟨blkOf Af_2, offOf Af_2 + i1 * 7 + 6, none⟩ (vI e1.P)] ⟨RdL.cell (j := 0) (hS.rd hRf_2) hx1 rfl, RdL.cell (j := 1) (hS.rd hRf_2) hx1 rfl, RdL.cell (j := 2) (hS.rd hRf_2) hx1 rfl, RdL.cell (j := 3) (hS.rd hRf_2) hx1 rfl, RdL.cell (j := 4) (hS.rd hRf_2) hx1 rfl, RdL.cell (j := 5) (hS.rd hRf_2) hx1 rfl, RdL.cell (j := 6) (hS.rd hRf_2) hx1 rfl, trivial⟩ ?_
  refine gw (some 8) (.cells #[.string (⟨#[]⟩), vI 0, vI 0, vI 0, vI 0, vI 0, vI 0] 46) (fun b => pP b 0) hS fun b1 w1 hx2 hS1 => ?_
  refine gs b1 0 #[.string (⟨#[]⟩), vI 0, vI 0, vI 0, vI 0, vI 0, vI 0] 46 [.string e1.Name, vI e1.C, vI e1.T, vI e1.D, vI e1.J, vI e1.O, vI e1.P] hS1 fun w2 hS2 => ?_
  have hS3 : St w0 w2 [Own.blk b1 (.cells #[.string e1.Name, vI e1.C, vI e1.T, vI e1.D, vI e1.J, vI e1.O, vI e1.P] 46 (0, 0))] := hS2
  refine gn hK8 ?_
  refine we_draws (by kernel_rfl) [(0, 0), (1, 0), (2, 0), (3, 0), (4, 0), (5, 0), (6, 0), (8, 0), (9, 0), (7, 1), (10, 0), (11, 0), (12, 0)] (by kernel_rfl) ?_
  have hS4 := hS3.drew
  rcases hq1 : fixed_ceil.f (IntKind.i64.wrap (x0 + e1.J)) e1.T with _ | r1
  ·rw [hq1] at h; cases h
  rw [hq1] at h
  simp only [] at h
  refine gb [0, 1, 2, 3, 4, 5, 6, 8, 9] [(28, vI e1.C), (27, pP b1 1), (25, vI e1.T), (24, pP b1 2), (23, vI (IntKind.i64.wrap (x0 + e1.J))), (22, vI e1.J), (21, pP b1 4), (20, vI x0), (19, vI z1)] [.loaded ⟨b1, 4, none⟩ (vI e1.J), .loaded ⟨b1, 2, none⟩ (vI e1.T), .loaded ⟨b1, 1, none⟩ (vI e1.C)] ⟨hS4.c 0, hS4.c 0, hS4.c 0, trivial⟩ ?_
  refine ge_call (d := some 26) (f := 96) (args := #[vI (IntKind.i64.wrap (x0 + e1.J)), vI e1.T]) (by kernel_rfl) (fixed_ceil_ok (IntKind.i64.wrap (x0 + e1.J)) e1.T _ _ hq1) ?_
  rintro _ w3 ⟨rfl, hS5⟩
  refine ⟨_, rfl, hS5.below, ?_⟩
  have hS6 := hS4.call hS5
  refine gb0 [10, 11, 12] [(6, vI (IntKind.i64.wrap (z1 + (IntKind.i64.wrap (r1 * e1.C))))), (30, vI (IntKind.i64.wrap (z1 + (IntKind.i64.wrap (r1 * e1.C))))), (29, vI (IntKind.i64.wrap (r1 * e1.C)))] ?_
  refine gn hK7 ?_
  refine wr [(0, 0), (1, 0)] ?_
  refine ge_addn (d := 31) (ty := 3) (x := (.tmp 15)) (y := (.const (vI 1))) (t := 3) (t2 := 3) (k := .i64) (m := i1) (by kernel_rfl) (by kernel_rfl) (by kernel_rfl) (by have h0 := hRf_2.small; omega) ?_
  refine gb0 [1] [(15, vI ((i1 + 1 : Nat) : Int))] ?_
  have hS7 := hS6.takeN 0
  obtain rfl := si h
  exact ge_nil fun a hF => hQ _ _ _ (Outs.again ⟨hS7, hF.weaken ea⟩)
 ·rw [if_neg hc1] at h
  refine wk 16 (decide ((i1 : Int) < (lf_2.length : Int))) false (decide_eq_false hc1) ?_
  refine we_false (by kernel_rfl) ?_
  obtain rfl := si h
  exact we_exit fun a hF => hQ _ _ _ (Outs.out nofun (Exits.here ⟨hS, hF.weaken ea⟩))
theorem fixed_response_1_ok (K : Nat) (x0 : Int) (bf_0 : Nat) (xf_0 : STask) (bf_1 : Nat) (xf_1 : Int) (bf_2 : Nat) (lf_2 : List STask) (Af_2 : Option Addr) (cf_2 : Nat) (w0 : World) (hBf_0 : Glob w0 bf_0 [.string xf_0.Name, vI xf_0.C, vI xf_0.T, vI xf_0.D, vI xf_0.J, vI xf_0.O, vI xf_0.P]) (hBf_1 : Glob w0 bf_1 [vI xf_1]) (hRf_2 : RdL w0 Af_2 lf_2) (hLf_2 : lf_2.length ≤ cf_2) (hBf_2 : Glob w0 bf_2 [.slice Af_2 lf_2.length cf_2]) (r : Int) (h : fixed_response_1.f K x0 xf_0 xf_1 lf_2 = some r) :
  Calls Tryd.prog 95 #[vI x0, pP bf_0 0, pP bf_1 0, pP bf_2 0] w0 (fixed_response_1.Post w0 r) := by
 have hS := St.start w0
 unfold fixed_response_1.f at h
 refine calls_enter (n := 33) (args := [vI x0, pP bf_0 0, pP bf_1 0, pP bf_2 0]) (fn := Tryd.f95) rfl rfl rfl rfl ?_
 show WE _ _ _ _ [(0, vI x0), (1, pP bf_0 0), (2, pP bf_1 0), (3, pP bf_2 0)] _
 refine ws fun K1 hK1 => ?_
 refine wr [(0, 0)] ?_
 refine gb0 [0] [(5, vI 0)] ?_
 refine gn hK1 ?_
 refine ws fun K2 hK2 => ?_
 refine wr [(0, 0), (1, 0), (2, 0), (3, 0), (4, 0)] ?_
 refine gb [0, 1, 2, 3, 4] [(6, vI (IntKind.i64.wrap (xf_0.C + xf_1))), (12, vI (IntKind.i64.wrap (xf_0.C + xf_1))), (11, vI xf_1), (10, vI xf_0.C), (9, pP bf_0 1)] [.loaded ⟨bf_0, 1, none⟩ (vI xf_0.C), .loaded ⟨bf_1, 0, none⟩ (vI xf_1)] ⟨hS.glob hBf_0 rfl, hS.glob hBf_1 rfl, trivial⟩ ?_
 refine gn hK2 ?_
 refine ws fun K3 hK3 => ?_
 refine ws fun K4 hK4 => ?_
 refine wr [(0, 0), (1, 0), (2, 0)] ?_
 refine gb [0, 1, 2] [(15, vI 0), (14, vI (lf_2.length : Int)), (13, .slice Af_2 lf_2.length cf_2)] [.loaded ⟨bf_2, 0, none⟩ (.slice Af_2 lf_2.length cf_2)] ⟨hS.glob hBf_2 rfl, trivial⟩ ?_
 refine gn hK4 ?_
 refine we_block ?_
 rcases hq2 : iter (fixed_response_1.r0 x0 lf_2) K (IntKind.i64.wrap (xf_0.C + xf_1), 0) with _ | (z3 | rr1)
 ·rw [hq2] at h; cases h
 ·rw [hq2] at h
  simp only [] at h
  refine we_iter (A := fixed_response_1.A0 w0 x0 lf_2 Af_2 cf_2) (B := fixed_response_1.B0 w0) hq2 (fun a hF => ⟨hS, hF.weaken ea⟩) (fun s o hf a w hA Q hQ => fixed_response_1_r0 K w0 x0 bf_0 xf_0 bf_1 xf_1 bf_2 lf_2 Af_2 cf_2 hBf_0 hBf_1 hRf_2 hLf_2 hBf_2 s o hf a w hA Q hQ) ?_
  rintro _ a w4 _ ⟨rfl, hS8, hF⟩
  replace hS8 : St w0 w4 [] := hS8
  refine hK3 [(6, vI z3)] w4 ?_ a hF
  refine ws fun K9 hK9 => ?_
  refine wr [(0, 0), (1, 0)] ?_
  refine gb0 [0, 1] [(5, vI z3), (32, vI z3)] ?_
  refine gn hK9 ?_
  obtain rfl := si h
  exact we_ret (pr0 [.tmp 5] [vI z3] ⟨rfl, hS8⟩)
 ·rw [hq2] at h
  simp only [] at h
  refine we_iter (A := fixed_response_1.A0 w0 x0 lf_2 Af_2 cf_2) (B := fixed_response_1.B0 w0) hq2 (fun a hF => ⟨hS, hF.weaken ea⟩) (fun s o hf a w hA Q hQ => fixed_response_1_r0 K w0 x0 bf_0 xf_0 bf_1 xf_1 bf_2 lf_2 Af_2 cf_2 hBf_0 hBf_1 hRf_2 hLf_2 hBf_2 s o hf a w hA Q hQ) ?_
  rintro _ a w1 _ ⟨rfl, hb⟩
  obtain rfl := si h
  exact hb

/-! punctual/fixed.Settle -/
abbrev fixed_Settle.Post (w0 : World) (r : Int) (e : Ending) (w : World) : Prop := e = .returned (vI r) ∧ St w0 w []
def fixed_Settle.r0 (K : Nat) (x1 : Int) (xg2_0 : STask) (xg2_1 : Int) (lg2_2 : List STask) : Int → Option (Int ⊕ (Unit ⊕ Int))
 | z1 =>
  if z1 ≤ x1 then
   match fixed_response_1.f K z1 xg2_0 xg2_1 lg2_2 with
   | none => none
   | some r1 =>
    if r1 ≤ z1 then
     some (.inr (.inr z1))
    else
     some (.inl r1)
  else
   some (.inr (.inl ()))
def fixed_Settle.f (K : Nat) (x0 : Int) (x1 : Int) (xg2_0 : STask) (xg2_1 : Int) (lg2_2 : List STask) : Option Int :=
 match iter (fixed_Settle.r0 K x1 xg2_0 xg2_1 lg2_2) K x0 with
 | none => none
 | some (.inl _) =>
  some 0
 | some (.inr rr1) =>
  some rr1
abbrev fixed_Settle.A0 (w0 : World) (x1 : Int) (bg2_0 : Nat) (bg2_1 : Nat) (bg2_2 : Nat) : Int → Act → World → Prop := fun (s : Int) a w => St w0 w [] ∧ Frm 21 a [(1, vI x1), (2, .func (.func 95) #[] #[pP bg2_0 0, pP bg2_1 0, pP bg2_2 0]), (7, vI s)]
abbrev fixed_Settle.B0 (w0 : World) : (Unit ⊕ Int) → Exit → Act → World → Prop := Exits 0 (fun (s : Unit) a w => St w0 w [] ∧ Frm 21 a []) (Rets Tryd.prog Tryd.f94 (fixed_Settle.Post w0))
theorem fixed_Settle_r0 (K : Nat) (w0 : World) (x0 : Int) (x1 : Int) (bg2_0 : Nat) (xg2_0 : STask) (bg2_1 : Nat) (xg2_1 : Int) (bg2_2 : Nat) (lg2_2 : List STask) (Ag2_2 : Option Addr) (cg2_2 : Nat) (hBg2_0 : Glob w0 bg2_0 [.string xg2_0.Name, vI xg2_0.C, vI xg2_0.T, vI xg2_0.D, vI xg2_0.J, vI xg2_0.O, vI xg2_0.P]) (hBg2_1 : Glob w0 bg2_1 [vI xg2_1]) (hRg2_2 : RdL w0 Ag2_2 lg2_2) (hLg2_2 : lg2_2.length ≤ cg2_2) (hBg2_2 : Glob w0 bg2_2 [.slice Ag2_2 lg2_2.length cg2_2]) (s : Int) (o : Int ⊕ (Unit ⊕ Int)) (h : fixed_Settle.r0 K x1 xg2_0 xg2_1 lg2_2 s = some o) (a : Act) (w : World) (hA : fixed_Settle.A0 w0 x1 bg2_0 bg2_1 bg2_2 s a w) (Q : Exit → Act → World → Prop) (hQ : ∀ x a w, Outs (fixed_Settle.A0 w0 x1 bg2_0 bg2_1 bg2_2) (fixed_Settle.B0 w0) o x a w → Q x a w) : (subF Tryd.f94 [1, 0, 1, 0, 0]).wp Tryd.prog Q a w := by
 obtain ⟨z1, hs⟩ : ∃ z, z = s := ⟨s, rfl⟩
 subst hs
 obtain ⟨hS, hF⟩ := hA
 replace hS : St w0 w [] := hS
 simp only [fixed_Settle.r0] at h
 refine (?_ : WE Tryd.prog 21 (subF Tryd.f94 [1, 0, 1, 0, 0]) Q [(1, vI x1), (2, .func (.func 95) #[] #[pP bg2_0 0, pP bg2_1 0, pP bg2_2 0]), (7, vI z1)] w) a hF
 clear hF a
 refine ws fun K4 hK4 => ?_
 refine ws fun K5 hK5 => ?_
 refine wr [(0, 0), (1, 0), (2, 0)] ?_
 refine gb0 [0, 1, 2] [(12, .bool (decide (z1 ≤ x1))), (11, vI x1), (10, vI z1)] ?_
 refine gn hK5 ?_
 by_cases hc1 : z1 ≤ x1
 ·rw [if_pos hc1] at h
  refine wk 12 (decide (z1 ≤ x1)) true (decide_eq_true hc1) ?_
  refine we_true (by kernel_rfl) ?_
  refine we_skip fun a hF => hK4 _ _ ?_ a hF
  refine we_block ?_
  refine ws fun K6 hK6 => ?_
  refine wr [(0, 0), (1, 0), (2, 1), (3, 0)] ?_
  rcases hq1 : fixed_response_1.f K z1 xg2_0 xg2_1 lg2_2 with _ | r1
  ·rw [hq1] at h; cases h
  rw [hq1] at h
  simp only [] at h
  refine gb0 [0, 1] [(14, vI z1), (13, .func (.func 95) #[] #[pP bg2_0 0, pP bg2_1 0, pP bg2_2 0])] ?_
  refine ge_call (d := some 15) (f := 95) (args := #[vI z1, pP bg2_0 0, pP bg2_1 0, pP bg2_2 0]) (by kernel_rfl) (fixed_response_1_ok K z1 bg2_0 xg2_0 bg2_1 xg2_1 bg2_2 lg2_2 Ag2_2 cg2_2 _ (Glob.ext hBg2_0 hS.below) (Glob.ext hBg2_1 hS.below) (hS.rd hRg2_2) hLg2_2 (Glob.ext hBg2_2 hS.below) _ hq1) ?_
  rintro _ w1 ⟨rfl, hS1⟩
  refine ⟨_, rfl, hS1.below, ?_⟩
  have hS2 := hS.call hS1
  refine gb0 [3] [(8, vI r1)] ?_
  refine gn hK6 ?_
  refine ws fun K7 hK7 => ?_
  refine ws fun K8 hK8 => ?_
  refine wr [(0, 0), (1, 0), (2, 0)] ?_
  refine gb0 [0, 1, 2] [(18, .bool (decide (r1 ≤ z1))), (17, vI z1), (16, vI r1)] ?_
  refine gn hK8 ?_
  by_cases hc2 : r1 ≤ z1
  ·rw [if_pos hc2] at h
   refine wk 18 (decide (r1 ≤ z1)) true (decide_eq_true hc2) ?_
   refine we_true (by kernel_rfl) ?_
   refine ws fun K9 hK9 => ?_
   refine wr [(0, 0), (1, 0)] ?_
   refine gb0 [0, 1] [(6, vI z1), (19, vI z1)] ?_
   refine gn hK9 ?_
   obtain rfl := si h
   exact we_ret fun a hF => hQ _ _ _ (Outs.out nofun (Exits.on ⟨rfl, (pr0 [.tmp 6] [vI z1] ⟨rfl, hS2⟩) a hF⟩))
  ·rw [if_neg hc2] at h
   refine wk 18 (decide (r1 ≤ z1)) false (decide_eq_false hc2) ?_
   refine we_false (by kernel_rfl) ?_
   refine we_skip fun a hF => hK7 _ _ ?_ a hF
   refine wr [(0, 0), (1, 0)] ?_
   refine gb0 [0, 1] [(7, vI r1), (20, vI r1)] ?_
   obtain rfl := si h
   exact ge_nil fun a hF => hQ _ _ _ (Outs.again ⟨hS2, hF.weaken ea⟩)
 ·rw [if_neg hc1] at h
  refine wk 12 (decide (z1 ≤ x1)) false (decide_eq_false hc1) ?_
  refine we_false (by kernel_rfl) ?_
  obtain rfl := si h
  exact we_exit fun a hF => hQ _ _ _ (Outs.out nofun (Exits.here ⟨hS, hF.weaken trivial⟩))
theorem fixed_Settle_ok (K : Nat) (x0 : Int) (x1 : Int) (bg2_0 : Nat) (xg2_0 : STask) (bg2_1 : Nat) (xg2_1 : Int) (bg2_2 : Nat) (lg2_2 : List STask) (Ag2_2 : Option Addr) (cg2_2 : Nat) (w0 : World) (hBg2_0 : Glob w0 bg2_0 [.string xg2_0.Name, vI xg2_0.C, vI xg2_0.T, vI xg2_0.D, vI xg2_0.J, vI xg2_0.O, vI xg2_0.P]) (hBg2_1 : Glob w0 bg2_1 [vI xg2_1]) (hRg2_2 : RdL w0 Ag2_2 lg2_2) (hLg2_2 : lg2_2.length ≤ cg2_2) (hBg2_2 : Glob w0 bg2_2 [.slice Ag2_2 lg2_2.length cg2_2]) (r : Int) (h : fixed_Settle.f K x0 x1 xg2_0 xg2_1 lg2_2 = some r) :
  Calls Tryd.prog 94 #[vI x0, vI x1, .func (.func 95) #[] #[pP bg2_0 0, pP bg2_1 0, pP bg2_2 0]] w0 (fixed_Settle.Post w0 r) := by
 have hS := St.start w0
 unfold fixed_Settle.f at h
 refine calls_enter (n := 21) (args := [vI x0, vI x1, .func (.func 95) #[] #[pP bg2_0 0, pP bg2_1 0, pP bg2_2 0]]) (fn := Tryd.f94) rfl rfl rfl rfl ?_
 show WE _ _ _ _ [(0, vI x0), (1, vI x1), (2, .func (.func 95) #[] #[pP bg2_0 0, pP bg2_1 0, pP bg2_2 0])] _
 refine ws fun K1 hK1 => ?_
 refine wr [(0, 0)] ?_
 refine gb0 [0] [(6, vI 0)] ?_
 refine gn hK1 ?_
 refine ws fun K2 hK2 => ?_
 refine ws fun K3 hK3 => ?_
 refine wr [(0, 0), (1, 0)] ?_
 refine gb0 [0, 1] [(7, vI x0), (9, vI x0)] ?_
 refine gn hK3 ?_
 refine we_block ?_
 rcases hq2 : iter (fixed_Settle.r0 K x1 xg2_0 xg2_1 lg2_2) K x0 with _ | (_ | rr1)
 ·rw [hq2] at h; cases h
 ·rw [hq2] at h
  simp only [] at h
  refine we_iter (A := fixed_Settle.A0 w0 x1 bg2_0 bg2_1 bg2_2) (B := fixed_Settle.B0 w0) hq2 (fun a hF => ⟨hS, hF.weaken ea⟩) (fun s o hf a w hA Q hQ => fixed_Settle_r0 K w0 x0 x1 bg2_0 xg2_0 bg2_1 xg2_1 bg2_2 lg2_2 Ag2_2 cg2_2 hBg2_0 hBg2_1 hRg2_2 hLg2_2 hBg2_2 s o hf a w hA Q hQ) ?_
  rintro _ a w2 _ ⟨rfl, hS3, hF⟩
  replace hS3 : St w0 w2 [] := hS3
  refine hK2 [] w2 ?_ a hF
  refine ws fun K10 hK10 => ?_
  refine wr [(0, 0)] ?_
  refine gb0 [0] [(6, vI 0)] ?_
  refine gn hK10 ?_
  obtain rfl := si h
  exact we_ret (pr0 [.tmp 6] [vI 0] ⟨rfl, hS3⟩)
 ·rw [hq2] at h
  simp only [] at h
  refine we_iter (A := fixed_Settle.A0 w0 x1 bg2_0 bg2_1 bg2_2) (B := fixed_Settle.B0 w0) hq2 (fun a hF => ⟨hS, hF.weaken ea⟩) (fun s o hf a w hA Q hQ => fixed_Settle_r0 K w0 x0 x1 bg2_0 xg2_0 bg2_1 xg2_1 bg2_2 lg2_2 Ag2_2 cg2_2 hBg2_0 hBg2_1 hRg2_2 hLg2_2 hBg2_2 s o hf a w hA Q hQ) ?_
  rintro _ a w1 _ ⟨rfl, hb⟩
  obtain rfl := si h
  exact hb

/-! punctual/fixed.response -/
abbrev fixed_response.Post (w0 : World) (r : Int) (e : Ending) (w : World) : Prop := e = .returned (vI r) ∧ St w0 w []
def fixed_response.f (K : Nat) (x0 : STask) (l1 : List STask) (x2 : Int) : Option Int :=
 match fixed_Settle.f K (IntKind.i64.wrap (x0.C + x2)) (IntKind.i64.wrap (x0.D - x0.J)) x0 x2 l1 with
 | none => none
 | some r1 =>
  if r1 = 0 then
   some 0
  else
   some (IntKind.i64.wrap (r1 + x0.J))
theorem fixed_response_ok (K : Nat) (x0 : STask) (l1 : List STask) (A1 : Option Addr) (c1 : Nat) (x2 : Int) (w0 : World) (hR1 : RdL w0 A1 l1) (hL1 : l1.length ≤ c1) (r : Int) (h : fixed_response.f K x0 l1 x2 = some r) :
  Calls Tryd.prog 74 #[.agg #[.string x0.Name, vI x0.C, vI x0.T, vI x0.D, vI x0.J, vI x0.O, vI x0.P], .slice A1 l1.length c1, vI x2] w0 (fixed_response.Post w0 r) := by
 have hS := St.start w0
 unfold fixed_response.f at h
 refine calls_enter (n := 25) (args := [.agg #[.string x0.Name, vI x0.C, vI x0.T, vI x0.D, vI x0.J, vI x0.O, vI x0.P], .slice A1 l1.length c1, vI x2]) (fn := Tryd.f74) rfl rfl rfl rfl ?_
 show WE _ _ _ _ [(0, .agg #[.string x0.Name, vI x0.C, vI x0.T, vI x0.D, vI x0.J, vI x0.O, vI x0.P]), (1, .slice A1 l1.length c1), (2, vI x2)] _
 refine ws fun K1 hK1 => ?_
 refine wr [(0, 1), (1, 1), (2, 1), (3, 0)] ?_
 refine gw (some 3) (.cells #[.string x0.Name, vI x0.C, vI x0.T, vI x0.D, vI x0.J, vI x0.O, vI x0.P] 46) (fun b => pP b 0) hS fun b1 w1 hx1 hS1 => ?_
 refine gw (some 4) (.cells #[.slice A1 l1.length c1] 40) (fun b => pP b 0) hS1 fun b2 w2 hx2 hS2 => ?_
 refine gw (some 5) (.cells #[vI x2] 3) (fun b => pP b 0) hS2 fun b3 w3 hx3 hS3 => ?_
 refine gb0 [3] [(6, vI 0)] ?_
 refine gn hK1 ?_
 refine ws fun K2 hK2 => ?_
 refine wr [(0, 0), (1, 0), (2, 0), (3, 0), (4, 0), (5, 0), (6, 0), (7, 0), (8, 0), (9, 0), (10, 1), (11, 0)] ?_
 rcases hq1 : fixed_Settle.f K (IntKind.i64.wrap (x0.C + x2)) (IntKind.i64.wrap (x0.D - x0.J)) x0 x2 l1 with _ | r1
 ·rw [hq1] at h; cases h
 rw [hq1] at h
 simp only [] at h
 refine gb [0, 1, 2, 3, 4, 5, 6, 7, 8, 9] [(17, .func (.func 95) #[] #[pP b1 0, pP b3 0, pP b2 0]), (16, vI (IntKind.i64.wrap (x0.D - x0.J))), (15, vI x0.J), (14, pP b1 4), (13, vI x0.D), (12, pP b1 3), (11, vI (IntKind.i64.wrap (x0.C + x2))), (10, vI x2), (9, vI x0.C), (8, pP b1 1)] [.loaded ⟨b1, 1, none⟩ (vI x0.C), .loaded ⟨b3, 0, none⟩ (vI x2), .loaded ⟨b1, 3, none⟩ (vI x0.D), .loaded ⟨b1, 4, none⟩ (vI x0.J)] ⟨hS3.c 2, hS3.c 0, hS3.c 2, hS3.c 2, trivial⟩ ?_
 refine ge_call (d := some 18) (f := 94) (args := #[vI (IntKind.i64.wrap (x0.C + x2)), vI (IntKind.i64.wrap (x0.D - x0.J)), .func (.func 95) #[] #[pP b1 0, pP b3 0, pP b2 0]]) (by kernel_rfl) (fixed_Settle_ok K (IntKind.i64.wrap (x0.C + x2)) (IntKind.i64.wrap (x0.D - x0.J)) b1 x0 b3 x2 b2 l1 A1 c1 _ (hS3.globOf 2 rfl) (hS3.globOf 0 rfl) (hS3.rd hR1) hL1 (hS3.globOf 1 rfl) _ hq1) ?_
 rintro _ w4 ⟨rfl, hS4⟩
 refine ⟨_, rfl, hS4.below, ?_⟩
 have hS5 := hS3.call hS4
 refine gb0 [11] [(7, vI r1)] ?_
 refine gn hK2 ?_
 refine ws fun K3 hK3 => ?_
 refine ws fun K4 hK4 => ?_
 refine wr [(0, 0), (1, 0)] ?_
 refine gb0 [0, 1] [(20, .bool (r1 == 0)), (19, vI r1)] ?_
 refine gn hK4 ?_
 by_cases hc1 : r1 = 0
 ·rw [if_pos hc1] at h
  refine wk 20 (r1 == 0) true (beq_iff_eq.2 hc1) ?_
  refine we_true (by kernel_rfl) ?_
  refine ws fun K5 hK5 => ?_
  refine wr [(0, 0)] ?_
  refine gb0 [0] [(6, vI 0)] ?_
  refine gn hK5 ?_
  have hS6 := hS5.takeN 0
  obtain rfl := si h
  exact we_ret (pr0 [.tmp 6] [vI 0] ⟨rfl, hS6⟩)
 ·rw [if_neg hc1] at h
  refine wk 20 (r1 == 0) false (beq_eq_false_iff_ne.2 hc1) ?_
  refine we_false (by kernel_rfl) ?_
  refine we_skip fun a hF => hK3 _ _ ?_ a hF
  refine ws fun K6 hK6 => ?_
  refine wr [(0, 0), (1, 0), (2, 0), (3, 0), (4, 0)] ?_
  refine gb [0, 1, 2, 3, 4] [(6, vI (IntKind.i64.wrap (r1 + x0.J))), (24, vI (IntKind.i64.wrap (r1 + x0.J))), (23, vI x0.J), (22, pP b1 4), (21, vI r1)] [.loaded ⟨b1, 4, none⟩ (vI x0.J)] ⟨hS5.c 2, trivial⟩ ?_
  refine gn hK6 ?_
  have hS7 := hS5.takeN 0
  obtain rfl := si h
  exact we_ret (pr0 [.tmp 6] [vI (IntKind.i64.wrap (r1 + x0.J))] ⟨rfl, hS7⟩)

/-! punctual/fixed.Assign -/
abbrev fixed_Assign.Post (w0 : World) (r : (List STask) × SFault) (e : Ending) (w : World) : Prop := ∃ (v0 : Value), e = .returned (.tuple #[v0, .agg #[vI r.2.Code, vI r.2.At]]) ∧ St w0 w [Own.of v0 46 r.1]
def fixed_Assign.p0 (K : Nat) (l0 : List STask) (l1 : List Int) : Option (Unit ⊕ ((List STask) × SFault)) :=
  if (l1.length : Int) = (l0.length : Int) then
   match slices_ContainsFunc_int_int.f K l1 with
   | none => none
   | some r2 =>
    if r2 = true then
     some (.inr (([] : List STask), (⟨2, 0⟩ : SFault)))
    else
     some (.inl ())
  else
   some (.inr (([] : List STask), (⟨2, 0⟩ : SFault)))
def fixed_Assign.r1 (r3 : List STask) : Int × (List STask) → Option ((Int × (List STask)) ⊕ ((List STask) ⊕ ((List STask) × SFault)))
 | (z1, m1) =>
  if z1 < (r3.length : Int) then
   if 0 ≤ z1 then
    match m1[(z1).toNat]? with
    | none => none
    | some e1 =>
     some (.inl (IntKind.i64.wrap (z1 + 1), (m1.set ((z1).toNat) (⟨e1.Name, e1.C, e1.T, e1.D, e1.J, e1.O, 0⟩ : STask))))
   else
    none
  else
   some (.inr (.inl m1))
def fixed_Assign.p4 (m4 : List STask) (z3 : Int) (z4 : Int) : Option (Unit ⊕ (Unit ⊕ ((List STask) × SFault))) :=
  if z4 < (m4.length : Int) then
   if z3 < 0 then
    some (.inl ())
   else
    some (.inr (.inl ()))
  else
   some (.inr (.inl ()))
def fixed_Assign.r5 (m4 : List STask) (z4 : Int) : (List STask) × Nat → Option (((List STask) × Nat) ⊕ ((List STask) ⊕ ((List STask) × SFault)))
 | (m6, i1) =>
  if (i1 : Int) < (m4.length : Int) then
   match m4[i1]? with
   | none => none
   | some e3 =>
    if (i1 : Int) = z4 then
     some (.inl (m6, (i1 + 1)))
    else
     if e3.P = 0 then
      if m6.length < 2199023255552 then
       some (.inl ((m6 ++ [e3]), (i1 + 1)))
      else
       none
     else
      some (.inl (m6, (i1 + 1)))
  else
   some (.inr (.inl m6))
def fixed_Assign.r3 (K : Nat) (l1 : List Int) (m4 : List STask) : Int × Int → Option ((Int × Int) ⊕ (Int ⊕ ((List STask) × SFault)))
 | (z3, z4) =>
  match fixed_Assign.p4 m4 z3 z4 with
  | none => none
  | some (.inl _) =>
   if 0 ≤ z4 then
    match m4[(z4).toNat]? with
    | none => none
    | some e2 =>
     if e2.P > 0 then
      some (.inl (z3, IntKind.i64.wrap (z4 + 1)))
     else
      match iter (fixed_Assign.r5 m4 z4) K (([] : List STask), 0) with
      | none => none
      | some (.inl m8) =>
       match l1[(z4).toNat]? with
       | none => none
       | some e4 =>
        match fixed_response.f K e2 m8 e4 with
        | none => none
        | some r4 =>
         if r4 > 0 then
          some (.inl (z4, IntKind.i64.wrap (z4 + 1)))
         else
          some (.inl (z3, IntKind.i64.wrap (z4 + 1)))
      | some (.inr rr1) =>
       some (.inr (.inr rr1))
   else
    none
  | some (.inr (.inl _)) =>
   some (.inr (.inl z3))
  | some (.inr (.inr rr2)) =>
   some (.inr (.inr rr2))
def fixed_Assign.r2 (K : Nat) (l1 : List Int) (r3 : List STask) : Int × (List STask) → Option ((Int × (List STask)) ⊕ ((List STask) ⊕ ((List STask) × SFault)))
 | (z2, m4) =>
  if z2 ≤ (m4.length : Int) then
   match iter (fixed_Assign.r3 K l1 m4) K ((-1), 0) with
   | none => none
   | some (.inl z6) =>
    if z6 < 0 then
     some (.inr (.inr (([] : List STask), (⟨13, 0⟩ : SFault))))
    else
     if 0 ≤ z6 then
      match m4[(z6).toNat]? with
      | none => none
      | some e5 =>
       some (.inl (IntKind.i64.wrap (z2 + 1), (m4.set ((z6).toNat) (⟨e5.Name, e5.C, e5.T, e5.D, e5.J, e5.O, z2⟩ : STask))))
     else
      none
   | some (.inr rr3) =>
    some (.inr (.inr rr3))
  else
   some (.inr (.inl m4))
def fixed_Assign.f (K : Nat) (l0 : List STask) (l1 : List Int) : Option ((List STask) × SFault) :=
 match fixed_check.f K l0 with
 | none => none
 | some r1 =>
  if r1.Code = 0 then
   match fixed_Assign.p0 K l0 l1 with
   | none => none
   | some (.inl _) =>
    match slices_Clone_api_Task_api_Task.f l0 with
    | none => none
    | some r3 =>
     match iter (fixed_Assign.r1 r3) K (0, r3) with
     | none => none
     | some (.inl m3) =>
      match iter (fixed_Assign.r2 K l1 r3) K (1, m3) with
      | none => none
      | some (.inl m9) =>
       some (m9, (⟨0, 0⟩ : SFault))
      | some (.inr rr4) =>
       some rr4
     | some (.inr rr5) =>
      some rr5
   | some (.inr rr6) =>
    some rr6
  else
   some (([] : List STask), r1)
abbrev fixed_Assign.A0 (w0 : World) (l0 : List STask) (A0 : Option Addr) (c0 : Nat) (l1 : List Int) (A1 : Option Addr) (c1 : Nat) (b1 : Nat) : Unit → Act → World → Prop := fun (s : Unit) a w => St w0 w [Own.blk b1 (.cells #[vI 0, vI 0] 26 (0, 0))] ∧ Frm 107 a [(0, .slice A0 l0.length c0), (1, .slice A1 l1.length c1), (5, pP b1 0)]
abbrev fixed_Assign.B0 (w0 : World) : ((List STask) × SFault) → Exit → Act → World → Prop := Rets Tryd.prog Tryd.f57 (fixed_Assign.Post w0)
theorem fixed_Assign_p0 (K : Nat) (w0 : World) (l0 : List STask) (A0 : Option Addr) (c0 : Nat) (l1 : List Int) (A1 : Option Addr) (c1 : Nat) (hR0 : RdL w0 A0 l0) (hL0 : l0.length ≤ c0) (hR1 : RdL w0 A1 l1) (hL1 : l1.length ≤ c1) (b1 : Nat) (r1 : SFault) (b2 : Nat) (hc1 : r1.Code = 0) (o : Unit ⊕ ((List STask) × SFault)) (h : fixed_Assign.p0 K l0 l1 = some o) (w : World) (hS : St w0 w [Own.blk b2 (.cells #[vI r1.Code, vI r1.At] 26 (0, 0)), Own.blk b1 (.cells #[vI 0, vI 0] 26 (0, 0))]) (Q : Exit → Act → World → Prop) (hQ : ∀ x a w, Outs (fixed_Assign.A0 w0 l0 A0 c0 l1 A1 c1 b1) (fixed_Assign.B0 w0) o x a w → Q x a w) : WE Tryd.prog 107 (subF Tryd.f57 [1, 1, 0]) Q [(0, .slice A0 l0.length c0), (1, .slice A1 l1.length c1), (4, .slice none 0 0), (5, pP b1 0), (6, pP b2 0), (15, .slice A0 l0.length c0), (16, .agg #[vI r1.Code, vI r1.At]), (17, pP b2 0), (18, vI r1.Code), (19, .bool false)] w := by
 simp only [fixed_Assign.p0] at h
 refine ws fun K6 hK6 => ?_
 refine wr [(0, 0), (1, 0), (2, 0), (3, 0), (4, 0), (5, 0), (6, 0), (7, 1), (8, 0)] ?_
 refine gb0 [0, 1, 2, 3, 4, 5] [(26, .bool ((l1.length : Int) != (l0.length : Int))), (25, .bool ((l1.length : Int) != (l0.length : Int))), (24, vI (l0.length : Int)), (23, .slice A0 l0.length c0), (22, vI (l1.length : Int)), (21, .slice A1 l1.length c1)] ?_
 by_cases hc2 : (l1.length : Int) = (l0.length : Int)
 ·rw [if_pos hc2] at h
  refine gk 26 ((l1.length : Int) != (l0.length : Int)) false (bne_eq_false_iff_eq.2 hc2) ?_
  rcases hq2 : slices_ContainsFunc_int_int.f K l1 with _ | r2
  ·rw [hq2] at h; cases h
  rw [hq2] at h
  simp only [] at h
  refine gb0 [6] [(27, .slice A1 l1.length c1)] ?_
  refine ge_call (d := some 28) (f := 84) (args := #[.slice A1 l1.length c1, .func (.func 85) #[] #[]]) (by kernel_rfl) (slices_ContainsFunc_int_int_ok K l1 A1 c1 _ (hS.rd hR1) hL1 _ hq2) ?_
  rintro _ w5 ⟨rfl, hS7⟩
  refine ⟨_, rfl, hS7.below, ?_⟩
  have hS8 := hS.call hS7
  refine gb0 [8] [(29, .bool r2)] ?_
  refine gn hK6 ?_
  by_cases hc3 : r2 = true
  ·rw [if_pos hc3] at h
   refine wk 29 r2 true hc3 ?_
   refine we_true (by kernel_rfl) ?_
   refine ws fun K7 hK7 => ?_
   refine wr [(0, 0), (1, 0), (2, 2)] ?_
   refine gb0 [0, 1] [(4, .slice none 0 0), (30, .agg #[vI 2, vI 0])] ?_
   have hS9 := hS8.bring 1 rfl
   refine gs b1 0 #[vI 0, vI 0] 26 [vI 2, vI 0] hS9 fun w6 hS10 => ?_
   have hS11 : St w0 w6 [Own.blk b1 (.cells #[vI 2, vI 0] 26 (0, 0)), Own.blk b2 (.cells #[vI r1.Code, vI r1.At] 26 (0, 0))] := hS10
   refine gn hK7 ?_
   have hS12 := hS11.nil (α := STask) 46
   have hS13 := hS12.takeN 1
   obtain rfl := si h
   exact we_ret fun a hF => hQ _ _ _ (Outs.out nofun ⟨rfl, (pr [.tmp 4, .cell 5 26] [(.slice none 0 0), .agg #[vI 2, vI 0]] [.loaded ⟨b1, 0, none⟩ (vI 2), .loaded ⟨b1, 1, none⟩ (vI 0)] ⟨hS12.c 1, hS12.c 1, trivial⟩ ⟨(.slice none 0 0), rfl, hS13⟩) a hF⟩)
  ·rw [if_neg hc3] at h
   refine wk 29 r2 false (Bool.eq_false_iff.2 hc3) ?_
   refine we_false (by kernel_rfl) ?_
   have hS14 := hS8.bring 1 rfl
   have hS15 := hS14.takeN 1
   obtain rfl := si h
   exact we_skip fun a hF => hQ _ _ _ (Outs.again ⟨hS15, hF.weaken ea⟩)
 ·rw [if_neg hc2] at h
  refine gk 26 ((l1.length : Int) != (l0.length : Int)) true (bne_iff_ne.2 hc2) ?_
  refine gb0 [6] [(27, undef)] ?_
  refine ge_off rfl rfl rfl (by kernel_rfl) ?_
  refine gb0 [8] [(29, .bool true)] ?_
  refine gn hK6 ?_
  refine we_true (by kernel_rfl) ?_
  refine ws fun K8 hK8 => ?_
  refine wr [(0, 0), (1, 0), (2, 2)] ?_
  refine gb0 [0, 1] [(4, .slice none 0 0), (30, .agg #[vI 2, vI 0])] ?_
  have hS16 := hS.bring 1 rfl
  refine gs b1 0 #[vI 0, vI 0] 26 [vI 2, vI 0] hS16 fun w7 hS17 => ?_
  have hS18 : St w0 w7 [Own.blk b1 (.cells #[vI 2, vI 0] 26 (0, 0)), Own.blk b2 (.cells #[vI r1.Code, vI r1.At] 26 (0, 0))] := hS17
  refine gn hK8 ?_
  have hS19 := hS18.nil (α := STask) 46
  have hS20 := hS19.takeN 1
  obtain rfl := si h
  exact we_ret fun a hF => hQ _ _ _ (Outs.out nofun ⟨rfl, (pr [.tmp 4, .cell 5 26] [(.slice none 0 0), .agg #[vI 2, vI 0]] [.loaded ⟨b1, 0, none⟩ (vI 2), .loaded ⟨b1, 1, none⟩ (vI 0)] ⟨hS19.c 1, hS19.c 1, trivial⟩ ⟨(.slice none 0 0), rfl, hS20⟩) a hF⟩)
abbrev fixed_Assign.A1 (w0 : World) (l1 : List Int) (A1 : Option Addr) (c1 : Nat) (b1 : Nat) (r3 : List STask) (Z1 : Option Addr) (cz1 : Nat) : (Int × (List STask)) → Act → World → Prop := fun (s : Int × (List STask)) a w => St w0 w [Own.blk b1 (.cells #[vI 0, vI 0] 26 (0, 0)), Own.of (.slice Z1 s.2.length cz1) 46 s.2] ∧ Frm 107 a [(1, .slice A1 l1.length c1), (5, pP b1 0), (7, (.slice Z1 s.2.length cz1)), (34, vI (r3.length : Int)), (35, vI s.1)]
abbrev fixed_Assign.B1 (w0 : World) (l1 : List Int) (A1 : Option Addr) (c1 : Nat) (b1 : Nat) (Z1 : Option Addr) (cz1 : Nat) : ((List STask) ⊕ ((List STask) × SFault)) → Exit → Act → World → Prop := Exits 0 (fun (s : (List STask)) a w => St w0 w [Own.blk b1 (.cells #[vI 0, vI 0] 26 (0, 0)), Own.of (.slice Z1 s.length cz1) 46 s] ∧ Frm 107 a [(1, .slice A1 l1.length c1), (5, pP b1 0), (7, (.slice Z1 s.length cz1))]) (Rets Tryd.prog Tryd.f57 (fixed_Assign.Post w0))
theorem fixed_Assign_r1 (K : Nat) (w0 : World) (l0 : List STask) (A0 : Option Addr) (c0 : Nat) (l1 : List Int) (A1 : Option Addr) (c1 : Nat) (hR0 : RdL w0 A0 l0) (hL0 : l0.length ≤ c0) (hR1 : RdL w0 A1 l1) (hL1 : l1.length ≤ c1) (b1 : Nat) (r1 : SFault) (b2 : Nat) (hc1 : r1.Code = 0) (r3 : List STask) (Z1 : Option Addr) (cz1 : Nat) (s : Int × (List STask)) (o : (Int × (List STask)) ⊕ ((List STask) ⊕ ((List STask) × SFault))) (h : fixed_Assign.r1 r3 s = some o) (a : Act) (w : World) (hA : fixed_Assign.A1 w0 l1 A1 c1 b1 r3 Z1 cz1 s a w) (Q : Exit → Act → World → Prop) (hQ : ∀ x a w, Outs (fixed_Assign.A1 w0 l1 A1 c1 b1 r3 Z1 cz1) (fixed_Assign.B1 w0 l1 A1 c1 b1 Z1 cz1) o x a w → Q x a w) : (subF Tryd.f57 [1, 1, 1, 1, 0, 1, 0, 0]).wp Tryd.prog Q a w := by
 obtain ⟨z1, m1⟩ := s
 obtain ⟨hS, hF⟩ := hA
 replace hS : St w0 w [Own.blk b1 (.cells #[vI 0, vI 0] 26 (0, 0)), Own.of (.slice Z1 m1.length cz1) 46 m1] := hS
 simp only [fixed_Assign.r1] at h
 refine (?_ : WE Tryd.prog 107 (subF Tryd.f57 [1, 1, 1, 1, 0, 1, 0, 0]) Q [(1, .slice A1 l1.length c1), (5, pP b1 0), (7, (.slice Z1 m1.length cz1)), (34, vI (r3.length : Int)), (35, vI z1)] w) a hF
 clear hF a
 refine ws fun K12 hK12 => ?_
 refine wr [(0, 0)] ?_
 refine gb0 [0] [(36, .bool (decide (z1 < (r3.length : Int))))] ?_
 refine gn hK12 ?_
 refine ws fun K13 hK13 => ?_
 by_cases hc4 : z1 < (r3.length : Int)
 ·rw [if_pos hc4] at h
  refine wk 36 (decide (z1 < (r3.length : Int))) true (decide_eq_true hc4) ?_
  refine we_true (by kernel_rfl) ?_
  refine we_skip fun a hF => hK13 _ _ ?_ a hF
  refine ws fun K14 hK14 => ?_
  refine we_block ?_
  refine ws fun K15 hK15 => ?_
  refine wr [(0, 0), (1, 0)] ?_
  refine gb0 [0, 1] [(8, vI z1), (37, vI z1)] ?_
  refine gn hK15 ?_
  refine wr [(0, 0), (1, 0), (2, 0), (3, 0), (4, 2)] ?_
  refine gb0 [0, 1] [(39, vI z1), (38, (.slice Z1 m1.length cz1))] ?_
  by_cases hc5 : 0 ≤ z1
  ·rw [if_pos hc5] at h
   rcases hx3 : m1[(z1).toNat]? with _ | e1
   ·rw [hx3] at h; cases h
   rw [hx3] at h
   simp only [] at h
   refine gi 40 0 40 46 7 m1.length cz1 (.tmp 38) (.tmp 39) Z1 .i64 z1 ((z1).toNat) ((hS.rdAt 1 rfl).eqSome (pos_of_get hx3)) (Int.toNat_of_nonneg hc5).symm (lt_of_get hx3) ?_
   refine gb0 [3] [(41, .pointer (some ⟨blkOf Z1, offOf Z1 + (z1).toNat * 7 + 6, none⟩))] ?_
   have hS25 := hS.bring 1 rfl
   refine ge_seti (α := STask) (A := Z1) (nn := m1.length) (c := cz1) (t := 46) (l := m1) (x := e1) (x' := (⟨e1.Name, e1.C, e1.T, e1.D, e1.J, e1.O, 0⟩ : STask)) (jn := ((z1).toNat)) (j := 6) (vs := [vI 0]) (l' := [.stored ⟨blkOf Z1, offOf Z1 + ((z1).toNat) * 7 + 6, none⟩ (vI 0)]) hS25 (by kernel_rfl) (by kernel_rfl) hx3 rfl rfl rfl fun w10 hS26 => ?_
   have hS27 : St w0 w10 [Own.of (.slice Z1 m1.length cz1) 46 (m1.set ((z1).toNat) (⟨e1.Name, e1.C, e1.T, e1.D, e1.J, e1.O, 0⟩ : STask)), Own.blk b1 (.cells #[vI 0, vI 0] 26 (0, 0))] := hS26
   have hE1 : m1.length = (m1.set ((z1).toNat) (⟨e1.Name, e1.C, e1.T, e1.D, e1.J, e1.O, 0⟩ : STask)).length := hS27.lenAt 0 rfl
   have hS28 : St w0 w10 [Own.of (.slice Z1 (m1.set ((z1).toNat) (⟨e1.Name, e1.C, e1.T, e1.D, e1.J, e1.O, 0⟩ : STask)).length cz1) 46 (m1.set ((z1).toNat) (⟨e1.Name, e1.C, e1.T, e1.D, e1.J, e1.O, 0⟩ : STask)), Own.blk b1 (.cells #[vI 0, vI 0] 26 (0, 0))] := by rw [← hE1]; exact hS27
   refine ge_same (t := 7) (v := (.slice Z1 m1.length cz1)) (v' := (.slice Z1 (m1.set ((z1).toNat) (⟨e1.Name, e1.C, e1.T, e1.D, e1.J, e1.O, 0⟩ : STask)).length cz1)) (by kernel_rfl) (by rw [hE1]) ?_
   refine ge_same (t := 38) (v := (.slice Z1 m1.length cz1)) (v' := (.slice Z1 (m1.set ((z1).toNat) (⟨e1.Name, e1.C, e1.T, e1.D, e1.J, e1.O, 0⟩ : STask)).length cz1)) (by kernel_rfl) (by rw [hE1]) ?_
   refine gn hK14 ?_
   refine wr [(0, 0), (1, 0)] ?_
   refine gb0 [0, 1] [(35, vI (IntKind.i64.wrap (z1 + 1))), (42, vI (IntKind.i64.wrap (z1 + 1)))] ?_
   have hS29 := hS28.bring 1 rfl
   obtain rfl := si h
   exact ge_nil fun a hF => hQ _ _ _ (Outs.again ⟨hS29, hF.weaken ea⟩)
  ·rw [if_neg hc5] at h
   cases h
 ·rw [if_neg hc4] at h
  refine wk 36 (decide (z1 < (r3.length : Int))) false (decide_eq_false hc4) ?_
  refine we_false (by kernel_rfl) ?_
  have hS30 := hS.bring 1 rfl
  have hS31 := hS30.bring 1 rfl
  obtain rfl := si h
  exact we_exit fun a hF => hQ _ _ _ (Outs.out nofun (Exits.here ⟨hS31, hF.weaken ea⟩))
abbrev fixed_Assign.A4 (w0 : World) (l1 : List Int) (A1 : Option Addr) (c1 : Nat) (b1 : Nat) (Z1 : Option Addr) (cz1 : Nat) (z2 : Int) (m4 : List STask) (z3 : Int) (z4 : Int) : Unit → Act → World → Prop := fun (s : Unit) a w => St w0 w [Own.blk b1 (.cells #[vI 0, vI 0] 26 (0, 0)), Own.of (.slice Z1 m4.length cz1) 46 m4] ∧ Frm 107 a [(1, .slice A1 l1.length c1), (5, pP b1 0), (7, (.slice Z1 m4.length cz1)), (9, vI z2), (10, vI z3), (11, vI z4)]
abbrev fixed_Assign.B4 (w0 : World) (l1 : List Int) (A1 : Option Addr) (c1 : Nat) (b1 : Nat) (Z1 : Option Addr) (cz1 : Nat) (z2 : Int) (m4 : List STask) (z3 : Int) : (Unit ⊕ ((List STask) × SFault)) → Exit → Act → World → Prop := Exits 4 (fun (s : Unit) a w => St w0 w [Own.blk b1 (.cells #[vI 0, vI 0] 26 (0, 0)), Own.of (.slice Z1 m4.length cz1) 46 m4] ∧ Frm 107 a [(1, .slice A1 l1.length c1), (5, pP b1 0), (7, (.slice Z1 m4.length cz1)), (9, vI z2), (10, vI z3)]) (Rets Tryd.prog Tryd.f57 (fixed_Assign.Post w0))
theorem fixed_Assign_p4 (K : Nat) (w0 : World) (l0 : List STask) (A0 : Option Addr) (c0 : Nat) (l1 : List Int) (A1 : Option Addr) (c1 : Nat) (hR0 : RdL w0 A0 l0) (hL0 : l0.length ≤ c0) (hR1 : RdL w0 A1 l1) (hL1 : l1.length ≤ c1) (b1 : Nat) (r1 : SFault) (b2 : Nat) (hc1 : r1.Code = 0) (r3 : List STask) (Z1 : Option Addr) (cz1 : Nat) (m3 : List STask) (z2 : Int) (m4 : List STask) (hc6 : z2 ≤ (m4.length : Int)) (z3 : Int) (z4 : Int) (o : Unit ⊕ (Unit ⊕ ((List STask) × SFault))) (h : fixed_Assign.p4 m4 z3 z4 = some o) (w : World) (hS : St w0 w [Own.blk b1 (.cells #[vI 0, vI 0] 26 (0, 0)), Own.of (.slice Z1 m4.length cz1) 46 m4]) (Q : Exit → Act → World → Prop) (hQ : ∀ x a w, Outs (fixed_Assign.A4 w0 l1 A1 c1 b1 Z1 cz1 z2 m4 z3 z4) (fixed_Assign.B4 w0 l1 A1 c1 b1 Z1 cz1 z2 m4 z3) o x a w → Q x a w) : WE Tryd.prog 107 (subF Tryd.f57 [1, 1, 1, 1, 1, 0, 1, 0, 0, 1, 0, 0, 1, 0, 1, 0, 0, 0]) Q [(1, .slice A1 l1.length c1), (5, pP b1 0), (7, (.slice Z1 m4.length cz1)), (9, vI z2), (10, vI z3), (11, vI z4)] w := by
 simp only [fixed_Assign.p4] at h
 refine ws fun K25 hK25 => ?_
 refine wr [(0, 0), (1, 0), (2, 0), (3, 0), (4, 0), (5, 0), (6, 0), (7, 0)] ?_
 refine gb0 [0, 1, 2, 3, 4] [(53, .bool (decide (z4 < (m4.length : Int)))), (52, .bool (decide (z4 < (m4.length : Int)))), (51, vI (m4.length : Int)), (50, (.slice Z1 m4.length cz1)), (49, vI z4)] ?_
 by_cases hc7 : z4 < (m4.length : Int)
 ·rw [if_pos hc7] at h
  refine gk 53 (decide (z4 < (m4.length : Int))) true (decide_eq_true hc7) ?_
  refine gb0 [5, 6, 7] [(56, .bool (decide (z3 < 0))), (55, .bool (decide (z3 < 0))), (54, vI z3)] ?_
  refine gn hK25 ?_
  by_cases hc8 : z3 < 0
  ·rw [if_pos hc8] at h
   refine wk 56 (decide (z3 < 0)) true (decide_eq_true hc8) ?_
   refine we_true (by kernel_rfl) ?_
   have hS37 := hS.bring 1 rfl
   have hS38 := hS37.bring 1 rfl
   obtain rfl := si h
   exact we_skip fun a hF => hQ _ _ _ (Outs.again ⟨hS38, hF.weaken ea⟩)
  ·rw [if_neg hc8] at h
   refine wk 56 (decide (z3 < 0)) false (decide_eq_false hc8) ?_
   refine we_false (by kernel_rfl) ?_
   have hS39 := hS.bring 1 rfl
   have hS40 := hS39.bring 1 rfl
   obtain rfl := si h
   exact we_exit fun a hF => hQ _ _ _ (Outs.out nofun (Exits.here ⟨hS40, hF.weaken ea⟩))
 ·rw [if_neg hc7] at h
  refine gk 53 (decide (z4 < (m4.length : Int))) false (decide_eq_false hc7) ?_
  refine gb0 [5, 6, 7] [(56, .bool false), (55, undef), (54, undef)] ?_
  refine gn hK25 ?_
  refine we_false (by kernel_rfl) ?_
  have hS41 := hS.bring 1 rfl
  have hS42 := hS41.bring 1 rfl
  obtain rfl := si h
  exact we_exit fun a hF => hQ _ _ _ (Outs.out nofun (Exits.here ⟨hS42, hF.weaken ea⟩))
abbrev fixed_Assign.A5 (w0 : World) (l1 : List Int) (A1 : Option Addr) (c1 : Nat) (b1 : Nat) (Z1 : Option Addr) (cz1 : Nat) (z2 : Int) (m4 : List STask) (z3 : Int) (z4 : Int) : ((List STask) × Nat) → Act → World → Prop := fun (s : (List STask) × Nat) a w => ∃ (v2 : Value), St w0 w [Own.blk b1 (.cells #[vI 0, vI 0] 26 (0, 0)), Own.of (.slice Z1 m4.length cz1) 46 m4, Own.of v2 46 s.1] ∧ Frm 107 a [(1, .slice A1 l1.length c1), (5, pP b1 0), (7, (.slice Z1 m4.length cz1)), (9, vI z2), (10, vI z3), (11, vI z4), (12, v2), (65, (.slice Z1 m4.length cz1)), (66, vI (m4.length : Int)), (67, vI (s.2 : Int))]
abbrev fixed_Assign.B5 (w0 : World) (l1 : List Int) (A1 : Option Addr) (c1 : Nat) (b1 : Nat) (Z1 : Option Addr) (cz1 : Nat) (z2 : Int) (m4 : List STask) (z3 : Int) (z4 : Int) : ((List STask) ⊕ ((List STask) × SFault)) → Exit → Act → World → Prop := Exits 6 (fun (s : (List STask)) a w => ∃ (v3 : Value), St w0 w [Own.blk b1 (.cells #[vI 0, vI 0] 26 (0, 0)), Own.of (.slice Z1 m4.length cz1) 46 m4, Own.of v3 46 s] ∧ Frm 107 a [(1, .slice A1 l1.length c1), (5, pP b1 0), (7, (.slice Z1 m4.length cz1)), (9, vI z2), (10, vI z3), (11, vI z4), (12, v3)]) (Rets Tryd.prog Tryd.f57 (fixed_Assign.Post w0))
theorem fixed_Assign_r5 (K : Nat) (w0 : World) (l0 : List STask) (A0 : Option Addr) (c0 : Nat) (l1 : List Int) (A1 : Option Addr) (c1 : Nat) (hR0 : RdL w0 A0 l0) (hL0 : l0.length ≤ c0) (hR1 : RdL w0 A1 l1) (hL1 : l1.length ≤ c1) (b1 : Nat) (r1 : SFault) (b2 : Nat) (hc1 : r1.Code = 0) (r3 : List STask) (Z1 : Option Addr) (cz1 : Nat) (m3 : List STask) (z2 : Int) (m4 : List STask) (hc6 : z2 ≤ (m4.length : Int)) (z3 : Int) (z4 : Int) (hc9 : 0 ≤ z4) (e2 : STask) (hx4 : m4[(z4).toNat]? = some e2) (hc10 : ¬ (e2.P > 0)) (s : (List STask) × Nat) (o : ((List STask) × Nat) ⊕ ((List STask) ⊕ ((List STask) × SFault))) (h : fixed_Assign.r5 m4 z4 s = some o) (a : Act) (w : World) (hA : fixed_Assign.A5 w0 l1 A1 c1 b1 Z1 cz1 z2 m4 z3 z4 s a w) (Q : Exit → Act → World → Prop) (hQ : ∀ x a w, Outs (fixed_Assign.A5 w0 l1 A1 c1 b1 Z1 cz1 z2 m4 z3 z4) (fixed_Assign.B5 w0 l1 A1 c1 b1 Z1 cz1 z2 m4 z3 z4) o x a w → Q x a w) : (subF Tryd.f57 [1, 1, 1, 1, 1, 0, 1, 0, 0, 1, 0, 0, 1, 0, 1, 0, 0, 1, 0, 0, 1, 1, 0, 1, 0, 0]).wp Tryd.prog Q a w := by
 obtain ⟨m6, i1⟩ := s
 obtain ⟨v2, hS, hF⟩ := hA
 replace hS : St w0 w [Own.blk b1 (.cells #[vI 0, vI 0] 26 (0, 0)), Own.of (.slice Z1 m4.length cz1) 46 m4, Own.of v2 46 m6] := hS
 simp only [fixed_Assign.r5] at h
 refine (?_ : WE Tryd.prog 107 (subF Tryd.f57 [1, 1, 1, 1, 1, 0, 1, 0, 0, 1, 0, 0, 1, 0, 1, 0, 0, 1, 0, 0, 1, 1, 0, 1, 0, 0]) Q [(1, .slice A1 l1.length c1), (5, pP b1 0), (7, (.slice Z1 m4.length cz1)), (9, vI z2), (10, vI z3), (11, vI z4), (12, v2), (65, (.slice Z1 m4.length cz1)), (66, vI (m4.length : Int)), (67, vI (i1 : Int))] w) a hF
 clear hF a
 refine ws fun K32 hK32 => ?_
 refine wr [(0, 0)] ?_
 refine gb0 [0] [(68, .bool (decide ((i1 : Int) < (m4.length : Int))))] ?_
 refine gn hK32 ?_
 refine ws fun K33 hK33 => ?_
 by_cases hc11 : (i1 : Int) < (m4.length : Int)
 ·rw [if_pos hc11] at h
  refine wk 68 (decide ((i1 : Int) < (m4.length : Int))) true (decide_eq_true hc11) ?_
  refine we_true (by kernel_rfl) ?_
  refine we_skip fun a hF => hK33 _ _ ?_ a hF
  refine ws fun K34 hK34 => ?_
  refine we_block ?_
  refine ws fun K35 hK35 => ?_
  refine wr [(0, 0), (1, 0), (2, 0), (3, 1), (4, 0), (5, 2)] ?_
  refine gb0 [0] [(69, vI (i1 : Int))] ?_
  rcases hx5 : m4[i1]? with _ | e3
  ·rw [hx5] at h; cases h
  rw [hx5] at h
  simp only [] at h
  refine gi 70 0 40 46 7 m4.length cz1 (.tmp 65) (.tmp 67) Z1 .i64 (i1 : Int) i1 ((hS.rdAt 1 rfl).eqSome (pos_of_get hx5)) rfl (lt_of_get hx5) ?_
  refine gb [2] [(71, .agg #[.string e3.Name, vI e3.C, vI e3.T, vI e3.D, vI e3.J, vI e3.O, vI e3.P])] [.loaded ⟨blkOf Z1, offOf Z1 + i1 * 7, none⟩ (.string e3.Name), .loaded ⟨blkOf Z1, offOf Z1 + i1 * 7 + 1, none⟩ (vI e3.C), .loaded ⟨blkOf Z1, offOf Z1 + i1 * 7 + 2, none⟩ (vI e3.T), .loaded ⟨blkOf Z1, offOf Z1 + i1 * 7 + 3, none⟩ (vI e3.D), .loaded ⟨blkOf Z1, offOf Z1 + i1 * 7 + 4, none⟩ (vI e3.J), .loaded ⟨blkOf Z1, offOf Z1 + i1 * 7 + 5, none⟩ (vI e3.O), .loaded ⟨blkOf Z1, offOf Z1 + i1 * 7 + 6, none⟩ (vI e3.P)] ⟨RdL.cell (j := 0) (hS.rdAt 1 rfl) hx5 rfl, RdL.cell (j := 1) (hS.rdAt 1 rfl) hx5 rfl, RdL.cell (j := 2) (hS.rdAt 1 rfl) hx5 rfl, RdL.cell (j := 3) (hS.rdAt 1 rfl) hx5 rfl, RdL.cell (j := 4) (hS.rdAt 1 rfl) hx5 rfl, RdL.cell (j := 5) (hS.rdAt 1 rfl) hx5 rfl, RdL.cell (j := 6) (hS.rdAt 1 rfl) hx5 rfl, trivial⟩ ?_
  refine gw (some 14) (.cells #[.string (⟨#[]⟩), vI 0, vI 0, vI 0, vI 0, vI 0, vI 0] 46) (fun b => pP b 0) hS fun b3 w13 hx6 hS49 => ?_
  refine gb0 [4] [(13, vI (i1 : Int))] ?_
  refine gs b3 0 #[.string (⟨#[]⟩), vI 0, vI 0, vI 0, vI 0, vI 0, vI 0] 46 [.string e3.Name, vI e3.C, vI e3.T, vI e3.D, vI e3.J, vI e3.O, vI e3.P] hS49 fun w14 hS50 => ?_
  have hS51 : St w0 w14 [Own.blk b3 (.cells #[.string e3.Name, vI e3.C, vI e3.T, vI e3.D, vI e3.J, vI e3.O, vI e3.P] 46 (0, 0)), Own.blk b1 (.cells #[vI 0, vI 0] 26 (0, 0)), Own.of (.slice Z1 m4.length cz1) 46 m4, Own.of v2 46 m6] := hS50
  refine gn hK35 ?_
  refine ws fun K36 hK36 => ?_
  refine wr [(0, 0), (1, 0), (2, 0), (3, 0), (4, 0), (5, 0), (6, 0), (7, 0)] ?_
  refine gb0 [0, 1, 2, 3] [(75, .bool ((i1 : Int) != z4)), (74, .bool ((i1 : Int) != z4)), (73, vI z4), (72, vI (i1 : Int))] ?_
  by_cases hc12 : (i1 : Int) = z4
  ·rw [if_pos hc12] at h
   refine gk 75 ((i1 : Int) != z4) false (bne_eq_false_iff_eq.2 hc12) ?_
   refine gb0 [4, 5, 6, 7] [(79, .bool false), (78, undef), (77, undef), (76, undef)] ?_
   refine gn hK36 ?_
   refine we_false (by kernel_rfl) ?_
   refine we_skip fun a hF => hK34 _ _ ?_ a hF
   refine wr [(0, 0), (1, 0)] ?_
   refine ge_addn (d := 84) (ty := 3) (x := (.tmp 67)) (y := (.const (vI 1))) (t := 3) (t2 := 3) (k := .i64) (m := i1) (by kernel_rfl) (by kernel_rfl) (by kernel_rfl) (by have h0 := hS51.ofSmall 2 rfl; omega) ?_
   refine gb0 [1] [(67, vI ((i1 + 1 : Nat) : Int))] ?_
   have hS52 := hS51.bring 3 rfl
   have hS53 := hS52.bring 3 rfl
   have hS54 := hS53.bring 3 rfl
   have hS55 := hS54.takeN 3
   obtain rfl := si h
   exact ge_nil fun a hF => hQ _ _ _ (Outs.again ⟨v2, hS55, hF.weaken ea⟩)
  ·rw [if_neg hc12] at h
   refine gk 75 ((i1 : Int) != z4) true (bne_iff_ne.2 hc12) ?_
   refine gb [4, 5, 6, 7] [(79, .bool (e3.P == 0)), (78, .bool (e3.P == 0)), (77, vI e3.P), (76, pP b3 6)] [.loaded ⟨b3, 6, none⟩ (vI e3.P)] ⟨hS51.c 0, trivial⟩ ?_
   refine gn hK36 ?_
   by_cases hc13 : e3.P = 0
   ·rw [if_pos hc13] at h
    refine wk 79 (e3.P == 0) true (beq_iff_eq.2 hc13) ?_
    refine we_true (by kernel_rfl) ?_
    refine wr [(0, 0), (1, 0), (2, 1), (3, 2), (4, 0)] ?_
    refine gb [0, 1] [(81, .agg #[.string e3.Name, vI e3.C, vI e3.T, vI e3.D, vI e3.J, vI e3.O, vI e3.P]), (80, v2)] [.loaded ⟨b3, 0, none⟩ (.string e3.Name), .loaded ⟨b3, 1, none⟩ (vI e3.C), .loaded ⟨b3, 2, none⟩ (vI e3.T), .loaded ⟨b3, 3, none⟩ (vI e3.D), .loaded ⟨b3, 4, none⟩ (vI e3.J), .loaded ⟨b3, 5, none⟩ (vI e3.O), .loaded ⟨b3, 6, none⟩ (vI e3.P)] ⟨hS51.c 0, hS51.c 0, hS51.c 0, hS51.c 0, hS51.c 0, hS51.c 0, hS51.c 0, trivial⟩ ?_
    refine gw (some 82) (.cells #[.string e3.Name, vI e3.C, vI e3.T, vI e3.D, vI e3.J, vI e3.O, vI e3.P] 46) (fun b => .slice (some ⟨b, 0, none⟩) 1 1) hS51 fun b4 w15 hx7 hS56 => ?_
    have hS57 := hS56.bring 4 rfl
    by_cases hc14 : m6.length < 2199023255552
    ·rw [if_pos hc14] at h
     refine ge_append (α := STask) (m := 0) (d := 83) (t := 40) (el := 46) (bytes := 64) (c1 := 1) (b1 := b4) (x := (.tmp 80)) (y := (.tmp 82)) (ty := 40) (v := v2) (z := .agg #[.string (⟨#[]⟩), vI 0, vI 0, vI 0, vI 0, vI 0, vI 0]) (l := m6) (u := e3) (by kernel_rfl) (by kernel_rfl) (by kernel_rfl) (by kernel_rfl) (by kernel_rfl) rfl hS57 rfl (by omega) fun v4 w16 hS58 => ?_
     refine gb0 [4] [(12, v4)] ?_
     refine gn hK34 ?_
     refine wr [(0, 0), (1, 0)] ?_
     refine ge_addn (d := 84) (ty := 3) (x := (.tmp 67)) (y := (.const (vI 1))) (t := 3) (t2 := 3) (k := .i64) (m := i1) (by kernel_rfl) (by kernel_rfl) (by kernel_rfl) (by have h0 := hS58.ofSmall 3 rfl; omega) ?_
     refine gb0 [1] [(67, vI ((i1 + 1 : Nat) : Int))] ?_
     have hS59 := hS58.bring 3 rfl
     have hS60 := hS59.bring 3 rfl
     have hS61 := hS60.takeN 3
     obtain rfl := si h
     exact ge_nil fun a hF => hQ _ _ _ (Outs.again ⟨v4, hS61, hF.weaken ea⟩)
    ·rw [if_neg hc14] at h
     cases h
   ·rw [if_neg hc13] at h
    refine wk 79 (e3.P == 0) false (beq_eq_false_iff_ne.2 hc13) ?_
    refine we_false (by kernel_rfl) ?_
    refine we_skip fun a hF => hK34 _ _ ?_ a hF
    refine wr [(0, 0), (1, 0)] ?_
    refine ge_addn (d := 84) (ty := 3) (x := (.tmp 67)) (y := (.const (vI 1))) (t := 3) (t2 := 3) (k := .i64) (m := i1) (by kernel_rfl) (by kernel_rfl) (by kernel_rfl) (by have h0 := hS51.ofSmall 2 rfl; omega) ?_
    refine gb0 [1] [(67, vI ((i1 + 1 : Nat) : Int))] ?_
    have hS62 := hS51.bring 3 rfl
    have hS63 := hS62.bring 3 rfl
    have hS64 := hS63.bring 3 rfl
    have hS65 := hS64.takeN 3
    obtain rfl := si h
    exact ge_nil fun a hF => hQ _ _ _ (Outs.again ⟨v2, hS65, hF.weaken ea⟩)
 ·rw [if_neg hc11] at h
  refine wk 68 (decide ((i1 : Int) < (m4.length : Int))) false (decide_eq_false hc11) ?_
  refine we_false (by kernel_rfl) ?_
  have hS66 := hS.bring 2 rfl
  have hS67 := hS66.bring 2 rfl
  have hS68 := hS67.bring 2 rfl
  obtain rfl := si h
  exact we_exit fun a hF => hQ _ _ _ (Outs.out nofun (Exits.here ⟨v2, hS68, hF.weaken ea⟩))
abbrev fixed_Assign.A3 (w0 : World) (l1 : List Int) (A1 : Option Addr) (c1 : Nat) (b1 : Nat) (Z1 : Option Addr) (cz1 : Nat) (z2 : Int) (m4 : List STask) : (Int × Int) → Act → World → Prop := fun (s : Int × Int) a w => St w0 w [Own.blk b1 (.cells #[vI 0, vI 0] 26 (0, 0)), Own.of (.slice Z1 m4.length cz1) 46 m4] ∧ Frm 107 a [(1, .slice A1 l1.length c1), (5, pP b1 0), (7, (.slice Z1 m4.length cz1)), (9, vI z2), (10, vI s.1), (11, vI s.2)]
abbrev fixed_Assign.B3 (w0 : World) (l1 : List Int) (A1 : Option Addr) (c1 : Nat) (b1 : Nat) (Z1 : Option Addr) (cz1 : Nat) (z2 : Int) (m4 : List STask) : (Int ⊕ ((List STask) × SFault)) → Exit → Act → World → Prop := Exits 4 (fun (s : Int) a w => St w0 w [Own.blk b1 (.cells #[vI 0, vI 0] 26 (0, 0)), Own.of (.slice Z1 m4.length cz1) 46 m4] ∧ Frm 107 a [(1, .slice A1 l1.length c1), (5, pP b1 0), (7, (.slice Z1 m4.length cz1)), (9, vI z2), (10, vI s)]) (Rets Tryd.prog Tryd.f57 (fixed_Assign.Post w0))
theorem fixed_Assign_r3 (K : Nat) (w0 : World) (l0 : List STask) (A0 : Option Addr) (c0 : Nat) (l1 : List Int) (A1 : Option Addr) (c1 : Nat) (hR0 : RdL w0 A0 l0) (hL0 : l0.length ≤ c0) (hR1 : RdL w0 A1 l1) (hL1 : l1.length ≤ c1) (b1 : Nat) (r1 : SFault) (b2 : Nat) (hc1 : r1.Code = 0) (r3 : List STask) (Z1 : Option Addr) (cz1 : Nat) (m3 : List STask) (z2 : Int) (m4 : List STask) (hc6 : z2 ≤ (m4.length : Int)) (s : Int × Int) (o : (Int × Int) ⊕ (Int ⊕ ((List STask) × SFault))) (h : fixed_Assign.r3 K l1 m4 s = some o) (a : Act) (w : World) (hA : fixed_Assign.A3 w0 l1 A1 c1 b1 Z1 cz1 z2 m4 s a w) (Q : Exit → Act → World → Prop) (hQ : ∀ x a w, Outs (fixed_Assign.A3 w0 l1 A1 c1 b1 Z1 cz1 z2 m4) (fixed_Assign.B3 w0 l1 A1 c1 b1 Z1 cz1 z2 m4) o x a w → Q x a w) : (subF Tryd.f57 [1, 1, 1, 1, 1, 0, 1, 0, 0, 1, 0, 0, 1, 0, 1, 0, 0]).wp Tryd.prog Q a w := by
 obtain ⟨z3, z4⟩ := s
 obtain ⟨hS, hF⟩ := hA
 replace hS : St w0 w [Own.blk b1 (.cells #[vI 0, vI 0] 26 (0, 0)), Own.of (.slice Z1 m4.length cz1) 46 m4] := hS
 simp only [fixed_Assign.r3] at h
 refine (?_ : WE Tryd.prog 107 (subF Tryd.f57 [1, 1, 1, 1, 1, 0, 1, 0, 0, 1, 0, 0, 1, 0, 1, 0, 0]) Q [(1, .slice A1 l1.length c1), (5, pP b1 0), (7, (.slice Z1 m4.length cz1)), (9, vI z2), (10, vI z3), (11, vI z4)] w) a hF
 clear hF a
 refine ws fun K24 hK24 => ?_
 rcases hq6 : fixed_Assign.p4 m4 z3 z4 with _ | (_ | (_ | rr2))
 ·rw [hq6] at h; cases h
 ·rw [hq6] at h
  simp only [] at h
  refine we_keep (e' := [(1, .slice A1 l1.length c1), (5, pP b1 0), (7, (.slice Z1 m4.length cz1)), (9, vI z2), (10, vI z3), (11, vI z4)]) ea (fixed_Assign_p4 K w0 l0 A0 c0 l1 A1 c1 hR0 hL0 hR1 hL1 b1 r1 b2 hc1 r3 Z1 cz1 m3 z2 m4 hc6 z3 z4 _ hq6 _ hS _ ?_)
  rintro _ a w12 ⟨rfl, hS43, hF⟩
  replace hS43 : St w0 w12 [Own.blk b1 (.cells #[vI 0, vI 0] 26 (0, 0)), Own.of (.slice Z1 m4.length cz1) 46 m4] := hS43
  refine hK24 [(1, .slice A1 l1.length c1), (5, pP b1 0), (7, (.slice Z1 m4.length cz1)), (9, vI z2), (10, vI z3), (11, vI z4)] w12 ?_ a hF
  refine ws fun K26 hK26 => ?_
  refine we_block ?_
  refine ws fun K27 hK27 => ?_
  refine ws fun K28 hK28 => ?_
  refine wr [(0, 0), (1, 0), (2, 0), (3, 0), (4, 0), (5, 0)] ?_
  refine gb0 [0, 1] [(60, vI z4), (59, (.slice Z1 m4.length cz1))] ?_
  by_cases hc9 : 0 ≤ z4
  ·rw [if_pos hc9] at h
   rcases hx4 : m4[(z4).toNat]? with _ | e2
   ·rw [hx4] at h; cases h
   rw [hx4] at h
   simp only [] at h
   refine gi 61 0 40 46 7 m4.length cz1 (.tmp 59) (.tmp 60) Z1 .i64 z4 ((z4).toNat) ((hS43.rdAt 1 rfl).eqSome (pos_of_get hx4)) (Int.toNat_of_nonneg hc9).symm (lt_of_get hx4) ?_
   refine gb [3, 4, 5] [(64, .bool (decide (e2.P > 0))), (63, vI e2.P), (62, .pointer (some ⟨blkOf Z1, offOf Z1 + (z4).toNat * 7 + 6, none⟩))] [.loaded ⟨blkOf Z1, offOf Z1 + ((z4).toNat) * 7 + 6, none⟩ (vI e2.P)] ⟨RdL.cell (j := 6) (hS43.rdAt 1 rfl) hx4 rfl, trivial⟩ ?_
   refine gn hK28 ?_
   by_cases hc10 : e2.P > 0
   ·rw [if_pos hc10] at h
    refine wk 64 (decide (e2.P > 0)) true (decide_eq_true hc10) ?_
    refine we_true (by kernel_rfl) ?_
    refine we_exit fun a hF => hK26 _ _ ?_ a hF
    refine wr [(0, 0), (1, 0), (2, 0)] ?_
    refine gb0 [0, 1, 2] [(11, vI (IntKind.i64.wrap (z4 + 1))), (58, vI (IntKind.i64.wrap (z4 + 1))), (57, vI z4)] ?_
    have hS44 := hS43.bring 1 rfl
    have hS45 := hS44.bring 1 rfl
    obtain rfl := si h
    exact ge_nil fun a hF => hQ _ _ _ (Outs.again ⟨hS45, hF.weaken ea⟩)
   ·rw [if_neg hc10] at h
    refine wk 64 (decide (e2.P > 0)) false (decide_eq_false hc10) ?_
    refine we_false (by kernel_rfl) ?_
    refine we_skip fun a hF => hK27 _ _ ?_ a hF
    refine ws fun K29 hK29 => ?_
    refine wr [(0, 0)] ?_
    refine gb0 [0] [(12, .slice none 0 0)] ?_
    refine gn hK29 ?_
    refine ws fun K30 hK30 => ?_
    refine ws fun K31 hK31 => ?_
    refine wr [(0, 0), (1, 0), (2, 0)] ?_
    refine gb0 [0, 1, 2] [(67, vI 0), (66, vI (m4.length : Int)), (65, (.slice Z1 m4.length cz1))] ?_
    refine gn hK31 ?_
    refine we_block ?_
    have hS46 := hS43.nil (α := STask) 46
    have hS47 := hS46.bring 2 rfl
    have hS48 := hS47.bring 2 rfl
    rcases hq7 : iter (fixed_Assign.r5 m4 z4) K (([] : List STask), 0) with _ | (m8 | rr1)
    ·rw [hq7] at h; cases h
    ·rw [hq7] at h
     simp only [] at h
     refine we_iter (A := fixed_Assign.A5 w0 l1 A1 c1 b1 Z1 cz1 z2 m4 z3 z4) (B := fixed_Assign.B5 w0 l1 A1 c1 b1 Z1 cz1 z2 m4 z3 z4) hq7 (fun a hF => ⟨(.slice none 0 0), hS48, hF.weaken ea⟩) (fun s o hf a w hA Q hQ => fixed_Assign_r5 K w0 l0 A0 c0 l1 A1 c1 hR0 hL0 hR1 hL1 b1 r1 b2 hc1 r3 Z1 cz1 m3 z2 m4 hc6 z3 z4 hc9 e2 hx4 hc10 s o hf a w hA Q hQ) ?_
     rintro _ a w17 _ ⟨rfl, v5, hS69, hF⟩
     replace hS69 : St w0 w17 [Own.blk b1 (.cells #[vI 0, vI 0] 26 (0, 0)), Own.of (.slice Z1 m4.length cz1) 46 m4, Own.of v5 46 m8] := hS69
     refine hK30 [(1, .slice A1 l1.length c1), (5, pP b1 0), (7, (.slice Z1 m4.length cz1)), (9, vI z2), (10, vI z3), (11, vI z4), (12, v5)] w17 ?_ a hF
     refine ws fun K37 hK37 => ?_
     refine we_draws (by kernel_rfl) [(0, 0), (1, 0), (2, 0), (3, 0), (4, 0), (5, 0), (6, 0), (7, 0), (8, 0), (9, 1), (10, 0)] (by kernel_rfl) ?_
     have hS70 := hS69.drew
     refine gb0 [0, 1] [(86, vI z4), (85, (.slice Z1 m4.length cz1))] ?_
     refine gi 87 0 40 46 7 m4.length cz1 (.tmp 85) (.tmp 86) Z1 .i64 z4 ((z4).toNat) ((hS70.rdAt 1 rfl).eqSome (pos_of_get hx4)) (Int.toNat_of_nonneg hc9).symm (lt_of_get hx4) ?_
     refine gb [3, 4, 5, 6] [(91, vI z4), (90, .slice A1 l1.length c1), (89, v5), (88, .agg #[.string e2.Name, vI e2.C, vI e2.T, vI e2.D, vI e2.J, vI e2.O, vI e2.P])] [.loaded ⟨blkOf Z1, offOf Z1 + ((z4).toNat) * 7, none⟩ (.string e2.Name), .loaded ⟨blkOf Z1, offOf Z1 + ((z4).toNat) * 7 + 1, none⟩ (vI e2.C), .loaded ⟨blkOf Z1, offOf Z1 + ((z4).toNat) * 7 + 2, none⟩ (vI e2.T), .loaded ⟨blkOf Z1, offOf Z1 + ((z4).toNat) * 7 + 3, none⟩ (vI e2.D), .loaded ⟨blkOf Z1, offOf Z1 + ((z4).toNat) * 7 + 4, none⟩ (vI e2.J), .loaded ⟨blkOf Z1, offOf Z1 + ((z4).toNat) * 7 + 5, none⟩ (vI e2.O), .loaded ⟨blkOf Z1, offOf Z1 + ((z4).toNat) * 7 + 6, none⟩ (vI e2.P)] ⟨RdL.cell (j := 0) (hS70.rdAt 1 rfl) hx4 rfl, RdL.cell (j := 1) (hS70.rdAt 1 rfl) hx4 rfl, RdL.cell (j := 2) (hS70.rdAt 1 rfl) hx4 rfl, RdL.cell (j := 3) (hS70.rdAt 1 rfl) hx4 rfl, RdL.cell (j := 4) (hS70.rdAt 1 rfl) hx4 rfl, RdL.cell (j := 5) (hS70.rdAt 1 rfl) hx4 rfl, RdL.cell (j := 6) (hS70.rdAt 1 rfl) hx4 rfl, trivial⟩ ?_
     rcases hx8 : l1[(z4).toNat]? with _ | e4
     ·rw [hx8] at h; cases h
     rw [hx8] at h
     simp only [] at h
     refine gi 92 0 23 3 1 l1.length c1 (.tmp 90) (.tmp 91) A1 .i64 z4 ((z4).toNat) ((hS70.rd hR1).eqSome (pos_of_get hx8)) (Int.toNat_of_nonneg hc9).symm (lt_of_get hx8) ?_
     refine gb [8] [(93, vI e4)] [.loaded ⟨blkOf A1, offOf A1 + ((z4).toNat) * 1, none⟩ (vI e4)] ⟨RdL.cell (j := 0) (hS70.rd hR1) hx8 rfl, trivial⟩ ?_
     obtain ⟨Z2, cz2, rfl⟩ := hS70.open 2 rfl
     rcases hq8 : fixed_response.f K e2 m8 e4 with _ | r4
     ·rw [hq8] at h; cases h
     rw [hq8] at h
     simp only [] at h
     refine ge_call (d := some 94) (f := 74) (args := #[.agg #[.string e2.Name, vI e2.C, vI e2.T, vI e2.D, vI e2.J, vI e2.O, vI e2.P], (.slice Z2 m8.length cz2), vI e4]) (by kernel_rfl) (fixed_response_ok K e2 m8 Z2 cz2 e4 _ (hS70.rdAt 2 rfl) (hS70.capAt 2 rfl) _ hq8) ?_
     rintro _ w18 ⟨rfl, hS71⟩
     refine ⟨_, rfl, hS71.below, ?_⟩
     have hS72 := hS70.call hS71
     refine gb0 [10] [(95, .bool (decide (r4 > 0)))] ?_
     refine gn hK37 ?_
     by_cases hc15 : r4 > 0
     ·rw [if_pos hc15] at h
      refine wk 95 (decide (r4 > 0)) true (decide_eq_true hc15) ?_
      refine we_true (by kernel_rfl) ?_
      refine wr [(0, 0), (1, 0)] ?_
      refine gb0 [0, 1] [(10, vI z4), (96, vI z4)] ?_
      refine gn hK26 ?_
      refine wr [(0, 0), (1, 0), (2, 0)] ?_
      refine gb0 [0, 1, 2] [(11, vI (IntKind.i64.wrap (z4 + 1))), (58, vI (IntKind.i64.wrap (z4 + 1))), (57, vI z4)] ?_
      have hS73 := hS72.bring 1 rfl
      have hS74 := hS73.bring 1 rfl
      have hS75 := hS74.takeN 2
      obtain rfl := si h
      exact ge_nil fun a hF => hQ _ _ _ (Outs.again ⟨hS75, hF.weaken ea⟩)
     ·rw [if_neg hc15] at h
      refine wk 95 (decide (r4 > 0)) false (decide_eq_false hc15) ?_
      refine we_false (by kernel_rfl) ?_
      refine we_skip fun a hF => hK26 _ _ ?_ a hF
      refine wr [(0, 0), (1, 0), (2, 0)] ?_
      refine gb0 [0, 1, 2] [(11, vI (IntKind.i64.wrap (z4 + 1))), (58, vI (IntKind.i64.wrap (z4 + 1))), (57, vI z4)] ?_
      have hS76 := hS72.bring 1 rfl
      have hS77 := hS76.bring 1 rfl
      have hS78 := hS77.takeN 2
      obtain rfl := si h
      exact ge_nil fun a hF => hQ _ _ _ (Outs.again ⟨hS78, hF.weaken ea⟩)
    ·rw [hq7] at h
     simp only [] at h
     refine we_iter (A := fixed_Assign.A5 w0 l1 A1 c1 b1 Z1 cz1 z2 m4 z3 z4) (B := fixed_Assign.B5 w0 l1 A1 c1 b1 Z1 cz1 z2 m4 z3 z4) hq7 (fun a hF => ⟨(.slice none 0 0), hS48, hF.weaken ea⟩) (fun s o hf a w hA Q hQ => fixed_Assign_r5 K w0 l0 A0 c0 l1 A1 c1 hR0 hL0 hR1 hL1 b1 r1 b2 hc1 r3 Z1 cz1 m3 z2 m4 hc6 z3 z4 hc9 e2 hx4 hc10 s o hf a w hA Q hQ) ?_
     rintro _ a w1 _ ⟨rfl, hb⟩
     obtain rfl := si h
     exact hQ _ _ _ (Outs.out nofun (Exits.on ⟨rfl, hb⟩))
  ·rw [if_neg hc9] at h
   cases h
 ·rw [hq6] at h
  simp only [] at h
  refine we_keep (e' := [(1, .slice A1 l1.length c1), (5, pP b1 0), (7, (.slice Z1 m4.length cz1)), (9, vI z2), (10, vI z3), (11, vI z4)]) ea (fixed_Assign_p4 K w0 l0 A0 c0 l1 A1 c1 hR0 hL0 hR1 hL1 b1 r1 b2 hc1 r3 Z1 cz1 m3 z2 m4 hc6 z3 z4 _ hq6 _ hS _ ?_)
  rintro _ a w19 ⟨_, rfl, hS79, hF⟩
  replace hS79 : St w0 w19 [Own.blk b1 (.cells #[vI 0, vI 0] 26 (0, 0)), Own.of (.slice Z1 m4.length cz1) 46 m4] := hS79
  have hS80 := hS79.bring 1 rfl
  have hS81 := hS80.bring 1 rfl
  obtain rfl := si h
  exact hQ _ _ _ (Outs.out nofun (Exits.here ⟨hS81, hF.weaken ea⟩))
 ·rw [hq6] at h
  simp only [] at h
  refine we_keep (e' := [(1, .slice A1 l1.length c1), (5, pP b1 0), (7, (.slice Z1 m4.length cz1)), (9, vI z2), (10, vI z3), (11, vI z4)]) ea (fixed_Assign_p4 K w0 l0 A0 c0 l1 A1 c1 hR0 hL0 hR1 hL1 b1 r1 b2 hc1 r3 Z1 cz1 m3 z2 m4 hc6 z3 z4 _ hq6 _ hS _ ?_)
  rintro _ a w1 ⟨_, rfl, hb⟩
  obtain rfl := si h
  exact hQ _ _ _ (Outs.out nofun (Exits.on ⟨rfl, hb⟩))
abbrev fixed_Assign.A2 (w0 : World) (l1 : List Int) (A1 : Option Addr) (c1 : Nat) (b1 : Nat) (Z1 : Option Addr) (cz1 : Nat) : (Int × (List STask)) → Act → World → Prop := fun (s : Int × (List STask)) a w => St w0 w [Own.blk b1 (.cells #[vI 0, vI 0] 26 (0, 0)), Own.of (.slice Z1 s.2.length cz1) 46 s.2] ∧ Frm 107 a [(1, .slice A1 l1.length c1), (5, pP b1 0), (7, (.slice Z1 s.2.length cz1)), (9, vI s.1)]
abbrev fixed_Assign.B2 (w0 : World) (b1 : Nat) (Z1 : Option Addr) (cz1 : Nat) : ((List STask) ⊕ ((List STask) × SFault)) → Exit → Act → World → Prop := Exits 2 (fun (s : (List STask)) a w => St w0 w [Own.blk b1 (.cells #[vI 0, vI 0] 26 (0, 0)), Own.of (.slice Z1 s.length cz1) 46 s] ∧ Frm 107 a [(5, pP b1 0), (7, (.slice Z1 s.length cz1))]) (Rets Tryd.prog Tryd.f57 (fixed_Assign.Post w0))
theorem fixed_Assign_r2 (K : Nat) (w0 : World) (l0 : List STask) (A0 : Option Addr) (c0 : Nat) (l1 : List Int) (A1 : Option Addr) (c1 : Nat) (hR0 : RdL w0 A0 l0) (hL0 : l0.length ≤ c0) (hR1 : RdL w0 A1 l1) (hL1 : l1.length ≤ c1) (b1 : Nat) (r1 : SFault) (b2 : Nat) (hc1 : r1.Code = 0) (r3 : List STask) (Z1 : Option Addr) (cz1 : Nat) (m3 : List STask) (s : Int × (List STask)) (o : (Int × (List STask)) ⊕ ((List STask) ⊕ ((List STask) × SFault))) (h : fixed_Assign.r2 K l1 r3 s = some o) (a : Act) (w : World) (hA : fixed_Assign.A2 w0 l1 A1 c1 b1 Z1 cz1 s a w) (Q : Exit → Act → World → Prop) (hQ : ∀ x a w, Outs (fixed_Assign.A2 w0 l1 A1 c1 b1 Z1 cz1) (fixed_Assign.B2 w0 b1 Z1 cz1) o x a w → Q x a w) : (subF Tryd.f57 [1, 1, 1, 1, 1, 0, 1, 0, 0]).wp Tryd.prog Q a w := by
 obtain ⟨z2, m4⟩ := s
 obtain ⟨hS, hF⟩ := hA
 replace hS : St w0 w [Own.blk b1 (.cells #[vI 0, vI 0] 26 (0, 0)), Own.of (.slice Z1 m4.length cz1) 46 m4] := hS
 simp only [fixed_Assign.r2] at h
 refine (?_ : WE Tryd.prog 107 (subF Tryd.f57 [1, 1, 1, 1, 1, 0, 1, 0, 0]) Q [(1, .slice A1 l1.length c1), (5, pP b1 0), (7, (.slice Z1 m4.length cz1)), (9, vI z2)] w) a hF
 clear hF a
 refine ws fun K18 hK18 => ?_
 refine ws fun K19 hK19 => ?_
 refine wr [(0, 0), (1, 0), (2, 0), (3, 0)] ?_
 refine gb0 [0, 1, 2, 3] [(46, .bool (decide (z2 ≤ (m4.length : Int)))), (45, vI (m4.length : Int)), (44, (.slice Z1 m4.length cz1)), (43, vI z2)] ?_
 refine gn hK19 ?_
 by_cases hc6 : z2 ≤ (m4.length : Int)
 ·rw [if_pos hc6] at h
  refine wk 46 (decide (z2 ≤ (m4.length : Int))) true (decide_eq_true hc6) ?_
  refine we_true (by kernel_rfl) ?_
  refine we_skip fun a hF => hK18 _ _ ?_ a hF
  refine ws fun K20 hK20 => ?_
  refine we_block ?_
  refine ws fun K21 hK21 => ?_
  refine wr [(0, 0)] ?_
  refine gb0 [0] [(10, vI (-1))] ?_
  refine gn hK21 ?_
  refine ws fun K22 hK22 => ?_
  refine ws fun K23 hK23 => ?_
  refine wr [(0, 0)] ?_
  refine gb0 [0] [(11, vI 0)] ?_
  refine gn hK23 ?_
  refine we_block ?_
  have hS35 := hS.bring 1 rfl
  have hS36 := hS35.bring 1 rfl
  rcases hq9 : iter (fixed_Assign.r3 K l1 m4) K ((-1), 0) with _ | (z6 | rr3)
  ·rw [hq9] at h; cases h
  ·rw [hq9] at h
   simp only [] at h
   refine we_iter (A := fixed_Assign.A3 w0 l1 A1 c1 b1 Z1 cz1 z2 m4) (B := fixed_Assign.B3 w0 l1 A1 c1 b1 Z1 cz1 z2 m4) hq9 (fun a hF => ⟨hS36, hF.weaken ea⟩) (fun s o hf a w hA Q hQ => fixed_Assign_r3 K w0 l0 A0 c0 l1 A1 c1 hR0 hL0 hR1 hL1 b1 r1 b2 hc1 r3 Z1 cz1 m3 z2 m4 hc6 s o hf a w hA Q hQ) ?_
   rintro _ a w20 _ ⟨rfl, hS82, hF⟩
   replace hS82 : St w0 w20 [Own.blk b1 (.cells #[vI 0, vI 0] 26 (0, 0)), Own.of (.slice Z1 m4.length cz1) 46 m4] := hS82
   refine hK22 [(1, .slice A1 l1.length c1), (5, pP b1 0), (7, (.slice Z1 m4.length cz1)), (9, vI z2), (10, vI z6)] w20 ?_ a hF
   refine ws fun K38 hK38 => ?_
   refine ws fun K39 hK39 => ?_
   refine wr [(0, 0), (1, 0)] ?_
   refine gb0 [0, 1] [(98, .bool (decide (z6 < 0))), (97, vI z6)] ?_
   refine gn hK39 ?_
   by_cases hc16 : z6 < 0
   ·rw [if_pos hc16] at h
    refine wk 98 (decide (z6 < 0)) true (decide_eq_true hc16) ?_
    refine we_true (by kernel_rfl) ?_
    refine ws fun K40 hK40 => ?_
    refine wr [(0, 0), (1, 0), (2, 2)] ?_
    refine gb0 [0, 1] [(4, .slice none 0 0), (99, .agg #[vI 13, vI 0])] ?_
    refine gs b1 0 #[vI 0, vI 0] 26 [vI 13, vI 0] hS82 fun w21 hS83 => ?_
    have hS84 : St w0 w21 [Own.blk b1 (.cells #[vI 13, vI 0] 26 (0, 0)), Own.of (.slice Z1 m4.length cz1) 46 m4] := hS83
    refine gn hK40 ?_
    have hS85 := hS84.nil (α := STask) 46
    have hS86 := hS85.takeN 1
    obtain rfl := si h
    exact we_ret fun a hF => hQ _ _ _ (Outs.out nofun (Exits.on ⟨rfl, (pr [.tmp 4, .cell 5 26] [(.slice none 0 0), .agg #[vI 13, vI 0]] [.loaded ⟨b1, 0, none⟩ (vI 13), .loaded ⟨b1, 1, none⟩ (vI 0)] ⟨hS85.c 1, hS85.c 1, trivial⟩ ⟨(.slice none 0 0), rfl, hS86⟩) a hF⟩))
   ·rw [if_neg hc16] at h
    refine wk 98 (decide (z6 < 0)) false (decide_eq_false hc16) ?_
    refine we_false (by kernel_rfl) ?_
    refine we_skip fun a hF => hK38 _ _ ?_ a hF
    refine wr [(0, 0), (1, 0), (2, 0), (3, 0), (4, 0), (5, 2)] ?_
    refine gb0 [0, 1, 2] [(102, vI z2), (101, vI z6), (100, (.slice Z1 m4.length cz1))] ?_
    by_cases hc17 : 0 ≤ z6
    ·rw [if_pos hc17] at h
     rcases hx9 : m4[(z6).toNat]? with _ | e5
     ·rw [hx9] at h; cases h
     rw [hx9] at h
     simp only [] at h
     refine gi 103 0 40 46 7 m4.length cz1 (.tmp 100) (.tmp 101) Z1 .i64 z6 ((z6).toNat) ((hS82.rdAt 1 rfl).eqSome (pos_of_get hx9)) (Int.toNat_of_nonneg hc17).symm (lt_of_get hx9) ?_
     refine gb0 [4] [(104, .pointer (some ⟨blkOf Z1, offOf Z1 + (z6).toNat * 7 + 6, none⟩))] ?_
     have hS87 := hS82.bring 1 rfl
     refine ge_seti (α := STask) (A := Z1) (nn := m4.length) (c := cz1) (t := 46) (l := m4) (x := e5) (x' := (⟨e5.Name, e5.C, e5.T, e5.D, e5.J, e5.O, z2⟩ : STask)) (jn := ((z6).toNat)) (j := 6) (vs := [vI z2]) (l' := [.stored ⟨blkOf Z1, offOf Z1 + ((z6).toNat) * 7 + 6, none⟩ (vI z2)]) hS87 (by kernel_rfl) (by kernel_rfl) hx9 rfl rfl rfl fun w22 hS88 => ?_
     have hS89 : St w0 w22 [Own.of (.slice Z1 m4.length cz1) 46 (m4.set ((z6).toNat) (⟨e5.Name, e5.C, e5.T, e5.D, e5.J, e5.O, z2⟩ : STask)), Own.blk b1 (.cells #[vI 0, vI 0] 26 (0, 0))] := hS88
     have hE2 : m4.length = (m4.set ((z6).toNat) (⟨e5.Name, e5.C, e5.T, e5.D, e5.J, e5.O, z2⟩ : STask)).length := hS89.lenAt 0 rfl
     have hS90 : St w0 w22 [Own.of (.slice Z1 (m4.set ((z6).toNat) (⟨e5.Name, e5.C, e5.T, e5.D, e5.J, e5.O, z2⟩ : STask)).length cz1) 46 (m4.set ((z6).toNat) (⟨e5.Name, e5.C, e5.T, e5.D, e5.J, e5.O, z2⟩ : STask)), Own.blk b1 (.cells #[vI 0, vI 0] 26 (0, 0))] := by rw [← hE2]; exact hS89
     refine ge_same (t := 7) (v := (.slice Z1 m4.length cz1)) (v' := (.slice Z1 (m4.set ((z6).toNat) (⟨e5.Name, e5.C, e5.T, e5.D, e5.J, e5.O, z2⟩ : STask)).length cz1)) (by kernel_rfl) (by rw [hE2]) ?_
     refine ge_same (t := 100) (v := (.slice Z1 m4.length cz1)) (v' := (.slice Z1 (m4.set ((z6).toNat) (⟨e5.Name, e5.C, e5.T, e5.D, e5.J, e5.O, z2⟩ : STask)).length cz1)) (by kernel_rfl) (by rw [hE2]) ?_
     refine gn hK20 ?_
     refine wr [(0, 0), (1, 0), (2, 0)] ?_
     refine gb0 [0, 1, 2] [(9, vI (IntKind.i64.wrap (z2 + 1))), (48, vI (IntKind.i64.wrap (z2 + 1))), (47, vI z2)] ?_
     have hS91 := hS90.bring 1 rfl
     obtain rfl := si h
     exact ge_nil fun a hF => hQ _ _ _ (Outs.again ⟨hS91, hF.weaken ea⟩)
    ·rw [if_neg hc17] at h
     cases h
  ·rw [hq9] at h
   simp only [] at h
   refine we_iter (A := fixed_Assign.A3 w0 l1 A1 c1 b1 Z1 cz1 z2 m4) (B := fixed_Assign.B3 w0 l1 A1 c1 b1 Z1 cz1 z2 m4) hq9 (fun a hF => ⟨hS36, hF.weaken ea⟩) (fun s o hf a w hA Q hQ => fixed_Assign_r3 K w0 l0 A0 c0 l1 A1 c1 hR0 hL0 hR1 hL1 b1 r1 b2 hc1 r3 Z1 cz1 m3 z2 m4 hc6 s o hf a w hA Q hQ) ?_
   rintro _ a w1 _ ⟨rfl, hb⟩
   obtain rfl := si h
   exact hQ _ _ _ (Outs.out nofun (Exits.on ⟨rfl, hb⟩))
 ·rw [if_neg hc6] at h
  refine wk 46 (decide (z2 ≤ (m4.length : Int))) false (decide_eq_false hc6) ?_
  refine we_false (by kernel_rfl) ?_
  have hS92 := hS.bring 1 rfl
  have hS93 := hS92.bring 1 rfl
  obtain rfl := si h
  exact we_exit fun a hF => hQ _ _ _ (Outs.out nofun (Exits.here ⟨hS93, hF.weaken ea⟩))
theorem fixed_Assign_ok (K : Nat) (l0 : List STask) (A0 : Option Addr) (c0 : Nat) (l1 : List Int) (A1 : Option Addr) (c1 : Nat) (w0 : World) (hR0 : RdL w0 A0 l0) (hL0 : l0.length ≤ c0) (hR1 : RdL w0 A1 l1) (hL1 : l1.length ≤ c1) (r : (List STask) × SFault) (h : fixed_Assign.f K l0 l1 = some r) :
  Calls Tryd.prog 57 #[.slice A0 l0.length c0, .slice A1 l1.length c1] w0 (fixed_Assign.Post w0 r) := by
 have hS := St.start w0
 unfold fixed_Assign.f at h
 refine calls_enter (n := 107) (args := [.slice A0 l0.length c0, .slice A1 l1.length c1]) (fn := Tryd.f57) rfl rfl rfl rfl ?_
 show WE _ _ _ _ [(0, .slice A0 l0.length c0), (1, .slice A1 l1.length c1)] _
 refine ws fun K1 hK1 => ?_
 refine wr [(0, 0), (1, 1)] ?_
 refine gb0 [0] [(4, .slice none 0 0)] ?_
 refine gw (some 5) (.cells #[vI 0, vI 0] 26) (fun b => pP b 0) hS fun b1 w1 hx1 hS1 => ?_
 refine gn hK1 ?_
 refine ws fun K2 hK2 => ?_
 refine ws fun K3 hK3 => ?_
 refine wr [(0, 0), (1, 1), (2, 1), (3, 2)] ?_
 rcases hq1 : fixed_check.f K l0 with _ | r1
 ·rw [hq1] at h; cases h
 rw [hq1] at h
 simp only [] at h
 refine gb0 [0] [(15, .slice A0 l0.length c0)] ?_
 refine ge_call (d := some 16) (f := 73) (args := #[.slice A0 l0.length c0]) (by kernel_rfl) (fixed_check_ok K l0 A0 c0 _ (hS1.rd hR0) hL0 _ hq1) ?_
 rintro _ w2 ⟨rfl, hS2⟩
 refine ⟨_, rfl, hS2.below, ?_⟩
 have hS3 := hS1.call hS2
 refine gw (some 6) (.cells #[vI 0, vI 0] 26) (fun b => pP b 0) hS3 fun b2 w3 hx2 hS4 => ?_
 refine gs b2 0 #[vI 0, vI 0] 26 [vI r1.Code, vI r1.At] hS4 fun w4 hS5 => ?_
 have hS6 : St w0 w4 [Own.blk b2 (.cells #[vI r1.Code, vI r1.At] 26 (0, 0)), Own.blk b1 (.cells #[vI 0, vI 0] 26 (0, 0))] := hS5
 refine gn hK3 ?_
 refine ws fun K4 hK4 => ?_
 refine wr [(0, 0), (1, 0), (2, 0)] ?_
 refine gb [0, 1, 2] [(19, .bool (r1.Code != 0)), (18, vI r1.Code), (17, pP b2 0)] [.loaded ⟨b2, 0, none⟩ (vI r1.Code)] ⟨hS6.c 0, trivial⟩ ?_
 refine gn hK4 ?_
 by_cases hc1 : r1.Code = 0
 ·rw [if_pos hc1] at h
  refine wk 19 (r1.Code != 0) false (bne_eq_false_iff_eq.2 hc1) ?_
  refine we_false (by kernel_rfl) ?_
  refine we_skip fun a hF => hK2 _ _ ?_ a hF
  refine ws fun K5 hK5 => ?_
  rcases hq3 : fixed_Assign.p0 K l0 l1 with _ | (_ | rr6)
  ·rw [hq3] at h; cases h
  ·rw [hq3] at h
   simp only [] at h
   refine we_keep (e' := [(0, .slice A0 l0.length c0), (1, .slice A1 l1.length c1), (4, .slice none 0 0), (5, pP b1 0), (6, pP b2 0), (15, .slice A0 l0.length c0), (16, .agg #[vI r1.Code, vI r1.At]), (17, pP b2 0), (18, vI r1.Code), (19, .bool false)]) ea (fixed_Assign_p0 K w0 l0 A0 c0 l1 A1 c1 hR0 hL0 hR1 hL1 b1 r1 b2 hc1 _ hq3 _ hS6 _ ?_)
   rintro _ a w8 ⟨rfl, hS21, hF⟩
   replace hS21 : St w0 w8 [Own.blk b1 (.cells #[vI 0, vI 0] 26 (0, 0))] := hS21
   refine hK5 [(0, .slice A0 l0.length c0), (1, .slice A1 l1.length c1), (5, pP b1 0)] w8 ?_ a hF
   refine ws fun K9 hK9 => ?_
   refine wr [(0, 0), (1, 1), (2, 0)] ?_
   rcases hq4 : slices_Clone_api_Task_api_Task.f l0 with _ | r3
   ·rw [hq4] at h; cases h
   rw [hq4] at h
   simp only [] at h
   refine gb0 [0] [(31, .slice A0 l0.length c0)] ?_
   refine ge_call (d := some 32) (f := 86) (args := #[.slice A0 l0.length c0]) (by kernel_rfl) (slices_Clone_api_Task_api_Task_ok l0 A0 c0 _ (hS21.rd hR0) hL0 _ hq4) ?_
   rintro _ w9 ⟨v1, rfl, hS22⟩
   refine ⟨_, rfl, hS22.below, ?_⟩
   have hS23 := hS21.call hS22
   refine gb0 [2] [(7, v1)] ?_
   refine gn hK9 ?_
   refine ws fun K10 hK10 => ?_
   refine ws fun K11 hK11 => ?_
   refine wr [(0, 0), (1, 0), (2, 0)] ?_
   refine gb0 [0] [(33, v1)] ?_
   obtain ⟨Z1, cz1, rfl⟩ := hS23.open 0 rfl
   refine gb0 [1, 2] [(35, vI 0), (34, vI (r3.length : Int))] ?_
   refine gn hK11 ?_
   refine we_block ?_
   have hS24 := hS23.bring 1 rfl
   rcases hq5 : iter (fixed_Assign.r1 r3) K (0, r3) with _ | (m3 | rr5)
   ·rw [hq5] at h; cases h
   ·rw [hq5] at h
    simp only [] at h
    refine we_iter (A := fixed_Assign.A1 w0 l1 A1 c1 b1 r3 Z1 cz1) (B := fixed_Assign.B1 w0 l1 A1 c1 b1 Z1 cz1) hq5 (fun a hF => ⟨hS24, hF.weaken ea⟩) (fun s o hf a w hA Q hQ => fixed_Assign_r1 K w0 l0 A0 c0 l1 A1 c1 hR0 hL0 hR1 hL1 b1 r1 b2 hc1 r3 Z1 cz1 s o hf a w hA Q hQ) ?_
    rintro _ a w11 _ ⟨rfl, hS32, hF⟩
    replace hS32 : St w0 w11 [Own.blk b1 (.cells #[vI 0, vI 0] 26 (0, 0)), Own.of (.slice Z1 m3.length cz1) 46 m3] := hS32
    refine hK10 [(1, .slice A1 l1.length c1), (5, pP b1 0), (7, (.slice Z1 m3.length cz1))] w11 ?_ a hF
    refine ws fun K16 hK16 => ?_
    refine ws fun K17 hK17 => ?_
    refine wr [(0, 0)] ?_
    refine gb0 [0] [(9, vI 1)] ?_
    refine gn hK17 ?_
    refine we_block ?_
    have hS33 := hS32.bring 1 rfl
    have hS34 := hS33.bring 1 rfl
    rcases hq10 : iter (fixed_Assign.r2 K l1 r3) K (1, m3) with _ | (m9 | rr4)
    ·rw [hq10] at h; cases h
    ·rw [hq10] at h
     simp only [] at h
     refine we_iter (A := fixed_Assign.A2 w0 l1 A1 c1 b1 Z1 cz1) (B := fixed_Assign.B2 w0 b1 Z1 cz1) hq10 (fun a hF => ⟨hS34, hF.weaken ea⟩) (fun s o hf a w hA Q hQ => fixed_Assign_r2 K w0 l0 A0 c0 l1 A1 c1 hR0 hL0 hR1 hL1 b1 r1 b2 hc1 r3 Z1 cz1 m3 s o hf a w hA Q hQ) ?_
     rintro _ a w23 _ ⟨rfl, hS94, hF⟩
     replace hS94 : St w0 w23 [Own.blk b1 (.cells #[vI 0, vI 0] 26 (0, 0)), Own.of (.slice Z1 m9.length cz1) 46 m9] := hS94
     refine hK16 [(5, pP b1 0), (7, (.slice Z1 m9.length cz1))] w23 ?_ a hF
     refine ws fun K41 hK41 => ?_
     refine wr [(0, 0), (1, 0), (2, 0), (3, 2)] ?_
     refine gb0 [0, 1, 2] [(4, (.slice Z1 m9.length cz1)), (106, .agg #[vI 0, vI 0]), (105, (.slice Z1 m9.length cz1))] ?_
     refine gs b1 0 #[vI 0, vI 0] 26 [vI 0, vI 0] hS94 fun w24 hS95 => ?_
     have hS96 : St w0 w24 [Own.blk b1 (.cells #[vI 0, vI 0] 26 (0, 0)), Own.of (.slice Z1 m9.length cz1) 46 m9] := hS95
     refine gn hK41 ?_
     have hS97 := hS96.bring 1 rfl
     have hS98 := hS97.takeN 1
     obtain rfl := si h
     exact we_ret (pr [.tmp 4, .cell 5 26] [(.slice Z1 m9.length cz1), .agg #[vI 0, vI 0]] [.loaded ⟨b1, 0, none⟩ (vI 0), .loaded ⟨b1, 1, none⟩ (vI 0)] ⟨hS96.c 0, hS96.c 0, trivial⟩ ⟨(.slice Z1 m9.length cz1), rfl, hS98⟩)
    ·rw [hq10] at h
     simp only [] at h
     refine we_iter (A := fixed_Assign.A2 w0 l1 A1 c1 b1 Z1 cz1) (B := fixed_Assign.B2 w0 b1 Z1 cz1) hq10 (fun a hF => ⟨hS34, hF.weaken ea⟩) (fun s o hf a w hA Q hQ => fixed_Assign_r2 K w0 l0 A0 c0 l1 A1 c1 hR0 hL0 hR1 hL1 b1 r1 b2 hc1 r3 Z1 cz1 m3 s o hf a w hA Q hQ) ?_
     rintro _ a w1 _ ⟨rfl, hb⟩
     obtain rfl := si h
     exact hb
   ·rw [hq5] at h
    simp only [] at h
    refine we_iter (A := fixed_Assign.A1 w0 l1 A1 c1 b1 r3 Z1 cz1) (B := fixed_Assign.B1 w0 l1 A1 c1 b1 Z1 cz1) hq5 (fun a hF => ⟨hS24, hF.weaken ea⟩) (fun s o hf a w hA Q hQ => fixed_Assign_r1 K w0 l0 A0 c0 l1 A1 c1 hR0 hL0 hR1 hL1 b1 r1 b2 hc1 r3 Z1 cz1 s o hf a w hA Q hQ) ?_
    rintro _ a w1 _ ⟨rfl, hb⟩
    obtain rfl := si h
    exact hb
  ·rw [hq3] at h
   simp only [] at h
   refine we_keep (e' := [(0, .slice A0 l0.length c0), (1, .slice A1 l1.length c1), (4, .slice none 0 0), (5, pP b1 0), (6, pP b2 0), (15, .slice A0 l0.length c0), (16, .agg #[vI r1.Code, vI r1.At]), (17, pP b2 0), (18, vI r1.Code), (19, .bool false)]) ea (fixed_Assign_p0 K w0 l0 A0 c0 l1 A1 c1 hR0 hL0 hR1 hL1 b1 r1 b2 hc1 _ hq3 _ hS6 _ ?_)
   rintro _ a w1 ⟨_, rfl, hb⟩
   obtain rfl := si h
   exact hb
 ·rw [if_neg hc1] at h
  refine wk 19 (r1.Code != 0) true (bne_iff_ne.2 hc1) ?_
  refine we_true (by kernel_rfl) ?_
  refine ws fun K42 hK42 => ?_
  refine we_draws (by kernel_rfl) [(0, 0), (1, 0), (2, 2)] (by kernel_rfl) ?_
  have hS99 := hS6.drew
  refine gb [0, 1] [(4, .slice none 0 0), (20, .agg #[vI r1.Code, vI r1.At])] [.loaded ⟨b2, 0, none⟩ (vI r1.Code), .loaded ⟨b2, 1, none⟩ (vI r1.At)] ⟨hS99.c 0, hS99.c 0, trivial⟩ ?_
  have hS100 := hS99.bring 1 rfl
  refine gs b1 0 #[vI 0, vI 0] 26 [vI r1.Code, vI r1.At] hS100 fun w25 hS101 => ?_
  have hS102 : St w0 w25 [Own.blk b1 (.cells #[vI r1.Code, vI r1.At] 26 (0, 0)), Own.blk b2 (.cells #[vI r1.Code, vI r1.At] 26 (0, 0))] := hS101
  refine gn hK42 ?_
  have hS103 := hS102.nil (α := STask) 46
  have hS104 := hS103.takeN 1
  obtain rfl := si h
  exact we_ret (pr [.tmp 4, .cell 5 26] [(.slice none 0 0), .agg #[vI r1.Code, vI r1.At]] [.loaded ⟨b1, 0, none⟩ (vI r1.Code), .loaded ⟨b1, 1, none⟩ (vI r1.At)] ⟨hS103.c 1, hS103.c 1, trivial⟩ ⟨(.slice none 0 0), rfl, hS104⟩)

/-! punctual/punctualref.CheckFixed -/
abbrev punctualref_CheckFixed.Post (w0 : World) (r : SFault) (e : Ending) (w : World) : Prop := e = .returned (.agg #[vI r.Code, vI r.At]) ∧ St w0 w []
def punctualref_CheckFixed.r0 (l0 : List STask) : Nat → Option (Nat ⊕ (Unit ⊕ SFault))
 | i1 =>
  if (i1 : Int) < (l0.length : Int) then
   match l0[i1]? with
   | none => none
   | some e1 =>
    if e1.D > e1.T then
     some (.inr (.inr (punctualref_F.f 12 (i1 : Int))))
    else
     some (.inl (i1 + 1))
  else
   some (.inr (.inl ()))
def punctualref_CheckFixed.f (K : Nat) (l0 : List STask) : Option SFault :=
 match punctualref_CheckSet.f K l0 with
 | none => none
 | some r1 =>
  if r1.Code = 0 then
   match iter (punctualref_CheckFixed.r0 l0) K 0 with
   | none => none
   | some (.inl _) =>
    some (⟨0, 0⟩ : SFault)
   | some (.inr rr1) =>
    some rr1
  else
   some r1
abbrev punctualref_CheckFixed.A0 (w0 : World) (l0 : List STask) (A0 : Option Addr) (c0 : Nat) (b1 : Nat) : Nat → Act → World → Prop := fun (s : Nat) a w => St w0 w [Own.blk b1 (.cells #[vI 0, vI 0] 26 (0, 0))] ∧ Frm 28 a [(2, pP b1 0), (12, .slice A0 l0.length c0), (13, vI (l0.length : Int)), (14, vI (s : Int))]
abbrev punctualref_CheckFixed.B0 (w0 : World) (b1 : Nat) : (Unit ⊕ SFault) → Exit → Act → World → Prop := Exits 0 (fun (s : Unit) a w => St w0 w [Own.blk b1 (.cells #[vI 0, vI 0] 26 (0, 0))] ∧ Frm 28 a [(2, pP b1 0)]) (Rets Tryd.prog Tryd.f76 (punctualref_CheckFixed.Post w0))
theorem punctualref_CheckFixed_r0 (K : Nat) (w0 : World) (l0 : List STask) (A0 : Option Addr) (c0 : Nat) (hR0 : RdL w0 A0 l0) (hL0 : l0.length ≤ c0) (b1 : Nat) (r1 : SFault) (b2 : Nat) (hc1 : r1.Code = 0) (s : Nat) (o : Nat ⊕ (Unit ⊕ SFault)) (h : punctualref_CheckFixed.r0 l0 s = some o) (a : Act) (w : World) (hA : punctualref_CheckFixed.A0 w0 l0 A0 c0 b1 s a w) (Q : Exit → Act → World → Prop) (hQ : ∀ x a w, Outs (punctualref_CheckFixed.A0 w0 l0 A0 c0 b1) (punctualref_CheckFixed.B0 w0 b1) o x a w → Q x a w) : (subF Tryd.f76 [1, 1, 0, 1, 0, 0]).wp Tryd.prog Q a w := by
 obtain ⟨i1, hs⟩ : ∃ z, z = s := ⟨s, rfl⟩
 subst hs
 obtain ⟨hS, hF⟩ := hA
 replace hS : St w0 w [Own.blk b1 (.cells #[vI 0, vI 0] 26 (0, 0))] := hS
 simp only [punctualref_CheckFixed.r0] at h
 refine (?_ : WE Tryd.prog 28 (subF Tryd.f76 [1, 1, 0, 1, 0, 0]) Q [(2, pP b1 0), (12, .slice A0 l0.length c0), (13, vI (l0.length : Int)), (14, vI (i1 : Int))] w) a hF
 clear hF a
 refine ws fun K7 hK7 => ?_
 refine wr [(0, 0)] ?_
 refine gb0 [0] [(15, .bool (decide ((i1 : Int) < (l0.length : Int))))] ?_
 refine gn hK7 ?_
 refine ws fun K8 hK8 => ?_
 by_cases hc2 : (i1 : Int) < (l0.length : Int)
 ·rw [if_pos hc2] at h
  refine wk 15 (decide ((i1 : Int) < (l0.length : Int))) true (decide_eq_true hc2) ?_
  refine we_true (by kernel_rfl) ?_
  refine we_skip fun a hF => hK8 _ _ ?_ a hF
  refine ws fun K9 hK9 => ?_
  refine we_block ?_
  refine ws fun K10 hK10 => ?_
  refine wr [(0, 0), (1, 0), (2, 0), (3, 1), (4, 0), (5, 2)] ?_
  refine gb0 [0] [(16, vI (i1 : Int))] ?_
  rcases hx3 : l0[i1]? with _ | e1
  ·rw [hx3] at h; cases h
  rw [hx3] at h
  simp only [] at h
  refine gi 17 0 40 46 7 l0.length c0 (.tmp 12) (.tmp 14) A0 .i64 (i1 : Int) i1 ((hS.rd hR0).eqSome (pos_of_get hx3)) rfl (lt_of_get hx3) ?_
  refine gb [2] [(18, .agg #[.string e1.Name, vI e1.C, vI e1.T, vI e1.D, vI e1.J, vI e1.O, vI e1.P])] [.loaded ⟨blkOf A0, offOf A0 + i1 * 7, none⟩ (.string e1.Name), .loaded ⟨blkOf A0, offOf A0 + i1 * 7 + 1, none⟩ (vI e1.C), .loaded ⟨blkOf A0, offOf A0 + i1 * 7 + 2, none⟩ (vI e1.T), .loaded ⟨blkOf A0, offOf A0 + i1 * 7 + 3, none⟩ (vI e1.D), .loaded ⟨blkOf A0, offOf A0 + i1 * 7 + 4, none⟩ (vI e1.J), .loaded ⟨blkOf A0, offOf A0 + i1 * 7 + 5, none⟩ (vI e1.O), .loaded ⟨blkOf A0, offOf A0 + i1 * 7 + 6, none⟩ (vI e1.P)] ⟨RdL.cell (j := 0) (hS.rd hR0) hx3 rfl, RdL.cell (j := 1) (hS.rd hR0) hx3 rfl, RdL.cell (j := 2) (hS.rd hR0) hx3 rfl, RdL.cell (j := 3) (hS.rd hR0) hx3 rfl, RdL.cell (j := 4) (hS.rd hR0) hx3 rfl, RdL.cell (j := 5) (hS.rd hR0) hx3 rfl, RdL.cell (j := 6) (hS.rd hR0) hx3 rfl, trivial⟩ ?_
  refine gw (some 5) (.cells #[.string (⟨#[]⟩), vI 0, vI 0, vI 0, vI 0, vI 0, vI 0] 46) (fun b => pP b 0) hS fun b3 w5 hx4 hS9 => ?_
  refine gb0 [4] [(4, vI (i1 : Int))] ?_
  refine gs b3 0 #[.string (⟨#[]⟩), vI 0, vI 0, vI 0, vI 0, vI 0, vI 0] 46 [.string e1.Name, vI e1.C, vI e1.T, vI e1.D, vI e1.J, vI e1.O, vI e1.P] hS9 fun w6 hS10 => ?_
  have hS11 : St w0 w6 [Own.blk b3 (.cells #[.string e1.Name, vI e1.C, vI e1.T, vI e1.D, vI e1.J, vI e1.O, vI e1.P] 46 (0, 0)), Own.blk b1 (.cells #[vI 0, vI 0] 26 (0, 0))] := hS10
  refine gn hK10 ?_
  refine ws fun K11 hK11 => ?_
  refine wr [(0, 0), (1, 0), (2, 0), (3, 0), (4, 0)] ?_
  refine gb [0, 1, 2, 3, 4] [(23, .bool (decide (e1.D > e1.T))), (22, vI e1.T), (21, pP b3 2), (20, vI e1.D), (19, pP b3 3)] [.loaded ⟨b3, 3, none⟩ (vI e1.D), .loaded ⟨b3, 2, none⟩ (vI e1.T)] ⟨hS11.c 0, hS11.c 0, trivial⟩ ?_
  refine gn hK11 ?_
  by_cases hc3 : e1.D > e1.T
  ·rw [if_pos hc3] at h
   refine wk 23 (decide (e1.D > e1.T)) true (decide_eq_true hc3) ?_
   refine we_true (by kernel_rfl) ?_
   refine ws fun K12 hK12 => ?_
   refine wr [(0, 0), (1, 1), (2, 2)] ?_
   refine gb0 [0] [(24, vI (i1 : Int))] ?_
   refine ge_call (d := some 25) (f := 21) (args := #[vI 12, vI (i1 : Int)]) (by kernel_rfl) (punctualref_F_ok 12 (i1 : Int) _ _ rfl) ?_
   rintro _ w7 ⟨rfl, hS12⟩
   refine ⟨_, rfl, hS12.below, ?_⟩
   have hS13 := hS11.call hS12
   have hS14 := hS13.bring 1 rfl
   refine gs b1 0 #[vI 0, vI 0] 26 [vI ((punctualref_F.f 12 (i1 : Int)).Code), vI ((punctualref_F.f 12 (i1 : Int)).At)] hS14 fun w8 hS15 => ?_
   have hS16 : St w0 w8 [Own.blk b1 (.cells #[vI ((punctualref_F.f 12 (i1 : Int)).Code), vI ((punctualref_F.f 12 (i1 : Int)).At)] 26 (0, 0)), Own.blk b3 (.cells #[.string e1.Name, vI e1.C, vI e1.T, vI e1.D, vI e1.J, vI e1.O, vI e1.P] 46 (0, 0))] := hS15
   refine gn hK12 ?_
   have hS17 := hS16.takeN 0
   obtain rfl := si h
   exact we_ret fun a hF => hQ _ _ _ (Outs.out nofun (Exits.on ⟨rfl, (pr [.cell 2 26] [.agg #[vI ((punctualref_F.f 12 (i1 : Int)).Code), vI ((punctualref_F.f 12 (i1 : Int)).At)]] [.loaded ⟨b1, 0, none⟩ (vI ((punctualref_F.f 12 (i1 : Int)).Code)), .loaded ⟨b1, 1, none⟩ (vI ((punctualref_F.f 12 (i1 : Int)).At))] ⟨hS16.c 0, hS16.c 0, trivial⟩ ⟨rfl, hS17⟩) a hF⟩))
  ·rw [if_neg hc3] at h
   refine wk 23 (decide (e1.D > e1.T)) false (decide_eq_false hc3) ?_
   refine we_false (by kernel_rfl) ?_
   refine we_skip fun a hF => hK9 _ _ ?_ a hF
   refine wr [(0, 0), (1, 0)] ?_
   refine ge_addn (d := 26) (ty := 3) (x := (.tmp 14)) (y := (.const (vI 1))) (t := 3) (t2 := 3) (k := .i64) (m := i1) (by kernel_rfl) (by kernel_rfl) (by kernel_rfl) (by have h0 := hR0.small; omega) ?_
   refine gb0 [1] [(14, vI ((i1 + 1 : Nat) : Int))] ?_
   have hS18 := hS11.bring 1 rfl
   have hS19 := hS18.takeN 1
   obtain rfl := si h
   exact ge_nil fun a hF => hQ _ _ _ (Outs.again ⟨hS19, hF.weaken ea⟩)
 ·rw [if_neg hc2] at h
  refine wk 15 (decide ((i1 : Int) < (l0.length : Int))) false (decide_eq_false hc2) ?_
  refine we_false (by kernel_rfl) ?_
  obtain rfl := si h
  exact we_exit fun a hF => hQ _ _ _ (Outs.out nofun (Exits.here ⟨hS, hF.weaken ea⟩))
theorem punctualref_CheckFixed_ok (K : Nat) (l0 : List STask) (A0 : Option Addr) (c0 : Nat) (w0 : World) (hR0 : RdL w0 A0 l0) (hL0 : l0.length ≤ c0) (r : SFault) (h : punctualref_CheckFixed.f K l0 = some r) :
  Calls Tryd.prog 76 #[.slice A0 l0.length c0] w0 (punctualref_CheckFixed.Post w0 r) := by
 have hS := St.start w0
 unfold punctualref_CheckFixed.f at h
 refine calls_enter (n := 28) (args := [.slice A0 l0.length c0]) (fn := Tryd.f76) rfl rfl rfl rfl ?_
 show WE _ _ _ _ [(0, .slice A0 l0.length c0)] _
 refine ws fun K1 hK1 => ?_
 refine wr [(0, 1)] ?_
 refine gw (some 2) (.cells #[vI 0, vI 0] 26) (fun b => pP b 0) hS fun b1 w1 hx1 hS1 => ?_
 refine gn hK1 ?_
 refine ws fun K2 hK2 => ?_
 refine ws fun K3 hK3 => ?_
 refine wr [(0, 0), (1, 1), (2, 1), (3, 2)] ?_
 rcases hq1 : punctualref_CheckSet.f K l0 with _ | r1
 ·rw [hq1] at h; cases h
 rw [hq1] at h
 simp only [] at h
 refine gb0 [0] [(6, .slice A0 l0.length c0)] ?_
 refine ge_call (d := some 7) (f := 23) (args := #[.slice A0 l0.length c0]) (by kernel_rfl) (punctualref_CheckSet_ok K l0 A0 c0 _ (hS1.rd hR0) hL0 _ hq1) ?_
 rintro _ w2 ⟨rfl, hS2⟩
 refine ⟨_, rfl, hS2.below, ?_⟩
 have hS3 := hS1.call hS2
 refine gw (some 3) (.cells #[vI 0, vI 0] 26) (fun b => pP b 0) hS3 fun b2 w3 hx2 hS4 => ?_
 refine gs b2 0 #[vI 0, vI 0] 26 [vI r1.Code, vI r1.At] hS4 fun w4 hS5 => ?_
 have hS6 : St w0 w4 [Own.blk b2 (.cells #[vI r1.Code, vI r1.At] 26 (0, 0)), Own.blk b1 (.cells #[vI 0, vI 0] 26 (0, 0))] := hS5
 refine gn hK3 ?_
 refine ws fun K4 hK4 => ?_
 refine wr [(0, 0), (1, 0), (2, 0)] ?_
 refine gb [0, 1, 2] [(10, .bool (r1.Code != 0)), (9, vI r1.Code), (8, pP b2 0)] [.loaded ⟨b2, 0, none⟩ (vI r1.Code)] ⟨hS6.c 0, trivial⟩ ?_
 refine gn hK4 ?_
 by_cases hc1 : r1.Code = 0
 ·rw [if_pos hc1] at h
  refine wk 10 (r1.Code != 0) false (bne_eq_false_iff_eq.2 hc1) ?_
  refine we_false (by kernel_rfl) ?_
  refine we_skip fun a hF => hK2 _ _ ?_ a hF
  refine ws fun K5 hK5 => ?_
  refine ws fun K6 hK6 => ?_
  refine wr [(0, 0), (1, 0), (2, 0)] ?_
  refine gb0 [0, 1, 2] [(14, vI 0), (13, vI (l0.length : Int)), (12, .slice A0 l0.length c0)] ?_
  refine gn hK6 ?_
  refine we_block ?_
  have hS7 := hS6.bring 1 rfl
  have hS8 := hS7.takeN 1
  rcases hq3 : iter (punctualref_CheckFixed.r0 l0) K 0 with _ | (_ | rr1)
  ·rw [hq3] at h; cases h
  ·rw [hq3] at h
   simp only [] at h
   refine we_iter (A := punctualref_CheckFixed.A0 w0 l0 A0 c0 b1) (B := punctualref_CheckFixed.B0 w0 b1) hq3 (fun a hF => ⟨hS8, hF.weaken ea⟩) (fun s o hf a w hA Q hQ => punctualref_CheckFixed_r0 K w0 l0 A0 c0 hR0 hL0 b1 r1 b2 hc1 s o hf a w hA Q hQ) ?_
   rintro _ a w9 _ ⟨rfl, hS20, hF⟩
   replace hS20 : St w0 w9 [Own.blk b1 (.cells #[vI 0, vI 0] 26 (0, 0))] := hS20
   refine hK5 [(2, pP b1 0)] w9 ?_ a hF
   refine ws fun K13 hK13 => ?_
   refine wr [(0, 0), (1, 2)] ?_
   refine gb0 [0] [(27, .agg #[vI 0, vI 0])] ?_
   refine gs b1 0 #[vI 0, vI 0] 26 [vI 0, vI 0] hS20 fun w10 hS21 => ?_
   have hS22 : St w0 w10 [Own.blk b1 (.cells #[vI 0, vI 0] 26 (0, 0))] := hS21
   refine gn hK13 ?_
   have hS23 := hS22.takeN 0
   obtain rfl := si h
   exact we_ret (pr [.cell 2 26] [.agg #[vI 0, vI 0]] [.loaded ⟨b1, 0, none⟩ (vI 0), .loaded ⟨b1, 1, none⟩ (vI 0)] ⟨hS22.c 0, hS22.c 0, trivial⟩ ⟨rfl, hS23⟩)
  ·rw [hq3] at h
   simp only [] at h
   refine we_iter (A := punctualref_CheckFixed.A0 w0 l0 A0 c0 b1) (B := punctualref_CheckFixed.B0 w0 b1) hq3 (fun a hF => ⟨hS8, hF.weaken ea⟩) (fun s o hf a w hA Q hQ => punctualref_CheckFixed_r0 K w0 l0 A0 c0 hR0 hL0 b1 r1 b2 hc1 s o hf a w hA Q hQ) ?_
   rintro _ a w1 _ ⟨rfl, hb⟩
   obtain rfl := si h
   exact hb
 ·rw [if_neg hc1] at h
  refine wk 10 (r1.Code != 0) true (bne_iff_ne.2 hc1) ?_
  refine we_true (by kernel_rfl) ?_
  refine ws fun K14 hK14 => ?_
  refine wr [(0, 0), (1, 2)] ?_
  refine gb [0] [(11, .agg #[vI r1.Code, vI r1.At])] [.loaded ⟨b2, 0, none⟩ (vI r1.Code), .loaded ⟨b2, 1, none⟩ (vI r1.At)] ⟨hS6.c 0, hS6.c 0, trivial⟩ ?_
  have hS24 := hS6.bring 1 rfl
  refine gs b1 0 #[vI 0, vI 0] 26 [vI r1.Code, vI r1.At] hS24 fun w11 hS25 => ?_
  have hS26 : St w0 w11 [Own.blk b1 (.cells #[vI r1.Code, vI r1.At] 26 (0, 0)), Own.blk b2 (.cells #[vI r1.Code, vI r1.At] 26 (0, 0))] := hS25
  refine gn hK14 ?_
  have hS27 := hS26.takeN 0
  obtain rfl := si h
  exact we_ret (pr [.cell 2 26] [.agg #[vI r1.Code, vI r1.At]] [.loaded ⟨b1, 0, none⟩ (vI r1.Code), .loaded ⟨b1, 1, none⟩ (vI r1.At)] ⟨hS26.c 0, hS26.c 0, trivial⟩ ⟨rfl, hS27⟩)

/-! punctual/punctualref.up -/
abbrev punctualref_up.Post (w0 : World) (r : Int) (e : Ending) (w : World) : Prop := e = .returned (vI r) ∧ St w0 w []
def punctualref_up.f (x0 : Int) (x1 : Int) : Option Int :=
 if x1 = 0 then
  none
 else
  if (IntKind.i64.wrap ((IntKind.i64.wrap (Int.tdiv x0 x1)) * x1)) < x0 then
   some (IntKind.i64.wrap ((IntKind.i64.wrap (Int.tdiv x0 x1)) + 1))
  else
   some (IntKind.i64.wrap (Int.tdiv x0 x1))
theorem punctualref_up_ok (x0 : Int) (x1 : Int) (w0 : World) (r : Int) (h : punctualref_up.f x0 x1 = some r) :
  Calls Tryd.prog 97 #[vI x0, vI x1] w0 (punctualref_up.Post w0 r) := by
 have hS := St.start w0
 unfold punctualref_up.f at h
 refine calls_enter (n := 17) (args := [vI x0, vI x1]) (fn := Tryd.f97) rfl rfl rfl rfl ?_
 show WE _ _ _ _ [(0, vI x0), (1, vI x1)] _
 refine ws fun K1 hK1 => ?_
 refine wr [(0, 0)] ?_
 refine gb0 [0] [(4, vI 0)] ?_
 refine gn hK1 ?_
 refine ws fun K2 hK2 => ?_
 refine wr [(0, 0), (1, 0), (2, 0), (3, 0)] ?_
 refine gb0 [0, 1] [(7, vI x1), (6, vI x0)] ?_
 by_cases hc1 : x1 = 0
 ·rw [if_pos hc1] at h
  cases h
 ·rw [if_neg hc1] at h
  refine ge_div (d := 8) (ty := 3) (op := .quo) (x := (.tmp 6)) (y := (.tmp 7)) (t := 3) (t2 := 3) (k := .i64) (p := x0) (q := x1) (v := vI (IntKind.i64.wrap (Int.tdiv x0 x1))) (by kernel_rfl) (by kernel_rfl) (by kernel_rfl) hc1 rfl ?_
  refine gb0 [3] [(5, vI (IntKind.i64.wrap (Int.tdiv x0 x1)))] ?_
  refine gn hK2 ?_
  refine ws fun K3 hK3 => ?_
  refine ws fun K4 hK4 => ?_
  refine wr [(0, 0), (1, 0), (2, 0), (3, 0), (4, 0)] ?_
  refine gb0 [0, 1, 2, 3, 4] [(13, .bool (decide ((IntKind.i64.wrap ((IntKind.i64.wrap (Int.tdiv x0 x1)) * x1)) < x0))), (12, vI x0), (11, vI (IntKind.i64.wrap ((IntKind.i64.wrap (Int.tdiv x0 x1)) * x1))), (10, vI x1), (9, vI (IntKind.i64.wrap (Int.tdiv x0 x1)))] ?_
  refine gn hK4 ?_
  by_cases hc2 : (IntKind.i64.wrap ((IntKind.i64.wrap (Int.tdiv x0 x1)) * x1)) < x0
  ·rw [if_pos hc2] at h
   refine wk 13 (decide ((IntKind.i64.wrap ((IntKind.i64.wrap (Int.tdiv x0 x1)) * x1)) < x0)) true (decide_eq_true hc2) ?_
   refine we_true (by kernel_rfl) ?_
   refine wr [(0, 0), (1, 0), (2, 0)] ?_
   refine gb0 [0, 1, 2] [(5, vI (IntKind.i64.wrap ((IntKind.i64.wrap (Int.tdiv x0 x1)) + 1))), (15, vI (IntKind.i64.wrap ((IntKind.i64.wrap (Int.tdiv x0 x1)) + 1))), (14, vI (IntKind.i64.wrap (Int.tdiv x0 x1)))] ?_
   refine gn hK3 ?_
   refine ws fun K5 hK5 => ?_
   refine wr [(0, 0), (1, 0)] ?_
   refine gb0 [0, 1] [(4, vI (IntKind.i64.wrap ((IntKind.i64.wrap (Int.tdiv x0 x1)) + 1))), (16, vI (IntKind.i64.wrap ((IntKind.i64.wrap (Int.tdiv x0 x1)) + 1)))] ?_
   refine gn hK5 ?_
   obtain rfl := si h
   exact we_ret (pr0 [.tmp 4] [vI (IntKind.i64.wrap ((IntKind.i64.wrap (Int.tdiv x0 x1)) + 1))] ⟨rfl, hS⟩)
  ·rw [if_neg hc2] at h
   refine wk 13 (decide ((IntKind.i64.wrap ((IntKind.i64.wrap (Int.tdiv x0 x1)) * x1)) < x0)) false (decide_eq_false hc2) ?_
   refine we_false (by kernel_rfl) ?_
   refine we_skip fun a hF => hK3 _ _ ?_ a hF
   refine ws fun K6 hK6 => ?_
   refine wr [(0, 0), (1, 0)] ?_
   refine gb0 [0, 1] [(4, vI (IntKind.i64.wrap (Int.tdiv x0 x1))), (16, vI (IntKind.i64.wrap (Int.tdiv x0 x1)))] ?_
   refine gn hK6 ?_
   obtain rfl := si h
   exact we_ret (pr0 [.tmp 4] [vI (IntKind.i64.wrap (Int.tdiv x0 x1))] ⟨rfl, hS⟩)

/-! punctual/punctualref.AtWorst -/
abbrev punctualref_AtWorst.Post (w0 : World) (r : Int) (e : Ending) (w : World) : Prop := e = .returned (vI r) ∧ St w0 w []
def punctualref_AtWorst.r1 (l1 : List STask) (z1 : Int) : Int × Nat → Option ((Int × Nat) ⊕ (Int ⊕ Int))
 | (z2, i1) =>
  if (i1 : Int) < (l1.length : Int) then
   match l1[i1]? with
   | none => none
   | some e1 =>
    match punctualref_up.f (IntKind.i64.wrap (z1 + e1.J)) e1.T with
    | none => none
    | some r1 =>
     some (.inl (IntKind.i64.wrap (z2 + (IntKind.i64.wrap (r1 * e1.C))), (i1 + 1)))
  else
   some (.inr (.inl z2))
def punctualref_AtWorst.r0 (K : Nat) (x0 : STask) (l1 : List STask) (x2 : Int) : Int → Option (Int ⊕ (Unit ⊕ Int))
 | z1 =>
  if (IntKind.i64.wrap (z1 + x0.J)) ≤ x0.D then
   match iter (punctualref_AtWorst.r1 l1 z1) K (IntKind.i64.wrap (x0.C + x2), 0) with
   | none => none
   | some (.inl z4) =>
    if z4 = z1 then
     some (.inr (.inr (IntKind.i64.wrap (z1 + x0.J))))
    else
     some (.inl (IntKind.i64.wrap (z1 + 1)))
   | some (.inr rr1) =>
    some (.inr (.inr rr1))
  else
   some (.inr (.inl ()))
def punctualref_AtWorst.f (K : Nat) (x0 : STask) (l1 : List STask) (x2 : Int) : Option Int :=
 match iter (punctualref_AtWorst.r0 K x0 l1 x2) K 1 with
 | none => none
 | some (.inl _) =>
  some 0
 | some (.inr rr2) =>
  some rr2
abbrev punctualref_AtWorst.A1 (w0 : World) (x0 : STask) (l1 : List STask) (A1 : Option Addr) (c1 : Nat) (x2 : Int) (b1 : Nat) (z1 : Int) : (Int × Nat) → Act → World → Prop := fun (s : Int × Nat) a w => St w0 w [Own.blk b1 (.cells #[.string x0.Name, vI x0.C, vI x0.T, vI x0.D, vI x0.J, vI x0.O, vI x0.P] 46 (0, 0))] ∧ Frm 50 a [(1, .slice A1 l1.length c1), (2, vI x2), (3, pP b1 0), (7, vI z1), (8, vI s.1), (24, .slice A1 l1.length c1), (25, vI (l1.length : Int)), (26, vI (s.2 : Int))]
abbrev punctualref_AtWorst.B1 (w0 : World) (x0 : STask) (l1 : List STask) (A1 : Option Addr) (c1 : Nat) (x2 : Int) (b1 : Nat) (z1 : Int) : (Int ⊕ Int) → Exit → Act → World → Prop := Exits 2 (fun (s : Int) a w => St w0 w [Own.blk b1 (.cells #[.string x0.Name, vI x0.C, vI x0.T, vI x0.D, vI x0.J, vI x0.O, vI x0.P] 46 (0, 0))] ∧ Frm 50 a [(1, .slice A1 l1.length c1), (2, vI x2), (3, pP b1 0), (7, vI z1), (8, vI s)]) (Rets Tryd.prog Tryd.f77 (punctualref_AtWorst.Post w0))
theorem punctualref_AtWorst_r1 (K : Nat) (w0 : World) (x0 : STask) (l1 : List STask) (A1 : Option Addr) (c1 : Nat) (x2 : Int) (hR1 : RdL w0 A1 l1) (hL1 : l1.length ≤ c1) (b1 : Nat) (z1 : Int) (hc1 : (IntKind.i64.wrap (z1 + x0.J)) ≤ x0.D) (s : Int × Nat) (o : (Int × Nat) ⊕ (Int ⊕ Int)) (h : punctualref_AtWorst.r1 l1 z1 s = some o) (a : Act) (w : World) (hA : punctualref_AtWorst.A1 w0 x0 l1 A1 c1 x2 b1 z1 s a w) (Q : Exit → Act → World → Prop) (hQ : ∀ x a w, Outs (punctualref_AtWorst.A1 w0 x0 l1 A1 c1 x2 b1 z1) (punctualref_AtWorst.B1 w0 x0 l1 A1 c1 x2 b1 z1) o x a w → Q x a w) : (subF Tryd.f77 [1, 0, 1, 0, 0, 1, 0, 0, 1, 0, 1, 0, 0]).wp Tryd.prog Q a w := by
 obtain ⟨z2, i1⟩ := s
 obtain ⟨hS, hF⟩ := hA
 replace hS : St w0 w [Own.blk b1 (.cells #[.string x0.Name, vI x0.C, vI x0.T, vI x0.D, vI x0.J, vI x0.O, vI x0.P] 46 (0, 0))] := hS
 simp only [punctualref_AtWorst.r1] at h
 refine (?_ : WE Tryd.prog 50 (subF Tryd.f77 [1, 0, 1, 0, 0, 1, 0, 0, 1, 0, 1, 0, 0]) Q [(1, .slice A1 l1.length c1), (2, vI x2), (3, pP b1 0), (7, vI z1), (8, vI z2), (24, .slice A1 l1.length c1), (25, vI (l1.length : Int)), (26, vI (i1 : Int))] w) a hF
 clear hF a
 refine ws fun K10 hK10 => ?_
 refine wr [(0, 0)] ?_
 refine gb0 [0] [(27, .bool (decide ((i1 : Int) < (l1.length : Int))))] ?_
 refine gn hK10 ?_
 refine ws fun K11 hK11 => ?_
 by_cases hc2 : (i1 : Int) < (l1.length : Int)
 ·rw [if_pos hc2] at h
  refine wk 27 (decide ((i1 : Int) < (l1.length : Int))) true (decide_eq_true hc2) ?_
  refine we_true (by kernel_rfl) ?_
  refine we_skip fun a hF => hK11 _ _ ?_ a hF
  refine ws fun K12 hK12 => ?_
  refine we_block ?_
  refine ws fun K13 hK13 => ?_
  refine wr [(0, 0), (1, 0), (2, 1), (3, 2)] ?_
  rcases hx2 : l1[i1]? with _ | e1
  ·rw [hx2] at h; cases h
  rw [hx2] at h
  simp only [] at h
  refine gi 28 0 40 46 7 l1.length c1 (.tmp 24) (.tmp 26) A1 .i64 (i1 : Int) i1 ((hS.rd hR1).eqSome (pos_of_get hx2)) rfl (lt_of_get hx2) ?_
  refine gb [1] [(29, .agg #[.string e1.Name, vI e1.C, vI e1.T, vI e1.D, vI e1.J, vI e1.O, vI e1.P])] [.loaded ⟨blkOf A1, offOf A1 + i1 * 7, none⟩ (.string e1.Name), .loaded ⟨blkOf A1, offOf A1 + i1 * 7 + 1, none⟩ (vI e1.C), .loaded ⟨blkOf A1, offOf A1 + i1 * 7 + 2, none⟩ (vI e1.T), .loaded ⟨blkOf A1, offOf A1 + i1 * 7 + 3, none⟩ (vI e1.D), .loaded ⟨blkOf A1, offOf A1 + i1 * 7 + 4, none⟩ (vI e1.J), .loaded ⟨blkOf A1, offOf A1 + i1 * 7 + 5, none⟩ (vI e1.O), .loaded ⟨blkOf A1, offOf A1 + i1 * 7 + 6, none⟩ (vI e1.P)] ⟨RdL.cell (j := 0) (hS.rd hR1) hx2 rfl, RdL.cell (j := 1) (hS.rd hR1) hx2 rfl, RdL.cell (j := 2) (hS.rd hR1) hx2 rfl, RdL.cell (j := 3) (hS.rd hR1) hx2 rfl, RdL.cell (j := 4) (hS.rd hR1) hx2 rfl, RdL.cell (j := 5) (hS.rd hR1) hx2 rfl, RdL.cell (j := 6) (hS.rd hR1) hx2 rfl, trivial⟩ ?_
  refine gw (some 10) (.cells #[.string (⟨#[]⟩), vI 0, vI 0, vI 0, vI 0, vI 0, vI 0] 46) (fun b => pP b 0) hS fun b2 w2 hx3 hS2 => ?_
  refine gs b2 0 #[.string (⟨#[]⟩), vI 0, vI 0, vI 0, vI 0, vI 0, vI 0] 46 [.string e1.Name, vI e1.C, vI e1.T, vI e1.D, vI e1.J, vI e1.O, vI e1.P] hS2 fun w3 hS3 => ?_
  have hS4 : St w0 w3 [Own.blk b2 (.cells #[.string e1.Name, vI e1.C, vI e1.T, vI e1.D, vI e1.J, vI e1.O, vI e1.P] 46 (0, 0)), Own.blk b1 (.cells #[.string x0.Name, vI x0.C, vI x0.T, vI x0.D, vI x0.J, vI x0.O, vI x0.P] 46 (0, 0))] := hS3
  refine gn hK13 ?_
  refine we_draws (by kernel_rfl) [(0, 0), (1, 0), (2, 0), (3, 0), (4, 0), (5, 0), (6, 0), (8, 0), (9, 0), (7, 1), (10, 0), (11, 0), (12, 0)] (by kernel_rfl) ?_
  have hS5 := hS4.drew
  rcases hq1 : punctualref_up.f (IntKind.i64.wrap (z1 + e1.J)) e1.T with _ | r1
  ·rw [hq1] at h; cases h
  rw [hq1] at h
  simp only [] at h
  refine gb [0, 1, 2, 3, 4, 5, 6, 8, 9] [(39, vI e1.C), (38, pP b2 1), (36, vI e1.T), (35, pP b2 2), (34, vI (IntKind.i64.wrap (z1 + e1.J))), (33, vI e1.J), (32, pP b2 4), (31, vI z1), (30, vI z2)] [.loaded ⟨b2, 4, none⟩ (vI e1.J), .loaded ⟨b2, 2, none⟩ (vI e1.T), .loaded ⟨b2, 1, none⟩ (vI e1.C)] ⟨hS5.c 0, hS5.c 0, hS5.c 0, trivial⟩ ?_
  refine ge_call (d := some 37) (f := 97) (args := #[vI (IntKind.i64.wrap (z1 + e1.J)), vI e1.T]) (by kernel_rfl) (punctualref_up_ok (IntKind.i64.wrap (z1 + e1.J)) e1.T _ _ hq1) ?_
  rintro _ w4 ⟨rfl, hS6⟩
  refine ⟨_, rfl, hS6.below, ?_⟩
  have hS7 := hS5.call hS6
  refine gb0 [10, 11, 12] [(8, vI (IntKind.i64.wrap (z2 + (IntKind.i64.wrap (r1 * e1.C))))), (41, vI (IntKind.i64.wrap (z2 + (IntKind.i64.wrap (r1 * e1.C))))), (40, vI (IntKind.i64.wrap (r1 * e1.C)))] ?_
  refine gn hK12 ?_
  refine wr [(0, 0), (1, 0)] ?_
  refine ge_addn (d := 42) (ty := 3) (x := (.tmp 26)) (y := (.const (vI 1))) (t := 3) (t2 := 3) (k := .i64) (m := i1) (by kernel_rfl) (by kernel_rfl) (by kernel_rfl) (by have h0 := hR1.small; omega) ?_
  refine gb0 [1] [(26, vI ((i1 + 1 : Nat) : Int))] ?_
  have hS8 := hS7.bring 1 rfl
  have hS9 := hS8.takeN 1
  obtain rfl := si h
  exact ge_nil fun a hF => hQ _ _ _ (Outs.again ⟨hS9, hF.weaken ea⟩)
 ·rw [if_neg hc2] at h
  refine wk 27 (decide ((i1 : Int) < (l1.length : Int))) false (decide_eq_false hc2) ?_
  refine we_false (by kernel_rfl) ?_
  obtain rfl := si h
  exact we_exit fun a hF => hQ _ _ _ (Outs.out nofun (Exits.here ⟨hS, hF.weaken ea⟩))
abbrev punctualref_AtWorst.A0 (w0 : World) (x0 : STask) (l1 : List STask) (A1 : Option Addr) (c1 : Nat) (x2 : Int) (b1 : Nat) : Int → Act → World → Prop := fun (s : Int) a w => St w0 w [Own.blk b1 (.cells #[.string x0.Name, vI x0.C, vI x0.T, vI x0.D, vI x0.J, vI x0.O, vI x0.P] 46 (0, 0))] ∧ Frm 50 a [(1, .slice A1 l1.length c1), (2, vI x2), (3, pP b1 0), (7, vI s)]
abbrev punctualref_AtWorst.B0 (w0 : World) : (Unit ⊕ Int) → Exit → Act → World → Prop := Exits 0 (fun (s : Unit) a w => St w0 w [] ∧ Frm 50 a []) (Rets Tryd.prog Tryd.f77 (punctualref_AtWorst.Post w0))
theorem punctualref_AtWorst_r0 (K : Nat) (w0 : World) (x0 : STask) (l1 : List STask) (A1 : Option Addr) (c1 : Nat) (x2 : Int) (hR1 : RdL w0 A1 l1) (hL1 : l1.length ≤ c1) (b1 : Nat) (s : Int) (o : Int ⊕ (Unit ⊕ Int)) (h : punctualref_AtWorst.r0 K x0 l1 x2 s = some o) (a : Act) (w : World) (hA : punctualref_AtWorst.A0 w0 x0 l1 A1 c1 x2 b1 s a w) (Q : Exit → Act → World → Prop) (hQ : ∀ x a w, Outs (punctualref_AtWorst.A0 w0 x0 l1 A1 c1 x2 b1) (punctualref_AtWorst.B0 w0) o x a w → Q x a w) : (subF Tryd.f77 [1, 0, 1, 0, 0]).wp Tryd.prog Q a w := by
 obtain ⟨z1, hs⟩ : ∃ z, z = s := ⟨s, rfl⟩
 subst hs
 obtain ⟨hS, hF⟩ := hA
 replace hS : St w0 w [Own.blk b1 (.cells #[.string x0.Name, vI x0.C, vI x0.T, vI x0.D, vI x0.J, vI x0.O, vI x0.P] 46 (0, 0))] := hS
 simp only [punctualref_AtWorst.r0] at h
 refine (?_ : WE Tryd.prog 50 (subF Tryd.f77 [1, 0, 1, 0, 0]) Q [(1, .slice A1 l1.length c1), (2, vI x2), (3, pP b1 0), (7, vI z1)] w) a hF
 clear hF a
 refine ws fun K4 hK4 => ?_
 refine ws fun K5 hK5 => ?_
 refine wr [(0, 0), (1, 0), (2, 0), (3, 0), (4, 0), (5, 0), (6, 0)] ?_
 refine gb [0, 1, 2, 3, 4, 5, 6] [(17, .bool (decide ((IntKind.i64.wrap (z1 + x0.J)) ≤ x0.D))), (16, vI x0.D), (15, pP b1 3), (14, vI (IntKind.i64.wrap (z1 + x0.J))), (13, vI x0.J), (12, pP b1 4), (11, vI z1)] [.loaded ⟨b1, 4, none⟩ (vI x0.J), .loaded ⟨b1, 3, none⟩ (vI x0.D)] ⟨hS.c 0, hS.c 0, trivial⟩ ?_
 refine gn hK5 ?_
 by_cases hc1 : (IntKind.i64.wrap (z1 + x0.J)) ≤ x0.D
 ·rw [if_pos hc1] at h
  refine wk 17 (decide ((IntKind.i64.wrap (z1 + x0.J)) ≤ x0.D)) true (decide_eq_true hc1) ?_
  refine we_true (by kernel_rfl) ?_
  refine we_skip fun a hF => hK4 _ _ ?_ a hF
  refine ws fun K6 hK6 => ?_
  refine we_block ?_
  refine ws fun K7 hK7 => ?_
  refine wr [(0, 0), (1, 0), (2, 0), (3, 0), (4, 0)] ?_
  refine gb [0, 1, 2, 3, 4] [(8, vI (IntKind.i64.wrap (x0.C + x2))), (23, vI (IntKind.i64.wrap (x0.C + x2))), (22, vI x2), (21, vI x0.C), (20, pP b1 1)] [.loaded ⟨b1, 1, none⟩ (vI x0.C)] ⟨hS.c 0, trivial⟩ ?_
  refine gn hK7 ?_
  refine ws fun K8 hK8 => ?_
  refine ws fun K9 hK9 => ?_
  refine wr [(0, 0), (1, 0), (2, 0)] ?_
  refine gb0 [0, 1, 2] [(26, vI 0), (25, vI (l1.length : Int)), (24, .slice A1 l1.length c1)] ?_
  refine gn hK9 ?_
  refine we_block ?_
  rcases hq2 : iter (punctualref_AtWorst.r1 l1 z1) K (IntKind.i64.wrap (x0.C + x2), 0) with _ | (z4 | rr1)
  ·rw [hq2] at h; cases h
  ·rw [hq2] at h
   simp only [] at h
   refine we_iter (A := punctualref_AtWorst.A1 w0 x0 l1 A1 c1 x2 b1 z1) (B := punctualref_AtWorst.B1 w0 x0 l1 A1 c1 x2 b1 z1) hq2 (fun a hF => ⟨hS, hF.weaken ea⟩) (fun s o hf a w hA Q hQ => punctualref_AtWorst_r1 K w0 x0 l1 A1 c1 x2 hR1 hL1 b1 z1 hc1 s o hf a w hA Q hQ) ?_
   rintro _ a w5 _ ⟨rfl, hS10, hF⟩
   replace hS10 : St w0 w5 [Own.blk b1 (.cells #[.string x0.Name, vI x0.C, vI x0.T, vI x0.D, vI x0.J, vI x0.O, vI x0.P] 46 (0, 0))] := hS10
   refine hK8 [(1, .slice A1 l1.length c1), (2, vI x2), (3, pP b1 0), (7, vI z1), (8, vI z4)] w5 ?_ a hF
   refine ws fun K14 hK14 => ?_
   refine wr [(0, 0), (1, 0), (2, 0)] ?_
   refine gb0 [0, 1, 2] [(45, .bool (z4 == z1)), (44, vI z1), (43, vI z4)] ?_
   refine gn hK14 ?_
   by_cases hc3 : z4 = z1
   ·rw [if_pos hc3] at h
    refine wk 45 (z4 == z1) true (beq_iff_eq.2 hc3) ?_
    refine we_true (by kernel_rfl) ?_
    refine ws fun K15 hK15 => ?_
    refine wr [(0, 0), (1, 0), (2, 0), (3, 0), (4, 0)] ?_
    refine gb [0, 1, 2, 3, 4] [(6, vI (IntKind.i64.wrap (z1 + x0.J))), (49, vI (IntKind.i64.wrap (z1 + x0.J))), (48, vI x0.J), (47, pP b1 4), (46, vI z1)] [.loaded ⟨b1, 4, none⟩ (vI x0.J)] ⟨hS10.c 0, trivial⟩ ?_
    refine gn hK15 ?_
    have hS11 := hS10.takeN 0
    obtain rfl := si h
    exact we_ret fun a hF => hQ _ _ _ (Outs.out nofun (Exits.on ⟨rfl, (pr0 [.tmp 6] [vI (IntKind.i64.wrap (z1 + x0.J))] ⟨rfl, hS11⟩) a hF⟩))
   ·rw [if_neg hc3] at h
    refine wk 45 (z4 == z1) false (beq_eq_false_iff_ne.2 hc3) ?_
    refine we_false (by kernel_rfl) ?_
    refine we_skip fun a hF => hK6 _ _ ?_ a hF
    refine wr [(0, 0), (1, 0), (2, 0)] ?_
    refine gb0 [0, 1, 2] [(7, vI (IntKind.i64.wrap (z1 + 1))), (19, vI (IntKind.i64.wrap (z1 + 1))), (18, vI z1)] ?_
    obtain rfl := si h
    exact ge_nil fun a hF => hQ _ _ _ (Outs.again ⟨hS10, hF.weaken ea⟩)
  ·rw [hq2] at h
   simp only [] at h
   refine we_iter (A := punctualref_AtWorst.A1 w0 x0 l1 A1 c1 x2 b1 z1) (B := punctualref_AtWorst.B1 w0 x0 l1 A1 c1 x2 b1 z1) hq2 (fun a hF => ⟨hS, hF.weaken ea⟩) (fun s o hf a w hA Q hQ => punctualref_AtWorst_r1 K w0 x0 l1 A1 c1 x2 hR1 hL1 b1 z1 hc1 s o hf a w hA Q hQ) ?_
   rintro _ a w1 _ ⟨rfl, hb⟩
   obtain rfl := si h
   exact hQ _ _ _ (Outs.out nofun (Exits.on ⟨rfl, hb⟩))
 ·rw [if_neg hc1] at h
  refine wk 17 (decide ((IntKind.i64.wrap (z1 + x0.J)) ≤ x0.D)) false (decide_eq_false hc1) ?_
  refine we_false (by kernel_rfl) ?_
  have hS12 := hS.takeN 0
  obtain rfl := si h
  exact we_exit fun a hF => hQ _ _ _ (Outs.out nofun (Exits.here ⟨hS12, hF.weaken trivial⟩))
theorem punctualref_AtWorst_ok (K : Nat) (x0 : STask) (l1 : List STask) (A1 : Option Addr) (c1 : Nat) (x2 : Int) (w0 : World) (hR1 : RdL w0 A1 l1) (hL1 : l1.length ≤ c1) (r : Int) (h : punctualref_AtWorst.f K x0 l1 x2 = some r) :
  Calls Tryd.prog 77 #[.agg #[.string x0.Name, vI x0.C, vI x0.T, vI x0.D, vI x0.J, vI x0.O, vI x0.P], .slice A1 l1.length c1, vI x2] w0 (punctualref_AtWorst.Post w0 r) := by
 have hS := St.start w0
 unfold punctualref_AtWorst.f at h
 refine calls_enter (n := 50) (args := [.agg #[.string x0.Name, vI x0.C, vI x0.T, vI x0.D, vI x0.J, vI x0.O, vI x0.P], .slice A1 l1.length c1, vI x2]) (fn := Tryd.f77) rfl rfl rfl rfl ?_
 show WE _ _ _ _ [(0, .agg #[.string x0.Name, vI x0.C, vI x0.T, vI x0.D, vI x0.J, vI x0.O, vI x0.P]), (1, .slice A1 l1.length c1), (2, vI x2)] _
 refine ws fun K1 hK1 => ?_
 refine wr [(0, 1), (1, 0)] ?_
 refine gw (some 3) (.cells #[.string x0.Name, vI x0.C, vI x0.T, vI x0.D, vI x0.J, vI x0.O, vI x0.P] 46) (fun b => pP b 0) hS fun b1 w1 hx1 hS1 => ?_
 refine gb0 [1] [(6, vI 0)] ?_
 refine gn hK1 ?_
 refine ws fun K2 hK2 => ?_
 refine ws fun K3 hK3 => ?_
 refine wr [(0, 0)] ?_
 refine gb0 [0] [(7, vI 1)] ?_
 refine gn hK3 ?_
 refine we_block ?_
 rcases hq3 : iter (punctualref_AtWorst.r0 K x0 l1 x2) K 1 with _ | (_ | rr2)
 ·rw [hq3] at h; cases h
 ·rw [hq3] at h
  simp only [] at h
  refine we_iter (A := punctualref_AtWorst.A0 w0 x0 l1 A1 c1 x2 b1) (B := punctualref_AtWorst.B0 w0) hq3 (fun a hF => ⟨hS1, hF.weaken ea⟩) (fun s o hf a w hA Q hQ => punctualref_AtWorst_r0 K w0 x0 l1 A1 c1 x2 hR1 hL1 b1 s o hf a w hA Q hQ) ?_
  rintro _ a w6 _ ⟨rfl, hS13, hF⟩
  replace hS13 : St w0 w6 [] := hS13
  refine hK2 [] w6 ?_ a hF
  refine ws fun K16 hK16 => ?_
  refine wr [(0, 0)] ?_
  refine gb0 [0] [(6, vI 0)] ?_
  refine gn hK16 ?_
  obtain rfl := si h
  exact we_ret (pr0 [.tmp 6] [vI 0] ⟨rfl, hS13⟩)
 ·rw [hq3] at h
  simp only [] at h
  refine we_iter (A := punctualref_AtWorst.A0 w0 x0 l1 A1 c1 x2 b1) (B := punctualref_AtWorst.B0 w0) hq3 (fun a hF => ⟨hS1, hF.weaken ea⟩) (fun s o hf a w hA Q hQ => punctualref_AtWorst_r0 K w0 x0 l1 A1 c1 x2 hR1 hL1 b1 s o hf a w hA Q hQ) ?_
  rintro _ a w1 _ ⟨rfl, hb⟩
  obtain rfl := si h
  exact hb

/-! punctual/punctualref.Assigned -/
abbrev punctualref_Assigned.Post (w0 : World) (r : (List STask) × SFault) (e : Ending) (w : World) : Prop := ∃ (v0 : Value), e = .returned (.tuple #[v0, .agg #[vI r.2.Code, vI r.2.At]]) ∧ St w0 w [Own.of v0 46 r.1]
def punctualref_Assigned.r0 (l1 : List Int) : Nat → Option (Nat ⊕ (Unit ⊕ ((List STask) × SFault)))
 | i1 =>
  if (i1 : Int) < (l1.length : Int) then
   match l1[i1]? with
   | none => none
   | some e1 =>
    if e1 < 0 then
     some (.inr (.inr (([] : List STask), (punctualref_F.f 2 0))))
    else
     if e1 > 10000 then
      some (.inr (.inr (([] : List STask), (punctualref_F.f 2 0))))
     else
      some (.inl (i1 + 1))
  else
   some (.inr (.inl ()))
def punctualref_Assigned.r3 (l0 : List STask) (mp1 : List (Int × Int)) (z2 : Int) : (List STask) × Nat → Option (((List STask) × Nat) ⊕ ((List STask) ⊕ ((List STask) × SFault)))
 | (m1, i2) =>
  if (i2 : Int) < (l0.length : Int) then
   match l0[i2]? with
   | none => none
   | some e2 =>
    if (i2 : Int) = z2 then
     some (.inl (m1, (i2 + 1)))
    else
     if ((mget mp1 (i2 : Int)).getD 0) = 0 then
      if m1.length < 2199023255552 then
       some (.inl ((m1 ++ [e2]), (i2 + 1)))
      else
       none
     else
      some (.inl (m1, (i2 + 1)))
  else
   some (.inr (.inl m1))
def punctualref_Assigned.r2 (K : Nat) (l0 : List STask) (l1 : List Int) (mp1 : List (Int × Int)) : Int × Int → Option ((Int × Int) ⊕ (Int ⊕ ((List STask) × SFault)))
 | (z1, z2) =>
  if z2 ≥ 0 then
   if ((mget mp1 z2).getD 0) > 0 then
    some (.inl (z1, IntKind.i64.wrap (z2 - 1)))
   else
    match iter (punctualref_Assigned.r3 l0 mp1 z2) K (([] : List STask), 0) with
    | none => none
    | some (.inl m3) =>
     if 0 ≤ z2 then
      match l0[(z2).toNat]? with
      | none => none
      | some e3 =>
       match l1[(z2).toNat]? with
       | none => none
       | some e4 =>
        match punctualref_AtWorst.f K e3 m3 e4 with
        | none => none
        | some r2 =>
         if r2 > 0 then
          some (.inl (z2, IntKind.i64.wrap (z2 - 1)))
         else
          some (.inl (z1, IntKind.i64.wrap (z2 - 1)))
     else
      none
    | some (.inr rr1) =>
     some (.inr (.inr rr1))
  else
   some (.inr (.inl z1))
def punctualref_Assigned.r1 (K : Nat) (l0 : List STask) (l1 : List Int) : (List (Int × Int)) → Option ((List (Int × Int)) ⊕ ((List (Int × Int)) ⊕ ((List STask) × SFault)))
 | mp1 =>
  if (mp1.length : Int) < (l0.length : Int) then
   match iter (punctualref_Assigned.r2 K l0 l1 mp1) K ((-1), IntKind.i64.wrap ((l0.length : Int) - 1)) with
   | none => none
   | some (.inl z4) =>
    if z4 < 0 then
     some (.inr (.inr (([] : List STask), (punctualref_F.f 13 0))))
    else
     some (.inl (mset mp1 z4 ((mp1.length + 1 : Nat) : Int)))
   | some (.inr rr2) =>
    some (.inr (.inr rr2))
  else
   some (.inr (.inl mp1))
def punctualref_Assigned.r4 (l0 : List STask) (mp3 : List (Int × Int)) : Nat × (List STask) → Option ((Nat × (List STask)) ⊕ ((List STask) ⊕ ((List STask) × SFault)))
 | (i3, m4) =>
  if (i3 : Int) < (l0.length : Int) then
   match m4[i3]? with
   | none => none
   | some e5 =>
    some (.inl ((i3 + 1), (m4.set i3 (⟨e5.Name, e5.C, e5.T, e5.D, e5.J, e5.O, ((mget mp3 (i3 : Int)).getD 0)⟩ : STask))))
  else
   some (.inr (.inl m4))
def punctualref_Assigned.f (K : Nat) (l0 : List STask) (l1 : List Int) : Option ((List STask) × SFault) :=
 match punctualref_CheckFixed.f K l0 with
 | none => none
 | some r1 =>
  if r1.Code = 0 then
   if (l1.length : Int) = (l0.length : Int) then
    match iter (punctualref_Assigned.r0 l1) K 0 with
    | none => none
    | some (.inl _) =>
     match iter (punctualref_Assigned.r1 K l0 l1) K ([] : List (Int × Int)) with
     | none => none
     | some (.inl mp3) =>
      if 0 + l0.length ≤ 2199023255552 then
       match iter (punctualref_Assigned.r4 l0 mp3) K (0, l0) with
       | none => none
       | some (.inl m6) =>
        some (m6, (⟨0, 0⟩ : SFault))
       | some (.inr rr3) =>
        some rr3
      else
       none
     | some (.inr rr4) =>
      some rr4
    | some (.inr rr5) =>
     some rr5
   else
    some (([] : List STask), (punctualref_F.f 2 0))
  else
   some (([] : List STask), r1)
abbrev punctualref_Assigned.A0 (w0 : World) (l0 : List STask) (A0 : Option Addr) (c0 : Nat) (l1 : List Int) (A1 : Option Addr) (c1 : Nat) (b1 : Nat) : Nat → Act → World → Prop := fun (s : Nat) a w => St w0 w [Own.blk b1 (.cells #[vI 0, vI 0] 26 (0, 0))] ∧ Frm 119 a [(0, .slice A0 l0.length c0), (1, .slice A1 l1.length c1), (5, pP b1 0), (29, .slice A1 l1.length c1), (30, vI (l1.length : Int)), (31, vI (s : Int))]
abbrev punctualref_Assigned.B0 (w0 : World) (l0 : List STask) (A0 : Option Addr) (c0 : Nat) (l1 : List Int) (A1 : Option Addr) (c1 : Nat) (b1 : Nat) : (Unit ⊕ ((List STask) × SFault)) → Exit → Act → World → Prop := Exits 0 (fun (s : Unit) a w => St w0 w [Own.blk b1 (.cells #[vI 0, vI 0] 26 (0, 0))] ∧ Frm 119 a [(0, .slice A0 l0.length c0), (1, .slice A1 l1.length c1), (5, pP b1 0)]) (Rets Tryd.prog Tryd.f58 (punctualref_Assigned.Post w0))
theorem punctualref_Assigned_r0 (K : Nat) (w0 : World) (l0 : List STask) (A0 : Option Addr) (c0 : Nat) (l1 : List Int) (A1 : Option Addr) (c1 : Nat) (hR0 : RdL w0 A0 l0) (hL0 : l0.length ≤ c0) (hR1 : RdL w0 A1 l1) (hL1 : l1.length ≤ c1) (b1 : Nat) (r1 : SFault) (b2 : Nat) (hc1 : r1.Code = 0) (hc2 : (l1.length : Int) = (l0.length : Int)) (s : Nat) (o : Nat ⊕ (Unit ⊕ ((List STask) × SFault))) (h : punctualref_Assigned.r0 l1 s = some o) (a : Act) (w : World) (hA : punctualref_Assigned.A0 w0 l0 A0 c0 l1 A1 c1 b1 s a w) (Q : Exit → Act → World → Prop) (hQ : ∀ x a w, Outs (punctualref_Assigned.A0 w0 l0 A0 c0 l1 A1 c1 b1) (punctualref_Assigned.B0 w0 l0 A0 c0 l1 A1 c1 b1) o x a w → Q x a w) : (subF Tryd.f58 [1, 1, 1, 0, 1, 0, 0]).wp Tryd.prog Q a w := by
 obtain ⟨i1, hs⟩ : ∃ z, z = s := ⟨s, rfl⟩
 subst hs
 obtain ⟨hS, hF⟩ := hA
 replace hS : St w0 w [Own.blk b1 (.cells #[vI 0, vI 0] 26 (0, 0))] := hS
 simp only [punctualref_Assigned.r0] at h
 refine (?_ : WE Tryd.prog 119 (subF Tryd.f58 [1, 1, 1, 0, 1, 0, 0]) Q [(0, .slice A0 l0.length c0), (1, .slice A1 l1.length c1), (5, pP b1 0), (29, .slice A1 l1.length c1), (30, vI (l1.length : Int)), (31, vI (i1 : Int))] w) a hF
 clear hF a
 refine ws fun K9 hK9 => ?_
 refine wr [(0, 0)] ?_
 refine gb0 [0] [(32, .bool (decide ((i1 : Int) < (l1.length : Int))))] ?_
 refine gn hK9 ?_
 refine ws fun K10 hK10 => ?_
 by_cases hc3 : (i1 : Int) < (l1.length : Int)
 ·rw [if_pos hc3] at h
  refine wk 32 (decide ((i1 : Int) < (l1.length : Int))) true (decide_eq_true hc3) ?_
  refine we_true (by kernel_rfl) ?_
  refine we_skip fun a hF => hK10 _ _ ?_ a hF
  refine ws fun K11 hK11 => ?_
  refine we_block ?_
  refine ws fun K12 hK12 => ?_
  refine wr [(0, 0), (1, 0), (2, 0)] ?_
  rcases hx3 : l1[i1]? with _ | e1
  ·rw [hx3] at h; cases h
  rw [hx3] at h
  simp only [] at h
  refine gi 33 0 23 3 1 l1.length c1 (.tmp 29) (.tmp 31) A1 .i64 (i1 : Int) i1 ((hS.rd hR1).eqSome (pos_of_get hx3)) rfl (lt_of_get hx3) ?_
  refine gb [1, 2] [(8, vI e1), (34, vI e1)] [.loaded ⟨blkOf A1, offOf A1 + i1 * 1, none⟩ (vI e1)] ⟨RdL.cell (j := 0) (hS.rd hR1) hx3 rfl, trivial⟩ ?_
  refine gn hK12 ?_
  refine ws fun K13 hK13 => ?_
  refine wr [(0, 0), (1, 0), (2, 0), (3, 0), (4, 0), (5, 0)] ?_
  refine gb0 [0, 1, 2] [(37, .bool (decide (e1 < 0))), (36, .bool (decide (e1 < 0))), (35, vI e1)] ?_
  by_cases hc4 : e1 < 0
  ·rw [if_pos hc4] at h
   refine gk 37 (decide (e1 < 0)) true (decide_eq_true hc4) ?_
   refine gb0 [3, 4, 5] [(40, .bool true), (39, undef), (38, undef)] ?_
   refine gn hK13 ?_
   refine we_true (by kernel_rfl) ?_
   refine ws fun K14 hK14 => ?_
   refine wr [(0, 1), (1, 0), (2, 2)] ?_
   refine ge_call (d := some 41) (f := 21) (args := #[vI 2, vI 0]) (by kernel_rfl) (punctualref_F_ok 2 0 _ _ rfl) ?_
   rintro _ w5 ⟨rfl, hS9⟩
   refine ⟨_, rfl, hS9.below, ?_⟩
   have hS10 := hS.call hS9
   refine gb0 [1] [(4, .slice none 0 0)] ?_
   refine gs b1 0 #[vI 0, vI 0] 26 [vI ((punctualref_F.f 2 0).Code), vI ((punctualref_F.f 2 0).At)] hS10 fun w6 hS11 => ?_
   have hS12 : St w0 w6 [Own.blk b1 (.cells #[vI ((punctualref_F.f 2 0).Code), vI ((punctualref_F.f 2 0).At)] 26 (0, 0))] := hS11
   refine gn hK14 ?_
   have hS13 := hS12.nil (α := STask) 46
   have hS14 := hS13.takeN 1
   obtain rfl := si h
   exact we_ret fun a hF => hQ _ _ _ (Outs.out nofun (Exits.on ⟨rfl, (pr [.tmp 4, .cell 5 26] [(.slice none 0 0), .agg #[vI ((punctualref_F.f 2 0).Code), vI ((punctualref_F.f 2 0).At)]] [.loaded ⟨b1, 0, none⟩ (vI ((punctualref_F.f 2 0).Code)), .loaded ⟨b1, 1, none⟩ (vI ((punctualref_F.f 2 0).At))] ⟨hS13.c 1, hS13.c 1, trivial⟩ ⟨(.slice none 0 0), rfl, hS14⟩) a hF⟩))
  ·rw [if_neg hc4] at h
   refine gk 37 (decide (e1 < 0)) false (decide_eq_false hc4) ?_
   refine gb0 [3, 4, 5] [(40, .bool (decide (e1 > 10000))), (39, .bool (decide (e1 > 10000))), (38, vI e1)] ?_
   refine gn hK13 ?_
   by_cases hc5 : e1 > 10000
   ·rw [if_pos hc5] at h
    refine wk 40 (decide (e1 > 10000)) true (decide_eq_true hc5) ?_
    refine we_true (by kernel_rfl) ?_
    refine ws fun K15 hK15 => ?_
    refine wr [(0, 1), (1, 0), (2, 2)] ?_
    refine ge_call (d := some 41) (f := 21) (args := #[vI 2, vI 0]) (by kernel_rfl) (punctualref_F_ok 2 0 _ _ rfl) ?_
    rintro _ w7 ⟨rfl, hS15⟩
    refine ⟨_, rfl, hS15.below, ?_⟩
    have hS16 := hS.call hS15
    refine gb0 [1] [(4, .slice none 0 0)] ?_
    refine gs b1 0 #[vI 0, vI 0] 26 [vI ((punctualref_F.f 2 0).Code), vI ((punctualref_F.f 2 0).At)] hS16 fun w8 hS17 => ?_
    have hS18 : St w0 w8 [Own.blk b1 (.cells #[vI ((punctualref_F.f 2 0).Code), vI ((punctualref_F.f 2 0).At)] 26 (0, 0))] := hS17
    refine gn hK15 ?_
    have hS19 := hS18.nil (α := STask) 46
    have hS20 := hS19.takeN 1
    obtain rfl := si h
    exact we_ret fun a hF => hQ _ _ _ (Outs.out nofun (Exits.on ⟨rfl, (pr [.tmp 4, .cell 5 26] [(.slice none 0 0), .agg #[vI ((punctualref_F.f 2 0).Code), vI ((punctualref_F.f 2 0).At)]] [.loaded ⟨b1, 0, none⟩ (vI ((punctualref_F.f 2 0).Code)), .loaded ⟨b1, 1, none⟩ (vI ((punctualref_F.f 2 0).At))] ⟨hS19.c 1, hS19.c 1, trivial⟩ ⟨(.slice none 0 0), rfl, hS20⟩) a hF⟩))
   ·rw [if_neg hc5] at h
    refine wk 40 (decide (e1 > 10000)) false (decide_eq_false hc5) ?_
    refine we_false (by kernel_rfl) ?_
    refine we_skip fun a hF => hK11 _ _ ?_ a hF
    refine wr [(0, 0), (1, 0)] ?_
    refine ge_addn (d := 42) (ty := 3) (x := (.tmp 31)) (y := (.const (vI 1))) (t := 3) (t2 := 3) (k := .i64) (m := i1) (by kernel_rfl) (by kernel_rfl) (by kernel_rfl) (by have h0 := hR1.small; omega) ?_
    refine gb0 [1] [(31, vI ((i1 + 1 : Nat) : Int))] ?_
    obtain rfl := si h
    exact ge_nil fun a hF => hQ _ _ _ (Outs.again ⟨hS, hF.weaken ea⟩)
 ·rw [if_neg hc3] at h
  refine wk 32 (decide ((i1 : Int) < (l1.length : Int))) false (decide_eq_false hc3) ?_
  refine we_false (by kernel_rfl) ?_
  obtain rfl := si h
  exact we_exit fun a hF => hQ _ _ _ (Outs.out nofun (Exits.here ⟨hS, hF.weaken ea⟩))
abbrev punctualref_Assigned.A3 (w0 : World) (l0 : List STask) (A0 : Option Addr) (c0 : Nat) (l1 : List Int) (A1 : Option Addr) (c1 : Nat) (b1 : Nat) (b3 : Nat) (mp1 : List (Int × Int)) (z1 : Int) (z2 : Int) : ((List STask) × Nat) → Act → World → Prop := fun (s : (List STask) × Nat) a w => ∃ (v1 : Value), St w0 w [Own.blk b1 (.cells #[vI 0, vI 0] 26 (0, 0)), Own.of v1 46 s.1, Own.map (κ := Int) (ν := Int) b3 mp1] ∧ Frm 119 a [(0, .slice A0 l0.length c0), (1, .slice A1 l1.length c1), (5, pP b1 0), (9, .map (some b3)), (10, vI z1), (11, vI z2), (12, v1), (60, .slice A0 l0.length c0), (61, vI (l0.length : Int)), (62, vI (s.2 : Int))]
abbrev punctualref_Assigned.B3 (w0 : World) (l0 : List STask) (A0 : Option Addr) (c0 : Nat) (l1 : List Int) (A1 : Option Addr) (c1 : Nat) (b1 : Nat) (b3 : Nat) (mp1 : List (Int × Int)) (z1 : Int) (z2 : Int) : ((List STask) ⊕ ((List STask) × SFault)) → Exit → Act → World → Prop := Exits 6 (fun (s : (List STask)) a w => ∃ (v2 : Value), St w0 w [Own.blk b1 (.cells #[vI 0, vI 0] 26 (0, 0)), Own.of v2 46 s, Own.map (κ := Int) (ν := Int) b3 mp1] ∧ Frm 119 a [(0, .slice A0 l0.length c0), (1, .slice A1 l1.length c1), (5, pP b1 0), (9, .map (some b3)), (10, vI z1), (11, vI z2), (12, v2)]) (Rets Tryd.prog Tryd.f58 (punctualref_Assigned.Post w0))
theorem punctualref_Assigned_r3 (K : Nat) (w0 : World) (l0 : List STask) (A0 : Option Addr) (c0 : Nat) (l1 : List Int) (A1 : Option Addr) (c1 : Nat) (hR0 : RdL w0 A0 l0) (hL0 : l0.length ≤ c0) (hR1 : RdL w0 A1 l1) (hL1 : l1.length ≤ c1) (b1 : Nat) (r1 : SFault) (b2 : Nat) (hc1 : r1.Code = 0) (hc2 : (l1.length : Int) = (l0.length : Int)) (b3 : Nat) (mp1 : List (Int × Int)) (hc6 : (mp1.length : Int) < (l0.length : Int)) (z1 : Int) (z2 : Int) (hc7 : z2 ≥ 0) (hc8 : ¬ (((mget mp1 z2).getD 0) > 0)) (s : (List STask) × Nat) (o : ((List STask) × Nat) ⊕ ((List STask) ⊕ ((List STask) × SFault))) (h : punctualref_Assigned.r3 l0 mp1 z2 s = some o) (a : Act) (w : World) (hA : punctualref_Assigned.A3 w0 l0 A0 c0 l1 A1 c1 b1 b3 mp1 z1 z2 s a w) (Q : Exit → Act → World → Prop) (hQ : ∀ x a w, Outs (punctualref_Assigned.A3 w0 l0 A0 c0 l1 A1 c1 b1 b3 mp1 z1 z2) (punctualref_Assigned.B3 w0 l0 A0 c0 l1 A1 c1 b1 b3 mp1 z1 z2) o x a w → Q x a w) : (subF Tryd.f58 [1, 1, 1, 1, 1, 0, 0, 0, 1, 0, 1, 0, 1, 0, 0, 1, 0, 0, 1, 1, 0, 1, 0, 0]).wp Tryd.prog Q a w := by
 obtain ⟨m1, i2⟩ := s
 obtain ⟨v1, hS, hF⟩ := hA
 replace hS : St w0 w [Own.blk b1 (.cells #[vI 0, vI 0] 26 (0, 0)), Own.of v1 46 m1, Own.map (κ := Int) (ν := Int) b3 mp1] := hS
 simp only [punctualref_Assigned.r3] at h
 refine (?_ : WE Tryd.prog 119 (subF Tryd.f58 [1, 1, 1, 1, 1, 0, 0, 0, 1, 0, 1, 0, 1, 0, 0, 1, 0, 0, 1, 1, 0, 1, 0, 0]) Q [(0, .slice A0 l0.length c0), (1, .slice A1 l1.length c1), (5, pP b1 0), (9, .map (some b3)), (10, vI z1), (11, vI z2), (12, v1), (60, .slice A0 l0.length c0), (61, vI (l0.length : Int)), (62, vI (i2 : Int))] w) a hF
 clear hF a
 refine ws fun K31 hK31 => ?_
 refine wr [(0, 0)] ?_
 refine gb0 [0] [(63, .bool (decide ((i2 : Int) < (l0.length : Int))))] ?_
 refine gn hK31 ?_
 refine ws fun K32 hK32 => ?_
 by_cases hc9 : (i2 : Int) < (l0.length : Int)
 ·rw [if_pos hc9] at h
  refine wk 63 (decide ((i2 : Int) < (l0.length : Int))) true (decide_eq_true hc9) ?_
  refine we_true (by kernel_rfl) ?_
  refine we_skip fun a hF => hK32 _ _ ?_ a hF
  refine ws fun K33 hK33 => ?_
  refine we_block ?_
  refine ws fun K34 hK34 => ?_
  refine wr [(0, 0), (1, 0), (2, 0), (3, 1), (4, 0), (5, 2)] ?_
  refine gb0 [0] [(64, vI (i2 : Int))] ?_
  rcases hx5 : l0[i2]? with _ | e2
  ·rw [hx5] at h; cases h
  rw [hx5] at h
  simp only [] at h
  refine gi 65 0 40 46 7 l0.length c0 (.tmp 60) (.tmp 62) A0 .i64 (i2 : Int) i2 ((hS.rd hR0).eqSome (pos_of_get hx5)) rfl (lt_of_get hx5) ?_
  refine gb [2] [(66, .agg #[.string e2.Name, vI e2.C, vI e2.T, vI e2.D, vI e2.J, vI e2.O, vI e2.P])] [.loaded ⟨blkOf A0, offOf A0 + i2 * 7, none⟩ (.string e2.Name), .loaded ⟨blkOf A0, offOf A0 + i2 * 7 + 1, none⟩ (vI e2.C), .loaded ⟨blkOf A0, offOf A0 + i2 * 7 + 2, none⟩ (vI e2.T), .loaded ⟨blkOf A0, offOf A0 + i2 * 7 + 3, none⟩ (vI e2.D), .loaded ⟨blkOf A0, offOf A0 + i2 * 7 + 4, none⟩ (vI e2.J), .loaded ⟨blkOf A0, offOf A0 + i2 * 7 + 5, none⟩ (vI e2.O), .loaded ⟨blkOf A0, offOf A0 + i2 * 7 + 6, none⟩ (vI e2.P)] ⟨RdL.cell (j := 0) (hS.rd hR0) hx5 rfl, RdL.cell (j := 1) (hS.rd hR0) hx5 rfl, RdL.cell (j := 2) (hS.rd hR0) hx5 rfl, RdL.cell (j := 3) (hS.rd hR0) hx5 rfl, RdL.cell (j := 4) (hS.rd hR0) hx5 rfl, RdL.cell (j := 5) (hS.rd hR0) hx5 rfl, RdL.cell (j := 6) (hS.rd hR0) hx5 rfl, trivial⟩ ?_
  refine gw (some 14) (.cells #[.string (⟨#[]⟩), vI 0, vI 0, vI 0, vI 0, vI 0, vI 0] 46) (fun b => pP b 0) hS fun b4 w11 hx6 hS33 => ?_
  refine gb0 [4] [(13, vI (i2 : Int))] ?_
  refine gs b4 0 #[.string (⟨#[]⟩), vI 0, vI 0, vI 0, vI 0, vI 0, vI 0] 46 [.string e2.Name, vI e2.C, vI e2.T, vI e2.D, vI e2.J, vI e2.O, vI e2.P] hS33 fun w12 hS34 => ?_
  have hS35 : St w0 w12 [Own.blk b4 (.cells #[.string e2.Name, vI e2.C, vI e2.T, vI e2.D, vI e2.J, vI e2.O, vI e2.P] 46 (0, 0)), Own.blk b1 (.cells #[vI 0, vI 0] 26 (0, 0)), Own.of v1 46 m1, Own.map (κ := Int) (ν := Int) b3 mp1] := hS34
  refine gn hK34 ?_
  refine ws fun K35 hK35 => ?_
  refine wr [(0, 0), (1, 0), (2, 0), (3, 0), (4, 0), (5, 0), (6, 0), (7, 0), (8, 0)] ?_
  refine gb0 [0, 1, 2, 3] [(70, .bool ((i2 : Int) != z2)), (69, .bool ((i2 : Int) != z2)), (68, vI z2), (67, vI (i2 : Int))] ?_
  by_cases hc10 : (i2 : Int) = z2
  ·rw [if_pos hc10] at h
   refine gk 70 ((i2 : Int) != z2) false (bne_eq_false_iff_eq.2 hc10) ?_
   refine gb0 [4, 5, 6, 7, 8] [(75, .bool false), (74, undef), (73, undef), (72, undef), (71, undef)] ?_
   refine gn hK35 ?_
   refine we_false (by kernel_rfl) ?_
   refine we_skip fun a hF => hK33 _ _ ?_ a hF
   refine wr [(0, 0), (1, 0)] ?_
   refine ge_addn (d := 80) (ty := 3) (x := (.tmp 62)) (y := (.const (vI 1))) (t := 3) (t2 := 3) (k := .i64) (m := i2) (by kernel_rfl) (by kernel_rfl) (by kernel_rfl) (by have h0 := hR0.small; omega) ?_
   refine gb0 [1] [(62, vI ((i2 + 1 : Nat) : Int))] ?_
   have hS36 := hS35.bring 3 rfl
   have hS37 := hS36.bring 3 rfl
   have hS38 := hS37.bring 3 rfl
   have hS39 := hS38.takeN 3
   obtain rfl := si h
   exact ge_nil fun a hF => hQ _ _ _ (Outs.again ⟨v1, hS39, hF.weaken ea⟩)
  ·rw [if_neg hc10] at h
   refine gk 70 ((i2 : Int) != z2) true (bne_iff_ne.2 hc10) ?_
   refine gb0 [4, 5] [(72, vI (i2 : Int)), (71, .map (some b3))] ?_
   refine ge_lookup (κ := Int) (ν := Int) (d := 73) (b := b3) (q := 3) (t := 112) (kt := 3) (et := 3) (x := (.tmp 71)) (y := (.tmp 72)) (ty := 3) (m := mp1) (k := (i2 : Int)) (z := 0) (v := ((mget mp1 (i2 : Int)).getD 0)) (zv := vI 0) (vv := vI ((mget mp1 (i2 : Int)).getD 0)) (by kernel_rfl) (by kernel_rfl) (by kernel_rfl) (by kernel_rfl) (by kernel_rfl) (fun w' => by kernel_rfl) rfl hS35 rfl rfl rfl ?_
   refine gb0 [7, 8] [(75, .bool (((mget mp1 (i2 : Int)).getD 0) == 0)), (74, .bool (((mget mp1 (i2 : Int)).getD 0) == 0))] ?_
   refine gn hK35 ?_
   by_cases hc11 : ((mget mp1 (i2 : Int)).getD 0) = 0
   ·rw [if_pos hc11] at h
    refine wk 75 (((mget mp1 (i2 : Int)).getD 0) == 0) true (beq_iff_eq.2 hc11) ?_
    refine we_true (by kernel_rfl) ?_
    refine wr [(0, 0), (1, 0), (2, 1), (3, 2), (4, 0)] ?_
    refine gb [0, 1] [(77, .agg #[.string e2.Name, vI e2.C, vI e2.T, vI e2.D, vI e2.J, vI e2.O, vI e2.P]), (76, v1)] [.loaded ⟨b4, 0, none⟩ (.string e2.Name), .loaded ⟨b4, 1, none⟩ (vI e2.C), .loaded ⟨b4, 2, none⟩ (vI e2.T), .loaded ⟨b4, 3, none⟩ (vI e2.D), .loaded ⟨b4, 4, none⟩ (vI e2.J), .loaded ⟨b4, 5, none⟩ (vI e2.O), .loaded ⟨b4, 6, none⟩ (vI e2.P)] ⟨hS35.c 0, hS35.c 0, hS35.c 0, hS35.c 0, hS35.c 0, hS35.c 0, hS35.c 0, trivial⟩ ?_
    refine gw (some 78) (.cells #[.string e2.Name, vI e2.C, vI e2.T, vI e2.D, vI e2.J, vI e2.O, vI e2.P] 46) (fun b => .slice (some ⟨b, 0, none⟩) 1 1) hS35 fun b5 w13 hx7 hS40 => ?_
    have hS41 := hS40.bring 3 rfl
    by_cases hc12 : m1.length < 2199023255552
    ·rw [if_pos hc12] at h
     refine ge_append (α := STask) (m := 0) (d := 79) (t := 40) (el := 46) (bytes := 64) (c1 := 1) (b1 := b5) (x := (.tmp 76)) (y := (.tmp 78)) (ty := 40) (v := v1) (z := .agg #[.string (⟨#[]⟩), vI 0, vI 0, vI 0, vI 0, vI 0, vI 0]) (l := m1) (u := e2) (by kernel_rfl) (by kernel_rfl) (by kernel_rfl) (by kernel_rfl) (by kernel_rfl) rfl hS41 rfl (by omega) fun v3 w14 hS42 => ?_
     refine gb0 [4] [(12, v3)] ?_
     refine gn hK33 ?_
     refine wr [(0, 0), (1, 0)] ?_
     refine ge_addn (d := 80) (ty := 3) (x := (.tmp 62)) (y := (.const (vI 1))) (t := 3) (t2 := 3) (k := .i64) (m := i2) (by kernel_rfl) (by kernel_rfl) (by kernel_rfl) (by have h0 := hR0.small; omega) ?_
     refine gb0 [1] [(62, vI ((i2 + 1 : Nat) : Int))] ?_
     have hS43 := hS42.bring 3 rfl
     have hS44 := hS43.bring 1 rfl
     have hS45 := hS44.bring 3 rfl
     have hS46 := hS45.takeN 3
     obtain rfl := si h
     exact ge_nil fun a hF => hQ _ _ _ (Outs.again ⟨v3, hS46, hF.weaken ea⟩)
    ·rw [if_neg hc12] at h
     cases h
   ·rw [if_neg hc11] at h
    refine wk 75 (((mget mp1 (i2 : Int)).getD 0) == 0) false (beq_eq_false_iff_ne.2 hc11) ?_
    refine we_false (by kernel_rfl) ?_
    refine we_skip fun a hF => hK33 _ _ ?_ a hF
    refine wr [(0, 0), (1, 0)] ?_
    refine ge_addn (d := 80) (ty := 3) (x := (.tmp 62)) (y := (.const (vI 1))) (t := 3) (t2 := 3) (k := .i64) (m := i2) (by kernel_rfl) (by kernel_rfl) (by kernel_rfl) (by have h0 := hR0.small; omega) ?_
    refine gb0 [1] [(62, vI ((i2 + 1 : Nat) : Int))] ?_
    have hS47 := hS35.bring 3 rfl
    have hS48 := hS47.bring 3 rfl
    have hS49 := hS48.bring 3 rfl
    have hS50 := hS49.takeN 3
    obtain rfl := si h
    exact ge_nil fun a hF => hQ _ _ _ (Outs.again ⟨v1, hS50, hF.weaken ea⟩)
 ·rw [if_neg hc9] at h
  refine wk 63 (decide ((i2 : Int) < (l0.length : Int))) false (decide_eq_false hc9) ?_
  refine we_false (by kernel_rfl) ?_
  have hS51 := hS.bring 2 rfl
  have hS52 := hS51.bring 2 rfl
  have hS53 := hS52.bring 2 rfl
  obtain rfl := si h
  exact we_exit fun a hF => hQ _ _ _ (Outs.out nofun (Exits.here ⟨v1, hS53, hF.weaken ea⟩))
abbrev punctualref_Assigned.A2 (w0 : World) (l0 : List STask) (A0 : Option Addr) (c0 : Nat) (l1 : List Int) (A1 : Option Addr) (c1 : Nat) (b1 : Nat) (b3 : Nat) (mp1 : List (Int × Int)) : (Int × Int) → Act → World → Prop := fun (s : Int × Int) a w => St w0 w [Own.blk b1 (.cells #[vI 0, vI 0] 26 (0, 0)), Own.map (κ := Int) (ν := Int) b3 mp1] ∧ Frm 119 a [(0, .slice A0 l0.length c0), (1, .slice A1 l1.length c1), (5, pP b1 0), (9, .map (some b3)), (10, vI s.1), (11, vI s.2)]
abbrev punctualref_Assigned.B2 (w0 : World) (l0 : List STask) (A0 : Option Addr) (c0 : Nat) (l1 : List Int) (A1 : Option Addr) (c1 : Nat) (b1 : Nat) (b3 : Nat) (mp1 : List (Int × Int)) : (Int ⊕ ((List STask) × SFault)) → Exit → Act → World → Prop := Exits 4 (fun (s : Int) a w => St w0 w [Own.blk b1 (.cells #[vI 0, vI 0] 26 (0, 0)), Own.map (κ := Int) (ν := Int) b3 mp1] ∧ Frm 119 a [(0, .slice A0 l0.length c0), (1, .slice A1 l1.length c1), (5, pP b1 0), (9, .map (some b3)), (10, vI s)]) (Rets Tryd.prog Tryd.f58 (punctualref_Assigned.Post w0))
theorem punctualref_Assigned_r2 (K : Nat) (w0 : World) (l0 : List STask) (A0 : Option Addr) (c0 : Nat) (l1 : List Int) (A1 : Option Addr) (c1 : Nat) (hR0 : RdL w0 A0 l0) (hL0 : l0.length ≤ c0) (hR1 : RdL w0 A1 l1) (hL1 : l1.length ≤ c1) (b1 : Nat) (r1 : SFault) (b2 : Nat) (hc1 : r1.Code = 0) (hc2 : (l1.length : Int) = (l0.length : Int)) (b3 : Nat) (mp1 : List (Int × Int)) (hc6 : (mp1.length : Int) < (l0.length : Int)) (s : Int × Int) (o : (Int × Int) ⊕ (Int ⊕ ((List STask) × SFault))) (h : punctualref_Assigned.r2 K l0 l1 mp1 s = some o) (a : Act) (w : World) (hA : punctualref_Assigned.A2 w0 l0 A0 c0 l1 A1 c1 b1 b3 mp1 s a w) (Q : Exit → Act → World → Prop) (hQ : ∀ x a w, Outs (punctualref_Assigned.A2 w0 l0 A0 c0 l1 A1 c1 b1 b3 mp1) (punctualref_Assigned.B2 w0 l0 A0 c0 l1 A1 c1 b1 b3 mp1) o x a w → Q x a w) : (subF Tryd.f58 [1, 1, 1, 1, 1, 0, 0, 0, 1, 0, 1, 0, 1, 0, 0]).wp Tryd.prog Q a w := by
 obtain ⟨z1, z2⟩ := s
 obtain ⟨hS, hF⟩ := hA
 replace hS : St w0 w [Own.blk b1 (.cells #[vI 0, vI 0] 26 (0, 0)), Own.map (κ := Int) (ν := Int) b3 mp1] := hS
 simp only [punctualref_Assigned.r2] at h
 refine (?_ : WE Tryd.prog 119 (subF Tryd.f58 [1, 1, 1, 1, 1, 0, 0, 0, 1, 0, 1, 0, 1, 0, 0]) Q [(0, .slice A0 l0.length c0), (1, .slice A1 l1.length c1), (5, pP b1 0), (9, .map (some b3)), (10, vI z1), (11, vI z2)] w) a hF
 clear hF a
 refine ws fun K23 hK23 => ?_
 refine ws fun K24 hK24 => ?_
 refine wr [(0, 0), (1, 0)] ?_
 refine gb0 [0, 1] [(53, .bool (decide (z2 ≥ 0))), (52, vI z2)] ?_
 refine gn hK24 ?_
 by_cases hc7 : z2 ≥ 0
 ·rw [if_pos hc7] at h
  refine wk 53 (decide (z2 ≥ 0)) true (decide_eq_true hc7) ?_
  refine we_true (by kernel_rfl) ?_
  refine we_skip fun a hF => hK23 _ _ ?_ a hF
  refine ws fun K25 hK25 => ?_
  refine we_block ?_
  refine ws fun K26 hK26 => ?_
  refine ws fun K27 hK27 => ?_
  refine wr [(0, 0), (1, 0), (2, 0), (3, 0)] ?_
  refine gb0 [0, 1] [(57, vI z2), (56, .map (some b3))] ?_
  refine ge_lookup (κ := Int) (ν := Int) (d := 58) (b := b3) (q := 1) (t := 112) (kt := 3) (et := 3) (x := (.tmp 56)) (y := (.tmp 57)) (ty := 3) (m := mp1) (k := z2) (z := 0) (v := ((mget mp1 z2).getD 0)) (zv := vI 0) (vv := vI ((mget mp1 z2).getD 0)) (by kernel_rfl) (by kernel_rfl) (by kernel_rfl) (by kernel_rfl) (by kernel_rfl) (fun w' => by kernel_rfl) rfl hS rfl rfl rfl ?_
  refine gb0 [3] [(59, .bool (decide (((mget mp1 z2).getD 0) > 0)))] ?_
  refine gn hK27 ?_
  by_cases hc8 : ((mget mp1 z2).getD 0) > 0
  ·rw [if_pos hc8] at h
   refine wk 59 (decide (((mget mp1 z2).getD 0) > 0)) true (decide_eq_true hc8) ?_
   refine we_true (by kernel_rfl) ?_
   refine we_exit fun a hF => hK25 _ _ ?_ a hF
   refine wr [(0, 0), (1, 0), (2, 0)] ?_
   refine gb0 [0, 1, 2] [(11, vI (IntKind.i64.wrap (z2 - 1))), (55, vI (IntKind.i64.wrap (z2 - 1))), (54, vI z2)] ?_
   have hS27 := hS.bring 1 rfl
   have hS28 := hS27.bring 1 rfl
   obtain rfl := si h
   exact ge_nil fun a hF => hQ _ _ _ (Outs.again ⟨hS28, hF.weaken ea⟩)
  ·rw [if_neg hc8] at h
   refine wk 59 (decide (((mget mp1 z2).getD 0) > 0)) false (decide_eq_false hc8) ?_
   refine we_false (by kernel_rfl) ?_
   refine we_skip fun a hF => hK26 _ _ ?_ a hF
   refine ws fun K28 hK28 => ?_
   refine wr [(0, 0)] ?_
   refine gb0 [0] [(12, .slice none 0 0)] ?_
   refine gn hK28 ?_
   refine ws fun K29 hK29 => ?_
   refine ws fun K30 hK30 => ?_
   refine wr [(0, 0), (1, 0), (2, 0)] ?_
   refine gb0 [0, 1, 2] [(62, vI 0), (61, vI (l0.length : Int)), (60, .slice A0 l0.length c0)] ?_
   refine gn hK30 ?_
   refine we_block ?_
   have hS29 := hS.nil (α := STask) 46
   have hS30 := hS29.bring 2 rfl
   have hS31 := hS30.bring 1 rfl
   have hS32 := hS31.bring 2 rfl
   rcases hq5 : iter (punctualref_Assigned.r3 l0 mp1 z2) K (([] : List STask), 0) with _ | (m3 | rr1)
   ·rw [hq5] at h; cases h
   ·rw [hq5] at h
    simp only [] at h
    refine we_iter (A := punctualref_Assigned.A3 w0 l0 A0 c0 l1 A1 c1 b1 b3 mp1 z1 z2) (B := punctualref_Assigned.B3 w0 l0 A0 c0 l1 A1 c1 b1 b3 mp1 z1 z2) hq5 (fun a hF => ⟨(.slice none 0 0), hS32, hF.weaken ea⟩) (fun s o hf a w hA Q hQ => punctualref_Assigned_r3 K w0 l0 A0 c0 l1 A1 c1 hR0 hL0 hR1 hL1 b1 r1 b2 hc1 hc2 b3 mp1 hc6 z1 z2 hc7 hc8 s o hf a w hA Q hQ) ?_
    rintro _ a w15 _ ⟨rfl, v4, hS54, hF⟩
    replace hS54 : St w0 w15 [Own.blk b1 (.cells #[vI 0, vI 0] 26 (0, 0)), Own.of v4 46 m3, Own.map (κ := Int) (ν := Int) b3 mp1] := hS54
    refine hK29 [(0, .slice A0 l0.length c0), (1, .slice A1 l1.length c1), (5, pP b1 0), (9, .map (some b3)), (10, vI z1), (11, vI z2), (12, v4)] w15 ?_ a hF
    refine ws fun K36 hK36 => ?_
    refine we_draws (by kernel_rfl) [(0, 0), (1, 0), (2, 0), (3, 0), (4, 0), (5, 0), (6, 0), (7, 0), (8, 0), (9, 1), (10, 0)] (by kernel_rfl) ?_
    have hS55 := hS54.drew
    refine gb0 [0, 1] [(82, vI z2), (81, .slice A0 l0.length c0)] ?_
    by_cases hc13 : 0 ≤ z2
    ·rw [if_pos hc13] at h
     rcases hx8 : l0[(z2).toNat]? with _ | e3
     ·rw [hx8] at h; cases h
     rw [hx8] at h
     simp only [] at h
     refine gi 83 0 40 46 7 l0.length c0 (.tmp 81) (.tmp 82) A0 .i64 z2 ((z2).toNat) ((hS55.rd hR0).eqSome (pos_of_get hx8)) (Int.toNat_of_nonneg hc13).symm (lt_of_get hx8) ?_
     refine gb [3, 4, 5, 6] [(87, vI z2), (86, .slice A1 l1.length c1), (85, v4), (84, .agg #[.string e3.Name, vI e3.C, vI e3.T, vI e3.D, vI e3.J, vI e3.O, vI e3.P])] [.loaded ⟨blkOf A0, offOf A0 + ((z2).toNat) * 7, none⟩ (.string e3.Name), .loaded ⟨blkOf A0, offOf A0 + ((z2).toNat) * 7 + 1, none⟩ (vI e3.C), .loaded ⟨blkOf A0, offOf A0 + ((z2).toNat) * 7 + 2, none⟩ (vI e3.T), .loaded ⟨blkOf A0, offOf A0 + ((z2).toNat) * 7 + 3, none⟩ (vI e3.D), .loaded ⟨blkOf A0, offOf A0 + ((z2).toNat) * 7 + 4, none⟩ (vI e3.J), .loaded ⟨blkOf A0, offOf A0 + ((z2).toNat) * 7 + 5, none⟩ (vI e3.O), .loaded ⟨blkOf A0, offOf A0 + ((z2).toNat) * 7 + 6, none⟩ (vI e3.P)] ⟨RdL.cell (j := 0) (hS55.rd hR0) hx8 rfl, RdL.cell (j := 1) (hS55.rd hR0) hx8 rfl, RdL.cell (j := 2) (hS55.rd hR0) hx8 rfl, RdL.cell (j := 3) (hS55.rd hR0) hx8 rfl, RdL.cell (j := 4) (hS55.rd hR0) hx8 rfl, RdL.cell (j := 5) (hS55.rd hR0) hx8 rfl, RdL.cell (j := 6) (hS55.rd hR0) hx8 rfl, trivial⟩ ?_
     rcases hx9 : l1[(z2).toNat]? with _ | e4
     ·rw [hx9] at h; cases h
     rw [hx9] at h
     simp only [] at h
     refine gi 88 0 23 3 1 l1.length c1 (.tmp 86) (.tmp 87) A1 .i64 z2 ((z2).toNat) ((hS55.rd hR1).eqSome (pos_of_get hx9)) (Int.toNat_of_nonneg hc13).symm (lt_of_get hx9) ?_
     refine gb [8] [(89, vI e4)] [.loaded ⟨blkOf A1, offOf A1 + ((z2).toNat) * 1, none⟩ (vI e4)] ⟨RdL.cell (j := 0) (hS55.rd hR1) hx9 rfl, trivial⟩ ?_
     obtain ⟨Z1, cz1, rfl⟩ := hS55.open 1 rfl
     rcases hq6 : punctualref_AtWorst.f K e3 m3 e4 with _ | r2
     ·rw [hq6] at h; cases h
     rw [hq6] at h
     simp only [] at h
     refine ge_call (d := some 90) (f := 77) (args := #[.agg #[.string e3.Name, vI e3.C, vI e3.T, vI e3.D, vI e3.J, vI e3.O, vI e3.P], (.slice Z1 m3.length cz1), vI e4]) (by kernel_rfl) (punctualref_AtWorst_ok K e3 m3 Z1 cz1 e4 _ (hS55.rdAt 1 rfl) (hS55.capAt 1 rfl) _ hq6) ?_
     rintro _ w16 ⟨rfl, hS56⟩
     refine ⟨_, rfl, hS56.below, ?_⟩
     have hS57 := hS55.call hS56
     refine gb0 [10] [(91, .bool (decide (r2 > 0)))] ?_
     refine gn hK36 ?_
     by_cases hc14 : r2 > 0
     ·rw [if_pos hc14] at h
      refine wk 91 (decide (r2 > 0)) true (decide_eq_true hc14) ?_
      refine we_true (by kernel_rfl) ?_
      refine wr [(0, 0), (1, 0)] ?_
      refine gb0 [0, 1] [(10, vI z2), (92, vI z2)] ?_
      refine gn hK25 ?_
      refine wr [(0, 0), (1, 0), (2, 0)] ?_
      refine gb0 [0, 1, 2] [(11, vI (IntKind.i64.wrap (z2 - 1))), (55, vI (IntKind.i64.wrap (z2 - 1))), (54, vI z2)] ?_
      have hS58 := hS57.bring 2 rfl
      have hS59 := hS58.bring 1 rfl
      have hS60 := hS59.takeN 2
      obtain rfl := si h
      exact ge_nil fun a hF => hQ _ _ _ (Outs.again ⟨hS60, hF.weaken ea⟩)
     ·rw [if_neg hc14] at h
      refine wk 91 (decide (r2 > 0)) false (decide_eq_false hc14) ?_
      refine we_false (by kernel_rfl) ?_
      refine we_skip fun a hF => hK25 _ _ ?_ a hF
      refine wr [(0, 0), (1, 0), (2, 0)] ?_
      refine gb0 [0, 1, 2] [(11, vI (IntKind.i64.wrap (z2 - 1))), (55, vI (IntKind.i64.wrap (z2 - 1))), (54, vI z2)] ?_
      have hS61 := hS57.bring 2 rfl
      have hS62 := hS61.bring 1 rfl
      have hS63 := hS62.takeN 2
      obtain rfl := si h
      exact ge_nil fun a hF => hQ _ _ _ (Outs.again ⟨hS63, hF.weaken ea⟩)
    ·rw [if_neg hc13] at h
     cases h
   ·rw [hq5] at h
    simp only [] at h
    refine we_iter (A := punctualref_Assigned.A3 w0 l0 A0 c0 l1 A1 c1 b1 b3 mp1 z1 z2) (B := punctualref_Assigned.B3 w0 l0 A0 c0 l1 A1 c1 b1 b3 mp1 z1 z2) hq5 (fun a hF => ⟨(.slice none 0 0), hS32, hF.weaken ea⟩) (fun s o hf a w hA Q hQ => punctualref_Assigned_r3 K w0 l0 A0 c0 l1 A1 c1 hR0 hL0 hR1 hL1 b1 r1 b2 hc1 hc2 b3 mp1 hc6 z1 z2 hc7 hc8 s o hf a w hA Q hQ) ?_
    rintro _ a w1 _ ⟨rfl, hb⟩
    obtain rfl := si h
    exact hQ _ _ _ (Outs.out nofun (Exits.on ⟨rfl, hb⟩))
 ·rw [if_neg hc7] at h
  refine wk 53 (decide (z2 ≥ 0)) false (decide_eq_false hc7) ?_
  refine we_false (by kernel_rfl) ?_
  have hS64 := hS.bring 1 rfl
  have hS65 := hS64.bring 1 rfl
  obtain rfl := si h
  exact we_exit fun a hF => hQ _ _ _ (Outs.out nofun (Exits.here ⟨hS65, hF.weaken ea⟩))
abbrev punctualref_Assigned.A1 (w0 : World) (l0 : List STask) (A0 : Option Addr) (c0 : Nat) (l1 : List Int) (A1 : Option Addr) (c1 : Nat) (b1 : Nat) (b3 : Nat) : (List (Int × Int)) → Act → World → Prop := fun (s : (List (Int × Int))) a w => St w0 w [Own.blk b1 (.cells #[vI 0, vI 0] 26 (0, 0)), Own.map (κ := Int) (ν := Int) b3 s] ∧ Frm 119 a [(0, .slice A0 l0.length c0), (1, .slice A1 l1.length c1), (5, pP b1 0), (9, .map (some b3))]
abbrev punctualref_Assigned.B1 (w0 : World) (l0 : List STask) (A0 : Option Addr) (c0 : Nat) (b1 : Nat) (b3 : Nat) : ((List (Int × Int)) ⊕ ((List STask) × SFault)) → Exit → Act → World → Prop := Exits 2 (fun (s : (List (Int × Int))) a w => St w0 w [Own.blk b1 (.cells #[vI 0, vI 0] 26 (0, 0)), Own.map (κ := Int) (ν := Int) b3 s] ∧ Frm 119 a [(0, .slice A0 l0.length c0), (5, pP b1 0), (9, .map (some b3))]) (Rets Tryd.prog Tryd.f58 (punctualref_Assigned.Post w0))
theorem punctualref_Assigned_r1 (K : Nat) (w0 : World) (l0 : List STask) (A0 : Option Addr) (c0 : Nat) (l1 : List Int) (A1 : Option Addr) (c1 : Nat) (hR0 : RdL w0 A0 l0) (hL0 : l0.length ≤ c0) (hR1 : RdL w0 A1 l1) (hL1 : l1.length ≤ c1) (b1 : Nat) (r1 : SFault) (b2 : Nat) (hc1 : r1.Code = 0) (hc2 : (l1.length : Int) = (l0.length : Int)) (b3 : Nat) (s : (List (Int × Int))) (o : (List (Int × Int)) ⊕ ((List (Int × Int)) ⊕ ((List STask) × SFault))) (h : punctualref_Assigned.r1 K l0 l1 s = some o) (a : Act) (w : World) (hA : punctualref_Assigned.A1 w0 l0 A0 c0 l1 A1 c1 b1 b3 s a w) (Q : Exit → Act → World → Prop) (hQ : ∀ x a w, Outs (punctualref_Assigned.A1 w0 l0 A0 c0 l1 A1 c1 b1 b3) (punctualref_Assigned.B1 w0 l0 A0 c0 b1 b3) o x a w → Q x a w) : (subF Tryd.f58 [1, 1, 1, 1, 1, 0, 0, 0]).wp Tryd.prog Q a w := by
 obtain ⟨mp1, hs⟩ : ∃ z, z = s := ⟨s, rfl⟩
 subst hs
 obtain ⟨hS, hF⟩ := hA
 replace hS : St w0 w [Own.blk b1 (.cells #[vI 0, vI 0] 26 (0, 0)), Own.map (κ := Int) (ν := Int) b3 mp1] := hS
 simp only [punctualref_Assigned.r1] at h
 refine (?_ : WE Tryd.prog 119 (subF Tryd.f58 [1, 1, 1, 1, 1, 0, 0, 0]) Q [(0, .slice A0 l0.length c0), (1, .slice A1 l1.length c1), (5, pP b1 0), (9, .map (some b3))] w) a hF
 clear hF a
 refine ws fun K18 hK18 => ?_
 refine ws fun K19 hK19 => ?_
 refine wr [(0, 0), (1, 0), (2, 0), (3, 0), (4, 0)] ?_
 refine gb0 [0] [(44, .map (some b3))] ?_
 refine ge_maplen (κ := Int) (ν := Int) (d := 45) (b := b3) (q := 1) (t := 112) (kt := 3) (et := 3) (ty := 3) (x := (.tmp 44)) (m := mp1) (by kernel_rfl) (by kernel_rfl) (by kernel_rfl) hS rfl ?_
 refine gb0 [2, 3, 4] [(48, .bool (decide ((mp1.length : Int) < (l0.length : Int)))), (47, vI (l0.length : Int)), (46, .slice A0 l0.length c0)] ?_
 refine gn hK19 ?_
 by_cases hc6 : (mp1.length : Int) < (l0.length : Int)
 ·rw [if_pos hc6] at h
  refine wk 48 (decide ((mp1.length : Int) < (l0.length : Int))) true (decide_eq_true hc6) ?_
  refine we_true (by kernel_rfl) ?_
  refine we_skip fun a hF => hK18 _ _ ?_ a hF
  refine we_block ?_
  refine ws fun K20 hK20 => ?_
  refine wr [(0, 0)] ?_
  refine gb0 [0] [(10, vI (-1))] ?_
  refine gn hK20 ?_
  refine ws fun K21 hK21 => ?_
  refine ws fun K22 hK22 => ?_
  refine wr [(0, 0), (1, 0), (2, 0), (3, 0)] ?_
  refine gb0 [0, 1, 2, 3] [(11, vI (IntKind.i64.wrap ((l0.length : Int) - 1))), (51, vI (IntKind.i64.wrap ((l0.length : Int) - 1))), (50, vI (l0.length : Int)), (49, .slice A0 l0.length c0)] ?_
  refine gn hK22 ?_
  refine we_block ?_
  have hS25 := hS.bring 1 rfl
  have hS26 := hS25.bring 1 rfl
  rcases hq7 : iter (punctualref_Assigned.r2 K l0 l1 mp1) K ((-1), IntKind.i64.wrap ((l0.length : Int) - 1)) with _ | (z4 | rr2)
  ·rw [hq7] at h; cases h
  ·rw [hq7] at h
   simp only [] at h
   refine we_iter (A := punctualref_Assigned.A2 w0 l0 A0 c0 l1 A1 c1 b1 b3 mp1) (B := punctualref_Assigned.B2 w0 l0 A0 c0 l1 A1 c1 b1 b3 mp1) hq7 (fun a hF => ⟨hS26, hF.weaken ea⟩) (fun s o hf a w hA Q hQ => punctualref_Assigned_r2 K w0 l0 A0 c0 l1 A1 c1 hR0 hL0 hR1 hL1 b1 r1 b2 hc1 hc2 b3 mp1 hc6 s o hf a w hA Q hQ) ?_
   rintro _ a w17 _ ⟨rfl, hS66, hF⟩
   replace hS66 : St w0 w17 [Own.blk b1 (.cells #[vI 0, vI 0] 26 (0, 0)), Own.map (κ := Int) (ν := Int) b3 mp1] := hS66
   refine hK21 [(0, .slice A0 l0.length c0), (1, .slice A1 l1.length c1), (5, pP b1 0), (9, .map (some b3)), (10, vI z4)] w17 ?_ a hF
   refine ws fun K37 hK37 => ?_
   refine ws fun K38 hK38 => ?_
   refine wr [(0, 0), (1, 0)] ?_
   refine gb0 [0, 1] [(94, .bool (decide (z4 < 0))), (93, vI z4)] ?_
   refine gn hK38 ?_
   by_cases hc15 : z4 < 0
   ·rw [if_pos hc15] at h
    refine wk 94 (decide (z4 < 0)) true (decide_eq_true hc15) ?_
    refine we_true (by kernel_rfl) ?_
    refine ws fun K39 hK39 => ?_
    refine wr [(0, 1), (1, 0), (2, 2)] ?_
    refine ge_call (d := some 95) (f := 21) (args := #[vI 13, vI 0]) (by kernel_rfl) (punctualref_F_ok 13 0 _ _ rfl) ?_
    rintro _ w18 ⟨rfl, hS67⟩
    refine ⟨_, rfl, hS67.below, ?_⟩
    have hS68 := hS66.call hS67
    refine gb0 [1] [(4, .slice none 0 0)] ?_
    refine gs b1 0 #[vI 0, vI 0] 26 [vI ((punctualref_F.f 13 0).Code), vI ((punctualref_F.f 13 0).At)] hS68 fun w19 hS69 => ?_
    have hS70 : St w0 w19 [Own.blk b1 (.cells #[vI ((punctualref_F.f 13 0).Code), vI ((punctualref_F.f 13 0).At)] 26 (0, 0)), Own.map (κ := Int) (ν := Int) b3 mp1] := hS69
    refine gn hK39 ?_
    have hS71 := hS70.nil (α := STask) 46
    have hS72 := hS71.takeN 1
    obtain rfl := si h
    exact we_ret fun a hF => hQ _ _ _ (Outs.out nofun (Exits.on ⟨rfl, (pr [.tmp 4, .cell 5 26] [(.slice none 0 0), .agg #[vI ((punctualref_F.f 13 0).Code), vI ((punctualref_F.f 13 0).At)]] [.loaded ⟨b1, 0, none⟩ (vI ((punctualref_F.f 13 0).Code)), .loaded ⟨b1, 1, none⟩ (vI ((punctualref_F.f 13 0).At))] ⟨hS71.c 1, hS71.c 1, trivial⟩ ⟨(.slice none 0 0), rfl, hS72⟩) a hF⟩))
   ·rw [if_neg hc15] at h
    refine wk 94 (decide (z4 < 0)) false (decide_eq_false hc15) ?_
    refine we_false (by kernel_rfl) ?_
    refine we_skip fun a hF => hK37 _ _ ?_ a hF
    refine wr [(0, 0), (1, 0), (2, 0), (3, 0), (4, 0), (5, 2)] ?_
    refine gb0 [0, 1, 2] [(98, .map (some b3)), (97, vI z4), (96, .map (some b3))] ?_
    refine ge_maplen (κ := Int) (ν := Int) (d := 99) (b := b3) (q := 1) (t := 112) (kt := 3) (et := 3) (ty := 3) (x := (.tmp 98)) (m := mp1) (by kernel_rfl) (by kernel_rfl) (by kernel_rfl) hS66 rfl ?_
    refine ge_addn (d := 100) (ty := 3) (x := (.tmp 99)) (y := (.const (vI 1))) (t := 3) (t2 := 3) (k := .i64) (m := mp1.length) (by kernel_rfl) (by kernel_rfl) (by kernel_rfl) (by have h0 := hR0.small; omega) ?_
    have hS73 := hS66.bring 1 rfl
    refine ge_mapSet (κ := Int) (ν := Int) (b := b3) (ins := false) (mm := 0) (t := 112) (kt := 3) (et := 3) (x := (.tmp 96)) (y := (.tmp 97)) (u := (.tmp 100)) (ty := 0) (m := mp1) (k := z4) (v := ((mp1.length + 1 : Nat) : Int)) (vv := vI ((mp1.length + 1 : Nat) : Int)) (by kernel_rfl) (by kernel_rfl) (by kernel_rfl) (by kernel_rfl) rfl (by kernel_rfl) (by kernel_rfl) hS73 fun w20 hS74 => ?_
    have hS75 := hS74.bring 1 rfl
    obtain rfl := si h
    exact ge_nil fun a hF => hQ _ _ _ (Outs.again ⟨hS75, hF.weaken ea⟩)
  ·rw [hq7] at h
   simp only [] at h
   refine we_iter (A := punctualref_Assigned.A2 w0 l0 A0 c0 l1 A1 c1 b1 b3 mp1) (B := punctualref_Assigned.B2 w0 l0 A0 c0 l1 A1 c1 b1 b3 mp1) hq7 (fun a hF => ⟨hS26, hF.weaken ea⟩) (fun s o hf a w hA Q hQ => punctualref_Assigned_r2 K w0 l0 A0 c0 l1 A1 c1 hR0 hL0 hR1 hL1 b1 r1 b2 hc1 hc2 b3 mp1 hc6 s o hf a w hA Q hQ) ?_
   rintro _ a w1 _ ⟨rfl, hb⟩
   obtain rfl := si h
   exact hQ _ _ _ (Outs.out nofun (Exits.on ⟨rfl, hb⟩))
 ·rw [if_neg hc6] at h
  refine wk 48 (decide ((mp1.length : Int) < (l0.length : Int))) false (decide_eq_false hc6) ?_
  refine we_false (by kernel_rfl) ?_
  have hS76 := hS.bring 1 rfl
  have hS77 := hS76.bring 1 rfl
  obtain rfl := si h
  exact we_exit fun a hF => hQ _ _ _ (Outs.out nofun (Exits.here ⟨hS77, hF.weaken ea⟩))
abbrev punctualref_Assigned.A4 (w0 : World) (l0 : List STask) (b1 : Nat) (b3 : Nat) (mp3 : List (Int × Int)) (Z2 : Option Addr) (cz2 : Nat) : (Nat × (List STask)) → Act → World → Prop := fun (s : Nat × (List STask)) a w => St w0 w [Own.blk b1 (.cells #[vI 0, vI 0] 26 (0, 0)), Own.of (.slice Z2 s.2.length cz2) 46 s.2, Own.map (κ := Int) (ν := Int) b3 mp3] ∧ Frm 119 a [(5, pP b1 0), (9, .map (some b3)), (15, (.slice Z2 s.2.length cz2)), (105, vI (l0.length : Int)), (106, vI (s.1 : Int))]
abbrev punctualref_Assigned.B4 (w0 : World) (b1 : Nat) (Z2 : Option Addr) (cz2 : Nat) : ((List STask) ⊕ ((List STask) × SFault)) → Exit → Act → World → Prop := Exits 8 (fun (s : (List STask)) a w => St w0 w [Own.blk b1 (.cells #[vI 0, vI 0] 26 (0, 0)), Own.of (.slice Z2 s.length cz2) 46 s] ∧ Frm 119 a [(5, pP b1 0), (15, (.slice Z2 s.length cz2))]) (Rets Tryd.prog Tryd.f58 (punctualref_Assigned.Post w0))
theorem punctualref_Assigned_r4 (K : Nat) (w0 : World) (l0 : List STask) (A0 : Option Addr) (c0 : Nat) (l1 : List Int) (A1 : Option Addr) (c1 : Nat) (hR0 : RdL w0 A0 l0) (hL0 : l0.length ≤ c0) (hR1 : RdL w0 A1 l1) (hL1 : l1.length ≤ c1) (b1 : Nat) (r1 : SFault) (b2 : Nat) (hc1 : r1.Code = 0) (hc2 : (l1.length : Int) = (l0.length : Int)) (b3 : Nat) (mp3 : List (Int × Int)) (b6 : Nat) (hc16 : 0 + l0.length ≤ 2199023255552) (Z2 : Option Addr) (cz2 : Nat) (s : Nat × (List STask)) (o : (Nat × (List STask)) ⊕ ((List STask) ⊕ ((List STask) × SFault))) (h : punctualref_Assigned.r4 l0 mp3 s = some o) (a : Act) (w : World) (hA : punctualref_Assigned.A4 w0 l0 b1 b3 mp3 Z2 cz2 s a w) (Q : Exit → Act → World → Prop) (hQ : ∀ x a w, Outs (punctualref_Assigned.A4 w0 l0 b1 b3 mp3 Z2 cz2) (punctualref_Assigned.B4 w0 b1 Z2 cz2) o x a w → Q x a w) : (subF Tryd.f58 [1, 1, 1, 1, 1, 1, 1, 0, 1, 0, 0]).wp Tryd.prog Q a w := by
 obtain ⟨i3, m4⟩ := s
 obtain ⟨hS, hF⟩ := hA
 replace hS : St w0 w [Own.blk b1 (.cells #[vI 0, vI 0] 26 (0, 0)), Own.of (.slice Z2 m4.length cz2) 46 m4, Own.map (κ := Int) (ν := Int) b3 mp3] := hS
 simp only [punctualref_Assigned.r4] at h
 refine (?_ : WE Tryd.prog 119 (subF Tryd.f58 [1, 1, 1, 1, 1, 1, 1, 0, 1, 0, 0]) Q [(5, pP b1 0), (9, .map (some b3)), (15, (.slice Z2 m4.length cz2)), (105, vI (l0.length : Int)), (106, vI (i3 : Int))] w) a hF
 clear hF a
 refine ws fun K43 hK43 => ?_
 refine wr [(0, 0)] ?_
 refine gb0 [0] [(107, .bool (decide ((i3 : Int) < (l0.length : Int))))] ?_
 refine gn hK43 ?_
 refine ws fun K44 hK44 => ?_
 by_cases hc17 : (i3 : Int) < (l0.length : Int)
 ·rw [if_pos hc17] at h
  refine wk 107 (decide ((i3 : Int) < (l0.length : Int))) true (decide_eq_true hc17) ?_
  refine we_true (by kernel_rfl) ?_
  refine we_skip fun a hF => hK44 _ _ ?_ a hF
  refine ws fun K45 hK45 => ?_
  refine we_block ?_
  refine ws fun K46 hK46 => ?_
  refine wr [(0, 0), (1, 0)] ?_
  refine gb0 [0, 1] [(16, vI (i3 : Int)), (108, vI (i3 : Int))] ?_
  refine gn hK46 ?_
  refine wr [(0, 0), (1, 0), (2, 0), (3, 0), (4, 0), (5, 0), (6, 0), (7, 2)] ?_
  refine gb0 [0, 1, 2, 3] [(112, vI (i3 : Int)), (111, .map (some b3)), (110, vI (i3 : Int)), (109, (.slice Z2 m4.length cz2))] ?_
  refine ge_lookup (κ := Int) (ν := Int) (d := 113) (b := b3) (q := 2) (t := 112) (kt := 3) (et := 3) (x := (.tmp 111)) (y := (.tmp 112)) (ty := 3) (m := mp3) (k := (i3 : Int)) (z := 0) (v := ((mget mp3 (i3 : Int)).getD 0)) (zv := vI 0) (vv := vI ((mget mp3 (i3 : Int)).getD 0)) (by kernel_rfl) (by kernel_rfl) (by kernel_rfl) (by kernel_rfl) (by kernel_rfl) (fun w' => by kernel_rfl) rfl hS rfl rfl rfl ?_
  rcases hx11 : m4[i3]? with _ | e5
  ·rw [hx11] at h; cases h
  rw [hx11] at h
  simp only [] at h
  refine gi 114 0 40 46 7 m4.length cz2 (.tmp 109) (.tmp 110) Z2 .i64 (i3 : Int) i3 ((hS.rdAt 1 rfl).eqSome (pos_of_get hx11)) rfl (lt_of_get hx11) ?_
  refine gb0 [6] [(115, .pointer (some ⟨blkOf Z2, offOf Z2 + i3 * 7 + 6, none⟩))] ?_
  have hS86 := hS.bring 1 rfl
  refine ge_seti (α := STask) (A := Z2) (nn := m4.length) (c := cz2) (t := 46) (l := m4) (x := e5) (x' := (⟨e5.Name, e5.C, e5.T, e5.D, e5.J, e5.O, ((mget mp3 (i3 : Int)).getD 0)⟩ : STask)) (jn := i3) (j := 6) (vs := [vI ((mget mp3 (i3 : Int)).getD 0)]) (l' := [.stored ⟨blkOf Z2, offOf Z2 + i3 * 7 + 6, none⟩ (vI ((mget mp3 (i3 : Int)).getD 0))]) hS86 (by kernel_rfl) (by kernel_rfl) hx11 rfl rfl rfl fun w24 hS87 => ?_
  have hS88 : St w0 w24 [Own.of (.slice Z2 m4.length cz2) 46 (m4.set i3 (⟨e5.Name, e5.C, e5.T, e5.D, e5.J, e5.O, ((mget mp3 (i3 : Int)).getD 0)⟩ : STask)), Own.blk b1 (.cells #[vI 0, vI 0] 26 (0, 0)), Own.map (κ := Int) (ν := Int) b3 mp3] := hS87
  have hE1 : m4.length = (m4.set i3 (⟨e5.Name, e5.C, e5.T, e5.D, e5.J, e5.O, ((mget mp3 (i3 : Int)).getD 0)⟩ : STask)).length := hS88.lenAt 0 rfl
  have hS89 : St w0 w24 [Own.of (.slice Z2 (m4.set i3 (⟨e5.Name, e5.C, e5.T, e5.D, e5.J, e5.O, ((mget mp3 (i3 : Int)).getD 0)⟩ : STask)).length cz2) 46 (m4.set i3 (⟨e5.Name, e5.C, e5.T, e5.D, e5.J, e5.O, ((mget mp3 (i3 : Int)).getD 0)⟩ : STask)), Own.blk b1 (.cells #[vI 0, vI 0] 26 (0, 0)), Own.map (κ := Int) (ν := Int) b3 mp3] := by rw [← hE1]; exact hS88
  refine ge_same (t := 15) (v := (.slice Z2 m4.length cz2)) (v' := (.slice Z2 (m4.set i3 (⟨e5.Name, e5.C, e5.T, e5.D, e5.J, e5.O, ((mget mp3 (i3 : Int)).getD 0)⟩ : STask)).length cz2)) (by kernel_rfl) (by rw [hE1]) ?_
  refine ge_same (t := 109) (v := (.slice Z2 m4.length cz2)) (v' := (.slice Z2 (m4.set i3 (⟨e5.Name, e5.C, e5.T, e5.D, e5.J, e5.O, ((mget mp3 (i3 : Int)).getD 0)⟩ : STask)).length cz2)) (by kernel_rfl) (by rw [hE1]) ?_
  refine gn hK45 ?_
  refine wr [(0, 0), (1, 0)] ?_
  refine ge_addn (d := 116) (ty := 3) (x := (.tmp 106)) (y := (.const (vI 1))) (t := 3) (t2 := 3) (k := .i64) (m := i3) (by kernel_rfl) (by kernel_rfl) (by kernel_rfl) (by have h0 := hR0.small; omega) ?_
  refine gb0 [1] [(106, vI ((i3 + 1 : Nat) : Int))] ?_
  have hS90 := hS89.bring 2 rfl
  have hS91 := hS90.bring 1 rfl
  have hS92 := hS91.bring 2 rfl
  obtain rfl := si h
  exact ge_nil fun a hF => hQ _ _ _ (Outs.again ⟨hS92, hF.weaken ea⟩)
 ·rw [if_neg hc17] at h
  refine wk 107 (decide ((i3 : Int) < (l0.length : Int))) false (decide_eq_false hc17) ?_
  refine we_false (by kernel_rfl) ?_
  have hS93 := hS.bring 1 rfl
  have hS94 := hS93.bring 1 rfl
  have hS95 := hS94.takeN 2
  obtain rfl := si h
  exact we_exit fun a hF => hQ _ _ _ (Outs.out nofun (Exits.here ⟨hS95, hF.weaken ea⟩))
theorem punctualref_Assigned_ok (K : Nat) (l0 : List STask) (A0 : Option Addr) (c0 : Nat) (l1 : List Int) (A1 : Option Addr) (c1 : Nat) (w0 : World) (hR0 : RdL w0 A0 l0) (hL0 : l0.length ≤ c0) (hR1 : RdL w0 A1 l1) (hL1 : l1.length ≤ c1) (r : (List STask) × SFault) (h : punctualref_Assigned.f K l0 l1 = some r) :
  Calls Tryd.prog 58 #[.slice A0 l0.length c0, .slice A1 l1.length c1] w0 (punctualref_Assigned.Post w0 r) := by
 have hS := St.start w0
 unfold punctualref_Assigned.f at h
 refine calls_enter (n := 119) (args := [.slice A0 l0.length c0, .slice A1 l1.length c1]) (fn := Tryd.f58) rfl rfl rfl rfl ?_
 show WE _ _ _ _ [(0, .slice A0 l0.length c0), (1, .slice A1 l1.length c1)] _
 refine ws fun K1 hK1 => ?_
 refine wr [(0, 0), (1, 1)] ?_
 refine gb0 [0] [(4, .slice none 0 0)] ?_
 refine gw (some 5) (.cells #[vI 0, vI 0] 26) (fun b => pP b 0) hS fun b1 w1 hx1 hS1 => ?_
 refine gn hK1 ?_
 refine ws fun K2 hK2 => ?_
 refine ws fun K3 hK3 => ?_
 refine wr [(0, 0), (1, 1), (2, 1), (3, 2)] ?_
 rcases hq1 : punctualref_CheckFixed.f K l0 with _ | r1
 ·rw [hq1] at h; cases h
 rw [hq1] at h
 simp only [] at h
 refine gb0 [0] [(17, .slice A0 l0.length c0)] ?_
 refine ge_call (d := some 18) (f := 76) (args := #[.slice A0 l0.length c0]) (by kernel_rfl) (punctualref_CheckFixed_ok K l0 A0 c0 _ (hS1.rd hR0) hL0 _ hq1) ?_
 rintro _ w2 ⟨rfl, hS2⟩
 refine ⟨_, rfl, hS2.below, ?_⟩
 have hS3 := hS1.call hS2
 refine gw (some 6) (.cells #[vI 0, vI 0] 26) (fun b => pP b 0) hS3 fun b2 w3 hx2 hS4 => ?_
 refine gs b2 0 #[vI 0, vI 0] 26 [vI r1.Code, vI r1.At] hS4 fun w4 hS5 => ?_
 have hS6 : St w0 w4 [Own.blk b2 (.cells #[vI r1.Code, vI r1.At] 26 (0, 0)), Own.blk b1 (.cells #[vI 0, vI 0] 26 (0, 0))] := hS5
 refine gn hK3 ?_
 refine ws fun K4 hK4 => ?_
 refine wr [(0, 0), (1, 0), (2, 0)] ?_
 refine gb [0, 1, 2] [(21, .bool (r1.Code != 0)), (20, vI r1.Code), (19, pP b2 0)] [.loaded ⟨b2, 0, none⟩ (vI r1.Code)] ⟨hS6.c 0, trivial⟩ ?_
 refine gn hK4 ?_
 by_cases hc1 : r1.Code = 0
 ·rw [if_pos hc1] at h
  refine wk 21 (r1.Code != 0) false (bne_eq_false_iff_eq.2 hc1) ?_
  refine we_false (by kernel_rfl) ?_
  refine we_skip fun a hF => hK2 _ _ ?_ a hF
  refine ws fun K5 hK5 => ?_
  refine ws fun K6 hK6 => ?_
  refine wr [(0, 0), (1, 0), (2, 0), (3, 0), (4, 0)] ?_
  refine gb0 [0, 1, 2, 3, 4] [(27, .bool ((l1.length : Int) != (l0.length : Int))), (26, vI (l0.length : Int)), (25, .slice A0 l0.length c0), (24, vI (l1.length : Int)), (23, .slice A1 l1.length c1)] ?_
  refine gn hK6 ?_
  by_cases hc2 : (l1.length : Int) = (l0.length : Int)
  ·rw [if_pos hc2] at h
   refine wk 27 ((l1.length : Int) != (l0.length : Int)) false (bne_eq_false_iff_eq.2 hc2) ?_
   refine we_false (by kernel_rfl) ?_
   refine we_skip fun a hF => hK5 _ _ ?_ a hF
   refine ws fun K7 hK7 => ?_
   refine ws fun K8 hK8 => ?_
   refine wr [(0, 0), (1, 0), (2, 0)] ?_
   refine gb0 [0, 1, 2] [(31, vI 0), (30, vI (l1.length : Int)), (29, .slice A1 l1.length c1)] ?_
   refine gn hK8 ?_
   refine we_block ?_
   have hS7 := hS6.bring 1 rfl
   have hS8 := hS7.takeN 1
   rcases hq4 : iter (punctualref_Assigned.r0 l1) K 0 with _ | (_ | rr5)
   ·rw [hq4] at h; cases h
   ·rw [hq4] at h
    simp only [] at h
    refine we_iter (A := punctualref_Assigned.A0 w0 l0 A0 c0 l1 A1 c1 b1) (B := punctualref_Assigned.B0 w0 l0 A0 c0 l1 A1 c1 b1) hq4 (fun a hF => ⟨hS8, hF.weaken ea⟩) (fun s o hf a w hA Q hQ => punctualref_Assigned_r0 K w0 l0 A0 c0 l1 A1 c1 hR0 hL0 hR1 hL1 b1 r1 b2 hc1 hc2 s o hf a w hA Q hQ) ?_
    rintro _ a w9 _ ⟨rfl, hS21, hF⟩
    replace hS21 : St w0 w9 [Own.blk b1 (.cells #[vI 0, vI 0] 26 (0, 0))] := hS21
    refine hK7 [(0, .slice A0 l0.length c0), (1, .slice A1 l1.length c1), (5, pP b1 0)] w9 ?_ a hF
    refine ws fun K16 hK16 => ?_
    refine wr [(0, 1), (1, 0)] ?_
    refine gw (some 43) (.map #[] 0) (fun b => .map (some b)) hS21 fun b3 w10 hx4 hS22 => ?_
    have hS23 := hS22.newMap (κ := Int) (ν := Int)
    refine gb0 [1] [(9, .map (some b3))] ?_
    refine gn hK16 ?_
    refine ws fun K17 hK17 => ?_
    refine we_block ?_
    have hS24 := hS23.bring 1 rfl
    rcases hq9 : iter (punctualref_Assigned.r1 K l0 l1) K ([] : List (Int × Int)) with _ | (mp3 | rr4)
    ·rw [hq9] at h; cases h
    ·rw [hq9] at h
     simp only [] at h
     refine we_iter (A := punctualref_Assigned.A1 w0 l0 A0 c0 l1 A1 c1 b1 b3) (B := punctualref_Assigned.B1 w0 l0 A0 c0 b1 b3) hq9 (fun a hF => ⟨hS24, hF.weaken ea⟩) (fun s o hf a w hA Q hQ => punctualref_Assigned_r1 K w0 l0 A0 c0 l1 A1 c1 hR0 hL0 hR1 hL1 b1 r1 b2 hc1 hc2 b3 s o hf a w hA Q hQ) ?_
     rintro _ a w21 _ ⟨rfl, hS78, hF⟩
     replace hS78 : St w0 w21 [Own.blk b1 (.cells #[vI 0, vI 0] 26 (0, 0)), Own.map (κ := Int) (ν := Int) b3 mp3] := hS78
     refine hK17 [(0, .slice A0 l0.length c0), (5, pP b1 0), (9, .map (some b3))] w21 ?_ a hF
     refine ws fun K40 hK40 => ?_
     refine wr [(0, 1), (1, 0), (2, 2), (3, 0)] ?_
     refine gw (some 101) (.cells #[] 46) (fun b => .slice (some ⟨b, 0, none⟩) 0 0) hS78 fun b6 w22 hx10 hS79 => ?_
     refine gb0 [1] [(102, .slice A0 l0.length c0)] ?_
     have hS80 := hS79.asRow (α := STask) (c := 0) ([] : List STask) (Nat.le_refl _) (by decide) rfl rfl
     by_cases hc16 : 0 + l0.length ≤ 2199023255552
     ·rw [if_pos hc16] at h
      refine ge_appendL (α := STask) (m := 0) (d := 103) (t := 40) (el := 46) (bytes := 64) (c1 := c0) (A1 := A0) (x := (.tmp 101)) (y := (.tmp 102)) (ty := 40) (v := (.slice (some ⟨b6, 0, none⟩) 0 0)) (z := .agg #[.string (⟨#[]⟩), vI 0, vI 0, vI 0, vI 0, vI 0, vI 0]) (l := ([] : List STask)) (us := l0) (by kernel_rfl) (by kernel_rfl) (by kernel_rfl) (by kernel_rfl) (by kernel_rfl) rfl hS80 (hS80.rd hR0) rfl (Nat.mul_le_of_le_div _ _ _ hc16) fun v5 w23 hS81 => ?_
      have hS82 : St w0 w23 [Own.of v5 46 l0, Own.blk b1 (.cells #[vI 0, vI 0] 26 (0, 0)), Own.map (κ := Int) (ν := Int) b3 mp3] := hS81
      refine gb0 [3] [(15, v5)] ?_
      refine gn hK40 ?_
      refine ws fun K41 hK41 => ?_
      refine ws fun K42 hK42 => ?_
      refine wr [(0, 0), (1, 0), (2, 0)] ?_
      refine gb0 [0] [(104, v5)] ?_
      obtain ⟨Z2, cz2, rfl⟩ := hS82.open 0 rfl
      refine gb0 [1, 2] [(106, vI 0), (105, vI (l0.length : Int))] ?_
      refine gn hK42 ?_
      refine we_block ?_
      have hS83 := hS82.bring 2 rfl
      have hS84 := hS83.bring 1 rfl
      have hS85 := hS84.bring 2 rfl
      rcases hq10 : iter (punctualref_Assigned.r4 l0 mp3) K (0, l0) with _ | (m6 | rr3)
      ·rw [hq10] at h; cases h
      ·rw [hq10] at h
       simp only [] at h
       refine we_iter (A := punctualref_Assigned.A4 w0 l0 b1 b3 mp3 Z2 cz2) (B := punctualref_Assigned.B4 w0 b1 Z2 cz2) hq10 (fun a hF => ⟨hS85, hF.weaken ea⟩) (fun s o hf a w hA Q hQ => punctualref_Assigned_r4 K w0 l0 A0 c0 l1 A1 c1 hR0 hL0 hR1 hL1 b1 r1 b2 hc1 hc2 b3 mp3 b6 hc16 Z2 cz2 s o hf a w hA Q hQ) ?_
       rintro _ a w25 _ ⟨rfl, hS96, hF⟩
       replace hS96 : St w0 w25 [Own.blk b1 (.cells #[vI 0, vI 0] 26 (0, 0)), Own.of (.slice Z2 m6.length cz2) 46 m6] := hS96
       refine hK41 [(5, pP b1 0), (15, (.slice Z2 m6.length cz2))] w25 ?_ a hF
       refine ws fun K47 hK47 => ?_
       refine wr [(0, 0), (1, 0), (2, 0), (3, 2)] ?_
       refine gb0 [0, 1, 2] [(4, (.slice Z2 m6.length cz2)), (118, .agg #[vI 0, vI 0]), (117, (.slice Z2 m6.length cz2))] ?_
       refine gs b1 0 #[vI 0, vI 0] 26 [vI 0, vI 0] hS96 fun w26 hS97 => ?_
       have hS98 : St w0 w26 [Own.blk b1 (.cells #[vI 0, vI 0] 26 (0, 0)), Own.of (.slice Z2 m6.length cz2) 46 m6] := hS97
       refine gn hK47 ?_
       have hS99 := hS98.bring 1 rfl
       have hS100 := hS99.takeN 1
       obtain rfl := si h
       exact we_ret (pr [.tmp 4, .cell 5 26] [(.slice Z2 m6.length cz2), .agg #[vI 0, vI 0]] [.loaded ⟨b1, 0, none⟩ (vI 0), .loaded ⟨b1, 1, none⟩ (vI 0)] ⟨hS98.c 0, hS98.c 0, trivial⟩ ⟨(.slice Z2 m6.length cz2), rfl, hS100⟩)
      ·rw [hq10] at h
       simp only [] at h
       refine we_iter (A := punctualref_Assigned.A4 w0 l0 b1 b3 mp3 Z2 cz2) (B := punctualref_Assigned.B4 w0 b1 Z2 cz2) hq10 (fun a hF => ⟨hS85, hF.weaken ea⟩) (fun s o hf a w hA Q hQ => punctualref_Assigned_r4 K w0 l0 A0 c0 l1 A1 c1 hR0 hL0 hR1 hL1 b1 r1 b2 hc1 hc2 b3 mp3 b6 hc16 Z2 cz2 s o hf a w hA Q hQ) ?_
       rintro _ a w1 _ ⟨rfl, hb⟩
       obtain rfl := si h
       exact hb
     ·rw [if_neg hc16] at h
      cases h
    ·rw [hq9] at h
     simp only [] at h
     refine we_iter (A := punctualref_Assigned.A1 w0 l0 A0 c0 l1 A1 c1 b1 b3) (B := punctualref_Assigned.B1 w0 l0 A0 c0 b1 b3) hq9 (fun a hF => ⟨hS24, hF.weaken ea⟩) (fun s o hf a w hA Q hQ => punctualref_Assigned_r1 K w0 l0 A0 c0 l1 A1 c1 hR0 hL0 hR1 hL1 b1 r1 b2 hc1 hc2 b3 s o hf a w hA Q hQ) ?_
     rintro _ a w1 _ ⟨rfl, hb⟩
     obtain rfl := si h
     exact hb
   ·rw [hq4] at h
    simp only [] at h
    refine we_iter (A := punctualref_Assigned.A0 w0 l0 A0 c0 l1 A1 c1 b1) (B := punctualref_Assigned.B0 w0 l0 A0 c0 l1 A1 c1 b1) hq4 (fun a hF => ⟨hS8, hF.weaken ea⟩) (fun s o hf a w hA Q hQ => punctualref_Assigned_r0 K w0 l0 A0 c0 l1 A1 c1 hR0 hL0 hR1 hL1 b1 r1 b2 hc1 hc2 s o hf a w hA Q hQ) ?_
    rintro _ a w1 _ ⟨rfl, hb⟩
    obtain rfl := si h
    exact hb
  ·rw [if_neg hc2] at h
   refine wk 27 ((l1.length : Int) != (l0.length : Int)) true (bne_iff_ne.2 hc2) ?_
   refine we_true (by kernel_rfl) ?_
   refine ws fun K48 hK48 => ?_
   refine wr [(0, 1), (1, 0), (2, 2)] ?_
   refine ge_call (d := some 28) (f := 21) (args := #[vI 2, vI 0]) (by kernel_rfl) (punctualref_F_ok 2 0 _ _ rfl) ?_
   rintro _ w27 ⟨rfl, hS101⟩
   refine ⟨_, rfl, hS101.below, ?_⟩
   have hS102 := hS6.call hS101
   refine gb0 [1] [(4, .slice none 0 0)] ?_
   have hS103 := hS102.bring 1 rfl
   refine gs b1 0 #[vI 0, vI 0] 26 [vI ((punctualref_F.f 2 0).Code), vI ((punctualref_F.f 2 0).At)] hS103 fun w28 hS104 => ?_
   have hS105 : St w0 w28 [Own.blk b1 (.cells #[vI ((punctualref_F.f 2 0).Code), vI ((punctualref_F.f 2 0).At)] 26 (0, 0)), Own.blk b2 (.cells #[vI r1.Code, vI r1.At] 26 (0, 0))] := hS104
   refine gn hK48 ?_
   have hS106 := hS105.nil (α := STask) 46
   have hS107 := hS106.takeN 1
   obtain rfl := si h
   exact we_ret (pr [.tmp 4, .cell 5 26] [(.slice none 0 0), .agg #[vI ((punctualref_F.f 2 0).Code), vI ((punctualref_F.f 2 0).At)]] [.loaded ⟨b1, 0, none⟩ (vI ((punctualref_F.f 2 0).Code)), .loaded ⟨b1, 1, none⟩ (vI ((punctualref_F.f 2 0).At))] ⟨hS106.c 1, hS106.c 1, trivial⟩ ⟨(.slice none 0 0), rfl, hS107⟩)
 ·rw [if_neg hc1] at h
  refine wk 21 (r1.Code != 0) true (bne_iff_ne.2 hc1) ?_
  refine we_true (by kernel_rfl) ?_
  refine ws fun K49 hK49 => ?_
  refine we_draws (by kernel_rfl) [(0, 0), (1, 0), (2, 2)] (by kernel_rfl) ?_
  have hS108 := hS6.drew
  refine gb [0, 1] [(4, .slice none 0 0), (22, .agg #[vI r1.Code, vI r1.At])] [.loaded ⟨b2, 0, none⟩ (vI r1.Code), .loaded ⟨b2, 1, none⟩ (vI r1.At)] ⟨hS108.c 0, hS108.c 0, trivial⟩ ?_
  have hS109 := hS108.bring 1 rfl
  refine gs b1 0 #[vI 0, vI 0] 26 [vI r1.Code, vI r1.At] hS109 fun w29 hS110 => ?_
  have hS111 : St w0 w29 [Own.blk b1 (.cells #[vI r1.Code, vI r1.At] 26 (0, 0)), Own.blk b2 (.cells #[vI r1.Code, vI r1.At] 26 (0, 0))] := hS110
  refine gn hK49 ?_
  have hS112 := hS111.nil (α := STask) 46
  have hS113 := hS112.takeN 1
  obtain rfl := si h
  exact we_ret (pr [.tmp 4, .cell 5 26] [(.slice none 0 0), .agg #[vI r1.Code, vI r1.At]] [.loaded ⟨b1, 0, none⟩ (vI r1.Code), .loaded ⟨b1, 1, none⟩ (vI r1.At)] ⟨hS112.c 1, hS112.c 1, trivial⟩ ⟨(.slice none 0 0), rfl, hS113⟩)

/-! punctual/punctualsame.Still[punctual/api.Task] -/
abbrev punctualsame_Still_api_Task.Post (w0 : World) (r : Bool) (e : Ending) (w : World) : Prop := e = .returned (.bool r) ∧ St w0 w []
def punctualsame_Still_api_Task.r0 (f0 : List STask) (l1 : List STask) (x2 : STask) : Nat → Option (Nat ⊕ (Unit ⊕ Bool))
 | i1 =>
  if (i1 : Int) < (f0.length : Int) then
   match f0[i1]? with
   | none => none
   | some e1 =>
    if (i1 : Int) < (l1.length : Int) then
     match l1[i1]? with
     | none => none
     | some e2 =>
      if (STask.eqb e1 e2) = true then
       if (i1 : Int) ≥ (l1.length : Int) then
        if (STask.eqb e1 x2) = true then
         some (.inl (i1 + 1))
        else
         some (.inr (.inr false))
       else
        some (.inl (i1 + 1))
      else
       some (.inr (.inr false))
    else
     if (i1 : Int) ≥ (l1.length : Int) then
      if (STask.eqb e1 x2) = true then
       some (.inl (i1 + 1))
      else
       some (.inr (.inr false))
     else
      some (.inl (i1 + 1))
  else
   some (.inr (.inl ()))
def punctualsame_Still_api_Task.f (K : Nat) (f0 : List STask) (l1 : List STask) (x2 : STask) : Option Bool :=
 if (IntKind.i64.wrap ((l1.length : Int) + 3)) = (f0.length : Int) then
  match iter (punctualsame_Still_api_Task.r0 f0 l1 x2) K 0 with
  | none => none
  | some (.inl _) =>
   some true
  | some (.inr rr1) =>
   some rr1
 else
  none
abbrev punctualsame_Still_api_Task.A0 (w0 : World) (f0 : List STask) (A0 : Option Addr) (c0 : Nat) (l1 : List STask) (A1 : Option Addr) (c1 : Nat) (x2 : STask) (b1 : Nat) : Nat → Act → World → Prop := fun (s : Nat) a w => St w0 w [Own.blk b1 (.cells #[.string x2.Name, vI x2.C, vI x2.T, vI x2.D, vI x2.J, vI x2.O, vI x2.P] 46 (0, 0))] ∧ Frm 46 a [(1, .slice A1 l1.length c1), (5, pP b1 0), (15, .slice A0 f0.length c0), (16, vI (f0.length : Int)), (17, vI (s : Int))]
abbrev punctualsame_Still_api_Task.B0 (w0 : World) : (Unit ⊕ Bool) → Exit → Act → World → Prop := Exits 0 (fun (s : Unit) a w => St w0 w [] ∧ Frm 46 a []) (Rets Tryd.prog Tryd.f24 (punctualsame_Still_api_Task.Post w0))
theorem punctualsame_Still_api_Task_r0 (K : Nat) (w0 : World) (f0 : List STask) (A0 : Option Addr) (n0 : Nat) (c0 : Nat) (l1 : List STask) (A1 : Option Addr) (c1 : Nat) (x2 : STask) (hR0 : RdL w0 A0 f0) (hc0 : f0.length ≤ c0) (hR1 : RdL w0 A1 l1) (hL1 : l1.length ≤ c1) (b1 : Nat) (hc1 : (IntKind.i64.wrap ((l1.length : Int) + 3)) = (f0.length : Int)) (s : Nat) (o : Nat ⊕ (Unit ⊕ Bool)) (h : punctualsame_Still_api_Task.r0 f0 l1 x2 s = some o) (a : Act) (w : World) (hA : punctualsame_Still_api_Task.A0 w0 f0 A0 c0 l1 A1 c1 x2 b1 s a w) (Q : Exit → Act → World → Prop) (hQ : ∀ x a w, Outs (punctualsame_Still_api_Task.A0 w0 f0 A0 c0 l1 A1 c1 x2 b1) (punctualsame_Still_api_Task.B0 w0) o x a w → Q x a w) : (subF Tryd.f24 [1, 1, 0, 1, 0, 0]).wp Tryd.prog Q a w := by
 obtain ⟨i1, hs⟩ : ∃ z, z = s := ⟨s, rfl⟩
 subst hs
 obtain ⟨hS, hF⟩ := hA
 replace hS : St w0 w [Own.blk b1 (.cells #[.string x2.Name, vI x2.C, vI x2.T, vI x2.D, vI x2.J, vI x2.O, vI x2.P] 46 (0, 0))] := hS
 simp only [punctualsame_Still_api_Task.r0] at h
 refine (?_ : WE Tryd.prog 46 (subF Tryd.f24 [1, 1, 0, 1, 0, 0]) Q [(1, .slice A1 l1.length c1), (5, pP b1 0), (15, .slice A0 f0.length c0), (16, vI (f0.length : Int)), (17, vI (i1 : Int))] w) a hF
 clear hF a
 refine ws fun K5 hK5 => ?_
 refine wr [(0, 0)] ?_
 refine gb0 [0] [(18, .bool (decide ((i1 : Int) < (f0.length : Int))))] ?_
 refine gn hK5 ?_
 refine ws fun K6 hK6 => ?_
 by_cases hc2 : (i1 : Int) < (f0.length : Int)
 ·rw [if_pos hc2] at h
  refine wk 18 (decide ((i1 : Int) < (f0.length : Int))) true (decide_eq_true hc2) ?_
  refine we_true (by kernel_rfl) ?_
  refine we_skip fun a hF => hK6 _ _ ?_ a hF
  refine ws fun K7 hK7 => ?_
  refine we_block ?_
  refine ws fun K8 hK8 => ?_
  refine wr [(0, 0), (1, 0), (2, 0), (3, 1), (4, 0), (5, 2)] ?_
  refine gb0 [0] [(19, vI (i1 : Int))] ?_
  rcases hx2 : f0[i1]? with _ | e1
  ·rw [hx2] at h; cases h
  rw [hx2] at h
  simp only [] at h
  refine gi 20 0 40 46 7 f0.length c0 (.tmp 15) (.tmp 17) A0 .i64 (i1 : Int) i1 ((hS.rd hR0).eqSome (pos_of_get hx2)) rfl (lt_of_get hx2) ?_
  refine gb [2] [(21, .agg #[.string e1.Name, vI e1.C, vI e1.T, vI e1.D, vI e1.J, vI e1.O, vI e1.P])] [.loaded ⟨blkOf A0, offOf A0 + i1 * 7, none⟩ (.string e1.Name), .loaded ⟨blkOf A0, offOf A0 + i1 * 7 + 1, none⟩ (vI e1.C), .loaded ⟨blkOf A0, offOf A0 + i1 * 7 + 2, none⟩ (vI e1.T), .loaded ⟨blkOf A0, offOf A0 + i1 * 7 + 3, none⟩ (vI e1.D), .loaded ⟨blkOf A0, offOf A0 + i1 * 7 + 4, none⟩ (vI e1.J), .loaded ⟨blkOf A0, offOf A0 + i1 * 7 + 5, none⟩ (vI e1.O), .loaded ⟨blkOf A0, offOf A0 + i1 * 7 + 6, none⟩ (vI e1.P)] ⟨RdL.cell (j := 0) (hS.rd hR0) hx2 rfl, RdL.cell (j := 1) (hS.rd hR0) hx2 rfl, RdL.cell (j := 2) (hS.rd hR0) hx2 rfl, RdL.cell (j := 3) (hS.rd hR0) hx2 rfl, RdL.cell (j := 4) (hS.rd hR0) hx2 rfl, RdL.cell (j := 5) (hS.rd hR0) hx2 rfl, RdL.cell (j := 6) (hS.rd hR0) hx2 rfl, trivial⟩ ?_
  refine gw (some 9) (.cells #[.string (⟨#[]⟩), vI 0, vI 0, vI 0, vI 0, vI 0, vI 0] 46) (fun b => pP b 0) hS fun b2 w2 hx3 hS2 => ?_
  refine gb0 [4] [(8, vI (i1 : Int))] ?_
  refine gs b2 0 #[.string (⟨#[]⟩), vI 0, vI 0, vI 0, vI 0, vI 0, vI 0] 46 [.string e1.Name, vI e1.C, vI e1.T, vI e1.D, vI e1.J, vI e1.O, vI e1.P] hS2 fun w3 hS3 => ?_
  have hS4 : St w0 w3 [Own.blk b2 (.cells #[.string e1.Name, vI e1.C, vI e1.T, vI e1.D, vI e1.J, vI e1.O, vI e1.P] 46 (0, 0)), Own.blk b1 (.cells #[.string x2.Name, vI x2.C, vI x2.T, vI x2.D, vI x2.J, vI x2.O, vI x2.P] 46 (0, 0))] := hS3
  refine gn hK8 ?_
  refine ws fun K9 hK9 => ?_
  refine we_draws (by kernel_rfl) [(0, 0), (1, 0), (2, 0), (3, 0), (4, 0), (5, 0), (6, 0), (7, 0), (8, 0), (9, 0), (10, 0), (11, 0), (12, 0), (13, 0), (14, 0), (15, 0), (16, 0), (17, 0), (18, 0), (19, 0), (20, 0), (21, 0), (22, 0)] (by kernel_rfl) ?_
  have hS5 := hS4.drew
  refine gb0 [0, 1, 2, 3, 4] [(26, .bool (decide ((i1 : Int) < (l1.length : Int)))), (25, .bool (decide ((i1 : Int) < (l1.length : Int)))), (24, vI (l1.length : Int)), (23, .slice A1 l1.length c1), (22, vI (i1 : Int))] ?_
  by_cases hc3 : (i1 : Int) < (l1.length : Int)
  ·rw [if_pos hc3] at h
   refine gk 26 (decide ((i1 : Int) < (l1.length : Int))) true (decide_eq_true hc3) ?_
   refine gb [5, 6, 7] [(29, vI (i1 : Int)), (28, .slice A1 l1.length c1), (27, .agg #[.string e1.Name, vI e1.C, vI e1.T, vI e1.D, vI e1.J, vI e1.O, vI e1.P])] [.loaded ⟨b2, 0, none⟩ (.string e1.Name), .loaded ⟨b2, 1, none⟩ (vI e1.C), .loaded ⟨b2, 2, none⟩ (vI e1.T), .loaded ⟨b2, 3, none⟩ (vI e1.D), .loaded ⟨b2, 4, none⟩ (vI e1.J), .loaded ⟨b2, 5, none⟩ (vI e1.O), .loaded ⟨b2, 6, none⟩ (vI e1.P)] ⟨hS5.c 0, hS5.c 0, hS5.c 0, hS5.c 0, hS5.c 0, hS5.c 0, hS5.c 0, trivial⟩ ?_
   rcases hx4 : l1[i1]? with _ | e2
   ·rw [hx4] at h; cases h
   rw [hx4] at h
   simp only [] at h
   refine gi 30 0 40 46 7 l1.length c1 (.tmp 28) (.tmp 29) A1 .i64 (i1 : Int) i1 ((hS5.rd hR1).eqSome (pos_of_get hx4)) rfl (lt_of_get hx4) ?_
   refine gb [9] [(31, .agg #[.string e2.Name, vI e2.C, vI e2.T, vI e2.D, vI e2.J, vI e2.O, vI e2.P])] [.loaded ⟨blkOf A1, offOf A1 + i1 * 7, none⟩ (.string e2.Name), .loaded ⟨blkOf A1, offOf A1 + i1 * 7 + 1, none⟩ (vI e2.C), .loaded ⟨blkOf A1, offOf A1 + i1 * 7 + 2, none⟩ (vI e2.T), .loaded ⟨blkOf A1, offOf A1 + i1 * 7 + 3, none⟩ (vI e2.D), .loaded ⟨blkOf A1, offOf A1 + i1 * 7 + 4, none⟩ (vI e2.J), .loaded ⟨blkOf A1, offOf A1 + i1 * 7 + 5, none⟩ (vI e2.O), .loaded ⟨blkOf A1, offOf A1 + i1 * 7 + 6, none⟩ (vI e2.P)] ⟨RdL.cell (j := 0) (hS5.rd hR1) hx4 rfl, RdL.cell (j := 1) (hS5.rd hR1) hx4 rfl, RdL.cell (j := 2) (hS5.rd hR1) hx4 rfl, RdL.cell (j := 3) (hS5.rd hR1) hx4 rfl, RdL.cell (j := 4) (hS5.rd hR1) hx4 rfl, RdL.cell (j := 5) (hS5.rd hR1) hx4 rfl, RdL.cell (j := 6) (hS5.rd hR1) hx4 rfl, trivial⟩ ?_
   refine ge_eqs (d := 32) (ty := 4) (op := .neq) (x := (.tmp 27)) (y := (.tmp 31)) (t := 46) (t2 := 46) (xs := #[.string e1.Name, vI e1.C, vI e1.T, vI e1.D, vI e1.J, vI e1.O, vI e1.P]) (ys := #[.string e2.Name, vI e2.C, vI e2.T, vI e2.D, vI e2.J, vI e2.O, vI e2.P]) (r := (STask.eqb e1 e2)) (v := !(STask.eqb e1 e2)) (by kernel_rfl) (by kernel_rfl) (by kernel_rfl) (by kernel_rfl) (by kernel_rfl) rfl ?_
   refine gb0 [11, 12] [(34, .bool (!(STask.eqb e1 e2))), (33, .bool (!(STask.eqb e1 e2)))] ?_
   by_cases hc4 : (STask.eqb e1 e2) = true
   ·rw [if_pos hc4] at h
    refine gk 34 (!(STask.eqb e1 e2)) false (congrArg (fun z => !z) hc4) ?_
    refine gb0 [13, 14, 15, 16, 17] [(39, .bool (decide ((i1 : Int) ≥ (l1.length : Int)))), (38, .bool (decide ((i1 : Int) ≥ (l1.length : Int)))), (37, vI (l1.length : Int)), (36, .slice A1 l1.length c1), (35, vI (i1 : Int))] ?_
    by_cases hc5 : (i1 : Int) ≥ (l1.length : Int)
    ·rw [if_pos hc5] at h
     refine gk 39 (decide ((i1 : Int) ≥ (l1.length : Int))) true (decide_eq_true hc5) ?_
     refine gb [18, 19] [(41, .agg #[.string x2.Name, vI x2.C, vI x2.T, vI x2.D, vI x2.J, vI x2.O, vI x2.P]), (40, .agg #[.string e1.Name, vI e1.C, vI e1.T, vI e1.D, vI e1.J, vI e1.O, vI e1.P])] [.loaded ⟨b2, 0, none⟩ (.string e1.Name), .loaded ⟨b2, 1, none⟩ (vI e1.C), .loaded ⟨b2, 2, none⟩ (vI e1.T), .loaded ⟨b2, 3, none⟩ (vI e1.D), .loaded ⟨b2, 4, none⟩ (vI e1.J), .loaded ⟨b2, 5, none⟩ (vI e1.O), .loaded ⟨b2, 6, none⟩ (vI e1.P), .loaded ⟨b1, 0, none⟩ (.string x2.Name), .loaded ⟨b1, 1, none⟩ (vI x2.C), .loaded ⟨b1, 2, none⟩ (vI x2.T), .loaded ⟨b1, 3, none⟩ (vI x2.D), .loaded ⟨b1, 4, none⟩ (vI x2.J), .loaded ⟨b1, 5, none⟩ (vI x2.O), .loaded ⟨b1, 6, none⟩ (vI x2.P)] ⟨hS5.c 0, hS5.c 0, hS5.c 0, hS5.c 0, hS5.c 0, hS5.c 0, hS5.c 0, hS5.c 1, hS5.c 1, hS5.c 1, hS5.c 1, hS5.c 1, hS5.c 1, hS5.c 1, trivial⟩ ?_
     refine ge_eqs (d := 42) (ty := 4) (op := .neq) (x := (.tmp 40)) (y := (.tmp 41)) (t := 46) (t2 := 46) (xs := #[.string e1.Name, vI e1.C, vI e1.T, vI e1.D, vI e1.J, vI e1.O, vI e1.P]) (ys := #[.string x2.Name, vI x2.C, vI x2.T, vI x2.D, vI x2.J, vI x2.O, vI x2.P]) (r := (STask.eqb e1 x2)) (v := !(STask.eqb e1 x2)) (by kernel_rfl) (by kernel_rfl) (by kernel_rfl) (by kernel_rfl) (by kernel_rfl) rfl ?_
     refine gb0 [21, 22] [(44, .bool (!(STask.eqb e1 x2))), (43, .bool (!(STask.eqb e1 x2)))] ?_
     refine gn hK9 ?_
     by_cases hc6 : (STask.eqb e1 x2) = true
     ·rw [if_pos hc6] at h
      refine wk 44 (!(STask.eqb e1 x2)) false (congrArg (fun z => !z) hc6) ?_
      refine we_false (by kernel_rfl) ?_
      refine we_skip fun a hF => hK7 _ _ ?_ a hF
      refine wr [(0, 0), (1, 0)] ?_
      refine ge_addn (d := 45) (ty := 3) (x := (.tmp 17)) (y := (.const (vI 1))) (t := 3) (t2 := 3) (k := .i64) (m := i1) (by kernel_rfl) (by kernel_rfl) (by kernel_rfl) (by have h0 := hR0.small; omega) ?_
      refine gb0 [1] [(17, vI ((i1 + 1 : Nat) : Int))] ?_
      have hS6 := hS5.bring 1 rfl
      have hS7 := hS6.takeN 1
      obtain rfl := si h
      exact ge_nil fun a hF => hQ _ _ _ (Outs.again ⟨hS7, hF.weaken ea⟩)
     ·rw [if_neg hc6] at h
      refine wk 44 (!(STask.eqb e1 x2)) true (congrArg (fun z => !z) (Bool.eq_false_iff.2 hc6)) ?_
      refine we_true (by kernel_rfl) ?_
      refine ws fun K10 hK10 => ?_
      refine wr [(0, 0)] ?_
      refine gb0 [0] [(6, .bool false)] ?_
      refine gn hK10 ?_
      have hS8 := hS5.takeN 0
      obtain rfl := si h
      exact we_ret fun a hF => hQ _ _ _ (Outs.out nofun (Exits.on ⟨rfl, (pr0 [.tmp 6] [.bool false] ⟨rfl, hS8⟩) a hF⟩))
    ·rw [if_neg hc5] at h
     refine gk 39 (decide ((i1 : Int) ≥ (l1.length : Int))) false (decide_eq_false hc5) ?_
     refine gb0 [18, 19, 20, 21, 22] [(44, .bool false), (43, .bool false), (42, undef), (41, undef), (40, undef)] ?_
     refine gn hK9 ?_
     refine we_false (by kernel_rfl) ?_
     refine we_skip fun a hF => hK7 _ _ ?_ a hF
     refine wr [(0, 0), (1, 0)] ?_
     refine ge_addn (d := 45) (ty := 3) (x := (.tmp 17)) (y := (.const (vI 1))) (t := 3) (t2 := 3) (k := .i64) (m := i1) (by kernel_rfl) (by kernel_rfl) (by kernel_rfl) (by have h0 := hR0.small; omega) ?_
     refine gb0 [1] [(17, vI ((i1 + 1 : Nat) : Int))] ?_
     have hS9 := hS5.bring 1 rfl
     have hS10 := hS9.takeN 1
     obtain rfl := si h
     exact ge_nil fun a hF => hQ _ _ _ (Outs.again ⟨hS10, hF.weaken ea⟩)
   ·rw [if_neg hc4] at h
    refine gk 34 (!(STask.eqb e1 e2)) true (congrArg (fun z => !z) (Bool.eq_false_iff.2 hc4)) ?_
    refine gb0 [13, 14, 15, 16, 17, 18, 19, 20, 21, 22] [(44, .bool true), (43, undef), (42, undef), (41, undef), (40, undef), (39, undef), (38, undef), (37, undef), (36, undef), (35, undef)] ?_
    refine gn hK9 ?_
    refine we_true (by kernel_rfl) ?_
    refine ws fun K11 hK11 => ?_
    refine wr [(0, 0)] ?_
    refine gb0 [0] [(6, .bool false)] ?_
    refine gn hK11 ?_
    have hS11 := hS5.takeN 0
    obtain rfl := si h
    exact we_ret fun a hF => hQ _ _ _ (Outs.out nofun (Exits.on ⟨rfl, (pr0 [.tmp 6] [.bool false] ⟨rfl, hS11⟩) a hF⟩))
  ·rw [if_neg hc3] at h
   refine gk 26 (decide ((i1 : Int) < (l1.length : Int))) false (decide_eq_false hc3) ?_
   refine gb0 [5, 6, 7, 8, 9, 10, 11, 12, 13, 14, 15, 16, 17] [(39, .bool (decide ((i1 : Int) ≥ (l1.length : Int)))), (38, .bool (decide ((i1 : Int) ≥ (l1.length : Int)))), (37, vI (l1.length : Int)), (36, .slice A1 l1.length c1), (35, vI (i1 : Int)), (34, .bool false), (33, .bool false), (32, undef), (31, undef), (30, undef), (29, undef), (28, undef), (27, undef)] ?_
   by_cases hc7 : (i1 : Int) ≥ (l1.length : Int)
   ·rw [if_pos hc7] at h
    refine gk 39 (decide ((i1 : Int) ≥ (l1.length : Int))) true (decide_eq_true hc7) ?_
    refine gb [18, 19] [(41, .agg #[.string x2.Name, vI x2.C, vI x2.T, vI x2.D, vI x2.J, vI x2.O, vI x2.P]), (40, .agg #[.string e1.Name, vI e1.C, vI e1.T, vI e1.D, vI e1.J, vI e1.O, vI e1.P])] [.loaded ⟨b2, 0, none⟩ (.string e1.Name), .loaded ⟨b2, 1, none⟩ (vI e1.C), .loaded ⟨b2, 2, none⟩ (vI e1.T), .loaded ⟨b2, 3, none⟩ (vI e1.D), .loaded ⟨b2, 4, none⟩ (vI e1.J), .loaded ⟨b2, 5, none⟩ (vI e1.O), .loaded ⟨b2, 6, none⟩ (vI e1.P), .loaded ⟨b1, 0, none⟩ (.string x2.Name), .loaded ⟨b1, 1, none⟩ (vI x2.C), .loaded ⟨b1, 2, none⟩ (vI x2.T), .loaded ⟨b1, 3, none⟩ (vI x2.D), .loaded ⟨b1, 4, none⟩ (vI x2.J), .loaded ⟨b1, 5, none⟩ (vI x2.O), .loaded ⟨b1, 6, none⟩ (vI x2.P)] ⟨hS5.c 0, hS5.c 0, hS5.c 0, hS5.c 0, hS5.c 0, hS5.c 0, hS5.c 0, hS5.c 1, hS5.c 1, hS5.c 1, hS5.c 1, hS5.c 1, hS5.c 1, hS5.c 1, trivial⟩ ?_
    refine ge_eqs (d := 42) (ty := 4) (op := .neq) (x := (.tmp 40)) (y := (.tmp 41)) (t := 46) (t2 := 46) (xs := #[.string e1.Name, vI e1.C, vI e1.T, vI e1.D, vI e1.J, vI e1.O, vI e1.P]) (ys := #[.string x2.Name, vI x2.C, vI x2.T, vI x2.D, vI x2.J, vI x2.O, vI x2.P]) (r := (STask.eqb e1 x2)) (v := !(STask.eqb e1 x2)) (by kernel_rfl) (by kernel_rfl) (by kernel_rfl) (by kernel_rfl) (by kernel_rfl) rfl ?_
    refine gb0 [21, 22] [(44, .bool (!(STask.eqb e1 x2))), (43, .bool (!(STask.eqb e1 x2)))] ?_
    refine gn hK9 ?_
    by_cases hc8 : (STask.eqb e1 x2) = true
    ·rw [if_pos hc8] at h
     refine wk 44 (!(STask.eqb e1 x2)) false (congrArg (fun z => !z) hc8) ?_
     refine we_false (by kernel_rfl) ?_
     refine we_skip fun a hF => hK7 _ _ ?_ a hF
     refine wr [(0, 0), (1, 0)] ?_
     refine ge_addn (d := 45) (ty := 3) (x := (.tmp 17)) (y := (.const (vI 1))) (t := 3) (t2 := 3) (k := .i64) (m := i1) (by kernel_rfl) (by kernel_rfl) (by kernel_rfl) (by have h0 := hR0.small; omega) ?_
     refine gb0 [1] [(17, vI ((i1 + 1 : Nat) : Int))] ?_
     have hS12 := hS5.bring 1 rfl
     have hS13 := hS12.takeN 1
     obtain rfl := si h
     exact ge_nil fun a hF => hQ _ _ _ (Outs.again ⟨hS13, hF.weaken ea⟩)
    ·rw [if_neg hc8] at h
     refine wk 44 (!(STask.eqb e1 x2)) true (congrArg (fun z => !z) (Bool.eq_false_iff.2 hc8)) ?_
     refine we_true (by kernel_rfl) ?_
     refine ws fun K12 hK12 => ?_
     refine wr [(0, 0)] ?_
     refine gb0 [0] [(6, .bool false)] ?_
     refine gn hK12 ?_
     have hS14 := hS5.takeN 0
     obtain rfl := si h
     exact we_ret fun a hF => hQ _ _ _ (Outs.out nofun (Exits.on ⟨rfl, (pr0 [.tmp 6] [.bool false] ⟨rfl, hS14⟩) a hF⟩))
   ·rw [if_neg hc7] at h
    refine gk 39 (decide ((i1 : Int) ≥ (l1.length : Int))) false (decide_eq_false hc7) ?_
    refine gb0 [18, 19, 20, 21, 22] [(44, .bool false), (43, .bool false), (42, undef), (41, undef), (40, undef)] ?_
    refine gn hK9 ?_
    refine we_false (by kernel_rfl) ?_
    refine we_skip fun a hF => hK7 _ _ ?_ a hF
    refine wr [(0, 0), (1, 0)] ?_
    refine ge_addn (d := 45) (ty := 3) (x := (.tmp 17)) (y := (.const (vI 1))) (t := 3) (t2 := 3) (k := .i64) (m := i1) (by kernel_rfl) (by kernel_rfl) (by kernel_rfl) (by have h0 := hR0.small; omega) ?_
    refine gb0 [1] [(17, vI ((i1 + 1 : Nat) : Int))] ?_
    have hS15 := hS5.bring 1 rfl
    have hS16 := hS15.takeN 1
    obtain rfl := si h
    exact ge_nil fun a hF => hQ _ _ _ (Outs.again ⟨hS16, hF.weaken ea⟩)
 ·rw [if_neg hc2] at h
  refine wk 18 (decide ((i1 : Int) < (f0.length : Int))) false (decide_eq_false hc2) ?_
  refine we_false (by kernel_rfl) ?_
  have hS17 := hS.takeN 0
  obtain rfl := si h
  exact we_exit fun a hF => hQ _ _ _ (Outs.out nofun (Exits.here ⟨hS17, hF.weaken trivial⟩))
theorem punctualsame_Still_api_Task_ok (K : Nat) (f0 : List STask) (A0 : Option Addr) (n0 : Nat) (c0 : Nat) (l1 : List STask) (A1 : Option Addr) (c1 : Nat) (x2 : STask) (w0 : World) (hR0 : RdL w0 A0 f0) (hc0 : f0.length ≤ c0) (hR1 : RdL w0 A1 l1) (hL1 : l1.length ≤ c1) (r : Bool) (h : punctualsame_Still_api_Task.f K f0 l1 x2 = some r) :
  Calls Tryd.prog 24 #[.slice A0 n0 c0, .slice A1 l1.length c1, .agg #[.string x2.Name, vI x2.C, vI x2.T, vI x2.D, vI x2.J, vI x2.O, vI x2.P]] w0 (punctualsame_Still_api_Task.Post w0 r) := by
 have hS := St.start w0
 unfold punctualsame_Still_api_Task.f at h
 refine calls_enter (n := 46) (args := [.slice A0 n0 c0, .slice A1 l1.length c1, .agg #[.string x2.Name, vI x2.C, vI x2.T, vI x2.D, vI x2.J, vI x2.O, vI x2.P]]) (fn := Tryd.f24) rfl rfl rfl rfl ?_
 show WE _ _ _ _ [(0, .slice A0 n0 c0), (1, .slice A1 l1.length c1), (2, .agg #[.string x2.Name, vI x2.C, vI x2.T, vI x2.D, vI x2.J, vI x2.O, vI x2.P])] _
 refine ws fun K1 hK1 => ?_
 refine wr [(0, 1), (1, 0)] ?_
 refine gw (some 5) (.cells #[.string x2.Name, vI x2.C, vI x2.T, vI x2.D, vI x2.J, vI x2.O, vI x2.P] 46) (fun b => pP b 0) hS fun b1 w1 hx1 hS1 => ?_
 refine gb0 [1] [(6, .bool false)] ?_
 refine gn hK1 ?_
 refine ws fun K2 hK2 => ?_
 refine wr [(0, 0), (1, 0), (2, 0), (3, 0), (4, 0), (5, 0)] ?_
 refine gb0 [0, 1, 2, 3] [(13, vI (IntKind.i64.wrap ((l1.length : Int) + 3))), (12, vI (l1.length : Int)), (11, .slice A1 l1.length c1), (10, .slice A0 n0 c0)] ?_
 by_cases hc1 : (IntKind.i64.wrap ((l1.length : Int) + 3)) = (f0.length : Int)
 ·rw [if_pos hc1] at h
  refine ge_sliceHi (d := 14) (ty := 40) (t := 40) (el := 46) (sz := 7) (m := n0) (c := c0) (hn := f0.length) (x := (.tmp 10)) (y := (.tmp 13)) (A := A0) (k' := .i64) (hi := (IntKind.i64.wrap ((l1.length : Int) + 3))) (by kernel_rfl) (by kernel_rfl) (by kernel_rfl) hc1 (by kernel_rfl) (by kernel_rfl) hc0 ?_
  refine gb0 [5] [(7, .slice A0 f0.length c0)] ?_
  refine gn hK2 ?_
  refine ws fun K3 hK3 => ?_
  refine ws fun K4 hK4 => ?_
  refine wr [(0, 0), (1, 0), (2, 0)] ?_
  refine gb0 [0, 1, 2] [(17, vI 0), (16, vI (f0.length : Int)), (15, .slice A0 f0.length c0)] ?_
  refine gn hK4 ?_
  refine we_block ?_
  rcases hq1 : iter (punctualsame_Still_api_Task.r0 f0 l1 x2) K 0 with _ | (_ | rr1)
  ·rw [hq1] at h; cases h
  ·rw [hq1] at h
   simp only [] at h
   refine we_iter (A := punctualsame_Still_api_Task.A0 w0 f0 A0 c0 l1 A1 c1 x2 b1) (B := punctualsame_Still_api_Task.B0 w0) hq1 (fun a hF => ⟨hS1, hF.weaken ea⟩) (fun s o hf a w hA Q hQ => punctualsame_Still_api_Task_r0 K w0 f0 A0 n0 c0 l1 A1 c1 x2 hR0 hc0 hR1 hL1 b1 hc1 s o hf a w hA Q hQ) ?_
   rintro _ a w4 _ ⟨rfl, hS18, hF⟩
   replace hS18 : St w0 w4 [] := hS18
   refine hK3 [] w4 ?_ a hF
   refine ws fun K13 hK13 => ?_
   refine wr [(0, 0)] ?_
   refine gb0 [0] [(6, .bool true)] ?_
   refine gn hK13 ?_
   obtain rfl := si h
   exact we_ret (pr0 [.tmp 6] [.bool true] ⟨rfl, hS18⟩)
  ·rw [hq1] at h
   simp only [] at h
   refine we_iter (A := punctualsame_Still_api_Task.A0 w0 f0 A0 c0 l1 A1 c1 x2 b1) (B := punctualsame_Still_api_Task.B0 w0) hq1 (fun a hF => ⟨hS1, hF.weaken ea⟩) (fun s o hf a w hA Q hQ => punctualsame_Still_api_Task_r0 K w0 f0 A0 n0 c0 l1 A1 c1 x2 hR0 hc0 hR1 hL1 b1 hc1 s o hf a w hA Q hQ) ?_
   rintro _ a w1 _ ⟨rfl, hb⟩
   obtain rfl := si h
   exact hb
 ·rw [if_neg hc1] at h
  cases h

/-! punctual/punctualsame.Still[int] -/
abbrev punctualsame_Still_int.Post (w0 : World) (r : Bool) (e : Ending) (w : World) : Prop := e = .returned (.bool r) ∧ St w0 w []
def punctualsame_Still_int.r0 (f0 : List Int) (l1 : List Int) (x2 : Int) : Nat → Option (Nat ⊕ (Unit ⊕ Bool))
 | i1 =>
  if (i1 : Int) < (f0.length : Int) then
   match f0[i1]? with
   | none => none
   | some e1 =>
    if (i1 : Int) < (l1.length : Int) then
     match l1[i1]? with
     | none => none
     | some e2 =>
      if e1 = e2 then
       if (i1 : Int) ≥ (l1.length : Int) then
        if e1 = x2 then
         some (.inl (i1 + 1))
        else
         some (.inr (.inr false))
       else
        some (.inl (i1 + 1))
      else
       some (.inr (.inr false))
    else
     if (i1 : Int) ≥ (l1.length : Int) then
      if e1 = x2 then
       some (.inl (i1 + 1))
      else
       some (.inr (.inr false))
     else
      some (.inl (i1 + 1))
  else
   some (.inr (.inl ()))
def punctualsame_Still_int.f (K : Nat) (f0 : List Int) (l1 : List Int) (x2 : Int) : Option Bool :=
 if (IntKind.i64.wrap ((l1.length : Int) + 3)) = (f0.length : Int) then
  match iter (punctualsame_Still_int.r0 f0 l1 x2) K 0 with
  | none => none
  | some (.inl _) =>
   some true
  | some (.inr rr1) =>
   some rr1
 else
  none
abbrev punctualsame_Still_int.A0 (w0 : World) (f0 : List Int) (A0 : Option Addr) (c0 : Nat) (l1 : List Int) (A1 : Option Addr) (c1 : Nat) (x2 : Int) : Nat → Act → World → Prop := fun (s : Nat) a w => St w0 w [] ∧ Frm 46 a [(1, .slice A1 l1.length c1), (2, vI x2), (15, .slice A0 f0.length c0), (16, vI (f0.length : Int)), (17, vI (s : Int))]
abbrev punctualsame_Still_int.B0 (w0 : World) : (Unit ⊕ Bool) → Exit → Act → World → Prop := Exits 0 (fun (s : Unit) a w => St w0 w [] ∧ Frm 46 a []) (Rets Tryd.prog Tryd.f18 (punctualsame_Still_int.Post w0))
theorem punctualsame_Still_int_r0 (K : Nat) (w0 : World) (f0 : List Int) (A0 : Option Addr) (n0 : Nat) (c0 : Nat) (l1 : List Int) (A1 : Option Addr) (c1 : Nat) (x2 : Int) (hR0 : RdL w0 A0 f0) (hc0 : f0.length ≤ c0) (hR1 : RdL w0 A1 l1) (hL1 : l1.length ≤ c1) (hc1 : (IntKind.i64.wrap ((l1.length : Int) + 3)) = (f0.length : Int)) (s : Nat) (o : Nat ⊕ (Unit ⊕ Bool)) (h : punctualsame_Still_int.r0 f0 l1 x2 s = some o) (a : Act) (w : World) (hA : punctualsame_Still_int.A0 w0 f0 A0 c0 l1 A1 c1 x2 s a w) (Q : Exit → Act → World → Prop) (hQ : ∀ x a w, Outs (punctualsame_Still_int.A0 w0 f0 A0 c0 l1 A1 c1 x2) (punctualsame_Still_int.B0 w0) o x a w → Q x a w) : (subF Tryd.f18 [1, 1, 0, 1, 0, 0]).wp Tryd.prog Q a w := by
 obtain ⟨i1, hs⟩ : ∃ z, z = s := ⟨s, rfl⟩
 subst hs
 obtain ⟨hS, hF⟩ := hA
 replace hS : St w0 w [] := hS
 simp only [punctualsame_Still_int.r0] at h
 refine (?_ : WE Tryd.prog 46 (subF Tryd.f18 [1, 1, 0, 1, 0, 0]) Q [(1, .slice A1 l1.length c1), (2, vI x2), (15, .slice A0 f0.length c0), (16, vI (f0.length : Int)), (17, vI (i1 : Int))] w) a hF
 clear hF a
 refine ws fun K5 hK5 => ?_
 refine wr [(0, 0)] ?_
 refine gb0 [0] [(18, .bool (decide ((i1 : Int) < (f0.length : Int))))] ?_
 refine gn hK5 ?_
 refine ws fun K6 hK6 => ?_
 by_cases hc2 : (i1 : Int) < (f0.length : Int)
 ·rw [if_pos hc2] at h
  refine wk 18 (decide ((i1 : Int) < (f0.length : Int))) true (decide_eq_true hc2) ?_
  refine we_true (by kernel_rfl) ?_
  refine we_skip fun a hF => hK6 _ _ ?_ a hF
  refine ws fun K7 hK7 => ?_
  refine we_block ?_
  refine ws fun K8 hK8 => ?_
  refine wr [(0, 0), (1, 0), (2, 0), (3, 0), (4, 0)] ?_
  refine gb0 [0] [(19, vI (i1 : Int))] ?_
  rcases hx1 : f0[i1]? with _ | e1
  ·rw [hx1] at h; cases h
  rw [hx1] at h
  simp only [] at h
  refine gi 20 0 23 3 1 f0.length c0 (.tmp 15) (.tmp 17) A0 .i64 (i1 : Int) i1 ((hS.rd hR0).eqSome (pos_of_get hx1)) rfl (lt_of_get hx1) ?_
  refine gb [2, 3, 4] [(9, vI e1), (8, vI (i1 : Int)), (21, vI e1)] [.loaded ⟨blkOf A0, offOf A0 + i1 * 1, none⟩ (vI e1)] ⟨RdL.cell (j := 0) (hS.rd hR0) hx1 rfl, trivial⟩ ?_
  refine gn hK8 ?_
  refine ws fun K9 hK9 => ?_
  refine wr [(0, 0), (1, 0), (2, 0), (3, 0), (4, 0), (5, 0), (6, 0), (7, 0), (8, 0), (9, 0), (10, 0), (11, 0), (12, 0), (13, 0), (14, 0), (15, 0), (16, 0), (17, 0), (18, 0), (19, 0), (20, 0), (21, 0), (22, 0)] ?_
  refine gb0 [0, 1, 2, 3, 4] [(26, .bool (decide ((i1 : Int) < (l1.length : Int)))), (25, .bool (decide ((i1 : Int) < (l1.length : Int)))), (24, vI (l1.length : Int)), (23, .slice A1 l1.length c1), (22, vI (i1 : Int))] ?_
  by_cases hc3 : (i1 : Int) < (l1.length : Int)
  ·rw [if_pos hc3] at h
   refine gk 26 (decide ((i1 : Int) < (l1.length : Int))) true (decide_eq_true hc3) ?_
   refine gb0 [5, 6, 7] [(29, vI (i1 : Int)), (28, .slice A1 l1.length c1), (27, vI e1)] ?_
   rcases hx2 : l1[i1]? with _ | e2
   ·rw [hx2] at h; cases h
   rw [hx2] at h
   simp only [] at h
   refine gi 30 0 23 3 1 l1.length c1 (.tmp 28) (.tmp 29) A1 .i64 (i1 : Int) i1 ((hS.rd hR1).eqSome (pos_of_get hx2)) rfl (lt_of_get hx2) ?_
   refine gb [9, 10, 11, 12] [(34, .bool (e1 != e2)), (33, .bool (e1 != e2)), (32, .bool (e1 != e2)), (31, vI e2)] [.loaded ⟨blkOf A1, offOf A1 + i1 * 1, none⟩ (vI e2)] ⟨RdL.cell (j := 0) (hS.rd hR1) hx2 rfl, trivial⟩ ?_
   by_cases hc4 : e1 = e2
   ·rw [if_pos hc4] at h
    refine gk 34 (e1 != e2) false (bne_eq_false_iff_eq.2 hc4) ?_
    refine gb0 [13, 14, 15, 16, 17] [(39, .bool (decide ((i1 : Int) ≥ (l1.length : Int)))), (38, .bool (decide ((i1 : Int) ≥ (l1.length : Int)))), (37, vI (l1.length : Int)), (36, .slice A1 l1.length c1), (35, vI (i1 : Int))] ?_
    by_cases hc5 : (i1 : Int) ≥ (l1.length : Int)
    ·rw [if_pos hc5] at h
     refine gk 39 (decide ((i1 : Int) ≥ (l1.length : Int))) true (decide_eq_true hc5) ?_
     refine gb0 [18, 19, 20, 21, 22] [(44, .bool (e1 != x2)), (43, .bool (e1 != x2)), (42, .bool (e1 != x2)), (41, vI x2), (40, vI e1)] ?_
     refine gn hK9 ?_
     by_cases hc6 : e1 = x2
     ·rw [if_pos hc6] at h
      refine wk 44 (e1 != x2) false (bne_eq_false_iff_eq.2 hc6) ?_
      refine we_false (by kernel_rfl) ?_
      refine we_skip fun a hF => hK7 _ _ ?_ a hF
      refine wr [(0, 0), (1, 0)] ?_
      refine ge_addn (d := 45) (ty := 3) (x := (.tmp 17)) (y := (.const (vI 1))) (t := 3) (t2 := 3) (k := .i64) (m := i1) (by kernel_rfl) (by kernel_rfl) (by kernel_rfl) (by have h0 := hR0.small; omega) ?_
      refine gb0 [1] [(17, vI ((i1 + 1 : Nat) : Int))] ?_
      obtain rfl := si h
      exact ge_nil fun a hF => hQ _ _ _ (Outs.again ⟨hS, hF.weaken ea⟩)
     ·rw [if_neg hc6] at h
      refine wk 44 (e1 != x2) true (bne_iff_ne.2 hc6) ?_
      refine we_true (by kernel_rfl) ?_
      refine ws fun K10 hK10 => ?_
      refine wr [(0, 0)] ?_
      refine gb0 [0] [(6, .bool false)] ?_
      refine gn hK10 ?_
      obtain rfl := si h
      exact we_ret fun a hF => hQ _ _ _ (Outs.out nofun (Exits.on ⟨rfl, (pr0 [.tmp 6] [.bool false] ⟨rfl, hS⟩) a hF⟩))
    ·rw [if_neg hc5] at h
     refine gk 39 (decide ((i1 : Int) ≥ (l1.length : Int))) false (decide_eq_false hc5) ?_
     refine gb0 [18, 19, 20, 21, 22] [(44, .bool false), (43, .bool false), (42, undef), (41, undef), (40, undef)] ?_
     refine gn hK9 ?_
     refine we_false (by kernel_rfl) ?_
     refine we_skip fun a hF => hK7 _ _ ?_ a hF
     refine wr [(0, 0), (1, 0)] ?_
     refine ge_addn (d := 45) (ty := 3) (x := (.tmp 17)) (y := (.const (vI 1))) (t := 3) (t2 := 3) (k := .i64) (m := i1) (by kernel_rfl) (by kernel_rfl) (by kernel_rfl) (by have h0 := hR0.small; omega) ?_
     refine gb0 [1] [(17, vI ((i1 + 1 : Nat) : Int))] ?_
     obtain rfl := si h
     exact ge_nil fun a hF => hQ _ _ _ (Outs.again ⟨hS, hF.weaken ea⟩)
   ·rw [if_neg hc4] at h
    refine gk 34 (e1 != e2) true (bne_iff_ne.2 hc4) ?_
    refine gb0 [13, 14, 15, 16, 17, 18, 19, 20, 21, 22] [(44, .bool true), (43, undef), (42, undef), (41, undef), (40, undef), (39, undef), (38, undef), (37, undef), (36, undef), (35, undef)] ?_
    refine gn hK9 ?_
    refine we_true (by kernel_rfl) ?_
    refine ws fun K11 hK11 => ?_
    refine wr [(0, 0)] ?_
    refine gb0 [0] [(6, .bool false)] ?_
    refine gn hK11 ?_
    obtain rfl := si h
    exact we_ret fun a hF => hQ _ _ _ (Outs.out nofun (Exits.on ⟨rfl, (pr0 [.tmp 6] [.bool false] ⟨rfl, hS⟩) a hF⟩))
  ·rw [if_neg hc3] at h
   refine gk 26 (decide ((i1 : Int) < (l1.length : Int))) false (decide_eq_false hc3) ?_
   refine gb0 [5, 6, 7, 8, 9, 10, 11, 12, 13, 14, 15, 16, 17] [(39, .bool (decide ((i1 : Int) ≥ (l1.length : Int)))), (38, .bool (decide ((i1 : Int) ≥ (l1.length : Int)))), (37, vI (l1.length : Int)), (36, .slice A1 l1.length c1), (35, vI (i1 : Int)), (34, .bool false), (33, .bool false), (32, undef), (31, undef), (30, undef), (29, undef), (28, undef), (27, undef)] ?_
   by_cases hc7 : (i1 : Int) ≥ (l1.length : Int)
   ·rw [if_pos hc7] at h
    refine gk 39 (decide ((i1 : Int) ≥ (l1.length : Int))) true (decide_eq_true hc7) ?_
    refine gb0 [18, 19, 20, 21, 22] [(44, .bool (e1 != x2)), (43, .bool (e1 != x2)), (42, .bool (e1 != x2)), (41, vI x2), (40, vI e1)] ?_
    refine gn hK9 ?_
    by_cases hc8 : e1 = x2
    ·rw [if_pos hc8] at h
     refine wk 44 (e1 != x2) false (bne_eq_false_iff_eq.2 hc8) ?_
     refine we_false (by kernel_rfl) ?_
     refine we_skip fun a hF => hK7 _ _ ?_ a hF
     refine wr [(0, 0), (1, 0)] ?_
     refine ge_addn (d := 45) (ty := 3) (x := (.tmp 17)) (y := (.const (vI 1))) (t := 3) (t2 := 3) (k := .i64) (m := i1) (by kernel_rfl) (by kernel_rfl) (by kernel_rfl) (by have h0 := hR0.small; omega) ?_
     refine gb0 [1] [(17, vI ((i1 + 1 : Nat) : Int))] ?_
     obtain rfl := si h
     exact ge_nil fun a hF => hQ _ _ _ (Outs.again ⟨hS, hF.weaken ea⟩)
    ·rw [if_neg hc8] at h
     refine wk 44 (e1 != x2) true (bne_iff_ne.2 hc8) ?_
     refine we_true (by kernel_rfl) ?_
     refine ws fun K12 hK12 => ?_
     refine wr [(0, 0)] ?_
     refine gb0 [0] [(6, .bool false)] ?_
     refine gn hK12 ?_
     obtain rfl := si h
     exact we_ret fun a hF => hQ _ _ _ (Outs.out nofun (Exits.on ⟨rfl, (pr0 [.tmp 6] [.bool false] ⟨rfl, hS⟩) a hF⟩))
   ·rw [if_neg hc7] at h
    refine gk 39 (decide ((i1 : Int) ≥ (l1.length : Int))) false (decide_eq_false hc7) ?_
    refine gb0 [18, 19, 20, 21, 22] [(44, .bool false), (43, .bool false), (42, undef), (41, undef), (40, undef)] ?_
    refine gn hK9 ?_
    refine we_false (by kernel_rfl) ?_
    refine we_skip fun a hF => hK7 _ _ ?_ a hF
    refine wr [(0, 0), (1, 0)] ?_
    refine ge_addn (d := 45) (ty := 3) (x := (.tmp 17)) (y := (.const (vI 1))) (t := 3) (t2 := 3) (k := .i64) (m := i1) (by kernel_rfl) (by kernel_rfl) (by kernel_rfl) (by have h0 := hR0.small; omega) ?_
    refine gb0 [1] [(17, vI ((i1 + 1 : Nat) : Int))] ?_
    obtain rfl := si h
    exact ge_nil fun a hF => hQ _ _ _ (Outs.again ⟨hS, hF.weaken ea⟩)
 ·rw [if_neg hc2] at h
  refine wk 18 (decide ((i1 : Int) < (f0.length : Int))) false (decide_eq_false hc2) ?_
  refine we_false (by kernel_rfl) ?_
  obtain rfl := si h
  exact we_exit fun a hF => hQ _ _ _ (Outs.out nofun (Exits.here ⟨hS, hF.weaken trivial⟩))
theorem punctualsame_Still_int_ok (K : Nat) (f0 : List Int) (A0 : Option Addr) (n0 : Nat) (c0 : Nat) (l1 : List Int) (A1 : Option Addr) (c1 : Nat) (x2 : Int) (w0 : World) (hR0 : RdL w0 A0 f0) (hc0 : f0.length ≤ c0) (hR1 : RdL w0 A1 l1) (hL1 : l1.length ≤ c1) (r : Bool) (h : punctualsame_Still_int.f K f0 l1 x2 = some r) :
  Calls Tryd.prog 18 #[.slice A0 n0 c0, .slice A1 l1.length c1, vI x2] w0 (punctualsame_Still_int.Post w0 r) := by
 have hS := St.start w0
 unfold punctualsame_Still_int.f at h
 refine calls_enter (n := 46) (args := [.slice A0 n0 c0, .slice A1 l1.length c1, vI x2]) (fn := Tryd.f18) rfl rfl rfl rfl ?_
 show WE _ _ _ _ [(0, .slice A0 n0 c0), (1, .slice A1 l1.length c1), (2, vI x2)] _
 refine ws fun K1 hK1 => ?_
 refine wr [(0, 0)] ?_
 refine gb0 [0] [(6, .bool false)] ?_
 refine gn hK1 ?_
 refine ws fun K2 hK2 => ?_
 refine wr [(0, 0), (1, 0), (2, 0), (3, 0), (4, 0), (5, 0)] ?_
 refine gb0 [0, 1, 2, 3] [(13, vI (IntKind.i64.wrap ((l1.length : Int) + 3))), (12, vI (l1.length : Int)), (11, .slice A1 l1.length c1), (10, .slice A0 n0 c0)] ?_
 by_cases hc1 : (IntKind.i64.wrap ((l1.length : Int) + 3)) = (f0.length : Int)
 ·rw [if_pos hc1] at h
  refine ge_sliceHi (d := 14) (ty := 23) (t := 23) (el := 3) (sz := 1) (m := n0) (c := c0) (hn := f0.length) (x := (.tmp 10)) (y := (.tmp 13)) (A := A0) (k' := .i64) (hi := (IntKind.i64.wrap ((l1.length : Int) + 3))) (by kernel_rfl) (by kernel_rfl) (by kernel_rfl) hc1 (by kernel_rfl) (by kernel_rfl) hc0 ?_
  refine gb0 [5] [(7, .slice A0 f0.length c0)] ?_
  refine gn hK2 ?_
  refine ws fun K3 hK3 => ?_
  refine ws fun K4 hK4 => ?_
  refine wr [(0, 0), (1, 0), (2, 0)] ?_
  refine gb0 [0, 1, 2] [(17, vI 0), (16, vI (f0.length : Int)), (15, .slice A0 f0.length c0)] ?_
  refine gn hK4 ?_
  refine we_block ?_
  rcases hq1 : iter (punctualsame_Still_int.r0 f0 l1 x2) K 0 with _ | (_ | rr1)
  ·rw [hq1] at h; cases h
  ·rw [hq1] at h
   simp only [] at h
   refine we_iter (A := punctualsame_Still_int.A0 w0 f0 A0 c0 l1 A1 c1 x2) (B := punctualsame_Still_int.B0 w0) hq1 (fun a hF => ⟨hS, hF.weaken ea⟩) (fun s o hf a w hA Q hQ => punctualsame_Still_int_r0 K w0 f0 A0 n0 c0 l1 A1 c1 x2 hR0 hc0 hR1 hL1 hc1 s o hf a w hA Q hQ) ?_
   rintro _ a w1 _ ⟨rfl, hS1, hF⟩
   replace hS1 : St w0 w1 [] := hS1
   refine hK3 [] w1 ?_ a hF
   refine ws fun K13 hK13 => ?_
   refine wr [(0, 0)] ?_
   refine gb0 [0] [(6, .bool true)] ?_
   refine gn hK13 ?_
   obtain rfl := si h
   exact we_ret (pr0 [.tmp 6] [.bool true] ⟨rfl, hS1⟩)
  ·rw [hq1] at h
   simp only [] at h
   refine we_iter (A := punctualsame_Still_int.A0 w0 f0 A0 c0 l1 A1 c1 x2) (B := punctualsame_Still_int.B0 w0) hq1 (fun a hF => ⟨hS, hF.weaken ea⟩) (fun s o hf a w hA Q hQ => punctualsame_Still_int_r0 K w0 f0 A0 n0 c0 l1 A1 c1 x2 hR0 hc0 hR1 hL1 hc1 s o hf a w hA Q hQ) ?_
   rintro _ a w1 _ ⟨rfl, hb⟩
   obtain rfl := si h
   exact hb
 ·rw [if_neg hc1] at h
  cases h
end Go.Proofs.YtlipdmblinjjaaaDoor.GV
