/- Walks of single functions, written by a program of this work. -/
import Derived.Test.YtlipdmblinjjaaaGWFixedBest3
namespace Go.Proofs.Ytlipdmblinjjaaa.GV
open Go Go.RowKit
set_option linter.unusedVariables false
set_option linter.unusedSimpArgs false
set_option maxRecDepth 100000

/-! punctual/fixed.ranked -/
abbrev fixed_ranked.Post (w0 : World) (r : List STask) (e : Ending) (w : World) : Prop := ∃ (v0 : Value), e = .returned (v0) ∧ St w0 w [Own.of v0 46 r]
def fixed_ranked.r0 (l0 : List STask) : Int × (List Int) → Option ((Int × (List Int)) ⊕ ((List Int) ⊕ (List STask)))
  | (z1, m1) =>
    if z1 < ((List.replicate l0.length (0 : Int)).length : Int) then
      if 0 ≤ z1 then
        match m1[(z1).toNat]? with
        | none => none
        | some e1 =>
          some (.inl (IntKind.i64.wrap (z1 + 1), (m1.set ((z1).toNat) z1)))
      else
        none
    else
      some (.inr (.inl m1))
def fixed_ranked.r1 (l0 : List STask) (r1 : List Int) : Nat × (List STask) → Option ((Nat × (List STask)) ⊕ ((List STask) ⊕ (List STask)))
  | (i1, m4) =>
    if (i1 : Int) < (r1.length : Int) then
      match r1[i1]? with
      | none => none
      | some e2 =>
        if 0 ≤ e2 then
          match m4[(e2).toNat]? with
          | none => none
          | some e3 =>
            some (.inl ((i1 + 1), (m4.set ((e2).toNat) (⟨e3.Name, e3.C, e3.T, e3.D, e3.J, e3.O, IntKind.i64.wrap ((l0.length : Int) - (i1 : Int))⟩ : STask))))
        else
          none
    else
      some (.inr (.inl m4))
def fixed_ranked.f (K : Nat) (l0 : List STask) : Option (List STask) :=
  if l0.length ≤ 17592186044416 then
    match iter (fixed_ranked.r0 l0) K (0, (List.replicate l0.length (0 : Int))) with
    | none => none
    | some (.inl m3) =>
      match slices_SortStableFunc_int_int.f K m3 l0 with
      | none => none
      | some r1 =>
        match slices_Clone_api_Task_api_Task.f l0 with
        | none => none
        | some r2 =>
          match iter (fixed_ranked.r1 l0 r1) K (0, r2) with
          | none => none
          | some (.inl m6) =>
            some m6
          | some (.inr rr1) =>
            some rr1
    | some (.inr rr2) =>
      some rr2
  else
    none
abbrev fixed_ranked.A0 (K : Nat) (w0 : World) (l0 : List STask) (A0 : Option Addr) (c0 : Nat) (hR0 : RdL w0 A0 l0) (hL0 : l0.length ≤ c0) (b1 : Nat) (b2 : Nat) (hc1 : l0.length ≤ 17592186044416) (Z1 : Option Addr) (cz1 : Nat) : (Int × (List Int)) → Act → World → Prop := fun (s : Int × (List Int)) a w => St w0 w [Own.blk b2 (.cells #[.func (.func 37) #[] #[]] 74 (0, 0)), Own.blk b1 (.cells #[.slice A0 l0.length c0] 22 (0, 0)), Own.of (.slice Z1 s.2.length cz1) 3 s.2] ∧ Frm 45 a [(2, .pointer (some ⟨b1, 0, none⟩)), (3, .pointer (some ⟨b2, 0, none⟩)), (5, (.slice Z1 s.2.length cz1)), (14, .int .i64 ((List.replicate l0.length (0 : Int)).length : Int)), (15, .int .i64 s.1)]
abbrev fixed_ranked.B0 (K : Nat) (w0 : World) (l0 : List STask) (A0 : Option Addr) (c0 : Nat) (hR0 : RdL w0 A0 l0) (hL0 : l0.length ≤ c0) (b1 : Nat) (b2 : Nat) (hc1 : l0.length ≤ 17592186044416) (Z1 : Option Addr) (cz1 : Nat) : ((List Int) ⊕ (List STask)) → Exit → Act → World → Prop := Exits 0 (fun (s : (List Int)) a w => St w0 w [Own.blk b2 (.cells #[.func (.func 37) #[] #[]] 74 (0, 0)), Own.blk b1 (.cells #[.slice A0 l0.length c0] 22 (0, 0)), Own.of (.slice Z1 s.length cz1) 3 s] ∧ Frm 45 a [(2, .pointer (some ⟨b1, 0, none⟩)), (3, .pointer (some ⟨b2, 0, none⟩)), (5, (.slice Z1 s.length cz1))]) (Rets Try.prog Try.f36 (fixed_ranked.Post w0))
theorem fixed_ranked_r0 (K : Nat) (w0 : World) (l0 : List STask) (A0 : Option Addr) (c0 : Nat) (hR0 : RdL w0 A0 l0) (hL0 : l0.length ≤ c0) (b1 : Nat) (b2 : Nat) (hc1 : l0.length ≤ 17592186044416) (Z1 : Option Addr) (cz1 : Nat) (s : Int × (List Int)) (o : (Int × (List Int)) ⊕ ((List Int) ⊕ (List STask))) (h : fixed_ranked.r0 l0 s = some o) (a : Act) (w : World) (hA : fixed_ranked.A0 K w0 l0 A0 c0 hR0 hL0 b1 b2 hc1 Z1 cz1 s a w) (Q : Exit → Act → World → Prop) (hQ : ∀ x a w, Outs (fixed_ranked.A0 K w0 l0 A0 c0 hR0 hL0 b1 b2 hc1 Z1 cz1) (fixed_ranked.B0 K w0 l0 A0 c0 hR0 hL0 b1 b2 hc1 Z1 cz1) o x a w → Q x a w) : (subF Try.f36 [1, 1, 0, 1, 0, 0]).wp Try.prog Q a w := by
  obtain ⟨z1, m1⟩ := s
  obtain ⟨hS, hF⟩ := hA
  replace hS : St w0 w [Own.blk b2 (.cells #[.func (.func 37) #[] #[]] 74 (0, 0)), Own.blk b1 (.cells #[.slice A0 l0.length c0] 22 (0, 0)), Own.of (.slice Z1 m1.length cz1) 3 m1] := hS
  simp only [fixed_ranked.r0] at h
  refine (?_ : WE Try.prog 45 (subF Try.f36 [1, 1, 0, 1, 0, 0]) Q [(2, .pointer (some ⟨b1, 0, none⟩)), (3, .pointer (some ⟨b2, 0, none⟩)), (5, (.slice Z1 m1.length cz1)), (14, .int .i64 ((List.replicate l0.length (0 : Int)).length : Int)), (15, .int .i64 z1)] w) a hF
  clear hF a
  refine we_seq fun K5 hK5 => ?_
  refine we_region [(0, 0)] rfl ?_
  refine ge_batch [0] (ans := []) (vs := [(16, .bool (decide (z1 < ((List.replicate l0.length (0 : Int)).length : Int))))]) (l := []) (by kernel_rfl) trivial ?_
  refine ge_nil fun a hF => hK5 _ _ ?_ a hF
  refine we_seq fun K6 hK6 => ?_
  by_cases hc2 : z1 < ((List.replicate l0.length (0 : Int)).length : Int)
  · rw [if_pos hc2] at h
    refine we_known (t := 16) (b := decide (z1 < ((List.replicate l0.length (0 : Int)).length : Int))) (v := true) (by kernel_rfl) (decide_eq_true hc2) ?_
    refine we_true (by kernel_rfl) ?_
    refine we_skip fun a hF => hK6 _ _ ?_ a hF
    refine we_seq fun K7 hK7 => ?_
    refine we_block ?_
    refine we_seq fun K8 hK8 => ?_
    refine we_region [(0, 0), (1, 0)] rfl ?_
    refine ge_batch [0, 1] (ans := []) (vs := [(6, .int .i64 z1), (17, .int .i64 z1)]) (l := []) (by kernel_rfl) trivial ?_
    refine ge_nil fun a hF => hK8 _ _ ?_ a hF
    refine we_region [(0, 0), (1, 0), (2, 0), (3, 0), (4, 2)] rfl ?_
    refine ge_batch [0, 1, 2] (ans := []) (vs := [(20, .int .i64 z1), (19, .int .i64 z1), (18, (.slice Z1 m1.length cz1))]) (l := []) (by kernel_rfl) trivial ?_
    by_cases hc3 : 0 ≤ z1
    · rw [if_pos hc3] at h
      rcases hx3 : m1[(z1).toNat]? with _ | e1
      · rw [hx3] at h; cases h
      rw [hx3] at h
      simp only [] at h
      refine ge_index (d := 21) (ty := 0) (t := 24) (el := 3) (sz := 1) (m := m1.length) (c := cz1) (x := (.tmp 18)) (y := (.tmp 19)) (A := Z1) (k' := .i64) (j := z1) (jn := ((z1).toNat)) (b0 := blkOf Z1) (o0 := offOf Z1) (by kernel_rfl) (by kernel_rfl) (by kernel_rfl) (by kernel_rfl) (by kernel_rfl) ((hS.rdAt 2 rfl).eqSome (pos_of_get hx3)) (Int.toNat_of_nonneg hc3).symm (lt_of_get hx3) ?_
      have hS6 := hS.bring 2 rfl
      refine ge_seti (α := Int) (A := Z1) (nn := m1.length) (c := cz1) (t := 3) (l := m1) (x := e1) (x' := z1) (jn := ((z1).toNat)) (j := 0) (vs := [.int .i64 z1]) (l' := [.stored ⟨blkOf Z1, offOf Z1 + ((z1).toNat) * 1, none⟩ (.int .i64 z1)]) hS6 (by kernel_rfl) (by kernel_rfl) hx3 rfl rfl rfl fun w4 hS7 => ?_
      have hS8 : St w0 w4 [Own.of (.slice Z1 m1.length cz1) 3 (m1.set ((z1).toNat) z1), Own.blk b2 (.cells #[.func (.func 37) #[] #[]] 74 (0, 0)), Own.blk b1 (.cells #[.slice A0 l0.length c0] 22 (0, 0))] := hS7
      have hE1 : m1.length = (m1.set ((z1).toNat) z1).length := hS8.lenAt 0 rfl
      have hS9 : St w0 w4 [Own.of (.slice Z1 (m1.set ((z1).toNat) z1).length cz1) 3 (m1.set ((z1).toNat) z1), Own.blk b2 (.cells #[.func (.func 37) #[] #[]] 74 (0, 0)), Own.blk b1 (.cells #[.slice A0 l0.length c0] 22 (0, 0))] := by rw [← hE1]; exact hS8
      refine ge_same (t := 5) (v := (.slice Z1 m1.length cz1)) (v' := (.slice Z1 (m1.set ((z1).toNat) z1).length cz1)) (by kernel_rfl) (by rw [hE1]) ?_
      refine ge_same (t := 18) (v := (.slice Z1 m1.length cz1)) (v' := (.slice Z1 (m1.set ((z1).toNat) z1).length cz1)) (by kernel_rfl) (by rw [hE1]) ?_
      refine ge_nil fun a hF => hK7 _ _ ?_ a hF
      refine we_region [(0, 0), (1, 0)] rfl ?_
      refine ge_batch [0, 1] (ans := []) (vs := [(15, .int .i64 (IntKind.i64.wrap (z1 + 1))), (22, .int .i64 (IntKind.i64.wrap (z1 + 1)))]) (l := []) (by kernel_rfl) trivial ?_
      have hS10 := hS9.bring 2 rfl
      have hS11 := hS10.bring 2 rfl
      obtain rfl := Option.some.inj h
      exact ge_nil fun a hF => hQ _ _ _ (Outs.again ⟨hS11, hF.weaken ⟨by kernel_rfl, by kernel_rfl, by kernel_rfl, by kernel_rfl, by kernel_rfl, trivial⟩⟩)
    · rw [if_neg hc3] at h
      cases h
  · rw [if_neg hc2] at h
    refine we_known (t := 16) (b := decide (z1 < ((List.replicate l0.length (0 : Int)).length : Int))) (v := false) (by kernel_rfl) (decide_eq_false hc2) ?_
    refine we_false (by kernel_rfl) ?_
    have hS12 := hS.bring 2 rfl
    have hS13 := hS12.bring 2 rfl
    have hS14 := hS13.bring 2 rfl
    obtain rfl := Option.some.inj h
    exact we_exit fun a hF => hQ _ _ _ (Outs.out nofun (Exits.here ⟨hS14, hF.weaken ⟨by kernel_rfl, by kernel_rfl, by kernel_rfl, trivial⟩⟩))
abbrev fixed_ranked.A1 (K : Nat) (w0 : World) (l0 : List STask) (A0 : Option Addr) (c0 : Nat) (hR0 : RdL w0 A0 l0) (hL0 : l0.length ≤ c0) (b1 : Nat) (b2 : Nat) (hc1 : l0.length ≤ 17592186044416) (Z1 : Option Addr) (cz1 : Nat) (m3 : List Int) (r1 : List Int) (r2 : List STask) (Z2 : Option Addr) (cz2 : Nat) : (Nat × (List STask)) → Act → World → Prop := fun (s : Nat × (List STask)) a w => St w0 w [Own.blk b1 (.cells #[.slice A0 l0.length c0] 22 (0, 0)), Own.of (.slice Z2 s.2.length cz2) 46 s.2, Own.of (.slice Z1 r1.length cz1) 3 r1] ∧ Frm 45 a [(2, .pointer (some ⟨b1, 0, none⟩)), (7, (.slice Z2 s.2.length cz2)), (28, (.slice Z1 r1.length cz1)), (29, .int .i64 (r1.length : Int)), (30, .int .i64 (s.1 : Int))]
abbrev fixed_ranked.B1 (K : Nat) (w0 : World) (l0 : List STask) (A0 : Option Addr) (c0 : Nat) (hR0 : RdL w0 A0 l0) (hL0 : l0.length ≤ c0) (b1 : Nat) (b2 : Nat) (hc1 : l0.length ≤ 17592186044416) (Z1 : Option Addr) (cz1 : Nat) (m3 : List Int) (r1 : List Int) (r2 : List STask) (Z2 : Option Addr) (cz2 : Nat) : ((List STask) ⊕ (List STask)) → Exit → Act → World → Prop := Exits 2 (fun (s : (List STask)) a w => St w0 w [Own.of (.slice Z2 s.length cz2) 46 s] ∧ Frm 45 a [(7, (.slice Z2 s.length cz2))]) (Rets Try.prog Try.f36 (fixed_ranked.Post w0))
theorem fixed_ranked_r1 (K : Nat) (w0 : World) (l0 : List STask) (A0 : Option Addr) (c0 : Nat) (hR0 : RdL w0 A0 l0) (hL0 : l0.length ≤ c0) (b1 : Nat) (b2 : Nat) (hc1 : l0.length ≤ 17592186044416) (Z1 : Option Addr) (cz1 : Nat) (m3 : List Int) (r1 : List Int) (r2 : List STask) (Z2 : Option Addr) (cz2 : Nat) (s : Nat × (List STask)) (o : (Nat × (List STask)) ⊕ ((List STask) ⊕ (List STask))) (h : fixed_ranked.r1 l0 r1 s = some o) (a : Act) (w : World) (hA : fixed_ranked.A1 K w0 l0 A0 c0 hR0 hL0 b1 b2 hc1 Z1 cz1 m3 r1 r2 Z2 cz2 s a w) (Q : Exit → Act → World → Prop) (hQ : ∀ x a w, Outs (fixed_ranked.A1 K w0 l0 A0 c0 hR0 hL0 b1 b2 hc1 Z1 cz1 m3 r1 r2 Z2 cz2) (fixed_ranked.B1 K w0 l0 A0 c0 hR0 hL0 b1 b2 hc1 Z1 cz1 m3 r1 r2 Z2 cz2) o x a w → Q x a w) : (subF Try.f36 [1, 1, 1, 1, 1, 0, 1, 0, 0]).wp Try.prog Q a w := by
  obtain ⟨i1, m4⟩ := s
  obtain ⟨hS, hF⟩ := hA
  replace hS : St w0 w [Own.blk b1 (.cells #[.slice A0 l0.length c0] 22 (0, 0)), Own.of (.slice Z2 m4.length cz2) 46 m4, Own.of (.slice Z1 r1.length cz1) 3 r1] := hS
  simp only [fixed_ranked.r1] at h
  refine (?_ : WE Try.prog 45 (subF Try.f36 [1, 1, 1, 1, 1, 0, 1, 0, 0]) Q [(2, .pointer (some ⟨b1, 0, none⟩)), (7, (.slice Z2 m4.length cz2)), (28, (.slice Z1 r1.length cz1)), (29, .int .i64 (r1.length : Int)), (30, .int .i64 (i1 : Int))] w) a hF
  clear hF a
  refine we_seq fun K13 hK13 => ?_
  refine we_region [(0, 0)] rfl ?_
  refine ge_batch [0] (ans := []) (vs := [(31, .bool (decide ((i1 : Int) < (r1.length : Int))))]) (l := []) (by kernel_rfl) trivial ?_
  refine ge_nil fun a hF => hK13 _ _ ?_ a hF
  refine we_seq fun K14 hK14 => ?_
  by_cases hc4 : (i1 : Int) < (r1.length : Int)
  · rw [if_pos hc4] at h
    refine we_known (t := 31) (b := decide ((i1 : Int) < (r1.length : Int))) (v := true) (by kernel_rfl) (decide_eq_true hc4) ?_
    refine we_true (by kernel_rfl) ?_
    refine we_skip fun a hF => hK14 _ _ ?_ a hF
    refine we_seq fun K15 hK15 => ?_
    refine we_block ?_
    refine we_seq fun K16 hK16 => ?_
    refine we_region [(0, 0), (1, 0), (2, 0), (3, 0), (4, 0)] rfl ?_
    refine ge_batch [0] (ans := []) (vs := [(32, .int .i64 (i1 : Int))]) (l := []) (by kernel_rfl) trivial ?_
    rcases hx4 : r1[i1]? with _ | e2
    · rw [hx4] at h; cases h
    rw [hx4] at h
    simp only [] at h
    refine ge_index (d := 33) (ty := 0) (t := 24) (el := 3) (sz := 1) (m := r1.length) (c := cz1) (x := (.tmp 28)) (y := (.tmp 30)) (A := Z1) (k' := .i64) (j := (i1 : Int)) (jn := i1) (b0 := blkOf Z1) (o0 := offOf Z1) (by kernel_rfl) (by kernel_rfl) (by kernel_rfl) (by kernel_rfl) (by kernel_rfl) ((hS.rdAt 2 rfl).eqSome (pos_of_get hx4)) rfl (lt_of_get hx4) ?_
    refine ge_batch [2, 3, 4] (ans := [.val (.int .i64 e2)]) (vs := [(9, .int .i64 e2), (8, .int .i64 (i1 : Int)), (34, .int .i64 e2)]) (l := [.loaded ⟨blkOf Z1, offOf Z1 + i1 * 1, none⟩ (.int .i64 e2)]) (by kernel_rfl) ⟨RdL.cell (j := 0) (hS.rdAt 2 rfl) hx4 rfl, trivial⟩ ?_
    refine ge_nil fun a hF => hK16 _ _ ?_ a hF
    refine we_region [(0, 0), (1, 0), (2, 0), (3, 0), (4, 0), (5, 0), (6, 0), (7, 0), (8, 2)] rfl ?_
    refine ge_batch [0, 1, 2, 3, 4, 5] (ans := [.val (.slice A0 l0.length c0)]) (vs := [(40, .int .i64 (IntKind.i64.wrap ((l0.length : Int) - (i1 : Int)))), (39, .int .i64 (i1 : Int)), (38, .int .i64 (l0.length : Int)), (37, .slice A0 l0.length c0), (36, .int .i64 e2), (35, (.slice Z2 m4.length cz2))]) (l := [.loaded ⟨b1, 0, none⟩ (.slice A0 l0.length c0)]) (by kernel_rfl) ⟨hS.cell 0 rfl rfl, trivial⟩ ?_
    by_cases hc5 : 0 ≤ e2
    · rw [if_pos hc5] at h
      rcases hx5 : m4[(e2).toNat]? with _ | e3
      · rw [hx5] at h; cases h
      rw [hx5] at h
      simp only [] at h
      refine ge_index (d := 41) (ty := 0) (t := 22) (el := 46) (sz := 7) (m := m4.length) (c := cz2) (x := (.tmp 35)) (y := (.tmp 36)) (A := Z2) (k' := .i64) (j := e2) (jn := ((e2).toNat)) (b0 := blkOf Z2) (o0 := offOf Z2) (by kernel_rfl) (by kernel_rfl) (by kernel_rfl) (by kernel_rfl) (by kernel_rfl) ((hS.rdAt 1 rfl).eqSome (pos_of_get hx5)) (Int.toNat_of_nonneg hc5).symm (lt_of_get hx5) ?_
      refine ge_batch [7] (ans := []) (vs := [(42, .pointer (some ⟨blkOf Z2, offOf Z2 + (e2).toNat * 7 + 6, none⟩))]) (l := []) (by kernel_rfl) trivial ?_
      have hS28 := hS.bring 1 rfl
      refine ge_seti (α := STask) (A := Z2) (nn := m4.length) (c := cz2) (t := 46) (l := m4) (x := e3) (x' := (⟨e3.Name, e3.C, e3.T, e3.D, e3.J, e3.O, IntKind.i64.wrap ((l0.length : Int) - (i1 : Int))⟩ : STask)) (jn := ((e2).toNat)) (j := 6) (vs := [.int .i64 (IntKind.i64.wrap ((l0.length : Int) - (i1 : Int)))]) (l' := [.stored ⟨blkOf Z2, offOf Z2 + ((e2).toNat) * 7 + 6, none⟩ (.int .i64 (IntKind.i64.wrap ((l0.length : Int) - (i1 : Int))))]) hS28 (by kernel_rfl) (by kernel_rfl) hx5 rfl rfl rfl fun w8 hS29 => ?_
      have hS30 : St w0 w8 [Own.of (.slice Z2 m4.length cz2) 46 (m4.set ((e2).toNat) (⟨e3.Name, e3.C, e3.T, e3.D, e3.J, e3.O, IntKind.i64.wrap ((l0.length : Int) - (i1 : Int))⟩ : STask)), Own.blk b1 (.cells #[.slice A0 l0.length c0] 22 (0, 0)), Own.of (.slice Z1 r1.length cz1) 3 r1] := hS29
      have hE3 : m4.length = (m4.set ((e2).toNat) (⟨e3.Name, e3.C, e3.T, e3.D, e3.J, e3.O, IntKind.i64.wrap ((l0.length : Int) - (i1 : Int))⟩ : STask)).length := hS30.lenAt 0 rfl
      have hS31 : St w0 w8 [Own.of (.slice Z2 (m4.set ((e2).toNat) (⟨e3.Name, e3.C, e3.T, e3.D, e3.J, e3.O, IntKind.i64.wrap ((l0.length : Int) - (i1 : Int))⟩ : STask)).length cz2) 46 (m4.set ((e2).toNat) (⟨e3.Name, e3.C, e3.T, e3.D, e3.J, e3.O, IntKind.i64.wrap ((l0.length : Int) - (i1 : Int))⟩ : STask)), Own.blk b1 (.cells #[.slice A0 l0.length c0] 22 (0, 0)), Own.of (.slice Z1 r1.length cz1) 3 r1] := by rw [← hE3]; exact hS30
      refine ge_same (t := 7) (v := (.slice Z2 m4.length cz2)) (v' := (.slice Z2 (m4.set ((e2).toNat) (⟨e3.Name, e3.C, e3.T, e3.D, e3.J, e3.O, IntKind.i64.wrap ((l0.length : Int) - (i1 : Int))⟩ : STask)).length cz2)) (by kernel_rfl) (by rw [hE3]) ?_
      refine ge_same (t := 35) (v := (.slice Z2 m4.length cz2)) (v' := (.slice Z2 (m4.set ((e2).toNat) (⟨e3.Name, e3.C, e3.T, e3.D, e3.J, e3.O, IntKind.i64.wrap ((l0.length : Int) - (i1 : Int))⟩ : STask)).length cz2)) (by kernel_rfl) (by rw [hE3]) ?_
      refine ge_nil fun a hF => hK15 _ _ ?_ a hF
      refine we_region [(0, 0), (1, 0)] rfl ?_
      refine ge_addn (d := 43) (ty := 3) (x := (.tmp 30)) (y := (.const (.int .i64 1))) (t := 3) (t2 := 3) (k := .i64) (m := i1) (by kernel_rfl) (by kernel_rfl) (by kernel_rfl) (by have h0 := hS31.ofSmall 2 rfl; omega) ?_
      refine ge_batch [1] (ans := []) (vs := [(30, .int .i64 ((i1 + 1 : Nat) : Int))]) (l := []) (by kernel_rfl) trivial ?_
      have hS32 := hS31.bring 2 rfl
      have hS33 := hS32.bring 1 rfl
      have hS34 := hS33.bring 2 rfl
      obtain rfl := Option.some.inj h
      exact ge_nil fun a hF => hQ _ _ _ (Outs.again ⟨hS34, hF.weaken ⟨by kernel_rfl, by kernel_rfl, by kernel_rfl, by kernel_rfl, by kernel_rfl, trivial⟩⟩)
    · rw [if_neg hc5] at h
      cases h
  · rw [if_neg hc4] at h
    refine we_known (t := 31) (b := decide ((i1 : Int) < (r1.length : Int))) (v := false) (by kernel_rfl) (decide_eq_false hc4) ?_
    refine we_false (by kernel_rfl) ?_
    have hS35 := hS.bring 1 rfl
    have hS36 := hS35.takeN 1
    obtain rfl := Option.some.inj h
    exact we_exit fun a hF => hQ _ _ _ (Outs.out nofun (Exits.here ⟨hS36, hF.weaken ⟨by kernel_rfl, trivial⟩⟩))
theorem fixed_ranked_ok (K : Nat) (l0 : List STask) (A0 : Option Addr) (c0 : Nat) (w0 : World) (hR0 : RdL w0 A0 l0) (hL0 : l0.length ≤ c0) (r : List STask) (h : fixed_ranked.f K l0 = some r) :
    Calls Try.prog 36 #[.slice A0 l0.length c0, .func (.func 37) #[] #[]] w0 (fixed_ranked.Post w0 r) := by
  have hS := St.start w0
  unfold fixed_ranked.f at h
  refine calls_enter (n := 45) (args := [.slice A0 l0.length c0, .func (.func 37) #[] #[]]) (fn := Try.f36) rfl rfl rfl rfl ?_
  show WE _ _ _ _ [(0, .slice A0 l0.length c0), (1, .func (.func 37) #[] #[])] _
  refine we_seq fun K1 hK1 => ?_
  refine we_region [(0, 1), (1, 1), (2, 0)] rfl ?_
  refine ge_new (d := some 2) (o := .cells #[.slice A0 l0.length c0] 22) (v := fun b => .pointer (some ⟨b, 0, none⟩)) hS (fun b => by kernel_rfl) fun b1 w1 hx1 hS1 => ?_
  refine ge_new (d := some 3) (o := .cells #[.func (.func 37) #[] #[]] 74) (v := fun b => .pointer (some ⟨b, 0, none⟩)) hS1 (fun b => by kernel_rfl) fun b2 w2 hx2 hS2 => ?_
  refine ge_batch [2] (ans := []) (vs := [(4, .slice none 0 0)]) (l := []) (by kernel_rfl) trivial ?_
  refine ge_nil fun a hF => hK1 _ _ ?_ a hF
  refine we_seq fun K2 hK2 => ?_
  refine we_region [(0, 0), (1, 0), (2, 1), (3, 0)] rfl ?_
  refine ge_batch [0, 1] (ans := [.val (.slice A0 l0.length c0)]) (vs := [(11, .int .i64 (l0.length : Int)), (10, .slice A0 l0.length c0)]) (l := [.loaded ⟨b1, 0, none⟩ (.slice A0 l0.length c0)]) (by kernel_rfl) ⟨hS2.cell 1 rfl rfl, trivial⟩ ?_
  by_cases hc1 : l0.length ≤ 17592186044416
  · rw [if_pos hc1] at h
    refine ge_make (α := Int) (d := 12) (t := 24) (el := 3) (bytes := 8) (l := l0.length) (c := l0.length) (x := (.tmp 11)) (y := (.tmp 11)) (ty := 24) (k1 := .i64) (k2 := .i64) (li := (l0.length : Int)) (ci := (l0.length : Int)) (z := .int .i64 0) (z' := (0 : Int)) (by kernel_rfl) (by kernel_rfl) (by kernel_rfl) rfl rfl (by kernel_rfl) (by kernel_rfl) rfl hS2 (Nat.le_refl _) rfl (by omega) fun v1 w3 _ hS3 => ?_
    refine ge_batch [3] (ans := []) (vs := [(5, v1)]) (l := []) (by kernel_rfl) trivial ?_
    refine ge_nil fun a hF => hK2 _ _ ?_ a hF
    refine we_seq fun K3 hK3 => ?_
    refine we_seq fun K4 hK4 => ?_
    refine we_region [(0, 0), (1, 0), (2, 0)] rfl ?_
    refine ge_batch [0] (ans := []) (vs := [(13, v1)]) (l := []) (by kernel_rfl) trivial ?_
    obtain ⟨Z1, cz1, rfl⟩ := hS3.open 0 rfl
    refine ge_batch [1, 2] (ans := []) (vs := [(15, .int .i64 0), (14, .int .i64 ((List.replicate l0.length (0 : Int)).length : Int))]) (l := []) (by kernel_rfl) trivial ?_
    refine ge_nil fun a hF => hK4 _ _ ?_ a hF
    refine we_block ?_
    have hS4 := hS3.bring 2 rfl
    have hS5 := hS4.bring 2 rfl
    rcases hq1 : iter (fixed_ranked.r0 l0) K (0, (List.replicate l0.length (0 : Int))) with _ | (m3 | rr2)
    · rw [hq1] at h; cases h
    · rw [hq1] at h
      simp only [] at h
      refine we_iter (A := fixed_ranked.A0 K w0 l0 A0 c0 hR0 hL0 b1 b2 hc1 Z1 cz1) (B := fixed_ranked.B0 K w0 l0 A0 c0 hR0 hL0 b1 b2 hc1 Z1 cz1) hq1 (fun a hF => ⟨hS5, hF.weaken ⟨by kernel_rfl, by kernel_rfl, by kernel_rfl, by kernel_rfl, by kernel_rfl, trivial⟩⟩) (fun s o hf a w hA Q hQ => fixed_ranked_r0 K w0 l0 A0 c0 hR0 hL0 b1 b2 hc1 Z1 cz1 s o hf a w hA Q hQ) ?_
      rintro _ a w5 _ ⟨rfl, hS15, hF⟩
      replace hS15 : St w0 w5 [Own.blk b2 (.cells #[.func (.func 37) #[] #[]] 74 (0, 0)), Own.blk b1 (.cells #[.slice A0 l0.length c0] 22 (0, 0)), Own.of (.slice Z1 m3.length cz1) 3 m3] := hS15
      refine hK3 [(2, .pointer (some ⟨b1, 0, none⟩)), (3, .pointer (some ⟨b2, 0, none⟩)), (5, (.slice Z1 m3.length cz1))] w5 ?_ a hF
      refine we_seq fun K9 hK9 => ?_
      refine we_region [(0, 0), (1, 0), (2, 2)] rfl ?_
      refine ge_batch [0, 1] (ans := []) (vs := [(24, .func (.func 59) #[] #[.pointer (some ⟨b2, 0, none⟩), .pointer (some ⟨b1, 0, none⟩)]), (23, (.slice Z1 m3.length cz1))]) (l := []) (by kernel_rfl) trivial ?_
      rcases hq2 : slices_SortStableFunc_int_int.f K m3 l0 with _ | r1
      · rw [hq2] at h; cases h
      rw [hq2] at h
      simp only [] at h
      have hS16 := hS15.bring 1 rfl
      have hS17 := hS16.bring 1 rfl
      have hS18 := hS17.bring 2 rfl
      have hS20 : St w0 w5 [Own.of (.slice Z1 m3.length cz1) 3 m3, Own.blk b2 (.cells #[.func (.func 37) #[] #[]] 74 (0, 0)), Own.blk b1 (.cells #[.slice A0 l0.length c0] 22 (0, 0)), Own.all []] := hS18.packN 3
      refine ge_call2 (m := 0) (d := some 25) (f := 58) (args := #[.slice Z1 m3.length cz1, .func (.func 59) #[] #[.pointer (some ⟨b2, 0, none⟩), .pointer (some ⟨b1, 0, none⟩)]]) (by kernel_rfl) (slices_SortStableFunc_int_int_ok K m3 Z1 cz1 b2 b1 l0 A0 c0 _ _ _ hS20 hR0 hL0 _ hq2) ?_
      rintro _ w6 ⟨rfl, hE2, hS19⟩
      refine ⟨_, rfl, ?_⟩
      have hS21 : St w0 w6 [Own.of (.slice Z1 r1.length cz1) 3 r1, Own.blk b2 (.cells #[.func (.func 37) #[] #[]] 74 (0, 0)), Own.blk b1 (.cells #[.slice A0 l0.length c0] 22 (0, 0))] := hS19.unpack [Own.of (.slice Z1 r1.length cz1) 3 r1, Own.blk b2 (.cells #[.func (.func 37) #[] #[]] 74 (0, 0)), Own.blk b1 (.cells #[.slice A0 l0.length c0] 22 (0, 0))]
      refine ge_same (t := 5) (v := (.slice Z1 m3.length cz1)) (v' := (.slice Z1 r1.length cz1)) (by kernel_rfl) (by rw [show m3.length = r1.length from hE2]) ?_
      refine ge_same (t := 23) (v := (.slice Z1 m3.length cz1)) (v' := (.slice Z1 r1.length cz1)) (by kernel_rfl) (by rw [show m3.length = r1.length from hE2]) ?_
      refine ge_nil fun a hF => hK9 _ _ ?_ a hF
      refine we_seq fun K10 hK10 => ?_
      refine we_region [(0, 0), (1, 1), (2, 0)] rfl ?_
      rcases hq3 : slices_Clone_api_Task_api_Task.f l0 with _ | r2
      · rw [hq3] at h; cases h
      rw [hq3] at h
      simp only [] at h
      refine ge_batch [0] (ans := [.val (.slice A0 l0.length c0)]) (vs := [(26, .slice A0 l0.length c0)]) (l := [.loaded ⟨b1, 0, none⟩ (.slice A0 l0.length c0)]) (by kernel_rfl) ⟨hS21.cell 2 rfl rfl, trivial⟩ ?_
      refine ge_call (d := some 27) (f := 33) (args := #[.slice A0 l0.length c0]) (by kernel_rfl) (slices_Clone_api_Task_api_Task_ok l0 A0 c0 _ (hS21.rd hR0) hL0 _ hq3) ?_
      rintro _ w7 ⟨v2, rfl, hS22⟩
      refine ⟨_, rfl, hS22.below, ?_⟩
      have hS23 := hS21.call hS22
      refine ge_batch [2] (ans := []) (vs := [(7, v2)]) (l := []) (by kernel_rfl) trivial ?_
      refine ge_nil fun a hF => hK10 _ _ ?_ a hF
      refine we_seq fun K11 hK11 => ?_
      refine we_seq fun K12 hK12 => ?_
      refine we_region [(0, 0), (1, 0), (2, 0)] rfl ?_
      refine ge_batch [0, 1, 2] (ans := []) (vs := [(30, .int .i64 0), (29, .int .i64 (r1.length : Int)), (28, (.slice Z1 r1.length cz1))]) (l := []) (by kernel_rfl) trivial ?_
      refine ge_nil fun a hF => hK12 _ _ ?_ a hF
      refine we_block ?_
      obtain ⟨Z2, cz2, rfl⟩ := hS23.open 0 rfl
      have hS24 := hS23.bring 1 rfl
      have hS25 := hS24.bring 1 rfl
      have hS26 := hS25.bring 3 rfl
      have hS27 := hS26.takeN 3
      rcases hq4 : iter (fixed_ranked.r1 l0 r1) K (0, r2) with _ | (m6 | rr1)
      · rw [hq4] at h; cases h
      · rw [hq4] at h
        simp only [] at h
        refine we_iter (A := fixed_ranked.A1 K w0 l0 A0 c0 hR0 hL0 b1 b2 hc1 Z1 cz1 m3 r1 r2 Z2 cz2) (B := fixed_ranked.B1 K w0 l0 A0 c0 hR0 hL0 b1 b2 hc1 Z1 cz1 m3 r1 r2 Z2 cz2) hq4 (fun a hF => ⟨hS27, hF.weaken ⟨by kernel_rfl, by kernel_rfl, by kernel_rfl, by kernel_rfl, by kernel_rfl, trivial⟩⟩) (fun s o hf a w hA Q hQ => fixed_ranked_r1 K w0 l0 A0 c0 hR0 hL0 b1 b2 hc1 Z1 cz1 m3 r1 r2 Z2 cz2 s o hf a w hA Q hQ) ?_
        rintro _ a w9 _ ⟨rfl, hS37, hF⟩
        replace hS37 : St w0 w9 [Own.of (.slice Z2 m6.length cz2) 46 m6] := hS37
        refine hK11 [(7, (.slice Z2 m6.length cz2))] w9 ?_ a hF
        refine we_seq fun K17 hK17 => ?_
        refine we_region [(0, 0), (1, 0)] rfl ?_
        refine ge_batch [0, 1] (ans := []) (vs := [(4, (.slice Z2 m6.length cz2)), (44, (.slice Z2 m6.length cz2))]) (l := []) (by kernel_rfl) trivial ?_
        refine ge_nil fun a hF => hK17 _ _ ?_ a hF
        obtain rfl := Option.some.inj h
        exact we_ret (post_ret (rs := [.tmp 4]) (ans := []) (vs := [(.slice Z2 m6.length cz2)]) (l := []) rfl (by kernel_rfl) trivial ⟨(.slice Z2 m6.length cz2), rfl, hS37⟩)
      · rw [hq4] at h
        simp only [] at h
        refine we_iter (A := fixed_ranked.A1 K w0 l0 A0 c0 hR0 hL0 b1 b2 hc1 Z1 cz1 m3 r1 r2 Z2 cz2) (B := fixed_ranked.B1 K w0 l0 A0 c0 hR0 hL0 b1 b2 hc1 Z1 cz1 m3 r1 r2 Z2 cz2) hq4 (fun a hF => ⟨hS27, hF.weaken ⟨by kernel_rfl, by kernel_rfl, by kernel_rfl, by kernel_rfl, by kernel_rfl, trivial⟩⟩) (fun s o hf a w hA Q hQ => fixed_ranked_r1 K w0 l0 A0 c0 hR0 hL0 b1 b2 hc1 Z1 cz1 m3 r1 r2 Z2 cz2 s o hf a w hA Q hQ) ?_
        rintro _ a w1 _ ⟨rfl, hb⟩
        obtain rfl := Option.some.inj h
        exact hb
    · rw [hq1] at h
      simp only [] at h
      refine we_iter (A := fixed_ranked.A0 K w0 l0 A0 c0 hR0 hL0 b1 b2 hc1 Z1 cz1) (B := fixed_ranked.B0 K w0 l0 A0 c0 hR0 hL0 b1 b2 hc1 Z1 cz1) hq1 (fun a hF => ⟨hS5, hF.weaken ⟨by kernel_rfl, by kernel_rfl, by kernel_rfl, by kernel_rfl, by kernel_rfl, trivial⟩⟩) (fun s o hf a w hA Q hQ => fixed_ranked_r0 K w0 l0 A0 c0 hR0 hL0 b1 b2 hc1 Z1 cz1 s o hf a w hA Q hQ) ?_
      rintro _ a w1 _ ⟨rfl, hb⟩
      obtain rfl := Option.some.inj h
      exact hb
  · rw [if_neg hc1] at h
    cases h

/-! punctual/fixed.Deadlines -/
abbrev fixed_Deadlines.Post (w0 : World) (r : (List STask) × SFault) (e : Ending) (w : World) : Prop := ∃ (v0 : Value), e = .returned (.tuple #[v0, .agg #[.int .i64 r.2.Code, .int .i64 r.2.At]]) ∧ St w0 w [Own.of v0 46 r.1]
def fixed_Deadlines.f (K : Nat) (l0 : List STask) : Option ((List STask) × SFault) :=
  match tasks_Check.f K l0 with
  | none => none
  | some r1 =>
    if r1.Code = 0 then
      match fixed_ranked.f K l0 with
      | none => none
      | some r2 =>
        some (r2, (⟨0, 0⟩ : SFault))
    else
      some (([] : List STask), r1)
theorem fixed_Deadlines_ok (K : Nat) (l0 : List STask) (A0 : Option Addr) (c0 : Nat) (w0 : World) (hR0 : RdL w0 A0 l0) (hL0 : l0.length ≤ c0) (r : (List STask) × SFault) (h : fixed_Deadlines.f K l0 = some r) :
    Calls Try.prog 17 #[.slice A0 l0.length c0] w0 (fixed_Deadlines.Post w0 r) := by
  have hS := St.start w0
  unfold fixed_Deadlines.f at h
  refine calls_enter (n := 14) (args := [.slice A0 l0.length c0]) (fn := Try.f17) rfl rfl rfl rfl ?_
  show WE _ _ _ _ [(0, .slice A0 l0.length c0)] _
  refine we_seq fun K1 hK1 => ?_
  refine we_region [(0, 0), (1, 1)] rfl ?_
  refine ge_batch [0] (ans := []) (vs := [(2, .slice none 0 0)]) (l := []) (by kernel_rfl) trivial ?_
  refine ge_new (d := some 3) (o := .cells #[.int .i64 0, .int .i64 0] 29) (v := fun b => .pointer (some ⟨b, 0, none⟩)) hS (fun b => by kernel_rfl) fun b1 w1 hx1 hS1 => ?_
  refine ge_nil fun a hF => hK1 _ _ ?_ a hF
  refine we_seq fun K2 hK2 => ?_
  refine we_seq fun K3 hK3 => ?_
  refine we_region [(0, 0), (1, 1), (2, 1), (3, 2)] rfl ?_
  rcases hq1 : tasks_Check.f K l0 with _ | r1
  · rw [hq1] at h; cases h
  rw [hq1] at h
  simp only [] at h
  refine ge_batch [0] (ans := []) (vs := [(5, .slice A0 l0.length c0)]) (l := []) (by kernel_rfl) trivial ?_
  refine ge_call (d := some 6) (f := 35) (args := #[.slice A0 l0.length c0]) (by kernel_rfl) (tasks_Check_ok K l0 A0 c0 _ (hS1.rd hR0) hL0 _ hq1) ?_
  rintro _ w2 ⟨rfl, hS2⟩
  refine ⟨_, rfl, hS2.below, ?_⟩
  have hS3 := hS1.call hS2
  refine ge_new (d := some 4) (o := .cells #[.int .i64 0, .int .i64 0] 29) (v := fun b => .pointer (some ⟨b, 0, none⟩)) hS3 (fun b => by kernel_rfl) fun b2 w3 hx2 hS4 => ?_
  refine ge_set (b := b2) (j := 0) (cs := #[.int .i64 0, .int .i64 0]) (t := 29) (vs := [.int .i64 r1.Code, .int .i64 r1.At]) hS4 (by kernel_rfl) rfl rfl fun w4 hS5 => ?_
  have hS6 : St w0 w4 [Own.blk b2 (.cells #[.int .i64 r1.Code, .int .i64 r1.At] 29 (0, 0)), Own.blk b1 (.cells #[.int .i64 0, .int .i64 0] 29 (0, 0))] := hS5
  refine ge_nil fun a hF => hK3 _ _ ?_ a hF
  refine we_seq fun K4 hK4 => ?_
  refine we_region [(0, 0), (1, 0), (2, 0)] rfl ?_
  refine ge_batch [0, 1, 2] (ans := [.val (.int .i64 r1.Code)]) (vs := [(9, .bool (r1.Code != 0)), (8, .int .i64 r1.Code), (7, .pointer (some ⟨b2, 0, none⟩))]) (l := [.loaded ⟨b2, 0, none⟩ (.int .i64 r1.Code)]) (by kernel_rfl) ⟨hS6.cell 0 rfl rfl, trivial⟩ ?_
  refine ge_nil fun a hF => hK4 _ _ ?_ a hF
  by_cases hc1 : r1.Code = 0
  · rw [if_pos hc1] at h
    refine we_known (t := 9) (b := (r1.Code != 0)) (v := false) (by kernel_rfl) (bne_eq_false_iff_eq.2 hc1) ?_
    refine we_false (by kernel_rfl) ?_
    refine we_skip fun a hF => hK2 _ _ ?_ a hF
    refine we_seq fun K5 hK5 => ?_
    refine we_region [(0, 0), (1, 1), (2, 0), (3, 0), (4, 2)] rfl ?_
    rcases hq2 : fixed_ranked.f K l0 with _ | r2
    · rw [hq2] at h; cases h
    rw [hq2] at h
    simp only [] at h
    refine ge_batch [0] (ans := []) (vs := [(11, .slice A0 l0.length c0)]) (l := []) (by kernel_rfl) trivial ?_
    refine ge_call (d := some 12) (f := 36) (args := #[.slice A0 l0.length c0, .func (.func 37) #[] #[]]) (by kernel_rfl) (fixed_ranked_ok K l0 A0 c0 _ (hS6.rd hR0) hL0 _ hq2) ?_
    rintro _ w5 ⟨v1, rfl, hS7⟩
    refine ⟨_, rfl, hS7.below, ?_⟩
    have hS8 := hS6.call hS7
    refine ge_batch [2, 3] (ans := []) (vs := [(2, v1), (13, .agg #[.int .i64 0, .int .i64 0])]) (l := []) (by kernel_rfl) trivial ?_
    have hS9 := hS8.bring 2 rfl
    refine ge_set (b := b1) (j := 0) (cs := #[.int .i64 0, .int .i64 0]) (t := 29) (vs := [.int .i64 0, .int .i64 0]) hS9 (by kernel_rfl) rfl rfl fun w6 hS10 => ?_
    have hS11 : St w0 w6 [Own.blk b1 (.cells #[.int .i64 0, .int .i64 0] 29 (0, 0)), Own.of v1 46 r2, Own.blk b2 (.cells #[.int .i64 r1.Code, .int .i64 r1.At] 29 (0, 0))] := hS10
    refine ge_nil fun a hF => hK5 _ _ ?_ a hF
    have hS12 := hS11.bring 1 rfl
    have hS13 := hS12.takeN 1
    obtain rfl := Option.some.inj h
    exact we_ret (post_ret (rs := [.tmp 2, .cell 3 29]) (ans := [.val (.int .i64 0), .val (.int .i64 0)]) (vs := [v1, .agg #[.int .i64 0, .int .i64 0]]) (l := [.loaded ⟨b1, 0, none⟩ (.int .i64 0), .loaded ⟨b1, 1, none⟩ (.int .i64 0)]) rfl (by kernel_rfl) ⟨hS11.cell 0 rfl rfl, hS11.cell 0 rfl rfl, trivial⟩ ⟨v1, rfl, hS13⟩)
  · rw [if_neg hc1] at h
    refine we_known (t := 9) (b := (r1.Code != 0)) (v := true) (by kernel_rfl) (bne_iff_ne.2 hc1) ?_
    refine we_true (by kernel_rfl) ?_
    refine we_seq fun K6 hK6 => ?_
    refine we_draws (by kernel_rfl) [(0, 0), (1, 0), (2, 2)] (by kernel_rfl) ?_
    have hS14 := hS6.drew
    refine ge_batch [0, 1] (ans := [.val (.int .i64 r1.Code), .val (.int .i64 r1.At)]) (vs := [(2, .slice none 0 0), (10, .agg #[.int .i64 r1.Code, .int .i64 r1.At])]) (l := [.loaded ⟨b2, 0, none⟩ (.int .i64 r1.Code), .loaded ⟨b2, 1, none⟩ (.int .i64 r1.At)]) (by kernel_rfl) ⟨hS14.cell 0 rfl rfl, hS14.cell 0 rfl rfl, trivial⟩ ?_
    have hS15 := hS14.bring 1 rfl
    refine ge_set (b := b1) (j := 0) (cs := #[.int .i64 0, .int .i64 0]) (t := 29) (vs := [.int .i64 r1.Code, .int .i64 r1.At]) hS15 (by kernel_rfl) rfl rfl fun w7 hS16 => ?_
    have hS17 : St w0 w7 [Own.blk b1 (.cells #[.int .i64 r1.Code, .int .i64 r1.At] 29 (0, 0)), Own.blk b2 (.cells #[.int .i64 r1.Code, .int .i64 r1.At] 29 (0, 0))] := hS16
    refine ge_nil fun a hF => hK6 _ _ ?_ a hF
    have hS18 := hS17.nil (α := STask) 46
    have hS19 := hS18.takeN 1
    obtain rfl := Option.some.inj h
    exact we_ret (post_ret (rs := [.tmp 2, .cell 3 29]) (ans := [.val (.int .i64 r1.Code), .val (.int .i64 r1.At)]) (vs := [(.slice none 0 0), .agg #[.int .i64 r1.Code, .int .i64 r1.At]]) (l := [.loaded ⟨b1, 0, none⟩ (.int .i64 r1.Code), .loaded ⟨b1, 1, none⟩ (.int .i64 r1.At)]) rfl (by kernel_rfl) ⟨hS18.cell 1 rfl rfl, hS18.cell 1 rfl rfl, trivial⟩ ⟨(.slice none 0 0), rfl, hS19⟩)

/-! punctual/punctuallaw.FixedBest -/
abbrev FixedBest.Post (w0 : World) (r : Bool) (e : Ending) (w : World) : Prop := e = .returned (.bool r) ∧ St w0 w []
def FixedBest.p0 (l0 : List STask) (l1 : List Int) : Option (Unit ⊕ Bool) :=
    if (few.f (l0.length : Int)) = true then
      if (few.f (l1.length : Int)) = true then
        some (.inl ())
      else
        some (.inr true)
    else
      some (.inr true)
def FixedBest.p1 (l0 : List STask) (r3 : (List STask) × SFault) : Option (Unit ⊕ Bool) :=
    if r3.2.Code = 0 then
      if (r3.1.length : Int) = (l0.length : Int) then
        some (.inl ())
      else
        some (.inr false)
    else
      some (.inr false)
def FixedBest.r2 (l0 : List STask) (l1 : List Int) (r3 : (List STask) × SFault) : Nat → Option (Nat ⊕ (Unit ⊕ Bool))
  | i1 =>
    if (i1 : Int) < (l0.length : Int) then
      match l0[i1]? with
      | none => none
      | some e1 =>
        match r3.1[i1]? with
        | none => none
        | some e2 =>
          if (STask.eqb (⟨e2.Name, e2.C, e2.T, e2.D, e2.J, e2.O, e1.P⟩ : STask) e1) = true then
            if e1.J = 0 then
              match l1[i1]? with
              | none => none
              | some e3 =>
                if e3 = 0 then
                  some (.inl (i1 + 1))
                else
                  some (.inr (.inr true))
            else
              some (.inr (.inr true))
          else
            some (.inr (.inr false))
    else
      some (.inr (.inl ()))
def FixedBest.f (K : Nat) (l0 : List STask) (l1 : List Int) : Option Bool :=
  match responds.f K with
  | none => none
  | some r1 =>
    if r1 = true then
      match FixedBest.p0 l0 l1 with
      | none => none
      | some (.inl _) =>
        match fixed_Responses.f K l0 l1 with
        | none => none
        | some r2 =>
          if r2.2.Code = 0 then
            match fixed_Assign.f K l0 l1 with
            | none => none
            | some r3 =>
              match FixedBest.p1 l0 r3 with
              | none => none
              | some (.inl _) =>
                match fixed_Responses.f K r3.1 l1 with
                | none => none
                | some r4 =>
                  if r4.2.Code = 0 then
                    match iter (FixedBest.r2 l0 l1 r3) K 0 with
                    | none => none
                    | some (.inl _) =>
                      match fixed_Deadlines.f K l0 with
                      | none => none
                      | some r5 =>
                        match fixed_Responses.f K r5.1 l1 with
                        | none => none
                        | some r6 =>
                          if r5.2.Code = 0 then
                            some (r6.2.Code == 0)
                          else
                            some false
                    | some (.inr rr1) =>
                      some rr1
                  else
                    some false
              | some (.inr rr2) =>
                some rr2
          else
            some ((r2.1.length : Int) == 0)
      | some (.inr rr3) =>
        some rr3
    else
      some false
abbrev FixedBest.A0 (K : Nat) (w0 : World) (l0 : List STask) (A0 : Option Addr) (c0 : Nat) (l1 : List Int) (A1 : Option Addr) (c1 : Nat) (hR0 : RdL w0 A0 l0) (hL0 : l0.length ≤ c0) (hR1 : RdL w0 A1 l1) (hL1 : l1.length ≤ c1) (r1 : Bool) (hc1 : r1 = true) : Unit → Act → World → Prop := fun (s : Unit) a w => St w0 w [] ∧ Frm 112 a [(0, .slice A0 l0.length c0), (1, .slice A1 l1.length c1)]
abbrev FixedBest.B0 (K : Nat) (w0 : World) (l0 : List STask) (A0 : Option Addr) (c0 : Nat) (l1 : List Int) (A1 : Option Addr) (c1 : Nat) (hR0 : RdL w0 A0 l0) (hL0 : l0.length ≤ c0) (hR1 : RdL w0 A1 l1) (hL1 : l1.length ≤ c1) (r1 : Bool) (hc1 : r1 = true) : Bool → Exit → Act → World → Prop := Rets Try.prog Try.f4 (FixedBest.Post w0)
theorem FixedBest_p0 (K : Nat) (w0 : World) (l0 : List STask) (A0 : Option Addr) (c0 : Nat) (l1 : List Int) (A1 : Option Addr) (c1 : Nat) (hR0 : RdL w0 A0 l0) (hL0 : l0.length ≤ c0) (hR1 : RdL w0 A1 l1) (hL1 : l1.length ≤ c1) (r1 : Bool) (hc1 : r1 = true) (o : Unit ⊕ Bool) (h : FixedBest.p0 l0 l1 = some o) (w : World) (hS : St w0 w []) (Q : Exit → Act → World → Prop) (hQ : ∀ x a w, Outs (FixedBest.A0 K w0 l0 A0 c0 l1 A1 c1 hR0 hL0 hR1 hL1 r1 hc1) (FixedBest.B0 K w0 l0 A0 c0 l1 A1 c1 hR0 hL0 hR1 hL1 r1 hc1) o x a w → Q x a w) : WE Try.prog 112 (subF Try.f4 [1, 1, 0]) Q [(0, .slice A0 l0.length c0), (1, .slice A1 l1.length c1), (4, .bool false), (16, .bool r1), (17, .bool false)] w := by
  simp only [FixedBest.p0] at h
  refine we_seq fun K5 hK5 => ?_
  refine we_region [(0, 0), (1, 0), (2, 1), (3, 0), (4, 0), (5, 0), (6, 0), (7, 1), (8, 0), (9, 0)] rfl ?_
  refine ge_batch [0, 1] (ans := []) (vs := [(19, .int .i64 (l0.length : Int)), (18, .slice A0 l0.length c0)]) (l := []) (by kernel_rfl) trivial ?_
  refine ge_call (d := some 20) (f := 9) (args := #[.int .i64 (l0.length : Int)]) (by kernel_rfl) (few_ok (l0.length : Int) _ _ rfl) ?_
  rintro _ w2 ⟨rfl, hS3⟩
  refine ⟨_, rfl, hS3.below, ?_⟩
  have hS4 := hS.call hS3
  refine ge_batch [3, 4] (ans := []) (vs := [(22, .bool (!(few.f (l0.length : Int)))), (21, .bool (!(few.f (l0.length : Int))))]) (l := []) (by kernel_rfl) trivial ?_
  by_cases hc2 : (few.f (l0.length : Int)) = true
  · rw [if_pos hc2] at h
    refine ge_known (t := 22) (b := !(few.f (l0.length : Int))) (c := false) (by kernel_rfl) (congrArg (fun z => !z) hc2) ?_
    refine ge_batch [5, 6] (ans := []) (vs := [(24, .int .i64 (l1.length : Int)), (23, .slice A1 l1.length c1)]) (l := []) (by kernel_rfl) trivial ?_
    refine ge_call (d := some 25) (f := 9) (args := #[.int .i64 (l1.length : Int)]) (by kernel_rfl) (few_ok (l1.length : Int) _ _ rfl) ?_
    rintro _ w3 ⟨rfl, hS5⟩
    refine ⟨_, rfl, hS5.below, ?_⟩
    have hS6 := hS4.call hS5
    refine ge_batch [8, 9] (ans := []) (vs := [(27, .bool (!(few.f (l1.length : Int)))), (26, .bool (!(few.f (l1.length : Int))))]) (l := []) (by kernel_rfl) trivial ?_
    refine ge_nil fun a hF => hK5 _ _ ?_ a hF
    by_cases hc3 : (few.f (l1.length : Int)) = true
    · rw [if_pos hc3] at h
      refine we_known (t := 27) (b := !(few.f (l1.length : Int))) (v := false) (by kernel_rfl) (congrArg (fun z => !z) hc3) ?_
      refine we_false (by kernel_rfl) ?_
      obtain rfl := Option.some.inj h
      exact we_skip fun a hF => hQ _ _ _ (Outs.again ⟨hS6, hF.weaken ⟨by kernel_rfl, by kernel_rfl, trivial⟩⟩)
    · rw [if_neg hc3] at h
      refine we_known (t := 27) (b := !(few.f (l1.length : Int))) (v := true) (by kernel_rfl) (congrArg (fun z => !z) (Bool.eq_false_iff.2 hc3)) ?_
      refine we_true (by kernel_rfl) ?_
      refine we_seq fun K6 hK6 => ?_
      refine we_region [(0, 0)] rfl ?_
      refine ge_batch [0] (ans := []) (vs := [(4, .bool true)]) (l := []) (by kernel_rfl) trivial ?_
      refine ge_nil fun a hF => hK6 _ _ ?_ a hF
      obtain rfl := Option.some.inj h
      exact we_ret fun a hF => hQ _ _ _ (Outs.out nofun ⟨rfl, (post_ret (rs := [.tmp 4]) (ans := []) (vs := [.bool true]) (l := []) rfl (by kernel_rfl) trivial ⟨rfl, hS6⟩) a hF⟩)
  · rw [if_neg hc2] at h
    refine ge_known (t := 22) (b := !(few.f (l0.length : Int))) (c := true) (by kernel_rfl) (congrArg (fun z => !z) (Bool.eq_false_iff.2 hc2)) ?_
    refine ge_batch [5, 6] (ans := []) (vs := [(24, undef), (23, undef)]) (l := []) (by kernel_rfl) trivial ?_
    refine ge_off rfl rfl rfl (by kernel_rfl) ?_
    refine ge_batch [8, 9] (ans := []) (vs := [(27, .bool true), (26, undef)]) (l := []) (by kernel_rfl) trivial ?_
    refine ge_nil fun a hF => hK5 _ _ ?_ a hF
    refine we_true (by kernel_rfl) ?_
    refine we_seq fun K7 hK7 => ?_
    refine we_region [(0, 0)] rfl ?_
    refine ge_batch [0] (ans := []) (vs := [(4, .bool true)]) (l := []) (by kernel_rfl) trivial ?_
    refine ge_nil fun a hF => hK7 _ _ ?_ a hF
    obtain rfl := Option.some.inj h
    exact we_ret fun a hF => hQ _ _ _ (Outs.out nofun ⟨rfl, (post_ret (rs := [.tmp 4]) (ans := []) (vs := [.bool true]) (l := []) rfl (by kernel_rfl) trivial ⟨rfl, hS4⟩) a hF⟩)
abbrev FixedBest.A1 (K : Nat) (w0 : World) (l0 : List STask) (A0 : Option Addr) (c0 : Nat) (l1 : List Int) (A1 : Option Addr) (c1 : Nat) (hR0 : RdL w0 A0 l0) (hL0 : l0.length ≤ c0) (hR1 : RdL w0 A1 l1) (hL1 : l1.length ≤ c1) (r1 : Bool) (hc1 : r1 = true) (r2 : (List Int) × SFault) (b1 : Nat) (hc4 : r2.2.Code = 0) (r3 : (List STask) × SFault) (Z1 : Option Addr) (cz1 : Nat) (Z2 : Option Addr) (cz2 : Nat) : Unit → Act → World → Prop := fun (s : Unit) a w => St w0 w [Own.blk b1 (.cells #[.int .i64 r3.2.Code, .int .i64 r3.2.At] 29 (0, 0)), Own.of (.slice Z2 r3.1.length cz2) 46 r3.1] ∧ Frm 112 a [(0, .slice A0 l0.length c0), (1, .slice A1 l1.length c1), (6, .pointer (some ⟨b1, 0, none⟩)), (7, (.slice Z2 r3.1.length cz2))]
abbrev FixedBest.B1 (K : Nat) (w0 : World) (l0 : List STask) (A0 : Option Addr) (c0 : Nat) (l1 : List Int) (A1 : Option Addr) (c1 : Nat) (hR0 : RdL w0 A0 l0) (hL0 : l0.length ≤ c0) (hR1 : RdL w0 A1 l1) (hL1 : l1.length ≤ c1) (r1 : Bool) (hc1 : r1 = true) (r2 : (List Int) × SFault) (b1 : Nat) (hc4 : r2.2.Code = 0) (r3 : (List STask) × SFault) (Z1 : Option Addr) (cz1 : Nat) (Z2 : Option Addr) (cz2 : Nat) : Bool → Exit → Act → World → Prop := Rets Try.prog Try.f4 (FixedBest.Post w0)
theorem FixedBest_p1 (K : Nat) (w0 : World) (l0 : List STask) (A0 : Option Addr) (c0 : Nat) (l1 : List Int) (A1 : Option Addr) (c1 : Nat) (hR0 : RdL w0 A0 l0) (hL0 : l0.length ≤ c0) (hR1 : RdL w0 A1 l1) (hL1 : l1.length ≤ c1) (r1 : Bool) (hc1 : r1 = true) (r2 : (List Int) × SFault) (b1 : Nat) (hc4 : r2.2.Code = 0) (r3 : (List STask) × SFault) (Z1 : Option Addr) (cz1 : Nat) (Z2 : Option Addr) (cz2 : Nat) (o : Unit ⊕ Bool) (h : FixedBest.p1 l0 r3 = some o) (w : World) (hS : St w0 w [Own.blk b1 (.cells #[.int .i64 r3.2.Code, .int .i64 r3.2.At] 29 (0, 0)), Own.of (.slice Z2 r3.1.length cz2) 46 r3.1, Own.of (.slice Z1 r2.1.length cz1) 3 r2.1]) (Q : Exit → Act → World → Prop) (hQ : ∀ x a w, Outs (FixedBest.A1 K w0 l0 A0 c0 l1 A1 c1 hR0 hL0 hR1 hL1 r1 hc1 r2 b1 hc4 r3 Z1 cz1 Z2 cz2) (FixedBest.B1 K w0 l0 A0 c0 l1 A1 c1 hR0 hL0 hR1 hL1 r1 hc1 r2 b1 hc4 r3 Z1 cz1 Z2 cz2) o x a w → Q x a w) : WE Try.prog 112 (subF Try.f4 [1, 1, 1, 1, 1, 1, 0]) Q [(0, .slice A0 l0.length c0), (1, .slice A1 l1.length c1), (5, (.slice Z1 r2.1.length cz1)), (6, .pointer (some ⟨b1, 0, none⟩)), (7, (.slice Z2 r3.1.length cz2)), (28, .tuple #[(.slice Z1 r2.1.length cz1), .agg #[.int .i64 r2.2.Code, .int .i64 r2.2.At]]), (29, .slice A0 l0.length c0), (30, .slice A1 l1.length c1), (31, .tuple #[(.slice Z1 r2.1.length cz1), .agg #[.int .i64 r2.2.Code, .int .i64 r2.2.At]]), (32, (.slice Z1 r2.1.length cz1)), (33, .agg #[.int .i64 r2.2.Code, .int .i64 r2.2.At]), (34, .pointer (some ⟨b1, 0, none⟩)), (35, .int .i64 r2.2.Code), (36, .bool false), (40, .tuple #[(.slice Z2 r3.1.length cz2), .agg #[.int .i64 r3.2.Code, .int .i64 r3.2.At]]), (41, .slice A0 l0.length c0), (42, .slice A1 l1.length c1), (43, .tuple #[(.slice Z2 r3.1.length cz2), .agg #[.int .i64 r3.2.Code, .int .i64 r3.2.At]]), (44, (.slice Z2 r3.1.length cz2)), (45, .agg #[.int .i64 r3.2.Code, .int .i64 r3.2.At])] w := by
  simp only [FixedBest.p1] at h
  refine we_seq fun K13 hK13 => ?_
  refine we_region [(0, 0), (1, 0), (2, 0), (3, 0), (4, 0), (5, 0), (6, 0), (7, 0), (8, 0), (9, 0)] rfl ?_
  refine ge_batch [0, 1, 2, 3] (ans := [.val (.int .i64 r3.2.Code)]) (vs := [(49, .bool (r3.2.Code != 0)), (48, .bool (r3.2.Code != 0)), (47, .int .i64 r3.2.Code), (46, .pointer (some ⟨b1, 0, none⟩))]) (l := [.loaded ⟨b1, 0, none⟩ (.int .i64 r3.2.Code)]) (by kernel_rfl) ⟨hS.cell 0 rfl rfl, trivial⟩ ?_
  by_cases hc5 : r3.2.Code = 0
  · rw [if_pos hc5] at h
    refine ge_known (t := 49) (b := (r3.2.Code != 0)) (c := false) (by kernel_rfl) (bne_eq_false_iff_eq.2 hc5) ?_
    refine ge_batch [4, 5, 6, 7, 8, 9] (ans := []) (vs := [(55, .bool ((r3.1.length : Int) != (l0.length : Int))), (54, .bool ((r3.1.length : Int) != (l0.length : Int))), (53, .int .i64 (l0.length : Int)), (52, .slice A0 l0.length c0), (51, .int .i64 (r3.1.length : Int)), (50, (.slice Z2 r3.1.length cz2))]) (l := []) (by kernel_rfl) trivial ?_
    refine ge_nil fun a hF => hK13 _ _ ?_ a hF
    by_cases hc6 : (r3.1.length : Int) = (l0.length : Int)
    · rw [if_pos hc6] at h
      refine we_known (t := 55) (b := ((r3.1.length : Int) != (l0.length : Int))) (v := false) (by kernel_rfl) (bne_eq_false_iff_eq.2 hc6) ?_
      refine we_false (by kernel_rfl) ?_
      have hS18 := hS.bring 1 rfl
      have hS19 := hS18.bring 1 rfl
      have hS20 := hS19.takeN 2
      obtain rfl := Option.some.inj h
      exact we_skip fun a hF => hQ _ _ _ (Outs.again ⟨hS20, hF.weaken ⟨by kernel_rfl, by kernel_rfl, by kernel_rfl, by kernel_rfl, trivial⟩⟩)
    · rw [if_neg hc6] at h
      refine we_known (t := 55) (b := ((r3.1.length : Int) != (l0.length : Int))) (v := true) (by kernel_rfl) (bne_iff_ne.2 hc6) ?_
      refine we_true (by kernel_rfl) ?_
      refine we_seq fun K14 hK14 => ?_
      refine we_region [(0, 0)] rfl ?_
      refine ge_batch [0] (ans := []) (vs := [(4, .bool false)]) (l := []) (by kernel_rfl) trivial ?_
      refine ge_nil fun a hF => hK14 _ _ ?_ a hF
      have hS21 := hS.takeN 0
      obtain rfl := Option.some.inj h
      exact we_ret fun a hF => hQ _ _ _ (Outs.out nofun ⟨rfl, (post_ret (rs := [.tmp 4]) (ans := []) (vs := [.bool false]) (l := []) rfl (by kernel_rfl) trivial ⟨rfl, hS21⟩) a hF⟩)
  · rw [if_neg hc5] at h
    refine ge_known (t := 49) (b := (r3.2.Code != 0)) (c := true) (by kernel_rfl) (bne_iff_ne.2 hc5) ?_
    refine ge_batch [4, 5, 6, 7, 8, 9] (ans := []) (vs := [(55, .bool true), (54, undef), (53, undef), (52, undef), (51, undef), (50, undef)]) (l := []) (by kernel_rfl) trivial ?_
    refine ge_nil fun a hF => hK13 _ _ ?_ a hF
    refine we_true (by kernel_rfl) ?_
    refine we_seq fun K15 hK15 => ?_
    refine we_region [(0, 0)] rfl ?_
    refine ge_batch [0] (ans := []) (vs := [(4, .bool false)]) (l := []) (by kernel_rfl) trivial ?_
    refine ge_nil fun a hF => hK15 _ _ ?_ a hF
    have hS22 := hS.takeN 0
    obtain rfl := Option.some.inj h
    exact we_ret fun a hF => hQ _ _ _ (Outs.out nofun ⟨rfl, (post_ret (rs := [.tmp 4]) (ans := []) (vs := [.bool false]) (l := []) rfl (by kernel_rfl) trivial ⟨rfl, hS22⟩) a hF⟩)
abbrev FixedBest.A2 (K : Nat) (w0 : World) (l0 : List STask) (A0 : Option Addr) (c0 : Nat) (l1 : List Int) (A1 : Option Addr) (c1 : Nat) (hR0 : RdL w0 A0 l0) (hL0 : l0.length ≤ c0) (hR1 : RdL w0 A1 l1) (hL1 : l1.length ≤ c1) (r1 : Bool) (hc1 : r1 = true) (r2 : (List Int) × SFault) (b1 : Nat) (hc4 : r2.2.Code = 0) (r3 : (List STask) × SFault) (Z1 : Option Addr) (cz1 : Nat) (Z2 : Option Addr) (cz2 : Nat) (r4 : (List Int) × SFault) (b2 : Nat) (hc7 : r4.2.Code = 0) (Z3 : Option Addr) (cz3 : Nat) : Nat → Act → World → Prop := fun (s : Nat) a w => St w0 w [Own.blk b1 (.cells #[.int .i64 r3.2.Code, .int .i64 r3.2.At] 29 (0, 0)), Own.of (.slice Z2 r3.1.length cz2) 46 r3.1] ∧ Frm 112 a [(0, .slice A0 l0.length c0), (1, .slice A1 l1.length c1), (6, .pointer (some ⟨b1, 0, none⟩)), (7, (.slice Z2 r3.1.length cz2)), (65, .slice A0 l0.length c0), (66, .int .i64 (l0.length : Int)), (67, .int .i64 (s : Int))]
abbrev FixedBest.B2 (K : Nat) (w0 : World) (l0 : List STask) (A0 : Option Addr) (c0 : Nat) (l1 : List Int) (A1 : Option Addr) (c1 : Nat) (hR0 : RdL w0 A0 l0) (hL0 : l0.length ≤ c0) (hR1 : RdL w0 A1 l1) (hL1 : l1.length ≤ c1) (r1 : Bool) (hc1 : r1 = true) (r2 : (List Int) × SFault) (b1 : Nat) (hc4 : r2.2.Code = 0) (r3 : (List STask) × SFault) (Z1 : Option Addr) (cz1 : Nat) (Z2 : Option Addr) (cz2 : Nat) (r4 : (List Int) × SFault) (b2 : Nat) (hc7 : r4.2.Code = 0) (Z3 : Option Addr) (cz3 : Nat) : (Unit ⊕ Bool) → Exit → Act → World → Prop := Exits 0 (fun (s : Unit) a w => St w0 w [Own.blk b1 (.cells #[.int .i64 r3.2.Code, .int .i64 r3.2.At] 29 (0, 0))] ∧ Frm 112 a [(0, .slice A0 l0.length c0), (1, .slice A1 l1.length c1), (6, .pointer (some ⟨b1, 0, none⟩))]) (Rets Try.prog Try.f4 (FixedBest.Post w0))
theorem FixedBest_r2 (K : Nat) (w0 : World) (l0 : List STask) (A0 : Option Addr) (c0 : Nat) (l1 : List Int) (A1 : Option Addr) (c1 : Nat) (hR0 : RdL w0 A0 l0) (hL0 : l0.length ≤ c0) (hR1 : RdL w0 A1 l1) (hL1 : l1.length ≤ c1) (r1 : Bool) (hc1 : r1 = true) (r2 : (List Int) × SFault) (b1 : Nat) (hc4 : r2.2.Code = 0) (r3 : (List STask) × SFault) (Z1 : Option Addr) (cz1 : Nat) (Z2 : Option Addr) (cz2 : Nat) (r4 : (List Int) × SFault) (b2 : Nat) (hc7 : r4.2.Code = 0) (Z3 : Option Addr) (cz3 : Nat) (s : Nat) (o : Nat ⊕ (Unit ⊕ Bool)) (h : FixedBest.r2 l0 l1 r3 s = some o) (a : Act) (w : World) (hA : FixedBest.A2 K w0 l0 A0 c0 l1 A1 c1 hR0 hL0 hR1 hL1 r1 hc1 r2 b1 hc4 r3 Z1 cz1 Z2 cz2 r4 b2 hc7 Z3 cz3 s a w) (Q : Exit → Act → World → Prop) (hQ : ∀ x a w, Outs (FixedBest.A2 K w0 l0 A0 c0 l1 A1 c1 hR0 hL0 hR1 hL1 r1 hc1 r2 b1 hc4 r3 Z1 cz1 Z2 cz2 r4 b2 hc7 Z3 cz3) (FixedBest.B2 K w0 l0 A0 c0 l1 A1 c1 hR0 hL0 hR1 hL1 r1 hc1 r2 b1 hc4 r3 Z1 cz1 Z2 cz2 r4 b2 hc7 Z3 cz3) o x a w → Q x a w) : (subF Try.f4 [1, 1, 1, 1, 1, 1, 1, 1, 0, 1, 0, 0]).wp Try.prog Q a w := by
  obtain ⟨i1, hs⟩ : ∃ z, z = s := ⟨s, rfl⟩
  subst hs
  obtain ⟨hS, hF⟩ := hA
  replace hS : St w0 w [Own.blk b1 (.cells #[.int .i64 r3.2.Code, .int .i64 r3.2.At] 29 (0, 0)), Own.of (.slice Z2 r3.1.length cz2) 46 r3.1] := hS
  simp only [FixedBest.r2] at h
  refine (?_ : WE Try.prog 112 (subF Try.f4 [1, 1, 1, 1, 1, 1, 1, 1, 0, 1, 0, 0]) Q [(0, .slice A0 l0.length c0), (1, .slice A1 l1.length c1), (6, .pointer (some ⟨b1, 0, none⟩)), (7, (.slice Z2 r3.1.length cz2)), (65, .slice A0 l0.length c0), (66, .int .i64 (l0.length : Int)), (67, .int .i64 (i1 : Int))] w) a hF
  clear hF a
  refine we_seq fun K21 hK21 => ?_
  refine we_region [(0, 0)] rfl ?_
  refine ge_batch [0] (ans := []) (vs := [(68, .bool (decide ((i1 : Int) < (l0.length : Int))))]) (l := []) (by kernel_rfl) trivial ?_
  refine ge_nil fun a hF => hK21 _ _ ?_ a hF
  refine we_seq fun K22 hK22 => ?_
  by_cases hc8 : (i1 : Int) < (l0.length : Int)
  · rw [if_pos hc8] at h
    refine we_known (t := 68) (b := decide ((i1 : Int) < (l0.length : Int))) (v := true) (by kernel_rfl) (decide_eq_true hc8) ?_
    refine we_true (by kernel_rfl) ?_
    refine we_skip fun a hF => hK22 _ _ ?_ a hF
    refine we_seq fun K23 hK23 => ?_
    refine we_block ?_
    refine we_seq fun K24 hK24 => ?_
    refine we_region [(0, 0), (1, 0), (2, 0), (3, 1), (4, 0), (5, 2)] rfl ?_
    refine ge_batch [0] (ans := []) (vs := [(69, .int .i64 (i1 : Int))]) (l := []) (by kernel_rfl) trivial ?_
    rcases hx3 : l0[i1]? with _ | e1
    · rw [hx3] at h; cases h
    rw [hx3] at h
    simp only [] at h
    refine ge_index (d := 70) (ty := 0) (t := 22) (el := 46) (sz := 7) (m := l0.length) (c := c0) (x := (.tmp 65)) (y := (.tmp 67)) (A := A0) (k' := .i64) (j := (i1 : Int)) (jn := i1) (b0 := blkOf A0) (o0 := offOf A0) (by kernel_rfl) (by kernel_rfl) (by kernel_rfl) (by kernel_rfl) (by kernel_rfl) ((hS.rd hR0).eqSome (pos_of_get hx3)) rfl (lt_of_get hx3) ?_
    refine ge_batch [2] (ans := [.val (.string e1.Name), .val (.int .i64 e1.C), .val (.int .i64 e1.T), .val (.int .i64 e1.D), .val (.int .i64 e1.J), .val (.int .i64 e1.O), .val (.int .i64 e1.P)]) (vs := [(71, .agg #[.string e1.Name, .int .i64 e1.C, .int .i64 e1.T, .int .i64 e1.D, .int .i64 e1.J, .int .i64 e1.O, .int .i64 e1.P])]) (l := [.loaded ⟨blkOf A0, offOf A0 + i1 * 7, none⟩ (.string e1.Name), .loaded ⟨blkOf A0, offOf A0 + i1 * 7 + 1, none⟩ (.int .i64 e1.C), .loaded ⟨blkOf A0, offOf A0 + i1 * 7 + 2, none⟩ (.int .i64 e1.T), .loaded ⟨blkOf A0, offOf A0 + i1 * 7 + 3, none⟩ (.int .i64 e1.D), .loaded ⟨blkOf A0, offOf A0 + i1 * 7 + 4, none⟩ (.int .i64 e1.J), .loaded ⟨blkOf A0, offOf A0 + i1 * 7 + 5, none⟩ (.int .i64 e1.O), .loaded ⟨blkOf A0, offOf A0 + i1 * 7 + 6, none⟩ (.int .i64 e1.P)]) (by kernel_rfl) ⟨RdL.cell (j := 0) (hS.rd hR0) hx3 rfl, RdL.cell (j := 1) (hS.rd hR0) hx3 rfl, RdL.cell (j := 2) (hS.rd hR0) hx3 rfl, RdL.cell (j := 3) (hS.rd hR0) hx3 rfl, RdL.cell (j := 4) (hS.rd hR0) hx3 rfl, RdL.cell (j := 5) (hS.rd hR0) hx3 rfl, RdL.cell (j := 6) (hS.rd hR0) hx3 rfl, trivial⟩ ?_
    refine ge_new (d := some 11) (o := .cells #[.string (⟨#[]⟩), .int .i64 0, .int .i64 0, .int .i64 0, .int .i64 0, .int .i64 0, .int .i64 0] 46) (v := fun b => .pointer (some ⟨b, 0, none⟩)) hS (fun b => by kernel_rfl) fun b3 w14 hx4 hS32 => ?_
    refine ge_batch [4] (ans := []) (vs := [(10, .int .i64 (i1 : Int))]) (l := []) (by kernel_rfl) trivial ?_
    refine ge_set (b := b3) (j := 0) (cs := #[.string (⟨#[]⟩), .int .i64 0, .int .i64 0, .int .i64 0, .int .i64 0, .int .i64 0, .int .i64 0]) (t := 46) (vs := [.string e1.Name, .int .i64 e1.C, .int .i64 e1.T, .int .i64 e1.D, .int .i64 e1.J, .int .i64 e1.O, .int .i64 e1.P]) hS32 (by kernel_rfl) rfl rfl fun w15 hS33 => ?_
    have hS34 : St w0 w15 [Own.blk b3 (.cells #[.string e1.Name, .int .i64 e1.C, .int .i64 e1.T, .int .i64 e1.D, .int .i64 e1.J, .int .i64 e1.O, .int .i64 e1.P] 46 (0, 0)), Own.blk b1 (.cells #[.int .i64 r3.2.Code, .int .i64 r3.2.At] 29 (0, 0)), Own.of (.slice Z2 r3.1.length cz2) 46 r3.1] := hS33
    refine ge_nil fun a hF => hK24 _ _ ?_ a hF
    refine we_seq fun K25 hK25 => ?_
    refine we_region [(0, 0), (1, 0), (2, 0), (3, 0), (4, 1), (5, 2)] rfl ?_
    refine ge_batch [0, 1] (ans := []) (vs := [(73, .int .i64 (i1 : Int)), (72, (.slice Z2 r3.1.length cz2))]) (l := []) (by kernel_rfl) trivial ?_
    rcases hx5 : r3.1[i1]? with _ | e2
    · rw [hx5] at h; cases h
    rw [hx5] at h
    simp only [] at h
    refine ge_index (d := 74) (ty := 0) (t := 22) (el := 46) (sz := 7) (m := r3.1.length) (c := cz2) (x := (.tmp 72)) (y := (.tmp 73)) (A := Z2) (k' := .i64) (j := (i1 : Int)) (jn := i1) (b0 := blkOf Z2) (o0 := offOf Z2) (by kernel_rfl) (by kernel_rfl) (by kernel_rfl) (by kernel_rfl) (by kernel_rfl) ((hS34.rdAt 2 rfl).eqSome (pos_of_get hx5)) rfl (lt_of_get hx5) ?_
    refine ge_batch [3] (ans := [.val (.string e2.Name), .val (.int .i64 e2.C), .val (.int .i64 e2.T), .val (.int .i64 e2.D), .val (.int .i64 e2.J), .val (.int .i64 e2.O), .val (.int .i64 e2.P)]) (vs := [(75, .agg #[.string e2.Name, .int .i64 e2.C, .int .i64 e2.T, .int .i64 e2.D, .int .i64 e2.J, .int .i64 e2.O, .int .i64 e2.P])]) (l := [.loaded ⟨blkOf Z2, offOf Z2 + i1 * 7, none⟩ (.string e2.Name), .loaded ⟨blkOf Z2, offOf Z2 + i1 * 7 + 1, none⟩ (.int .i64 e2.C), .loaded ⟨blkOf Z2, offOf Z2 + i1 * 7 + 2, none⟩ (.int .i64 e2.T), .loaded ⟨blkOf Z2, offOf Z2 + i1 * 7 + 3, none⟩ (.int .i64 e2.D), .loaded ⟨blkOf Z2, offOf Z2 + i1 * 7 + 4, none⟩ (.int .i64 e2.J), .loaded ⟨blkOf Z2, offOf Z2 + i1 * 7 + 5, none⟩ (.int .i64 e2.O), .loaded ⟨blkOf Z2, offOf Z2 + i1 * 7 + 6, none⟩ (.int .i64 e2.P)]) (by kernel_rfl) ⟨RdL.cell (j := 0) (hS34.rdAt 2 rfl) hx5 rfl, RdL.cell (j := 1) (hS34.rdAt 2 rfl) hx5 rfl, RdL.cell (j := 2) (hS34.rdAt 2 rfl) hx5 rfl, RdL.cell (j := 3) (hS34.rdAt 2 rfl) hx5 rfl, RdL.cell (j := 4) (hS34.rdAt 2 rfl) hx5 rfl, RdL.cell (j := 5) (hS34.rdAt 2 rfl) hx5 rfl, RdL.cell (j := 6) (hS34.rdAt 2 rfl) hx5 rfl, trivial⟩ ?_
    refine ge_new (d := some 12) (o := .cells #[.string (⟨#[]⟩), .int .i64 0, .int .i64 0, .int .i64 0, .int .i64 0, .int .i64 0, .int .i64 0] 46) (v := fun b => .pointer (some ⟨b, 0, none⟩)) hS34 (fun b => by kernel_rfl) fun b4 w16 hx6 hS35 => ?_
    refine ge_set (b := b4) (j := 0) (cs := #[.string (⟨#[]⟩), .int .i64 0, .int .i64 0, .int .i64 0, .int .i64 0, .int .i64 0, .int .i64 0]) (t := 46) (vs := [.string e2.Name, .int .i64 e2.C, .int .i64 e2.T, .int .i64 e2.D, .int .i64 e2.J, .int .i64 e2.O, .int .i64 e2.P]) hS35 (by kernel_rfl) rfl rfl fun w17 hS36 => ?_
    have hS37 : St w0 w17 [Own.blk b4 (.cells #[.string e2.Name, .int .i64 e2.C, .int .i64 e2.T, .int .i64 e2.D, .int .i64 e2.J, .int .i64 e2.O, .int .i64 e2.P] 46 (0, 0)), Own.blk b3 (.cells #[.string e1.Name, .int .i64 e1.C, .int .i64 e1.T, .int .i64 e1.D, .int .i64 e1.J, .int .i64 e1.O, .int .i64 e1.P] 46 (0, 0)), Own.blk b1 (.cells #[.int .i64 r3.2.Code, .int .i64 r3.2.At] 29 (0, 0)), Own.of (.slice Z2 r3.1.length cz2) 46 r3.1] := hS36
    refine ge_nil fun a hF => hK25 _ _ ?_ a hF
    refine we_seq fun K26 hK26 => ?_
    refine we_region [(0, 0), (1, 0), (2, 0), (3, 2)] rfl ?_
    refine ge_batch [0, 1, 2] (ans := [.val (.int .i64 e1.P)]) (vs := [(78, .pointer (some ⟨b4, 6, none⟩)), (77, .int .i64 e1.P), (76, .pointer (some ⟨b3, 6, none⟩))]) (l := [.loaded ⟨b3, 6, none⟩ (.int .i64 e1.P)]) (by kernel_rfl) ⟨hS37.cell 1 rfl rfl, trivial⟩ ?_
    refine ge_set (b := b4) (j := 6) (cs := #[.string e2.Name, .int .i64 e2.C, .int .i64 e2.T, .int .i64 e2.D, .int .i64 e2.J, .int .i64 e2.O, .int .i64 e2.P]) (t := 46) (vs := [.int .i64 e1.P]) hS37 (by kernel_rfl) rfl rfl fun w18 hS38 => ?_
    have hS39 : St w0 w18 [Own.blk b4 (.cells #[.string e2.Name, .int .i64 e2.C, .int .i64 e2.T, .int .i64 e2.D, .int .i64 e2.J, .int .i64 e2.O, .int .i64 e1.P] 46 (0, 0)), Own.blk b3 (.cells #[.string e1.Name, .int .i64 e1.C, .int .i64 e1.T, .int .i64 e1.D, .int .i64 e1.J, .int .i64 e1.O, .int .i64 e1.P] 46 (0, 0)), Own.blk b1 (.cells #[.int .i64 r3.2.Code, .int .i64 r3.2.At] 29 (0, 0)), Own.of (.slice Z2 r3.1.length cz2) 46 r3.1] := hS38
    refine ge_nil fun a hF => hK26 _ _ ?_ a hF
    refine we_seq fun K27 hK27 => ?_
    refine we_seq fun K28 hK28 => ?_
    refine we_region [(0, 0), (1, 0), (2, 0)] rfl ?_
    refine ge_batch [0, 1] (ans := [.val (.string e2.Name), .val (.int .i64 e2.C), .val (.int .i64 e2.T), .val (.int .i64 e2.D), .val (.int .i64 e2.J), .val (.int .i64 e2.O), .val (.int .i64 e1.P), .val (.string e1.Name), .val (.int .i64 e1.C), .val (.int .i64 e1.T), .val (.int .i64 e1.D), .val (.int .i64 e1.J), .val (.int .i64 e1.O), .val (.int .i64 e1.P)]) (vs := [(80, .agg #[.string e1.Name, .int .i64 e1.C, .int .i64 e1.T, .int .i64 e1.D, .int .i64 e1.J, .int .i64 e1.O, .int .i64 e1.P]), (79, .agg #[.string e2.Name, .int .i64 e2.C, .int .i64 e2.T, .int .i64 e2.D, .int .i64 e2.J, .int .i64 e2.O, .int .i64 e1.P])]) (l := [.loaded ⟨b4, 0, none⟩ (.string e2.Name), .loaded ⟨b4, 1, none⟩ (.int .i64 e2.C), .loaded ⟨b4, 2, none⟩ (.int .i64 e2.T), .loaded ⟨b4, 3, none⟩ (.int .i64 e2.D), .loaded ⟨b4, 4, none⟩ (.int .i64 e2.J), .loaded ⟨b4, 5, none⟩ (.int .i64 e2.O), .loaded ⟨b4, 6, none⟩ (.int .i64 e1.P), .loaded ⟨b3, 0, none⟩ (.string e1.Name), .loaded ⟨b3, 1, none⟩ (.int .i64 e1.C), .loaded ⟨b3, 2, none⟩ (.int .i64 e1.T), .loaded ⟨b3, 3, none⟩ (.int .i64 e1.D), .loaded ⟨b3, 4, none⟩ (.int .i64 e1.J), .loaded ⟨b3, 5, none⟩ (.int .i64 e1.O), .loaded ⟨b3, 6, none⟩ (.int .i64 e1.P)]) (by kernel_rfl) ⟨hS39.cell 0 rfl rfl, hS39.cell 0 rfl rfl, hS39.cell 0 rfl rfl, hS39.cell 0 rfl rfl, hS39.cell 0 rfl rfl, hS39.cell 0 rfl rfl, hS39.cell 0 rfl rfl, hS39.cell 1 rfl rfl, hS39.cell 1 rfl rfl, hS39.cell 1 rfl rfl, hS39.cell 1 rfl rfl, hS39.cell 1 rfl rfl, hS39.cell 1 rfl rfl, hS39.cell 1 rfl rfl, trivial⟩ ?_
    refine ge_eqs (d := 81) (ty := 4) (op := .neq) (x := (.tmp 79)) (y := (.tmp 80)) (t := 46) (t2 := 46) (xs := #[.string e2.Name, .int .i64 e2.C, .int .i64 e2.T, .int .i64 e2.D, .int .i64 e2.J, .int .i64 e2.O, .int .i64 e1.P]) (ys := #[.string e1.Name, .int .i64 e1.C, .int .i64 e1.T, .int .i64 e1.D, .int .i64 e1.J, .int .i64 e1.O, .int .i64 e1.P]) (r := (STask.eqb (⟨e2.Name, e2.C, e2.T, e2.D, e2.J, e2.O, e1.P⟩ : STask) e1)) (v := !(STask.eqb (⟨e2.Name, e2.C, e2.T, e2.D, e2.J, e2.O, e1.P⟩ : STask) e1)) (by kernel_rfl) (by kernel_rfl) (by kernel_rfl) (by kernel_rfl) (by kernel_rfl) rfl ?_
    refine ge_nil fun a hF => hK28 _ _ ?_ a hF
    by_cases hc9 : (STask.eqb (⟨e2.Name, e2.C, e2.T, e2.D, e2.J, e2.O, e1.P⟩ : STask) e1) = true
    · rw [if_pos hc9] at h
      refine we_known (t := 81) (b := !(STask.eqb (⟨e2.Name, e2.C, e2.T, e2.D, e2.J, e2.O, e1.P⟩ : STask) e1)) (v := false) (by kernel_rfl) (congrArg (fun z => !z) hc9) ?_
      refine we_false (by kernel_rfl) ?_
      refine we_skip fun a hF => hK27 _ _ ?_ a hF
      refine we_seq fun K29 hK29 => ?_
      refine we_region [(0, 0), (1, 0), (2, 0), (3, 0), (4, 0), (5, 0), (6, 0), (7, 0), (8, 0), (9, 0)] rfl ?_
      refine ge_batch [0, 1, 2, 3] (ans := [.val (.int .i64 e1.J)]) (vs := [(85, .bool (e1.J != 0)), (84, .bool (e1.J != 0)), (83, .int .i64 e1.J), (82, .pointer (some ⟨b3, 4, none⟩))]) (l := [.loaded ⟨b3, 4, none⟩ (.int .i64 e1.J)]) (by kernel_rfl) ⟨hS39.cell 1 rfl rfl, trivial⟩ ?_
      by_cases hc10 : e1.J = 0
      · rw [if_pos hc10] at h
        refine ge_known (t := 85) (b := (e1.J != 0)) (c := false) (by kernel_rfl) (bne_eq_false_iff_eq.2 hc10) ?_
        refine ge_batch [4, 5] (ans := []) (vs := [(87, .int .i64 (i1 : Int)), (86, .slice A1 l1.length c1)]) (l := []) (by kernel_rfl) trivial ?_
        rcases hx7 : l1[i1]? with _ | e3
        · rw [hx7] at h; cases h
        rw [hx7] at h
        simp only [] at h
        refine ge_index (d := 88) (ty := 0) (t := 24) (el := 3) (sz := 1) (m := l1.length) (c := c1) (x := (.tmp 86)) (y := (.tmp 87)) (A := A1) (k' := .i64) (j := (i1 : Int)) (jn := i1) (b0 := blkOf A1) (o0 := offOf A1) (by kernel_rfl) (by kernel_rfl) (by kernel_rfl) (by kernel_rfl) (by kernel_rfl) ((hS39.rd hR1).eqSome (pos_of_get hx7)) rfl (lt_of_get hx7) ?_
        refine ge_batch [7, 8, 9] (ans := [.val (.int .i64 e3)]) (vs := [(91, .bool (e3 != 0)), (90, .bool (e3 != 0)), (89, .int .i64 e3)]) (l := [.loaded ⟨blkOf A1, offOf A1 + i1 * 1, none⟩ (.int .i64 e3)]) (by kernel_rfl) ⟨RdL.cell (j := 0) (hS39.rd hR1) hx7 rfl, trivial⟩ ?_
        refine ge_nil fun a hF => hK29 _ _ ?_ a hF
        by_cases hc11 : e3 = 0
        · rw [if_pos hc11] at h
          refine we_known (t := 91) (b := (e3 != 0)) (v := false) (by kernel_rfl) (bne_eq_false_iff_eq.2 hc11) ?_
          refine we_false (by kernel_rfl) ?_
          refine we_skip fun a hF => hK23 _ _ ?_ a hF
          refine we_region [(0, 0), (1, 0)] rfl ?_
          refine ge_addn (d := 92) (ty := 3) (x := (.tmp 67)) (y := (.const (.int .i64 1))) (t := 3) (t2 := 3) (k := .i64) (m := i1) (by kernel_rfl) (by kernel_rfl) (by kernel_rfl) (by have h0 := hR0.small; omega) ?_
          refine ge_batch [1] (ans := []) (vs := [(67, .int .i64 ((i1 + 1 : Nat) : Int))]) (l := []) (by kernel_rfl) trivial ?_
          have hS40 := hS39.bring 3 rfl
          have hS41 := hS40.bring 3 rfl
          have hS42 := hS41.takeN 2
          obtain rfl := Option.some.inj h
          exact ge_nil fun a hF => hQ _ _ _ (Outs.again ⟨hS42, hF.weaken ⟨by kernel_rfl, by kernel_rfl, by kernel_rfl, by kernel_rfl, by kernel_rfl, by kernel_rfl, by kernel_rfl, trivial⟩⟩)
        · rw [if_neg hc11] at h
          refine we_known (t := 91) (b := (e3 != 0)) (v := true) (by kernel_rfl) (bne_iff_ne.2 hc11) ?_
          refine we_true (by kernel_rfl) ?_
          refine we_seq fun K30 hK30 => ?_
          refine we_region [(0, 0)] rfl ?_
          refine ge_batch [0] (ans := []) (vs := [(4, .bool true)]) (l := []) (by kernel_rfl) trivial ?_
          refine ge_nil fun a hF => hK30 _ _ ?_ a hF
          have hS43 := hS39.takeN 0
          obtain rfl := Option.some.inj h
          exact we_ret fun a hF => hQ _ _ _ (Outs.out nofun (Exits.on ⟨rfl, (post_ret (rs := [.tmp 4]) (ans := []) (vs := [.bool true]) (l := []) rfl (by kernel_rfl) trivial ⟨rfl, hS43⟩) a hF⟩))
      · rw [if_neg hc10] at h
        refine ge_known (t := 85) (b := (e1.J != 0)) (c := true) (by kernel_rfl) (bne_iff_ne.2 hc10) ?_
        refine ge_batch [4, 5, 6, 7, 8, 9] (ans := []) (vs := [(91, .bool true), (90, undef), (89, undef), (88, undef), (87, undef), (86, undef)]) (l := []) (by kernel_rfl) trivial ?_
        refine ge_nil fun a hF => hK29 _ _ ?_ a hF
        refine we_true (by kernel_rfl) ?_
        refine we_seq fun K31 hK31 => ?_
        refine we_region [(0, 0)] rfl ?_
        refine ge_batch [0] (ans := []) (vs := [(4, .bool true)]) (l := []) (by kernel_rfl) trivial ?_
        refine ge_nil fun a hF => hK31 _ _ ?_ a hF
        have hS44 := hS39.takeN 0
        obtain rfl := Option.some.inj h
        exact we_ret fun a hF => hQ _ _ _ (Outs.out nofun (Exits.on ⟨rfl, (post_ret (rs := [.tmp 4]) (ans := []) (vs := [.bool true]) (l := []) rfl (by kernel_rfl) trivial ⟨rfl, hS44⟩) a hF⟩))
    · rw [if_neg hc9] at h
      refine we_known (t := 81) (b := !(STask.eqb (⟨e2.Name, e2.C, e2.T, e2.D, e2.J, e2.O, e1.P⟩ : STask) e1)) (v := true) (by kernel_rfl) (congrArg (fun z => !z) (Bool.eq_false_iff.2 hc9)) ?_
      refine we_true (by kernel_rfl) ?_
      refine we_seq fun K32 hK32 => ?_
      refine we_region [(0, 0)] rfl ?_
      refine ge_batch [0] (ans := []) (vs := [(4, .bool false)]) (l := []) (by kernel_rfl) trivial ?_
      refine ge_nil fun a hF => hK32 _ _ ?_ a hF
      have hS45 := hS39.takeN 0
      obtain rfl := Option.some.inj h
      exact we_ret fun a hF => hQ _ _ _ (Outs.out nofun (Exits.on ⟨rfl, (post_ret (rs := [.tmp 4]) (ans := []) (vs := [.bool false]) (l := []) rfl (by kernel_rfl) trivial ⟨rfl, hS45⟩) a hF⟩))
  · rw [if_neg hc8] at h
    refine we_known (t := 68) (b := decide ((i1 : Int) < (l0.length : Int))) (v := false) (by kernel_rfl) (decide_eq_false hc8) ?_
    refine we_false (by kernel_rfl) ?_
    have hS46 := hS.takeN 1
    obtain rfl := Option.some.inj h
    exact we_exit fun a hF => hQ _ _ _ (Outs.out nofun (Exits.here ⟨hS46, hF.weaken ⟨by kernel_rfl, by kernel_rfl, by kernel_rfl, trivial⟩⟩))
theorem FixedBest_ok (K : Nat) (l0 : List STask) (A0 : Option Addr) (c0 : Nat) (l1 : List Int) (A1 : Option Addr) (c1 : Nat) (w0 : World) (hR0 : RdL w0 A0 l0) (hL0 : l0.length ≤ c0) (hR1 : RdL w0 A1 l1) (hL1 : l1.length ≤ c1) (r : Bool) (h : FixedBest.f K l0 l1 = some r) :
    Calls Try.prog 4 #[.slice A0 l0.length c0, .slice A1 l1.length c1] w0 (FixedBest.Post w0 r) := by
  have hS := St.start w0
  unfold FixedBest.f at h
  refine calls_enter (n := 112) (args := [.slice A0 l0.length c0, .slice A1 l1.length c1]) (fn := Try.f4) rfl rfl rfl rfl ?_
  show WE _ _ _ _ [(0, .slice A0 l0.length c0), (1, .slice A1 l1.length c1)] _
  refine we_seq fun K1 hK1 => ?_
  refine we_region [(0, 0)] rfl ?_
  refine ge_batch [0] (ans := []) (vs := [(4, .bool false)]) (l := []) (by kernel_rfl) trivial ?_
  refine ge_nil fun a hF => hK1 _ _ ?_ a hF
  refine we_seq fun K2 hK2 => ?_
  refine we_seq fun K3 hK3 => ?_
  refine we_region [(0, 1), (1, 0)] rfl ?_
  rcases hq1 : responds.f K with _ | r1
  · rw [hq1] at h; cases h
  rw [hq1] at h
  simp only [] at h
  refine ge_call (d := some 16) (f := 7) (args := #[]) (by kernel_rfl) (responds_ok K _ _ hq1) ?_
  rintro _ w1 ⟨rfl, hS1⟩
  refine ⟨_, rfl, hS1.below, ?_⟩
  have hS2 := hS.call hS1
  refine ge_batch [1] (ans := []) (vs := [(17, .bool (!r1))]) (l := []) (by kernel_rfl) trivial ?_
  refine ge_nil fun a hF => hK3 _ _ ?_ a hF
  by_cases hc1 : r1 = true
  · rw [if_pos hc1] at h
    refine we_known (t := 17) (b := !r1) (v := false) (by kernel_rfl) (congrArg (fun z => !z) hc1) ?_
    refine we_false (by kernel_rfl) ?_
    refine we_skip fun a hF => hK2 _ _ ?_ a hF
    refine we_seq fun K4 hK4 => ?_
    rcases hq4 : FixedBest.p0 l0 l1 with _ | (_ | rr3)
    · rw [hq4] at h; cases h
    · rw [hq4] at h
      simp only [] at h
      refine we_keep (e' := [(0, .slice A0 l0.length c0), (1, .slice A1 l1.length c1), (4, .bool false), (16, .bool r1), (17, .bool false)]) ⟨by kernel_rfl, by kernel_rfl, by kernel_rfl, by kernel_rfl, by kernel_rfl, trivial⟩ (FixedBest_p0 K w0 l0 A0 c0 l1 A1 c1 hR0 hL0 hR1 hL1 r1 hc1 _ hq4 _ hS2 _ ?_)
      rintro _ a w4 ⟨rfl, hS7, hF⟩
      replace hS7 : St w0 w4 [] := hS7
      refine hK4 [(0, .slice A0 l0.length c0), (1, .slice A1 l1.length c1)] w4 ?_ a hF
      refine we_seq fun K8 hK8 => ?_
      refine we_region [(0, 0), (1, 0), (2, 1), (3, 0), (4, 0), (5, 0), (6, 1), (7, 0), (8, 2)] rfl ?_
      rcases hq5 : fixed_Responses.f K l0 l1 with _ | r2
      · rw [hq5] at h; cases h
      rw [hq5] at h
      simp only [] at h
      refine ge_batch [0, 1] (ans := []) (vs := [(30, .slice A1 l1.length c1), (29, .slice A0 l0.length c0)]) (l := []) (by kernel_rfl) trivial ?_
      refine ge_call (d := some 31) (f := 10) (args := #[.slice A0 l0.length c0, .slice A1 l1.length c1]) (by kernel_rfl) (fixed_Responses_ok K l0 A0 c0 l1 A1 c1 _ (hS7.rd hR0) hL0 (hS7.rd hR1) hL1 _ hq5) ?_
      rintro _ w5 ⟨v1, rfl, hS8⟩
      refine ⟨_, rfl, hS8.below, ?_⟩
      have hS9 := hS7.call hS8
      refine ge_batch [3, 4, 5] (ans := []) (vs := [(33, .agg #[.int .i64 r2.2.Code, .int .i64 r2.2.At]), (32, v1), (28, .tuple #[v1, .agg #[.int .i64 r2.2.Code, .int .i64 r2.2.At]])]) (l := []) (by kernel_rfl) trivial ?_
      refine ge_new (d := some 6) (o := .cells #[.int .i64 0, .int .i64 0] 29) (v := fun b => .pointer (some ⟨b, 0, none⟩)) hS9 (fun b => by kernel_rfl) fun b1 w6 hx1 hS10 => ?_
      refine ge_batch [7] (ans := []) (vs := [(5, v1)]) (l := []) (by kernel_rfl) trivial ?_
      refine ge_set (b := b1) (j := 0) (cs := #[.int .i64 0, .int .i64 0]) (t := 29) (vs := [.int .i64 r2.2.Code, .int .i64 r2.2.At]) hS10 (by kernel_rfl) rfl rfl fun w7 hS11 => ?_
      have hS12 : St w0 w7 [Own.blk b1 (.cells #[.int .i64 r2.2.Code, .int .i64 r2.2.At] 29 (0, 0)), Own.of v1 3 r2.1] := hS11
      refine ge_nil fun a hF => hK8 _ _ ?_ a hF
      refine we_seq fun K9 hK9 => ?_
      refine we_seq fun K10 hK10 => ?_
      refine we_region [(0, 0), (1, 0), (2, 0)] rfl ?_
      refine ge_batch [0, 1, 2] (ans := [.val (.int .i64 r2.2.Code)]) (vs := [(36, .bool (r2.2.Code != 0)), (35, .int .i64 r2.2.Code), (34, .pointer (some ⟨b1, 0, none⟩))]) (l := [.loaded ⟨b1, 0, none⟩ (.int .i64 r2.2.Code)]) (by kernel_rfl) ⟨hS12.cell 0 rfl rfl, trivial⟩ ?_
      refine ge_nil fun a hF => hK10 _ _ ?_ a hF
      by_cases hc4 : r2.2.Code = 0
      · rw [if_pos hc4] at h
        refine we_known (t := 36) (b := (r2.2.Code != 0)) (v := false) (by kernel_rfl) (bne_eq_false_iff_eq.2 hc4) ?_
        refine we_false (by kernel_rfl) ?_
        refine we_skip fun a hF => hK9 _ _ ?_ a hF
        refine we_seq fun K11 hK11 => ?_
        refine we_region [(0, 0), (1, 0), (2, 1), (3, 0), (4, 0), (5, 0), (6, 0), (7, 2)] rfl ?_
        rcases hq6 : fixed_Assign.f K l0 l1 with _ | r3
        · rw [hq6] at h; cases h
        rw [hq6] at h
        simp only [] at h
        refine ge_batch [0, 1] (ans := []) (vs := [(42, .slice A1 l1.length c1), (41, .slice A0 l0.length c0)]) (l := []) (by kernel_rfl) trivial ?_
        refine ge_call (d := some 43) (f := 16) (args := #[.slice A0 l0.length c0, .slice A1 l1.length c1]) (by kernel_rfl) (fixed_Assign_ok K l0 A0 c0 l1 A1 c1 _ (hS12.rd hR0) hL0 (hS12.rd hR1) hL1 _ hq6) ?_
        rintro _ w8 ⟨v2, rfl, hS13⟩
        refine ⟨_, rfl, hS13.below, ?_⟩
        have hS14 := hS12.call hS13
        refine ge_batch [3, 4, 5, 6] (ans := []) (vs := [(7, v2), (45, .agg #[.int .i64 r3.2.Code, .int .i64 r3.2.At]), (44, v2), (40, .tuple #[v2, .agg #[.int .i64 r3.2.Code, .int .i64 r3.2.At]])]) (l := []) (by kernel_rfl) trivial ?_
        have hS15 := hS14.bring 1 rfl
        refine ge_set (b := b1) (j := 0) (cs := #[.int .i64 r2.2.Code, .int .i64 r2.2.At]) (t := 29) (vs := [.int .i64 r3.2.Code, .int .i64 r3.2.At]) hS15 (by kernel_rfl) rfl rfl fun w9 hS16 => ?_
        have hS17 : St w0 w9 [Own.blk b1 (.cells #[.int .i64 r3.2.Code, .int .i64 r3.2.At] 29 (0, 0)), Own.of v2 46 r3.1, Own.of v1 3 r2.1] := hS16
        refine ge_nil fun a hF => hK11 _ _ ?_ a hF
        refine we_seq fun K12 hK12 => ?_
        obtain ⟨Z1, cz1, rfl⟩ := hS17.open 2 rfl
        obtain ⟨Z2, cz2, rfl⟩ := hS17.open 1 rfl
        rcases hq7 : FixedBest.p1 l0 r3 with _ | (_ | rr2)
        · rw [hq7] at h; cases h
        · rw [hq7] at h
          simp only [] at h
          refine we_keep (e' := [(0, .slice A0 l0.length c0), (1, .slice A1 l1.length c1), (5, (.slice Z1 r2.1.length cz1)), (6, .pointer (some ⟨b1, 0, none⟩)), (7, (.slice Z2 r3.1.length cz2)), (28, .tuple #[(.slice Z1 r2.1.length cz1), .agg #[.int .i64 r2.2.Code, .int .i64 r2.2.At]]), (29, .slice A0 l0.length c0), (30, .slice A1 l1.length c1), (31, .tuple #[(.slice Z1 r2.1.length cz1), .agg #[.int .i64 r2.2.Code, .int .i64 r2.2.At]]), (32, (.slice Z1 r2.1.length cz1)), (33, .agg #[.int .i64 r2.2.Code, .int .i64 r2.2.At]), (34, .pointer (some ⟨b1, 0, none⟩)), (35, .int .i64 r2.2.Code), (36, .bool false), (40, .tuple #[(.slice Z2 r3.1.length cz2), .agg #[.int .i64 r3.2.Code, .int .i64 r3.2.At]]), (41, .slice A0 l0.length c0), (42, .slice A1 l1.length c1), (43, .tuple #[(.slice Z2 r3.1.length cz2), .agg #[.int .i64 r3.2.Code, .int .i64 r3.2.At]]), (44, (.slice Z2 r3.1.length cz2)), (45, .agg #[.int .i64 r3.2.Code, .int .i64 r3.2.At])]) ⟨by kernel_rfl, by kernel_rfl, by kernel_rfl, by kernel_rfl, by kernel_rfl, by kernel_rfl, by kernel_rfl, by kernel_rfl, by kernel_rfl, by kernel_rfl, by kernel_rfl, by kernel_rfl, by kernel_rfl, by kernel_rfl, by kernel_rfl, by kernel_rfl, by kernel_rfl, by kernel_rfl, by kernel_rfl, by kernel_rfl, trivial⟩ (FixedBest_p1 K w0 l0 A0 c0 l1 A1 c1 hR0 hL0 hR1 hL1 r1 hc1 r2 b1 hc4 r3 Z1 cz1 Z2 cz2 _ hq7 _ hS17 _ ?_)
          rintro _ a w10 ⟨rfl, hS23, hF⟩
          replace hS23 : St w0 w10 [Own.blk b1 (.cells #[.int .i64 r3.2.Code, .int .i64 r3.2.At] 29 (0, 0)), Own.of (.slice Z2 r3.1.length cz2) 46 r3.1] := hS23
          refine hK12 [(0, .slice A0 l0.length c0), (1, .slice A1 l1.length c1), (6, .pointer (some ⟨b1, 0, none⟩)), (7, (.slice Z2 r3.1.length cz2))] w10 ?_ a hF
          refine we_seq fun K16 hK16 => ?_
          refine we_seq fun K17 hK17 => ?_
          refine we_region [(0, 0), (1, 0), (2, 1), (3, 0), (4, 0), (5, 0), (6, 1), (7, 0), (8, 2)] rfl ?_
          rcases hq8 : fixed_Responses.f K r3.1 l1 with _ | r4
          · rw [hq8] at h; cases h
          rw [hq8] at h
          simp only [] at h
          refine ge_batch [0, 1] (ans := []) (vs := [(58, .slice A1 l1.length c1), (57, (.slice Z2 r3.1.length cz2))]) (l := []) (by kernel_rfl) trivial ?_
          refine ge_call (d := some 59) (f := 10) (args := #[(.slice Z2 r3.1.length cz2), .slice A1 l1.length c1]) (by kernel_rfl) (fixed_Responses_ok K r3.1 Z2 cz2 l1 A1 c1 _ (hS23.rdAt 1 rfl) (hS23.capAt 1 rfl) (hS23.rd hR1) hL1 _ hq8) ?_
          rintro _ w11 ⟨v3, rfl, hS24⟩
          refine ⟨_, rfl, hS24.below, ?_⟩
          have hS25 := hS23.call hS24
          refine ge_batch [3, 4, 5] (ans := []) (vs := [(61, .agg #[.int .i64 r4.2.Code, .int .i64 r4.2.At]), (60, v3), (56, .tuple #[v3, .agg #[.int .i64 r4.2.Code, .int .i64 r4.2.At]])]) (l := []) (by kernel_rfl) trivial ?_
          refine ge_new (d := some 9) (o := .cells #[.int .i64 0, .int .i64 0] 29) (v := fun b => .pointer (some ⟨b, 0, none⟩)) hS25 (fun b => by kernel_rfl) fun b2 w12 hx2 hS26 => ?_
          refine ge_batch [7] (ans := []) (vs := [(8, v3)]) (l := []) (by kernel_rfl) trivial ?_
          refine ge_set (b := b2) (j := 0) (cs := #[.int .i64 0, .int .i64 0]) (t := 29) (vs := [.int .i64 r4.2.Code, .int .i64 r4.2.At]) hS26 (by kernel_rfl) rfl rfl fun w13 hS27 => ?_
          have hS28 : St w0 w13 [Own.blk b2 (.cells #[.int .i64 r4.2.Code, .int .i64 r4.2.At] 29 (0, 0)), Own.of v3 3 r4.1, Own.blk b1 (.cells #[.int .i64 r3.2.Code, .int .i64 r3.2.At] 29 (0, 0)), Own.of (.slice Z2 r3.1.length cz2) 46 r3.1] := hS27
          refine ge_nil fun a hF => hK17 _ _ ?_ a hF
          refine we_seq fun K18 hK18 => ?_
          refine we_region [(0, 0), (1, 0), (2, 0)] rfl ?_
          refine ge_batch [0, 1, 2] (ans := [.val (.int .i64 r4.2.Code)]) (vs := [(64, .bool (r4.2.Code != 0)), (63, .int .i64 r4.2.Code), (62, .pointer (some ⟨b2, 0, none⟩))]) (l := [.loaded ⟨b2, 0, none⟩ (.int .i64 r4.2.Code)]) (by kernel_rfl) ⟨hS28.cell 0 rfl rfl, trivial⟩ ?_
          refine ge_nil fun a hF => hK18 _ _ ?_ a hF
          by_cases hc7 : r4.2.Code = 0
          · rw [if_pos hc7] at h
            refine we_known (t := 64) (b := (r4.2.Code != 0)) (v := false) (by kernel_rfl) (bne_eq_false_iff_eq.2 hc7) ?_
            refine we_false (by kernel_rfl) ?_
            refine we_skip fun a hF => hK16 _ _ ?_ a hF
            refine we_seq fun K19 hK19 => ?_
            refine we_seq fun K20 hK20 => ?_
            refine we_region [(0, 0), (1, 0), (2, 0)] rfl ?_
            refine ge_batch [0, 1, 2] (ans := []) (vs := [(67, .int .i64 0), (66, .int .i64 (l0.length : Int)), (65, .slice A0 l0.length c0)]) (l := []) (by kernel_rfl) trivial ?_
            refine ge_nil fun a hF => hK20 _ _ ?_ a hF
            refine we_block ?_
            obtain ⟨Z3, cz3, rfl⟩ := hS28.open 1 rfl
            have hS29 := hS28.bring 3 rfl
            have hS30 := hS29.bring 3 rfl
            have hS31 := hS30.takeN 2
            rcases hq9 : iter (FixedBest.r2 l0 l1 r3) K 0 with _ | (_ | rr1)
            · rw [hq9] at h; cases h
            · rw [hq9] at h
              simp only [] at h
              refine we_iter (A := FixedBest.A2 K w0 l0 A0 c0 l1 A1 c1 hR0 hL0 hR1 hL1 r1 hc1 r2 b1 hc4 r3 Z1 cz1 Z2 cz2 r4 b2 hc7 Z3 cz3) (B := FixedBest.B2 K w0 l0 A0 c0 l1 A1 c1 hR0 hL0 hR1 hL1 r1 hc1 r2 b1 hc4 r3 Z1 cz1 Z2 cz2 r4 b2 hc7 Z3 cz3) hq9 (fun a hF => ⟨hS31, hF.weaken ⟨by kernel_rfl, by kernel_rfl, by kernel_rfl, by kernel_rfl, by kernel_rfl, by kernel_rfl, by kernel_rfl, trivial⟩⟩) (fun s o hf a w hA Q hQ => FixedBest_r2 K w0 l0 A0 c0 l1 A1 c1 hR0 hL0 hR1 hL1 r1 hc1 r2 b1 hc4 r3 Z1 cz1 Z2 cz2 r4 b2 hc7 Z3 cz3 s o hf a w hA Q hQ) ?_
              rintro _ a w19 _ ⟨rfl, hS47, hF⟩
              replace hS47 : St w0 w19 [Own.blk b1 (.cells #[.int .i64 r3.2.Code, .int .i64 r3.2.At] 29 (0, 0))] := hS47
              refine hK19 [(0, .slice A0 l0.length c0), (1, .slice A1 l1.length c1), (6, .pointer (some ⟨b1, 0, none⟩))] w19 ?_ a hF
              refine we_seq fun K33 hK33 => ?_
              refine we_region [(0, 0), (1, 1), (2, 0), (3, 0), (4, 0), (5, 0), (6, 2)] rfl ?_
              rcases hq10 : fixed_Deadlines.f K l0 with _ | r5
              · rw [hq10] at h; cases h
              rw [hq10] at h
              simp only [] at h
              refine ge_batch [0] (ans := []) (vs := [(94, .slice A0 l0.length c0)]) (l := []) (by kernel_rfl) trivial ?_
              refine ge_call (d := some 95) (f := 17) (args := #[.slice A0 l0.length c0]) (by kernel_rfl) (fixed_Deadlines_ok K l0 A0 c0 _ (hS47.rd hR0) hL0 _ hq10) ?_
              rintro _ w20 ⟨v4, rfl, hS48⟩
              refine ⟨_, rfl, hS48.below, ?_⟩
              have hS49 := hS47.call hS48
              refine ge_batch [2, 3, 4, 5] (ans := []) (vs := [(13, v4), (97, .agg #[.int .i64 r5.2.Code, .int .i64 r5.2.At]), (96, v4), (93, .tuple #[v4, .agg #[.int .i64 r5.2.Code, .int .i64 r5.2.At]])]) (l := []) (by kernel_rfl) trivial ?_
              have hS50 := hS49.bring 1 rfl
              refine ge_set (b := b1) (j := 0) (cs := #[.int .i64 r3.2.Code, .int .i64 r3.2.At]) (t := 29) (vs := [.int .i64 r5.2.Code, .int .i64 r5.2.At]) hS50 (by kernel_rfl) rfl rfl fun w21 hS51 => ?_
              have hS52 : St w0 w21 [Own.blk b1 (.cells #[.int .i64 r5.2.Code, .int .i64 r5.2.At] 29 (0, 0)), Own.of v4 46 r5.1] := hS51
              refine ge_nil fun a hF => hK33 _ _ ?_ a hF
              refine we_seq fun K34 hK34 => ?_
              refine we_region [(0, 0), (1, 0), (2, 1), (3, 0), (4, 0), (5, 0), (6, 1), (7, 0), (8, 2)] rfl ?_
              refine ge_batch [0, 1] (ans := []) (vs := [(100, .slice A1 l1.length c1), (99, v4)]) (l := []) (by kernel_rfl) trivial ?_
              obtain ⟨Z4, cz4, rfl⟩ := hS52.open 1 rfl
              rcases hq11 : fixed_Responses.f K r5.1 l1 with _ | r6
              · rw [hq11] at h; cases h
              rw [hq11] at h
              simp only [] at h
              refine ge_call (d := some 101) (f := 10) (args := #[(.slice Z4 r5.1.length cz4), .slice A1 l1.length c1]) (by kernel_rfl) (fixed_Responses_ok K r5.1 Z4 cz4 l1 A1 c1 _ (hS52.rdAt 1 rfl) (hS52.capAt 1 rfl) (hS52.rd hR1) hL1 _ hq11) ?_
              rintro _ w22 ⟨v5, rfl, hS53⟩
              refine ⟨_, rfl, hS53.below, ?_⟩
              have hS54 := hS52.call hS53
              refine ge_batch [3, 4, 5] (ans := []) (vs := [(103, .agg #[.int .i64 r6.2.Code, .int .i64 r6.2.At]), (102, v5), (98, .tuple #[v5, .agg #[.int .i64 r6.2.Code, .int .i64 r6.2.At]])]) (l := []) (by kernel_rfl) trivial ?_
              refine ge_new (d := some 15) (o := .cells #[.int .i64 0, .int .i64 0] 29) (v := fun b => .pointer (some ⟨b, 0, none⟩)) hS54 (fun b => by kernel_rfl) fun b5 w23 hx8 hS55 => ?_
              refine ge_batch [7] (ans := []) (vs := [(14, v5)]) (l := []) (by kernel_rfl) trivial ?_
              refine ge_set (b := b5) (j := 0) (cs := #[.int .i64 0, .int .i64 0]) (t := 29) (vs := [.int .i64 r6.2.Code, .int .i64 r6.2.At]) hS55 (by kernel_rfl) rfl rfl fun w24 hS56 => ?_
              have hS57 : St w0 w24 [Own.blk b5 (.cells #[.int .i64 r6.2.Code, .int .i64 r6.2.At] 29 (0, 0)), Own.of v5 3 r6.1, Own.blk b1 (.cells #[.int .i64 r5.2.Code, .int .i64 r5.2.At] 29 (0, 0)), Own.of (.slice Z4 r5.1.length cz4) 46 r5.1] := hS56
              refine ge_nil fun a hF => hK34 _ _ ?_ a hF
              refine we_seq fun K35 hK35 => ?_
              refine we_region [(0, 0), (1, 0), (2, 0), (3, 0), (4, 0), (5, 0), (6, 0), (7, 0), (8, 0)] rfl ?_
              refine ge_batch [0, 1, 2, 3] (ans := [.val (.int .i64 r5.2.Code)]) (vs := [(107, .bool (r5.2.Code == 0)), (106, .bool (r5.2.Code == 0)), (105, .int .i64 r5.2.Code), (104, .pointer (some ⟨b1, 0, none⟩))]) (l := [.loaded ⟨b1, 0, none⟩ (.int .i64 r5.2.Code)]) (by kernel_rfl) ⟨hS57.cell 2 rfl rfl, trivial⟩ ?_
              by_cases hc12 : r5.2.Code = 0
              · rw [if_pos hc12] at h
                refine ge_known (t := 107) (b := (r5.2.Code == 0)) (c := true) (by kernel_rfl) (beq_iff_eq.2 hc12) ?_
                refine ge_batch [4, 5, 6, 7, 8] (ans := [.val (.int .i64 r6.2.Code)]) (vs := [(4, .bool (r6.2.Code == 0)), (111, .bool (r6.2.Code == 0)), (110, .bool (r6.2.Code == 0)), (109, .int .i64 r6.2.Code), (108, .pointer (some ⟨b5, 0, none⟩))]) (l := [.loaded ⟨b5, 0, none⟩ (.int .i64 r6.2.Code)]) (by kernel_rfl) ⟨hS57.cell 0 rfl rfl, trivial⟩ ?_
                refine ge_nil fun a hF => hK35 _ _ ?_ a hF
                have hS58 := hS57.takeN 0
                obtain rfl := Option.some.inj h
                exact we_ret (post_ret (rs := [.tmp 4]) (ans := []) (vs := [.bool (r6.2.Code == 0)]) (l := []) rfl (by kernel_rfl) trivial ⟨rfl, hS58⟩)
              · rw [if_neg hc12] at h
                refine ge_known (t := 107) (b := (r5.2.Code == 0)) (c := false) (by kernel_rfl) (beq_eq_false_iff_ne.2 hc12) ?_
                refine ge_batch [4, 5, 6, 7, 8] (ans := []) (vs := [(4, .bool false), (111, .bool false), (110, undef), (109, undef), (108, undef)]) (l := []) (by kernel_rfl) trivial ?_
                refine ge_nil fun a hF => hK35 _ _ ?_ a hF
                have hS59 := hS57.takeN 0
                obtain rfl := Option.some.inj h
                exact we_ret (post_ret (rs := [.tmp 4]) (ans := []) (vs := [.bool false]) (l := []) rfl (by kernel_rfl) trivial ⟨rfl, hS59⟩)
            · rw [hq9] at h
              simp only [] at h
              refine we_iter (A := FixedBest.A2 K w0 l0 A0 c0 l1 A1 c1 hR0 hL0 hR1 hL1 r1 hc1 r2 b1 hc4 r3 Z1 cz1 Z2 cz2 r4 b2 hc7 Z3 cz3) (B := FixedBest.B2 K w0 l0 A0 c0 l1 A1 c1 hR0 hL0 hR1 hL1 r1 hc1 r2 b1 hc4 r3 Z1 cz1 Z2 cz2 r4 b2 hc7 Z3 cz3) hq9 (fun a hF => ⟨hS31, hF.weaken ⟨by kernel_rfl, by kernel_rfl, by kernel_rfl, by kernel_rfl, by kernel_rfl, by kernel_rfl, by kernel_rfl, trivial⟩⟩) (fun s o hf a w hA Q hQ => FixedBest_r2 K w0 l0 A0 c0 l1 A1 c1 hR0 hL0 hR1 hL1 r1 hc1 r2 b1 hc4 r3 Z1 cz1 Z2 cz2 r4 b2 hc7 Z3 cz3 s o hf a w hA Q hQ) ?_
              rintro _ a w1 _ ⟨rfl, hb⟩
              obtain rfl := Option.some.inj h
              exact hb
          · rw [if_neg hc7] at h
            refine we_known (t := 64) (b := (r4.2.Code != 0)) (v := true) (by kernel_rfl) (bne_iff_ne.2 hc7) ?_
            refine we_true (by kernel_rfl) ?_
            refine we_seq fun K36 hK36 => ?_
            refine we_region [(0, 0)] rfl ?_
            refine ge_batch [0] (ans := []) (vs := [(4, .bool false)]) (l := []) (by kernel_rfl) trivial ?_
            refine ge_nil fun a hF => hK36 _ _ ?_ a hF
            have hS60 := hS28.takeN 0
            obtain rfl := Option.some.inj h
            exact we_ret (post_ret (rs := [.tmp 4]) (ans := []) (vs := [.bool false]) (l := []) rfl (by kernel_rfl) trivial ⟨rfl, hS60⟩)
        · rw [hq7] at h
          simp only [] at h
          refine we_keep (e' := [(0, .slice A0 l0.length c0), (1, .slice A1 l1.length c1), (5, (.slice Z1 r2.1.length cz1)), (6, .pointer (some ⟨b1, 0, none⟩)), (7, (.slice Z2 r3.1.length cz2)), (28, .tuple #[(.slice Z1 r2.1.length cz1), .agg #[.int .i64 r2.2.Code, .int .i64 r2.2.At]]), (29, .slice A0 l0.length c0), (30, .slice A1 l1.length c1), (31, .tuple #[(.slice Z1 r2.1.length cz1), .agg #[.int .i64 r2.2.Code, .int .i64 r2.2.At]]), (32, (.slice Z1 r2.1.length cz1)), (33, .agg #[.int .i64 r2.2.Code, .int .i64 r2.2.At]), (34, .pointer (some ⟨b1, 0, none⟩)), (35, .int .i64 r2.2.Code), (36, .bool false), (40, .tuple #[(.slice Z2 r3.1.length cz2), .agg #[.int .i64 r3.2.Code, .int .i64 r3.2.At]]), (41, .slice A0 l0.length c0), (42, .slice A1 l1.length c1), (43, .tuple #[(.slice Z2 r3.1.length cz2), .agg #[.int .i64 r3.2.Code, .int .i64 r3.2.At]]), (44, (.slice Z2 r3.1.length cz2)), (45, .agg #[.int .i64 r3.2.Code, .int .i64 r3.2.At])]) ⟨by kernel_rfl, by kernel_rfl, by kernel_rfl, by kernel_rfl, by kernel_rfl, by kernel_rfl, by kernel_rfl, by kernel_rfl, by kernel_rfl, by kernel_rfl, by kernel_rfl, by kernel_rfl, by kernel_rfl, by kernel_rfl, by kernel_rfl, by kernel_rfl, by kernel_rfl, by kernel_rfl, by kernel_rfl, by kernel_rfl, trivial⟩ (FixedBest_p1 K w0 l0 A0 c0 l1 A1 c1 hR0 hL0 hR1 hL1 r1 hc1 r2 b1 hc4 r3 Z1 cz1 Z2 cz2 _ hq7 _ hS17 _ ?_)
          rintro _ a w1 ⟨_, rfl, hb⟩
          obtain rfl := Option.some.inj h
          exact hb
      · rw [if_neg hc4] at h
        refine we_known (t := 36) (b := (r2.2.Code != 0)) (v := true) (by kernel_rfl) (bne_iff_ne.2 hc4) ?_
        refine we_true (by kernel_rfl) ?_
        refine we_seq fun K37 hK37 => ?_
        refine we_region [(0, 0), (1, 0), (2, 0), (3, 0)] rfl ?_
        refine ge_batch [0] (ans := []) (vs := [(37, v1)]) (l := []) (by kernel_rfl) trivial ?_
        obtain ⟨Z5, cz5, rfl⟩ := hS12.open 1 rfl
        refine ge_batch [1, 2, 3] (ans := []) (vs := [(4, .bool ((r2.1.length : Int) == 0)), (39, .bool ((r2.1.length : Int) == 0)), (38, .int .i64 (r2.1.length : Int))]) (l := []) (by kernel_rfl) trivial ?_
        refine ge_nil fun a hF => hK37 _ _ ?_ a hF
        have hS61 := hS12.takeN 0
        obtain rfl := Option.some.inj h
        exact we_ret (post_ret (rs := [.tmp 4]) (ans := []) (vs := [.bool ((r2.1.length : Int) == 0)]) (l := []) rfl (by kernel_rfl) trivial ⟨rfl, hS61⟩)
    · rw [hq4] at h
      simp only [] at h
      refine we_keep (e' := [(0, .slice A0 l0.length c0), (1, .slice A1 l1.length c1), (4, .bool false), (16, .bool r1), (17, .bool false)]) ⟨by kernel_rfl, by kernel_rfl, by kernel_rfl, by kernel_rfl, by kernel_rfl, trivial⟩ (FixedBest_p0 K w0 l0 A0 c0 l1 A1 c1 hR0 hL0 hR1 hL1 r1 hc1 _ hq4 _ hS2 _ ?_)
      rintro _ a w1 ⟨_, rfl, hb⟩
      obtain rfl := Option.some.inj h
      exact hb
  · rw [if_neg hc1] at h
    refine we_known (t := 17) (b := !r1) (v := true) (by kernel_rfl) (congrArg (fun z => !z) (Bool.eq_false_iff.2 hc1)) ?_
    refine we_true (by kernel_rfl) ?_
    refine we_seq fun K38 hK38 => ?_
    refine we_region [(0, 0)] rfl ?_
    refine ge_batch [0] (ans := []) (vs := [(4, .bool false)]) (l := []) (by kernel_rfl) trivial ?_
    refine ge_nil fun a hF => hK38 _ _ ?_ a hF
    obtain rfl := Option.some.inj h
    exact we_ret (post_ret (rs := [.tmp 4]) (ans := []) (vs := [.bool false]) (l := []) rfl (by kernel_rfl) trivial ⟨rfl, hS2⟩)
end Go.Proofs.Ytlipdmblinjjaaa.GV
