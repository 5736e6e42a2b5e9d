/- Walks of single functions, written by a program of this work. -/
import Derived.Test.YtlipdmblinjjaaaGWEdfBest1
namespace Go.Proofs.Ytlipdmblinjjaaa.GV
open Go Go.RowKit
set_option linter.unusedVariables false
set_option linter.unusedSimpArgs false
set_option maxRecDepth 100000

/-! punctual/sched.Late -/
abbrev sched_Late.Post (w0 : World) (r : (List Int) × SFault) (e : Ending) (w : World) : Prop := ∃ (v0 : Value), e = .returned (.tuple #[v0, .agg #[.int .i64 r.2.Code, .int .i64 r.2.At]]) ∧ St w0 w [Own.of v0 3 r.1]
def sched_Late.r0 (l0 : List SJob) (l1_0 : List Int) (l1_1 : List Int) : (List Int) × Nat → Option (((List Int) × Nat) ⊕ ((List Int) ⊕ ((List Int) × SFault)))
  | (m1, i1) =>
    if (i1 : Int) < (l0.length : Int) then
      match l0[i1]? with
      | none => none
      | some e1 =>
        match l1_1[i1]? with
        | none => none
        | some e2 =>
          if e2 > e1.Due then
            if m1.length < 17592186044416 then
              some (.inl ((m1 ++ [(i1 : Int)]), (i1 + 1)))
            else
              none
          else
            if e2 < 0 then
              if e1.Due ≤ (l1_0.length : Int) then
                if m1.length < 17592186044416 then
                  some (.inl ((m1 ++ [(i1 : Int)]), (i1 + 1)))
                else
                  none
              else
                some (.inl (m1, (i1 + 1)))
            else
              some (.inl (m1, (i1 + 1)))
    else
      some (.inr (.inl m1))
def sched_Late.f (K : Nat) (l0 : List SJob) (l1_0 : List Int) (l1_1 : List Int) : Option ((List Int) × SFault) :=
  if (l1_1.length : Int) = (l0.length : Int) then
    match iter (sched_Late.r0 l0 l1_0 l1_1) K (([] : List Int), 0) with
    | none => none
    | some (.inl m3) =>
      some (m3, (⟨0, 0⟩ : SFault))
    | some (.inr rr1) =>
      some rr1
  else
    some (([] : List Int), (⟨2, 0⟩ : SFault))
abbrev sched_Late.A0 (K : Nat) (w0 : World) (l0 : List SJob) (A0 : Option Addr) (c0 : Nat) (l1_0 : List Int) (A1_0 : Option Addr) (c1_0 : Nat) (l1_1 : List Int) (A1_1 : Option Addr) (c1_1 : Nat) (hR0 : RdL w0 A0 l0) (hL0 : l0.length ≤ c0) (hR1_0 : RdL w0 A1_0 l1_0) (hL1_0 : l1_0.length ≤ c1_0) (hR1_1 : RdL w0 A1_1 l1_1) (hL1_1 : l1_1.length ≤ c1_1) (b1 : Nat) (b2 : Nat) (hc1 : (l1_1.length : Int) = (l0.length : Int)) : ((List Int) × Nat) → Act → World → Prop := fun (s : (List Int) × Nat) a w => ∃ (v1 : Value), St w0 w [Own.blk b2 (.cells #[.int .i64 0, .int .i64 0] 29 (0, 0)), Own.blk b1 (.cells #[.slice A1_0 l1_0.length c1_0, .slice A1_1 l1_1.length c1_1] 37 (0, 0)), Own.of v1 3 s.1] ∧ Frm 52 a [(3, .pointer (some ⟨b1, 0, none⟩)), (5, .pointer (some ⟨b2, 0, none⟩)), (6, v1), (17, .slice A0 l0.length c0), (18, .int .i64 (l0.length : Int)), (19, .int .i64 (s.2 : Int))]
abbrev sched_Late.B0 (K : Nat) (w0 : World) (l0 : List SJob) (A0 : Option Addr) (c0 : Nat) (l1_0 : List Int) (A1_0 : Option Addr) (c1_0 : Nat) (l1_1 : List Int) (A1_1 : Option Addr) (c1_1 : Nat) (hR0 : RdL w0 A0 l0) (hL0 : l0.length ≤ c0) (hR1_0 : RdL w0 A1_0 l1_0) (hL1_0 : l1_0.length ≤ c1_0) (hR1_1 : RdL w0 A1_1 l1_1) (hL1_1 : l1_1.length ≤ c1_1) (b1 : Nat) (b2 : Nat) (hc1 : (l1_1.length : Int) = (l0.length : Int)) : ((List Int) ⊕ ((List Int) × SFault)) → Exit → Act → World → Prop := Exits 0 (fun (s : (List Int)) a w => ∃ (v2 : Value), St w0 w [Own.blk b2 (.cells #[.int .i64 0, .int .i64 0] 29 (0, 0)), Own.of v2 3 s] ∧ Frm 52 a [(5, .pointer (some ⟨b2, 0, none⟩)), (6, v2)]) (Rets Try.prog Try.f14 (sched_Late.Post w0))
theorem sched_Late_r0 (K : Nat) (w0 : World) (l0 : List SJob) (A0 : Option Addr) (c0 : Nat) (l1_0 : List Int) (A1_0 : Option Addr) (c1_0 : Nat) (l1_1 : List Int) (A1_1 : Option Addr) (c1_1 : Nat) (hR0 : RdL w0 A0 l0) (hL0 : l0.length ≤ c0) (hR1_0 : RdL w0 A1_0 l1_0) (hL1_0 : l1_0.length ≤ c1_0) (hR1_1 : RdL w0 A1_1 l1_1) (hL1_1 : l1_1.length ≤ c1_1) (b1 : Nat) (b2 : Nat) (hc1 : (l1_1.length : Int) = (l0.length : Int)) (s : (List Int) × Nat) (o : ((List Int) × Nat) ⊕ ((List Int) ⊕ ((List Int) × SFault))) (h : sched_Late.r0 l0 l1_0 l1_1 s = some o) (a : Act) (w : World) (hA : sched_Late.A0 K w0 l0 A0 c0 l1_0 A1_0 c1_0 l1_1 A1_1 c1_1 hR0 hL0 hR1_0 hL1_0 hR1_1 hL1_1 b1 b2 hc1 s a w) (Q : Exit → Act → World → Prop) (hQ : ∀ x a w, Outs (sched_Late.A0 K w0 l0 A0 c0 l1_0 A1_0 c1_0 l1_1 A1_1 c1_1 hR0 hL0 hR1_0 hL1_0 hR1_1 hL1_1 b1 b2 hc1) (sched_Late.B0 K w0 l0 A0 c0 l1_0 A1_0 c1_0 l1_1 A1_1 c1_1 hR0 hL0 hR1_0 hL1_0 hR1_1 hL1_1 b1 b2 hc1) o x a w → Q x a w) : (subF Try.f14 [1, 1, 1, 0, 1, 0, 0]).wp Try.prog Q a w := by
  obtain ⟨m1, i1⟩ := s
  obtain ⟨v1, hS, hF⟩ := hA
  replace hS : St w0 w [Own.blk b2 (.cells #[.int .i64 0, .int .i64 0] 29 (0, 0)), Own.blk b1 (.cells #[.slice A1_0 l1_0.length c1_0, .slice A1_1 l1_1.length c1_1] 37 (0, 0)), Own.of v1 3 m1] := hS
  simp only [sched_Late.r0] at h
  refine (?_ : WE Try.prog 52 (subF Try.f14 [1, 1, 1, 0, 1, 0, 0]) Q [(3, .pointer (some ⟨b1, 0, none⟩)), (5, .pointer (some ⟨b2, 0, none⟩)), (6, v1), (17, .slice A0 l0.length c0), (18, .int .i64 (l0.length : Int)), (19, .int .i64 (i1 : Int))] w) a hF
  clear hF a
  refine we_seq fun K7 hK7 => ?_
  refine we_region [(0, 0)] rfl ?_
  refine ge_batch [0] (ans := []) (vs := [(20, .bool (decide ((i1 : Int) < (l0.length : Int))))]) (l := []) (by kernel_rfl) trivial ?_
  refine ge_nil fun a hF => hK7 _ _ ?_ a hF
  refine we_seq fun K8 hK8 => ?_
  by_cases hc2 : (i1 : Int) < (l0.length : Int)
  · rw [if_pos hc2] at h
    refine we_known (t := 20) (b := decide ((i1 : Int) < (l0.length : Int))) (v := true) (by kernel_rfl) (decide_eq_true hc2) ?_
    refine we_true (by kernel_rfl) ?_
    refine we_skip fun a hF => hK8 _ _ ?_ a hF
    refine we_seq fun K9 hK9 => ?_
    refine we_block ?_
    refine we_seq fun K10 hK10 => ?_
    refine we_region [(0, 0), (1, 0), (2, 0), (3, 1), (4, 0), (5, 2)] rfl ?_
    refine ge_batch [0] (ans := []) (vs := [(21, .int .i64 (i1 : Int))]) (l := []) (by kernel_rfl) trivial ?_
    rcases hx3 : l0[i1]? with _ | e1
    · rw [hx3] at h; cases h
    rw [hx3] at h
    simp only [] at h
    refine ge_index (d := 22) (ty := 0) (t := 32) (el := 59) (sz := 5) (m := l0.length) (c := c0) (x := (.tmp 17)) (y := (.tmp 19)) (A := A0) (k' := .i64) (j := (i1 : Int)) (jn := i1) (b0 := blkOf A0) (o0 := offOf A0) (by kernel_rfl) (by kernel_rfl) (by kernel_rfl) (by kernel_rfl) (by kernel_rfl) ((hS.rd hR0).eqSome (pos_of_get hx3)) rfl (lt_of_get hx3) ?_
    refine ge_batch [2] (ans := [.val (.int .i64 e1.Task), .val (.int .i64 e1.At), .val (.int .i64 e1.C), .val (.int .i64 e1.Due), .val (.int .i64 e1.P)]) (vs := [(23, .agg #[.int .i64 e1.Task, .int .i64 e1.At, .int .i64 e1.C, .int .i64 e1.Due, .int .i64 e1.P])]) (l := [.loaded ⟨blkOf A0, offOf A0 + i1 * 5, none⟩ (.int .i64 e1.Task), .loaded ⟨blkOf A0, offOf A0 + i1 * 5 + 1, none⟩ (.int .i64 e1.At), .loaded ⟨blkOf A0, offOf A0 + i1 * 5 + 2, none⟩ (.int .i64 e1.C), .loaded ⟨blkOf A0, offOf A0 + i1 * 5 + 3, none⟩ (.int .i64 e1.Due), .loaded ⟨blkOf A0, offOf A0 + i1 * 5 + 4, none⟩ (.int .i64 e1.P)]) (by kernel_rfl) ⟨RdL.cell (j := 0) (hS.rd hR0) hx3 rfl, RdL.cell (j := 1) (hS.rd hR0) hx3 rfl, RdL.cell (j := 2) (hS.rd hR0) hx3 rfl, RdL.cell (j := 3) (hS.rd hR0) hx3 rfl, RdL.cell (j := 4) (hS.rd hR0) hx3 rfl, trivial⟩ ?_
    refine ge_new (d := some 8) (o := .cells #[.int .i64 0, .int .i64 0, .int .i64 0, .int .i64 0, .int .i64 0] 59) (v := fun b => .pointer (some ⟨b, 0, none⟩)) hS (fun b => by kernel_rfl) fun b3 w3 hx4 hS6 => ?_
    refine ge_batch [4] (ans := []) (vs := [(7, .int .i64 (i1 : Int))]) (l := []) (by kernel_rfl) trivial ?_
    refine ge_set (b := b3) (j := 0) (cs := #[.int .i64 0, .int .i64 0, .int .i64 0, .int .i64 0, .int .i64 0]) (t := 59) (vs := [.int .i64 e1.Task, .int .i64 e1.At, .int .i64 e1.C, .int .i64 e1.Due, .int .i64 e1.P]) hS6 (by kernel_rfl) rfl rfl fun w4 hS7 => ?_
    have hS8 : St w0 w4 [Own.blk b3 (.cells #[.int .i64 e1.Task, .int .i64 e1.At, .int .i64 e1.C, .int .i64 e1.Due, .int .i64 e1.P] 59 (0, 0)), Own.blk b2 (.cells #[.int .i64 0, .int .i64 0] 29 (0, 0)), Own.blk b1 (.cells #[.slice A1_0 l1_0.length c1_0, .slice A1_1 l1_1.length c1_1] 37 (0, 0)), Own.of v1 3 m1] := hS7
    refine ge_nil fun a hF => hK10 _ _ ?_ a hF
    refine we_seq fun K11 hK11 => ?_
    refine we_region [(0, 0), (1, 0), (2, 0), (3, 0), (4, 0), (5, 0)] rfl ?_
    refine ge_batch [0, 1, 2] (ans := [.val (.slice A1_1 l1_1.length c1_1)]) (vs := [(26, .int .i64 (i1 : Int)), (25, .slice A1_1 l1_1.length c1_1), (24, .pointer (some ⟨b1, 1, none⟩))]) (l := [.loaded ⟨b1, 1, none⟩ (.slice A1_1 l1_1.length c1_1)]) (by kernel_rfl) ⟨hS8.cell 2 rfl rfl, trivial⟩ ?_
    rcases hx5 : l1_1[i1]? with _ | e2
    · rw [hx5] at h; cases h
    rw [hx5] at h
    simp only [] at h
    refine ge_index (d := 27) (ty := 0) (t := 24) (el := 3) (sz := 1) (m := l1_1.length) (c := c1_1) (x := (.tmp 25)) (y := (.tmp 26)) (A := A1_1) (k' := .i64) (j := (i1 : Int)) (jn := i1) (b0 := blkOf A1_1) (o0 := offOf A1_1) (by kernel_rfl) (by kernel_rfl) (by kernel_rfl) (by kernel_rfl) (by kernel_rfl) ((hS8.rd hR1_1).eqSome (pos_of_get hx5)) rfl (lt_of_get hx5) ?_
    refine ge_batch [4, 5] (ans := [.val (.int .i64 e2)]) (vs := [(9, .int .i64 e2), (28, .int .i64 e2)]) (l := [.loaded ⟨blkOf A1_1, offOf A1_1 + i1 * 1, none⟩ (.int .i64 e2)]) (by kernel_rfl) ⟨RdL.cell (j := 0) (hS8.rd hR1_1) hx5 rfl, trivial⟩ ?_
    refine ge_nil fun a hF => hK11 _ _ ?_ a hF
    refine we_seq fun K12 hK12 => ?_
    refine we_region [(0, 0), (1, 0), (2, 0), (3, 0), (4, 0), (5, 0), (6, 0), (7, 0), (8, 0), (9, 0), (10, 0), (11, 0), (12, 0), (13, 0), (14, 0), (15, 0)] rfl ?_
    refine ge_batch [0, 1, 2, 3, 4] (ans := [.val (.int .i64 e1.Due)]) (vs := [(33, .bool (decide (e2 > e1.Due))), (32, .bool (decide (e2 > e1.Due))), (31, .int .i64 e1.Due), (30, .pointer (some ⟨b3, 3, none⟩)), (29, .int .i64 e2)]) (l := [.loaded ⟨b3, 3, none⟩ (.int .i64 e1.Due)]) (by kernel_rfl) ⟨hS8.cell 0 rfl rfl, trivial⟩ ?_
    by_cases hc3 : e2 > e1.Due
    · rw [if_pos hc3] at h
      refine ge_known (t := 33) (b := decide (e2 > e1.Due)) (c := true) (by kernel_rfl) (decide_eq_true hc3) ?_
      refine ge_batch [5, 6, 7, 8, 9, 10, 11, 12, 13, 14, 15] (ans := []) (vs := [(44, .bool true), (43, undef), (42, undef), (41, undef), (40, undef), (39, undef), (38, undef), (37, undef), (36, undef), (35, undef), (34, undef)]) (l := []) (by kernel_rfl) trivial ?_
      refine ge_nil fun a hF => hK12 _ _ ?_ a hF
      refine we_true (by kernel_rfl) ?_
      refine we_region [(0, 0), (1, 0), (2, 1), (3, 2), (4, 0)] rfl ?_
      refine ge_batch [0, 1] (ans := []) (vs := [(46, .int .i64 (i1 : Int)), (45, v1)]) (l := []) (by kernel_rfl) trivial ?_
      refine ge_new (d := some 47) (o := .cells #[.int .i64 (i1 : Int)] 3) (v := fun b => .slice (some ⟨b, 0, none⟩) 1 1) hS8 (fun b => by kernel_rfl) fun b4 w5 hx6 hS9 => ?_
      have hS10 := hS9.bring 4 rfl
      by_cases hc4 : m1.length < 17592186044416
      · rw [if_pos hc4] at h
        refine ge_append (α := Int) (m := 0) (d := 48) (t := 24) (el := 3) (bytes := 8) (c1 := 1) (b1 := b4) (x := (.tmp 45)) (y := (.tmp 47)) (ty := 24) (v := v1) (z := .int .i64 0) (l := m1) (u := (i1 : Int)) (by kernel_rfl) (by kernel_rfl) (by kernel_rfl) (by kernel_rfl) (by kernel_rfl) rfl hS10 rfl (by omega) fun v3 w6 hS11 => ?_
        refine ge_batch [4] (ans := []) (vs := [(6, v3)]) (l := []) (by kernel_rfl) trivial ?_
        refine ge_nil fun a hF => hK9 _ _ ?_ a hF
        refine we_region [(0, 0), (1, 0)] rfl ?_
        refine ge_addn (d := 49) (ty := 3) (x := (.tmp 19)) (y := (.const (.int .i64 1))) (t := 3) (t2 := 3) (k := .i64) (m := i1) (by kernel_rfl) (by kernel_rfl) (by kernel_rfl) (by have h0 := hR0.small; omega) ?_
        refine ge_batch [1] (ans := []) (vs := [(19, .int .i64 ((i1 + 1 : Nat) : Int))]) (l := []) (by kernel_rfl) trivial ?_
        have hS12 := hS11.bring 3 rfl
        have hS13 := hS12.bring 3 rfl
        have hS14 := hS13.takeN 3
        obtain rfl := Option.some.inj h
        exact ge_nil fun a hF => hQ _ _ _ (Outs.again ⟨v3, hS14, hF.weaken ⟨by kernel_rfl, by kernel_rfl, by kernel_rfl, by kernel_rfl, by kernel_rfl, by kernel_rfl, trivial⟩⟩)
      · rw [if_neg hc4] at h
        cases h
    · rw [if_neg hc3] at h
      refine ge_known (t := 33) (b := decide (e2 > e1.Due)) (c := false) (by kernel_rfl) (decide_eq_false hc3) ?_
      refine ge_batch [5, 6, 7] (ans := []) (vs := [(36, .bool (decide (e2 < 0))), (35, .bool (decide (e2 < 0))), (34, .int .i64 e2)]) (l := []) (by kernel_rfl) trivial ?_
      by_cases hc5 : e2 < 0
      · rw [if_pos hc5] at h
        refine ge_known (t := 36) (b := decide (e2 < 0)) (c := true) (by kernel_rfl) (decide_eq_true hc5) ?_
        refine ge_batch [8, 9, 10, 11, 12, 13, 14, 15] (ans := [.val (.int .i64 e1.Due), .val (.slice A1_0 l1_0.length c1_0)]) (vs := [(44, .bool (decide (e1.Due ≤ (l1_0.length : Int)))), (43, .bool (decide (e1.Due ≤ (l1_0.length : Int)))), (42, .bool (decide (e1.Due ≤ (l1_0.length : Int)))), (41, .int .i64 (l1_0.length : Int)), (40, .slice A1_0 l1_0.length c1_0), (39, .pointer (some ⟨b1, 0, none⟩)), (38, .int .i64 e1.Due), (37, .pointer (some ⟨b3, 3, none⟩))]) (l := [.loaded ⟨b3, 3, none⟩ (.int .i64 e1.Due), .loaded ⟨b1, 0, none⟩ (.slice A1_0 l1_0.length c1_0)]) (by kernel_rfl) ⟨hS8.cell 0 rfl rfl, hS8.cell 2 rfl rfl, trivial⟩ ?_
        refine ge_nil fun a hF => hK12 _ _ ?_ a hF
        by_cases hc6 : e1.Due ≤ (l1_0.length : Int)
        · rw [if_pos hc6] at h
          refine we_known (t := 44) (b := decide (e1.Due ≤ (l1_0.length : Int))) (v := true) (by kernel_rfl) (decide_eq_true hc6) ?_
          refine we_true (by kernel_rfl) ?_
          refine we_region [(0, 0), (1, 0), (2, 1), (3, 2), (4, 0)] rfl ?_
          refine ge_batch [0, 1] (ans := []) (vs := [(46, .int .i64 (i1 : Int)), (45, v1)]) (l := []) (by kernel_rfl) trivial ?_
          refine ge_new (d := some 47) (o := .cells #[.int .i64 (i1 : Int)] 3) (v := fun b => .slice (some ⟨b, 0, none⟩) 1 1) hS8 (fun b => by kernel_rfl) fun b5 w7 hx7 hS15 => ?_
          have hS16 := hS15.bring 4 rfl
          by_cases hc7 : m1.length < 17592186044416
          · rw [if_pos hc7] at h
            refine ge_append (α := Int) (m := 0) (d := 48) (t := 24) (el := 3) (bytes := 8) (c1 := 1) (b1 := b5) (x := (.tmp 45)) (y := (.tmp 47)) (ty := 24) (v := v1) (z := .int .i64 0) (l := m1) (u := (i1 : Int)) (by kernel_rfl) (by kernel_rfl) (by kernel_rfl) (by kernel_rfl) (by kernel_rfl) rfl hS16 rfl (by omega) fun v4 w8 hS17 => ?_
            refine ge_batch [4] (ans := []) (vs := [(6, v4)]) (l := []) (by kernel_rfl) trivial ?_
            refine ge_nil fun a hF => hK9 _ _ ?_ a hF
            refine we_region [(0, 0), (1, 0)] rfl ?_
            refine ge_addn (d := 49) (ty := 3) (x := (.tmp 19)) (y := (.const (.int .i64 1))) (t := 3) (t2 := 3) (k := .i64) (m := i1) (by kernel_rfl) (by kernel_rfl) (by kernel_rfl) (by have h0 := hR0.small; omega) ?_
            refine ge_batch [1] (ans := []) (vs := [(19, .int .i64 ((i1 + 1 : Nat) : Int))]) (l := []) (by kernel_rfl) trivial ?_
            have hS18 := hS17.bring 3 rfl
            have hS19 := hS18.bring 3 rfl
            have hS20 := hS19.takeN 3
            obtain rfl := Option.some.inj h
            exact ge_nil fun a hF => hQ _ _ _ (Outs.again ⟨v4, hS20, hF.weaken ⟨by kernel_rfl, by kernel_rfl, by kernel_rfl, by kernel_rfl, by kernel_rfl, by kernel_rfl, trivial⟩⟩)
          · rw [if_neg hc7] at h
            cases h
        · rw [if_neg hc6] at h
          refine we_known (t := 44) (b := decide (e1.Due ≤ (l1_0.length : Int))) (v := false) (by kernel_rfl) (decide_eq_false hc6) ?_
          refine we_false (by kernel_rfl) ?_
          refine we_skip fun a hF => hK9 _ _ ?_ a hF
          refine we_region [(0, 0), (1, 0)] rfl ?_
          refine ge_addn (d := 49) (ty := 3) (x := (.tmp 19)) (y := (.const (.int .i64 1))) (t := 3) (t2 := 3) (k := .i64) (m := i1) (by kernel_rfl) (by kernel_rfl) (by kernel_rfl) (by have h0 := hR0.small; omega) ?_
          refine ge_batch [1] (ans := []) (vs := [(19, .int .i64 ((i1 + 1 : Nat) : Int))]) (l := []) (by kernel_rfl) trivial ?_
          have hS21 := hS8.bring 3 rfl
          have hS22 := hS21.bring 3 rfl
          have hS23 := hS22.bring 3 rfl
          have hS24 := hS23.takeN 3
          obtain rfl := Option.some.inj h
          exact ge_nil fun a hF => hQ _ _ _ (Outs.again ⟨v1, hS24, hF.weaken ⟨by kernel_rfl, by kernel_rfl, by kernel_rfl, by kernel_rfl, by kernel_rfl, by kernel_rfl, trivial⟩⟩)
      · rw [if_neg hc5] at h
        refine ge_known (t := 36) (b := decide (e2 < 0)) (c := false) (by kernel_rfl) (decide_eq_false hc5) ?_
        refine ge_batch [8, 9, 10, 11, 12, 13, 14, 15] (ans := []) (vs := [(44, .bool false), (43, .bool false), (42, undef), (41, undef), (40, undef), (39, undef), (38, undef), (37, undef)]) (l := []) (by kernel_rfl) trivial ?_
        refine ge_nil fun a hF => hK12 _ _ ?_ a hF
        refine we_false (by kernel_rfl) ?_
        refine we_skip fun a hF => hK9 _ _ ?_ a hF
        refine we_region [(0, 0), (1, 0)] rfl ?_
        refine ge_addn (d := 49) (ty := 3) (x := (.tmp 19)) (y := (.const (.int .i64 1))) (t := 3) (t2 := 3) (k := .i64) (m := i1) (by kernel_rfl) (by kernel_rfl) (by kernel_rfl) (by have h0 := hR0.small; omega) ?_
        refine ge_batch [1] (ans := []) (vs := [(19, .int .i64 ((i1 + 1 : Nat) : Int))]) (l := []) (by kernel_rfl) trivial ?_
        have hS25 := hS8.bring 3 rfl
        have hS26 := hS25.bring 3 rfl
        have hS27 := hS26.bring 3 rfl
        have hS28 := hS27.takeN 3
        obtain rfl := Option.some.inj h
        exact ge_nil fun a hF => hQ _ _ _ (Outs.again ⟨v1, hS28, hF.weaken ⟨by kernel_rfl, by kernel_rfl, by kernel_rfl, by kernel_rfl, by kernel_rfl, by kernel_rfl, trivial⟩⟩)
  · rw [if_neg hc2] at h
    refine we_known (t := 20) (b := decide ((i1 : Int) < (l0.length : Int))) (v := false) (by kernel_rfl) (decide_eq_false hc2) ?_
    refine we_false (by kernel_rfl) ?_
    have hS29 := hS.bring 2 rfl
    have hS30 := hS29.bring 1 rfl
    have hS31 := hS30.takeN 2
    obtain rfl := Option.some.inj h
    exact we_exit fun a hF => hQ _ _ _ (Outs.out nofun (Exits.here ⟨v1, hS31, hF.weaken ⟨by kernel_rfl, by kernel_rfl, trivial⟩⟩))
theorem sched_Late_ok (K : Nat) (l0 : List SJob) (A0 : Option Addr) (c0 : Nat) (l1_0 : List Int) (A1_0 : Option Addr) (c1_0 : Nat) (l1_1 : List Int) (A1_1 : Option Addr) (c1_1 : Nat) (w0 : World) (hR0 : RdL w0 A0 l0) (hL0 : l0.length ≤ c0) (hR1_0 : RdL w0 A1_0 l1_0) (hL1_0 : l1_0.length ≤ c1_0) (hR1_1 : RdL w0 A1_1 l1_1) (hL1_1 : l1_1.length ≤ c1_1) (r : (List Int) × SFault) (h : sched_Late.f K l0 l1_0 l1_1 = some r) :
    Calls Try.prog 14 #[.slice A0 l0.length c0, .agg #[.slice A1_0 l1_0.length c1_0, .slice A1_1 l1_1.length c1_1]] w0 (sched_Late.Post w0 r) := by
  have hS := St.start w0
  unfold sched_Late.f at h
  refine calls_enter (n := 52) (args := [.slice A0 l0.length c0, .agg #[.slice A1_0 l1_0.length c1_0, .slice A1_1 l1_1.length c1_1]]) (fn := Try.f14) rfl rfl rfl rfl ?_
  show WE _ _ _ _ [(0, .slice A0 l0.length c0), (1, .agg #[.slice A1_0 l1_0.length c1_0, .slice A1_1 l1_1.length c1_1])] _
  refine we_seq fun K1 hK1 => ?_
  refine we_region [(0, 1), (1, 0), (2, 1)] rfl ?_
  refine ge_new (d := some 3) (o := .cells #[.slice A1_0 l1_0.length c1_0, .slice A1_1 l1_1.length c1_1] 37) (v := fun b => .pointer (some ⟨b, 0, none⟩)) hS (fun b => by kernel_rfl) fun b1 w1 hx1 hS1 => ?_
  refine ge_batch [1] (ans := []) (vs := [(4, .slice none 0 0)]) (l := []) (by kernel_rfl) trivial ?_
  refine ge_new (d := some 5) (o := .cells #[.int .i64 0, .int .i64 0] 29) (v := fun b => .pointer (some ⟨b, 0, none⟩)) hS1 (fun b => by kernel_rfl) fun b2 w2 hx2 hS2 => ?_
  refine ge_nil fun a hF => hK1 _ _ ?_ a hF
  refine we_seq fun K2 hK2 => ?_
  refine we_seq fun K3 hK3 => ?_
  refine we_region [(0, 0), (1, 0), (2, 0), (3, 0), (4, 0), (5, 0)] rfl ?_
  refine ge_batch [0, 1, 2, 3, 4, 5] (ans := [.val (.slice A1_1 l1_1.length c1_1)]) (vs := [(15, .bool ((l1_1.length : Int) != (l0.length : Int))), (14, .int .i64 (l0.length : Int)), (13, .slice A0 l0.length c0), (12, .int .i64 (l1_1.length : Int)), (11, .slice A1_1 l1_1.length c1_1), (10, .pointer (some ⟨b1, 1, none⟩))]) (l := [.loaded ⟨b1, 1, none⟩ (.slice A1_1 l1_1.length c1_1)]) (by kernel_rfl) ⟨hS2.cell 1 rfl rfl, trivial⟩ ?_
  refine ge_nil fun a hF => hK3 _ _ ?_ a hF
  by_cases hc1 : (l1_1.length : Int) = (l0.length : Int)
  · rw [if_pos hc1] at h
    refine we_known (t := 15) (b := ((l1_1.length : Int) != (l0.length : Int))) (v := false) (by kernel_rfl) (bne_eq_false_iff_eq.2 hc1) ?_
    refine we_false (by kernel_rfl) ?_
    refine we_skip fun a hF => hK2 _ _ ?_ a hF
    refine we_seq fun K4 hK4 => ?_
    refine we_region [(0, 0)] rfl ?_
    refine ge_batch [0] (ans := []) (vs := [(6, .slice none 0 0)]) (l := []) (by kernel_rfl) trivial ?_
    refine ge_nil fun a hF => hK4 _ _ ?_ a hF
    refine we_seq fun K5 hK5 => ?_
    refine we_seq fun K6 hK6 => ?_
    refine we_region [(0, 0), (1, 0), (2, 0)] rfl ?_
    refine ge_batch [0, 1, 2] (ans := []) (vs := [(19, .int .i64 0), (18, .int .i64 (l0.length : Int)), (17, .slice A0 l0.length c0)]) (l := []) (by kernel_rfl) trivial ?_
    refine ge_nil fun a hF => hK6 _ _ ?_ a hF
    refine we_block ?_
    have hS3 := hS2.nil (α := Int) 3
    have hS4 := hS3.bring 2 rfl
    have hS5 := hS4.bring 2 rfl
    rcases hq1 : iter (sched_Late.r0 l0 l1_0 l1_1) K (([] : List Int), 0) with _ | (m3 | rr1)
    · rw [hq1] at h; cases h
    · rw [hq1] at h
      simp only [] at h
      refine we_iter (A := sched_Late.A0 K w0 l0 A0 c0 l1_0 A1_0 c1_0 l1_1 A1_1 c1_1 hR0 hL0 hR1_0 hL1_0 hR1_1 hL1_1 b1 b2 hc1) (B := sched_Late.B0 K w0 l0 A0 c0 l1_0 A1_0 c1_0 l1_1 A1_1 c1_1 hR0 hL0 hR1_0 hL1_0 hR1_1 hL1_1 b1 b2 hc1) hq1 (fun a hF => ⟨(.slice none 0 0), hS5, hF.weaken ⟨by kernel_rfl, by kernel_rfl, by kernel_rfl, by kernel_rfl, by kernel_rfl, by kernel_rfl, trivial⟩⟩) (fun s o hf a w hA Q hQ => sched_Late_r0 K w0 l0 A0 c0 l1_0 A1_0 c1_0 l1_1 A1_1 c1_1 hR0 hL0 hR1_0 hL1_0 hR1_1 hL1_1 b1 b2 hc1 s o hf a w hA Q hQ) ?_
      rintro _ a w9 _ ⟨rfl, v5, hS32, hF⟩
      replace hS32 : St w0 w9 [Own.blk b2 (.cells #[.int .i64 0, .int .i64 0] 29 (0, 0)), Own.of v5 3 m3] := hS32
      refine hK5 [(5, .pointer (some ⟨b2, 0, none⟩)), (6, v5)] w9 ?_ a hF
      refine we_seq fun K13 hK13 => ?_
      refine we_region [(0, 0), (1, 0), (2, 0), (3, 2)] rfl ?_
      refine ge_batch [0, 1, 2] (ans := []) (vs := [(4, v5), (51, .agg #[.int .i64 0, .int .i64 0]), (50, v5)]) (l := []) (by kernel_rfl) trivial ?_
      refine ge_set (b := b2) (j := 0) (cs := #[.int .i64 0, .int .i64 0]) (t := 29) (vs := [.int .i64 0, .int .i64 0]) hS32 (by kernel_rfl) rfl rfl fun w10 hS33 => ?_
      have hS34 : St w0 w10 [Own.blk b2 (.cells #[.int .i64 0, .int .i64 0] 29 (0, 0)), Own.of v5 3 m3] := hS33
      refine ge_nil fun a hF => hK13 _ _ ?_ a hF
      have hS35 := hS34.bring 1 rfl
      have hS36 := hS35.takeN 1
      obtain rfl := Option.some.inj h
      exact we_ret (post_ret (rs := [.tmp 4, .cell 5 29]) (ans := [.val (.int .i64 0), .val (.int .i64 0)]) (vs := [v5, .agg #[.int .i64 0, .int .i64 0]]) (l := [.loaded ⟨b2, 0, none⟩ (.int .i64 0), .loaded ⟨b2, 1, none⟩ (.int .i64 0)]) rfl (by kernel_rfl) ⟨hS34.cell 0 rfl rfl, hS34.cell 0 rfl rfl, trivial⟩ ⟨v5, rfl, hS36⟩)
    · rw [hq1] at h
      simp only [] at h
      refine we_iter (A := sched_Late.A0 K w0 l0 A0 c0 l1_0 A1_0 c1_0 l1_1 A1_1 c1_1 hR0 hL0 hR1_0 hL1_0 hR1_1 hL1_1 b1 b2 hc1) (B := sched_Late.B0 K w0 l0 A0 c0 l1_0 A1_0 c1_0 l1_1 A1_1 c1_1 hR0 hL0 hR1_0 hL1_0 hR1_1 hL1_1 b1 b2 hc1) hq1 (fun a hF => ⟨(.slice none 0 0), hS5, hF.weaken ⟨by kernel_rfl, by kernel_rfl, by kernel_rfl, by kernel_rfl, by kernel_rfl, by kernel_rfl, trivial⟩⟩) (fun s o hf a w hA Q hQ => sched_Late_r0 K w0 l0 A0 c0 l1_0 A1_0 c1_0 l1_1 A1_1 c1_1 hR0 hL0 hR1_0 hL1_0 hR1_1 hL1_1 b1 b2 hc1 s o hf a w hA Q hQ) ?_
      rintro _ a w1 _ ⟨rfl, hb⟩
      obtain rfl := Option.some.inj h
      exact hb
  · rw [if_neg hc1] at h
    refine we_known (t := 15) (b := ((l1_1.length : Int) != (l0.length : Int))) (v := true) (by kernel_rfl) (bne_iff_ne.2 hc1) ?_
    refine we_true (by kernel_rfl) ?_
    refine we_seq fun K14 hK14 => ?_
    refine we_region [(0, 0), (1, 0), (2, 2)] rfl ?_
    refine ge_batch [0, 1] (ans := []) (vs := [(4, .slice none 0 0), (16, .agg #[.int .i64 2, .int .i64 0])]) (l := []) (by kernel_rfl) trivial ?_
    refine ge_set (b := b2) (j := 0) (cs := #[.int .i64 0, .int .i64 0]) (t := 29) (vs := [.int .i64 2, .int .i64 0]) hS2 (by kernel_rfl) rfl rfl fun w11 hS37 => ?_
    have hS38 : St w0 w11 [Own.blk b2 (.cells #[.int .i64 2, .int .i64 0] 29 (0, 0)), Own.blk b1 (.cells #[.slice A1_0 l1_0.length c1_0, .slice A1_1 l1_1.length c1_1] 37 (0, 0))] := hS37
    refine ge_nil fun a hF => hK14 _ _ ?_ a hF
    have hS39 := hS38.nil (α := Int) 3
    have hS40 := hS39.takeN 1
    obtain rfl := Option.some.inj h
    exact we_ret (post_ret (rs := [.tmp 4, .cell 5 29]) (ans := [.val (.int .i64 2), .val (.int .i64 0)]) (vs := [(.slice none 0 0), .agg #[.int .i64 2, .int .i64 0]]) (l := [.loaded ⟨b2, 0, none⟩ (.int .i64 2), .loaded ⟨b2, 1, none⟩ (.int .i64 0)]) rfl (by kernel_rfl) ⟨hS39.cell 1 rfl rfl, hS39.cell 1 rfl rfl, trivial⟩ ⟨(.slice none 0 0), rfl, hS40⟩)

/-! punctual/punctualsame.Same[int] -/
abbrev punctualsame_Same_int.Post (w0 : World) (r : Bool) (e : Ending) (w : World) : Prop := e = .returned (.bool r) ∧ St w0 w []
def punctualsame_Same_int.r0 (l0 : List Int) (l1 : List Int) : Nat → Option (Nat ⊕ (Unit ⊕ Bool))
  | i1 =>
    if (i1 : Int) < (l0.length : Int) then
      match l0[i1]? with
      | none => none
      | some e1 =>
        match l1[i1]? with
        | none => none
        | some e2 =>
          if e1 = e2 then
            some (.inl (i1 + 1))
          else
            some (.inr (.inr false))
    else
      some (.inr (.inl ()))
def punctualsame_Same_int.f (K : Nat) (l0 : List Int) (l1 : List Int) : Option Bool :=
  if (l0.length : Int) = (l1.length : Int) then
    match iter (punctualsame_Same_int.r0 l0 l1) K 0 with
    | none => none
    | some (.inl _) =>
      some true
    | some (.inr rr1) =>
      some rr1
  else
    some false
abbrev punctualsame_Same_int.A0 (K : Nat) (w0 : World) (l0 : List Int) (A0 : Option Addr) (c0 : Nat) (l1 : List Int) (A1 : Option Addr) (c1 : Nat) (hR0 : RdL w0 A0 l0) (hL0 : l0.length ≤ c0) (hR1 : RdL w0 A1 l1) (hL1 : l1.length ≤ c1) (hc1 : (l0.length : Int) = (l1.length : Int)) : Nat → Act → World → Prop := fun (s : Nat) a w => St w0 w [] ∧ Frm 26 a [(0, .slice A0 l0.length c0), (1, .slice A1 l1.length c1), (12, .int .i64 (l0.length : Int)), (13, .int .i64 (s : Int))]
abbrev punctualsame_Same_int.B0 (K : Nat) (w0 : World) (l0 : List Int) (A0 : Option Addr) (c0 : Nat) (l1 : List Int) (A1 : Option Addr) (c1 : Nat) (hR0 : RdL w0 A0 l0) (hL0 : l0.length ≤ c0) (hR1 : RdL w0 A1 l1) (hL1 : l1.length ≤ c1) (hc1 : (l0.length : Int) = (l1.length : Int)) : (Unit ⊕ Bool) → Exit → Act → World → Prop := Exits 0 (fun (s : Unit) a w => St w0 w [] ∧ Frm 26 a []) (Rets Try.prog Try.f25 (punctualsame_Same_int.Post w0))
theorem punctualsame_Same_int_r0 (K : Nat) (w0 : World) (l0 : List Int) (A0 : Option Addr) (c0 : Nat) (l1 : List Int) (A1 : Option Addr) (c1 : Nat) (hR0 : RdL w0 A0 l0) (hL0 : l0.length ≤ c0) (hR1 : RdL w0 A1 l1) (hL1 : l1.length ≤ c1) (hc1 : (l0.length : Int) = (l1.length : Int)) (s : Nat) (o : Nat ⊕ (Unit ⊕ Bool)) (h : punctualsame_Same_int.r0 l0 l1 s = some o) (a : Act) (w : World) (hA : punctualsame_Same_int.A0 K w0 l0 A0 c0 l1 A1 c1 hR0 hL0 hR1 hL1 hc1 s a w) (Q : Exit → Act → World → Prop) (hQ : ∀ x a w, Outs (punctualsame_Same_int.A0 K w0 l0 A0 c0 l1 A1 c1 hR0 hL0 hR1 hL1 hc1) (punctualsame_Same_int.B0 K w0 l0 A0 c0 l1 A1 c1 hR0 hL0 hR1 hL1 hc1) o x a w → Q x a w) : (subF Try.f25 [1, 1, 0, 1, 0, 0]).wp Try.prog Q a w := by
  obtain ⟨i1, hs⟩ : ∃ z, z = s := ⟨s, rfl⟩
  subst hs
  obtain ⟨hS, hF⟩ := hA
  replace hS : St w0 w [] := hS
  simp only [punctualsame_Same_int.r0] at h
  refine (?_ : WE Try.prog 26 (subF Try.f25 [1, 1, 0, 1, 0, 0]) Q [(0, .slice A0 l0.length c0), (1, .slice A1 l1.length c1), (12, .int .i64 (l0.length : Int)), (13, .int .i64 (i1 : Int))] w) a hF
  clear hF a
  refine we_seq fun K6 hK6 => ?_
  refine we_region [(0, 0)] rfl ?_
  refine ge_batch [0] (ans := []) (vs := [(14, .bool (decide ((i1 : Int) < (l0.length : Int))))]) (l := []) (by kernel_rfl) trivial ?_
  refine ge_nil fun a hF => hK6 _ _ ?_ a hF
  refine we_seq fun K7 hK7 => ?_
  by_cases hc2 : (i1 : Int) < (l0.length : Int)
  · rw [if_pos hc2] at h
    refine we_known (t := 14) (b := decide ((i1 : Int) < (l0.length : Int))) (v := true) (by kernel_rfl) (decide_eq_true hc2) ?_
    refine we_true (by kernel_rfl) ?_
    refine we_skip fun a hF => hK7 _ _ ?_ a hF
    refine we_seq fun K8 hK8 => ?_
    refine we_block ?_
    refine we_seq fun K9 hK9 => ?_
    refine we_region [(0, 0), (1, 0)] rfl ?_
    refine ge_batch [0, 1] (ans := []) (vs := [(5, .int .i64 (i1 : Int)), (15, .int .i64 (i1 : Int))]) (l := []) (by kernel_rfl) trivial ?_
    refine ge_nil fun a hF => hK9 _ _ ?_ a hF
    refine we_seq fun K10 hK10 => ?_
    refine we_draws (by kernel_rfl) [(0, 0), (1, 0), (2, 0), (3, 0), (4, 0), (5, 0), (6, 0), (7, 0), (8, 0)] (by kernel_rfl) ?_
    have hS1 := hS.drew
    refine ge_batch [0, 1] (ans := []) (vs := [(17, .int .i64 (i1 : Int)), (16, .slice A0 l0.length c0)]) (l := []) (by kernel_rfl) trivial ?_
    rcases hx1 : l0[i1]? with _ | e1
    · rw [hx1] at h; cases h
    rw [hx1] at h
    simp only [] at h
    refine ge_index (d := 18) (ty := 0) (t := 24) (el := 3) (sz := 1) (m := l0.length) (c := c0) (x := (.tmp 16)) (y := (.tmp 17)) (A := A0) (k' := .i64) (j := (i1 : Int)) (jn := i1) (b0 := blkOf A0) (o0 := offOf A0) (by kernel_rfl) (by kernel_rfl) (by kernel_rfl) (by kernel_rfl) (by kernel_rfl) ((hS1.rd hR0).eqSome (pos_of_get hx1)) rfl (lt_of_get hx1) ?_
    refine ge_batch [3, 4, 5] (ans := [.val (.int .i64 e1)]) (vs := [(21, .int .i64 (i1 : Int)), (20, .slice A1 l1.length c1), (19, .int .i64 e1)]) (l := [.loaded ⟨blkOf A0, offOf A0 + i1 * 1, none⟩ (.int .i64 e1)]) (by kernel_rfl) ⟨RdL.cell (j := 0) (hS1.rd hR0) hx1 rfl, trivial⟩ ?_
    rcases hx2 : l1[i1]? with _ | e2
    · rw [hx2] at h; cases h
    rw [hx2] at h
    simp only [] at h
    refine ge_index (d := 22) (ty := 0) (t := 24) (el := 3) (sz := 1) (m := l1.length) (c := c1) (x := (.tmp 20)) (y := (.tmp 21)) (A := A1) (k' := .i64) (j := (i1 : Int)) (jn := i1) (b0 := blkOf A1) (o0 := offOf A1) (by kernel_rfl) (by kernel_rfl) (by kernel_rfl) (by kernel_rfl) (by kernel_rfl) ((hS1.rd hR1).eqSome (pos_of_get hx2)) rfl (lt_of_get hx2) ?_
    refine ge_batch [7, 8] (ans := [.val (.int .i64 e2)]) (vs := [(24, .bool (e1 != e2)), (23, .int .i64 e2)]) (l := [.loaded ⟨blkOf A1, offOf A1 + i1 * 1, none⟩ (.int .i64 e2)]) (by kernel_rfl) ⟨RdL.cell (j := 0) (hS1.rd hR1) hx2 rfl, trivial⟩ ?_
    refine ge_nil fun a hF => hK10 _ _ ?_ a hF
    by_cases hc3 : e1 = e2
    · rw [if_pos hc3] at h
      refine we_known (t := 24) (b := (e1 != e2)) (v := false) (by kernel_rfl) (bne_eq_false_iff_eq.2 hc3) ?_
      refine we_false (by kernel_rfl) ?_
      refine we_skip fun a hF => hK8 _ _ ?_ a hF
      refine we_region [(0, 0), (1, 0)] rfl ?_
      refine ge_addn (d := 25) (ty := 3) (x := (.tmp 13)) (y := (.const (.int .i64 1))) (t := 3) (t2 := 3) (k := .i64) (m := i1) (by kernel_rfl) (by kernel_rfl) (by kernel_rfl) (by have h0 := hR0.small; omega) ?_
      refine ge_batch [1] (ans := []) (vs := [(13, .int .i64 ((i1 + 1 : Nat) : Int))]) (l := []) (by kernel_rfl) trivial ?_
      obtain rfl := Option.some.inj h
      exact ge_nil fun a hF => hQ _ _ _ (Outs.again ⟨hS1, hF.weaken ⟨by kernel_rfl, by kernel_rfl, by kernel_rfl, by kernel_rfl, trivial⟩⟩)
    · rw [if_neg hc3] at h
      refine we_known (t := 24) (b := (e1 != e2)) (v := true) (by kernel_rfl) (bne_iff_ne.2 hc3) ?_
      refine we_true (by kernel_rfl) ?_
      refine we_seq fun K11 hK11 => ?_
      refine we_region [(0, 0)] rfl ?_
      refine ge_batch [0] (ans := []) (vs := [(4, .bool false)]) (l := []) (by kernel_rfl) trivial ?_
      refine ge_nil fun a hF => hK11 _ _ ?_ a hF
      obtain rfl := Option.some.inj h
      exact we_ret fun a hF => hQ _ _ _ (Outs.out nofun (Exits.on ⟨rfl, (post_ret (rs := [.tmp 4]) (ans := []) (vs := [.bool false]) (l := []) rfl (by kernel_rfl) trivial ⟨rfl, hS1⟩) a hF⟩))
  · rw [if_neg hc2] at h
    refine we_known (t := 14) (b := decide ((i1 : Int) < (l0.length : Int))) (v := false) (by kernel_rfl) (decide_eq_false hc2) ?_
    refine we_false (by kernel_rfl) ?_
    obtain rfl := Option.some.inj h
    exact we_exit fun a hF => hQ _ _ _ (Outs.out nofun (Exits.here ⟨hS, hF.weaken trivial⟩))
theorem punctualsame_Same_int_ok (K : Nat) (l0 : List Int) (A0 : Option Addr) (c0 : Nat) (l1 : List Int) (A1 : Option Addr) (c1 : Nat) (w0 : World) (hR0 : RdL w0 A0 l0) (hL0 : l0.length ≤ c0) (hR1 : RdL w0 A1 l1) (hL1 : l1.length ≤ c1) (r : Bool) (h : punctualsame_Same_int.f K l0 l1 = some r) :
    Calls Try.prog 25 #[.slice A0 l0.length c0, .slice A1 l1.length c1] w0 (punctualsame_Same_int.Post w0 r) := by
  have hS := St.start w0
  unfold punctualsame_Same_int.f at h
  refine calls_enter (n := 26) (args := [.slice A0 l0.length c0, .slice A1 l1.length c1]) (fn := Try.f25) rfl rfl rfl rfl ?_
  show WE _ _ _ _ [(0, .slice A0 l0.length c0), (1, .slice A1 l1.length c1)] _
  refine we_seq fun K1 hK1 => ?_
  refine we_region [(0, 0)] rfl ?_
  refine ge_batch [0] (ans := []) (vs := [(4, .bool false)]) (l := []) (by kernel_rfl) trivial ?_
  refine ge_nil fun a hF => hK1 _ _ ?_ a hF
  refine we_seq fun K2 hK2 => ?_
  refine we_seq fun K3 hK3 => ?_
  refine we_region [(0, 0), (1, 0), (2, 0), (3, 0), (4, 0)] rfl ?_
  refine ge_batch [0, 1, 2, 3, 4] (ans := []) (vs := [(10, .bool ((l0.length : Int) != (l1.length : Int))), (9, .int .i64 (l1.length : Int)), (8, .slice A1 l1.length c1), (7, .int .i64 (l0.length : Int)), (6, .slice A0 l0.length c0)]) (l := []) (by kernel_rfl) trivial ?_
  refine ge_nil fun a hF => hK3 _ _ ?_ a hF
  by_cases hc1 : (l0.length : Int) = (l1.length : Int)
  · rw [if_pos hc1] at h
    refine we_known (t := 10) (b := ((l0.length : Int) != (l1.length : Int))) (v := false) (by kernel_rfl) (bne_eq_false_iff_eq.2 hc1) ?_
    refine we_false (by kernel_rfl) ?_
    refine we_skip fun a hF => hK2 _ _ ?_ a hF
    refine we_seq fun K4 hK4 => ?_
    refine we_seq fun K5 hK5 => ?_
    refine we_region [(0, 0), (1, 0), (2, 0)] rfl ?_
    refine ge_batch [0, 1, 2] (ans := []) (vs := [(13, .int .i64 0), (12, .int .i64 (l0.length : Int)), (11, .slice A0 l0.length c0)]) (l := []) (by kernel_rfl) trivial ?_
    refine ge_nil fun a hF => hK5 _ _ ?_ a hF
    refine we_block ?_
    rcases hq1 : iter (punctualsame_Same_int.r0 l0 l1) K 0 with _ | (_ | rr1)
    · rw [hq1] at h; cases h
    · rw [hq1] at h
      simp only [] at h
      refine we_iter (A := punctualsame_Same_int.A0 K w0 l0 A0 c0 l1 A1 c1 hR0 hL0 hR1 hL1 hc1) (B := punctualsame_Same_int.B0 K w0 l0 A0 c0 l1 A1 c1 hR0 hL0 hR1 hL1 hc1) hq1 (fun a hF => ⟨hS, hF.weaken ⟨by kernel_rfl, by kernel_rfl, by kernel_rfl, by kernel_rfl, trivial⟩⟩) (fun s o hf a w hA Q hQ => punctualsame_Same_int_r0 K w0 l0 A0 c0 l1 A1 c1 hR0 hL0 hR1 hL1 hc1 s o hf a w hA Q hQ) ?_
      rintro _ a w1 _ ⟨rfl, hS2, hF⟩
      replace hS2 : St w0 w1 [] := hS2
      refine hK4 [] w1 ?_ a hF
      refine we_seq fun K12 hK12 => ?_
      refine we_region [(0, 0)] rfl ?_
      refine ge_batch [0] (ans := []) (vs := [(4, .bool true)]) (l := []) (by kernel_rfl) trivial ?_
      refine ge_nil fun a hF => hK12 _ _ ?_ a hF
      obtain rfl := Option.some.inj h
      exact we_ret (post_ret (rs := [.tmp 4]) (ans := []) (vs := [.bool true]) (l := []) rfl (by kernel_rfl) trivial ⟨rfl, hS2⟩)
    · rw [hq1] at h
      simp only [] at h
      refine we_iter (A := punctualsame_Same_int.A0 K w0 l0 A0 c0 l1 A1 c1 hR0 hL0 hR1 hL1 hc1) (B := punctualsame_Same_int.B0 K w0 l0 A0 c0 l1 A1 c1 hR0 hL0 hR1 hL1 hc1) hq1 (fun a hF => ⟨hS, hF.weaken ⟨by kernel_rfl, by kernel_rfl, by kernel_rfl, by kernel_rfl, trivial⟩⟩) (fun s o hf a w hA Q hQ => punctualsame_Same_int_r0 K w0 l0 A0 c0 l1 A1 c1 hR0 hL0 hR1 hL1 hc1 s o hf a w hA Q hQ) ?_
      rintro _ a w1 _ ⟨rfl, hb⟩
      obtain rfl := Option.some.inj h
      exact hb
  · rw [if_neg hc1] at h
    refine we_known (t := 10) (b := ((l0.length : Int) != (l1.length : Int))) (v := true) (by kernel_rfl) (bne_iff_ne.2 hc1) ?_
    refine we_true (by kernel_rfl) ?_
    refine we_seq fun K13 hK13 => ?_
    refine we_region [(0, 0)] rfl ?_
    refine ge_batch [0] (ans := []) (vs := [(4, .bool false)]) (l := []) (by kernel_rfl) trivial ?_
    refine ge_nil fun a hF => hK13 _ _ ?_ a hF
    obtain rfl := Option.some.inj h
    exact we_ret (post_ret (rs := [.tmp 4]) (ans := []) (vs := [.bool false]) (l := []) rfl (by kernel_rfl) trivial ⟨rfl, hS⟩)

/-! punctual/punctuallaw.runs -/
abbrev runs.Post (w0 : World) (r : Bool) (e : Ending) (w : World) : Prop := e = .returned (.bool r) ∧ St w0 w []
def runs.f (K : Nat) : Option Bool :=
  match sched_Play.f K ([(⟨0, 0, 3, 9, 1⟩ : SJob), (⟨0, 1, 1, 3, 2⟩ : SJob)] : List SJob) 1 true 5 with
  | none => none
  | some r1 =>
    match sched_Late.f K ([(⟨0, 0, 3, 9, 1⟩ : SJob), (⟨0, 1, 1, 3, 2⟩ : SJob)] : List SJob) r1.1.Runs r1.1.Ends with
    | none => none
    | some r2 =>
      if r1.2.Code = 0 then
        if r2.2.Code = 0 then
          match punctualsame_Same_int.f K r1.1.Runs ([0, 1, 0, 0, (-1)] : List Int) with
          | none => none
          | some r3 =>
            if r3 = true then
              match punctualsame_Same_int.f K r1.1.Ends ([4, 2] : List Int) with
              | none => none
              | some r4 =>
                if r4 = true then
                  some ((r2.1.length : Int) == 0)
                else
                  some false
            else
              some false
        else
          some false
      else
        some false
theorem runs_ok (K : Nat)  (w0 : World) (r : Bool) (h : runs.f K = some r) :
    Calls Try.prog 8 #[] w0 (runs.Post w0 r) := by
  have hS := St.start w0
  unfold runs.f at h
  refine calls_enter (n := 45) (args := []) (fn := Try.f8) rfl rfl rfl rfl ?_
  show WE _ _ _ _ [] _
  refine we_seq fun K1 hK1 => ?_
  refine we_region [(0, 0)] rfl ?_
  refine ge_batch [0] (ans := []) (vs := [(0, .bool false)]) (l := []) (by kernel_rfl) trivial ?_
  refine ge_nil fun a hF => hK1 _ _ ?_ a hF
  refine we_seq fun K2 hK2 => ?_
  refine we_region [(0, 0), (1, 0), (2, 1), (3, 0)] rfl ?_
  refine ge_batch [0, 1] (ans := []) (vs := [(7, .agg #[.int .i64 0, .int .i64 1, .int .i64 1, .int .i64 3, .int .i64 2]), (6, .agg #[.int .i64 0, .int .i64 0, .int .i64 3, .int .i64 9, .int .i64 1])]) (l := []) (by kernel_rfl) trivial ?_
  refine ge_new (d := some 8) (o := .cells #[.int .i64 0, .int .i64 0, .int .i64 3, .int .i64 9, .int .i64 1, .int .i64 0, .int .i64 1, .int .i64 1, .int .i64 3, .int .i64 2] 59) (v := fun b => .slice (some ⟨b, 0, none⟩) 2 2) hS (fun b => by kernel_rfl) fun b1 w1 hx1 hS1 => ?_
  refine ge_batch [3] (ans := []) (vs := [(1, .slice (some ⟨b1, 0, none⟩) 2 2)]) (l := []) (by kernel_rfl) trivial ?_
  refine ge_nil fun a hF => hK2 _ _ ?_ a hF
  refine we_seq fun K3 hK3 => ?_
  refine we_region [(0, 0), (1, 1), (2, 0), (3, 0), (4, 0), (5, 1), (6, 1), (7, 2), (8, 2)] rfl ?_
  rcases hq1 : sched_Play.f K ([(⟨0, 0, 3, 9, 1⟩ : SJob), (⟨0, 1, 1, 3, 2⟩ : SJob)] : List SJob) 1 true 5 with _ | r1
  · rw [hq1] at h; cases h
  rw [hq1] at h
  simp only [] at h
  refine ge_batch [0] (ans := []) (vs := [(10, .slice (some ⟨b1, 0, none⟩) 2 2)]) (l := []) (by kernel_rfl) trivial ?_
  refine ge_call (d := some 11) (f := 13) (args := #[.slice (some ⟨b1, 0, none⟩) 2 2, .int .i64 1, .bool true, .int .i64 5]) (by kernel_rfl) (sched_Play_ok K ([(⟨0, 0, 3, 9, 1⟩ : SJob), (⟨0, 1, 1, 3, 2⟩ : SJob)] : List SJob) (some ⟨b1, 0, none⟩) 2 1 true 5 _ (hS1.rdBlk 0 ([(⟨0, 0, 3, 9, 1⟩ : SJob), (⟨0, 1, 1, 3, 2⟩ : SJob)] : List SJob) rfl rfl rfl) (Nat.le_refl _) _ hq1) ?_
  rintro _ w2 ⟨v1, v2, rfl, hS2⟩
  refine ⟨_, rfl, hS2.below, ?_⟩
  have hS3 := hS1.call hS2
  refine ge_batch [2, 3, 4] (ans := []) (vs := [(13, .agg #[.int .i64 r1.2.Code, .int .i64 r1.2.At]), (12, .agg #[v1, v2]), (9, .tuple #[.agg #[v1, v2], .agg #[.int .i64 r1.2.Code, .int .i64 r1.2.At]])]) (l := []) (by kernel_rfl) trivial ?_
  refine ge_new (d := some 2) (o := .cells #[.slice none 0 0, .slice none 0 0] 37) (v := fun b => .pointer (some ⟨b, 0, none⟩)) hS3 (fun b => by kernel_rfl) fun b2 w3 hx2 hS4 => ?_
  refine ge_new (d := some 3) (o := .cells #[.int .i64 0, .int .i64 0] 29) (v := fun b => .pointer (some ⟨b, 0, none⟩)) hS4 (fun b => by kernel_rfl) fun b3 w4 hx3 hS5 => ?_
  obtain ⟨Z1, cz1, rfl⟩ := hS5.open 2 rfl
  obtain ⟨Z2, cz2, rfl⟩ := hS5.open 3 rfl
  have hS6 := hS5.bring 1 rfl
  refine ge_set (b := b2) (j := 0) (cs := #[.slice none 0 0, .slice none 0 0]) (t := 37) (vs := [(.slice Z1 r1.1.Runs.length cz1), (.slice Z2 r1.1.Ends.length cz2)]) hS6 (by kernel_rfl) rfl rfl fun w5 hS7 => ?_
  have hS8 : St w0 w5 [Own.blk b2 (.cells #[(.slice Z1 r1.1.Runs.length cz1), (.slice Z2 r1.1.Ends.length cz2)] 37 (0, 0)), Own.blk b3 (.cells #[.int .i64 0, .int .i64 0] 29 (0, 0)), Own.of (.slice Z1 r1.1.Runs.length cz1) 3 r1.1.Runs, Own.of (.slice Z2 r1.1.Ends.length cz2) 3 r1.1.Ends, Own.blk b1 (.cells #[.int .i64 0, .int .i64 0, .int .i64 3, .int .i64 9, .int .i64 1, .int .i64 0, .int .i64 1, .int .i64 1, .int .i64 3, .int .i64 2] 59 (0, 0))] := hS7
  have hS9 := hS8.bring 1 rfl
  refine ge_set (b := b3) (j := 0) (cs := #[.int .i64 0, .int .i64 0]) (t := 29) (vs := [.int .i64 r1.2.Code, .int .i64 r1.2.At]) hS9 (by kernel_rfl) rfl rfl fun w6 hS10 => ?_
  have hS11 : St w0 w6 [Own.blk b3 (.cells #[.int .i64 r1.2.Code, .int .i64 r1.2.At] 29 (0, 0)), Own.blk b2 (.cells #[(.slice Z1 r1.1.Runs.length cz1), (.slice Z2 r1.1.Ends.length cz2)] 37 (0, 0)), Own.of (.slice Z1 r1.1.Runs.length cz1) 3 r1.1.Runs, Own.of (.slice Z2 r1.1.Ends.length cz2) 3 r1.1.Ends, Own.blk b1 (.cells #[.int .i64 0, .int .i64 0, .int .i64 3, .int .i64 9, .int .i64 1, .int .i64 0, .int .i64 1, .int .i64 1, .int .i64 3, .int .i64 2] 59 (0, 0))] := hS10
  refine ge_nil fun a hF => hK3 _ _ ?_ a hF
  refine we_seq fun K4 hK4 => ?_
  refine we_region [(0, 0), (1, 0), (2, 1), (3, 0), (4, 0), (5, 0), (6, 1), (7, 0), (8, 2)] rfl ?_
  rcases hq2 : sched_Late.f K ([(⟨0, 0, 3, 9, 1⟩ : SJob), (⟨0, 1, 1, 3, 2⟩ : SJob)] : List SJob) r1.1.Runs r1.1.Ends with _ | r2
  · rw [hq2] at h; cases h
  rw [hq2] at h
  simp only [] at h
  refine ge_batch [0, 1] (ans := [.val ((.slice Z1 r1.1.Runs.length cz1)), .val ((.slice Z2 r1.1.Ends.length cz2))]) (vs := [(16, .agg #[(.slice Z1 r1.1.Runs.length cz1), (.slice Z2 r1.1.Ends.length cz2)]), (15, .slice (some ⟨b1, 0, none⟩) 2 2)]) (l := [.loaded ⟨b2, 0, none⟩ ((.slice Z1 r1.1.Runs.length cz1)), .loaded ⟨b2, 1, none⟩ ((.slice Z2 r1.1.Ends.length cz2))]) (by kernel_rfl) ⟨hS11.cell 1 rfl rfl, hS11.cell 1 rfl rfl, trivial⟩ ?_
  refine ge_call (d := some 17) (f := 14) (args := #[.slice (some ⟨b1, 0, none⟩) 2 2, .agg #[(.slice Z1 r1.1.Runs.length cz1), (.slice Z2 r1.1.Ends.length cz2)]]) (by kernel_rfl) (sched_Late_ok K ([(⟨0, 0, 3, 9, 1⟩ : SJob), (⟨0, 1, 1, 3, 2⟩ : SJob)] : List SJob) (some ⟨b1, 0, none⟩) 2 r1.1.Runs Z1 cz1 r1.1.Ends Z2 cz2 _ (hS11.rdBlk 4 ([(⟨0, 0, 3, 9, 1⟩ : SJob), (⟨0, 1, 1, 3, 2⟩ : SJob)] : List SJob) rfl rfl rfl) (Nat.le_refl _) (hS11.rdAt 2 rfl) (hS11.capAt 2 rfl) (hS11.rdAt 3 rfl) (hS11.capAt 3 rfl) _ hq2) ?_
  rintro _ w7 ⟨v3, rfl, hS12⟩
  refine ⟨_, rfl, hS12.below, ?_⟩
  have hS13 := hS11.call hS12
  refine ge_batch [3, 4, 5] (ans := []) (vs := [(19, .agg #[.int .i64 r2.2.Code, .int .i64 r2.2.At]), (18, v3), (14, .tuple #[v3, .agg #[.int .i64 r2.2.Code, .int .i64 r2.2.At]])]) (l := []) (by kernel_rfl) trivial ?_
  refine ge_new (d := some 5) (o := .cells #[.int .i64 0, .int .i64 0] 29) (v := fun b => .pointer (some ⟨b, 0, none⟩)) hS13 (fun b => by kernel_rfl) fun b4 w8 hx4 hS14 => ?_
  refine ge_batch [7] (ans := []) (vs := [(4, v3)]) (l := []) (by kernel_rfl) trivial ?_
  refine ge_set (b := b4) (j := 0) (cs := #[.int .i64 0, .int .i64 0]) (t := 29) (vs := [.int .i64 r2.2.Code, .int .i64 r2.2.At]) hS14 (by kernel_rfl) rfl rfl fun w9 hS15 => ?_
  have hS16 : St w0 w9 [Own.blk b4 (.cells #[.int .i64 r2.2.Code, .int .i64 r2.2.At] 29 (0, 0)), Own.of v3 3 r2.1, Own.blk b3 (.cells #[.int .i64 r1.2.Code, .int .i64 r1.2.At] 29 (0, 0)), Own.blk b2 (.cells #[(.slice Z1 r1.1.Runs.length cz1), (.slice Z2 r1.1.Ends.length cz2)] 37 (0, 0)), Own.of (.slice Z1 r1.1.Runs.length cz1) 3 r1.1.Runs, Own.of (.slice Z2 r1.1.Ends.length cz2) 3 r1.1.Ends, Own.blk b1 (.cells #[.int .i64 0, .int .i64 0, .int .i64 3, .int .i64 9, .int .i64 1, .int .i64 0, .int .i64 1, .int .i64 1, .int .i64 3, .int .i64 2] 59 (0, 0))] := hS15
  refine ge_nil fun a hF => hK4 _ _ ?_ a hF
  refine we_seq fun K5 hK5 => ?_
  refine we_region [(0, 0), (1, 0), (2, 0), (3, 0), (4, 0), (5, 0), (6, 0), (7, 0), (8, 0), (9, 0), (10, 0), (11, 1), (12, 1), (13, 0), (14, 0), (15, 0), (16, 0), (17, 1), (18, 1), (19, 0), (20, 0), (21, 0), (22, 0), (23, 0), (24, 0), (25, 0)] rfl ?_
  refine ge_batch [0, 1, 2, 3] (ans := [.val (.int .i64 r1.2.Code)]) (vs := [(23, .bool (r1.2.Code == 0)), (22, .bool (r1.2.Code == 0)), (21, .int .i64 r1.2.Code), (20, .pointer (some ⟨b3, 0, none⟩))]) (l := [.loaded ⟨b3, 0, none⟩ (.int .i64 r1.2.Code)]) (by kernel_rfl) ⟨hS16.cell 2 rfl rfl, trivial⟩ ?_
  by_cases hc1 : r1.2.Code = 0
  · rw [if_pos hc1] at h
    refine ge_known (t := 23) (b := (r1.2.Code == 0)) (c := true) (by kernel_rfl) (beq_iff_eq.2 hc1) ?_
    refine ge_batch [4, 5, 6, 7, 8] (ans := [.val (.int .i64 r2.2.Code)]) (vs := [(28, .bool (r2.2.Code == 0)), (27, .bool (r2.2.Code == 0)), (26, .bool (r2.2.Code == 0)), (25, .int .i64 r2.2.Code), (24, .pointer (some ⟨b4, 0, none⟩))]) (l := [.loaded ⟨b4, 0, none⟩ (.int .i64 r2.2.Code)]) (by kernel_rfl) ⟨hS16.cell 0 rfl rfl, trivial⟩ ?_
    by_cases hc2 : r2.2.Code = 0
    · rw [if_pos hc2] at h
      refine ge_known (t := 28) (b := (r2.2.Code == 0)) (c := true) (by kernel_rfl) (beq_iff_eq.2 hc2) ?_
      refine ge_batch [9, 10] (ans := [.val ((.slice Z1 r1.1.Runs.length cz1))]) (vs := [(30, (.slice Z1 r1.1.Runs.length cz1)), (29, .pointer (some ⟨b2, 0, none⟩))]) (l := [.loaded ⟨b2, 0, none⟩ ((.slice Z1 r1.1.Runs.length cz1))]) (by kernel_rfl) ⟨hS16.cell 3 rfl rfl, trivial⟩ ?_
      refine ge_new (d := some 31) (o := .cells #[.int .i64 0, .int .i64 1, .int .i64 0, .int .i64 0, .int .i64 (-1)] 3) (v := fun b => .slice (some ⟨b, 0, none⟩) 5 5) hS16 (fun b => by kernel_rfl) fun b5 w10 hx5 hS17 => ?_
      rcases hq3 : punctualsame_Same_int.f K r1.1.Runs ([0, 1, 0, 0, (-1)] : List Int) with _ | r3
      · rw [hq3] at h; cases h
      rw [hq3] at h
      simp only [] at h
      refine ge_call (d := some 32) (f := 25) (args := #[(.slice Z1 r1.1.Runs.length cz1), .slice (some ⟨b5, 0, none⟩) 5 5]) (by kernel_rfl) (punctualsame_Same_int_ok K r1.1.Runs Z1 cz1 ([0, 1, 0, 0, (-1)] : List Int) (some ⟨b5, 0, none⟩) 5 _ (hS17.rdAt 5 rfl) (hS17.capAt 5 rfl) (hS17.rdBlk 0 ([0, 1, 0, 0, (-1)] : List Int) rfl rfl rfl) (Nat.le_refl _) _ hq3) ?_
      rintro _ w11 ⟨rfl, hS18⟩
      refine ⟨_, rfl, hS18.below, ?_⟩
      have hS19 := hS17.call hS18
      refine ge_batch [13, 14] (ans := []) (vs := [(34, .bool r3), (33, .bool r3)]) (l := []) (by kernel_rfl) trivial ?_
      by_cases hc3 : r3 = true
      · rw [if_pos hc3] at h
        refine ge_known (t := 34) (b := r3) (c := true) (by kernel_rfl) hc3 ?_
        refine ge_batch [15, 16] (ans := [.val ((.slice Z2 r1.1.Ends.length cz2))]) (vs := [(36, (.slice Z2 r1.1.Ends.length cz2)), (35, .pointer (some ⟨b2, 1, none⟩))]) (l := [.loaded ⟨b2, 1, none⟩ ((.slice Z2 r1.1.Ends.length cz2))]) (by kernel_rfl) ⟨hS19.cell 4 rfl rfl, trivial⟩ ?_
        refine ge_new (d := some 37) (o := .cells #[.int .i64 4, .int .i64 2] 3) (v := fun b => .slice (some ⟨b, 0, none⟩) 2 2) hS19 (fun b => by kernel_rfl) fun b6 w12 hx6 hS20 => ?_
        rcases hq4 : punctualsame_Same_int.f K r1.1.Ends ([4, 2] : List Int) with _ | r4
        · rw [hq4] at h; cases h
        rw [hq4] at h
        simp only [] at h
        refine ge_call (d := some 38) (f := 25) (args := #[(.slice Z2 r1.1.Ends.length cz2), .slice (some ⟨b6, 0, none⟩) 2 2]) (by kernel_rfl) (punctualsame_Same_int_ok K r1.1.Ends Z2 cz2 ([4, 2] : List Int) (some ⟨b6, 0, none⟩) 2 _ (hS20.rdAt 7 rfl) (hS20.capAt 7 rfl) (hS20.rdBlk 0 ([4, 2] : List Int) rfl rfl rfl) (Nat.le_refl _) _ hq4) ?_
        rintro _ w13 ⟨rfl, hS21⟩
        refine ⟨_, rfl, hS21.below, ?_⟩
        have hS22 := hS20.call hS21
        refine ge_batch [19, 20] (ans := []) (vs := [(40, .bool r4), (39, .bool r4)]) (l := []) (by kernel_rfl) trivial ?_
        by_cases hc4 : r4 = true
        · rw [if_pos hc4] at h
          refine ge_known (t := 40) (b := r4) (c := true) (by kernel_rfl) hc4 ?_
          refine ge_batch [21] (ans := []) (vs := [(41, v3)]) (l := []) (by kernel_rfl) trivial ?_
          obtain ⟨Z3, cz3, rfl⟩ := hS22.open 3 rfl
          refine ge_batch [22, 23, 24, 25] (ans := []) (vs := [(0, .bool ((r2.1.length : Int) == 0)), (44, .bool ((r2.1.length : Int) == 0)), (43, .bool ((r2.1.length : Int) == 0)), (42, .int .i64 (r2.1.length : Int))]) (l := []) (by kernel_rfl) trivial ?_
          refine ge_nil fun a hF => hK5 _ _ ?_ a hF
          have hS23 := hS22.takeN 0
          obtain rfl := Option.some.inj h
          exact we_ret (post_ret (rs := [.tmp 0]) (ans := []) (vs := [.bool ((r2.1.length : Int) == 0)]) (l := []) rfl (by kernel_rfl) trivial ⟨rfl, hS23⟩)
        · rw [if_neg hc4] at h
          refine ge_known (t := 40) (b := r4) (c := false) (by kernel_rfl) (Bool.eq_false_iff.2 hc4) ?_
          refine ge_batch [21, 22, 23, 24, 25] (ans := []) (vs := [(0, .bool false), (44, .bool false), (43, undef), (42, undef), (41, undef)]) (l := []) (by kernel_rfl) trivial ?_
          refine ge_nil fun a hF => hK5 _ _ ?_ a hF
          have hS24 := hS22.takeN 0
          obtain rfl := Option.some.inj h
          exact we_ret (post_ret (rs := [.tmp 0]) (ans := []) (vs := [.bool false]) (l := []) rfl (by kernel_rfl) trivial ⟨rfl, hS24⟩)
      · rw [if_neg hc3] at h
        refine ge_known (t := 34) (b := r3) (c := false) (by kernel_rfl) (Bool.eq_false_iff.2 hc3) ?_
        refine ge_batch [15, 16] (ans := []) (vs := [(36, undef), (35, undef)]) (l := []) (by kernel_rfl) trivial ?_
        refine ge_off rfl rfl rfl (by kernel_rfl) ?_
        refine ge_off rfl rfl rfl (by kernel_rfl) ?_
        refine ge_batch [19, 20, 21, 22, 23, 24, 25] (ans := []) (vs := [(0, .bool false), (44, .bool false), (43, undef), (42, undef), (41, undef), (40, .bool false), (39, .bool false)]) (l := []) (by kernel_rfl) trivial ?_
        refine ge_nil fun a hF => hK5 _ _ ?_ a hF
        have hS25 := hS19.takeN 0
        obtain rfl := Option.some.inj h
        exact we_ret (post_ret (rs := [.tmp 0]) (ans := []) (vs := [.bool false]) (l := []) rfl (by kernel_rfl) trivial ⟨rfl, hS25⟩)
    · rw [if_neg hc2] at h
      refine ge_known (t := 28) (b := (r2.2.Code == 0)) (c := false) (by kernel_rfl) (beq_eq_false_iff_ne.2 hc2) ?_
      refine ge_batch [9, 10] (ans := []) (vs := [(30, undef), (29, undef)]) (l := []) (by kernel_rfl) trivial ?_
      refine ge_off rfl rfl rfl (by kernel_rfl) ?_
      refine ge_off rfl rfl rfl (by kernel_rfl) ?_
      refine ge_batch [13, 14, 15, 16] (ans := []) (vs := [(36, undef), (35, undef), (34, .bool false), (33, .bool false)]) (l := []) (by kernel_rfl) trivial ?_
      refine ge_off rfl rfl rfl (by kernel_rfl) ?_
      refine ge_off rfl rfl rfl (by kernel_rfl) ?_
      refine ge_batch [19, 20, 21, 22, 23, 24, 25] (ans := []) (vs := [(0, .bool false), (44, .bool false), (43, undef), (42, undef), (41, undef), (40, .bool false), (39, .bool false)]) (l := []) (by kernel_rfl) trivial ?_
      refine ge_nil fun a hF => hK5 _ _ ?_ a hF
      have hS26 := hS16.takeN 0
      obtain rfl := Option.some.inj h
      exact we_ret (post_ret (rs := [.tmp 0]) (ans := []) (vs := [.bool false]) (l := []) rfl (by kernel_rfl) trivial ⟨rfl, hS26⟩)
  · rw [if_neg hc1] at h
    refine ge_known (t := 23) (b := (r1.2.Code == 0)) (c := false) (by kernel_rfl) (beq_eq_false_iff_ne.2 hc1) ?_
    refine ge_batch [4, 5, 6, 7, 8, 9, 10] (ans := []) (vs := [(30, undef), (29, undef), (28, .bool false), (27, .bool false), (26, undef), (25, undef), (24, undef)]) (l := []) (by kernel_rfl) trivial ?_
    refine ge_off rfl rfl rfl (by kernel_rfl) ?_
    refine ge_off rfl rfl rfl (by kernel_rfl) ?_
    refine ge_batch [13, 14, 15, 16] (ans := []) (vs := [(36, undef), (35, undef), (34, .bool false), (33, .bool false)]) (l := []) (by kernel_rfl) trivial ?_
    refine ge_off rfl rfl rfl (by kernel_rfl) ?_
    refine ge_off rfl rfl rfl (by kernel_rfl) ?_
    refine ge_batch [19, 20, 21, 22, 23, 24, 25] (ans := []) (vs := [(0, .bool false), (44, .bool false), (43, undef), (42, undef), (41, undef), (40, .bool false), (39, .bool false)]) (l := []) (by kernel_rfl) trivial ?_
    refine ge_nil fun a hF => hK5 _ _ ?_ a hF
    have hS27 := hS16.takeN 0
    obtain rfl := Option.some.inj h
    exact we_ret (post_ret (rs := [.tmp 0]) (ans := []) (vs := [.bool false]) (l := []) rfl (by kernel_rfl) trivial ⟨rfl, hS27⟩)

/-! punctual/punctualref.F -/
abbrev punctualref_F.Post (w0 : World) (r : SFault) (e : Ending) (w : World) : Prop := e = .returned (.agg #[.int .i64 r.Code, .int .i64 r.At]) ∧ St w0 w []
def punctualref_F.f (x0 : Int) (x1 : Int) : SFault :=
  (⟨x0, x1⟩ : SFault)
theorem punctualref_F_ok (x0 : Int) (x1 : Int) (w0 : World) (r : SFault) (h : punctualref_F.f x0 x1 = r) :
    Calls Try.prog 39 #[.int .i64 x0, .int .i64 x1] w0 (punctualref_F.Post w0 r) := by
  have hS := St.start w0
  unfold punctualref_F.f at h
  refine calls_enter (n := 8) (args := [.int .i64 x0, .int .i64 x1]) (fn := Try.f39) rfl rfl rfl rfl ?_
  show WE _ _ _ _ [(0, .int .i64 x0), (1, .int .i64 x1)] _
  refine we_seq fun K1 hK1 => ?_
  refine we_region [(0, 1)] rfl ?_
  refine ge_new (d := some 4) (o := .cells #[.int .i64 0, .int .i64 0] 29) (v := fun b => .pointer (some ⟨b, 0, none⟩)) hS (fun b => by kernel_rfl) fun b1 w1 hx1 hS1 => ?_
  refine ge_nil fun a hF => hK1 _ _ ?_ a hF
  refine we_seq fun K2 hK2 => ?_
  refine we_region [(0, 0), (1, 0), (2, 0), (3, 2)] rfl ?_
  refine ge_batch [0, 1, 2] (ans := []) (vs := [(7, .agg #[.int .i64 x0, .int .i64 x1]), (6, .int .i64 x1), (5, .int .i64 x0)]) (l := []) (by kernel_rfl) trivial ?_
  refine ge_set (b := b1) (j := 0) (cs := #[.int .i64 0, .int .i64 0]) (t := 29) (vs := [.int .i64 x0, .int .i64 x1]) hS1 (by kernel_rfl) rfl rfl fun w2 hS2 => ?_
  have hS3 : St w0 w2 [Own.blk b1 (.cells #[.int .i64 x0, .int .i64 x1] 29 (0, 0))] := hS2
  refine ge_nil fun a hF => hK2 _ _ ?_ a hF
  have hS4 := hS3.takeN 0
  subst h
  exact we_ret (post_ret (rs := [.cell 4 29]) (ans := [.val (.int .i64 x0), .val (.int .i64 x1)]) (vs := [.agg #[.int .i64 x0, .int .i64 x1]]) (l := [.loaded ⟨b1, 0, none⟩ (.int .i64 x0), .loaded ⟨b1, 1, none⟩ (.int .i64 x1)]) rfl (by kernel_rfl) ⟨hS3.cell 0 rfl rfl, hS3.cell 0 rfl rfl, trivial⟩ ⟨rfl, hS4⟩)

/-! punctual/punctualref.CheckJobs -/
abbrev punctualref_CheckJobs.Post (w0 : World) (r : SFault) (e : Ending) (w : World) : Prop := e = .returned (.agg #[.int .i64 r.Code, .int .i64 r.At]) ∧ St w0 w []
def punctualref_CheckJobs.r0 (l0 : List SJob) : Nat → Option (Nat ⊕ (Unit ⊕ SFault))
  | i1 =>
    if (i1 : Int) < (l0.length : Int) then
      match l0[i1]? with
      | none => none
      | some e1 =>
        if e1.At < 0 then
          some (.inr (.inr (punctualref_F.f 3 (i1 : Int))))
        else
          if e1.At > 60000 then
            some (.inr (.inr (punctualref_F.f 3 (i1 : Int))))
          else
            if e1.C < 1 then
              some (.inr (.inr (punctualref_F.f 3 (i1 : Int))))
            else
              if e1.C > 10000 then
                some (.inr (.inr (punctualref_F.f 3 (i1 : Int))))
              else
                if e1.Due < 0 then
                  some (.inr (.inr (punctualref_F.f 3 (i1 : Int))))
                else
                  if e1.Due > 80000 then
                    some (.inr (.inr (punctualref_F.f 3 (i1 : Int))))
                  else
                    some (.inl (i1 + 1))
    else
      some (.inr (.inl ()))
def punctualref_CheckJobs.f (K : Nat) (l0 : List SJob) : Option SFault :=
  if (l0.length : Int) > 4000 then
    some (punctualref_F.f 2 0)
  else
    match iter (punctualref_CheckJobs.r0 l0) K 0 with
    | none => none
    | some (.inl _) =>
      some (⟨0, 0⟩ : SFault)
    | some (.inr rr1) =>
      some rr1
abbrev punctualref_CheckJobs.A0 (K : Nat) (w0 : World) (l0 : List SJob) (A0 : Option Addr) (c0 : Nat) (hR0 : RdL w0 A0 l0) (hL0 : l0.length ≤ c0) (b1 : Nat) (hc1 : ¬ ((l0.length : Int) > 4000)) : Nat → Act → World → Prop := fun (s : Nat) a w => St w0 w [Own.blk b1 (.cells #[.int .i64 0, .int .i64 0] 29 (0, 0))] ∧ Frm 48 a [(2, .pointer (some ⟨b1, 0, none⟩)), (9, .slice A0 l0.length c0), (10, .int .i64 (l0.length : Int)), (11, .int .i64 (s : Int))]
abbrev punctualref_CheckJobs.B0 (K : Nat) (w0 : World) (l0 : List SJob) (A0 : Option Addr) (c0 : Nat) (hR0 : RdL w0 A0 l0) (hL0 : l0.length ≤ c0) (b1 : Nat) (hc1 : ¬ ((l0.length : Int) > 4000)) : (Unit ⊕ SFault) → Exit → Act → World → Prop := Exits 0 (fun (s : Unit) a w => St w0 w [Own.blk b1 (.cells #[.int .i64 0, .int .i64 0] 29 (0, 0))] ∧ Frm 48 a [(2, .pointer (some ⟨b1, 0, none⟩))]) (Rets Try.prog Try.f22 (punctualref_CheckJobs.Post w0))
theorem punctualref_CheckJobs_r0 (K : Nat) (w0 : World) (l0 : List SJob) (A0 : Option Addr) (c0 : Nat) (hR0 : RdL w0 A0 l0) (hL0 : l0.length ≤ c0) (b1 : Nat) (hc1 : ¬ ((l0.length : Int) > 4000)) (s : Nat) (o : Nat ⊕ (Unit ⊕ SFault)) (h : punctualref_CheckJobs.r0 l0 s = some o) (a : Act) (w : World) (hA : punctualref_CheckJobs.A0 K w0 l0 A0 c0 hR0 hL0 b1 hc1 s a w) (Q : Exit → Act → World → Prop) (hQ : ∀ x a w, Outs (punctualref_CheckJobs.A0 K w0 l0 A0 c0 hR0 hL0 b1 hc1) (punctualref_CheckJobs.B0 K w0 l0 A0 c0 hR0 hL0 b1 hc1) o x a w → Q x a w) : (subF Try.f22 [1, 1, 0, 1, 0, 0]).wp Try.prog Q a w := by
  obtain ⟨i1, hs⟩ : ∃ z, z = s := ⟨s, rfl⟩
  subst hs
  obtain ⟨hS, hF⟩ := hA
  replace hS : St w0 w [Own.blk b1 (.cells #[.int .i64 0, .int .i64 0] 29 (0, 0))] := hS
  simp only [punctualref_CheckJobs.r0] at h
  refine (?_ : WE Try.prog 48 (subF Try.f22 [1, 1, 0, 1, 0, 0]) Q [(2, .pointer (some ⟨b1, 0, none⟩)), (9, .slice A0 l0.length c0), (10, .int .i64 (l0.length : Int)), (11, .int .i64 (i1 : Int))] w) a hF
  clear hF a
  refine we_seq fun K7 hK7 => ?_
  refine we_region [(0, 0)] rfl ?_
  refine ge_batch [0] (ans := []) (vs := [(12, .bool (decide ((i1 : Int) < (l0.length : Int))))]) (l := []) (by kernel_rfl) trivial ?_
  refine ge_nil fun a hF => hK7 _ _ ?_ a hF
  refine we_seq fun K8 hK8 => ?_
  by_cases hc2 : (i1 : Int) < (l0.length : Int)
  · rw [if_pos hc2] at h
    refine we_known (t := 12) (b := decide ((i1 : Int) < (l0.length : Int))) (v := true) (by kernel_rfl) (decide_eq_true hc2) ?_
    refine we_true (by kernel_rfl) ?_
    refine we_skip fun a hF => hK8 _ _ ?_ a hF
    refine we_seq fun K9 hK9 => ?_
    refine we_block ?_
    refine we_seq fun K10 hK10 => ?_
    refine we_region [(0, 0), (1, 0), (2, 0), (3, 1), (4, 0), (5, 2)] rfl ?_
    refine ge_batch [0] (ans := []) (vs := [(13, .int .i64 (i1 : Int))]) (l := []) (by kernel_rfl) trivial ?_
    rcases hx2 : l0[i1]? with _ | e1
    · rw [hx2] at h; cases h
    rw [hx2] at h
    simp only [] at h
    refine ge_index (d := 14) (ty := 0) (t := 32) (el := 59) (sz := 5) (m := l0.length) (c := c0) (x := (.tmp 9)) (y := (.tmp 11)) (A := A0) (k' := .i64) (j := (i1 : Int)) (jn := i1) (b0 := blkOf A0) (o0 := offOf A0) (by kernel_rfl) (by kernel_rfl) (by kernel_rfl) (by kernel_rfl) (by kernel_rfl) ((hS.rd hR0).eqSome (pos_of_get hx2)) rfl (lt_of_get hx2) ?_
    refine ge_batch [2] (ans := [.val (.int .i64 e1.Task), .val (.int .i64 e1.At), .val (.int .i64 e1.C), .val (.int .i64 e1.Due), .val (.int .i64 e1.P)]) (vs := [(15, .agg #[.int .i64 e1.Task, .int .i64 e1.At, .int .i64 e1.C, .int .i64 e1.Due, .int .i64 e1.P])]) (l := [.loaded ⟨blkOf A0, offOf A0 + i1 * 5, none⟩ (.int .i64 e1.Task), .loaded ⟨blkOf A0, offOf A0 + i1 * 5 + 1, none⟩ (.int .i64 e1.At), .loaded ⟨blkOf A0, offOf A0 + i1 * 5 + 2, none⟩ (.int .i64 e1.C), .loaded ⟨blkOf A0, offOf A0 + i1 * 5 + 3, none⟩ (.int .i64 e1.Due), .loaded ⟨blkOf A0, offOf A0 + i1 * 5 + 4, none⟩ (.int .i64 e1.P)]) (by kernel_rfl) ⟨RdL.cell (j := 0) (hS.rd hR0) hx2 rfl, RdL.cell (j := 1) (hS.rd hR0) hx2 rfl, RdL.cell (j := 2) (hS.rd hR0) hx2 rfl, RdL.cell (j := 3) (hS.rd hR0) hx2 rfl, RdL.cell (j := 4) (hS.rd hR0) hx2 rfl, trivial⟩ ?_
    refine ge_new (d := some 4) (o := .cells #[.int .i64 0, .int .i64 0, .int .i64 0, .int .i64 0, .int .i64 0] 59) (v := fun b => .pointer (some ⟨b, 0, none⟩)) hS (fun b => by kernel_rfl) fun b2 w4 hx3 hS7 => ?_
    refine ge_batch [4] (ans := []) (vs := [(3, .int .i64 (i1 : Int))]) (l := []) (by kernel_rfl) trivial ?_
    refine ge_set (b := b2) (j := 0) (cs := #[.int .i64 0, .int .i64 0, .int .i64 0, .int .i64 0, .int .i64 0]) (t := 59) (vs := [.int .i64 e1.Task, .int .i64 e1.At, .int .i64 e1.C, .int .i64 e1.Due, .int .i64 e1.P]) hS7 (by kernel_rfl) rfl rfl fun w5 hS8 => ?_
    have hS9 : St w0 w5 [Own.blk b2 (.cells #[.int .i64 e1.Task, .int .i64 e1.At, .int .i64 e1.C, .int .i64 e1.Due, .int .i64 e1.P] 59 (0, 0)), Own.blk b1 (.cells #[.int .i64 0, .int .i64 0] 29 (0, 0))] := hS8
    refine ge_nil fun a hF => hK10 _ _ ?_ a hF
    refine we_seq fun K11 hK11 => ?_
    refine we_region [(0, 0), (1, 0), (2, 0), (3, 0), (4, 0), (5, 0), (6, 0), (7, 0), (8, 0), (9, 0), (10, 0), (11, 0), (12, 0), (13, 0), (14, 0), (15, 0), (16, 0), (17, 0), (18, 0), (19, 0), (20, 0), (21, 0), (22, 0), (23, 0), (24, 0), (25, 0), (26, 0), (27, 0)] rfl ?_
    refine ge_batch [0, 1, 2, 3] (ans := [.val (.int .i64 e1.At)]) (vs := [(19, .bool (decide (e1.At < 0))), (18, .bool (decide (e1.At < 0))), (17, .int .i64 e1.At), (16, .pointer (some ⟨b2, 1, none⟩))]) (l := [.loaded ⟨b2, 1, none⟩ (.int .i64 e1.At)]) (by kernel_rfl) ⟨hS9.cell 0 rfl rfl, trivial⟩ ?_
    by_cases hc3 : e1.At < 0
    · rw [if_pos hc3] at h
      refine ge_known (t := 19) (b := decide (e1.At < 0)) (c := true) (by kernel_rfl) (decide_eq_true hc3) ?_
      refine ge_batch [4, 5, 6, 7, 8, 9, 10, 11, 12, 13, 14, 15, 16, 17, 18, 19, 20, 21, 22, 23, 24, 25, 26, 27] (ans := []) (vs := [(43, .bool true), (42, undef), (41, undef), (40, undef), (39, .bool true), (38, .bool true), (37, undef), (36, undef), (35, undef), (34, .bool true), (33, .bool true), (32, undef), (31, undef), (30, undef), (29, .bool true), (28, .bool true), (27, undef), (26, undef), (25, undef), (24, .bool true), (23, .bool true), (22, undef), (21, undef), (20, undef)]) (l := []) (by kernel_rfl) trivial ?_
      refine ge_nil fun a hF => hK11 _ _ ?_ a hF
      refine we_true (by kernel_rfl) ?_
      refine we_seq fun K12 hK12 => ?_
      refine we_region [(0, 0), (1, 1), (2, 2)] rfl ?_
      refine ge_batch [0] (ans := []) (vs := [(44, .int .i64 (i1 : Int))]) (l := []) (by kernel_rfl) trivial ?_
      refine ge_call (d := some 45) (f := 39) (args := #[.int .i64 3, .int .i64 (i1 : Int)]) (by kernel_rfl) (punctualref_F_ok 3 (i1 : Int) _ _ rfl) ?_
      rintro _ w6 ⟨rfl, hS10⟩
      refine ⟨_, rfl, hS10.below, ?_⟩
      have hS11 := hS9.call hS10
      have hS12 := hS11.bring 1 rfl
      refine ge_set (b := b1) (j := 0) (cs := #[.int .i64 0, .int .i64 0]) (t := 29) (vs := [.int .i64 ((punctualref_F.f 3 (i1 : Int)).Code), .int .i64 ((punctualref_F.f 3 (i1 : Int)).At)]) hS12 (by kernel_rfl) rfl rfl fun w7 hS13 => ?_
      have hS14 : St w0 w7 [Own.blk b1 (.cells #[.int .i64 ((punctualref_F.f 3 (i1 : Int)).Code), .int .i64 ((punctualref_F.f 3 (i1 : Int)).At)] 29 (0, 0)), Own.blk b2 (.cells #[.int .i64 e1.Task, .int .i64 e1.At, .int .i64 e1.C, .int .i64 e1.Due, .int .i64 e1.P] 59 (0, 0))] := hS13
      refine ge_nil fun a hF => hK12 _ _ ?_ a hF
      have hS15 := hS14.takeN 0
      obtain rfl := Option.some.inj h
      exact we_ret fun a hF => hQ _ _ _ (Outs.out nofun (Exits.on ⟨rfl, (post_ret (rs := [.cell 2 29]) (ans := [.val (.int .i64 ((punctualref_F.f 3 (i1 : Int)).Code)), .val (.int .i64 ((punctualref_F.f 3 (i1 : Int)).At))]) (vs := [.agg #[.int .i64 ((punctualref_F.f 3 (i1 : Int)).Code), .int .i64 ((punctualref_F.f 3 (i1 : Int)).At)]]) (l := [.loaded ⟨b1, 0, none⟩ (.int .i64 ((punctualref_F.f 3 (i1 : Int)).Code)), .loaded ⟨b1, 1, none⟩ (.int .i64 ((punctualref_F.f 3 (i1 : Int)).At))]) rfl (by kernel_rfl) ⟨hS14.cell 0 rfl rfl, hS14.cell 0 rfl rfl, trivial⟩ ⟨rfl, hS15⟩) a hF⟩))
    · rw [if_neg hc3] at h
      refine ge_known (t := 19) (b := decide (e1.At < 0)) (c := false) (by kernel_rfl) (decide_eq_false hc3) ?_
      refine ge_batch [4, 5, 6, 7, 8] (ans := [.val (.int .i64 e1.At)]) (vs := [(24, .bool (decide (e1.At > 60000))), (23, .bool (decide (e1.At > 60000))), (22, .bool (decide (e1.At > 60000))), (21, .int .i64 e1.At), (20, .pointer (some ⟨b2, 1, none⟩))]) (l := [.loaded ⟨b2, 1, none⟩ (.int .i64 e1.At)]) (by kernel_rfl) ⟨hS9.cell 0 rfl rfl, trivial⟩ ?_
      by_cases hc4 : e1.At > 60000
      · rw [if_pos hc4] at h
        refine ge_known (t := 24) (b := decide (e1.At > 60000)) (c := true) (by kernel_rfl) (decide_eq_true hc4) ?_
        refine ge_batch [9, 10, 11, 12, 13, 14, 15, 16, 17, 18, 19, 20, 21, 22, 23, 24, 25, 26, 27] (ans := []) (vs := [(43, .bool true), (42, undef), (41, undef), (40, undef), (39, .bool true), (38, .bool true), (37, undef), (36, undef), (35, undef), (34, .bool true), (33, .bool true), (32, undef), (31, undef), (30, undef), (29, .bool true), (28, .bool true), (27, undef), (26, undef), (25, undef)]) (l := []) (by kernel_rfl) trivial ?_
        refine ge_nil fun a hF => hK11 _ _ ?_ a hF
        refine we_true (by kernel_rfl) ?_
        refine we_seq fun K13 hK13 => ?_
        refine we_region [(0, 0), (1, 1), (2, 2)] rfl ?_
        refine ge_batch [0] (ans := []) (vs := [(44, .int .i64 (i1 : Int))]) (l := []) (by kernel_rfl) trivial ?_
        refine ge_call (d := some 45) (f := 39) (args := #[.int .i64 3, .int .i64 (i1 : Int)]) (by kernel_rfl) (punctualref_F_ok 3 (i1 : Int) _ _ rfl) ?_
        rintro _ w8 ⟨rfl, hS16⟩
        refine ⟨_, rfl, hS16.below, ?_⟩
        have hS17 := hS9.call hS16
        have hS18 := hS17.bring 1 rfl
        refine ge_set (b := b1) (j := 0) (cs := #[.int .i64 0, .int .i64 0]) (t := 29) (vs := [.int .i64 ((punctualref_F.f 3 (i1 : Int)).Code), .int .i64 ((punctualref_F.f 3 (i1 : Int)).At)]) hS18 (by kernel_rfl) rfl rfl fun w9 hS19 => ?_
        have hS20 : St w0 w9 [Own.blk b1 (.cells #[.int .i64 ((punctualref_F.f 3 (i1 : Int)).Code), .int .i64 ((punctualref_F.f 3 (i1 : Int)).At)] 29 (0, 0)), Own.blk b2 (.cells #[.int .i64 e1.Task, .int .i64 e1.At, .int .i64 e1.C, .int .i64 e1.Due, .int .i64 e1.P] 59 (0, 0))] := hS19
        refine ge_nil fun a hF => hK13 _ _ ?_ a hF
        have hS21 := hS20.takeN 0
        obtain rfl := Option.some.inj h
        exact we_ret fun a hF => hQ _ _ _ (Outs.out nofun (Exits.on ⟨rfl, (post_ret (rs := [.cell 2 29]) (ans := [.val (.int .i64 ((punctualref_F.f 3 (i1 : Int)).Code)), .val (.int .i64 ((punctualref_F.f 3 (i1 : Int)).At))]) (vs := [.agg #[.int .i64 ((punctualref_F.f 3 (i1 : Int)).Code), .int .i64 ((punctualref_F.f 3 (i1 : Int)).At)]]) (l := [.loaded ⟨b1, 0, none⟩ (.int .i64 ((punctualref_F.f 3 (i1 : Int)).Code)), .loaded ⟨b1, 1, none⟩ (.int .i64 ((punctualref_F.f 3 (i1 : Int)).At))]) rfl (by kernel_rfl) ⟨hS20.cell 0 rfl rfl, hS20.cell 0 rfl rfl, trivial⟩ ⟨rfl, hS21⟩) a hF⟩))
      · rw [if_neg hc4] at h
        refine ge_known (t := 24) (b := decide (e1.At > 60000)) (c := false) (by kernel_rfl) (decide_eq_false hc4) ?_
        refine ge_batch [9, 10, 11, 12, 13] (ans := [.val (.int .i64 e1.C)]) (vs := [(29, .bool (decide (e1.C < 1))), (28, .bool (decide (e1.C < 1))), (27, .bool (decide (e1.C < 1))), (26, .int .i64 e1.C), (25, .pointer (some ⟨b2, 2, none⟩))]) (l := [.loaded ⟨b2, 2, none⟩ (.int .i64 e1.C)]) (by kernel_rfl) ⟨hS9.cell 0 rfl rfl, trivial⟩ ?_
        by_cases hc5 : e1.C < 1
        · rw [if_pos hc5] at h
          refine ge_known (t := 29) (b := decide (e1.C < 1)) (c := true) (by kernel_rfl) (decide_eq_true hc5) ?_
          refine ge_batch [14, 15, 16, 17, 18, 19, 20, 21, 22, 23, 24, 25, 26, 27] (ans := []) (vs := [(43, .bool true), (42, undef), (41, undef), (40, undef), (39, .bool true), (38, .bool true), (37, undef), (36, undef), (35, undef), (34, .bool true), (33, .bool true), (32, undef), (31, undef), (30, undef)]) (l := []) (by kernel_rfl) trivial ?_
          refine ge_nil fun a hF => hK11 _ _ ?_ a hF
          refine we_true (by kernel_rfl) ?_
          refine we_seq fun K14 hK14 => ?_
          refine we_region [(0, 0), (1, 1), (2, 2)] rfl ?_
          refine ge_batch [0] (ans := []) (vs := [(44, .int .i64 (i1 : Int))]) (l := []) (by kernel_rfl) trivial ?_
          refine ge_call (d := some 45) (f := 39) (args := #[.int .i64 3, .int .i64 (i1 : Int)]) (by kernel_rfl) (punctualref_F_ok 3 (i1 : Int) _ _ rfl) ?_
          rintro _ w10 ⟨rfl, hS22⟩
          refine ⟨_, rfl, hS22.below, ?_⟩
          have hS23 := hS9.call hS22
          have hS24 := hS23.bring 1 rfl
          refine ge_set (b := b1) (j := 0) (cs := #[.int .i64 0, .int .i64 0]) (t := 29) (vs := [.int .i64 ((punctualref_F.f 3 (i1 : Int)).Code), .int .i64 ((punctualref_F.f 3 (i1 : Int)).At)]) hS24 (by kernel_rfl) rfl rfl fun w11 hS25 => ?_
          have hS26 : St w0 w11 [Own.blk b1 (.cells #[.int .i64 ((punctualref_F.f 3 (i1 : Int)).Code), .int .i64 ((punctualref_F.f 3 (i1 : Int)).At)] 29 (0, 0)), Own.blk b2 (.cells #[.int .i64 e1.Task, .int .i64 e1.At, .int .i64 e1.C, .int .i64 e1.Due, .int .i64 e1.P] 59 (0, 0))] := hS25
          refine ge_nil fun a hF => hK14 _ _ ?_ a hF
          have hS27 := hS26.takeN 0
          obtain rfl := Option.some.inj h
          exact we_ret fun a hF => hQ _ _ _ (Outs.out nofun (Exits.on ⟨rfl, (post_ret (rs := [.cell 2 29]) (ans := [.val (.int .i64 ((punctualref_F.f 3 (i1 : Int)).Code)), .val (.int .i64 ((punctualref_F.f 3 (i1 : Int)).At))]) (vs := [.agg #[.int .i64 ((punctualref_F.f 3 (i1 : Int)).Code), .int .i64 ((punctualref_F.f 3 (i1 : Int)).At)]]) (l := [.loaded ⟨b1, 0, none⟩ (.int .i64 ((punctualref_F.f 3 (i1 : Int)).Code)), .loaded ⟨b1, 1, none⟩ (.int .i64 ((punctualref_F.f 3 (i1 : Int)).At))]) rfl (by kernel_rfl) ⟨hS26.cell 0 rfl rfl, hS26.cell 0 rfl rfl, trivial⟩ ⟨rfl, hS27⟩) a hF⟩))
        · rw [if_neg hc5] at h
          refine ge_known (t := 29) (b := decide (e1.C < 1)) (c := false) (by kernel_rfl) (decide_eq_false hc5) ?_
          refine ge_batch [14, 15, 16, 17, 18] (ans := [.val (.int .i64 e1.C)]) (vs := [(34, .bool (decide (e1.C > 10000))), (33, .bool (decide (e1.C > 10000))), (32, .bool (decide (e1.C > 10000))), (31, .int .i64 e1.C), (30, .pointer (some ⟨b2, 2, none⟩))]) (l := [.loaded ⟨b2, 2, none⟩ (.int .i64 e1.C)]) (by kernel_rfl) ⟨hS9.cell 0 rfl rfl, trivial⟩ ?_
          by_cases hc6 : e1.C > 10000
          · rw [if_pos hc6] at h
            refine ge_known (t := 34) (b := decide (e1.C > 10000)) (c := true) (by kernel_rfl) (decide_eq_true hc6) ?_
            refine ge_batch [19, 20, 21, 22, 23, 24, 25, 26, 27] (ans := []) (vs := [(43, .bool true), (42, undef), (41, undef), (40, undef), (39, .bool true), (38, .bool true), (37, undef), (36, undef), (35, undef)]) (l := []) (by kernel_rfl) trivial ?_
            refine ge_nil fun a hF => hK11 _ _ ?_ a hF
            refine we_true (by kernel_rfl) ?_
            refine we_seq fun K15 hK15 => ?_
            refine we_region [(0, 0), (1, 1), (2, 2)] rfl ?_
            refine ge_batch [0] (ans := []) (vs := [(44, .int .i64 (i1 : Int))]) (l := []) (by kernel_rfl) trivial ?_
            refine ge_call (d := some 45) (f := 39) (args := #[.int .i64 3, .int .i64 (i1 : Int)]) (by kernel_rfl) (punctualref_F_ok 3 (i1 : Int) _ _ rfl) ?_
            rintro _ w12 ⟨rfl, hS28⟩
            refine ⟨_, rfl, hS28.below, ?_⟩
            have hS29 := hS9.call hS28
            have hS30 := hS29.bring 1 rfl
            refine ge_set (b := b1) (j := 0) (cs := #[.int .i64 0, .int .i64 0]) (t := 29) (vs := [.int .i64 ((punctualref_F.f 3 (i1 : Int)).Code), .int .i64 ((punctualref_F.f 3 (i1 : Int)).At)]) hS30 (by kernel_rfl) rfl rfl fun w13 hS31 => ?_
            have hS32 : St w0 w13 [Own.blk b1 (.cells #[.int .i64 ((punctualref_F.f 3 (i1 : Int)).Code), .int .i64 ((punctualref_F.f 3 (i1 : Int)).At)] 29 (0, 0)), Own.blk b2 (.cells #[.int .i64 e1.Task, .int .i64 e1.At, .int .i64 e1.C, .int .i64 e1.Due, .int .i64 e1.P] 59 (0, 0))] := hS31
            refine ge_nil fun a hF => hK15 _ _ ?_ a hF
            have hS33 := hS32.takeN 0
            obtain rfl := Option.some.inj h
            exact we_ret fun a hF => hQ _ _ _ (Outs.out nofun (Exits.on ⟨rfl, (post_ret (rs := [.cell 2 29]) (ans := [.val (.int .i64 ((punctualref_F.f 3 (i1 : Int)).Code)), .val (.int .i64 ((punctualref_F.f 3 (i1 : Int)).At))]) (vs := [.agg #[.int .i64 ((punctualref_F.f 3 (i1 : Int)).Code), .int .i64 ((punctualref_F.f 3 (i1 : Int)).At)]]) (l := [.loaded ⟨b1, 0, none⟩ (.int .i64 ((punctualref_F.f 3 (i1 : Int)).Code)), .loaded ⟨b1, 1, none⟩ (.int .i64 ((punctualref_F.f 3 (i1 : Int)).At))]) rfl (by kernel_rfl) ⟨hS32.cell 0 rfl rfl, hS32.cell 0 rfl rfl, trivial⟩ ⟨rfl, hS33⟩) a hF⟩))
          · rw [if_neg hc6] at h
            refine ge_known (t := 34) (b := decide (e1.C > 10000)) (c := false) (by kernel_rfl) (decide_eq_false hc6) ?_
            refine ge_batch [19, 20, 21, 22, 23] (ans := [.val (.int .i64 e1.Due)]) (vs := [(39, .bool (decide (e1.Due < 0))), (38, .bool (decide (e1.Due < 0))), (37, .bool (decide (e1.Due < 0))), (36, .int .i64 e1.Due), (35, .pointer (some ⟨b2, 3, none⟩))]) (l := [.loaded ⟨b2, 3, none⟩ (.int .i64 e1.Due)]) (by kernel_rfl) ⟨hS9.cell 0 rfl rfl, trivial⟩ ?_
            by_cases hc7 : e1.Due < 0
            · rw [if_pos hc7] at h
              refine ge_known (t := 39) (b := decide (e1.Due < 0)) (c := true) (by kernel_rfl) (decide_eq_true hc7) ?_
              refine ge_batch [24, 25, 26, 27] (ans := []) (vs := [(43, .bool true), (42, undef), (41, undef), (40, undef)]) (l := []) (by kernel_rfl) trivial ?_
              refine ge_nil fun a hF => hK11 _ _ ?_ a hF
              refine we_true (by kernel_rfl) ?_
              refine we_seq fun K16 hK16 => ?_
              refine we_region [(0, 0), (1, 1), (2, 2)] rfl ?_
              refine ge_batch [0] (ans := []) (vs := [(44, .int .i64 (i1 : Int))]) (l := []) (by kernel_rfl) trivial ?_
              refine ge_call (d := some 45) (f := 39) (args := #[.int .i64 3, .int .i64 (i1 : Int)]) (by kernel_rfl) (punctualref_F_ok 3 (i1 : Int) _ _ rfl) ?_
              rintro _ w14 ⟨rfl, hS34⟩
              refine ⟨_, rfl, hS34.below, ?_⟩
              have hS35 := hS9.call hS34
              have hS36 := hS35.bring 1 rfl
              refine ge_set (b := b1) (j := 0) (cs := #[.int .i64 0, .int .i64 0]) (t := 29) (vs := [.int .i64 ((punctualref_F.f 3 (i1 : Int)).Code), .int .i64 ((punctualref_F.f 3 (i1 : Int)).At)]) hS36 (by kernel_rfl) rfl rfl fun w15 hS37 => ?_
              have hS38 : St w0 w15 [Own.blk b1 (.cells #[.int .i64 ((punctualref_F.f 3 (i1 : Int)).Code), .int .i64 ((punctualref_F.f 3 (i1 : Int)).At)] 29 (0, 0)), Own.blk b2 (.cells #[.int .i64 e1.Task, .int .i64 e1.At, .int .i64 e1.C, .int .i64 e1.Due, .int .i64 e1.P] 59 (0, 0))] := hS37
              refine ge_nil fun a hF => hK16 _ _ ?_ a hF
              have hS39 := hS38.takeN 0
              obtain rfl := Option.some.inj h
              exact we_ret fun a hF => hQ _ _ _ (Outs.out nofun (Exits.on ⟨rfl, (post_ret (rs := [.cell 2 29]) (ans := [.val (.int .i64 ((punctualref_F.f 3 (i1 : Int)).Code)), .val (.int .i64 ((punctualref_F.f 3 (i1 : Int)).At))]) (vs := [.agg #[.int .i64 ((punctualref_F.f 3 (i1 : Int)).Code), .int .i64 ((punctualref_F.f 3 (i1 : Int)).At)]]) (l := [.loaded ⟨b1, 0, none⟩ (.int .i64 ((punctualref_F.f 3 (i1 : Int)).Code)), .loaded ⟨b1, 1, none⟩ (.int .i64 ((punctualref_F.f 3 (i1 : Int)).At))]) rfl (by kernel_rfl) ⟨hS38.cell 0 rfl rfl, hS38.cell 0 rfl rfl, trivial⟩ ⟨rfl, hS39⟩) a hF⟩))
            · rw [if_neg hc7] at h
              refine ge_known (t := 39) (b := decide (e1.Due < 0)) (c := false) (by kernel_rfl) (decide_eq_false hc7) ?_
              refine ge_batch [24, 25, 26, 27] (ans := [.val (.int .i64 e1.Due)]) (vs := [(43, .bool (decide (e1.Due > 80000))), (42, .bool (decide (e1.Due > 80000))), (41, .int .i64 e1.Due), (40, .pointer (some ⟨b2, 3, none⟩))]) (l := [.loaded ⟨b2, 3, none⟩ (.int .i64 e1.Due)]) (by kernel_rfl) ⟨hS9.cell 0 rfl rfl, trivial⟩ ?_
              refine ge_nil fun a hF => hK11 _ _ ?_ a hF
              by_cases hc8 : e1.Due > 80000
              · rw [if_pos hc8] at h
                refine we_known (t := 43) (b := decide (e1.Due > 80000)) (v := true) (by kernel_rfl) (decide_eq_true hc8) ?_
                refine we_true (by kernel_rfl) ?_
                refine we_seq fun K17 hK17 => ?_
                refine we_region [(0, 0), (1, 1), (2, 2)] rfl ?_
                refine ge_batch [0] (ans := []) (vs := [(44, .int .i64 (i1 : Int))]) (l := []) (by kernel_rfl) trivial ?_
                refine ge_call (d := some 45) (f := 39) (args := #[.int .i64 3, .int .i64 (i1 : Int)]) (by kernel_rfl) (punctualref_F_ok 3 (i1 : Int) _ _ rfl) ?_
                rintro _ w16 ⟨rfl, hS40⟩
                refine ⟨_, rfl, hS40.below, ?_⟩
                have hS41 := hS9.call hS40
                have hS42 := hS41.bring 1 rfl
                refine ge_set (b := b1) (j := 0) (cs := #[.int .i64 0, .int .i64 0]) (t := 29) (vs := [.int .i64 ((punctualref_F.f 3 (i1 : Int)).Code), .int .i64 ((punctualref_F.f 3 (i1 : Int)).At)]) hS42 (by kernel_rfl) rfl rfl fun w17 hS43 => ?_
                have hS44 : St w0 w17 [Own.blk b1 (.cells #[.int .i64 ((punctualref_F.f 3 (i1 : Int)).Code), .int .i64 ((punctualref_F.f 3 (i1 : Int)).At)] 29 (0, 0)), Own.blk b2 (.cells #[.int .i64 e1.Task, .int .i64 e1.At, .int .i64 e1.C, .int .i64 e1.Due, .int .i64 e1.P] 59 (0, 0))] := hS43
                refine ge_nil fun a hF => hK17 _ _ ?_ a hF
                have hS45 := hS44.takeN 0
                obtain rfl := Option.some.inj h
                exact we_ret fun a hF => hQ _ _ _ (Outs.out nofun (Exits.on ⟨rfl, (post_ret (rs := [.cell 2 29]) (ans := [.val (.int .i64 ((punctualref_F.f 3 (i1 : Int)).Code)), .val (.int .i64 ((punctualref_F.f 3 (i1 : Int)).At))]) (vs := [.agg #[.int .i64 ((punctualref_F.f 3 (i1 : Int)).Code), .int .i64 ((punctualref_F.f 3 (i1 : Int)).At)]]) (l := [.loaded ⟨b1, 0, none⟩ (.int .i64 ((punctualref_F.f 3 (i1 : Int)).Code)), .loaded ⟨b1, 1, none⟩ (.int .i64 ((punctualref_F.f 3 (i1 : Int)).At))]) rfl (by kernel_rfl) ⟨hS44.cell 0 rfl rfl, hS44.cell 0 rfl rfl, trivial⟩ ⟨rfl, hS45⟩) a hF⟩))
              · rw [if_neg hc8] at h
                refine we_known (t := 43) (b := decide (e1.Due > 80000)) (v := false) (by kernel_rfl) (decide_eq_false hc8) ?_
                refine we_false (by kernel_rfl) ?_
                refine we_skip fun a hF => hK9 _ _ ?_ a hF
                refine we_region [(0, 0), (1, 0)] rfl ?_
                refine ge_addn (d := 46) (ty := 3) (x := (.tmp 11)) (y := (.const (.int .i64 1))) (t := 3) (t2 := 3) (k := .i64) (m := i1) (by kernel_rfl) (by kernel_rfl) (by kernel_rfl) (by have h0 := hR0.small; omega) ?_
                refine ge_batch [1] (ans := []) (vs := [(11, .int .i64 ((i1 + 1 : Nat) : Int))]) (l := []) (by kernel_rfl) trivial ?_
                have hS46 := hS9.bring 1 rfl
                have hS47 := hS46.takeN 1
                obtain rfl := Option.some.inj h
                exact ge_nil fun a hF => hQ _ _ _ (Outs.again ⟨hS47, hF.weaken ⟨by kernel_rfl, by kernel_rfl, by kernel_rfl, by kernel_rfl, trivial⟩⟩)
  · rw [if_neg hc2] at h
    refine we_known (t := 12) (b := decide ((i1 : Int) < (l0.length : Int))) (v := false) (by kernel_rfl) (decide_eq_false hc2) ?_
    refine we_false (by kernel_rfl) ?_
    obtain rfl := Option.some.inj h
    exact we_exit fun a hF => hQ _ _ _ (Outs.out nofun (Exits.here ⟨hS, hF.weaken ⟨by kernel_rfl, trivial⟩⟩))
theorem punctualref_CheckJobs_ok (K : Nat) (l0 : List SJob) (A0 : Option Addr) (c0 : Nat) (w0 : World) (hR0 : RdL w0 A0 l0) (hL0 : l0.length ≤ c0) (r : SFault) (h : punctualref_CheckJobs.f K l0 = some r) :
    Calls Try.prog 22 #[.slice A0 l0.length c0] w0 (punctualref_CheckJobs.Post w0 r) := by
  have hS := St.start w0
  unfold punctualref_CheckJobs.f at h
  refine calls_enter (n := 48) (args := [.slice A0 l0.length c0]) (fn := Try.f22) rfl rfl rfl rfl ?_
  show WE _ _ _ _ [(0, .slice A0 l0.length c0)] _
  refine we_seq fun K1 hK1 => ?_
  refine we_region [(0, 1)] rfl ?_
  refine ge_new (d := some 2) (o := .cells #[.int .i64 0, .int .i64 0] 29) (v := fun b => .pointer (some ⟨b, 0, none⟩)) hS (fun b => by kernel_rfl) fun b1 w1 hx1 hS1 => ?_
  refine ge_nil fun a hF => hK1 _ _ ?_ a hF
  refine we_seq fun K2 hK2 => ?_
  refine we_seq fun K3 hK3 => ?_
  refine we_region [(0, 0), (1, 0), (2, 0)] rfl ?_
  refine ge_batch [0, 1, 2] (ans := []) (vs := [(7, .bool (decide ((l0.length : Int) > 4000))), (6, .int .i64 (l0.length : Int)), (5, .slice A0 l0.length c0)]) (l := []) (by kernel_rfl) trivial ?_
  refine ge_nil fun a hF => hK3 _ _ ?_ a hF
  by_cases hc1 : (l0.length : Int) > 4000
  · rw [if_pos hc1] at h
    refine we_known (t := 7) (b := decide ((l0.length : Int) > 4000)) (v := true) (by kernel_rfl) (decide_eq_true hc1) ?_
    refine we_true (by kernel_rfl) ?_
    refine we_seq fun K4 hK4 => ?_
    refine we_region [(0, 1), (1, 2)] rfl ?_
    refine ge_call (d := some 8) (f := 39) (args := #[.int .i64 2, .int .i64 0]) (by kernel_rfl) (punctualref_F_ok 2 0 _ _ rfl) ?_
    rintro _ w2 ⟨rfl, hS2⟩
    refine ⟨_, rfl, hS2.below, ?_⟩
    have hS3 := hS1.call hS2
    refine ge_set (b := b1) (j := 0) (cs := #[.int .i64 0, .int .i64 0]) (t := 29) (vs := [.int .i64 ((punctualref_F.f 2 0).Code), .int .i64 ((punctualref_F.f 2 0).At)]) hS3 (by kernel_rfl) rfl rfl fun w3 hS4 => ?_
    have hS5 : St w0 w3 [Own.blk b1 (.cells #[.int .i64 ((punctualref_F.f 2 0).Code), .int .i64 ((punctualref_F.f 2 0).At)] 29 (0, 0))] := hS4
    refine ge_nil fun a hF => hK4 _ _ ?_ a hF
    have hS6 := hS5.takeN 0
    obtain rfl := Option.some.inj h
    exact we_ret (post_ret (rs := [.cell 2 29]) (ans := [.val (.int .i64 ((punctualref_F.f 2 0).Code)), .val (.int .i64 ((punctualref_F.f 2 0).At))]) (vs := [.agg #[.int .i64 ((punctualref_F.f 2 0).Code), .int .i64 ((punctualref_F.f 2 0).At)]]) (l := [.loaded ⟨b1, 0, none⟩ (.int .i64 ((punctualref_F.f 2 0).Code)), .loaded ⟨b1, 1, none⟩ (.int .i64 ((punctualref_F.f 2 0).At))]) rfl (by kernel_rfl) ⟨hS5.cell 0 rfl rfl, hS5.cell 0 rfl rfl, trivial⟩ ⟨rfl, hS6⟩)
  · rw [if_neg hc1] at h
    refine we_known (t := 7) (b := decide ((l0.length : Int) > 4000)) (v := false) (by kernel_rfl) (decide_eq_false hc1) ?_
    refine we_false (by kernel_rfl) ?_
    refine we_skip fun a hF => hK2 _ _ ?_ a hF
    refine we_seq fun K5 hK5 => ?_
    refine we_seq fun K6 hK6 => ?_
    refine we_region [(0, 0), (1, 0), (2, 0)] rfl ?_
    refine ge_batch [0, 1, 2] (ans := []) (vs := [(11, .int .i64 0), (10, .int .i64 (l0.length : Int)), (9, .slice A0 l0.length c0)]) (l := []) (by kernel_rfl) trivial ?_
    refine ge_nil fun a hF => hK6 _ _ ?_ a hF
    refine we_block ?_
    rcases hq8 : iter (punctualref_CheckJobs.r0 l0) K 0 with _ | (_ | rr1)
    · rw [hq8] at h; cases h
    · rw [hq8] at h
      simp only [] at h
      refine we_iter (A := punctualref_CheckJobs.A0 K w0 l0 A0 c0 hR0 hL0 b1 hc1) (B := punctualref_CheckJobs.B0 K w0 l0 A0 c0 hR0 hL0 b1 hc1) hq8 (fun a hF => ⟨hS1, hF.weaken ⟨by kernel_rfl, by kernel_rfl, by kernel_rfl, by kernel_rfl, trivial⟩⟩) (fun s o hf a w hA Q hQ => punctualref_CheckJobs_r0 K w0 l0 A0 c0 hR0 hL0 b1 hc1 s o hf a w hA Q hQ) ?_
      rintro _ a w18 _ ⟨rfl, hS48, hF⟩
      replace hS48 : St w0 w18 [Own.blk b1 (.cells #[.int .i64 0, .int .i64 0] 29 (0, 0))] := hS48
      refine hK5 [(2, .pointer (some ⟨b1, 0, none⟩))] w18 ?_ a hF
      refine we_seq fun K18 hK18 => ?_
      refine we_region [(0, 0), (1, 2)] rfl ?_
      refine ge_batch [0] (ans := []) (vs := [(47, .agg #[.int .i64 0, .int .i64 0])]) (l := []) (by kernel_rfl) trivial ?_
      refine ge_set (b := b1) (j := 0) (cs := #[.int .i64 0, .int .i64 0]) (t := 29) (vs := [.int .i64 0, .int .i64 0]) hS48 (by kernel_rfl) rfl rfl fun w19 hS49 => ?_
      have hS50 : St w0 w19 [Own.blk b1 (.cells #[.int .i64 0, .int .i64 0] 29 (0, 0))] := hS49
      refine ge_nil fun a hF => hK18 _ _ ?_ a hF
      have hS51 := hS50.takeN 0
      obtain rfl := Option.some.inj h
      exact we_ret (post_ret (rs := [.cell 2 29]) (ans := [.val (.int .i64 0), .val (.int .i64 0)]) (vs := [.agg #[.int .i64 0, .int .i64 0]]) (l := [.loaded ⟨b1, 0, none⟩ (.int .i64 0), .loaded ⟨b1, 1, none⟩ (.int .i64 0)]) rfl (by kernel_rfl) ⟨hS50.cell 0 rfl rfl, hS50.cell 0 rfl rfl, trivial⟩ ⟨rfl, hS51⟩)
    · rw [hq8] at h
      simp only [] at h
      refine we_iter (A := punctualref_CheckJobs.A0 K w0 l0 A0 c0 hR0 hL0 b1 hc1) (B := punctualref_CheckJobs.B0 K w0 l0 A0 c0 hR0 hL0 b1 hc1) hq8 (fun a hF => ⟨hS1, hF.weaken ⟨by kernel_rfl, by kernel_rfl, by kernel_rfl, by kernel_rfl, trivial⟩⟩) (fun s o hf a w hA Q hQ => punctualref_CheckJobs_r0 K w0 l0 A0 c0 hR0 hL0 b1 hc1 s o hf a w hA Q hQ) ?_
      rintro _ a w1 _ ⟨rfl, hb⟩
      obtain rfl := Option.some.inj h
      exact hb

/-! punctual/edf.Judge$1 -/
abbrev edf_Judge_1.Post (w0 : World) (r : Int) (e : Ending) (w : World) : Prop := e = .returned (.int .i64 r) ∧ St w0 w []
def edf_Judge_1.f (K : Nat) (x0 : Int) (x1 : Int) (lf_0 : List SJob) : Option Int :=
  if 0 ≤ x0 then
    match lf_0[(x0).toNat]? with
    | none => none
    | some e1 =>
      if 0 ≤ x1 then
        match lf_0[(x1).toNat]? with
        | none => none
        | some e2 =>
          match cmp_Or_int.f K ([(cmp_Compare_int.f e1.Due e2.Due), (cmp_Compare_int.f x0 x1)] : List Int) with
          | none => none
          | some r1 =>
            some r1
      else
        none
  else
    none
theorem edf_Judge_1_ok (K : Nat) (x0 : Int) (x1 : Int) (bf_0 : Nat) (lf_0 : List SJob) (Af_0 : Option Addr) (cf_0 : Nat) (w0 : World) (hRf_0 : RdL w0 Af_0 lf_0) (hLf_0 : lf_0.length ≤ cf_0) (hBf_0 : Glob w0 bf_0 [.slice Af_0 lf_0.length cf_0]) (r : Int) (h : edf_Judge_1.f K x0 x1 lf_0 = some r) :
    Calls Try.prog 45 #[.int .i64 x0, .int .i64 x1, .pointer (some ⟨bf_0, 0, none⟩)] w0 (edf_Judge_1.Post w0 r) := by
  have hS := St.start w0
  unfold edf_Judge_1.f at h
  refine calls_enter (n := 22) (args := [.int .i64 x0, .int .i64 x1, .pointer (some ⟨bf_0, 0, none⟩)]) (fn := Try.f45) rfl rfl rfl rfl ?_
  show WE _ _ _ _ [(0, .int .i64 x0), (1, .int .i64 x1), (2, .pointer (some ⟨bf_0, 0, none⟩))] _
  refine we_seq fun K1 hK1 => ?_
  refine we_region [(0, 0)] rfl ?_
  refine ge_batch [0] (ans := []) (vs := [(5, .int .i64 0)]) (l := []) (by kernel_rfl) trivial ?_
  refine ge_nil fun a hF => hK1 _ _ ?_ a hF
  refine we_seq fun K2 hK2 => ?_
  refine we_draws (by kernel_rfl) [(0, 0), (1, 0), (2, 0), (3, 0), (4, 0), (5, 0), (6, 0), (7, 0), (8, 0), (9, 0), (11, 0), (12, 0), (10, 1), (13, 1), (14, 1), (15, 1), (16, 0)] (by kernel_rfl) ?_
  have hS1 := hS.drew
  refine ge_batch [0, 1] (ans := [.val (.slice Af_0 lf_0.length cf_0)]) (vs := [(7, .int .i64 x0), (6, .slice Af_0 lf_0.length cf_0)]) (l := [.loaded ⟨bf_0, 0, none⟩ (.slice Af_0 lf_0.length cf_0)]) (by kernel_rfl) ⟨hS1.glob hBf_0 rfl, trivial⟩ ?_
  by_cases hc1 : 0 ≤ x0
  · rw [if_pos hc1] at h
    rcases hx1 : lf_0[(x0).toNat]? with _ | e1
    · rw [hx1] at h; cases h
    rw [hx1] at h
    simp only [] at h
    refine ge_index (d := 8) (ty := 0) (t := 32) (el := 59) (sz := 5) (m := lf_0.length) (c := cf_0) (x := (.tmp 6)) (y := (.tmp 7)) (A := Af_0) (k' := .i64) (j := x0) (jn := ((x0).toNat)) (b0 := blkOf Af_0) (o0 := offOf Af_0) (by kernel_rfl) (by kernel_rfl) (by kernel_rfl) (by kernel_rfl) (by kernel_rfl) ((hS1.rd hRf_0).eqSome (pos_of_get hx1)) (Int.toNat_of_nonneg hc1).symm (lt_of_get hx1) ?_
    refine ge_batch [3, 4, 5, 6] (ans := [.val (.int .i64 e1.Due), .val (.slice Af_0 lf_0.length cf_0)]) (vs := [(12, .int .i64 x1), (11, .slice Af_0 lf_0.length cf_0), (10, .int .i64 e1.Due), (9, .pointer (some ⟨blkOf Af_0, offOf Af_0 + (x0).toNat * 5 + 3, none⟩))]) (l := [.loaded ⟨blkOf Af_0, offOf Af_0 + ((x0).toNat) * 5 + 3, none⟩ (.int .i64 e1.Due), .loaded ⟨bf_0, 0, none⟩ (.slice Af_0 lf_0.length cf_0)]) (by kernel_rfl) ⟨RdL.cell (j := 3) (hS1.rd hRf_0) hx1 rfl, hS1.glob hBf_0 rfl, trivial⟩ ?_
    by_cases hc2 : 0 ≤ x1
    · rw [if_pos hc2] at h
      rcases hx2 : lf_0[(x1).toNat]? with _ | e2
      · rw [hx2] at h; cases h
      rw [hx2] at h
      simp only [] at h
      refine ge_index (d := 13) (ty := 0) (t := 32) (el := 59) (sz := 5) (m := lf_0.length) (c := cf_0) (x := (.tmp 11)) (y := (.tmp 12)) (A := Af_0) (k' := .i64) (j := x1) (jn := ((x1).toNat)) (b0 := blkOf Af_0) (o0 := offOf Af_0) (by kernel_rfl) (by kernel_rfl) (by kernel_rfl) (by kernel_rfl) (by kernel_rfl) ((hS1.rd hRf_0).eqSome (pos_of_get hx2)) (Int.toNat_of_nonneg hc2).symm (lt_of_get hx2) ?_
      refine ge_batch [8, 9, 11, 12] (ans := [.val (.int .i64 e2.Due)]) (vs := [(18, .int .i64 x1), (17, .int .i64 x0), (15, .int .i64 e2.Due), (14, .pointer (some ⟨blkOf Af_0, offOf Af_0 + (x1).toNat * 5 + 3, none⟩))]) (l := [.loaded ⟨blkOf Af_0, offOf Af_0 + ((x1).toNat) * 5 + 3, none⟩ (.int .i64 e2.Due)]) (by kernel_rfl) ⟨RdL.cell (j := 3) (hS1.rd hRf_0) hx2 rfl, trivial⟩ ?_
      refine ge_call (d := some 16) (f := 42) (args := #[.int .i64 e1.Due, .int .i64 e2.Due]) (by kernel_rfl) (cmp_Compare_int_ok e1.Due e2.Due _ _ rfl) ?_
      rintro _ w1 ⟨rfl, hS2⟩
      refine ⟨_, rfl, hS2.below, ?_⟩
      have hS3 := hS1.call hS2
      refine ge_call (d := some 19) (f := 42) (args := #[.int .i64 x0, .int .i64 x1]) (by kernel_rfl) (cmp_Compare_int_ok x0 x1 _ _ rfl) ?_
      rintro _ w2 ⟨rfl, hS4⟩
      refine ⟨_, rfl, hS4.below, ?_⟩
      have hS5 := hS3.call hS4
      refine ge_new (d := some 20) (o := .cells #[.int .i64 (cmp_Compare_int.f e1.Due e2.Due), .int .i64 (cmp_Compare_int.f x0 x1)] 3) (v := fun b => .slice (some ⟨b, 0, none⟩) 2 2) hS5 (fun b => by kernel_rfl) fun b1 w3 hx3 hS6 => ?_
      rcases hq3 : cmp_Or_int.f K ([(cmp_Compare_int.f e1.Due e2.Due), (cmp_Compare_int.f x0 x1)] : List Int) with _ | r1
      · rw [hq3] at h; cases h
      rw [hq3] at h
      simp only [] at h
      refine ge_call (d := some 21) (f := 46) (args := #[.slice (some ⟨b1, 0, none⟩) 2 2]) (by kernel_rfl) (cmp_Or_int_ok K ([(cmp_Compare_int.f e1.Due e2.Due), (cmp_Compare_int.f x0 x1)] : List Int) (some ⟨b1, 0, none⟩) 2 _ (hS6.rdBlk 0 ([(cmp_Compare_int.f e1.Due e2.Due), (cmp_Compare_int.f x0 x1)] : List Int) rfl rfl rfl) (Nat.le_refl _) _ hq3) ?_
      rintro _ w4 ⟨rfl, hS7⟩
      refine ⟨_, rfl, hS7.below, ?_⟩
      have hS8 := hS6.call hS7
      refine ge_batch [16] (ans := []) (vs := [(5, .int .i64 r1)]) (l := []) (by kernel_rfl) trivial ?_
      refine ge_nil fun a hF => hK2 _ _ ?_ a hF
      have hS9 := hS8.takeN 0
      obtain rfl := Option.some.inj h
      exact we_ret (post_ret (rs := [.tmp 5]) (ans := []) (vs := [.int .i64 r1]) (l := []) rfl (by kernel_rfl) trivial ⟨rfl, hS9⟩)
    · rw [if_neg hc2] at h
      cases h
  · rw [if_neg hc1] at h
    cases h

/-! of functions that a sort asks -/
end Go.Proofs.Ytlipdmblinjjaaa.GV
namespace Go.Proofs.Ytlipdmblinjjaaa.GV.D
open Go Go.RowKit
set_option linter.unusedVariables false
set_option linter.unusedSimpArgs false
set_option maxRecDepth 100000
abbrev cmp_isNaN_int.Post (w0 : World) (r : Bool) (e : Ending) (w : World) : Prop := e = .returned (.bool r) ∧ St w0 w []
theorem cmp_isNaN_int_ok (x0 : Int) (w0 : World) (r : Bool) (h : cmp_isNaN_int.f x0 = r) :
    Calls Try.prog 62 #[.int .i64 x0] w0 (cmp_isNaN_int.Post w0 r) := by
  have hS := St.start w0
  unfold cmp_isNaN_int.f at h
  refine calls_enter (n := 6) (args := [.int .i64 x0]) (fn := Try.f62) rfl rfl rfl rfl ?_
  show WE _ _ _ _ [(0, .int .i64 x0)] _
  refine we_seq fun K1 hK1 => ?_
  refine we_region [(0, 0)] rfl ?_
  refine ge_batch [0] (ans := []) (vs := [(2, .bool false)]) (l := []) (by kernel_rfl) trivial ?_
  refine ge_nil fun a hF => hK1 _ _ ?_ a hF
  refine we_seq fun K2 hK2 => ?_
  refine we_region [(0, 0), (1, 0), (2, 0), (3, 0)] rfl ?_
  refine ge_batch [0, 1, 2] (ans := []) (vs := [(5, .bool (x0 != x0)), (4, .int .i64 x0), (3, .int .i64 x0)]) (l := []) (by kernel_rfl) trivial ?_
  refine ge_known (t := 5) (b := (x0 != x0)) (c := false) (by kernel_rfl) (by simp) ?_
  refine ge_batch [3] (ans := []) (vs := [(2, .bool false)]) (l := []) (by kernel_rfl) trivial ?_
  refine ge_nil fun a hF => hK2 _ _ ?_ a hF
  subst h
  exact we_ret (post_ret (rs := [.tmp 2]) (ans := []) (vs := [.bool false]) (l := []) rfl (by kernel_rfl) trivial ⟨rfl, hS⟩)
abbrev cmp_Compare_int.Post (w0 : World) (r : Int) (e : Ending) (w : World) : Prop := e = .returned (.int .i64 r) ∧ St w0 w []
theorem cmp_Compare_int_ok (x0 : Int) (x1 : Int) (w0 : World) (r : Int) (h : cmp_Compare_int.f x0 x1 = r) :
    Calls Try.prog 42 #[.int .i64 x0, .int .i64 x1] w0 (cmp_Compare_int.Post w0 r) := by
  have hS := St.start w0
  unfold cmp_Compare_int.f at h
  refine calls_enter (n := 20) (args := [.int .i64 x0, .int .i64 x1]) (fn := Try.f42) rfl rfl rfl rfl ?_
  show WE _ _ _ _ [(0, .int .i64 x0), (1, .int .i64 x1)] _
  refine we_seq fun K1 hK1 => ?_
  refine we_region [(0, 0)] rfl ?_
  refine ge_batch [0] (ans := []) (vs := [(4, .int .i64 0)]) (l := []) (by kernel_rfl) trivial ?_
  refine ge_nil fun a hF => hK1 _ _ ?_ a hF
  refine we_seq fun K2 hK2 => ?_
  refine we_region [(0, 0), (1, 1), (2, 0)] rfl ?_
  refine ge_batch [0] (ans := []) (vs := [(7, .int .i64 x0)]) (l := []) (by kernel_rfl) trivial ?_
  refine ge_call (d := some 8) (f := 62) (args := #[.int .i64 x0]) (by kernel_rfl) (cmp_isNaN_int_ok x0 _ _ rfl) ?_
  rintro _ w1 ⟨rfl, hS1⟩
  refine ⟨_, rfl, hS1.below, ?_⟩
  have hS2 := hS.call hS1
  refine ge_batch [2] (ans := []) (vs := [(5, .bool (cmp_isNaN_int.f x0))]) (l := []) (by kernel_rfl) trivial ?_
  refine ge_nil fun a hF => hK2 _ _ ?_ a hF
  refine we_seq fun K3 hK3 => ?_
  refine we_region [(0, 0), (1, 1), (2, 0)] rfl ?_
  refine ge_batch [0] (ans := []) (vs := [(9, .int .i64 x1)]) (l := []) (by kernel_rfl) trivial ?_
  refine ge_call (d := some 10) (f := 62) (args := #[.int .i64 x1]) (by kernel_rfl) (cmp_isNaN_int_ok x1 _ _ rfl) ?_
  rintro _ w2 ⟨rfl, hS3⟩
  refine ⟨_, rfl, hS3.below, ?_⟩
  have hS4 := hS2.call hS3
  refine ge_batch [2] (ans := []) (vs := [(6, .bool (cmp_isNaN_int.f x1))]) (l := []) (by kernel_rfl) trivial ?_
  refine ge_nil fun a hF => hK3 _ _ ?_ a hF
  refine we_seq fun K4 hK4 => ?_
  refine we_seq fun K5 hK5 => ?_
  refine we_region [(0, 0)] rfl ?_
  refine ge_batch [0] (ans := []) (vs := [(11, .bool (cmp_isNaN_int.f x0))]) (l := []) (by kernel_rfl) trivial ?_
  refine ge_nil fun a hF => hK5 _ _ ?_ a hF
  by_cases hc1 : (cmp_isNaN_int.f x0) = true
  · rw [if_pos hc1] at h
    refine we_known (t := 11) (b := (cmp_isNaN_int.f x0)) (v := true) (by kernel_rfl) hc1 ?_
    refine we_true (by kernel_rfl) ?_
    refine we_seq fun K6 hK6 => ?_
    refine we_seq fun K7 hK7 => ?_
    refine we_region [(0, 0)] rfl ?_
    refine ge_batch [0] (ans := []) (vs := [(12, .bool (cmp_isNaN_int.f x1))]) (l := []) (by kernel_rfl) trivial ?_
    refine ge_nil fun a hF => hK7 _ _ ?_ a hF
    by_cases hc2 : (cmp_isNaN_int.f x1) = true
    · rw [if_pos hc2] at h
      refine we_known (t := 12) (b := (cmp_isNaN_int.f x1)) (v := true) (by kernel_rfl) hc2 ?_
      refine we_true (by kernel_rfl) ?_
      refine we_seq fun K8 hK8 => ?_
      refine we_region [(0, 0)] rfl ?_
      refine ge_batch [0] (ans := []) (vs := [(4, .int .i64 0)]) (l := []) (by kernel_rfl) trivial ?_
      refine ge_nil fun a hF => hK8 _ _ ?_ a hF
      subst h
      exact we_ret (post_ret (rs := [.tmp 4]) (ans := []) (vs := [.int .i64 0]) (l := []) rfl (by kernel_rfl) trivial ⟨rfl, hS4⟩)
    · rw [if_neg hc2] at h
      refine we_known (t := 12) (b := (cmp_isNaN_int.f x1)) (v := false) (by kernel_rfl) (Bool.eq_false_iff.2 hc2) ?_
      refine we_false (by kernel_rfl) ?_
      refine we_skip fun a hF => hK6 _ _ ?_ a hF
      refine we_seq fun K9 hK9 => ?_
      refine we_region [(0, 0)] rfl ?_
      refine ge_batch [0] (ans := []) (vs := [(4, .int .i64 (-1))]) (l := []) (by kernel_rfl) trivial ?_
      refine ge_nil fun a hF => hK9 _ _ ?_ a hF
      subst h
      exact we_ret (post_ret (rs := [.tmp 4]) (ans := []) (vs := [.int .i64 (-1)]) (l := []) rfl (by kernel_rfl) trivial ⟨rfl, hS4⟩)
  · rw [if_neg hc1] at h
    refine we_known (t := 11) (b := (cmp_isNaN_int.f x0)) (v := false) (by kernel_rfl) (Bool.eq_false_iff.2 hc1) ?_
    refine we_false (by kernel_rfl) ?_
    refine we_skip fun a hF => hK4 _ _ ?_ a hF
    refine we_seq fun K10 hK10 => ?_
    refine we_seq fun K11 hK11 => ?_
    refine we_region [(0, 0)] rfl ?_
    refine ge_batch [0] (ans := []) (vs := [(13, .bool (cmp_isNaN_int.f x1))]) (l := []) (by kernel_rfl) trivial ?_
    refine ge_nil fun a hF => hK11 _ _ ?_ a hF
    by_cases hc3 : (cmp_isNaN_int.f x1) = true
    · rw [if_pos hc3] at h
      refine we_known (t := 13) (b := (cmp_isNaN_int.f x1)) (v := true) (by kernel_rfl) hc3 ?_
      refine we_true (by kernel_rfl) ?_
      refine we_seq fun K12 hK12 => ?_
      refine we_region [(0, 0)] rfl ?_
      refine ge_batch [0] (ans := []) (vs := [(4, .int .i64 1)]) (l := []) (by kernel_rfl) trivial ?_
      refine ge_nil fun a hF => hK12 _ _ ?_ a hF
      subst h
      exact we_ret (post_ret (rs := [.tmp 4]) (ans := []) (vs := [.int .i64 1]) (l := []) rfl (by kernel_rfl) trivial ⟨rfl, hS4⟩)
    · rw [if_neg hc3] at h
      refine we_known (t := 13) (b := (cmp_isNaN_int.f x1)) (v := false) (by kernel_rfl) (Bool.eq_false_iff.2 hc3) ?_
      refine we_false (by kernel_rfl) ?_
      refine we_skip fun a hF => hK10 _ _ ?_ a hF
      refine we_seq fun K13 hK13 => ?_
      refine we_seq fun K14 hK14 => ?_
      refine we_region [(0, 0), (1, 0), (2, 0)] rfl ?_
      refine ge_batch [0, 1, 2] (ans := []) (vs := [(16, .bool (decide (x0 < x1))), (15, .int .i64 x1), (14, .int .i64 x0)]) (l := []) (by kernel_rfl) trivial ?_
      refine ge_nil fun a hF => hK14 _ _ ?_ a hF
      by_cases hc4 : x0 < x1
      · rw [if_pos hc4] at h
        refine we_known (t := 16) (b := decide (x0 < x1)) (v := true) (by kernel_rfl) (decide_eq_true hc4) ?_
        refine we_true (by kernel_rfl) ?_
        refine we_seq fun K15 hK15 => ?_
        refine we_region [(0, 0)] rfl ?_
        refine ge_batch [0] (ans := []) (vs := [(4, .int .i64 (-1))]) (l := []) (by kernel_rfl) trivial ?_
        refine ge_nil fun a hF => hK15 _ _ ?_ a hF
        subst h
        exact we_ret (post_ret (rs := [.tmp 4]) (ans := []) (vs := [.int .i64 (-1)]) (l := []) rfl (by kernel_rfl) trivial ⟨rfl, hS4⟩)
      · rw [if_neg hc4] at h
        refine we_known (t := 16) (b := decide (x0 < x1)) (v := false) (by kernel_rfl) (decide_eq_false hc4) ?_
        refine we_false (by kernel_rfl) ?_
        refine we_skip fun a hF => hK13 _ _ ?_ a hF
        refine we_seq fun K16 hK16 => ?_
        refine we_seq fun K17 hK17 => ?_
        refine we_region [(0, 0), (1, 0), (2, 0)] rfl ?_
        refine ge_batch [0, 1, 2] (ans := []) (vs := [(19, .bool (decide (x0 > x1))), (18, .int .i64 x1), (17, .int .i64 x0)]) (l := []) (by kernel_rfl) trivial ?_
        refine ge_nil fun a hF => hK17 _ _ ?_ a hF
        by_cases hc5 : x0 > x1
        · rw [if_pos hc5] at h
          refine we_known (t := 19) (b := decide (x0 > x1)) (v := true) (by kernel_rfl) (decide_eq_true hc5) ?_
          refine we_true (by kernel_rfl) ?_
          refine we_seq fun K18 hK18 => ?_
          refine we_region [(0, 0)] rfl ?_
          refine ge_batch [0] (ans := []) (vs := [(4, .int .i64 1)]) (l := []) (by kernel_rfl) trivial ?_
          refine ge_nil fun a hF => hK18 _ _ ?_ a hF
          subst h
          exact we_ret (post_ret (rs := [.tmp 4]) (ans := []) (vs := [.int .i64 1]) (l := []) rfl (by kernel_rfl) trivial ⟨rfl, hS4⟩)
        · rw [if_neg hc5] at h
          refine we_known (t := 19) (b := decide (x0 > x1)) (v := false) (by kernel_rfl) (decide_eq_false hc5) ?_
          refine we_false (by kernel_rfl) ?_
          refine we_skip fun a hF => hK16 _ _ ?_ a hF
          refine we_seq fun K19 hK19 => ?_
          refine we_region [(0, 0)] rfl ?_
          refine ge_batch [0] (ans := []) (vs := [(4, .int .i64 0)]) (l := []) (by kernel_rfl) trivial ?_
          refine ge_nil fun a hF => hK19 _ _ ?_ a hF
          subst h
          exact we_ret (post_ret (rs := [.tmp 4]) (ans := []) (vs := [.int .i64 0]) (l := []) rfl (by kernel_rfl) trivial ⟨rfl, hS4⟩)
abbrev cmp_Or_int.Post (w0 : World) (r : Int) (e : Ending) (w : World) : Prop := e = .returned (.int .i64 r) ∧ St w0 w []
abbrev cmp_Or_int.A0 (K : Nat) (w0 : World) (l0 : List Int) (A0 : Option Addr) (c0 : Nat) (hR0 : RdL w0 A0 l0) (hL0 : l0.length ≤ c0) : Nat → Act → World → Prop := fun (s : Nat) a w => St w0 w [] ∧ Frm 18 a [(3, .int .i64 0), (6, .slice A0 l0.length c0), (7, .int .i64 (l0.length : Int)), (8, .int .i64 (s : Int))]
abbrev cmp_Or_int.B0 (K : Nat) (w0 : World) (l0 : List Int) (A0 : Option Addr) (c0 : Nat) (hR0 : RdL w0 A0 l0) (hL0 : l0.length ≤ c0) : (Unit ⊕ Int) → Exit → Act → World → Prop := Exits 0 (fun (s : Unit) a w => St w0 w [] ∧ Frm 18 a [(3, .int .i64 0)]) (Rets Try.prog Try.f46 (cmp_Or_int.Post w0))
theorem cmp_Or_int_r0 (K : Nat) (w0 : World) (l0 : List Int) (A0 : Option Addr) (c0 : Nat) (hR0 : RdL w0 A0 l0) (hL0 : l0.length ≤ c0) (s : Nat) (o : Nat ⊕ (Unit ⊕ Int)) (h : cmp_Or_int.r0 l0 s = some o) (a : Act) (w : World) (hA : cmp_Or_int.A0 K w0 l0 A0 c0 hR0 hL0 s a w) (Q : Exit → Act → World → Prop) (hQ : ∀ x a w, Outs (cmp_Or_int.A0 K w0 l0 A0 c0 hR0 hL0) (cmp_Or_int.B0 K w0 l0 A0 c0 hR0 hL0) o x a w → Q x a w) : (subF Try.f46 [1, 1, 0, 1, 0, 0]).wp Try.prog Q a w := by
  obtain ⟨i1, hs⟩ : ∃ z, z = s := ⟨s, rfl⟩
  subst hs
  obtain ⟨hS, hF⟩ := hA
  replace hS : St w0 w [] := hS
  simp only [cmp_Or_int.r0] at h
  refine (?_ : WE Try.prog 18 (subF Try.f46 [1, 1, 0, 1, 0, 0]) Q [(3, .int .i64 0), (6, .slice A0 l0.length c0), (7, .int .i64 (l0.length : Int)), (8, .int .i64 (i1 : Int))] w) a hF
  clear hF a
  refine we_seq fun K5 hK5 => ?_
  refine we_region [(0, 0)] rfl ?_
  refine ge_batch [0] (ans := []) (vs := [(9, .bool (decide ((i1 : Int) < (l0.length : Int))))]) (l := []) (by kernel_rfl) trivial ?_
  refine ge_nil fun a hF => hK5 _ _ ?_ a hF
  refine we_seq fun K6 hK6 => ?_
  by_cases hc1 : (i1 : Int) < (l0.length : Int)
  · rw [if_pos hc1] at h
    refine we_known (t := 9) (b := decide ((i1 : Int) < (l0.length : Int))) (v := true) (by kernel_rfl) (decide_eq_true hc1) ?_
    refine we_true (by kernel_rfl) ?_
    refine we_skip fun a hF => hK6 _ _ ?_ a hF
    refine we_seq fun K7 hK7 => ?_
    refine we_block ?_
    refine we_seq fun K8 hK8 => ?_
    refine we_region [(0, 0), (1, 0), (2, 0)] rfl ?_
    rcases hx1 : l0[i1]? with _ | e1
    · rw [hx1] at h; cases h
    rw [hx1] at h
    simp only [] at h
    refine ge_index (d := 10) (ty := 0) (t := 24) (el := 3) (sz := 1) (m := l0.length) (c := c0) (x := (.tmp 6)) (y := (.tmp 8)) (A := A0) (k' := .i64) (j := (i1 : Int)) (jn := i1) (b0 := blkOf A0) (o0 := offOf A0) (by kernel_rfl) (by kernel_rfl) (by kernel_rfl) (by kernel_rfl) (by kernel_rfl) ((hS.rd hR0).eqSome (pos_of_get hx1)) rfl (lt_of_get hx1) ?_
    refine ge_batch [1, 2] (ans := [.val (.int .i64 e1)]) (vs := [(5, .int .i64 e1), (11, .int .i64 e1)]) (l := [.loaded ⟨blkOf A0, offOf A0 + i1 * 1, none⟩ (.int .i64 e1)]) (by kernel_rfl) ⟨RdL.cell (j := 0) (hS.rd hR0) hx1 rfl, trivial⟩ ?_
    refine ge_nil fun a hF => hK8 _ _ ?_ a hF
    refine we_seq fun K9 hK9 => ?_
    refine we_region [(0, 0), (1, 0), (2, 0)] rfl ?_
    refine ge_batch [0, 1, 2] (ans := []) (vs := [(14, .bool (e1 != 0)), (13, .int .i64 0), (12, .int .i64 e1)]) (l := []) (by kernel_rfl) trivial ?_
    refine ge_nil fun a hF => hK9 _ _ ?_ a hF
    by_cases hc2 : e1 = 0
    · rw [if_pos hc2] at h
      refine we_known (t := 14) (b := (e1 != 0)) (v := false) (by kernel_rfl) (bne_eq_false_iff_eq.2 hc2) ?_
      refine we_false (by kernel_rfl) ?_
      refine we_skip fun a hF => hK7 _ _ ?_ a hF
      refine we_region [(0, 0), (1, 0)] rfl ?_
      refine ge_addn (d := 16) (ty := 3) (x := (.tmp 8)) (y := (.const (.int .i64 1))) (t := 3) (t2 := 3) (k := .i64) (m := i1) (by kernel_rfl) (by kernel_rfl) (by kernel_rfl) (by have h0 := hR0.small; omega) ?_
      refine ge_batch [1] (ans := []) (vs := [(8, .int .i64 ((i1 + 1 : Nat) : Int))]) (l := []) (by kernel_rfl) trivial ?_
      obtain rfl := Option.some.inj h
      exact ge_nil fun a hF => hQ _ _ _ (Outs.again ⟨hS, hF.weaken ⟨by kernel_rfl, by kernel_rfl, by kernel_rfl, by kernel_rfl, trivial⟩⟩)
    · rw [if_neg hc2] at h
      refine we_known (t := 14) (b := (e1 != 0)) (v := true) (by kernel_rfl) (bne_iff_ne.2 hc2) ?_
      refine we_true (by kernel_rfl) ?_
      refine we_seq fun K10 hK10 => ?_
      refine we_region [(0, 0), (1, 0)] rfl ?_
      refine ge_batch [0, 1] (ans := []) (vs := [(2, .int .i64 e1), (15, .int .i64 e1)]) (l := []) (by kernel_rfl) trivial ?_
      refine ge_nil fun a hF => hK10 _ _ ?_ a hF
      obtain rfl := Option.some.inj h
      exact we_ret fun a hF => hQ _ _ _ (Outs.out nofun (Exits.on ⟨rfl, (post_ret (rs := [.tmp 2]) (ans := []) (vs := [.int .i64 e1]) (l := []) rfl (by kernel_rfl) trivial ⟨rfl, hS⟩) a hF⟩))
  · rw [if_neg hc1] at h
    refine we_known (t := 9) (b := decide ((i1 : Int) < (l0.length : Int))) (v := false) (by kernel_rfl) (decide_eq_false hc1) ?_
    refine we_false (by kernel_rfl) ?_
    obtain rfl := Option.some.inj h
    exact we_exit fun a hF => hQ _ _ _ (Outs.out nofun (Exits.here ⟨hS, hF.weaken ⟨by kernel_rfl, trivial⟩⟩))
theorem cmp_Or_int_ok (K : Nat) (l0 : List Int) (A0 : Option Addr) (c0 : Nat) (w0 : World) (hR0 : RdL w0 A0 l0) (hL0 : l0.length ≤ c0) (r : Int) (h : cmp_Or_int.f K l0 = some r) :
    Calls Try.prog 46 #[.slice A0 l0.length c0] w0 (cmp_Or_int.Post w0 r) := by
  have hS := St.start w0
  unfold cmp_Or_int.f at h
  refine calls_enter (n := 18) (args := [.slice A0 l0.length c0]) (fn := Try.f46) rfl rfl rfl rfl ?_
  show WE _ _ _ _ [(0, .slice A0 l0.length c0)] _
  refine we_seq fun K1 hK1 => ?_
  refine we_region [(0, 0)] rfl ?_
  refine ge_batch [0] (ans := []) (vs := [(2, .int .i64 0)]) (l := []) (by kernel_rfl) trivial ?_
  refine ge_nil fun a hF => hK1 _ _ ?_ a hF
  refine we_seq fun K2 hK2 => ?_
  refine we_region [(0, 0)] rfl ?_
  refine ge_batch [0] (ans := []) (vs := [(3, .int .i64 0)]) (l := []) (by kernel_rfl) trivial ?_
  refine ge_nil fun a hF => hK2 _ _ ?_ a hF
  refine we_seq fun K3 hK3 => ?_
  refine we_seq fun K4 hK4 => ?_
  refine we_region [(0, 0), (1, 0), (2, 0)] rfl ?_
  refine ge_batch [0, 1, 2] (ans := []) (vs := [(8, .int .i64 0), (7, .int .i64 (l0.length : Int)), (6, .slice A0 l0.length c0)]) (l := []) (by kernel_rfl) trivial ?_
  refine ge_nil fun a hF => hK4 _ _ ?_ a hF
  refine we_block ?_
  rcases hq1 : iter (cmp_Or_int.r0 l0) K 0 with _ | (_ | rr1)
  · rw [hq1] at h; cases h
  · rw [hq1] at h
    simp only [] at h
    refine we_iter (A := cmp_Or_int.A0 K w0 l0 A0 c0 hR0 hL0) (B := cmp_Or_int.B0 K w0 l0 A0 c0 hR0 hL0) hq1 (fun a hF => ⟨hS, hF.weaken ⟨by kernel_rfl, by kernel_rfl, by kernel_rfl, by kernel_rfl, trivial⟩⟩) (fun s o hf a w hA Q hQ => cmp_Or_int_r0 K w0 l0 A0 c0 hR0 hL0 s o hf a w hA Q hQ) ?_
    rintro _ a w1 _ ⟨rfl, hS1, hF⟩
    replace hS1 : St w0 w1 [] := hS1
    refine hK3 [(3, .int .i64 0)] w1 ?_ a hF
    refine we_seq fun K11 hK11 => ?_
    refine we_region [(0, 0), (1, 0)] rfl ?_
    refine ge_batch [0, 1] (ans := []) (vs := [(2, .int .i64 0), (17, .int .i64 0)]) (l := []) (by kernel_rfl) trivial ?_
    refine ge_nil fun a hF => hK11 _ _ ?_ a hF
    obtain rfl := Option.some.inj h
    exact we_ret (post_ret (rs := [.tmp 2]) (ans := []) (vs := [.int .i64 0]) (l := []) rfl (by kernel_rfl) trivial ⟨rfl, hS1⟩)
  · rw [hq1] at h
    simp only [] at h
    refine we_iter (A := cmp_Or_int.A0 K w0 l0 A0 c0 hR0 hL0) (B := cmp_Or_int.B0 K w0 l0 A0 c0 hR0 hL0) hq1 (fun a hF => ⟨hS, hF.weaken ⟨by kernel_rfl, by kernel_rfl, by kernel_rfl, by kernel_rfl, trivial⟩⟩) (fun s o hf a w hA Q hQ => cmp_Or_int_r0 K w0 l0 A0 c0 hR0 hL0 s o hf a w hA Q hQ) ?_
    rintro _ a w1 _ ⟨rfl, hb⟩
    obtain rfl := Option.some.inj h
    exact hb
abbrev edf_Judge_1.Post (w0 : World) (r : Int) (e : Ending) (w : World) : Prop := e = .returned (.int .i64 r) ∧ St w0 w []
theorem edf_Judge_1_ok (K : Nat) (x0 : Int) (x1 : Int) (bf_0 : Nat) (lf_0 : List SJob) (Af_0 : Option Addr) (cf_0 : Nat) (w0 : World) (hRf_0 : RdL w0 Af_0 lf_0) (hLf_0 : lf_0.length ≤ cf_0) (hBf_0 : Glob w0 bf_0 [.slice Af_0 lf_0.length cf_0]) (r : Int) (h : edf_Judge_1.f K x0 x1 lf_0 = some r) :
    Calls Try.prog 45 #[.int .i64 x0, .int .i64 x1, .pointer (some ⟨bf_0, 0, none⟩)] w0 (edf_Judge_1.Post w0 r) := by
  have hS := St.start w0
  unfold edf_Judge_1.f at h
  refine calls_enter (n := 22) (args := [.int .i64 x0, .int .i64 x1, .pointer (some ⟨bf_0, 0, none⟩)]) (fn := Try.f45) rfl rfl rfl rfl ?_
  show WE _ _ _ _ [(0, .int .i64 x0), (1, .int .i64 x1), (2, .pointer (some ⟨bf_0, 0, none⟩))] _
  refine we_seq fun K1 hK1 => ?_
  refine we_region [(0, 0)] rfl ?_
  refine ge_batch [0] (ans := []) (vs := [(5, .int .i64 0)]) (l := []) (by kernel_rfl) trivial ?_
  refine ge_nil fun a hF => hK1 _ _ ?_ a hF
  refine we_seq fun K2 hK2 => ?_
  refine we_draws (by kernel_rfl) [(0, 0), (1, 0), (2, 0), (3, 0), (4, 0), (5, 0), (6, 0), (7, 0), (8, 0), (9, 0), (11, 0), (12, 0), (10, 1), (13, 1), (14, 1), (15, 1), (16, 0)] (by kernel_rfl) ?_
  have hS1 := hS.drew
  refine ge_batch [0, 1] (ans := [.val (.slice Af_0 lf_0.length cf_0)]) (vs := [(7, .int .i64 x0), (6, .slice Af_0 lf_0.length cf_0)]) (l := [.loaded ⟨bf_0, 0, none⟩ (.slice Af_0 lf_0.length cf_0)]) (by kernel_rfl) ⟨hS1.glob hBf_0 rfl, trivial⟩ ?_
  by_cases hc1 : 0 ≤ x0
  · rw [if_pos hc1] at h
    rcases hx1 : lf_0[(x0).toNat]? with _ | e1
    · rw [hx1] at h; cases h
    rw [hx1] at h
    simp only [] at h
    refine ge_index (d := 8) (ty := 0) (t := 32) (el := 59) (sz := 5) (m := lf_0.length) (c := cf_0) (x := (.tmp 6)) (y := (.tmp 7)) (A := Af_0) (k' := .i64) (j := x0) (jn := ((x0).toNat)) (b0 := blkOf Af_0) (o0 := offOf Af_0) (by kernel_rfl) (by kernel_rfl) (by kernel_rfl) (by kernel_rfl) (by kernel_rfl) ((hS1.rd hRf_0).eqSome (pos_of_get hx1)) (Int.toNat_of_nonneg hc1).symm (lt_of_get hx1) ?_
    refine ge_batch [3, 4, 5, 6] (ans := [.val (.int .i64 e1.Due), .val (.slice Af_0 lf_0.length cf_0)]) (vs := [(12, .int .i64 x1), (11, .slice Af_0 lf_0.length cf_0), (10, .int .i64 e1.Due), (9, .pointer (some ⟨blkOf Af_0, offOf Af_0 + (x0).toNat * 5 + 3, none⟩))]) (l := [.loaded ⟨blkOf Af_0, offOf Af_0 + ((x0).toNat) * 5 + 3, none⟩ (.int .i64 e1.Due), .loaded ⟨bf_0, 0, none⟩ (.slice Af_0 lf_0.length cf_0)]) (by kernel_rfl) ⟨RdL.cell (j := 3) (hS1.rd hRf_0) hx1 rfl, hS1.glob hBf_0 rfl, trivial⟩ ?_
    by_cases hc2 : 0 ≤ x1
    · rw [if_pos hc2] at h
      rcases hx2 : lf_0[(x1).toNat]? with _ | e2
      · rw [hx2] at h; cases h
      rw [hx2] at h
      simp only [] at h
      refine ge_index (d := 13) (ty := 0) (t := 32) (el := 59) (sz := 5) (m := lf_0.length) (c := cf_0) (x := (.tmp 11)) (y := (.tmp 12)) (A := Af_0) (k' := .i64) (j := x1) (jn := ((x1).toNat)) (b0 := blkOf Af_0) (o0 := offOf Af_0) (by kernel_rfl) (by kernel_rfl) (by kernel_rfl) (by kernel_rfl) (by kernel_rfl) ((hS1.rd hRf_0).eqSome (pos_of_get hx2)) (Int.toNat_of_nonneg hc2).symm (lt_of_get hx2) ?_
      refine ge_batch [8, 9, 11, 12] (ans := [.val (.int .i64 e2.Due)]) (vs := [(18, .int .i64 x1), (17, .int .i64 x0), (15, .int .i64 e2.Due), (14, .pointer (some ⟨blkOf Af_0, offOf Af_0 + (x1).toNat * 5 + 3, none⟩))]) (l := [.loaded ⟨blkOf Af_0, offOf Af_0 + ((x1).toNat) * 5 + 3, none⟩ (.int .i64 e2.Due)]) (by kernel_rfl) ⟨RdL.cell (j := 3) (hS1.rd hRf_0) hx2 rfl, trivial⟩ ?_
      refine ge_call (d := some 16) (f := 42) (args := #[.int .i64 e1.Due, .int .i64 e2.Due]) (by kernel_rfl) (cmp_Compare_int_ok e1.Due e2.Due _ _ rfl) ?_
      rintro _ w1 ⟨rfl, hS2⟩
      refine ⟨_, rfl, hS2.below, ?_⟩
      have hS3 := hS1.call hS2
      refine ge_call (d := some 19) (f := 42) (args := #[.int .i64 x0, .int .i64 x1]) (by kernel_rfl) (cmp_Compare_int_ok x0 x1 _ _ rfl) ?_
      rintro _ w2 ⟨rfl, hS4⟩
      refine ⟨_, rfl, hS4.below, ?_⟩
      have hS5 := hS3.call hS4
      refine ge_new (d := some 20) (o := .cells #[.int .i64 (cmp_Compare_int.f e1.Due e2.Due), .int .i64 (cmp_Compare_int.f x0 x1)] 3) (v := fun b => .slice (some ⟨b, 0, none⟩) 2 2) hS5 (fun b => by kernel_rfl) fun b1 w3 hx3 hS6 => ?_
      rcases hq3 : cmp_Or_int.f K ([(cmp_Compare_int.f e1.Due e2.Due), (cmp_Compare_int.f x0 x1)] : List Int) with _ | r1
      · rw [hq3] at h; cases h
      rw [hq3] at h
      simp only [] at h
      refine ge_call (d := some 21) (f := 46) (args := #[.slice (some ⟨b1, 0, none⟩) 2 2]) (by kernel_rfl) (cmp_Or_int_ok K ([(cmp_Compare_int.f e1.Due e2.Due), (cmp_Compare_int.f x0 x1)] : List Int) (some ⟨b1, 0, none⟩) 2 _ (hS6.rdBlk 0 ([(cmp_Compare_int.f e1.Due e2.Due), (cmp_Compare_int.f x0 x1)] : List Int) rfl rfl rfl) (Nat.le_refl _) _ hq3) ?_
      rintro _ w4 ⟨rfl, hS7⟩
      refine ⟨_, rfl, hS7.below, ?_⟩
      have hS8 := hS6.call hS7
      refine ge_batch [16] (ans := []) (vs := [(5, .int .i64 r1)]) (l := []) (by kernel_rfl) trivial ?_
      refine ge_nil fun a hF => hK2 _ _ ?_ a hF
      have hS9 := hS8.takeN 0
      obtain rfl := Option.some.inj h
      exact we_ret (post_ret (rs := [.tmp 5]) (ans := []) (vs := [.int .i64 r1]) (l := []) rfl (by kernel_rfl) trivial ⟨rfl, hS9⟩)
    · rw [if_neg hc2] at h
      cases h
  · rw [if_neg hc1] at h
    cases h
end Go.Proofs.Ytlipdmblinjjaaa.GV.D
namespace Go.Proofs.Ytlipdmblinjjaaa.GV
open Go Go.RowKit
set_option linter.unusedVariables false
set_option linter.unusedSimpArgs false
set_option maxRecDepth 100000

/-! punctual/edf.Judge -/
abbrev edf_Judge.Post (w0 : World) (r : Int × Int × SFault) (e : Ending) (w : World) : Prop := e = .returned (.tuple #[.int .i64 r.1, .int .i64 r.2.1, .agg #[.int .i64 r.2.2.Code, .int .i64 r.2.2.At]]) ∧ St w0 w []
def edf_Judge.r0 (l0 : List SJob) : Int × (List Int) → Option ((Int × (List Int)) ⊕ ((List Int) ⊕ (Int × Int × SFault)))
  | (z1, m1) =>
    if z1 < ((List.replicate l0.length (0 : Int)).length : Int) then
      if 0 ≤ z1 then
        match m1[(z1).toNat]? with
        | none => none
        | some e1 =>
          some (.inl (IntKind.i64.wrap (z1 + 1), (m1.set ((z1).toNat) z1)))
      else
        none
    else
      some (.inr (.inl m1))
def edf_Judge.r2 (l0 : List SJob) (r2 : List Int) (e2 : SJob) : Int × Int × Bool × Int × Nat → Option ((Int × Int × Bool × Int × Nat) ⊕ ((Int × Int × Bool) ⊕ (Int × Int × SFault)))
  | (z6, z7, q3, z8, i2) =>
    if (i2 : Int) < (r2.length : Int) then
      match r2[i2]? with
      | none => none
      | some e3 =>
        if 0 ≤ e3 then
          match l0[(e3).toNat]? with
          | none => none
          | some e4 =>
            if e4.At < e2.At then
              some (.inl (z6, z7, q3, z8, (i2 + 1)))
            else
              if (IntKind.i64.wrap (z8 + e4.C)) > (IntKind.i64.wrap (e4.Due - e2.At)) then
                if q3 = true then
                  if e2.At < z6 then
                    some (.inl (e2.At, e4.Due, true, IntKind.i64.wrap (z8 + e4.C), (i2 + 1)))
                  else
                    if e2.At = z6 then
                      if e4.Due < z7 then
                        some (.inl (e2.At, e4.Due, true, IntKind.i64.wrap (z8 + e4.C), (i2 + 1)))
                      else
                        some (.inl (z6, z7, q3, IntKind.i64.wrap (z8 + e4.C), (i2 + 1)))
                    else
                      some (.inl (z6, z7, q3, IntKind.i64.wrap (z8 + e4.C), (i2 + 1)))
                else
                  some (.inl (e2.At, e4.Due, true, IntKind.i64.wrap (z8 + e4.C), (i2 + 1)))
              else
                some (.inl (z6, z7, q3, IntKind.i64.wrap (z8 + e4.C), (i2 + 1)))
        else
          none
    else
      some (.inr (.inl (z6, z7, q3)))
def edf_Judge.r1 (K : Nat) (l0 : List SJob) (r2 : List Int) : Int × Int × Bool × Nat → Option ((Int × Int × Bool × Nat) ⊕ ((Int × Int × Bool) ⊕ (Int × Int × SFault)))
  | (z2, z3, q1, i1) =>
    if (i1 : Int) < (l0.length : Int) then
      match l0[i1]? with
      | none => none
      | some e2 =>
        match iter (edf_Judge.r2 l0 r2 e2) K (z2, z3, q1, 0, 0) with
        | none => none
        | some (.inl (z11, z12, q5)) =>
          some (.inl (z11, z12, q5, (i1 + 1)))
        | some (.inr rr1) =>
          some (.inr (.inr rr1))
    else
      some (.inr (.inl (z2, z3, q1)))
def edf_Judge.f (K : Nat) (l0 : List SJob) : Option (Int × Int × SFault) :=
  match sched_Check.f K l0 with
  | none => none
  | some r1 =>
    if r1.Code = 0 then
      if l0.length ≤ 17592186044416 then
        match iter (edf_Judge.r0 l0) K (0, (List.replicate l0.length (0 : Int))) with
        | none => none
        | some (.inl m3) =>
          match sortF (fun x y => edf_Judge_1.f K x y l0) m3 with
          | none => none
          | some r2 =>
            match iter (edf_Judge.r1 K l0 r2) K (0, 0, false, 0) with
            | none => none
            | some (.inl (z13, z14, q6)) =>
              if q6 = true then
                some (z13, z14, (⟨13, 0⟩ : SFault))
              else
                some (0, 0, (⟨0, 0⟩ : SFault))
            | some (.inr rr2) =>
              some rr2
        | some (.inr rr3) =>
          some rr3
      else
        none
    else
      some (0, 0, r1)
abbrev edf_Judge.A0 (K : Nat) (w0 : World) (l0 : List SJob) (A0 : Option Addr) (c0 : Nat) (hR0 : RdL w0 A0 l0) (hL0 : l0.length ≤ c0) (b1 : Nat) (b2 : Nat) (r1 : SFault) (b3 : Nat) (hc1 : r1.Code = 0) (hc2 : l0.length ≤ 17592186044416) (Z1 : Option Addr) (cz1 : Nat) : (Int × (List Int)) → Act → World → Prop := fun (s : Int × (List Int)) a w => St w0 w [Own.blk b2 (.cells #[.int .i64 0, .int .i64 0] 29 (0, 0)), Own.blk b1 (.cells #[.slice A0 l0.length c0] 32 (0, 0)), Own.of (.slice Z1 s.2.length cz1) 3 s.2] ∧ Frm 106 a [(1, .pointer (some ⟨b1, 0, none⟩)), (2, .int .i64 0), (3, .int .i64 0), (4, .pointer (some ⟨b2, 0, none⟩)), (6, (.slice Z1 s.2.length cz1)), (25, .int .i64 ((List.replicate l0.length (0 : Int)).length : Int)), (26, .int .i64 s.1)]
abbrev edf_Judge.B0 (K : Nat) (w0 : World) (l0 : List SJob) (A0 : Option Addr) (c0 : Nat) (hR0 : RdL w0 A0 l0) (hL0 : l0.length ≤ c0) (b1 : Nat) (b2 : Nat) (r1 : SFault) (b3 : Nat) (hc1 : r1.Code = 0) (hc2 : l0.length ≤ 17592186044416) (Z1 : Option Addr) (cz1 : Nat) : ((List Int) ⊕ (Int × Int × SFault)) → Exit → Act → World → Prop := Exits 0 (fun (s : (List Int)) a w => St w0 w [Own.blk b2 (.cells #[.int .i64 0, .int .i64 0] 29 (0, 0)), Own.blk b1 (.cells #[.slice A0 l0.length c0] 32 (0, 0)), Own.of (.slice Z1 s.length cz1) 3 s] ∧ Frm 106 a [(1, .pointer (some ⟨b1, 0, none⟩)), (2, .int .i64 0), (3, .int .i64 0), (4, .pointer (some ⟨b2, 0, none⟩)), (6, (.slice Z1 s.length cz1))]) (Rets Try.prog Try.f23 (edf_Judge.Post w0))
theorem edf_Judge_r0 (K : Nat) (w0 : World) (l0 : List SJob) (A0 : Option Addr) (c0 : Nat) (hR0 : RdL w0 A0 l0) (hL0 : l0.length ≤ c0) (b1 : Nat) (b2 : Nat) (r1 : SFault) (b3 : Nat) (hc1 : r1.Code = 0) (hc2 : l0.length ≤ 17592186044416) (Z1 : Option Addr) (cz1 : Nat) (s : Int × (List Int)) (o : (Int × (List Int)) ⊕ ((List Int) ⊕ (Int × Int × SFault))) (h : edf_Judge.r0 l0 s = some o) (a : Act) (w : World) (hA : edf_Judge.A0 K w0 l0 A0 c0 hR0 hL0 b1 b2 r1 b3 hc1 hc2 Z1 cz1 s a w) (Q : Exit → Act → World → Prop) (hQ : ∀ x a w, Outs (edf_Judge.A0 K w0 l0 A0 c0 hR0 hL0 b1 b2 r1 b3 hc1 hc2 Z1 cz1) (edf_Judge.B0 K w0 l0 A0 c0 hR0 hL0 b1 b2 r1 b3 hc1 hc2 Z1 cz1) o x a w → Q x a w) : (subF Try.f23 [1, 1, 1, 0, 1, 0, 0]).wp Try.prog Q a w := by
  obtain ⟨z1, m1⟩ := s
  obtain ⟨hS, hF⟩ := hA
  replace hS : St w0 w [Own.blk b2 (.cells #[.int .i64 0, .int .i64 0] 29 (0, 0)), Own.blk b1 (.cells #[.slice A0 l0.length c0] 32 (0, 0)), Own.of (.slice Z1 m1.length cz1) 3 m1] := hS
  simp only [edf_Judge.r0] at h
  refine (?_ : WE Try.prog 106 (subF Try.f23 [1, 1, 1, 0, 1, 0, 0]) Q [(1, .pointer (some ⟨b1, 0, none⟩)), (2, .int .i64 0), (3, .int .i64 0), (4, .pointer (some ⟨b2, 0, none⟩)), (6, (.slice Z1 m1.length cz1)), (25, .int .i64 ((List.replicate l0.length (0 : Int)).length : Int)), (26, .int .i64 z1)] w) a hF
  clear hF a
  refine we_seq fun K8 hK8 => ?_
  refine we_region [(0, 0)] rfl ?_
  refine ge_batch [0] (ans := []) (vs := [(27, .bool (decide (z1 < ((List.replicate l0.length (0 : Int)).length : Int))))]) (l := []) (by kernel_rfl) trivial ?_
  refine ge_nil fun a hF => hK8 _ _ ?_ a hF
  refine we_seq fun K9 hK9 => ?_
  by_cases hc3 : z1 < ((List.replicate l0.length (0 : Int)).length : Int)
  · rw [if_pos hc3] at h
    refine we_known (t := 27) (b := decide (z1 < ((List.replicate l0.length (0 : Int)).length : Int))) (v := true) (by kernel_rfl) (decide_eq_true hc3) ?_
    refine we_true (by kernel_rfl) ?_
    refine we_skip fun a hF => hK9 _ _ ?_ a hF
    refine we_seq fun K10 hK10 => ?_
    refine we_block ?_
    refine we_seq fun K11 hK11 => ?_
    refine we_region [(0, 0), (1, 0)] rfl ?_
    refine ge_batch [0, 1] (ans := []) (vs := [(7, .int .i64 z1), (28, .int .i64 z1)]) (l := []) (by kernel_rfl) trivial ?_
    refine ge_nil fun a hF => hK11 _ _ ?_ a hF
    refine we_region [(0, 0), (1, 0), (2, 0), (3, 0), (4, 2)] rfl ?_
    refine ge_batch [0, 1, 2] (ans := []) (vs := [(31, .int .i64 z1), (30, .int .i64 z1), (29, (.slice Z1 m1.length cz1))]) (l := []) (by kernel_rfl) trivial ?_
    by_cases hc4 : 0 ≤ z1
    · rw [if_pos hc4] at h
      rcases hx4 : m1[(z1).toNat]? with _ | e1
      · rw [hx4] at h; cases h
      rw [hx4] at h
      simp only [] at h
      refine ge_index (d := 32) (ty := 0) (t := 24) (el := 3) (sz := 1) (m := m1.length) (c := cz1) (x := (.tmp 29)) (y := (.tmp 30)) (A := Z1) (k' := .i64) (j := z1) (jn := ((z1).toNat)) (b0 := blkOf Z1) (o0 := offOf Z1) (by kernel_rfl) (by kernel_rfl) (by kernel_rfl) (by kernel_rfl) (by kernel_rfl) ((hS.rdAt 2 rfl).eqSome (pos_of_get hx4)) (Int.toNat_of_nonneg hc4).symm (lt_of_get hx4) ?_
      have hS12 := hS.bring 2 rfl
      refine ge_seti (α := Int) (A := Z1) (nn := m1.length) (c := cz1) (t := 3) (l := m1) (x := e1) (x' := z1) (jn := ((z1).toNat)) (j := 0) (vs := [.int .i64 z1]) (l' := [.stored ⟨blkOf Z1, offOf Z1 + ((z1).toNat) * 1, none⟩ (.int .i64 z1)]) hS12 (by kernel_rfl) (by kernel_rfl) hx4 rfl rfl rfl fun w7 hS13 => ?_
      have hS14 : St w0 w7 [Own.of (.slice Z1 m1.length cz1) 3 (m1.set ((z1).toNat) z1), Own.blk b2 (.cells #[.int .i64 0, .int .i64 0] 29 (0, 0)), Own.blk b1 (.cells #[.slice A0 l0.length c0] 32 (0, 0))] := hS13
      have hE1 : m1.length = (m1.set ((z1).toNat) z1).length := hS14.lenAt 0 rfl
      have hS15 : St w0 w7 [Own.of (.slice Z1 (m1.set ((z1).toNat) z1).length cz1) 3 (m1.set ((z1).toNat) z1), Own.blk b2 (.cells #[.int .i64 0, .int .i64 0] 29 (0, 0)), Own.blk b1 (.cells #[.slice A0 l0.length c0] 32 (0, 0))] := by rw [← hE1]; exact hS14
      refine ge_same (t := 6) (v := (.slice Z1 m1.length cz1)) (v' := (.slice Z1 (m1.set ((z1).toNat) z1).length cz1)) (by kernel_rfl) (by rw [hE1]) ?_
      refine ge_same (t := 29) (v := (.slice Z1 m1.length cz1)) (v' := (.slice Z1 (m1.set ((z1).toNat) z1).length cz1)) (by kernel_rfl) (by rw [hE1]) ?_
      refine ge_nil fun a hF => hK10 _ _ ?_ a hF
      refine we_region [(0, 0), (1, 0)] rfl ?_
      refine ge_batch [0, 1] (ans := []) (vs := [(26, .int .i64 (IntKind.i64.wrap (z1 + 1))), (33, .int .i64 (IntKind.i64.wrap (z1 + 1)))]) (l := []) (by kernel_rfl) trivial ?_
      have hS16 := hS15.bring 2 rfl
      have hS17 := hS16.bring 2 rfl
      obtain rfl := Option.some.inj h
      exact ge_nil fun a hF => hQ _ _ _ (Outs.again ⟨hS17, hF.weaken ⟨by kernel_rfl, by kernel_rfl, by kernel_rfl, by kernel_rfl, by kernel_rfl, by kernel_rfl, by kernel_rfl, trivial⟩⟩)
    · rw [if_neg hc4] at h
      cases h
  · rw [if_neg hc3] at h
    refine we_known (t := 27) (b := decide (z1 < ((List.replicate l0.length (0 : Int)).length : Int))) (v := false) (by kernel_rfl) (decide_eq_false hc3) ?_
    refine we_false (by kernel_rfl) ?_
    have hS18 := hS.bring 2 rfl
    have hS19 := hS18.bring 2 rfl
    have hS20 := hS19.bring 2 rfl
    obtain rfl := Option.some.inj h
    exact we_exit fun a hF => hQ _ _ _ (Outs.out nofun (Exits.here ⟨hS20, hF.weaken ⟨by kernel_rfl, by kernel_rfl, by kernel_rfl, by kernel_rfl, by kernel_rfl, trivial⟩⟩))
abbrev edf_Judge.A2 (K : Nat) (w0 : World) (l0 : List SJob) (A0 : Option Addr) (c0 : Nat) (hR0 : RdL w0 A0 l0) (hL0 : l0.length ≤ c0) (b1 : Nat) (b2 : Nat) (r1 : SFault) (b3 : Nat) (hc1 : r1.Code = 0) (hc2 : l0.length ≤ 17592186044416) (Z1 : Option Addr) (cz1 : Nat) (m3 : List Int) (r2 : List Int) (z2 : Int) (z3 : Int) (q1 : Bool) (i1 : Nat) (hc5 : (i1 : Int) < (l0.length : Int)) (e2 : SJob) (hx5 : l0[i1]? = some e2) (b4 : Nat) : (Int × Int × Bool × Int × Nat) → Act → World → Prop := fun (s : Int × Int × Bool × Int × Nat) a w => St w0 w [Own.blk b4 (.cells #[.int .i64 e2.Task, .int .i64 e2.At, .int .i64 e2.C, .int .i64 e2.Due, .int .i64 e2.P] 59 (0, 0)), Own.blk b2 (.cells #[.int .i64 0, .int .i64 0] 29 (0, 0)), Own.blk b1 (.cells #[.slice A0 l0.length c0] 32 (0, 0)), Own.of (.slice Z1 r2.length cz1) 3 r2] ∧ Frm 106 a [(1, .pointer (some ⟨b1, 0, none⟩)), (2, .int .i64 s.1), (3, .int .i64 s.2.1), (4, .pointer (some ⟨b2, 0, none⟩)), (6, (.slice Z1 r2.length cz1)), (8, .bool s.2.2.1), (10, .pointer (some ⟨b4, 0, none⟩)), (11, .int .i64 s.2.2.2.1), (37, .slice A0 l0.length c0), (38, .int .i64 (l0.length : Int)), (39, .int .i64 (i1 : Int)), (43, (.slice Z1 r2.length cz1)), (44, .int .i64 (r2.length : Int)), (45, .int .i64 (s.2.2.2.2 : Int))]
abbrev edf_Judge.B2 (K : Nat) (w0 : World) (l0 : List SJob) (A0 : Option Addr) (c0 : Nat) (hR0 : RdL w0 A0 l0) (hL0 : l0.length ≤ c0) (b1 : Nat) (b2 : Nat) (r1 : SFault) (b3 : Nat) (hc1 : r1.Code = 0) (hc2 : l0.length ≤ 17592186044416) (Z1 : Option Addr) (cz1 : Nat) (m3 : List Int) (r2 : List Int) (z2 : Int) (z3 : Int) (q1 : Bool) (i1 : Nat) (hc5 : (i1 : Int) < (l0.length : Int)) (e2 : SJob) (hx5 : l0[i1]? = some e2) (b4 : Nat) : ((Int × Int × Bool) ⊕ (Int × Int × SFault)) → Exit → Act → World → Prop := Exits 4 (fun (s : Int × Int × Bool) a w => St w0 w [Own.blk b2 (.cells #[.int .i64 0, .int .i64 0] 29 (0, 0)), Own.blk b1 (.cells #[.slice A0 l0.length c0] 32 (0, 0)), Own.of (.slice Z1 r2.length cz1) 3 r2] ∧ Frm 106 a [(1, .pointer (some ⟨b1, 0, none⟩)), (2, .int .i64 s.1), (3, .int .i64 s.2.1), (4, .pointer (some ⟨b2, 0, none⟩)), (6, (.slice Z1 r2.length cz1)), (8, .bool s.2.2), (37, .slice A0 l0.length c0), (38, .int .i64 (l0.length : Int)), (39, .int .i64 (i1 : Int))]) (Rets Try.prog Try.f23 (edf_Judge.Post w0))
theorem edf_Judge_r2 (K : Nat) (w0 : World) (l0 : List SJob) (A0 : Option Addr) (c0 : Nat) (hR0 : RdL w0 A0 l0) (hL0 : l0.length ≤ c0) (b1 : Nat) (b2 : Nat) (r1 : SFault) (b3 : Nat) (hc1 : r1.Code = 0) (hc2 : l0.length ≤ 17592186044416) (Z1 : Option Addr) (cz1 : Nat) (m3 : List Int) (r2 : List Int) (z2 : Int) (z3 : Int) (q1 : Bool) (i1 : Nat) (hc5 : (i1 : Int) < (l0.length : Int)) (e2 : SJob) (hx5 : l0[i1]? = some e2) (b4 : Nat) (s : Int × Int × Bool × Int × Nat) (o : (Int × Int × Bool × Int × Nat) ⊕ ((Int × Int × Bool) ⊕ (Int × Int × SFault))) (h : edf_Judge.r2 l0 r2 e2 s = some o) (a : Act) (w : World) (hA : edf_Judge.A2 K w0 l0 A0 c0 hR0 hL0 b1 b2 r1 b3 hc1 hc2 Z1 cz1 m3 r2 z2 z3 q1 i1 hc5 e2 hx5 b4 s a w) (Q : Exit → Act → World → Prop) (hQ : ∀ x a w, Outs (edf_Judge.A2 K w0 l0 A0 c0 hR0 hL0 b1 b2 r1 b3 hc1 hc2 Z1 cz1 m3 r2 z2 z3 q1 i1 hc5 e2 hx5 b4) (edf_Judge.B2 K w0 l0 A0 c0 hR0 hL0 b1 b2 r1 b3 hc1 hc2 Z1 cz1 m3 r2 z2 z3 q1 i1 hc5 e2 hx5 b4) o x a w → Q x a w) : (subF Try.f23 [1, 1, 1, 1, 1, 1, 0, 1, 0, 0, 1, 1, 0, 0, 1, 1, 1, 0, 0]).wp Try.prog Q a w := by
  obtain ⟨z6, z7, q3, z8, i2⟩ := s
  obtain ⟨hS, hF⟩ := hA
  replace hS : St w0 w [Own.blk b4 (.cells #[.int .i64 e2.Task, .int .i64 e2.At, .int .i64 e2.C, .int .i64 e2.Due, .int .i64 e2.P] 59 (0, 0)), Own.blk b2 (.cells #[.int .i64 0, .int .i64 0] 29 (0, 0)), Own.blk b1 (.cells #[.slice A0 l0.length c0] 32 (0, 0)), Own.of (.slice Z1 r2.length cz1) 3 r2] := hS
  simp only [edf_Judge.r2] at h
  refine (?_ : WE Try.prog 106 (subF Try.f23 [1, 1, 1, 1, 1, 1, 0, 1, 0, 0, 1, 1, 0, 0, 1, 1, 1, 0, 0]) Q [(1, .pointer (some ⟨b1, 0, none⟩)), (2, .int .i64 z6), (3, .int .i64 z7), (4, .pointer (some ⟨b2, 0, none⟩)), (6, (.slice Z1 r2.length cz1)), (8, .bool q3), (10, .pointer (some ⟨b4, 0, none⟩)), (11, .int .i64 z8), (37, .slice A0 l0.length c0), (38, .int .i64 (l0.length : Int)), (39, .int .i64 (i1 : Int)), (43, (.slice Z1 r2.length cz1)), (44, .int .i64 (r2.length : Int)), (45, .int .i64 (i2 : Int))] w) a hF
  clear hF a
  refine we_seq fun K22 hK22 => ?_
  refine we_region [(0, 0)] rfl ?_
  refine ge_batch [0] (ans := []) (vs := [(46, .bool (decide ((i2 : Int) < (r2.length : Int))))]) (l := []) (by kernel_rfl) trivial ?_
  refine ge_nil fun a hF => hK22 _ _ ?_ a hF
  refine we_seq fun K23 hK23 => ?_
  by_cases hc6 : (i2 : Int) < (r2.length : Int)
  · rw [if_pos hc6] at h
    refine we_known (t := 46) (b := decide ((i2 : Int) < (r2.length : Int))) (v := true) (by kernel_rfl) (decide_eq_true hc6) ?_
    refine we_true (by kernel_rfl) ?_
    refine we_skip fun a hF => hK23 _ _ ?_ a hF
    refine we_seq fun K24 hK24 => ?_
    refine we_block ?_
    refine we_seq fun K25 hK25 => ?_
    refine we_region [(0, 0), (1, 0), (2, 0)] rfl ?_
    rcases hx7 : r2[i2]? with _ | e3
    · rw [hx7] at h; cases h
    rw [hx7] at h
    simp only [] at h
    refine ge_index (d := 47) (ty := 0) (t := 24) (el := 3) (sz := 1) (m := r2.length) (c := cz1) (x := (.tmp 43)) (y := (.tmp 45)) (A := Z1) (k' := .i64) (j := (i2 : Int)) (jn := i2) (b0 := blkOf Z1) (o0 := offOf Z1) (by kernel_rfl) (by kernel_rfl) (by kernel_rfl) (by kernel_rfl) (by kernel_rfl) ((hS.rdAt 3 rfl).eqSome (pos_of_get hx7)) rfl (lt_of_get hx7) ?_
    refine ge_batch [1, 2] (ans := [.val (.int .i64 e3)]) (vs := [(13, .int .i64 e3), (48, .int .i64 e3)]) (l := [.loaded ⟨blkOf Z1, offOf Z1 + i2 * 1, none⟩ (.int .i64 e3)]) (by kernel_rfl) ⟨RdL.cell (j := 0) (hS.rdAt 3 rfl) hx7 rfl, trivial⟩ ?_
    refine ge_nil fun a hF => hK25 _ _ ?_ a hF
    refine we_seq fun K26 hK26 => ?_
    refine we_seq fun K27 hK27 => ?_
    refine we_draws (by kernel_rfl) [(0, 0), (1, 0), (2, 0), (3, 0), (4, 0), (5, 0), (6, 0), (7, 0)] (by kernel_rfl) ?_
    have hS33 := hS.drew
    refine ge_batch [0, 1] (ans := [.val (.slice A0 l0.length c0)]) (vs := [(50, .int .i64 e3), (49, .slice A0 l0.length c0)]) (l := [.loaded ⟨b1, 0, none⟩ (.slice A0 l0.length c0)]) (by kernel_rfl) ⟨hS33.cell 2 rfl rfl, trivial⟩ ?_
    by_cases hc7 : 0 ≤ e3
    · rw [if_pos hc7] at h
      rcases hx8 : l0[(e3).toNat]? with _ | e4
      · rw [hx8] at h; cases h
      rw [hx8] at h
      simp only [] at h
      refine ge_index (d := 51) (ty := 0) (t := 32) (el := 59) (sz := 5) (m := l0.length) (c := c0) (x := (.tmp 49)) (y := (.tmp 50)) (A := A0) (k' := .i64) (j := e3) (jn := ((e3).toNat)) (b0 := blkOf A0) (o0 := offOf A0) (by kernel_rfl) (by kernel_rfl) (by kernel_rfl) (by kernel_rfl) (by kernel_rfl) ((hS33.rd hR0).eqSome (pos_of_get hx8)) (Int.toNat_of_nonneg hc7).symm (lt_of_get hx8) ?_
      refine ge_batch [3, 4, 5, 6, 7] (ans := [.val (.int .i64 e4.At), .val (.int .i64 e2.At)]) (vs := [(56, .bool (decide (e4.At < e2.At))), (55, .int .i64 e2.At), (54, .pointer (some ⟨b4, 1, none⟩)), (53, .int .i64 e4.At), (52, .pointer (some ⟨blkOf A0, offOf A0 + (e3).toNat * 5 + 1, none⟩))]) (l := [.loaded ⟨blkOf A0, offOf A0 + ((e3).toNat) * 5 + 1, none⟩ (.int .i64 e4.At), .loaded ⟨b4, 1, none⟩ (.int .i64 e2.At)]) (by kernel_rfl) ⟨RdL.cell (j := 1) (hS33.rd hR0) hx8 rfl, hS33.cell 0 rfl rfl, trivial⟩ ?_
      refine ge_nil fun a hF => hK27 _ _ ?_ a hF
      by_cases hc8 : e4.At < e2.At
      · rw [if_pos hc8] at h
        refine we_known (t := 56) (b := decide (e4.At < e2.At)) (v := true) (by kernel_rfl) (decide_eq_true hc8) ?_
        refine we_true (by kernel_rfl) ?_
        refine we_exit fun a hF => hK24 _ _ ?_ a hF
        refine we_region [(0, 0), (1, 0)] rfl ?_
        refine ge_addn (d := 99) (ty := 3) (x := (.tmp 45)) (y := (.const (.int .i64 1))) (t := 3) (t2 := 3) (k := .i64) (m := i2) (by kernel_rfl) (by kernel_rfl) (by kernel_rfl) (by have h0 := hS33.ofSmall 3 rfl; omega) ?_
        refine ge_batch [1] (ans := []) (vs := [(45, .int .i64 ((i2 + 1 : Nat) : Int))]) (l := []) (by kernel_rfl) trivial ?_
        have hS34 := hS33.bring 3 rfl
        have hS35 := hS34.bring 3 rfl
        have hS36 := hS35.bring 3 rfl
        have hS37 := hS36.bring 3 rfl
        obtain rfl := Option.some.inj h
        exact ge_nil fun a hF => hQ _ _ _ (Outs.again ⟨hS37, hF.weaken ⟨by kernel_rfl, by kernel_rfl, by kernel_rfl, by kernel_rfl, by kernel_rfl, by kernel_rfl, by kernel_rfl, by kernel_rfl, by kernel_rfl, by kernel_rfl, by kernel_rfl, by kernel_rfl, by kernel_rfl, by kernel_rfl, trivial⟩⟩)
      · rw [if_neg hc8] at h
        refine we_known (t := 56) (b := decide (e4.At < e2.At)) (v := false) (by kernel_rfl) (decide_eq_false hc8) ?_
        refine we_false (by kernel_rfl) ?_
        refine we_skip fun a hF => hK26 _ _ ?_ a hF
        refine we_seq fun K28 hK28 => ?_
        refine we_region [(0, 0), (1, 0), (2, 0), (3, 0), (4, 0), (5, 0), (6, 0), (7, 0)] rfl ?_
        refine ge_batch [0, 1, 2] (ans := [.val (.slice A0 l0.length c0)]) (vs := [(59, .int .i64 e3), (58, .slice A0 l0.length c0), (57, .int .i64 z8)]) (l := [.loaded ⟨b1, 0, none⟩ (.slice A0 l0.length c0)]) (by kernel_rfl) ⟨hS33.cell 2 rfl rfl, trivial⟩ ?_
        refine ge_index (d := 60) (ty := 0) (t := 32) (el := 59) (sz := 5) (m := l0.length) (c := c0) (x := (.tmp 58)) (y := (.tmp 59)) (A := A0) (k' := .i64) (j := e3) (jn := ((e3).toNat)) (b0 := blkOf A0) (o0 := offOf A0) (by kernel_rfl) (by kernel_rfl) (by kernel_rfl) (by kernel_rfl) (by kernel_rfl) ((hS33.rd hR0).eqSome (pos_of_get hx8)) (Int.toNat_of_nonneg hc7).symm (lt_of_get hx8) ?_
        refine ge_batch [4, 5, 6, 7] (ans := [.val (.int .i64 e4.C)]) (vs := [(11, .int .i64 (IntKind.i64.wrap (z8 + e4.C))), (63, .int .i64 (IntKind.i64.wrap (z8 + e4.C))), (62, .int .i64 e4.C), (61, .pointer (some ⟨blkOf A0, offOf A0 + (e3).toNat * 5 + 2, none⟩))]) (l := [.loaded ⟨blkOf A0, offOf A0 + ((e3).toNat) * 5 + 2, none⟩ (.int .i64 e4.C)]) (by kernel_rfl) ⟨RdL.cell (j := 2) (hS33.rd hR0) hx8 rfl, trivial⟩ ?_
        refine ge_nil fun a hF => hK28 _ _ ?_ a hF
        refine we_seq fun K29 hK29 => ?_
        refine we_region [(0, 0), (1, 0), (2, 0), (3, 0), (4, 0), (5, 0)] rfl ?_
        refine ge_batch [0, 1] (ans := [.val (.slice A0 l0.length c0)]) (vs := [(65, .int .i64 e3), (64, .slice A0 l0.length c0)]) (l := [.loaded ⟨b1, 0, none⟩ (.slice A0 l0.length c0)]) (by kernel_rfl) ⟨hS33.cell 2 rfl rfl, trivial⟩ ?_
        refine ge_index (d := 66) (ty := 0) (t := 32) (el := 59) (sz := 5) (m := l0.length) (c := c0) (x := (.tmp 64)) (y := (.tmp 65)) (A := A0) (k' := .i64) (j := e3) (jn := ((e3).toNat)) (b0 := blkOf A0) (o0 := offOf A0) (by kernel_rfl) (by kernel_rfl) (by kernel_rfl) (by kernel_rfl) (by kernel_rfl) ((hS33.rd hR0).eqSome (pos_of_get hx8)) (Int.toNat_of_nonneg hc7).symm (lt_of_get hx8) ?_
        refine ge_batch [3, 4, 5] (ans := [.val (.int .i64 e4.Due)]) (vs := [(14, .int .i64 e4.Due), (68, .int .i64 e4.Due), (67, .pointer (some ⟨blkOf A0, offOf A0 + (e3).toNat * 5 + 3, none⟩))]) (l := [.loaded ⟨blkOf A0, offOf A0 + ((e3).toNat) * 5 + 3, none⟩ (.int .i64 e4.Due)]) (by kernel_rfl) ⟨RdL.cell (j := 3) (hS33.rd hR0) hx8 rfl, trivial⟩ ?_
        refine ge_nil fun a hF => hK29 _ _ ?_ a hF
        refine we_seq fun K30 hK30 => ?_
        refine we_region [(0, 0), (1, 0), (2, 0), (3, 0), (4, 0), (5, 0), (6, 0), (7, 0), (8, 0), (9, 0), (10, 0), (11, 0), (12, 0), (13, 0), (14, 0), (15, 0), (16, 0), (17, 0), (18, 0), (19, 0), (20, 0), (21, 0), (22, 0), (23, 0), (24, 0), (25, 0), (26, 0)] rfl ?_
        refine ge_batch [0, 1, 2, 3, 4, 5, 6] (ans := [.val (.int .i64 e2.At)]) (vs := [(75, .bool (decide ((IntKind.i64.wrap (z8 + e4.C)) > (IntKind.i64.wrap (e4.Due - e2.At))))), (74, .bool (decide ((IntKind.i64.wrap (z8 + e4.C)) > (IntKind.i64.wrap (e4.Due - e2.At))))), (73, .int .i64 (IntKind.i64.wrap (e4.Due - e2.At))), (72, .int .i64 e2.At), (71, .pointer (some ⟨b4, 1, none⟩)), (70, .int .i64 e4.Due), (69, .int .i64 (IntKind.i64.wrap (z8 + e4.C)))]) (l := [.loaded ⟨b4, 1, none⟩ (.int .i64 e2.At)]) (by kernel_rfl) ⟨hS33.cell 0 rfl rfl, trivial⟩ ?_
        by_cases hc9 : (IntKind.i64.wrap (z8 + e4.C)) > (IntKind.i64.wrap (e4.Due - e2.At))
        · rw [if_pos hc9] at h
          refine ge_known (t := 75) (b := decide ((IntKind.i64.wrap (z8 + e4.C)) > (IntKind.i64.wrap (e4.Due - e2.At)))) (c := true) (by kernel_rfl) (decide_eq_true hc9) ?_
          refine ge_batch [7, 8, 9] (ans := []) (vs := [(78, .bool (!q3)), (77, .bool (!q3)), (76, .bool q3)]) (l := []) (by kernel_rfl) trivial ?_
          by_cases hc10 : q3 = true
          · rw [if_pos hc10] at h
            refine ge_known (t := 78) (b := !q3) (c := false) (by kernel_rfl) (congrArg (fun z => !z) hc10) ?_
            refine ge_batch [10, 11, 12, 13, 14, 15] (ans := [.val (.int .i64 e2.At)]) (vs := [(84, .bool (decide (e2.At < z6))), (83, .bool (decide (e2.At < z6))), (82, .bool (decide (e2.At < z6))), (81, .int .i64 z6), (80, .int .i64 e2.At), (79, .pointer (some ⟨b4, 1, none⟩))]) (l := [.loaded ⟨b4, 1, none⟩ (.int .i64 e2.At)]) (by kernel_rfl) ⟨hS33.cell 0 rfl rfl, trivial⟩ ?_
            by_cases hc11 : e2.At < z6
            · rw [if_pos hc11] at h
              refine ge_known (t := 84) (b := decide (e2.At < z6)) (c := true) (by kernel_rfl) (decide_eq_true hc11) ?_
              refine ge_batch [16, 17, 18, 19, 20, 21, 22, 23, 24, 25, 26] (ans := []) (vs := [(95, .bool true), (94, .bool true), (93, undef), (92, undef), (91, undef), (90, undef), (89, undef), (88, undef), (87, undef), (86, undef), (85, undef)]) (l := []) (by kernel_rfl) trivial ?_
              refine ge_nil fun a hF => hK30 _ _ ?_ a hF
              refine we_true (by kernel_rfl) ?_
              refine we_region [(0, 0), (1, 0), (2, 0), (3, 0), (4, 0), (5, 0)] rfl ?_
              refine ge_batch [0, 1, 2, 3, 4, 5] (ans := [.val (.int .i64 e2.At)]) (vs := [(8, .bool true), (3, .int .i64 e4.Due), (2, .int .i64 e2.At), (98, .int .i64 e4.Due), (97, .int .i64 e2.At), (96, .pointer (some ⟨b4, 1, none⟩))]) (l := [.loaded ⟨b4, 1, none⟩ (.int .i64 e2.At)]) (by kernel_rfl) ⟨hS33.cell 0 rfl rfl, trivial⟩ ?_
              refine ge_nil fun a hF => hK24 _ _ ?_ a hF
              refine we_region [(0, 0), (1, 0)] rfl ?_
              refine ge_addn (d := 99) (ty := 3) (x := (.tmp 45)) (y := (.const (.int .i64 1))) (t := 3) (t2 := 3) (k := .i64) (m := i2) (by kernel_rfl) (by kernel_rfl) (by kernel_rfl) (by have h0 := hS33.ofSmall 3 rfl; omega) ?_
              refine ge_batch [1] (ans := []) (vs := [(45, .int .i64 ((i2 + 1 : Nat) : Int))]) (l := []) (by kernel_rfl) trivial ?_
              have hS38 := hS33.bring 3 rfl
              have hS39 := hS38.bring 3 rfl
              have hS40 := hS39.bring 3 rfl
              have hS41 := hS40.bring 3 rfl
              obtain rfl := Option.some.inj h
              exact ge_nil fun a hF => hQ _ _ _ (Outs.again ⟨hS41, hF.weaken ⟨by kernel_rfl, by kernel_rfl, by kernel_rfl, by kernel_rfl, by kernel_rfl, by kernel_rfl, by kernel_rfl, by kernel_rfl, by kernel_rfl, by kernel_rfl, by kernel_rfl, by kernel_rfl, by kernel_rfl, by kernel_rfl, trivial⟩⟩)
            · rw [if_neg hc11] at h
              refine ge_known (t := 84) (b := decide (e2.At < z6)) (c := false) (by kernel_rfl) (decide_eq_false hc11) ?_
              refine ge_batch [16, 17, 18, 19, 20] (ans := [.val (.int .i64 e2.At)]) (vs := [(89, .bool (e2.At == z6)), (88, .bool (e2.At == z6)), (87, .int .i64 z6), (86, .int .i64 e2.At), (85, .pointer (some ⟨b4, 1, none⟩))]) (l := [.loaded ⟨b4, 1, none⟩ (.int .i64 e2.At)]) (by kernel_rfl) ⟨hS33.cell 0 rfl rfl, trivial⟩ ?_
              by_cases hc12 : e2.At = z6
              · rw [if_pos hc12] at h
                refine ge_known (t := 89) (b := (e2.At == z6)) (c := true) (by kernel_rfl) (beq_iff_eq.2 hc12) ?_
                refine ge_batch [21, 22, 23, 24, 25, 26] (ans := []) (vs := [(95, .bool (decide (e4.Due < z7))), (94, .bool (decide (e4.Due < z7))), (93, .bool (decide (e4.Due < z7))), (92, .bool (decide (e4.Due < z7))), (91, .int .i64 z7), (90, .int .i64 e4.Due)]) (l := []) (by kernel_rfl) trivial ?_
                refine ge_nil fun a hF => hK30 _ _ ?_ a hF
                by_cases hc13 : e4.Due < z7
                · rw [if_pos hc13] at h
                  refine we_known (t := 95) (b := decide (e4.Due < z7)) (v := true) (by kernel_rfl) (decide_eq_true hc13) ?_
                  refine we_true (by kernel_rfl) ?_
                  refine we_region [(0, 0), (1, 0), (2, 0), (3, 0), (4, 0), (5, 0)] rfl ?_
                  refine ge_batch [0, 1, 2, 3, 4, 5] (ans := [.val (.int .i64 e2.At)]) (vs := [(8, .bool true), (3, .int .i64 e4.Due), (2, .int .i64 e2.At), (98, .int .i64 e4.Due), (97, .int .i64 e2.At), (96, .pointer (some ⟨b4, 1, none⟩))]) (l := [.loaded ⟨b4, 1, none⟩ (.int .i64 e2.At)]) (by kernel_rfl) ⟨hS33.cell 0 rfl rfl, trivial⟩ ?_
                  refine ge_nil fun a hF => hK24 _ _ ?_ a hF
                  refine we_region [(0, 0), (1, 0)] rfl ?_
                  refine ge_addn (d := 99) (ty := 3) (x := (.tmp 45)) (y := (.const (.int .i64 1))) (t := 3) (t2 := 3) (k := .i64) (m := i2) (by kernel_rfl) (by kernel_rfl) (by kernel_rfl) (by have h0 := hS33.ofSmall 3 rfl; omega) ?_
                  refine ge_batch [1] (ans := []) (vs := [(45, .int .i64 ((i2 + 1 : Nat) : Int))]) (l := []) (by kernel_rfl) trivial ?_
                  have hS42 := hS33.bring 3 rfl
                  have hS43 := hS42.bring 3 rfl
                  have hS44 := hS43.bring 3 rfl
                  have hS45 := hS44.bring 3 rfl
                  obtain rfl := Option.some.inj h
                  exact ge_nil fun a hF => hQ _ _ _ (Outs.again ⟨hS45, hF.weaken ⟨by kernel_rfl, by kernel_rfl, by kernel_rfl, by kernel_rfl, by kernel_rfl, by kernel_rfl, by kernel_rfl, by kernel_rfl, by kernel_rfl, by kernel_rfl, by kernel_rfl, by kernel_rfl, by kernel_rfl, by kernel_rfl, trivial⟩⟩)
                · rw [if_neg hc13] at h
                  refine we_known (t := 95) (b := decide (e4.Due < z7)) (v := false) (by kernel_rfl) (decide_eq_false hc13) ?_
                  refine we_false (by kernel_rfl) ?_
                  refine we_skip fun a hF => hK24 _ _ ?_ a hF
                  refine we_region [(0, 0), (1, 0)] rfl ?_
                  refine ge_addn (d := 99) (ty := 3) (x := (.tmp 45)) (y := (.const (.int .i64 1))) (t := 3) (t2 := 3) (k := .i64) (m := i2) (by kernel_rfl) (by kernel_rfl) (by kernel_rfl) (by have h0 := hS33.ofSmall 3 rfl; omega) ?_
                  refine ge_batch [1] (ans := []) (vs := [(45, .int .i64 ((i2 + 1 : Nat) : Int))]) (l := []) (by kernel_rfl) trivial ?_
                  have hS46 := hS33.bring 3 rfl
                  have hS47 := hS46.bring 3 rfl
                  have hS48 := hS47.bring 3 rfl
                  have hS49 := hS48.bring 3 rfl
                  obtain rfl := Option.some.inj h
                  exact ge_nil fun a hF => hQ _ _ _ (Outs.again ⟨hS49, hF.weaken ⟨by kernel_rfl, by kernel_rfl, by kernel_rfl, by kernel_rfl, by kernel_rfl, by kernel_rfl, by kernel_rfl, by kernel_rfl, by kernel_rfl, by kernel_rfl, by kernel_rfl, by kernel_rfl, by kernel_rfl, by kernel_rfl, trivial⟩⟩)
              · rw [if_neg hc12] at h
                refine ge_known (t := 89) (b := (e2.At == z6)) (c := false) (by kernel_rfl) (beq_eq_false_iff_ne.2 hc12) ?_
                refine ge_batch [21, 22, 23, 24, 25, 26] (ans := []) (vs := [(95, .bool false), (94, .bool false), (93, .bool false), (92, undef), (91, undef), (90, undef)]) (l := []) (by kernel_rfl) trivial ?_
                refine ge_nil fun a hF => hK30 _ _ ?_ a hF
                refine we_false (by kernel_rfl) ?_
                refine we_skip fun a hF => hK24 _ _ ?_ a hF
                refine we_region [(0, 0), (1, 0)] rfl ?_
                refine ge_addn (d := 99) (ty := 3) (x := (.tmp 45)) (y := (.const (.int .i64 1))) (t := 3) (t2 := 3) (k := .i64) (m := i2) (by kernel_rfl) (by kernel_rfl) (by kernel_rfl) (by have h0 := hS33.ofSmall 3 rfl; omega) ?_
                refine ge_batch [1] (ans := []) (vs := [(45, .int .i64 ((i2 + 1 : Nat) : Int))]) (l := []) (by kernel_rfl) trivial ?_
                have hS50 := hS33.bring 3 rfl
                have hS51 := hS50.bring 3 rfl
                have hS52 := hS51.bring 3 rfl
                have hS53 := hS52.bring 3 rfl
                obtain rfl := Option.some.inj h
                exact ge_nil fun a hF => hQ _ _ _ (Outs.again ⟨hS53, hF.weaken ⟨by kernel_rfl, by kernel_rfl, by kernel_rfl, by kernel_rfl, by kernel_rfl, by kernel_rfl, by kernel_rfl, by kernel_rfl, by kernel_rfl, by kernel_rfl, by kernel_rfl, by kernel_rfl, by kernel_rfl, by kernel_rfl, trivial⟩⟩)
          · rw [if_neg hc10] at h
            refine ge_known (t := 78) (b := !q3) (c := true) (by kernel_rfl) (congrArg (fun z => !z) (Bool.eq_false_iff.2 hc10)) ?_
            refine ge_batch [10, 11, 12, 13, 14, 15, 16, 17, 18, 19, 20, 21, 22, 23, 24, 25, 26] (ans := []) (vs := [(95, .bool true), (94, .bool true), (93, undef), (92, undef), (91, undef), (90, undef), (89, undef), (88, undef), (87, undef), (86, undef), (85, undef), (84, .bool true), (83, .bool true), (82, undef), (81, undef), (80, undef), (79, undef)]) (l := []) (by kernel_rfl) trivial ?_
            refine ge_nil fun a hF => hK30 _ _ ?_ a hF
            refine we_true (by kernel_rfl) ?_
            refine we_region [(0, 0), (1, 0), (2, 0), (3, 0), (4, 0), (5, 0)] rfl ?_
            refine ge_batch [0, 1, 2, 3, 4, 5] (ans := [.val (.int .i64 e2.At)]) (vs := [(8, .bool true), (3, .int .i64 e4.Due), (2, .int .i64 e2.At), (98, .int .i64 e4.Due), (97, .int .i64 e2.At), (96, .pointer (some ⟨b4, 1, none⟩))]) (l := [.loaded ⟨b4, 1, none⟩ (.int .i64 e2.At)]) (by kernel_rfl) ⟨hS33.cell 0 rfl rfl, trivial⟩ ?_
            refine ge_nil fun a hF => hK24 _ _ ?_ a hF
            refine we_region [(0, 0), (1, 0)] rfl ?_
            refine ge_addn (d := 99) (ty := 3) (x := (.tmp 45)) (y := (.const (.int .i64 1))) (t := 3) (t2 := 3) (k := .i64) (m := i2) (by kernel_rfl) (by kernel_rfl) (by kernel_rfl) (by have h0 := hS33.ofSmall 3 rfl; omega) ?_
            refine ge_batch [1] (ans := []) (vs := [(45, .int .i64 ((i2 + 1 : Nat) : Int))]) (l := []) (by kernel_rfl) trivial ?_
            have hS54 := hS33.bring 3 rfl
            have hS55 := hS54.bring 3 rfl
            have hS56 := hS55.bring 3 rfl
            have hS57 := hS56.bring 3 rfl
            obtain rfl := Option.some.inj h
            exact ge_nil fun a hF => hQ _ _ _ (Outs.again ⟨hS57, hF.weaken ⟨by kernel_rfl, by kernel_rfl, by kernel_rfl, by kernel_rfl, by kernel_rfl, by kernel_rfl, by kernel_rfl, by kernel_rfl, by kernel_rfl, by kernel_rfl, by kernel_rfl, by kernel_rfl, by kernel_rfl, by kernel_rfl, trivial⟩⟩)
        · rw [if_neg hc9] at h
          refine ge_known (t := 75) (b := decide ((IntKind.i64.wrap (z8 + e4.C)) > (IntKind.i64.wrap (e4.Due - e2.At)))) (c := false) (by kernel_rfl) (decide_eq_false hc9) ?_
          refine ge_batch [7, 8, 9, 10, 11, 12, 13, 14, 15, 16, 17, 18, 19, 20, 21, 22, 23, 24, 25, 26] (ans := []) (vs := [(95, .bool false), (94, undef), (93, undef), (92, undef), (91, undef), (90, undef), (89, undef), (88, undef), (87, undef), (86, undef), (85, undef), (84, undef), (83, undef), (82, undef), (81, undef), (80, undef), (79, undef), (78, undef), (77, undef), (76, undef)]) (l := []) (by kernel_rfl) trivial ?_
          refine ge_nil fun a hF => hK30 _ _ ?_ a hF
          refine we_false (by kernel_rfl) ?_
          refine we_skip fun a hF => hK24 _ _ ?_ a hF
          refine we_region [(0, 0), (1, 0)] rfl ?_
          refine ge_addn (d := 99) (ty := 3) (x := (.tmp 45)) (y := (.const (.int .i64 1))) (t := 3) (t2 := 3) (k := .i64) (m := i2) (by kernel_rfl) (by kernel_rfl) (by kernel_rfl) (by have h0 := hS33.ofSmall 3 rfl; omega) ?_
          refine ge_batch [1] (ans := []) (vs := [(45, .int .i64 ((i2 + 1 : Nat) : Int))]) (l := []) (by kernel_rfl) trivial ?_
          have hS58 := hS33.bring 3 rfl
          have hS59 := hS58.bring 3 rfl
          have hS60 := hS59.bring 3 rfl
          have hS61 := hS60.bring 3 rfl
          obtain rfl := Option.some.inj h
          exact ge_nil fun a hF => hQ _ _ _ (Outs.again ⟨hS61, hF.weaken ⟨by kernel_rfl, by kernel_rfl, by kernel_rfl, by kernel_rfl, by kernel_rfl, by kernel_rfl, by kernel_rfl, by kernel_rfl, by kernel_rfl, by kernel_rfl, by kernel_rfl, by kernel_rfl, by kernel_rfl, by kernel_rfl, trivial⟩⟩)
    · rw [if_neg hc7] at h
      cases h
  · rw [if_neg hc6] at h
    refine we_known (t := 46) (b := decide ((i2 : Int) < (r2.length : Int))) (v := false) (by kernel_rfl) (decide_eq_false hc6) ?_
    refine we_false (by kernel_rfl) ?_
    have hS62 := hS.bring 3 rfl
    have hS63 := hS62.bring 3 rfl
    have hS64 := hS63.bring 3 rfl
    have hS65 := hS64.takeN 3
    obtain rfl := Option.some.inj h
    exact we_exit fun a hF => hQ _ _ _ (Outs.out nofun (Exits.here ⟨hS65, hF.weaken ⟨by kernel_rfl, by kernel_rfl, by kernel_rfl, by kernel_rfl, by kernel_rfl, by kernel_rfl, by kernel_rfl, by kernel_rfl, by kernel_rfl, trivial⟩⟩))
abbrev edf_Judge.A1 (K : Nat) (w0 : World) (l0 : List SJob) (A0 : Option Addr) (c0 : Nat) (hR0 : RdL w0 A0 l0) (hL0 : l0.length ≤ c0) (b1 : Nat) (b2 : Nat) (r1 : SFault) (b3 : Nat) (hc1 : r1.Code = 0) (hc2 : l0.length ≤ 17592186044416) (Z1 : Option Addr) (cz1 : Nat) (m3 : List Int) (r2 : List Int) : (Int × Int × Bool × Nat) → Act → World → Prop := fun (s : Int × Int × Bool × Nat) a w => St w0 w [Own.blk b2 (.cells #[.int .i64 0, .int .i64 0] 29 (0, 0)), Own.blk b1 (.cells #[.slice A0 l0.length c0] 32 (0, 0)), Own.of (.slice Z1 r2.length cz1) 3 r2] ∧ Frm 106 a [(1, .pointer (some ⟨b1, 0, none⟩)), (2, .int .i64 s.1), (3, .int .i64 s.2.1), (4, .pointer (some ⟨b2, 0, none⟩)), (6, (.slice Z1 r2.length cz1)), (8, .bool s.2.2.1), (37, .slice A0 l0.length c0), (38, .int .i64 (l0.length : Int)), (39, .int .i64 (s.2.2.2 : Int))]
abbrev edf_Judge.B1 (K : Nat) (w0 : World) (l0 : List SJob) (A0 : Option Addr) (c0 : Nat) (hR0 : RdL w0 A0 l0) (hL0 : l0.length ≤ c0) (b1 : Nat) (b2 : Nat) (r1 : SFault) (b3 : Nat) (hc1 : r1.Code = 0) (hc2 : l0.length ≤ 17592186044416) (Z1 : Option Addr) (cz1 : Nat) (m3 : List Int) (r2 : List Int) : ((Int × Int × Bool) ⊕ (Int × Int × SFault)) → Exit → Act → World → Prop := Exits 2 (fun (s : Int × Int × Bool) a w => St w0 w [Own.blk b2 (.cells #[.int .i64 0, .int .i64 0] 29 (0, 0))] ∧ Frm 106 a [(2, .int .i64 s.1), (3, .int .i64 s.2.1), (4, .pointer (some ⟨b2, 0, none⟩)), (8, .bool s.2.2)]) (Rets Try.prog Try.f23 (edf_Judge.Post w0))
theorem edf_Judge_r1 (K : Nat) (w0 : World) (l0 : List SJob) (A0 : Option Addr) (c0 : Nat) (hR0 : RdL w0 A0 l0) (hL0 : l0.length ≤ c0) (b1 : Nat) (b2 : Nat) (r1 : SFault) (b3 : Nat) (hc1 : r1.Code = 0) (hc2 : l0.length ≤ 17592186044416) (Z1 : Option Addr) (cz1 : Nat) (m3 : List Int) (r2 : List Int) (s : Int × Int × Bool × Nat) (o : (Int × Int × Bool × Nat) ⊕ ((Int × Int × Bool) ⊕ (Int × Int × SFault))) (h : edf_Judge.r1 K l0 r2 s = some o) (a : Act) (w : World) (hA : edf_Judge.A1 K w0 l0 A0 c0 hR0 hL0 b1 b2 r1 b3 hc1 hc2 Z1 cz1 m3 r2 s a w) (Q : Exit → Act → World → Prop) (hQ : ∀ x a w, Outs (edf_Judge.A1 K w0 l0 A0 c0 hR0 hL0 b1 b2 r1 b3 hc1 hc2 Z1 cz1 m3 r2) (edf_Judge.B1 K w0 l0 A0 c0 hR0 hL0 b1 b2 r1 b3 hc1 hc2 Z1 cz1 m3 r2) o x a w → Q x a w) : (subF Try.f23 [1, 1, 1, 1, 1, 1, 0, 1, 0, 0]).wp Try.prog Q a w := by
  obtain ⟨z2, z3, q1, i1⟩ := s
  obtain ⟨hS, hF⟩ := hA
  replace hS : St w0 w [Own.blk b2 (.cells #[.int .i64 0, .int .i64 0] 29 (0, 0)), Own.blk b1 (.cells #[.slice A0 l0.length c0] 32 (0, 0)), Own.of (.slice Z1 r2.length cz1) 3 r2] := hS
  simp only [edf_Judge.r1] at h
  refine (?_ : WE Try.prog 106 (subF Try.f23 [1, 1, 1, 1, 1, 1, 0, 1, 0, 0]) Q [(1, .pointer (some ⟨b1, 0, none⟩)), (2, .int .i64 z2), (3, .int .i64 z3), (4, .pointer (some ⟨b2, 0, none⟩)), (6, (.slice Z1 r2.length cz1)), (8, .bool q1), (37, .slice A0 l0.length c0), (38, .int .i64 (l0.length : Int)), (39, .int .i64 (i1 : Int))] w) a hF
  clear hF a
  refine we_seq fun K16 hK16 => ?_
  refine we_region [(0, 0)] rfl ?_
  refine ge_batch [0] (ans := []) (vs := [(40, .bool (decide ((i1 : Int) < (l0.length : Int))))]) (l := []) (by kernel_rfl) trivial ?_
  refine ge_nil fun a hF => hK16 _ _ ?_ a hF
  refine we_seq fun K17 hK17 => ?_
  by_cases hc5 : (i1 : Int) < (l0.length : Int)
  · rw [if_pos hc5] at h
    refine we_known (t := 40) (b := decide ((i1 : Int) < (l0.length : Int))) (v := true) (by kernel_rfl) (decide_eq_true hc5) ?_
    refine we_true (by kernel_rfl) ?_
    refine we_skip fun a hF => hK17 _ _ ?_ a hF
    refine we_seq fun K18 hK18 => ?_
    refine we_block ?_
    refine we_seq fun K19 hK19 => ?_
    refine we_region [(0, 0), (1, 0), (2, 1), (3, 2)] rfl ?_
    rcases hx5 : l0[i1]? with _ | e2
    · rw [hx5] at h; cases h
    rw [hx5] at h
    simp only [] at h
    refine ge_index (d := 41) (ty := 0) (t := 32) (el := 59) (sz := 5) (m := l0.length) (c := c0) (x := (.tmp 37)) (y := (.tmp 39)) (A := A0) (k' := .i64) (j := (i1 : Int)) (jn := i1) (b0 := blkOf A0) (o0 := offOf A0) (by kernel_rfl) (by kernel_rfl) (by kernel_rfl) (by kernel_rfl) (by kernel_rfl) ((hS.rd hR0).eqSome (pos_of_get hx5)) rfl (lt_of_get hx5) ?_
    refine ge_batch [1] (ans := [.val (.int .i64 e2.Task), .val (.int .i64 e2.At), .val (.int .i64 e2.C), .val (.int .i64 e2.Due), .val (.int .i64 e2.P)]) (vs := [(42, .agg #[.int .i64 e2.Task, .int .i64 e2.At, .int .i64 e2.C, .int .i64 e2.Due, .int .i64 e2.P])]) (l := [.loaded ⟨blkOf A0, offOf A0 + i1 * 5, none⟩ (.int .i64 e2.Task), .loaded ⟨blkOf A0, offOf A0 + i1 * 5 + 1, none⟩ (.int .i64 e2.At), .loaded ⟨blkOf A0, offOf A0 + i1 * 5 + 2, none⟩ (.int .i64 e2.C), .loaded ⟨blkOf A0, offOf A0 + i1 * 5 + 3, none⟩ (.int .i64 e2.Due), .loaded ⟨blkOf A0, offOf A0 + i1 * 5 + 4, none⟩ (.int .i64 e2.P)]) (by kernel_rfl) ⟨RdL.cell (j := 0) (hS.rd hR0) hx5 rfl, RdL.cell (j := 1) (hS.rd hR0) hx5 rfl, RdL.cell (j := 2) (hS.rd hR0) hx5 rfl, RdL.cell (j := 3) (hS.rd hR0) hx5 rfl, RdL.cell (j := 4) (hS.rd hR0) hx5 rfl, trivial⟩ ?_
    refine ge_new (d := some 10) (o := .cells #[.int .i64 0, .int .i64 0, .int .i64 0, .int .i64 0, .int .i64 0] 59) (v := fun b => .pointer (some ⟨b, 0, none⟩)) hS (fun b => by kernel_rfl) fun b4 w10 hx6 hS26 => ?_
    refine ge_set (b := b4) (j := 0) (cs := #[.int .i64 0, .int .i64 0, .int .i64 0, .int .i64 0, .int .i64 0]) (t := 59) (vs := [.int .i64 e2.Task, .int .i64 e2.At, .int .i64 e2.C, .int .i64 e2.Due, .int .i64 e2.P]) hS26 (by kernel_rfl) rfl rfl fun w11 hS27 => ?_
    have hS28 : St w0 w11 [Own.blk b4 (.cells #[.int .i64 e2.Task, .int .i64 e2.At, .int .i64 e2.C, .int .i64 e2.Due, .int .i64 e2.P] 59 (0, 0)), Own.blk b2 (.cells #[.int .i64 0, .int .i64 0] 29 (0, 0)), Own.blk b1 (.cells #[.slice A0 l0.length c0] 32 (0, 0)), Own.of (.slice Z1 r2.length cz1) 3 r2] := hS27
    refine ge_nil fun a hF => hK19 _ _ ?_ a hF
    refine we_seq fun K20 hK20 => ?_
    refine we_region [(0, 0)] rfl ?_
    refine ge_batch [0] (ans := []) (vs := [(11, .int .i64 0)]) (l := []) (by kernel_rfl) trivial ?_
    refine ge_nil fun a hF => hK20 _ _ ?_ a hF
    refine we_seq fun K21 hK21 => ?_
    refine we_region [(0, 0), (1, 0), (2, 0)] rfl ?_
    refine ge_batch [0, 1, 2] (ans := []) (vs := [(45, .int .i64 0), (44, .int .i64 (r2.length : Int)), (43, (.slice Z1 r2.length cz1))]) (l := []) (by kernel_rfl) trivial ?_
    refine ge_nil fun a hF => hK21 _ _ ?_ a hF
    refine we_block ?_
    have hS29 := hS28.bring 3 rfl
    have hS30 := hS29.bring 3 rfl
    have hS31 := hS30.bring 3 rfl
    have hS32 := hS31.bring 3 rfl
    rcases hq4 : iter (edf_Judge.r2 l0 r2 e2) K (z2, z3, q1, 0, 0) with _ | (⟨z11, z12, q5⟩ | rr1)
    · rw [hq4] at h; cases h
    · rw [hq4] at h
      simp only [] at h
      refine we_iter (A := edf_Judge.A2 K w0 l0 A0 c0 hR0 hL0 b1 b2 r1 b3 hc1 hc2 Z1 cz1 m3 r2 z2 z3 q1 i1 hc5 e2 hx5 b4) (B := edf_Judge.B2 K w0 l0 A0 c0 hR0 hL0 b1 b2 r1 b3 hc1 hc2 Z1 cz1 m3 r2 z2 z3 q1 i1 hc5 e2 hx5 b4) hq4 (fun a hF => ⟨hS32, hF.weaken ⟨by kernel_rfl, by kernel_rfl, by kernel_rfl, by kernel_rfl, by kernel_rfl, by kernel_rfl, by kernel_rfl, by kernel_rfl, by kernel_rfl, by kernel_rfl, by kernel_rfl, by kernel_rfl, by kernel_rfl, by kernel_rfl, trivial⟩⟩) (fun s o hf a w hA Q hQ => edf_Judge_r2 K w0 l0 A0 c0 hR0 hL0 b1 b2 r1 b3 hc1 hc2 Z1 cz1 m3 r2 z2 z3 q1 i1 hc5 e2 hx5 b4 s o hf a w hA Q hQ) ?_
      rintro _ a w12 _ ⟨rfl, hS66, hF⟩
      replace hS66 : St w0 w12 [Own.blk b2 (.cells #[.int .i64 0, .int .i64 0] 29 (0, 0)), Own.blk b1 (.cells #[.slice A0 l0.length c0] 32 (0, 0)), Own.of (.slice Z1 r2.length cz1) 3 r2] := hS66
      refine hK18 [(1, .pointer (some ⟨b1, 0, none⟩)), (2, .int .i64 z11), (3, .int .i64 z12), (4, .pointer (some ⟨b2, 0, none⟩)), (6, (.slice Z1 r2.length cz1)), (8, .bool q5), (37, .slice A0 l0.length c0), (38, .int .i64 (l0.length : Int)), (39, .int .i64 (i1 : Int))] w12 ?_ a hF
      refine we_region [(0, 0), (1, 0)] rfl ?_
      refine ge_addn (d := 100) (ty := 3) (x := (.tmp 39)) (y := (.const (.int .i64 1))) (t := 3) (t2 := 3) (k := .i64) (m := i1) (by kernel_rfl) (by kernel_rfl) (by kernel_rfl) (by have h0 := hR0.small; omega) ?_
      refine ge_batch [1] (ans := []) (vs := [(39, .int .i64 ((i1 + 1 : Nat) : Int))]) (l := []) (by kernel_rfl) trivial ?_
      have hS67 := hS66.bring 2 rfl
      have hS68 := hS67.bring 2 rfl
      have hS69 := hS68.bring 2 rfl
      obtain rfl := Option.some.inj h
      exact ge_nil fun a hF => hQ _ _ _ (Outs.again ⟨hS69, hF.weaken ⟨by kernel_rfl, by kernel_rfl, by kernel_rfl, by kernel_rfl, by kernel_rfl, by kernel_rfl, by kernel_rfl, by kernel_rfl, by kernel_rfl, trivial⟩⟩)
    · rw [hq4] at h
      simp only [] at h
      refine we_iter (A := edf_Judge.A2 K w0 l0 A0 c0 hR0 hL0 b1 b2 r1 b3 hc1 hc2 Z1 cz1 m3 r2 z2 z3 q1 i1 hc5 e2 hx5 b4) (B := edf_Judge.B2 K w0 l0 A0 c0 hR0 hL0 b1 b2 r1 b3 hc1 hc2 Z1 cz1 m3 r2 z2 z3 q1 i1 hc5 e2 hx5 b4) hq4 (fun a hF => ⟨hS32, hF.weaken ⟨by kernel_rfl, by kernel_rfl, by kernel_rfl, by kernel_rfl, by kernel_rfl, by kernel_rfl, by kernel_rfl, by kernel_rfl, by kernel_rfl, by kernel_rfl, by kernel_rfl, by kernel_rfl, by kernel_rfl, by kernel_rfl, trivial⟩⟩) (fun s o hf a w hA Q hQ => edf_Judge_r2 K w0 l0 A0 c0 hR0 hL0 b1 b2 r1 b3 hc1 hc2 Z1 cz1 m3 r2 z2 z3 q1 i1 hc5 e2 hx5 b4 s o hf a w hA Q hQ) ?_
      rintro _ a w1 _ ⟨rfl, hb⟩
      obtain rfl := Option.some.inj h
      exact hQ _ _ _ (Outs.out nofun (Exits.on ⟨rfl, hb⟩))
  · rw [if_neg hc5] at h
    refine we_known (t := 40) (b := decide ((i1 : Int) < (l0.length : Int))) (v := false) (by kernel_rfl) (decide_eq_false hc5) ?_
    refine we_false (by kernel_rfl) ?_
    have hS70 := hS.takeN 1
    obtain rfl := Option.some.inj h
    exact we_exit fun a hF => hQ _ _ _ (Outs.out nofun (Exits.here ⟨hS70, hF.weaken ⟨by kernel_rfl, by kernel_rfl, by kernel_rfl, by kernel_rfl, trivial⟩⟩))
theorem edf_Judge_ok (K : Nat) (l0 : List SJob) (A0 : Option Addr) (c0 : Nat) (w0 : World) (hR0 : RdL w0 A0 l0) (hL0 : l0.length ≤ c0) (r : Int × Int × SFault) (h : edf_Judge.f K l0 = some r) :
    Calls Try.prog 23 #[.slice A0 l0.length c0] w0 (edf_Judge.Post w0 r) := by
  have hS := St.start w0
  unfold edf_Judge.f at h
  refine calls_enter (n := 106) (args := [.slice A0 l0.length c0]) (fn := Try.f23) rfl rfl rfl rfl ?_
  show WE _ _ _ _ [(0, .slice A0 l0.length c0)] _
  refine we_seq fun K1 hK1 => ?_
  refine we_region [(0, 1), (1, 0), (2, 0), (3, 1)] rfl ?_
  refine ge_new (d := some 1) (o := .cells #[.slice A0 l0.length c0] 32) (v := fun b => .pointer (some ⟨b, 0, none⟩)) hS (fun b => by kernel_rfl) fun b1 w1 hx1 hS1 => ?_
  refine ge_batch [1, 2] (ans := []) (vs := [(3, .int .i64 0), (2, .int .i64 0)]) (l := []) (by kernel_rfl) trivial ?_
  refine ge_new (d := some 4) (o := .cells #[.int .i64 0, .int .i64 0] 29) (v := fun b => .pointer (some ⟨b, 0, none⟩)) hS1 (fun b => by kernel_rfl) fun b2 w2 hx2 hS2 => ?_
  refine ge_nil fun a hF => hK1 _ _ ?_ a hF
  refine we_seq fun K2 hK2 => ?_
  refine we_seq fun K3 hK3 => ?_
  refine we_region [(0, 0), (1, 1), (2, 1), (3, 2)] rfl ?_
  rcases hq1 : sched_Check.f K l0 with _ | r1
  · rw [hq1] at h; cases h
  rw [hq1] at h
  simp only [] at h
  refine ge_batch [0] (ans := [.val (.slice A0 l0.length c0)]) (vs := [(15, .slice A0 l0.length c0)]) (l := [.loaded ⟨b1, 0, none⟩ (.slice A0 l0.length c0)]) (by kernel_rfl) ⟨hS2.cell 1 rfl rfl, trivial⟩ ?_
  refine ge_call (d := some 16) (f := 21) (args := #[.slice A0 l0.length c0]) (by kernel_rfl) (sched_Check_ok K l0 A0 c0 _ (hS2.rd hR0) hL0 _ hq1) ?_
  rintro _ w3 ⟨rfl, hS3⟩
  refine ⟨_, rfl, hS3.below, ?_⟩
  have hS4 := hS2.call hS3
  refine ge_new (d := some 5) (o := .cells #[.int .i64 0, .int .i64 0] 29) (v := fun b => .pointer (some ⟨b, 0, none⟩)) hS4 (fun b => by kernel_rfl) fun b3 w4 hx3 hS5 => ?_
  refine ge_set (b := b3) (j := 0) (cs := #[.int .i64 0, .int .i64 0]) (t := 29) (vs := [.int .i64 r1.Code, .int .i64 r1.At]) hS5 (by kernel_rfl) rfl rfl fun w5 hS6 => ?_
  have hS7 : St w0 w5 [Own.blk b3 (.cells #[.int .i64 r1.Code, .int .i64 r1.At] 29 (0, 0)), Own.blk b2 (.cells #[.int .i64 0, .int .i64 0] 29 (0, 0)), Own.blk b1 (.cells #[.slice A0 l0.length c0] 32 (0, 0))] := hS6
  refine ge_nil fun a hF => hK3 _ _ ?_ a hF
  refine we_seq fun K4 hK4 => ?_
  refine we_region [(0, 0), (1, 0), (2, 0)] rfl ?_
  refine ge_batch [0, 1, 2] (ans := [.val (.int .i64 r1.Code)]) (vs := [(19, .bool (r1.Code != 0)), (18, .int .i64 r1.Code), (17, .pointer (some ⟨b3, 0, none⟩))]) (l := [.loaded ⟨b3, 0, none⟩ (.int .i64 r1.Code)]) (by kernel_rfl) ⟨hS7.cell 0 rfl rfl, trivial⟩ ?_
  refine ge_nil fun a hF => hK4 _ _ ?_ a hF
  by_cases hc1 : r1.Code = 0
  · rw [if_pos hc1] at h
    refine we_known (t := 19) (b := (r1.Code != 0)) (v := false) (by kernel_rfl) (bne_eq_false_iff_eq.2 hc1) ?_
    refine we_false (by kernel_rfl) ?_
    refine we_skip fun a hF => hK2 _ _ ?_ a hF
    refine we_seq fun K5 hK5 => ?_
    refine we_region [(0, 0), (1, 0), (2, 1), (3, 0)] rfl ?_
    refine ge_batch [0, 1] (ans := [.val (.slice A0 l0.length c0)]) (vs := [(22, .int .i64 (l0.length : Int)), (21, .slice A0 l0.length c0)]) (l := [.loaded ⟨b1, 0, none⟩ (.slice A0 l0.length c0)]) (by kernel_rfl) ⟨hS7.cell 2 rfl rfl, trivial⟩ ?_
    by_cases hc2 : l0.length ≤ 17592186044416
    · rw [if_pos hc2] at h
      refine ge_make (α := Int) (d := 23) (t := 24) (el := 3) (bytes := 8) (l := l0.length) (c := l0.length) (x := (.tmp 22)) (y := (.tmp 22)) (ty := 24) (k1 := .i64) (k2 := .i64) (li := (l0.length : Int)) (ci := (l0.length : Int)) (z := .int .i64 0) (z' := (0 : Int)) (by kernel_rfl) (by kernel_rfl) (by kernel_rfl) rfl rfl (by kernel_rfl) (by kernel_rfl) rfl hS7 (Nat.le_refl _) rfl (by omega) fun v1 w6 _ hS8 => ?_
      refine ge_batch [3] (ans := []) (vs := [(6, v1)]) (l := []) (by kernel_rfl) trivial ?_
      refine ge_nil fun a hF => hK5 _ _ ?_ a hF
      refine we_seq fun K6 hK6 => ?_
      refine we_seq fun K7 hK7 => ?_
      refine we_region [(0, 0), (1, 0), (2, 0)] rfl ?_
      refine ge_batch [0] (ans := []) (vs := [(24, v1)]) (l := []) (by kernel_rfl) trivial ?_
      obtain ⟨Z1, cz1, rfl⟩ := hS8.open 0 rfl
      refine ge_batch [1, 2] (ans := []) (vs := [(26, .int .i64 0), (25, .int .i64 ((List.replicate l0.length (0 : Int)).length : Int))]) (l := []) (by kernel_rfl) trivial ?_
      refine ge_nil fun a hF => hK7 _ _ ?_ a hF
      refine we_block ?_
      have hS9 := hS8.bring 3 rfl
      have hS10 := hS9.bring 3 rfl
      have hS11 := hS10.takeN 3
      rcases hq2 : iter (edf_Judge.r0 l0) K (0, (List.replicate l0.length (0 : Int))) with _ | (m3 | rr3)
      · rw [hq2] at h; cases h
      · rw [hq2] at h
        simp only [] at h
        refine we_iter (A := edf_Judge.A0 K w0 l0 A0 c0 hR0 hL0 b1 b2 r1 b3 hc1 hc2 Z1 cz1) (B := edf_Judge.B0 K w0 l0 A0 c0 hR0 hL0 b1 b2 r1 b3 hc1 hc2 Z1 cz1) hq2 (fun a hF => ⟨hS11, hF.weaken ⟨by kernel_rfl, by kernel_rfl, by kernel_rfl, by kernel_rfl, by kernel_rfl, by kernel_rfl, by kernel_rfl, trivial⟩⟩) (fun s o hf a w hA Q hQ => edf_Judge_r0 K w0 l0 A0 c0 hR0 hL0 b1 b2 r1 b3 hc1 hc2 Z1 cz1 s o hf a w hA Q hQ) ?_
        rintro _ a w8 _ ⟨rfl, hS21, hF⟩
        replace hS21 : St w0 w8 [Own.blk b2 (.cells #[.int .i64 0, .int .i64 0] 29 (0, 0)), Own.blk b1 (.cells #[.slice A0 l0.length c0] 32 (0, 0)), Own.of (.slice Z1 m3.length cz1) 3 m3] := hS21
        refine hK6 [(1, .pointer (some ⟨b1, 0, none⟩)), (2, .int .i64 0), (3, .int .i64 0), (4, .pointer (some ⟨b2, 0, none⟩)), (6, (.slice Z1 m3.length cz1))] w8 ?_ a hF
        refine we_seq fun K12 hK12 => ?_
        refine we_region [(0, 0), (1, 0), (2, 2)] rfl ?_
        refine ge_batch [0, 1] (ans := []) (vs := [(35, .func (.func 45) #[] #[.pointer (some ⟨b1, 0, none⟩)]), (34, (.slice Z1 m3.length cz1))]) (l := []) (by kernel_rfl) trivial ?_
        rcases hq3 : sortF (fun x y => edf_Judge_1.f K x y l0) m3 with _ | r2
        · rw [hq3] at h; cases h
        rw [hq3] at h
        simp only [] at h
        have hS22 := hS21.bring 2 rfl
        refine ge_call2 (m := 0) (d := some 36) (f := 44) (args := #[(.slice Z1 m3.length cz1), .func (.func 45) #[] #[.pointer (some ⟨b1, 0, none⟩)]]) (by kernel_rfl) (sort_calls lay_sort 45 (enters_of (show Try.prog.funcs[45]? = some Try.f45 from by kernel_rfl) (by kernel_rfl) rfl) (cmp := (fun x y => edf_Judge_1.f K x y l0)) hS22 hq3 (fun W k hk hW x y r hr => (D.edf_Judge_1_ok K x y b1 l0 A0 c0 W (hW.rd hR0) hL0 (hW.globOf 2 rfl) _ hr).mono fun e w' ⟨h1, h2⟩ => ⟨h1, h2.below⟩)) ?_
        rintro _ w9 ⟨rfl, hS23⟩
        refine ⟨_, rfl, ?_⟩
        have hE2 := sortF_len hq3
        refine ge_same (t := 6) (v := (.slice Z1 m3.length cz1)) (v' := (.slice Z1 r2.length cz1)) (by kernel_rfl) (by rw [hE2]) ?_
        refine ge_same (t := 34) (v := (.slice Z1 m3.length cz1)) (v' := (.slice Z1 r2.length cz1)) (by kernel_rfl) (by rw [hE2]) ?_
        refine ge_nil fun a hF => hK12 _ _ ?_ a hF
        refine we_seq fun K13 hK13 => ?_
        refine we_region [(0, 0)] rfl ?_
        refine ge_batch [0] (ans := []) (vs := [(8, .bool false)]) (l := []) (by kernel_rfl) trivial ?_
        refine ge_nil fun a hF => hK13 _ _ ?_ a hF
        refine we_seq fun K14 hK14 => ?_
        refine we_seq fun K15 hK15 => ?_
        refine we_region [(0, 0), (1, 0), (2, 0)] rfl ?_
        refine ge_batch [0, 1, 2] (ans := [.val (.slice A0 l0.length c0)]) (vs := [(39, .int .i64 0), (38, .int .i64 (l0.length : Int)), (37, .slice A0 l0.length c0)]) (l := [.loaded ⟨b1, 0, none⟩ (.slice A0 l0.length c0)]) (by kernel_rfl) ⟨hS23.cell 2 rfl rfl, trivial⟩ ?_
        refine ge_nil fun a hF => hK15 _ _ ?_ a hF
        refine we_block ?_
        have hS24 := hS23.bring 2 rfl
        have hS25 := hS24.bring 2 rfl
        rcases hq5 : iter (edf_Judge.r1 K l0 r2) K (0, 0, false, 0) with _ | (⟨z13, z14, q6⟩ | rr2)
        · rw [hq5] at h; cases h
        · rw [hq5] at h
          simp only [] at h
          refine we_iter (A := edf_Judge.A1 K w0 l0 A0 c0 hR0 hL0 b1 b2 r1 b3 hc1 hc2 Z1 cz1 m3 r2) (B := edf_Judge.B1 K w0 l0 A0 c0 hR0 hL0 b1 b2 r1 b3 hc1 hc2 Z1 cz1 m3 r2) hq5 (fun a hF => ⟨hS25, hF.weaken ⟨by kernel_rfl, by kernel_rfl, by kernel_rfl, by kernel_rfl, by kernel_rfl, by kernel_rfl, by kernel_rfl, by kernel_rfl, by kernel_rfl, trivial⟩⟩) (fun s o hf a w hA Q hQ => edf_Judge_r1 K w0 l0 A0 c0 hR0 hL0 b1 b2 r1 b3 hc1 hc2 Z1 cz1 m3 r2 s o hf a w hA Q hQ) ?_
          rintro _ a w13 _ ⟨rfl, hS71, hF⟩
          replace hS71 : St w0 w13 [Own.blk b2 (.cells #[.int .i64 0, .int .i64 0] 29 (0, 0))] := hS71
          refine hK14 [(2, .int .i64 z13), (3, .int .i64 z14), (4, .pointer (some ⟨b2, 0, none⟩)), (8, .bool q6)] w13 ?_ a hF
          refine we_seq fun K31 hK31 => ?_
          refine we_seq fun K32 hK32 => ?_
          refine we_region [(0, 0)] rfl ?_
          refine ge_batch [0] (ans := []) (vs := [(101, .bool q6)]) (l := []) (by kernel_rfl) trivial ?_
          refine ge_nil fun a hF => hK32 _ _ ?_ a hF
          by_cases hc14 : q6 = true
          · rw [if_pos hc14] at h
            refine we_known (t := 101) (b := q6) (v := true) (by kernel_rfl) hc14 ?_
            refine we_true (by kernel_rfl) ?_
            refine we_seq fun K33 hK33 => ?_
            refine we_region [(0, 0), (1, 0), (2, 0), (3, 0), (4, 0), (5, 2)] rfl ?_
            refine ge_batch [0, 1, 2, 3, 4] (ans := []) (vs := [(3, .int .i64 z14), (2, .int .i64 z13), (104, .agg #[.int .i64 13, .int .i64 0]), (103, .int .i64 z14), (102, .int .i64 z13)]) (l := []) (by kernel_rfl) trivial ?_
            refine ge_set (b := b2) (j := 0) (cs := #[.int .i64 0, .int .i64 0]) (t := 29) (vs := [.int .i64 13, .int .i64 0]) hS71 (by kernel_rfl) rfl rfl fun w14 hS72 => ?_
            have hS73 : St w0 w14 [Own.blk b2 (.cells #[.int .i64 13, .int .i64 0] 29 (0, 0))] := hS72
            refine ge_nil fun a hF => hK33 _ _ ?_ a hF
            have hS74 := hS73.takeN 0
            obtain rfl := Option.some.inj h
            exact we_ret (post_ret (rs := [.tmp 2, .tmp 3, .cell 4 29]) (ans := [.val (.int .i64 13), .val (.int .i64 0)]) (vs := [.int .i64 z13, .int .i64 z14, .agg #[.int .i64 13, .int .i64 0]]) (l := [.loaded ⟨b2, 0, none⟩ (.int .i64 13), .loaded ⟨b2, 1, none⟩ (.int .i64 0)]) rfl (by kernel_rfl) ⟨hS73.cell 0 rfl rfl, hS73.cell 0 rfl rfl, trivial⟩ ⟨rfl, hS74⟩)
          · rw [if_neg hc14] at h
            refine we_known (t := 101) (b := q6) (v := false) (by kernel_rfl) (Bool.eq_false_iff.2 hc14) ?_
            refine we_false (by kernel_rfl) ?_
            refine we_skip fun a hF => hK31 _ _ ?_ a hF
            refine we_seq fun K34 hK34 => ?_
            refine we_region [(0, 0), (1, 0), (2, 0), (3, 2)] rfl ?_
            refine ge_batch [0, 1, 2] (ans := []) (vs := [(3, .int .i64 0), (2, .int .i64 0), (105, .agg #[.int .i64 0, .int .i64 0])]) (l := []) (by kernel_rfl) trivial ?_
            refine ge_set (b := b2) (j := 0) (cs := #[.int .i64 0, .int .i64 0]) (t := 29) (vs := [.int .i64 0, .int .i64 0]) hS71 (by kernel_rfl) rfl rfl fun w15 hS75 => ?_
            have hS76 : St w0 w15 [Own.blk b2 (.cells #[.int .i64 0, .int .i64 0] 29 (0, 0))] := hS75
            refine ge_nil fun a hF => hK34 _ _ ?_ a hF
            have hS77 := hS76.takeN 0
            obtain rfl := Option.some.inj h
            exact we_ret (post_ret (rs := [.tmp 2, .tmp 3, .cell 4 29]) (ans := [.val (.int .i64 0), .val (.int .i64 0)]) (vs := [.int .i64 0, .int .i64 0, .agg #[.int .i64 0, .int .i64 0]]) (l := [.loaded ⟨b2, 0, none⟩ (.int .i64 0), .loaded ⟨b2, 1, none⟩ (.int .i64 0)]) rfl (by kernel_rfl) ⟨hS76.cell 0 rfl rfl, hS76.cell 0 rfl rfl, trivial⟩ ⟨rfl, hS77⟩)
        · rw [hq5] at h
          simp only [] at h
          refine we_iter (A := edf_Judge.A1 K w0 l0 A0 c0 hR0 hL0 b1 b2 r1 b3 hc1 hc2 Z1 cz1 m3 r2) (B := edf_Judge.B1 K w0 l0 A0 c0 hR0 hL0 b1 b2 r1 b3 hc1 hc2 Z1 cz1 m3 r2) hq5 (fun a hF => ⟨hS25, hF.weaken ⟨by kernel_rfl, by kernel_rfl, by kernel_rfl, by kernel_rfl, by kernel_rfl, by kernel_rfl, by kernel_rfl, by kernel_rfl, by kernel_rfl, trivial⟩⟩) (fun s o hf a w hA Q hQ => edf_Judge_r1 K w0 l0 A0 c0 hR0 hL0 b1 b2 r1 b3 hc1 hc2 Z1 cz1 m3 r2 s o hf a w hA Q hQ) ?_
          rintro _ a w1 _ ⟨rfl, hb⟩
          obtain rfl := Option.some.inj h
          exact hb
      · rw [hq2] at h
        simp only [] at h
        refine we_iter (A := edf_Judge.A0 K w0 l0 A0 c0 hR0 hL0 b1 b2 r1 b3 hc1 hc2 Z1 cz1) (B := edf_Judge.B0 K w0 l0 A0 c0 hR0 hL0 b1 b2 r1 b3 hc1 hc2 Z1 cz1) hq2 (fun a hF => ⟨hS11, hF.weaken ⟨by kernel_rfl, by kernel_rfl, by kernel_rfl, by kernel_rfl, by kernel_rfl, by kernel_rfl, by kernel_rfl, trivial⟩⟩) (fun s o hf a w hA Q hQ => edf_Judge_r0 K w0 l0 A0 c0 hR0 hL0 b1 b2 r1 b3 hc1 hc2 Z1 cz1 s o hf a w hA Q hQ) ?_
        rintro _ a w1 _ ⟨rfl, hb⟩
        obtain rfl := Option.some.inj h
        exact hb
    · rw [if_neg hc2] at h
      cases h
  · rw [if_neg hc1] at h
    refine we_known (t := 19) (b := (r1.Code != 0)) (v := true) (by kernel_rfl) (bne_iff_ne.2 hc1) ?_
    refine we_true (by kernel_rfl) ?_
    refine we_seq fun K35 hK35 => ?_
    refine we_draws (by kernel_rfl) [(0, 0), (1, 0), (2, 0), (3, 2)] (by kernel_rfl) ?_
    have hS78 := hS7.drew
    refine ge_batch [0, 1, 2] (ans := [.val (.int .i64 r1.Code), .val (.int .i64 r1.At)]) (vs := [(3, .int .i64 0), (2, .int .i64 0), (20, .agg #[.int .i64 r1.Code, .int .i64 r1.At])]) (l := [.loaded ⟨b3, 0, none⟩ (.int .i64 r1.Code), .loaded ⟨b3, 1, none⟩ (.int .i64 r1.At)]) (by kernel_rfl) ⟨hS78.cell 0 rfl rfl, hS78.cell 0 rfl rfl, trivial⟩ ?_
    have hS79 := hS78.bring 1 rfl
    refine ge_set (b := b2) (j := 0) (cs := #[.int .i64 0, .int .i64 0]) (t := 29) (vs := [.int .i64 r1.Code, .int .i64 r1.At]) hS79 (by kernel_rfl) rfl rfl fun w16 hS80 => ?_
    have hS81 : St w0 w16 [Own.blk b2 (.cells #[.int .i64 r1.Code, .int .i64 r1.At] 29 (0, 0)), Own.blk b3 (.cells #[.int .i64 r1.Code, .int .i64 r1.At] 29 (0, 0)), Own.blk b1 (.cells #[.slice A0 l0.length c0] 32 (0, 0))] := hS80
    refine ge_nil fun a hF => hK35 _ _ ?_ a hF
    have hS82 := hS81.takeN 0
    obtain rfl := Option.some.inj h
    exact we_ret (post_ret (rs := [.tmp 2, .tmp 3, .cell 4 29]) (ans := [.val (.int .i64 r1.Code), .val (.int .i64 r1.At)]) (vs := [.int .i64 0, .int .i64 0, .agg #[.int .i64 r1.Code, .int .i64 r1.At]]) (l := [.loaded ⟨b2, 0, none⟩ (.int .i64 r1.Code), .loaded ⟨b2, 1, none⟩ (.int .i64 r1.At)]) rfl (by kernel_rfl) ⟨hS81.cell 0 rfl rfl, hS81.cell 0 rfl rfl, trivial⟩ ⟨rfl, hS82⟩)
end Go.Proofs.Ytlipdmblinjjaaa.GV
