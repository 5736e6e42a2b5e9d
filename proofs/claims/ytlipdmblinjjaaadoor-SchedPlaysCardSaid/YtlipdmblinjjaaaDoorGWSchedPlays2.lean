/- Walks of single functions, written by a program of this work. -/
import Derived.Test.YtlipdmblinjjaaaDoorGWSchedPlays1
namespace Go.Proofs.YtlipdmblinjjaaaDoor.GV
open Go Go.RowKit
set_option linter.unusedVariables false
set_option linter.unusedSimpArgs false
set_option maxRecDepth 100000

/-! punctual/sched.Late -/
abbrev sched_Late.Post (w0 : World) (r : (List Int) × SFault) (e : Ending) (w : World) : Prop := ∃ (v0 : Value), e = .returned (.tuple #[v0, .agg #[.int .i64 r.2.Code, .int .i64 r.2.At]]) ∧ St w0 w [Own.of v0 3 r.1]
def sched_Late.r0 (l0 : List SJob) (l1_0 : List Int) (l1_1 : List Int) : (List Int) × Nat → Option (((List Int) × Nat) ⊕ ((List Int) ⊕ ((List Int) × SFault)))
  | (m1, i1) =>
    if (i1 : Int) < (l0.length : Int) then
      match l0[i1]? with
      | none => none
      | some e1 =>
        match l1_1[i1]? with
        | none => none
        | some e2 =>
          if e2 > e1.Due then
            if m1.length < 17592186044416 then
              some (.inl ((m1 ++ [(i1 : Int)]), (i1 + 1)))
            else
              none
          else
            if e2 < 0 then
              if e1.Due ≤ (l1_0.length : Int) then
                if m1.length < 17592186044416 then
                  some (.inl ((m1 ++ [(i1 : Int)]), (i1 + 1)))
                else
                  none
              else
                some (.inl (m1, (i1 + 1)))
            else
              some (.inl (m1, (i1 + 1)))
    else
      some (.inr (.inl m1))
def sched_Late.f (K : Nat) (l0 : List SJob) (l1_0 : List Int) (l1_1 : List Int) : Option ((List Int) × SFault) :=
  if (l1_1.length : Int) = (l0.length : Int) then
    match iter (sched_Late.r0 l0 l1_0 l1_1) K (([] : List Int), 0) with
    | none => none
    | some (.inl m3) =>
      some (m3, (⟨0, 0⟩ : SFault))
    | some (.inr rr1) =>
      some rr1
  else
    some (([] : List Int), (⟨2, 0⟩ : SFault))
abbrev sched_Late.A0 (K : Nat) (w0 : World) (l0 : List SJob) (A0 : Option Addr) (c0 : Nat) (l1_0 : List Int) (A1_0 : Option Addr) (c1_0 : Nat) (l1_1 : List Int) (A1_1 : Option Addr) (c1_1 : Nat) (hR0 : RdL w0 A0 l0) (hL0 : l0.length ≤ c0) (hR1_0 : RdL w0 A1_0 l1_0) (hL1_0 : l1_0.length ≤ c1_0) (hR1_1 : RdL w0 A1_1 l1_1) (hL1_1 : l1_1.length ≤ c1_1) (b1 : Nat) (b2 : Nat) (hc1 : (l1_1.length : Int) = (l0.length : Int)) : ((List Int) × Nat) → Act → World → Prop := fun (s : (List Int) × Nat) a w => ∃ (v1 : Value), St w0 w [Own.blk b2 (.cells #[.int .i64 0, .int .i64 0] 26 (0, 0)), Own.blk b1 (.cells #[.slice A1_0 l1_0.length c1_0, .slice A1_1 l1_1.length c1_1] 32 (0, 0)), Own.of v1 3 s.1] ∧ Frm 52 a [(3, .pointer (some ⟨b1, 0, none⟩)), (5, .pointer (some ⟨b2, 0, none⟩)), (6, v1), (17, .slice A0 l0.length c0), (18, .int .i64 (l0.length : Int)), (19, .int .i64 (s.2 : Int))]
abbrev sched_Late.B0 (K : Nat) (w0 : World) (l0 : List SJob) (A0 : Option Addr) (c0 : Nat) (l1_0 : List Int) (A1_0 : Option Addr) (c1_0 : Nat) (l1_1 : List Int) (A1_1 : Option Addr) (c1_1 : Nat) (hR0 : RdL w0 A0 l0) (hL0 : l0.length ≤ c0) (hR1_0 : RdL w0 A1_0 l1_0) (hL1_0 : l1_0.length ≤ c1_0) (hR1_1 : RdL w0 A1_1 l1_1) (hL1_1 : l1_1.length ≤ c1_1) (b1 : Nat) (b2 : Nat) (hc1 : (l1_1.length : Int) = (l0.length : Int)) : ((List Int) ⊕ ((List Int) × SFault)) → Exit → Act → World → Prop := Exits 0 (fun (s : (List Int)) a w => ∃ (v2 : Value), St w0 w [Own.blk b2 (.cells #[.int .i64 0, .int .i64 0] 26 (0, 0)), Own.of v2 3 s] ∧ Frm 52 a [(5, .pointer (some ⟨b2, 0, none⟩)), (6, v2)]) (Rets Tryd.prog Tryd.f11 (sched_Late.Post w0))
theorem sched_Late_r0 (K : Nat) (w0 : World) (l0 : List SJob) (A0 : Option Addr) (c0 : Nat) (l1_0 : List Int) (A1_0 : Option Addr) (c1_0 : Nat) (l1_1 : List Int) (A1_1 : Option Addr) (c1_1 : Nat) (hR0 : RdL w0 A0 l0) (hL0 : l0.length ≤ c0) (hR1_0 : RdL w0 A1_0 l1_0) (hL1_0 : l1_0.length ≤ c1_0) (hR1_1 : RdL w0 A1_1 l1_1) (hL1_1 : l1_1.length ≤ c1_1) (b1 : Nat) (b2 : Nat) (hc1 : (l1_1.length : Int) = (l0.length : Int)) (s : (List Int) × Nat) (o : ((List Int) × Nat) ⊕ ((List Int) ⊕ ((List Int) × SFault))) (h : sched_Late.r0 l0 l1_0 l1_1 s = some o) (a : Act) (w : World) (hA : sched_Late.A0 K w0 l0 A0 c0 l1_0 A1_0 c1_0 l1_1 A1_1 c1_1 hR0 hL0 hR1_0 hL1_0 hR1_1 hL1_1 b1 b2 hc1 s a w) (Q : Exit → Act → World → Prop) (hQ : ∀ x a w, Outs (sched_Late.A0 K w0 l0 A0 c0 l1_0 A1_0 c1_0 l1_1 A1_1 c1_1 hR0 hL0 hR1_0 hL1_0 hR1_1 hL1_1 b1 b2 hc1) (sched_Late.B0 K w0 l0 A0 c0 l1_0 A1_0 c1_0 l1_1 A1_1 c1_1 hR0 hL0 hR1_0 hL1_0 hR1_1 hL1_1 b1 b2 hc1) o x a w → Q x a w) : (subF Tryd.f11 [1, 1, 1, 0, 1, 0, 0]).wp Tryd.prog Q a w := by
  obtain ⟨m1, i1⟩ := s
  obtain ⟨v1, hS, hF⟩ := hA
  replace hS : St w0 w [Own.blk b2 (.cells #[.int .i64 0, .int .i64 0] 26 (0, 0)), Own.blk b1 (.cells #[.slice A1_0 l1_0.length c1_0, .slice A1_1 l1_1.length c1_1] 32 (0, 0)), Own.of v1 3 m1] := hS
  simp only [sched_Late.r0] at h
  refine (?_ : WE Tryd.prog 52 (subF Tryd.f11 [1, 1, 1, 0, 1, 0, 0]) Q [(3, .pointer (some ⟨b1, 0, none⟩)), (5, .pointer (some ⟨b2, 0, none⟩)), (6, v1), (17, .slice A0 l0.length c0), (18, .int .i64 (l0.length : Int)), (19, .int .i64 (i1 : Int))] w) a hF
  clear hF a
  refine we_seq fun K7 hK7 => ?_
  refine we_region [(0, 0)] rfl ?_
  refine ge_batch [0] (ans := []) (vs := [(20, .bool (decide ((i1 : Int) < (l0.length : Int))))]) (l := []) (by kernel_rfl) trivial ?_
  refine ge_nil fun a hF => hK7 _ _ ?_ a hF
  refine we_seq fun K8 hK8 => ?_
  by_cases hc2 : (i1 : Int) < (l0.length : Int)
  · rw [if_pos hc2] at h
    refine we_known (t := 20) (b := decide ((i1 : Int) < (l0.length : Int))) (v := true) (by kernel_rfl) (decide_eq_true hc2) ?_
    refine we_true (by kernel_rfl) ?_
    refine we_skip fun a hF => hK8 _ _ ?_ a hF
    refine we_seq fun K9 hK9 => ?_
    refine we_block ?_
    refine we_seq fun K10 hK10 => ?_
    refine we_region [(0, 0), (1, 0), (2, 0), (3, 1), (4, 0), (5, 2)] rfl ?_
    refine ge_batch [0] (ans := []) (vs := [(21, .int .i64 (i1 : Int))]) (l := []) (by kernel_rfl) trivial ?_
    rcases hx3 : l0[i1]? with _ | e1
    · rw [hx3] at h; cases h
    rw [hx3] at h
    simp only [] at h
    refine ge_index (d := 22) (ty := 0) (t := 22) (el := 30) (sz := 5) (m := l0.length) (c := c0) (x := (.tmp 17)) (y := (.tmp 19)) (A := A0) (k' := .i64) (j := (i1 : Int)) (jn := i1) (b0 := blkOf A0) (o0 := offOf A0) (by kernel_rfl) (by kernel_rfl) (by kernel_rfl) (by kernel_rfl) (by kernel_rfl) ((hS.rd hR0).eqSome (pos_of_get hx3)) rfl (lt_of_get hx3) ?_
    refine ge_batch [2] (ans := [.val (.int .i64 e1.Task), .val (.int .i64 e1.At), .val (.int .i64 e1.C), .val (.int .i64 e1.Due), .val (.int .i64 e1.P)]) (vs := [(23, .agg #[.int .i64 e1.Task, .int .i64 e1.At, .int .i64 e1.C, .int .i64 e1.Due, .int .i64 e1.P])]) (l := [.loaded ⟨blkOf A0, offOf A0 + i1 * 5, none⟩ (.int .i64 e1.Task), .loaded ⟨blkOf A0, offOf A0 + i1 * 5 + 1, none⟩ (.int .i64 e1.At), .loaded ⟨blkOf A0, offOf A0 + i1 * 5 + 2, none⟩ (.int .i64 e1.C), .loaded ⟨blkOf A0, offOf A0 + i1 * 5 + 3, none⟩ (.int .i64 e1.Due), .loaded ⟨blkOf A0, offOf A0 + i1 * 5 + 4, none⟩ (.int .i64 e1.P)]) (by kernel_rfl) ⟨RdL.cell (j := 0) (hS.rd hR0) hx3 rfl, RdL.cell (j := 1) (hS.rd hR0) hx3 rfl, RdL.cell (j := 2) (hS.rd hR0) hx3 rfl, RdL.cell (j := 3) (hS.rd hR0) hx3 rfl, RdL.cell (j := 4) (hS.rd hR0) hx3 rfl, trivial⟩ ?_
    refine ge_new (d := some 8) (o := .cells #[.int .i64 0, .int .i64 0, .int .i64 0, .int .i64 0, .int .i64 0] 30) (v := fun b => .pointer (some ⟨b, 0, none⟩)) hS (fun b => by kernel_rfl) fun b3 w3 hx4 hS6 => ?_
    refine ge_batch [4] (ans := []) (vs := [(7, .int .i64 (i1 : Int))]) (l := []) (by kernel_rfl) trivial ?_
    refine ge_set (b := b3) (j := 0) (cs := #[.int .i64 0, .int .i64 0, .int .i64 0, .int .i64 0, .int .i64 0]) (t := 30) (vs := [.int .i64 e1.Task, .int .i64 e1.At, .int .i64 e1.C, .int .i64 e1.Due, .int .i64 e1.P]) hS6 (by kernel_rfl) rfl rfl fun w4 hS7 => ?_
    have hS8 : St w0 w4 [Own.blk b3 (.cells #[.int .i64 e1.Task, .int .i64 e1.At, .int .i64 e1.C, .int .i64 e1.Due, .int .i64 e1.P] 30 (0, 0)), Own.blk b2 (.cells #[.int .i64 0, .int .i64 0] 26 (0, 0)), Own.blk b1 (.cells #[.slice A1_0 l1_0.length c1_0, .slice A1_1 l1_1.length c1_1] 32 (0, 0)), Own.of v1 3 m1] := hS7
    refine ge_nil fun a hF => hK10 _ _ ?_ a hF
    refine we_seq fun K11 hK11 => ?_
    refine we_region [(0, 0), (1, 0), (2, 0), (3, 0), (4, 0), (5, 0)] rfl ?_
    refine ge_batch [0, 1, 2] (ans := [.val (.slice A1_1 l1_1.length c1_1)]) (vs := [(26, .int .i64 (i1 : Int)), (25, .slice A1_1 l1_1.length c1_1), (24, .pointer (some ⟨b1, 1, none⟩))]) (l := [.loaded ⟨b1, 1, none⟩ (.slice A1_1 l1_1.length c1_1)]) (by kernel_rfl) ⟨hS8.cell 2 rfl rfl, trivial⟩ ?_
    rcases hx5 : l1_1[i1]? with _ | e2
    · rw [hx5] at h; cases h
    rw [hx5] at h
    simp only [] at h
    refine ge_index (d := 27) (ty := 0) (t := 23) (el := 3) (sz := 1) (m := l1_1.length) (c := c1_1) (x := (.tmp 25)) (y := (.tmp 26)) (A := A1_1) (k' := .i64) (j := (i1 : Int)) (jn := i1) (b0 := blkOf A1_1) (o0 := offOf A1_1) (by kernel_rfl) (by kernel_rfl) (by kernel_rfl) (by kernel_rfl) (by kernel_rfl) ((hS8.rd hR1_1).eqSome (pos_of_get hx5)) rfl (lt_of_get hx5) ?_
    refine ge_batch [4, 5] (ans := [.val (.int .i64 e2)]) (vs := [(9, .int .i64 e2), (28, .int .i64 e2)]) (l := [.loaded ⟨blkOf A1_1, offOf A1_1 + i1 * 1, none⟩ (.int .i64 e2)]) (by kernel_rfl) ⟨RdL.cell (j := 0) (hS8.rd hR1_1) hx5 rfl, trivial⟩ ?_
    refine ge_nil fun a hF => hK11 _ _ ?_ a hF
    refine we_seq fun K12 hK12 => ?_
    refine we_region [(0, 0), (1, 0), (2, 0), (3, 0), (4, 0), (5, 0), (6, 0), (7, 0), (8, 0), (9, 0), (10, 0), (11, 0), (12, 0), (13, 0), (14, 0), (15, 0)] rfl ?_
    refine ge_batch [0, 1, 2, 3, 4] (ans := [.val (.int .i64 e1.Due)]) (vs := [(33, .bool (decide (e2 > e1.Due))), (32, .bool (decide (e2 > e1.Due))), (31, .int .i64 e1.Due), (30, .pointer (some ⟨b3, 3, none⟩)), (29, .int .i64 e2)]) (l := [.loaded ⟨b3, 3, none⟩ (.int .i64 e1.Due)]) (by kernel_rfl) ⟨hS8.cell 0 rfl rfl, trivial⟩ ?_
    by_cases hc3 : e2 > e1.Due
    · rw [if_pos hc3] at h
      refine ge_known (t := 33) (b := decide (e2 > e1.Due)) (c := true) (by kernel_rfl) (decide_eq_true hc3) ?_
      refine ge_batch [5, 6, 7, 8, 9, 10, 11, 12, 13, 14, 15] (ans := []) (vs := [(44, .bool true), (43, undef), (42, undef), (41, undef), (40, undef), (39, undef), (38, undef), (37, undef), (36, undef), (35, undef), (34, undef)]) (l := []) (by kernel_rfl) trivial ?_
      refine ge_nil fun a hF => hK12 _ _ ?_ a hF
      refine we_true (by kernel_rfl) ?_
      refine we_region [(0, 0), (1, 0), (2, 1), (3, 2), (4, 0)] rfl ?_
      refine ge_batch [0, 1] (ans := []) (vs := [(46, .int .i64 (i1 : Int)), (45, v1)]) (l := []) (by kernel_rfl) trivial ?_
      refine ge_new (d := some 47) (o := .cells #[.int .i64 (i1 : Int)] 3) (v := fun b => .slice (some ⟨b, 0, none⟩) 1 1) hS8 (fun b => by kernel_rfl) fun b4 w5 hx6 hS9 => ?_
      have hS10 := hS9.bring 4 rfl
      by_cases hc4 : m1.length < 17592186044416
      · rw [if_pos hc4] at h
        refine ge_append (α := Int) (m := 0) (d := 48) (t := 23) (el := 3) (bytes := 8) (c1 := 1) (b1 := b4) (x := (.tmp 45)) (y := (.tmp 47)) (ty := 23) (v := v1) (z := .int .i64 0) (l := m1) (u := (i1 : Int)) (by kernel_rfl) (by kernel_rfl) (by kernel_rfl) (by kernel_rfl) (by kernel_rfl) rfl hS10 rfl (by omega) fun v3 w6 hS11 => ?_
        refine ge_batch [4] (ans := []) (vs := [(6, v3)]) (l := []) (by kernel_rfl) trivial ?_
        refine ge_nil fun a hF => hK9 _ _ ?_ a hF
        refine we_region [(0, 0), (1, 0)] rfl ?_
        refine ge_addn (d := 49) (ty := 3) (x := (.tmp 19)) (y := (.const (.int .i64 1))) (t := 3) (t2 := 3) (k := .i64) (m := i1) (by kernel_rfl) (by kernel_rfl) (by kernel_rfl) (by have h0 := hR0.small; omega) ?_
        refine ge_batch [1] (ans := []) (vs := [(19, .int .i64 ((i1 + 1 : Nat) : Int))]) (l := []) (by kernel_rfl) trivial ?_
        have hS12 := hS11.bring 3 rfl
        have hS13 := hS12.bring 3 rfl
        have hS14 := hS13.takeN 3
        obtain rfl := Option.some.inj h
        exact ge_nil fun a hF => hQ _ _ _ (Outs.again ⟨v3, hS14, hF.weaken ⟨by kernel_rfl, by kernel_rfl, by kernel_rfl, by kernel_rfl, by kernel_rfl, by kernel_rfl, trivial⟩⟩)
      · rw [if_neg hc4] at h
        cases h
    · rw [if_neg hc3] at h
      refine ge_known (t := 33) (b := decide (e2 > e1.Due)) (c := false) (by kernel_rfl) (decide_eq_false hc3) ?_
      refine ge_batch [5, 6, 7] (ans := []) (vs := [(36, .bool (decide (e2 < 0))), (35, .bool (decide (e2 < 0))), (34, .int .i64 e2)]) (l := []) (by kernel_rfl) trivial ?_
      by_cases hc5 : e2 < 0
      · rw [if_pos hc5] at h
        refine ge_known (t := 36) (b := decide (e2 < 0)) (c := true) (by kernel_rfl) (decide_eq_true hc5) ?_
        refine ge_batch [8, 9, 10, 11, 12, 13, 14, 15] (ans := [.val (.int .i64 e1.Due), .val (.slice A1_0 l1_0.length c1_0)]) (vs := [(44, .bool (decide (e1.Due ≤ (l1_0.length : Int)))), (43, .bool (decide (e1.Due ≤ (l1_0.length : Int)))), (42, .bool (decide (e1.Due ≤ (l1_0.length : Int)))), (41, .int .i64 (l1_0.length : Int)), (40, .slice A1_0 l1_0.length c1_0), (39, .pointer (some ⟨b1, 0, none⟩)), (38, .int .i64 e1.Due), (37, .pointer (some ⟨b3, 3, none⟩))]) (l := [.loaded ⟨b3, 3, none⟩ (.int .i64 e1.Due), .loaded ⟨b1, 0, none⟩ (.slice A1_0 l1_0.length c1_0)]) (by kernel_rfl) ⟨hS8.cell 0 rfl rfl, hS8.cell 2 rfl rfl, trivial⟩ ?_
        refine ge_nil fun a hF => hK12 _ _ ?_ a hF
        by_cases hc6 : e1.Due ≤ (l1_0.length : Int)
        · rw [if_pos hc6] at h
          refine we_known (t := 44) (b := decide (e1.Due ≤ (l1_0.length : Int))) (v := true) (by kernel_rfl) (decide_eq_true hc6) ?_
          refine we_true (by kernel_rfl) ?_
          refine we_region [(0, 0), (1, 0), (2, 1), (3, 2), (4, 0)] rfl ?_
          refine ge_batch [0, 1] (ans := []) (vs := [(46, .int .i64 (i1 : Int)), (45, v1)]) (l := []) (by kernel_rfl) trivial ?_
          refine ge_new (d := some 47) (o := .cells #[.int .i64 (i1 : Int)] 3) (v := fun b => .slice (some ⟨b, 0, none⟩) 1 1) hS8 (fun b => by kernel_rfl) fun b5 w7 hx7 hS15 => ?_
          have hS16 := hS15.bring 4 rfl
          by_cases hc7 : m1.length < 17592186044416
          · rw [if_pos hc7] at h
            refine ge_append (α := Int) (m := 0) (d := 48) (t := 23) (el := 3) (bytes := 8) (c1 := 1) (b1 := b5) (x := (.tmp 45)) (y := (.tmp 47)) (ty := 23) (v := v1) (z := .int .i64 0) (l := m1) (u := (i1 : Int)) (by kernel_rfl) (by kernel_rfl) (by kernel_rfl) (by kernel_rfl) (by kernel_rfl) rfl hS16 rfl (by omega) fun v4 w8 hS17 => ?_
            refine ge_batch [4] (ans := []) (vs := [(6, v4)]) (l := []) (by kernel_rfl) trivial ?_
            refine ge_nil fun a hF => hK9 _ _ ?_ a hF
            refine we_region [(0, 0), (1, 0)] rfl ?_
            refine ge_addn (d := 49) (ty := 3) (x := (.tmp 19)) (y := (.const (.int .i64 1))) (t := 3) (t2 := 3) (k := .i64) (m := i1) (by kernel_rfl) (by kernel_rfl) (by kernel_rfl) (by have h0 := hR0.small; omega) ?_
            refine ge_batch [1] (ans := []) (vs := [(19, .int .i64 ((i1 + 1 : Nat) : Int))]) (l := []) (by kernel_rfl) trivial ?_
            have hS18 := hS17.bring 3 rfl
            have hS19 := hS18.bring 3 rfl
            have hS20 := hS19.takeN 3
            obtain rfl := Option.some.inj h
            exact ge_nil fun a hF => hQ _ _ _ (Outs.again ⟨v4, hS20, hF.weaken ⟨by kernel_rfl, by kernel_rfl, by kernel_rfl, by kernel_rfl, by kernel_rfl, by kernel_rfl, trivial⟩⟩)
          · rw [if_neg hc7] at h
            cases h
        · rw [if_neg hc6] at h
          refine we_known (t := 44) (b := decide (e1.Due ≤ (l1_0.length : Int))) (v := false) (by kernel_rfl) (decide_eq_false hc6) ?_
          refine we_false (by kernel_rfl) ?_
          refine we_skip fun a hF => hK9 _ _ ?_ a hF
          refine we_region [(0, 0), (1, 0)] rfl ?_
          refine ge_addn (d := 49) (ty := 3) (x := (.tmp 19)) (y := (.const (.int .i64 1))) (t := 3) (t2 := 3) (k := .i64) (m := i1) (by kernel_rfl) (by kernel_rfl) (by kernel_rfl) (by have h0 := hR0.small; omega) ?_
          refine ge_batch [1] (ans := []) (vs := [(19, .int .i64 ((i1 + 1 : Nat) : Int))]) (l := []) (by kernel_rfl) trivial ?_
          have hS21 := hS8.bring 3 rfl
          have hS22 := hS21.bring 3 rfl
          have hS23 := hS22.bring 3 rfl
          have hS24 := hS23.takeN 3
          obtain rfl := Option.some.inj h
          exact ge_nil fun a hF => hQ _ _ _ (Outs.again ⟨v1, hS24, hF.weaken ⟨by kernel_rfl, by kernel_rfl, by kernel_rfl, by kernel_rfl, by kernel_rfl, by kernel_rfl, trivial⟩⟩)
      · rw [if_neg hc5] at h
        refine ge_known (t := 36) (b := decide (e2 < 0)) (c := false) (by kernel_rfl) (decide_eq_false hc5) ?_
        refine ge_batch [8, 9, 10, 11, 12, 13, 14, 15] (ans := []) (vs := [(44, .bool false), (43, .bool false), (42, undef), (41, undef), (40, undef), (39, undef), (38, undef), (37, undef)]) (l := []) (by kernel_rfl) trivial ?_
        refine ge_nil fun a hF => hK12 _ _ ?_ a hF
        refine we_false (by kernel_rfl) ?_
        refine we_skip fun a hF => hK9 _ _ ?_ a hF
        refine we_region [(0, 0), (1, 0)] rfl ?_
        refine ge_addn (d := 49) (ty := 3) (x := (.tmp 19)) (y := (.const (.int .i64 1))) (t := 3) (t2 := 3) (k := .i64) (m := i1) (by kernel_rfl) (by kernel_rfl) (by kernel_rfl) (by have h0 := hR0.small; omega) ?_
        refine ge_batch [1] (ans := []) (vs := [(19, .int .i64 ((i1 + 1 : Nat) : Int))]) (l := []) (by kernel_rfl) trivial ?_
        have hS25 := hS8.bring 3 rfl
        have hS26 := hS25.bring 3 rfl
        have hS27 := hS26.bring 3 rfl
        have hS28 := hS27.takeN 3
        obtain rfl := Option.some.inj h
        exact ge_nil fun a hF => hQ _ _ _ (Outs.again ⟨v1, hS28, hF.weaken ⟨by kernel_rfl, by kernel_rfl, by kernel_rfl, by kernel_rfl, by kernel_rfl, by kernel_rfl, trivial⟩⟩)
  · rw [if_neg hc2] at h
    refine we_known (t := 20) (b := decide ((i1 : Int) < (l0.length : Int))) (v := false) (by kernel_rfl) (decide_eq_false hc2) ?_
    refine we_false (by kernel_rfl) ?_
    have hS29 := hS.bring 2 rfl
    have hS30 := hS29.bring 1 rfl
    have hS31 := hS30.takeN 2
    obtain rfl := Option.some.inj h
    exact we_exit fun a hF => hQ _ _ _ (Outs.out nofun (Exits.here ⟨v1, hS31, hF.weaken ⟨by kernel_rfl, by kernel_rfl, trivial⟩⟩))
theorem sched_Late_ok (K : Nat) (l0 : List SJob) (A0 : Option Addr) (c0 : Nat) (l1_0 : List Int) (A1_0 : Option Addr) (c1_0 : Nat) (l1_1 : List Int) (A1_1 : Option Addr) (c1_1 : Nat) (w0 : World) (hR0 : RdL w0 A0 l0) (hL0 : l0.length ≤ c0) (hR1_0 : RdL w0 A1_0 l1_0) (hL1_0 : l1_0.length ≤ c1_0) (hR1_1 : RdL w0 A1_1 l1_1) (hL1_1 : l1_1.length ≤ c1_1) (r : (List Int) × SFault) (h : sched_Late.f K l0 l1_0 l1_1 = some r) :
    Calls Tryd.prog 11 #[.slice A0 l0.length c0, .agg #[.slice A1_0 l1_0.length c1_0, .slice A1_1 l1_1.length c1_1]] w0 (sched_Late.Post w0 r) := by
  have hS := St.start w0
  unfold sched_Late.f at h
  refine calls_enter (n := 52) (args := [.slice A0 l0.length c0, .agg #[.slice A1_0 l1_0.length c1_0, .slice A1_1 l1_1.length c1_1]]) (fn := Tryd.f11) rfl rfl rfl rfl ?_
  show WE _ _ _ _ [(0, .slice A0 l0.length c0), (1, .agg #[.slice A1_0 l1_0.length c1_0, .slice A1_1 l1_1.length c1_1])] _
  refine we_seq fun K1 hK1 => ?_
  refine we_region [(0, 1), (1, 0), (2, 1)] rfl ?_
  refine ge_new (d := some 3) (o := .cells #[.slice A1_0 l1_0.length c1_0, .slice A1_1 l1_1.length c1_1] 32) (v := fun b => .pointer (some ⟨b, 0, none⟩)) hS (fun b => by kernel_rfl) fun b1 w1 hx1 hS1 => ?_
  refine ge_batch [1] (ans := []) (vs := [(4, .slice none 0 0)]) (l := []) (by kernel_rfl) trivial ?_
  refine ge_new (d := some 5) (o := .cells #[.int .i64 0, .int .i64 0] 26) (v := fun b => .pointer (some ⟨b, 0, none⟩)) hS1 (fun b => by kernel_rfl) fun b2 w2 hx2 hS2 => ?_
  refine ge_nil fun a hF => hK1 _ _ ?_ a hF
  refine we_seq fun K2 hK2 => ?_
  refine we_seq fun K3 hK3 => ?_
  refine we_region [(0, 0), (1, 0), (2, 0), (3, 0), (4, 0), (5, 0)] rfl ?_
  refine ge_batch [0, 1, 2, 3, 4, 5] (ans := [.val (.slice A1_1 l1_1.length c1_1)]) (vs := [(15, .bool ((l1_1.length : Int) != (l0.length : Int))), (14, .int .i64 (l0.length : Int)), (13, .slice A0 l0.length c0), (12, .int .i64 (l1_1.length : Int)), (11, .slice A1_1 l1_1.length c1_1), (10, .pointer (some ⟨b1, 1, none⟩))]) (l := [.loaded ⟨b1, 1, none⟩ (.slice A1_1 l1_1.length c1_1)]) (by kernel_rfl) ⟨hS2.cell 1 rfl rfl, trivial⟩ ?_
  refine ge_nil fun a hF => hK3 _ _ ?_ a hF
  by_cases hc1 : (l1_1.length : Int) = (l0.length : Int)
  · rw [if_pos hc1] at h
    refine we_known (t := 15) (b := ((l1_1.length : Int) != (l0.length : Int))) (v := false) (by kernel_rfl) (bne_eq_false_iff_eq.2 hc1) ?_
    refine we_false (by kernel_rfl) ?_
    refine we_skip fun a hF => hK2 _ _ ?_ a hF
    refine we_seq fun K4 hK4 => ?_
    refine we_region [(0, 0)] rfl ?_
    refine ge_batch [0] (ans := []) (vs := [(6, .slice none 0 0)]) (l := []) (by kernel_rfl) trivial ?_
    refine ge_nil fun a hF => hK4 _ _ ?_ a hF
    refine we_seq fun K5 hK5 => ?_
    refine we_seq fun K6 hK6 => ?_
    refine we_region [(0, 0), (1, 0), (2, 0)] rfl ?_
    refine ge_batch [0, 1, 2] (ans := []) (vs := [(19, .int .i64 0), (18, .int .i64 (l0.length : Int)), (17, .slice A0 l0.length c0)]) (l := []) (by kernel_rfl) trivial ?_
    refine ge_nil fun a hF => hK6 _ _ ?_ a hF
    refine we_block ?_
    have hS3 := hS2.nil (α := Int) 3
    have hS4 := hS3.bring 2 rfl
    have hS5 := hS4.bring 2 rfl
    rcases hq1 : iter (sched_Late.r0 l0 l1_0 l1_1) K (([] : List Int), 0) with _ | (m3 | rr1)
    · rw [hq1] at h; cases h
    · rw [hq1] at h
      simp only [] at h
      refine we_iter (A := sched_Late.A0 K w0 l0 A0 c0 l1_0 A1_0 c1_0 l1_1 A1_1 c1_1 hR0 hL0 hR1_0 hL1_0 hR1_1 hL1_1 b1 b2 hc1) (B := sched_Late.B0 K w0 l0 A0 c0 l1_0 A1_0 c1_0 l1_1 A1_1 c1_1 hR0 hL0 hR1_0 hL1_0 hR1_1 hL1_1 b1 b2 hc1) hq1 (fun a hF => ⟨(.slice none 0 0), hS5, hF.weaken ⟨by kernel_rfl, by kernel_rfl, by kernel_rfl, by kernel_rfl, by kernel_rfl, by kernel_rfl, trivial⟩⟩) (fun s o hf a w hA Q hQ => sched_Late_r0 K w0 l0 A0 c0 l1_0 A1_0 c1_0 l1_1 A1_1 c1_1 hR0 hL0 hR1_0 hL1_0 hR1_1 hL1_1 b1 b2 hc1 s o hf a w hA Q hQ) ?_
      rintro _ a w9 _ ⟨rfl, v5, hS32, hF⟩
      replace hS32 : St w0 w9 [Own.blk b2 (.cells #[.int .i64 0, .int .i64 0] 26 (0, 0)), Own.of v5 3 m3] := hS32
      refine hK5 [(5, .pointer (some ⟨b2, 0, none⟩)), (6, v5)] w9 ?_ a hF
      refine we_seq fun K13 hK13 => ?_
      refine we_region [(0, 0), (1, 0), (2, 0), (3, 2)] rfl ?_
      refine ge_batch [0, 1, 2] (ans := []) (vs := [(4, v5), (51, .agg #[.int .i64 0, .int .i64 0]), (50, v5)]) (l := []) (by kernel_rfl) trivial ?_
      refine ge_set (b := b2) (j := 0) (cs := #[.int .i64 0, .int .i64 0]) (t := 26) (vs := [.int .i64 0, .int .i64 0]) hS32 (by kernel_rfl) rfl rfl fun w10 hS33 => ?_
      have hS34 : St w0 w10 [Own.blk b2 (.cells #[.int .i64 0, .int .i64 0] 26 (0, 0)), Own.of v5 3 m3] := hS33
      refine ge_nil fun a hF => hK13 _ _ ?_ a hF
      have hS35 := hS34.bring 1 rfl
      have hS36 := hS35.takeN 1
      obtain rfl := Option.some.inj h
      exact we_ret (post_ret (rs := [.tmp 4, .cell 5 26]) (ans := [.val (.int .i64 0), .val (.int .i64 0)]) (vs := [v5, .agg #[.int .i64 0, .int .i64 0]]) (l := [.loaded ⟨b2, 0, none⟩ (.int .i64 0), .loaded ⟨b2, 1, none⟩ (.int .i64 0)]) rfl (by kernel_rfl) ⟨hS34.cell 0 rfl rfl, hS34.cell 0 rfl rfl, trivial⟩ ⟨v5, rfl, hS36⟩)
    · rw [hq1] at h
      simp only [] at h
      refine we_iter (A := sched_Late.A0 K w0 l0 A0 c0 l1_0 A1_0 c1_0 l1_1 A1_1 c1_1 hR0 hL0 hR1_0 hL1_0 hR1_1 hL1_1 b1 b2 hc1) (B := sched_Late.B0 K w0 l0 A0 c0 l1_0 A1_0 c1_0 l1_1 A1_1 c1_1 hR0 hL0 hR1_0 hL1_0 hR1_1 hL1_1 b1 b2 hc1) hq1 (fun a hF => ⟨(.slice none 0 0), hS5, hF.weaken ⟨by kernel_rfl, by kernel_rfl, by kernel_rfl, by kernel_rfl, by kernel_rfl, by kernel_rfl, trivial⟩⟩) (fun s o hf a w hA Q hQ => sched_Late_r0 K w0 l0 A0 c0 l1_0 A1_0 c1_0 l1_1 A1_1 c1_1 hR0 hL0 hR1_0 hL1_0 hR1_1 hL1_1 b1 b2 hc1 s o hf a w hA Q hQ) ?_
      rintro _ a w1 _ ⟨rfl, hb⟩
      obtain rfl := Option.some.inj h
      exact hb
  · rw [if_neg hc1] at h
    refine we_known (t := 15) (b := ((l1_1.length : Int) != (l0.length : Int))) (v := true) (by kernel_rfl) (bne_iff_ne.2 hc1) ?_
    refine we_true (by kernel_rfl) ?_
    refine we_seq fun K14 hK14 => ?_
    refine we_region [(0, 0), (1, 0), (2, 2)] rfl ?_
    refine ge_batch [0, 1] (ans := []) (vs := [(4, .slice none 0 0), (16, .agg #[.int .i64 2, .int .i64 0])]) (l := []) (by kernel_rfl) trivial ?_
    refine ge_set (b := b2) (j := 0) (cs := #[.int .i64 0, .int .i64 0]) (t := 26) (vs := [.int .i64 2, .int .i64 0]) hS2 (by kernel_rfl) rfl rfl fun w11 hS37 => ?_
    have hS38 : St w0 w11 [Own.blk b2 (.cells #[.int .i64 2, .int .i64 0] 26 (0, 0)), Own.blk b1 (.cells #[.slice A1_0 l1_0.length c1_0, .slice A1_1 l1_1.length c1_1] 32 (0, 0))] := hS37
    refine ge_nil fun a hF => hK14 _ _ ?_ a hF
    have hS39 := hS38.nil (α := Int) 3
    have hS40 := hS39.takeN 1
    obtain rfl := Option.some.inj h
    exact we_ret (post_ret (rs := [.tmp 4, .cell 5 26]) (ans := [.val (.int .i64 2), .val (.int .i64 0)]) (vs := [(.slice none 0 0), .agg #[.int .i64 2, .int .i64 0]]) (l := [.loaded ⟨b2, 0, none⟩ (.int .i64 2), .loaded ⟨b2, 1, none⟩ (.int .i64 0)]) rfl (by kernel_rfl) ⟨hS39.cell 1 rfl rfl, hS39.cell 1 rfl rfl, trivial⟩ ⟨(.slice none 0 0), rfl, hS40⟩)

/-! punctual/punctualsame.Same[int] -/
abbrev punctualsame_Same_int.Post (w0 : World) (r : Bool) (e : Ending) (w : World) : Prop := e = .returned (.bool r) ∧ St w0 w []
def punctualsame_Same_int.r0 (l0 : List Int) (l1 : List Int) : Nat → Option (Nat ⊕ (Unit ⊕ Bool))
  | i1 =>
    if (i1 : Int) < (l0.length : Int) then
      match l0[i1]? with
      | none => none
      | some e1 =>
        match l1[i1]? with
        | none => none
        | some e2 =>
          if e1 = e2 then
            some (.inl (i1 + 1))
          else
            some (.inr (.inr false))
    else
      some (.inr (.inl ()))
def punctualsame_Same_int.f (K : Nat) (l0 : List Int) (l1 : List Int) : Option Bool :=
  if (l0.length : Int) = (l1.length : Int) then
    match iter (punctualsame_Same_int.r0 l0 l1) K 0 with
    | none => none
    | some (.inl _) =>
      some true
    | some (.inr rr1) =>
      some rr1
  else
    some false
abbrev punctualsame_Same_int.A0 (K : Nat) (w0 : World) (l0 : List Int) (A0 : Option Addr) (c0 : Nat) (l1 : List Int) (A1 : Option Addr) (c1 : Nat) (hR0 : RdL w0 A0 l0) (hL0 : l0.length ≤ c0) (hR1 : RdL w0 A1 l1) (hL1 : l1.length ≤ c1) (hc1 : (l0.length : Int) = (l1.length : Int)) : Nat → Act → World → Prop := fun (s : Nat) a w => St w0 w [] ∧ Frm 26 a [(0, .slice A0 l0.length c0), (1, .slice A1 l1.length c1), (12, .int .i64 (l0.length : Int)), (13, .int .i64 (s : Int))]
abbrev punctualsame_Same_int.B0 (K : Nat) (w0 : World) (l0 : List Int) (A0 : Option Addr) (c0 : Nat) (l1 : List Int) (A1 : Option Addr) (c1 : Nat) (hR0 : RdL w0 A0 l0) (hL0 : l0.length ≤ c0) (hR1 : RdL w0 A1 l1) (hL1 : l1.length ≤ c1) (hc1 : (l0.length : Int) = (l1.length : Int)) : (Unit ⊕ Bool) → Exit → Act → World → Prop := Exits 0 (fun (s : Unit) a w => St w0 w [] ∧ Frm 26 a []) (Rets Tryd.prog Tryd.f12 (punctualsame_Same_int.Post w0))
theorem punctualsame_Same_int_r0 (K : Nat) (w0 : World) (l0 : List Int) (A0 : Option Addr) (c0 : Nat) (l1 : List Int) (A1 : Option Addr) (c1 : Nat) (hR0 : RdL w0 A0 l0) (hL0 : l0.length ≤ c0) (hR1 : RdL w0 A1 l1) (hL1 : l1.length ≤ c1) (hc1 : (l0.length : Int) = (l1.length : Int)) (s : Nat) (o : Nat ⊕ (Unit ⊕ Bool)) (h : punctualsame_Same_int.r0 l0 l1 s = some o) (a : Act) (w : World) (hA : punctualsame_Same_int.A0 K w0 l0 A0 c0 l1 A1 c1 hR0 hL0 hR1 hL1 hc1 s a w) (Q : Exit → Act → World → Prop) (hQ : ∀ x a w, Outs (punctualsame_Same_int.A0 K w0 l0 A0 c0 l1 A1 c1 hR0 hL0 hR1 hL1 hc1) (punctualsame_Same_int.B0 K w0 l0 A0 c0 l1 A1 c1 hR0 hL0 hR1 hL1 hc1) o x a w → Q x a w) : (subF Tryd.f12 [1, 1, 0, 1, 0, 0]).wp Tryd.prog Q a w := by
  obtain ⟨i1, hs⟩ : ∃ z, z = s := ⟨s, rfl⟩
  subst hs
  obtain ⟨hS, hF⟩ := hA
  replace hS : St w0 w [] := hS
  simp only [punctualsame_Same_int.r0] at h
  refine (?_ : WE Tryd.prog 26 (subF Tryd.f12 [1, 1, 0, 1, 0, 0]) Q [(0, .slice A0 l0.length c0), (1, .slice A1 l1.length c1), (12, .int .i64 (l0.length : Int)), (13, .int .i64 (i1 : Int))] w) a hF
  clear hF a
  refine we_seq fun K6 hK6 => ?_
  refine we_region [(0, 0)] rfl ?_
  refine ge_batch [0] (ans := []) (vs := [(14, .bool (decide ((i1 : Int) < (l0.length : Int))))]) (l := []) (by kernel_rfl) trivial ?_
  refine ge_nil fun a hF => hK6 _ _ ?_ a hF
  refine we_seq fun K7 hK7 => ?_
  by_cases hc2 : (i1 : Int) < (l0.length : Int)
  · rw [if_pos hc2] at h
    refine we_known (t := 14) (b := decide ((i1 : Int) < (l0.length : Int))) (v := true) (by kernel_rfl) (decide_eq_true hc2) ?_
    refine we_true (by kernel_rfl) ?_
    refine we_skip fun a hF => hK7 _ _ ?_ a hF
    refine we_seq fun K8 hK8 => ?_
    refine we_block ?_
    refine we_seq fun K9 hK9 => ?_
    refine we_region [(0, 0), (1, 0)] rfl ?_
    refine ge_batch [0, 1] (ans := []) (vs := [(5, .int .i64 (i1 : Int)), (15, .int .i64 (i1 : Int))]) (l := []) (by kernel_rfl) trivial ?_
    refine ge_nil fun a hF => hK9 _ _ ?_ a hF
    refine we_seq fun K10 hK10 => ?_
    refine we_draws (by kernel_rfl) [(0, 0), (1, 0), (2, 0), (3, 0), (4, 0), (5, 0), (6, 0), (7, 0), (8, 0)] (by kernel_rfl) ?_
    have hS1 := hS.drew
    refine ge_batch [0, 1] (ans := []) (vs := [(17, .int .i64 (i1 : Int)), (16, .slice A0 l0.length c0)]) (l := []) (by kernel_rfl) trivial ?_
    rcases hx1 : l0[i1]? with _ | e1
    · rw [hx1] at h; cases h
    rw [hx1] at h
    simp only [] at h
    refine ge_index (d := 18) (ty := 0) (t := 23) (el := 3) (sz := 1) (m := l0.length) (c := c0) (x := (.tmp 16)) (y := (.tmp 17)) (A := A0) (k' := .i64) (j := (i1 : Int)) (jn := i1) (b0 := blkOf A0) (o0 := offOf A0) (by kernel_rfl) (by kernel_rfl) (by kernel_rfl) (by kernel_rfl) (by kernel_rfl) ((hS1.rd hR0).eqSome (pos_of_get hx1)) rfl (lt_of_get hx1) ?_
    refine ge_batch [3, 4, 5] (ans := [.val (.int .i64 e1)]) (vs := [(21, .int .i64 (i1 : Int)), (20, .slice A1 l1.length c1), (19, .int .i64 e1)]) (l := [.loaded ⟨blkOf A0, offOf A0 + i1 * 1, none⟩ (.int .i64 e1)]) (by kernel_rfl) ⟨RdL.cell (j := 0) (hS1.rd hR0) hx1 rfl, trivial⟩ ?_
    rcases hx2 : l1[i1]? with _ | e2
    · rw [hx2] at h; cases h
    rw [hx2] at h
    simp only [] at h
    refine ge_index (d := 22) (ty := 0) (t := 23) (el := 3) (sz := 1) (m := l1.length) (c := c1) (x := (.tmp 20)) (y := (.tmp 21)) (A := A1) (k' := .i64) (j := (i1 : Int)) (jn := i1) (b0 := blkOf A1) (o0 := offOf A1) (by kernel_rfl) (by kernel_rfl) (by kernel_rfl) (by kernel_rfl) (by kernel_rfl) ((hS1.rd hR1).eqSome (pos_of_get hx2)) rfl (lt_of_get hx2) ?_
    refine ge_batch [7, 8] (ans := [.val (.int .i64 e2)]) (vs := [(24, .bool (e1 != e2)), (23, .int .i64 e2)]) (l := [.loaded ⟨blkOf A1, offOf A1 + i1 * 1, none⟩ (.int .i64 e2)]) (by kernel_rfl) ⟨RdL.cell (j := 0) (hS1.rd hR1) hx2 rfl, trivial⟩ ?_
    refine ge_nil fun a hF => hK10 _ _ ?_ a hF
    by_cases hc3 : e1 = e2
    · rw [if_pos hc3] at h
      refine we_known (t := 24) (b := (e1 != e2)) (v := false) (by kernel_rfl) (bne_eq_false_iff_eq.2 hc3) ?_
      refine we_false (by kernel_rfl) ?_
      refine we_skip fun a hF => hK8 _ _ ?_ a hF
      refine we_region [(0, 0), (1, 0)] rfl ?_
      refine ge_addn (d := 25) (ty := 3) (x := (.tmp 13)) (y := (.const (.int .i64 1))) (t := 3) (t2 := 3) (k := .i64) (m := i1) (by kernel_rfl) (by kernel_rfl) (by kernel_rfl) (by have h0 := hR0.small; omega) ?_
      refine ge_batch [1] (ans := []) (vs := [(13, .int .i64 ((i1 + 1 : Nat) : Int))]) (l := []) (by kernel_rfl) trivial ?_
      obtain rfl := Option.some.inj h
      exact ge_nil fun a hF => hQ _ _ _ (Outs.again ⟨hS1, hF.weaken ⟨by kernel_rfl, by kernel_rfl, by kernel_rfl, by kernel_rfl, trivial⟩⟩)
    · rw [if_neg hc3] at h
      refine we_known (t := 24) (b := (e1 != e2)) (v := true) (by kernel_rfl) (bne_iff_ne.2 hc3) ?_
      refine we_true (by kernel_rfl) ?_
      refine we_seq fun K11 hK11 => ?_
      refine we_region [(0, 0)] rfl ?_
      refine ge_batch [0] (ans := []) (vs := [(4, .bool false)]) (l := []) (by kernel_rfl) trivial ?_
      refine ge_nil fun a hF => hK11 _ _ ?_ a hF
      obtain rfl := Option.some.inj h
      exact we_ret fun a hF => hQ _ _ _ (Outs.out nofun (Exits.on ⟨rfl, (post_ret (rs := [.tmp 4]) (ans := []) (vs := [.bool false]) (l := []) rfl (by kernel_rfl) trivial ⟨rfl, hS1⟩) a hF⟩))
  · rw [if_neg hc2] at h
    refine we_known (t := 14) (b := decide ((i1 : Int) < (l0.length : Int))) (v := false) (by kernel_rfl) (decide_eq_false hc2) ?_
    refine we_false (by kernel_rfl) ?_
    obtain rfl := Option.some.inj h
    exact we_exit fun a hF => hQ _ _ _ (Outs.out nofun (Exits.here ⟨hS, hF.weaken trivial⟩))
theorem punctualsame_Same_int_ok (K : Nat) (l0 : List Int) (A0 : Option Addr) (c0 : Nat) (l1 : List Int) (A1 : Option Addr) (c1 : Nat) (w0 : World) (hR0 : RdL w0 A0 l0) (hL0 : l0.length ≤ c0) (hR1 : RdL w0 A1 l1) (hL1 : l1.length ≤ c1) (r : Bool) (h : punctualsame_Same_int.f K l0 l1 = some r) :
    Calls Tryd.prog 12 #[.slice A0 l0.length c0, .slice A1 l1.length c1] w0 (punctualsame_Same_int.Post w0 r) := by
  have hS := St.start w0
  unfold punctualsame_Same_int.f at h
  refine calls_enter (n := 26) (args := [.slice A0 l0.length c0, .slice A1 l1.length c1]) (fn := Tryd.f12) rfl rfl rfl rfl ?_
  show WE _ _ _ _ [(0, .slice A0 l0.length c0), (1, .slice A1 l1.length c1)] _
  refine we_seq fun K1 hK1 => ?_
  refine we_region [(0, 0)] rfl ?_
  refine ge_batch [0] (ans := []) (vs := [(4, .bool false)]) (l := []) (by kernel_rfl) trivial ?_
  refine ge_nil fun a hF => hK1 _ _ ?_ a hF
  refine we_seq fun K2 hK2 => ?_
  refine we_seq fun K3 hK3 => ?_
  refine we_region [(0, 0), (1, 0), (2, 0), (3, 0), (4, 0)] rfl ?_
  refine ge_batch [0, 1, 2, 3, 4] (ans := []) (vs := [(10, .bool ((l0.length : Int) != (l1.length : Int))), (9, .int .i64 (l1.length : Int)), (8, .slice A1 l1.length c1), (7, .int .i64 (l0.length : Int)), (6, .slice A0 l0.length c0)]) (l := []) (by kernel_rfl) trivial ?_
  refine ge_nil fun a hF => hK3 _ _ ?_ a hF
  by_cases hc1 : (l0.length : Int) = (l1.length : Int)
  · rw [if_pos hc1] at h
    refine we_known (t := 10) (b := ((l0.length : Int) != (l1.length : Int))) (v := false) (by kernel_rfl) (bne_eq_false_iff_eq.2 hc1) ?_
    refine we_false (by kernel_rfl) ?_
    refine we_skip fun a hF => hK2 _ _ ?_ a hF
    refine we_seq fun K4 hK4 => ?_
    refine we_seq fun K5 hK5 => ?_
    refine we_region [(0, 0), (1, 0), (2, 0)] rfl ?_
    refine ge_batch [0, 1, 2] (ans := []) (vs := [(13, .int .i64 0), (12, .int .i64 (l0.length : Int)), (11, .slice A0 l0.length c0)]) (l := []) (by kernel_rfl) trivial ?_
    refine ge_nil fun a hF => hK5 _ _ ?_ a hF
    refine we_block ?_
    rcases hq1 : iter (punctualsame_Same_int.r0 l0 l1) K 0 with _ | (_ | rr1)
    · rw [hq1] at h; cases h
    · rw [hq1] at h
      simp only [] at h
      refine we_iter (A := punctualsame_Same_int.A0 K w0 l0 A0 c0 l1 A1 c1 hR0 hL0 hR1 hL1 hc1) (B := punctualsame_Same_int.B0 K w0 l0 A0 c0 l1 A1 c1 hR0 hL0 hR1 hL1 hc1) hq1 (fun a hF => ⟨hS, hF.weaken ⟨by kernel_rfl, by kernel_rfl, by kernel_rfl, by kernel_rfl, trivial⟩⟩) (fun s o hf a w hA Q hQ => punctualsame_Same_int_r0 K w0 l0 A0 c0 l1 A1 c1 hR0 hL0 hR1 hL1 hc1 s o hf a w hA Q hQ) ?_
      rintro _ a w1 _ ⟨rfl, hS2, hF⟩
      replace hS2 : St w0 w1 [] := hS2
      refine hK4 [] w1 ?_ a hF
      refine we_seq fun K12 hK12 => ?_
      refine we_region [(0, 0)] rfl ?_
      refine ge_batch [0] (ans := []) (vs := [(4, .bool true)]) (l := []) (by kernel_rfl) trivial ?_
      refine ge_nil fun a hF => hK12 _ _ ?_ a hF
      obtain rfl := Option.some.inj h
      exact we_ret (post_ret (rs := [.tmp 4]) (ans := []) (vs := [.bool true]) (l := []) rfl (by kernel_rfl) trivial ⟨rfl, hS2⟩)
    · rw [hq1] at h
      simp only [] at h
      refine we_iter (A := punctualsame_Same_int.A0 K w0 l0 A0 c0 l1 A1 c1 hR0 hL0 hR1 hL1 hc1) (B := punctualsame_Same_int.B0 K w0 l0 A0 c0 l1 A1 c1 hR0 hL0 hR1 hL1 hc1) hq1 (fun a hF => ⟨hS, hF.weaken ⟨by kernel_rfl, by kernel_rfl, by kernel_rfl, by kernel_rfl, trivial⟩⟩) (fun s o hf a w hA Q hQ => punctualsame_Same_int_r0 K w0 l0 A0 c0 l1 A1 c1 hR0 hL0 hR1 hL1 hc1 s o hf a w hA Q hQ) ?_
      rintro _ a w1 _ ⟨rfl, hb⟩
      obtain rfl := Option.some.inj h
      exact hb
  · rw [if_neg hc1] at h
    refine we_known (t := 10) (b := ((l0.length : Int) != (l1.length : Int))) (v := true) (by kernel_rfl) (bne_iff_ne.2 hc1) ?_
    refine we_true (by kernel_rfl) ?_
    refine we_seq fun K13 hK13 => ?_
    refine we_region [(0, 0)] rfl ?_
    refine ge_batch [0] (ans := []) (vs := [(4, .bool false)]) (l := []) (by kernel_rfl) trivial ?_
    refine ge_nil fun a hF => hK13 _ _ ?_ a hF
    obtain rfl := Option.some.inj h
    exact we_ret (post_ret (rs := [.tmp 4]) (ans := []) (vs := [.bool false]) (l := []) rfl (by kernel_rfl) trivial ⟨rfl, hS⟩)

/-! punctual/punctuallaw.runs -/
abbrev runs.Post (w0 : World) (r : Bool) (e : Ending) (w : World) : Prop := e = .returned (.bool r) ∧ St w0 w []
def runs.f (K : Nat) : Option Bool :=
  match sched_Play.f K ([(⟨0, 0, 3, 9, 1⟩ : SJob), (⟨0, 1, 1, 3, 2⟩ : SJob)] : List SJob) 1 true 5 with
  | none => none
  | some r1 =>
    match sched_Late.f K ([(⟨0, 0, 3, 9, 1⟩ : SJob), (⟨0, 1, 1, 3, 2⟩ : SJob)] : List SJob) r1.1.Runs r1.1.Ends with
    | none => none
    | some r2 =>
      if r1.2.Code = 0 then
        if r2.2.Code = 0 then
          match punctualsame_Same_int.f K r1.1.Runs ([0, 1, 0, 0, (-1)] : List Int) with
          | none => none
          | some r3 =>
            if r3 = true then
              match punctualsame_Same_int.f K r1.1.Ends ([4, 2] : List Int) with
              | none => none
              | some r4 =>
                if r4 = true then
                  some ((r2.1.length : Int) == 0)
                else
                  some false
            else
              some false
        else
          some false
      else
        some false
theorem runs_ok (K : Nat)  (w0 : World) (r : Bool) (h : runs.f K = some r) :
    Calls Tryd.prog 31 #[] w0 (runs.Post w0 r) := by
  have hS := St.start w0
  unfold runs.f at h
  refine calls_enter (n := 45) (args := []) (fn := Tryd.f31) rfl rfl rfl rfl ?_
  show WE _ _ _ _ [] _
  refine we_seq fun K1 hK1 => ?_
  refine we_region [(0, 0)] rfl ?_
  refine ge_batch [0] (ans := []) (vs := [(0, .bool false)]) (l := []) (by kernel_rfl) trivial ?_
  refine ge_nil fun a hF => hK1 _ _ ?_ a hF
  refine we_seq fun K2 hK2 => ?_
  refine we_region [(0, 0), (1, 0), (2, 1), (3, 0)] rfl ?_
  refine ge_batch [0, 1] (ans := []) (vs := [(7, .agg #[.int .i64 0, .int .i64 1, .int .i64 1, .int .i64 3, .int .i64 2]), (6, .agg #[.int .i64 0, .int .i64 0, .int .i64 3, .int .i64 9, .int .i64 1])]) (l := []) (by kernel_rfl) trivial ?_
  refine ge_new (d := some 8) (o := .cells #[.int .i64 0, .int .i64 0, .int .i64 3, .int .i64 9, .int .i64 1, .int .i64 0, .int .i64 1, .int .i64 1, .int .i64 3, .int .i64 2] 30) (v := fun b => .slice (some ⟨b, 0, none⟩) 2 2) hS (fun b => by kernel_rfl) fun b1 w1 hx1 hS1 => ?_
  refine ge_batch [3] (ans := []) (vs := [(1, .slice (some ⟨b1, 0, none⟩) 2 2)]) (l := []) (by kernel_rfl) trivial ?_
  refine ge_nil fun a hF => hK2 _ _ ?_ a hF
  refine we_seq fun K3 hK3 => ?_
  refine we_region [(0, 0), (1, 1), (2, 0), (3, 0), (4, 0), (5, 1), (6, 1), (7, 2), (8, 2)] rfl ?_
  rcases hq1 : sched_Play.f K ([(⟨0, 0, 3, 9, 1⟩ : SJob), (⟨0, 1, 1, 3, 2⟩ : SJob)] : List SJob) 1 true 5 with _ | r1
  · rw [hq1] at h; cases h
  rw [hq1] at h
  simp only [] at h
  refine ge_batch [0] (ans := []) (vs := [(10, .slice (some ⟨b1, 0, none⟩) 2 2)]) (l := []) (by kernel_rfl) trivial ?_
  refine ge_call (d := some 11) (f := 36) (args := #[.slice (some ⟨b1, 0, none⟩) 2 2, .int .i64 1, .bool true, .int .i64 5]) (by kernel_rfl) (sched_Play_ok K ([(⟨0, 0, 3, 9, 1⟩ : SJob), (⟨0, 1, 1, 3, 2⟩ : SJob)] : List SJob) (some ⟨b1, 0, none⟩) 2 1 true 5 _ (hS1.rdBlk 0 ([(⟨0, 0, 3, 9, 1⟩ : SJob), (⟨0, 1, 1, 3, 2⟩ : SJob)] : List SJob) rfl rfl rfl) (Nat.le_refl _) _ hq1) ?_
  rintro _ w2 ⟨v1, v2, rfl, hS2⟩
  refine ⟨_, rfl, hS2.below, ?_⟩
  have hS3 := hS1.call hS2
  refine ge_batch [2, 3, 4] (ans := []) (vs := [(13, .agg #[.int .i64 r1.2.Code, .int .i64 r1.2.At]), (12, .agg #[v1, v2]), (9, .tuple #[.agg #[v1, v2], .agg #[.int .i64 r1.2.Code, .int .i64 r1.2.At]])]) (l := []) (by kernel_rfl) trivial ?_
  refine ge_new (d := some 2) (o := .cells #[.slice none 0 0, .slice none 0 0] 32) (v := fun b => .pointer (some ⟨b, 0, none⟩)) hS3 (fun b => by kernel_rfl) fun b2 w3 hx2 hS4 => ?_
  refine ge_new (d := some 3) (o := .cells #[.int .i64 0, .int .i64 0] 26) (v := fun b => .pointer (some ⟨b, 0, none⟩)) hS4 (fun b => by kernel_rfl) fun b3 w4 hx3 hS5 => ?_
  obtain ⟨Z1, cz1, rfl⟩ := hS5.open 2 rfl
  obtain ⟨Z2, cz2, rfl⟩ := hS5.open 3 rfl
  have hS6 := hS5.bring 1 rfl
  refine ge_set (b := b2) (j := 0) (cs := #[.slice none 0 0, .slice none 0 0]) (t := 32) (vs := [(.slice Z1 r1.1.Runs.length cz1), (.slice Z2 r1.1.Ends.length cz2)]) hS6 (by kernel_rfl) rfl rfl fun w5 hS7 => ?_
  have hS8 : St w0 w5 [Own.blk b2 (.cells #[(.slice Z1 r1.1.Runs.length cz1), (.slice Z2 r1.1.Ends.length cz2)] 32 (0, 0)), Own.blk b3 (.cells #[.int .i64 0, .int .i64 0] 26 (0, 0)), Own.of (.slice Z1 r1.1.Runs.length cz1) 3 r1.1.Runs, Own.of (.slice Z2 r1.1.Ends.length cz2) 3 r1.1.Ends, Own.blk b1 (.cells #[.int .i64 0, .int .i64 0, .int .i64 3, .int .i64 9, .int .i64 1, .int .i64 0, .int .i64 1, .int .i64 1, .int .i64 3, .int .i64 2] 30 (0, 0))] := hS7
  have hS9 := hS8.bring 1 rfl
  refine ge_set (b := b3) (j := 0) (cs := #[.int .i64 0, .int .i64 0]) (t := 26) (vs := [.int .i64 r1.2.Code, .int .i64 r1.2.At]) hS9 (by kernel_rfl) rfl rfl fun w6 hS10 => ?_
  have hS11 : St w0 w6 [Own.blk b3 (.cells #[.int .i64 r1.2.Code, .int .i64 r1.2.At] 26 (0, 0)), Own.blk b2 (.cells #[(.slice Z1 r1.1.Runs.length cz1), (.slice Z2 r1.1.Ends.length cz2)] 32 (0, 0)), Own.of (.slice Z1 r1.1.Runs.length cz1) 3 r1.1.Runs, Own.of (.slice Z2 r1.1.Ends.length cz2) 3 r1.1.Ends, Own.blk b1 (.cells #[.int .i64 0, .int .i64 0, .int .i64 3, .int .i64 9, .int .i64 1, .int .i64 0, .int .i64 1, .int .i64 1, .int .i64 3, .int .i64 2] 30 (0, 0))] := hS10
  refine ge_nil fun a hF => hK3 _ _ ?_ a hF
  refine we_seq fun K4 hK4 => ?_
  refine we_region [(0, 0), (1, 0), (2, 1), (3, 0), (4, 0), (5, 0), (6, 1), (7, 0), (8, 2)] rfl ?_
  rcases hq2 : sched_Late.f K ([(⟨0, 0, 3, 9, 1⟩ : SJob), (⟨0, 1, 1, 3, 2⟩ : SJob)] : List SJob) r1.1.Runs r1.1.Ends with _ | r2
  · rw [hq2] at h; cases h
  rw [hq2] at h
  simp only [] at h
  refine ge_batch [0, 1] (ans := [.val ((.slice Z1 r1.1.Runs.length cz1)), .val ((.slice Z2 r1.1.Ends.length cz2))]) (vs := [(16, .agg #[(.slice Z1 r1.1.Runs.length cz1), (.slice Z2 r1.1.Ends.length cz2)]), (15, .slice (some ⟨b1, 0, none⟩) 2 2)]) (l := [.loaded ⟨b2, 0, none⟩ ((.slice Z1 r1.1.Runs.length cz1)), .loaded ⟨b2, 1, none⟩ ((.slice Z2 r1.1.Ends.length cz2))]) (by kernel_rfl) ⟨hS11.cell 1 rfl rfl, hS11.cell 1 rfl rfl, trivial⟩ ?_
  refine ge_call (d := some 17) (f := 11) (args := #[.slice (some ⟨b1, 0, none⟩) 2 2, .agg #[(.slice Z1 r1.1.Runs.length cz1), (.slice Z2 r1.1.Ends.length cz2)]]) (by kernel_rfl) (sched_Late_ok K ([(⟨0, 0, 3, 9, 1⟩ : SJob), (⟨0, 1, 1, 3, 2⟩ : SJob)] : List SJob) (some ⟨b1, 0, none⟩) 2 r1.1.Runs Z1 cz1 r1.1.Ends Z2 cz2 _ (hS11.rdBlk 4 ([(⟨0, 0, 3, 9, 1⟩ : SJob), (⟨0, 1, 1, 3, 2⟩ : SJob)] : List SJob) rfl rfl rfl) (Nat.le_refl _) (hS11.rdAt 2 rfl) (hS11.capAt 2 rfl) (hS11.rdAt 3 rfl) (hS11.capAt 3 rfl) _ hq2) ?_
  rintro _ w7 ⟨v3, rfl, hS12⟩
  refine ⟨_, rfl, hS12.below, ?_⟩
  have hS13 := hS11.call hS12
  refine ge_batch [3, 4, 5] (ans := []) (vs := [(19, .agg #[.int .i64 r2.2.Code, .int .i64 r2.2.At]), (18, v3), (14, .tuple #[v3, .agg #[.int .i64 r2.2.Code, .int .i64 r2.2.At]])]) (l := []) (by kernel_rfl) trivial ?_
  refine ge_new (d := some 5) (o := .cells #[.int .i64 0, .int .i64 0] 26) (v := fun b => .pointer (some ⟨b, 0, none⟩)) hS13 (fun b => by kernel_rfl) fun b4 w8 hx4 hS14 => ?_
  refine ge_batch [7] (ans := []) (vs := [(4, v3)]) (l := []) (by kernel_rfl) trivial ?_
  refine ge_set (b := b4) (j := 0) (cs := #[.int .i64 0, .int .i64 0]) (t := 26) (vs := [.int .i64 r2.2.Code, .int .i64 r2.2.At]) hS14 (by kernel_rfl) rfl rfl fun w9 hS15 => ?_
  have hS16 : St w0 w9 [Own.blk b4 (.cells #[.int .i64 r2.2.Code, .int .i64 r2.2.At] 26 (0, 0)), Own.of v3 3 r2.1, Own.blk b3 (.cells #[.int .i64 r1.2.Code, .int .i64 r1.2.At] 26 (0, 0)), Own.blk b2 (.cells #[(.slice Z1 r1.1.Runs.length cz1), (.slice Z2 r1.1.Ends.length cz2)] 32 (0, 0)), Own.of (.slice Z1 r1.1.Runs.length cz1) 3 r1.1.Runs, Own.of (.slice Z2 r1.1.Ends.length cz2) 3 r1.1.Ends, Own.blk b1 (.cells #[.int .i64 0, .int .i64 0, .int .i64 3, .int .i64 9, .int .i64 1, .int .i64 0, .int .i64 1, .int .i64 1, .int .i64 3, .int .i64 2] 30 (0, 0))] := hS15
  refine ge_nil fun a hF => hK4 _ _ ?_ a hF
  refine we_seq fun K5 hK5 => ?_
  refine we_region [(0, 0), (1, 0), (2, 0), (3, 0), (4, 0), (5, 0), (6, 0), (7, 0), (8, 0), (9, 0), (10, 0), (11, 1), (12, 1), (13, 0), (14, 0), (15, 0), (16, 0), (17, 1), (18, 1), (19, 0), (20, 0), (21, 0), (22, 0), (23, 0), (24, 0), (25, 0)] rfl ?_
  refine ge_batch [0, 1, 2, 3] (ans := [.val (.int .i64 r1.2.Code)]) (vs := [(23, .bool (r1.2.Code == 0)), (22, .bool (r1.2.Code == 0)), (21, .int .i64 r1.2.Code), (20, .pointer (some ⟨b3, 0, none⟩))]) (l := [.loaded ⟨b3, 0, none⟩ (.int .i64 r1.2.Code)]) (by kernel_rfl) ⟨hS16.cell 2 rfl rfl, trivial⟩ ?_
  by_cases hc1 : r1.2.Code = 0
  · rw [if_pos hc1] at h
    refine ge_known (t := 23) (b := (r1.2.Code == 0)) (c := true) (by kernel_rfl) (beq_iff_eq.2 hc1) ?_
    refine ge_batch [4, 5, 6, 7, 8] (ans := [.val (.int .i64 r2.2.Code)]) (vs := [(28, .bool (r2.2.Code == 0)), (27, .bool (r2.2.Code == 0)), (26, .bool (r2.2.Code == 0)), (25, .int .i64 r2.2.Code), (24, .pointer (some ⟨b4, 0, none⟩))]) (l := [.loaded ⟨b4, 0, none⟩ (.int .i64 r2.2.Code)]) (by kernel_rfl) ⟨hS16.cell 0 rfl rfl, trivial⟩ ?_
    by_cases hc2 : r2.2.Code = 0
    · rw [if_pos hc2] at h
      refine ge_known (t := 28) (b := (r2.2.Code == 0)) (c := true) (by kernel_rfl) (beq_iff_eq.2 hc2) ?_
      refine ge_batch [9, 10] (ans := [.val ((.slice Z1 r1.1.Runs.length cz1))]) (vs := [(30, (.slice Z1 r1.1.Runs.length cz1)), (29, .pointer (some ⟨b2, 0, none⟩))]) (l := [.loaded ⟨b2, 0, none⟩ ((.slice Z1 r1.1.Runs.length cz1))]) (by kernel_rfl) ⟨hS16.cell 3 rfl rfl, trivial⟩ ?_
      refine ge_new (d := some 31) (o := .cells #[.int .i64 0, .int .i64 1, .int .i64 0, .int .i64 0, .int .i64 (-1)] 3) (v := fun b => .slice (some ⟨b, 0, none⟩) 5 5) hS16 (fun b => by kernel_rfl) fun b5 w10 hx5 hS17 => ?_
      rcases hq3 : punctualsame_Same_int.f K r1.1.Runs ([0, 1, 0, 0, (-1)] : List Int) with _ | r3
      · rw [hq3] at h; cases h
      rw [hq3] at h
      simp only [] at h
      refine ge_call (d := some 32) (f := 12) (args := #[(.slice Z1 r1.1.Runs.length cz1), .slice (some ⟨b5, 0, none⟩) 5 5]) (by kernel_rfl) (punctualsame_Same_int_ok K r1.1.Runs Z1 cz1 ([0, 1, 0, 0, (-1)] : List Int) (some ⟨b5, 0, none⟩) 5 _ (hS17.rdAt 5 rfl) (hS17.capAt 5 rfl) (hS17.rdBlk 0 ([0, 1, 0, 0, (-1)] : List Int) rfl rfl rfl) (Nat.le_refl _) _ hq3) ?_
      rintro _ w11 ⟨rfl, hS18⟩
      refine ⟨_, rfl, hS18.below, ?_⟩
      have hS19 := hS17.call hS18
      refine ge_batch [13, 14] (ans := []) (vs := [(34, .bool r3), (33, .bool r3)]) (l := []) (by kernel_rfl) trivial ?_
      by_cases hc3 : r3 = true
      · rw [if_pos hc3] at h
        refine ge_known (t := 34) (b := r3) (c := true) (by kernel_rfl) hc3 ?_
        refine ge_batch [15, 16] (ans := [.val ((.slice Z2 r1.1.Ends.length cz2))]) (vs := [(36, (.slice Z2 r1.1.Ends.length cz2)), (35, .pointer (some ⟨b2, 1, none⟩))]) (l := [.loaded ⟨b2, 1, none⟩ ((.slice Z2 r1.1.Ends.length cz2))]) (by kernel_rfl) ⟨hS19.cell 4 rfl rfl, trivial⟩ ?_
        refine ge_new (d := some 37) (o := .cells #[.int .i64 4, .int .i64 2] 3) (v := fun b => .slice (some ⟨b, 0, none⟩) 2 2) hS19 (fun b => by kernel_rfl) fun b6 w12 hx6 hS20 => ?_
        rcases hq4 : punctualsame_Same_int.f K r1.1.Ends ([4, 2] : List Int) with _ | r4
        · rw [hq4] at h; cases h
        rw [hq4] at h
        simp only [] at h
        refine ge_call (d := some 38) (f := 12) (args := #[(.slice Z2 r1.1.Ends.length cz2), .slice (some ⟨b6, 0, none⟩) 2 2]) (by kernel_rfl) (punctualsame_Same_int_ok K r1.1.Ends Z2 cz2 ([4, 2] : List Int) (some ⟨b6, 0, none⟩) 2 _ (hS20.rdAt 7 rfl) (hS20.capAt 7 rfl) (hS20.rdBlk 0 ([4, 2] : List Int) rfl rfl rfl) (Nat.le_refl _) _ hq4) ?_
        rintro _ w13 ⟨rfl, hS21⟩
        refine ⟨_, rfl, hS21.below, ?_⟩
        have hS22 := hS20.call hS21
        refine ge_batch [19, 20] (ans := []) (vs := [(40, .bool r4), (39, .bool r4)]) (l := []) (by kernel_rfl) trivial ?_
        by_cases hc4 : r4 = true
        · rw [if_pos hc4] at h
          refine ge_known (t := 40) (b := r4) (c := true) (by kernel_rfl) hc4 ?_
          refine ge_batch [21] (ans := []) (vs := [(41, v3)]) (l := []) (by kernel_rfl) trivial ?_
          obtain ⟨Z3, cz3, rfl⟩ := hS22.open 3 rfl
          refine ge_batch [22, 23, 24, 25] (ans := []) (vs := [(0, .bool ((r2.1.length : Int) == 0)), (44, .bool ((r2.1.length : Int) == 0)), (43, .bool ((r2.1.length : Int) == 0)), (42, .int .i64 (r2.1.length : Int))]) (l := []) (by kernel_rfl) trivial ?_
          refine ge_nil fun a hF => hK5 _ _ ?_ a hF
          have hS23 := hS22.takeN 0
          obtain rfl := Option.some.inj h
          exact we_ret (post_ret (rs := [.tmp 0]) (ans := []) (vs := [.bool ((r2.1.length : Int) == 0)]) (l := []) rfl (by kernel_rfl) trivial ⟨rfl, hS23⟩)
        · rw [if_neg hc4] at h
          refine ge_known (t := 40) (b := r4) (c := false) (by kernel_rfl) (Bool.eq_false_iff.2 hc4) ?_
          refine ge_batch [21, 22, 23, 24, 25] (ans := []) (vs := [(0, .bool false), (44, .bool false), (43, undef), (42, undef), (41, undef)]) (l := []) (by kernel_rfl) trivial ?_
          refine ge_nil fun a hF => hK5 _ _ ?_ a hF
          have hS24 := hS22.takeN 0
          obtain rfl := Option.some.inj h
          exact we_ret (post_ret (rs := [.tmp 0]) (ans := []) (vs := [.bool false]) (l := []) rfl (by kernel_rfl) trivial ⟨rfl, hS24⟩)
      · rw [if_neg hc3] at h
        refine ge_known (t := 34) (b := r3) (c := false) (by kernel_rfl) (Bool.eq_false_iff.2 hc3) ?_
        refine ge_batch [15, 16] (ans := []) (vs := [(36, undef), (35, undef)]) (l := []) (by kernel_rfl) trivial ?_
        refine ge_off rfl rfl rfl (by kernel_rfl) ?_
        refine ge_off rfl rfl rfl (by kernel_rfl) ?_
        refine ge_batch [19, 20, 21, 22, 23, 24, 25] (ans := []) (vs := [(0, .bool false), (44, .bool false), (43, undef), (42, undef), (41, undef), (40, .bool false), (39, .bool false)]) (l := []) (by kernel_rfl) trivial ?_
        refine ge_nil fun a hF => hK5 _ _ ?_ a hF
        have hS25 := hS19.takeN 0
        obtain rfl := Option.some.inj h
        exact we_ret (post_ret (rs := [.tmp 0]) (ans := []) (vs := [.bool false]) (l := []) rfl (by kernel_rfl) trivial ⟨rfl, hS25⟩)
    · rw [if_neg hc2] at h
      refine ge_known (t := 28) (b := (r2.2.Code == 0)) (c := false) (by kernel_rfl) (beq_eq_false_iff_ne.2 hc2) ?_
      refine ge_batch [9, 10] (ans := []) (vs := [(30, undef), (29, undef)]) (l := []) (by kernel_rfl) trivial ?_
      refine ge_off rfl rfl rfl (by kernel_rfl) ?_
      refine ge_off rfl rfl rfl (by kernel_rfl) ?_
      refine ge_batch [13, 14, 15, 16] (ans := []) (vs := [(36, undef), (35, undef), (34, .bool false), (33, .bool false)]) (l := []) (by kernel_rfl) trivial ?_
      refine ge_off rfl rfl rfl (by kernel_rfl) ?_
      refine ge_off rfl rfl rfl (by kernel_rfl) ?_
      refine ge_batch [19, 20, 21, 22, 23, 24, 25] (ans := []) (vs := [(0, .bool false), (44, .bool false), (43, undef), (42, undef), (41, undef), (40, .bool false), (39, .bool false)]) (l := []) (by kernel_rfl) trivial ?_
      refine ge_nil fun a hF => hK5 _ _ ?_ a hF
      have hS26 := hS16.takeN 0
      obtain rfl := Option.some.inj h
      exact we_ret (post_ret (rs := [.tmp 0]) (ans := []) (vs := [.bool false]) (l := []) rfl (by kernel_rfl) trivial ⟨rfl, hS26⟩)
  · rw [if_neg hc1] at h
    refine ge_known (t := 23) (b := (r1.2.Code == 0)) (c := false) (by kernel_rfl) (beq_eq_false_iff_ne.2 hc1) ?_
    refine ge_batch [4, 5, 6, 7, 8, 9, 10] (ans := []) (vs := [(30, undef), (29, undef), (28, .bool false), (27, .bool false), (26, undef), (25, undef), (24, undef)]) (l := []) (by kernel_rfl) trivial ?_
    refine ge_off rfl rfl rfl (by kernel_rfl) ?_
    refine ge_off rfl rfl rfl (by kernel_rfl) ?_
    refine ge_batch [13, 14, 15, 16] (ans := []) (vs := [(36, undef), (35, undef), (34, .bool false), (33, .bool false)]) (l := []) (by kernel_rfl) trivial ?_
    refine ge_off rfl rfl rfl (by kernel_rfl) ?_
    refine ge_off rfl rfl rfl (by kernel_rfl) ?_
    refine ge_batch [19, 20, 21, 22, 23, 24, 25] (ans := []) (vs := [(0, .bool false), (44, .bool false), (43, undef), (42, undef), (41, undef), (40, .bool false), (39, .bool false)]) (l := []) (by kernel_rfl) trivial ?_
    refine ge_nil fun a hF => hK5 _ _ ?_ a hF
    have hS27 := hS16.takeN 0
    obtain rfl := Option.some.inj h
    exact we_ret (post_ret (rs := [.tmp 0]) (ans := []) (vs := [.bool false]) (l := []) rfl (by kernel_rfl) trivial ⟨rfl, hS27⟩)

/-! punctual/punctuallaw.few -/
abbrev few.Post (w0 : World) (r : Bool) (e : Ending) (w : World) : Prop := e = .returned (.bool r) ∧ St w0 w []
def few.f (x0 : Int) : Bool :=
  decide (x0 ≤ 5000)
theorem few_ok (x0 : Int) (w0 : World) (r : Bool) (h : few.f x0 = r) :
    Calls Tryd.prog 13 #[.int .i64 x0] w0 (few.Post w0 r) := by
  have hS := St.start w0
  unfold few.f at h
  refine calls_enter (n := 5) (args := [.int .i64 x0]) (fn := Tryd.f13) rfl rfl rfl rfl ?_
  show WE _ _ _ _ [(0, .int .i64 x0)] _
  refine we_seq fun K1 hK1 => ?_
  refine we_region [(0, 0)] rfl ?_
  refine ge_batch [0] (ans := []) (vs := [(2, .bool false)]) (l := []) (by kernel_rfl) trivial ?_
  refine ge_nil fun a hF => hK1 _ _ ?_ a hF
  refine we_seq fun K2 hK2 => ?_
  refine we_region [(0, 0), (1, 0), (2, 0)] rfl ?_
  refine ge_batch [0, 1, 2] (ans := []) (vs := [(2, .bool (decide (x0 ≤ 5000))), (4, .bool (decide (x0 ≤ 5000))), (3, .int .i64 x0)]) (l := []) (by kernel_rfl) trivial ?_
  refine ge_nil fun a hF => hK2 _ _ ?_ a hF
  subst h
  exact we_ret (post_ret (rs := [.tmp 2]) (ans := []) (vs := [.bool (decide (x0 ≤ 5000))]) (l := []) rfl (by kernel_rfl) trivial ⟨rfl, hS⟩)

/-! punctual/punctuallaw.small -/
abbrev small.Post (w0 : World) (r : Bool) (e : Ending) (w : World) : Prop := e = .returned (.bool r) ∧ St w0 w []
def small.f (x0 : Int) (x1 : Int) : Bool :=
  if x0 ≤ 300 then
    if x1 ≤ 3000 then
      true
    else
      if x0 > 4000 then
        true
      else
        decide (x1 > 20000)
  else
    if x0 > 4000 then
      true
    else
      decide (x1 > 20000)
theorem small_ok (x0 : Int) (x1 : Int) (w0 : World) (r : Bool) (h : small.f x0 x1 = r) :
    Calls Tryd.prog 32 #[.int .i64 x0, .int .i64 x1] w0 (small.Post w0 r) := by
  have hS := St.start w0
  unfold small.f at h
  refine calls_enter (n := 19) (args := [.int .i64 x0, .int .i64 x1]) (fn := Tryd.f32) rfl rfl rfl rfl ?_
  show WE _ _ _ _ [(0, .int .i64 x0), (1, .int .i64 x1)] _
  refine we_seq fun K1 hK1 => ?_
  refine we_region [(0, 0)] rfl ?_
  refine ge_batch [0] (ans := []) (vs := [(4, .bool false)]) (l := []) (by kernel_rfl) trivial ?_
  refine ge_nil fun a hF => hK1 _ _ ?_ a hF
  refine we_seq fun K2 hK2 => ?_
  refine we_region [(0, 0), (1, 0), (2, 0), (3, 0), (4, 0), (5, 0), (6, 0), (7, 0), (8, 0), (9, 0), (10, 0), (11, 0), (12, 0), (13, 0), (14, 0)] rfl ?_
  refine ge_batch [0, 1, 2] (ans := []) (vs := [(7, .bool (decide (x0 ≤ 300))), (6, .bool (decide (x0 ≤ 300))), (5, .int .i64 x0)]) (l := []) (by kernel_rfl) trivial ?_
  by_cases hc1 : x0 ≤ 300
  · rw [if_pos hc1] at h
    refine ge_known (t := 7) (b := decide (x0 ≤ 300)) (c := true) (by kernel_rfl) (decide_eq_true hc1) ?_
    refine ge_batch [3, 4, 5, 6] (ans := []) (vs := [(11, .bool (decide (x1 ≤ 3000))), (10, .bool (decide (x1 ≤ 3000))), (9, .bool (decide (x1 ≤ 3000))), (8, .int .i64 x1)]) (l := []) (by kernel_rfl) trivial ?_
    by_cases hc2 : x1 ≤ 3000
    · rw [if_pos hc2] at h
      refine ge_known (t := 11) (b := decide (x1 ≤ 3000)) (c := true) (by kernel_rfl) (decide_eq_true hc2) ?_
      refine ge_batch [7, 8, 9, 10, 11, 12, 13, 14] (ans := []) (vs := [(4, .bool true), (18, .bool true), (17, undef), (16, undef), (15, .bool true), (14, .bool true), (13, undef), (12, undef)]) (l := []) (by kernel_rfl) trivial ?_
      refine ge_nil fun a hF => hK2 _ _ ?_ a hF
      subst h
      exact we_ret (post_ret (rs := [.tmp 4]) (ans := []) (vs := [.bool true]) (l := []) rfl (by kernel_rfl) trivial ⟨rfl, hS⟩)
    · rw [if_neg hc2] at h
      refine ge_known (t := 11) (b := decide (x1 ≤ 3000)) (c := false) (by kernel_rfl) (decide_eq_false hc2) ?_
      refine ge_batch [7, 8, 9, 10] (ans := []) (vs := [(15, .bool (decide (x0 > 4000))), (14, .bool (decide (x0 > 4000))), (13, .bool (decide (x0 > 4000))), (12, .int .i64 x0)]) (l := []) (by kernel_rfl) trivial ?_
      by_cases hc3 : x0 > 4000
      · rw [if_pos hc3] at h
        refine ge_known (t := 15) (b := decide (x0 > 4000)) (c := true) (by kernel_rfl) (decide_eq_true hc3) ?_
        refine ge_batch [11, 12, 13, 14] (ans := []) (vs := [(4, .bool true), (18, .bool true), (17, undef), (16, undef)]) (l := []) (by kernel_rfl) trivial ?_
        refine ge_nil fun a hF => hK2 _ _ ?_ a hF
        subst h
        exact we_ret (post_ret (rs := [.tmp 4]) (ans := []) (vs := [.bool true]) (l := []) rfl (by kernel_rfl) trivial ⟨rfl, hS⟩)
      · rw [if_neg hc3] at h
        refine ge_known (t := 15) (b := decide (x0 > 4000)) (c := false) (by kernel_rfl) (decide_eq_false hc3) ?_
        refine ge_batch [11, 12, 13, 14] (ans := []) (vs := [(4, .bool (decide (x1 > 20000))), (18, .bool (decide (x1 > 20000))), (17, .bool (decide (x1 > 20000))), (16, .int .i64 x1)]) (l := []) (by kernel_rfl) trivial ?_
        refine ge_nil fun a hF => hK2 _ _ ?_ a hF
        subst h
        exact we_ret (post_ret (rs := [.tmp 4]) (ans := []) (vs := [.bool (decide (x1 > 20000))]) (l := []) rfl (by kernel_rfl) trivial ⟨rfl, hS⟩)
  · rw [if_neg hc1] at h
    refine ge_known (t := 7) (b := decide (x0 ≤ 300)) (c := false) (by kernel_rfl) (decide_eq_false hc1) ?_
    refine ge_batch [3, 4, 5, 6, 7, 8, 9, 10] (ans := []) (vs := [(15, .bool (decide (x0 > 4000))), (14, .bool (decide (x0 > 4000))), (13, .bool (decide (x0 > 4000))), (12, .int .i64 x0), (11, .bool false), (10, .bool false), (9, undef), (8, undef)]) (l := []) (by kernel_rfl) trivial ?_
    by_cases hc4 : x0 > 4000
    · rw [if_pos hc4] at h
      refine ge_known (t := 15) (b := decide (x0 > 4000)) (c := true) (by kernel_rfl) (decide_eq_true hc4) ?_
      refine ge_batch [11, 12, 13, 14] (ans := []) (vs := [(4, .bool true), (18, .bool true), (17, undef), (16, undef)]) (l := []) (by kernel_rfl) trivial ?_
      refine ge_nil fun a hF => hK2 _ _ ?_ a hF
      subst h
      exact we_ret (post_ret (rs := [.tmp 4]) (ans := []) (vs := [.bool true]) (l := []) rfl (by kernel_rfl) trivial ⟨rfl, hS⟩)
    · rw [if_neg hc4] at h
      refine ge_known (t := 15) (b := decide (x0 > 4000)) (c := false) (by kernel_rfl) (decide_eq_false hc4) ?_
      refine ge_batch [11, 12, 13, 14] (ans := []) (vs := [(4, .bool (decide (x1 > 20000))), (18, .bool (decide (x1 > 20000))), (17, .bool (decide (x1 > 20000))), (16, .int .i64 x1)]) (l := []) (by kernel_rfl) trivial ?_
      refine ge_nil fun a hF => hK2 _ _ ?_ a hF
      subst h
      exact we_ret (post_ret (rs := [.tmp 4]) (ans := []) (vs := [.bool (decide (x1 > 20000))]) (l := []) rfl (by kernel_rfl) trivial ⟨rfl, hS⟩)

/-! punctual/punctualref.F -/
abbrev punctualref_F.Post (w0 : World) (r : SFault) (e : Ending) (w : World) : Prop := e = .returned (.agg #[.int .i64 r.Code, .int .i64 r.At]) ∧ St w0 w []
def punctualref_F.f (x0 : Int) (x1 : Int) : SFault :=
  (⟨x0, x1⟩ : SFault)
theorem punctualref_F_ok (x0 : Int) (x1 : Int) (w0 : World) (r : SFault) (h : punctualref_F.f x0 x1 = r) :
    Calls Tryd.prog 21 #[.int .i64 x0, .int .i64 x1] w0 (punctualref_F.Post w0 r) := by
  have hS := St.start w0
  unfold punctualref_F.f at h
  refine calls_enter (n := 8) (args := [.int .i64 x0, .int .i64 x1]) (fn := Tryd.f21) rfl rfl rfl rfl ?_
  show WE _ _ _ _ [(0, .int .i64 x0), (1, .int .i64 x1)] _
  refine we_seq fun K1 hK1 => ?_
  refine we_region [(0, 1)] rfl ?_
  refine ge_new (d := some 4) (o := .cells #[.int .i64 0, .int .i64 0] 26) (v := fun b => .pointer (some ⟨b, 0, none⟩)) hS (fun b => by kernel_rfl) fun b1 w1 hx1 hS1 => ?_
  refine ge_nil fun a hF => hK1 _ _ ?_ a hF
  refine we_seq fun K2 hK2 => ?_
  refine we_region [(0, 0), (1, 0), (2, 0), (3, 2)] rfl ?_
  refine ge_batch [0, 1, 2] (ans := []) (vs := [(7, .agg #[.int .i64 x0, .int .i64 x1]), (6, .int .i64 x1), (5, .int .i64 x0)]) (l := []) (by kernel_rfl) trivial ?_
  refine ge_set (b := b1) (j := 0) (cs := #[.int .i64 0, .int .i64 0]) (t := 26) (vs := [.int .i64 x0, .int .i64 x1]) hS1 (by kernel_rfl) rfl rfl fun w2 hS2 => ?_
  have hS3 : St w0 w2 [Own.blk b1 (.cells #[.int .i64 x0, .int .i64 x1] 26 (0, 0))] := hS2
  refine ge_nil fun a hF => hK2 _ _ ?_ a hF
  have hS4 := hS3.takeN 0
  subst h
  exact we_ret (post_ret (rs := [.cell 4 26]) (ans := [.val (.int .i64 x0), .val (.int .i64 x1)]) (vs := [.agg #[.int .i64 x0, .int .i64 x1]]) (l := [.loaded ⟨b1, 0, none⟩ (.int .i64 x0), .loaded ⟨b1, 1, none⟩ (.int .i64 x1)]) rfl (by kernel_rfl) ⟨hS3.cell 0 rfl rfl, hS3.cell 0 rfl rfl, trivial⟩ ⟨rfl, hS4⟩)

/-! punctual/punctualref.CheckJobs -/
abbrev punctualref_CheckJobs.Post (w0 : World) (r : SFault) (e : Ending) (w : World) : Prop := e = .returned (.agg #[.int .i64 r.Code, .int .i64 r.At]) ∧ St w0 w []
def punctualref_CheckJobs.r0 (l0 : List SJob) : Nat → Option (Nat ⊕ (Unit ⊕ SFault))
  | i1 =>
    if (i1 : Int) < (l0.length : Int) then
      match l0[i1]? with
      | none => none
      | some e1 =>
        if e1.At < 0 then
          some (.inr (.inr (punctualref_F.f 3 (i1 : Int))))
        else
          if e1.At > 60000 then
            some (.inr (.inr (punctualref_F.f 3 (i1 : Int))))
          else
            if e1.C < 1 then
              some (.inr (.inr (punctualref_F.f 3 (i1 : Int))))
            else
              if e1.C > 10000 then
                some (.inr (.inr (punctualref_F.f 3 (i1 : Int))))
              else
                if e1.Due < 0 then
                  some (.inr (.inr (punctualref_F.f 3 (i1 : Int))))
                else
                  if e1.Due > 80000 then
                    some (.inr (.inr (punctualref_F.f 3 (i1 : Int))))
                  else
                    some (.inl (i1 + 1))
    else
      some (.inr (.inl ()))
def punctualref_CheckJobs.f (K : Nat) (l0 : List SJob) : Option SFault :=
  if (l0.length : Int) > 4000 then
    some (punctualref_F.f 2 0)
  else
    match iter (punctualref_CheckJobs.r0 l0) K 0 with
    | none => none
    | some (.inl _) =>
      some (⟨0, 0⟩ : SFault)
    | some (.inr rr1) =>
      some rr1
abbrev punctualref_CheckJobs.A0 (K : Nat) (w0 : World) (l0 : List SJob) (A0 : Option Addr) (c0 : Nat) (hR0 : RdL w0 A0 l0) (hL0 : l0.length ≤ c0) (b1 : Nat) (hc1 : ¬ ((l0.length : Int) > 4000)) : Nat → Act → World → Prop := fun (s : Nat) a w => St w0 w [Own.blk b1 (.cells #[.int .i64 0, .int .i64 0] 26 (0, 0))] ∧ Frm 48 a [(2, .pointer (some ⟨b1, 0, none⟩)), (9, .slice A0 l0.length c0), (10, .int .i64 (l0.length : Int)), (11, .int .i64 (s : Int))]
abbrev punctualref_CheckJobs.B0 (K : Nat) (w0 : World) (l0 : List SJob) (A0 : Option Addr) (c0 : Nat) (hR0 : RdL w0 A0 l0) (hL0 : l0.length ≤ c0) (b1 : Nat) (hc1 : ¬ ((l0.length : Int) > 4000)) : (Unit ⊕ SFault) → Exit → Act → World → Prop := Exits 0 (fun (s : Unit) a w => St w0 w [Own.blk b1 (.cells #[.int .i64 0, .int .i64 0] 26 (0, 0))] ∧ Frm 48 a [(2, .pointer (some ⟨b1, 0, none⟩))]) (Rets Tryd.prog Tryd.f35 (punctualref_CheckJobs.Post w0))
theorem punctualref_CheckJobs_r0 (K : Nat) (w0 : World) (l0 : List SJob) (A0 : Option Addr) (c0 : Nat) (hR0 : RdL w0 A0 l0) (hL0 : l0.length ≤ c0) (b1 : Nat) (hc1 : ¬ ((l0.length : Int) > 4000)) (s : Nat) (o : Nat ⊕ (Unit ⊕ SFault)) (h : punctualref_CheckJobs.r0 l0 s = some o) (a : Act) (w : World) (hA : punctualref_CheckJobs.A0 K w0 l0 A0 c0 hR0 hL0 b1 hc1 s a w) (Q : Exit → Act → World → Prop) (hQ : ∀ x a w, Outs (punctualref_CheckJobs.A0 K w0 l0 A0 c0 hR0 hL0 b1 hc1) (punctualref_CheckJobs.B0 K w0 l0 A0 c0 hR0 hL0 b1 hc1) o x a w → Q x a w) : (subF Tryd.f35 [1, 1, 0, 1, 0, 0]).wp Tryd.prog Q a w := by
  obtain ⟨i1, hs⟩ : ∃ z, z = s := ⟨s, rfl⟩
  subst hs
  obtain ⟨hS, hF⟩ := hA
  replace hS : St w0 w [Own.blk b1 (.cells #[.int .i64 0, .int .i64 0] 26 (0, 0))] := hS
  simp only [punctualref_CheckJobs.r0] at h
  refine (?_ : WE Tryd.prog 48 (subF Tryd.f35 [1, 1, 0, 1, 0, 0]) Q [(2, .pointer (some ⟨b1, 0, none⟩)), (9, .slice A0 l0.length c0), (10, .int .i64 (l0.length : Int)), (11, .int .i64 (i1 : Int))] w) a hF
  clear hF a
  refine we_seq fun K7 hK7 => ?_
  refine we_region [(0, 0)] rfl ?_
  refine ge_batch [0] (ans := []) (vs := [(12, .bool (decide ((i1 : Int) < (l0.length : Int))))]) (l := []) (by kernel_rfl) trivial ?_
  refine ge_nil fun a hF => hK7 _ _ ?_ a hF
  refine we_seq fun K8 hK8 => ?_
  by_cases hc2 : (i1 : Int) < (l0.length : Int)
  · rw [if_pos hc2] at h
    refine we_known (t := 12) (b := decide ((i1 : Int) < (l0.length : Int))) (v := true) (by kernel_rfl) (decide_eq_true hc2) ?_
    refine we_true (by kernel_rfl) ?_
    refine we_skip fun a hF => hK8 _ _ ?_ a hF
    refine we_seq fun K9 hK9 => ?_
    refine we_block ?_
    refine we_seq fun K10 hK10 => ?_
    refine we_region [(0, 0), (1, 0), (2, 0), (3, 1), (4, 0), (5, 2)] rfl ?_
    refine ge_batch [0] (ans := []) (vs := [(13, .int .i64 (i1 : Int))]) (l := []) (by kernel_rfl) trivial ?_
    rcases hx2 : l0[i1]? with _ | e1
    · rw [hx2] at h; cases h
    rw [hx2] at h
    simp only [] at h
    refine ge_index (d := 14) (ty := 0) (t := 22) (el := 30) (sz := 5) (m := l0.length) (c := c0) (x := (.tmp 9)) (y := (.tmp 11)) (A := A0) (k' := .i64) (j := (i1 : Int)) (jn := i1) (b0 := blkOf A0) (o0 := offOf A0) (by kernel_rfl) (by kernel_rfl) (by kernel_rfl) (by kernel_rfl) (by kernel_rfl) ((hS.rd hR0).eqSome (pos_of_get hx2)) rfl (lt_of_get hx2) ?_
    refine ge_batch [2] (ans := [.val (.int .i64 e1.Task), .val (.int .i64 e1.At), .val (.int .i64 e1.C), .val (.int .i64 e1.Due), .val (.int .i64 e1.P)]) (vs := [(15, .agg #[.int .i64 e1.Task, .int .i64 e1.At, .int .i64 e1.C, .int .i64 e1.Due, .int .i64 e1.P])]) (l := [.loaded ⟨blkOf A0, offOf A0 + i1 * 5, none⟩ (.int .i64 e1.Task), .loaded ⟨blkOf A0, offOf A0 + i1 * 5 + 1, none⟩ (.int .i64 e1.At), .loaded ⟨blkOf A0, offOf A0 + i1 * 5 + 2, none⟩ (.int .i64 e1.C), .loaded ⟨blkOf A0, offOf A0 + i1 * 5 + 3, none⟩ (.int .i64 e1.Due), .loaded ⟨blkOf A0, offOf A0 + i1 * 5 + 4, none⟩ (.int .i64 e1.P)]) (by kernel_rfl) ⟨RdL.cell (j := 0) (hS.rd hR0) hx2 rfl, RdL.cell (j := 1) (hS.rd hR0) hx2 rfl, RdL.cell (j := 2) (hS.rd hR0) hx2 rfl, RdL.cell (j := 3) (hS.rd hR0) hx2 rfl, RdL.cell (j := 4) (hS.rd hR0) hx2 rfl, trivial⟩ ?_
    refine ge_new (d := some 4) (o := .cells #[.int .i64 0, .int .i64 0, .int .i64 0, .int .i64 0, .int .i64 0] 30) (v := fun b => .pointer (some ⟨b, 0, none⟩)) hS (fun b => by kernel_rfl) fun b2 w4 hx3 hS7 => ?_
    refine ge_batch [4] (ans := []) (vs := [(3, .int .i64 (i1 : Int))]) (l := []) (by kernel_rfl) trivial ?_
    refine ge_set (b := b2) (j := 0) (cs := #[.int .i64 0, .int .i64 0, .int .i64 0, .int .i64 0, .int .i64 0]) (t := 30) (vs := [.int .i64 e1.Task, .int .i64 e1.At, .int .i64 e1.C, .int .i64 e1.Due, .int .i64 e1.P]) hS7 (by kernel_rfl) rfl rfl fun w5 hS8 => ?_
    have hS9 : St w0 w5 [Own.blk b2 (.cells #[.int .i64 e1.Task, .int .i64 e1.At, .int .i64 e1.C, .int .i64 e1.Due, .int .i64 e1.P] 30 (0, 0)), Own.blk b1 (.cells #[.int .i64 0, .int .i64 0] 26 (0, 0))] := hS8
    refine ge_nil fun a hF => hK10 _ _ ?_ a hF
    refine we_seq fun K11 hK11 => ?_
    refine we_region [(0, 0), (1, 0), (2, 0), (3, 0), (4, 0), (5, 0), (6, 0), (7, 0), (8, 0), (9, 0), (10, 0), (11, 0), (12, 0), (13, 0), (14, 0), (15, 0), (16, 0), (17, 0), (18, 0), (19, 0), (20, 0), (21, 0), (22, 0), (23, 0), (24, 0), (25, 0), (26, 0), (27, 0)] rfl ?_
    refine ge_batch [0, 1, 2, 3] (ans := [.val (.int .i64 e1.At)]) (vs := [(19, .bool (decide (e1.At < 0))), (18, .bool (decide (e1.At < 0))), (17, .int .i64 e1.At), (16, .pointer (some ⟨b2, 1, none⟩))]) (l := [.loaded ⟨b2, 1, none⟩ (.int .i64 e1.At)]) (by kernel_rfl) ⟨hS9.cell 0 rfl rfl, trivial⟩ ?_
    by_cases hc3 : e1.At < 0
    · rw [if_pos hc3] at h
      refine ge_known (t := 19) (b := decide (e1.At < 0)) (c := true) (by kernel_rfl) (decide_eq_true hc3) ?_
      refine ge_batch [4, 5, 6, 7, 8, 9, 10, 11, 12, 13, 14, 15, 16, 17, 18, 19, 20, 21, 22, 23, 24, 25, 26, 27] (ans := []) (vs := [(43, .bool true), (42, undef), (41, undef), (40, undef), (39, .bool true), (38, .bool true), (37, undef), (36, undef), (35, undef), (34, .bool true), (33, .bool true), (32, undef), (31, undef), (30, undef), (29, .bool true), (28, .bool true), (27, undef), (26, undef), (25, undef), (24, .bool true), (23, .bool true), (22, undef), (21, undef), (20, undef)]) (l := []) (by kernel_rfl) trivial ?_
      refine ge_nil fun a hF => hK11 _ _ ?_ a hF
      refine we_true (by kernel_rfl) ?_
      refine we_seq fun K12 hK12 => ?_
      refine we_region [(0, 0), (1, 1), (2, 2)] rfl ?_
      refine ge_batch [0] (ans := []) (vs := [(44, .int .i64 (i1 : Int))]) (l := []) (by kernel_rfl) trivial ?_
      refine ge_call (d := some 45) (f := 21) (args := #[.int .i64 3, .int .i64 (i1 : Int)]) (by kernel_rfl) (punctualref_F_ok 3 (i1 : Int) _ _ rfl) ?_
      rintro _ w6 ⟨rfl, hS10⟩
      refine ⟨_, rfl, hS10.below, ?_⟩
      have hS11 := hS9.call hS10
      have hS12 := hS11.bring 1 rfl
      refine ge_set (b := b1) (j := 0) (cs := #[.int .i64 0, .int .i64 0]) (t := 26) (vs := [.int .i64 ((punctualref_F.f 3 (i1 : Int)).Code), .int .i64 ((punctualref_F.f 3 (i1 : Int)).At)]) hS12 (by kernel_rfl) rfl rfl fun w7 hS13 => ?_
      have hS14 : St w0 w7 [Own.blk b1 (.cells #[.int .i64 ((punctualref_F.f 3 (i1 : Int)).Code), .int .i64 ((punctualref_F.f 3 (i1 : Int)).At)] 26 (0, 0)), Own.blk b2 (.cells #[.int .i64 e1.Task, .int .i64 e1.At, .int .i64 e1.C, .int .i64 e1.Due, .int .i64 e1.P] 30 (0, 0))] := hS13
      refine ge_nil fun a hF => hK12 _ _ ?_ a hF
      have hS15 := hS14.takeN 0
      obtain rfl := Option.some.inj h
      exact we_ret fun a hF => hQ _ _ _ (Outs.out nofun (Exits.on ⟨rfl, (post_ret (rs := [.cell 2 26]) (ans := [.val (.int .i64 ((punctualref_F.f 3 (i1 : Int)).Code)), .val (.int .i64 ((punctualref_F.f 3 (i1 : Int)).At))]) (vs := [.agg #[.int .i64 ((punctualref_F.f 3 (i1 : Int)).Code), .int .i64 ((punctualref_F.f 3 (i1 : Int)).At)]]) (l := [.loaded ⟨b1, 0, none⟩ (.int .i64 ((punctualref_F.f 3 (i1 : Int)).Code)), .loaded ⟨b1, 1, none⟩ (.int .i64 ((punctualref_F.f 3 (i1 : Int)).At))]) rfl (by kernel_rfl) ⟨hS14.cell 0 rfl rfl, hS14.cell 0 rfl rfl, trivial⟩ ⟨rfl, hS15⟩) a hF⟩))
    · rw [if_neg hc3] at h
      refine ge_known (t := 19) (b := decide (e1.At < 0)) (c := false) (by kernel_rfl) (decide_eq_false hc3) ?_
      refine ge_batch [4, 5, 6, 7, 8] (ans := [.val (.int .i64 e1.At)]) (vs := [(24, .bool (decide (e1.At > 60000))), (23, .bool (decide (e1.At > 60000))), (22, .bool (decide (e1.At > 60000))), (21, .int .i64 e1.At), (20, .pointer (some ⟨b2, 1, none⟩))]) (l := [.loaded ⟨b2, 1, none⟩ (.int .i64 e1.At)]) (by kernel_rfl) ⟨hS9.cell 0 rfl rfl, trivial⟩ ?_
      by_cases hc4 : e1.At > 60000
      · rw [if_pos hc4] at h
        refine ge_known (t := 24) (b := decide (e1.At > 60000)) (c := true) (by kernel_rfl) (decide_eq_true hc4) ?_
        refine ge_batch [9, 10, 11, 12, 13, 14, 15, 16, 17, 18, 19, 20, 21, 22, 23, 24, 25, 26, 27] (ans := []) (vs := [(43, .bool true), (42, undef), (41, undef), (40, undef), (39, .bool true), (38, .bool true), (37, undef), (36, undef), (35, undef), (34, .bool true), (33, .bool true), (32, undef), (31, undef), (30, undef), (29, .bool true), (28, .bool true), (27, undef), (26, undef), (25, undef)]) (l := []) (by kernel_rfl) trivial ?_
        refine ge_nil fun a hF => hK11 _ _ ?_ a hF
        refine we_true (by kernel_rfl) ?_
        refine we_seq fun K13 hK13 => ?_
        refine we_region [(0, 0), (1, 1), (2, 2)] rfl ?_
        refine ge_batch [0] (ans := []) (vs := [(44, .int .i64 (i1 : Int))]) (l := []) (by kernel_rfl) trivial ?_
        refine ge_call (d := some 45) (f := 21) (args := #[.int .i64 3, .int .i64 (i1 : Int)]) (by kernel_rfl) (punctualref_F_ok 3 (i1 : Int) _ _ rfl) ?_
        rintro _ w8 ⟨rfl, hS16⟩
        refine ⟨_, rfl, hS16.below, ?_⟩
        have hS17 := hS9.call hS16
        have hS18 := hS17.bring 1 rfl
        refine ge_set (b := b1) (j := 0) (cs := #[.int .i64 0, .int .i64 0]) (t := 26) (vs := [.int .i64 ((punctualref_F.f 3 (i1 : Int)).Code), .int .i64 ((punctualref_F.f 3 (i1 : Int)).At)]) hS18 (by kernel_rfl) rfl rfl fun w9 hS19 => ?_
        have hS20 : St w0 w9 [Own.blk b1 (.cells #[.int .i64 ((punctualref_F.f 3 (i1 : Int)).Code), .int .i64 ((punctualref_F.f 3 (i1 : Int)).At)] 26 (0, 0)), Own.blk b2 (.cells #[.int .i64 e1.Task, .int .i64 e1.At, .int .i64 e1.C, .int .i64 e1.Due, .int .i64 e1.P] 30 (0, 0))] := hS19
        refine ge_nil fun a hF => hK13 _ _ ?_ a hF
        have hS21 := hS20.takeN 0
        obtain rfl := Option.some.inj h
        exact we_ret fun a hF => hQ _ _ _ (Outs.out nofun (Exits.on ⟨rfl, (post_ret (rs := [.cell 2 26]) (ans := [.val (.int .i64 ((punctualref_F.f 3 (i1 : Int)).Code)), .val (.int .i64 ((punctualref_F.f 3 (i1 : Int)).At))]) (vs := [.agg #[.int .i64 ((punctualref_F.f 3 (i1 : Int)).Code), .int .i64 ((punctualref_F.f 3 (i1 : Int)).At)]]) (l := [.loaded ⟨b1, 0, none⟩ (.int .i64 ((punctualref_F.f 3 (i1 : Int)).Code)), .loaded ⟨b1, 1, none⟩ (.int .i64 ((punctualref_F.f 3 (i1 : Int)).At))]) rfl (by kernel_rfl) ⟨hS20.cell 0 rfl rfl, hS20.cell 0 rfl rfl, trivial⟩ ⟨rfl, hS21⟩) a hF⟩))
      · rw [if_neg hc4] at h
        refine ge_known (t := 24) (b := decide (e1.At > 60000)) (c := false) (by kernel_rfl) (decide_eq_false hc4) ?_
        refine ge_batch [9, 10, 11, 12, 13] (ans := [.val (.int .i64 e1.C)]) (vs := [(29, .bool (decide (e1.C < 1))), (28, .bool (decide (e1.C < 1))), (27, .bool (decide (e1.C < 1))), (26, .int .i64 e1.C), (25, .pointer (some ⟨b2, 2, none⟩))]) (l := [.loaded ⟨b2, 2, none⟩ (.int .i64 e1.C)]) (by kernel_rfl) ⟨hS9.cell 0 rfl rfl, trivial⟩ ?_
        by_cases hc5 : e1.C < 1
        · rw [if_pos hc5] at h
          refine ge_known (t := 29) (b := decide (e1.C < 1)) (c := true) (by kernel_rfl) (decide_eq_true hc5) ?_
          refine ge_batch [14, 15, 16, 17, 18, 19, 20, 21, 22, 23, 24, 25, 26, 27] (ans := []) (vs := [(43, .bool true), (42, undef), (41, undef), (40, undef), (39, .bool true), (38, .bool true), (37, undef), (36, undef), (35, undef), (34, .bool true), (33, .bool true), (32, undef), (31, undef), (30, undef)]) (l := []) (by kernel_rfl) trivial ?_
          refine ge_nil fun a hF => hK11 _ _ ?_ a hF
          refine we_true (by kernel_rfl) ?_
          refine we_seq fun K14 hK14 => ?_
          refine we_region [(0, 0), (1, 1), (2, 2)] rfl ?_
          refine ge_batch [0] (ans := []) (vs := [(44, .int .i64 (i1 : Int))]) (l := []) (by kernel_rfl) trivial ?_
          refine ge_call (d := some 45) (f := 21) (args := #[.int .i64 3, .int .i64 (i1 : Int)]) (by kernel_rfl) (punctualref_F_ok 3 (i1 : Int) _ _ rfl) ?_
          rintro _ w10 ⟨rfl, hS22⟩
          refine ⟨_, rfl, hS22.below, ?_⟩
          have hS23 := hS9.call hS22
          have hS24 := hS23.bring 1 rfl
          refine ge_set (b := b1) (j := 0) (cs := #[.int .i64 0, .int .i64 0]) (t := 26) (vs := [.int .i64 ((punctualref_F.f 3 (i1 : Int)).Code), .int .i64 ((punctualref_F.f 3 (i1 : Int)).At)]) hS24 (by kernel_rfl) rfl rfl fun w11 hS25 => ?_
          have hS26 : St w0 w11 [Own.blk b1 (.cells #[.int .i64 ((punctualref_F.f 3 (i1 : Int)).Code), .int .i64 ((punctualref_F.f 3 (i1 : Int)).At)] 26 (0, 0)), Own.blk b2 (.cells #[.int .i64 e1.Task, .int .i64 e1.At, .int .i64 e1.C, .int .i64 e1.Due, .int .i64 e1.P] 30 (0, 0))] := hS25
          refine ge_nil fun a hF => hK14 _ _ ?_ a hF
          have hS27 := hS26.takeN 0
          obtain rfl := Option.some.inj h
          exact we_ret fun a hF => hQ _ _ _ (Outs.out nofun (Exits.on ⟨rfl, (post_ret (rs := [.cell 2 26]) (ans := [.val (.int .i64 ((punctualref_F.f 3 (i1 : Int)).Code)), .val (.int .i64 ((punctualref_F.f 3 (i1 : Int)).At))]) (vs := [.agg #[.int .i64 ((punctualref_F.f 3 (i1 : Int)).Code), .int .i64 ((punctualref_F.f 3 (i1 : Int)).At)]]) (l := [.loaded ⟨b1, 0, none⟩ (.int .i64 ((punctualref_F.f 3 (i1 : Int)).Code)), .loaded ⟨b1, 1, none⟩ (.int .i64 ((punctualref_F.f 3 (i1 : Int)).At))]) rfl (by kernel_rfl) ⟨hS26.cell 0 rfl rfl, hS26.cell 0 rfl rfl, trivial⟩ ⟨rfl, hS27⟩) a hF⟩))
        · rw [if_neg hc5] at h
          refine ge_known (t := 29) (b := decide (e1.C < 1)) (c := false) (by kernel_rfl) (decide_eq_false hc5) ?_
          refine ge_batch [14, 15, 16, 17, 18] (ans := [.val (.int .i64 e1.C)]) (vs := [(34, .bool (decide (e1.C > 10000))), (33, .bool (decide (e1.C > 10000))), (32, .bool (decide (e1.C > 10000))), (31, .int .i64 e1.C), (30, .pointer (some ⟨b2, 2, none⟩))]) (l := [.loaded ⟨b2, 2, none⟩ (.int .i64 e1.C)]) (by kernel_rfl) ⟨hS9.cell 0 rfl rfl, trivial⟩ ?_
          by_cases hc6 : e1.C > 10000
          · rw [if_pos hc6] at h
            refine ge_known (t := 34) (b := decide (e1.C > 10000)) (c := true) (by kernel_rfl) (decide_eq_true hc6) ?_
            refine ge_batch [19, 20, 21, 22, 23, 24, 25, 26, 27] (ans := []) (vs := [(43, .bool true), (42, undef), (41, undef), (40, undef), (39, .bool true), (38, .bool true), (37, undef), (36, undef), (35, undef)]) (l := []) (by kernel_rfl) trivial ?_
            refine ge_nil fun a hF => hK11 _ _ ?_ a hF
            refine we_true (by kernel_rfl) ?_
            refine we_seq fun K15 hK15 => ?_
            refine we_region [(0, 0), (1, 1), (2, 2)] rfl ?_
            refine ge_batch [0] (ans := []) (vs := [(44, .int .i64 (i1 : Int))]) (l := []) (by kernel_rfl) trivial ?_
            refine ge_call (d := some 45) (f := 21) (args := #[.int .i64 3, .int .i64 (i1 : Int)]) (by kernel_rfl) (punctualref_F_ok 3 (i1 : Int) _ _ rfl) ?_
            rintro _ w12 ⟨rfl, hS28⟩
            refine ⟨_, rfl, hS28.below, ?_⟩
            have hS29 := hS9.call hS28
            have hS30 := hS29.bring 1 rfl
            refine ge_set (b := b1) (j := 0) (cs := #[.int .i64 0, .int .i64 0]) (t := 26) (vs := [.int .i64 ((punctualref_F.f 3 (i1 : Int)).Code), .int .i64 ((punctualref_F.f 3 (i1 : Int)).At)]) hS30 (by kernel_rfl) rfl rfl fun w13 hS31 => ?_
            have hS32 : St w0 w13 [Own.blk b1 (.cells #[.int .i64 ((punctualref_F.f 3 (i1 : Int)).Code), .int .i64 ((punctualref_F.f 3 (i1 : Int)).At)] 26 (0, 0)), Own.blk b2 (.cells #[.int .i64 e1.Task, .int .i64 e1.At, .int .i64 e1.C, .int .i64 e1.Due, .int .i64 e1.P] 30 (0, 0))] := hS31
            refine ge_nil fun a hF => hK15 _ _ ?_ a hF
            have hS33 := hS32.takeN 0
            obtain rfl := Option.some.inj h
            exact we_ret fun a hF => hQ _ _ _ (Outs.out nofun (Exits.on ⟨rfl, (post_ret (rs := [.cell 2 26]) (ans := [.val (.int .i64 ((punctualref_F.f 3 (i1 : Int)).Code)), .val (.int .i64 ((punctualref_F.f 3 (i1 : Int)).At))]) (vs := [.agg #[.int .i64 ((punctualref_F.f 3 (i1 : Int)).Code), .int .i64 ((punctualref_F.f 3 (i1 : Int)).At)]]) (l := [.loaded ⟨b1, 0, none⟩ (.int .i64 ((punctualref_F.f 3 (i1 : Int)).Code)), .loaded ⟨b1, 1, none⟩ (.int .i64 ((punctualref_F.f 3 (i1 : Int)).At))]) rfl (by kernel_rfl) ⟨hS32.cell 0 rfl rfl, hS32.cell 0 rfl rfl, trivial⟩ ⟨rfl, hS33⟩) a hF⟩))
          · rw [if_neg hc6] at h
            refine ge_known (t := 34) (b := decide (e1.C > 10000)) (c := false) (by kernel_rfl) (decide_eq_false hc6) ?_
            refine ge_batch [19, 20, 21, 22, 23] (ans := [.val (.int .i64 e1.Due)]) (vs := [(39, .bool (decide (e1.Due < 0))), (38, .bool (decide (e1.Due < 0))), (37, .bool (decide (e1.Due < 0))), (36, .int .i64 e1.Due), (35, .pointer (some ⟨b2, 3, none⟩))]) (l := [.loaded ⟨b2, 3, none⟩ (.int .i64 e1.Due)]) (by kernel_rfl) ⟨hS9.cell 0 rfl rfl, trivial⟩ ?_
            by_cases hc7 : e1.Due < 0
            · rw [if_pos hc7] at h
              refine ge_known (t := 39) (b := decide (e1.Due < 0)) (c := true) (by kernel_rfl) (decide_eq_true hc7) ?_
              refine ge_batch [24, 25, 26, 27] (ans := []) (vs := [(43, .bool true), (42, undef), (41, undef), (40, undef)]) (l := []) (by kernel_rfl) trivial ?_
              refine ge_nil fun a hF => hK11 _ _ ?_ a hF
              refine we_true (by kernel_rfl) ?_
              refine we_seq fun K16 hK16 => ?_
              refine we_region [(0, 0), (1, 1), (2, 2)] rfl ?_
              refine ge_batch [0] (ans := []) (vs := [(44, .int .i64 (i1 : Int))]) (l := []) (by kernel_rfl) trivial ?_
              refine ge_call (d := some 45) (f := 21) (args := #[.int .i64 3, .int .i64 (i1 : Int)]) (by kernel_rfl) (punctualref_F_ok 3 (i1 : Int) _ _ rfl) ?_
              rintro _ w14 ⟨rfl, hS34⟩
              refine ⟨_, rfl, hS34.below, ?_⟩
              have hS35 := hS9.call hS34
              have hS36 := hS35.bring 1 rfl
              refine ge_set (b := b1) (j := 0) (cs := #[.int .i64 0, .int .i64 0]) (t := 26) (vs := [.int .i64 ((punctualref_F.f 3 (i1 : Int)).Code), .int .i64 ((punctualref_F.f 3 (i1 : Int)).At)]) hS36 (by kernel_rfl) rfl rfl fun w15 hS37 => ?_
              have hS38 : St w0 w15 [Own.blk b1 (.cells #[.int .i64 ((punctualref_F.f 3 (i1 : Int)).Code), .int .i64 ((punctualref_F.f 3 (i1 : Int)).At)] 26 (0, 0)), Own.blk b2 (.cells #[.int .i64 e1.Task, .int .i64 e1.At, .int .i64 e1.C, .int .i64 e1.Due, .int .i64 e1.P] 30 (0, 0))] := hS37
              refine ge_nil fun a hF => hK16 _ _ ?_ a hF
              have hS39 := hS38.takeN 0
              obtain rfl := Option.some.inj h
              exact we_ret fun a hF => hQ _ _ _ (Outs.out nofun (Exits.on ⟨rfl, (post_ret (rs := [.cell 2 26]) (ans := [.val (.int .i64 ((punctualref_F.f 3 (i1 : Int)).Code)), .val (.int .i64 ((punctualref_F.f 3 (i1 : Int)).At))]) (vs := [.agg #[.int .i64 ((punctualref_F.f 3 (i1 : Int)).Code), .int .i64 ((punctualref_F.f 3 (i1 : Int)).At)]]) (l := [.loaded ⟨b1, 0, none⟩ (.int .i64 ((punctualref_F.f 3 (i1 : Int)).Code)), .loaded ⟨b1, 1, none⟩ (.int .i64 ((punctualref_F.f 3 (i1 : Int)).At))]) rfl (by kernel_rfl) ⟨hS38.cell 0 rfl rfl, hS38.cell 0 rfl rfl, trivial⟩ ⟨rfl, hS39⟩) a hF⟩))
            · rw [if_neg hc7] at h
              refine ge_known (t := 39) (b := decide (e1.Due < 0)) (c := false) (by kernel_rfl) (decide_eq_false hc7) ?_
              refine ge_batch [24, 25, 26, 27] (ans := [.val (.int .i64 e1.Due)]) (vs := [(43, .bool (decide (e1.Due > 80000))), (42, .bool (decide (e1.Due > 80000))), (41, .int .i64 e1.Due), (40, .pointer (some ⟨b2, 3, none⟩))]) (l := [.loaded ⟨b2, 3, none⟩ (.int .i64 e1.Due)]) (by kernel_rfl) ⟨hS9.cell 0 rfl rfl, trivial⟩ ?_
              refine ge_nil fun a hF => hK11 _ _ ?_ a hF
              by_cases hc8 : e1.Due > 80000
              · rw [if_pos hc8] at h
                refine we_known (t := 43) (b := decide (e1.Due > 80000)) (v := true) (by kernel_rfl) (decide_eq_true hc8) ?_
                refine we_true (by kernel_rfl) ?_
                refine we_seq fun K17 hK17 => ?_
                refine we_region [(0, 0), (1, 1), (2, 2)] rfl ?_
                refine ge_batch [0] (ans := []) (vs := [(44, .int .i64 (i1 : Int))]) (l := []) (by kernel_rfl) trivial ?_
                refine ge_call (d := some 45) (f := 21) (args := #[.int .i64 3, .int .i64 (i1 : Int)]) (by kernel_rfl) (punctualref_F_ok 3 (i1 : Int) _ _ rfl) ?_
                rintro _ w16 ⟨rfl, hS40⟩
                refine ⟨_, rfl, hS40.below, ?_⟩
                have hS41 := hS9.call hS40
                have hS42 := hS41.bring 1 rfl
                refine ge_set (b := b1) (j := 0) (cs := #[.int .i64 0, .int .i64 0]) (t := 26) (vs := [.int .i64 ((punctualref_F.f 3 (i1 : Int)).Code), .int .i64 ((punctualref_F.f 3 (i1 : Int)).At)]) hS42 (by kernel_rfl) rfl rfl fun w17 hS43 => ?_
                have hS44 : St w0 w17 [Own.blk b1 (.cells #[.int .i64 ((punctualref_F.f 3 (i1 : Int)).Code), .int .i64 ((punctualref_F.f 3 (i1 : Int)).At)] 26 (0, 0)), Own.blk b2 (.cells #[.int .i64 e1.Task, .int .i64 e1.At, .int .i64 e1.C, .int .i64 e1.Due, .int .i64 e1.P] 30 (0, 0))] := hS43
                refine ge_nil fun a hF => hK17 _ _ ?_ a hF
                have hS45 := hS44.takeN 0
                obtain rfl := Option.some.inj h
                exact we_ret fun a hF => hQ _ _ _ (Outs.out nofun (Exits.on ⟨rfl, (post_ret (rs := [.cell 2 26]) (ans := [.val (.int .i64 ((punctualref_F.f 3 (i1 : Int)).Code)), .val (.int .i64 ((punctualref_F.f 3 (i1 : Int)).At))]) (vs := [.agg #[.int .i64 ((punctualref_F.f 3 (i1 : Int)).Code), .int .i64 ((punctualref_F.f 3 (i1 : Int)).At)]]) (l := [.loaded ⟨b1, 0, none⟩ (.int .i64 ((punctualref_F.f 3 (i1 : Int)).Code)), .loaded ⟨b1, 1, none⟩ (.int .i64 ((punctualref_F.f 3 (i1 : Int)).At))]) rfl (by kernel_rfl) ⟨hS44.cell 0 rfl rfl, hS44.cell 0 rfl rfl, trivial⟩ ⟨rfl, hS45⟩) a hF⟩))
              · rw [if_neg hc8] at h
                refine we_known (t := 43) (b := decide (e1.Due > 80000)) (v := false) (by kernel_rfl) (decide_eq_false hc8) ?_
                refine we_false (by kernel_rfl) ?_
                refine we_skip fun a hF => hK9 _ _ ?_ a hF
                refine we_region [(0, 0), (1, 0)] rfl ?_
                refine ge_addn (d := 46) (ty := 3) (x := (.tmp 11)) (y := (.const (.int .i64 1))) (t := 3) (t2 := 3) (k := .i64) (m := i1) (by kernel_rfl) (by kernel_rfl) (by kernel_rfl) (by have h0 := hR0.small; omega) ?_
                refine ge_batch [1] (ans := []) (vs := [(11, .int .i64 ((i1 + 1 : Nat) : Int))]) (l := []) (by kernel_rfl) trivial ?_
                have hS46 := hS9.bring 1 rfl
                have hS47 := hS46.takeN 1
                obtain rfl := Option.some.inj h
                exact ge_nil fun a hF => hQ _ _ _ (Outs.again ⟨hS47, hF.weaken ⟨by kernel_rfl, by kernel_rfl, by kernel_rfl, by kernel_rfl, trivial⟩⟩)
  · rw [if_neg hc2] at h
    refine we_known (t := 12) (b := decide ((i1 : Int) < (l0.length : Int))) (v := false) (by kernel_rfl) (decide_eq_false hc2) ?_
    refine we_false (by kernel_rfl) ?_
    obtain rfl := Option.some.inj h
    exact we_exit fun a hF => hQ _ _ _ (Outs.out nofun (Exits.here ⟨hS, hF.weaken ⟨by kernel_rfl, trivial⟩⟩))
theorem punctualref_CheckJobs_ok (K : Nat) (l0 : List SJob) (A0 : Option Addr) (c0 : Nat) (w0 : World) (hR0 : RdL w0 A0 l0) (hL0 : l0.length ≤ c0) (r : SFault) (h : punctualref_CheckJobs.f K l0 = some r) :
    Calls Tryd.prog 35 #[.slice A0 l0.length c0] w0 (punctualref_CheckJobs.Post w0 r) := by
  have hS := St.start w0
  unfold punctualref_CheckJobs.f at h
  refine calls_enter (n := 48) (args := [.slice A0 l0.length c0]) (fn := Tryd.f35) rfl rfl rfl rfl ?_
  show WE _ _ _ _ [(0, .slice A0 l0.length c0)] _
  refine we_seq fun K1 hK1 => ?_
  refine we_region [(0, 1)] rfl ?_
  refine ge_new (d := some 2) (o := .cells #[.int .i64 0, .int .i64 0] 26) (v := fun b => .pointer (some ⟨b, 0, none⟩)) hS (fun b => by kernel_rfl) fun b1 w1 hx1 hS1 => ?_
  refine ge_nil fun a hF => hK1 _ _ ?_ a hF
  refine we_seq fun K2 hK2 => ?_
  refine we_seq fun K3 hK3 => ?_
  refine we_region [(0, 0), (1, 0), (2, 0)] rfl ?_
  refine ge_batch [0, 1, 2] (ans := []) (vs := [(7, .bool (decide ((l0.length : Int) > 4000))), (6, .int .i64 (l0.length : Int)), (5, .slice A0 l0.length c0)]) (l := []) (by kernel_rfl) trivial ?_
  refine ge_nil fun a hF => hK3 _ _ ?_ a hF
  by_cases hc1 : (l0.length : Int) > 4000
  · rw [if_pos hc1] at h
    refine we_known (t := 7) (b := decide ((l0.length : Int) > 4000)) (v := true) (by kernel_rfl) (decide_eq_true hc1) ?_
    refine we_true (by kernel_rfl) ?_
    refine we_seq fun K4 hK4 => ?_
    refine we_region [(0, 1), (1, 2)] rfl ?_
    refine ge_call (d := some 8) (f := 21) (args := #[.int .i64 2, .int .i64 0]) (by kernel_rfl) (punctualref_F_ok 2 0 _ _ rfl) ?_
    rintro _ w2 ⟨rfl, hS2⟩
    refine ⟨_, rfl, hS2.below, ?_⟩
    have hS3 := hS1.call hS2
    refine ge_set (b := b1) (j := 0) (cs := #[.int .i64 0, .int .i64 0]) (t := 26) (vs := [.int .i64 ((punctualref_F.f 2 0).Code), .int .i64 ((punctualref_F.f 2 0).At)]) hS3 (by kernel_rfl) rfl rfl fun w3 hS4 => ?_
    have hS5 : St w0 w3 [Own.blk b1 (.cells #[.int .i64 ((punctualref_F.f 2 0).Code), .int .i64 ((punctualref_F.f 2 0).At)] 26 (0, 0))] := hS4
    refine ge_nil fun a hF => hK4 _ _ ?_ a hF
    have hS6 := hS5.takeN 0
    obtain rfl := Option.some.inj h
    exact we_ret (post_ret (rs := [.cell 2 26]) (ans := [.val (.int .i64 ((punctualref_F.f 2 0).Code)), .val (.int .i64 ((punctualref_F.f 2 0).At))]) (vs := [.agg #[.int .i64 ((punctualref_F.f 2 0).Code), .int .i64 ((punctualref_F.f 2 0).At)]]) (l := [.loaded ⟨b1, 0, none⟩ (.int .i64 ((punctualref_F.f 2 0).Code)), .loaded ⟨b1, 1, none⟩ (.int .i64 ((punctualref_F.f 2 0).At))]) rfl (by kernel_rfl) ⟨hS5.cell 0 rfl rfl, hS5.cell 0 rfl rfl, trivial⟩ ⟨rfl, hS6⟩)
  · rw [if_neg hc1] at h
    refine we_known (t := 7) (b := decide ((l0.length : Int) > 4000)) (v := false) (by kernel_rfl) (decide_eq_false hc1) ?_
    refine we_false (by kernel_rfl) ?_
    refine we_skip fun a hF => hK2 _ _ ?_ a hF
    refine we_seq fun K5 hK5 => ?_
    refine we_seq fun K6 hK6 => ?_
    refine we_region [(0, 0), (1, 0), (2, 0)] rfl ?_
    refine ge_batch [0, 1, 2] (ans := []) (vs := [(11, .int .i64 0), (10, .int .i64 (l0.length : Int)), (9, .slice A0 l0.length c0)]) (l := []) (by kernel_rfl) trivial ?_
    refine ge_nil fun a hF => hK6 _ _ ?_ a hF
    refine we_block ?_
    rcases hq8 : iter (punctualref_CheckJobs.r0 l0) K 0 with _ | (_ | rr1)
    · rw [hq8] at h; cases h
    · rw [hq8] at h
      simp only [] at h
      refine we_iter (A := punctualref_CheckJobs.A0 K w0 l0 A0 c0 hR0 hL0 b1 hc1) (B := punctualref_CheckJobs.B0 K w0 l0 A0 c0 hR0 hL0 b1 hc1) hq8 (fun a hF => ⟨hS1, hF.weaken ⟨by kernel_rfl, by kernel_rfl, by kernel_rfl, by kernel_rfl, trivial⟩⟩) (fun s o hf a w hA Q hQ => punctualref_CheckJobs_r0 K w0 l0 A0 c0 hR0 hL0 b1 hc1 s o hf a w hA Q hQ) ?_
      rintro _ a w18 _ ⟨rfl, hS48, hF⟩
      replace hS48 : St w0 w18 [Own.blk b1 (.cells #[.int .i64 0, .int .i64 0] 26 (0, 0))] := hS48
      refine hK5 [(2, .pointer (some ⟨b1, 0, none⟩))] w18 ?_ a hF
      refine we_seq fun K18 hK18 => ?_
      refine we_region [(0, 0), (1, 2)] rfl ?_
      refine ge_batch [0] (ans := []) (vs := [(47, .agg #[.int .i64 0, .int .i64 0])]) (l := []) (by kernel_rfl) trivial ?_
      refine ge_set (b := b1) (j := 0) (cs := #[.int .i64 0, .int .i64 0]) (t := 26) (vs := [.int .i64 0, .int .i64 0]) hS48 (by kernel_rfl) rfl rfl fun w19 hS49 => ?_
      have hS50 : St w0 w19 [Own.blk b1 (.cells #[.int .i64 0, .int .i64 0] 26 (0, 0))] := hS49
      refine ge_nil fun a hF => hK18 _ _ ?_ a hF
      have hS51 := hS50.takeN 0
      obtain rfl := Option.some.inj h
      exact we_ret (post_ret (rs := [.cell 2 26]) (ans := [.val (.int .i64 0), .val (.int .i64 0)]) (vs := [.agg #[.int .i64 0, .int .i64 0]]) (l := [.loaded ⟨b1, 0, none⟩ (.int .i64 0), .loaded ⟨b1, 1, none⟩ (.int .i64 0)]) rfl (by kernel_rfl) ⟨hS50.cell 0 rfl rfl, hS50.cell 0 rfl rfl, trivial⟩ ⟨rfl, hS51⟩)
    · rw [hq8] at h
      simp only [] at h
      refine we_iter (A := punctualref_CheckJobs.A0 K w0 l0 A0 c0 hR0 hL0 b1 hc1) (B := punctualref_CheckJobs.B0 K w0 l0 A0 c0 hR0 hL0 b1 hc1) hq8 (fun a hF => ⟨hS1, hF.weaken ⟨by kernel_rfl, by kernel_rfl, by kernel_rfl, by kernel_rfl, trivial⟩⟩) (fun s o hf a w hA Q hQ => punctualref_CheckJobs_r0 K w0 l0 A0 c0 hR0 hL0 b1 hc1 s o hf a w hA Q hQ) ?_
      rintro _ a w1 _ ⟨rfl, hb⟩
      obtain rfl := Option.some.inj h
      exact hb

/-! punctual/punctualref.Always -/
abbrev punctualref_Always.Post (w0 : World) (r : Bool) (e : Ending) (w : World) : Prop := e = .returned (.bool r) ∧ St w0 w []
def punctualref_Always.f (x0 : Int) : Bool :=
  true
theorem punctualref_Always_ok (x0 : Int) (w0 : World) (r : Bool) (h : punctualref_Always.f x0 = r) :
    Calls Tryd.prog 68 #[.int .i64 x0] w0 (punctualref_Always.Post w0 r) := by
  have hS := St.start w0
  unfold punctualref_Always.f at h
  refine calls_enter (n := 3) (args := [.int .i64 x0]) (fn := Tryd.f68) rfl rfl rfl rfl ?_
  show WE _ _ _ _ [(0, .int .i64 x0)] _
  refine we_seq fun K1 hK1 => ?_
  refine we_region [(0, 0)] rfl ?_
  refine ge_batch [0] (ans := []) (vs := [(2, .bool false)]) (l := []) (by kernel_rfl) trivial ?_
  refine ge_nil fun a hF => hK1 _ _ ?_ a hF
  refine we_seq fun K2 hK2 => ?_
  refine we_region [(0, 0)] rfl ?_
  refine ge_batch [0] (ans := []) (vs := [(2, .bool true)]) (l := []) (by kernel_rfl) trivial ?_
  refine ge_nil fun a hF => hK2 _ _ ?_ a hF
  subst h
  exact we_ret (post_ret (rs := [.tmp 2]) (ans := []) (vs := [.bool true]) (l := []) rfl (by kernel_rfl) trivial ⟨rfl, hS⟩)

/-! punctual/punctualref.Goes -/
abbrev punctualref_Goes.Post (w0 : World) (r : Bool) (e : Ending) (w : World) : Prop := e = .returned (.bool r) ∧ St w0 w []
def punctualref_Goes.p0 (l0 : List SJob) (x1 : Int) (x2 : Int) : Option ((Int × Int × Int × Int × Int × Int × Int × Int × Int × Int) ⊕ Bool) :=
    if 0 ≤ x1 then
      match l0[(x1).toNat]? with
      | none => none
      | some e1 =>
        if 0 ≤ x2 then
          match l0[(x2).toNat]? with
          | none => none
          | some e2 =>
            some (.inl (e1.Task, e1.At, e1.C, e1.Due, e1.P, e2.Task, e2.At, e2.C, e2.Due, e2.P))
        else
          none
    else
      none
def punctualref_Goes.f (l0 : List SJob) (x1 : Int) (x2 : Int) (x3 : Int) : Option Bool :=
  match punctualref_Goes.p0 l0 x1 x2 with
  | none => none
  | some (.inl (z11, z12, z13, z14, z15, z16, z17, z18, z19, z20)) =>
    if x3 = 1 then
      if z15 = z20 then
        if x3 = 2 then
          if z14 = z19 then
            if z12 = z17 then
              some (decide (x1 < x2))
            else
              some (decide (z12 < z17))
          else
            some (decide (z14 < z19))
        else
          if z12 = z17 then
            some (decide (x1 < x2))
          else
            some (decide (z12 < z17))
      else
        some (decide (z15 > z20))
    else
      if x3 = 2 then
        if z14 = z19 then
          if z12 = z17 then
            some (decide (x1 < x2))
          else
            some (decide (z12 < z17))
        else
          some (decide (z14 < z19))
      else
        if z12 = z17 then
          some (decide (x1 < x2))
        else
          some (decide (z12 < z17))
  | some (.inr rr1) =>
    some rr1
abbrev punctualref_Goes.A0 (K : Nat) (w0 : World) (l0 : List SJob) (A0 : Option Addr) (c0 : Nat) (x1 : Int) (x2 : Int) (x3 : Int) (hR0 : RdL w0 A0 l0) (hL0 : l0.length ≤ c0) : (Int × Int × Int × Int × Int × Int × Int × Int × Int × Int) → Act → World → Prop := fun (s : Int × Int × Int × Int × Int × Int × Int × Int × Int × Int) a w => ∃ (b1 : Nat) (b2 : Nat), St w0 w [Own.blk b1 (.cells #[.int .i64 s.1, .int .i64 s.2.1, .int .i64 s.2.2.1, .int .i64 s.2.2.2.1, .int .i64 s.2.2.2.2.1] 30 (0, 0)), Own.blk b2 (.cells #[.int .i64 s.2.2.2.2.2.1, .int .i64 s.2.2.2.2.2.2.1, .int .i64 s.2.2.2.2.2.2.2.1, .int .i64 s.2.2.2.2.2.2.2.2.1, .int .i64 s.2.2.2.2.2.2.2.2.2] 30 (0, 0))] ∧ Frm 60 a [(1, .int .i64 x1), (2, .int .i64 x2), (3, .int .i64 x3), (9, .pointer (some ⟨b1, 0, none⟩)), (10, .pointer (some ⟨b2, 0, none⟩))]
abbrev punctualref_Goes.B0 (K : Nat) (w0 : World) (l0 : List SJob) (A0 : Option Addr) (c0 : Nat) (x1 : Int) (x2 : Int) (x3 : Int) (hR0 : RdL w0 A0 l0) (hL0 : l0.length ≤ c0) : Bool → Exit → Act → World → Prop := Rets Tryd.prog Tryd.f91 (punctualref_Goes.Post w0)
theorem punctualref_Goes_p0 (K : Nat) (w0 : World) (l0 : List SJob) (A0 : Option Addr) (c0 : Nat) (x1 : Int) (x2 : Int) (x3 : Int) (hR0 : RdL w0 A0 l0) (hL0 : l0.length ≤ c0) (o : (Int × Int × Int × Int × Int × Int × Int × Int × Int × Int) ⊕ Bool) (h : punctualref_Goes.p0 l0 x1 x2 = some o) (w : World) (hS : St w0 w []) (Q : Exit → Act → World → Prop) (hQ : ∀ x a w, Outs (punctualref_Goes.A0 K w0 l0 A0 c0 x1 x2 x3 hR0 hL0) (punctualref_Goes.B0 K w0 l0 A0 c0 x1 x2 x3 hR0 hL0) o x a w → Q x a w) : WE Tryd.prog 60 (subF Tryd.f91 [1, 0]) Q [(0, .slice A0 l0.length c0), (1, .int .i64 x1), (2, .int .i64 x2), (3, .int .i64 x3), (8, .bool false)] w := by
  simp only [punctualref_Goes.p0] at h
  refine we_orders2 (by kernel_rfl) [(3, [⟨blkOf A0, offOf A0 + ((x1).toNat) * 5, none⟩, ⟨blkOf A0, offOf A0 + ((x1).toNat) * 5 + 1, none⟩, ⟨blkOf A0, offOf A0 + ((x1).toNat) * 5 + 2, none⟩, ⟨blkOf A0, offOf A0 + ((x1).toNat) * 5 + 3, none⟩, ⟨blkOf A0, offOf A0 + ((x1).toNat) * 5 + 4, none⟩]), (7, [⟨blkOf A0, offOf A0 + ((x2).toNat) * 5, none⟩, ⟨blkOf A0, offOf A0 + ((x2).toNat) * 5 + 1, none⟩, ⟨blkOf A0, offOf A0 + ((x2).toNat) * 5 + 2, none⟩, ⟨blkOf A0, offOf A0 + ((x2).toNat) * 5 + 3, none⟩, ⟨blkOf A0, offOf A0 + ((x2).toNat) * 5 + 4, none⟩])] (.vals [0] (.vals [1] (.vals [2] (.vals [3] (.vals [4] (.vals [5] (.vals [6] (.vals [7] (.alt 8 1 (.alt 9 1 (.alt 10 2 (.alt 11 2 .fin .nomore) .nomore) .nomore) (.alt 9 1 (.alt 8 1 (.alt 10 2 (.alt 11 2 .fin .nomore) .nomore) .nomore) .nomore)))))))))) (by kernel_rfl) ?_
  have hS1 := hS.drew
  refine go2_batch [0, 1] (ans := []) (vs := [(12, .int .i64 x1), (11, .slice A0 l0.length c0)]) (l := []) (by kernel_rfl) trivial mem_nil ?_
  by_cases hc1 : 0 ≤ x1
  · rw [if_pos hc1] at h
    rcases hx1 : l0[(x1).toNat]? with _ | e1
    · rw [hx1] at h; cases h
    rw [hx1] at h
    simp only [] at h
    refine go2_index (d := 13) (ty := 0) (t := 22) (el := 30) (sz := 5) (m := l0.length) (c := c0) (x := (.tmp 11)) (y := (.tmp 12)) (A := A0) (k' := .i64) (j := x1) (jn := ((x1).toNat)) (b0 := blkOf A0) (o0 := offOf A0) (by kernel_rfl) (by kernel_rfl) (by kernel_rfl) (by kernel_rfl) (by kernel_rfl) ((hS1.rd hR0).eqSome (pos_of_get hx1)) (Int.toNat_of_nonneg hc1).symm (lt_of_get hx1) ?_
    refine go2_batch [3] (ans := [.val (.int .i64 e1.Task), .val (.int .i64 e1.At), .val (.int .i64 e1.C), .val (.int .i64 e1.Due), .val (.int .i64 e1.P)]) (vs := [(14, .agg #[.int .i64 e1.Task, .int .i64 e1.At, .int .i64 e1.C, .int .i64 e1.Due, .int .i64 e1.P])]) (l := [.loaded ⟨blkOf A0, offOf A0 + ((x1).toNat) * 5, none⟩ (.int .i64 e1.Task), .loaded ⟨blkOf A0, offOf A0 + ((x1).toNat) * 5 + 1, none⟩ (.int .i64 e1.At), .loaded ⟨blkOf A0, offOf A0 + ((x1).toNat) * 5 + 2, none⟩ (.int .i64 e1.C), .loaded ⟨blkOf A0, offOf A0 + ((x1).toNat) * 5 + 3, none⟩ (.int .i64 e1.Due), .loaded ⟨blkOf A0, offOf A0 + ((x1).toNat) * 5 + 4, none⟩ (.int .i64 e1.P)]) (by kernel_rfl) ⟨RdL.cell (j := 0) (hS1.rd hR0) hx1 rfl, RdL.cell (j := 1) (hS1.rd hR0) hx1 rfl, RdL.cell (j := 2) (hS1.rd hR0) hx1 rfl, RdL.cell (j := 3) (hS1.rd hR0) hx1 rfl, RdL.cell (j := 4) (hS1.rd hR0) hx1 rfl, trivial⟩ (mem_one (by kernel_rfl)) ?_
    refine go2_batch [4, 5] (ans := []) (vs := [(16, .int .i64 x2), (15, .slice A0 l0.length c0)]) (l := []) (by kernel_rfl) trivial mem_nil ?_
    by_cases hc2 : 0 ≤ x2
    · rw [if_pos hc2] at h
      rcases hx2 : l0[(x2).toNat]? with _ | e2
      · rw [hx2] at h; cases h
      rw [hx2] at h
      simp only [] at h
      refine go2_index (d := 17) (ty := 0) (t := 22) (el := 30) (sz := 5) (m := l0.length) (c := c0) (x := (.tmp 15)) (y := (.tmp 16)) (A := A0) (k' := .i64) (j := x2) (jn := ((x2).toNat)) (b0 := blkOf A0) (o0 := offOf A0) (by kernel_rfl) (by kernel_rfl) (by kernel_rfl) (by kernel_rfl) (by kernel_rfl) ((hS1.rd hR0).eqSome (pos_of_get hx2)) (Int.toNat_of_nonneg hc2).symm (lt_of_get hx2) ?_
      refine go2_batch [7] (ans := [.val (.int .i64 e2.Task), .val (.int .i64 e2.At), .val (.int .i64 e2.C), .val (.int .i64 e2.Due), .val (.int .i64 e2.P)]) (vs := [(18, .agg #[.int .i64 e2.Task, .int .i64 e2.At, .int .i64 e2.C, .int .i64 e2.Due, .int .i64 e2.P])]) (l := [.loaded ⟨blkOf A0, offOf A0 + ((x2).toNat) * 5, none⟩ (.int .i64 e2.Task), .loaded ⟨blkOf A0, offOf A0 + ((x2).toNat) * 5 + 1, none⟩ (.int .i64 e2.At), .loaded ⟨blkOf A0, offOf A0 + ((x2).toNat) * 5 + 2, none⟩ (.int .i64 e2.C), .loaded ⟨blkOf A0, offOf A0 + ((x2).toNat) * 5 + 3, none⟩ (.int .i64 e2.Due), .loaded ⟨blkOf A0, offOf A0 + ((x2).toNat) * 5 + 4, none⟩ (.int .i64 e2.P)]) (by kernel_rfl) ⟨RdL.cell (j := 0) (hS1.rd hR0) hx2 rfl, RdL.cell (j := 1) (hS1.rd hR0) hx2 rfl, RdL.cell (j := 2) (hS1.rd hR0) hx2 rfl, RdL.cell (j := 3) (hS1.rd hR0) hx2 rfl, RdL.cell (j := 4) (hS1.rd hR0) hx2 rfl, trivial⟩ (mem_one (by kernel_rfl)) ?_
      refine go_alt2 (fun KK hKK => ?_) ?_
      · refine ge_one2 ?_
        refine ge_new (d := some 9) (o := .cells #[.int .i64 0, .int .i64 0, .int .i64 0, .int .i64 0, .int .i64 0] 30) (v := fun b => .pointer (some ⟨b, 0, none⟩)) hS1 (fun b => by kernel_rfl) fun b3 w1 hx3 hS2 => ?_
        refine ge_nil fun a hF => hKK _ _ (RS.of2 (l := [.loaded ⟨blkOf A0, offOf A0 + ((x1).toNat) * 5, none⟩ (.int .i64 e1.Task), .loaded ⟨blkOf A0, offOf A0 + ((x1).toNat) * 5 + 1, none⟩ (.int .i64 e1.At), .loaded ⟨blkOf A0, offOf A0 + ((x1).toNat) * 5 + 2, none⟩ (.int .i64 e1.C), .loaded ⟨blkOf A0, offOf A0 + ((x1).toNat) * 5 + 3, none⟩ (.int .i64 e1.Due), .loaded ⟨blkOf A0, offOf A0 + ((x1).toNat) * 5 + 4, none⟩ (.int .i64 e1.P), .loaded ⟨blkOf A0, offOf A0 + ((x2).toNat) * 5, none⟩ (.int .i64 e2.Task), .loaded ⟨blkOf A0, offOf A0 + ((x2).toNat) * 5 + 1, none⟩ (.int .i64 e2.At), .loaded ⟨blkOf A0, offOf A0 + ((x2).toNat) * 5 + 2, none⟩ (.int .i64 e2.C), .loaded ⟨blkOf A0, offOf A0 + ((x2).toNat) * 5 + 3, none⟩ (.int .i64 e2.Due), .loaded ⟨blkOf A0, offOf A0 + ((x2).toNat) * 5 + 4, none⟩ (.int .i64 e2.P)]) (by kernel_rfl) ⟨RdL.cell (j := 0) (hS1.rd hR0) hx1 rfl, RdL.cell (j := 1) (hS1.rd hR0) hx1 rfl, RdL.cell (j := 2) (hS1.rd hR0) hx1 rfl, RdL.cell (j := 3) (hS1.rd hR0) hx1 rfl, RdL.cell (j := 4) (hS1.rd hR0) hx1 rfl, RdL.cell (j := 0) (hS1.rd hR0) hx2 rfl, RdL.cell (j := 1) (hS1.rd hR0) hx2 rfl, RdL.cell (j := 2) (hS1.rd hR0) hx2 rfl, RdL.cell (j := 3) (hS1.rd hR0) hx2 rfl, RdL.cell (j := 4) (hS1.rd hR0) hx2 rfl, trivial⟩ ⟨RdL.cell (j := 0) (hS2.rd hR0) hx1 rfl, RdL.cell (j := 1) (hS2.rd hR0) hx1 rfl, RdL.cell (j := 2) (hS2.rd hR0) hx1 rfl, RdL.cell (j := 3) (hS2.rd hR0) hx1 rfl, RdL.cell (j := 4) (hS2.rd hR0) hx1 rfl, RdL.cell (j := 0) (hS2.rd hR0) hx2 rfl, RdL.cell (j := 1) (hS2.rd hR0) hx2 rfl, RdL.cell (j := 2) (hS2.rd hR0) hx2 rfl, RdL.cell (j := 3) (hS2.rd hR0) hx2 rfl, RdL.cell (j := 4) (hS2.rd hR0) hx2 rfl, trivial⟩) ?_ a hF
        refine go_alt2 (fun KK hKK => ?_) ?_
        · refine ge_one2 ?_
          refine ge_new (d := some 10) (o := .cells #[.int .i64 0, .int .i64 0, .int .i64 0, .int .i64 0, .int .i64 0] 30) (v := fun b => .pointer (some ⟨b, 0, none⟩)) hS2 (fun b => by kernel_rfl) fun b4 w2 hx4 hS3 => ?_
          refine ge_nil fun a hF => hKK _ _ (RS.of2 (l := [.loaded ⟨blkOf A0, offOf A0 + ((x1).toNat) * 5, none⟩ (.int .i64 e1.Task), .loaded ⟨blkOf A0, offOf A0 + ((x1).toNat) * 5 + 1, none⟩ (.int .i64 e1.At), .loaded ⟨blkOf A0, offOf A0 + ((x1).toNat) * 5 + 2, none⟩ (.int .i64 e1.C), .loaded ⟨blkOf A0, offOf A0 + ((x1).toNat) * 5 + 3, none⟩ (.int .i64 e1.Due), .loaded ⟨blkOf A0, offOf A0 + ((x1).toNat) * 5 + 4, none⟩ (.int .i64 e1.P), .loaded ⟨blkOf A0, offOf A0 + ((x2).toNat) * 5, none⟩ (.int .i64 e2.Task), .loaded ⟨blkOf A0, offOf A0 + ((x2).toNat) * 5 + 1, none⟩ (.int .i64 e2.At), .loaded ⟨blkOf A0, offOf A0 + ((x2).toNat) * 5 + 2, none⟩ (.int .i64 e2.C), .loaded ⟨blkOf A0, offOf A0 + ((x2).toNat) * 5 + 3, none⟩ (.int .i64 e2.Due), .loaded ⟨blkOf A0, offOf A0 + ((x2).toNat) * 5 + 4, none⟩ (.int .i64 e2.P)]) (by kernel_rfl) ⟨RdL.cell (j := 0) (hS2.rd hR0) hx1 rfl, RdL.cell (j := 1) (hS2.rd hR0) hx1 rfl, RdL.cell (j := 2) (hS2.rd hR0) hx1 rfl, RdL.cell (j := 3) (hS2.rd hR0) hx1 rfl, RdL.cell (j := 4) (hS2.rd hR0) hx1 rfl, RdL.cell (j := 0) (hS2.rd hR0) hx2 rfl, RdL.cell (j := 1) (hS2.rd hR0) hx2 rfl, RdL.cell (j := 2) (hS2.rd hR0) hx2 rfl, RdL.cell (j := 3) (hS2.rd hR0) hx2 rfl, RdL.cell (j := 4) (hS2.rd hR0) hx2 rfl, trivial⟩ ⟨RdL.cell (j := 0) (hS3.rd hR0) hx1 rfl, RdL.cell (j := 1) (hS3.rd hR0) hx1 rfl, RdL.cell (j := 2) (hS3.rd hR0) hx1 rfl, RdL.cell (j := 3) (hS3.rd hR0) hx1 rfl, RdL.cell (j := 4) (hS3.rd hR0) hx1 rfl, RdL.cell (j := 0) (hS3.rd hR0) hx2 rfl, RdL.cell (j := 1) (hS3.rd hR0) hx2 rfl, RdL.cell (j := 2) (hS3.rd hR0) hx2 rfl, RdL.cell (j := 3) (hS3.rd hR0) hx2 rfl, RdL.cell (j := 4) (hS3.rd hR0) hx2 rfl, trivial⟩) ?_ a hF
          refine go_alt2 (fun KK hKK => ?_) ?_
          · have hS4 := hS3.bring 1 rfl
            refine ge_set (b := b3) (j := 0) (cs := #[.int .i64 0, .int .i64 0, .int .i64 0, .int .i64 0, .int .i64 0]) (t := 30) (vs := [.int .i64 e1.Task, .int .i64 e1.At, .int .i64 e1.C, .int .i64 e1.Due, .int .i64 e1.P]) hS4 (by kernel_rfl) rfl rfl fun w3 hS5 => ?_
            have hS6 : St w0 w3 [Own.blk b3 (.cells #[.int .i64 e1.Task, .int .i64 e1.At, .int .i64 e1.C, .int .i64 e1.Due, .int .i64 e1.P] 30 (0, 0)), Own.blk b4 (.cells #[.int .i64 0, .int .i64 0, .int .i64 0, .int .i64 0, .int .i64 0] 30 (0, 0))] := hS5
            refine ge_nil fun a hF => hKK _ _ (RS.of2 (l := [.loaded ⟨blkOf A0, offOf A0 + ((x2).toNat) * 5, none⟩ (.int .i64 e2.Task), .loaded ⟨blkOf A0, offOf A0 + ((x2).toNat) * 5 + 1, none⟩ (.int .i64 e2.At), .loaded ⟨blkOf A0, offOf A0 + ((x2).toNat) * 5 + 2, none⟩ (.int .i64 e2.C), .loaded ⟨blkOf A0, offOf A0 + ((x2).toNat) * 5 + 3, none⟩ (.int .i64 e2.Due), .loaded ⟨blkOf A0, offOf A0 + ((x2).toNat) * 5 + 4, none⟩ (.int .i64 e2.P)]) (by kernel_rfl) ⟨RdL.cell (j := 0) (hS3.rd hR0) hx2 rfl, RdL.cell (j := 1) (hS3.rd hR0) hx2 rfl, RdL.cell (j := 2) (hS3.rd hR0) hx2 rfl, RdL.cell (j := 3) (hS3.rd hR0) hx2 rfl, RdL.cell (j := 4) (hS3.rd hR0) hx2 rfl, trivial⟩ ⟨RdL.cell (j := 0) (hS6.rd hR0) hx2 rfl, RdL.cell (j := 1) (hS6.rd hR0) hx2 rfl, RdL.cell (j := 2) (hS6.rd hR0) hx2 rfl, RdL.cell (j := 3) (hS6.rd hR0) hx2 rfl, RdL.cell (j := 4) (hS6.rd hR0) hx2 rfl, trivial⟩) ?_ a hF
            refine go_alt2 (fun KK hKK => ?_) ?_
            · have hS7 := hS6.bring 1 rfl
              refine ge_set (b := b4) (j := 0) (cs := #[.int .i64 0, .int .i64 0, .int .i64 0, .int .i64 0, .int .i64 0]) (t := 30) (vs := [.int .i64 e2.Task, .int .i64 e2.At, .int .i64 e2.C, .int .i64 e2.Due, .int .i64 e2.P]) hS7 (by kernel_rfl) rfl rfl fun w4 hS8 => ?_
              have hS9 : St w0 w4 [Own.blk b4 (.cells #[.int .i64 e2.Task, .int .i64 e2.At, .int .i64 e2.C, .int .i64 e2.Due, .int .i64 e2.P] 30 (0, 0)), Own.blk b3 (.cells #[.int .i64 e1.Task, .int .i64 e1.At, .int .i64 e1.C, .int .i64 e1.Due, .int .i64 e1.P] 30 (0, 0))] := hS8
              refine ge_nil fun a hF => hKK _ _ (RS.of2 (l := []) (by kernel_rfl) trivial trivial) ?_ a hF
              have hS10 := hS9.bring 1 rfl
              obtain rfl := Option.some.inj h
              exact go_fin2 fun a hF => hQ _ _ _ (Outs.again ⟨b3, b4, hS10, hF.weaken ⟨by kernel_rfl, by kernel_rfl, by kernel_rfl, by kernel_rfl, by kernel_rfl, trivial⟩⟩)
            exact go_nomore2
          exact go_nomore2
        exact go_nomore2
      refine go_alt2 (fun KK hKK => ?_) ?_
      · refine ge_one2 ?_
        refine ge_new (d := some 10) (o := .cells #[.int .i64 0, .int .i64 0, .int .i64 0, .int .i64 0, .int .i64 0] 30) (v := fun b => .pointer (some ⟨b, 0, none⟩)) hS1 (fun b => by kernel_rfl) fun b3 w1 hx3 hS2 => ?_
        refine ge_nil fun a hF => hKK _ _ (RS.of2 (l := [.loaded ⟨blkOf A0, offOf A0 + ((x1).toNat) * 5, none⟩ (.int .i64 e1.Task), .loaded ⟨blkOf A0, offOf A0 + ((x1).toNat) * 5 + 1, none⟩ (.int .i64 e1.At), .loaded ⟨blkOf A0, offOf A0 + ((x1).toNat) * 5 + 2, none⟩ (.int .i64 e1.C), .loaded ⟨blkOf A0, offOf A0 + ((x1).toNat) * 5 + 3, none⟩ (.int .i64 e1.Due), .loaded ⟨blkOf A0, offOf A0 + ((x1).toNat) * 5 + 4, none⟩ (.int .i64 e1.P), .loaded ⟨blkOf A0, offOf A0 + ((x2).toNat) * 5, none⟩ (.int .i64 e2.Task), .loaded ⟨blkOf A0, offOf A0 + ((x2).toNat) * 5 + 1, none⟩ (.int .i64 e2.At), .loaded ⟨blkOf A0, offOf A0 + ((x2).toNat) * 5 + 2, none⟩ (.int .i64 e2.C), .loaded ⟨blkOf A0, offOf A0 + ((x2).toNat) * 5 + 3, none⟩ (.int .i64 e2.Due), .loaded ⟨blkOf A0, offOf A0 + ((x2).toNat) * 5 + 4, none⟩ (.int .i64 e2.P)]) (by kernel_rfl) ⟨RdL.cell (j := 0) (hS1.rd hR0) hx1 rfl, RdL.cell (j := 1) (hS1.rd hR0) hx1 rfl, RdL.cell (j := 2) (hS1.rd hR0) hx1 rfl, RdL.cell (j := 3) (hS1.rd hR0) hx1 rfl, RdL.cell (j := 4) (hS1.rd hR0) hx1 rfl, RdL.cell (j := 0) (hS1.rd hR0) hx2 rfl, RdL.cell (j := 1) (hS1.rd hR0) hx2 rfl, RdL.cell (j := 2) (hS1.rd hR0) hx2 rfl, RdL.cell (j := 3) (hS1.rd hR0) hx2 rfl, RdL.cell (j := 4) (hS1.rd hR0) hx2 rfl, trivial⟩ ⟨RdL.cell (j := 0) (hS2.rd hR0) hx1 rfl, RdL.cell (j := 1) (hS2.rd hR0) hx1 rfl, RdL.cell (j := 2) (hS2.rd hR0) hx1 rfl, RdL.cell (j := 3) (hS2.rd hR0) hx1 rfl, RdL.cell (j := 4) (hS2.rd hR0) hx1 rfl, RdL.cell (j := 0) (hS2.rd hR0) hx2 rfl, RdL.cell (j := 1) (hS2.rd hR0) hx2 rfl, RdL.cell (j := 2) (hS2.rd hR0) hx2 rfl, RdL.cell (j := 3) (hS2.rd hR0) hx2 rfl, RdL.cell (j := 4) (hS2.rd hR0) hx2 rfl, trivial⟩) ?_ a hF
        refine go_alt2 (fun KK hKK => ?_) ?_
        · refine ge_one2 ?_
          refine ge_new (d := some 9) (o := .cells #[.int .i64 0, .int .i64 0, .int .i64 0, .int .i64 0, .int .i64 0] 30) (v := fun b => .pointer (some ⟨b, 0, none⟩)) hS2 (fun b => by kernel_rfl) fun b4 w2 hx4 hS3 => ?_
          refine ge_nil fun a hF => hKK _ _ (RS.of2 (l := [.loaded ⟨blkOf A0, offOf A0 + ((x1).toNat) * 5, none⟩ (.int .i64 e1.Task), .loaded ⟨blkOf A0, offOf A0 + ((x1).toNat) * 5 + 1, none⟩ (.int .i64 e1.At), .loaded ⟨blkOf A0, offOf A0 + ((x1).toNat) * 5 + 2, none⟩ (.int .i64 e1.C), .loaded ⟨blkOf A0, offOf A0 + ((x1).toNat) * 5 + 3, none⟩ (.int .i64 e1.Due), .loaded ⟨blkOf A0, offOf A0 + ((x1).toNat) * 5 + 4, none⟩ (.int .i64 e1.P), .loaded ⟨blkOf A0, offOf A0 + ((x2).toNat) * 5, none⟩ (.int .i64 e2.Task), .loaded ⟨blkOf A0, offOf A0 + ((x2).toNat) * 5 + 1, none⟩ (.int .i64 e2.At), .loaded ⟨blkOf A0, offOf A0 + ((x2).toNat) * 5 + 2, none⟩ (.int .i64 e2.C), .loaded ⟨blkOf A0, offOf A0 + ((x2).toNat) * 5 + 3, none⟩ (.int .i64 e2.Due), .loaded ⟨blkOf A0, offOf A0 + ((x2).toNat) * 5 + 4, none⟩ (.int .i64 e2.P)]) (by kernel_rfl) ⟨RdL.cell (j := 0) (hS2.rd hR0) hx1 rfl, RdL.cell (j := 1) (hS2.rd hR0) hx1 rfl, RdL.cell (j := 2) (hS2.rd hR0) hx1 rfl, RdL.cell (j := 3) (hS2.rd hR0) hx1 rfl, RdL.cell (j := 4) (hS2.rd hR0) hx1 rfl, RdL.cell (j := 0) (hS2.rd hR0) hx2 rfl, RdL.cell (j := 1) (hS2.rd hR0) hx2 rfl, RdL.cell (j := 2) (hS2.rd hR0) hx2 rfl, RdL.cell (j := 3) (hS2.rd hR0) hx2 rfl, RdL.cell (j := 4) (hS2.rd hR0) hx2 rfl, trivial⟩ ⟨RdL.cell (j := 0) (hS3.rd hR0) hx1 rfl, RdL.cell (j := 1) (hS3.rd hR0) hx1 rfl, RdL.cell (j := 2) (hS3.rd hR0) hx1 rfl, RdL.cell (j := 3) (hS3.rd hR0) hx1 rfl, RdL.cell (j := 4) (hS3.rd hR0) hx1 rfl, RdL.cell (j := 0) (hS3.rd hR0) hx2 rfl, RdL.cell (j := 1) (hS3.rd hR0) hx2 rfl, RdL.cell (j := 2) (hS3.rd hR0) hx2 rfl, RdL.cell (j := 3) (hS3.rd hR0) hx2 rfl, RdL.cell (j := 4) (hS3.rd hR0) hx2 rfl, trivial⟩) ?_ a hF
          refine go_alt2 (fun KK hKK => ?_) ?_
          · refine ge_set (b := b4) (j := 0) (cs := #[.int .i64 0, .int .i64 0, .int .i64 0, .int .i64 0, .int .i64 0]) (t := 30) (vs := [.int .i64 e1.Task, .int .i64 e1.At, .int .i64 e1.C, .int .i64 e1.Due, .int .i64 e1.P]) hS3 (by kernel_rfl) rfl rfl fun w3 hS4 => ?_
            have hS5 : St w0 w3 [Own.blk b4 (.cells #[.int .i64 e1.Task, .int .i64 e1.At, .int .i64 e1.C, .int .i64 e1.Due, .int .i64 e1.P] 30 (0, 0)), Own.blk b3 (.cells #[.int .i64 0, .int .i64 0, .int .i64 0, .int .i64 0, .int .i64 0] 30 (0, 0))] := hS4
            refine ge_nil fun a hF => hKK _ _ (RS.of2 (l := [.loaded ⟨blkOf A0, offOf A0 + ((x2).toNat) * 5, none⟩ (.int .i64 e2.Task), .loaded ⟨blkOf A0, offOf A0 + ((x2).toNat) * 5 + 1, none⟩ (.int .i64 e2.At), .loaded ⟨blkOf A0, offOf A0 + ((x2).toNat) * 5 + 2, none⟩ (.int .i64 e2.C), .loaded ⟨blkOf A0, offOf A0 + ((x2).toNat) * 5 + 3, none⟩ (.int .i64 e2.Due), .loaded ⟨blkOf A0, offOf A0 + ((x2).toNat) * 5 + 4, none⟩ (.int .i64 e2.P)]) (by kernel_rfl) ⟨RdL.cell (j := 0) (hS3.rd hR0) hx2 rfl, RdL.cell (j := 1) (hS3.rd hR0) hx2 rfl, RdL.cell (j := 2) (hS3.rd hR0) hx2 rfl, RdL.cell (j := 3) (hS3.rd hR0) hx2 rfl, RdL.cell (j := 4) (hS3.rd hR0) hx2 rfl, trivial⟩ ⟨RdL.cell (j := 0) (hS5.rd hR0) hx2 rfl, RdL.cell (j := 1) (hS5.rd hR0) hx2 rfl, RdL.cell (j := 2) (hS5.rd hR0) hx2 rfl, RdL.cell (j := 3) (hS5.rd hR0) hx2 rfl, RdL.cell (j := 4) (hS5.rd hR0) hx2 rfl, trivial⟩) ?_ a hF
            refine go_alt2 (fun KK hKK => ?_) ?_
            · have hS6 := hS5.bring 1 rfl
              refine ge_set (b := b3) (j := 0) (cs := #[.int .i64 0, .int .i64 0, .int .i64 0, .int .i64 0, .int .i64 0]) (t := 30) (vs := [.int .i64 e2.Task, .int .i64 e2.At, .int .i64 e2.C, .int .i64 e2.Due, .int .i64 e2.P]) hS6 (by kernel_rfl) rfl rfl fun w4 hS7 => ?_
              have hS8 : St w0 w4 [Own.blk b3 (.cells #[.int .i64 e2.Task, .int .i64 e2.At, .int .i64 e2.C, .int .i64 e2.Due, .int .i64 e2.P] 30 (0, 0)), Own.blk b4 (.cells #[.int .i64 e1.Task, .int .i64 e1.At, .int .i64 e1.C, .int .i64 e1.Due, .int .i64 e1.P] 30 (0, 0))] := hS7
              refine ge_nil fun a hF => hKK _ _ (RS.of2 (l := []) (by kernel_rfl) trivial trivial) ?_ a hF
              have hS9 := hS8.bring 1 rfl
              obtain rfl := Option.some.inj h
              exact go_fin2 fun a hF => hQ _ _ _ (Outs.again ⟨b4, b3, hS9, hF.weaken ⟨by kernel_rfl, by kernel_rfl, by kernel_rfl, by kernel_rfl, by kernel_rfl, trivial⟩⟩)
            exact go_nomore2
          exact go_nomore2
        exact go_nomore2
      exact go_nomore2
    · rw [if_neg hc2] at h
      cases h
  · rw [if_neg hc1] at h
    cases h
theorem punctualref_Goes_ok (l0 : List SJob) (A0 : Option Addr) (c0 : Nat) (x1 : Int) (x2 : Int) (x3 : Int) (w0 : World) (hR0 : RdL w0 A0 l0) (hL0 : l0.length ≤ c0) (r : Bool) (h : punctualref_Goes.f l0 x1 x2 x3 = some r) :
    Calls Tryd.prog 91 #[.slice A0 l0.length c0, .int .i64 x1, .int .i64 x2, .int .i64 x3] w0 (punctualref_Goes.Post w0 r) := by
  have hS := St.start w0
  unfold punctualref_Goes.f at h
  refine calls_enter (n := 60) (args := [.slice A0 l0.length c0, .int .i64 x1, .int .i64 x2, .int .i64 x3]) (fn := Tryd.f91) rfl rfl rfl rfl ?_
  show WE _ _ _ _ [(0, .slice A0 l0.length c0), (1, .int .i64 x1), (2, .int .i64 x2), (3, .int .i64 x3)] _
  refine we_seq fun K1 hK1 => ?_
  refine we_region [(0, 0)] rfl ?_
  refine ge_batch [0] (ans := []) (vs := [(8, .bool false)]) (l := []) (by kernel_rfl) trivial ?_
  refine ge_nil fun a hF => hK1 _ _ ?_ a hF
  refine we_seq fun K2 hK2 => ?_
  rcases hq1 : punctualref_Goes.p0 l0 x1 x2 with _ | (⟨z11, z12, z13, z14, z15, z16, z17, z18, z19, z20⟩ | rr1)
  · rw [hq1] at h; cases h
  · rw [hq1] at h
    simp only [] at h
    refine we_keep (e' := [(0, .slice A0 l0.length c0), (1, .int .i64 x1), (2, .int .i64 x2), (3, .int .i64 x3), (8, .bool false)]) ⟨by kernel_rfl, by kernel_rfl, by kernel_rfl, by kernel_rfl, by kernel_rfl, trivial⟩ (punctualref_Goes_p0 0 w0 l0 A0 c0 x1 x2 x3 hR0 hL0 _ hq1 _ hS _ ?_)
    rintro _ a w5 ⟨rfl, b5, b6, hS10, hF⟩
    replace hS10 : St w0 w5 [Own.blk b5 (.cells #[.int .i64 z11, .int .i64 z12, .int .i64 z13, .int .i64 z14, .int .i64 z15] 30 (0, 0)), Own.blk b6 (.cells #[.int .i64 z16, .int .i64 z17, .int .i64 z18, .int .i64 z19, .int .i64 z20] 30 (0, 0))] := hS10
    refine hK2 [(1, .int .i64 x1), (2, .int .i64 x2), (3, .int .i64 x3), (9, .pointer (some ⟨b5, 0, none⟩)), (10, .pointer (some ⟨b6, 0, none⟩))] w5 ?_ a hF
    refine we_seq fun K3 hK3 => ?_
    refine we_seq fun K4 hK4 => ?_
    refine we_region [(0, 0), (1, 0), (2, 0), (3, 0), (4, 0), (5, 0), (6, 0), (7, 0), (8, 0)] rfl ?_
    refine ge_batch [0, 1, 2] (ans := []) (vs := [(21, .bool (x3 == 1)), (20, .bool (x3 == 1)), (19, .int .i64 x3)]) (l := []) (by kernel_rfl) trivial ?_
    by_cases hc3 : x3 = 1
    · rw [if_pos hc3] at h
      refine ge_known (t := 21) (b := (x3 == 1)) (c := true) (by kernel_rfl) (beq_iff_eq.2 hc3) ?_
      refine ge_batch [3, 4, 5, 6, 7, 8] (ans := [.val (.int .i64 z15), .val (.int .i64 z20)]) (vs := [(27, .bool (z15 != z20)), (26, .bool (z15 != z20)), (25, .int .i64 z20), (24, .pointer (some ⟨b6, 4, none⟩)), (23, .int .i64 z15), (22, .pointer (some ⟨b5, 4, none⟩))]) (l := [.loaded ⟨b5, 4, none⟩ (.int .i64 z15), .loaded ⟨b6, 4, none⟩ (.int .i64 z20)]) (by kernel_rfl) ⟨hS10.cell 0 rfl rfl, hS10.cell 1 rfl rfl, trivial⟩ ?_
      refine ge_nil fun a hF => hK4 _ _ ?_ a hF
      by_cases hc4 : z15 = z20
      · rw [if_pos hc4] at h
        refine we_known (t := 27) (b := (z15 != z20)) (v := false) (by kernel_rfl) (bne_eq_false_iff_eq.2 hc4) ?_
        refine we_false (by kernel_rfl) ?_
        refine we_skip fun a hF => hK3 _ _ ?_ a hF
        refine we_seq fun K5 hK5 => ?_
        refine we_seq fun K6 hK6 => ?_
        refine we_region [(0, 0), (1, 0), (2, 0), (3, 0), (4, 0), (5, 0), (6, 0), (7, 0), (8, 0)] rfl ?_
        refine ge_batch [0, 1, 2] (ans := []) (vs := [(35, .bool (x3 == 2)), (34, .bool (x3 == 2)), (33, .int .i64 x3)]) (l := []) (by kernel_rfl) trivial ?_
        by_cases hc5 : x3 = 2
        · rw [if_pos hc5] at h
          refine ge_known (t := 35) (b := (x3 == 2)) (c := true) (by kernel_rfl) (beq_iff_eq.2 hc5) ?_
          refine ge_batch [3, 4, 5, 6, 7, 8] (ans := [.val (.int .i64 z14), .val (.int .i64 z19)]) (vs := [(41, .bool (z14 != z19)), (40, .bool (z14 != z19)), (39, .int .i64 z19), (38, .pointer (some ⟨b6, 3, none⟩)), (37, .int .i64 z14), (36, .pointer (some ⟨b5, 3, none⟩))]) (l := [.loaded ⟨b5, 3, none⟩ (.int .i64 z14), .loaded ⟨b6, 3, none⟩ (.int .i64 z19)]) (by kernel_rfl) ⟨hS10.cell 0 rfl rfl, hS10.cell 1 rfl rfl, trivial⟩ ?_
          refine ge_nil fun a hF => hK6 _ _ ?_ a hF
          by_cases hc6 : z14 = z19
          · rw [if_pos hc6] at h
            refine we_known (t := 41) (b := (z14 != z19)) (v := false) (by kernel_rfl) (bne_eq_false_iff_eq.2 hc6) ?_
            refine we_false (by kernel_rfl) ?_
            refine we_skip fun a hF => hK5 _ _ ?_ a hF
            refine we_seq fun K7 hK7 => ?_
            refine we_seq fun K8 hK8 => ?_
            refine we_region [(0, 0), (1, 0), (2, 0), (3, 0), (4, 0)] rfl ?_
            refine ge_batch [0, 1, 2, 3, 4] (ans := [.val (.int .i64 z12), .val (.int .i64 z17)]) (vs := [(51, .bool (z12 != z17)), (50, .int .i64 z17), (49, .pointer (some ⟨b6, 1, none⟩)), (48, .int .i64 z12), (47, .pointer (some ⟨b5, 1, none⟩))]) (l := [.loaded ⟨b5, 1, none⟩ (.int .i64 z12), .loaded ⟨b6, 1, none⟩ (.int .i64 z17)]) (by kernel_rfl) ⟨hS10.cell 0 rfl rfl, hS10.cell 1 rfl rfl, trivial⟩ ?_
            refine ge_nil fun a hF => hK8 _ _ ?_ a hF
            by_cases hc7 : z12 = z17
            · rw [if_pos hc7] at h
              refine we_known (t := 51) (b := (z12 != z17)) (v := false) (by kernel_rfl) (bne_eq_false_iff_eq.2 hc7) ?_
              refine we_false (by kernel_rfl) ?_
              refine we_skip fun a hF => hK7 _ _ ?_ a hF
              refine we_seq fun K9 hK9 => ?_
              refine we_region [(0, 0), (1, 0), (2, 0), (3, 0)] rfl ?_
              refine ge_batch [0, 1, 2, 3] (ans := []) (vs := [(8, .bool (decide (x1 < x2))), (59, .bool (decide (x1 < x2))), (58, .int .i64 x2), (57, .int .i64 x1)]) (l := []) (by kernel_rfl) trivial ?_
              refine ge_nil fun a hF => hK9 _ _ ?_ a hF
              have hS11 := hS10.takeN 0
              obtain rfl := Option.some.inj h
              exact we_ret (post_ret (rs := [.tmp 8]) (ans := []) (vs := [.bool (decide (x1 < x2))]) (l := []) rfl (by kernel_rfl) trivial ⟨rfl, hS11⟩)
            · rw [if_neg hc7] at h
              refine we_known (t := 51) (b := (z12 != z17)) (v := true) (by kernel_rfl) (bne_iff_ne.2 hc7) ?_
              refine we_true (by kernel_rfl) ?_
              refine we_seq fun K10 hK10 => ?_
              refine we_region [(0, 0), (1, 0), (2, 0), (3, 0), (4, 0), (5, 0)] rfl ?_
              refine ge_batch [0, 1, 2, 3, 4, 5] (ans := [.val (.int .i64 z12), .val (.int .i64 z17)]) (vs := [(8, .bool (decide (z12 < z17))), (56, .bool (decide (z12 < z17))), (55, .int .i64 z17), (54, .pointer (some ⟨b6, 1, none⟩)), (53, .int .i64 z12), (52, .pointer (some ⟨b5, 1, none⟩))]) (l := [.loaded ⟨b5, 1, none⟩ (.int .i64 z12), .loaded ⟨b6, 1, none⟩ (.int .i64 z17)]) (by kernel_rfl) ⟨hS10.cell 0 rfl rfl, hS10.cell 1 rfl rfl, trivial⟩ ?_
              refine ge_nil fun a hF => hK10 _ _ ?_ a hF
              have hS12 := hS10.takeN 0
              obtain rfl := Option.some.inj h
              exact we_ret (post_ret (rs := [.tmp 8]) (ans := []) (vs := [.bool (decide (z12 < z17))]) (l := []) rfl (by kernel_rfl) trivial ⟨rfl, hS12⟩)
          · rw [if_neg hc6] at h
            refine we_known (t := 41) (b := (z14 != z19)) (v := true) (by kernel_rfl) (bne_iff_ne.2 hc6) ?_
            refine we_true (by kernel_rfl) ?_
            refine we_seq fun K11 hK11 => ?_
            refine we_region [(0, 0), (1, 0), (2, 0), (3, 0), (4, 0), (5, 0)] rfl ?_
            refine ge_batch [0, 1, 2, 3, 4, 5] (ans := [.val (.int .i64 z14), .val (.int .i64 z19)]) (vs := [(8, .bool (decide (z14 < z19))), (46, .bool (decide (z14 < z19))), (45, .int .i64 z19), (44, .pointer (some ⟨b6, 3, none⟩)), (43, .int .i64 z14), (42, .pointer (some ⟨b5, 3, none⟩))]) (l := [.loaded ⟨b5, 3, none⟩ (.int .i64 z14), .loaded ⟨b6, 3, none⟩ (.int .i64 z19)]) (by kernel_rfl) ⟨hS10.cell 0 rfl rfl, hS10.cell 1 rfl rfl, trivial⟩ ?_
            refine ge_nil fun a hF => hK11 _ _ ?_ a hF
            have hS13 := hS10.takeN 0
            obtain rfl := Option.some.inj h
            exact we_ret (post_ret (rs := [.tmp 8]) (ans := []) (vs := [.bool (decide (z14 < z19))]) (l := []) rfl (by kernel_rfl) trivial ⟨rfl, hS13⟩)
        · rw [if_neg hc5] at h
          refine ge_known (t := 35) (b := (x3 == 2)) (c := false) (by kernel_rfl) (beq_eq_false_iff_ne.2 hc5) ?_
          refine ge_batch [3, 4, 5, 6, 7, 8] (ans := []) (vs := [(41, .bool false), (40, undef), (39, undef), (38, undef), (37, undef), (36, undef)]) (l := []) (by kernel_rfl) trivial ?_
          refine ge_nil fun a hF => hK6 _ _ ?_ a hF
          refine we_false (by kernel_rfl) ?_
          refine we_skip fun a hF => hK5 _ _ ?_ a hF
          refine we_seq fun K12 hK12 => ?_
          refine we_seq fun K13 hK13 => ?_
          refine we_region [(0, 0), (1, 0), (2, 0), (3, 0), (4, 0)] rfl ?_
          refine ge_batch [0, 1, 2, 3, 4] (ans := [.val (.int .i64 z12), .val (.int .i64 z17)]) (vs := [(51, .bool (z12 != z17)), (50, .int .i64 z17), (49, .pointer (some ⟨b6, 1, none⟩)), (48, .int .i64 z12), (47, .pointer (some ⟨b5, 1, none⟩))]) (l := [.loaded ⟨b5, 1, none⟩ (.int .i64 z12), .loaded ⟨b6, 1, none⟩ (.int .i64 z17)]) (by kernel_rfl) ⟨hS10.cell 0 rfl rfl, hS10.cell 1 rfl rfl, trivial⟩ ?_
          refine ge_nil fun a hF => hK13 _ _ ?_ a hF
          by_cases hc8 : z12 = z17
          · rw [if_pos hc8] at h
            refine we_known (t := 51) (b := (z12 != z17)) (v := false) (by kernel_rfl) (bne_eq_false_iff_eq.2 hc8) ?_
            refine we_false (by kernel_rfl) ?_
            refine we_skip fun a hF => hK12 _ _ ?_ a hF
            refine we_seq fun K14 hK14 => ?_
            refine we_region [(0, 0), (1, 0), (2, 0), (3, 0)] rfl ?_
            refine ge_batch [0, 1, 2, 3] (ans := []) (vs := [(8, .bool (decide (x1 < x2))), (59, .bool (decide (x1 < x2))), (58, .int .i64 x2), (57, .int .i64 x1)]) (l := []) (by kernel_rfl) trivial ?_
            refine ge_nil fun a hF => hK14 _ _ ?_ a hF
            have hS14 := hS10.takeN 0
            obtain rfl := Option.some.inj h
            exact we_ret (post_ret (rs := [.tmp 8]) (ans := []) (vs := [.bool (decide (x1 < x2))]) (l := []) rfl (by kernel_rfl) trivial ⟨rfl, hS14⟩)
          · rw [if_neg hc8] at h
            refine we_known (t := 51) (b := (z12 != z17)) (v := true) (by kernel_rfl) (bne_iff_ne.2 hc8) ?_
            refine we_true (by kernel_rfl) ?_
            refine we_seq fun K15 hK15 => ?_
            refine we_region [(0, 0), (1, 0), (2, 0), (3, 0), (4, 0), (5, 0)] rfl ?_
            refine ge_batch [0, 1, 2, 3, 4, 5] (ans := [.val (.int .i64 z12), .val (.int .i64 z17)]) (vs := [(8, .bool (decide (z12 < z17))), (56, .bool (decide (z12 < z17))), (55, .int .i64 z17), (54, .pointer (some ⟨b6, 1, none⟩)), (53, .int .i64 z12), (52, .pointer (some ⟨b5, 1, none⟩))]) (l := [.loaded ⟨b5, 1, none⟩ (.int .i64 z12), .loaded ⟨b6, 1, none⟩ (.int .i64 z17)]) (by kernel_rfl) ⟨hS10.cell 0 rfl rfl, hS10.cell 1 rfl rfl, trivial⟩ ?_
            refine ge_nil fun a hF => hK15 _ _ ?_ a hF
            have hS15 := hS10.takeN 0
            obtain rfl := Option.some.inj h
            exact we_ret (post_ret (rs := [.tmp 8]) (ans := []) (vs := [.bool (decide (z12 < z17))]) (l := []) rfl (by kernel_rfl) trivial ⟨rfl, hS15⟩)
      · rw [if_neg hc4] at h
        refine we_known (t := 27) (b := (z15 != z20)) (v := true) (by kernel_rfl) (bne_iff_ne.2 hc4) ?_
        refine we_true (by kernel_rfl) ?_
        refine we_seq fun K16 hK16 => ?_
        refine we_region [(0, 0), (1, 0), (2, 0), (3, 0), (4, 0), (5, 0)] rfl ?_
        refine ge_batch [0, 1, 2, 3, 4, 5] (ans := [.val (.int .i64 z15), .val (.int .i64 z20)]) (vs := [(8, .bool (decide (z15 > z20))), (32, .bool (decide (z15 > z20))), (31, .int .i64 z20), (30, .pointer (some ⟨b6, 4, none⟩)), (29, .int .i64 z15), (28, .pointer (some ⟨b5, 4, none⟩))]) (l := [.loaded ⟨b5, 4, none⟩ (.int .i64 z15), .loaded ⟨b6, 4, none⟩ (.int .i64 z20)]) (by kernel_rfl) ⟨hS10.cell 0 rfl rfl, hS10.cell 1 rfl rfl, trivial⟩ ?_
        refine ge_nil fun a hF => hK16 _ _ ?_ a hF
        have hS16 := hS10.takeN 0
        obtain rfl := Option.some.inj h
        exact we_ret (post_ret (rs := [.tmp 8]) (ans := []) (vs := [.bool (decide (z15 > z20))]) (l := []) rfl (by kernel_rfl) trivial ⟨rfl, hS16⟩)
    · rw [if_neg hc3] at h
      refine ge_known (t := 21) (b := (x3 == 1)) (c := false) (by kernel_rfl) (beq_eq_false_iff_ne.2 hc3) ?_
      refine ge_batch [3, 4, 5, 6, 7, 8] (ans := []) (vs := [(27, .bool false), (26, undef), (25, undef), (24, undef), (23, undef), (22, undef)]) (l := []) (by kernel_rfl) trivial ?_
      refine ge_nil fun a hF => hK4 _ _ ?_ a hF
      refine we_false (by kernel_rfl) ?_
      refine we_skip fun a hF => hK3 _ _ ?_ a hF
      refine we_seq fun K17 hK17 => ?_
      refine we_seq fun K18 hK18 => ?_
      refine we_region [(0, 0), (1, 0), (2, 0), (3, 0), (4, 0), (5, 0), (6, 0), (7, 0), (8, 0)] rfl ?_
      refine ge_batch [0, 1, 2] (ans := []) (vs := [(35, .bool (x3 == 2)), (34, .bool (x3 == 2)), (33, .int .i64 x3)]) (l := []) (by kernel_rfl) trivial ?_
      by_cases hc9 : x3 = 2
      · rw [if_pos hc9] at h
        refine ge_known (t := 35) (b := (x3 == 2)) (c := true) (by kernel_rfl) (beq_iff_eq.2 hc9) ?_
        refine ge_batch [3, 4, 5, 6, 7, 8] (ans := [.val (.int .i64 z14), .val (.int .i64 z19)]) (vs := [(41, .bool (z14 != z19)), (40, .bool (z14 != z19)), (39, .int .i64 z19), (38, .pointer (some ⟨b6, 3, none⟩)), (37, .int .i64 z14), (36, .pointer (some ⟨b5, 3, none⟩))]) (l := [.loaded ⟨b5, 3, none⟩ (.int .i64 z14), .loaded ⟨b6, 3, none⟩ (.int .i64 z19)]) (by kernel_rfl) ⟨hS10.cell 0 rfl rfl, hS10.cell 1 rfl rfl, trivial⟩ ?_
        refine ge_nil fun a hF => hK18 _ _ ?_ a hF
        by_cases hc10 : z14 = z19
        · rw [if_pos hc10] at h
          refine we_known (t := 41) (b := (z14 != z19)) (v := false) (by kernel_rfl) (bne_eq_false_iff_eq.2 hc10) ?_
          refine we_false (by kernel_rfl) ?_
          refine we_skip fun a hF => hK17 _ _ ?_ a hF
          refine we_seq fun K19 hK19 => ?_
          refine we_seq fun K20 hK20 => ?_
          refine we_region [(0, 0), (1, 0), (2, 0), (3, 0), (4, 0)] rfl ?_
          refine ge_batch [0, 1, 2, 3, 4] (ans := [.val (.int .i64 z12), .val (.int .i64 z17)]) (vs := [(51, .bool (z12 != z17)), (50, .int .i64 z17), (49, .pointer (some ⟨b6, 1, none⟩)), (48, .int .i64 z12), (47, .pointer (some ⟨b5, 1, none⟩))]) (l := [.loaded ⟨b5, 1, none⟩ (.int .i64 z12), .loaded ⟨b6, 1, none⟩ (.int .i64 z17)]) (by kernel_rfl) ⟨hS10.cell 0 rfl rfl, hS10.cell 1 rfl rfl, trivial⟩ ?_
          refine ge_nil fun a hF => hK20 _ _ ?_ a hF
          by_cases hc11 : z12 = z17
          · rw [if_pos hc11] at h
            refine we_known (t := 51) (b := (z12 != z17)) (v := false) (by kernel_rfl) (bne_eq_false_iff_eq.2 hc11) ?_
            refine we_false (by kernel_rfl) ?_
            refine we_skip fun a hF => hK19 _ _ ?_ a hF
            refine we_seq fun K21 hK21 => ?_
            refine we_region [(0, 0), (1, 0), (2, 0), (3, 0)] rfl ?_
            refine ge_batch [0, 1, 2, 3] (ans := []) (vs := [(8, .bool (decide (x1 < x2))), (59, .bool (decide (x1 < x2))), (58, .int .i64 x2), (57, .int .i64 x1)]) (l := []) (by kernel_rfl) trivial ?_
            refine ge_nil fun a hF => hK21 _ _ ?_ a hF
            have hS17 := hS10.takeN 0
            obtain rfl := Option.some.inj h
            exact we_ret (post_ret (rs := [.tmp 8]) (ans := []) (vs := [.bool (decide (x1 < x2))]) (l := []) rfl (by kernel_rfl) trivial ⟨rfl, hS17⟩)
          · rw [if_neg hc11] at h
            refine we_known (t := 51) (b := (z12 != z17)) (v := true) (by kernel_rfl) (bne_iff_ne.2 hc11) ?_
            refine we_true (by kernel_rfl) ?_
            refine we_seq fun K22 hK22 => ?_
            refine we_region [(0, 0), (1, 0), (2, 0), (3, 0), (4, 0), (5, 0)] rfl ?_
            refine ge_batch [0, 1, 2, 3, 4, 5] (ans := [.val (.int .i64 z12), .val (.int .i64 z17)]) (vs := [(8, .bool (decide (z12 < z17))), (56, .bool (decide (z12 < z17))), (55, .int .i64 z17), (54, .pointer (some ⟨b6, 1, none⟩)), (53, .int .i64 z12), (52, .pointer (some ⟨b5, 1, none⟩))]) (l := [.loaded ⟨b5, 1, none⟩ (.int .i64 z12), .loaded ⟨b6, 1, none⟩ (.int .i64 z17)]) (by kernel_rfl) ⟨hS10.cell 0 rfl rfl, hS10.cell 1 rfl rfl, trivial⟩ ?_
            refine ge_nil fun a hF => hK22 _ _ ?_ a hF
            have hS18 := hS10.takeN 0
            obtain rfl := Option.some.inj h
            exact we_ret (post_ret (rs := [.tmp 8]) (ans := []) (vs := [.bool (decide (z12 < z17))]) (l := []) rfl (by kernel_rfl) trivial ⟨rfl, hS18⟩)
        · rw [if_neg hc10] at h
          refine we_known (t := 41) (b := (z14 != z19)) (v := true) (by kernel_rfl) (bne_iff_ne.2 hc10) ?_
          refine we_true (by kernel_rfl) ?_
          refine we_seq fun K23 hK23 => ?_
          refine we_region [(0, 0), (1, 0), (2, 0), (3, 0), (4, 0), (5, 0)] rfl ?_
          refine ge_batch [0, 1, 2, 3, 4, 5] (ans := [.val (.int .i64 z14), .val (.int .i64 z19)]) (vs := [(8, .bool (decide (z14 < z19))), (46, .bool (decide (z14 < z19))), (45, .int .i64 z19), (44, .pointer (some ⟨b6, 3, none⟩)), (43, .int .i64 z14), (42, .pointer (some ⟨b5, 3, none⟩))]) (l := [.loaded ⟨b5, 3, none⟩ (.int .i64 z14), .loaded ⟨b6, 3, none⟩ (.int .i64 z19)]) (by kernel_rfl) ⟨hS10.cell 0 rfl rfl, hS10.cell 1 rfl rfl, trivial⟩ ?_
          refine ge_nil fun a hF => hK23 _ _ ?_ a hF
          have hS19 := hS10.takeN 0
          obtain rfl := Option.some.inj h
          exact we_ret (post_ret (rs := [.tmp 8]) (ans := []) (vs := [.bool (decide (z14 < z19))]) (l := []) rfl (by kernel_rfl) trivial ⟨rfl, hS19⟩)
      · rw [if_neg hc9] at h
        refine ge_known (t := 35) (b := (x3 == 2)) (c := false) (by kernel_rfl) (beq_eq_false_iff_ne.2 hc9) ?_
        refine ge_batch [3, 4, 5, 6, 7, 8] (ans := []) (vs := [(41, .bool false), (40, undef), (39, undef), (38, undef), (37, undef), (36, undef)]) (l := []) (by kernel_rfl) trivial ?_
        refine ge_nil fun a hF => hK18 _ _ ?_ a hF
        refine we_false (by kernel_rfl) ?_
        refine we_skip fun a hF => hK17 _ _ ?_ a hF
        refine we_seq fun K24 hK24 => ?_
        refine we_seq fun K25 hK25 => ?_
        refine we_region [(0, 0), (1, 0), (2, 0), (3, 0), (4, 0)] rfl ?_
        refine ge_batch [0, 1, 2, 3, 4] (ans := [.val (.int .i64 z12), .val (.int .i64 z17)]) (vs := [(51, .bool (z12 != z17)), (50, .int .i64 z17), (49, .pointer (some ⟨b6, 1, none⟩)), (48, .int .i64 z12), (47, .pointer (some ⟨b5, 1, none⟩))]) (l := [.loaded ⟨b5, 1, none⟩ (.int .i64 z12), .loaded ⟨b6, 1, none⟩ (.int .i64 z17)]) (by kernel_rfl) ⟨hS10.cell 0 rfl rfl, hS10.cell 1 rfl rfl, trivial⟩ ?_
        refine ge_nil fun a hF => hK25 _ _ ?_ a hF
        by_cases hc12 : z12 = z17
        · rw [if_pos hc12] at h
          refine we_known (t := 51) (b := (z12 != z17)) (v := false) (by kernel_rfl) (bne_eq_false_iff_eq.2 hc12) ?_
          refine we_false (by kernel_rfl) ?_
          refine we_skip fun a hF => hK24 _ _ ?_ a hF
          refine we_seq fun K26 hK26 => ?_
          refine we_region [(0, 0), (1, 0), (2, 0), (3, 0)] rfl ?_
          refine ge_batch [0, 1, 2, 3] (ans := []) (vs := [(8, .bool (decide (x1 < x2))), (59, .bool (decide (x1 < x2))), (58, .int .i64 x2), (57, .int .i64 x1)]) (l := []) (by kernel_rfl) trivial ?_
          refine ge_nil fun a hF => hK26 _ _ ?_ a hF
          have hS20 := hS10.takeN 0
          obtain rfl := Option.some.inj h
          exact we_ret (post_ret (rs := [.tmp 8]) (ans := []) (vs := [.bool (decide (x1 < x2))]) (l := []) rfl (by kernel_rfl) trivial ⟨rfl, hS20⟩)
        · rw [if_neg hc12] at h
          refine we_known (t := 51) (b := (z12 != z17)) (v := true) (by kernel_rfl) (bne_iff_ne.2 hc12) ?_
          refine we_true (by kernel_rfl) ?_
          refine we_seq fun K27 hK27 => ?_
          refine we_region [(0, 0), (1, 0), (2, 0), (3, 0), (4, 0), (5, 0)] rfl ?_
          refine ge_batch [0, 1, 2, 3, 4, 5] (ans := [.val (.int .i64 z12), .val (.int .i64 z17)]) (vs := [(8, .bool (decide (z12 < z17))), (56, .bool (decide (z12 < z17))), (55, .int .i64 z17), (54, .pointer (some ⟨b6, 1, none⟩)), (53, .int .i64 z12), (52, .pointer (some ⟨b5, 1, none⟩))]) (l := [.loaded ⟨b5, 1, none⟩ (.int .i64 z12), .loaded ⟨b6, 1, none⟩ (.int .i64 z17)]) (by kernel_rfl) ⟨hS10.cell 0 rfl rfl, hS10.cell 1 rfl rfl, trivial⟩ ?_
          refine ge_nil fun a hF => hK27 _ _ ?_ a hF
          have hS21 := hS10.takeN 0
          obtain rfl := Option.some.inj h
          exact we_ret (post_ret (rs := [.tmp 8]) (ans := []) (vs := [.bool (decide (z12 < z17))]) (l := []) rfl (by kernel_rfl) trivial ⟨rfl, hS21⟩)
  · rw [hq1] at h
    simp only [] at h
    refine we_keep (e' := [(0, .slice A0 l0.length c0), (1, .int .i64 x1), (2, .int .i64 x2), (3, .int .i64 x3), (8, .bool false)]) ⟨by kernel_rfl, by kernel_rfl, by kernel_rfl, by kernel_rfl, by kernel_rfl, trivial⟩ (punctualref_Goes_p0 0 w0 l0 A0 c0 x1 x2 x3 hR0 hL0 _ hq1 _ hS _ ?_)
    rintro _ a w1 ⟨_, rfl, hb⟩
    obtain rfl := Option.some.inj h
    exact hb
end Go.Proofs.YtlipdmblinjjaaaDoor.GV
