/- Walks of single functions, written by a program of this work. -/
import Derived.Test.YtlipdmblinjjaaaDoorGWEdfJudges1
namespace Go.Proofs.YtlipdmblinjjaaaDoor.GV
open Go Go.RowKit
set_option linter.unusedVariables false
set_option linter.unusedSimpArgs false
set_option maxRecDepth 100000

/-! punctual/punctualref.JudgeOf -/
abbrev punctualref_JudgeOf.Post (w0 : World) (r : Int × Int × SFault) (e : Ending) (w : World) : Prop := e = .returned (.tuple #[.int .i64 r.1, .int .i64 r.2.1, .agg #[.int .i64 r.2.2.Code, .int .i64 r.2.2.At]]) ∧ St w0 w []
def punctualref_JudgeOf.r2 (l0 : List SJob) (e1 : SJob) (e2 : SJob) : Int × Bool × Nat → Option ((Int × Bool × Nat) ⊕ ((Int × Bool) ⊕ (Int × Int × SFault)))
  | (z9, q5, i3) =>
    if (i3 : Int) < (l0.length : Int) then
      match l0[i3]? with
      | none => none
      | some e3 =>
        if e3.At ≥ e1.At then
          if e3.Due ≤ e2.Due then
            some (.inl (IntKind.i64.wrap (z9 + e3.C), true, (i3 + 1)))
          else
            some (.inl (z9, q5, (i3 + 1)))
        else
          some (.inl (z9, q5, (i3 + 1)))
    else
      some (.inr (.inl (z9, q5)))
def punctualref_JudgeOf.r1 (K : Nat) (l0 : List SJob) (e1 : SJob) : Int × Int × Bool × Nat → Option ((Int × Int × Bool × Nat) ⊕ ((Int × Int × Bool) ⊕ (Int × Int × SFault)))
  | (z5, z6, q3, i2) =>
    if (i2 : Int) < (l0.length : Int) then
      match l0[i2]? with
      | none => none
      | some e2 =>
        match iter (punctualref_JudgeOf.r2 l0 e1 e2) K (0, false, 0) with
        | none => none
        | some (.inl (z11, q7)) =>
          if q7 = true then
            if z11 > (IntKind.i64.wrap (e2.Due - e1.At)) then
              if q3 = true then
                if e1.At < z5 then
                  some (.inl (e1.At, e2.Due, true, (i2 + 1)))
                else
                  if e1.At = z5 then
                    if e2.Due < z6 then
                      some (.inl (e1.At, e2.Due, true, (i2 + 1)))
                    else
                      some (.inl (z5, z6, q3, (i2 + 1)))
                  else
                    some (.inl (z5, z6, q3, (i2 + 1)))
              else
                some (.inl (e1.At, e2.Due, true, (i2 + 1)))
            else
              some (.inl (z5, z6, q3, (i2 + 1)))
          else
            some (.inl (z5, z6, q3, (i2 + 1)))
        | some (.inr rr1) =>
          some (.inr (.inr rr1))
    else
      some (.inr (.inl (z5, z6, q3)))
def punctualref_JudgeOf.r0 (K : Nat) (l0 : List SJob) (r1 : SFault) : Int × Int × Bool × Nat → Option ((Int × Int × Bool × Nat) ⊕ ((Int × Int × Bool) ⊕ (Int × Int × SFault)))
  | (z1, z2, q1, i1) =>
    if (i1 : Int) < (l0.length : Int) then
      match l0[i1]? with
      | none => none
      | some e1 =>
        match iter (punctualref_JudgeOf.r1 K l0 e1) K (z1, z2, q1, 0) with
        | none => none
        | some (.inl (z12, z13, q8)) =>
          some (.inl (z12, z13, q8, (i1 + 1)))
        | some (.inr rr2) =>
          some (.inr (.inr rr2))
    else
      some (.inr (.inl (z1, z2, q1)))
def punctualref_JudgeOf.f (K : Nat) (l0 : List SJob) : Option (Int × Int × SFault) :=
  match punctualref_CheckJobs.f K l0 with
  | none => none
  | some r1 =>
    if r1.Code = 0 then
      match iter (punctualref_JudgeOf.r0 K l0 r1) K (0, 0, false, 0) with
      | none => none
      | some (.inl (z14, z15, q9)) =>
        if q9 = true then
          some (z14, z15, (punctualref_F.f 13 0))
        else
          some (0, 0, (⟨0, 0⟩ : SFault))
      | some (.inr rr3) =>
        some rr3
    else
      some (0, 0, r1)
abbrev punctualref_JudgeOf.A2 (K : Nat) (w0 : World) (l0 : List SJob) (A0 : Option Addr) (c0 : Nat) (hR0 : RdL w0 A0 l0) (hL0 : l0.length ≤ c0) (b1 : Nat) (r1 : SFault) (b2 : Nat) (hc1 : r1.Code = 0) (z1 : Int) (z2 : Int) (q1 : Bool) (i1 : Nat) (hc2 : (i1 : Int) < (l0.length : Int)) (e1 : SJob) (hx3 : l0[i1]? = some e1) (b3 : Nat) (z5 : Int) (z6 : Int) (q3 : Bool) (i2 : Nat) (hc3 : (i2 : Int) < (l0.length : Int)) (e2 : SJob) (hx5 : l0[i2]? = some e2) (b4 : Nat) : (Int × Bool × Nat) → Act → World → Prop := fun (s : Int × Bool × Nat) a w => St w0 w [Own.blk b4 (.cells #[.int .i64 e2.Task, .int .i64 e2.At, .int .i64 e2.C, .int .i64 e2.Due, .int .i64 e2.P] 30 (0, 0)), Own.blk b3 (.cells #[.int .i64 e1.Task, .int .i64 e1.At, .int .i64 e1.C, .int .i64 e1.Due, .int .i64 e1.P] 30 (0, 0)), Own.blk b1 (.cells #[.int .i64 0, .int .i64 0] 26 (0, 0))] ∧ Frm 101 a [(0, .slice A0 l0.length c0), (4, .pointer (some ⟨b1, 0, none⟩)), (6, .int .i64 z5), (7, .int .i64 z6), (8, .bool q3), (10, .pointer (some ⟨b3, 0, none⟩)), (12, .pointer (some ⟨b4, 0, none⟩)), (13, .int .i64 s.1), (14, .bool s.2.1), (23, .slice A0 l0.length c0), (24, .int .i64 (l0.length : Int)), (25, .int .i64 (i1 : Int)), (29, .slice A0 l0.length c0), (30, .int .i64 (l0.length : Int)), (31, .int .i64 (i2 : Int)), (35, .slice A0 l0.length c0), (36, .int .i64 (l0.length : Int)), (37, .int .i64 (s.2.2 : Int))]
abbrev punctualref_JudgeOf.B2 (K : Nat) (w0 : World) (l0 : List SJob) (A0 : Option Addr) (c0 : Nat) (hR0 : RdL w0 A0 l0) (hL0 : l0.length ≤ c0) (b1 : Nat) (r1 : SFault) (b2 : Nat) (hc1 : r1.Code = 0) (z1 : Int) (z2 : Int) (q1 : Bool) (i1 : Nat) (hc2 : (i1 : Int) < (l0.length : Int)) (e1 : SJob) (hx3 : l0[i1]? = some e1) (b3 : Nat) (z5 : Int) (z6 : Int) (q3 : Bool) (i2 : Nat) (hc3 : (i2 : Int) < (l0.length : Int)) (e2 : SJob) (hx5 : l0[i2]? = some e2) (b4 : Nat) : ((Int × Bool) ⊕ (Int × Int × SFault)) → Exit → Act → World → Prop := Exits 4 (fun (s : Int × Bool) a w => St w0 w [Own.blk b4 (.cells #[.int .i64 e2.Task, .int .i64 e2.At, .int .i64 e2.C, .int .i64 e2.Due, .int .i64 e2.P] 30 (0, 0)), Own.blk b3 (.cells #[.int .i64 e1.Task, .int .i64 e1.At, .int .i64 e1.C, .int .i64 e1.Due, .int .i64 e1.P] 30 (0, 0)), Own.blk b1 (.cells #[.int .i64 0, .int .i64 0] 26 (0, 0))] ∧ Frm 101 a [(0, .slice A0 l0.length c0), (4, .pointer (some ⟨b1, 0, none⟩)), (6, .int .i64 z5), (7, .int .i64 z6), (8, .bool q3), (10, .pointer (some ⟨b3, 0, none⟩)), (12, .pointer (some ⟨b4, 0, none⟩)), (13, .int .i64 s.1), (14, .bool s.2), (23, .slice A0 l0.length c0), (24, .int .i64 (l0.length : Int)), (25, .int .i64 (i1 : Int)), (29, .slice A0 l0.length c0), (30, .int .i64 (l0.length : Int)), (31, .int .i64 (i2 : Int))]) (Rets Tryd.prog Tryd.f60 (punctualref_JudgeOf.Post w0))
theorem punctualref_JudgeOf_r2 (K : Nat) (w0 : World) (l0 : List SJob) (A0 : Option Addr) (c0 : Nat) (hR0 : RdL w0 A0 l0) (hL0 : l0.length ≤ c0) (b1 : Nat) (r1 : SFault) (b2 : Nat) (hc1 : r1.Code = 0) (z1 : Int) (z2 : Int) (q1 : Bool) (i1 : Nat) (hc2 : (i1 : Int) < (l0.length : Int)) (e1 : SJob) (hx3 : l0[i1]? = some e1) (b3 : Nat) (z5 : Int) (z6 : Int) (q3 : Bool) (i2 : Nat) (hc3 : (i2 : Int) < (l0.length : Int)) (e2 : SJob) (hx5 : l0[i2]? = some e2) (b4 : Nat) (s : Int × Bool × Nat) (o : (Int × Bool × Nat) ⊕ ((Int × Bool) ⊕ (Int × Int × SFault))) (h : punctualref_JudgeOf.r2 l0 e1 e2 s = some o) (a : Act) (w : World) (hA : punctualref_JudgeOf.A2 K w0 l0 A0 c0 hR0 hL0 b1 r1 b2 hc1 z1 z2 q1 i1 hc2 e1 hx3 b3 z5 z6 q3 i2 hc3 e2 hx5 b4 s a w) (Q : Exit → Act → World → Prop) (hQ : ∀ x a w, Outs (punctualref_JudgeOf.A2 K w0 l0 A0 c0 hR0 hL0 b1 r1 b2 hc1 z1 z2 q1 i1 hc2 e1 hx3 b3 z5 z6 q3 i2 hc3 e2 hx5 b4) (punctualref_JudgeOf.B2 K w0 l0 A0 c0 hR0 hL0 b1 r1 b2 hc1 z1 z2 q1 i1 hc2 e1 hx3 b3 z5 z6 q3 i2 hc3 e2 hx5 b4) o x a w → Q x a w) : (subF Tryd.f60 [1, 1, 1, 0, 1, 0, 0, 1, 1, 0, 0, 1, 1, 0, 0, 1, 1, 0, 0, 1, 1, 0, 1, 0, 0]).wp Tryd.prog Q a w := by
  obtain ⟨z9, q5, i3⟩ := s
  obtain ⟨hS, hF⟩ := hA
  replace hS : St w0 w [Own.blk b4 (.cells #[.int .i64 e2.Task, .int .i64 e2.At, .int .i64 e2.C, .int .i64 e2.Due, .int .i64 e2.P] 30 (0, 0)), Own.blk b3 (.cells #[.int .i64 e1.Task, .int .i64 e1.At, .int .i64 e1.C, .int .i64 e1.Due, .int .i64 e1.P] 30 (0, 0)), Own.blk b1 (.cells #[.int .i64 0, .int .i64 0] 26 (0, 0))] := hS
  simp only [punctualref_JudgeOf.r2] at h
  refine (?_ : WE Tryd.prog 101 (subF Tryd.f60 [1, 1, 1, 0, 1, 0, 0, 1, 1, 0, 0, 1, 1, 0, 0, 1, 1, 0, 0, 1, 1, 0, 1, 0, 0]) Q [(0, .slice A0 l0.length c0), (4, .pointer (some ⟨b1, 0, none⟩)), (6, .int .i64 z5), (7, .int .i64 z6), (8, .bool q3), (10, .pointer (some ⟨b3, 0, none⟩)), (12, .pointer (some ⟨b4, 0, none⟩)), (13, .int .i64 z9), (14, .bool q5), (23, .slice A0 l0.length c0), (24, .int .i64 (l0.length : Int)), (25, .int .i64 (i1 : Int)), (29, .slice A0 l0.length c0), (30, .int .i64 (l0.length : Int)), (31, .int .i64 (i2 : Int)), (35, .slice A0 l0.length c0), (36, .int .i64 (l0.length : Int)), (37, .int .i64 (i3 : Int))] w) a hF
  clear hF a
  refine we_seq fun K20 hK20 => ?_
  refine we_region [(0, 0)] rfl ?_
  refine ge_batch [0] (ans := []) (vs := [(38, .bool (decide ((i3 : Int) < (l0.length : Int))))]) (l := []) (by kernel_rfl) trivial ?_
  refine ge_nil fun a hF => hK20 _ _ ?_ a hF
  refine we_seq fun K21 hK21 => ?_
  by_cases hc4 : (i3 : Int) < (l0.length : Int)
  · rw [if_pos hc4] at h
    refine we_known (t := 38) (b := decide ((i3 : Int) < (l0.length : Int))) (v := true) (by kernel_rfl) (decide_eq_true hc4) ?_
    refine we_true (by kernel_rfl) ?_
    refine we_skip fun a hF => hK21 _ _ ?_ a hF
    refine we_seq fun K22 hK22 => ?_
    refine we_block ?_
    refine we_seq fun K23 hK23 => ?_
    refine we_region [(0, 0), (1, 0), (2, 1), (3, 2)] rfl ?_
    rcases hx7 : l0[i3]? with _ | e3
    · rw [hx7] at h; cases h
    rw [hx7] at h
    simp only [] at h
    refine ge_index (d := 39) (ty := 0) (t := 22) (el := 30) (sz := 5) (m := l0.length) (c := c0) (x := (.tmp 35)) (y := (.tmp 37)) (A := A0) (k' := .i64) (j := (i3 : Int)) (jn := i3) (b0 := blkOf A0) (o0 := offOf A0) (by kernel_rfl) (by kernel_rfl) (by kernel_rfl) (by kernel_rfl) (by kernel_rfl) ((hS.rd hR0).eqSome (pos_of_get hx7)) rfl (lt_of_get hx7) ?_
    refine ge_batch [1] (ans := [.val (.int .i64 e3.Task), .val (.int .i64 e3.At), .val (.int .i64 e3.C), .val (.int .i64 e3.Due), .val (.int .i64 e3.P)]) (vs := [(40, .agg #[.int .i64 e3.Task, .int .i64 e3.At, .int .i64 e3.C, .int .i64 e3.Due, .int .i64 e3.P])]) (l := [.loaded ⟨blkOf A0, offOf A0 + i3 * 5, none⟩ (.int .i64 e3.Task), .loaded ⟨blkOf A0, offOf A0 + i3 * 5 + 1, none⟩ (.int .i64 e3.At), .loaded ⟨blkOf A0, offOf A0 + i3 * 5 + 2, none⟩ (.int .i64 e3.C), .loaded ⟨blkOf A0, offOf A0 + i3 * 5 + 3, none⟩ (.int .i64 e3.Due), .loaded ⟨blkOf A0, offOf A0 + i3 * 5 + 4, none⟩ (.int .i64 e3.P)]) (by kernel_rfl) ⟨RdL.cell (j := 0) (hS.rd hR0) hx7 rfl, RdL.cell (j := 1) (hS.rd hR0) hx7 rfl, RdL.cell (j := 2) (hS.rd hR0) hx7 rfl, RdL.cell (j := 3) (hS.rd hR0) hx7 rfl, RdL.cell (j := 4) (hS.rd hR0) hx7 rfl, trivial⟩ ?_
    refine ge_new (d := some 16) (o := .cells #[.int .i64 0, .int .i64 0, .int .i64 0, .int .i64 0, .int .i64 0] 30) (v := fun b => .pointer (some ⟨b, 0, none⟩)) hS (fun b => by kernel_rfl) fun b5 w9 hx8 hS20 => ?_
    refine ge_set (b := b5) (j := 0) (cs := #[.int .i64 0, .int .i64 0, .int .i64 0, .int .i64 0, .int .i64 0]) (t := 30) (vs := [.int .i64 e3.Task, .int .i64 e3.At, .int .i64 e3.C, .int .i64 e3.Due, .int .i64 e3.P]) hS20 (by kernel_rfl) rfl rfl fun w10 hS21 => ?_
    have hS22 : St w0 w10 [Own.blk b5 (.cells #[.int .i64 e3.Task, .int .i64 e3.At, .int .i64 e3.C, .int .i64 e3.Due, .int .i64 e3.P] 30 (0, 0)), Own.blk b4 (.cells #[.int .i64 e2.Task, .int .i64 e2.At, .int .i64 e2.C, .int .i64 e2.Due, .int .i64 e2.P] 30 (0, 0)), Own.blk b3 (.cells #[.int .i64 e1.Task, .int .i64 e1.At, .int .i64 e1.C, .int .i64 e1.Due, .int .i64 e1.P] 30 (0, 0)), Own.blk b1 (.cells #[.int .i64 0, .int .i64 0] 26 (0, 0))] := hS21
    refine ge_nil fun a hF => hK23 _ _ ?_ a hF
    refine we_seq fun K24 hK24 => ?_
    refine we_region [(0, 0), (1, 0), (2, 0), (3, 0), (4, 0), (5, 0), (6, 0), (7, 0), (8, 0), (9, 0), (10, 0), (11, 0)] rfl ?_
    refine ge_batch [0, 1, 2, 3, 4, 5] (ans := [.val (.int .i64 e3.At), .val (.int .i64 e1.At)]) (vs := [(46, .bool (decide (e3.At ≥ e1.At))), (45, .bool (decide (e3.At ≥ e1.At))), (44, .int .i64 e1.At), (43, .pointer (some ⟨b3, 1, none⟩)), (42, .int .i64 e3.At), (41, .pointer (some ⟨b5, 1, none⟩))]) (l := [.loaded ⟨b5, 1, none⟩ (.int .i64 e3.At), .loaded ⟨b3, 1, none⟩ (.int .i64 e1.At)]) (by kernel_rfl) ⟨hS22.cell 0 rfl rfl, hS22.cell 2 rfl rfl, trivial⟩ ?_
    by_cases hc5 : e3.At ≥ e1.At
    · rw [if_pos hc5] at h
      refine ge_known (t := 46) (b := decide (e3.At ≥ e1.At)) (c := true) (by kernel_rfl) (decide_eq_true hc5) ?_
      refine ge_batch [6, 7, 8, 9, 10, 11] (ans := [.val (.int .i64 e3.Due), .val (.int .i64 e2.Due)]) (vs := [(52, .bool (decide (e3.Due ≤ e2.Due))), (51, .bool (decide (e3.Due ≤ e2.Due))), (50, .int .i64 e2.Due), (49, .pointer (some ⟨b4, 3, none⟩)), (48, .int .i64 e3.Due), (47, .pointer (some ⟨b5, 3, none⟩))]) (l := [.loaded ⟨b5, 3, none⟩ (.int .i64 e3.Due), .loaded ⟨b4, 3, none⟩ (.int .i64 e2.Due)]) (by kernel_rfl) ⟨hS22.cell 0 rfl rfl, hS22.cell 1 rfl rfl, trivial⟩ ?_
      refine ge_nil fun a hF => hK24 _ _ ?_ a hF
      by_cases hc6 : e3.Due ≤ e2.Due
      · rw [if_pos hc6] at h
        refine we_known (t := 52) (b := decide (e3.Due ≤ e2.Due)) (v := true) (by kernel_rfl) (decide_eq_true hc6) ?_
        refine we_true (by kernel_rfl) ?_
        refine we_seq fun K25 hK25 => ?_
        refine we_region [(0, 0), (1, 0), (2, 0), (3, 0), (4, 0)] rfl ?_
        refine ge_batch [0, 1, 2, 3, 4] (ans := [.val (.int .i64 e3.C)]) (vs := [(13, .int .i64 (IntKind.i64.wrap (z9 + e3.C))), (56, .int .i64 (IntKind.i64.wrap (z9 + e3.C))), (55, .int .i64 e3.C), (54, .pointer (some ⟨b5, 2, none⟩)), (53, .int .i64 z9)]) (l := [.loaded ⟨b5, 2, none⟩ (.int .i64 e3.C)]) (by kernel_rfl) ⟨hS22.cell 0 rfl rfl, trivial⟩ ?_
        refine ge_nil fun a hF => hK25 _ _ ?_ a hF
        refine we_region [(0, 0)] rfl ?_
        refine ge_batch [0] (ans := []) (vs := [(14, .bool true)]) (l := []) (by kernel_rfl) trivial ?_
        refine ge_nil fun a hF => hK22 _ _ ?_ a hF
        refine we_region [(0, 0), (1, 0)] rfl ?_
        refine ge_addn (d := 57) (ty := 3) (x := (.tmp 37)) (y := (.const (.int .i64 1))) (t := 3) (t2 := 3) (k := .i64) (m := i3) (by kernel_rfl) (by kernel_rfl) (by kernel_rfl) (by have h0 := hR0.small; omega) ?_
        refine ge_batch [1] (ans := []) (vs := [(37, .int .i64 ((i3 + 1 : Nat) : Int))]) (l := []) (by kernel_rfl) trivial ?_
        have hS23 := hS22.bring 3 rfl
        have hS24 := hS23.bring 3 rfl
        have hS25 := hS24.bring 3 rfl
        have hS26 := hS25.takeN 3
        obtain rfl := Option.some.inj h
        exact ge_nil fun a hF => hQ _ _ _ (Outs.again ⟨hS26, hF.weaken ⟨by kernel_rfl, by kernel_rfl, by kernel_rfl, by kernel_rfl, by kernel_rfl, by kernel_rfl, by kernel_rfl, by kernel_rfl, by kernel_rfl, by kernel_rfl, by kernel_rfl, by kernel_rfl, by kernel_rfl, by kernel_rfl, by kernel_rfl, by kernel_rfl, by kernel_rfl, by kernel_rfl, trivial⟩⟩)
      · rw [if_neg hc6] at h
        refine we_known (t := 52) (b := decide (e3.Due ≤ e2.Due)) (v := false) (by kernel_rfl) (decide_eq_false hc6) ?_
        refine we_false (by kernel_rfl) ?_
        refine we_skip fun a hF => hK22 _ _ ?_ a hF
        refine we_region [(0, 0), (1, 0)] rfl ?_
        refine ge_addn (d := 57) (ty := 3) (x := (.tmp 37)) (y := (.const (.int .i64 1))) (t := 3) (t2 := 3) (k := .i64) (m := i3) (by kernel_rfl) (by kernel_rfl) (by kernel_rfl) (by have h0 := hR0.small; omega) ?_
        refine ge_batch [1] (ans := []) (vs := [(37, .int .i64 ((i3 + 1 : Nat) : Int))]) (l := []) (by kernel_rfl) trivial ?_
        have hS27 := hS22.bring 3 rfl
        have hS28 := hS27.bring 3 rfl
        have hS29 := hS28.bring 3 rfl
        have hS30 := hS29.takeN 3
        obtain rfl := Option.some.inj h
        exact ge_nil fun a hF => hQ _ _ _ (Outs.again ⟨hS30, hF.weaken ⟨by kernel_rfl, by kernel_rfl, by kernel_rfl, by kernel_rfl, by kernel_rfl, by kernel_rfl, by kernel_rfl, by kernel_rfl, by kernel_rfl, by kernel_rfl, by kernel_rfl, by kernel_rfl, by kernel_rfl, by kernel_rfl, by kernel_rfl, by kernel_rfl, by kernel_rfl, by kernel_rfl, trivial⟩⟩)
    · rw [if_neg hc5] at h
      refine ge_known (t := 46) (b := decide (e3.At ≥ e1.At)) (c := false) (by kernel_rfl) (decide_eq_false hc5) ?_
      refine ge_batch [6, 7, 8, 9, 10, 11] (ans := []) (vs := [(52, .bool false), (51, undef), (50, undef), (49, undef), (48, undef), (47, undef)]) (l := []) (by kernel_rfl) trivial ?_
      refine ge_nil fun a hF => hK24 _ _ ?_ a hF
      refine we_false (by kernel_rfl) ?_
      refine we_skip fun a hF => hK22 _ _ ?_ a hF
      refine we_region [(0, 0), (1, 0)] rfl ?_
      refine ge_addn (d := 57) (ty := 3) (x := (.tmp 37)) (y := (.const (.int .i64 1))) (t := 3) (t2 := 3) (k := .i64) (m := i3) (by kernel_rfl) (by kernel_rfl) (by kernel_rfl) (by have h0 := hR0.small; omega) ?_
      refine ge_batch [1] (ans := []) (vs := [(37, .int .i64 ((i3 + 1 : Nat) : Int))]) (l := []) (by kernel_rfl) trivial ?_
      have hS31 := hS22.bring 3 rfl
      have hS32 := hS31.bring 3 rfl
      have hS33 := hS32.bring 3 rfl
      have hS34 := hS33.takeN 3
      obtain rfl := Option.some.inj h
      exact ge_nil fun a hF => hQ _ _ _ (Outs.again ⟨hS34, hF.weaken ⟨by kernel_rfl, by kernel_rfl, by kernel_rfl, by kernel_rfl, by kernel_rfl, by kernel_rfl, by kernel_rfl, by kernel_rfl, by kernel_rfl, by kernel_rfl, by kernel_rfl, by kernel_rfl, by kernel_rfl, by kernel_rfl, by kernel_rfl, by kernel_rfl, by kernel_rfl, by kernel_rfl, trivial⟩⟩)
  · rw [if_neg hc4] at h
    refine we_known (t := 38) (b := decide ((i3 : Int) < (l0.length : Int))) (v := false) (by kernel_rfl) (decide_eq_false hc4) ?_
    refine we_false (by kernel_rfl) ?_
    have hS35 := hS.bring 2 rfl
    have hS36 := hS35.bring 2 rfl
    have hS37 := hS36.bring 2 rfl
    obtain rfl := Option.some.inj h
    exact we_exit fun a hF => hQ _ _ _ (Outs.out nofun (Exits.here ⟨hS37, hF.weaken ⟨by kernel_rfl, by kernel_rfl, by kernel_rfl, by kernel_rfl, by kernel_rfl, by kernel_rfl, by kernel_rfl, by kernel_rfl, by kernel_rfl, by kernel_rfl, by kernel_rfl, by kernel_rfl, by kernel_rfl, by kernel_rfl, by kernel_rfl, trivial⟩⟩))
abbrev punctualref_JudgeOf.A1 (K : Nat) (w0 : World) (l0 : List SJob) (A0 : Option Addr) (c0 : Nat) (hR0 : RdL w0 A0 l0) (hL0 : l0.length ≤ c0) (b1 : Nat) (r1 : SFault) (b2 : Nat) (hc1 : r1.Code = 0) (z1 : Int) (z2 : Int) (q1 : Bool) (i1 : Nat) (hc2 : (i1 : Int) < (l0.length : Int)) (e1 : SJob) (hx3 : l0[i1]? = some e1) (b3 : Nat) : (Int × Int × Bool × Nat) → Act → World → Prop := fun (s : Int × Int × Bool × Nat) a w => St w0 w [Own.blk b3 (.cells #[.int .i64 e1.Task, .int .i64 e1.At, .int .i64 e1.C, .int .i64 e1.Due, .int .i64 e1.P] 30 (0, 0)), Own.blk b1 (.cells #[.int .i64 0, .int .i64 0] 26 (0, 0))] ∧ Frm 101 a [(0, .slice A0 l0.length c0), (4, .pointer (some ⟨b1, 0, none⟩)), (6, .int .i64 s.1), (7, .int .i64 s.2.1), (8, .bool s.2.2.1), (10, .pointer (some ⟨b3, 0, none⟩)), (23, .slice A0 l0.length c0), (24, .int .i64 (l0.length : Int)), (25, .int .i64 (i1 : Int)), (29, .slice A0 l0.length c0), (30, .int .i64 (l0.length : Int)), (31, .int .i64 (s.2.2.2 : Int))]
abbrev punctualref_JudgeOf.B1 (K : Nat) (w0 : World) (l0 : List SJob) (A0 : Option Addr) (c0 : Nat) (hR0 : RdL w0 A0 l0) (hL0 : l0.length ≤ c0) (b1 : Nat) (r1 : SFault) (b2 : Nat) (hc1 : r1.Code = 0) (z1 : Int) (z2 : Int) (q1 : Bool) (i1 : Nat) (hc2 : (i1 : Int) < (l0.length : Int)) (e1 : SJob) (hx3 : l0[i1]? = some e1) (b3 : Nat) : ((Int × Int × Bool) ⊕ (Int × Int × SFault)) → Exit → Act → World → Prop := Exits 2 (fun (s : Int × Int × Bool) a w => St w0 w [Own.blk b1 (.cells #[.int .i64 0, .int .i64 0] 26 (0, 0))] ∧ Frm 101 a [(0, .slice A0 l0.length c0), (4, .pointer (some ⟨b1, 0, none⟩)), (6, .int .i64 s.1), (7, .int .i64 s.2.1), (8, .bool s.2.2), (23, .slice A0 l0.length c0), (24, .int .i64 (l0.length : Int)), (25, .int .i64 (i1 : Int))]) (Rets Tryd.prog Tryd.f60 (punctualref_JudgeOf.Post w0))
theorem punctualref_JudgeOf_r1 (K : Nat) (w0 : World) (l0 : List SJob) (A0 : Option Addr) (c0 : Nat) (hR0 : RdL w0 A0 l0) (hL0 : l0.length ≤ c0) (b1 : Nat) (r1 : SFault) (b2 : Nat) (hc1 : r1.Code = 0) (z1 : Int) (z2 : Int) (q1 : Bool) (i1 : Nat) (hc2 : (i1 : Int) < (l0.length : Int)) (e1 : SJob) (hx3 : l0[i1]? = some e1) (b3 : Nat) (s : Int × Int × Bool × Nat) (o : (Int × Int × Bool × Nat) ⊕ ((Int × Int × Bool) ⊕ (Int × Int × SFault))) (h : punctualref_JudgeOf.r1 K l0 e1 s = some o) (a : Act) (w : World) (hA : punctualref_JudgeOf.A1 K w0 l0 A0 c0 hR0 hL0 b1 r1 b2 hc1 z1 z2 q1 i1 hc2 e1 hx3 b3 s a w) (Q : Exit → Act → World → Prop) (hQ : ∀ x a w, Outs (punctualref_JudgeOf.A1 K w0 l0 A0 c0 hR0 hL0 b1 r1 b2 hc1 z1 z2 q1 i1 hc2 e1 hx3 b3) (punctualref_JudgeOf.B1 K w0 l0 A0 c0 hR0 hL0 b1 r1 b2 hc1 z1 z2 q1 i1 hc2 e1 hx3 b3) o x a w → Q x a w) : (subF Tryd.f60 [1, 1, 1, 0, 1, 0, 0, 1, 1, 0, 0, 1, 1, 0, 0]).wp Tryd.prog Q a w := by
  obtain ⟨z5, z6, q3, i2⟩ := s
  obtain ⟨hS, hF⟩ := hA
  replace hS : St w0 w [Own.blk b3 (.cells #[.int .i64 e1.Task, .int .i64 e1.At, .int .i64 e1.C, .int .i64 e1.Due, .int .i64 e1.P] 30 (0, 0)), Own.blk b1 (.cells #[.int .i64 0, .int .i64 0] 26 (0, 0))] := hS
  simp only [punctualref_JudgeOf.r1] at h
  refine (?_ : WE Tryd.prog 101 (subF Tryd.f60 [1, 1, 1, 0, 1, 0, 0, 1, 1, 0, 0, 1, 1, 0, 0]) Q [(0, .slice A0 l0.length c0), (4, .pointer (some ⟨b1, 0, none⟩)), (6, .int .i64 z5), (7, .int .i64 z6), (8, .bool q3), (10, .pointer (some ⟨b3, 0, none⟩)), (23, .slice A0 l0.length c0), (24, .int .i64 (l0.length : Int)), (25, .int .i64 (i1 : Int)), (29, .slice A0 l0.length c0), (30, .int .i64 (l0.length : Int)), (31, .int .i64 (i2 : Int))] w) a hF
  clear hF a
  refine we_seq fun K13 hK13 => ?_
  refine we_region [(0, 0)] rfl ?_
  refine ge_batch [0] (ans := []) (vs := [(32, .bool (decide ((i2 : Int) < (l0.length : Int))))]) (l := []) (by kernel_rfl) trivial ?_
  refine ge_nil fun a hF => hK13 _ _ ?_ a hF
  refine we_seq fun K14 hK14 => ?_
  by_cases hc3 : (i2 : Int) < (l0.length : Int)
  · rw [if_pos hc3] at h
    refine we_known (t := 32) (b := decide ((i2 : Int) < (l0.length : Int))) (v := true) (by kernel_rfl) (decide_eq_true hc3) ?_
    refine we_true (by kernel_rfl) ?_
    refine we_skip fun a hF => hK14 _ _ ?_ a hF
    refine we_seq fun K15 hK15 => ?_
    refine we_block ?_
    refine we_seq fun K16 hK16 => ?_
    refine we_region [(0, 0), (1, 0), (2, 1), (3, 2)] rfl ?_
    rcases hx5 : l0[i2]? with _ | e2
    · rw [hx5] at h; cases h
    rw [hx5] at h
    simp only [] at h
    refine ge_index (d := 33) (ty := 0) (t := 22) (el := 30) (sz := 5) (m := l0.length) (c := c0) (x := (.tmp 29)) (y := (.tmp 31)) (A := A0) (k' := .i64) (j := (i2 : Int)) (jn := i2) (b0 := blkOf A0) (o0 := offOf A0) (by kernel_rfl) (by kernel_rfl) (by kernel_rfl) (by kernel_rfl) (by kernel_rfl) ((hS.rd hR0).eqSome (pos_of_get hx5)) rfl (lt_of_get hx5) ?_
    refine ge_batch [1] (ans := [.val (.int .i64 e2.Task), .val (.int .i64 e2.At), .val (.int .i64 e2.C), .val (.int .i64 e2.Due), .val (.int .i64 e2.P)]) (vs := [(34, .agg #[.int .i64 e2.Task, .int .i64 e2.At, .int .i64 e2.C, .int .i64 e2.Due, .int .i64 e2.P])]) (l := [.loaded ⟨blkOf A0, offOf A0 + i2 * 5, none⟩ (.int .i64 e2.Task), .loaded ⟨blkOf A0, offOf A0 + i2 * 5 + 1, none⟩ (.int .i64 e2.At), .loaded ⟨blkOf A0, offOf A0 + i2 * 5 + 2, none⟩ (.int .i64 e2.C), .loaded ⟨blkOf A0, offOf A0 + i2 * 5 + 3, none⟩ (.int .i64 e2.Due), .loaded ⟨blkOf A0, offOf A0 + i2 * 5 + 4, none⟩ (.int .i64 e2.P)]) (by kernel_rfl) ⟨RdL.cell (j := 0) (hS.rd hR0) hx5 rfl, RdL.cell (j := 1) (hS.rd hR0) hx5 rfl, RdL.cell (j := 2) (hS.rd hR0) hx5 rfl, RdL.cell (j := 3) (hS.rd hR0) hx5 rfl, RdL.cell (j := 4) (hS.rd hR0) hx5 rfl, trivial⟩ ?_
    refine ge_new (d := some 12) (o := .cells #[.int .i64 0, .int .i64 0, .int .i64 0, .int .i64 0, .int .i64 0] 30) (v := fun b => .pointer (some ⟨b, 0, none⟩)) hS (fun b => by kernel_rfl) fun b4 w7 hx6 hS14 => ?_
    refine ge_set (b := b4) (j := 0) (cs := #[.int .i64 0, .int .i64 0, .int .i64 0, .int .i64 0, .int .i64 0]) (t := 30) (vs := [.int .i64 e2.Task, .int .i64 e2.At, .int .i64 e2.C, .int .i64 e2.Due, .int .i64 e2.P]) hS14 (by kernel_rfl) rfl rfl fun w8 hS15 => ?_
    have hS16 : St w0 w8 [Own.blk b4 (.cells #[.int .i64 e2.Task, .int .i64 e2.At, .int .i64 e2.C, .int .i64 e2.Due, .int .i64 e2.P] 30 (0, 0)), Own.blk b3 (.cells #[.int .i64 e1.Task, .int .i64 e1.At, .int .i64 e1.C, .int .i64 e1.Due, .int .i64 e1.P] 30 (0, 0)), Own.blk b1 (.cells #[.int .i64 0, .int .i64 0] 26 (0, 0))] := hS15
    refine ge_nil fun a hF => hK16 _ _ ?_ a hF
    refine we_seq fun K17 hK17 => ?_
    refine we_region [(0, 0), (1, 0)] rfl ?_
    refine ge_batch [0, 1] (ans := []) (vs := [(14, .bool false), (13, .int .i64 0)]) (l := []) (by kernel_rfl) trivial ?_
    refine ge_nil fun a hF => hK17 _ _ ?_ a hF
    refine we_seq fun K18 hK18 => ?_
    refine we_seq fun K19 hK19 => ?_
    refine we_region [(0, 0), (1, 0), (2, 0)] rfl ?_
    refine ge_batch [0, 1, 2] (ans := []) (vs := [(37, .int .i64 0), (36, .int .i64 (l0.length : Int)), (35, .slice A0 l0.length c0)]) (l := []) (by kernel_rfl) trivial ?_
    refine ge_nil fun a hF => hK19 _ _ ?_ a hF
    refine we_block ?_
    have hS17 := hS16.bring 2 rfl
    have hS18 := hS17.bring 2 rfl
    have hS19 := hS18.bring 2 rfl
    rcases hq2 : iter (punctualref_JudgeOf.r2 l0 e1 e2) K (0, false, 0) with _ | (⟨z11, q7⟩ | rr1)
    · rw [hq2] at h; cases h
    · rw [hq2] at h
      simp only [] at h
      refine we_iter (A := punctualref_JudgeOf.A2 K w0 l0 A0 c0 hR0 hL0 b1 r1 b2 hc1 z1 z2 q1 i1 hc2 e1 hx3 b3 z5 z6 q3 i2 hc3 e2 hx5 b4) (B := punctualref_JudgeOf.B2 K w0 l0 A0 c0 hR0 hL0 b1 r1 b2 hc1 z1 z2 q1 i1 hc2 e1 hx3 b3 z5 z6 q3 i2 hc3 e2 hx5 b4) hq2 (fun a hF => ⟨hS19, hF.weaken ⟨by kernel_rfl, by kernel_rfl, by kernel_rfl, by kernel_rfl, by kernel_rfl, by kernel_rfl, by kernel_rfl, by kernel_rfl, by kernel_rfl, by kernel_rfl, by kernel_rfl, by kernel_rfl, by kernel_rfl, by kernel_rfl, by kernel_rfl, by kernel_rfl, by kernel_rfl, by kernel_rfl, trivial⟩⟩) (fun s o hf a w hA Q hQ => punctualref_JudgeOf_r2 K w0 l0 A0 c0 hR0 hL0 b1 r1 b2 hc1 z1 z2 q1 i1 hc2 e1 hx3 b3 z5 z6 q3 i2 hc3 e2 hx5 b4 s o hf a w hA Q hQ) ?_
      rintro _ a w11 _ ⟨rfl, hS38, hF⟩
      replace hS38 : St w0 w11 [Own.blk b4 (.cells #[.int .i64 e2.Task, .int .i64 e2.At, .int .i64 e2.C, .int .i64 e2.Due, .int .i64 e2.P] 30 (0, 0)), Own.blk b3 (.cells #[.int .i64 e1.Task, .int .i64 e1.At, .int .i64 e1.C, .int .i64 e1.Due, .int .i64 e1.P] 30 (0, 0)), Own.blk b1 (.cells #[.int .i64 0, .int .i64 0] 26 (0, 0))] := hS38
      refine hK18 [(0, .slice A0 l0.length c0), (4, .pointer (some ⟨b1, 0, none⟩)), (6, .int .i64 z5), (7, .int .i64 z6), (8, .bool q3), (10, .pointer (some ⟨b3, 0, none⟩)), (12, .pointer (some ⟨b4, 0, none⟩)), (13, .int .i64 z11), (14, .bool q7), (23, .slice A0 l0.length c0), (24, .int .i64 (l0.length : Int)), (25, .int .i64 (i1 : Int)), (29, .slice A0 l0.length c0), (30, .int .i64 (l0.length : Int)), (31, .int .i64 (i2 : Int))] w11 ?_ a hF
      refine we_seq fun K26 hK26 => ?_
      refine we_region [(0, 0), (1, 0), (2, 0), (3, 0), (4, 0), (5, 0), (6, 0), (7, 0), (8, 0), (9, 0), (10, 0), (11, 0), (12, 0), (13, 0), (14, 0), (15, 0), (16, 0), (17, 0), (18, 0), (19, 0), (20, 0), (21, 0), (22, 0), (23, 0), (24, 0), (25, 0), (26, 0), (27, 0), (28, 0), (29, 0), (30, 0), (31, 0)] rfl ?_
      refine ge_batch [0, 1] (ans := []) (vs := [(59, .bool q7), (58, .bool q7)]) (l := []) (by kernel_rfl) trivial ?_
      by_cases hc7 : q7 = true
      · rw [if_pos hc7] at h
        refine ge_known (t := 59) (b := q7) (c := true) (by kernel_rfl) hc7 ?_
        refine ge_batch [2, 3, 4, 5, 6, 7, 8, 9, 10] (ans := [.val (.int .i64 e2.Due), .val (.int .i64 e1.At)]) (vs := [(68, .bool (decide (z11 > (IntKind.i64.wrap (e2.Due - e1.At))))), (67, .bool (decide (z11 > (IntKind.i64.wrap (e2.Due - e1.At))))), (66, .bool (decide (z11 > (IntKind.i64.wrap (e2.Due - e1.At))))), (65, .int .i64 (IntKind.i64.wrap (e2.Due - e1.At))), (64, .int .i64 e1.At), (63, .pointer (some ⟨b3, 1, none⟩)), (62, .int .i64 e2.Due), (61, .pointer (some ⟨b4, 3, none⟩)), (60, .int .i64 z11)]) (l := [.loaded ⟨b4, 3, none⟩ (.int .i64 e2.Due), .loaded ⟨b3, 1, none⟩ (.int .i64 e1.At)]) (by kernel_rfl) ⟨hS38.cell 0 rfl rfl, hS38.cell 1 rfl rfl, trivial⟩ ?_
        by_cases hc8 : z11 > (IntKind.i64.wrap (e2.Due - e1.At))
        · rw [if_pos hc8] at h
          refine ge_known (t := 68) (b := decide (z11 > (IntKind.i64.wrap (e2.Due - e1.At)))) (c := true) (by kernel_rfl) (decide_eq_true hc8) ?_
          refine ge_batch [11, 12, 13] (ans := []) (vs := [(71, .bool (!q3)), (70, .bool (!q3)), (69, .bool q3)]) (l := []) (by kernel_rfl) trivial ?_
          by_cases hc9 : q3 = true
          · rw [if_pos hc9] at h
            refine ge_known (t := 71) (b := !q3) (c := false) (by kernel_rfl) (congrArg (fun z => !z) hc9) ?_
            refine ge_batch [14, 15, 16, 17, 18, 19] (ans := [.val (.int .i64 e1.At)]) (vs := [(77, .bool (decide (e1.At < z5))), (76, .bool (decide (e1.At < z5))), (75, .bool (decide (e1.At < z5))), (74, .int .i64 z5), (73, .int .i64 e1.At), (72, .pointer (some ⟨b3, 1, none⟩))]) (l := [.loaded ⟨b3, 1, none⟩ (.int .i64 e1.At)]) (by kernel_rfl) ⟨hS38.cell 1 rfl rfl, trivial⟩ ?_
            by_cases hc10 : e1.At < z5
            · rw [if_pos hc10] at h
              refine ge_known (t := 77) (b := decide (e1.At < z5)) (c := true) (by kernel_rfl) (decide_eq_true hc10) ?_
              refine ge_batch [20, 21, 22, 23, 24, 25, 26, 27, 28, 29, 30, 31] (ans := []) (vs := [(89, .bool true), (88, .bool true), (87, undef), (86, undef), (85, undef), (84, undef), (83, undef), (82, undef), (81, undef), (80, undef), (79, undef), (78, undef)]) (l := []) (by kernel_rfl) trivial ?_
              refine ge_nil fun a hF => hK26 _ _ ?_ a hF
              refine we_true (by kernel_rfl) ?_
              refine we_draws (by kernel_rfl) [(0, 0), (1, 0), (2, 0), (3, 0), (4, 0), (5, 0), (6, 0)] (by kernel_rfl) ?_
              have hS39 := hS38.drew
              refine ge_batch [0, 1, 2, 3, 4, 5, 6] (ans := [.val (.int .i64 e1.At), .val (.int .i64 e2.Due)]) (vs := [(8, .bool true), (7, .int .i64 e2.Due), (6, .int .i64 e1.At), (93, .int .i64 e2.Due), (92, .pointer (some ⟨b4, 3, none⟩)), (91, .int .i64 e1.At), (90, .pointer (some ⟨b3, 1, none⟩))]) (l := [.loaded ⟨b3, 1, none⟩ (.int .i64 e1.At), .loaded ⟨b4, 3, none⟩ (.int .i64 e2.Due)]) (by kernel_rfl) ⟨hS39.cell 1 rfl rfl, hS39.cell 0 rfl rfl, trivial⟩ ?_
              refine ge_nil fun a hF => hK15 _ _ ?_ a hF
              refine we_region [(0, 0), (1, 0)] rfl ?_
              refine ge_addn (d := 94) (ty := 3) (x := (.tmp 31)) (y := (.const (.int .i64 1))) (t := 3) (t2 := 3) (k := .i64) (m := i2) (by kernel_rfl) (by kernel_rfl) (by kernel_rfl) (by have h0 := hR0.small; omega) ?_
              refine ge_batch [1] (ans := []) (vs := [(31, .int .i64 ((i2 + 1 : Nat) : Int))]) (l := []) (by kernel_rfl) trivial ?_
              have hS40 := hS39.bring 2 rfl
              have hS41 := hS40.bring 2 rfl
              have hS42 := hS41.takeN 2
              obtain rfl := Option.some.inj h
              exact ge_nil fun a hF => hQ _ _ _ (Outs.again ⟨hS42, hF.weaken ⟨by kernel_rfl, by kernel_rfl, by kernel_rfl, by kernel_rfl, by kernel_rfl, by kernel_rfl, by kernel_rfl, by kernel_rfl, by kernel_rfl, by kernel_rfl, by kernel_rfl, by kernel_rfl, trivial⟩⟩)
            · rw [if_neg hc10] at h
              refine ge_known (t := 77) (b := decide (e1.At < z5)) (c := false) (by kernel_rfl) (decide_eq_false hc10) ?_
              refine ge_batch [20, 21, 22, 23, 24] (ans := [.val (.int .i64 e1.At)]) (vs := [(82, .bool (e1.At == z5)), (81, .bool (e1.At == z5)), (80, .int .i64 z5), (79, .int .i64 e1.At), (78, .pointer (some ⟨b3, 1, none⟩))]) (l := [.loaded ⟨b3, 1, none⟩ (.int .i64 e1.At)]) (by kernel_rfl) ⟨hS38.cell 1 rfl rfl, trivial⟩ ?_
              by_cases hc11 : e1.At = z5
              · rw [if_pos hc11] at h
                refine ge_known (t := 82) (b := (e1.At == z5)) (c := true) (by kernel_rfl) (beq_iff_eq.2 hc11) ?_
                refine ge_batch [25, 26, 27, 28, 29, 30, 31] (ans := [.val (.int .i64 e2.Due)]) (vs := [(89, .bool (decide (e2.Due < z6))), (88, .bool (decide (e2.Due < z6))), (87, .bool (decide (e2.Due < z6))), (86, .bool (decide (e2.Due < z6))), (85, .int .i64 z6), (84, .int .i64 e2.Due), (83, .pointer (some ⟨b4, 3, none⟩))]) (l := [.loaded ⟨b4, 3, none⟩ (.int .i64 e2.Due)]) (by kernel_rfl) ⟨hS38.cell 0 rfl rfl, trivial⟩ ?_
                refine ge_nil fun a hF => hK26 _ _ ?_ a hF
                by_cases hc12 : e2.Due < z6
                · rw [if_pos hc12] at h
                  refine we_known (t := 89) (b := decide (e2.Due < z6)) (v := true) (by kernel_rfl) (decide_eq_true hc12) ?_
                  refine we_true (by kernel_rfl) ?_
                  refine we_draws (by kernel_rfl) [(0, 0), (1, 0), (2, 0), (3, 0), (4, 0), (5, 0), (6, 0)] (by kernel_rfl) ?_
                  have hS43 := hS38.drew
                  refine ge_batch [0, 1, 2, 3, 4, 5, 6] (ans := [.val (.int .i64 e1.At), .val (.int .i64 e2.Due)]) (vs := [(8, .bool true), (7, .int .i64 e2.Due), (6, .int .i64 e1.At), (93, .int .i64 e2.Due), (92, .pointer (some ⟨b4, 3, none⟩)), (91, .int .i64 e1.At), (90, .pointer (some ⟨b3, 1, none⟩))]) (l := [.loaded ⟨b3, 1, none⟩ (.int .i64 e1.At), .loaded ⟨b4, 3, none⟩ (.int .i64 e2.Due)]) (by kernel_rfl) ⟨hS43.cell 1 rfl rfl, hS43.cell 0 rfl rfl, trivial⟩ ?_
                  refine ge_nil fun a hF => hK15 _ _ ?_ a hF
                  refine we_region [(0, 0), (1, 0)] rfl ?_
                  refine ge_addn (d := 94) (ty := 3) (x := (.tmp 31)) (y := (.const (.int .i64 1))) (t := 3) (t2 := 3) (k := .i64) (m := i2) (by kernel_rfl) (by kernel_rfl) (by kernel_rfl) (by have h0 := hR0.small; omega) ?_
                  refine ge_batch [1] (ans := []) (vs := [(31, .int .i64 ((i2 + 1 : Nat) : Int))]) (l := []) (by kernel_rfl) trivial ?_
                  have hS44 := hS43.bring 2 rfl
                  have hS45 := hS44.bring 2 rfl
                  have hS46 := hS45.takeN 2
                  obtain rfl := Option.some.inj h
                  exact ge_nil fun a hF => hQ _ _ _ (Outs.again ⟨hS46, hF.weaken ⟨by kernel_rfl, by kernel_rfl, by kernel_rfl, by kernel_rfl, by kernel_rfl, by kernel_rfl, by kernel_rfl, by kernel_rfl, by kernel_rfl, by kernel_rfl, by kernel_rfl, by kernel_rfl, trivial⟩⟩)
                · rw [if_neg hc12] at h
                  refine we_known (t := 89) (b := decide (e2.Due < z6)) (v := false) (by kernel_rfl) (decide_eq_false hc12) ?_
                  refine we_false (by kernel_rfl) ?_
                  refine we_skip fun a hF => hK15 _ _ ?_ a hF
                  refine we_region [(0, 0), (1, 0)] rfl ?_
                  refine ge_addn (d := 94) (ty := 3) (x := (.tmp 31)) (y := (.const (.int .i64 1))) (t := 3) (t2 := 3) (k := .i64) (m := i2) (by kernel_rfl) (by kernel_rfl) (by kernel_rfl) (by have h0 := hR0.small; omega) ?_
                  refine ge_batch [1] (ans := []) (vs := [(31, .int .i64 ((i2 + 1 : Nat) : Int))]) (l := []) (by kernel_rfl) trivial ?_
                  have hS47 := hS38.bring 2 rfl
                  have hS48 := hS47.bring 2 rfl
                  have hS49 := hS48.takeN 2
                  obtain rfl := Option.some.inj h
                  exact ge_nil fun a hF => hQ _ _ _ (Outs.again ⟨hS49, hF.weaken ⟨by kernel_rfl, by kernel_rfl, by kernel_rfl, by kernel_rfl, by kernel_rfl, by kernel_rfl, by kernel_rfl, by kernel_rfl, by kernel_rfl, by kernel_rfl, by kernel_rfl, by kernel_rfl, trivial⟩⟩)
              · rw [if_neg hc11] at h
                refine ge_known (t := 82) (b := (e1.At == z5)) (c := false) (by kernel_rfl) (beq_eq_false_iff_ne.2 hc11) ?_
                refine ge_batch [25, 26, 27, 28, 29, 30, 31] (ans := []) (vs := [(89, .bool false), (88, .bool false), (87, .bool false), (86, undef), (85, undef), (84, undef), (83, undef)]) (l := []) (by kernel_rfl) trivial ?_
                refine ge_nil fun a hF => hK26 _ _ ?_ a hF
                refine we_false (by kernel_rfl) ?_
                refine we_skip fun a hF => hK15 _ _ ?_ a hF
                refine we_region [(0, 0), (1, 0)] rfl ?_
                refine ge_addn (d := 94) (ty := 3) (x := (.tmp 31)) (y := (.const (.int .i64 1))) (t := 3) (t2 := 3) (k := .i64) (m := i2) (by kernel_rfl) (by kernel_rfl) (by kernel_rfl) (by have h0 := hR0.small; omega) ?_
                refine ge_batch [1] (ans := []) (vs := [(31, .int .i64 ((i2 + 1 : Nat) : Int))]) (l := []) (by kernel_rfl) trivial ?_
                have hS50 := hS38.bring 2 rfl
                have hS51 := hS50.bring 2 rfl
                have hS52 := hS51.takeN 2
                obtain rfl := Option.some.inj h
                exact ge_nil fun a hF => hQ _ _ _ (Outs.again ⟨hS52, hF.weaken ⟨by kernel_rfl, by kernel_rfl, by kernel_rfl, by kernel_rfl, by kernel_rfl, by kernel_rfl, by kernel_rfl, by kernel_rfl, by kernel_rfl, by kernel_rfl, by kernel_rfl, by kernel_rfl, trivial⟩⟩)
          · rw [if_neg hc9] at h
            refine ge_known (t := 71) (b := !q3) (c := true) (by kernel_rfl) (congrArg (fun z => !z) (Bool.eq_false_iff.2 hc9)) ?_
            refine ge_batch [14, 15, 16, 17, 18, 19, 20, 21, 22, 23, 24, 25, 26, 27, 28, 29, 30, 31] (ans := []) (vs := [(89, .bool true), (88, .bool true), (87, undef), (86, undef), (85, undef), (84, undef), (83, undef), (82, undef), (81, undef), (80, undef), (79, undef), (78, undef), (77, .bool true), (76, .bool true), (75, undef), (74, undef), (73, undef), (72, undef)]) (l := []) (by kernel_rfl) trivial ?_
            refine ge_nil fun a hF => hK26 _ _ ?_ a hF
            refine we_true (by kernel_rfl) ?_
            refine we_draws (by kernel_rfl) [(0, 0), (1, 0), (2, 0), (3, 0), (4, 0), (5, 0), (6, 0)] (by kernel_rfl) ?_
            have hS53 := hS38.drew
            refine ge_batch [0, 1, 2, 3, 4, 5, 6] (ans := [.val (.int .i64 e1.At), .val (.int .i64 e2.Due)]) (vs := [(8, .bool true), (7, .int .i64 e2.Due), (6, .int .i64 e1.At), (93, .int .i64 e2.Due), (92, .pointer (some ⟨b4, 3, none⟩)), (91, .int .i64 e1.At), (90, .pointer (some ⟨b3, 1, none⟩))]) (l := [.loaded ⟨b3, 1, none⟩ (.int .i64 e1.At), .loaded ⟨b4, 3, none⟩ (.int .i64 e2.Due)]) (by kernel_rfl) ⟨hS53.cell 1 rfl rfl, hS53.cell 0 rfl rfl, trivial⟩ ?_
            refine ge_nil fun a hF => hK15 _ _ ?_ a hF
            refine we_region [(0, 0), (1, 0)] rfl ?_
            refine ge_addn (d := 94) (ty := 3) (x := (.tmp 31)) (y := (.const (.int .i64 1))) (t := 3) (t2 := 3) (k := .i64) (m := i2) (by kernel_rfl) (by kernel_rfl) (by kernel_rfl) (by have h0 := hR0.small; omega) ?_
            refine ge_batch [1] (ans := []) (vs := [(31, .int .i64 ((i2 + 1 : Nat) : Int))]) (l := []) (by kernel_rfl) trivial ?_
            have hS54 := hS53.bring 2 rfl
            have hS55 := hS54.bring 2 rfl
            have hS56 := hS55.takeN 2
            obtain rfl := Option.some.inj h
            exact ge_nil fun a hF => hQ _ _ _ (Outs.again ⟨hS56, hF.weaken ⟨by kernel_rfl, by kernel_rfl, by kernel_rfl, by kernel_rfl, by kernel_rfl, by kernel_rfl, by kernel_rfl, by kernel_rfl, by kernel_rfl, by kernel_rfl, by kernel_rfl, by kernel_rfl, trivial⟩⟩)
        · rw [if_neg hc8] at h
          refine ge_known (t := 68) (b := decide (z11 > (IntKind.i64.wrap (e2.Due - e1.At)))) (c := false) (by kernel_rfl) (decide_eq_false hc8) ?_
          refine ge_batch [11, 12, 13, 14, 15, 16, 17, 18, 19, 20, 21, 22, 23, 24, 25, 26, 27, 28, 29, 30, 31] (ans := []) (vs := [(89, .bool false), (88, undef), (87, undef), (86, undef), (85, undef), (84, undef), (83, undef), (82, undef), (81, undef), (80, undef), (79, undef), (78, undef), (77, undef), (76, undef), (75, undef), (74, undef), (73, undef), (72, undef), (71, undef), (70, undef), (69, undef)]) (l := []) (by kernel_rfl) trivial ?_
          refine ge_nil fun a hF => hK26 _ _ ?_ a hF
          refine we_false (by kernel_rfl) ?_
          refine we_skip fun a hF => hK15 _ _ ?_ a hF
          refine we_region [(0, 0), (1, 0)] rfl ?_
          refine ge_addn (d := 94) (ty := 3) (x := (.tmp 31)) (y := (.const (.int .i64 1))) (t := 3) (t2 := 3) (k := .i64) (m := i2) (by kernel_rfl) (by kernel_rfl) (by kernel_rfl) (by have h0 := hR0.small; omega) ?_
          refine ge_batch [1] (ans := []) (vs := [(31, .int .i64 ((i2 + 1 : Nat) : Int))]) (l := []) (by kernel_rfl) trivial ?_
          have hS57 := hS38.bring 2 rfl
          have hS58 := hS57.bring 2 rfl
          have hS59 := hS58.takeN 2
          obtain rfl := Option.some.inj h
          exact ge_nil fun a hF => hQ _ _ _ (Outs.again ⟨hS59, hF.weaken ⟨by kernel_rfl, by kernel_rfl, by kernel_rfl, by kernel_rfl, by kernel_rfl, by kernel_rfl, by kernel_rfl, by kernel_rfl, by kernel_rfl, by kernel_rfl, by kernel_rfl, by kernel_rfl, trivial⟩⟩)
      · rw [if_neg hc7] at h
        refine ge_known (t := 59) (b := q7) (c := false) (by kernel_rfl) (Bool.eq_false_iff.2 hc7) ?_
        refine ge_batch [2, 3, 4, 5, 6, 7, 8, 9, 10, 11, 12, 13, 14, 15, 16, 17, 18, 19, 20, 21, 22, 23, 24, 25, 26, 27, 28, 29, 30, 31] (ans := []) (vs := [(89, .bool false), (88, undef), (87, undef), (86, undef), (85, undef), (84, undef), (83, undef), (82, undef), (81, undef), (80, undef), (79, undef), (78, undef), (77, undef), (76, undef), (75, undef), (74, undef), (73, undef), (72, undef), (71, undef), (70, undef), (69, undef), (68, .bool false), (67, .bool false), (66, undef), (65, undef), (64, undef), (63, undef), (62, undef), (61, undef), (60, undef)]) (l := []) (by kernel_rfl) trivial ?_
        refine ge_nil fun a hF => hK26 _ _ ?_ a hF
        refine we_false (by kernel_rfl) ?_
        refine we_skip fun a hF => hK15 _ _ ?_ a hF
        refine we_region [(0, 0), (1, 0)] rfl ?_
        refine ge_addn (d := 94) (ty := 3) (x := (.tmp 31)) (y := (.const (.int .i64 1))) (t := 3) (t2 := 3) (k := .i64) (m := i2) (by kernel_rfl) (by kernel_rfl) (by kernel_rfl) (by have h0 := hR0.small; omega) ?_
        refine ge_batch [1] (ans := []) (vs := [(31, .int .i64 ((i2 + 1 : Nat) : Int))]) (l := []) (by kernel_rfl) trivial ?_
        have hS60 := hS38.bring 2 rfl
        have hS61 := hS60.bring 2 rfl
        have hS62 := hS61.takeN 2
        obtain rfl := Option.some.inj h
        exact ge_nil fun a hF => hQ _ _ _ (Outs.again ⟨hS62, hF.weaken ⟨by kernel_rfl, by kernel_rfl, by kernel_rfl, by kernel_rfl, by kernel_rfl, by kernel_rfl, by kernel_rfl, by kernel_rfl, by kernel_rfl, by kernel_rfl, by kernel_rfl, by kernel_rfl, trivial⟩⟩)
    · rw [hq2] at h
      simp only [] at h
      refine we_iter (A := punctualref_JudgeOf.A2 K w0 l0 A0 c0 hR0 hL0 b1 r1 b2 hc1 z1 z2 q1 i1 hc2 e1 hx3 b3 z5 z6 q3 i2 hc3 e2 hx5 b4) (B := punctualref_JudgeOf.B2 K w0 l0 A0 c0 hR0 hL0 b1 r1 b2 hc1 z1 z2 q1 i1 hc2 e1 hx3 b3 z5 z6 q3 i2 hc3 e2 hx5 b4) hq2 (fun a hF => ⟨hS19, hF.weaken ⟨by kernel_rfl, by kernel_rfl, by kernel_rfl, by kernel_rfl, by kernel_rfl, by kernel_rfl, by kernel_rfl, by kernel_rfl, by kernel_rfl, by kernel_rfl, by kernel_rfl, by kernel_rfl, by kernel_rfl, by kernel_rfl, by kernel_rfl, by kernel_rfl, by kernel_rfl, by kernel_rfl, trivial⟩⟩) (fun s o hf a w hA Q hQ => punctualref_JudgeOf_r2 K w0 l0 A0 c0 hR0 hL0 b1 r1 b2 hc1 z1 z2 q1 i1 hc2 e1 hx3 b3 z5 z6 q3 i2 hc3 e2 hx5 b4 s o hf a w hA Q hQ) ?_
      rintro _ a w1 _ ⟨rfl, hb⟩
      obtain rfl := Option.some.inj h
      exact hQ _ _ _ (Outs.out nofun (Exits.on ⟨rfl, hb⟩))
  · rw [if_neg hc3] at h
    refine we_known (t := 32) (b := decide ((i2 : Int) < (l0.length : Int))) (v := false) (by kernel_rfl) (decide_eq_false hc3) ?_
    refine we_false (by kernel_rfl) ?_
    have hS63 := hS.bring 1 rfl
    have hS64 := hS63.takeN 1
    obtain rfl := Option.some.inj h
    exact we_exit fun a hF => hQ _ _ _ (Outs.out nofun (Exits.here ⟨hS64, hF.weaken ⟨by kernel_rfl, by kernel_rfl, by kernel_rfl, by kernel_rfl, by kernel_rfl, by kernel_rfl, by kernel_rfl, by kernel_rfl, trivial⟩⟩))
abbrev punctualref_JudgeOf.A0 (K : Nat) (w0 : World) (l0 : List SJob) (A0 : Option Addr) (c0 : Nat) (hR0 : RdL w0 A0 l0) (hL0 : l0.length ≤ c0) (b1 : Nat) (r1 : SFault) (b2 : Nat) (hc1 : r1.Code = 0) : (Int × Int × Bool × Nat) → Act → World → Prop := fun (s : Int × Int × Bool × Nat) a w => St w0 w [Own.blk b1 (.cells #[.int .i64 0, .int .i64 0] 26 (0, 0))] ∧ Frm 101 a [(0, .slice A0 l0.length c0), (4, .pointer (some ⟨b1, 0, none⟩)), (6, .int .i64 s.1), (7, .int .i64 s.2.1), (8, .bool s.2.2.1), (23, .slice A0 l0.length c0), (24, .int .i64 (l0.length : Int)), (25, .int .i64 (s.2.2.2 : Int))]
abbrev punctualref_JudgeOf.B0 (K : Nat) (w0 : World) (l0 : List SJob) (A0 : Option Addr) (c0 : Nat) (hR0 : RdL w0 A0 l0) (hL0 : l0.length ≤ c0) (b1 : Nat) (r1 : SFault) (b2 : Nat) (hc1 : r1.Code = 0) : ((Int × Int × Bool) ⊕ (Int × Int × SFault)) → Exit → Act → World → Prop := Exits 0 (fun (s : Int × Int × Bool) a w => St w0 w [Own.blk b1 (.cells #[.int .i64 0, .int .i64 0] 26 (0, 0))] ∧ Frm 101 a [(4, .pointer (some ⟨b1, 0, none⟩)), (6, .int .i64 s.1), (7, .int .i64 s.2.1), (8, .bool s.2.2)]) (Rets Tryd.prog Tryd.f60 (punctualref_JudgeOf.Post w0))
theorem punctualref_JudgeOf_r0 (K : Nat) (w0 : World) (l0 : List SJob) (A0 : Option Addr) (c0 : Nat) (hR0 : RdL w0 A0 l0) (hL0 : l0.length ≤ c0) (b1 : Nat) (r1 : SFault) (b2 : Nat) (hc1 : r1.Code = 0) (s : Int × Int × Bool × Nat) (o : (Int × Int × Bool × Nat) ⊕ ((Int × Int × Bool) ⊕ (Int × Int × SFault))) (h : punctualref_JudgeOf.r0 K l0 r1 s = some o) (a : Act) (w : World) (hA : punctualref_JudgeOf.A0 K w0 l0 A0 c0 hR0 hL0 b1 r1 b2 hc1 s a w) (Q : Exit → Act → World → Prop) (hQ : ∀ x a w, Outs (punctualref_JudgeOf.A0 K w0 l0 A0 c0 hR0 hL0 b1 r1 b2 hc1) (punctualref_JudgeOf.B0 K w0 l0 A0 c0 hR0 hL0 b1 r1 b2 hc1) o x a w → Q x a w) : (subF Tryd.f60 [1, 1, 1, 0, 1, 0, 0]).wp Tryd.prog Q a w := by
  obtain ⟨z1, z2, q1, i1⟩ := s
  obtain ⟨hS, hF⟩ := hA
  replace hS : St w0 w [Own.blk b1 (.cells #[.int .i64 0, .int .i64 0] 26 (0, 0))] := hS
  simp only [punctualref_JudgeOf.r0] at h
  refine (?_ : WE Tryd.prog 101 (subF Tryd.f60 [1, 1, 1, 0, 1, 0, 0]) Q [(0, .slice A0 l0.length c0), (4, .pointer (some ⟨b1, 0, none⟩)), (6, .int .i64 z1), (7, .int .i64 z2), (8, .bool q1), (23, .slice A0 l0.length c0), (24, .int .i64 (l0.length : Int)), (25, .int .i64 (i1 : Int))] w) a hF
  clear hF a
  refine we_seq fun K8 hK8 => ?_
  refine we_region [(0, 0)] rfl ?_
  refine ge_batch [0] (ans := []) (vs := [(26, .bool (decide ((i1 : Int) < (l0.length : Int))))]) (l := []) (by kernel_rfl) trivial ?_
  refine ge_nil fun a hF => hK8 _ _ ?_ a hF
  refine we_seq fun K9 hK9 => ?_
  by_cases hc2 : (i1 : Int) < (l0.length : Int)
  · rw [if_pos hc2] at h
    refine we_known (t := 26) (b := decide ((i1 : Int) < (l0.length : Int))) (v := true) (by kernel_rfl) (decide_eq_true hc2) ?_
    refine we_true (by kernel_rfl) ?_
    refine we_skip fun a hF => hK9 _ _ ?_ a hF
    refine we_seq fun K10 hK10 => ?_
    refine we_block ?_
    refine we_seq fun K11 hK11 => ?_
    refine we_region [(0, 0), (1, 0), (2, 1), (3, 2)] rfl ?_
    rcases hx3 : l0[i1]? with _ | e1
    · rw [hx3] at h; cases h
    rw [hx3] at h
    simp only [] at h
    refine ge_index (d := 27) (ty := 0) (t := 22) (el := 30) (sz := 5) (m := l0.length) (c := c0) (x := (.tmp 23)) (y := (.tmp 25)) (A := A0) (k' := .i64) (j := (i1 : Int)) (jn := i1) (b0 := blkOf A0) (o0 := offOf A0) (by kernel_rfl) (by kernel_rfl) (by kernel_rfl) (by kernel_rfl) (by kernel_rfl) ((hS.rd hR0).eqSome (pos_of_get hx3)) rfl (lt_of_get hx3) ?_
    refine ge_batch [1] (ans := [.val (.int .i64 e1.Task), .val (.int .i64 e1.At), .val (.int .i64 e1.C), .val (.int .i64 e1.Due), .val (.int .i64 e1.P)]) (vs := [(28, .agg #[.int .i64 e1.Task, .int .i64 e1.At, .int .i64 e1.C, .int .i64 e1.Due, .int .i64 e1.P])]) (l := [.loaded ⟨blkOf A0, offOf A0 + i1 * 5, none⟩ (.int .i64 e1.Task), .loaded ⟨blkOf A0, offOf A0 + i1 * 5 + 1, none⟩ (.int .i64 e1.At), .loaded ⟨blkOf A0, offOf A0 + i1 * 5 + 2, none⟩ (.int .i64 e1.C), .loaded ⟨blkOf A0, offOf A0 + i1 * 5 + 3, none⟩ (.int .i64 e1.Due), .loaded ⟨blkOf A0, offOf A0 + i1 * 5 + 4, none⟩ (.int .i64 e1.P)]) (by kernel_rfl) ⟨RdL.cell (j := 0) (hS.rd hR0) hx3 rfl, RdL.cell (j := 1) (hS.rd hR0) hx3 rfl, RdL.cell (j := 2) (hS.rd hR0) hx3 rfl, RdL.cell (j := 3) (hS.rd hR0) hx3 rfl, RdL.cell (j := 4) (hS.rd hR0) hx3 rfl, trivial⟩ ?_
    refine ge_new (d := some 10) (o := .cells #[.int .i64 0, .int .i64 0, .int .i64 0, .int .i64 0, .int .i64 0] 30) (v := fun b => .pointer (some ⟨b, 0, none⟩)) hS (fun b => by kernel_rfl) fun b3 w5 hx4 hS9 => ?_
    refine ge_set (b := b3) (j := 0) (cs := #[.int .i64 0, .int .i64 0, .int .i64 0, .int .i64 0, .int .i64 0]) (t := 30) (vs := [.int .i64 e1.Task, .int .i64 e1.At, .int .i64 e1.C, .int .i64 e1.Due, .int .i64 e1.P]) hS9 (by kernel_rfl) rfl rfl fun w6 hS10 => ?_
    have hS11 : St w0 w6 [Own.blk b3 (.cells #[.int .i64 e1.Task, .int .i64 e1.At, .int .i64 e1.C, .int .i64 e1.Due, .int .i64 e1.P] 30 (0, 0)), Own.blk b1 (.cells #[.int .i64 0, .int .i64 0] 26 (0, 0))] := hS10
    refine ge_nil fun a hF => hK11 _ _ ?_ a hF
    refine we_seq fun K12 hK12 => ?_
    refine we_region [(0, 0), (1, 0), (2, 0)] rfl ?_
    refine ge_batch [0, 1, 2] (ans := []) (vs := [(31, .int .i64 0), (30, .int .i64 (l0.length : Int)), (29, .slice A0 l0.length c0)]) (l := []) (by kernel_rfl) trivial ?_
    refine ge_nil fun a hF => hK12 _ _ ?_ a hF
    refine we_block ?_
    have hS12 := hS11.bring 1 rfl
    have hS13 := hS12.bring 1 rfl
    rcases hq3 : iter (punctualref_JudgeOf.r1 K l0 e1) K (z1, z2, q1, 0) with _ | (⟨z12, z13, q8⟩ | rr2)
    · rw [hq3] at h; cases h
    · rw [hq3] at h
      simp only [] at h
      refine we_iter (A := punctualref_JudgeOf.A1 K w0 l0 A0 c0 hR0 hL0 b1 r1 b2 hc1 z1 z2 q1 i1 hc2 e1 hx3 b3) (B := punctualref_JudgeOf.B1 K w0 l0 A0 c0 hR0 hL0 b1 r1 b2 hc1 z1 z2 q1 i1 hc2 e1 hx3 b3) hq3 (fun a hF => ⟨hS13, hF.weaken ⟨by kernel_rfl, by kernel_rfl, by kernel_rfl, by kernel_rfl, by kernel_rfl, by kernel_rfl, by kernel_rfl, by kernel_rfl, by kernel_rfl, by kernel_rfl, by kernel_rfl, by kernel_rfl, trivial⟩⟩) (fun s o hf a w hA Q hQ => punctualref_JudgeOf_r1 K w0 l0 A0 c0 hR0 hL0 b1 r1 b2 hc1 z1 z2 q1 i1 hc2 e1 hx3 b3 s o hf a w hA Q hQ) ?_
      rintro _ a w12 _ ⟨rfl, hS65, hF⟩
      replace hS65 : St w0 w12 [Own.blk b1 (.cells #[.int .i64 0, .int .i64 0] 26 (0, 0))] := hS65
      refine hK10 [(0, .slice A0 l0.length c0), (4, .pointer (some ⟨b1, 0, none⟩)), (6, .int .i64 z12), (7, .int .i64 z13), (8, .bool q8), (23, .slice A0 l0.length c0), (24, .int .i64 (l0.length : Int)), (25, .int .i64 (i1 : Int))] w12 ?_ a hF
      refine we_region [(0, 0), (1, 0)] rfl ?_
      refine ge_addn (d := 95) (ty := 3) (x := (.tmp 25)) (y := (.const (.int .i64 1))) (t := 3) (t2 := 3) (k := .i64) (m := i1) (by kernel_rfl) (by kernel_rfl) (by kernel_rfl) (by have h0 := hR0.small; omega) ?_
      refine ge_batch [1] (ans := []) (vs := [(25, .int .i64 ((i1 + 1 : Nat) : Int))]) (l := []) (by kernel_rfl) trivial ?_
      obtain rfl := Option.some.inj h
      exact ge_nil fun a hF => hQ _ _ _ (Outs.again ⟨hS65, hF.weaken ⟨by kernel_rfl, by kernel_rfl, by kernel_rfl, by kernel_rfl, by kernel_rfl, by kernel_rfl, by kernel_rfl, by kernel_rfl, trivial⟩⟩)
    · rw [hq3] at h
      simp only [] at h
      refine we_iter (A := punctualref_JudgeOf.A1 K w0 l0 A0 c0 hR0 hL0 b1 r1 b2 hc1 z1 z2 q1 i1 hc2 e1 hx3 b3) (B := punctualref_JudgeOf.B1 K w0 l0 A0 c0 hR0 hL0 b1 r1 b2 hc1 z1 z2 q1 i1 hc2 e1 hx3 b3) hq3 (fun a hF => ⟨hS13, hF.weaken ⟨by kernel_rfl, by kernel_rfl, by kernel_rfl, by kernel_rfl, by kernel_rfl, by kernel_rfl, by kernel_rfl, by kernel_rfl, by kernel_rfl, by kernel_rfl, by kernel_rfl, by kernel_rfl, trivial⟩⟩) (fun s o hf a w hA Q hQ => punctualref_JudgeOf_r1 K w0 l0 A0 c0 hR0 hL0 b1 r1 b2 hc1 z1 z2 q1 i1 hc2 e1 hx3 b3 s o hf a w hA Q hQ) ?_
      rintro _ a w1 _ ⟨rfl, hb⟩
      obtain rfl := Option.some.inj h
      exact hQ _ _ _ (Outs.out nofun (Exits.on ⟨rfl, hb⟩))
  · rw [if_neg hc2] at h
    refine we_known (t := 26) (b := decide ((i1 : Int) < (l0.length : Int))) (v := false) (by kernel_rfl) (decide_eq_false hc2) ?_
    refine we_false (by kernel_rfl) ?_
    obtain rfl := Option.some.inj h
    exact we_exit fun a hF => hQ _ _ _ (Outs.out nofun (Exits.here ⟨hS, hF.weaken ⟨by kernel_rfl, by kernel_rfl, by kernel_rfl, by kernel_rfl, trivial⟩⟩))
theorem punctualref_JudgeOf_ok (K : Nat) (l0 : List SJob) (A0 : Option Addr) (c0 : Nat) (w0 : World) (hR0 : RdL w0 A0 l0) (hL0 : l0.length ≤ c0) (r : Int × Int × SFault) (h : punctualref_JudgeOf.f K l0 = some r) :
    Calls Tryd.prog 60 #[.slice A0 l0.length c0] w0 (punctualref_JudgeOf.Post w0 r) := by
  have hS := St.start w0
  unfold punctualref_JudgeOf.f at h
  refine calls_enter (n := 101) (args := [.slice A0 l0.length c0]) (fn := Tryd.f60) rfl rfl rfl rfl ?_
  show WE _ _ _ _ [(0, .slice A0 l0.length c0)] _
  refine we_seq fun K1 hK1 => ?_
  refine we_region [(0, 0), (1, 0), (2, 1)] rfl ?_
  refine ge_batch [0, 1] (ans := []) (vs := [(3, .int .i64 0), (2, .int .i64 0)]) (l := []) (by kernel_rfl) trivial ?_
  refine ge_new (d := some 4) (o := .cells #[.int .i64 0, .int .i64 0] 26) (v := fun b => .pointer (some ⟨b, 0, none⟩)) hS (fun b => by kernel_rfl) fun b1 w1 hx1 hS1 => ?_
  refine ge_nil fun a hF => hK1 _ _ ?_ a hF
  refine we_seq fun K2 hK2 => ?_
  refine we_seq fun K3 hK3 => ?_
  refine we_region [(0, 0), (1, 1), (2, 1), (3, 2)] rfl ?_
  rcases hq1 : punctualref_CheckJobs.f K l0 with _ | r1
  · rw [hq1] at h; cases h
  rw [hq1] at h
  simp only [] at h
  refine ge_batch [0] (ans := []) (vs := [(17, .slice A0 l0.length c0)]) (l := []) (by kernel_rfl) trivial ?_
  refine ge_call (d := some 18) (f := 35) (args := #[.slice A0 l0.length c0]) (by kernel_rfl) (punctualref_CheckJobs_ok K l0 A0 c0 _ (hS1.rd hR0) hL0 _ hq1) ?_
  rintro _ w2 ⟨rfl, hS2⟩
  refine ⟨_, rfl, hS2.below, ?_⟩
  have hS3 := hS1.call hS2
  refine ge_new (d := some 5) (o := .cells #[.int .i64 0, .int .i64 0] 26) (v := fun b => .pointer (some ⟨b, 0, none⟩)) hS3 (fun b => by kernel_rfl) fun b2 w3 hx2 hS4 => ?_
  refine ge_set (b := b2) (j := 0) (cs := #[.int .i64 0, .int .i64 0]) (t := 26) (vs := [.int .i64 r1.Code, .int .i64 r1.At]) hS4 (by kernel_rfl) rfl rfl fun w4 hS5 => ?_
  have hS6 : St w0 w4 [Own.blk b2 (.cells #[.int .i64 r1.Code, .int .i64 r1.At] 26 (0, 0)), Own.blk b1 (.cells #[.int .i64 0, .int .i64 0] 26 (0, 0))] := hS5
  refine ge_nil fun a hF => hK3 _ _ ?_ a hF
  refine we_seq fun K4 hK4 => ?_
  refine we_region [(0, 0), (1, 0), (2, 0)] rfl ?_
  refine ge_batch [0, 1, 2] (ans := [.val (.int .i64 r1.Code)]) (vs := [(21, .bool (r1.Code != 0)), (20, .int .i64 r1.Code), (19, .pointer (some ⟨b2, 0, none⟩))]) (l := [.loaded ⟨b2, 0, none⟩ (.int .i64 r1.Code)]) (by kernel_rfl) ⟨hS6.cell 0 rfl rfl, trivial⟩ ?_
  refine ge_nil fun a hF => hK4 _ _ ?_ a hF
  by_cases hc1 : r1.Code = 0
  · rw [if_pos hc1] at h
    refine we_known (t := 21) (b := (r1.Code != 0)) (v := false) (by kernel_rfl) (bne_eq_false_iff_eq.2 hc1) ?_
    refine we_false (by kernel_rfl) ?_
    refine we_skip fun a hF => hK2 _ _ ?_ a hF
    refine we_seq fun K5 hK5 => ?_
    refine we_region [(0, 0), (1, 0), (2, 0)] rfl ?_
    refine ge_batch [0, 1, 2] (ans := []) (vs := [(8, .bool false), (7, .int .i64 0), (6, .int .i64 0)]) (l := []) (by kernel_rfl) trivial ?_
    refine ge_nil fun a hF => hK5 _ _ ?_ a hF
    refine we_seq fun K6 hK6 => ?_
    refine we_seq fun K7 hK7 => ?_
    refine we_region [(0, 0), (1, 0), (2, 0)] rfl ?_
    refine ge_batch [0, 1, 2] (ans := []) (vs := [(25, .int .i64 0), (24, .int .i64 (l0.length : Int)), (23, .slice A0 l0.length c0)]) (l := []) (by kernel_rfl) trivial ?_
    refine ge_nil fun a hF => hK7 _ _ ?_ a hF
    refine we_block ?_
    have hS7 := hS6.bring 1 rfl
    have hS8 := hS7.takeN 1
    rcases hq4 : iter (punctualref_JudgeOf.r0 K l0 r1) K (0, 0, false, 0) with _ | (⟨z14, z15, q9⟩ | rr3)
    · rw [hq4] at h; cases h
    · rw [hq4] at h
      simp only [] at h
      refine we_iter (A := punctualref_JudgeOf.A0 K w0 l0 A0 c0 hR0 hL0 b1 r1 b2 hc1) (B := punctualref_JudgeOf.B0 K w0 l0 A0 c0 hR0 hL0 b1 r1 b2 hc1) hq4 (fun a hF => ⟨hS8, hF.weaken ⟨by kernel_rfl, by kernel_rfl, by kernel_rfl, by kernel_rfl, by kernel_rfl, by kernel_rfl, by kernel_rfl, by kernel_rfl, trivial⟩⟩) (fun s o hf a w hA Q hQ => punctualref_JudgeOf_r0 K w0 l0 A0 c0 hR0 hL0 b1 r1 b2 hc1 s o hf a w hA Q hQ) ?_
      rintro _ a w13 _ ⟨rfl, hS66, hF⟩
      replace hS66 : St w0 w13 [Own.blk b1 (.cells #[.int .i64 0, .int .i64 0] 26 (0, 0))] := hS66
      refine hK6 [(4, .pointer (some ⟨b1, 0, none⟩)), (6, .int .i64 z14), (7, .int .i64 z15), (8, .bool q9)] w13 ?_ a hF
      refine we_seq fun K27 hK27 => ?_
      refine we_seq fun K28 hK28 => ?_
      refine we_region [(0, 0)] rfl ?_
      refine ge_batch [0] (ans := []) (vs := [(96, .bool q9)]) (l := []) (by kernel_rfl) trivial ?_
      refine ge_nil fun a hF => hK28 _ _ ?_ a hF
      by_cases hc13 : q9 = true
      · rw [if_pos hc13] at h
        refine we_known (t := 96) (b := q9) (v := true) (by kernel_rfl) hc13 ?_
        refine we_true (by kernel_rfl) ?_
        refine we_seq fun K29 hK29 => ?_
        refine we_region [(0, 0), (1, 0), (2, 1), (3, 0), (4, 0), (5, 2)] rfl ?_
        refine ge_batch [0, 1] (ans := []) (vs := [(98, .int .i64 z15), (97, .int .i64 z14)]) (l := []) (by kernel_rfl) trivial ?_
        refine ge_call (d := some 99) (f := 21) (args := #[.int .i64 13, .int .i64 0]) (by kernel_rfl) (punctualref_F_ok 13 0 _ _ rfl) ?_
        rintro _ w14 ⟨rfl, hS67⟩
        refine ⟨_, rfl, hS67.below, ?_⟩
        have hS68 := hS66.call hS67
        refine ge_batch [3, 4] (ans := []) (vs := [(3, .int .i64 z15), (2, .int .i64 z14)]) (l := []) (by kernel_rfl) trivial ?_
        refine ge_set (b := b1) (j := 0) (cs := #[.int .i64 0, .int .i64 0]) (t := 26) (vs := [.int .i64 ((punctualref_F.f 13 0).Code), .int .i64 ((punctualref_F.f 13 0).At)]) hS68 (by kernel_rfl) rfl rfl fun w15 hS69 => ?_
        have hS70 : St w0 w15 [Own.blk b1 (.cells #[.int .i64 ((punctualref_F.f 13 0).Code), .int .i64 ((punctualref_F.f 13 0).At)] 26 (0, 0))] := hS69
        refine ge_nil fun a hF => hK29 _ _ ?_ a hF
        have hS71 := hS70.takeN 0
        obtain rfl := Option.some.inj h
        exact we_ret (post_ret (rs := [.tmp 2, .tmp 3, .cell 4 26]) (ans := [.val (.int .i64 ((punctualref_F.f 13 0).Code)), .val (.int .i64 ((punctualref_F.f 13 0).At))]) (vs := [.int .i64 z14, .int .i64 z15, .agg #[.int .i64 ((punctualref_F.f 13 0).Code), .int .i64 ((punctualref_F.f 13 0).At)]]) (l := [.loaded ⟨b1, 0, none⟩ (.int .i64 ((punctualref_F.f 13 0).Code)), .loaded ⟨b1, 1, none⟩ (.int .i64 ((punctualref_F.f 13 0).At))]) rfl (by kernel_rfl) ⟨hS70.cell 0 rfl rfl, hS70.cell 0 rfl rfl, trivial⟩ ⟨rfl, hS71⟩)
      · rw [if_neg hc13] at h
        refine we_known (t := 96) (b := q9) (v := false) (by kernel_rfl) (Bool.eq_false_iff.2 hc13) ?_
        refine we_false (by kernel_rfl) ?_
        refine we_skip fun a hF => hK27 _ _ ?_ a hF
        refine we_seq fun K30 hK30 => ?_
        refine we_region [(0, 0), (1, 0), (2, 0), (3, 2)] rfl ?_
        refine ge_batch [0, 1, 2] (ans := []) (vs := [(3, .int .i64 0), (2, .int .i64 0), (100, .agg #[.int .i64 0, .int .i64 0])]) (l := []) (by kernel_rfl) trivial ?_
        refine ge_set (b := b1) (j := 0) (cs := #[.int .i64 0, .int .i64 0]) (t := 26) (vs := [.int .i64 0, .int .i64 0]) hS66 (by kernel_rfl) rfl rfl fun w16 hS72 => ?_
        have hS73 : St w0 w16 [Own.blk b1 (.cells #[.int .i64 0, .int .i64 0] 26 (0, 0))] := hS72
        refine ge_nil fun a hF => hK30 _ _ ?_ a hF
        have hS74 := hS73.takeN 0
        obtain rfl := Option.some.inj h
        exact we_ret (post_ret (rs := [.tmp 2, .tmp 3, .cell 4 26]) (ans := [.val (.int .i64 0), .val (.int .i64 0)]) (vs := [.int .i64 0, .int .i64 0, .agg #[.int .i64 0, .int .i64 0]]) (l := [.loaded ⟨b1, 0, none⟩ (.int .i64 0), .loaded ⟨b1, 1, none⟩ (.int .i64 0)]) rfl (by kernel_rfl) ⟨hS73.cell 0 rfl rfl, hS73.cell 0 rfl rfl, trivial⟩ ⟨rfl, hS74⟩)
    · rw [hq4] at h
      simp only [] at h
      refine we_iter (A := punctualref_JudgeOf.A0 K w0 l0 A0 c0 hR0 hL0 b1 r1 b2 hc1) (B := punctualref_JudgeOf.B0 K w0 l0 A0 c0 hR0 hL0 b1 r1 b2 hc1) hq4 (fun a hF => ⟨hS8, hF.weaken ⟨by kernel_rfl, by kernel_rfl, by kernel_rfl, by kernel_rfl, by kernel_rfl, by kernel_rfl, by kernel_rfl, by kernel_rfl, trivial⟩⟩) (fun s o hf a w hA Q hQ => punctualref_JudgeOf_r0 K w0 l0 A0 c0 hR0 hL0 b1 r1 b2 hc1 s o hf a w hA Q hQ) ?_
      rintro _ a w1 _ ⟨rfl, hb⟩
      obtain rfl := Option.some.inj h
      exact hb
  · rw [if_neg hc1] at h
    refine we_known (t := 21) (b := (r1.Code != 0)) (v := true) (by kernel_rfl) (bne_iff_ne.2 hc1) ?_
    refine we_true (by kernel_rfl) ?_
    refine we_seq fun K31 hK31 => ?_
    refine we_draws (by kernel_rfl) [(0, 0), (1, 0), (2, 0), (3, 2)] (by kernel_rfl) ?_
    have hS75 := hS6.drew
    refine ge_batch [0, 1, 2] (ans := [.val (.int .i64 r1.Code), .val (.int .i64 r1.At)]) (vs := [(3, .int .i64 0), (2, .int .i64 0), (22, .agg #[.int .i64 r1.Code, .int .i64 r1.At])]) (l := [.loaded ⟨b2, 0, none⟩ (.int .i64 r1.Code), .loaded ⟨b2, 1, none⟩ (.int .i64 r1.At)]) (by kernel_rfl) ⟨hS75.cell 0 rfl rfl, hS75.cell 0 rfl rfl, trivial⟩ ?_
    have hS76 := hS75.bring 1 rfl
    refine ge_set (b := b1) (j := 0) (cs := #[.int .i64 0, .int .i64 0]) (t := 26) (vs := [.int .i64 r1.Code, .int .i64 r1.At]) hS76 (by kernel_rfl) rfl rfl fun w17 hS77 => ?_
    have hS78 : St w0 w17 [Own.blk b1 (.cells #[.int .i64 r1.Code, .int .i64 r1.At] 26 (0, 0)), Own.blk b2 (.cells #[.int .i64 r1.Code, .int .i64 r1.At] 26 (0, 0))] := hS77
    refine ge_nil fun a hF => hK31 _ _ ?_ a hF
    have hS79 := hS78.takeN 0
    obtain rfl := Option.some.inj h
    exact we_ret (post_ret (rs := [.tmp 2, .tmp 3, .cell 4 26]) (ans := [.val (.int .i64 r1.Code), .val (.int .i64 r1.At)]) (vs := [.int .i64 0, .int .i64 0, .agg #[.int .i64 r1.Code, .int .i64 r1.At]]) (l := [.loaded ⟨b1, 0, none⟩ (.int .i64 r1.Code), .loaded ⟨b1, 1, none⟩ (.int .i64 r1.At)]) rfl (by kernel_rfl) ⟨hS78.cell 0 rfl rfl, hS78.cell 0 rfl rfl, trivial⟩ ⟨rfl, hS79⟩)

/-! punctual/punctualsame.Still[punctual/api.Job] -/
abbrev punctualsame_Still_api_Job.Post (w0 : World) (r : Bool) (e : Ending) (w : World) : Prop := e = .returned (.bool r) ∧ St w0 w []
def punctualsame_Still_api_Job.r0 (f0 : List SJob) (l1 : List SJob) (x2 : SJob) : Nat → Option (Nat ⊕ (Unit ⊕ Bool))
  | i1 =>
    if (i1 : Int) < (f0.length : Int) then
      match f0[i1]? with
      | none => none
      | some e1 =>
        if (i1 : Int) < (l1.length : Int) then
          match l1[i1]? with
          | none => none
          | some e2 =>
            if (SJob.eqb e1 e2) = true then
              if (i1 : Int) ≥ (l1.length : Int) then
                if (SJob.eqb e1 x2) = true then
                  some (.inl (i1 + 1))
                else
                  some (.inr (.inr false))
              else
                some (.inl (i1 + 1))
            else
              some (.inr (.inr false))
        else
          if (i1 : Int) ≥ (l1.length : Int) then
            if (SJob.eqb e1 x2) = true then
              some (.inl (i1 + 1))
            else
              some (.inr (.inr false))
          else
            some (.inl (i1 + 1))
    else
      some (.inr (.inl ()))
def punctualsame_Still_api_Job.f (K : Nat) (f0 : List SJob) (l1 : List SJob) (x2 : SJob) : Option Bool :=
  if (IntKind.i64.wrap ((l1.length : Int) + 3)) = (f0.length : Int) then
    match iter (punctualsame_Still_api_Job.r0 f0 l1 x2) K 0 with
    | none => none
    | some (.inl _) =>
      some true
    | some (.inr rr1) =>
      some rr1
  else
    none
abbrev punctualsame_Still_api_Job.A0 (K : Nat) (w0 : World) (f0 : List SJob) (A0 : Option Addr) (n0 : Nat) (c0 : Nat) (l1 : List SJob) (A1 : Option Addr) (c1 : Nat) (x2 : SJob) (hR0 : RdL w0 A0 f0) (hc0 : f0.length ≤ c0) (hR1 : RdL w0 A1 l1) (hL1 : l1.length ≤ c1) (b1 : Nat) (hc1 : (IntKind.i64.wrap ((l1.length : Int) + 3)) = (f0.length : Int)) : Nat → Act → World → Prop := fun (s : Nat) a w => St w0 w [Own.blk b1 (.cells #[.int .i64 x2.Task, .int .i64 x2.At, .int .i64 x2.C, .int .i64 x2.Due, .int .i64 x2.P] 30 (0, 0))] ∧ Frm 46 a [(1, .slice A1 l1.length c1), (5, .pointer (some ⟨b1, 0, none⟩)), (15, .slice A0 f0.length c0), (16, .int .i64 (f0.length : Int)), (17, .int .i64 (s : Int))]
abbrev punctualsame_Still_api_Job.B0 (K : Nat) (w0 : World) (f0 : List SJob) (A0 : Option Addr) (n0 : Nat) (c0 : Nat) (l1 : List SJob) (A1 : Option Addr) (c1 : Nat) (x2 : SJob) (hR0 : RdL w0 A0 f0) (hc0 : f0.length ≤ c0) (hR1 : RdL w0 A1 l1) (hL1 : l1.length ≤ c1) (b1 : Nat) (hc1 : (IntKind.i64.wrap ((l1.length : Int) + 3)) = (f0.length : Int)) : (Unit ⊕ Bool) → Exit → Act → World → Prop := Exits 0 (fun (s : Unit) a w => St w0 w [] ∧ Frm 46 a []) (Rets Tryd.prog Tryd.f17 (punctualsame_Still_api_Job.Post w0))
theorem punctualsame_Still_api_Job_r0 (K : Nat) (w0 : World) (f0 : List SJob) (A0 : Option Addr) (n0 : Nat) (c0 : Nat) (l1 : List SJob) (A1 : Option Addr) (c1 : Nat) (x2 : SJob) (hR0 : RdL w0 A0 f0) (hc0 : f0.length ≤ c0) (hR1 : RdL w0 A1 l1) (hL1 : l1.length ≤ c1) (b1 : Nat) (hc1 : (IntKind.i64.wrap ((l1.length : Int) + 3)) = (f0.length : Int)) (s : Nat) (o : Nat ⊕ (Unit ⊕ Bool)) (h : punctualsame_Still_api_Job.r0 f0 l1 x2 s = some o) (a : Act) (w : World) (hA : punctualsame_Still_api_Job.A0 K w0 f0 A0 n0 c0 l1 A1 c1 x2 hR0 hc0 hR1 hL1 b1 hc1 s a w) (Q : Exit → Act → World → Prop) (hQ : ∀ x a w, Outs (punctualsame_Still_api_Job.A0 K w0 f0 A0 n0 c0 l1 A1 c1 x2 hR0 hc0 hR1 hL1 b1 hc1) (punctualsame_Still_api_Job.B0 K w0 f0 A0 n0 c0 l1 A1 c1 x2 hR0 hc0 hR1 hL1 b1 hc1) o x a w → Q x a w) : (subF Tryd.f17 [1, 1, 0, 1, 0, 0]).wp Tryd.prog Q a w := by
  obtain ⟨i1, hs⟩ : ∃ z, z = s := ⟨s, rfl⟩
  subst hs
  obtain ⟨hS, hF⟩ := hA
  replace hS : St w0 w [Own.blk b1 (.cells #[.int .i64 x2.Task, .int .i64 x2.At, .int .i64 x2.C, .int .i64 x2.Due, .int .i64 x2.P] 30 (0, 0))] := hS
  simp only [punctualsame_Still_api_Job.r0] at h
  refine (?_ : WE Tryd.prog 46 (subF Tryd.f17 [1, 1, 0, 1, 0, 0]) Q [(1, .slice A1 l1.length c1), (5, .pointer (some ⟨b1, 0, none⟩)), (15, .slice A0 f0.length c0), (16, .int .i64 (f0.length : Int)), (17, .int .i64 (i1 : Int))] w) a hF
  clear hF a
  refine we_seq fun K5 hK5 => ?_
  refine we_region [(0, 0)] rfl ?_
  refine ge_batch [0] (ans := []) (vs := [(18, .bool (decide ((i1 : Int) < (f0.length : Int))))]) (l := []) (by kernel_rfl) trivial ?_
  refine ge_nil fun a hF => hK5 _ _ ?_ a hF
  refine we_seq fun K6 hK6 => ?_
  by_cases hc2 : (i1 : Int) < (f0.length : Int)
  · rw [if_pos hc2] at h
    refine we_known (t := 18) (b := decide ((i1 : Int) < (f0.length : Int))) (v := true) (by kernel_rfl) (decide_eq_true hc2) ?_
    refine we_true (by kernel_rfl) ?_
    refine we_skip fun a hF => hK6 _ _ ?_ a hF
    refine we_seq fun K7 hK7 => ?_
    refine we_block ?_
    refine we_seq fun K8 hK8 => ?_
    refine we_region [(0, 0), (1, 0), (2, 0), (3, 1), (4, 0), (5, 2)] rfl ?_
    refine ge_batch [0] (ans := []) (vs := [(19, .int .i64 (i1 : Int))]) (l := []) (by kernel_rfl) trivial ?_
    rcases hx2 : f0[i1]? with _ | e1
    · rw [hx2] at h; cases h
    rw [hx2] at h
    simp only [] at h
    refine ge_index (d := 20) (ty := 0) (t := 22) (el := 30) (sz := 5) (m := f0.length) (c := c0) (x := (.tmp 15)) (y := (.tmp 17)) (A := A0) (k' := .i64) (j := (i1 : Int)) (jn := i1) (b0 := blkOf A0) (o0 := offOf A0) (by kernel_rfl) (by kernel_rfl) (by kernel_rfl) (by kernel_rfl) (by kernel_rfl) ((hS.rd hR0).eqSome (pos_of_get hx2)) rfl (lt_of_get hx2) ?_
    refine ge_batch [2] (ans := [.val (.int .i64 e1.Task), .val (.int .i64 e1.At), .val (.int .i64 e1.C), .val (.int .i64 e1.Due), .val (.int .i64 e1.P)]) (vs := [(21, .agg #[.int .i64 e1.Task, .int .i64 e1.At, .int .i64 e1.C, .int .i64 e1.Due, .int .i64 e1.P])]) (l := [.loaded ⟨blkOf A0, offOf A0 + i1 * 5, none⟩ (.int .i64 e1.Task), .loaded ⟨blkOf A0, offOf A0 + i1 * 5 + 1, none⟩ (.int .i64 e1.At), .loaded ⟨blkOf A0, offOf A0 + i1 * 5 + 2, none⟩ (.int .i64 e1.C), .loaded ⟨blkOf A0, offOf A0 + i1 * 5 + 3, none⟩ (.int .i64 e1.Due), .loaded ⟨blkOf A0, offOf A0 + i1 * 5 + 4, none⟩ (.int .i64 e1.P)]) (by kernel_rfl) ⟨RdL.cell (j := 0) (hS.rd hR0) hx2 rfl, RdL.cell (j := 1) (hS.rd hR0) hx2 rfl, RdL.cell (j := 2) (hS.rd hR0) hx2 rfl, RdL.cell (j := 3) (hS.rd hR0) hx2 rfl, RdL.cell (j := 4) (hS.rd hR0) hx2 rfl, trivial⟩ ?_
    refine ge_new (d := some 9) (o := .cells #[.int .i64 0, .int .i64 0, .int .i64 0, .int .i64 0, .int .i64 0] 30) (v := fun b => .pointer (some ⟨b, 0, none⟩)) hS (fun b => by kernel_rfl) fun b2 w2 hx3 hS2 => ?_
    refine ge_batch [4] (ans := []) (vs := [(8, .int .i64 (i1 : Int))]) (l := []) (by kernel_rfl) trivial ?_
    refine ge_set (b := b2) (j := 0) (cs := #[.int .i64 0, .int .i64 0, .int .i64 0, .int .i64 0, .int .i64 0]) (t := 30) (vs := [.int .i64 e1.Task, .int .i64 e1.At, .int .i64 e1.C, .int .i64 e1.Due, .int .i64 e1.P]) hS2 (by kernel_rfl) rfl rfl fun w3 hS3 => ?_
    have hS4 : St w0 w3 [Own.blk b2 (.cells #[.int .i64 e1.Task, .int .i64 e1.At, .int .i64 e1.C, .int .i64 e1.Due, .int .i64 e1.P] 30 (0, 0)), Own.blk b1 (.cells #[.int .i64 x2.Task, .int .i64 x2.At, .int .i64 x2.C, .int .i64 x2.Due, .int .i64 x2.P] 30 (0, 0))] := hS3
    refine ge_nil fun a hF => hK8 _ _ ?_ a hF
    refine we_seq fun K9 hK9 => ?_
    refine we_draws (by kernel_rfl) [(0, 0), (1, 0), (2, 0), (3, 0), (4, 0), (5, 0), (6, 0), (7, 0), (8, 0), (9, 0), (10, 0), (11, 0), (12, 0), (13, 0), (14, 0), (15, 0), (16, 0), (17, 0), (18, 0), (19, 0), (20, 0), (21, 0), (22, 0)] (by kernel_rfl) ?_
    have hS5 := hS4.drew
    refine ge_batch [0, 1, 2, 3, 4] (ans := []) (vs := [(26, .bool (decide ((i1 : Int) < (l1.length : Int)))), (25, .bool (decide ((i1 : Int) < (l1.length : Int)))), (24, .int .i64 (l1.length : Int)), (23, .slice A1 l1.length c1), (22, .int .i64 (i1 : Int))]) (l := []) (by kernel_rfl) trivial ?_
    by_cases hc3 : (i1 : Int) < (l1.length : Int)
    · rw [if_pos hc3] at h
      refine ge_known (t := 26) (b := decide ((i1 : Int) < (l1.length : Int))) (c := true) (by kernel_rfl) (decide_eq_true hc3) ?_
      refine ge_batch [5, 6, 7] (ans := [.val (.int .i64 e1.Task), .val (.int .i64 e1.At), .val (.int .i64 e1.C), .val (.int .i64 e1.Due), .val (.int .i64 e1.P)]) (vs := [(29, .int .i64 (i1 : Int)), (28, .slice A1 l1.length c1), (27, .agg #[.int .i64 e1.Task, .int .i64 e1.At, .int .i64 e1.C, .int .i64 e1.Due, .int .i64 e1.P])]) (l := [.loaded ⟨b2, 0, none⟩ (.int .i64 e1.Task), .loaded ⟨b2, 1, none⟩ (.int .i64 e1.At), .loaded ⟨b2, 2, none⟩ (.int .i64 e1.C), .loaded ⟨b2, 3, none⟩ (.int .i64 e1.Due), .loaded ⟨b2, 4, none⟩ (.int .i64 e1.P)]) (by kernel_rfl) ⟨hS5.cell 0 rfl rfl, hS5.cell 0 rfl rfl, hS5.cell 0 rfl rfl, hS5.cell 0 rfl rfl, hS5.cell 0 rfl rfl, trivial⟩ ?_
      rcases hx4 : l1[i1]? with _ | e2
      · rw [hx4] at h; cases h
      rw [hx4] at h
      simp only [] at h
      refine ge_index (d := 30) (ty := 0) (t := 22) (el := 30) (sz := 5) (m := l1.length) (c := c1) (x := (.tmp 28)) (y := (.tmp 29)) (A := A1) (k' := .i64) (j := (i1 : Int)) (jn := i1) (b0 := blkOf A1) (o0 := offOf A1) (by kernel_rfl) (by kernel_rfl) (by kernel_rfl) (by kernel_rfl) (by kernel_rfl) ((hS5.rd hR1).eqSome (pos_of_get hx4)) rfl (lt_of_get hx4) ?_
      refine ge_batch [9] (ans := [.val (.int .i64 e2.Task), .val (.int .i64 e2.At), .val (.int .i64 e2.C), .val (.int .i64 e2.Due), .val (.int .i64 e2.P)]) (vs := [(31, .agg #[.int .i64 e2.Task, .int .i64 e2.At, .int .i64 e2.C, .int .i64 e2.Due, .int .i64 e2.P])]) (l := [.loaded ⟨blkOf A1, offOf A1 + i1 * 5, none⟩ (.int .i64 e2.Task), .loaded ⟨blkOf A1, offOf A1 + i1 * 5 + 1, none⟩ (.int .i64 e2.At), .loaded ⟨blkOf A1, offOf A1 + i1 * 5 + 2, none⟩ (.int .i64 e2.C), .loaded ⟨blkOf A1, offOf A1 + i1 * 5 + 3, none⟩ (.int .i64 e2.Due), .loaded ⟨blkOf A1, offOf A1 + i1 * 5 + 4, none⟩ (.int .i64 e2.P)]) (by kernel_rfl) ⟨RdL.cell (j := 0) (hS5.rd hR1) hx4 rfl, RdL.cell (j := 1) (hS5.rd hR1) hx4 rfl, RdL.cell (j := 2) (hS5.rd hR1) hx4 rfl, RdL.cell (j := 3) (hS5.rd hR1) hx4 rfl, RdL.cell (j := 4) (hS5.rd hR1) hx4 rfl, trivial⟩ ?_
      refine ge_eqs (d := 32) (ty := 4) (op := .neq) (x := (.tmp 27)) (y := (.tmp 31)) (t := 30) (t2 := 30) (xs := #[.int .i64 e1.Task, .int .i64 e1.At, .int .i64 e1.C, .int .i64 e1.Due, .int .i64 e1.P]) (ys := #[.int .i64 e2.Task, .int .i64 e2.At, .int .i64 e2.C, .int .i64 e2.Due, .int .i64 e2.P]) (r := (SJob.eqb e1 e2)) (v := !(SJob.eqb e1 e2)) (by kernel_rfl) (by kernel_rfl) (by kernel_rfl) (by kernel_rfl) (by kernel_rfl) rfl ?_
      refine ge_batch [11, 12] (ans := []) (vs := [(34, .bool (!(SJob.eqb e1 e2))), (33, .bool (!(SJob.eqb e1 e2)))]) (l := []) (by kernel_rfl) trivial ?_
      by_cases hc4 : (SJob.eqb e1 e2) = true
      · rw [if_pos hc4] at h
        refine ge_known (t := 34) (b := !(SJob.eqb e1 e2)) (c := false) (by kernel_rfl) (congrArg (fun z => !z) hc4) ?_
        refine ge_batch [13, 14, 15, 16, 17] (ans := []) (vs := [(39, .bool (decide ((i1 : Int) ≥ (l1.length : Int)))), (38, .bool (decide ((i1 : Int) ≥ (l1.length : Int)))), (37, .int .i64 (l1.length : Int)), (36, .slice A1 l1.length c1), (35, .int .i64 (i1 : Int))]) (l := []) (by kernel_rfl) trivial ?_
        by_cases hc5 : (i1 : Int) ≥ (l1.length : Int)
        · rw [if_pos hc5] at h
          refine ge_known (t := 39) (b := decide ((i1 : Int) ≥ (l1.length : Int))) (c := true) (by kernel_rfl) (decide_eq_true hc5) ?_
          refine ge_batch [18, 19] (ans := [.val (.int .i64 e1.Task), .val (.int .i64 e1.At), .val (.int .i64 e1.C), .val (.int .i64 e1.Due), .val (.int .i64 e1.P), .val (.int .i64 x2.Task), .val (.int .i64 x2.At), .val (.int .i64 x2.C), .val (.int .i64 x2.Due), .val (.int .i64 x2.P)]) (vs := [(41, .agg #[.int .i64 x2.Task, .int .i64 x2.At, .int .i64 x2.C, .int .i64 x2.Due, .int .i64 x2.P]), (40, .agg #[.int .i64 e1.Task, .int .i64 e1.At, .int .i64 e1.C, .int .i64 e1.Due, .int .i64 e1.P])]) (l := [.loaded ⟨b2, 0, none⟩ (.int .i64 e1.Task), .loaded ⟨b2, 1, none⟩ (.int .i64 e1.At), .loaded ⟨b2, 2, none⟩ (.int .i64 e1.C), .loaded ⟨b2, 3, none⟩ (.int .i64 e1.Due), .loaded ⟨b2, 4, none⟩ (.int .i64 e1.P), .loaded ⟨b1, 0, none⟩ (.int .i64 x2.Task), .loaded ⟨b1, 1, none⟩ (.int .i64 x2.At), .loaded ⟨b1, 2, none⟩ (.int .i64 x2.C), .loaded ⟨b1, 3, none⟩ (.int .i64 x2.Due), .loaded ⟨b1, 4, none⟩ (.int .i64 x2.P)]) (by kernel_rfl) ⟨hS5.cell 0 rfl rfl, hS5.cell 0 rfl rfl, hS5.cell 0 rfl rfl, hS5.cell 0 rfl rfl, hS5.cell 0 rfl rfl, hS5.cell 1 rfl rfl, hS5.cell 1 rfl rfl, hS5.cell 1 rfl rfl, hS5.cell 1 rfl rfl, hS5.cell 1 rfl rfl, trivial⟩ ?_
          refine ge_eqs (d := 42) (ty := 4) (op := .neq) (x := (.tmp 40)) (y := (.tmp 41)) (t := 30) (t2 := 30) (xs := #[.int .i64 e1.Task, .int .i64 e1.At, .int .i64 e1.C, .int .i64 e1.Due, .int .i64 e1.P]) (ys := #[.int .i64 x2.Task, .int .i64 x2.At, .int .i64 x2.C, .int .i64 x2.Due, .int .i64 x2.P]) (r := (SJob.eqb e1 x2)) (v := !(SJob.eqb e1 x2)) (by kernel_rfl) (by kernel_rfl) (by kernel_rfl) (by kernel_rfl) (by kernel_rfl) rfl ?_
          refine ge_batch [21, 22] (ans := []) (vs := [(44, .bool (!(SJob.eqb e1 x2))), (43, .bool (!(SJob.eqb e1 x2)))]) (l := []) (by kernel_rfl) trivial ?_
          refine ge_nil fun a hF => hK9 _ _ ?_ a hF
          by_cases hc6 : (SJob.eqb e1 x2) = true
          · rw [if_pos hc6] at h
            refine we_known (t := 44) (b := !(SJob.eqb e1 x2)) (v := false) (by kernel_rfl) (congrArg (fun z => !z) hc6) ?_
            refine we_false (by kernel_rfl) ?_
            refine we_skip fun a hF => hK7 _ _ ?_ a hF
            refine we_region [(0, 0), (1, 0)] rfl ?_
            refine ge_addn (d := 45) (ty := 3) (x := (.tmp 17)) (y := (.const (.int .i64 1))) (t := 3) (t2 := 3) (k := .i64) (m := i1) (by kernel_rfl) (by kernel_rfl) (by kernel_rfl) (by have h0 := hR0.small; omega) ?_
            refine ge_batch [1] (ans := []) (vs := [(17, .int .i64 ((i1 + 1 : Nat) : Int))]) (l := []) (by kernel_rfl) trivial ?_
            have hS6 := hS5.bring 1 rfl
            have hS7 := hS6.takeN 1
            obtain rfl := Option.some.inj h
            exact ge_nil fun a hF => hQ _ _ _ (Outs.again ⟨hS7, hF.weaken ⟨by kernel_rfl, by kernel_rfl, by kernel_rfl, by kernel_rfl, by kernel_rfl, trivial⟩⟩)
          · rw [if_neg hc6] at h
            refine we_known (t := 44) (b := !(SJob.eqb e1 x2)) (v := true) (by kernel_rfl) (congrArg (fun z => !z) (Bool.eq_false_iff.2 hc6)) ?_
            refine we_true (by kernel_rfl) ?_
            refine we_seq fun K10 hK10 => ?_
            refine we_region [(0, 0)] rfl ?_
            refine ge_batch [0] (ans := []) (vs := [(6, .bool false)]) (l := []) (by kernel_rfl) trivial ?_
            refine ge_nil fun a hF => hK10 _ _ ?_ a hF
            have hS8 := hS5.takeN 0
            obtain rfl := Option.some.inj h
            exact we_ret fun a hF => hQ _ _ _ (Outs.out nofun (Exits.on ⟨rfl, (post_ret (rs := [.tmp 6]) (ans := []) (vs := [.bool false]) (l := []) rfl (by kernel_rfl) trivial ⟨rfl, hS8⟩) a hF⟩))
        · rw [if_neg hc5] at h
          refine ge_known (t := 39) (b := decide ((i1 : Int) ≥ (l1.length : Int))) (c := false) (by kernel_rfl) (decide_eq_false hc5) ?_
          refine ge_batch [18, 19, 20, 21, 22] (ans := []) (vs := [(44, .bool false), (43, .bool false), (42, undef), (41, undef), (40, undef)]) (l := []) (by kernel_rfl) trivial ?_
          refine ge_nil fun a hF => hK9 _ _ ?_ a hF
          refine we_false (by kernel_rfl) ?_
          refine we_skip fun a hF => hK7 _ _ ?_ a hF
          refine we_region [(0, 0), (1, 0)] rfl ?_
          refine ge_addn (d := 45) (ty := 3) (x := (.tmp 17)) (y := (.const (.int .i64 1))) (t := 3) (t2 := 3) (k := .i64) (m := i1) (by kernel_rfl) (by kernel_rfl) (by kernel_rfl) (by have h0 := hR0.small; omega) ?_
          refine ge_batch [1] (ans := []) (vs := [(17, .int .i64 ((i1 + 1 : Nat) : Int))]) (l := []) (by kernel_rfl) trivial ?_
          have hS9 := hS5.bring 1 rfl
          have hS10 := hS9.takeN 1
          obtain rfl := Option.some.inj h
          exact ge_nil fun a hF => hQ _ _ _ (Outs.again ⟨hS10, hF.weaken ⟨by kernel_rfl, by kernel_rfl, by kernel_rfl, by kernel_rfl, by kernel_rfl, trivial⟩⟩)
      · rw [if_neg hc4] at h
        refine ge_known (t := 34) (b := !(SJob.eqb e1 e2)) (c := true) (by kernel_rfl) (congrArg (fun z => !z) (Bool.eq_false_iff.2 hc4)) ?_
        refine ge_batch [13, 14, 15, 16, 17, 18, 19, 20, 21, 22] (ans := []) (vs := [(44, .bool true), (43, undef), (42, undef), (41, undef), (40, undef), (39, undef), (38, undef), (37, undef), (36, undef), (35, undef)]) (l := []) (by kernel_rfl) trivial ?_
        refine ge_nil fun a hF => hK9 _ _ ?_ a hF
        refine we_true (by kernel_rfl) ?_
        refine we_seq fun K11 hK11 => ?_
        refine we_region [(0, 0)] rfl ?_
        refine ge_batch [0] (ans := []) (vs := [(6, .bool false)]) (l := []) (by kernel_rfl) trivial ?_
        refine ge_nil fun a hF => hK11 _ _ ?_ a hF
        have hS11 := hS5.takeN 0
        obtain rfl := Option.some.inj h
        exact we_ret fun a hF => hQ _ _ _ (Outs.out nofun (Exits.on ⟨rfl, (post_ret (rs := [.tmp 6]) (ans := []) (vs := [.bool false]) (l := []) rfl (by kernel_rfl) trivial ⟨rfl, hS11⟩) a hF⟩))
    · rw [if_neg hc3] at h
      refine ge_known (t := 26) (b := decide ((i1 : Int) < (l1.length : Int))) (c := false) (by kernel_rfl) (decide_eq_false hc3) ?_
      refine ge_batch [5, 6, 7, 8, 9, 10, 11, 12, 13, 14, 15, 16, 17] (ans := []) (vs := [(39, .bool (decide ((i1 : Int) ≥ (l1.length : Int)))), (38, .bool (decide ((i1 : Int) ≥ (l1.length : Int)))), (37, .int .i64 (l1.length : Int)), (36, .slice A1 l1.length c1), (35, .int .i64 (i1 : Int)), (34, .bool false), (33, .bool false), (32, undef), (31, undef), (30, undef), (29, undef), (28, undef), (27, undef)]) (l := []) (by kernel_rfl) trivial ?_
      by_cases hc7 : (i1 : Int) ≥ (l1.length : Int)
      · rw [if_pos hc7] at h
        refine ge_known (t := 39) (b := decide ((i1 : Int) ≥ (l1.length : Int))) (c := true) (by kernel_rfl) (decide_eq_true hc7) ?_
        refine ge_batch [18, 19] (ans := [.val (.int .i64 e1.Task), .val (.int .i64 e1.At), .val (.int .i64 e1.C), .val (.int .i64 e1.Due), .val (.int .i64 e1.P), .val (.int .i64 x2.Task), .val (.int .i64 x2.At), .val (.int .i64 x2.C), .val (.int .i64 x2.Due), .val (.int .i64 x2.P)]) (vs := [(41, .agg #[.int .i64 x2.Task, .int .i64 x2.At, .int .i64 x2.C, .int .i64 x2.Due, .int .i64 x2.P]), (40, .agg #[.int .i64 e1.Task, .int .i64 e1.At, .int .i64 e1.C, .int .i64 e1.Due, .int .i64 e1.P])]) (l := [.loaded ⟨b2, 0, none⟩ (.int .i64 e1.Task), .loaded ⟨b2, 1, none⟩ (.int .i64 e1.At), .loaded ⟨b2, 2, none⟩ (.int .i64 e1.C), .loaded ⟨b2, 3, none⟩ (.int .i64 e1.Due), .loaded ⟨b2, 4, none⟩ (.int .i64 e1.P), .loaded ⟨b1, 0, none⟩ (.int .i64 x2.Task), .loaded ⟨b1, 1, none⟩ (.int .i64 x2.At), .loaded ⟨b1, 2, none⟩ (.int .i64 x2.C), .loaded ⟨b1, 3, none⟩ (.int .i64 x2.Due), .loaded ⟨b1, 4, none⟩ (.int .i64 x2.P)]) (by kernel_rfl) ⟨hS5.cell 0 rfl rfl, hS5.cell 0 rfl rfl, hS5.cell 0 rfl rfl, hS5.cell 0 rfl rfl, hS5.cell 0 rfl rfl, hS5.cell 1 rfl rfl, hS5.cell 1 rfl rfl, hS5.cell 1 rfl rfl, hS5.cell 1 rfl rfl, hS5.cell 1 rfl rfl, trivial⟩ ?_
        refine ge_eqs (d := 42) (ty := 4) (op := .neq) (x := (.tmp 40)) (y := (.tmp 41)) (t := 30) (t2 := 30) (xs := #[.int .i64 e1.Task, .int .i64 e1.At, .int .i64 e1.C, .int .i64 e1.Due, .int .i64 e1.P]) (ys := #[.int .i64 x2.Task, .int .i64 x2.At, .int .i64 x2.C, .int .i64 x2.Due, .int .i64 x2.P]) (r := (SJob.eqb e1 x2)) (v := !(SJob.eqb e1 x2)) (by kernel_rfl) (by kernel_rfl) (by kernel_rfl) (by kernel_rfl) (by kernel_rfl) rfl ?_
        refine ge_batch [21, 22] (ans := []) (vs := [(44, .bool (!(SJob.eqb e1 x2))), (43, .bool (!(SJob.eqb e1 x2)))]) (l := []) (by kernel_rfl) trivial ?_
        refine ge_nil fun a hF => hK9 _ _ ?_ a hF
        by_cases hc8 : (SJob.eqb e1 x2) = true
        · rw [if_pos hc8] at h
          refine we_known (t := 44) (b := !(SJob.eqb e1 x2)) (v := false) (by kernel_rfl) (congrArg (fun z => !z) hc8) ?_
          refine we_false (by kernel_rfl) ?_
          refine we_skip fun a hF => hK7 _ _ ?_ a hF
          refine we_region [(0, 0), (1, 0)] rfl ?_
          refine ge_addn (d := 45) (ty := 3) (x := (.tmp 17)) (y := (.const (.int .i64 1))) (t := 3) (t2 := 3) (k := .i64) (m := i1) (by kernel_rfl) (by kernel_rfl) (by kernel_rfl) (by have h0 := hR0.small; omega) ?_
          refine ge_batch [1] (ans := []) (vs := [(17, .int .i64 ((i1 + 1 : Nat) : Int))]) (l := []) (by kernel_rfl) trivial ?_
          have hS12 := hS5.bring 1 rfl
          have hS13 := hS12.takeN 1
          obtain rfl := Option.some.inj h
          exact ge_nil fun a hF => hQ _ _ _ (Outs.again ⟨hS13, hF.weaken ⟨by kernel_rfl, by kernel_rfl, by kernel_rfl, by kernel_rfl, by kernel_rfl, trivial⟩⟩)
        · rw [if_neg hc8] at h
          refine we_known (t := 44) (b := !(SJob.eqb e1 x2)) (v := true) (by kernel_rfl) (congrArg (fun z => !z) (Bool.eq_false_iff.2 hc8)) ?_
          refine we_true (by kernel_rfl) ?_
          refine we_seq fun K12 hK12 => ?_
          refine we_region [(0, 0)] rfl ?_
          refine ge_batch [0] (ans := []) (vs := [(6, .bool false)]) (l := []) (by kernel_rfl) trivial ?_
          refine ge_nil fun a hF => hK12 _ _ ?_ a hF
          have hS14 := hS5.takeN 0
          obtain rfl := Option.some.inj h
          exact we_ret fun a hF => hQ _ _ _ (Outs.out nofun (Exits.on ⟨rfl, (post_ret (rs := [.tmp 6]) (ans := []) (vs := [.bool false]) (l := []) rfl (by kernel_rfl) trivial ⟨rfl, hS14⟩) a hF⟩))
      · rw [if_neg hc7] at h
        refine ge_known (t := 39) (b := decide ((i1 : Int) ≥ (l1.length : Int))) (c := false) (by kernel_rfl) (decide_eq_false hc7) ?_
        refine ge_batch [18, 19, 20, 21, 22] (ans := []) (vs := [(44, .bool false), (43, .bool false), (42, undef), (41, undef), (40, undef)]) (l := []) (by kernel_rfl) trivial ?_
        refine ge_nil fun a hF => hK9 _ _ ?_ a hF
        refine we_false (by kernel_rfl) ?_
        refine we_skip fun a hF => hK7 _ _ ?_ a hF
        refine we_region [(0, 0), (1, 0)] rfl ?_
        refine ge_addn (d := 45) (ty := 3) (x := (.tmp 17)) (y := (.const (.int .i64 1))) (t := 3) (t2 := 3) (k := .i64) (m := i1) (by kernel_rfl) (by kernel_rfl) (by kernel_rfl) (by have h0 := hR0.small; omega) ?_
        refine ge_batch [1] (ans := []) (vs := [(17, .int .i64 ((i1 + 1 : Nat) : Int))]) (l := []) (by kernel_rfl) trivial ?_
        have hS15 := hS5.bring 1 rfl
        have hS16 := hS15.takeN 1
        obtain rfl := Option.some.inj h
        exact ge_nil fun a hF => hQ _ _ _ (Outs.again ⟨hS16, hF.weaken ⟨by kernel_rfl, by kernel_rfl, by kernel_rfl, by kernel_rfl, by kernel_rfl, trivial⟩⟩)
  · rw [if_neg hc2] at h
    refine we_known (t := 18) (b := decide ((i1 : Int) < (f0.length : Int))) (v := false) (by kernel_rfl) (decide_eq_false hc2) ?_
    refine we_false (by kernel_rfl) ?_
    have hS17 := hS.takeN 0
    obtain rfl := Option.some.inj h
    exact we_exit fun a hF => hQ _ _ _ (Outs.out nofun (Exits.here ⟨hS17, hF.weaken trivial⟩))
theorem punctualsame_Still_api_Job_ok (K : Nat) (f0 : List SJob) (A0 : Option Addr) (n0 : Nat) (c0 : Nat) (l1 : List SJob) (A1 : Option Addr) (c1 : Nat) (x2 : SJob) (w0 : World) (hR0 : RdL w0 A0 f0) (hc0 : f0.length ≤ c0) (hR1 : RdL w0 A1 l1) (hL1 : l1.length ≤ c1) (r : Bool) (h : punctualsame_Still_api_Job.f K f0 l1 x2 = some r) :
    Calls Tryd.prog 17 #[.slice A0 n0 c0, .slice A1 l1.length c1, .agg #[.int .i64 x2.Task, .int .i64 x2.At, .int .i64 x2.C, .int .i64 x2.Due, .int .i64 x2.P]] w0 (punctualsame_Still_api_Job.Post w0 r) := by
  have hS := St.start w0
  unfold punctualsame_Still_api_Job.f at h
  refine calls_enter (n := 46) (args := [.slice A0 n0 c0, .slice A1 l1.length c1, .agg #[.int .i64 x2.Task, .int .i64 x2.At, .int .i64 x2.C, .int .i64 x2.Due, .int .i64 x2.P]]) (fn := Tryd.f17) rfl rfl rfl rfl ?_
  show WE _ _ _ _ [(0, .slice A0 n0 c0), (1, .slice A1 l1.length c1), (2, .agg #[.int .i64 x2.Task, .int .i64 x2.At, .int .i64 x2.C, .int .i64 x2.Due, .int .i64 x2.P])] _
  refine we_seq fun K1 hK1 => ?_
  refine we_region [(0, 1), (1, 0)] rfl ?_
  refine ge_new (d := some 5) (o := .cells #[.int .i64 x2.Task, .int .i64 x2.At, .int .i64 x2.C, .int .i64 x2.Due, .int .i64 x2.P] 30) (v := fun b => .pointer (some ⟨b, 0, none⟩)) hS (fun b => by kernel_rfl) fun b1 w1 hx1 hS1 => ?_
  refine ge_batch [1] (ans := []) (vs := [(6, .bool false)]) (l := []) (by kernel_rfl) trivial ?_
  refine ge_nil fun a hF => hK1 _ _ ?_ a hF
  refine we_seq fun K2 hK2 => ?_
  refine we_region [(0, 0), (1, 0), (2, 0), (3, 0), (4, 0), (5, 0)] rfl ?_
  refine ge_batch [0, 1, 2, 3] (ans := []) (vs := [(13, .int .i64 (IntKind.i64.wrap ((l1.length : Int) + 3))), (12, .int .i64 (l1.length : Int)), (11, .slice A1 l1.length c1), (10, .slice A0 n0 c0)]) (l := []) (by kernel_rfl) trivial ?_
  by_cases hc1 : (IntKind.i64.wrap ((l1.length : Int) + 3)) = (f0.length : Int)
  · rw [if_pos hc1] at h
    refine ge_sliceHi (d := 14) (ty := 22) (t := 22) (el := 30) (sz := 5) (m := n0) (c := c0) (hn := f0.length) (x := (.tmp 10)) (y := (.tmp 13)) (A := A0) (k' := .i64) (hi := (IntKind.i64.wrap ((l1.length : Int) + 3))) (by kernel_rfl) (by kernel_rfl) (by kernel_rfl) hc1 (by kernel_rfl) (by kernel_rfl) hc0 ?_
    refine ge_batch [5] (ans := []) (vs := [(7, .slice A0 f0.length c0)]) (l := []) (by kernel_rfl) trivial ?_
    refine ge_nil fun a hF => hK2 _ _ ?_ a hF
    refine we_seq fun K3 hK3 => ?_
    refine we_seq fun K4 hK4 => ?_
    refine we_region [(0, 0), (1, 0), (2, 0)] rfl ?_
    refine ge_batch [0, 1, 2] (ans := []) (vs := [(17, .int .i64 0), (16, .int .i64 (f0.length : Int)), (15, .slice A0 f0.length c0)]) (l := []) (by kernel_rfl) trivial ?_
    refine ge_nil fun a hF => hK4 _ _ ?_ a hF
    refine we_block ?_
    rcases hq1 : iter (punctualsame_Still_api_Job.r0 f0 l1 x2) K 0 with _ | (_ | rr1)
    · rw [hq1] at h; cases h
    · rw [hq1] at h
      simp only [] at h
      refine we_iter (A := punctualsame_Still_api_Job.A0 K w0 f0 A0 n0 c0 l1 A1 c1 x2 hR0 hc0 hR1 hL1 b1 hc1) (B := punctualsame_Still_api_Job.B0 K w0 f0 A0 n0 c0 l1 A1 c1 x2 hR0 hc0 hR1 hL1 b1 hc1) hq1 (fun a hF => ⟨hS1, hF.weaken ⟨by kernel_rfl, by kernel_rfl, by kernel_rfl, by kernel_rfl, by kernel_rfl, trivial⟩⟩) (fun s o hf a w hA Q hQ => punctualsame_Still_api_Job_r0 K w0 f0 A0 n0 c0 l1 A1 c1 x2 hR0 hc0 hR1 hL1 b1 hc1 s o hf a w hA Q hQ) ?_
      rintro _ a w4 _ ⟨rfl, hS18, hF⟩
      replace hS18 : St w0 w4 [] := hS18
      refine hK3 [] w4 ?_ a hF
      refine we_seq fun K13 hK13 => ?_
      refine we_region [(0, 0)] rfl ?_
      refine ge_batch [0] (ans := []) (vs := [(6, .bool true)]) (l := []) (by kernel_rfl) trivial ?_
      refine ge_nil fun a hF => hK13 _ _ ?_ a hF
      obtain rfl := Option.some.inj h
      exact we_ret (post_ret (rs := [.tmp 6]) (ans := []) (vs := [.bool true]) (l := []) rfl (by kernel_rfl) trivial ⟨rfl, hS18⟩)
    · rw [hq1] at h
      simp only [] at h
      refine we_iter (A := punctualsame_Still_api_Job.A0 K w0 f0 A0 n0 c0 l1 A1 c1 x2 hR0 hc0 hR1 hL1 b1 hc1) (B := punctualsame_Still_api_Job.B0 K w0 f0 A0 n0 c0 l1 A1 c1 x2 hR0 hc0 hR1 hL1 b1 hc1) hq1 (fun a hF => ⟨hS1, hF.weaken ⟨by kernel_rfl, by kernel_rfl, by kernel_rfl, by kernel_rfl, by kernel_rfl, trivial⟩⟩) (fun s o hf a w hA Q hQ => punctualsame_Still_api_Job_r0 K w0 f0 A0 n0 c0 l1 A1 c1 x2 hR0 hc0 hR1 hL1 b1 hc1 s o hf a w hA Q hQ) ?_
      rintro _ a w1 _ ⟨rfl, hb⟩
      obtain rfl := Option.some.inj h
      exact hb
  · rw [if_neg hc1] at h
    cases h

/-! punctual/punctuallaw.EdfJudges -/
abbrev EdfJudges.Post (w0 : World) (r : Bool) (e : Ending) (w : World) : Prop := e = .returned (.bool r) ∧ St w0 w []
def EdfJudges.p0 (K : Nat) : Option (Unit ⊕ Bool) :=
    match edf_Judge.f K ([(⟨0, 1, 2, 4, 0⟩ : SJob), (⟨0, 2, 2, 4, 0⟩ : SJob)] : List SJob) with
    | none => none
    | some r1 =>
      if r1.1 = 1 then
        if r1.2.1 = 4 then
          if (SFault.eqb r1.2.2 (punctualref_F.f 13 0)) = true then
            some (.inl ())
          else
            some (.inr false)
        else
          some (.inr false)
      else
        some (.inr false)
def EdfJudges.p1 (l0 : List SJob) : Option (Unit ⊕ Bool) :=
    if (few.f (l0.length : Int)) = true then
      if (l0.length : Int) > 100 then
        if (l0.length : Int) ≤ 4000 then
          some (.inr true)
        else
          some (.inl ())
      else
        some (.inl ())
    else
      some (.inr true)
def EdfJudges.f (K : Nat) (l0 : List SJob) : Option Bool :=
  match EdfJudges.p0 K with
  | none => none
  | some (.inl _) =>
    match EdfJudges.p1 l0 with
    | none => none
    | some (.inl _) =>
      match punctualsame_Lend_api_Job.f l0 (⟨(-9), 0, 0, 0, 0⟩ : SJob) with
      | none => none
      | some _ =>
        match edf_Judge.f K l0 with
        | none => none
        | some r3 =>
          match punctualref_JudgeOf.f K l0 with
          | none => none
          | some r4 =>
            if r3.1 = r4.1 then
              if r3.2.1 = r4.2.1 then
                if (SFault.eqb r3.2.2 r4.2.2) = true then
                  match punctualsame_Still_api_Job.f K (l0 ++ [(⟨(-9), 0, 0, 0, 0⟩ : SJob), (⟨(-9), 0, 0, 0, 0⟩ : SJob), (⟨(-9), 0, 0, 0, 0⟩ : SJob)]) l0 (⟨(-9), 0, 0, 0, 0⟩ : SJob) with
                  | none => none
                  | some r5 =>
                    some r5
                else
                  some false
              else
                some false
            else
              some false
    | some (.inr rr1) =>
      some rr1
  | some (.inr rr2) =>
    some rr2
abbrev EdfJudges.A0 (K : Nat) (w0 : World) (l0 : List SJob) (A0 : Option Addr) (c0 : Nat) (hR0 : RdL w0 A0 l0) (hL0 : l0.length ≤ c0) (hG0 : Glob w0 0 [.int .i64 (-9), .int .i64 0, .int .i64 0, .int .i64 0, .int .i64 0]) : Unit → Act → World → Prop := fun (s : Unit) a w => St w0 w [] ∧ Frm 80 a [(0, .slice A0 l0.length c0)]
abbrev EdfJudges.B0 (K : Nat) (w0 : World) (l0 : List SJob) (A0 : Option Addr) (c0 : Nat) (hR0 : RdL w0 A0 l0) (hL0 : l0.length ≤ c0) (hG0 : Glob w0 0 [.int .i64 (-9), .int .i64 0, .int .i64 0, .int .i64 0, .int .i64 0]) : Bool → Exit → Act → World → Prop := Rets Tryd.prog Tryd.f10 (EdfJudges.Post w0)
theorem EdfJudges_p0 (K : Nat) (w0 : World) (l0 : List SJob) (A0 : Option Addr) (c0 : Nat) (hR0 : RdL w0 A0 l0) (hL0 : l0.length ≤ c0) (hG0 : Glob w0 0 [.int .i64 (-9), .int .i64 0, .int .i64 0, .int .i64 0, .int .i64 0]) (o : Unit ⊕ Bool) (h : EdfJudges.p0 K = some o) (w : World) (hS : St w0 w []) (Q : Exit → Act → World → Prop) (hQ : ∀ x a w, Outs (EdfJudges.A0 K w0 l0 A0 c0 hR0 hL0 hG0) (EdfJudges.B0 K w0 l0 A0 c0 hR0 hL0 hG0) o x a w → Q x a w) : WE Tryd.prog 80 (subF Tryd.f10 [1, 0]) Q [(0, .slice A0 l0.length c0), (2, .bool false)] w := by
  simp only [EdfJudges.p0] at h
  refine we_seq fun K3 hK3 => ?_
  refine we_region [(0, 0), (1, 0), (2, 1), (3, 1), (4, 0), (5, 0), (6, 0), (7, 0), (8, 1), (9, 0), (10, 0), (11, 2)] rfl ?_
  refine ge_batch [0, 1] (ans := []) (vs := [(15, .agg #[.int .i64 0, .int .i64 2, .int .i64 2, .int .i64 4, .int .i64 0]), (14, .agg #[.int .i64 0, .int .i64 1, .int .i64 2, .int .i64 4, .int .i64 0])]) (l := []) (by kernel_rfl) trivial ?_
  refine ge_new (d := some 16) (o := .cells #[.int .i64 0, .int .i64 1, .int .i64 2, .int .i64 4, .int .i64 0, .int .i64 0, .int .i64 2, .int .i64 2, .int .i64 4, .int .i64 0] 30) (v := fun b => .slice (some ⟨b, 0, none⟩) 2 2) hS (fun b => by kernel_rfl) fun b1 w1 hx1 hS1 => ?_
  rcases hq1 : edf_Judge.f K ([(⟨0, 1, 2, 4, 0⟩ : SJob), (⟨0, 2, 2, 4, 0⟩ : SJob)] : List SJob) with _ | r1
  · rw [hq1] at h; cases h
  rw [hq1] at h
  simp only [] at h
  refine ge_call (d := some 17) (f := 59) (args := #[.slice (some ⟨b1, 0, none⟩) 2 2]) (by kernel_rfl) (edf_Judge_ok K ([(⟨0, 1, 2, 4, 0⟩ : SJob), (⟨0, 2, 2, 4, 0⟩ : SJob)] : List SJob) (some ⟨b1, 0, none⟩) 2 _ (hS1.rdBlk 0 ([(⟨0, 1, 2, 4, 0⟩ : SJob), (⟨0, 2, 2, 4, 0⟩ : SJob)] : List SJob) rfl rfl rfl) (Nat.le_refl _) _ hq1) ?_
  rintro _ w2 ⟨rfl, hS2⟩
  refine ⟨_, rfl, hS2.below, ?_⟩
  have hS3 := hS1.call hS2
  refine ge_batch [4, 5, 6, 7] (ans := []) (vs := [(20, .agg #[.int .i64 r1.2.2.Code, .int .i64 r1.2.2.At]), (19, .int .i64 r1.2.1), (18, .int .i64 r1.1), (13, .tuple #[.int .i64 r1.1, .int .i64 r1.2.1, .agg #[.int .i64 r1.2.2.Code, .int .i64 r1.2.2.At]])]) (l := []) (by kernel_rfl) trivial ?_
  refine ge_new (d := some 5) (o := .cells #[.int .i64 0, .int .i64 0] 26) (v := fun b => .pointer (some ⟨b, 0, none⟩)) hS3 (fun b => by kernel_rfl) fun b2 w3 hx2 hS4 => ?_
  refine ge_batch [9, 10] (ans := []) (vs := [(4, .int .i64 r1.2.1), (3, .int .i64 r1.1)]) (l := []) (by kernel_rfl) trivial ?_
  refine ge_set (b := b2) (j := 0) (cs := #[.int .i64 0, .int .i64 0]) (t := 26) (vs := [.int .i64 r1.2.2.Code, .int .i64 r1.2.2.At]) hS4 (by kernel_rfl) rfl rfl fun w4 hS5 => ?_
  have hS6 : St w0 w4 [Own.blk b2 (.cells #[.int .i64 r1.2.2.Code, .int .i64 r1.2.2.At] 26 (0, 0)), Own.blk b1 (.cells #[.int .i64 0, .int .i64 1, .int .i64 2, .int .i64 4, .int .i64 0, .int .i64 0, .int .i64 2, .int .i64 2, .int .i64 4, .int .i64 0] 30 (0, 0))] := hS5
  refine ge_nil fun a hF => hK3 _ _ ?_ a hF
  refine we_seq fun K4 hK4 => ?_
  refine we_draws (by kernel_rfl) [(0, 0), (1, 0), (2, 0), (3, 0), (4, 0), (5, 0), (6, 0), (7, 0), (8, 1), (9, 0), (10, 0)] (by kernel_rfl) ?_
  have hS7 := hS6.drew
  refine ge_batch [0, 1, 2] (ans := []) (vs := [(23, .bool (r1.1 != 1)), (22, .bool (r1.1 != 1)), (21, .int .i64 r1.1)]) (l := []) (by kernel_rfl) trivial ?_
  by_cases hc1 : r1.1 = 1
  · rw [if_pos hc1] at h
    refine ge_known (t := 23) (b := (r1.1 != 1)) (c := false) (by kernel_rfl) (bne_eq_false_iff_eq.2 hc1) ?_
    refine ge_batch [3, 4, 5, 6] (ans := []) (vs := [(27, .bool (r1.2.1 != 4)), (26, .bool (r1.2.1 != 4)), (25, .bool (r1.2.1 != 4)), (24, .int .i64 r1.2.1)]) (l := []) (by kernel_rfl) trivial ?_
    by_cases hc2 : r1.2.1 = 4
    · rw [if_pos hc2] at h
      refine ge_known (t := 27) (b := (r1.2.1 != 4)) (c := false) (by kernel_rfl) (bne_eq_false_iff_eq.2 hc2) ?_
      refine ge_batch [7] (ans := [.val (.int .i64 r1.2.2.Code), .val (.int .i64 r1.2.2.At)]) (vs := [(28, .agg #[.int .i64 r1.2.2.Code, .int .i64 r1.2.2.At])]) (l := [.loaded ⟨b2, 0, none⟩ (.int .i64 r1.2.2.Code), .loaded ⟨b2, 1, none⟩ (.int .i64 r1.2.2.At)]) (by kernel_rfl) ⟨hS7.cell 0 rfl rfl, hS7.cell 0 rfl rfl, trivial⟩ ?_
      refine ge_call (d := some 29) (f := 21) (args := #[.int .i64 13, .int .i64 0]) (by kernel_rfl) (punctualref_F_ok 13 0 _ _ rfl) ?_
      rintro _ w5 ⟨rfl, hS8⟩
      refine ⟨_, rfl, hS8.below, ?_⟩
      have hS9 := hS7.call hS8
      refine ge_eqs (d := 30) (ty := 4) (op := .neq) (x := (.tmp 28)) (y := (.tmp 29)) (t := 26) (t2 := 26) (xs := #[.int .i64 r1.2.2.Code, .int .i64 r1.2.2.At]) (ys := #[.int .i64 ((punctualref_F.f 13 0).Code), .int .i64 ((punctualref_F.f 13 0).At)]) (r := (SFault.eqb r1.2.2 (punctualref_F.f 13 0))) (v := !(SFault.eqb r1.2.2 (punctualref_F.f 13 0))) (by kernel_rfl) (by kernel_rfl) (by kernel_rfl) (by kernel_rfl) (by kernel_rfl) rfl ?_
      refine ge_batch [10] (ans := []) (vs := [(31, .bool (!(SFault.eqb r1.2.2 (punctualref_F.f 13 0))))]) (l := []) (by kernel_rfl) trivial ?_
      refine ge_nil fun a hF => hK4 _ _ ?_ a hF
      by_cases hc3 : (SFault.eqb r1.2.2 (punctualref_F.f 13 0)) = true
      · rw [if_pos hc3] at h
        refine we_known (t := 31) (b := !(SFault.eqb r1.2.2 (punctualref_F.f 13 0))) (v := false) (by kernel_rfl) (congrArg (fun z => !z) hc3) ?_
        refine we_false (by kernel_rfl) ?_
        have hS10 := hS9.takeN 0
        obtain rfl := Option.some.inj h
        exact we_skip fun a hF => hQ _ _ _ (Outs.again ⟨hS10, hF.weaken ⟨by kernel_rfl, trivial⟩⟩)
      · rw [if_neg hc3] at h
        refine we_known (t := 31) (b := !(SFault.eqb r1.2.2 (punctualref_F.f 13 0))) (v := true) (by kernel_rfl) (congrArg (fun z => !z) (Bool.eq_false_iff.2 hc3)) ?_
        refine we_true (by kernel_rfl) ?_
        refine we_seq fun K5 hK5 => ?_
        refine we_region [(0, 0)] rfl ?_
        refine ge_batch [0] (ans := []) (vs := [(2, .bool false)]) (l := []) (by kernel_rfl) trivial ?_
        refine ge_nil fun a hF => hK5 _ _ ?_ a hF
        have hS11 := hS9.takeN 0
        obtain rfl := Option.some.inj h
        exact we_ret fun a hF => hQ _ _ _ (Outs.out nofun ⟨rfl, (post_ret (rs := [.tmp 2]) (ans := []) (vs := [.bool false]) (l := []) rfl (by kernel_rfl) trivial ⟨rfl, hS11⟩) a hF⟩)
    · rw [if_neg hc2] at h
      refine ge_known (t := 27) (b := (r1.2.1 != 4)) (c := true) (by kernel_rfl) (bne_iff_ne.2 hc2) ?_
      refine ge_batch [7] (ans := []) (vs := [(28, undef)]) (l := []) (by kernel_rfl) trivial ?_
      refine ge_off rfl rfl rfl (by kernel_rfl) ?_
      refine ge_batch [9, 10] (ans := []) (vs := [(31, .bool true), (30, undef)]) (l := []) (by kernel_rfl) trivial ?_
      refine ge_nil fun a hF => hK4 _ _ ?_ a hF
      refine we_true (by kernel_rfl) ?_
      refine we_seq fun K6 hK6 => ?_
      refine we_region [(0, 0)] rfl ?_
      refine ge_batch [0] (ans := []) (vs := [(2, .bool false)]) (l := []) (by kernel_rfl) trivial ?_
      refine ge_nil fun a hF => hK6 _ _ ?_ a hF
      have hS12 := hS7.takeN 0
      obtain rfl := Option.some.inj h
      exact we_ret fun a hF => hQ _ _ _ (Outs.out nofun ⟨rfl, (post_ret (rs := [.tmp 2]) (ans := []) (vs := [.bool false]) (l := []) rfl (by kernel_rfl) trivial ⟨rfl, hS12⟩) a hF⟩)
  · rw [if_neg hc1] at h
    refine ge_known (t := 23) (b := (r1.1 != 1)) (c := true) (by kernel_rfl) (bne_iff_ne.2 hc1) ?_
    refine ge_batch [3, 4, 5, 6, 7] (ans := []) (vs := [(28, undef), (27, .bool true), (26, .bool true), (25, undef), (24, undef)]) (l := []) (by kernel_rfl) trivial ?_
    refine ge_off rfl rfl rfl (by kernel_rfl) ?_
    refine ge_batch [9, 10] (ans := []) (vs := [(31, .bool true), (30, undef)]) (l := []) (by kernel_rfl) trivial ?_
    refine ge_nil fun a hF => hK4 _ _ ?_ a hF
    refine we_true (by kernel_rfl) ?_
    refine we_seq fun K7 hK7 => ?_
    refine we_region [(0, 0)] rfl ?_
    refine ge_batch [0] (ans := []) (vs := [(2, .bool false)]) (l := []) (by kernel_rfl) trivial ?_
    refine ge_nil fun a hF => hK7 _ _ ?_ a hF
    have hS13 := hS7.takeN 0
    obtain rfl := Option.some.inj h
    exact we_ret fun a hF => hQ _ _ _ (Outs.out nofun ⟨rfl, (post_ret (rs := [.tmp 2]) (ans := []) (vs := [.bool false]) (l := []) rfl (by kernel_rfl) trivial ⟨rfl, hS13⟩) a hF⟩)
abbrev EdfJudges.A1 (K : Nat) (w0 : World) (l0 : List SJob) (A0 : Option Addr) (c0 : Nat) (hR0 : RdL w0 A0 l0) (hL0 : l0.length ≤ c0) (hG0 : Glob w0 0 [.int .i64 (-9), .int .i64 0, .int .i64 0, .int .i64 0, .int .i64 0]) : Unit → Act → World → Prop := fun (s : Unit) a w => St w0 w [] ∧ Frm 80 a [(0, .slice A0 l0.length c0)]
abbrev EdfJudges.B1 (K : Nat) (w0 : World) (l0 : List SJob) (A0 : Option Addr) (c0 : Nat) (hR0 : RdL w0 A0 l0) (hL0 : l0.length ≤ c0) (hG0 : Glob w0 0 [.int .i64 (-9), .int .i64 0, .int .i64 0, .int .i64 0, .int .i64 0]) : Bool → Exit → Act → World → Prop := Rets Tryd.prog Tryd.f10 (EdfJudges.Post w0)
theorem EdfJudges_p1 (K : Nat) (w0 : World) (l0 : List SJob) (A0 : Option Addr) (c0 : Nat) (hR0 : RdL w0 A0 l0) (hL0 : l0.length ≤ c0) (hG0 : Glob w0 0 [.int .i64 (-9), .int .i64 0, .int .i64 0, .int .i64 0, .int .i64 0]) (o : Unit ⊕ Bool) (h : EdfJudges.p1 l0 = some o) (w : World) (hS : St w0 w []) (Q : Exit → Act → World → Prop) (hQ : ∀ x a w, Outs (EdfJudges.A1 K w0 l0 A0 c0 hR0 hL0 hG0) (EdfJudges.B1 K w0 l0 A0 c0 hR0 hL0 hG0) o x a w → Q x a w) : WE Tryd.prog 80 (subF Tryd.f10 [1, 1, 0]) Q [(0, .slice A0 l0.length c0)] w := by
  simp only [EdfJudges.p1] at h
  refine we_seq fun K9 hK9 => ?_
  refine we_region [(0, 0), (1, 0), (2, 1), (3, 0), (4, 0), (5, 0), (6, 0), (7, 0), (8, 0), (9, 0), (10, 0), (11, 0), (12, 0), (13, 0)] rfl ?_
  refine ge_batch [0, 1] (ans := []) (vs := [(33, .int .i64 (l0.length : Int)), (32, .slice A0 l0.length c0)]) (l := []) (by kernel_rfl) trivial ?_
  refine ge_call (d := some 34) (f := 13) (args := #[.int .i64 (l0.length : Int)]) (by kernel_rfl) (few_ok (l0.length : Int) _ _ rfl) ?_
  rintro _ w7 ⟨rfl, hS15⟩
  refine ⟨_, rfl, hS15.below, ?_⟩
  have hS16 := hS.call hS15
  refine ge_batch [3, 4] (ans := []) (vs := [(36, .bool (!(few.f (l0.length : Int)))), (35, .bool (!(few.f (l0.length : Int))))]) (l := []) (by kernel_rfl) trivial ?_
  by_cases hc4 : (few.f (l0.length : Int)) = true
  · rw [if_pos hc4] at h
    refine ge_known (t := 36) (b := !(few.f (l0.length : Int))) (c := false) (by kernel_rfl) (congrArg (fun z => !z) hc4) ?_
    refine ge_batch [5, 6, 7, 8] (ans := []) (vs := [(40, .bool (decide ((l0.length : Int) > 100))), (39, .bool (decide ((l0.length : Int) > 100))), (38, .int .i64 (l0.length : Int)), (37, .slice A0 l0.length c0)]) (l := []) (by kernel_rfl) trivial ?_
    by_cases hc5 : (l0.length : Int) > 100
    · rw [if_pos hc5] at h
      refine ge_known (t := 40) (b := decide ((l0.length : Int) > 100)) (c := true) (by kernel_rfl) (decide_eq_true hc5) ?_
      refine ge_batch [9, 10, 11, 12, 13] (ans := []) (vs := [(45, .bool (decide ((l0.length : Int) ≤ 4000))), (44, .bool (decide ((l0.length : Int) ≤ 4000))), (43, .bool (decide ((l0.length : Int) ≤ 4000))), (42, .int .i64 (l0.length : Int)), (41, .slice A0 l0.length c0)]) (l := []) (by kernel_rfl) trivial ?_
      refine ge_nil fun a hF => hK9 _ _ ?_ a hF
      by_cases hc6 : (l0.length : Int) ≤ 4000
      · rw [if_pos hc6] at h
        refine we_known (t := 45) (b := decide ((l0.length : Int) ≤ 4000)) (v := true) (by kernel_rfl) (decide_eq_true hc6) ?_
        refine we_true (by kernel_rfl) ?_
        refine we_seq fun K10 hK10 => ?_
        refine we_region [(0, 0)] rfl ?_
        refine ge_batch [0] (ans := []) (vs := [(2, .bool true)]) (l := []) (by kernel_rfl) trivial ?_
        refine ge_nil fun a hF => hK10 _ _ ?_ a hF
        obtain rfl := Option.some.inj h
        exact we_ret fun a hF => hQ _ _ _ (Outs.out nofun ⟨rfl, (post_ret (rs := [.tmp 2]) (ans := []) (vs := [.bool true]) (l := []) rfl (by kernel_rfl) trivial ⟨rfl, hS16⟩) a hF⟩)
      · rw [if_neg hc6] at h
        refine we_known (t := 45) (b := decide ((l0.length : Int) ≤ 4000)) (v := false) (by kernel_rfl) (decide_eq_false hc6) ?_
        refine we_false (by kernel_rfl) ?_
        obtain rfl := Option.some.inj h
        exact we_skip fun a hF => hQ _ _ _ (Outs.again ⟨hS16, hF.weaken ⟨by kernel_rfl, trivial⟩⟩)
    · rw [if_neg hc5] at h
      refine ge_known (t := 40) (b := decide ((l0.length : Int) > 100)) (c := false) (by kernel_rfl) (decide_eq_false hc5) ?_
      refine ge_batch [9, 10, 11, 12, 13] (ans := []) (vs := [(45, .bool false), (44, .bool false), (43, undef), (42, undef), (41, undef)]) (l := []) (by kernel_rfl) trivial ?_
      refine ge_nil fun a hF => hK9 _ _ ?_ a hF
      refine we_false (by kernel_rfl) ?_
      obtain rfl := Option.some.inj h
      exact we_skip fun a hF => hQ _ _ _ (Outs.again ⟨hS16, hF.weaken ⟨by kernel_rfl, trivial⟩⟩)
  · rw [if_neg hc4] at h
    refine ge_known (t := 36) (b := !(few.f (l0.length : Int))) (c := true) (by kernel_rfl) (congrArg (fun z => !z) (Bool.eq_false_iff.2 hc4)) ?_
    refine ge_batch [5, 6, 7, 8, 9, 10, 11, 12, 13] (ans := []) (vs := [(45, .bool true), (44, undef), (43, undef), (42, undef), (41, undef), (40, undef), (39, undef), (38, undef), (37, undef)]) (l := []) (by kernel_rfl) trivial ?_
    refine ge_nil fun a hF => hK9 _ _ ?_ a hF
    refine we_true (by kernel_rfl) ?_
    refine we_seq fun K11 hK11 => ?_
    refine we_region [(0, 0)] rfl ?_
    refine ge_batch [0] (ans := []) (vs := [(2, .bool true)]) (l := []) (by kernel_rfl) trivial ?_
    refine ge_nil fun a hF => hK11 _ _ ?_ a hF
    obtain rfl := Option.some.inj h
    exact we_ret fun a hF => hQ _ _ _ (Outs.out nofun ⟨rfl, (post_ret (rs := [.tmp 2]) (ans := []) (vs := [.bool true]) (l := []) rfl (by kernel_rfl) trivial ⟨rfl, hS16⟩) a hF⟩)
theorem EdfJudges_ok (K : Nat) (l0 : List SJob) (A0 : Option Addr) (c0 : Nat) (w0 : World) (hR0 : RdL w0 A0 l0) (hL0 : l0.length ≤ c0) (hG0 : Glob w0 0 [.int .i64 (-9), .int .i64 0, .int .i64 0, .int .i64 0, .int .i64 0]) (r : Bool) (h : EdfJudges.f K l0 = some r) :
    Calls Tryd.prog 10 #[.slice A0 l0.length c0] w0 (EdfJudges.Post w0 r) := by
  have hS := St.start w0
  unfold EdfJudges.f at h
  refine calls_enter (n := 80) (args := [.slice A0 l0.length c0]) (fn := Tryd.f10) rfl rfl rfl rfl ?_
  show WE _ _ _ _ [(0, .slice A0 l0.length c0)] _
  refine we_seq fun K1 hK1 => ?_
  refine we_region [(0, 0)] rfl ?_
  refine ge_batch [0] (ans := []) (vs := [(2, .bool false)]) (l := []) (by kernel_rfl) trivial ?_
  refine ge_nil fun a hF => hK1 _ _ ?_ a hF
  refine we_seq fun K2 hK2 => ?_
  rcases hq3 : EdfJudges.p0 K with _ | (_ | rr2)
  · rw [hq3] at h; cases h
  · rw [hq3] at h
    simp only [] at h
    refine we_keep (e' := [(0, .slice A0 l0.length c0), (2, .bool false)]) ⟨by kernel_rfl, by kernel_rfl, trivial⟩ (EdfJudges_p0 K w0 l0 A0 c0 hR0 hL0 hG0 _ hq3 _ hS _ ?_)
    rintro _ a w6 ⟨rfl, hS14, hF⟩
    replace hS14 : St w0 w6 [] := hS14
    refine hK2 [(0, .slice A0 l0.length c0)] w6 ?_ a hF
    refine we_seq fun K8 hK8 => ?_
    rcases hq5 : EdfJudges.p1 l0 with _ | (_ | rr1)
    · rw [hq5] at h; cases h
    · rw [hq5] at h
      simp only [] at h
      refine we_keep (e' := [(0, .slice A0 l0.length c0)]) ⟨by kernel_rfl, trivial⟩ (EdfJudges_p1 K w0 l0 A0 c0 hR0 hL0 hG0 _ hq5 _ hS14 _ ?_)
      rintro _ a w8 ⟨rfl, hS17, hF⟩
      replace hS17 : St w0 w8 [] := hS17
      refine hK8 [(0, .slice A0 l0.length c0)] w8 ?_ a hF
      refine we_seq fun K12 hK12 => ?_
      refine we_region [(0, 0), (1, 0), (2, 1), (3, 0)] rfl ?_
      refine ge_batch [0, 1] (ans := [.val (.int .i64 (-9)), .val (.int .i64 0), .val (.int .i64 0), .val (.int .i64 0), .val (.int .i64 0)]) (vs := [(47, .agg #[.int .i64 (-9), .int .i64 0, .int .i64 0, .int .i64 0, .int .i64 0]), (46, .slice A0 l0.length c0)]) (l := [.loaded ⟨0, 0, none⟩ (.int .i64 (-9)), .loaded ⟨0, 1, none⟩ (.int .i64 0), .loaded ⟨0, 2, none⟩ (.int .i64 0), .loaded ⟨0, 3, none⟩ (.int .i64 0), .loaded ⟨0, 4, none⟩ (.int .i64 0)]) (by kernel_rfl) ⟨hS17.glob hG0 rfl, hS17.glob hG0 rfl, hS17.glob hG0 rfl, hS17.glob hG0 rfl, hS17.glob hG0 rfl, trivial⟩ ?_
      rcases hq6 : punctualsame_Lend_api_Job.f l0 (⟨(-9), 0, 0, 0, 0⟩ : SJob) with _ | r2
      · rw [hq6] at h; cases h
      rw [hq6] at h
      simp only [] at h
      obtain rfl := punctualsame_Lend_api_Job_full _ _ hq6
      refine ge_call (d := some 48) (f := 14) (args := #[.slice A0 l0.length c0, .agg #[.int .i64 (-9), .int .i64 0, .int .i64 0, .int .i64 0, .int .i64 0]]) (by kernel_rfl) (punctualsame_Lend_api_Job_ok l0 A0 c0 (⟨(-9), 0, 0, 0, 0⟩ : SJob) _ (hS17.rd hR0) hL0 _ hq6) ?_
      rintro _ w9 ⟨Z1, cz1, rfl, hcp1, hS18⟩
      refine ⟨_, rfl, hS18.below, ?_⟩
      have hS19 := hS17.call hS18
      refine ge_batch [3] (ans := []) (vs := [(6, .slice Z1 l0.length cz1)]) (l := []) (by kernel_rfl) trivial ?_
      refine ge_nil fun a hF => hK12 _ _ ?_ a hF
      refine we_seq fun K13 hK13 => ?_
      refine we_region [(0, 0), (1, 1), (2, 0), (3, 0), (4, 0), (5, 0), (6, 1), (7, 0), (8, 0), (9, 2)] rfl ?_
      rcases hq7 : edf_Judge.f K l0 with _ | r3
      · rw [hq7] at h; cases h
      rw [hq7] at h
      simp only [] at h
      refine ge_batch [0] (ans := []) (vs := [(50, .slice Z1 l0.length cz1)]) (l := []) (by kernel_rfl) trivial ?_
      refine ge_call (d := some 51) (f := 59) (args := #[.slice Z1 l0.length cz1]) (by kernel_rfl) (edf_Judge_ok K l0 Z1 cz1 _ ((hS19.rdAt 0 rfl).pre) (by have h0 := hcp1; simp only [List.length_append, List.length_cons, List.length_nil] at h0; omega) _ hq7) ?_
      rintro _ w10 ⟨rfl, hS20⟩
      refine ⟨_, rfl, hS20.below, ?_⟩
      have hS21 := hS19.call hS20
      refine ge_batch [2, 3, 4, 5] (ans := []) (vs := [(54, .agg #[.int .i64 r3.2.2.Code, .int .i64 r3.2.2.At]), (53, .int .i64 r3.2.1), (52, .int .i64 r3.1), (49, .tuple #[.int .i64 r3.1, .int .i64 r3.2.1, .agg #[.int .i64 r3.2.2.Code, .int .i64 r3.2.2.At]])]) (l := []) (by kernel_rfl) trivial ?_
      refine ge_new (d := some 9) (o := .cells #[.int .i64 0, .int .i64 0] 26) (v := fun b => .pointer (some ⟨b, 0, none⟩)) hS21 (fun b => by kernel_rfl) fun b3 w11 hx3 hS22 => ?_
      refine ge_batch [7, 8] (ans := []) (vs := [(8, .int .i64 r3.2.1), (7, .int .i64 r3.1)]) (l := []) (by kernel_rfl) trivial ?_
      refine ge_set (b := b3) (j := 0) (cs := #[.int .i64 0, .int .i64 0]) (t := 26) (vs := [.int .i64 r3.2.2.Code, .int .i64 r3.2.2.At]) hS22 (by kernel_rfl) rfl rfl fun w12 hS23 => ?_
      have hS24 : St w0 w12 [Own.blk b3 (.cells #[.int .i64 r3.2.2.Code, .int .i64 r3.2.2.At] 26 (0, 0)), Own.of (.slice Z1 (l0 ++ [(⟨(-9), 0, 0, 0, 0⟩ : SJob), (⟨(-9), 0, 0, 0, 0⟩ : SJob), (⟨(-9), 0, 0, 0, 0⟩ : SJob)]).length cz1) 30 (l0 ++ [(⟨(-9), 0, 0, 0, 0⟩ : SJob), (⟨(-9), 0, 0, 0, 0⟩ : SJob), (⟨(-9), 0, 0, 0, 0⟩ : SJob)])] := hS23
      refine ge_nil fun a hF => hK13 _ _ ?_ a hF
      refine we_seq fun K14 hK14 => ?_
      refine we_region [(0, 0), (1, 1), (2, 0), (3, 0), (4, 0), (5, 0), (6, 1), (7, 0), (8, 0), (9, 2)] rfl ?_
      rcases hq8 : punctualref_JudgeOf.f K l0 with _ | r4
      · rw [hq8] at h; cases h
      rw [hq8] at h
      simp only [] at h
      refine ge_batch [0] (ans := []) (vs := [(56, .slice A0 l0.length c0)]) (l := []) (by kernel_rfl) trivial ?_
      refine ge_call (d := some 57) (f := 60) (args := #[.slice A0 l0.length c0]) (by kernel_rfl) (punctualref_JudgeOf_ok K l0 A0 c0 _ (hS24.rd hR0) hL0 _ hq8) ?_
      rintro _ w13 ⟨rfl, hS25⟩
      refine ⟨_, rfl, hS25.below, ?_⟩
      have hS26 := hS24.call hS25
      refine ge_batch [2, 3, 4, 5] (ans := []) (vs := [(60, .agg #[.int .i64 r4.2.2.Code, .int .i64 r4.2.2.At]), (59, .int .i64 r4.2.1), (58, .int .i64 r4.1), (55, .tuple #[.int .i64 r4.1, .int .i64 r4.2.1, .agg #[.int .i64 r4.2.2.Code, .int .i64 r4.2.2.At]])]) (l := []) (by kernel_rfl) trivial ?_
      refine ge_new (d := some 12) (o := .cells #[.int .i64 0, .int .i64 0] 26) (v := fun b => .pointer (some ⟨b, 0, none⟩)) hS26 (fun b => by kernel_rfl) fun b4 w14 hx4 hS27 => ?_
      refine ge_batch [7, 8] (ans := []) (vs := [(11, .int .i64 r4.2.1), (10, .int .i64 r4.1)]) (l := []) (by kernel_rfl) trivial ?_
      refine ge_set (b := b4) (j := 0) (cs := #[.int .i64 0, .int .i64 0]) (t := 26) (vs := [.int .i64 r4.2.2.Code, .int .i64 r4.2.2.At]) hS27 (by kernel_rfl) rfl rfl fun w15 hS28 => ?_
      have hS29 : St w0 w15 [Own.blk b4 (.cells #[.int .i64 r4.2.2.Code, .int .i64 r4.2.2.At] 26 (0, 0)), Own.blk b3 (.cells #[.int .i64 r3.2.2.Code, .int .i64 r3.2.2.At] 26 (0, 0)), Own.of (.slice Z1 (l0 ++ [(⟨(-9), 0, 0, 0, 0⟩ : SJob), (⟨(-9), 0, 0, 0, 0⟩ : SJob), (⟨(-9), 0, 0, 0, 0⟩ : SJob)]).length cz1) 30 (l0 ++ [(⟨(-9), 0, 0, 0, 0⟩ : SJob), (⟨(-9), 0, 0, 0, 0⟩ : SJob), (⟨(-9), 0, 0, 0, 0⟩ : SJob)])] := hS28
      refine ge_nil fun a hF => hK14 _ _ ?_ a hF
      refine we_seq fun K15 hK15 => ?_
      refine we_region [(0, 0), (1, 0), (2, 0), (3, 0), (4, 0), (5, 0), (6, 0), (7, 0), (8, 0), (9, 0), (10, 0), (11, 0), (12, 0), (13, 0), (14, 0), (15, 0), (16, 0), (17, 1), (18, 0), (19, 0)] rfl ?_
      refine ge_batch [0, 1, 2, 3] (ans := []) (vs := [(64, .bool (r3.1 == r4.1)), (63, .bool (r3.1 == r4.1)), (62, .int .i64 r4.1), (61, .int .i64 r3.1)]) (l := []) (by kernel_rfl) trivial ?_
      by_cases hc7 : r3.1 = r4.1
      · rw [if_pos hc7] at h
        refine ge_known (t := 64) (b := (r3.1 == r4.1)) (c := true) (by kernel_rfl) (beq_iff_eq.2 hc7) ?_
        refine ge_batch [4, 5, 6, 7, 8] (ans := []) (vs := [(69, .bool (r3.2.1 == r4.2.1)), (68, .bool (r3.2.1 == r4.2.1)), (67, .bool (r3.2.1 == r4.2.1)), (66, .int .i64 r4.2.1), (65, .int .i64 r3.2.1)]) (l := []) (by kernel_rfl) trivial ?_
        by_cases hc8 : r3.2.1 = r4.2.1
        · rw [if_pos hc8] at h
          refine ge_known (t := 69) (b := (r3.2.1 == r4.2.1)) (c := true) (by kernel_rfl) (beq_iff_eq.2 hc8) ?_
          refine ge_batch [9, 10] (ans := [.val (.int .i64 r3.2.2.Code), .val (.int .i64 r3.2.2.At), .val (.int .i64 r4.2.2.Code), .val (.int .i64 r4.2.2.At)]) (vs := [(71, .agg #[.int .i64 r4.2.2.Code, .int .i64 r4.2.2.At]), (70, .agg #[.int .i64 r3.2.2.Code, .int .i64 r3.2.2.At])]) (l := [.loaded ⟨b3, 0, none⟩ (.int .i64 r3.2.2.Code), .loaded ⟨b3, 1, none⟩ (.int .i64 r3.2.2.At), .loaded ⟨b4, 0, none⟩ (.int .i64 r4.2.2.Code), .loaded ⟨b4, 1, none⟩ (.int .i64 r4.2.2.At)]) (by kernel_rfl) ⟨hS29.cell 1 rfl rfl, hS29.cell 1 rfl rfl, hS29.cell 0 rfl rfl, hS29.cell 0 rfl rfl, trivial⟩ ?_
          refine ge_eqs (d := 72) (ty := 4) (op := .eql) (x := (.tmp 70)) (y := (.tmp 71)) (t := 26) (t2 := 26) (xs := #[.int .i64 r3.2.2.Code, .int .i64 r3.2.2.At]) (ys := #[.int .i64 r4.2.2.Code, .int .i64 r4.2.2.At]) (r := (SFault.eqb r3.2.2 r4.2.2)) (v := (SFault.eqb r3.2.2 r4.2.2)) (by kernel_rfl) (by kernel_rfl) (by kernel_rfl) (by kernel_rfl) (by kernel_rfl) rfl ?_
          refine ge_batch [12, 13] (ans := []) (vs := [(74, .bool (SFault.eqb r3.2.2 r4.2.2)), (73, .bool (SFault.eqb r3.2.2 r4.2.2))]) (l := []) (by kernel_rfl) trivial ?_
          by_cases hc9 : (SFault.eqb r3.2.2 r4.2.2) = true
          · rw [if_pos hc9] at h
            refine ge_known (t := 74) (b := (SFault.eqb r3.2.2 r4.2.2)) (c := true) (by kernel_rfl) hc9 ?_
            refine ge_batch [14, 15, 16] (ans := [.val (.int .i64 (-9)), .val (.int .i64 0), .val (.int .i64 0), .val (.int .i64 0), .val (.int .i64 0)]) (vs := [(77, .agg #[.int .i64 (-9), .int .i64 0, .int .i64 0, .int .i64 0, .int .i64 0]), (76, .slice A0 l0.length c0), (75, .slice Z1 l0.length cz1)]) (l := [.loaded ⟨0, 0, none⟩ (.int .i64 (-9)), .loaded ⟨0, 1, none⟩ (.int .i64 0), .loaded ⟨0, 2, none⟩ (.int .i64 0), .loaded ⟨0, 3, none⟩ (.int .i64 0), .loaded ⟨0, 4, none⟩ (.int .i64 0)]) (by kernel_rfl) ⟨hS29.glob hG0 rfl, hS29.glob hG0 rfl, hS29.glob hG0 rfl, hS29.glob hG0 rfl, hS29.glob hG0 rfl, trivial⟩ ?_
            rcases hq9 : punctualsame_Still_api_Job.f K (l0 ++ [(⟨(-9), 0, 0, 0, 0⟩ : SJob), (⟨(-9), 0, 0, 0, 0⟩ : SJob), (⟨(-9), 0, 0, 0, 0⟩ : SJob)]) l0 (⟨(-9), 0, 0, 0, 0⟩ : SJob) with _ | r5
            · rw [hq9] at h; cases h
            rw [hq9] at h
            simp only [] at h
            refine ge_call (d := some 78) (f := 17) (args := #[.slice Z1 l0.length cz1, .slice A0 l0.length c0, .agg #[.int .i64 (-9), .int .i64 0, .int .i64 0, .int .i64 0, .int .i64 0]]) (by kernel_rfl) (punctualsame_Still_api_Job_ok K (l0 ++ [(⟨(-9), 0, 0, 0, 0⟩ : SJob), (⟨(-9), 0, 0, 0, 0⟩ : SJob), (⟨(-9), 0, 0, 0, 0⟩ : SJob)]) Z1 l0.length cz1 l0 A0 c0 (⟨(-9), 0, 0, 0, 0⟩ : SJob) _ (hS29.rdAt 2 rfl) hcp1 (hS29.rd hR0) hL0 _ hq9) ?_
            rintro _ w16 ⟨rfl, hS30⟩
            refine ⟨_, rfl, hS30.below, ?_⟩
            have hS31 := hS29.call hS30
            refine ge_batch [18, 19] (ans := []) (vs := [(2, .bool r5), (79, .bool r5)]) (l := []) (by kernel_rfl) trivial ?_
            refine ge_nil fun a hF => hK15 _ _ ?_ a hF
            have hS32 := hS31.takeN 0
            obtain rfl := Option.some.inj h
            exact we_ret (post_ret (rs := [.tmp 2]) (ans := []) (vs := [.bool r5]) (l := []) rfl (by kernel_rfl) trivial ⟨rfl, hS32⟩)
          · rw [if_neg hc9] at h
            refine ge_known (t := 74) (b := (SFault.eqb r3.2.2 r4.2.2)) (c := false) (by kernel_rfl) (Bool.eq_false_iff.2 hc9) ?_
            refine ge_batch [14, 15, 16] (ans := []) (vs := [(77, undef), (76, undef), (75, undef)]) (l := []) (by kernel_rfl) trivial ?_
            refine ge_off rfl rfl rfl (by kernel_rfl) ?_
            refine ge_batch [18, 19] (ans := []) (vs := [(2, .bool false), (79, .bool false)]) (l := []) (by kernel_rfl) trivial ?_
            refine ge_nil fun a hF => hK15 _ _ ?_ a hF
            have hS33 := hS29.takeN 0
            obtain rfl := Option.some.inj h
            exact we_ret (post_ret (rs := [.tmp 2]) (ans := []) (vs := [.bool false]) (l := []) rfl (by kernel_rfl) trivial ⟨rfl, hS33⟩)
        · rw [if_neg hc8] at h
          refine ge_known (t := 69) (b := (r3.2.1 == r4.2.1)) (c := false) (by kernel_rfl) (beq_eq_false_iff_ne.2 hc8) ?_
          refine ge_batch [9, 10, 11, 12, 13, 14, 15, 16] (ans := []) (vs := [(77, undef), (76, undef), (75, undef), (74, .bool false), (73, .bool false), (72, undef), (71, undef), (70, undef)]) (l := []) (by kernel_rfl) trivial ?_
          refine ge_off rfl rfl rfl (by kernel_rfl) ?_
          refine ge_batch [18, 19] (ans := []) (vs := [(2, .bool false), (79, .bool false)]) (l := []) (by kernel_rfl) trivial ?_
          refine ge_nil fun a hF => hK15 _ _ ?_ a hF
          have hS34 := hS29.takeN 0
          obtain rfl := Option.some.inj h
          exact we_ret (post_ret (rs := [.tmp 2]) (ans := []) (vs := [.bool false]) (l := []) rfl (by kernel_rfl) trivial ⟨rfl, hS34⟩)
      · rw [if_neg hc7] at h
        refine ge_known (t := 64) (b := (r3.1 == r4.1)) (c := false) (by kernel_rfl) (beq_eq_false_iff_ne.2 hc7) ?_
        refine ge_batch [4, 5, 6, 7, 8, 9, 10, 11, 12, 13, 14, 15, 16] (ans := []) (vs := [(77, undef), (76, undef), (75, undef), (74, .bool false), (73, .bool false), (72, undef), (71, undef), (70, undef), (69, .bool false), (68, .bool false), (67, undef), (66, undef), (65, undef)]) (l := []) (by kernel_rfl) trivial ?_
        refine ge_off rfl rfl rfl (by kernel_rfl) ?_
        refine ge_batch [18, 19] (ans := []) (vs := [(2, .bool false), (79, .bool false)]) (l := []) (by kernel_rfl) trivial ?_
        refine ge_nil fun a hF => hK15 _ _ ?_ a hF
        have hS35 := hS29.takeN 0
        obtain rfl := Option.some.inj h
        exact we_ret (post_ret (rs := [.tmp 2]) (ans := []) (vs := [.bool false]) (l := []) rfl (by kernel_rfl) trivial ⟨rfl, hS35⟩)
    · rw [hq5] at h
      simp only [] at h
      refine we_keep (e' := [(0, .slice A0 l0.length c0)]) ⟨by kernel_rfl, trivial⟩ (EdfJudges_p1 K w0 l0 A0 c0 hR0 hL0 hG0 _ hq5 _ hS14 _ ?_)
      rintro _ a w1 ⟨_, rfl, hb⟩
      obtain rfl := Option.some.inj h
      exact hb
  · rw [hq3] at h
    simp only [] at h
    refine we_keep (e' := [(0, .slice A0 l0.length c0), (2, .bool false)]) ⟨by kernel_rfl, by kernel_rfl, trivial⟩ (EdfJudges_p0 K w0 l0 A0 c0 hR0 hL0 hG0 _ hq3 _ hS _ ?_)
    rintro _ a w1 ⟨_, rfl, hb⟩
    obtain rfl := Option.some.inj h
    exact hb
end Go.Proofs.YtlipdmblinjjaaaDoor.GV
