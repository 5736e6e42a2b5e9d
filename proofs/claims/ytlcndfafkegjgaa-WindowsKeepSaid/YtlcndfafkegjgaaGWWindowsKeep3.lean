/- Walks of single functions, written by a program of this work. -/
import Derived.Test.YtlcndfafkegjgaaGWWindowsKeep2
namespace Go.Proofs.Ytlcndfafkegjgaa.GV
open Go Go.RowKit
set_option linter.unusedVariables false
set_option linter.unusedSimpArgs false
set_option maxRecDepth 100000

/-! punctual/sched.Check -/
abbrev sched_Check.Post (w0 : World) (r : SFault) (e : Ending) (w : World) : Prop := e = .returned (.agg #[.int .i64 r.Code, .int .i64 r.At]) ∧ St w0 w []
def sched_Check.r0 (l0 : List SJob) : Nat → Option (Nat ⊕ (Unit ⊕ SFault))
  | i1 =>
    if (i1 : Int) < (l0.length : Int) then
      match l0[i1]? with
      | none => none
      | some e1 =>
        if e1.At < 0 then
          some (.inr (.inr (⟨3, (i1 : Int)⟩ : SFault)))
        else
          if e1.At > 60000 then
            some (.inr (.inr (⟨3, (i1 : Int)⟩ : SFault)))
          else
            if e1.C < 1 then
              some (.inr (.inr (⟨3, (i1 : Int)⟩ : SFault)))
            else
              if e1.C > 10000 then
                some (.inr (.inr (⟨3, (i1 : Int)⟩ : SFault)))
              else
                if e1.Due < 0 then
                  some (.inr (.inr (⟨3, (i1 : Int)⟩ : SFault)))
                else
                  if e1.Due > 80000 then
                    some (.inr (.inr (⟨3, (i1 : Int)⟩ : SFault)))
                  else
                    some (.inl (i1 + 1))
    else
      some (.inr (.inl ()))
def sched_Check.f (K : Nat) (l0 : List SJob) : Option SFault :=
  if (l0.length : Int) > 4000 then
    some (⟨2, 0⟩ : SFault)
  else
    match iter (sched_Check.r0 l0) K 0 with
    | none => none
    | some (.inl _) =>
      some (⟨0, 0⟩ : SFault)
    | some (.inr rr1) =>
      some rr1
abbrev sched_Check.A0 (K : Nat) (w0 : World) (l0 : List SJob) (A0 : Option Addr) (c0 : Nat) (hR0 : RdL w0 A0 l0) (hL0 : l0.length ≤ c0) (b1 : Nat) (hc1 : ¬ ((l0.length : Int) > 4000)) : Nat → Act → World → Prop := fun (s : Nat) a w => St w0 w [Own.blk b1 (.cells #[.int .i64 0, .int .i64 0] 31 (0, 0))] ∧ Frm 48 a [(2, .pointer (some ⟨b1, 0, none⟩)), (9, .slice A0 l0.length c0), (10, .int .i64 (l0.length : Int)), (11, .int .i64 (s : Int))]
abbrev sched_Check.B0 (K : Nat) (w0 : World) (l0 : List SJob) (A0 : Option Addr) (c0 : Nat) (hR0 : RdL w0 A0 l0) (hL0 : l0.length ≤ c0) (b1 : Nat) (hc1 : ¬ ((l0.length : Int) > 4000)) : (Unit ⊕ SFault) → Exit → Act → World → Prop := Exits 0 (fun (s : Unit) a w => St w0 w [Own.blk b1 (.cells #[.int .i64 0, .int .i64 0] 31 (0, 0))] ∧ Frm 48 a [(2, .pointer (some ⟨b1, 0, none⟩))]) (Rets Try.prog Try.f89 (sched_Check.Post w0))
theorem sched_Check_r0 (K : Nat) (w0 : World) (l0 : List SJob) (A0 : Option Addr) (c0 : Nat) (hR0 : RdL w0 A0 l0) (hL0 : l0.length ≤ c0) (b1 : Nat) (hc1 : ¬ ((l0.length : Int) > 4000)) (s : Nat) (o : Nat ⊕ (Unit ⊕ SFault)) (h : sched_Check.r0 l0 s = some o) (a : Act) (w : World) (hA : sched_Check.A0 K w0 l0 A0 c0 hR0 hL0 b1 hc1 s a w) (Q : Exit → Act → World → Prop) (hQ : ∀ x a w, Outs (sched_Check.A0 K w0 l0 A0 c0 hR0 hL0 b1 hc1) (sched_Check.B0 K w0 l0 A0 c0 hR0 hL0 b1 hc1) o x a w → Q x a w) : (subF Try.f89 [1, 1, 0, 1, 0, 0]).wp Try.prog Q a w := by
  obtain ⟨i1, hs⟩ : ∃ z, z = s := ⟨s, rfl⟩
  subst hs
  obtain ⟨hS, hF⟩ := hA
  replace hS : St w0 w [Own.blk b1 (.cells #[.int .i64 0, .int .i64 0] 31 (0, 0))] := hS
  simp only [sched_Check.r0] at h
  refine (?_ : WE Try.prog 48 (subF Try.f89 [1, 1, 0, 1, 0, 0]) Q [(2, .pointer (some ⟨b1, 0, none⟩)), (9, .slice A0 l0.length c0), (10, .int .i64 (l0.length : Int)), (11, .int .i64 (i1 : Int))] w) a hF
  clear hF a
  refine we_seq fun K7 hK7 => ?_
  refine we_region [(0, 0)] rfl ?_
  refine ge_batch [0] (ans := []) (vs := [(12, .bool (decide ((i1 : Int) < (l0.length : Int))))]) (l := []) (by kernel_rfl) trivial ?_
  refine ge_nil fun a hF => hK7 _ _ ?_ a hF
  refine we_seq fun K8 hK8 => ?_
  by_cases hc2 : (i1 : Int) < (l0.length : Int)
  · rw [if_pos hc2] at h
    refine we_known (t := 12) (b := decide ((i1 : Int) < (l0.length : Int))) (v := true) (by kernel_rfl) (decide_eq_true hc2) ?_
    refine we_true (by kernel_rfl) ?_
    refine we_skip fun a hF => hK8 _ _ ?_ a hF
    refine we_seq fun K9 hK9 => ?_
    refine we_block ?_
    refine we_seq fun K10 hK10 => ?_
    refine we_region [(0, 0), (1, 0), (2, 0), (3, 1), (4, 0), (5, 2)] rfl ?_
    refine ge_batch [0] (ans := []) (vs := [(13, .int .i64 (i1 : Int))]) (l := []) (by kernel_rfl) trivial ?_
    rcases hx2 : l0[i1]? with _ | e1
    · rw [hx2] at h; cases h
    rw [hx2] at h
    simp only [] at h
    refine ge_index (d := 14) (ty := 0) (t := 28) (el := 106) (sz := 5) (m := l0.length) (c := c0) (x := (.tmp 9)) (y := (.tmp 11)) (A := A0) (k' := .i64) (j := (i1 : Int)) (jn := i1) (b0 := blkOf A0) (o0 := offOf A0) (by kernel_rfl) (by kernel_rfl) (by kernel_rfl) (by kernel_rfl) (by kernel_rfl) ((hS.rd hR0).eqSome (pos_of_get hx2)) rfl (lt_of_get hx2) ?_
    refine ge_batch [2] (ans := [.val (.int .i64 e1.Task), .val (.int .i64 e1.At), .val (.int .i64 e1.C), .val (.int .i64 e1.Due), .val (.int .i64 e1.P)]) (vs := [(15, .agg #[.int .i64 e1.Task, .int .i64 e1.At, .int .i64 e1.C, .int .i64 e1.Due, .int .i64 e1.P])]) (l := [.loaded ⟨blkOf A0, offOf A0 + i1 * 5, none⟩ (.int .i64 e1.Task), .loaded ⟨blkOf A0, offOf A0 + i1 * 5 + 1, none⟩ (.int .i64 e1.At), .loaded ⟨blkOf A0, offOf A0 + i1 * 5 + 2, none⟩ (.int .i64 e1.C), .loaded ⟨blkOf A0, offOf A0 + i1 * 5 + 3, none⟩ (.int .i64 e1.Due), .loaded ⟨blkOf A0, offOf A0 + i1 * 5 + 4, none⟩ (.int .i64 e1.P)]) (by kernel_rfl) ⟨RdL.cell (j := 0) (hS.rd hR0) hx2 rfl, RdL.cell (j := 1) (hS.rd hR0) hx2 rfl, RdL.cell (j := 2) (hS.rd hR0) hx2 rfl, RdL.cell (j := 3) (hS.rd hR0) hx2 rfl, RdL.cell (j := 4) (hS.rd hR0) hx2 rfl, trivial⟩ ?_
    refine ge_new (d := some 4) (o := .cells #[.int .i64 0, .int .i64 0, .int .i64 0, .int .i64 0, .int .i64 0] 106) (v := fun b => .pointer (some ⟨b, 0, none⟩)) hS (fun b => by kernel_rfl) fun b2 w3 hx3 hS5 => ?_
    refine ge_batch [4] (ans := []) (vs := [(3, .int .i64 (i1 : Int))]) (l := []) (by kernel_rfl) trivial ?_
    refine ge_set (b := b2) (j := 0) (cs := #[.int .i64 0, .int .i64 0, .int .i64 0, .int .i64 0, .int .i64 0]) (t := 106) (vs := [.int .i64 e1.Task, .int .i64 e1.At, .int .i64 e1.C, .int .i64 e1.Due, .int .i64 e1.P]) hS5 (by kernel_rfl) rfl rfl fun w4 hS6 => ?_
    have hS7 : St w0 w4 [Own.blk b2 (.cells #[.int .i64 e1.Task, .int .i64 e1.At, .int .i64 e1.C, .int .i64 e1.Due, .int .i64 e1.P] 106 (0, 0)), Own.blk b1 (.cells #[.int .i64 0, .int .i64 0] 31 (0, 0))] := hS6
    refine ge_nil fun a hF => hK10 _ _ ?_ a hF
    refine we_seq fun K11 hK11 => ?_
    refine we_region [(0, 0), (1, 0), (2, 0), (3, 0), (4, 0), (5, 0), (6, 0), (7, 0), (8, 0), (9, 0), (10, 0), (11, 0), (12, 0), (13, 0), (14, 0), (15, 0), (16, 0), (17, 0), (18, 0), (19, 0), (20, 0), (21, 0), (22, 0), (23, 0), (24, 0), (25, 0), (26, 0), (27, 0)] rfl ?_
    refine ge_batch [0, 1, 2, 3] (ans := [.val (.int .i64 e1.At)]) (vs := [(19, .bool (decide (e1.At < 0))), (18, .bool (decide (e1.At < 0))), (17, .int .i64 e1.At), (16, .pointer (some ⟨b2, 1, none⟩))]) (l := [.loaded ⟨b2, 1, none⟩ (.int .i64 e1.At)]) (by kernel_rfl) ⟨hS7.cell 0 rfl rfl, trivial⟩ ?_
    by_cases hc3 : e1.At < 0
    · rw [if_pos hc3] at h
      refine ge_known (t := 19) (b := decide (e1.At < 0)) (c := true) (by kernel_rfl) (decide_eq_true hc3) ?_
      refine ge_batch [4, 5, 6, 7, 8, 9, 10, 11, 12, 13, 14, 15, 16, 17, 18, 19, 20, 21, 22, 23, 24, 25, 26, 27] (ans := []) (vs := [(43, .bool true), (42, undef), (41, undef), (40, undef), (39, .bool true), (38, .bool true), (37, undef), (36, undef), (35, undef), (34, .bool true), (33, .bool true), (32, undef), (31, undef), (30, undef), (29, .bool true), (28, .bool true), (27, undef), (26, undef), (25, undef), (24, .bool true), (23, .bool true), (22, undef), (21, undef), (20, undef)]) (l := []) (by kernel_rfl) trivial ?_
      refine ge_nil fun a hF => hK11 _ _ ?_ a hF
      refine we_true (by kernel_rfl) ?_
      refine we_seq fun K12 hK12 => ?_
      refine we_region [(0, 0), (1, 0), (2, 2)] rfl ?_
      refine ge_batch [0, 1] (ans := []) (vs := [(45, .agg #[.int .i64 3, .int .i64 (i1 : Int)]), (44, .int .i64 (i1 : Int))]) (l := []) (by kernel_rfl) trivial ?_
      have hS8 := hS7.bring 1 rfl
      refine ge_set (b := b1) (j := 0) (cs := #[.int .i64 0, .int .i64 0]) (t := 31) (vs := [.int .i64 3, .int .i64 (i1 : Int)]) hS8 (by kernel_rfl) rfl rfl fun w5 hS9 => ?_
      have hS10 : St w0 w5 [Own.blk b1 (.cells #[.int .i64 3, .int .i64 (i1 : Int)] 31 (0, 0)), Own.blk b2 (.cells #[.int .i64 e1.Task, .int .i64 e1.At, .int .i64 e1.C, .int .i64 e1.Due, .int .i64 e1.P] 106 (0, 0))] := hS9
      refine ge_nil fun a hF => hK12 _ _ ?_ a hF
      have hS11 := hS10.takeN 0
      obtain rfl := Option.some.inj h
      exact we_ret fun a hF => hQ _ _ _ (Outs.out nofun (Exits.on ⟨rfl, (post_ret (rs := [.cell 2 31]) (ans := [.val (.int .i64 3), .val (.int .i64 (i1 : Int))]) (vs := [.agg #[.int .i64 3, .int .i64 (i1 : Int)]]) (l := [.loaded ⟨b1, 0, none⟩ (.int .i64 3), .loaded ⟨b1, 1, none⟩ (.int .i64 (i1 : Int))]) rfl (by kernel_rfl) ⟨hS10.cell 0 rfl rfl, hS10.cell 0 rfl rfl, trivial⟩ ⟨rfl, hS11⟩) a hF⟩))
    · rw [if_neg hc3] at h
      refine ge_known (t := 19) (b := decide (e1.At < 0)) (c := false) (by kernel_rfl) (decide_eq_false hc3) ?_
      refine ge_batch [4, 5, 6, 7, 8] (ans := [.val (.int .i64 e1.At)]) (vs := [(24, .bool (decide (e1.At > 60000))), (23, .bool (decide (e1.At > 60000))), (22, .bool (decide (e1.At > 60000))), (21, .int .i64 e1.At), (20, .pointer (some ⟨b2, 1, none⟩))]) (l := [.loaded ⟨b2, 1, none⟩ (.int .i64 e1.At)]) (by kernel_rfl) ⟨hS7.cell 0 rfl rfl, trivial⟩ ?_
      by_cases hc4 : e1.At > 60000
      · rw [if_pos hc4] at h
        refine ge_known (t := 24) (b := decide (e1.At > 60000)) (c := true) (by kernel_rfl) (decide_eq_true hc4) ?_
        refine ge_batch [9, 10, 11, 12, 13, 14, 15, 16, 17, 18, 19, 20, 21, 22, 23, 24, 25, 26, 27] (ans := []) (vs := [(43, .bool true), (42, undef), (41, undef), (40, undef), (39, .bool true), (38, .bool true), (37, undef), (36, undef), (35, undef), (34, .bool true), (33, .bool true), (32, undef), (31, undef), (30, undef), (29, .bool true), (28, .bool true), (27, undef), (26, undef), (25, undef)]) (l := []) (by kernel_rfl) trivial ?_
        refine ge_nil fun a hF => hK11 _ _ ?_ a hF
        refine we_true (by kernel_rfl) ?_
        refine we_seq fun K13 hK13 => ?_
        refine we_region [(0, 0), (1, 0), (2, 2)] rfl ?_
        refine ge_batch [0, 1] (ans := []) (vs := [(45, .agg #[.int .i64 3, .int .i64 (i1 : Int)]), (44, .int .i64 (i1 : Int))]) (l := []) (by kernel_rfl) trivial ?_
        have hS12 := hS7.bring 1 rfl
        refine ge_set (b := b1) (j := 0) (cs := #[.int .i64 0, .int .i64 0]) (t := 31) (vs := [.int .i64 3, .int .i64 (i1 : Int)]) hS12 (by kernel_rfl) rfl rfl fun w6 hS13 => ?_
        have hS14 : St w0 w6 [Own.blk b1 (.cells #[.int .i64 3, .int .i64 (i1 : Int)] 31 (0, 0)), Own.blk b2 (.cells #[.int .i64 e1.Task, .int .i64 e1.At, .int .i64 e1.C, .int .i64 e1.Due, .int .i64 e1.P] 106 (0, 0))] := hS13
        refine ge_nil fun a hF => hK13 _ _ ?_ a hF
        have hS15 := hS14.takeN 0
        obtain rfl := Option.some.inj h
        exact we_ret fun a hF => hQ _ _ _ (Outs.out nofun (Exits.on ⟨rfl, (post_ret (rs := [.cell 2 31]) (ans := [.val (.int .i64 3), .val (.int .i64 (i1 : Int))]) (vs := [.agg #[.int .i64 3, .int .i64 (i1 : Int)]]) (l := [.loaded ⟨b1, 0, none⟩ (.int .i64 3), .loaded ⟨b1, 1, none⟩ (.int .i64 (i1 : Int))]) rfl (by kernel_rfl) ⟨hS14.cell 0 rfl rfl, hS14.cell 0 rfl rfl, trivial⟩ ⟨rfl, hS15⟩) a hF⟩))
      · rw [if_neg hc4] at h
        refine ge_known (t := 24) (b := decide (e1.At > 60000)) (c := false) (by kernel_rfl) (decide_eq_false hc4) ?_
        refine ge_batch [9, 10, 11, 12, 13] (ans := [.val (.int .i64 e1.C)]) (vs := [(29, .bool (decide (e1.C < 1))), (28, .bool (decide (e1.C < 1))), (27, .bool (decide (e1.C < 1))), (26, .int .i64 e1.C), (25, .pointer (some ⟨b2, 2, none⟩))]) (l := [.loaded ⟨b2, 2, none⟩ (.int .i64 e1.C)]) (by kernel_rfl) ⟨hS7.cell 0 rfl rfl, trivial⟩ ?_
        by_cases hc5 : e1.C < 1
        · rw [if_pos hc5] at h
          refine ge_known (t := 29) (b := decide (e1.C < 1)) (c := true) (by kernel_rfl) (decide_eq_true hc5) ?_
          refine ge_batch [14, 15, 16, 17, 18, 19, 20, 21, 22, 23, 24, 25, 26, 27] (ans := []) (vs := [(43, .bool true), (42, undef), (41, undef), (40, undef), (39, .bool true), (38, .bool true), (37, undef), (36, undef), (35, undef), (34, .bool true), (33, .bool true), (32, undef), (31, undef), (30, undef)]) (l := []) (by kernel_rfl) trivial ?_
          refine ge_nil fun a hF => hK11 _ _ ?_ a hF
          refine we_true (by kernel_rfl) ?_
          refine we_seq fun K14 hK14 => ?_
          refine we_region [(0, 0), (1, 0), (2, 2)] rfl ?_
          refine ge_batch [0, 1] (ans := []) (vs := [(45, .agg #[.int .i64 3, .int .i64 (i1 : Int)]), (44, .int .i64 (i1 : Int))]) (l := []) (by kernel_rfl) trivial ?_
          have hS16 := hS7.bring 1 rfl
          refine ge_set (b := b1) (j := 0) (cs := #[.int .i64 0, .int .i64 0]) (t := 31) (vs := [.int .i64 3, .int .i64 (i1 : Int)]) hS16 (by kernel_rfl) rfl rfl fun w7 hS17 => ?_
          have hS18 : St w0 w7 [Own.blk b1 (.cells #[.int .i64 3, .int .i64 (i1 : Int)] 31 (0, 0)), Own.blk b2 (.cells #[.int .i64 e1.Task, .int .i64 e1.At, .int .i64 e1.C, .int .i64 e1.Due, .int .i64 e1.P] 106 (0, 0))] := hS17
          refine ge_nil fun a hF => hK14 _ _ ?_ a hF
          have hS19 := hS18.takeN 0
          obtain rfl := Option.some.inj h
          exact we_ret fun a hF => hQ _ _ _ (Outs.out nofun (Exits.on ⟨rfl, (post_ret (rs := [.cell 2 31]) (ans := [.val (.int .i64 3), .val (.int .i64 (i1 : Int))]) (vs := [.agg #[.int .i64 3, .int .i64 (i1 : Int)]]) (l := [.loaded ⟨b1, 0, none⟩ (.int .i64 3), .loaded ⟨b1, 1, none⟩ (.int .i64 (i1 : Int))]) rfl (by kernel_rfl) ⟨hS18.cell 0 rfl rfl, hS18.cell 0 rfl rfl, trivial⟩ ⟨rfl, hS19⟩) a hF⟩))
        · rw [if_neg hc5] at h
          refine ge_known (t := 29) (b := decide (e1.C < 1)) (c := false) (by kernel_rfl) (decide_eq_false hc5) ?_
          refine ge_batch [14, 15, 16, 17, 18] (ans := [.val (.int .i64 e1.C)]) (vs := [(34, .bool (decide (e1.C > 10000))), (33, .bool (decide (e1.C > 10000))), (32, .bool (decide (e1.C > 10000))), (31, .int .i64 e1.C), (30, .pointer (some ⟨b2, 2, none⟩))]) (l := [.loaded ⟨b2, 2, none⟩ (.int .i64 e1.C)]) (by kernel_rfl) ⟨hS7.cell 0 rfl rfl, trivial⟩ ?_
          by_cases hc6 : e1.C > 10000
          · rw [if_pos hc6] at h
            refine ge_known (t := 34) (b := decide (e1.C > 10000)) (c := true) (by kernel_rfl) (decide_eq_true hc6) ?_
            refine ge_batch [19, 20, 21, 22, 23, 24, 25, 26, 27] (ans := []) (vs := [(43, .bool true), (42, undef), (41, undef), (40, undef), (39, .bool true), (38, .bool true), (37, undef), (36, undef), (35, undef)]) (l := []) (by kernel_rfl) trivial ?_
            refine ge_nil fun a hF => hK11 _ _ ?_ a hF
            refine we_true (by kernel_rfl) ?_
            refine we_seq fun K15 hK15 => ?_
            refine we_region [(0, 0), (1, 0), (2, 2)] rfl ?_
            refine ge_batch [0, 1] (ans := []) (vs := [(45, .agg #[.int .i64 3, .int .i64 (i1 : Int)]), (44, .int .i64 (i1 : Int))]) (l := []) (by kernel_rfl) trivial ?_
            have hS20 := hS7.bring 1 rfl
            refine ge_set (b := b1) (j := 0) (cs := #[.int .i64 0, .int .i64 0]) (t := 31) (vs := [.int .i64 3, .int .i64 (i1 : Int)]) hS20 (by kernel_rfl) rfl rfl fun w8 hS21 => ?_
            have hS22 : St w0 w8 [Own.blk b1 (.cells #[.int .i64 3, .int .i64 (i1 : Int)] 31 (0, 0)), Own.blk b2 (.cells #[.int .i64 e1.Task, .int .i64 e1.At, .int .i64 e1.C, .int .i64 e1.Due, .int .i64 e1.P] 106 (0, 0))] := hS21
            refine ge_nil fun a hF => hK15 _ _ ?_ a hF
            have hS23 := hS22.takeN 0
            obtain rfl := Option.some.inj h
            exact we_ret fun a hF => hQ _ _ _ (Outs.out nofun (Exits.on ⟨rfl, (post_ret (rs := [.cell 2 31]) (ans := [.val (.int .i64 3), .val (.int .i64 (i1 : Int))]) (vs := [.agg #[.int .i64 3, .int .i64 (i1 : Int)]]) (l := [.loaded ⟨b1, 0, none⟩ (.int .i64 3), .loaded ⟨b1, 1, none⟩ (.int .i64 (i1 : Int))]) rfl (by kernel_rfl) ⟨hS22.cell 0 rfl rfl, hS22.cell 0 rfl rfl, trivial⟩ ⟨rfl, hS23⟩) a hF⟩))
          · rw [if_neg hc6] at h
            refine ge_known (t := 34) (b := decide (e1.C > 10000)) (c := false) (by kernel_rfl) (decide_eq_false hc6) ?_
            refine ge_batch [19, 20, 21, 22, 23] (ans := [.val (.int .i64 e1.Due)]) (vs := [(39, .bool (decide (e1.Due < 0))), (38, .bool (decide (e1.Due < 0))), (37, .bool (decide (e1.Due < 0))), (36, .int .i64 e1.Due), (35, .pointer (some ⟨b2, 3, none⟩))]) (l := [.loaded ⟨b2, 3, none⟩ (.int .i64 e1.Due)]) (by kernel_rfl) ⟨hS7.cell 0 rfl rfl, trivial⟩ ?_
            by_cases hc7 : e1.Due < 0
            · rw [if_pos hc7] at h
              refine ge_known (t := 39) (b := decide (e1.Due < 0)) (c := true) (by kernel_rfl) (decide_eq_true hc7) ?_
              refine ge_batch [24, 25, 26, 27] (ans := []) (vs := [(43, .bool true), (42, undef), (41, undef), (40, undef)]) (l := []) (by kernel_rfl) trivial ?_
              refine ge_nil fun a hF => hK11 _ _ ?_ a hF
              refine we_true (by kernel_rfl) ?_
              refine we_seq fun K16 hK16 => ?_
              refine we_region [(0, 0), (1, 0), (2, 2)] rfl ?_
              refine ge_batch [0, 1] (ans := []) (vs := [(45, .agg #[.int .i64 3, .int .i64 (i1 : Int)]), (44, .int .i64 (i1 : Int))]) (l := []) (by kernel_rfl) trivial ?_
              have hS24 := hS7.bring 1 rfl
              refine ge_set (b := b1) (j := 0) (cs := #[.int .i64 0, .int .i64 0]) (t := 31) (vs := [.int .i64 3, .int .i64 (i1 : Int)]) hS24 (by kernel_rfl) rfl rfl fun w9 hS25 => ?_
              have hS26 : St w0 w9 [Own.blk b1 (.cells #[.int .i64 3, .int .i64 (i1 : Int)] 31 (0, 0)), Own.blk b2 (.cells #[.int .i64 e1.Task, .int .i64 e1.At, .int .i64 e1.C, .int .i64 e1.Due, .int .i64 e1.P] 106 (0, 0))] := hS25
              refine ge_nil fun a hF => hK16 _ _ ?_ a hF
              have hS27 := hS26.takeN 0
              obtain rfl := Option.some.inj h
              exact we_ret fun a hF => hQ _ _ _ (Outs.out nofun (Exits.on ⟨rfl, (post_ret (rs := [.cell 2 31]) (ans := [.val (.int .i64 3), .val (.int .i64 (i1 : Int))]) (vs := [.agg #[.int .i64 3, .int .i64 (i1 : Int)]]) (l := [.loaded ⟨b1, 0, none⟩ (.int .i64 3), .loaded ⟨b1, 1, none⟩ (.int .i64 (i1 : Int))]) rfl (by kernel_rfl) ⟨hS26.cell 0 rfl rfl, hS26.cell 0 rfl rfl, trivial⟩ ⟨rfl, hS27⟩) a hF⟩))
            · rw [if_neg hc7] at h
              refine ge_known (t := 39) (b := decide (e1.Due < 0)) (c := false) (by kernel_rfl) (decide_eq_false hc7) ?_
              refine ge_batch [24, 25, 26, 27] (ans := [.val (.int .i64 e1.Due)]) (vs := [(43, .bool (decide (e1.Due > 80000))), (42, .bool (decide (e1.Due > 80000))), (41, .int .i64 e1.Due), (40, .pointer (some ⟨b2, 3, none⟩))]) (l := [.loaded ⟨b2, 3, none⟩ (.int .i64 e1.Due)]) (by kernel_rfl) ⟨hS7.cell 0 rfl rfl, trivial⟩ ?_
              refine ge_nil fun a hF => hK11 _ _ ?_ a hF
              by_cases hc8 : e1.Due > 80000
              · rw [if_pos hc8] at h
                refine we_known (t := 43) (b := decide (e1.Due > 80000)) (v := true) (by kernel_rfl) (decide_eq_true hc8) ?_
                refine we_true (by kernel_rfl) ?_
                refine we_seq fun K17 hK17 => ?_
                refine we_region [(0, 0), (1, 0), (2, 2)] rfl ?_
                refine ge_batch [0, 1] (ans := []) (vs := [(45, .agg #[.int .i64 3, .int .i64 (i1 : Int)]), (44, .int .i64 (i1 : Int))]) (l := []) (by kernel_rfl) trivial ?_
                have hS28 := hS7.bring 1 rfl
                refine ge_set (b := b1) (j := 0) (cs := #[.int .i64 0, .int .i64 0]) (t := 31) (vs := [.int .i64 3, .int .i64 (i1 : Int)]) hS28 (by kernel_rfl) rfl rfl fun w10 hS29 => ?_
                have hS30 : St w0 w10 [Own.blk b1 (.cells #[.int .i64 3, .int .i64 (i1 : Int)] 31 (0, 0)), Own.blk b2 (.cells #[.int .i64 e1.Task, .int .i64 e1.At, .int .i64 e1.C, .int .i64 e1.Due, .int .i64 e1.P] 106 (0, 0))] := hS29
                refine ge_nil fun a hF => hK17 _ _ ?_ a hF
                have hS31 := hS30.takeN 0
                obtain rfl := Option.some.inj h
                exact we_ret fun a hF => hQ _ _ _ (Outs.out nofun (Exits.on ⟨rfl, (post_ret (rs := [.cell 2 31]) (ans := [.val (.int .i64 3), .val (.int .i64 (i1 : Int))]) (vs := [.agg #[.int .i64 3, .int .i64 (i1 : Int)]]) (l := [.loaded ⟨b1, 0, none⟩ (.int .i64 3), .loaded ⟨b1, 1, none⟩ (.int .i64 (i1 : Int))]) rfl (by kernel_rfl) ⟨hS30.cell 0 rfl rfl, hS30.cell 0 rfl rfl, trivial⟩ ⟨rfl, hS31⟩) a hF⟩))
              · rw [if_neg hc8] at h
                refine we_known (t := 43) (b := decide (e1.Due > 80000)) (v := false) (by kernel_rfl) (decide_eq_false hc8) ?_
                refine we_false (by kernel_rfl) ?_
                refine we_skip fun a hF => hK9 _ _ ?_ a hF
                refine we_region [(0, 0), (1, 0)] rfl ?_
                refine ge_addn (d := 46) (ty := 3) (x := (.tmp 11)) (y := (.const (.int .i64 1))) (t := 3) (t2 := 3) (k := .i64) (m := i1) (by kernel_rfl) (by kernel_rfl) (by kernel_rfl) (by have h0 := hR0.small; omega) ?_
                refine ge_batch [1] (ans := []) (vs := [(11, .int .i64 ((i1 + 1 : Nat) : Int))]) (l := []) (by kernel_rfl) trivial ?_
                have hS32 := hS7.bring 1 rfl
                have hS33 := hS32.takeN 1
                obtain rfl := Option.some.inj h
                exact ge_nil fun a hF => hQ _ _ _ (Outs.again ⟨hS33, hF.weaken ⟨by kernel_rfl, by kernel_rfl, by kernel_rfl, by kernel_rfl, trivial⟩⟩)
  · rw [if_neg hc2] at h
    refine we_known (t := 12) (b := decide ((i1 : Int) < (l0.length : Int))) (v := false) (by kernel_rfl) (decide_eq_false hc2) ?_
    refine we_false (by kernel_rfl) ?_
    obtain rfl := Option.some.inj h
    exact we_exit fun a hF => hQ _ _ _ (Outs.out nofun (Exits.here ⟨hS, hF.weaken ⟨by kernel_rfl, trivial⟩⟩))
theorem sched_Check_ok (K : Nat) (l0 : List SJob) (A0 : Option Addr) (c0 : Nat) (w0 : World) (hR0 : RdL w0 A0 l0) (hL0 : l0.length ≤ c0) (r : SFault) (h : sched_Check.f K l0 = some r) :
    Calls Try.prog 89 #[.slice A0 l0.length c0] w0 (sched_Check.Post w0 r) := by
  have hS := St.start w0
  unfold sched_Check.f at h
  refine calls_enter (n := 48) (args := [.slice A0 l0.length c0]) (fn := Try.f89) rfl rfl rfl rfl ?_
  show WE _ _ _ _ [(0, .slice A0 l0.length c0)] _
  refine we_seq fun K1 hK1 => ?_
  refine we_region [(0, 1)] rfl ?_
  refine ge_new (d := some 2) (o := .cells #[.int .i64 0, .int .i64 0] 31) (v := fun b => .pointer (some ⟨b, 0, none⟩)) hS (fun b => by kernel_rfl) fun b1 w1 hx1 hS1 => ?_
  refine ge_nil fun a hF => hK1 _ _ ?_ a hF
  refine we_seq fun K2 hK2 => ?_
  refine we_seq fun K3 hK3 => ?_
  refine we_region [(0, 0), (1, 0), (2, 0)] rfl ?_
  refine ge_batch [0, 1, 2] (ans := []) (vs := [(7, .bool (decide ((l0.length : Int) > 4000))), (6, .int .i64 (l0.length : Int)), (5, .slice A0 l0.length c0)]) (l := []) (by kernel_rfl) trivial ?_
  refine ge_nil fun a hF => hK3 _ _ ?_ a hF
  by_cases hc1 : (l0.length : Int) > 4000
  · rw [if_pos hc1] at h
    refine we_known (t := 7) (b := decide ((l0.length : Int) > 4000)) (v := true) (by kernel_rfl) (decide_eq_true hc1) ?_
    refine we_true (by kernel_rfl) ?_
    refine we_seq fun K4 hK4 => ?_
    refine we_region [(0, 0), (1, 2)] rfl ?_
    refine ge_batch [0] (ans := []) (vs := [(8, .agg #[.int .i64 2, .int .i64 0])]) (l := []) (by kernel_rfl) trivial ?_
    refine ge_set (b := b1) (j := 0) (cs := #[.int .i64 0, .int .i64 0]) (t := 31) (vs := [.int .i64 2, .int .i64 0]) hS1 (by kernel_rfl) rfl rfl fun w2 hS2 => ?_
    have hS3 : St w0 w2 [Own.blk b1 (.cells #[.int .i64 2, .int .i64 0] 31 (0, 0))] := hS2
    refine ge_nil fun a hF => hK4 _ _ ?_ a hF
    have hS4 := hS3.takeN 0
    obtain rfl := Option.some.inj h
    exact we_ret (post_ret (rs := [.cell 2 31]) (ans := [.val (.int .i64 2), .val (.int .i64 0)]) (vs := [.agg #[.int .i64 2, .int .i64 0]]) (l := [.loaded ⟨b1, 0, none⟩ (.int .i64 2), .loaded ⟨b1, 1, none⟩ (.int .i64 0)]) rfl (by kernel_rfl) ⟨hS3.cell 0 rfl rfl, hS3.cell 0 rfl rfl, trivial⟩ ⟨rfl, hS4⟩)
  · rw [if_neg hc1] at h
    refine we_known (t := 7) (b := decide ((l0.length : Int) > 4000)) (v := false) (by kernel_rfl) (decide_eq_false hc1) ?_
    refine we_false (by kernel_rfl) ?_
    refine we_skip fun a hF => hK2 _ _ ?_ a hF
    refine we_seq fun K5 hK5 => ?_
    refine we_seq fun K6 hK6 => ?_
    refine we_region [(0, 0), (1, 0), (2, 0)] rfl ?_
    refine ge_batch [0, 1, 2] (ans := []) (vs := [(11, .int .i64 0), (10, .int .i64 (l0.length : Int)), (9, .slice A0 l0.length c0)]) (l := []) (by kernel_rfl) trivial ?_
    refine ge_nil fun a hF => hK6 _ _ ?_ a hF
    refine we_block ?_
    rcases hq1 : iter (sched_Check.r0 l0) K 0 with _ | (_ | rr1)
    · rw [hq1] at h; cases h
    · rw [hq1] at h
      simp only [] at h
      refine we_iter (A := sched_Check.A0 K w0 l0 A0 c0 hR0 hL0 b1 hc1) (B := sched_Check.B0 K w0 l0 A0 c0 hR0 hL0 b1 hc1) hq1 (fun a hF => ⟨hS1, hF.weaken ⟨by kernel_rfl, by kernel_rfl, by kernel_rfl, by kernel_rfl, trivial⟩⟩) (fun s o hf a w hA Q hQ => sched_Check_r0 K w0 l0 A0 c0 hR0 hL0 b1 hc1 s o hf a w hA Q hQ) ?_
      rintro _ a w11 _ ⟨rfl, hS34, hF⟩
      replace hS34 : St w0 w11 [Own.blk b1 (.cells #[.int .i64 0, .int .i64 0] 31 (0, 0))] := hS34
      refine hK5 [(2, .pointer (some ⟨b1, 0, none⟩))] w11 ?_ a hF
      refine we_seq fun K18 hK18 => ?_
      refine we_region [(0, 0), (1, 2)] rfl ?_
      refine ge_batch [0] (ans := []) (vs := [(47, .agg #[.int .i64 0, .int .i64 0])]) (l := []) (by kernel_rfl) trivial ?_
      refine ge_set (b := b1) (j := 0) (cs := #[.int .i64 0, .int .i64 0]) (t := 31) (vs := [.int .i64 0, .int .i64 0]) hS34 (by kernel_rfl) rfl rfl fun w12 hS35 => ?_
      have hS36 : St w0 w12 [Own.blk b1 (.cells #[.int .i64 0, .int .i64 0] 31 (0, 0))] := hS35
      refine ge_nil fun a hF => hK18 _ _ ?_ a hF
      have hS37 := hS36.takeN 0
      obtain rfl := Option.some.inj h
      exact we_ret (post_ret (rs := [.cell 2 31]) (ans := [.val (.int .i64 0), .val (.int .i64 0)]) (vs := [.agg #[.int .i64 0, .int .i64 0]]) (l := [.loaded ⟨b1, 0, none⟩ (.int .i64 0), .loaded ⟨b1, 1, none⟩ (.int .i64 0)]) rfl (by kernel_rfl) ⟨hS36.cell 0 rfl rfl, hS36.cell 0 rfl rfl, trivial⟩ ⟨rfl, hS37⟩)
    · rw [hq1] at h
      simp only [] at h
      refine we_iter (A := sched_Check.A0 K w0 l0 A0 c0 hR0 hL0 b1 hc1) (B := sched_Check.B0 K w0 l0 A0 c0 hR0 hL0 b1 hc1) hq1 (fun a hF => ⟨hS1, hF.weaken ⟨by kernel_rfl, by kernel_rfl, by kernel_rfl, by kernel_rfl, trivial⟩⟩) (fun s o hf a w hA Q hQ => sched_Check_r0 K w0 l0 A0 c0 hR0 hL0 b1 hc1 s o hf a w hA Q hQ) ?_
      rintro _ a w1 _ ⟨rfl, hb⟩
      obtain rfl := Option.some.inj h
      exact hb

/-! punctual/modes.Hosted$1 -/
abbrev modes_Hosted_1.Post (w0 : World) (r : Bool) (e : Ending) (w : World) : Prop := e = .returned (.bool r) ∧ St w0 w []
def modes_Hosted_1.f (K : Nat) (x0 : Int) (xf_0 : Int) (lf_1 : List SWindow) : Option Bool :=
  match modes_Open.f K xf_0 lf_1 x0 with
  | none => none
  | some r1 =>
    some r1
theorem modes_Hosted_1_ok (K : Nat) (x0 : Int) (bf_0 : Nat) (xf_0 : Int) (bf_1 : Nat) (lf_1 : List SWindow) (Af_1 : Option Addr) (cf_1 : Nat) (w0 : World) (hBf_0 : Glob w0 bf_0 [.int .i64 xf_0]) (hRf_1 : RdL w0 Af_1 lf_1) (hLf_1 : lf_1.length ≤ cf_1) (hBf_1 : Glob w0 bf_1 [.slice Af_1 lf_1.length cf_1]) (r : Bool) (h : modes_Hosted_1.f K x0 xf_0 lf_1 = some r) :
    Calls Try.prog 54 #[.int .i64 x0, .pointer (some ⟨bf_0, 0, none⟩), .pointer (some ⟨bf_1, 0, none⟩)] w0 (modes_Hosted_1.Post w0 r) := by
  have hS := St.start w0
  unfold modes_Hosted_1.f at h
  refine calls_enter (n := 9) (args := [.int .i64 x0, .pointer (some ⟨bf_0, 0, none⟩), .pointer (some ⟨bf_1, 0, none⟩)]) (fn := Try.f54) rfl rfl rfl rfl ?_
  show WE _ _ _ _ [(0, .int .i64 x0), (1, .pointer (some ⟨bf_0, 0, none⟩)), (2, .pointer (some ⟨bf_1, 0, none⟩))] _
  refine we_seq fun K1 hK1 => ?_
  refine we_region [(0, 0)] rfl ?_
  refine ge_batch [0] (ans := []) (vs := [(4, .bool false)]) (l := []) (by kernel_rfl) trivial ?_
  refine ge_nil fun a hF => hK1 _ _ ?_ a hF
  refine we_seq fun K2 hK2 => ?_
  refine we_region [(0, 0), (1, 0), (2, 0), (3, 1), (4, 0)] rfl ?_
  rcases hq1 : modes_Open.f K xf_0 lf_1 x0 with _ | r1
  · rw [hq1] at h; cases h
  rw [hq1] at h
  simp only [] at h
  refine ge_batch [0, 1, 2] (ans := [.val (.int .i64 xf_0), .val (.slice Af_1 lf_1.length cf_1)]) (vs := [(7, .int .i64 x0), (6, .slice Af_1 lf_1.length cf_1), (5, .int .i64 xf_0)]) (l := [.loaded ⟨bf_0, 0, none⟩ (.int .i64 xf_0), .loaded ⟨bf_1, 0, none⟩ (.slice Af_1 lf_1.length cf_1)]) (by kernel_rfl) ⟨hS.glob hBf_0 rfl, hS.glob hBf_1 rfl, trivial⟩ ?_
  refine ge_call (d := some 8) (f := 50) (args := #[.int .i64 xf_0, .slice Af_1 lf_1.length cf_1, .int .i64 x0]) (by kernel_rfl) (modes_Open_ok K xf_0 lf_1 Af_1 cf_1 x0 _ (hS.rd hRf_1) hLf_1 _ hq1) ?_
  rintro _ w1 ⟨rfl, hS1⟩
  refine ⟨_, rfl, hS1.below, ?_⟩
  have hS2 := hS.call hS1
  refine ge_batch [4] (ans := []) (vs := [(4, .bool r1)]) (l := []) (by kernel_rfl) trivial ?_
  refine ge_nil fun a hF => hK2 _ _ ?_ a hF
  obtain rfl := Option.some.inj h
  exact we_ret (post_ret (rs := [.tmp 4]) (ans := []) (vs := [.bool r1]) (l := []) rfl (by kernel_rfl) trivial ⟨rfl, hS2⟩)

/-! punctual/modes.hosted$1 -/
abbrev modes_hosted_1.Post (w0 : World) (r : Bool) (e : Ending) (w : World) : Prop := e = .returned (.bool r) ∧ St w0 w []
def modes_hosted_1.f (x0 : Int) (lf_0 : List SJob) (xf_1 : Int) (lf_2 : List Int) : Option Bool :=
  if 0 ≤ x0 then
    match lf_0[(x0).toNat]? with
    | none => none
    | some e1 =>
      if e1.At ≤ xf_1 then
        match lf_2[(x0).toNat]? with
        | none => none
        | some e2 =>
          some (decide (e2 > 0))
      else
        some false
  else
    none
theorem modes_hosted_1_ok (x0 : Int) (bf_0 : Nat) (lf_0 : List SJob) (Af_0 : Option Addr) (cf_0 : Nat) (bf_1 : Nat) (xf_1 : Int) (bf_2 : Nat) (lf_2 : List Int) (Af_2 : Option Addr) (cf_2 : Nat) (w0 : World) (hRf_0 : RdL w0 Af_0 lf_0) (hLf_0 : lf_0.length ≤ cf_0) (hBf_0 : Glob w0 bf_0 [.slice Af_0 lf_0.length cf_0]) (hBf_1 : Glob w0 bf_1 [.int .i64 xf_1]) (hRf_2 : RdL w0 Af_2 lf_2) (hLf_2 : lf_2.length ≤ cf_2) (hBf_2 : Glob w0 bf_2 [.slice Af_2 lf_2.length cf_2]) (r : Bool) (h : modes_hosted_1.f x0 lf_0 xf_1 lf_2 = some r) :
    Calls Try.prog 91 #[.int .i64 x0, .pointer (some ⟨bf_0, 0, none⟩), .pointer (some ⟨bf_1, 0, none⟩), .pointer (some ⟨bf_2, 0, none⟩)] w0 (modes_hosted_1.Post w0 r) := by
  have hS := St.start w0
  unfold modes_hosted_1.f at h
  refine calls_enter (n := 20) (args := [.int .i64 x0, .pointer (some ⟨bf_0, 0, none⟩), .pointer (some ⟨bf_1, 0, none⟩), .pointer (some ⟨bf_2, 0, none⟩)]) (fn := Try.f91) rfl rfl rfl rfl ?_
  show WE _ _ _ _ [(0, .int .i64 x0), (1, .pointer (some ⟨bf_0, 0, none⟩)), (2, .pointer (some ⟨bf_1, 0, none⟩)), (3, .pointer (some ⟨bf_2, 0, none⟩))] _
  refine we_seq fun K1 hK1 => ?_
  refine we_region [(0, 0)] rfl ?_
  refine ge_batch [0] (ans := []) (vs := [(5, .bool false)]) (l := []) (by kernel_rfl) trivial ?_
  refine ge_nil fun a hF => hK1 _ _ ?_ a hF
  refine we_seq fun K2 hK2 => ?_
  refine we_draws (by kernel_rfl) [(0, 0), (1, 0), (2, 0), (3, 0), (4, 0), (5, 0), (6, 0), (7, 0), (8, 0), (9, 0), (10, 0), (11, 0), (12, 0), (13, 0), (14, 0)] (by kernel_rfl) ?_
  have hS1 := hS.drew
  refine ge_batch [0, 1] (ans := [.val (.slice Af_0 lf_0.length cf_0)]) (vs := [(7, .int .i64 x0), (6, .slice Af_0 lf_0.length cf_0)]) (l := [.loaded ⟨bf_0, 0, none⟩ (.slice Af_0 lf_0.length cf_0)]) (by kernel_rfl) ⟨hS1.glob hBf_0 rfl, trivial⟩ ?_
  by_cases hc1 : 0 ≤ x0
  · rw [if_pos hc1] at h
    rcases hx1 : lf_0[(x0).toNat]? with _ | e1
    · rw [hx1] at h; cases h
    rw [hx1] at h
    simp only [] at h
    refine ge_index (d := 8) (ty := 0) (t := 28) (el := 106) (sz := 5) (m := lf_0.length) (c := cf_0) (x := (.tmp 6)) (y := (.tmp 7)) (A := Af_0) (k' := .i64) (j := x0) (jn := ((x0).toNat)) (b0 := blkOf Af_0) (o0 := offOf Af_0) (by kernel_rfl) (by kernel_rfl) (by kernel_rfl) (by kernel_rfl) (by kernel_rfl) ((hS1.rd hRf_0).eqSome (pos_of_get hx1)) (Int.toNat_of_nonneg hc1).symm (lt_of_get hx1) ?_
    refine ge_batch [3, 4, 5, 6, 7] (ans := [.val (.int .i64 e1.At), .val (.int .i64 xf_1)]) (vs := [(13, .bool (decide (e1.At ≤ xf_1))), (12, .bool (decide (e1.At ≤ xf_1))), (11, .int .i64 xf_1), (10, .int .i64 e1.At), (9, .pointer (some ⟨blkOf Af_0, offOf Af_0 + (x0).toNat * 5 + 1, none⟩))]) (l := [.loaded ⟨blkOf Af_0, offOf Af_0 + ((x0).toNat) * 5 + 1, none⟩ (.int .i64 e1.At), .loaded ⟨bf_1, 0, none⟩ (.int .i64 xf_1)]) (by kernel_rfl) ⟨RdL.cell (j := 1) (hS1.rd hRf_0) hx1 rfl, hS1.glob hBf_1 rfl, trivial⟩ ?_
    by_cases hc2 : e1.At ≤ xf_1
    · rw [if_pos hc2] at h
      refine ge_known (t := 13) (b := decide (e1.At ≤ xf_1)) (c := true) (by kernel_rfl) (decide_eq_true hc2) ?_
      refine ge_batch [8, 9] (ans := [.val (.slice Af_2 lf_2.length cf_2)]) (vs := [(15, .int .i64 x0), (14, .slice Af_2 lf_2.length cf_2)]) (l := [.loaded ⟨bf_2, 0, none⟩ (.slice Af_2 lf_2.length cf_2)]) (by kernel_rfl) ⟨hS1.glob hBf_2 rfl, trivial⟩ ?_
      rcases hx2 : lf_2[(x0).toNat]? with _ | e2
      · rw [hx2] at h; cases h
      rw [hx2] at h
      simp only [] at h
      refine ge_index (d := 16) (ty := 0) (t := 25) (el := 3) (sz := 1) (m := lf_2.length) (c := cf_2) (x := (.tmp 14)) (y := (.tmp 15)) (A := Af_2) (k' := .i64) (j := x0) (jn := ((x0).toNat)) (b0 := blkOf Af_2) (o0 := offOf Af_2) (by kernel_rfl) (by kernel_rfl) (by kernel_rfl) (by kernel_rfl) (by kernel_rfl) ((hS1.rd hRf_2).eqSome (pos_of_get hx2)) (Int.toNat_of_nonneg hc1).symm (lt_of_get hx2) ?_
      refine ge_batch [11, 12, 13, 14] (ans := [.val (.int .i64 e2)]) (vs := [(5, .bool (decide (e2 > 0))), (19, .bool (decide (e2 > 0))), (18, .bool (decide (e2 > 0))), (17, .int .i64 e2)]) (l := [.loaded ⟨blkOf Af_2, offOf Af_2 + ((x0).toNat) * 1, none⟩ (.int .i64 e2)]) (by kernel_rfl) ⟨RdL.cell (j := 0) (hS1.rd hRf_2) hx2 rfl, trivial⟩ ?_
      refine ge_nil fun a hF => hK2 _ _ ?_ a hF
      obtain rfl := Option.some.inj h
      exact we_ret (post_ret (rs := [.tmp 5]) (ans := []) (vs := [.bool (decide (e2 > 0))]) (l := []) rfl (by kernel_rfl) trivial ⟨rfl, hS1⟩)
    · rw [if_neg hc2] at h
      refine ge_known (t := 13) (b := decide (e1.At ≤ xf_1)) (c := false) (by kernel_rfl) (decide_eq_false hc2) ?_
      refine ge_batch [8, 9, 10, 11, 12, 13, 14] (ans := []) (vs := [(5, .bool false), (19, .bool false), (18, undef), (17, undef), (16, undef), (15, undef), (14, undef)]) (l := []) (by kernel_rfl) trivial ?_
      refine ge_nil fun a hF => hK2 _ _ ?_ a hF
      obtain rfl := Option.some.inj h
      exact we_ret (post_ret (rs := [.tmp 5]) (ans := []) (vs := [.bool false]) (l := []) rfl (by kernel_rfl) trivial ⟨rfl, hS1⟩)
  · rw [if_neg hc1] at h
    cases h

/-! punctual/sched.rule -/
abbrev sched_rule.Post (w0 : World) (r : Nat) (e : Ending) (w : World) : Prop := e = .returned (fnVal r) ∧ St w0 w []
def sched_rule.f (x0 : Int) : Nat :=
  if x0 = 1 then
    168
  else
    if x0 = 2 then
      169
    else
      0
theorem sched_rule_ok (x0 : Int) (w0 : World) (r : Nat) (h : sched_rule.f x0 = r) :
    Calls Try.prog 130 #[.int .i64 x0] w0 (sched_rule.Post w0 r) := by
  have hS := St.start w0
  unfold sched_rule.f at h
  refine calls_enter (n := 8) (args := [.int .i64 x0]) (fn := Try.f130) rfl rfl rfl rfl ?_
  show WE _ _ _ _ [(0, .int .i64 x0)] _
  refine we_seq fun K1 hK1 => ?_
  refine we_region [(0, 0)] rfl ?_
  refine ge_batch [0] (ans := []) (vs := [(2, .nilFunc)]) (l := []) (by kernel_rfl) trivial ?_
  refine ge_nil fun a hF => hK1 _ _ ?_ a hF
  refine we_seq fun K2 hK2 => ?_
  refine we_seq fun K3 hK3 => ?_
  refine we_region [(0, 0)] rfl ?_
  refine ge_batch [0] (ans := []) (vs := [(3, .int .i64 x0)]) (l := []) (by kernel_rfl) trivial ?_
  refine ge_nil fun a hF => hK3 _ _ ?_ a hF
  refine we_block ?_
  refine we_seq fun K4 hK4 => ?_
  refine we_region [(0, 0), (1, 0)] rfl ?_
  refine ge_batch [0, 1] (ans := []) (vs := [(4, .bool (x0 == 1)), (5, .bool (x0 == 1))]) (l := []) (by kernel_rfl) trivial ?_
  refine ge_nil fun a hF => hK4 _ _ ?_ a hF
  by_cases hc1 : x0 = 1
  · rw [if_pos hc1] at h
    refine we_known (t := 4) (b := (x0 == 1)) (v := true) (by kernel_rfl) (beq_iff_eq.2 hc1) ?_
    refine we_true (by kernel_rfl) ?_
    refine we_seq fun K5 hK5 => ?_
    refine we_region [(0, 0)] rfl ?_
    refine ge_batch [0] (ans := []) (vs := [(2, .func (.func 167) #[] #[])]) (l := []) (by kernel_rfl) trivial ?_
    refine ge_nil fun a hF => hK5 _ _ ?_ a hF
    subst h
    exact we_ret (post_ret (rs := [.tmp 2]) (ans := []) (vs := [.func (.func 167) #[] #[]]) (l := []) rfl (by kernel_rfl) trivial ⟨rfl, hS⟩)
  · rw [if_neg hc1] at h
    refine we_known (t := 4) (b := (x0 == 1)) (v := false) (by kernel_rfl) (beq_eq_false_iff_ne.2 hc1) ?_
    refine we_false (by kernel_rfl) ?_
    refine we_seq fun K6 hK6 => ?_
    refine we_region [(0, 0), (1, 0)] rfl ?_
    refine ge_batch [0, 1] (ans := []) (vs := [(6, .bool (x0 == 2)), (7, .bool (x0 == 2))]) (l := []) (by kernel_rfl) trivial ?_
    refine ge_nil fun a hF => hK6 _ _ ?_ a hF
    by_cases hc2 : x0 = 2
    · rw [if_pos hc2] at h
      refine we_known (t := 6) (b := (x0 == 2)) (v := true) (by kernel_rfl) (beq_iff_eq.2 hc2) ?_
      refine we_true (by kernel_rfl) ?_
      refine we_seq fun K7 hK7 => ?_
      refine we_region [(0, 0)] rfl ?_
      refine ge_batch [0] (ans := []) (vs := [(2, .func (.func 168) #[] #[])]) (l := []) (by kernel_rfl) trivial ?_
      refine ge_nil fun a hF => hK7 _ _ ?_ a hF
      subst h
      exact we_ret (post_ret (rs := [.tmp 2]) (ans := []) (vs := [.func (.func 168) #[] #[]]) (l := []) rfl (by kernel_rfl) trivial ⟨rfl, hS⟩)
    · rw [if_neg hc2] at h
      refine we_known (t := 6) (b := (x0 == 2)) (v := false) (by kernel_rfl) (beq_eq_false_iff_ne.2 hc2) ?_
      refine we_false (by kernel_rfl) ?_
      refine we_skip fun a hF => hK2 _ _ ?_ a hF
      refine we_seq fun K8 hK8 => ?_
      refine we_region [(0, 0)] rfl ?_
      refine ge_batch [0] (ans := []) (vs := [(2, .nilFunc)]) (l := []) (by kernel_rfl) trivial ?_
      refine ge_nil fun a hF => hK8 _ _ ?_ a hF
      subst h
      exact we_ret (post_ret (rs := [.tmp 2]) (ans := []) (vs := [.nilFunc]) (l := []) rfl (by kernel_rfl) trivial ⟨rfl, hS⟩)

/-! cmp.isNaN[int] -/
abbrev cmp_isNaN_int.Post (w0 : World) (r : Bool) (e : Ending) (w : World) : Prop := e = .returned (.bool r) ∧ St w0 w []
def cmp_isNaN_int.f (x0 : Int) : Bool :=
  false
theorem cmp_isNaN_int_ok (x0 : Int) (w0 : World) (r : Bool) (h : cmp_isNaN_int.f x0 = r) :
    Calls Try.prog 169 #[.int .i64 x0] w0 (cmp_isNaN_int.Post w0 r) := by
  have hS := St.start w0
  unfold cmp_isNaN_int.f at h
  refine calls_enter (n := 6) (args := [.int .i64 x0]) (fn := Try.f169) rfl rfl rfl rfl ?_
  show WE _ _ _ _ [(0, .int .i64 x0)] _
  refine we_seq fun K1 hK1 => ?_
  refine we_region [(0, 0)] rfl ?_
  refine ge_batch [0] (ans := []) (vs := [(2, .bool false)]) (l := []) (by kernel_rfl) trivial ?_
  refine ge_nil fun a hF => hK1 _ _ ?_ a hF
  refine we_seq fun K2 hK2 => ?_
  refine we_region [(0, 0), (1, 0), (2, 0), (3, 0)] rfl ?_
  refine ge_batch [0, 1, 2] (ans := []) (vs := [(5, .bool (x0 != x0)), (4, .int .i64 x0), (3, .int .i64 x0)]) (l := []) (by kernel_rfl) trivial ?_
  refine ge_known (t := 5) (b := (x0 != x0)) (c := false) (by kernel_rfl) (by simp) ?_
  refine ge_batch [3] (ans := []) (vs := [(2, .bool false)]) (l := []) (by kernel_rfl) trivial ?_
  refine ge_nil fun a hF => hK2 _ _ ?_ a hF
  subst h
  exact we_ret (post_ret (rs := [.tmp 2]) (ans := []) (vs := [.bool false]) (l := []) rfl (by kernel_rfl) trivial ⟨rfl, hS⟩)

/-! cmp.Compare[int] -/
abbrev cmp_Compare_int.Post (w0 : World) (r : Int) (e : Ending) (w : World) : Prop := e = .returned (.int .i64 r) ∧ St w0 w []
def cmp_Compare_int.f (x0 : Int) (x1 : Int) : Int :=
  if (cmp_isNaN_int.f x0) = true then
    if (cmp_isNaN_int.f x1) = true then
      0
    else
      (-1)
  else
    if (cmp_isNaN_int.f x1) = true then
      1
    else
      if x0 < x1 then
        (-1)
      else
        if x0 > x1 then
          1
        else
          0
theorem cmp_Compare_int_ok (x0 : Int) (x1 : Int) (w0 : World) (r : Int) (h : cmp_Compare_int.f x0 x1 = r) :
    Calls Try.prog 131 #[.int .i64 x0, .int .i64 x1] w0 (cmp_Compare_int.Post w0 r) := by
  have hS := St.start w0
  unfold cmp_Compare_int.f at h
  refine calls_enter (n := 20) (args := [.int .i64 x0, .int .i64 x1]) (fn := Try.f131) rfl rfl rfl rfl ?_
  show WE _ _ _ _ [(0, .int .i64 x0), (1, .int .i64 x1)] _
  refine we_seq fun K1 hK1 => ?_
  refine we_region [(0, 0)] rfl ?_
  refine ge_batch [0] (ans := []) (vs := [(4, .int .i64 0)]) (l := []) (by kernel_rfl) trivial ?_
  refine ge_nil fun a hF => hK1 _ _ ?_ a hF
  refine we_seq fun K2 hK2 => ?_
  refine we_region [(0, 0), (1, 1), (2, 0)] rfl ?_
  refine ge_batch [0] (ans := []) (vs := [(7, .int .i64 x0)]) (l := []) (by kernel_rfl) trivial ?_
  refine ge_call (d := some 8) (f := 169) (args := #[.int .i64 x0]) (by kernel_rfl) (cmp_isNaN_int_ok x0 _ _ rfl) ?_
  rintro _ w1 ⟨rfl, hS1⟩
  refine ⟨_, rfl, hS1.below, ?_⟩
  have hS2 := hS.call hS1
  refine ge_batch [2] (ans := []) (vs := [(5, .bool (cmp_isNaN_int.f x0))]) (l := []) (by kernel_rfl) trivial ?_
  refine ge_nil fun a hF => hK2 _ _ ?_ a hF
  refine we_seq fun K3 hK3 => ?_
  refine we_region [(0, 0), (1, 1), (2, 0)] rfl ?_
  refine ge_batch [0] (ans := []) (vs := [(9, .int .i64 x1)]) (l := []) (by kernel_rfl) trivial ?_
  refine ge_call (d := some 10) (f := 169) (args := #[.int .i64 x1]) (by kernel_rfl) (cmp_isNaN_int_ok x1 _ _ rfl) ?_
  rintro _ w2 ⟨rfl, hS3⟩
  refine ⟨_, rfl, hS3.below, ?_⟩
  have hS4 := hS2.call hS3
  refine ge_batch [2] (ans := []) (vs := [(6, .bool (cmp_isNaN_int.f x1))]) (l := []) (by kernel_rfl) trivial ?_
  refine ge_nil fun a hF => hK3 _ _ ?_ a hF
  refine we_seq fun K4 hK4 => ?_
  refine we_seq fun K5 hK5 => ?_
  refine we_region [(0, 0)] rfl ?_
  refine ge_batch [0] (ans := []) (vs := [(11, .bool (cmp_isNaN_int.f x0))]) (l := []) (by kernel_rfl) trivial ?_
  refine ge_nil fun a hF => hK5 _ _ ?_ a hF
  by_cases hc1 : (cmp_isNaN_int.f x0) = true
  · rw [if_pos hc1] at h
    refine we_known (t := 11) (b := (cmp_isNaN_int.f x0)) (v := true) (by kernel_rfl) hc1 ?_
    refine we_true (by kernel_rfl) ?_
    refine we_seq fun K6 hK6 => ?_
    refine we_seq fun K7 hK7 => ?_
    refine we_region [(0, 0)] rfl ?_
    refine ge_batch [0] (ans := []) (vs := [(12, .bool (cmp_isNaN_int.f x1))]) (l := []) (by kernel_rfl) trivial ?_
    refine ge_nil fun a hF => hK7 _ _ ?_ a hF
    by_cases hc2 : (cmp_isNaN_int.f x1) = true
    · rw [if_pos hc2] at h
      refine we_known (t := 12) (b := (cmp_isNaN_int.f x1)) (v := true) (by kernel_rfl) hc2 ?_
      refine we_true (by kernel_rfl) ?_
      refine we_seq fun K8 hK8 => ?_
      refine we_region [(0, 0)] rfl ?_
      refine ge_batch [0] (ans := []) (vs := [(4, .int .i64 0)]) (l := []) (by kernel_rfl) trivial ?_
      refine ge_nil fun a hF => hK8 _ _ ?_ a hF
      subst h
      exact we_ret (post_ret (rs := [.tmp 4]) (ans := []) (vs := [.int .i64 0]) (l := []) rfl (by kernel_rfl) trivial ⟨rfl, hS4⟩)
    · rw [if_neg hc2] at h
      refine we_known (t := 12) (b := (cmp_isNaN_int.f x1)) (v := false) (by kernel_rfl) (Bool.eq_false_iff.2 hc2) ?_
      refine we_false (by kernel_rfl) ?_
      refine we_skip fun a hF => hK6 _ _ ?_ a hF
      refine we_seq fun K9 hK9 => ?_
      refine we_region [(0, 0)] rfl ?_
      refine ge_batch [0] (ans := []) (vs := [(4, .int .i64 (-1))]) (l := []) (by kernel_rfl) trivial ?_
      refine ge_nil fun a hF => hK9 _ _ ?_ a hF
      subst h
      exact we_ret (post_ret (rs := [.tmp 4]) (ans := []) (vs := [.int .i64 (-1)]) (l := []) rfl (by kernel_rfl) trivial ⟨rfl, hS4⟩)
  · rw [if_neg hc1] at h
    refine we_known (t := 11) (b := (cmp_isNaN_int.f x0)) (v := false) (by kernel_rfl) (Bool.eq_false_iff.2 hc1) ?_
    refine we_false (by kernel_rfl) ?_
    refine we_skip fun a hF => hK4 _ _ ?_ a hF
    refine we_seq fun K10 hK10 => ?_
    refine we_seq fun K11 hK11 => ?_
    refine we_region [(0, 0)] rfl ?_
    refine ge_batch [0] (ans := []) (vs := [(13, .bool (cmp_isNaN_int.f x1))]) (l := []) (by kernel_rfl) trivial ?_
    refine ge_nil fun a hF => hK11 _ _ ?_ a hF
    by_cases hc3 : (cmp_isNaN_int.f x1) = true
    · rw [if_pos hc3] at h
      refine we_known (t := 13) (b := (cmp_isNaN_int.f x1)) (v := true) (by kernel_rfl) hc3 ?_
      refine we_true (by kernel_rfl) ?_
      refine we_seq fun K12 hK12 => ?_
      refine we_region [(0, 0)] rfl ?_
      refine ge_batch [0] (ans := []) (vs := [(4, .int .i64 1)]) (l := []) (by kernel_rfl) trivial ?_
      refine ge_nil fun a hF => hK12 _ _ ?_ a hF
      subst h
      exact we_ret (post_ret (rs := [.tmp 4]) (ans := []) (vs := [.int .i64 1]) (l := []) rfl (by kernel_rfl) trivial ⟨rfl, hS4⟩)
    · rw [if_neg hc3] at h
      refine we_known (t := 13) (b := (cmp_isNaN_int.f x1)) (v := false) (by kernel_rfl) (Bool.eq_false_iff.2 hc3) ?_
      refine we_false (by kernel_rfl) ?_
      refine we_skip fun a hF => hK10 _ _ ?_ a hF
      refine we_seq fun K13 hK13 => ?_
      refine we_seq fun K14 hK14 => ?_
      refine we_region [(0, 0), (1, 0), (2, 0)] rfl ?_
      refine ge_batch [0, 1, 2] (ans := []) (vs := [(16, .bool (decide (x0 < x1))), (15, .int .i64 x1), (14, .int .i64 x0)]) (l := []) (by kernel_rfl) trivial ?_
      refine ge_nil fun a hF => hK14 _ _ ?_ a hF
      by_cases hc4 : x0 < x1
      · rw [if_pos hc4] at h
        refine we_known (t := 16) (b := decide (x0 < x1)) (v := true) (by kernel_rfl) (decide_eq_true hc4) ?_
        refine we_true (by kernel_rfl) ?_
        refine we_seq fun K15 hK15 => ?_
        refine we_region [(0, 0)] rfl ?_
        refine ge_batch [0] (ans := []) (vs := [(4, .int .i64 (-1))]) (l := []) (by kernel_rfl) trivial ?_
        refine ge_nil fun a hF => hK15 _ _ ?_ a hF
        subst h
        exact we_ret (post_ret (rs := [.tmp 4]) (ans := []) (vs := [.int .i64 (-1)]) (l := []) rfl (by kernel_rfl) trivial ⟨rfl, hS4⟩)
      · rw [if_neg hc4] at h
        refine we_known (t := 16) (b := decide (x0 < x1)) (v := false) (by kernel_rfl) (decide_eq_false hc4) ?_
        refine we_false (by kernel_rfl) ?_
        refine we_skip fun a hF => hK13 _ _ ?_ a hF
        refine we_seq fun K16 hK16 => ?_
        refine we_seq fun K17 hK17 => ?_
        refine we_region [(0, 0), (1, 0), (2, 0)] rfl ?_
        refine ge_batch [0, 1, 2] (ans := []) (vs := [(19, .bool (decide (x0 > x1))), (18, .int .i64 x1), (17, .int .i64 x0)]) (l := []) (by kernel_rfl) trivial ?_
        refine ge_nil fun a hF => hK17 _ _ ?_ a hF
        by_cases hc5 : x0 > x1
        · rw [if_pos hc5] at h
          refine we_known (t := 19) (b := decide (x0 > x1)) (v := true) (by kernel_rfl) (decide_eq_true hc5) ?_
          refine we_true (by kernel_rfl) ?_
          refine we_seq fun K18 hK18 => ?_
          refine we_region [(0, 0)] rfl ?_
          refine ge_batch [0] (ans := []) (vs := [(4, .int .i64 1)]) (l := []) (by kernel_rfl) trivial ?_
          refine ge_nil fun a hF => hK18 _ _ ?_ a hF
          subst h
          exact we_ret (post_ret (rs := [.tmp 4]) (ans := []) (vs := [.int .i64 1]) (l := []) rfl (by kernel_rfl) trivial ⟨rfl, hS4⟩)
        · rw [if_neg hc5] at h
          refine we_known (t := 19) (b := decide (x0 > x1)) (v := false) (by kernel_rfl) (decide_eq_false hc5) ?_
          refine we_false (by kernel_rfl) ?_
          refine we_skip fun a hF => hK16 _ _ ?_ a hF
          refine we_seq fun K19 hK19 => ?_
          refine we_region [(0, 0)] rfl ?_
          refine ge_batch [0] (ans := []) (vs := [(4, .int .i64 0)]) (l := []) (by kernel_rfl) trivial ?_
          refine ge_nil fun a hF => hK19 _ _ ?_ a hF
          subst h
          exact we_ret (post_ret (rs := [.tmp 4]) (ans := []) (vs := [.int .i64 0]) (l := []) rfl (by kernel_rfl) trivial ⟨rfl, hS4⟩)

/-! punctual/sched.byPriority -/
abbrev sched_byPriority.Post (w0 : World) (r : Int) (e : Ending) (w : World) : Prop := e = .returned (.int .i64 r) ∧ St w0 w []
def sched_byPriority.f (x0 : SJob) (x1 : SJob) : Int :=
  (cmp_Compare_int.f x1.P x0.P)
theorem sched_byPriority_ok (x0 : SJob) (x1 : SJob) (w0 : World) (r : Int) (h : sched_byPriority.f x0 x1 = r) :
    Calls Try.prog 167 #[.agg #[.int .i64 x0.Task, .int .i64 x0.At, .int .i64 x0.C, .int .i64 x0.Due, .int .i64 x0.P], .agg #[.int .i64 x1.Task, .int .i64 x1.At, .int .i64 x1.C, .int .i64 x1.Due, .int .i64 x1.P]] w0 (sched_byPriority.Post w0 r) := by
  have hS := St.start w0
  unfold sched_byPriority.f at h
  refine calls_enter (n := 10) (args := [.agg #[.int .i64 x0.Task, .int .i64 x0.At, .int .i64 x0.C, .int .i64 x0.Due, .int .i64 x0.P], .agg #[.int .i64 x1.Task, .int .i64 x1.At, .int .i64 x1.C, .int .i64 x1.Due, .int .i64 x1.P]]) (fn := Try.f167) rfl rfl rfl rfl ?_
  show WE _ _ _ _ [(0, .agg #[.int .i64 x0.Task, .int .i64 x0.At, .int .i64 x0.C, .int .i64 x0.Due, .int .i64 x0.P]), (1, .agg #[.int .i64 x1.Task, .int .i64 x1.At, .int .i64 x1.C, .int .i64 x1.Due, .int .i64 x1.P])] _
  refine we_seq fun K1 hK1 => ?_
  refine we_region [(0, 1), (1, 1), (2, 0)] rfl ?_
  refine ge_new (d := some 2) (o := .cells #[.int .i64 x0.Task, .int .i64 x0.At, .int .i64 x0.C, .int .i64 x0.Due, .int .i64 x0.P] 106) (v := fun b => .pointer (some ⟨b, 0, none⟩)) hS (fun b => by kernel_rfl) fun b1 w1 hx1 hS1 => ?_
  refine ge_new (d := some 3) (o := .cells #[.int .i64 x1.Task, .int .i64 x1.At, .int .i64 x1.C, .int .i64 x1.Due, .int .i64 x1.P] 106) (v := fun b => .pointer (some ⟨b, 0, none⟩)) hS1 (fun b => by kernel_rfl) fun b2 w2 hx2 hS2 => ?_
  refine ge_batch [2] (ans := []) (vs := [(4, .int .i64 0)]) (l := []) (by kernel_rfl) trivial ?_
  refine ge_nil fun a hF => hK1 _ _ ?_ a hF
  refine we_seq fun K2 hK2 => ?_
  refine we_region [(0, 0), (1, 0), (2, 0), (3, 0), (4, 1), (5, 0)] rfl ?_
  refine ge_batch [0, 1, 2, 3] (ans := [.val (.int .i64 x1.P), .val (.int .i64 x0.P)]) (vs := [(8, .int .i64 x0.P), (7, .pointer (some ⟨b1, 4, none⟩)), (6, .int .i64 x1.P), (5, .pointer (some ⟨b2, 4, none⟩))]) (l := [.loaded ⟨b2, 4, none⟩ (.int .i64 x1.P), .loaded ⟨b1, 4, none⟩ (.int .i64 x0.P)]) (by kernel_rfl) ⟨hS2.cell 0 rfl rfl, hS2.cell 1 rfl rfl, trivial⟩ ?_
  refine ge_call (d := some 9) (f := 131) (args := #[.int .i64 x1.P, .int .i64 x0.P]) (by kernel_rfl) (cmp_Compare_int_ok x1.P x0.P _ _ rfl) ?_
  rintro _ w3 ⟨rfl, hS3⟩
  refine ⟨_, rfl, hS3.below, ?_⟩
  have hS4 := hS2.call hS3
  refine ge_batch [5] (ans := []) (vs := [(4, .int .i64 (cmp_Compare_int.f x1.P x0.P))]) (l := []) (by kernel_rfl) trivial ?_
  refine ge_nil fun a hF => hK2 _ _ ?_ a hF
  have hS5 := hS4.takeN 0
  subst h
  exact we_ret (post_ret (rs := [.tmp 4]) (ans := []) (vs := [.int .i64 (cmp_Compare_int.f x1.P x0.P)]) (l := []) rfl (by kernel_rfl) trivial ⟨rfl, hS5⟩)

/-! cmp.Or[int] -/
abbrev cmp_Or_int.Post (w0 : World) (r : Int) (e : Ending) (w : World) : Prop := e = .returned (.int .i64 r) ∧ St w0 w []
def cmp_Or_int.r0 (l0 : List Int) : Nat → Option (Nat ⊕ (Unit ⊕ Int))
  | i1 =>
    if (i1 : Int) < (l0.length : Int) then
      match l0[i1]? with
      | none => none
      | some e1 =>
        if e1 = 0 then
          some (.inl (i1 + 1))
        else
          some (.inr (.inr e1))
    else
      some (.inr (.inl ()))
def cmp_Or_int.f (K : Nat) (l0 : List Int) : Option Int :=
  match iter (cmp_Or_int.r0 l0) K 0 with
  | none => none
  | some (.inl _) =>
    some 0
  | some (.inr rr1) =>
    some rr1
abbrev cmp_Or_int.A0 (K : Nat) (w0 : World) (l0 : List Int) (A0 : Option Addr) (c0 : Nat) (hR0 : RdL w0 A0 l0) (hL0 : l0.length ≤ c0) : Nat → Act → World → Prop := fun (s : Nat) a w => St w0 w [] ∧ Frm 18 a [(3, .int .i64 0), (6, .slice A0 l0.length c0), (7, .int .i64 (l0.length : Int)), (8, .int .i64 (s : Int))]
abbrev cmp_Or_int.B0 (K : Nat) (w0 : World) (l0 : List Int) (A0 : Option Addr) (c0 : Nat) (hR0 : RdL w0 A0 l0) (hL0 : l0.length ≤ c0) : (Unit ⊕ Int) → Exit → Act → World → Prop := Exits 0 (fun (s : Unit) a w => St w0 w [] ∧ Frm 18 a [(3, .int .i64 0)]) (Rets Try.prog Try.f129 (cmp_Or_int.Post w0))
theorem cmp_Or_int_r0 (K : Nat) (w0 : World) (l0 : List Int) (A0 : Option Addr) (c0 : Nat) (hR0 : RdL w0 A0 l0) (hL0 : l0.length ≤ c0) (s : Nat) (o : Nat ⊕ (Unit ⊕ Int)) (h : cmp_Or_int.r0 l0 s = some o) (a : Act) (w : World) (hA : cmp_Or_int.A0 K w0 l0 A0 c0 hR0 hL0 s a w) (Q : Exit → Act → World → Prop) (hQ : ∀ x a w, Outs (cmp_Or_int.A0 K w0 l0 A0 c0 hR0 hL0) (cmp_Or_int.B0 K w0 l0 A0 c0 hR0 hL0) o x a w → Q x a w) : (subF Try.f129 [1, 1, 0, 1, 0, 0]).wp Try.prog Q a w := by
  obtain ⟨i1, hs⟩ : ∃ z, z = s := ⟨s, rfl⟩
  subst hs
  obtain ⟨hS, hF⟩ := hA
  replace hS : St w0 w [] := hS
  simp only [cmp_Or_int.r0] at h
  refine (?_ : WE Try.prog 18 (subF Try.f129 [1, 1, 0, 1, 0, 0]) Q [(3, .int .i64 0), (6, .slice A0 l0.length c0), (7, .int .i64 (l0.length : Int)), (8, .int .i64 (i1 : Int))] w) a hF
  clear hF a
  refine we_seq fun K5 hK5 => ?_
  refine we_region [(0, 0)] rfl ?_
  refine ge_batch [0] (ans := []) (vs := [(9, .bool (decide ((i1 : Int) < (l0.length : Int))))]) (l := []) (by kernel_rfl) trivial ?_
  refine ge_nil fun a hF => hK5 _ _ ?_ a hF
  refine we_seq fun K6 hK6 => ?_
  by_cases hc1 : (i1 : Int) < (l0.length : Int)
  · rw [if_pos hc1] at h
    refine we_known (t := 9) (b := decide ((i1 : Int) < (l0.length : Int))) (v := true) (by kernel_rfl) (decide_eq_true hc1) ?_
    refine we_true (by kernel_rfl) ?_
    refine we_skip fun a hF => hK6 _ _ ?_ a hF
    refine we_seq fun K7 hK7 => ?_
    refine we_block ?_
    refine we_seq fun K8 hK8 => ?_
    refine we_region [(0, 0), (1, 0), (2, 0)] rfl ?_
    rcases hx1 : l0[i1]? with _ | e1
    · rw [hx1] at h; cases h
    rw [hx1] at h
    simp only [] at h
    refine ge_index (d := 10) (ty := 0) (t := 25) (el := 3) (sz := 1) (m := l0.length) (c := c0) (x := (.tmp 6)) (y := (.tmp 8)) (A := A0) (k' := .i64) (j := (i1 : Int)) (jn := i1) (b0 := blkOf A0) (o0 := offOf A0) (by kernel_rfl) (by kernel_rfl) (by kernel_rfl) (by kernel_rfl) (by kernel_rfl) ((hS.rd hR0).eqSome (pos_of_get hx1)) rfl (lt_of_get hx1) ?_
    refine ge_batch [1, 2] (ans := [.val (.int .i64 e1)]) (vs := [(5, .int .i64 e1), (11, .int .i64 e1)]) (l := [.loaded ⟨blkOf A0, offOf A0 + i1 * 1, none⟩ (.int .i64 e1)]) (by kernel_rfl) ⟨RdL.cell (j := 0) (hS.rd hR0) hx1 rfl, trivial⟩ ?_
    refine ge_nil fun a hF => hK8 _ _ ?_ a hF
    refine we_seq fun K9 hK9 => ?_
    refine we_region [(0, 0), (1, 0), (2, 0)] rfl ?_
    refine ge_batch [0, 1, 2] (ans := []) (vs := [(14, .bool (e1 != 0)), (13, .int .i64 0), (12, .int .i64 e1)]) (l := []) (by kernel_rfl) trivial ?_
    refine ge_nil fun a hF => hK9 _ _ ?_ a hF
    by_cases hc2 : e1 = 0
    · rw [if_pos hc2] at h
      refine we_known (t := 14) (b := (e1 != 0)) (v := false) (by kernel_rfl) (bne_eq_false_iff_eq.2 hc2) ?_
      refine we_false (by kernel_rfl) ?_
      refine we_skip fun a hF => hK7 _ _ ?_ a hF
      refine we_region [(0, 0), (1, 0)] rfl ?_
      refine ge_addn (d := 16) (ty := 3) (x := (.tmp 8)) (y := (.const (.int .i64 1))) (t := 3) (t2 := 3) (k := .i64) (m := i1) (by kernel_rfl) (by kernel_rfl) (by kernel_rfl) (by have h0 := hR0.small; omega) ?_
      refine ge_batch [1] (ans := []) (vs := [(8, .int .i64 ((i1 + 1 : Nat) : Int))]) (l := []) (by kernel_rfl) trivial ?_
      obtain rfl := Option.some.inj h
      exact ge_nil fun a hF => hQ _ _ _ (Outs.again ⟨hS, hF.weaken ⟨by kernel_rfl, by kernel_rfl, by kernel_rfl, by kernel_rfl, trivial⟩⟩)
    · rw [if_neg hc2] at h
      refine we_known (t := 14) (b := (e1 != 0)) (v := true) (by kernel_rfl) (bne_iff_ne.2 hc2) ?_
      refine we_true (by kernel_rfl) ?_
      refine we_seq fun K10 hK10 => ?_
      refine we_region [(0, 0), (1, 0)] rfl ?_
      refine ge_batch [0, 1] (ans := []) (vs := [(2, .int .i64 e1), (15, .int .i64 e1)]) (l := []) (by kernel_rfl) trivial ?_
      refine ge_nil fun a hF => hK10 _ _ ?_ a hF
      obtain rfl := Option.some.inj h
      exact we_ret fun a hF => hQ _ _ _ (Outs.out nofun (Exits.on ⟨rfl, (post_ret (rs := [.tmp 2]) (ans := []) (vs := [.int .i64 e1]) (l := []) rfl (by kernel_rfl) trivial ⟨rfl, hS⟩) a hF⟩))
  · rw [if_neg hc1] at h
    refine we_known (t := 9) (b := decide ((i1 : Int) < (l0.length : Int))) (v := false) (by kernel_rfl) (decide_eq_false hc1) ?_
    refine we_false (by kernel_rfl) ?_
    obtain rfl := Option.some.inj h
    exact we_exit fun a hF => hQ _ _ _ (Outs.out nofun (Exits.here ⟨hS, hF.weaken ⟨by kernel_rfl, trivial⟩⟩))
theorem cmp_Or_int_ok (K : Nat) (l0 : List Int) (A0 : Option Addr) (c0 : Nat) (w0 : World) (hR0 : RdL w0 A0 l0) (hL0 : l0.length ≤ c0) (r : Int) (h : cmp_Or_int.f K l0 = some r) :
    Calls Try.prog 129 #[.slice A0 l0.length c0] w0 (cmp_Or_int.Post w0 r) := by
  have hS := St.start w0
  unfold cmp_Or_int.f at h
  refine calls_enter (n := 18) (args := [.slice A0 l0.length c0]) (fn := Try.f129) rfl rfl rfl rfl ?_
  show WE _ _ _ _ [(0, .slice A0 l0.length c0)] _
  refine we_seq fun K1 hK1 => ?_
  refine we_region [(0, 0)] rfl ?_
  refine ge_batch [0] (ans := []) (vs := [(2, .int .i64 0)]) (l := []) (by kernel_rfl) trivial ?_
  refine ge_nil fun a hF => hK1 _ _ ?_ a hF
  refine we_seq fun K2 hK2 => ?_
  refine we_region [(0, 0)] rfl ?_
  refine ge_batch [0] (ans := []) (vs := [(3, .int .i64 0)]) (l := []) (by kernel_rfl) trivial ?_
  refine ge_nil fun a hF => hK2 _ _ ?_ a hF
  refine we_seq fun K3 hK3 => ?_
  refine we_seq fun K4 hK4 => ?_
  refine we_region [(0, 0), (1, 0), (2, 0)] rfl ?_
  refine ge_batch [0, 1, 2] (ans := []) (vs := [(8, .int .i64 0), (7, .int .i64 (l0.length : Int)), (6, .slice A0 l0.length c0)]) (l := []) (by kernel_rfl) trivial ?_
  refine ge_nil fun a hF => hK4 _ _ ?_ a hF
  refine we_block ?_
  rcases hq1 : iter (cmp_Or_int.r0 l0) K 0 with _ | (_ | rr1)
  · rw [hq1] at h; cases h
  · rw [hq1] at h
    simp only [] at h
    refine we_iter (A := cmp_Or_int.A0 K w0 l0 A0 c0 hR0 hL0) (B := cmp_Or_int.B0 K w0 l0 A0 c0 hR0 hL0) hq1 (fun a hF => ⟨hS, hF.weaken ⟨by kernel_rfl, by kernel_rfl, by kernel_rfl, by kernel_rfl, trivial⟩⟩) (fun s o hf a w hA Q hQ => cmp_Or_int_r0 K w0 l0 A0 c0 hR0 hL0 s o hf a w hA Q hQ) ?_
    rintro _ a w1 _ ⟨rfl, hS1, hF⟩
    replace hS1 : St w0 w1 [] := hS1
    refine hK3 [(3, .int .i64 0)] w1 ?_ a hF
    refine we_seq fun K11 hK11 => ?_
    refine we_region [(0, 0), (1, 0)] rfl ?_
    refine ge_batch [0, 1] (ans := []) (vs := [(2, .int .i64 0), (17, .int .i64 0)]) (l := []) (by kernel_rfl) trivial ?_
    refine ge_nil fun a hF => hK11 _ _ ?_ a hF
    obtain rfl := Option.some.inj h
    exact we_ret (post_ret (rs := [.tmp 2]) (ans := []) (vs := [.int .i64 0]) (l := []) rfl (by kernel_rfl) trivial ⟨rfl, hS1⟩)
  · rw [hq1] at h
    simp only [] at h
    refine we_iter (A := cmp_Or_int.A0 K w0 l0 A0 c0 hR0 hL0) (B := cmp_Or_int.B0 K w0 l0 A0 c0 hR0 hL0) hq1 (fun a hF => ⟨hS, hF.weaken ⟨by kernel_rfl, by kernel_rfl, by kernel_rfl, by kernel_rfl, trivial⟩⟩) (fun s o hf a w hA Q hQ => cmp_Or_int_r0 K w0 l0 A0 c0 hR0 hL0 s o hf a w hA Q hQ) ?_
    rintro _ a w1 _ ⟨rfl, hb⟩
    obtain rfl := Option.some.inj h
    exact hb

/-! punctual/sched.byDue -/
abbrev sched_byDue.Post (w0 : World) (r : Int) (e : Ending) (w : World) : Prop := e = .returned (.int .i64 r) ∧ St w0 w []
def sched_byDue.f (x0 : SJob) (x1 : SJob) : Int :=
  (cmp_Compare_int.f x0.Due x1.Due)
theorem sched_byDue_ok (x0 : SJob) (x1 : SJob) (w0 : World) (r : Int) (h : sched_byDue.f x0 x1 = r) :
    Calls Try.prog 168 #[.agg #[.int .i64 x0.Task, .int .i64 x0.At, .int .i64 x0.C, .int .i64 x0.Due, .int .i64 x0.P], .agg #[.int .i64 x1.Task, .int .i64 x1.At, .int .i64 x1.C, .int .i64 x1.Due, .int .i64 x1.P]] w0 (sched_byDue.Post w0 r) := by
  have hS := St.start w0
  unfold sched_byDue.f at h
  refine calls_enter (n := 10) (args := [.agg #[.int .i64 x0.Task, .int .i64 x0.At, .int .i64 x0.C, .int .i64 x0.Due, .int .i64 x0.P], .agg #[.int .i64 x1.Task, .int .i64 x1.At, .int .i64 x1.C, .int .i64 x1.Due, .int .i64 x1.P]]) (fn := Try.f168) rfl rfl rfl rfl ?_
  show WE _ _ _ _ [(0, .agg #[.int .i64 x0.Task, .int .i64 x0.At, .int .i64 x0.C, .int .i64 x0.Due, .int .i64 x0.P]), (1, .agg #[.int .i64 x1.Task, .int .i64 x1.At, .int .i64 x1.C, .int .i64 x1.Due, .int .i64 x1.P])] _
  refine we_seq fun K1 hK1 => ?_
  refine we_region [(0, 1), (1, 1), (2, 0)] rfl ?_
  refine ge_new (d := some 2) (o := .cells #[.int .i64 x0.Task, .int .i64 x0.At, .int .i64 x0.C, .int .i64 x0.Due, .int .i64 x0.P] 106) (v := fun b => .pointer (some ⟨b, 0, none⟩)) hS (fun b => by kernel_rfl) fun b1 w1 hx1 hS1 => ?_
  refine ge_new (d := some 3) (o := .cells #[.int .i64 x1.Task, .int .i64 x1.At, .int .i64 x1.C, .int .i64 x1.Due, .int .i64 x1.P] 106) (v := fun b => .pointer (some ⟨b, 0, none⟩)) hS1 (fun b => by kernel_rfl) fun b2 w2 hx2 hS2 => ?_
  refine ge_batch [2] (ans := []) (vs := [(4, .int .i64 0)]) (l := []) (by kernel_rfl) trivial ?_
  refine ge_nil fun a hF => hK1 _ _ ?_ a hF
  refine we_seq fun K2 hK2 => ?_
  refine we_region [(0, 0), (1, 0), (2, 0), (3, 0), (4, 1), (5, 0)] rfl ?_
  refine ge_batch [0, 1, 2, 3] (ans := [.val (.int .i64 x0.Due), .val (.int .i64 x1.Due)]) (vs := [(8, .int .i64 x1.Due), (7, .pointer (some ⟨b2, 3, none⟩)), (6, .int .i64 x0.Due), (5, .pointer (some ⟨b1, 3, none⟩))]) (l := [.loaded ⟨b1, 3, none⟩ (.int .i64 x0.Due), .loaded ⟨b2, 3, none⟩ (.int .i64 x1.Due)]) (by kernel_rfl) ⟨hS2.cell 1 rfl rfl, hS2.cell 0 rfl rfl, trivial⟩ ?_
  refine ge_call (d := some 9) (f := 131) (args := #[.int .i64 x0.Due, .int .i64 x1.Due]) (by kernel_rfl) (cmp_Compare_int_ok x0.Due x1.Due _ _ rfl) ?_
  rintro _ w3 ⟨rfl, hS3⟩
  refine ⟨_, rfl, hS3.below, ?_⟩
  have hS4 := hS2.call hS3
  refine ge_batch [5] (ans := []) (vs := [(4, .int .i64 (cmp_Compare_int.f x0.Due x1.Due))]) (l := []) (by kernel_rfl) trivial ?_
  refine ge_nil fun a hF => hK2 _ _ ?_ a hF
  have hS5 := hS4.takeN 0
  subst h
  exact we_ret (post_ret (rs := [.tmp 4]) (ans := []) (vs := [.int .i64 (cmp_Compare_int.f x0.Due x1.Due)]) (l := []) rfl (by kernel_rfl) trivial ⟨rfl, hS5⟩)

/-! punctual/sched.First -/
abbrev sched_First.Post (w0 : World) (r : Int) (e : Ending) (w : World) : Prop := e = .returned (.int .i64 r) ∧ St w0 w []
def sched_First.r0 (K : Nat) (l0 : List SJob) (lg1_0 : List SJob) (xg1_1 : Int) (lg1_2 : List Int) (x2 : Int) : Int × Nat → Option ((Int × Nat) ⊕ (Int ⊕ Int))
  | (z1, i1) =>
    if (i1 : Int) < (l0.length : Int) then
      match l0[i1]? with
      | none => none
      | some e1 =>
        match modes_hosted_1.f (i1 : Int) lg1_0 xg1_1 lg1_2 with
        | none => none
        | some r1 =>
          if r1 = true then
            if z1 < 0 then
              some (.inl ((i1 : Int), (i1 + 1)))
            else
              if 0 ≤ z1 then
                match l0[(z1).toNat]? with
                | none => none
                | some e2 =>
                  if (sched_rule.f x2) = 0 then
                    none
                  else
                    if (sched_rule.f x2) = 168 then
                      match cmp_Or_int.f K ([(sched_byPriority.f e1 e2), (cmp_Compare_int.f e1.At e2.At)] : List Int) with
                      | none => none
                      | some r2 =>
                        if r2 < 0 then
                          some (.inl ((i1 : Int), (i1 + 1)))
                        else
                          some (.inl (z1, (i1 + 1)))
                    else
                      if (sched_rule.f x2) = 169 then
                        match cmp_Or_int.f K ([(sched_byDue.f e1 e2), (cmp_Compare_int.f e1.At e2.At)] : List Int) with
                        | none => none
                        | some r3 =>
                          if r3 < 0 then
                            some (.inl ((i1 : Int), (i1 + 1)))
                          else
                            some (.inl (z1, (i1 + 1)))
                      else
                        none
              else
                none
          else
            some (.inl (z1, (i1 + 1)))
    else
      some (.inr (.inl z1))
def sched_First.f (K : Nat) (l0 : List SJob) (lg1_0 : List SJob) (xg1_1 : Int) (lg1_2 : List Int) (x2 : Int) : Option Int :=
  match iter (sched_First.r0 K l0 lg1_0 xg1_1 lg1_2 x2) K ((-1), 0) with
  | none => none
  | some (.inl z3) =>
    some z3
  | some (.inr rr1) =>
    some rr1
abbrev sched_First.A0 (K : Nat) (w0 : World) (l0 : List SJob) (A0 : Option Addr) (c0 : Nat) (bg1_0 : Nat) (lg1_0 : List SJob) (Ag1_0 : Option Addr) (cg1_0 : Nat) (bg1_1 : Nat) (xg1_1 : Int) (bg1_2 : Nat) (lg1_2 : List Int) (Ag1_2 : Option Addr) (cg1_2 : Nat) (x2 : Int) (hR0 : RdL w0 A0 l0) (hL0 : l0.length ≤ c0) (hRg1_0 : RdL w0 Ag1_0 lg1_0) (hLg1_0 : lg1_0.length ≤ cg1_0) (hBg1_0 : Glob w0 bg1_0 [.slice Ag1_0 lg1_0.length cg1_0]) (hBg1_1 : Glob w0 bg1_1 [.int .i64 xg1_1]) (hRg1_2 : RdL w0 Ag1_2 lg1_2) (hLg1_2 : lg1_2.length ≤ cg1_2) (hBg1_2 : Glob w0 bg1_2 [.slice Ag1_2 lg1_2.length cg1_2]) : (Int × Nat) → Act → World → Prop := fun (s : Int × Nat) a w => St w0 w [] ∧ Frm 47 a [(0, .slice A0 l0.length c0), (1, .func (.func 91) #[] #[.pointer (some ⟨bg1_0, 0, none⟩), .pointer (some ⟨bg1_1, 0, none⟩), .pointer (some ⟨bg1_2, 0, none⟩)]), (2, .int .i64 x2), (7, .int .i64 s.1), (10, .slice A0 l0.length c0), (11, .int .i64 (l0.length : Int)), (12, .int .i64 (s.2 : Int))]
abbrev sched_First.B0 (K : Nat) (w0 : World) (l0 : List SJob) (A0 : Option Addr) (c0 : Nat) (bg1_0 : Nat) (lg1_0 : List SJob) (Ag1_0 : Option Addr) (cg1_0 : Nat) (bg1_1 : Nat) (xg1_1 : Int) (bg1_2 : Nat) (lg1_2 : List Int) (Ag1_2 : Option Addr) (cg1_2 : Nat) (x2 : Int) (hR0 : RdL w0 A0 l0) (hL0 : l0.length ≤ c0) (hRg1_0 : RdL w0 Ag1_0 lg1_0) (hLg1_0 : lg1_0.length ≤ cg1_0) (hBg1_0 : Glob w0 bg1_0 [.slice Ag1_0 lg1_0.length cg1_0]) (hBg1_1 : Glob w0 bg1_1 [.int .i64 xg1_1]) (hRg1_2 : RdL w0 Ag1_2 lg1_2) (hLg1_2 : lg1_2.length ≤ cg1_2) (hBg1_2 : Glob w0 bg1_2 [.slice Ag1_2 lg1_2.length cg1_2]) : (Int ⊕ Int) → Exit → Act → World → Prop := Exits 0 (fun (s : Int) a w => St w0 w [] ∧ Frm 47 a [(7, .int .i64 s)]) (Rets Try.prog Try.f90 (sched_First.Post w0))
theorem sched_First_r0 (K : Nat) (w0 : World) (l0 : List SJob) (A0 : Option Addr) (c0 : Nat) (bg1_0 : Nat) (lg1_0 : List SJob) (Ag1_0 : Option Addr) (cg1_0 : Nat) (bg1_1 : Nat) (xg1_1 : Int) (bg1_2 : Nat) (lg1_2 : List Int) (Ag1_2 : Option Addr) (cg1_2 : Nat) (x2 : Int) (hR0 : RdL w0 A0 l0) (hL0 : l0.length ≤ c0) (hRg1_0 : RdL w0 Ag1_0 lg1_0) (hLg1_0 : lg1_0.length ≤ cg1_0) (hBg1_0 : Glob w0 bg1_0 [.slice Ag1_0 lg1_0.length cg1_0]) (hBg1_1 : Glob w0 bg1_1 [.int .i64 xg1_1]) (hRg1_2 : RdL w0 Ag1_2 lg1_2) (hLg1_2 : lg1_2.length ≤ cg1_2) (hBg1_2 : Glob w0 bg1_2 [.slice Ag1_2 lg1_2.length cg1_2]) (s : Int × Nat) (o : (Int × Nat) ⊕ (Int ⊕ Int)) (h : sched_First.r0 K l0 lg1_0 xg1_1 lg1_2 x2 s = some o) (a : Act) (w : World) (hA : sched_First.A0 K w0 l0 A0 c0 bg1_0 lg1_0 Ag1_0 cg1_0 bg1_1 xg1_1 bg1_2 lg1_2 Ag1_2 cg1_2 x2 hR0 hL0 hRg1_0 hLg1_0 hBg1_0 hBg1_1 hRg1_2 hLg1_2 hBg1_2 s a w) (Q : Exit → Act → World → Prop) (hQ : ∀ x a w, Outs (sched_First.A0 K w0 l0 A0 c0 bg1_0 lg1_0 Ag1_0 cg1_0 bg1_1 xg1_1 bg1_2 lg1_2 Ag1_2 cg1_2 x2 hR0 hL0 hRg1_0 hLg1_0 hBg1_0 hBg1_1 hRg1_2 hLg1_2 hBg1_2) (sched_First.B0 K w0 l0 A0 c0 bg1_0 lg1_0 Ag1_0 cg1_0 bg1_1 xg1_1 bg1_2 lg1_2 Ag1_2 cg1_2 x2 hR0 hL0 hRg1_0 hLg1_0 hBg1_0 hBg1_1 hRg1_2 hLg1_2 hBg1_2) o x a w → Q x a w) : (subF Try.f90 [1, 1, 0, 1, 0, 0]).wp Try.prog Q a w := by
  obtain ⟨z1, i1⟩ := s
  obtain ⟨hS, hF⟩ := hA
  replace hS : St w0 w [] := hS
  simp only [sched_First.r0] at h
  refine (?_ : WE Try.prog 47 (subF Try.f90 [1, 1, 0, 1, 0, 0]) Q [(0, .slice A0 l0.length c0), (1, .func (.func 91) #[] #[.pointer (some ⟨bg1_0, 0, none⟩), .pointer (some ⟨bg1_1, 0, none⟩), .pointer (some ⟨bg1_2, 0, none⟩)]), (2, .int .i64 x2), (7, .int .i64 z1), (10, .slice A0 l0.length c0), (11, .int .i64 (l0.length : Int)), (12, .int .i64 (i1 : Int))] w) a hF
  clear hF a
  refine we_seq fun K5 hK5 => ?_
  refine we_region [(0, 0)] rfl ?_
  refine ge_batch [0] (ans := []) (vs := [(13, .bool (decide ((i1 : Int) < (l0.length : Int))))]) (l := []) (by kernel_rfl) trivial ?_
  refine ge_nil fun a hF => hK5 _ _ ?_ a hF
  refine we_seq fun K6 hK6 => ?_
  by_cases hc1 : (i1 : Int) < (l0.length : Int)
  · rw [if_pos hc1] at h
    refine we_known (t := 13) (b := decide ((i1 : Int) < (l0.length : Int))) (v := true) (by kernel_rfl) (decide_eq_true hc1) ?_
    refine we_true (by kernel_rfl) ?_
    refine we_skip fun a hF => hK6 _ _ ?_ a hF
    refine we_seq fun K7 hK7 => ?_
    refine we_block ?_
    refine we_seq fun K8 hK8 => ?_
    refine we_region [(0, 0), (1, 0), (2, 0), (3, 1), (4, 0), (5, 2)] rfl ?_
    refine ge_batch [0] (ans := []) (vs := [(14, .int .i64 (i1 : Int))]) (l := []) (by kernel_rfl) trivial ?_
    rcases hx1 : l0[i1]? with _ | e1
    · rw [hx1] at h; cases h
    rw [hx1] at h
    simp only [] at h
    refine ge_index (d := 15) (ty := 0) (t := 28) (el := 106) (sz := 5) (m := l0.length) (c := c0) (x := (.tmp 10)) (y := (.tmp 12)) (A := A0) (k' := .i64) (j := (i1 : Int)) (jn := i1) (b0 := blkOf A0) (o0 := offOf A0) (by kernel_rfl) (by kernel_rfl) (by kernel_rfl) (by kernel_rfl) (by kernel_rfl) ((hS.rd hR0).eqSome (pos_of_get hx1)) rfl (lt_of_get hx1) ?_
    refine ge_batch [2] (ans := [.val (.int .i64 e1.Task), .val (.int .i64 e1.At), .val (.int .i64 e1.C), .val (.int .i64 e1.Due), .val (.int .i64 e1.P)]) (vs := [(16, .agg #[.int .i64 e1.Task, .int .i64 e1.At, .int .i64 e1.C, .int .i64 e1.Due, .int .i64 e1.P])]) (l := [.loaded ⟨blkOf A0, offOf A0 + i1 * 5, none⟩ (.int .i64 e1.Task), .loaded ⟨blkOf A0, offOf A0 + i1 * 5 + 1, none⟩ (.int .i64 e1.At), .loaded ⟨blkOf A0, offOf A0 + i1 * 5 + 2, none⟩ (.int .i64 e1.C), .loaded ⟨blkOf A0, offOf A0 + i1 * 5 + 3, none⟩ (.int .i64 e1.Due), .loaded ⟨blkOf A0, offOf A0 + i1 * 5 + 4, none⟩ (.int .i64 e1.P)]) (by kernel_rfl) ⟨RdL.cell (j := 0) (hS.rd hR0) hx1 rfl, RdL.cell (j := 1) (hS.rd hR0) hx1 rfl, RdL.cell (j := 2) (hS.rd hR0) hx1 rfl, RdL.cell (j := 3) (hS.rd hR0) hx1 rfl, RdL.cell (j := 4) (hS.rd hR0) hx1 rfl, trivial⟩ ?_
    refine ge_new (d := some 9) (o := .cells #[.int .i64 0, .int .i64 0, .int .i64 0, .int .i64 0, .int .i64 0] 106) (v := fun b => .pointer (some ⟨b, 0, none⟩)) hS (fun b => by kernel_rfl) fun b1 w1 hx2 hS1 => ?_
    refine ge_batch [4] (ans := []) (vs := [(8, .int .i64 (i1 : Int))]) (l := []) (by kernel_rfl) trivial ?_
    refine ge_set (b := b1) (j := 0) (cs := #[.int .i64 0, .int .i64 0, .int .i64 0, .int .i64 0, .int .i64 0]) (t := 106) (vs := [.int .i64 e1.Task, .int .i64 e1.At, .int .i64 e1.C, .int .i64 e1.Due, .int .i64 e1.P]) hS1 (by kernel_rfl) rfl rfl fun w2 hS2 => ?_
    have hS3 : St w0 w2 [Own.blk b1 (.cells #[.int .i64 e1.Task, .int .i64 e1.At, .int .i64 e1.C, .int .i64 e1.Due, .int .i64 e1.P] 106 (0, 0))] := hS2
    refine ge_nil fun a hF => hK8 _ _ ?_ a hF
    refine we_seq fun K9 hK9 => ?_
    refine we_seq fun K10 hK10 => ?_
    refine we_region [(0, 0), (1, 0), (2, 1), (3, 0)] rfl ?_
    rcases hq1 : modes_hosted_1.f (i1 : Int) lg1_0 xg1_1 lg1_2 with _ | r1
    · rw [hq1] at h; cases h
    rw [hq1] at h
    simp only [] at h
    refine ge_batch [0, 1] (ans := []) (vs := [(18, .int .i64 (i1 : Int)), (17, .func (.func 91) #[] #[.pointer (some ⟨bg1_0, 0, none⟩), .pointer (some ⟨bg1_1, 0, none⟩), .pointer (some ⟨bg1_2, 0, none⟩)])]) (l := []) (by kernel_rfl) trivial ?_
    refine ge_call (d := some 19) (f := 91) (args := #[.int .i64 (i1 : Int), .pointer (some ⟨bg1_0, 0, none⟩), .pointer (some ⟨bg1_1, 0, none⟩), .pointer (some ⟨bg1_2, 0, none⟩)]) (by kernel_rfl) (modes_hosted_1_ok (i1 : Int) bg1_0 lg1_0 Ag1_0 cg1_0 bg1_1 xg1_1 bg1_2 lg1_2 Ag1_2 cg1_2 _ (hS3.rd hRg1_0) hLg1_0 (Glob.ext hBg1_0 hS3.below) (Glob.ext hBg1_1 hS3.below) (hS3.rd hRg1_2) hLg1_2 (Glob.ext hBg1_2 hS3.below) _ hq1) ?_
    rintro _ w3 ⟨rfl, hS4⟩
    refine ⟨_, rfl, hS4.below, ?_⟩
    have hS5 := hS3.call hS4
    refine ge_batch [3] (ans := []) (vs := [(20, .bool (!r1))]) (l := []) (by kernel_rfl) trivial ?_
    refine ge_nil fun a hF => hK10 _ _ ?_ a hF
    by_cases hc2 : r1 = true
    · rw [if_pos hc2] at h
      refine we_known (t := 20) (b := !r1) (v := false) (by kernel_rfl) (congrArg (fun z => !z) hc2) ?_
      refine we_false (by kernel_rfl) ?_
      refine we_skip fun a hF => hK9 _ _ ?_ a hF
      refine we_seq fun K11 hK11 => ?_
      refine we_draws (by kernel_rfl) [(0, 0), (1, 0), (2, 0), (3, 0), (5, 0), (6, 0), (7, 0), (8, 0), (9, 0), (11, 0), (12, 0), (13, 0), (14, 0), (15, 0), (16, 0), (17, 0), (4, 1), (10, 1), (18, 1), (19, 1), (20, 1), (21, 0), (22, 0)] (by kernel_rfl) ?_
      have hS6 := hS5.drew
      refine ge_batch [0, 1, 2] (ans := []) (vs := [(23, .bool (decide (z1 < 0))), (22, .bool (decide (z1 < 0))), (21, .int .i64 z1)]) (l := []) (by kernel_rfl) trivial ?_
      by_cases hc3 : z1 < 0
      · rw [if_pos hc3] at h
        refine ge_known (t := 23) (b := decide (z1 < 0)) (c := true) (by kernel_rfl) (decide_eq_true hc3) ?_
        refine ge_batch [3, 5, 6, 7, 8, 9, 11, 12, 13, 14, 15, 16, 17] (ans := []) (vs := [(38, undef), (37, undef), (36, undef), (35, undef), (34, undef), (33, undef), (32, undef), (30, undef), (29, undef), (28, undef), (27, undef), (26, undef), (24, undef)]) (l := []) (by kernel_rfl) trivial ?_
        refine ge_off rfl rfl rfl (by kernel_rfl) ?_
        refine ge_off rfl rfl rfl (by kernel_rfl) ?_
        refine ge_off rfl rfl rfl (by kernel_rfl) ?_
        refine ge_off rfl rfl rfl (by kernel_rfl) ?_
        refine ge_off rfl rfl rfl (by kernel_rfl) ?_
        refine ge_batch [21, 22] (ans := []) (vs := [(43, .bool true), (42, undef)]) (l := []) (by kernel_rfl) trivial ?_
        refine ge_nil fun a hF => hK11 _ _ ?_ a hF
        refine we_true (by kernel_rfl) ?_
        refine we_region [(0, 0), (1, 0)] rfl ?_
        refine ge_batch [0, 1] (ans := []) (vs := [(7, .int .i64 (i1 : Int)), (44, .int .i64 (i1 : Int))]) (l := []) (by kernel_rfl) trivial ?_
        refine ge_nil fun a hF => hK7 _ _ ?_ a hF
        refine we_region [(0, 0), (1, 0)] rfl ?_
        refine ge_addn (d := 45) (ty := 3) (x := (.tmp 12)) (y := (.const (.int .i64 1))) (t := 3) (t2 := 3) (k := .i64) (m := i1) (by kernel_rfl) (by kernel_rfl) (by kernel_rfl) (by have h0 := hR0.small; omega) ?_
        refine ge_batch [1] (ans := []) (vs := [(12, .int .i64 ((i1 + 1 : Nat) : Int))]) (l := []) (by kernel_rfl) trivial ?_
        have hS7 := hS6.takeN 0
        obtain rfl := Option.some.inj h
        exact ge_nil fun a hF => hQ _ _ _ (Outs.again ⟨hS7, hF.weaken ⟨by kernel_rfl, by kernel_rfl, by kernel_rfl, by kernel_rfl, by kernel_rfl, by kernel_rfl, by kernel_rfl, trivial⟩⟩)
      · rw [if_neg hc3] at h
        refine ge_known (t := 23) (b := decide (z1 < 0)) (c := false) (by kernel_rfl) (decide_eq_false hc3) ?_
        refine ge_batch [3, 5, 6, 7] (ans := [.val (.int .i64 e1.Task), .val (.int .i64 e1.At), .val (.int .i64 e1.C), .val (.int .i64 e1.Due), .val (.int .i64 e1.P)]) (vs := [(28, .int .i64 z1), (27, .slice A0 l0.length c0), (26, .agg #[.int .i64 e1.Task, .int .i64 e1.At, .int .i64 e1.C, .int .i64 e1.Due, .int .i64 e1.P]), (24, .int .i64 x2)]) (l := [.loaded ⟨b1, 0, none⟩ (.int .i64 e1.Task), .loaded ⟨b1, 1, none⟩ (.int .i64 e1.At), .loaded ⟨b1, 2, none⟩ (.int .i64 e1.C), .loaded ⟨b1, 3, none⟩ (.int .i64 e1.Due), .loaded ⟨b1, 4, none⟩ (.int .i64 e1.P)]) (by kernel_rfl) ⟨hS6.cell 0 rfl rfl, hS6.cell 0 rfl rfl, hS6.cell 0 rfl rfl, hS6.cell 0 rfl rfl, hS6.cell 0 rfl rfl, trivial⟩ ?_
        by_cases hc4 : 0 ≤ z1
        · rw [if_pos hc4] at h
          rcases hx3 : l0[(z1).toNat]? with _ | e2
          · rw [hx3] at h; cases h
          rw [hx3] at h
          simp only [] at h
          refine ge_index (d := 29) (ty := 0) (t := 28) (el := 106) (sz := 5) (m := l0.length) (c := c0) (x := (.tmp 27)) (y := (.tmp 28)) (A := A0) (k' := .i64) (j := z1) (jn := ((z1).toNat)) (b0 := blkOf A0) (o0 := offOf A0) (by kernel_rfl) (by kernel_rfl) (by kernel_rfl) (by kernel_rfl) (by kernel_rfl) ((hS6.rd hR0).eqSome (pos_of_get hx3)) (Int.toNat_of_nonneg hc4).symm (lt_of_get hx3) ?_
          refine ge_batch [9, 11, 12, 13, 14] (ans := [.val (.int .i64 e2.Task), .val (.int .i64 e2.At), .val (.int .i64 e2.C), .val (.int .i64 e2.Due), .val (.int .i64 e2.P), .val (.int .i64 e1.At)]) (vs := [(35, .int .i64 z1), (34, .slice A0 l0.length c0), (33, .int .i64 e1.At), (32, .pointer (some ⟨b1, 1, none⟩)), (30, .agg #[.int .i64 e2.Task, .int .i64 e2.At, .int .i64 e2.C, .int .i64 e2.Due, .int .i64 e2.P])]) (l := [.loaded ⟨blkOf A0, offOf A0 + ((z1).toNat) * 5, none⟩ (.int .i64 e2.Task), .loaded ⟨blkOf A0, offOf A0 + ((z1).toNat) * 5 + 1, none⟩ (.int .i64 e2.At), .loaded ⟨blkOf A0, offOf A0 + ((z1).toNat) * 5 + 2, none⟩ (.int .i64 e2.C), .loaded ⟨blkOf A0, offOf A0 + ((z1).toNat) * 5 + 3, none⟩ (.int .i64 e2.Due), .loaded ⟨blkOf A0, offOf A0 + ((z1).toNat) * 5 + 4, none⟩ (.int .i64 e2.P), .loaded ⟨b1, 1, none⟩ (.int .i64 e1.At)]) (by kernel_rfl) ⟨RdL.cell (j := 0) (hS6.rd hR0) hx3 rfl, RdL.cell (j := 1) (hS6.rd hR0) hx3 rfl, RdL.cell (j := 2) (hS6.rd hR0) hx3 rfl, RdL.cell (j := 3) (hS6.rd hR0) hx3 rfl, RdL.cell (j := 4) (hS6.rd hR0) hx3 rfl, hS6.cell 0 rfl rfl, trivial⟩ ?_
          refine ge_index (d := 36) (ty := 0) (t := 28) (el := 106) (sz := 5) (m := l0.length) (c := c0) (x := (.tmp 34)) (y := (.tmp 35)) (A := A0) (k' := .i64) (j := z1) (jn := ((z1).toNat)) (b0 := blkOf A0) (o0 := offOf A0) (by kernel_rfl) (by kernel_rfl) (by kernel_rfl) (by kernel_rfl) (by kernel_rfl) ((hS6.rd hR0).eqSome (pos_of_get hx3)) (Int.toNat_of_nonneg hc4).symm (lt_of_get hx3) ?_
          refine ge_batch [16, 17] (ans := [.val (.int .i64 e2.At)]) (vs := [(38, .int .i64 e2.At), (37, .pointer (some ⟨blkOf A0, offOf A0 + (z1).toNat * 5 + 1, none⟩))]) (l := [.loaded ⟨blkOf A0, offOf A0 + ((z1).toNat) * 5 + 1, none⟩ (.int .i64 e2.At)]) (by kernel_rfl) ⟨RdL.cell (j := 1) (hS6.rd hR0) hx3 rfl, trivial⟩ ?_
          refine ge_call (d := some 25) (f := 130) (args := #[.int .i64 x2]) (by kernel_rfl) (sched_rule_ok x2 _ _ rfl) ?_
          rintro _ w4 ⟨rfl, hS8⟩
          refine ⟨_, rfl, hS8.below, ?_⟩
          have hS9 := hS6.call hS8
          by_cases hc5 : (sched_rule.f x2) = 0
          · rw [if_pos hc5] at h
            refine ge_same (t := 25) (v := fnVal (sched_rule.f x2)) (v' := .nilFunc) (by kernel_rfl) (by rw [hc5]; rfl) ?_
            cases h
          · rw [if_neg hc5] at h
            by_cases hc6 : (sched_rule.f x2) = 168
            · rw [if_pos hc6] at h
              refine ge_same (t := 25) (v := fnVal (sched_rule.f x2)) (v' := .func (.func 167) #[] #[]) (by kernel_rfl) (by rw [hc6]; rfl) ?_
              refine ge_call (d := some 31) (f := 167) (args := #[.agg #[.int .i64 e1.Task, .int .i64 e1.At, .int .i64 e1.C, .int .i64 e1.Due, .int .i64 e1.P], .agg #[.int .i64 e2.Task, .int .i64 e2.At, .int .i64 e2.C, .int .i64 e2.Due, .int .i64 e2.P]]) (by kernel_rfl) (sched_byPriority_ok e1 e2 _ _ rfl) ?_
              rintro _ w5 ⟨rfl, hS10⟩
              refine ⟨_, rfl, hS10.below, ?_⟩
              have hS11 := hS9.call hS10
              refine ge_call (d := some 39) (f := 131) (args := #[.int .i64 e1.At, .int .i64 e2.At]) (by kernel_rfl) (cmp_Compare_int_ok e1.At e2.At _ _ rfl) ?_
              rintro _ w6 ⟨rfl, hS12⟩
              refine ⟨_, rfl, hS12.below, ?_⟩
              have hS13 := hS11.call hS12
              refine ge_new (d := some 40) (o := .cells #[.int .i64 (sched_byPriority.f e1 e2), .int .i64 (cmp_Compare_int.f e1.At e2.At)] 3) (v := fun b => .slice (some ⟨b, 0, none⟩) 2 2) hS13 (fun b => by kernel_rfl) fun b2 w7 hx4 hS14 => ?_
              rcases hq5 : cmp_Or_int.f K ([(sched_byPriority.f e1 e2), (cmp_Compare_int.f e1.At e2.At)] : List Int) with _ | r2
              · rw [hq5] at h; cases h
              rw [hq5] at h
              simp only [] at h
              refine ge_call (d := some 41) (f := 129) (args := #[.slice (some ⟨b2, 0, none⟩) 2 2]) (by kernel_rfl) (cmp_Or_int_ok K ([(sched_byPriority.f e1 e2), (cmp_Compare_int.f e1.At e2.At)] : List Int) (some ⟨b2, 0, none⟩) 2 _ (hS14.rdBlk 0 ([(sched_byPriority.f e1 e2), (cmp_Compare_int.f e1.At e2.At)] : List Int) rfl rfl rfl) (Nat.le_refl _) _ hq5) ?_
              rintro _ w8 ⟨rfl, hS15⟩
              refine ⟨_, rfl, hS15.below, ?_⟩
              have hS16 := hS14.call hS15
              refine ge_batch [21, 22] (ans := []) (vs := [(43, .bool (decide (r2 < 0))), (42, .bool (decide (r2 < 0)))]) (l := []) (by kernel_rfl) trivial ?_
              refine ge_nil fun a hF => hK11 _ _ ?_ a hF
              by_cases hc7 : r2 < 0
              · rw [if_pos hc7] at h
                refine we_known (t := 43) (b := decide (r2 < 0)) (v := true) (by kernel_rfl) (decide_eq_true hc7) ?_
                refine we_true (by kernel_rfl) ?_
                refine we_region [(0, 0), (1, 0)] rfl ?_
                refine ge_batch [0, 1] (ans := []) (vs := [(7, .int .i64 (i1 : Int)), (44, .int .i64 (i1 : Int))]) (l := []) (by kernel_rfl) trivial ?_
                refine ge_nil fun a hF => hK7 _ _ ?_ a hF
                refine we_region [(0, 0), (1, 0)] rfl ?_
                refine ge_addn (d := 45) (ty := 3) (x := (.tmp 12)) (y := (.const (.int .i64 1))) (t := 3) (t2 := 3) (k := .i64) (m := i1) (by kernel_rfl) (by kernel_rfl) (by kernel_rfl) (by have h0 := hR0.small; omega) ?_
                refine ge_batch [1] (ans := []) (vs := [(12, .int .i64 ((i1 + 1 : Nat) : Int))]) (l := []) (by kernel_rfl) trivial ?_
                have hS17 := hS16.takeN 0
                obtain rfl := Option.some.inj h
                exact ge_nil fun a hF => hQ _ _ _ (Outs.again ⟨hS17, hF.weaken ⟨by kernel_rfl, by kernel_rfl, by kernel_rfl, by kernel_rfl, by kernel_rfl, by kernel_rfl, by kernel_rfl, trivial⟩⟩)
              · rw [if_neg hc7] at h
                refine we_known (t := 43) (b := decide (r2 < 0)) (v := false) (by kernel_rfl) (decide_eq_false hc7) ?_
                refine we_false (by kernel_rfl) ?_
                refine we_skip fun a hF => hK7 _ _ ?_ a hF
                refine we_region [(0, 0), (1, 0)] rfl ?_
                refine ge_addn (d := 45) (ty := 3) (x := (.tmp 12)) (y := (.const (.int .i64 1))) (t := 3) (t2 := 3) (k := .i64) (m := i1) (by kernel_rfl) (by kernel_rfl) (by kernel_rfl) (by have h0 := hR0.small; omega) ?_
                refine ge_batch [1] (ans := []) (vs := [(12, .int .i64 ((i1 + 1 : Nat) : Int))]) (l := []) (by kernel_rfl) trivial ?_
                have hS18 := hS16.takeN 0
                obtain rfl := Option.some.inj h
                exact ge_nil fun a hF => hQ _ _ _ (Outs.again ⟨hS18, hF.weaken ⟨by kernel_rfl, by kernel_rfl, by kernel_rfl, by kernel_rfl, by kernel_rfl, by kernel_rfl, by kernel_rfl, trivial⟩⟩)
            · rw [if_neg hc6] at h
              by_cases hc8 : (sched_rule.f x2) = 169
              · rw [if_pos hc8] at h
                refine ge_same (t := 25) (v := fnVal (sched_rule.f x2)) (v' := .func (.func 168) #[] #[]) (by kernel_rfl) (by rw [hc8]; rfl) ?_
                refine ge_call (d := some 31) (f := 168) (args := #[.agg #[.int .i64 e1.Task, .int .i64 e1.At, .int .i64 e1.C, .int .i64 e1.Due, .int .i64 e1.P], .agg #[.int .i64 e2.Task, .int .i64 e2.At, .int .i64 e2.C, .int .i64 e2.Due, .int .i64 e2.P]]) (by kernel_rfl) (sched_byDue_ok e1 e2 _ _ rfl) ?_
                rintro _ w9 ⟨rfl, hS19⟩
                refine ⟨_, rfl, hS19.below, ?_⟩
                have hS20 := hS9.call hS19
                refine ge_call (d := some 39) (f := 131) (args := #[.int .i64 e1.At, .int .i64 e2.At]) (by kernel_rfl) (cmp_Compare_int_ok e1.At e2.At _ _ rfl) ?_
                rintro _ w10 ⟨rfl, hS21⟩
                refine ⟨_, rfl, hS21.below, ?_⟩
                have hS22 := hS20.call hS21
                refine ge_new (d := some 40) (o := .cells #[.int .i64 (sched_byDue.f e1 e2), .int .i64 (cmp_Compare_int.f e1.At e2.At)] 3) (v := fun b => .slice (some ⟨b, 0, none⟩) 2 2) hS22 (fun b => by kernel_rfl) fun b3 w11 hx5 hS23 => ?_
                rcases hq8 : cmp_Or_int.f K ([(sched_byDue.f e1 e2), (cmp_Compare_int.f e1.At e2.At)] : List Int) with _ | r3
                · rw [hq8] at h; cases h
                rw [hq8] at h
                simp only [] at h
                refine ge_call (d := some 41) (f := 129) (args := #[.slice (some ⟨b3, 0, none⟩) 2 2]) (by kernel_rfl) (cmp_Or_int_ok K ([(sched_byDue.f e1 e2), (cmp_Compare_int.f e1.At e2.At)] : List Int) (some ⟨b3, 0, none⟩) 2 _ (hS23.rdBlk 0 ([(sched_byDue.f e1 e2), (cmp_Compare_int.f e1.At e2.At)] : List Int) rfl rfl rfl) (Nat.le_refl _) _ hq8) ?_
                rintro _ w12 ⟨rfl, hS24⟩
                refine ⟨_, rfl, hS24.below, ?_⟩
                have hS25 := hS23.call hS24
                refine ge_batch [21, 22] (ans := []) (vs := [(43, .bool (decide (r3 < 0))), (42, .bool (decide (r3 < 0)))]) (l := []) (by kernel_rfl) trivial ?_
                refine ge_nil fun a hF => hK11 _ _ ?_ a hF
                by_cases hc9 : r3 < 0
                · rw [if_pos hc9] at h
                  refine we_known (t := 43) (b := decide (r3 < 0)) (v := true) (by kernel_rfl) (decide_eq_true hc9) ?_
                  refine we_true (by kernel_rfl) ?_
                  refine we_region [(0, 0), (1, 0)] rfl ?_
                  refine ge_batch [0, 1] (ans := []) (vs := [(7, .int .i64 (i1 : Int)), (44, .int .i64 (i1 : Int))]) (l := []) (by kernel_rfl) trivial ?_
                  refine ge_nil fun a hF => hK7 _ _ ?_ a hF
                  refine we_region [(0, 0), (1, 0)] rfl ?_
                  refine ge_addn (d := 45) (ty := 3) (x := (.tmp 12)) (y := (.const (.int .i64 1))) (t := 3) (t2 := 3) (k := .i64) (m := i1) (by kernel_rfl) (by kernel_rfl) (by kernel_rfl) (by have h0 := hR0.small; omega) ?_
                  refine ge_batch [1] (ans := []) (vs := [(12, .int .i64 ((i1 + 1 : Nat) : Int))]) (l := []) (by kernel_rfl) trivial ?_
                  have hS26 := hS25.takeN 0
                  obtain rfl := Option.some.inj h
                  exact ge_nil fun a hF => hQ _ _ _ (Outs.again ⟨hS26, hF.weaken ⟨by kernel_rfl, by kernel_rfl, by kernel_rfl, by kernel_rfl, by kernel_rfl, by kernel_rfl, by kernel_rfl, trivial⟩⟩)
                · rw [if_neg hc9] at h
                  refine we_known (t := 43) (b := decide (r3 < 0)) (v := false) (by kernel_rfl) (decide_eq_false hc9) ?_
                  refine we_false (by kernel_rfl) ?_
                  refine we_skip fun a hF => hK7 _ _ ?_ a hF
                  refine we_region [(0, 0), (1, 0)] rfl ?_
                  refine ge_addn (d := 45) (ty := 3) (x := (.tmp 12)) (y := (.const (.int .i64 1))) (t := 3) (t2 := 3) (k := .i64) (m := i1) (by kernel_rfl) (by kernel_rfl) (by kernel_rfl) (by have h0 := hR0.small; omega) ?_
                  refine ge_batch [1] (ans := []) (vs := [(12, .int .i64 ((i1 + 1 : Nat) : Int))]) (l := []) (by kernel_rfl) trivial ?_
                  have hS27 := hS25.takeN 0
                  obtain rfl := Option.some.inj h
                  exact ge_nil fun a hF => hQ _ _ _ (Outs.again ⟨hS27, hF.weaken ⟨by kernel_rfl, by kernel_rfl, by kernel_rfl, by kernel_rfl, by kernel_rfl, by kernel_rfl, by kernel_rfl, trivial⟩⟩)
              · rw [if_neg hc8] at h
                cases h
        · rw [if_neg hc4] at h
          cases h
    · rw [if_neg hc2] at h
      refine we_known (t := 20) (b := !r1) (v := true) (by kernel_rfl) (congrArg (fun z => !z) (Bool.eq_false_iff.2 hc2)) ?_
      refine we_true (by kernel_rfl) ?_
      refine we_exit fun a hF => hK7 _ _ ?_ a hF
      refine we_region [(0, 0), (1, 0)] rfl ?_
      refine ge_addn (d := 45) (ty := 3) (x := (.tmp 12)) (y := (.const (.int .i64 1))) (t := 3) (t2 := 3) (k := .i64) (m := i1) (by kernel_rfl) (by kernel_rfl) (by kernel_rfl) (by have h0 := hR0.small; omega) ?_
      refine ge_batch [1] (ans := []) (vs := [(12, .int .i64 ((i1 + 1 : Nat) : Int))]) (l := []) (by kernel_rfl) trivial ?_
      have hS28 := hS5.takeN 0
      obtain rfl := Option.some.inj h
      exact ge_nil fun a hF => hQ _ _ _ (Outs.again ⟨hS28, hF.weaken ⟨by kernel_rfl, by kernel_rfl, by kernel_rfl, by kernel_rfl, by kernel_rfl, by kernel_rfl, by kernel_rfl, trivial⟩⟩)
  · rw [if_neg hc1] at h
    refine we_known (t := 13) (b := decide ((i1 : Int) < (l0.length : Int))) (v := false) (by kernel_rfl) (decide_eq_false hc1) ?_
    refine we_false (by kernel_rfl) ?_
    obtain rfl := Option.some.inj h
    exact we_exit fun a hF => hQ _ _ _ (Outs.out nofun (Exits.here ⟨hS, hF.weaken ⟨by kernel_rfl, trivial⟩⟩))
theorem sched_First_ok (K : Nat) (l0 : List SJob) (A0 : Option Addr) (c0 : Nat) (bg1_0 : Nat) (lg1_0 : List SJob) (Ag1_0 : Option Addr) (cg1_0 : Nat) (bg1_1 : Nat) (xg1_1 : Int) (bg1_2 : Nat) (lg1_2 : List Int) (Ag1_2 : Option Addr) (cg1_2 : Nat) (x2 : Int) (w0 : World) (hR0 : RdL w0 A0 l0) (hL0 : l0.length ≤ c0) (hRg1_0 : RdL w0 Ag1_0 lg1_0) (hLg1_0 : lg1_0.length ≤ cg1_0) (hBg1_0 : Glob w0 bg1_0 [.slice Ag1_0 lg1_0.length cg1_0]) (hBg1_1 : Glob w0 bg1_1 [.int .i64 xg1_1]) (hRg1_2 : RdL w0 Ag1_2 lg1_2) (hLg1_2 : lg1_2.length ≤ cg1_2) (hBg1_2 : Glob w0 bg1_2 [.slice Ag1_2 lg1_2.length cg1_2]) (r : Int) (h : sched_First.f K l0 lg1_0 xg1_1 lg1_2 x2 = some r) :
    Calls Try.prog 90 #[.slice A0 l0.length c0, .func (.func 91) #[] #[.pointer (some ⟨bg1_0, 0, none⟩), .pointer (some ⟨bg1_1, 0, none⟩), .pointer (some ⟨bg1_2, 0, none⟩)], .int .i64 x2] w0 (sched_First.Post w0 r) := by
  have hS := St.start w0
  unfold sched_First.f at h
  refine calls_enter (n := 47) (args := [.slice A0 l0.length c0, .func (.func 91) #[] #[.pointer (some ⟨bg1_0, 0, none⟩), .pointer (some ⟨bg1_1, 0, none⟩), .pointer (some ⟨bg1_2, 0, none⟩)], .int .i64 x2]) (fn := Try.f90) rfl rfl rfl rfl ?_
  show WE _ _ _ _ [(0, .slice A0 l0.length c0), (1, .func (.func 91) #[] #[.pointer (some ⟨bg1_0, 0, none⟩), .pointer (some ⟨bg1_1, 0, none⟩), .pointer (some ⟨bg1_2, 0, none⟩)]), (2, .int .i64 x2)] _
  refine we_seq fun K1 hK1 => ?_
  refine we_region [(0, 0)] rfl ?_
  refine ge_batch [0] (ans := []) (vs := [(6, .int .i64 0)]) (l := []) (by kernel_rfl) trivial ?_
  refine ge_nil fun a hF => hK1 _ _ ?_ a hF
  refine we_seq fun K2 hK2 => ?_
  refine we_region [(0, 0)] rfl ?_
  refine ge_batch [0] (ans := []) (vs := [(7, .int .i64 (-1))]) (l := []) (by kernel_rfl) trivial ?_
  refine ge_nil fun a hF => hK2 _ _ ?_ a hF
  refine we_seq fun K3 hK3 => ?_
  refine we_seq fun K4 hK4 => ?_
  refine we_region [(0, 0), (1, 0), (2, 0)] rfl ?_
  refine ge_batch [0, 1, 2] (ans := []) (vs := [(12, .int .i64 0), (11, .int .i64 (l0.length : Int)), (10, .slice A0 l0.length c0)]) (l := []) (by kernel_rfl) trivial ?_
  refine ge_nil fun a hF => hK4 _ _ ?_ a hF
  refine we_block ?_
  rcases hq9 : iter (sched_First.r0 K l0 lg1_0 xg1_1 lg1_2 x2) K ((-1), 0) with _ | (z3 | rr1)
  · rw [hq9] at h; cases h
  · rw [hq9] at h
    simp only [] at h
    refine we_iter (A := sched_First.A0 K w0 l0 A0 c0 bg1_0 lg1_0 Ag1_0 cg1_0 bg1_1 xg1_1 bg1_2 lg1_2 Ag1_2 cg1_2 x2 hR0 hL0 hRg1_0 hLg1_0 hBg1_0 hBg1_1 hRg1_2 hLg1_2 hBg1_2) (B := sched_First.B0 K w0 l0 A0 c0 bg1_0 lg1_0 Ag1_0 cg1_0 bg1_1 xg1_1 bg1_2 lg1_2 Ag1_2 cg1_2 x2 hR0 hL0 hRg1_0 hLg1_0 hBg1_0 hBg1_1 hRg1_2 hLg1_2 hBg1_2) hq9 (fun a hF => ⟨hS, hF.weaken ⟨by kernel_rfl, by kernel_rfl, by kernel_rfl, by kernel_rfl, by kernel_rfl, by kernel_rfl, by kernel_rfl, trivial⟩⟩) (fun s o hf a w hA Q hQ => sched_First_r0 K w0 l0 A0 c0 bg1_0 lg1_0 Ag1_0 cg1_0 bg1_1 xg1_1 bg1_2 lg1_2 Ag1_2 cg1_2 x2 hR0 hL0 hRg1_0 hLg1_0 hBg1_0 hBg1_1 hRg1_2 hLg1_2 hBg1_2 s o hf a w hA Q hQ) ?_
    rintro _ a w13 _ ⟨rfl, hS29, hF⟩
    replace hS29 : St w0 w13 [] := hS29
    refine hK3 [(7, .int .i64 z3)] w13 ?_ a hF
    refine we_seq fun K12 hK12 => ?_
    refine we_region [(0, 0), (1, 0)] rfl ?_
    refine ge_batch [0, 1] (ans := []) (vs := [(6, .int .i64 z3), (46, .int .i64 z3)]) (l := []) (by kernel_rfl) trivial ?_
    refine ge_nil fun a hF => hK12 _ _ ?_ a hF
    obtain rfl := Option.some.inj h
    exact we_ret (post_ret (rs := [.tmp 6]) (ans := []) (vs := [.int .i64 z3]) (l := []) rfl (by kernel_rfl) trivial ⟨rfl, hS29⟩)
  · rw [hq9] at h
    simp only [] at h
    refine we_iter (A := sched_First.A0 K w0 l0 A0 c0 bg1_0 lg1_0 Ag1_0 cg1_0 bg1_1 xg1_1 bg1_2 lg1_2 Ag1_2 cg1_2 x2 hR0 hL0 hRg1_0 hLg1_0 hBg1_0 hBg1_1 hRg1_2 hLg1_2 hBg1_2) (B := sched_First.B0 K w0 l0 A0 c0 bg1_0 lg1_0 Ag1_0 cg1_0 bg1_1 xg1_1 bg1_2 lg1_2 Ag1_2 cg1_2 x2 hR0 hL0 hRg1_0 hLg1_0 hBg1_0 hBg1_1 hRg1_2 hLg1_2 hBg1_2) hq9 (fun a hF => ⟨hS, hF.weaken ⟨by kernel_rfl, by kernel_rfl, by kernel_rfl, by kernel_rfl, by kernel_rfl, by kernel_rfl, by kernel_rfl, trivial⟩⟩) (fun s o hf a w hA Q hQ => sched_First_r0 K w0 l0 A0 c0 bg1_0 lg1_0 Ag1_0 cg1_0 bg1_1 xg1_1 bg1_2 lg1_2 Ag1_2 cg1_2 x2 hR0 hL0 hRg1_0 hLg1_0 hBg1_0 hBg1_1 hRg1_2 hLg1_2 hBg1_2 s o hf a w hA Q hQ) ?_
    rintro _ a w1 _ ⟨rfl, hb⟩
    obtain rfl := Option.some.inj h
    exact hb

structure SPlayed where
  Runs : List Int
  Ends : List Int

/-! punctual/modes.hosted -/
abbrev modes_hosted.Post (w0 : World) (r : SPlayed × SFault) (e : Ending) (w : World) : Prop := ∃ (v0 : Value) (v1 : Value), e = .returned (.tuple #[.agg #[v0, v1], .agg #[.int .i64 r.2.Code, .int .i64 r.2.At]]) ∧ St w0 w [Own.of v0 3 r.1.Runs, Own.of v1 3 r.1.Ends]
def modes_hosted.p0 (x2 : Int) : Option (Unit ⊕ (SPlayed × SFault)) :=
    if x2 < 0 then
      some (.inr ((⟨([] : List Int), ([] : List Int)⟩ : SPlayed), (⟨3, 0⟩ : SFault)))
    else
      if x2 > 20000 then
        some (.inr ((⟨([] : List Int), ([] : List Int)⟩ : SPlayed), (⟨3, 0⟩ : SFault)))
      else
        some (.inl ())
def modes_hosted.p1 (l0 : List SJob) (x2 : Int) : Option (((List Int) × (List Int)) ⊕ (SPlayed × SFault)) :=
    if 0 ≤ x2 then
      if ((x2).toNat) ≤ 17592186044416 then
        if l0.length ≤ 17592186044416 then
          some (.inl ((List.replicate ((x2).toNat) (0 : Int)), (List.replicate l0.length (0 : Int))))
        else
          none
      else
        none
    else
      none
def modes_hosted.r2 (l0 : List SJob) : Nat × (List Int) × (List Int) → Option ((Nat × (List Int) × (List Int)) ⊕ (((List Int) × (List Int)) ⊕ (SPlayed × SFault)))
  | (i1, m5, m6) =>
    if (i1 : Int) < (l0.length : Int) then
      match l0[i1]? with
      | none => none
      | some e1 =>
        match m5[i1]? with
        | none => none
        | some e2 =>
          match m6[i1]? with
          | none => none
          | some e3 =>
            some (.inl ((i1 + 1), (m5.set i1 e1.C), (m6.set i1 (-1))))
    else
      some (.inr (.inl (m5, m6)))
def modes_hosted.r3 (K : Nat) (l0 : List SJob) (xg1_0 : Int) (lg1_1 : List SWindow) (x2 : Int) : Int × (List Int) × (List Int) × (List Int) → Option ((Int × (List Int) × (List Int) × (List Int)) ⊕ (((List Int) × (List Int)) ⊕ (SPlayed × SFault)))
  | (z1, m11, m12, m13) =>
    if z1 < x2 then
      if 0 ≤ z1 then
        match m12[(z1).toNat]? with
        | none => none
        | some e4 =>
          match modes_Hosted_1.f K z1 xg1_0 lg1_1 with
          | none => none
          | some r2 =>
            if r2 = true then
              match sched_First.f K l0 l0 z1 m11 1 with
              | none => none
              | some r3 =>
                match (m12.set ((z1).toNat) (-1))[(z1).toNat]? with
                | none => none
                | some e5 =>
                  if r3 < 0 then
                    some (.inl (IntKind.i64.wrap (z1 + 1), m11, ((m12.set ((z1).toNat) (-1)).set ((z1).toNat) r3), m13))
                  else
                    if 0 ≤ r3 then
                      match m11[(r3).toNat]? with
                      | none => none
                      | some e6 =>
                        match (m11.set ((r3).toNat) (IntKind.i64.wrap (e6 - 1)))[(r3).toNat]? with
                        | none => none
                        | some e7 =>
                          if e7 = 0 then
                            match m13[(r3).toNat]? with
                            | none => none
                            | some e8 =>
                              some (.inl (IntKind.i64.wrap (z1 + 1), (m11.set ((r3).toNat) (IntKind.i64.wrap (e6 - 1))), ((m12.set ((z1).toNat) (-1)).set ((z1).toNat) r3), (m13.set ((r3).toNat) (IntKind.i64.wrap (z1 + 1)))))
                          else
                            some (.inl (IntKind.i64.wrap (z1 + 1), (m11.set ((r3).toNat) (IntKind.i64.wrap (e6 - 1))), ((m12.set ((z1).toNat) (-1)).set ((z1).toNat) r3), m13))
                    else
                      none
            else
              some (.inl (IntKind.i64.wrap (z1 + 1), m11, (m12.set ((z1).toNat) (-1)), m13))
      else
        none
    else
      some (.inr (.inl (m12, m13)))
def modes_hosted.p4 (r1 : SFault) : Option ((Int × Int × (List Int) × (List Int)) ⊕ (SPlayed × SFault)) :=
    some (.inl (r1.Code, r1.At, ([] : List Int), ([] : List Int)))
def modes_hosted.f (K : Nat) (l0 : List SJob) (xg1_0 : Int) (lg1_1 : List SWindow) (x2 : Int) : Option (SPlayed × SFault) :=
  match sched_Check.f K l0 with
  | none => none
  | some r1 =>
    if r1.Code = 0 then
      match modes_hosted.p0 x2 with
      | none => none
      | some (.inl _) =>
        match modes_hosted.p1 l0 x2 with
        | none => none
        | some (.inl (m3, m4)) =>
          if l0.length ≤ 17592186044416 then
            match iter (modes_hosted.r2 l0) K (0, (List.replicate l0.length (0 : Int)), m4) with
            | none => none
            | some (.inl (m9, m10)) =>
              match iter (modes_hosted.r3 K l0 xg1_0 lg1_1 x2) K (0, m9, m3, m10) with
              | none => none
              | some (.inl (m16, m17)) =>
                some ((⟨m16, m17⟩ : SPlayed), (⟨0, 0⟩ : SFault))
              | some (.inr rr1) =>
                some rr1
            | some (.inr rr2) =>
              some rr2
          else
            none
        | some (.inr rr3) =>
          some rr3
      | some (.inr rr4) =>
        some rr4
    else
      match modes_hosted.p4 r1 with
      | none => none
      | some (.inl (z4, z5, m20, m21)) =>
        some ((⟨m20, m21⟩ : SPlayed), (⟨z4, z5⟩ : SFault))
      | some (.inr rr5) =>
        some rr5
abbrev modes_hosted.A0 (K : Nat) (w0 : World) (l0 : List SJob) (A0 : Option Addr) (c0 : Nat) (bg1_0 : Nat) (xg1_0 : Int) (bg1_1 : Nat) (lg1_1 : List SWindow) (Ag1_1 : Option Addr) (cg1_1 : Nat) (x2 : Int) (hR0 : RdL w0 A0 l0) (hL0 : l0.length ≤ c0) (hBg1_0 : Glob w0 bg1_0 [.int .i64 xg1_0]) (hRg1_1 : RdL w0 Ag1_1 lg1_1) (hLg1_1 : lg1_1.length ≤ cg1_1) (hBg1_1 : Glob w0 bg1_1 [.slice Ag1_1 lg1_1.length cg1_1]) (b1 : Nat) (b2 : Nat) (b3 : Nat) (r1 : SFault) (b4 : Nat) (hc1 : r1.Code = 0) : Unit → Act → World → Prop := fun (s : Unit) a w => St w0 w [Own.blk b3 (.cells #[.int .i64 0, .int .i64 0] 31 (0, 0)), Own.blk b2 (.cells #[.slice none 0 0, .slice none 0 0] 36 (0, 0)), Own.blk b1 (.cells #[.slice A0 l0.length c0] 28 (0, 0))] ∧ Frm 98 a [(1, .func (.func 54) #[] #[.pointer (some ⟨bg1_0, 0, none⟩), .pointer (some ⟨bg1_1, 0, none⟩)]), (2, .int .i64 x2), (3, .pointer (some ⟨b1, 0, none⟩)), (6, .pointer (some ⟨b2, 0, none⟩)), (7, .pointer (some ⟨b3, 0, none⟩))]
abbrev modes_hosted.B0 (K : Nat) (w0 : World) (l0 : List SJob) (A0 : Option Addr) (c0 : Nat) (bg1_0 : Nat) (xg1_0 : Int) (bg1_1 : Nat) (lg1_1 : List SWindow) (Ag1_1 : Option Addr) (cg1_1 : Nat) (x2 : Int) (hR0 : RdL w0 A0 l0) (hL0 : l0.length ≤ c0) (hBg1_0 : Glob w0 bg1_0 [.int .i64 xg1_0]) (hRg1_1 : RdL w0 Ag1_1 lg1_1) (hLg1_1 : lg1_1.length ≤ cg1_1) (hBg1_1 : Glob w0 bg1_1 [.slice Ag1_1 lg1_1.length cg1_1]) (b1 : Nat) (b2 : Nat) (b3 : Nat) (r1 : SFault) (b4 : Nat) (hc1 : r1.Code = 0) : (SPlayed × SFault) → Exit → Act → World → Prop := Rets Try.prog Try.f53 (modes_hosted.Post w0)
theorem modes_hosted_p0 (K : Nat) (w0 : World) (l0 : List SJob) (A0 : Option Addr) (c0 : Nat) (bg1_0 : Nat) (xg1_0 : Int) (bg1_1 : Nat) (lg1_1 : List SWindow) (Ag1_1 : Option Addr) (cg1_1 : Nat) (x2 : Int) (hR0 : RdL w0 A0 l0) (hL0 : l0.length ≤ c0) (hBg1_0 : Glob w0 bg1_0 [.int .i64 xg1_0]) (hRg1_1 : RdL w0 Ag1_1 lg1_1) (hLg1_1 : lg1_1.length ≤ cg1_1) (hBg1_1 : Glob w0 bg1_1 [.slice Ag1_1 lg1_1.length cg1_1]) (b1 : Nat) (b2 : Nat) (b3 : Nat) (r1 : SFault) (b4 : Nat) (hc1 : r1.Code = 0) (o : Unit ⊕ (SPlayed × SFault)) (h : modes_hosted.p0 x2 = some o) (w : World) (hS : St w0 w [Own.blk b4 (.cells #[.int .i64 r1.Code, .int .i64 r1.At] 31 (0, 0)), Own.blk b3 (.cells #[.int .i64 0, .int .i64 0] 31 (0, 0)), Own.blk b2 (.cells #[.slice none 0 0, .slice none 0 0] 36 (0, 0)), Own.blk b1 (.cells #[.slice A0 l0.length c0] 28 (0, 0))]) (Q : Exit → Act → World → Prop) (hQ : ∀ x a w, Outs (modes_hosted.A0 K w0 l0 A0 c0 bg1_0 xg1_0 bg1_1 lg1_1 Ag1_1 cg1_1 x2 hR0 hL0 hBg1_0 hRg1_1 hLg1_1 hBg1_1 b1 b2 b3 r1 b4 hc1) (modes_hosted.B0 K w0 l0 A0 c0 bg1_0 xg1_0 bg1_1 lg1_1 Ag1_1 cg1_1 x2 hR0 hL0 hBg1_0 hRg1_1 hLg1_1 hBg1_1 b1 b2 b3 r1 b4 hc1) o x a w → Q x a w) : WE Try.prog 98 (subF Try.f53 [1, 1, 0]) Q [(0, .slice A0 l0.length c0), (1, .func (.func 54) #[] #[.pointer (some ⟨bg1_0, 0, none⟩), .pointer (some ⟨bg1_1, 0, none⟩)]), (2, .int .i64 x2), (3, .pointer (some ⟨b1, 0, none⟩)), (6, .pointer (some ⟨b2, 0, none⟩)), (7, .pointer (some ⟨b3, 0, none⟩)), (8, .pointer (some ⟨b4, 0, none⟩)), (15, .slice A0 l0.length c0), (16, .agg #[.int .i64 r1.Code, .int .i64 r1.At]), (17, .pointer (some ⟨b4, 0, none⟩)), (18, .int .i64 r1.Code), (19, .bool false)] w := by
  simp only [modes_hosted.p0] at h
  refine we_seq fun K6 hK6 => ?_
  refine we_region [(0, 0), (1, 0), (2, 0), (3, 0), (4, 0), (5, 0)] rfl ?_
  refine ge_batch [0, 1, 2] (ans := []) (vs := [(24, .bool (decide (x2 < 0))), (23, .bool (decide (x2 < 0))), (22, .int .i64 x2)]) (l := []) (by kernel_rfl) trivial ?_
  by_cases hc2 : x2 < 0
  · rw [if_pos hc2] at h
    refine ge_known (t := 24) (b := decide (x2 < 0)) (c := true) (by kernel_rfl) (decide_eq_true hc2) ?_
    refine ge_batch [3, 4, 5] (ans := []) (vs := [(27, .bool true), (26, undef), (25, undef)]) (l := []) (by kernel_rfl) trivial ?_
    refine ge_nil fun a hF => hK6 _ _ ?_ a hF
    refine we_true (by kernel_rfl) ?_
    refine we_seq fun K7 hK7 => ?_
    refine we_region [(0, 0), (1, 0), (2, 2), (3, 2)] rfl ?_
    refine ge_batch [0, 1] (ans := []) (vs := [(29, .agg #[.int .i64 3, .int .i64 0]), (28, .agg #[.slice none 0 0, .slice none 0 0])]) (l := []) (by kernel_rfl) trivial ?_
    have hS9 := hS.bring 2 rfl
    refine ge_set (b := b2) (j := 0) (cs := #[.slice none 0 0, .slice none 0 0]) (t := 36) (vs := [.slice none 0 0, .slice none 0 0]) hS9 (by kernel_rfl) rfl rfl fun w7 hS10 => ?_
    have hS11 : St w0 w7 [Own.blk b2 (.cells #[.slice none 0 0, .slice none 0 0] 36 (0, 0)), Own.blk b4 (.cells #[.int .i64 r1.Code, .int .i64 r1.At] 31 (0, 0)), Own.blk b3 (.cells #[.int .i64 0, .int .i64 0] 31 (0, 0)), Own.blk b1 (.cells #[.slice A0 l0.length c0] 28 (0, 0))] := hS10
    have hS12 := hS11.bring 2 rfl
    refine ge_set (b := b3) (j := 0) (cs := #[.int .i64 0, .int .i64 0]) (t := 31) (vs := [.int .i64 3, .int .i64 0]) hS12 (by kernel_rfl) rfl rfl fun w8 hS13 => ?_
    have hS14 : St w0 w8 [Own.blk b3 (.cells #[.int .i64 3, .int .i64 0] 31 (0, 0)), Own.blk b2 (.cells #[.slice none 0 0, .slice none 0 0] 36 (0, 0)), Own.blk b4 (.cells #[.int .i64 r1.Code, .int .i64 r1.At] 31 (0, 0)), Own.blk b1 (.cells #[.slice A0 l0.length c0] 28 (0, 0))] := hS13
    refine ge_nil fun a hF => hK7 _ _ ?_ a hF
    have hS15 := hS14.nil (α := Int) 3
    have hS16 := hS15.nil (α := Int) 3
    have hS17 := hS16.bring 1 rfl
    have hS18 := hS17.bring 1 rfl
    have hS19 := hS18.takeN 2
    obtain rfl := Option.some.inj h
    exact we_ret fun a hF => hQ _ _ _ (Outs.out nofun ⟨rfl, (post_ret (rs := [.cell 6 36, .cell 7 31]) (ans := [.val ((.slice none 0 0)), .val ((.slice none 0 0)), .val (.int .i64 3), .val (.int .i64 0)]) (vs := [.agg #[(.slice none 0 0), (.slice none 0 0)], .agg #[.int .i64 3, .int .i64 0]]) (l := [.loaded ⟨b2, 0, none⟩ ((.slice none 0 0)), .loaded ⟨b2, 1, none⟩ ((.slice none 0 0)), .loaded ⟨b3, 0, none⟩ (.int .i64 3), .loaded ⟨b3, 1, none⟩ (.int .i64 0)]) rfl (by kernel_rfl) ⟨hS16.cell 3 rfl rfl, hS16.cell 3 rfl rfl, hS16.cell 2 rfl rfl, hS16.cell 2 rfl rfl, trivial⟩ ⟨(.slice none 0 0), (.slice none 0 0), rfl, hS19⟩) a hF⟩)
  · rw [if_neg hc2] at h
    refine ge_known (t := 24) (b := decide (x2 < 0)) (c := false) (by kernel_rfl) (decide_eq_false hc2) ?_
    refine ge_batch [3, 4, 5] (ans := []) (vs := [(27, .bool (decide (x2 > 20000))), (26, .bool (decide (x2 > 20000))), (25, .int .i64 x2)]) (l := []) (by kernel_rfl) trivial ?_
    refine ge_nil fun a hF => hK6 _ _ ?_ a hF
    by_cases hc3 : x2 > 20000
    · rw [if_pos hc3] at h
      refine we_known (t := 27) (b := decide (x2 > 20000)) (v := true) (by kernel_rfl) (decide_eq_true hc3) ?_
      refine we_true (by kernel_rfl) ?_
      refine we_seq fun K8 hK8 => ?_
      refine we_region [(0, 0), (1, 0), (2, 2), (3, 2)] rfl ?_
      refine ge_batch [0, 1] (ans := []) (vs := [(29, .agg #[.int .i64 3, .int .i64 0]), (28, .agg #[.slice none 0 0, .slice none 0 0])]) (l := []) (by kernel_rfl) trivial ?_
      have hS20 := hS.bring 2 rfl
      refine ge_set (b := b2) (j := 0) (cs := #[.slice none 0 0, .slice none 0 0]) (t := 36) (vs := [.slice none 0 0, .slice none 0 0]) hS20 (by kernel_rfl) rfl rfl fun w9 hS21 => ?_
      have hS22 : St w0 w9 [Own.blk b2 (.cells #[.slice none 0 0, .slice none 0 0] 36 (0, 0)), Own.blk b4 (.cells #[.int .i64 r1.Code, .int .i64 r1.At] 31 (0, 0)), Own.blk b3 (.cells #[.int .i64 0, .int .i64 0] 31 (0, 0)), Own.blk b1 (.cells #[.slice A0 l0.length c0] 28 (0, 0))] := hS21
      have hS23 := hS22.bring 2 rfl
      refine ge_set (b := b3) (j := 0) (cs := #[.int .i64 0, .int .i64 0]) (t := 31) (vs := [.int .i64 3, .int .i64 0]) hS23 (by kernel_rfl) rfl rfl fun w10 hS24 => ?_
      have hS25 : St w0 w10 [Own.blk b3 (.cells #[.int .i64 3, .int .i64 0] 31 (0, 0)), Own.blk b2 (.cells #[.slice none 0 0, .slice none 0 0] 36 (0, 0)), Own.blk b4 (.cells #[.int .i64 r1.Code, .int .i64 r1.At] 31 (0, 0)), Own.blk b1 (.cells #[.slice A0 l0.length c0] 28 (0, 0))] := hS24
      refine ge_nil fun a hF => hK8 _ _ ?_ a hF
      have hS26 := hS25.nil (α := Int) 3
      have hS27 := hS26.nil (α := Int) 3
      have hS28 := hS27.bring 1 rfl
      have hS29 := hS28.bring 1 rfl
      have hS30 := hS29.takeN 2
      obtain rfl := Option.some.inj h
      exact we_ret fun a hF => hQ _ _ _ (Outs.out nofun ⟨rfl, (post_ret (rs := [.cell 6 36, .cell 7 31]) (ans := [.val ((.slice none 0 0)), .val ((.slice none 0 0)), .val (.int .i64 3), .val (.int .i64 0)]) (vs := [.agg #[(.slice none 0 0), (.slice none 0 0)], .agg #[.int .i64 3, .int .i64 0]]) (l := [.loaded ⟨b2, 0, none⟩ ((.slice none 0 0)), .loaded ⟨b2, 1, none⟩ ((.slice none 0 0)), .loaded ⟨b3, 0, none⟩ (.int .i64 3), .loaded ⟨b3, 1, none⟩ (.int .i64 0)]) rfl (by kernel_rfl) ⟨hS27.cell 3 rfl rfl, hS27.cell 3 rfl rfl, hS27.cell 2 rfl rfl, hS27.cell 2 rfl rfl, trivial⟩ ⟨(.slice none 0 0), (.slice none 0 0), rfl, hS30⟩) a hF⟩)
    · rw [if_neg hc3] at h
      refine we_known (t := 27) (b := decide (x2 > 20000)) (v := false) (by kernel_rfl) (decide_eq_false hc3) ?_
      refine we_false (by kernel_rfl) ?_
      have hS31 := hS.bring 3 rfl
      have hS32 := hS31.bring 3 rfl
      have hS33 := hS32.bring 3 rfl
      have hS34 := hS33.takeN 3
      obtain rfl := Option.some.inj h
      exact we_skip fun a hF => hQ _ _ _ (Outs.again ⟨hS34, hF.weaken ⟨by kernel_rfl, by kernel_rfl, by kernel_rfl, by kernel_rfl, by kernel_rfl, trivial⟩⟩)
abbrev modes_hosted.A1 (K : Nat) (w0 : World) (l0 : List SJob) (A0 : Option Addr) (c0 : Nat) (bg1_0 : Nat) (xg1_0 : Int) (bg1_1 : Nat) (lg1_1 : List SWindow) (Ag1_1 : Option Addr) (cg1_1 : Nat) (x2 : Int) (hR0 : RdL w0 A0 l0) (hL0 : l0.length ≤ c0) (hBg1_0 : Glob w0 bg1_0 [.int .i64 xg1_0]) (hRg1_1 : RdL w0 Ag1_1 lg1_1) (hLg1_1 : lg1_1.length ≤ cg1_1) (hBg1_1 : Glob w0 bg1_1 [.slice Ag1_1 lg1_1.length cg1_1]) (b1 : Nat) (b2 : Nat) (b3 : Nat) (r1 : SFault) (b4 : Nat) (hc1 : r1.Code = 0) : ((List Int) × (List Int)) → Act → World → Prop := fun (s : (List Int) × (List Int)) a w => ∃ (b5 : Nat) (v1 : Value) (v2 : Value), St w0 w [Own.blk b5 (.cells #[v1, v2] 36 (0, 0)), Own.blk b3 (.cells #[.int .i64 0, .int .i64 0] 31 (0, 0)), Own.blk b2 (.cells #[.slice none 0 0, .slice none 0 0] 36 (0, 0)), Own.blk b1 (.cells #[.slice A0 l0.length c0] 28 (0, 0)), Own.of v1 3 s.1, Own.of v2 3 s.2] ∧ Frm 98 a [(1, .func (.func 54) #[] #[.pointer (some ⟨bg1_0, 0, none⟩), .pointer (some ⟨bg1_1, 0, none⟩)]), (2, .int .i64 x2), (3, .pointer (some ⟨b1, 0, none⟩)), (6, .pointer (some ⟨b2, 0, none⟩)), (7, .pointer (some ⟨b3, 0, none⟩)), (9, .pointer (some ⟨b5, 0, none⟩))]
abbrev modes_hosted.B1 (K : Nat) (w0 : World) (l0 : List SJob) (A0 : Option Addr) (c0 : Nat) (bg1_0 : Nat) (xg1_0 : Int) (bg1_1 : Nat) (lg1_1 : List SWindow) (Ag1_1 : Option Addr) (cg1_1 : Nat) (x2 : Int) (hR0 : RdL w0 A0 l0) (hL0 : l0.length ≤ c0) (hBg1_0 : Glob w0 bg1_0 [.int .i64 xg1_0]) (hRg1_1 : RdL w0 Ag1_1 lg1_1) (hLg1_1 : lg1_1.length ≤ cg1_1) (hBg1_1 : Glob w0 bg1_1 [.slice Ag1_1 lg1_1.length cg1_1]) (b1 : Nat) (b2 : Nat) (b3 : Nat) (r1 : SFault) (b4 : Nat) (hc1 : r1.Code = 0) : (SPlayed × SFault) → Exit → Act → World → Prop := Rets Try.prog Try.f53 (modes_hosted.Post w0)
theorem modes_hosted_p1 (K : Nat) (w0 : World) (l0 : List SJob) (A0 : Option Addr) (c0 : Nat) (bg1_0 : Nat) (xg1_0 : Int) (bg1_1 : Nat) (lg1_1 : List SWindow) (Ag1_1 : Option Addr) (cg1_1 : Nat) (x2 : Int) (hR0 : RdL w0 A0 l0) (hL0 : l0.length ≤ c0) (hBg1_0 : Glob w0 bg1_0 [.int .i64 xg1_0]) (hRg1_1 : RdL w0 Ag1_1 lg1_1) (hLg1_1 : lg1_1.length ≤ cg1_1) (hBg1_1 : Glob w0 bg1_1 [.slice Ag1_1 lg1_1.length cg1_1]) (b1 : Nat) (b2 : Nat) (b3 : Nat) (r1 : SFault) (b4 : Nat) (hc1 : r1.Code = 0) (o : ((List Int) × (List Int)) ⊕ (SPlayed × SFault)) (h : modes_hosted.p1 l0 x2 = some o) (w : World) (hS : St w0 w [Own.blk b3 (.cells #[.int .i64 0, .int .i64 0] 31 (0, 0)), Own.blk b2 (.cells #[.slice none 0 0, .slice none 0 0] 36 (0, 0)), Own.blk b1 (.cells #[.slice A0 l0.length c0] 28 (0, 0))]) (Q : Exit → Act → World → Prop) (hQ : ∀ x a w, Outs (modes_hosted.A1 K w0 l0 A0 c0 bg1_0 xg1_0 bg1_1 lg1_1 Ag1_1 cg1_1 x2 hR0 hL0 hBg1_0 hRg1_1 hLg1_1 hBg1_1 b1 b2 b3 r1 b4 hc1) (modes_hosted.B1 K w0 l0 A0 c0 bg1_0 xg1_0 bg1_1 lg1_1 Ag1_1 cg1_1 x2 hR0 hL0 hBg1_0 hRg1_1 hLg1_1 hBg1_1 b1 b2 b3 r1 b4 hc1) o x a w → Q x a w) : WE Try.prog 98 (subF Try.f53 [1, 1, 1, 0]) Q [(1, .func (.func 54) #[] #[.pointer (some ⟨bg1_0, 0, none⟩), .pointer (some ⟨bg1_1, 0, none⟩)]), (2, .int .i64 x2), (3, .pointer (some ⟨b1, 0, none⟩)), (6, .pointer (some ⟨b2, 0, none⟩)), (7, .pointer (some ⟨b3, 0, none⟩))] w := by
  simp only [modes_hosted.p1] at h
  refine we_orders2 (by kernel_rfl) [(2, [⟨b1, 0, none⟩])] (.vals [0] (.vals [2] (.vals [3] (.alt 1 1 (.alt 4 1 (.vals [5] (.alt 6 1 (.alt 7 2 .fin .nomore) .nomore)) (.alt 6 1 (.alt 4 1 (.vals [5] (.alt 7 2 .fin .nomore)) .nomore) .nomore)) (.alt 4 1 (.alt 1 1 (.vals [5] (.alt 6 1 (.alt 7 2 .fin .nomore) .nomore)) (.alt 6 1 (.alt 1 1 (.vals [5] (.alt 7 2 .fin .nomore)) .nomore) .nomore)) (.alt 6 1 (.alt 1 1 (.alt 4 1 (.vals [5] (.alt 7 2 .fin .nomore)) .nomore) (.alt 4 1 (.alt 1 1 (.vals [5] (.alt 7 2 .fin .nomore)) .nomore) .nomore)) .nomore)))))) (by kernel_rfl) ?_
  have hS36 := hS.drew
  refine go2_batch [0] (ans := []) (vs := [(30, .int .i64 x2)]) (l := []) (by kernel_rfl) trivial mem_nil ?_
  refine go2_batch [2] (ans := [.val (.slice A0 l0.length c0)]) (vs := [(32, .slice A0 l0.length c0)]) (l := [.loaded ⟨b1, 0, none⟩ (.slice A0 l0.length c0)]) (by kernel_rfl) ⟨hS36.cell 2 rfl rfl, trivial⟩ (mem_one (by kernel_rfl)) ?_
  refine go2_batch [3] (ans := []) (vs := [(33, .int .i64 (l0.length : Int))]) (l := []) (by kernel_rfl) trivial mem_nil ?_
  by_cases hc4 : 0 ≤ x2
  · rw [if_pos hc4] at h
    by_cases hc5 : ((x2).toNat) ≤ 17592186044416
    · rw [if_pos hc5] at h
      by_cases hc6 : l0.length ≤ 17592186044416
      · rw [if_pos hc6] at h
        refine go_alt2 (fun KK hKK => ?_) ?_
        · refine ge_one2 ?_
          refine ge_make (α := Int) (d := 31) (t := 25) (el := 3) (bytes := 8) (l := ((x2).toNat)) (c := ((x2).toNat)) (x := (.tmp 30)) (y := (.tmp 30)) (ty := 25) (k1 := .i64) (k2 := .i64) (li := x2) (ci := x2) (z := .int .i64 0) (z' := (0 : Int)) (by kernel_rfl) (by kernel_rfl) (by kernel_rfl) (Int.toNat_of_nonneg hc4).symm (Int.toNat_of_nonneg hc4).symm (by kernel_rfl) (by kernel_rfl) rfl hS36 (Nat.le_refl _) rfl (by omega) fun v3 w12 _ hS37 => ?_
          refine ge_nil fun a hF => hKK _ _ (RS.of2 (l := [.loaded ⟨b1, 0, none⟩ (.slice A0 l0.length c0)]) (by kernel_rfl) ⟨hS36.cell 2 rfl rfl, trivial⟩ ⟨hS37.cell 3 rfl rfl, trivial⟩) ?_ a hF
          refine go_alt2 (fun KK hKK => ?_) ?_
          · refine ge_one2 ?_
            refine ge_make (α := Int) (d := 34) (t := 25) (el := 3) (bytes := 8) (l := l0.length) (c := l0.length) (x := (.tmp 33)) (y := (.tmp 33)) (ty := 25) (k1 := .i64) (k2 := .i64) (li := (l0.length : Int)) (ci := (l0.length : Int)) (z := .int .i64 0) (z' := (0 : Int)) (by kernel_rfl) (by kernel_rfl) (by kernel_rfl) rfl rfl (by kernel_rfl) (by kernel_rfl) rfl hS37 (Nat.le_refl _) rfl (by omega) fun v4 w13 _ hS38 => ?_
            refine ge_nil fun a hF => hKK _ _ (RS.of2 (l := [.loaded ⟨b1, 0, none⟩ (.slice A0 l0.length c0)]) (by kernel_rfl) ⟨hS37.cell 3 rfl rfl, trivial⟩ ⟨hS38.cell 4 rfl rfl, trivial⟩) ?_ a hF
            obtain ⟨Z1, cz1, rfl⟩ := hS38.open 1 rfl
            obtain ⟨Z2, cz2, rfl⟩ := hS38.open 0 rfl
            refine go2_batch [5] (ans := []) (vs := [(35, .agg #[(.slice Z1 (List.replicate ((x2).toNat) (0 : Int)).length cz1), (.slice Z2 (List.replicate l0.length (0 : Int)).length cz2)])]) (l := []) (by kernel_rfl) trivial mem_nil ?_
            refine go_alt2 (fun KK hKK => ?_) ?_
            · refine ge_one2 ?_
              refine ge_new (d := some 9) (o := .cells #[.slice none 0 0, .slice none 0 0] 36) (v := fun b => .pointer (some ⟨b, 0, none⟩)) hS38 (fun b => by kernel_rfl) fun b6 w14 hx5 hS39 => ?_
              refine ge_nil fun a hF => hKK _ _ (RS.of2 (l := [.loaded ⟨b1, 0, none⟩ (.slice A0 l0.length c0)]) (by kernel_rfl) ⟨hS38.cell 4 rfl rfl, trivial⟩ ⟨hS39.cell 5 rfl rfl, trivial⟩) ?_ a hF
              refine go_alt2 (fun KK hKK => ?_) ?_
              · refine ge_set (b := b6) (j := 0) (cs := #[.slice none 0 0, .slice none 0 0]) (t := 36) (vs := [(.slice Z1 (List.replicate ((x2).toNat) (0 : Int)).length cz1), (.slice Z2 (List.replicate l0.length (0 : Int)).length cz2)]) hS39 (by kernel_rfl) rfl rfl fun w15 hS40 => ?_
                have hS41 : St w0 w15 [Own.blk b6 (.cells #[(.slice Z1 (List.replicate ((x2).toNat) (0 : Int)).length cz1), (.slice Z2 (List.replicate l0.length (0 : Int)).length cz2)] 36 (0, 0)), Own.of (.slice Z2 (List.replicate l0.length (0 : Int)).length cz2) 3 (List.replicate l0.length (0 : Int)), Own.of (.slice Z1 (List.replicate ((x2).toNat) (0 : Int)).length cz1) 3 (List.replicate ((x2).toNat) (0 : Int)), Own.blk b3 (.cells #[.int .i64 0, .int .i64 0] 31 (0, 0)), Own.blk b2 (.cells #[.slice none 0 0, .slice none 0 0] 36 (0, 0)), Own.blk b1 (.cells #[.slice A0 l0.length c0] 28 (0, 0))] := hS40
                refine ge_nil fun a hF => hKK _ _ (RS.of2 (l := []) (by kernel_rfl) trivial trivial) ?_ a hF
                have hS42 := hS41.bring 1 rfl
                have hS43 := hS42.bring 2 rfl
                have hS44 := hS43.bring 5 rfl
                have hS45 := hS44.bring 5 rfl
                have hS46 := hS45.bring 5 rfl
                have hS47 := hS46.bring 5 rfl
                obtain rfl := Option.some.inj h
                exact go_fin2 fun a hF => hQ _ _ _ (Outs.again ⟨b6, (.slice Z1 (List.replicate ((x2).toNat) (0 : Int)).length cz1), (.slice Z2 (List.replicate l0.length (0 : Int)).length cz2), hS47, hF.weaken ⟨by kernel_rfl, by kernel_rfl, by kernel_rfl, by kernel_rfl, by kernel_rfl, by kernel_rfl, trivial⟩⟩)
              exact go_nomore2
            exact go_nomore2
          refine go_alt2 (fun KK hKK => ?_) ?_
          · refine ge_one2 ?_
            refine ge_new (d := some 9) (o := .cells #[.slice none 0 0, .slice none 0 0] 36) (v := fun b => .pointer (some ⟨b, 0, none⟩)) hS37 (fun b => by kernel_rfl) fun b6 w13 hx5 hS38 => ?_
            refine ge_nil fun a hF => hKK _ _ (RS.of2 (l := [.loaded ⟨b1, 0, none⟩ (.slice A0 l0.length c0)]) (by kernel_rfl) ⟨hS37.cell 3 rfl rfl, trivial⟩ ⟨hS38.cell 4 rfl rfl, trivial⟩) ?_ a hF
            refine go_alt2 (fun KK hKK => ?_) ?_
            · refine ge_one2 ?_
              refine ge_make (α := Int) (d := 34) (t := 25) (el := 3) (bytes := 8) (l := l0.length) (c := l0.length) (x := (.tmp 33)) (y := (.tmp 33)) (ty := 25) (k1 := .i64) (k2 := .i64) (li := (l0.length : Int)) (ci := (l0.length : Int)) (z := .int .i64 0) (z' := (0 : Int)) (by kernel_rfl) (by kernel_rfl) (by kernel_rfl) rfl rfl (by kernel_rfl) (by kernel_rfl) rfl hS38 (Nat.le_refl _) rfl (by omega) fun v4 w14 _ hS39 => ?_
              refine ge_nil fun a hF => hKK _ _ (RS.of2 (l := [.loaded ⟨b1, 0, none⟩ (.slice A0 l0.length c0)]) (by kernel_rfl) ⟨hS38.cell 4 rfl rfl, trivial⟩ ⟨hS39.cell 5 rfl rfl, trivial⟩) ?_ a hF
              obtain ⟨Z1, cz1, rfl⟩ := hS39.open 2 rfl
              obtain ⟨Z2, cz2, rfl⟩ := hS39.open 0 rfl
              refine go2_batch [5] (ans := []) (vs := [(35, .agg #[(.slice Z1 (List.replicate ((x2).toNat) (0 : Int)).length cz1), (.slice Z2 (List.replicate l0.length (0 : Int)).length cz2)])]) (l := []) (by kernel_rfl) trivial mem_nil ?_
              refine go_alt2 (fun KK hKK => ?_) ?_
              · have hS40 := hS39.bring 1 rfl
                refine ge_set (b := b6) (j := 0) (cs := #[.slice none 0 0, .slice none 0 0]) (t := 36) (vs := [(.slice Z1 (List.replicate ((x2).toNat) (0 : Int)).length cz1), (.slice Z2 (List.replicate l0.length (0 : Int)).length cz2)]) hS40 (by kernel_rfl) rfl rfl fun w15 hS41 => ?_
                have hS42 : St w0 w15 [Own.blk b6 (.cells #[(.slice Z1 (List.replicate ((x2).toNat) (0 : Int)).length cz1), (.slice Z2 (List.replicate l0.length (0 : Int)).length cz2)] 36 (0, 0)), Own.of (.slice Z2 (List.replicate l0.length (0 : Int)).length cz2) 3 (List.replicate l0.length (0 : Int)), Own.of (.slice Z1 (List.replicate ((x2).toNat) (0 : Int)).length cz1) 3 (List.replicate ((x2).toNat) (0 : Int)), Own.blk b3 (.cells #[.int .i64 0, .int .i64 0] 31 (0, 0)), Own.blk b2 (.cells #[.slice none 0 0, .slice none 0 0] 36 (0, 0)), Own.blk b1 (.cells #[.slice A0 l0.length c0] 28 (0, 0))] := hS41
                refine ge_nil fun a hF => hKK _ _ (RS.of2 (l := []) (by kernel_rfl) trivial trivial) ?_ a hF
                have hS43 := hS42.bring 1 rfl
                have hS44 := hS43.bring 2 rfl
                have hS45 := hS44.bring 5 rfl
                have hS46 := hS45.bring 5 rfl
                have hS47 := hS46.bring 5 rfl
                have hS48 := hS47.bring 5 rfl
                obtain rfl := Option.some.inj h
                exact go_fin2 fun a hF => hQ _ _ _ (Outs.again ⟨b6, (.slice Z1 (List.replicate ((x2).toNat) (0 : Int)).length cz1), (.slice Z2 (List.replicate l0.length (0 : Int)).length cz2), hS48, hF.weaken ⟨by kernel_rfl, by kernel_rfl, by kernel_rfl, by kernel_rfl, by kernel_rfl, by kernel_rfl, trivial⟩⟩)
              exact go_nomore2
            exact go_nomore2
          exact go_nomore2
        refine go_alt2 (fun KK hKK => ?_) ?_
        · refine ge_one2 ?_
          refine ge_make (α := Int) (d := 34) (t := 25) (el := 3) (bytes := 8) (l := l0.length) (c := l0.length) (x := (.tmp 33)) (y := (.tmp 33)) (ty := 25) (k1 := .i64) (k2 := .i64) (li := (l0.length : Int)) (ci := (l0.length : Int)) (z := .int .i64 0) (z' := (0 : Int)) (by kernel_rfl) (by kernel_rfl) (by kernel_rfl) rfl rfl (by kernel_rfl) (by kernel_rfl) rfl hS36 (Nat.le_refl _) rfl (by omega) fun v3 w12 _ hS37 => ?_
          refine ge_nil fun a hF => hKK _ _ (RS.of2 (l := [.loaded ⟨b1, 0, none⟩ (.slice A0 l0.length c0)]) (by kernel_rfl) ⟨hS36.cell 2 rfl rfl, trivial⟩ ⟨hS37.cell 3 rfl rfl, trivial⟩) ?_ a hF
          refine go_alt2 (fun KK hKK => ?_) ?_
          · refine ge_one2 ?_
            refine ge_make (α := Int) (d := 31) (t := 25) (el := 3) (bytes := 8) (l := ((x2).toNat)) (c := ((x2).toNat)) (x := (.tmp 30)) (y := (.tmp 30)) (ty := 25) (k1 := .i64) (k2 := .i64) (li := x2) (ci := x2) (z := .int .i64 0) (z' := (0 : Int)) (by kernel_rfl) (by kernel_rfl) (by kernel_rfl) (Int.toNat_of_nonneg hc4).symm (Int.toNat_of_nonneg hc4).symm (by kernel_rfl) (by kernel_rfl) rfl hS37 (Nat.le_refl _) rfl (by omega) fun v4 w13 _ hS38 => ?_
            refine ge_nil fun a hF => hKK _ _ (RS.of2 (l := [.loaded ⟨b1, 0, none⟩ (.slice A0 l0.length c0)]) (by kernel_rfl) ⟨hS37.cell 3 rfl rfl, trivial⟩ ⟨hS38.cell 4 rfl rfl, trivial⟩) ?_ a hF
            obtain ⟨Z1, cz1, rfl⟩ := hS38.open 0 rfl
            obtain ⟨Z2, cz2, rfl⟩ := hS38.open 1 rfl
            refine go2_batch [5] (ans := []) (vs := [(35, .agg #[(.slice Z1 (List.replicate ((x2).toNat) (0 : Int)).length cz1), (.slice Z2 (List.replicate l0.length (0 : Int)).length cz2)])]) (l := []) (by kernel_rfl) trivial mem_nil ?_
            refine go_alt2 (fun KK hKK => ?_) ?_
            · refine ge_one2 ?_
              refine ge_new (d := some 9) (o := .cells #[.slice none 0 0, .slice none 0 0] 36) (v := fun b => .pointer (some ⟨b, 0, none⟩)) hS38 (fun b => by kernel_rfl) fun b6 w14 hx5 hS39 => ?_
              refine ge_nil fun a hF => hKK _ _ (RS.of2 (l := [.loaded ⟨b1, 0, none⟩ (.slice A0 l0.length c0)]) (by kernel_rfl) ⟨hS38.cell 4 rfl rfl, trivial⟩ ⟨hS39.cell 5 rfl rfl, trivial⟩) ?_ a hF
              refine go_alt2 (fun KK hKK => ?_) ?_
              · refine ge_set (b := b6) (j := 0) (cs := #[.slice none 0 0, .slice none 0 0]) (t := 36) (vs := [(.slice Z1 (List.replicate ((x2).toNat) (0 : Int)).length cz1), (.slice Z2 (List.replicate l0.length (0 : Int)).length cz2)]) hS39 (by kernel_rfl) rfl rfl fun w15 hS40 => ?_
                have hS41 : St w0 w15 [Own.blk b6 (.cells #[(.slice Z1 (List.replicate ((x2).toNat) (0 : Int)).length cz1), (.slice Z2 (List.replicate l0.length (0 : Int)).length cz2)] 36 (0, 0)), Own.of (.slice Z1 (List.replicate ((x2).toNat) (0 : Int)).length cz1) 3 (List.replicate ((x2).toNat) (0 : Int)), Own.of (.slice Z2 (List.replicate l0.length (0 : Int)).length cz2) 3 (List.replicate l0.length (0 : Int)), Own.blk b3 (.cells #[.int .i64 0, .int .i64 0] 31 (0, 0)), Own.blk b2 (.cells #[.slice none 0 0, .slice none 0 0] 36 (0, 0)), Own.blk b1 (.cells #[.slice A0 l0.length c0] 28 (0, 0))] := hS40
                refine ge_nil fun a hF => hKK _ _ (RS.of2 (l := []) (by kernel_rfl) trivial trivial) ?_ a hF
                have hS42 := hS41.bring 2 rfl
                have hS43 := hS42.bring 2 rfl
                have hS44 := hS43.bring 5 rfl
                have hS45 := hS44.bring 5 rfl
                have hS46 := hS45.bring 5 rfl
                have hS47 := hS46.bring 5 rfl
                obtain rfl := Option.some.inj h
                exact go_fin2 fun a hF => hQ _ _ _ (Outs.again ⟨b6, (.slice Z1 (List.replicate ((x2).toNat) (0 : Int)).length cz1), (.slice Z2 (List.replicate l0.length (0 : Int)).length cz2), hS47, hF.weaken ⟨by kernel_rfl, by kernel_rfl, by kernel_rfl, by kernel_rfl, by kernel_rfl, by kernel_rfl, trivial⟩⟩)
              exact go_nomore2
            exact go_nomore2
          refine go_alt2 (fun KK hKK => ?_) ?_
          · refine ge_one2 ?_
            refine ge_new (d := some 9) (o := .cells #[.slice none 0 0, .slice none 0 0] 36) (v := fun b => .pointer (some ⟨b, 0, none⟩)) hS37 (fun b => by kernel_rfl) fun b6 w13 hx5 hS38 => ?_
            refine ge_nil fun a hF => hKK _ _ (RS.of2 (l := [.loaded ⟨b1, 0, none⟩ (.slice A0 l0.length c0)]) (by kernel_rfl) ⟨hS37.cell 3 rfl rfl, trivial⟩ ⟨hS38.cell 4 rfl rfl, trivial⟩) ?_ a hF
            refine go_alt2 (fun KK hKK => ?_) ?_
            · refine ge_one2 ?_
              refine ge_make (α := Int) (d := 31) (t := 25) (el := 3) (bytes := 8) (l := ((x2).toNat)) (c := ((x2).toNat)) (x := (.tmp 30)) (y := (.tmp 30)) (ty := 25) (k1 := .i64) (k2 := .i64) (li := x2) (ci := x2) (z := .int .i64 0) (z' := (0 : Int)) (by kernel_rfl) (by kernel_rfl) (by kernel_rfl) (Int.toNat_of_nonneg hc4).symm (Int.toNat_of_nonneg hc4).symm (by kernel_rfl) (by kernel_rfl) rfl hS38 (Nat.le_refl _) rfl (by omega) fun v4 w14 _ hS39 => ?_
              refine ge_nil fun a hF => hKK _ _ (RS.of2 (l := [.loaded ⟨b1, 0, none⟩ (.slice A0 l0.length c0)]) (by kernel_rfl) ⟨hS38.cell 4 rfl rfl, trivial⟩ ⟨hS39.cell 5 rfl rfl, trivial⟩) ?_ a hF
              obtain ⟨Z1, cz1, rfl⟩ := hS39.open 0 rfl
              obtain ⟨Z2, cz2, rfl⟩ := hS39.open 2 rfl
              refine go2_batch [5] (ans := []) (vs := [(35, .agg #[(.slice Z1 (List.replicate ((x2).toNat) (0 : Int)).length cz1), (.slice Z2 (List.replicate l0.length (0 : Int)).length cz2)])]) (l := []) (by kernel_rfl) trivial mem_nil ?_
              refine go_alt2 (fun KK hKK => ?_) ?_
              · have hS40 := hS39.bring 1 rfl
                refine ge_set (b := b6) (j := 0) (cs := #[.slice none 0 0, .slice none 0 0]) (t := 36) (vs := [(.slice Z1 (List.replicate ((x2).toNat) (0 : Int)).length cz1), (.slice Z2 (List.replicate l0.length (0 : Int)).length cz2)]) hS40 (by kernel_rfl) rfl rfl fun w15 hS41 => ?_
                have hS42 : St w0 w15 [Own.blk b6 (.cells #[(.slice Z1 (List.replicate ((x2).toNat) (0 : Int)).length cz1), (.slice Z2 (List.replicate l0.length (0 : Int)).length cz2)] 36 (0, 0)), Own.of (.slice Z1 (List.replicate ((x2).toNat) (0 : Int)).length cz1) 3 (List.replicate ((x2).toNat) (0 : Int)), Own.of (.slice Z2 (List.replicate l0.length (0 : Int)).length cz2) 3 (List.replicate l0.length (0 : Int)), Own.blk b3 (.cells #[.int .i64 0, .int .i64 0] 31 (0, 0)), Own.blk b2 (.cells #[.slice none 0 0, .slice none 0 0] 36 (0, 0)), Own.blk b1 (.cells #[.slice A0 l0.length c0] 28 (0, 0))] := hS41
                refine ge_nil fun a hF => hKK _ _ (RS.of2 (l := []) (by kernel_rfl) trivial trivial) ?_ a hF
                have hS43 := hS42.bring 2 rfl
                have hS44 := hS43.bring 2 rfl
                have hS45 := hS44.bring 5 rfl
                have hS46 := hS45.bring 5 rfl
                have hS47 := hS46.bring 5 rfl
                have hS48 := hS47.bring 5 rfl
                obtain rfl := Option.some.inj h
                exact go_fin2 fun a hF => hQ _ _ _ (Outs.again ⟨b6, (.slice Z1 (List.replicate ((x2).toNat) (0 : Int)).length cz1), (.slice Z2 (List.replicate l0.length (0 : Int)).length cz2), hS48, hF.weaken ⟨by kernel_rfl, by kernel_rfl, by kernel_rfl, by kernel_rfl, by kernel_rfl, by kernel_rfl, trivial⟩⟩)
              exact go_nomore2
            exact go_nomore2
          exact go_nomore2
        refine go_alt2 (fun KK hKK => ?_) ?_
        · refine ge_one2 ?_
          refine ge_new (d := some 9) (o := .cells #[.slice none 0 0, .slice none 0 0] 36) (v := fun b => .pointer (some ⟨b, 0, none⟩)) hS36 (fun b => by kernel_rfl) fun b6 w12 hx5 hS37 => ?_
          refine ge_nil fun a hF => hKK _ _ (RS.of2 (l := [.loaded ⟨b1, 0, none⟩ (.slice A0 l0.length c0)]) (by kernel_rfl) ⟨hS36.cell 2 rfl rfl, trivial⟩ ⟨hS37.cell 3 rfl rfl, trivial⟩) ?_ a hF
          refine go_alt2 (fun KK hKK => ?_) ?_
          · refine ge_one2 ?_
            refine ge_make (α := Int) (d := 31) (t := 25) (el := 3) (bytes := 8) (l := ((x2).toNat)) (c := ((x2).toNat)) (x := (.tmp 30)) (y := (.tmp 30)) (ty := 25) (k1 := .i64) (k2 := .i64) (li := x2) (ci := x2) (z := .int .i64 0) (z' := (0 : Int)) (by kernel_rfl) (by kernel_rfl) (by kernel_rfl) (Int.toNat_of_nonneg hc4).symm (Int.toNat_of_nonneg hc4).symm (by kernel_rfl) (by kernel_rfl) rfl hS37 (Nat.le_refl _) rfl (by omega) fun v3 w13 _ hS38 => ?_
            refine ge_nil fun a hF => hKK _ _ (RS.of2 (l := [.loaded ⟨b1, 0, none⟩ (.slice A0 l0.length c0)]) (by kernel_rfl) ⟨hS37.cell 3 rfl rfl, trivial⟩ ⟨hS38.cell 4 rfl rfl, trivial⟩) ?_ a hF
            refine go_alt2 (fun KK hKK => ?_) ?_
            · refine ge_one2 ?_
              refine ge_make (α := Int) (d := 34) (t := 25) (el := 3) (bytes := 8) (l := l0.length) (c := l0.length) (x := (.tmp 33)) (y := (.tmp 33)) (ty := 25) (k1 := .i64) (k2 := .i64) (li := (l0.length : Int)) (ci := (l0.length : Int)) (z := .int .i64 0) (z' := (0 : Int)) (by kernel_rfl) (by kernel_rfl) (by kernel_rfl) rfl rfl (by kernel_rfl) (by kernel_rfl) rfl hS38 (Nat.le_refl _) rfl (by omega) fun v4 w14 _ hS39 => ?_
              refine ge_nil fun a hF => hKK _ _ (RS.of2 (l := [.loaded ⟨b1, 0, none⟩ (.slice A0 l0.length c0)]) (by kernel_rfl) ⟨hS38.cell 4 rfl rfl, trivial⟩ ⟨hS39.cell 5 rfl rfl, trivial⟩) ?_ a hF
              obtain ⟨Z1, cz1, rfl⟩ := hS39.open 1 rfl
              obtain ⟨Z2, cz2, rfl⟩ := hS39.open 0 rfl
              refine go2_batch [5] (ans := []) (vs := [(35, .agg #[(.slice Z1 (List.replicate ((x2).toNat) (0 : Int)).length cz1), (.slice Z2 (List.replicate l0.length (0 : Int)).length cz2)])]) (l := []) (by kernel_rfl) trivial mem_nil ?_
              refine go_alt2 (fun KK hKK => ?_) ?_
              · have hS40 := hS39.bring 2 rfl
                refine ge_set (b := b6) (j := 0) (cs := #[.slice none 0 0, .slice none 0 0]) (t := 36) (vs := [(.slice Z1 (List.replicate ((x2).toNat) (0 : Int)).length cz1), (.slice Z2 (List.replicate l0.length (0 : Int)).length cz2)]) hS40 (by kernel_rfl) rfl rfl fun w15 hS41 => ?_
                have hS42 : St w0 w15 [Own.blk b6 (.cells #[(.slice Z1 (List.replicate ((x2).toNat) (0 : Int)).length cz1), (.slice Z2 (List.replicate l0.length (0 : Int)).length cz2)] 36 (0, 0)), Own.of (.slice Z2 (List.replicate l0.length (0 : Int)).length cz2) 3 (List.replicate l0.length (0 : Int)), Own.of (.slice Z1 (List.replicate ((x2).toNat) (0 : Int)).length cz1) 3 (List.replicate ((x2).toNat) (0 : Int)), Own.blk b3 (.cells #[.int .i64 0, .int .i64 0] 31 (0, 0)), Own.blk b2 (.cells #[.slice none 0 0, .slice none 0 0] 36 (0, 0)), Own.blk b1 (.cells #[.slice A0 l0.length c0] 28 (0, 0))] := hS41
                refine ge_nil fun a hF => hKK _ _ (RS.of2 (l := []) (by kernel_rfl) trivial trivial) ?_ a hF
                have hS43 := hS42.bring 1 rfl
                have hS44 := hS43.bring 2 rfl
                have hS45 := hS44.bring 5 rfl
                have hS46 := hS45.bring 5 rfl
                have hS47 := hS46.bring 5 rfl
                have hS48 := hS47.bring 5 rfl
                obtain rfl := Option.some.inj h
                exact go_fin2 fun a hF => hQ _ _ _ (Outs.again ⟨b6, (.slice Z1 (List.replicate ((x2).toNat) (0 : Int)).length cz1), (.slice Z2 (List.replicate l0.length (0 : Int)).length cz2), hS48, hF.weaken ⟨by kernel_rfl, by kernel_rfl, by kernel_rfl, by kernel_rfl, by kernel_rfl, by kernel_rfl, trivial⟩⟩)
              exact go_nomore2
            exact go_nomore2
          refine go_alt2 (fun KK hKK => ?_) ?_
          · refine ge_one2 ?_
            refine ge_make (α := Int) (d := 34) (t := 25) (el := 3) (bytes := 8) (l := l0.length) (c := l0.length) (x := (.tmp 33)) (y := (.tmp 33)) (ty := 25) (k1 := .i64) (k2 := .i64) (li := (l0.length : Int)) (ci := (l0.length : Int)) (z := .int .i64 0) (z' := (0 : Int)) (by kernel_rfl) (by kernel_rfl) (by kernel_rfl) rfl rfl (by kernel_rfl) (by kernel_rfl) rfl hS37 (Nat.le_refl _) rfl (by omega) fun v3 w13 _ hS38 => ?_
            refine ge_nil fun a hF => hKK _ _ (RS.of2 (l := [.loaded ⟨b1, 0, none⟩ (.slice A0 l0.length c0)]) (by kernel_rfl) ⟨hS37.cell 3 rfl rfl, trivial⟩ ⟨hS38.cell 4 rfl rfl, trivial⟩) ?_ a hF
            refine go_alt2 (fun KK hKK => ?_) ?_
            · refine ge_one2 ?_
              refine ge_make (α := Int) (d := 31) (t := 25) (el := 3) (bytes := 8) (l := ((x2).toNat)) (c := ((x2).toNat)) (x := (.tmp 30)) (y := (.tmp 30)) (ty := 25) (k1 := .i64) (k2 := .i64) (li := x2) (ci := x2) (z := .int .i64 0) (z' := (0 : Int)) (by kernel_rfl) (by kernel_rfl) (by kernel_rfl) (Int.toNat_of_nonneg hc4).symm (Int.toNat_of_nonneg hc4).symm (by kernel_rfl) (by kernel_rfl) rfl hS38 (Nat.le_refl _) rfl (by omega) fun v4 w14 _ hS39 => ?_
              refine ge_nil fun a hF => hKK _ _ (RS.of2 (l := [.loaded ⟨b1, 0, none⟩ (.slice A0 l0.length c0)]) (by kernel_rfl) ⟨hS38.cell 4 rfl rfl, trivial⟩ ⟨hS39.cell 5 rfl rfl, trivial⟩) ?_ a hF
              obtain ⟨Z1, cz1, rfl⟩ := hS39.open 0 rfl
              obtain ⟨Z2, cz2, rfl⟩ := hS39.open 1 rfl
              refine go2_batch [5] (ans := []) (vs := [(35, .agg #[(.slice Z1 (List.replicate ((x2).toNat) (0 : Int)).length cz1), (.slice Z2 (List.replicate l0.length (0 : Int)).length cz2)])]) (l := []) (by kernel_rfl) trivial mem_nil ?_
              refine go_alt2 (fun KK hKK => ?_) ?_
              · have hS40 := hS39.bring 2 rfl
                refine ge_set (b := b6) (j := 0) (cs := #[.slice none 0 0, .slice none 0 0]) (t := 36) (vs := [(.slice Z1 (List.replicate ((x2).toNat) (0 : Int)).length cz1), (.slice Z2 (List.replicate l0.length (0 : Int)).length cz2)]) hS40 (by kernel_rfl) rfl rfl fun w15 hS41 => ?_
                have hS42 : St w0 w15 [Own.blk b6 (.cells #[(.slice Z1 (List.replicate ((x2).toNat) (0 : Int)).length cz1), (.slice Z2 (List.replicate l0.length (0 : Int)).length cz2)] 36 (0, 0)), Own.of (.slice Z1 (List.replicate ((x2).toNat) (0 : Int)).length cz1) 3 (List.replicate ((x2).toNat) (0 : Int)), Own.of (.slice Z2 (List.replicate l0.length (0 : Int)).length cz2) 3 (List.replicate l0.length (0 : Int)), Own.blk b3 (.cells #[.int .i64 0, .int .i64 0] 31 (0, 0)), Own.blk b2 (.cells #[.slice none 0 0, .slice none 0 0] 36 (0, 0)), Own.blk b1 (.cells #[.slice A0 l0.length c0] 28 (0, 0))] := hS41
                refine ge_nil fun a hF => hKK _ _ (RS.of2 (l := []) (by kernel_rfl) trivial trivial) ?_ a hF
                have hS43 := hS42.bring 2 rfl
                have hS44 := hS43.bring 2 rfl
                have hS45 := hS44.bring 5 rfl
                have hS46 := hS45.bring 5 rfl
                have hS47 := hS46.bring 5 rfl
                have hS48 := hS47.bring 5 rfl
                obtain rfl := Option.some.inj h
                exact go_fin2 fun a hF => hQ _ _ _ (Outs.again ⟨b6, (.slice Z1 (List.replicate ((x2).toNat) (0 : Int)).length cz1), (.slice Z2 (List.replicate l0.length (0 : Int)).length cz2), hS48, hF.weaken ⟨by kernel_rfl, by kernel_rfl, by kernel_rfl, by kernel_rfl, by kernel_rfl, by kernel_rfl, trivial⟩⟩)
              exact go_nomore2
            exact go_nomore2
          exact go_nomore2
        exact go_nomore2
      · rw [if_neg hc6] at h
        cases h
    · rw [if_neg hc5] at h
      cases h
  · rw [if_neg hc4] at h
    cases h
abbrev modes_hosted.A2 (K : Nat) (w0 : World) (l0 : List SJob) (A0 : Option Addr) (c0 : Nat) (bg1_0 : Nat) (xg1_0 : Int) (bg1_1 : Nat) (lg1_1 : List SWindow) (Ag1_1 : Option Addr) (cg1_1 : Nat) (x2 : Int) (hR0 : RdL w0 A0 l0) (hL0 : l0.length ≤ c0) (hBg1_0 : Glob w0 bg1_0 [.int .i64 xg1_0]) (hRg1_1 : RdL w0 Ag1_1 lg1_1) (hLg1_1 : lg1_1.length ≤ cg1_1) (hBg1_1 : Glob w0 bg1_1 [.slice Ag1_1 lg1_1.length cg1_1]) (b1 : Nat) (b2 : Nat) (b3 : Nat) (r1 : SFault) (b4 : Nat) (hc1 : r1.Code = 0) (b7 : Nat) (m3 : List Int) (m4 : List Int) (hc7 : l0.length ≤ 17592186044416) (b8 : Nat) (Z3 : Option Addr) (cz3 : Nat) (Z4 : Option Addr) (cz4 : Nat) (Z5 : Option Addr) (cz5 : Nat) : (Nat × (List Int) × (List Int)) → Act → World → Prop := fun (s : Nat × (List Int) × (List Int)) a w => St w0 w [Own.blk b8 (.cells #[(.slice Z3 s.2.1.length cz3)] 25 (0, 0)), Own.blk b7 (.cells #[(.slice Z4 m3.length cz4), (.slice Z5 s.2.2.length cz5)] 36 (0, 0)), Own.blk b3 (.cells #[.int .i64 0, .int .i64 0] 31 (0, 0)), Own.blk b2 (.cells #[.slice none 0 0, .slice none 0 0] 36 (0, 0)), Own.blk b1 (.cells #[.slice A0 l0.length c0] 28 (0, 0)), Own.of (.slice Z3 s.2.1.length cz3) 3 s.2.1, Own.of (.slice Z4 m3.length cz4) 3 m3, Own.of (.slice Z5 s.2.2.length cz5) 3 s.2.2] ∧ Frm 98 a [(1, .func (.func 54) #[] #[.pointer (some ⟨bg1_0, 0, none⟩), .pointer (some ⟨bg1_1, 0, none⟩)]), (2, .int .i64 x2), (3, .pointer (some ⟨b1, 0, none⟩)), (6, .pointer (some ⟨b2, 0, none⟩)), (7, .pointer (some ⟨b3, 0, none⟩)), (9, .pointer (some ⟨b7, 0, none⟩)), (10, .pointer (some ⟨b8, 0, none⟩)), (39, .slice A0 l0.length c0), (40, .int .i64 (l0.length : Int)), (41, .int .i64 (s.1 : Int))]
abbrev modes_hosted.B2 (K : Nat) (w0 : World) (l0 : List SJob) (A0 : Option Addr) (c0 : Nat) (bg1_0 : Nat) (xg1_0 : Int) (bg1_1 : Nat) (lg1_1 : List SWindow) (Ag1_1 : Option Addr) (cg1_1 : Nat) (x2 : Int) (hR0 : RdL w0 A0 l0) (hL0 : l0.length ≤ c0) (hBg1_0 : Glob w0 bg1_0 [.int .i64 xg1_0]) (hRg1_1 : RdL w0 Ag1_1 lg1_1) (hLg1_1 : lg1_1.length ≤ cg1_1) (hBg1_1 : Glob w0 bg1_1 [.slice Ag1_1 lg1_1.length cg1_1]) (b1 : Nat) (b2 : Nat) (b3 : Nat) (r1 : SFault) (b4 : Nat) (hc1 : r1.Code = 0) (b7 : Nat) (m3 : List Int) (m4 : List Int) (hc7 : l0.length ≤ 17592186044416) (b8 : Nat) (Z3 : Option Addr) (cz3 : Nat) (Z4 : Option Addr) (cz4 : Nat) (Z5 : Option Addr) (cz5 : Nat) : (((List Int) × (List Int)) ⊕ (SPlayed × SFault)) → Exit → Act → World → Prop := Exits 0 (fun (s : (List Int) × (List Int)) a w => St w0 w [Own.blk b8 (.cells #[(.slice Z3 s.1.length cz3)] 25 (0, 0)), Own.blk b7 (.cells #[(.slice Z4 m3.length cz4), (.slice Z5 s.2.length cz5)] 36 (0, 0)), Own.blk b3 (.cells #[.int .i64 0, .int .i64 0] 31 (0, 0)), Own.blk b2 (.cells #[.slice none 0 0, .slice none 0 0] 36 (0, 0)), Own.blk b1 (.cells #[.slice A0 l0.length c0] 28 (0, 0)), Own.of (.slice Z3 s.1.length cz3) 3 s.1, Own.of (.slice Z4 m3.length cz4) 3 m3, Own.of (.slice Z5 s.2.length cz5) 3 s.2] ∧ Frm 98 a [(1, .func (.func 54) #[] #[.pointer (some ⟨bg1_0, 0, none⟩), .pointer (some ⟨bg1_1, 0, none⟩)]), (2, .int .i64 x2), (3, .pointer (some ⟨b1, 0, none⟩)), (6, .pointer (some ⟨b2, 0, none⟩)), (7, .pointer (some ⟨b3, 0, none⟩)), (9, .pointer (some ⟨b7, 0, none⟩)), (10, .pointer (some ⟨b8, 0, none⟩))]) (Rets Try.prog Try.f53 (modes_hosted.Post w0))
theorem modes_hosted_r2 (K : Nat) (w0 : World) (l0 : List SJob) (A0 : Option Addr) (c0 : Nat) (bg1_0 : Nat) (xg1_0 : Int) (bg1_1 : Nat) (lg1_1 : List SWindow) (Ag1_1 : Option Addr) (cg1_1 : Nat) (x2 : Int) (hR0 : RdL w0 A0 l0) (hL0 : l0.length ≤ c0) (hBg1_0 : Glob w0 bg1_0 [.int .i64 xg1_0]) (hRg1_1 : RdL w0 Ag1_1 lg1_1) (hLg1_1 : lg1_1.length ≤ cg1_1) (hBg1_1 : Glob w0 bg1_1 [.slice Ag1_1 lg1_1.length cg1_1]) (b1 : Nat) (b2 : Nat) (b3 : Nat) (r1 : SFault) (b4 : Nat) (hc1 : r1.Code = 0) (b7 : Nat) (m3 : List Int) (m4 : List Int) (hc7 : l0.length ≤ 17592186044416) (b8 : Nat) (Z3 : Option Addr) (cz3 : Nat) (Z4 : Option Addr) (cz4 : Nat) (Z5 : Option Addr) (cz5 : Nat) (s : Nat × (List Int) × (List Int)) (o : (Nat × (List Int) × (List Int)) ⊕ (((List Int) × (List Int)) ⊕ (SPlayed × SFault))) (h : modes_hosted.r2 l0 s = some o) (a : Act) (w : World) (hA : modes_hosted.A2 K w0 l0 A0 c0 bg1_0 xg1_0 bg1_1 lg1_1 Ag1_1 cg1_1 x2 hR0 hL0 hBg1_0 hRg1_1 hLg1_1 hBg1_1 b1 b2 b3 r1 b4 hc1 b7 m3 m4 hc7 b8 Z3 cz3 Z4 cz4 Z5 cz5 s a w) (Q : Exit → Act → World → Prop) (hQ : ∀ x a w, Outs (modes_hosted.A2 K w0 l0 A0 c0 bg1_0 xg1_0 bg1_1 lg1_1 Ag1_1 cg1_1 x2 hR0 hL0 hBg1_0 hRg1_1 hLg1_1 hBg1_1 b1 b2 b3 r1 b4 hc1 b7 m3 m4 hc7 b8 Z3 cz3 Z4 cz4 Z5 cz5) (modes_hosted.B2 K w0 l0 A0 c0 bg1_0 xg1_0 bg1_1 lg1_1 Ag1_1 cg1_1 x2 hR0 hL0 hBg1_0 hRg1_1 hLg1_1 hBg1_1 b1 b2 b3 r1 b4 hc1 b7 m3 m4 hc7 b8 Z3 cz3 Z4 cz4 Z5 cz5) o x a w → Q x a w) : (subF Try.f53 [1, 1, 1, 1, 1, 0, 1, 0, 0]).wp Try.prog Q a w := by
  obtain ⟨i1, m5, m6⟩ := s
  obtain ⟨hS, hF⟩ := hA
  replace hS : St w0 w [Own.blk b8 (.cells #[(.slice Z3 m5.length cz3)] 25 (0, 0)), Own.blk b7 (.cells #[(.slice Z4 m3.length cz4), (.slice Z5 m6.length cz5)] 36 (0, 0)), Own.blk b3 (.cells #[.int .i64 0, .int .i64 0] 31 (0, 0)), Own.blk b2 (.cells #[.slice none 0 0, .slice none 0 0] 36 (0, 0)), Own.blk b1 (.cells #[.slice A0 l0.length c0] 28 (0, 0)), Own.of (.slice Z3 m5.length cz3) 3 m5, Own.of (.slice Z4 m3.length cz4) 3 m3, Own.of (.slice Z5 m6.length cz5) 3 m6] := hS
  simp only [modes_hosted.r2] at h
  refine (?_ : WE Try.prog 98 (subF Try.f53 [1, 1, 1, 1, 1, 0, 1, 0, 0]) Q [(1, .func (.func 54) #[] #[.pointer (some ⟨bg1_0, 0, none⟩), .pointer (some ⟨bg1_1, 0, none⟩)]), (2, .int .i64 x2), (3, .pointer (some ⟨b1, 0, none⟩)), (6, .pointer (some ⟨b2, 0, none⟩)), (7, .pointer (some ⟨b3, 0, none⟩)), (9, .pointer (some ⟨b7, 0, none⟩)), (10, .pointer (some ⟨b8, 0, none⟩)), (39, .slice A0 l0.length c0), (40, .int .i64 (l0.length : Int)), (41, .int .i64 (i1 : Int))] w) a hF
  clear hF a
  refine we_seq fun K13 hK13 => ?_
  refine we_region [(0, 0)] rfl ?_
  refine ge_batch [0] (ans := []) (vs := [(42, .bool (decide ((i1 : Int) < (l0.length : Int))))]) (l := []) (by kernel_rfl) trivial ?_
  refine ge_nil fun a hF => hK13 _ _ ?_ a hF
  refine we_seq fun K14 hK14 => ?_
  by_cases hc8 : (i1 : Int) < (l0.length : Int)
  · rw [if_pos hc8] at h
    refine we_known (t := 42) (b := decide ((i1 : Int) < (l0.length : Int))) (v := true) (by kernel_rfl) (decide_eq_true hc8) ?_
    refine we_true (by kernel_rfl) ?_
    refine we_skip fun a hF => hK14 _ _ ?_ a hF
    refine we_seq fun K15 hK15 => ?_
    refine we_block ?_
    refine we_seq fun K16 hK16 => ?_
    refine we_region [(0, 0), (1, 0), (2, 0), (3, 1), (4, 0), (5, 2)] rfl ?_
    refine ge_batch [0] (ans := []) (vs := [(43, .int .i64 (i1 : Int))]) (l := []) (by kernel_rfl) trivial ?_
    rcases hx7 : l0[i1]? with _ | e1
    · rw [hx7] at h; cases h
    rw [hx7] at h
    simp only [] at h
    refine ge_index (d := 44) (ty := 0) (t := 28) (el := 106) (sz := 5) (m := l0.length) (c := c0) (x := (.tmp 39)) (y := (.tmp 41)) (A := A0) (k' := .i64) (j := (i1 : Int)) (jn := i1) (b0 := blkOf A0) (o0 := offOf A0) (by kernel_rfl) (by kernel_rfl) (by kernel_rfl) (by kernel_rfl) (by kernel_rfl) ((hS.rd hR0).eqSome (pos_of_get hx7)) rfl (lt_of_get hx7) ?_
    refine ge_batch [2] (ans := [.val (.int .i64 e1.Task), .val (.int .i64 e1.At), .val (.int .i64 e1.C), .val (.int .i64 e1.Due), .val (.int .i64 e1.P)]) (vs := [(45, .agg #[.int .i64 e1.Task, .int .i64 e1.At, .int .i64 e1.C, .int .i64 e1.Due, .int .i64 e1.P])]) (l := [.loaded ⟨blkOf A0, offOf A0 + i1 * 5, none⟩ (.int .i64 e1.Task), .loaded ⟨blkOf A0, offOf A0 + i1 * 5 + 1, none⟩ (.int .i64 e1.At), .loaded ⟨blkOf A0, offOf A0 + i1 * 5 + 2, none⟩ (.int .i64 e1.C), .loaded ⟨blkOf A0, offOf A0 + i1 * 5 + 3, none⟩ (.int .i64 e1.Due), .loaded ⟨blkOf A0, offOf A0 + i1 * 5 + 4, none⟩ (.int .i64 e1.P)]) (by kernel_rfl) ⟨RdL.cell (j := 0) (hS.rd hR0) hx7 rfl, RdL.cell (j := 1) (hS.rd hR0) hx7 rfl, RdL.cell (j := 2) (hS.rd hR0) hx7 rfl, RdL.cell (j := 3) (hS.rd hR0) hx7 rfl, RdL.cell (j := 4) (hS.rd hR0) hx7 rfl, trivial⟩ ?_
    refine ge_new (d := some 12) (o := .cells #[.int .i64 0, .int .i64 0, .int .i64 0, .int .i64 0, .int .i64 0] 106) (v := fun b => .pointer (some ⟨b, 0, none⟩)) hS (fun b => by kernel_rfl) fun b9 w20 hx8 hS62 => ?_
    refine ge_batch [4] (ans := []) (vs := [(11, .int .i64 (i1 : Int))]) (l := []) (by kernel_rfl) trivial ?_
    refine ge_set (b := b9) (j := 0) (cs := #[.int .i64 0, .int .i64 0, .int .i64 0, .int .i64 0, .int .i64 0]) (t := 106) (vs := [.int .i64 e1.Task, .int .i64 e1.At, .int .i64 e1.C, .int .i64 e1.Due, .int .i64 e1.P]) hS62 (by kernel_rfl) rfl rfl fun w21 hS63 => ?_
    have hS64 : St w0 w21 [Own.blk b9 (.cells #[.int .i64 e1.Task, .int .i64 e1.At, .int .i64 e1.C, .int .i64 e1.Due, .int .i64 e1.P] 106 (0, 0)), Own.blk b8 (.cells #[(.slice Z3 m5.length cz3)] 25 (0, 0)), Own.blk b7 (.cells #[(.slice Z4 m3.length cz4), (.slice Z5 m6.length cz5)] 36 (0, 0)), Own.blk b3 (.cells #[.int .i64 0, .int .i64 0] 31 (0, 0)), Own.blk b2 (.cells #[.slice none 0 0, .slice none 0 0] 36 (0, 0)), Own.blk b1 (.cells #[.slice A0 l0.length c0] 28 (0, 0)), Own.of (.slice Z3 m5.length cz3) 3 m5, Own.of (.slice Z4 m3.length cz4) 3 m3, Own.of (.slice Z5 m6.length cz5) 3 m6] := hS63
    refine ge_nil fun a hF => hK16 _ _ ?_ a hF
    refine we_orders2 (by kernel_rfl) [(0, [⟨b8, 0, none⟩]), (3, [⟨b7, 1, none⟩]), (6, [⟨b9, 2, none⟩])] (.vals [0] (.vals [1] (.vals [2] (.vals [3] (.vals [4] (.vals [5] (.vals [6] (.vals [7] (.alt 8 2 (.vals [9] (.alt 10 2 .fin .nomore)) .nomore))))))))) (by kernel_rfl) ?_
    have hS65 := hS64.drew
    refine go2_batch [0] (ans := [.val ((.slice Z3 m5.length cz3))]) (vs := [(46, (.slice Z3 m5.length cz3))]) (l := [.loaded ⟨b8, 0, none⟩ ((.slice Z3 m5.length cz3))]) (by kernel_rfl) ⟨hS65.cell 1 rfl rfl, trivial⟩ (mem_one (by kernel_rfl)) ?_
    refine go2_batch [1, 2] (ans := []) (vs := [(48, .pointer (some ⟨b7, 1, none⟩)), (47, .int .i64 (i1 : Int))]) (l := []) (by kernel_rfl) trivial mem_nil ?_
    refine go2_batch [3] (ans := [.val ((.slice Z5 m6.length cz5))]) (vs := [(49, (.slice Z5 m6.length cz5))]) (l := [.loaded ⟨b7, 1, none⟩ ((.slice Z5 m6.length cz5))]) (by kernel_rfl) ⟨hS65.cell 2 rfl rfl, trivial⟩ (mem_one (by kernel_rfl)) ?_
    refine go2_batch [4, 5] (ans := []) (vs := [(51, .pointer (some ⟨b9, 2, none⟩)), (50, .int .i64 (i1 : Int))]) (l := []) (by kernel_rfl) trivial mem_nil ?_
    refine go2_batch [6] (ans := [.val (.int .i64 e1.C)]) (vs := [(52, .int .i64 e1.C)]) (l := [.loaded ⟨b9, 2, none⟩ (.int .i64 e1.C)]) (by kernel_rfl) ⟨hS65.cell 0 rfl rfl, trivial⟩ (mem_one (by kernel_rfl)) ?_
    rcases hx9 : m5[i1]? with _ | e2
    · rw [hx9] at h; cases h
    rw [hx9] at h
    simp only [] at h
    refine go2_index (d := 53) (ty := 0) (t := 25) (el := 3) (sz := 1) (m := m5.length) (c := cz3) (x := (.tmp 46)) (y := (.tmp 47)) (A := Z3) (k' := .i64) (j := (i1 : Int)) (jn := i1) (b0 := blkOf Z3) (o0 := offOf Z3) (by kernel_rfl) (by kernel_rfl) (by kernel_rfl) (by kernel_rfl) (by kernel_rfl) ((hS65.rdAt 6 rfl).eqSome (pos_of_get hx9)) rfl (lt_of_get hx9) ?_
    refine go_alt2 (fun KK hKK => ?_) ?_
    · have hS66 := hS65.bring 6 rfl
      refine ge_seti (α := Int) (A := Z3) (nn := m5.length) (c := cz3) (t := 3) (l := m5) (x := e2) (x' := e1.C) (jn := i1) (j := 0) (vs := [.int .i64 e1.C]) (l' := [.stored ⟨blkOf Z3, offOf Z3 + i1 * 1, none⟩ (.int .i64 e1.C)]) hS66 (by kernel_rfl) (by kernel_rfl) hx9 rfl rfl rfl fun w22 hS67 => ?_
      have hS68 : St w0 w22 [Own.of (.slice Z3 m5.length cz3) 3 (m5.set i1 e1.C), Own.blk b9 (.cells #[.int .i64 e1.Task, .int .i64 e1.At, .int .i64 e1.C, .int .i64 e1.Due, .int .i64 e1.P] 106 (0, 0)), Own.blk b8 (.cells #[(.slice Z3 m5.length cz3)] 25 (0, 0)), Own.blk b7 (.cells #[(.slice Z4 m3.length cz4), (.slice Z5 m6.length cz5)] 36 (0, 0)), Own.blk b3 (.cells #[.int .i64 0, .int .i64 0] 31 (0, 0)), Own.blk b2 (.cells #[.slice none 0 0, .slice none 0 0] 36 (0, 0)), Own.blk b1 (.cells #[.slice A0 l0.length c0] 28 (0, 0)), Own.of (.slice Z4 m3.length cz4) 3 m3, Own.of (.slice Z5 m6.length cz5) 3 m6] := hS67
      have hE1 : m5.length = (m5.set i1 e1.C).length := hS68.lenAt 0 rfl
      have hS69 : St w0 w22 [Own.of (.slice Z3 (m5.set i1 e1.C).length cz3) 3 (m5.set i1 e1.C), Own.blk b9 (.cells #[.int .i64 e1.Task, .int .i64 e1.At, .int .i64 e1.C, .int .i64 e1.Due, .int .i64 e1.P] 106 (0, 0)), Own.blk b8 (.cells #[(.slice Z3 (m5.set i1 e1.C).length cz3)] 25 (0, 0)), Own.blk b7 (.cells #[(.slice Z4 m3.length cz4), (.slice Z5 m6.length cz5)] 36 (0, 0)), Own.blk b3 (.cells #[.int .i64 0, .int .i64 0] 31 (0, 0)), Own.blk b2 (.cells #[.slice none 0 0, .slice none 0 0] 36 (0, 0)), Own.blk b1 (.cells #[.slice A0 l0.length c0] 28 (0, 0)), Own.of (.slice Z4 m3.length cz4) 3 m3, Own.of (.slice Z5 m6.length cz5) 3 m6] := by rw [← hE1]; exact hS68
      refine ge_same (t := 46) (v := (.slice Z3 m5.length cz3)) (v' := (.slice Z3 (m5.set i1 e1.C).length cz3)) (by kernel_rfl) (by rw [hE1]) ?_
      refine ge_nil fun a hF => hKK _ _ (RS.of2 (l := [.loaded ⟨b7, 1, none⟩ ((.slice Z5 m6.length cz5))]) (by kernel_rfl) ⟨hS65.cell 2 rfl rfl, trivial⟩ ⟨hS69.cell 3 rfl rfl, trivial⟩) ?_ a hF
      rcases hx10 : m6[i1]? with _ | e3
      · rw [hx10] at h; cases h
      rw [hx10] at h
      simp only [] at h
      refine go2_index (d := 54) (ty := 0) (t := 25) (el := 3) (sz := 1) (m := m6.length) (c := cz5) (x := (.tmp 49)) (y := (.tmp 50)) (A := Z5) (k' := .i64) (j := (i1 : Int)) (jn := i1) (b0 := blkOf Z5) (o0 := offOf Z5) (by kernel_rfl) (by kernel_rfl) (by kernel_rfl) (by kernel_rfl) (by kernel_rfl) ((hS69.rdAt 8 rfl).eqSome (pos_of_get hx10)) rfl (lt_of_get hx10) ?_
      refine go_alt2 (fun KK hKK => ?_) ?_
      · have hS70 := hS69.bring 8 rfl
        refine ge_seti (α := Int) (A := Z5) (nn := m6.length) (c := cz5) (t := 3) (l := m6) (x := e3) (x' := (-1)) (jn := i1) (j := 0) (vs := [.int .i64 (-1)]) (l' := [.stored ⟨blkOf Z5, offOf Z5 + i1 * 1, none⟩ (.int .i64 (-1))]) hS70 (by kernel_rfl) (by kernel_rfl) hx10 rfl rfl rfl fun w23 hS71 => ?_
        have hS72 : St w0 w23 [Own.of (.slice Z5 m6.length cz5) 3 (m6.set i1 (-1)), Own.of (.slice Z3 (m5.set i1 e1.C).length cz3) 3 (m5.set i1 e1.C), Own.blk b9 (.cells #[.int .i64 e1.Task, .int .i64 e1.At, .int .i64 e1.C, .int .i64 e1.Due, .int .i64 e1.P] 106 (0, 0)), Own.blk b8 (.cells #[(.slice Z3 (m5.set i1 e1.C).length cz3)] 25 (0, 0)), Own.blk b7 (.cells #[(.slice Z4 m3.length cz4), (.slice Z5 m6.length cz5)] 36 (0, 0)), Own.blk b3 (.cells #[.int .i64 0, .int .i64 0] 31 (0, 0)), Own.blk b2 (.cells #[.slice none 0 0, .slice none 0 0] 36 (0, 0)), Own.blk b1 (.cells #[.slice A0 l0.length c0] 28 (0, 0)), Own.of (.slice Z4 m3.length cz4) 3 m3] := hS71
        have hE2 : m6.length = (m6.set i1 (-1)).length := hS72.lenAt 0 rfl
        have hS73 : St w0 w23 [Own.of (.slice Z5 (m6.set i1 (-1)).length cz5) 3 (m6.set i1 (-1)), Own.of (.slice Z3 (m5.set i1 e1.C).length cz3) 3 (m5.set i1 e1.C), Own.blk b9 (.cells #[.int .i64 e1.Task, .int .i64 e1.At, .int .i64 e1.C, .int .i64 e1.Due, .int .i64 e1.P] 106 (0, 0)), Own.blk b8 (.cells #[(.slice Z3 (m5.set i1 e1.C).length cz3)] 25 (0, 0)), Own.blk b7 (.cells #[(.slice Z4 m3.length cz4), (.slice Z5 (m6.set i1 (-1)).length cz5)] 36 (0, 0)), Own.blk b3 (.cells #[.int .i64 0, .int .i64 0] 31 (0, 0)), Own.blk b2 (.cells #[.slice none 0 0, .slice none 0 0] 36 (0, 0)), Own.blk b1 (.cells #[.slice A0 l0.length c0] 28 (0, 0)), Own.of (.slice Z4 m3.length cz4) 3 m3] := by rw [← hE2]; exact hS72
        refine ge_same (t := 49) (v := (.slice Z5 m6.length cz5)) (v' := (.slice Z5 (m6.set i1 (-1)).length cz5)) (by kernel_rfl) (by rw [hE2]) ?_
        refine ge_nil fun a hF => hKK _ _ (RS.of2 (l := []) (by kernel_rfl) trivial trivial) ?_ a hF
        refine go_fin2 fun a hF => hK15 _ _ ?_ a hF
        refine we_region [(0, 0), (1, 0)] rfl ?_
        refine ge_addn (d := 55) (ty := 3) (x := (.tmp 41)) (y := (.const (.int .i64 1))) (t := 3) (t2 := 3) (k := .i64) (m := i1) (by kernel_rfl) (by kernel_rfl) (by kernel_rfl) (by have h0 := hR0.small; omega) ?_
        refine ge_batch [1] (ans := []) (vs := [(41, .int .i64 ((i1 + 1 : Nat) : Int))]) (l := []) (by kernel_rfl) trivial ?_
        have hS74 := hS73.bring 8 rfl
        have hS75 := hS74.bring 2 rfl
        have hS76 := hS75.bring 8 rfl
        have hS77 := hS76.bring 8 rfl
        have hS78 := hS77.bring 8 rfl
        have hS79 := hS78.bring 8 rfl
        have hS80 := hS79.bring 8 rfl
        have hS81 := hS80.takeN 8
        obtain rfl := Option.some.inj h
        exact ge_nil fun a hF => hQ _ _ _ (Outs.again ⟨hS81, hF.weaken ⟨by kernel_rfl, by kernel_rfl, by kernel_rfl, by kernel_rfl, by kernel_rfl, by kernel_rfl, by kernel_rfl, by kernel_rfl, by kernel_rfl, by kernel_rfl, trivial⟩⟩)
      exact go_nomore2
    exact go_nomore2
  · rw [if_neg hc8] at h
    refine we_known (t := 42) (b := decide ((i1 : Int) < (l0.length : Int))) (v := false) (by kernel_rfl) (decide_eq_false hc8) ?_
    refine we_false (by kernel_rfl) ?_
    have hS82 := hS.bring 7 rfl
    have hS83 := hS82.bring 7 rfl
    have hS84 := hS83.bring 7 rfl
    have hS85 := hS84.bring 7 rfl
    have hS86 := hS85.bring 7 rfl
    have hS87 := hS86.bring 7 rfl
    have hS88 := hS87.bring 7 rfl
    have hS89 := hS88.bring 7 rfl
    obtain rfl := Option.some.inj h
    exact we_exit fun a hF => hQ _ _ _ (Outs.out nofun (Exits.here ⟨hS89, hF.weaken ⟨by kernel_rfl, by kernel_rfl, by kernel_rfl, by kernel_rfl, by kernel_rfl, by kernel_rfl, by kernel_rfl, trivial⟩⟩))
abbrev modes_hosted.A3 (K : Nat) (w0 : World) (l0 : List SJob) (A0 : Option Addr) (c0 : Nat) (bg1_0 : Nat) (xg1_0 : Int) (bg1_1 : Nat) (lg1_1 : List SWindow) (Ag1_1 : Option Addr) (cg1_1 : Nat) (x2 : Int) (hR0 : RdL w0 A0 l0) (hL0 : l0.length ≤ c0) (hBg1_0 : Glob w0 bg1_0 [.int .i64 xg1_0]) (hRg1_1 : RdL w0 Ag1_1 lg1_1) (hLg1_1 : lg1_1.length ≤ cg1_1) (hBg1_1 : Glob w0 bg1_1 [.slice Ag1_1 lg1_1.length cg1_1]) (b1 : Nat) (b2 : Nat) (b3 : Nat) (r1 : SFault) (b4 : Nat) (hc1 : r1.Code = 0) (b7 : Nat) (m3 : List Int) (m4 : List Int) (hc7 : l0.length ≤ 17592186044416) (b8 : Nat) (Z3 : Option Addr) (cz3 : Nat) (Z4 : Option Addr) (cz4 : Nat) (Z5 : Option Addr) (cz5 : Nat) (m9 : List Int) (m10 : List Int) : (Int × (List Int) × (List Int) × (List Int)) → Act → World → Prop := fun (s : Int × (List Int) × (List Int) × (List Int)) a w => St w0 w [Own.blk b8 (.cells #[(.slice Z3 s.2.1.length cz3)] 25 (0, 0)), Own.blk b7 (.cells #[(.slice Z4 s.2.2.1.length cz4), (.slice Z5 s.2.2.2.length cz5)] 36 (0, 0)), Own.blk b3 (.cells #[.int .i64 0, .int .i64 0] 31 (0, 0)), Own.blk b2 (.cells #[.slice none 0 0, .slice none 0 0] 36 (0, 0)), Own.blk b1 (.cells #[.slice A0 l0.length c0] 28 (0, 0)), Own.of (.slice Z3 s.2.1.length cz3) 3 s.2.1, Own.of (.slice Z4 s.2.2.1.length cz4) 3 s.2.2.1, Own.of (.slice Z5 s.2.2.2.length cz5) 3 s.2.2.2] ∧ Frm 98 a [(1, .func (.func 54) #[] #[.pointer (some ⟨bg1_0, 0, none⟩), .pointer (some ⟨bg1_1, 0, none⟩)]), (3, .pointer (some ⟨b1, 0, none⟩)), (6, .pointer (some ⟨b2, 0, none⟩)), (7, .pointer (some ⟨b3, 0, none⟩)), (9, .pointer (some ⟨b7, 0, none⟩)), (10, .pointer (some ⟨b8, 0, none⟩)), (56, .int .i64 x2), (57, .int .i64 s.1)]
abbrev modes_hosted.B3 (K : Nat) (w0 : World) (l0 : List SJob) (A0 : Option Addr) (c0 : Nat) (bg1_0 : Nat) (xg1_0 : Int) (bg1_1 : Nat) (lg1_1 : List SWindow) (Ag1_1 : Option Addr) (cg1_1 : Nat) (x2 : Int) (hR0 : RdL w0 A0 l0) (hL0 : l0.length ≤ c0) (hBg1_0 : Glob w0 bg1_0 [.int .i64 xg1_0]) (hRg1_1 : RdL w0 Ag1_1 lg1_1) (hLg1_1 : lg1_1.length ≤ cg1_1) (hBg1_1 : Glob w0 bg1_1 [.slice Ag1_1 lg1_1.length cg1_1]) (b1 : Nat) (b2 : Nat) (b3 : Nat) (r1 : SFault) (b4 : Nat) (hc1 : r1.Code = 0) (b7 : Nat) (m3 : List Int) (m4 : List Int) (hc7 : l0.length ≤ 17592186044416) (b8 : Nat) (Z3 : Option Addr) (cz3 : Nat) (Z4 : Option Addr) (cz4 : Nat) (Z5 : Option Addr) (cz5 : Nat) (m9 : List Int) (m10 : List Int) : (((List Int) × (List Int)) ⊕ (SPlayed × SFault)) → Exit → Act → World → Prop := Exits 2 (fun (s : (List Int) × (List Int)) a w => St w0 w [Own.blk b7 (.cells #[(.slice Z4 s.1.length cz4), (.slice Z5 s.2.length cz5)] 36 (0, 0)), Own.blk b3 (.cells #[.int .i64 0, .int .i64 0] 31 (0, 0)), Own.blk b2 (.cells #[.slice none 0 0, .slice none 0 0] 36 (0, 0)), Own.of (.slice Z4 s.1.length cz4) 3 s.1, Own.of (.slice Z5 s.2.length cz5) 3 s.2] ∧ Frm 98 a [(6, .pointer (some ⟨b2, 0, none⟩)), (7, .pointer (some ⟨b3, 0, none⟩)), (9, .pointer (some ⟨b7, 0, none⟩))]) (Rets Try.prog Try.f53 (modes_hosted.Post w0))
theorem modes_hosted_r3 (K : Nat) (w0 : World) (l0 : List SJob) (A0 : Option Addr) (c0 : Nat) (bg1_0 : Nat) (xg1_0 : Int) (bg1_1 : Nat) (lg1_1 : List SWindow) (Ag1_1 : Option Addr) (cg1_1 : Nat) (x2 : Int) (hR0 : RdL w0 A0 l0) (hL0 : l0.length ≤ c0) (hBg1_0 : Glob w0 bg1_0 [.int .i64 xg1_0]) (hRg1_1 : RdL w0 Ag1_1 lg1_1) (hLg1_1 : lg1_1.length ≤ cg1_1) (hBg1_1 : Glob w0 bg1_1 [.slice Ag1_1 lg1_1.length cg1_1]) (b1 : Nat) (b2 : Nat) (b3 : Nat) (r1 : SFault) (b4 : Nat) (hc1 : r1.Code = 0) (b7 : Nat) (m3 : List Int) (m4 : List Int) (hc7 : l0.length ≤ 17592186044416) (b8 : Nat) (Z3 : Option Addr) (cz3 : Nat) (Z4 : Option Addr) (cz4 : Nat) (Z5 : Option Addr) (cz5 : Nat) (m9 : List Int) (m10 : List Int) (s : Int × (List Int) × (List Int) × (List Int)) (o : (Int × (List Int) × (List Int) × (List Int)) ⊕ (((List Int) × (List Int)) ⊕ (SPlayed × SFault))) (h : modes_hosted.r3 K l0 xg1_0 lg1_1 x2 s = some o) (a : Act) (w : World) (hA : modes_hosted.A3 K w0 l0 A0 c0 bg1_0 xg1_0 bg1_1 lg1_1 Ag1_1 cg1_1 x2 hR0 hL0 hBg1_0 hRg1_1 hLg1_1 hBg1_1 b1 b2 b3 r1 b4 hc1 b7 m3 m4 hc7 b8 Z3 cz3 Z4 cz4 Z5 cz5 m9 m10 s a w) (Q : Exit → Act → World → Prop) (hQ : ∀ x a w, Outs (modes_hosted.A3 K w0 l0 A0 c0 bg1_0 xg1_0 bg1_1 lg1_1 Ag1_1 cg1_1 x2 hR0 hL0 hBg1_0 hRg1_1 hLg1_1 hBg1_1 b1 b2 b3 r1 b4 hc1 b7 m3 m4 hc7 b8 Z3 cz3 Z4 cz4 Z5 cz5 m9 m10) (modes_hosted.B3 K w0 l0 A0 c0 bg1_0 xg1_0 bg1_1 lg1_1 Ag1_1 cg1_1 x2 hR0 hL0 hBg1_0 hRg1_1 hLg1_1 hBg1_1 b1 b2 b3 r1 b4 hc1 b7 m3 m4 hc7 b8 Z3 cz3 Z4 cz4 Z5 cz5 m9 m10) o x a w → Q x a w) : (subF Try.f53 [1, 1, 1, 1, 1, 1, 0, 1, 0, 0]).wp Try.prog Q a w := by
  obtain ⟨z1, m11, m12, m13⟩ := s
  obtain ⟨hS, hF⟩ := hA
  replace hS : St w0 w [Own.blk b8 (.cells #[(.slice Z3 m11.length cz3)] 25 (0, 0)), Own.blk b7 (.cells #[(.slice Z4 m12.length cz4), (.slice Z5 m13.length cz5)] 36 (0, 0)), Own.blk b3 (.cells #[.int .i64 0, .int .i64 0] 31 (0, 0)), Own.blk b2 (.cells #[.slice none 0 0, .slice none 0 0] 36 (0, 0)), Own.blk b1 (.cells #[.slice A0 l0.length c0] 28 (0, 0)), Own.of (.slice Z3 m11.length cz3) 3 m11, Own.of (.slice Z4 m12.length cz4) 3 m12, Own.of (.slice Z5 m13.length cz5) 3 m13] := hS
  simp only [modes_hosted.r3] at h
  refine (?_ : WE Try.prog 98 (subF Try.f53 [1, 1, 1, 1, 1, 1, 0, 1, 0, 0]) Q [(1, .func (.func 54) #[] #[.pointer (some ⟨bg1_0, 0, none⟩), .pointer (some ⟨bg1_1, 0, none⟩)]), (3, .pointer (some ⟨b1, 0, none⟩)), (6, .pointer (some ⟨b2, 0, none⟩)), (7, .pointer (some ⟨b3, 0, none⟩)), (9, .pointer (some ⟨b7, 0, none⟩)), (10, .pointer (some ⟨b8, 0, none⟩)), (56, .int .i64 x2), (57, .int .i64 z1)] w) a hF
  clear hF a
  refine we_seq fun K19 hK19 => ?_
  refine we_region [(0, 0)] rfl ?_
  refine ge_batch [0] (ans := []) (vs := [(58, .bool (decide (z1 < x2)))]) (l := []) (by kernel_rfl) trivial ?_
  refine ge_nil fun a hF => hK19 _ _ ?_ a hF
  refine we_seq fun K20 hK20 => ?_
  by_cases hc9 : z1 < x2
  · rw [if_pos hc9] at h
    refine we_known (t := 58) (b := decide (z1 < x2)) (v := true) (by kernel_rfl) (decide_eq_true hc9) ?_
    refine we_true (by kernel_rfl) ?_
    refine we_skip fun a hF => hK20 _ _ ?_ a hF
    refine we_seq fun K21 hK21 => ?_
    refine we_block ?_
    refine we_seq fun K22 hK22 => ?_
    refine we_region [(0, 0), (1, 1), (2, 2)] rfl ?_
    refine ge_batch [0] (ans := []) (vs := [(59, .int .i64 z1)]) (l := []) (by kernel_rfl) trivial ?_
    refine ge_new (d := some 13) (o := .cells #[.int .i64 0] 3) (v := fun b => .pointer (some ⟨b, 0, none⟩)) hS (fun b => by kernel_rfl) fun b10 w25 hx11 hS99 => ?_
    refine ge_set (b := b10) (j := 0) (cs := #[.int .i64 0]) (t := 3) (vs := [.int .i64 z1]) hS99 (by kernel_rfl) rfl rfl fun w26 hS100 => ?_
    have hS101 : St w0 w26 [Own.blk b10 (.cells #[.int .i64 z1] 3 (0, 0)), Own.blk b8 (.cells #[(.slice Z3 m11.length cz3)] 25 (0, 0)), Own.blk b7 (.cells #[(.slice Z4 m12.length cz4), (.slice Z5 m13.length cz5)] 36 (0, 0)), Own.blk b3 (.cells #[.int .i64 0, .int .i64 0] 31 (0, 0)), Own.blk b2 (.cells #[.slice none 0 0, .slice none 0 0] 36 (0, 0)), Own.blk b1 (.cells #[.slice A0 l0.length c0] 28 (0, 0)), Own.of (.slice Z3 m11.length cz3) 3 m11, Own.of (.slice Z4 m12.length cz4) 3 m12, Own.of (.slice Z5 m13.length cz5) 3 m13] := hS100
    refine ge_nil fun a hF => hK22 _ _ ?_ a hF
    refine we_seq fun K23 hK23 => ?_
    refine we_region [(0, 0), (1, 0), (2, 0), (3, 0), (4, 2)] rfl ?_
    refine ge_batch [0, 1, 2] (ans := [.val ((.slice Z4 m12.length cz4)), .val (.int .i64 z1)]) (vs := [(62, .int .i64 z1), (61, (.slice Z4 m12.length cz4)), (60, .pointer (some ⟨b7, 0, none⟩))]) (l := [.loaded ⟨b7, 0, none⟩ ((.slice Z4 m12.length cz4)), .loaded ⟨b10, 0, none⟩ (.int .i64 z1)]) (by kernel_rfl) ⟨hS101.cell 2 rfl rfl, hS101.cell 0 rfl rfl, trivial⟩ ?_
    by_cases hc10 : 0 ≤ z1
    · rw [if_pos hc10] at h
      rcases hx12 : m12[(z1).toNat]? with _ | e4
      · rw [hx12] at h; cases h
      rw [hx12] at h
      simp only [] at h
      refine ge_index (d := 63) (ty := 0) (t := 25) (el := 3) (sz := 1) (m := m12.length) (c := cz4) (x := (.tmp 61)) (y := (.tmp 62)) (A := Z4) (k' := .i64) (j := z1) (jn := ((z1).toNat)) (b0 := blkOf Z4) (o0 := offOf Z4) (by kernel_rfl) (by kernel_rfl) (by kernel_rfl) (by kernel_rfl) (by kernel_rfl) ((hS101.rdAt 7 rfl).eqSome (pos_of_get hx12)) (Int.toNat_of_nonneg hc10).symm (lt_of_get hx12) ?_
      have hS102 := hS101.bring 7 rfl
      refine ge_seti (α := Int) (A := Z4) (nn := m12.length) (c := cz4) (t := 3) (l := m12) (x := e4) (x' := (-1)) (jn := ((z1).toNat)) (j := 0) (vs := [.int .i64 (-1)]) (l' := [.stored ⟨blkOf Z4, offOf Z4 + ((z1).toNat) * 1, none⟩ (.int .i64 (-1))]) hS102 (by kernel_rfl) (by kernel_rfl) hx12 rfl rfl rfl fun w27 hS103 => ?_
      have hS104 : St w0 w27 [Own.of (.slice Z4 m12.length cz4) 3 (m12.set ((z1).toNat) (-1)), Own.blk b10 (.cells #[.int .i64 z1] 3 (0, 0)), Own.blk b8 (.cells #[(.slice Z3 m11.length cz3)] 25 (0, 0)), Own.blk b7 (.cells #[(.slice Z4 m12.length cz4), (.slice Z5 m13.length cz5)] 36 (0, 0)), Own.blk b3 (.cells #[.int .i64 0, .int .i64 0] 31 (0, 0)), Own.blk b2 (.cells #[.slice none 0 0, .slice none 0 0] 36 (0, 0)), Own.blk b1 (.cells #[.slice A0 l0.length c0] 28 (0, 0)), Own.of (.slice Z3 m11.length cz3) 3 m11, Own.of (.slice Z5 m13.length cz5) 3 m13] := hS103
      have hE3 : m12.length = (m12.set ((z1).toNat) (-1)).length := hS104.lenAt 0 rfl
      have hS105 : St w0 w27 [Own.of (.slice Z4 (m12.set ((z1).toNat) (-1)).length cz4) 3 (m12.set ((z1).toNat) (-1)), Own.blk b10 (.cells #[.int .i64 z1] 3 (0, 0)), Own.blk b8 (.cells #[(.slice Z3 m11.length cz3)] 25 (0, 0)), Own.blk b7 (.cells #[(.slice Z4 (m12.set ((z1).toNat) (-1)).length cz4), (.slice Z5 m13.length cz5)] 36 (0, 0)), Own.blk b3 (.cells #[.int .i64 0, .int .i64 0] 31 (0, 0)), Own.blk b2 (.cells #[.slice none 0 0, .slice none 0 0] 36 (0, 0)), Own.blk b1 (.cells #[.slice A0 l0.length c0] 28 (0, 0)), Own.of (.slice Z3 m11.length cz3) 3 m11, Own.of (.slice Z5 m13.length cz5) 3 m13] := by rw [← hE3]; exact hS104
      refine ge_same (t := 61) (v := (.slice Z4 m12.length cz4)) (v' := (.slice Z4 (m12.set ((z1).toNat) (-1)).length cz4)) (by kernel_rfl) (by rw [hE3]) ?_
      refine ge_nil fun a hF => hK23 _ _ ?_ a hF
      refine we_seq fun K24 hK24 => ?_
      refine we_seq fun K25 hK25 => ?_
      refine we_region [(0, 0), (1, 0), (2, 1), (3, 0)] rfl ?_
      rcases hq5 : modes_Hosted_1.f K z1 xg1_0 lg1_1 with _ | r2
      · rw [hq5] at h; cases h
      rw [hq5] at h
      simp only [] at h
      refine ge_batch [0, 1] (ans := [.val (.int .i64 z1)]) (vs := [(65, .int .i64 z1), (64, .func (.func 54) #[] #[.pointer (some ⟨bg1_0, 0, none⟩), .pointer (some ⟨bg1_1, 0, none⟩)])]) (l := [.loaded ⟨b10, 0, none⟩ (.int .i64 z1)]) (by kernel_rfl) ⟨hS105.cell 1 rfl rfl, trivial⟩ ?_
      refine ge_call (d := some 66) (f := 54) (args := #[.int .i64 z1, .pointer (some ⟨bg1_0, 0, none⟩), .pointer (some ⟨bg1_1, 0, none⟩)]) (by kernel_rfl) (modes_Hosted_1_ok K z1 bg1_0 xg1_0 bg1_1 lg1_1 Ag1_1 cg1_1 _ (Glob.ext hBg1_0 hS105.below) (hS105.rd hRg1_1) hLg1_1 (Glob.ext hBg1_1 hS105.below) _ hq5) ?_
      rintro _ w28 ⟨rfl, hS106⟩
      refine ⟨_, rfl, hS106.below, ?_⟩
      have hS107 := hS105.call hS106
      refine ge_batch [3] (ans := []) (vs := [(67, .bool (!r2))]) (l := []) (by kernel_rfl) trivial ?_
      refine ge_nil fun a hF => hK25 _ _ ?_ a hF
      by_cases hc11 : r2 = true
      · rw [if_pos hc11] at h
        refine we_known (t := 67) (b := !r2) (v := false) (by kernel_rfl) (congrArg (fun z => !z) hc11) ?_
        refine we_false (by kernel_rfl) ?_
        refine we_skip fun a hF => hK24 _ _ ?_ a hF
        refine we_seq fun K26 hK26 => ?_
        refine we_region [(0, 0), (1, 0), (2, 1), (3, 0)] rfl ?_
        rcases hq6 : sched_First.f K l0 l0 z1 m11 1 with _ | r3
        · rw [hq6] at h; cases h
        rw [hq6] at h
        simp only [] at h
        refine ge_batch [0, 1] (ans := [.val (.slice A0 l0.length c0)]) (vs := [(69, .func (.func 91) #[] #[.pointer (some ⟨b1, 0, none⟩), .pointer (some ⟨b10, 0, none⟩), .pointer (some ⟨b8, 0, none⟩)]), (68, .slice A0 l0.length c0)]) (l := [.loaded ⟨b1, 0, none⟩ (.slice A0 l0.length c0)]) (by kernel_rfl) ⟨hS107.cell 6 rfl rfl, trivial⟩ ?_
        refine ge_call (d := some 70) (f := 90) (args := #[.slice A0 l0.length c0, .func (.func 91) #[] #[.pointer (some ⟨b1, 0, none⟩), .pointer (some ⟨b10, 0, none⟩), .pointer (some ⟨b8, 0, none⟩)], .int .i64 1]) (by kernel_rfl) (sched_First_ok K l0 A0 c0 b1 l0 A0 c0 b10 z1 b8 m11 Z3 cz3 1 _ (hS107.rd hR0) hL0 (hS107.rd hR0) hL0 (hS107.globOf 6 rfl) (hS107.globOf 1 rfl) (hS107.rdAt 7 rfl) (hS107.capAt 7 rfl) (hS107.globOf 2 rfl) _ hq6) ?_
        rintro _ w29 ⟨rfl, hS108⟩
        refine ⟨_, rfl, hS108.below, ?_⟩
        have hS109 := hS107.call hS108
        refine ge_batch [3] (ans := []) (vs := [(14, .int .i64 r3)]) (l := []) (by kernel_rfl) trivial ?_
        refine ge_nil fun a hF => hK26 _ _ ?_ a hF
        refine we_seq fun K27 hK27 => ?_
        refine we_region [(0, 0), (1, 0), (2, 0), (3, 0), (4, 0), (5, 2)] rfl ?_
        refine ge_batch [0, 1, 2, 3] (ans := [.val ((.slice Z4 (m12.set ((z1).toNat) (-1)).length cz4)), .val (.int .i64 z1)]) (vs := [(74, .int .i64 r3), (73, .int .i64 z1), (72, (.slice Z4 (m12.set ((z1).toNat) (-1)).length cz4)), (71, .pointer (some ⟨b7, 0, none⟩))]) (l := [.loaded ⟨b7, 0, none⟩ ((.slice Z4 (m12.set ((z1).toNat) (-1)).length cz4)), .loaded ⟨b10, 0, none⟩ (.int .i64 z1)]) (by kernel_rfl) ⟨hS109.cell 3 rfl rfl, hS109.cell 1 rfl rfl, trivial⟩ ?_
        rcases hx13 : (m12.set ((z1).toNat) (-1))[(z1).toNat]? with _ | e5
        · rw [hx13] at h; cases h
        rw [hx13] at h
        simp only [] at h
        refine ge_index (d := 75) (ty := 0) (t := 25) (el := 3) (sz := 1) (m := (m12.set ((z1).toNat) (-1)).length) (c := cz4) (x := (.tmp 72)) (y := (.tmp 73)) (A := Z4) (k' := .i64) (j := z1) (jn := ((z1).toNat)) (b0 := blkOf Z4) (o0 := offOf Z4) (by kernel_rfl) (by kernel_rfl) (by kernel_rfl) (by kernel_rfl) (by kernel_rfl) ((hS109.rdAt 0 rfl).eqSome (pos_of_get hx13)) (Int.toNat_of_nonneg hc10).symm (lt_of_get hx13) ?_
        refine ge_seti (α := Int) (A := Z4) (nn := ((m12.set ((z1).toNat) (-1)).length)) (c := cz4) (t := 3) (l := (m12.set ((z1).toNat) (-1))) (x := e5) (x' := r3) (jn := ((z1).toNat)) (j := 0) (vs := [.int .i64 r3]) (l' := [.stored ⟨blkOf Z4, offOf Z4 + ((z1).toNat) * 1, none⟩ (.int .i64 r3)]) hS109 (by kernel_rfl) (by kernel_rfl) hx13 rfl rfl rfl fun w30 hS110 => ?_
        have hS111 : St w0 w30 [Own.of (.slice Z4 (m12.set ((z1).toNat) (-1)).length cz4) 3 ((m12.set ((z1).toNat) (-1)).set ((z1).toNat) r3), Own.blk b10 (.cells #[.int .i64 z1] 3 (0, 0)), Own.blk b8 (.cells #[(.slice Z3 m11.length cz3)] 25 (0, 0)), Own.blk b7 (.cells #[(.slice Z4 (m12.set ((z1).toNat) (-1)).length cz4), (.slice Z5 m13.length cz5)] 36 (0, 0)), Own.blk b3 (.cells #[.int .i64 0, .int .i64 0] 31 (0, 0)), Own.blk b2 (.cells #[.slice none 0 0, .slice none 0 0] 36 (0, 0)), Own.blk b1 (.cells #[.slice A0 l0.length c0] 28 (0, 0)), Own.of (.slice Z3 m11.length cz3) 3 m11, Own.of (.slice Z5 m13.length cz5) 3 m13] := hS110
        have hE4 : (m12.set ((z1).toNat) (-1)).length = ((m12.set ((z1).toNat) (-1)).set ((z1).toNat) r3).length := hS111.lenAt 0 rfl
        have hS112 : St w0 w30 [Own.of (.slice Z4 ((m12.set ((z1).toNat) (-1)).set ((z1).toNat) r3).length cz4) 3 ((m12.set ((z1).toNat) (-1)).set ((z1).toNat) r3), Own.blk b10 (.cells #[.int .i64 z1] 3 (0, 0)), Own.blk b8 (.cells #[(.slice Z3 m11.length cz3)] 25 (0, 0)), Own.blk b7 (.cells #[(.slice Z4 ((m12.set ((z1).toNat) (-1)).set ((z1).toNat) r3).length cz4), (.slice Z5 m13.length cz5)] 36 (0, 0)), Own.blk b3 (.cells #[.int .i64 0, .int .i64 0] 31 (0, 0)), Own.blk b2 (.cells #[.slice none 0 0, .slice none 0 0] 36 (0, 0)), Own.blk b1 (.cells #[.slice A0 l0.length c0] 28 (0, 0)), Own.of (.slice Z3 m11.length cz3) 3 m11, Own.of (.slice Z5 m13.length cz5) 3 m13] := by rw [← hE4]; exact hS111
        refine ge_same (t := 61) (v := (.slice Z4 (m12.set ((z1).toNat) (-1)).length cz4)) (v' := (.slice Z4 ((m12.set ((z1).toNat) (-1)).set ((z1).toNat) r3).length cz4)) (by kernel_rfl) (by rw [hE4]) ?_
        refine ge_same (t := 72) (v := (.slice Z4 (m12.set ((z1).toNat) (-1)).length cz4)) (v' := (.slice Z4 ((m12.set ((z1).toNat) (-1)).set ((z1).toNat) r3).length cz4)) (by kernel_rfl) (by rw [hE4]) ?_
        refine ge_nil fun a hF => hK27 _ _ ?_ a hF
        refine we_seq fun K28 hK28 => ?_
        refine we_seq fun K29 hK29 => ?_
        refine we_region [(0, 0), (1, 0)] rfl ?_
        refine ge_batch [0, 1] (ans := []) (vs := [(77, .bool (decide (r3 < 0))), (76, .int .i64 r3)]) (l := []) (by kernel_rfl) trivial ?_
        refine ge_nil fun a hF => hK29 _ _ ?_ a hF
        by_cases hc12 : r3 < 0
        · rw [if_pos hc12] at h
          refine we_known (t := 77) (b := decide (r3 < 0)) (v := true) (by kernel_rfl) (decide_eq_true hc12) ?_
          refine we_true (by kernel_rfl) ?_
          refine we_exit fun a hF => hK21 _ _ ?_ a hF
          refine we_region [(0, 0), (1, 0)] rfl ?_
          refine ge_batch [0, 1] (ans := []) (vs := [(57, .int .i64 (IntKind.i64.wrap (z1 + 1))), (95, .int .i64 (IntKind.i64.wrap (z1 + 1)))]) (l := []) (by kernel_rfl) trivial ?_
          have hS113 := hS112.bring 8 rfl
          have hS114 := hS113.bring 1 rfl
          have hS115 := hS114.bring 8 rfl
          have hS116 := hS115.bring 8 rfl
          have hS117 := hS116.bring 8 rfl
          have hS118 := hS117.bring 8 rfl
          have hS119 := hS118.bring 8 rfl
          have hS120 := hS119.bring 8 rfl
          have hS121 := hS120.takeN 8
          obtain rfl := Option.some.inj h
          exact ge_nil fun a hF => hQ _ _ _ (Outs.again ⟨hS121, hF.weaken ⟨by kernel_rfl, by kernel_rfl, by kernel_rfl, by kernel_rfl, by kernel_rfl, by kernel_rfl, by kernel_rfl, by kernel_rfl, trivial⟩⟩)
        · rw [if_neg hc12] at h
          refine we_known (t := 77) (b := decide (r3 < 0)) (v := false) (by kernel_rfl) (decide_eq_false hc12) ?_
          refine we_false (by kernel_rfl) ?_
          refine we_skip fun a hF => hK28 _ _ ?_ a hF
          refine we_seq fun K30 hK30 => ?_
          refine we_region [(0, 0), (1, 0), (2, 0), (3, 0), (4, 0), (5, 0), (6, 2)] rfl ?_
          refine ge_batch [0, 1] (ans := [.val ((.slice Z3 m11.length cz3))]) (vs := [(79, .int .i64 r3), (78, (.slice Z3 m11.length cz3))]) (l := [.loaded ⟨b8, 0, none⟩ ((.slice Z3 m11.length cz3))]) (by kernel_rfl) ⟨hS112.cell 2 rfl rfl, trivial⟩ ?_
          by_cases hc13 : 0 ≤ r3
          · rw [if_pos hc13] at h
            rcases hx14 : m11[(r3).toNat]? with _ | e6
            · rw [hx14] at h; cases h
            rw [hx14] at h
            simp only [] at h
            refine ge_index (d := 80) (ty := 0) (t := 25) (el := 3) (sz := 1) (m := m11.length) (c := cz3) (x := (.tmp 78)) (y := (.tmp 79)) (A := Z3) (k' := .i64) (j := r3) (jn := ((r3).toNat)) (b0 := blkOf Z3) (o0 := offOf Z3) (by kernel_rfl) (by kernel_rfl) (by kernel_rfl) (by kernel_rfl) (by kernel_rfl) ((hS112.rdAt 7 rfl).eqSome (pos_of_get hx14)) (Int.toNat_of_nonneg hc13).symm (lt_of_get hx14) ?_
            refine ge_batch [3, 4] (ans := [.val (.int .i64 e6)]) (vs := [(82, .int .i64 (IntKind.i64.wrap (e6 - 1))), (81, .int .i64 e6)]) (l := [.loaded ⟨blkOf Z3, offOf Z3 + ((r3).toNat) * 1, none⟩ (.int .i64 e6)]) (by kernel_rfl) ⟨RdL.cell (j := 0) (hS112.rdAt 7 rfl) hx14 rfl, trivial⟩ ?_
            refine ge_index (d := 83) (ty := 0) (t := 25) (el := 3) (sz := 1) (m := m11.length) (c := cz3) (x := (.tmp 78)) (y := (.tmp 79)) (A := Z3) (k' := .i64) (j := r3) (jn := ((r3).toNat)) (b0 := blkOf Z3) (o0 := offOf Z3) (by kernel_rfl) (by kernel_rfl) (by kernel_rfl) (by kernel_rfl) (by kernel_rfl) ((hS112.rdAt 7 rfl).eqSome (pos_of_get hx14)) (Int.toNat_of_nonneg hc13).symm (lt_of_get hx14) ?_
            have hS122 := hS112.bring 7 rfl
            refine ge_seti (α := Int) (A := Z3) (nn := m11.length) (c := cz3) (t := 3) (l := m11) (x := e6) (x' := (IntKind.i64.wrap (e6 - 1))) (jn := ((r3).toNat)) (j := 0) (vs := [.int .i64 (IntKind.i64.wrap (e6 - 1))]) (l' := [.stored ⟨blkOf Z3, offOf Z3 + ((r3).toNat) * 1, none⟩ (.int .i64 (IntKind.i64.wrap (e6 - 1)))]) hS122 (by kernel_rfl) (by kernel_rfl) hx14 rfl rfl rfl fun w31 hS123 => ?_
            have hS124 : St w0 w31 [Own.of (.slice Z3 m11.length cz3) 3 (m11.set ((r3).toNat) (IntKind.i64.wrap (e6 - 1))), Own.of (.slice Z4 ((m12.set ((z1).toNat) (-1)).set ((z1).toNat) r3).length cz4) 3 ((m12.set ((z1).toNat) (-1)).set ((z1).toNat) r3), Own.blk b10 (.cells #[.int .i64 z1] 3 (0, 0)), Own.blk b8 (.cells #[(.slice Z3 m11.length cz3)] 25 (0, 0)), Own.blk b7 (.cells #[(.slice Z4 ((m12.set ((z1).toNat) (-1)).set ((z1).toNat) r3).length cz4), (.slice Z5 m13.length cz5)] 36 (0, 0)), Own.blk b3 (.cells #[.int .i64 0, .int .i64 0] 31 (0, 0)), Own.blk b2 (.cells #[.slice none 0 0, .slice none 0 0] 36 (0, 0)), Own.blk b1 (.cells #[.slice A0 l0.length c0] 28 (0, 0)), Own.of (.slice Z5 m13.length cz5) 3 m13] := hS123
            have hE5 : m11.length = (m11.set ((r3).toNat) (IntKind.i64.wrap (e6 - 1))).length := hS124.lenAt 0 rfl
            have hS125 : St w0 w31 [Own.of (.slice Z3 (m11.set ((r3).toNat) (IntKind.i64.wrap (e6 - 1))).length cz3) 3 (m11.set ((r3).toNat) (IntKind.i64.wrap (e6 - 1))), Own.of (.slice Z4 ((m12.set ((z1).toNat) (-1)).set ((z1).toNat) r3).length cz4) 3 ((m12.set ((z1).toNat) (-1)).set ((z1).toNat) r3), Own.blk b10 (.cells #[.int .i64 z1] 3 (0, 0)), Own.blk b8 (.cells #[(.slice Z3 (m11.set ((r3).toNat) (IntKind.i64.wrap (e6 - 1))).length cz3)] 25 (0, 0)), Own.blk b7 (.cells #[(.slice Z4 ((m12.set ((z1).toNat) (-1)).set ((z1).toNat) r3).length cz4), (.slice Z5 m13.length cz5)] 36 (0, 0)), Own.blk b3 (.cells #[.int .i64 0, .int .i64 0] 31 (0, 0)), Own.blk b2 (.cells #[.slice none 0 0, .slice none 0 0] 36 (0, 0)), Own.blk b1 (.cells #[.slice A0 l0.length c0] 28 (0, 0)), Own.of (.slice Z5 m13.length cz5) 3 m13] := by rw [← hE5]; exact hS124
            refine ge_same (t := 78) (v := (.slice Z3 m11.length cz3)) (v' := (.slice Z3 (m11.set ((r3).toNat) (IntKind.i64.wrap (e6 - 1))).length cz3)) (by kernel_rfl) (by rw [hE5]) ?_
            refine ge_nil fun a hF => hK30 _ _ ?_ a hF
            refine we_seq fun K31 hK31 => ?_
            refine we_region [(0, 0), (1, 0), (2, 0), (3, 0), (4, 0)] rfl ?_
            refine ge_batch [0, 1] (ans := [.val ((.slice Z3 (m11.set ((r3).toNat) (IntKind.i64.wrap (e6 - 1))).length cz3))]) (vs := [(85, .int .i64 r3), (84, (.slice Z3 (m11.set ((r3).toNat) (IntKind.i64.wrap (e6 - 1))).length cz3))]) (l := [.loaded ⟨b8, 0, none⟩ ((.slice Z3 (m11.set ((r3).toNat) (IntKind.i64.wrap (e6 - 1))).length cz3))]) (by kernel_rfl) ⟨hS125.cell 3 rfl rfl, trivial⟩ ?_
            rcases hx15 : (m11.set ((r3).toNat) (IntKind.i64.wrap (e6 - 1)))[(r3).toNat]? with _ | e7
            · rw [hx15] at h; cases h
            rw [hx15] at h
            simp only [] at h
            refine ge_index (d := 86) (ty := 0) (t := 25) (el := 3) (sz := 1) (m := (m11.set ((r3).toNat) (IntKind.i64.wrap (e6 - 1))).length) (c := cz3) (x := (.tmp 84)) (y := (.tmp 85)) (A := Z3) (k' := .i64) (j := r3) (jn := ((r3).toNat)) (b0 := blkOf Z3) (o0 := offOf Z3) (by kernel_rfl) (by kernel_rfl) (by kernel_rfl) (by kernel_rfl) (by kernel_rfl) ((hS125.rdAt 0 rfl).eqSome (pos_of_get hx15)) (Int.toNat_of_nonneg hc13).symm (lt_of_get hx15) ?_
            refine ge_batch [3, 4] (ans := [.val (.int .i64 e7)]) (vs := [(88, .bool (e7 == 0)), (87, .int .i64 e7)]) (l := [.loaded ⟨blkOf Z3, offOf Z3 + ((r3).toNat) * 1, none⟩ (.int .i64 e7)]) (by kernel_rfl) ⟨RdL.cell (j := 0) (hS125.rdAt 0 rfl) hx15 rfl, trivial⟩ ?_
            refine ge_nil fun a hF => hK31 _ _ ?_ a hF
            by_cases hc14 : e7 = 0
            · rw [if_pos hc14] at h
              refine we_known (t := 88) (b := (e7 == 0)) (v := true) (by kernel_rfl) (beq_iff_eq.2 hc14) ?_
              refine we_true (by kernel_rfl) ?_
              refine we_region [(0, 0), (1, 0), (2, 0), (3, 0), (4, 0), (5, 0), (6, 2)] rfl ?_
              refine ge_batch [0, 1, 2, 3, 4] (ans := [.val ((.slice Z5 m13.length cz5)), .val (.int .i64 z1)]) (vs := [(93, .int .i64 (IntKind.i64.wrap (z1 + 1))), (92, .int .i64 z1), (91, .int .i64 r3), (90, (.slice Z5 m13.length cz5)), (89, .pointer (some ⟨b7, 1, none⟩))]) (l := [.loaded ⟨b7, 1, none⟩ ((.slice Z5 m13.length cz5)), .loaded ⟨b10, 0, none⟩ (.int .i64 z1)]) (by kernel_rfl) ⟨hS125.cell 4 rfl rfl, hS125.cell 2 rfl rfl, trivial⟩ ?_
              rcases hx16 : m13[(r3).toNat]? with _ | e8
              · rw [hx16] at h; cases h
              rw [hx16] at h
              simp only [] at h
              refine ge_index (d := 94) (ty := 0) (t := 25) (el := 3) (sz := 1) (m := m13.length) (c := cz5) (x := (.tmp 90)) (y := (.tmp 91)) (A := Z5) (k' := .i64) (j := r3) (jn := ((r3).toNat)) (b0 := blkOf Z5) (o0 := offOf Z5) (by kernel_rfl) (by kernel_rfl) (by kernel_rfl) (by kernel_rfl) (by kernel_rfl) ((hS125.rdAt 8 rfl).eqSome (pos_of_get hx16)) (Int.toNat_of_nonneg hc13).symm (lt_of_get hx16) ?_
              have hS126 := hS125.bring 8 rfl
              refine ge_seti (α := Int) (A := Z5) (nn := m13.length) (c := cz5) (t := 3) (l := m13) (x := e8) (x' := (IntKind.i64.wrap (z1 + 1))) (jn := ((r3).toNat)) (j := 0) (vs := [.int .i64 (IntKind.i64.wrap (z1 + 1))]) (l' := [.stored ⟨blkOf Z5, offOf Z5 + ((r3).toNat) * 1, none⟩ (.int .i64 (IntKind.i64.wrap (z1 + 1)))]) hS126 (by kernel_rfl) (by kernel_rfl) hx16 rfl rfl rfl fun w32 hS127 => ?_
              have hS128 : St w0 w32 [Own.of (.slice Z5 m13.length cz5) 3 (m13.set ((r3).toNat) (IntKind.i64.wrap (z1 + 1))), Own.of (.slice Z3 (m11.set ((r3).toNat) (IntKind.i64.wrap (e6 - 1))).length cz3) 3 (m11.set ((r3).toNat) (IntKind.i64.wrap (e6 - 1))), Own.of (.slice Z4 ((m12.set ((z1).toNat) (-1)).set ((z1).toNat) r3).length cz4) 3 ((m12.set ((z1).toNat) (-1)).set ((z1).toNat) r3), Own.blk b10 (.cells #[.int .i64 z1] 3 (0, 0)), Own.blk b8 (.cells #[(.slice Z3 (m11.set ((r3).toNat) (IntKind.i64.wrap (e6 - 1))).length cz3)] 25 (0, 0)), Own.blk b7 (.cells #[(.slice Z4 ((m12.set ((z1).toNat) (-1)).set ((z1).toNat) r3).length cz4), (.slice Z5 m13.length cz5)] 36 (0, 0)), Own.blk b3 (.cells #[.int .i64 0, .int .i64 0] 31 (0, 0)), Own.blk b2 (.cells #[.slice none 0 0, .slice none 0 0] 36 (0, 0)), Own.blk b1 (.cells #[.slice A0 l0.length c0] 28 (0, 0))] := hS127
              have hE6 : m13.length = (m13.set ((r3).toNat) (IntKind.i64.wrap (z1 + 1))).length := hS128.lenAt 0 rfl
              have hS129 : St w0 w32 [Own.of (.slice Z5 (m13.set ((r3).toNat) (IntKind.i64.wrap (z1 + 1))).length cz5) 3 (m13.set ((r3).toNat) (IntKind.i64.wrap (z1 + 1))), Own.of (.slice Z3 (m11.set ((r3).toNat) (IntKind.i64.wrap (e6 - 1))).length cz3) 3 (m11.set ((r3).toNat) (IntKind.i64.wrap (e6 - 1))), Own.of (.slice Z4 ((m12.set ((z1).toNat) (-1)).set ((z1).toNat) r3).length cz4) 3 ((m12.set ((z1).toNat) (-1)).set ((z1).toNat) r3), Own.blk b10 (.cells #[.int .i64 z1] 3 (0, 0)), Own.blk b8 (.cells #[(.slice Z3 (m11.set ((r3).toNat) (IntKind.i64.wrap (e6 - 1))).length cz3)] 25 (0, 0)), Own.blk b7 (.cells #[(.slice Z4 ((m12.set ((z1).toNat) (-1)).set ((z1).toNat) r3).length cz4), (.slice Z5 (m13.set ((r3).toNat) (IntKind.i64.wrap (z1 + 1))).length cz5)] 36 (0, 0)), Own.blk b3 (.cells #[.int .i64 0, .int .i64 0] 31 (0, 0)), Own.blk b2 (.cells #[.slice none 0 0, .slice none 0 0] 36 (0, 0)), Own.blk b1 (.cells #[.slice A0 l0.length c0] 28 (0, 0))] := by rw [← hE6]; exact hS128
              refine ge_same (t := 90) (v := (.slice Z5 m13.length cz5)) (v' := (.slice Z5 (m13.set ((r3).toNat) (IntKind.i64.wrap (z1 + 1))).length cz5)) (by kernel_rfl) (by rw [hE6]) ?_
              refine ge_nil fun a hF => hK21 _ _ ?_ a hF
              refine we_region [(0, 0), (1, 0)] rfl ?_
              refine ge_batch [0, 1] (ans := []) (vs := [(57, .int .i64 (IntKind.i64.wrap (z1 + 1))), (95, .int .i64 (IntKind.i64.wrap (z1 + 1)))]) (l := []) (by kernel_rfl) trivial ?_
              have hS130 := hS129.bring 2 rfl
              have hS131 := hS130.bring 2 rfl
              have hS132 := hS131.bring 8 rfl
              have hS133 := hS132.bring 8 rfl
              have hS134 := hS133.bring 8 rfl
              have hS135 := hS134.bring 8 rfl
              have hS136 := hS135.bring 8 rfl
              have hS137 := hS136.takeN 8
              obtain rfl := Option.some.inj h
              exact ge_nil fun a hF => hQ _ _ _ (Outs.again ⟨hS137, hF.weaken ⟨by kernel_rfl, by kernel_rfl, by kernel_rfl, by kernel_rfl, by kernel_rfl, by kernel_rfl, by kernel_rfl, by kernel_rfl, trivial⟩⟩)
            · rw [if_neg hc14] at h
              refine we_known (t := 88) (b := (e7 == 0)) (v := false) (by kernel_rfl) (beq_eq_false_iff_ne.2 hc14) ?_
              refine we_false (by kernel_rfl) ?_
              refine we_skip fun a hF => hK21 _ _ ?_ a hF
              refine we_region [(0, 0), (1, 0)] rfl ?_
              refine ge_batch [0, 1] (ans := []) (vs := [(57, .int .i64 (IntKind.i64.wrap (z1 + 1))), (95, .int .i64 (IntKind.i64.wrap (z1 + 1)))]) (l := []) (by kernel_rfl) trivial ?_
              have hS138 := hS125.bring 8 rfl
              have hS139 := hS138.bring 2 rfl
              have hS140 := hS139.bring 2 rfl
              have hS141 := hS140.bring 8 rfl
              have hS142 := hS141.bring 8 rfl
              have hS143 := hS142.bring 8 rfl
              have hS144 := hS143.bring 8 rfl
              have hS145 := hS144.bring 8 rfl
              have hS146 := hS145.takeN 8
              obtain rfl := Option.some.inj h
              exact ge_nil fun a hF => hQ _ _ _ (Outs.again ⟨hS146, hF.weaken ⟨by kernel_rfl, by kernel_rfl, by kernel_rfl, by kernel_rfl, by kernel_rfl, by kernel_rfl, by kernel_rfl, by kernel_rfl, trivial⟩⟩)
          · rw [if_neg hc13] at h
            cases h
      · rw [if_neg hc11] at h
        refine we_known (t := 67) (b := !r2) (v := true) (by kernel_rfl) (congrArg (fun z => !z) (Bool.eq_false_iff.2 hc11)) ?_
        refine we_true (by kernel_rfl) ?_
        refine we_exit fun a hF => hK21 _ _ ?_ a hF
        refine we_region [(0, 0), (1, 0)] rfl ?_
        refine ge_batch [0, 1] (ans := []) (vs := [(57, .int .i64 (IntKind.i64.wrap (z1 + 1))), (95, .int .i64 (IntKind.i64.wrap (z1 + 1)))]) (l := []) (by kernel_rfl) trivial ?_
        have hS147 := hS107.bring 8 rfl
        have hS148 := hS147.bring 1 rfl
        have hS149 := hS148.bring 8 rfl
        have hS150 := hS149.bring 8 rfl
        have hS151 := hS150.bring 8 rfl
        have hS152 := hS151.bring 8 rfl
        have hS153 := hS152.bring 8 rfl
        have hS154 := hS153.bring 8 rfl
        have hS155 := hS154.takeN 8
        obtain rfl := Option.some.inj h
        exact ge_nil fun a hF => hQ _ _ _ (Outs.again ⟨hS155, hF.weaken ⟨by kernel_rfl, by kernel_rfl, by kernel_rfl, by kernel_rfl, by kernel_rfl, by kernel_rfl, by kernel_rfl, by kernel_rfl, trivial⟩⟩)
    · rw [if_neg hc10] at h
      cases h
  · rw [if_neg hc9] at h
    refine we_known (t := 58) (b := decide (z1 < x2)) (v := false) (by kernel_rfl) (decide_eq_false hc9) ?_
    refine we_false (by kernel_rfl) ?_
    have hS156 := hS.bring 7 rfl
    have hS157 := hS156.bring 7 rfl
    have hS158 := hS157.bring 5 rfl
    have hS159 := hS158.bring 5 rfl
    have hS160 := hS159.bring 5 rfl
    have hS161 := hS160.takeN 5
    obtain rfl := Option.some.inj h
    exact we_exit fun a hF => hQ _ _ _ (Outs.out nofun (Exits.here ⟨hS161, hF.weaken ⟨by kernel_rfl, by kernel_rfl, by kernel_rfl, trivial⟩⟩))
abbrev modes_hosted.A4 (K : Nat) (w0 : World) (l0 : List SJob) (A0 : Option Addr) (c0 : Nat) (bg1_0 : Nat) (xg1_0 : Int) (bg1_1 : Nat) (lg1_1 : List SWindow) (Ag1_1 : Option Addr) (cg1_1 : Nat) (x2 : Int) (hR0 : RdL w0 A0 l0) (hL0 : l0.length ≤ c0) (hBg1_0 : Glob w0 bg1_0 [.int .i64 xg1_0]) (hRg1_1 : RdL w0 Ag1_1 lg1_1) (hLg1_1 : lg1_1.length ≤ cg1_1) (hBg1_1 : Glob w0 bg1_1 [.slice Ag1_1 lg1_1.length cg1_1]) (b1 : Nat) (b2 : Nat) (b3 : Nat) (r1 : SFault) (b4 : Nat) (hc1 : ¬ (r1.Code = 0)) : (Int × Int × (List Int) × (List Int)) → Act → World → Prop := fun (s : Int × Int × (List Int) × (List Int)) a w => ∃ (v8 : Value) (v9 : Value), St w0 w [Own.blk b3 (.cells #[.int .i64 s.1, .int .i64 s.2.1] 31 (0, 0)), Own.blk b2 (.cells #[v8, v9] 36 (0, 0)), Own.of v8 3 s.2.2.1, Own.of v9 3 s.2.2.2] ∧ Frm 98 a [(6, .pointer (some ⟨b2, 0, none⟩)), (7, .pointer (some ⟨b3, 0, none⟩))]
abbrev modes_hosted.B4 (K : Nat) (w0 : World) (l0 : List SJob) (A0 : Option Addr) (c0 : Nat) (bg1_0 : Nat) (xg1_0 : Int) (bg1_1 : Nat) (lg1_1 : List SWindow) (Ag1_1 : Option Addr) (cg1_1 : Nat) (x2 : Int) (hR0 : RdL w0 A0 l0) (hL0 : l0.length ≤ c0) (hBg1_0 : Glob w0 bg1_0 [.int .i64 xg1_0]) (hRg1_1 : RdL w0 Ag1_1 lg1_1) (hLg1_1 : lg1_1.length ≤ cg1_1) (hBg1_1 : Glob w0 bg1_1 [.slice Ag1_1 lg1_1.length cg1_1]) (b1 : Nat) (b2 : Nat) (b3 : Nat) (r1 : SFault) (b4 : Nat) (hc1 : ¬ (r1.Code = 0)) : (SPlayed × SFault) → Exit → Act → World → Prop := Rets Try.prog Try.f53 (modes_hosted.Post w0)
theorem modes_hosted_p4 (K : Nat) (w0 : World) (l0 : List SJob) (A0 : Option Addr) (c0 : Nat) (bg1_0 : Nat) (xg1_0 : Int) (bg1_1 : Nat) (lg1_1 : List SWindow) (Ag1_1 : Option Addr) (cg1_1 : Nat) (x2 : Int) (hR0 : RdL w0 A0 l0) (hL0 : l0.length ≤ c0) (hBg1_0 : Glob w0 bg1_0 [.int .i64 xg1_0]) (hRg1_1 : RdL w0 Ag1_1 lg1_1) (hLg1_1 : lg1_1.length ≤ cg1_1) (hBg1_1 : Glob w0 bg1_1 [.slice Ag1_1 lg1_1.length cg1_1]) (b1 : Nat) (b2 : Nat) (b3 : Nat) (r1 : SFault) (b4 : Nat) (hc1 : ¬ (r1.Code = 0)) (o : (Int × Int × (List Int) × (List Int)) ⊕ (SPlayed × SFault)) (h : modes_hosted.p4 r1 = some o) (w : World) (hS : St w0 w [Own.blk b4 (.cells #[.int .i64 r1.Code, .int .i64 r1.At] 31 (0, 0)), Own.blk b3 (.cells #[.int .i64 0, .int .i64 0] 31 (0, 0)), Own.blk b2 (.cells #[.slice none 0 0, .slice none 0 0] 36 (0, 0)), Own.blk b1 (.cells #[.slice A0 l0.length c0] 28 (0, 0))]) (Q : Exit → Act → World → Prop) (hQ : ∀ x a w, Outs (modes_hosted.A4 K w0 l0 A0 c0 bg1_0 xg1_0 bg1_1 lg1_1 Ag1_1 cg1_1 x2 hR0 hL0 hBg1_0 hRg1_1 hLg1_1 hBg1_1 b1 b2 b3 r1 b4 hc1) (modes_hosted.B4 K w0 l0 A0 c0 bg1_0 xg1_0 bg1_1 lg1_1 Ag1_1 cg1_1 x2 hR0 hL0 hBg1_0 hRg1_1 hLg1_1 hBg1_1 b1 b2 b3 r1 b4 hc1) o x a w → Q x a w) : WE Try.prog 98 (subF Try.f53 [1, 0, 1, 1, 0, 0]) Q [(0, .slice A0 l0.length c0), (1, .func (.func 54) #[] #[.pointer (some ⟨bg1_0, 0, none⟩), .pointer (some ⟨bg1_1, 0, none⟩)]), (2, .int .i64 x2), (3, .pointer (some ⟨b1, 0, none⟩)), (6, .pointer (some ⟨b2, 0, none⟩)), (7, .pointer (some ⟨b3, 0, none⟩)), (8, .pointer (some ⟨b4, 0, none⟩)), (15, .slice A0 l0.length c0), (16, .agg #[.int .i64 r1.Code, .int .i64 r1.At]), (17, .pointer (some ⟨b4, 0, none⟩)), (18, .int .i64 r1.Code), (19, .bool true)] w := by
  simp only [modes_hosted.p4] at h
  refine we_orders2 (by kernel_rfl) [(1, [⟨b4, 0, none⟩, ⟨b4, 1, none⟩])] (.vals [0] (.vals [1] (.alt 2 2 (.alt 3 2 .fin .nomore) .nomore))) (by kernel_rfl) ?_
  have hS172 := hS.drew
  refine go2_batch [0] (ans := []) (vs := [(20, .agg #[.slice none 0 0, .slice none 0 0])]) (l := []) (by kernel_rfl) trivial mem_nil ?_
  refine go2_batch [1] (ans := [.val (.int .i64 r1.Code), .val (.int .i64 r1.At)]) (vs := [(21, .agg #[.int .i64 r1.Code, .int .i64 r1.At])]) (l := [.loaded ⟨b4, 0, none⟩ (.int .i64 r1.Code), .loaded ⟨b4, 1, none⟩ (.int .i64 r1.At)]) (by kernel_rfl) ⟨hS172.cell 0 rfl rfl, hS172.cell 0 rfl rfl, trivial⟩ (mem_one (by kernel_rfl)) ?_
  refine go_alt2 (fun KK hKK => ?_) ?_
  · have hS173 := hS172.bring 2 rfl
    refine ge_set (b := b2) (j := 0) (cs := #[.slice none 0 0, .slice none 0 0]) (t := 36) (vs := [.slice none 0 0, .slice none 0 0]) hS173 (by kernel_rfl) rfl rfl fun w36 hS174 => ?_
    have hS175 : St w0 w36 [Own.blk b2 (.cells #[.slice none 0 0, .slice none 0 0] 36 (0, 0)), Own.blk b4 (.cells #[.int .i64 r1.Code, .int .i64 r1.At] 31 (0, 0)), Own.blk b3 (.cells #[.int .i64 0, .int .i64 0] 31 (0, 0)), Own.blk b1 (.cells #[.slice A0 l0.length c0] 28 (0, 0))] := hS174
    refine ge_nil fun a hF => hKK _ _ (RS.of2 (l := [.loaded ⟨b4, 0, none⟩ (.int .i64 r1.Code), .loaded ⟨b4, 1, none⟩ (.int .i64 r1.At)]) (by kernel_rfl) ⟨hS172.cell 0 rfl rfl, hS172.cell 0 rfl rfl, trivial⟩ ⟨hS175.cell 1 rfl rfl, hS175.cell 1 rfl rfl, trivial⟩) ?_ a hF
    refine go_alt2 (fun KK hKK => ?_) ?_
    · have hS176 := hS175.bring 2 rfl
      refine ge_set (b := b3) (j := 0) (cs := #[.int .i64 0, .int .i64 0]) (t := 31) (vs := [.int .i64 r1.Code, .int .i64 r1.At]) hS176 (by kernel_rfl) rfl rfl fun w37 hS177 => ?_
      have hS178 : St w0 w37 [Own.blk b3 (.cells #[.int .i64 r1.Code, .int .i64 r1.At] 31 (0, 0)), Own.blk b2 (.cells #[.slice none 0 0, .slice none 0 0] 36 (0, 0)), Own.blk b4 (.cells #[.int .i64 r1.Code, .int .i64 r1.At] 31 (0, 0)), Own.blk b1 (.cells #[.slice A0 l0.length c0] 28 (0, 0))] := hS177
      refine ge_nil fun a hF => hKK _ _ (RS.of2 (l := []) (by kernel_rfl) trivial trivial) ?_ a hF
      have hS179 := hS178.nil (α := Int) 3
      have hS180 := hS179.nil (α := Int) 3
      have hS181 := hS180.bring 1 rfl
      have hS182 := hS181.bring 1 rfl
      have hS183 := hS182.bring 3 rfl
      have hS184 := hS183.bring 3 rfl
      have hS185 := hS184.takeN 4
      obtain rfl := Option.some.inj h
      exact go_fin2 fun a hF => hQ _ _ _ (Outs.again ⟨(.slice none 0 0), (.slice none 0 0), hS185, hF.weaken ⟨by kernel_rfl, by kernel_rfl, trivial⟩⟩)
    exact go_nomore2
  exact go_nomore2
theorem modes_hosted_ok (K : Nat) (l0 : List SJob) (A0 : Option Addr) (c0 : Nat) (bg1_0 : Nat) (xg1_0 : Int) (bg1_1 : Nat) (lg1_1 : List SWindow) (Ag1_1 : Option Addr) (cg1_1 : Nat) (x2 : Int) (w0 : World) (hR0 : RdL w0 A0 l0) (hL0 : l0.length ≤ c0) (hBg1_0 : Glob w0 bg1_0 [.int .i64 xg1_0]) (hRg1_1 : RdL w0 Ag1_1 lg1_1) (hLg1_1 : lg1_1.length ≤ cg1_1) (hBg1_1 : Glob w0 bg1_1 [.slice Ag1_1 lg1_1.length cg1_1]) (r : SPlayed × SFault) (h : modes_hosted.f K l0 xg1_0 lg1_1 x2 = some r) :
    Calls Try.prog 53 #[.slice A0 l0.length c0, .func (.func 54) #[] #[.pointer (some ⟨bg1_0, 0, none⟩), .pointer (some ⟨bg1_1, 0, none⟩)], .int .i64 x2] w0 (modes_hosted.Post w0 r) := by
  have hS := St.start w0
  unfold modes_hosted.f at h
  refine calls_enter (n := 98) (args := [.slice A0 l0.length c0, .func (.func 54) #[] #[.pointer (some ⟨bg1_0, 0, none⟩), .pointer (some ⟨bg1_1, 0, none⟩)], .int .i64 x2]) (fn := Try.f53) rfl rfl rfl rfl ?_
  show WE _ _ _ _ [(0, .slice A0 l0.length c0), (1, .func (.func 54) #[] #[.pointer (some ⟨bg1_0, 0, none⟩), .pointer (some ⟨bg1_1, 0, none⟩)]), (2, .int .i64 x2)] _
  refine we_seq fun K1 hK1 => ?_
  refine we_region [(0, 1), (1, 1), (2, 1)] rfl ?_
  refine ge_new (d := some 3) (o := .cells #[.slice A0 l0.length c0] 28) (v := fun b => .pointer (some ⟨b, 0, none⟩)) hS (fun b => by kernel_rfl) fun b1 w1 hx1 hS1 => ?_
  refine ge_new (d := some 6) (o := .cells #[.slice none 0 0, .slice none 0 0] 36) (v := fun b => .pointer (some ⟨b, 0, none⟩)) hS1 (fun b => by kernel_rfl) fun b2 w2 hx2 hS2 => ?_
  refine ge_new (d := some 7) (o := .cells #[.int .i64 0, .int .i64 0] 31) (v := fun b => .pointer (some ⟨b, 0, none⟩)) hS2 (fun b => by kernel_rfl) fun b3 w3 hx3 hS3 => ?_
  refine ge_nil fun a hF => hK1 _ _ ?_ a hF
  refine we_seq fun K2 hK2 => ?_
  refine we_seq fun K3 hK3 => ?_
  refine we_region [(0, 0), (1, 1), (2, 1), (3, 2)] rfl ?_
  rcases hq1 : sched_Check.f K l0 with _ | r1
  · rw [hq1] at h; cases h
  rw [hq1] at h
  simp only [] at h
  refine ge_batch [0] (ans := [.val (.slice A0 l0.length c0)]) (vs := [(15, .slice A0 l0.length c0)]) (l := [.loaded ⟨b1, 0, none⟩ (.slice A0 l0.length c0)]) (by kernel_rfl) ⟨hS3.cell 2 rfl rfl, trivial⟩ ?_
  refine ge_call (d := some 16) (f := 89) (args := #[.slice A0 l0.length c0]) (by kernel_rfl) (sched_Check_ok K l0 A0 c0 _ (hS3.rd hR0) hL0 _ hq1) ?_
  rintro _ w4 ⟨rfl, hS4⟩
  refine ⟨_, rfl, hS4.below, ?_⟩
  have hS5 := hS3.call hS4
  refine ge_new (d := some 8) (o := .cells #[.int .i64 0, .int .i64 0] 31) (v := fun b => .pointer (some ⟨b, 0, none⟩)) hS5 (fun b => by kernel_rfl) fun b4 w5 hx4 hS6 => ?_
  refine ge_set (b := b4) (j := 0) (cs := #[.int .i64 0, .int .i64 0]) (t := 31) (vs := [.int .i64 r1.Code, .int .i64 r1.At]) hS6 (by kernel_rfl) rfl rfl fun w6 hS7 => ?_
  have hS8 : St w0 w6 [Own.blk b4 (.cells #[.int .i64 r1.Code, .int .i64 r1.At] 31 (0, 0)), Own.blk b3 (.cells #[.int .i64 0, .int .i64 0] 31 (0, 0)), Own.blk b2 (.cells #[.slice none 0 0, .slice none 0 0] 36 (0, 0)), Own.blk b1 (.cells #[.slice A0 l0.length c0] 28 (0, 0))] := hS7
  refine ge_nil fun a hF => hK3 _ _ ?_ a hF
  refine we_seq fun K4 hK4 => ?_
  refine we_region [(0, 0), (1, 0), (2, 0)] rfl ?_
  refine ge_batch [0, 1, 2] (ans := [.val (.int .i64 r1.Code)]) (vs := [(19, .bool (r1.Code != 0)), (18, .int .i64 r1.Code), (17, .pointer (some ⟨b4, 0, none⟩))]) (l := [.loaded ⟨b4, 0, none⟩ (.int .i64 r1.Code)]) (by kernel_rfl) ⟨hS8.cell 0 rfl rfl, trivial⟩ ?_
  refine ge_nil fun a hF => hK4 _ _ ?_ a hF
  by_cases hc1 : r1.Code = 0
  · rw [if_pos hc1] at h
    refine we_known (t := 19) (b := (r1.Code != 0)) (v := false) (by kernel_rfl) (bne_eq_false_iff_eq.2 hc1) ?_
    refine we_false (by kernel_rfl) ?_
    refine we_skip fun a hF => hK2 _ _ ?_ a hF
    refine we_seq fun K5 hK5 => ?_
    rcases hq2 : modes_hosted.p0 x2 with _ | (_ | rr4)
    · rw [hq2] at h; cases h
    · rw [hq2] at h
      simp only [] at h
      refine we_keep (e' := [(0, .slice A0 l0.length c0), (1, .func (.func 54) #[] #[.pointer (some ⟨bg1_0, 0, none⟩), .pointer (some ⟨bg1_1, 0, none⟩)]), (2, .int .i64 x2), (3, .pointer (some ⟨b1, 0, none⟩)), (6, .pointer (some ⟨b2, 0, none⟩)), (7, .pointer (some ⟨b3, 0, none⟩)), (8, .pointer (some ⟨b4, 0, none⟩)), (15, .slice A0 l0.length c0), (16, .agg #[.int .i64 r1.Code, .int .i64 r1.At]), (17, .pointer (some ⟨b4, 0, none⟩)), (18, .int .i64 r1.Code), (19, .bool false)]) ⟨by kernel_rfl, by kernel_rfl, by kernel_rfl, by kernel_rfl, by kernel_rfl, by kernel_rfl, by kernel_rfl, by kernel_rfl, by kernel_rfl, by kernel_rfl, by kernel_rfl, by kernel_rfl, trivial⟩ (modes_hosted_p0 K w0 l0 A0 c0 bg1_0 xg1_0 bg1_1 lg1_1 Ag1_1 cg1_1 x2 hR0 hL0 hBg1_0 hRg1_1 hLg1_1 hBg1_1 b1 b2 b3 r1 b4 hc1 _ hq2 _ hS8 _ ?_)
      rintro _ a w11 ⟨rfl, hS35, hF⟩
      replace hS35 : St w0 w11 [Own.blk b3 (.cells #[.int .i64 0, .int .i64 0] 31 (0, 0)), Own.blk b2 (.cells #[.slice none 0 0, .slice none 0 0] 36 (0, 0)), Own.blk b1 (.cells #[.slice A0 l0.length c0] 28 (0, 0))] := hS35
      refine hK5 [(1, .func (.func 54) #[] #[.pointer (some ⟨bg1_0, 0, none⟩), .pointer (some ⟨bg1_1, 0, none⟩)]), (2, .int .i64 x2), (3, .pointer (some ⟨b1, 0, none⟩)), (6, .pointer (some ⟨b2, 0, none⟩)), (7, .pointer (some ⟨b3, 0, none⟩))] w11 ?_ a hF
      refine we_seq fun K9 hK9 => ?_
      rcases hq3 : modes_hosted.p1 l0 x2 with _ | (⟨m3, m4⟩ | rr3)
      · rw [hq3] at h; cases h
      · rw [hq3] at h
        simp only [] at h
        refine we_keep (e' := [(1, .func (.func 54) #[] #[.pointer (some ⟨bg1_0, 0, none⟩), .pointer (some ⟨bg1_1, 0, none⟩)]), (2, .int .i64 x2), (3, .pointer (some ⟨b1, 0, none⟩)), (6, .pointer (some ⟨b2, 0, none⟩)), (7, .pointer (some ⟨b3, 0, none⟩))]) ⟨by kernel_rfl, by kernel_rfl, by kernel_rfl, by kernel_rfl, by kernel_rfl, trivial⟩ (modes_hosted_p1 K w0 l0 A0 c0 bg1_0 xg1_0 bg1_1 lg1_1 Ag1_1 cg1_1 x2 hR0 hL0 hBg1_0 hRg1_1 hLg1_1 hBg1_1 b1 b2 b3 r1 b4 hc1 _ hq3 _ hS35 _ ?_)
        rintro _ a w16 ⟨rfl, b7, v5, v6, hS49, hF⟩
        replace hS49 : St w0 w16 [Own.blk b7 (.cells #[v5, v6] 36 (0, 0)), Own.blk b3 (.cells #[.int .i64 0, .int .i64 0] 31 (0, 0)), Own.blk b2 (.cells #[.slice none 0 0, .slice none 0 0] 36 (0, 0)), Own.blk b1 (.cells #[.slice A0 l0.length c0] 28 (0, 0)), Own.of v5 3 m3, Own.of v6 3 m4] := hS49
        refine hK9 [(1, .func (.func 54) #[] #[.pointer (some ⟨bg1_0, 0, none⟩), .pointer (some ⟨bg1_1, 0, none⟩)]), (2, .int .i64 x2), (3, .pointer (some ⟨b1, 0, none⟩)), (6, .pointer (some ⟨b2, 0, none⟩)), (7, .pointer (some ⟨b3, 0, none⟩)), (9, .pointer (some ⟨b7, 0, none⟩))] w16 ?_ a hF
        refine we_seq fun K10 hK10 => ?_
        refine we_region [(0, 0), (1, 0), (2, 1), (3, 1), (4, 2)] rfl ?_
        refine ge_batch [0, 1] (ans := [.val (.slice A0 l0.length c0)]) (vs := [(37, .int .i64 (l0.length : Int)), (36, .slice A0 l0.length c0)]) (l := [.loaded ⟨b1, 0, none⟩ (.slice A0 l0.length c0)]) (by kernel_rfl) ⟨hS49.cell 3 rfl rfl, trivial⟩ ?_
        by_cases hc7 : l0.length ≤ 17592186044416
        · rw [if_pos hc7] at h
          refine ge_make (α := Int) (d := 38) (t := 25) (el := 3) (bytes := 8) (l := l0.length) (c := l0.length) (x := (.tmp 37)) (y := (.tmp 37)) (ty := 25) (k1 := .i64) (k2 := .i64) (li := (l0.length : Int)) (ci := (l0.length : Int)) (z := .int .i64 0) (z' := (0 : Int)) (by kernel_rfl) (by kernel_rfl) (by kernel_rfl) rfl rfl (by kernel_rfl) (by kernel_rfl) rfl hS49 (Nat.le_refl _) rfl (by omega) fun v7 w17 _ hS50 => ?_
          refine ge_new (d := some 10) (o := .cells #[.slice none 0 0] 25) (v := fun b => .pointer (some ⟨b, 0, none⟩)) hS50 (fun b => by kernel_rfl) fun b8 w18 hx6 hS51 => ?_
          obtain ⟨Z3, cz3, rfl⟩ := hS51.open 1 rfl
          refine ge_set (b := b8) (j := 0) (cs := #[.slice none 0 0]) (t := 25) (vs := [(.slice Z3 (List.replicate l0.length (0 : Int)).length cz3)]) hS51 (by kernel_rfl) rfl rfl fun w19 hS52 => ?_
          have hS53 : St w0 w19 [Own.blk b8 (.cells #[(.slice Z3 (List.replicate l0.length (0 : Int)).length cz3)] 25 (0, 0)), Own.of (.slice Z3 (List.replicate l0.length (0 : Int)).length cz3) 3 (List.replicate l0.length (0 : Int)), Own.blk b7 (.cells #[v5, v6] 36 (0, 0)), Own.blk b3 (.cells #[.int .i64 0, .int .i64 0] 31 (0, 0)), Own.blk b2 (.cells #[.slice none 0 0, .slice none 0 0] 36 (0, 0)), Own.blk b1 (.cells #[.slice A0 l0.length c0] 28 (0, 0)), Own.of v5 3 m3, Own.of v6 3 m4] := hS52
          refine ge_nil fun a hF => hK10 _ _ ?_ a hF
          refine we_seq fun K11 hK11 => ?_
          refine we_seq fun K12 hK12 => ?_
          refine we_region [(0, 0), (1, 0), (2, 0)] rfl ?_
          refine ge_batch [0, 1, 2] (ans := [.val (.slice A0 l0.length c0)]) (vs := [(41, .int .i64 0), (40, .int .i64 (l0.length : Int)), (39, .slice A0 l0.length c0)]) (l := [.loaded ⟨b1, 0, none⟩ (.slice A0 l0.length c0)]) (by kernel_rfl) ⟨hS53.cell 5 rfl rfl, trivial⟩ ?_
          refine ge_nil fun a hF => hK12 _ _ ?_ a hF
          refine we_block ?_
          obtain ⟨Z4, cz4, rfl⟩ := hS53.open 6 rfl
          obtain ⟨Z5, cz5, rfl⟩ := hS53.open 7 rfl
          have hS54 := hS53.bring 7 rfl
          have hS55 := hS54.bring 7 rfl
          have hS56 := hS55.bring 3 rfl
          have hS57 := hS56.bring 7 rfl
          have hS58 := hS57.bring 7 rfl
          have hS59 := hS58.bring 7 rfl
          have hS60 := hS59.bring 7 rfl
          have hS61 := hS60.bring 7 rfl
          rcases hq4 : iter (modes_hosted.r2 l0) K (0, (List.replicate l0.length (0 : Int)), m4) with _ | (⟨m9, m10⟩ | rr2)
          · rw [hq4] at h; cases h
          · rw [hq4] at h
            simp only [] at h
            refine we_iter (A := modes_hosted.A2 K w0 l0 A0 c0 bg1_0 xg1_0 bg1_1 lg1_1 Ag1_1 cg1_1 x2 hR0 hL0 hBg1_0 hRg1_1 hLg1_1 hBg1_1 b1 b2 b3 r1 b4 hc1 b7 m3 m4 hc7 b8 Z3 cz3 Z4 cz4 Z5 cz5) (B := modes_hosted.B2 K w0 l0 A0 c0 bg1_0 xg1_0 bg1_1 lg1_1 Ag1_1 cg1_1 x2 hR0 hL0 hBg1_0 hRg1_1 hLg1_1 hBg1_1 b1 b2 b3 r1 b4 hc1 b7 m3 m4 hc7 b8 Z3 cz3 Z4 cz4 Z5 cz5) hq4 (fun a hF => ⟨hS61, hF.weaken ⟨by kernel_rfl, by kernel_rfl, by kernel_rfl, by kernel_rfl, by kernel_rfl, by kernel_rfl, by kernel_rfl, by kernel_rfl, by kernel_rfl, by kernel_rfl, trivial⟩⟩) (fun s o hf a w hA Q hQ => modes_hosted_r2 K w0 l0 A0 c0 bg1_0 xg1_0 bg1_1 lg1_1 Ag1_1 cg1_1 x2 hR0 hL0 hBg1_0 hRg1_1 hLg1_1 hBg1_1 b1 b2 b3 r1 b4 hc1 b7 m3 m4 hc7 b8 Z3 cz3 Z4 cz4 Z5 cz5 s o hf a w hA Q hQ) ?_
            rintro _ a w24 _ ⟨rfl, hS90, hF⟩
            replace hS90 : St w0 w24 [Own.blk b8 (.cells #[(.slice Z3 m9.length cz3)] 25 (0, 0)), Own.blk b7 (.cells #[(.slice Z4 m3.length cz4), (.slice Z5 m10.length cz5)] 36 (0, 0)), Own.blk b3 (.cells #[.int .i64 0, .int .i64 0] 31 (0, 0)), Own.blk b2 (.cells #[.slice none 0 0, .slice none 0 0] 36 (0, 0)), Own.blk b1 (.cells #[.slice A0 l0.length c0] 28 (0, 0)), Own.of (.slice Z3 m9.length cz3) 3 m9, Own.of (.slice Z4 m3.length cz4) 3 m3, Own.of (.slice Z5 m10.length cz5) 3 m10] := hS90
            refine hK11 [(1, .func (.func 54) #[] #[.pointer (some ⟨bg1_0, 0, none⟩), .pointer (some ⟨bg1_1, 0, none⟩)]), (2, .int .i64 x2), (3, .pointer (some ⟨b1, 0, none⟩)), (6, .pointer (some ⟨b2, 0, none⟩)), (7, .pointer (some ⟨b3, 0, none⟩)), (9, .pointer (some ⟨b7, 0, none⟩)), (10, .pointer (some ⟨b8, 0, none⟩))] w24 ?_ a hF
            refine we_seq fun K17 hK17 => ?_
            refine we_seq fun K18 hK18 => ?_
            refine we_region [(0, 0), (1, 0)] rfl ?_
            refine ge_batch [0, 1] (ans := []) (vs := [(57, .int .i64 0), (56, .int .i64 x2)]) (l := []) (by kernel_rfl) trivial ?_
            refine ge_nil fun a hF => hK18 _ _ ?_ a hF
            refine we_block ?_
            have hS91 := hS90.bring 7 rfl
            have hS92 := hS91.bring 7 rfl
            have hS93 := hS92.bring 7 rfl
            have hS94 := hS93.bring 7 rfl
            have hS95 := hS94.bring 7 rfl
            have hS96 := hS95.bring 7 rfl
            have hS97 := hS96.bring 7 rfl
            have hS98 := hS97.bring 7 rfl
            rcases hq7 : iter (modes_hosted.r3 K l0 xg1_0 lg1_1 x2) K (0, m9, m3, m10) with _ | (⟨m16, m17⟩ | rr1)
            · rw [hq7] at h; cases h
            · rw [hq7] at h
              simp only [] at h
              refine we_iter (A := modes_hosted.A3 K w0 l0 A0 c0 bg1_0 xg1_0 bg1_1 lg1_1 Ag1_1 cg1_1 x2 hR0 hL0 hBg1_0 hRg1_1 hLg1_1 hBg1_1 b1 b2 b3 r1 b4 hc1 b7 m3 m4 hc7 b8 Z3 cz3 Z4 cz4 Z5 cz5 m9 m10) (B := modes_hosted.B3 K w0 l0 A0 c0 bg1_0 xg1_0 bg1_1 lg1_1 Ag1_1 cg1_1 x2 hR0 hL0 hBg1_0 hRg1_1 hLg1_1 hBg1_1 b1 b2 b3 r1 b4 hc1 b7 m3 m4 hc7 b8 Z3 cz3 Z4 cz4 Z5 cz5 m9 m10) hq7 (fun a hF => ⟨hS98, hF.weaken ⟨by kernel_rfl, by kernel_rfl, by kernel_rfl, by kernel_rfl, by kernel_rfl, by kernel_rfl, by kernel_rfl, by kernel_rfl, trivial⟩⟩) (fun s o hf a w hA Q hQ => modes_hosted_r3 K w0 l0 A0 c0 bg1_0 xg1_0 bg1_1 lg1_1 Ag1_1 cg1_1 x2 hR0 hL0 hBg1_0 hRg1_1 hLg1_1 hBg1_1 b1 b2 b3 r1 b4 hc1 b7 m3 m4 hc7 b8 Z3 cz3 Z4 cz4 Z5 cz5 m9 m10 s o hf a w hA Q hQ) ?_
              rintro _ a w33 _ ⟨rfl, hS162, hF⟩
              replace hS162 : St w0 w33 [Own.blk b7 (.cells #[(.slice Z4 m16.length cz4), (.slice Z5 m17.length cz5)] 36 (0, 0)), Own.blk b3 (.cells #[.int .i64 0, .int .i64 0] 31 (0, 0)), Own.blk b2 (.cells #[.slice none 0 0, .slice none 0 0] 36 (0, 0)), Own.of (.slice Z4 m16.length cz4) 3 m16, Own.of (.slice Z5 m17.length cz5) 3 m17] := hS162
              refine hK17 [(6, .pointer (some ⟨b2, 0, none⟩)), (7, .pointer (some ⟨b3, 0, none⟩)), (9, .pointer (some ⟨b7, 0, none⟩))] w33 ?_ a hF
              refine we_seq fun K32 hK32 => ?_
              refine we_region [(0, 0), (1, 0), (2, 2), (3, 2)] rfl ?_
              refine ge_batch [0, 1] (ans := [.val ((.slice Z4 m16.length cz4)), .val ((.slice Z5 m17.length cz5))]) (vs := [(97, .agg #[.int .i64 0, .int .i64 0]), (96, .agg #[(.slice Z4 m16.length cz4), (.slice Z5 m17.length cz5)])]) (l := [.loaded ⟨b7, 0, none⟩ ((.slice Z4 m16.length cz4)), .loaded ⟨b7, 1, none⟩ ((.slice Z5 m17.length cz5))]) (by kernel_rfl) ⟨hS162.cell 0 rfl rfl, hS162.cell 0 rfl rfl, trivial⟩ ?_
              have hS163 := hS162.bring 2 rfl
              refine ge_set (b := b2) (j := 0) (cs := #[.slice none 0 0, .slice none 0 0]) (t := 36) (vs := [(.slice Z4 m16.length cz4), (.slice Z5 m17.length cz5)]) hS163 (by kernel_rfl) rfl rfl fun w34 hS164 => ?_
              have hS165 : St w0 w34 [Own.blk b2 (.cells #[(.slice Z4 m16.length cz4), (.slice Z5 m17.length cz5)] 36 (0, 0)), Own.blk b7 (.cells #[(.slice Z4 m16.length cz4), (.slice Z5 m17.length cz5)] 36 (0, 0)), Own.blk b3 (.cells #[.int .i64 0, .int .i64 0] 31 (0, 0)), Own.of (.slice Z4 m16.length cz4) 3 m16, Own.of (.slice Z5 m17.length cz5) 3 m17] := hS164
              have hS166 := hS165.bring 2 rfl
              refine ge_set (b := b3) (j := 0) (cs := #[.int .i64 0, .int .i64 0]) (t := 31) (vs := [.int .i64 0, .int .i64 0]) hS166 (by kernel_rfl) rfl rfl fun w35 hS167 => ?_
              have hS168 : St w0 w35 [Own.blk b3 (.cells #[.int .i64 0, .int .i64 0] 31 (0, 0)), Own.blk b2 (.cells #[(.slice Z4 m16.length cz4), (.slice Z5 m17.length cz5)] 36 (0, 0)), Own.blk b7 (.cells #[(.slice Z4 m16.length cz4), (.slice Z5 m17.length cz5)] 36 (0, 0)), Own.of (.slice Z4 m16.length cz4) 3 m16, Own.of (.slice Z5 m17.length cz5) 3 m17] := hS167
              refine ge_nil fun a hF => hK32 _ _ ?_ a hF
              have hS169 := hS168.bring 4 rfl
              have hS170 := hS169.bring 4 rfl
              have hS171 := hS170.takeN 2
              obtain rfl := Option.some.inj h
              exact we_ret (post_ret (rs := [.cell 6 36, .cell 7 31]) (ans := [.val ((.slice Z4 m16.length cz4)), .val ((.slice Z5 m17.length cz5)), .val (.int .i64 0), .val (.int .i64 0)]) (vs := [.agg #[(.slice Z4 m16.length cz4), (.slice Z5 m17.length cz5)], .agg #[.int .i64 0, .int .i64 0]]) (l := [.loaded ⟨b2, 0, none⟩ ((.slice Z4 m16.length cz4)), .loaded ⟨b2, 1, none⟩ ((.slice Z5 m17.length cz5)), .loaded ⟨b3, 0, none⟩ (.int .i64 0), .loaded ⟨b3, 1, none⟩ (.int .i64 0)]) rfl (by kernel_rfl) ⟨hS168.cell 1 rfl rfl, hS168.cell 1 rfl rfl, hS168.cell 0 rfl rfl, hS168.cell 0 rfl rfl, trivial⟩ ⟨(.slice Z4 m16.length cz4), (.slice Z5 m17.length cz5), rfl, hS171⟩)
            · rw [hq7] at h
              simp only [] at h
              refine we_iter (A := modes_hosted.A3 K w0 l0 A0 c0 bg1_0 xg1_0 bg1_1 lg1_1 Ag1_1 cg1_1 x2 hR0 hL0 hBg1_0 hRg1_1 hLg1_1 hBg1_1 b1 b2 b3 r1 b4 hc1 b7 m3 m4 hc7 b8 Z3 cz3 Z4 cz4 Z5 cz5 m9 m10) (B := modes_hosted.B3 K w0 l0 A0 c0 bg1_0 xg1_0 bg1_1 lg1_1 Ag1_1 cg1_1 x2 hR0 hL0 hBg1_0 hRg1_1 hLg1_1 hBg1_1 b1 b2 b3 r1 b4 hc1 b7 m3 m4 hc7 b8 Z3 cz3 Z4 cz4 Z5 cz5 m9 m10) hq7 (fun a hF => ⟨hS98, hF.weaken ⟨by kernel_rfl, by kernel_rfl, by kernel_rfl, by kernel_rfl, by kernel_rfl, by kernel_rfl, by kernel_rfl, by kernel_rfl, trivial⟩⟩) (fun s o hf a w hA Q hQ => modes_hosted_r3 K w0 l0 A0 c0 bg1_0 xg1_0 bg1_1 lg1_1 Ag1_1 cg1_1 x2 hR0 hL0 hBg1_0 hRg1_1 hLg1_1 hBg1_1 b1 b2 b3 r1 b4 hc1 b7 m3 m4 hc7 b8 Z3 cz3 Z4 cz4 Z5 cz5 m9 m10 s o hf a w hA Q hQ) ?_
              rintro _ a w1 _ ⟨rfl, hb⟩
              obtain rfl := Option.some.inj h
              exact hb
          · rw [hq4] at h
            simp only [] at h
            refine we_iter (A := modes_hosted.A2 K w0 l0 A0 c0 bg1_0 xg1_0 bg1_1 lg1_1 Ag1_1 cg1_1 x2 hR0 hL0 hBg1_0 hRg1_1 hLg1_1 hBg1_1 b1 b2 b3 r1 b4 hc1 b7 m3 m4 hc7 b8 Z3 cz3 Z4 cz4 Z5 cz5) (B := modes_hosted.B2 K w0 l0 A0 c0 bg1_0 xg1_0 bg1_1 lg1_1 Ag1_1 cg1_1 x2 hR0 hL0 hBg1_0 hRg1_1 hLg1_1 hBg1_1 b1 b2 b3 r1 b4 hc1 b7 m3 m4 hc7 b8 Z3 cz3 Z4 cz4 Z5 cz5) hq4 (fun a hF => ⟨hS61, hF.weaken ⟨by kernel_rfl, by kernel_rfl, by kernel_rfl, by kernel_rfl, by kernel_rfl, by kernel_rfl, by kernel_rfl, by kernel_rfl, by kernel_rfl, by kernel_rfl, trivial⟩⟩) (fun s o hf a w hA Q hQ => modes_hosted_r2 K w0 l0 A0 c0 bg1_0 xg1_0 bg1_1 lg1_1 Ag1_1 cg1_1 x2 hR0 hL0 hBg1_0 hRg1_1 hLg1_1 hBg1_1 b1 b2 b3 r1 b4 hc1 b7 m3 m4 hc7 b8 Z3 cz3 Z4 cz4 Z5 cz5 s o hf a w hA Q hQ) ?_
            rintro _ a w1 _ ⟨rfl, hb⟩
            obtain rfl := Option.some.inj h
            exact hb
        · rw [if_neg hc7] at h
          cases h
      · rw [hq3] at h
        simp only [] at h
        refine we_keep (e' := [(1, .func (.func 54) #[] #[.pointer (some ⟨bg1_0, 0, none⟩), .pointer (some ⟨bg1_1, 0, none⟩)]), (2, .int .i64 x2), (3, .pointer (some ⟨b1, 0, none⟩)), (6, .pointer (some ⟨b2, 0, none⟩)), (7, .pointer (some ⟨b3, 0, none⟩))]) ⟨by kernel_rfl, by kernel_rfl, by kernel_rfl, by kernel_rfl, by kernel_rfl, trivial⟩ (modes_hosted_p1 K w0 l0 A0 c0 bg1_0 xg1_0 bg1_1 lg1_1 Ag1_1 cg1_1 x2 hR0 hL0 hBg1_0 hRg1_1 hLg1_1 hBg1_1 b1 b2 b3 r1 b4 hc1 _ hq3 _ hS35 _ ?_)
        rintro _ a w1 ⟨_, rfl, hb⟩
        obtain rfl := Option.some.inj h
        exact hb
    · rw [hq2] at h
      simp only [] at h
      refine we_keep (e' := [(0, .slice A0 l0.length c0), (1, .func (.func 54) #[] #[.pointer (some ⟨bg1_0, 0, none⟩), .pointer (some ⟨bg1_1, 0, none⟩)]), (2, .int .i64 x2), (3, .pointer (some ⟨b1, 0, none⟩)), (6, .pointer (some ⟨b2, 0, none⟩)), (7, .pointer (some ⟨b3, 0, none⟩)), (8, .pointer (some ⟨b4, 0, none⟩)), (15, .slice A0 l0.length c0), (16, .agg #[.int .i64 r1.Code, .int .i64 r1.At]), (17, .pointer (some ⟨b4, 0, none⟩)), (18, .int .i64 r1.Code), (19, .bool false)]) ⟨by kernel_rfl, by kernel_rfl, by kernel_rfl, by kernel_rfl, by kernel_rfl, by kernel_rfl, by kernel_rfl, by kernel_rfl, by kernel_rfl, by kernel_rfl, by kernel_rfl, by kernel_rfl, trivial⟩ (modes_hosted_p0 K w0 l0 A0 c0 bg1_0 xg1_0 bg1_1 lg1_1 Ag1_1 cg1_1 x2 hR0 hL0 hBg1_0 hRg1_1 hLg1_1 hBg1_1 b1 b2 b3 r1 b4 hc1 _ hq2 _ hS8 _ ?_)
      rintro _ a w1 ⟨_, rfl, hb⟩
      obtain rfl := Option.some.inj h
      exact hb
  · rw [if_neg hc1] at h
    refine we_known (t := 19) (b := (r1.Code != 0)) (v := true) (by kernel_rfl) (bne_iff_ne.2 hc1) ?_
    refine we_true (by kernel_rfl) ?_
    refine we_seq fun K33 hK33 => ?_
    rcases hq8 : modes_hosted.p4 r1 with _ | (⟨z4, z5, m20, m21⟩ | rr5)
    · rw [hq8] at h; cases h
    · rw [hq8] at h
      simp only [] at h
      refine we_keep (e' := [(0, .slice A0 l0.length c0), (1, .func (.func 54) #[] #[.pointer (some ⟨bg1_0, 0, none⟩), .pointer (some ⟨bg1_1, 0, none⟩)]), (2, .int .i64 x2), (3, .pointer (some ⟨b1, 0, none⟩)), (6, .pointer (some ⟨b2, 0, none⟩)), (7, .pointer (some ⟨b3, 0, none⟩)), (8, .pointer (some ⟨b4, 0, none⟩)), (15, .slice A0 l0.length c0), (16, .agg #[.int .i64 r1.Code, .int .i64 r1.At]), (17, .pointer (some ⟨b4, 0, none⟩)), (18, .int .i64 r1.Code), (19, .bool true)]) ⟨by kernel_rfl, by kernel_rfl, by kernel_rfl, by kernel_rfl, by kernel_rfl, by kernel_rfl, by kernel_rfl, by kernel_rfl, by kernel_rfl, by kernel_rfl, by kernel_rfl, by kernel_rfl, trivial⟩ (modes_hosted_p4 K w0 l0 A0 c0 bg1_0 xg1_0 bg1_1 lg1_1 Ag1_1 cg1_1 x2 hR0 hL0 hBg1_0 hRg1_1 hLg1_1 hBg1_1 b1 b2 b3 r1 b4 hc1 _ hq8 _ hS8 _ ?_)
      rintro _ a w38 ⟨rfl, v10, v11, hS186, hF⟩
      replace hS186 : St w0 w38 [Own.blk b3 (.cells #[.int .i64 z4, .int .i64 z5] 31 (0, 0)), Own.blk b2 (.cells #[v10, v11] 36 (0, 0)), Own.of v10 3 m20, Own.of v11 3 m21] := hS186
      refine hK33 [(6, .pointer (some ⟨b2, 0, none⟩)), (7, .pointer (some ⟨b3, 0, none⟩))] w38 ?_ a hF
      have hS187 := hS186.bring 3 rfl
      have hS188 := hS187.bring 3 rfl
      have hS189 := hS188.takeN 2
      obtain rfl := Option.some.inj h
      exact we_ret (post_ret (rs := [.cell 6 36, .cell 7 31]) (ans := [.val (v10), .val (v11), .val (.int .i64 z4), .val (.int .i64 z5)]) (vs := [.agg #[v10, v11], .agg #[.int .i64 z4, .int .i64 z5]]) (l := [.loaded ⟨b2, 0, none⟩ (v10), .loaded ⟨b2, 1, none⟩ (v11), .loaded ⟨b3, 0, none⟩ (.int .i64 z4), .loaded ⟨b3, 1, none⟩ (.int .i64 z5)]) rfl (by kernel_rfl) ⟨hS186.cell 1 rfl rfl, hS186.cell 1 rfl rfl, hS186.cell 0 rfl rfl, hS186.cell 0 rfl rfl, trivial⟩ ⟨v10, v11, rfl, hS189⟩)
    · rw [hq8] at h
      simp only [] at h
      refine we_keep (e' := [(0, .slice A0 l0.length c0), (1, .func (.func 54) #[] #[.pointer (some ⟨bg1_0, 0, none⟩), .pointer (some ⟨bg1_1, 0, none⟩)]), (2, .int .i64 x2), (3, .pointer (some ⟨b1, 0, none⟩)), (6, .pointer (some ⟨b2, 0, none⟩)), (7, .pointer (some ⟨b3, 0, none⟩)), (8, .pointer (some ⟨b4, 0, none⟩)), (15, .slice A0 l0.length c0), (16, .agg #[.int .i64 r1.Code, .int .i64 r1.At]), (17, .pointer (some ⟨b4, 0, none⟩)), (18, .int .i64 r1.Code), (19, .bool true)]) ⟨by kernel_rfl, by kernel_rfl, by kernel_rfl, by kernel_rfl, by kernel_rfl, by kernel_rfl, by kernel_rfl, by kernel_rfl, by kernel_rfl, by kernel_rfl, by kernel_rfl, by kernel_rfl, trivial⟩ (modes_hosted_p4 K w0 l0 A0 c0 bg1_0 xg1_0 bg1_1 lg1_1 Ag1_1 cg1_1 x2 hR0 hL0 hBg1_0 hRg1_1 hLg1_1 hBg1_1 b1 b2 b3 r1 b4 hc1 _ hq8 _ hS8 _ ?_)
      rintro _ a w1 ⟨_, rfl, hb⟩
      obtain rfl := Option.some.inj h
      exact hb

/-! punctual/modes.Hosted -/
abbrev modes_Hosted.Post (w0 : World) (r : SPlayed × SFault) (e : Ending) (w : World) : Prop := ∃ (v0 : Value) (v1 : Value), e = .returned (.tuple #[.agg #[v0, v1], .agg #[.int .i64 r.2.Code, .int .i64 r.2.At]]) ∧ St w0 w [Own.of v0 3 r.1.Runs, Own.of v1 3 r.1.Ends]
def modes_Hosted.f (K : Nat) (l0 : List SJob) (x1 : Int) (l2 : List SWindow) (x3 : Int) : Option (SPlayed × SFault) :=
  match modes_Frame.f K x1 l2 with
  | none => none
  | some r1 =>
    if r1.Code = 0 then
      match modes_hosted.f K l0 x1 l2 x3 with
      | none => none
      | some r2 =>
        some (r2.1, r2.2)
    else
      some ((⟨([] : List Int), ([] : List Int)⟩ : SPlayed), r1)
theorem modes_Hosted_ok (K : Nat) (l0 : List SJob) (A0 : Option Addr) (c0 : Nat) (x1 : Int) (l2 : List SWindow) (A2 : Option Addr) (c2 : Nat) (x3 : Int) (w0 : World) (hR0 : RdL w0 A0 l0) (hL0 : l0.length ≤ c0) (hR2 : RdL w0 A2 l2) (hL2 : l2.length ≤ c2) (r : SPlayed × SFault) (h : modes_Hosted.f K l0 x1 l2 x3 = some r) :
    Calls Try.prog 14 #[.slice A0 l0.length c0, .int .i64 x1, .slice A2 l2.length c2, .int .i64 x3] w0 (modes_Hosted.Post w0 r) := by
  have hS := St.start w0
  unfold modes_Hosted.f at h
  refine calls_enter (n := 25) (args := [.slice A0 l0.length c0, .int .i64 x1, .slice A2 l2.length c2, .int .i64 x3]) (fn := Try.f14) rfl rfl rfl rfl ?_
  show WE _ _ _ _ [(0, .slice A0 l0.length c0), (1, .int .i64 x1), (2, .slice A2 l2.length c2), (3, .int .i64 x3)] _
  refine we_seq fun K1 hK1 => ?_
  refine we_region [(0, 1), (1, 1), (2, 1), (3, 1)] rfl ?_
  refine ge_new (d := some 5) (o := .cells #[.int .i64 x1] 3) (v := fun b => .pointer (some ⟨b, 0, none⟩)) hS (fun b => by kernel_rfl) fun b1 w1 hx1 hS1 => ?_
  refine ge_new (d := some 6) (o := .cells #[.slice A2 l2.length c2] 23) (v := fun b => .pointer (some ⟨b, 0, none⟩)) hS1 (fun b => by kernel_rfl) fun b2 w2 hx2 hS2 => ?_
  refine ge_new (d := some 8) (o := .cells #[.slice none 0 0, .slice none 0 0] 36) (v := fun b => .pointer (some ⟨b, 0, none⟩)) hS2 (fun b => by kernel_rfl) fun b3 w3 hx3 hS3 => ?_
  refine ge_new (d := some 9) (o := .cells #[.int .i64 0, .int .i64 0] 31) (v := fun b => .pointer (some ⟨b, 0, none⟩)) hS3 (fun b => by kernel_rfl) fun b4 w4 hx4 hS4 => ?_
  refine ge_nil fun a hF => hK1 _ _ ?_ a hF
  refine we_seq fun K2 hK2 => ?_
  refine we_seq fun K3 hK3 => ?_
  refine we_region [(0, 0), (1, 0), (2, 1), (3, 1), (4, 2)] rfl ?_
  rcases hq1 : modes_Frame.f K x1 l2 with _ | r1
  · rw [hq1] at h; cases h
  rw [hq1] at h
  simp only [] at h
  refine ge_batch [0, 1] (ans := [.val (.int .i64 x1), .val (.slice A2 l2.length c2)]) (vs := [(12, .slice A2 l2.length c2), (11, .int .i64 x1)]) (l := [.loaded ⟨b1, 0, none⟩ (.int .i64 x1), .loaded ⟨b2, 0, none⟩ (.slice A2 l2.length c2)]) (by kernel_rfl) ⟨hS4.cell 3 rfl rfl, hS4.cell 2 rfl rfl, trivial⟩ ?_
  refine ge_call (d := some 13) (f := 52) (args := #[.int .i64 x1, .slice A2 l2.length c2]) (by kernel_rfl) (modes_Frame_ok K x1 l2 A2 c2 _ (hS4.rd hR2) hL2 _ hq1) ?_
  rintro _ w5 ⟨rfl, hS5⟩
  refine ⟨_, rfl, hS5.below, ?_⟩
  have hS6 := hS4.call hS5
  refine ge_new (d := some 10) (o := .cells #[.int .i64 0, .int .i64 0] 31) (v := fun b => .pointer (some ⟨b, 0, none⟩)) hS6 (fun b => by kernel_rfl) fun b5 w6 hx5 hS7 => ?_
  refine ge_set (b := b5) (j := 0) (cs := #[.int .i64 0, .int .i64 0]) (t := 31) (vs := [.int .i64 r1.Code, .int .i64 r1.At]) hS7 (by kernel_rfl) rfl rfl fun w7 hS8 => ?_
  have hS9 : St w0 w7 [Own.blk b5 (.cells #[.int .i64 r1.Code, .int .i64 r1.At] 31 (0, 0)), Own.blk b4 (.cells #[.int .i64 0, .int .i64 0] 31 (0, 0)), Own.blk b3 (.cells #[.slice none 0 0, .slice none 0 0] 36 (0, 0)), Own.blk b2 (.cells #[.slice A2 l2.length c2] 23 (0, 0)), Own.blk b1 (.cells #[.int .i64 x1] 3 (0, 0))] := hS8
  refine ge_nil fun a hF => hK3 _ _ ?_ a hF
  refine we_seq fun K4 hK4 => ?_
  refine we_region [(0, 0), (1, 0), (2, 0)] rfl ?_
  refine ge_batch [0, 1, 2] (ans := [.val (.int .i64 r1.Code)]) (vs := [(16, .bool (r1.Code != 0)), (15, .int .i64 r1.Code), (14, .pointer (some ⟨b5, 0, none⟩))]) (l := [.loaded ⟨b5, 0, none⟩ (.int .i64 r1.Code)]) (by kernel_rfl) ⟨hS9.cell 0 rfl rfl, trivial⟩ ?_
  refine ge_nil fun a hF => hK4 _ _ ?_ a hF
  by_cases hc1 : r1.Code = 0
  · rw [if_pos hc1] at h
    refine we_known (t := 16) (b := (r1.Code != 0)) (v := false) (by kernel_rfl) (bne_eq_false_iff_eq.2 hc1) ?_
    refine we_false (by kernel_rfl) ?_
    refine we_skip fun a hF => hK2 _ _ ?_ a hF
    refine we_seq fun K5 hK5 => ?_
    refine we_region [(0, 0), (1, 0), (2, 0), (3, 1), (4, 0), (5, 0), (6, 2), (7, 2)] rfl ?_
    rcases hq2 : modes_hosted.f K l0 x1 l2 x3 with _ | r2
    · rw [hq2] at h; cases h
    rw [hq2] at h
    simp only [] at h
    refine ge_batch [0, 1, 2] (ans := []) (vs := [(21, .int .i64 x3), (20, .func (.func 54) #[] #[.pointer (some ⟨b1, 0, none⟩), .pointer (some ⟨b2, 0, none⟩)]), (19, .slice A0 l0.length c0)]) (l := []) (by kernel_rfl) trivial ?_
    refine ge_call (d := some 22) (f := 53) (args := #[.slice A0 l0.length c0, .func (.func 54) #[] #[.pointer (some ⟨b1, 0, none⟩), .pointer (some ⟨b2, 0, none⟩)], .int .i64 x3]) (by kernel_rfl) (modes_hosted_ok K l0 A0 c0 b1 x1 b2 l2 A2 c2 x3 _ (hS9.rd hR0) hL0 (hS9.globOf 4 rfl) (hS9.rd hR2) hL2 (hS9.globOf 3 rfl) _ hq2) ?_
    rintro _ w8 ⟨v1, v2, rfl, hS10⟩
    refine ⟨_, rfl, hS10.below, ?_⟩
    have hS11 := hS9.call hS10
    refine ge_batch [4, 5] (ans := []) (vs := [(24, .agg #[.int .i64 r2.2.Code, .int .i64 r2.2.At]), (23, .agg #[v1, v2])]) (l := []) (by kernel_rfl) trivial ?_
    obtain ⟨Z1, cz1, rfl⟩ := hS11.open 0 rfl
    obtain ⟨Z2, cz2, rfl⟩ := hS11.open 1 rfl
    have hS12 := hS11.bring 4 rfl
    refine ge_set (b := b3) (j := 0) (cs := #[.slice none 0 0, .slice none 0 0]) (t := 36) (vs := [(.slice Z1 r2.1.Runs.length cz1), (.slice Z2 r2.1.Ends.length cz2)]) hS12 (by kernel_rfl) rfl rfl fun w9 hS13 => ?_
    have hS14 : St w0 w9 [Own.blk b3 (.cells #[(.slice Z1 r2.1.Runs.length cz1), (.slice Z2 r2.1.Ends.length cz2)] 36 (0, 0)), Own.of (.slice Z1 r2.1.Runs.length cz1) 3 r2.1.Runs, Own.of (.slice Z2 r2.1.Ends.length cz2) 3 r2.1.Ends, Own.blk b5 (.cells #[.int .i64 r1.Code, .int .i64 r1.At] 31 (0, 0)), Own.blk b4 (.cells #[.int .i64 0, .int .i64 0] 31 (0, 0)), Own.blk b2 (.cells #[.slice A2 l2.length c2] 23 (0, 0)), Own.blk b1 (.cells #[.int .i64 x1] 3 (0, 0))] := hS13
    have hS15 := hS14.bring 4 rfl
    refine ge_set (b := b4) (j := 0) (cs := #[.int .i64 0, .int .i64 0]) (t := 31) (vs := [.int .i64 r2.2.Code, .int .i64 r2.2.At]) hS15 (by kernel_rfl) rfl rfl fun w10 hS16 => ?_
    have hS17 : St w0 w10 [Own.blk b4 (.cells #[.int .i64 r2.2.Code, .int .i64 r2.2.At] 31 (0, 0)), Own.blk b3 (.cells #[(.slice Z1 r2.1.Runs.length cz1), (.slice Z2 r2.1.Ends.length cz2)] 36 (0, 0)), Own.of (.slice Z1 r2.1.Runs.length cz1) 3 r2.1.Runs, Own.of (.slice Z2 r2.1.Ends.length cz2) 3 r2.1.Ends, Own.blk b5 (.cells #[.int .i64 r1.Code, .int .i64 r1.At] 31 (0, 0)), Own.blk b2 (.cells #[.slice A2 l2.length c2] 23 (0, 0)), Own.blk b1 (.cells #[.int .i64 x1] 3 (0, 0))] := hS16
    refine ge_nil fun a hF => hK5 _ _ ?_ a hF
    have hS18 := hS17.bring 3 rfl
    have hS19 := hS18.bring 3 rfl
    have hS20 := hS19.takeN 2
    obtain rfl := Option.some.inj h
    exact we_ret (post_ret (rs := [.cell 8 36, .cell 9 31]) (ans := [.val ((.slice Z1 r2.1.Runs.length cz1)), .val ((.slice Z2 r2.1.Ends.length cz2)), .val (.int .i64 r2.2.Code), .val (.int .i64 r2.2.At)]) (vs := [.agg #[(.slice Z1 r2.1.Runs.length cz1), (.slice Z2 r2.1.Ends.length cz2)], .agg #[.int .i64 r2.2.Code, .int .i64 r2.2.At]]) (l := [.loaded ⟨b3, 0, none⟩ ((.slice Z1 r2.1.Runs.length cz1)), .loaded ⟨b3, 1, none⟩ ((.slice Z2 r2.1.Ends.length cz2)), .loaded ⟨b4, 0, none⟩ (.int .i64 r2.2.Code), .loaded ⟨b4, 1, none⟩ (.int .i64 r2.2.At)]) rfl (by kernel_rfl) ⟨hS17.cell 1 rfl rfl, hS17.cell 1 rfl rfl, hS17.cell 0 rfl rfl, hS17.cell 0 rfl rfl, trivial⟩ ⟨(.slice Z1 r2.1.Runs.length cz1), (.slice Z2 r2.1.Ends.length cz2), rfl, hS20⟩)
  · rw [if_neg hc1] at h
    refine we_known (t := 16) (b := (r1.Code != 0)) (v := true) (by kernel_rfl) (bne_iff_ne.2 hc1) ?_
    refine we_true (by kernel_rfl) ?_
    refine we_seq fun K6 hK6 => ?_
    refine we_orders2 (by kernel_rfl) [(1, [⟨b5, 0, none⟩, ⟨b5, 1, none⟩])] (.vals [0] (.vals [1] (.alt 2 2 (.alt 3 2 .fin .nomore) .nomore))) (by kernel_rfl) ?_
    have hS21 := hS9.drew
    refine go2_batch [0] (ans := []) (vs := [(17, .agg #[.slice none 0 0, .slice none 0 0])]) (l := []) (by kernel_rfl) trivial mem_nil ?_
    refine go2_batch [1] (ans := [.val (.int .i64 r1.Code), .val (.int .i64 r1.At)]) (vs := [(18, .agg #[.int .i64 r1.Code, .int .i64 r1.At])]) (l := [.loaded ⟨b5, 0, none⟩ (.int .i64 r1.Code), .loaded ⟨b5, 1, none⟩ (.int .i64 r1.At)]) (by kernel_rfl) ⟨hS21.cell 0 rfl rfl, hS21.cell 0 rfl rfl, trivial⟩ (mem_one (by kernel_rfl)) ?_
    refine go_alt2 (fun KK hKK => ?_) ?_
    · have hS22 := hS21.bring 2 rfl
      refine ge_set (b := b3) (j := 0) (cs := #[.slice none 0 0, .slice none 0 0]) (t := 36) (vs := [.slice none 0 0, .slice none 0 0]) hS22 (by kernel_rfl) rfl rfl fun w11 hS23 => ?_
      have hS24 : St w0 w11 [Own.blk b3 (.cells #[.slice none 0 0, .slice none 0 0] 36 (0, 0)), Own.blk b5 (.cells #[.int .i64 r1.Code, .int .i64 r1.At] 31 (0, 0)), Own.blk b4 (.cells #[.int .i64 0, .int .i64 0] 31 (0, 0)), Own.blk b2 (.cells #[.slice A2 l2.length c2] 23 (0, 0)), Own.blk b1 (.cells #[.int .i64 x1] 3 (0, 0))] := hS23
      refine ge_nil fun a hF => hKK _ _ (RS.of2 (l := [.loaded ⟨b5, 0, none⟩ (.int .i64 r1.Code), .loaded ⟨b5, 1, none⟩ (.int .i64 r1.At)]) (by kernel_rfl) ⟨hS21.cell 0 rfl rfl, hS21.cell 0 rfl rfl, trivial⟩ ⟨hS24.cell 1 rfl rfl, hS24.cell 1 rfl rfl, trivial⟩) ?_ a hF
      refine go_alt2 (fun KK hKK => ?_) ?_
      · have hS25 := hS24.bring 2 rfl
        refine ge_set (b := b4) (j := 0) (cs := #[.int .i64 0, .int .i64 0]) (t := 31) (vs := [.int .i64 r1.Code, .int .i64 r1.At]) hS25 (by kernel_rfl) rfl rfl fun w12 hS26 => ?_
        have hS27 : St w0 w12 [Own.blk b4 (.cells #[.int .i64 r1.Code, .int .i64 r1.At] 31 (0, 0)), Own.blk b3 (.cells #[.slice none 0 0, .slice none 0 0] 36 (0, 0)), Own.blk b5 (.cells #[.int .i64 r1.Code, .int .i64 r1.At] 31 (0, 0)), Own.blk b2 (.cells #[.slice A2 l2.length c2] 23 (0, 0)), Own.blk b1 (.cells #[.int .i64 x1] 3 (0, 0))] := hS26
        refine ge_nil fun a hF => hKK _ _ (RS.of2 (l := []) (by kernel_rfl) trivial trivial) ?_ a hF
        refine go_fin2 fun a hF => hK6 _ _ ?_ a hF
        have hS28 := hS27.nil (α := Int) 3
        have hS29 := hS28.nil (α := Int) 3
        have hS30 := hS29.bring 1 rfl
        have hS31 := hS30.bring 1 rfl
        have hS32 := hS31.takeN 2
        obtain rfl := Option.some.inj h
        exact we_ret (post_ret (rs := [.cell 8 36, .cell 9 31]) (ans := [.val ((.slice none 0 0)), .val ((.slice none 0 0)), .val (.int .i64 r1.Code), .val (.int .i64 r1.At)]) (vs := [.agg #[(.slice none 0 0), (.slice none 0 0)], .agg #[.int .i64 r1.Code, .int .i64 r1.At]]) (l := [.loaded ⟨b3, 0, none⟩ ((.slice none 0 0)), .loaded ⟨b3, 1, none⟩ ((.slice none 0 0)), .loaded ⟨b4, 0, none⟩ (.int .i64 r1.Code), .loaded ⟨b4, 1, none⟩ (.int .i64 r1.At)]) rfl (by kernel_rfl) ⟨hS29.cell 3 rfl rfl, hS29.cell 3 rfl rfl, hS29.cell 2 rfl rfl, hS29.cell 2 rfl rfl, trivial⟩ ⟨(.slice none 0 0), (.slice none 0 0), rfl, hS32⟩)
      exact go_nomore2
    exact go_nomore2

/-! punctual/punctualref.F -/
abbrev punctualref_F.Post (w0 : World) (r : SFault) (e : Ending) (w : World) : Prop := e = .returned (.agg #[.int .i64 r.Code, .int .i64 r.At]) ∧ St w0 w []
def punctualref_F.f (x0 : Int) (x1 : Int) : SFault :=
  (⟨x0, x1⟩ : SFault)
theorem punctualref_F_ok (x0 : Int) (x1 : Int) (w0 : World) (r : SFault) (h : punctualref_F.f x0 x1 = r) :
    Calls Try.prog 55 #[.int .i64 x0, .int .i64 x1] w0 (punctualref_F.Post w0 r) := by
  have hS := St.start w0
  unfold punctualref_F.f at h
  refine calls_enter (n := 8) (args := [.int .i64 x0, .int .i64 x1]) (fn := Try.f55) rfl rfl rfl rfl ?_
  show WE _ _ _ _ [(0, .int .i64 x0), (1, .int .i64 x1)] _
  refine we_seq fun K1 hK1 => ?_
  refine we_region [(0, 1)] rfl ?_
  refine ge_new (d := some 4) (o := .cells #[.int .i64 0, .int .i64 0] 31) (v := fun b => .pointer (some ⟨b, 0, none⟩)) hS (fun b => by kernel_rfl) fun b1 w1 hx1 hS1 => ?_
  refine ge_nil fun a hF => hK1 _ _ ?_ a hF
  refine we_seq fun K2 hK2 => ?_
  refine we_region [(0, 0), (1, 0), (2, 0), (3, 2)] rfl ?_
  refine ge_batch [0, 1, 2] (ans := []) (vs := [(7, .agg #[.int .i64 x0, .int .i64 x1]), (6, .int .i64 x1), (5, .int .i64 x0)]) (l := []) (by kernel_rfl) trivial ?_
  refine ge_set (b := b1) (j := 0) (cs := #[.int .i64 0, .int .i64 0]) (t := 31) (vs := [.int .i64 x0, .int .i64 x1]) hS1 (by kernel_rfl) rfl rfl fun w2 hS2 => ?_
  have hS3 : St w0 w2 [Own.blk b1 (.cells #[.int .i64 x0, .int .i64 x1] 31 (0, 0))] := hS2
  refine ge_nil fun a hF => hK2 _ _ ?_ a hF
  have hS4 := hS3.takeN 0
  subst h
  exact we_ret (post_ret (rs := [.cell 4 31]) (ans := [.val (.int .i64 x0), .val (.int .i64 x1)]) (vs := [.agg #[.int .i64 x0, .int .i64 x1]]) (l := [.loaded ⟨b1, 0, none⟩ (.int .i64 x0), .loaded ⟨b1, 1, none⟩ (.int .i64 x1)]) rfl (by kernel_rfl) ⟨hS3.cell 0 rfl rfl, hS3.cell 0 rfl rfl, trivial⟩ ⟨rfl, hS4⟩)
end Go.Proofs.Ytlcndfafkegjgaa.GV
