/- Walks of single functions, written by a program of this work. -/
import Derived.Test.YtlipdmblinjjaaaGv24
import Derived.Test.YtlipdmblinjjaaaProg
import Derived.Test.YtlipdmblinjjaaaGD13
import Derived.Test.YtlipdmblinjjaaaGShelf
namespace Go.Proofs.Ytlipdmblinjjaaa.GV
open Go Go.RowKit
set_option linter.unusedVariables false
set_option linter.unusedSimpArgs false
set_option maxRecDepth 100000

structure SFault where
  Code : Int
  At : Int
def SFault.eqb (x y : SFault) : Bool := ((x.Code == y.Code) && ((x.At == y.At) && true))
instance : Ok SFault := ⟨fun x => Ok.ok x.Code ∧ Ok.ok x.At ∧ True⟩
instance : Flat SFault := ⟨2, fun x => [.int .i64 x.Code, .int .i64 x.At], fun _ => rfl, fun _ => rfl, by decide⟩

structure SJob where
  Task : Int
  At : Int
  C : Int
  Due : Int
  P : Int
def SJob.eqb (x y : SJob) : Bool := ((x.Task == y.Task) && ((x.At == y.At) && ((x.C == y.C) && ((x.Due == y.Due) && ((x.P == y.P) && true)))))
instance : Ok SJob := ⟨fun x => Ok.ok x.Task ∧ Ok.ok x.At ∧ Ok.ok x.C ∧ Ok.ok x.Due ∧ Ok.ok x.P ∧ True⟩
instance : Flat SJob := ⟨5, fun x => [.int .i64 x.Task, .int .i64 x.At, .int .i64 x.C, .int .i64 x.Due, .int .i64 x.P], fun _ => rfl, fun _ => rfl, by decide⟩

/-! punctual/sched.Check -/
abbrev sched_Check.Post (w0 : World) (r : SFault) (e : Ending) (w : World) : Prop := e = .returned (.agg #[.int .i64 r.Code, .int .i64 r.At]) ∧ St w0 w []
def sched_Check.r0 (l0 : List SJob) : Nat → Option (Nat ⊕ (Unit ⊕ SFault))
  | i1 =>
    if (i1 : Int) < (l0.length : Int) then
      match l0[i1]? with
      | none => none
      | some e1 =>
        if e1.At < 0 then
          some (.inr (.inr (⟨3, (i1 : Int)⟩ : SFault)))
        else
          if e1.At > 60000 then
            some (.inr (.inr (⟨3, (i1 : Int)⟩ : SFault)))
          else
            if e1.C < 1 then
              some (.inr (.inr (⟨3, (i1 : Int)⟩ : SFault)))
            else
              if e1.C > 10000 then
                some (.inr (.inr (⟨3, (i1 : Int)⟩ : SFault)))
              else
                if e1.Due < 0 then
                  some (.inr (.inr (⟨3, (i1 : Int)⟩ : SFault)))
                else
                  if e1.Due > 80000 then
                    some (.inr (.inr (⟨3, (i1 : Int)⟩ : SFault)))
                  else
                    some (.inl (i1 + 1))
    else
      some (.inr (.inl ()))
def sched_Check.f (K : Nat) (l0 : List SJob) : Option SFault :=
  if (l0.length : Int) > 4000 then
    some (⟨2, 0⟩ : SFault)
  else
    match iter (sched_Check.r0 l0) K 0 with
    | none => none
    | some (.inl _) =>
      some (⟨0, 0⟩ : SFault)
    | some (.inr rr1) =>
      some rr1
abbrev sched_Check.A0 (K : Nat) (w0 : World) (l0 : List SJob) (A0 : Option Addr) (c0 : Nat) (hR0 : RdL w0 A0 l0) (hL0 : l0.length ≤ c0) (b1 : Nat) (hc1 : ¬ ((l0.length : Int) > 4000)) : Nat → Act → World → Prop := fun (s : Nat) a w => St w0 w [Own.blk b1 (.cells #[.int .i64 0, .int .i64 0] 29 (0, 0))] ∧ Frm 48 a [(2, .pointer (some ⟨b1, 0, none⟩)), (9, .slice A0 l0.length c0), (10, .int .i64 (l0.length : Int)), (11, .int .i64 (s : Int))]
abbrev sched_Check.B0 (K : Nat) (w0 : World) (l0 : List SJob) (A0 : Option Addr) (c0 : Nat) (hR0 : RdL w0 A0 l0) (hL0 : l0.length ≤ c0) (b1 : Nat) (hc1 : ¬ ((l0.length : Int) > 4000)) : (Unit ⊕ SFault) → Exit → Act → World → Prop := Exits 0 (fun (s : Unit) a w => St w0 w [Own.blk b1 (.cells #[.int .i64 0, .int .i64 0] 29 (0, 0))] ∧ Frm 48 a [(2, .pointer (some ⟨b1, 0, none⟩))]) (Rets Try.prog Try.f21 (sched_Check.Post w0))
theorem sched_Check_r0 (K : Nat) (w0 : World) (l0 : List SJob) (A0 : Option Addr) (c0 : Nat) (hR0 : RdL w0 A0 l0) (hL0 : l0.length ≤ c0) (b1 : Nat) (hc1 : ¬ ((l0.length : Int) > 4000)) (s : Nat) (o : Nat ⊕ (Unit ⊕ SFault)) (h : sched_Check.r0 l0 s = some o) (a : Act) (w : World) (hA : sched_Check.A0 K w0 l0 A0 c0 hR0 hL0 b1 hc1 s a w) (Q : Exit → Act → World → Prop) (hQ : ∀ x a w, Outs (sched_Check.A0 K w0 l0 A0 c0 hR0 hL0 b1 hc1) (sched_Check.B0 K w0 l0 A0 c0 hR0 hL0 b1 hc1) o x a w → Q x a w) : (subF Try.f21 [1, 1, 0, 1, 0, 0]).wp Try.prog Q a w := by
  obtain ⟨i1, hs⟩ : ∃ z, z = s := ⟨s, rfl⟩
  subst hs
  obtain ⟨hS, hF⟩ := hA
  replace hS : St w0 w [Own.blk b1 (.cells #[.int .i64 0, .int .i64 0] 29 (0, 0))] := hS
  simp only [sched_Check.r0] at h
  refine (?_ : WE Try.prog 48 (subF Try.f21 [1, 1, 0, 1, 0, 0]) Q [(2, .pointer (some ⟨b1, 0, none⟩)), (9, .slice A0 l0.length c0), (10, .int .i64 (l0.length : Int)), (11, .int .i64 (i1 : Int))] w) a hF
  clear hF a
  refine we_seq fun K7 hK7 => ?_
  refine we_region [(0, 0)] rfl ?_
  refine ge_batch [0] (ans := []) (vs := [(12, .bool (decide ((i1 : Int) < (l0.length : Int))))]) (l := []) (by kernel_rfl) trivial ?_
  refine ge_nil fun a hF => hK7 _ _ ?_ a hF
  refine we_seq fun K8 hK8 => ?_
  by_cases hc2 : (i1 : Int) < (l0.length : Int)
  · rw [if_pos hc2] at h
    refine we_known (t := 12) (b := decide ((i1 : Int) < (l0.length : Int))) (v := true) (by kernel_rfl) (decide_eq_true hc2) ?_
    refine we_true (by kernel_rfl) ?_
    refine we_skip fun a hF => hK8 _ _ ?_ a hF
    refine we_seq fun K9 hK9 => ?_
    refine we_block ?_
    refine we_seq fun K10 hK10 => ?_
    refine we_region [(0, 0), (1, 0), (2, 0), (3, 1), (4, 0), (5, 2)] rfl ?_
    refine ge_batch [0] (ans := []) (vs := [(13, .int .i64 (i1 : Int))]) (l := []) (by kernel_rfl) trivial ?_
    rcases hx2 : l0[i1]? with _ | e1
    · rw [hx2] at h; cases h
    rw [hx2] at h
    simp only [] at h
    refine ge_index (d := 14) (ty := 0) (t := 32) (el := 59) (sz := 5) (m := l0.length) (c := c0) (x := (.tmp 9)) (y := (.tmp 11)) (A := A0) (k' := .i64) (j := (i1 : Int)) (jn := i1) (b0 := blkOf A0) (o0 := offOf A0) (by kernel_rfl) (by kernel_rfl) (by kernel_rfl) (by kernel_rfl) (by kernel_rfl) ((hS.rd hR0).eqSome (pos_of_get hx2)) rfl (lt_of_get hx2) ?_
    refine ge_batch [2] (ans := [.val (.int .i64 e1.Task), .val (.int .i64 e1.At), .val (.int .i64 e1.C), .val (.int .i64 e1.Due), .val (.int .i64 e1.P)]) (vs := [(15, .agg #[.int .i64 e1.Task, .int .i64 e1.At, .int .i64 e1.C, .int .i64 e1.Due, .int .i64 e1.P])]) (l := [.loaded ⟨blkOf A0, offOf A0 + i1 * 5, none⟩ (.int .i64 e1.Task), .loaded ⟨blkOf A0, offOf A0 + i1 * 5 + 1, none⟩ (.int .i64 e1.At), .loaded ⟨blkOf A0, offOf A0 + i1 * 5 + 2, none⟩ (.int .i64 e1.C), .loaded ⟨blkOf A0, offOf A0 + i1 * 5 + 3, none⟩ (.int .i64 e1.Due), .loaded ⟨blkOf A0, offOf A0 + i1 * 5 + 4, none⟩ (.int .i64 e1.P)]) (by kernel_rfl) ⟨RdL.cell (j := 0) (hS.rd hR0) hx2 rfl, RdL.cell (j := 1) (hS.rd hR0) hx2 rfl, RdL.cell (j := 2) (hS.rd hR0) hx2 rfl, RdL.cell (j := 3) (hS.rd hR0) hx2 rfl, RdL.cell (j := 4) (hS.rd hR0) hx2 rfl, trivial⟩ ?_
    refine ge_new (d := some 4) (o := .cells #[.int .i64 0, .int .i64 0, .int .i64 0, .int .i64 0, .int .i64 0] 59) (v := fun b => .pointer (some ⟨b, 0, none⟩)) hS (fun b => by kernel_rfl) fun b2 w3 hx3 hS5 => ?_
    refine ge_batch [4] (ans := []) (vs := [(3, .int .i64 (i1 : Int))]) (l := []) (by kernel_rfl) trivial ?_
    refine ge_set (b := b2) (j := 0) (cs := #[.int .i64 0, .int .i64 0, .int .i64 0, .int .i64 0, .int .i64 0]) (t := 59) (vs := [.int .i64 e1.Task, .int .i64 e1.At, .int .i64 e1.C, .int .i64 e1.Due, .int .i64 e1.P]) hS5 (by kernel_rfl) rfl rfl fun w4 hS6 => ?_
    have hS7 : St w0 w4 [Own.blk b2 (.cells #[.int .i64 e1.Task, .int .i64 e1.At, .int .i64 e1.C, .int .i64 e1.Due, .int .i64 e1.P] 59 (0, 0)), Own.blk b1 (.cells #[.int .i64 0, .int .i64 0] 29 (0, 0))] := hS6
    refine ge_nil fun a hF => hK10 _ _ ?_ a hF
    refine we_seq fun K11 hK11 => ?_
    refine we_region [(0, 0), (1, 0), (2, 0), (3, 0), (4, 0), (5, 0), (6, 0), (7, 0), (8, 0), (9, 0), (10, 0), (11, 0), (12, 0), (13, 0), (14, 0), (15, 0), (16, 0), (17, 0), (18, 0), (19, 0), (20, 0), (21, 0), (22, 0), (23, 0), (24, 0), (25, 0), (26, 0), (27, 0)] rfl ?_
    refine ge_batch [0, 1, 2, 3] (ans := [.val (.int .i64 e1.At)]) (vs := [(19, .bool (decide (e1.At < 0))), (18, .bool (decide (e1.At < 0))), (17, .int .i64 e1.At), (16, .pointer (some ⟨b2, 1, none⟩))]) (l := [.loaded ⟨b2, 1, none⟩ (.int .i64 e1.At)]) (by kernel_rfl) ⟨hS7.cell 0 rfl rfl, trivial⟩ ?_
    by_cases hc3 : e1.At < 0
    · rw [if_pos hc3] at h
      refine ge_known (t := 19) (b := decide (e1.At < 0)) (c := true) (by kernel_rfl) (decide_eq_true hc3) ?_
      refine ge_batch [4, 5, 6, 7, 8, 9, 10, 11, 12, 13, 14, 15, 16, 17, 18, 19, 20, 21, 22, 23, 24, 25, 26, 27] (ans := []) (vs := [(43, .bool true), (42, undef), (41, undef), (40, undef), (39, .bool true), (38, .bool true), (37, undef), (36, undef), (35, undef), (34, .bool true), (33, .bool true), (32, undef), (31, undef), (30, undef), (29, .bool true), (28, .bool true), (27, undef), (26, undef), (25, undef), (24, .bool true), (23, .bool true), (22, undef), (21, undef), (20, undef)]) (l := []) (by kernel_rfl) trivial ?_
      refine ge_nil fun a hF => hK11 _ _ ?_ a hF
      refine we_true (by kernel_rfl) ?_
      refine we_seq fun K12 hK12 => ?_
      refine we_region [(0, 0), (1, 0), (2, 2)] rfl ?_
      refine ge_batch [0, 1] (ans := []) (vs := [(45, .agg #[.int .i64 3, .int .i64 (i1 : Int)]), (44, .int .i64 (i1 : Int))]) (l := []) (by kernel_rfl) trivial ?_
      have hS8 := hS7.bring 1 rfl
      refine ge_set (b := b1) (j := 0) (cs := #[.int .i64 0, .int .i64 0]) (t := 29) (vs := [.int .i64 3, .int .i64 (i1 : Int)]) hS8 (by kernel_rfl) rfl rfl fun w5 hS9 => ?_
      have hS10 : St w0 w5 [Own.blk b1 (.cells #[.int .i64 3, .int .i64 (i1 : Int)] 29 (0, 0)), Own.blk b2 (.cells #[.int .i64 e1.Task, .int .i64 e1.At, .int .i64 e1.C, .int .i64 e1.Due, .int .i64 e1.P] 59 (0, 0))] := hS9
      refine ge_nil fun a hF => hK12 _ _ ?_ a hF
      have hS11 := hS10.takeN 0
      obtain rfl := Option.some.inj h
      exact we_ret fun a hF => hQ _ _ _ (Outs.out nofun (Exits.on ⟨rfl, (post_ret (rs := [.cell 2 29]) (ans := [.val (.int .i64 3), .val (.int .i64 (i1 : Int))]) (vs := [.agg #[.int .i64 3, .int .i64 (i1 : Int)]]) (l := [.loaded ⟨b1, 0, none⟩ (.int .i64 3), .loaded ⟨b1, 1, none⟩ (.int .i64 (i1 : Int))]) rfl (by kernel_rfl) ⟨hS10.cell 0 rfl rfl, hS10.cell 0 rfl rfl, trivial⟩ ⟨rfl, hS11⟩) a hF⟩))
    · rw [if_neg hc3] at h
      refine ge_known (t := 19) (b := decide (e1.At < 0)) (c := false) (by kernel_rfl) (decide_eq_false hc3) ?_
      refine ge_batch [4, 5, 6, 7, 8] (ans := [.val (.int .i64 e1.At)]) (vs := [(24, .bool (decide (e1.At > 60000))), (23, .bool (decide (e1.At > 60000))), (22, .bool (decide (e1.At > 60000))), (21, .int .i64 e1.At), (20, .pointer (some ⟨b2, 1, none⟩))]) (l := [.loaded ⟨b2, 1, none⟩ (.int .i64 e1.At)]) (by kernel_rfl) ⟨hS7.cell 0 rfl rfl, trivial⟩ ?_
      by_cases hc4 : e1.At > 60000
      · rw [if_pos hc4] at h
        refine ge_known (t := 24) (b := decide (e1.At > 60000)) (c := true) (by kernel_rfl) (decide_eq_true hc4) ?_
        refine ge_batch [9, 10, 11, 12, 13, 14, 15, 16, 17, 18, 19, 20, 21, 22, 23, 24, 25, 26, 27] (ans := []) (vs := [(43, .bool true), (42, undef), (41, undef), (40, undef), (39, .bool true), (38, .bool true), (37, undef), (36, undef), (35, undef), (34, .bool true), (33, .bool true), (32, undef), (31, undef), (30, undef), (29, .bool true), (28, .bool true), (27, undef), (26, undef), (25, undef)]) (l := []) (by kernel_rfl) trivial ?_
        refine ge_nil fun a hF => hK11 _ _ ?_ a hF
        refine we_true (by kernel_rfl) ?_
        refine we_seq fun K13 hK13 => ?_
        refine we_region [(0, 0), (1, 0), (2, 2)] rfl ?_
        refine ge_batch [0, 1] (ans := []) (vs := [(45, .agg #[.int .i64 3, .int .i64 (i1 : Int)]), (44, .int .i64 (i1 : Int))]) (l := []) (by kernel_rfl) trivial ?_
        have hS12 := hS7.bring 1 rfl
        refine ge_set (b := b1) (j := 0) (cs := #[.int .i64 0, .int .i64 0]) (t := 29) (vs := [.int .i64 3, .int .i64 (i1 : Int)]) hS12 (by kernel_rfl) rfl rfl fun w6 hS13 => ?_
        have hS14 : St w0 w6 [Own.blk b1 (.cells #[.int .i64 3, .int .i64 (i1 : Int)] 29 (0, 0)), Own.blk b2 (.cells #[.int .i64 e1.Task, .int .i64 e1.At, .int .i64 e1.C, .int .i64 e1.Due, .int .i64 e1.P] 59 (0, 0))] := hS13
        refine ge_nil fun a hF => hK13 _ _ ?_ a hF
        have hS15 := hS14.takeN 0
        obtain rfl := Option.some.inj h
        exact we_ret fun a hF => hQ _ _ _ (Outs.out nofun (Exits.on ⟨rfl, (post_ret (rs := [.cell 2 29]) (ans := [.val (.int .i64 3), .val (.int .i64 (i1 : Int))]) (vs := [.agg #[.int .i64 3, .int .i64 (i1 : Int)]]) (l := [.loaded ⟨b1, 0, none⟩ (.int .i64 3), .loaded ⟨b1, 1, none⟩ (.int .i64 (i1 : Int))]) rfl (by kernel_rfl) ⟨hS14.cell 0 rfl rfl, hS14.cell 0 rfl rfl, trivial⟩ ⟨rfl, hS15⟩) a hF⟩))
      · rw [if_neg hc4] at h
        refine ge_known (t := 24) (b := decide (e1.At > 60000)) (c := false) (by kernel_rfl) (decide_eq_false hc4) ?_
        refine ge_batch [9, 10, 11, 12, 13] (ans := [.val (.int .i64 e1.C)]) (vs := [(29, .bool (decide (e1.C < 1))), (28, .bool (decide (e1.C < 1))), (27, .bool (decide (e1.C < 1))), (26, .int .i64 e1.C), (25, .pointer (some ⟨b2, 2, none⟩))]) (l := [.loaded ⟨b2, 2, none⟩ (.int .i64 e1.C)]) (by kernel_rfl) ⟨hS7.cell 0 rfl rfl, trivial⟩ ?_
        by_cases hc5 : e1.C < 1
        · rw [if_pos hc5] at h
          refine ge_known (t := 29) (b := decide (e1.C < 1)) (c := true) (by kernel_rfl) (decide_eq_true hc5) ?_
          refine ge_batch [14, 15, 16, 17, 18, 19, 20, 21, 22, 23, 24, 25, 26, 27] (ans := []) (vs := [(43, .bool true), (42, undef), (41, undef), (40, undef), (39, .bool true), (38, .bool true), (37, undef), (36, undef), (35, undef), (34, .bool true), (33, .bool true), (32, undef), (31, undef), (30, undef)]) (l := []) (by kernel_rfl) trivial ?_
          refine ge_nil fun a hF => hK11 _ _ ?_ a hF
          refine we_true (by kernel_rfl) ?_
          refine we_seq fun K14 hK14 => ?_
          refine we_region [(0, 0), (1, 0), (2, 2)] rfl ?_
          refine ge_batch [0, 1] (ans := []) (vs := [(45, .agg #[.int .i64 3, .int .i64 (i1 : Int)]), (44, .int .i64 (i1 : Int))]) (l := []) (by kernel_rfl) trivial ?_
          have hS16 := hS7.bring 1 rfl
          refine ge_set (b := b1) (j := 0) (cs := #[.int .i64 0, .int .i64 0]) (t := 29) (vs := [.int .i64 3, .int .i64 (i1 : Int)]) hS16 (by kernel_rfl) rfl rfl fun w7 hS17 => ?_
          have hS18 : St w0 w7 [Own.blk b1 (.cells #[.int .i64 3, .int .i64 (i1 : Int)] 29 (0, 0)), Own.blk b2 (.cells #[.int .i64 e1.Task, .int .i64 e1.At, .int .i64 e1.C, .int .i64 e1.Due, .int .i64 e1.P] 59 (0, 0))] := hS17
          refine ge_nil fun a hF => hK14 _ _ ?_ a hF
          have hS19 := hS18.takeN 0
          obtain rfl := Option.some.inj h
          exact we_ret fun a hF => hQ _ _ _ (Outs.out nofun (Exits.on ⟨rfl, (post_ret (rs := [.cell 2 29]) (ans := [.val (.int .i64 3), .val (.int .i64 (i1 : Int))]) (vs := [.agg #[.int .i64 3, .int .i64 (i1 : Int)]]) (l := [.loaded ⟨b1, 0, none⟩ (.int .i64 3), .loaded ⟨b1, 1, none⟩ (.int .i64 (i1 : Int))]) rfl (by kernel_rfl) ⟨hS18.cell 0 rfl rfl, hS18.cell 0 rfl rfl, trivial⟩ ⟨rfl, hS19⟩) a hF⟩))
        · rw [if_neg hc5] at h
          refine ge_known (t := 29) (b := decide (e1.C < 1)) (c := false) (by kernel_rfl) (decide_eq_false hc5) ?_
          refine ge_batch [14, 15, 16, 17, 18] (ans := [.val (.int .i64 e1.C)]) (vs := [(34, .bool (decide (e1.C > 10000))), (33, .bool (decide (e1.C > 10000))), (32, .bool (decide (e1.C > 10000))), (31, .int .i64 e1.C), (30, .pointer (some ⟨b2, 2, none⟩))]) (l := [.loaded ⟨b2, 2, none⟩ (.int .i64 e1.C)]) (by kernel_rfl) ⟨hS7.cell 0 rfl rfl, trivial⟩ ?_
          by_cases hc6 : e1.C > 10000
          · rw [if_pos hc6] at h
            refine ge_known (t := 34) (b := decide (e1.C > 10000)) (c := true) (by kernel_rfl) (decide_eq_true hc6) ?_
            refine ge_batch [19, 20, 21, 22, 23, 24, 25, 26, 27] (ans := []) (vs := [(43, .bool true), (42, undef), (41, undef), (40, undef), (39, .bool true), (38, .bool true), (37, undef), (36, undef), (35, undef)]) (l := []) (by kernel_rfl) trivial ?_
            refine ge_nil fun a hF => hK11 _ _ ?_ a hF
            refine we_true (by kernel_rfl) ?_
            refine we_seq fun K15 hK15 => ?_
            refine we_region [(0, 0), (1, 0), (2, 2)] rfl ?_
            refine ge_batch [0, 1] (ans := []) (vs := [(45, .agg #[.int .i64 3, .int .i64 (i1 : Int)]), (44, .int .i64 (i1 : Int))]) (l := []) (by kernel_rfl) trivial ?_
            have hS20 := hS7.bring 1 rfl
            refine ge_set (b := b1) (j := 0) (cs := #[.int .i64 0, .int .i64 0]) (t := 29) (vs := [.int .i64 3, .int .i64 (i1 : Int)]) hS20 (by kernel_rfl) rfl rfl fun w8 hS21 => ?_
            have hS22 : St w0 w8 [Own.blk b1 (.cells #[.int .i64 3, .int .i64 (i1 : Int)] 29 (0, 0)), Own.blk b2 (.cells #[.int .i64 e1.Task, .int .i64 e1.At, .int .i64 e1.C, .int .i64 e1.Due, .int .i64 e1.P] 59 (0, 0))] := hS21
            refine ge_nil fun a hF => hK15 _ _ ?_ a hF
            have hS23 := hS22.takeN 0
            obtain rfl := Option.some.inj h
            exact we_ret fun a hF => hQ _ _ _ (Outs.out nofun (Exits.on ⟨rfl, (post_ret (rs := [.cell 2 29]) (ans := [.val (.int .i64 3), .val (.int .i64 (i1 : Int))]) (vs := [.agg #[.int .i64 3, .int .i64 (i1 : Int)]]) (l := [.loaded ⟨b1, 0, none⟩ (.int .i64 3), .loaded ⟨b1, 1, none⟩ (.int .i64 (i1 : Int))]) rfl (by kernel_rfl) ⟨hS22.cell 0 rfl rfl, hS22.cell 0 rfl rfl, trivial⟩ ⟨rfl, hS23⟩) a hF⟩))
          · rw [if_neg hc6] at h
            refine ge_known (t := 34) (b := decide (e1.C > 10000)) (c := false) (by kernel_rfl) (decide_eq_false hc6) ?_
            refine ge_batch [19, 20, 21, 22, 23] (ans := [.val (.int .i64 e1.Due)]) (vs := [(39, .bool (decide (e1.Due < 0))), (38, .bool (decide (e1.Due < 0))), (37, .bool (decide (e1.Due < 0))), (36, .int .i64 e1.Due), (35, .pointer (some ⟨b2, 3, none⟩))]) (l := [.loaded ⟨b2, 3, none⟩ (.int .i64 e1.Due)]) (by kernel_rfl) ⟨hS7.cell 0 rfl rfl, trivial⟩ ?_
            by_cases hc7 : e1.Due < 0
            · rw [if_pos hc7] at h
              refine ge_known (t := 39) (b := decide (e1.Due < 0)) (c := true) (by kernel_rfl) (decide_eq_true hc7) ?_
              refine ge_batch [24, 25, 26, 27] (ans := []) (vs := [(43, .bool true), (42, undef), (41, undef), (40, undef)]) (l := []) (by kernel_rfl) trivial ?_
              refine ge_nil fun a hF => hK11 _ _ ?_ a hF
              refine we_true (by kernel_rfl) ?_
              refine we_seq fun K16 hK16 => ?_
              refine we_region [(0, 0), (1, 0), (2, 2)] rfl ?_
              refine ge_batch [0, 1] (ans := []) (vs := [(45, .agg #[.int .i64 3, .int .i64 (i1 : Int)]), (44, .int .i64 (i1 : Int))]) (l := []) (by kernel_rfl) trivial ?_
              have hS24 := hS7.bring 1 rfl
              refine ge_set (b := b1) (j := 0) (cs := #[.int .i64 0, .int .i64 0]) (t := 29) (vs := [.int .i64 3, .int .i64 (i1 : Int)]) hS24 (by kernel_rfl) rfl rfl fun w9 hS25 => ?_
              have hS26 : St w0 w9 [Own.blk b1 (.cells #[.int .i64 3, .int .i64 (i1 : Int)] 29 (0, 0)), Own.blk b2 (.cells #[.int .i64 e1.Task, .int .i64 e1.At, .int .i64 e1.C, .int .i64 e1.Due, .int .i64 e1.P] 59 (0, 0))] := hS25
              refine ge_nil fun a hF => hK16 _ _ ?_ a hF
              have hS27 := hS26.takeN 0
              obtain rfl := Option.some.inj h
              exact we_ret fun a hF => hQ _ _ _ (Outs.out nofun (Exits.on ⟨rfl, (post_ret (rs := [.cell 2 29]) (ans := [.val (.int .i64 3), .val (.int .i64 (i1 : Int))]) (vs := [.agg #[.int .i64 3, .int .i64 (i1 : Int)]]) (l := [.loaded ⟨b1, 0, none⟩ (.int .i64 3), .loaded ⟨b1, 1, none⟩ (.int .i64 (i1 : Int))]) rfl (by kernel_rfl) ⟨hS26.cell 0 rfl rfl, hS26.cell 0 rfl rfl, trivial⟩ ⟨rfl, hS27⟩) a hF⟩))
            · rw [if_neg hc7] at h
              refine ge_known (t := 39) (b := decide (e1.Due < 0)) (c := false) (by kernel_rfl) (decide_eq_false hc7) ?_
              refine ge_batch [24, 25, 26, 27] (ans := [.val (.int .i64 e1.Due)]) (vs := [(43, .bool (decide (e1.Due > 80000))), (42, .bool (decide (e1.Due > 80000))), (41, .int .i64 e1.Due), (40, .pointer (some ⟨b2, 3, none⟩))]) (l := [.loaded ⟨b2, 3, none⟩ (.int .i64 e1.Due)]) (by kernel_rfl) ⟨hS7.cell 0 rfl rfl, trivial⟩ ?_
              refine ge_nil fun a hF => hK11 _ _ ?_ a hF
              by_cases hc8 : e1.Due > 80000
              · rw [if_pos hc8] at h
                refine we_known (t := 43) (b := decide (e1.Due > 80000)) (v := true) (by kernel_rfl) (decide_eq_true hc8) ?_
                refine we_true (by kernel_rfl) ?_
                refine we_seq fun K17 hK17 => ?_
                refine we_region [(0, 0), (1, 0), (2, 2)] rfl ?_
                refine ge_batch [0, 1] (ans := []) (vs := [(45, .agg #[.int .i64 3, .int .i64 (i1 : Int)]), (44, .int .i64 (i1 : Int))]) (l := []) (by kernel_rfl) trivial ?_
                have hS28 := hS7.bring 1 rfl
                refine ge_set (b := b1) (j := 0) (cs := #[.int .i64 0, .int .i64 0]) (t := 29) (vs := [.int .i64 3, .int .i64 (i1 : Int)]) hS28 (by kernel_rfl) rfl rfl fun w10 hS29 => ?_
                have hS30 : St w0 w10 [Own.blk b1 (.cells #[.int .i64 3, .int .i64 (i1 : Int)] 29 (0, 0)), Own.blk b2 (.cells #[.int .i64 e1.Task, .int .i64 e1.At, .int .i64 e1.C, .int .i64 e1.Due, .int .i64 e1.P] 59 (0, 0))] := hS29
                refine ge_nil fun a hF => hK17 _ _ ?_ a hF
                have hS31 := hS30.takeN 0
                obtain rfl := Option.some.inj h
                exact we_ret fun a hF => hQ _ _ _ (Outs.out nofun (Exits.on ⟨rfl, (post_ret (rs := [.cell 2 29]) (ans := [.val (.int .i64 3), .val (.int .i64 (i1 : Int))]) (vs := [.agg #[.int .i64 3, .int .i64 (i1 : Int)]]) (l := [.loaded ⟨b1, 0, none⟩ (.int .i64 3), .loaded ⟨b1, 1, none⟩ (.int .i64 (i1 : Int))]) rfl (by kernel_rfl) ⟨hS30.cell 0 rfl rfl, hS30.cell 0 rfl rfl, trivial⟩ ⟨rfl, hS31⟩) a hF⟩))
              · rw [if_neg hc8] at h
                refine we_known (t := 43) (b := decide (e1.Due > 80000)) (v := false) (by kernel_rfl) (decide_eq_false hc8) ?_
                refine we_false (by kernel_rfl) ?_
                refine we_skip fun a hF => hK9 _ _ ?_ a hF
                refine we_region [(0, 0), (1, 0)] rfl ?_
                refine ge_addn (d := 46) (ty := 3) (x := (.tmp 11)) (y := (.const (.int .i64 1))) (t := 3) (t2 := 3) (k := .i64) (m := i1) (by kernel_rfl) (by kernel_rfl) (by kernel_rfl) (by have h0 := hR0.small; omega) ?_
                refine ge_batch [1] (ans := []) (vs := [(11, .int .i64 ((i1 + 1 : Nat) : Int))]) (l := []) (by kernel_rfl) trivial ?_
                have hS32 := hS7.bring 1 rfl
                have hS33 := hS32.takeN 1
                obtain rfl := Option.some.inj h
                exact ge_nil fun a hF => hQ _ _ _ (Outs.again ⟨hS33, hF.weaken ⟨by kernel_rfl, by kernel_rfl, by kernel_rfl, by kernel_rfl, trivial⟩⟩)
  · rw [if_neg hc2] at h
    refine we_known (t := 12) (b := decide ((i1 : Int) < (l0.length : Int))) (v := false) (by kernel_rfl) (decide_eq_false hc2) ?_
    refine we_false (by kernel_rfl) ?_
    obtain rfl := Option.some.inj h
    exact we_exit fun a hF => hQ _ _ _ (Outs.out nofun (Exits.here ⟨hS, hF.weaken ⟨by kernel_rfl, trivial⟩⟩))
theorem sched_Check_ok (K : Nat) (l0 : List SJob) (A0 : Option Addr) (c0 : Nat) (w0 : World) (hR0 : RdL w0 A0 l0) (hL0 : l0.length ≤ c0) (r : SFault) (h : sched_Check.f K l0 = some r) :
    Calls Try.prog 21 #[.slice A0 l0.length c0] w0 (sched_Check.Post w0 r) := by
  have hS := St.start w0
  unfold sched_Check.f at h
  refine calls_enter (n := 48) (args := [.slice A0 l0.length c0]) (fn := Try.f21) rfl rfl rfl rfl ?_
  show WE _ _ _ _ [(0, .slice A0 l0.length c0)] _
  refine we_seq fun K1 hK1 => ?_
  refine we_region [(0, 1)] rfl ?_
  refine ge_new (d := some 2) (o := .cells #[.int .i64 0, .int .i64 0] 29) (v := fun b => .pointer (some ⟨b, 0, none⟩)) hS (fun b => by kernel_rfl) fun b1 w1 hx1 hS1 => ?_
  refine ge_nil fun a hF => hK1 _ _ ?_ a hF
  refine we_seq fun K2 hK2 => ?_
  refine we_seq fun K3 hK3 => ?_
  refine we_region [(0, 0), (1, 0), (2, 0)] rfl ?_
  refine ge_batch [0, 1, 2] (ans := []) (vs := [(7, .bool (decide ((l0.length : Int) > 4000))), (6, .int .i64 (l0.length : Int)), (5, .slice A0 l0.length c0)]) (l := []) (by kernel_rfl) trivial ?_
  refine ge_nil fun a hF => hK3 _ _ ?_ a hF
  by_cases hc1 : (l0.length : Int) > 4000
  · rw [if_pos hc1] at h
    refine we_known (t := 7) (b := decide ((l0.length : Int) > 4000)) (v := true) (by kernel_rfl) (decide_eq_true hc1) ?_
    refine we_true (by kernel_rfl) ?_
    refine we_seq fun K4 hK4 => ?_
    refine we_region [(0, 0), (1, 2)] rfl ?_
    refine ge_batch [0] (ans := []) (vs := [(8, .agg #[.int .i64 2, .int .i64 0])]) (l := []) (by kernel_rfl) trivial ?_
    refine ge_set (b := b1) (j := 0) (cs := #[.int .i64 0, .int .i64 0]) (t := 29) (vs := [.int .i64 2, .int .i64 0]) hS1 (by kernel_rfl) rfl rfl fun w2 hS2 => ?_
    have hS3 : St w0 w2 [Own.blk b1 (.cells #[.int .i64 2, .int .i64 0] 29 (0, 0))] := hS2
    refine ge_nil fun a hF => hK4 _ _ ?_ a hF
    have hS4 := hS3.takeN 0
    obtain rfl := Option.some.inj h
    exact we_ret (post_ret (rs := [.cell 2 29]) (ans := [.val (.int .i64 2), .val (.int .i64 0)]) (vs := [.agg #[.int .i64 2, .int .i64 0]]) (l := [.loaded ⟨b1, 0, none⟩ (.int .i64 2), .loaded ⟨b1, 1, none⟩ (.int .i64 0)]) rfl (by kernel_rfl) ⟨hS3.cell 0 rfl rfl, hS3.cell 0 rfl rfl, trivial⟩ ⟨rfl, hS4⟩)
  · rw [if_neg hc1] at h
    refine we_known (t := 7) (b := decide ((l0.length : Int) > 4000)) (v := false) (by kernel_rfl) (decide_eq_false hc1) ?_
    refine we_false (by kernel_rfl) ?_
    refine we_skip fun a hF => hK2 _ _ ?_ a hF
    refine we_seq fun K5 hK5 => ?_
    refine we_seq fun K6 hK6 => ?_
    refine we_region [(0, 0), (1, 0), (2, 0)] rfl ?_
    refine ge_batch [0, 1, 2] (ans := []) (vs := [(11, .int .i64 0), (10, .int .i64 (l0.length : Int)), (9, .slice A0 l0.length c0)]) (l := []) (by kernel_rfl) trivial ?_
    refine ge_nil fun a hF => hK6 _ _ ?_ a hF
    refine we_block ?_
    rcases hq1 : iter (sched_Check.r0 l0) K 0 with _ | (_ | rr1)
    · rw [hq1] at h; cases h
    · rw [hq1] at h
      simp only [] at h
      refine we_iter (A := sched_Check.A0 K w0 l0 A0 c0 hR0 hL0 b1 hc1) (B := sched_Check.B0 K w0 l0 A0 c0 hR0 hL0 b1 hc1) hq1 (fun a hF => ⟨hS1, hF.weaken ⟨by kernel_rfl, by kernel_rfl, by kernel_rfl, by kernel_rfl, trivial⟩⟩) (fun s o hf a w hA Q hQ => sched_Check_r0 K w0 l0 A0 c0 hR0 hL0 b1 hc1 s o hf a w hA Q hQ) ?_
      rintro _ a w11 _ ⟨rfl, hS34, hF⟩
      replace hS34 : St w0 w11 [Own.blk b1 (.cells #[.int .i64 0, .int .i64 0] 29 (0, 0))] := hS34
      refine hK5 [(2, .pointer (some ⟨b1, 0, none⟩))] w11 ?_ a hF
      refine we_seq fun K18 hK18 => ?_
      refine we_region [(0, 0), (1, 2)] rfl ?_
      refine ge_batch [0] (ans := []) (vs := [(47, .agg #[.int .i64 0, .int .i64 0])]) (l := []) (by kernel_rfl) trivial ?_
      refine ge_set (b := b1) (j := 0) (cs := #[.int .i64 0, .int .i64 0]) (t := 29) (vs := [.int .i64 0, .int .i64 0]) hS34 (by kernel_rfl) rfl rfl fun w12 hS35 => ?_
      have hS36 : St w0 w12 [Own.blk b1 (.cells #[.int .i64 0, .int .i64 0] 29 (0, 0))] := hS35
      refine ge_nil fun a hF => hK18 _ _ ?_ a hF
      have hS37 := hS36.takeN 0
      obtain rfl := Option.some.inj h
      exact we_ret (post_ret (rs := [.cell 2 29]) (ans := [.val (.int .i64 0), .val (.int .i64 0)]) (vs := [.agg #[.int .i64 0, .int .i64 0]]) (l := [.loaded ⟨b1, 0, none⟩ (.int .i64 0), .loaded ⟨b1, 1, none⟩ (.int .i64 0)]) rfl (by kernel_rfl) ⟨hS36.cell 0 rfl rfl, hS36.cell 0 rfl rfl, trivial⟩ ⟨rfl, hS37⟩)
    · rw [hq1] at h
      simp only [] at h
      refine we_iter (A := sched_Check.A0 K w0 l0 A0 c0 hR0 hL0 b1 hc1) (B := sched_Check.B0 K w0 l0 A0 c0 hR0 hL0 b1 hc1) hq1 (fun a hF => ⟨hS1, hF.weaken ⟨by kernel_rfl, by kernel_rfl, by kernel_rfl, by kernel_rfl, trivial⟩⟩) (fun s o hf a w hA Q hQ => sched_Check_r0 K w0 l0 A0 c0 hR0 hL0 b1 hc1 s o hf a w hA Q hQ) ?_
      rintro _ a w1 _ ⟨rfl, hb⟩
      obtain rfl := Option.some.inj h
      exact hb

/-! punctual/sched.rule -/
abbrev sched_rule.Post (w0 : World) (r : Nat) (e : Ending) (w : World) : Prop := e = .returned (fnVal r) ∧ St w0 w []
def sched_rule.f (x0 : Int) : Nat :=
  if x0 = 1 then
    48
  else
    if x0 = 2 then
      49
    else
      0
theorem sched_rule_ok (x0 : Int) (w0 : World) (r : Nat) (h : sched_rule.f x0 = r) :
    Calls Try.prog 28 #[.int .i64 x0] w0 (sched_rule.Post w0 r) := by
  have hS := St.start w0
  unfold sched_rule.f at h
  refine calls_enter (n := 8) (args := [.int .i64 x0]) (fn := Try.f28) rfl rfl rfl rfl ?_
  show WE _ _ _ _ [(0, .int .i64 x0)] _
  refine we_seq fun K1 hK1 => ?_
  refine we_region [(0, 0)] rfl ?_
  refine ge_batch [0] (ans := []) (vs := [(2, .nilFunc)]) (l := []) (by kernel_rfl) trivial ?_
  refine ge_nil fun a hF => hK1 _ _ ?_ a hF
  refine we_seq fun K2 hK2 => ?_
  refine we_seq fun K3 hK3 => ?_
  refine we_region [(0, 0)] rfl ?_
  refine ge_batch [0] (ans := []) (vs := [(3, .int .i64 x0)]) (l := []) (by kernel_rfl) trivial ?_
  refine ge_nil fun a hF => hK3 _ _ ?_ a hF
  refine we_block ?_
  refine we_seq fun K4 hK4 => ?_
  refine we_region [(0, 0), (1, 0)] rfl ?_
  refine ge_batch [0, 1] (ans := []) (vs := [(4, .bool (x0 == 1)), (5, .bool (x0 == 1))]) (l := []) (by kernel_rfl) trivial ?_
  refine ge_nil fun a hF => hK4 _ _ ?_ a hF
  by_cases hc1 : x0 = 1
  · rw [if_pos hc1] at h
    refine we_known (t := 4) (b := (x0 == 1)) (v := true) (by kernel_rfl) (beq_iff_eq.2 hc1) ?_
    refine we_true (by kernel_rfl) ?_
    refine we_seq fun K5 hK5 => ?_
    refine we_region [(0, 0)] rfl ?_
    refine ge_batch [0] (ans := []) (vs := [(2, .func (.func 47) #[] #[])]) (l := []) (by kernel_rfl) trivial ?_
    refine ge_nil fun a hF => hK5 _ _ ?_ a hF
    subst h
    exact we_ret (post_ret (rs := [.tmp 2]) (ans := []) (vs := [.func (.func 47) #[] #[]]) (l := []) rfl (by kernel_rfl) trivial ⟨rfl, hS⟩)
  · rw [if_neg hc1] at h
    refine we_known (t := 4) (b := (x0 == 1)) (v := false) (by kernel_rfl) (beq_eq_false_iff_ne.2 hc1) ?_
    refine we_false (by kernel_rfl) ?_
    refine we_seq fun K6 hK6 => ?_
    refine we_region [(0, 0), (1, 0)] rfl ?_
    refine ge_batch [0, 1] (ans := []) (vs := [(6, .bool (x0 == 2)), (7, .bool (x0 == 2))]) (l := []) (by kernel_rfl) trivial ?_
    refine ge_nil fun a hF => hK6 _ _ ?_ a hF
    by_cases hc2 : x0 = 2
    · rw [if_pos hc2] at h
      refine we_known (t := 6) (b := (x0 == 2)) (v := true) (by kernel_rfl) (beq_iff_eq.2 hc2) ?_
      refine we_true (by kernel_rfl) ?_
      refine we_seq fun K7 hK7 => ?_
      refine we_region [(0, 0)] rfl ?_
      refine ge_batch [0] (ans := []) (vs := [(2, .func (.func 48) #[] #[])]) (l := []) (by kernel_rfl) trivial ?_
      refine ge_nil fun a hF => hK7 _ _ ?_ a hF
      subst h
      exact we_ret (post_ret (rs := [.tmp 2]) (ans := []) (vs := [.func (.func 48) #[] #[]]) (l := []) rfl (by kernel_rfl) trivial ⟨rfl, hS⟩)
    · rw [if_neg hc2] at h
      refine we_known (t := 6) (b := (x0 == 2)) (v := false) (by kernel_rfl) (beq_eq_false_iff_ne.2 hc2) ?_
      refine we_false (by kernel_rfl) ?_
      refine we_skip fun a hF => hK2 _ _ ?_ a hF
      refine we_seq fun K8 hK8 => ?_
      refine we_region [(0, 0)] rfl ?_
      refine ge_batch [0] (ans := []) (vs := [(2, .nilFunc)]) (l := []) (by kernel_rfl) trivial ?_
      refine ge_nil fun a hF => hK8 _ _ ?_ a hF
      subst h
      exact we_ret (post_ret (rs := [.tmp 2]) (ans := []) (vs := [.nilFunc]) (l := []) rfl (by kernel_rfl) trivial ⟨rfl, hS⟩)

/-! punctual/sched.Play$1 -/
abbrev sched_Play_1.Post (w0 : World) (r : Bool) (e : Ending) (w : World) : Prop := e = .returned (.bool r) ∧ St w0 w []
def sched_Play_1.f (x0 : Int) (lf_0 : List SJob) (xf_1 : Int) (lf_2 : List Int) : Option Bool :=
  if 0 ≤ x0 then
    match lf_0[(x0).toNat]? with
    | none => none
    | some e1 =>
      if e1.At ≤ xf_1 then
        match lf_2[(x0).toNat]? with
        | none => none
        | some e2 =>
          some (decide (e2 > 0))
      else
        some false
  else
    none
theorem sched_Play_1_ok (x0 : Int) (bf_0 : Nat) (lf_0 : List SJob) (Af_0 : Option Addr) (cf_0 : Nat) (bf_1 : Nat) (xf_1 : Int) (bf_2 : Nat) (lf_2 : List Int) (Af_2 : Option Addr) (cf_2 : Nat) (w0 : World) (hRf_0 : RdL w0 Af_0 lf_0) (hLf_0 : lf_0.length ≤ cf_0) (hBf_0 : Glob w0 bf_0 [.slice Af_0 lf_0.length cf_0]) (hBf_1 : Glob w0 bf_1 [.int .i64 xf_1]) (hRf_2 : RdL w0 Af_2 lf_2) (hLf_2 : lf_2.length ≤ cf_2) (hBf_2 : Glob w0 bf_2 [.slice Af_2 lf_2.length cf_2]) (r : Bool) (h : sched_Play_1.f x0 lf_0 xf_1 lf_2 = some r) :
    Calls Try.prog 30 #[.int .i64 x0, .pointer (some ⟨bf_0, 0, none⟩), .pointer (some ⟨bf_1, 0, none⟩), .pointer (some ⟨bf_2, 0, none⟩)] w0 (sched_Play_1.Post w0 r) := by
  have hS := St.start w0
  unfold sched_Play_1.f at h
  refine calls_enter (n := 20) (args := [.int .i64 x0, .pointer (some ⟨bf_0, 0, none⟩), .pointer (some ⟨bf_1, 0, none⟩), .pointer (some ⟨bf_2, 0, none⟩)]) (fn := Try.f30) rfl rfl rfl rfl ?_
  show WE _ _ _ _ [(0, .int .i64 x0), (1, .pointer (some ⟨bf_0, 0, none⟩)), (2, .pointer (some ⟨bf_1, 0, none⟩)), (3, .pointer (some ⟨bf_2, 0, none⟩))] _
  refine we_seq fun K1 hK1 => ?_
  refine we_region [(0, 0)] rfl ?_
  refine ge_batch [0] (ans := []) (vs := [(5, .bool false)]) (l := []) (by kernel_rfl) trivial ?_
  refine ge_nil fun a hF => hK1 _ _ ?_ a hF
  refine we_seq fun K2 hK2 => ?_
  refine we_draws (by kernel_rfl) [(0, 0), (1, 0), (2, 0), (3, 0), (4, 0), (5, 0), (6, 0), (7, 0), (8, 0), (9, 0), (10, 0), (11, 0), (12, 0), (13, 0), (14, 0)] (by kernel_rfl) ?_
  have hS1 := hS.drew
  refine ge_batch [0, 1] (ans := [.val (.slice Af_0 lf_0.length cf_0)]) (vs := [(7, .int .i64 x0), (6, .slice Af_0 lf_0.length cf_0)]) (l := [.loaded ⟨bf_0, 0, none⟩ (.slice Af_0 lf_0.length cf_0)]) (by kernel_rfl) ⟨hS1.glob hBf_0 rfl, trivial⟩ ?_
  by_cases hc1 : 0 ≤ x0
  · rw [if_pos hc1] at h
    rcases hx1 : lf_0[(x0).toNat]? with _ | e1
    · rw [hx1] at h; cases h
    rw [hx1] at h
    simp only [] at h
    refine ge_index (d := 8) (ty := 0) (t := 32) (el := 59) (sz := 5) (m := lf_0.length) (c := cf_0) (x := (.tmp 6)) (y := (.tmp 7)) (A := Af_0) (k' := .i64) (j := x0) (jn := ((x0).toNat)) (b0 := blkOf Af_0) (o0 := offOf Af_0) (by kernel_rfl) (by kernel_rfl) (by kernel_rfl) (by kernel_rfl) (by kernel_rfl) ((hS1.rd hRf_0).eqSome (pos_of_get hx1)) (Int.toNat_of_nonneg hc1).symm (lt_of_get hx1) ?_
    refine ge_batch [3, 4, 5, 6, 7] (ans := [.val (.int .i64 e1.At), .val (.int .i64 xf_1)]) (vs := [(13, .bool (decide (e1.At ≤ xf_1))), (12, .bool (decide (e1.At ≤ xf_1))), (11, .int .i64 xf_1), (10, .int .i64 e1.At), (9, .pointer (some ⟨blkOf Af_0, offOf Af_0 + (x0).toNat * 5 + 1, none⟩))]) (l := [.loaded ⟨blkOf Af_0, offOf Af_0 + ((x0).toNat) * 5 + 1, none⟩ (.int .i64 e1.At), .loaded ⟨bf_1, 0, none⟩ (.int .i64 xf_1)]) (by kernel_rfl) ⟨RdL.cell (j := 1) (hS1.rd hRf_0) hx1 rfl, hS1.glob hBf_1 rfl, trivial⟩ ?_
    by_cases hc2 : e1.At ≤ xf_1
    · rw [if_pos hc2] at h
      refine ge_known (t := 13) (b := decide (e1.At ≤ xf_1)) (c := true) (by kernel_rfl) (decide_eq_true hc2) ?_
      refine ge_batch [8, 9] (ans := [.val (.slice Af_2 lf_2.length cf_2)]) (vs := [(15, .int .i64 x0), (14, .slice Af_2 lf_2.length cf_2)]) (l := [.loaded ⟨bf_2, 0, none⟩ (.slice Af_2 lf_2.length cf_2)]) (by kernel_rfl) ⟨hS1.glob hBf_2 rfl, trivial⟩ ?_
      rcases hx2 : lf_2[(x0).toNat]? with _ | e2
      · rw [hx2] at h; cases h
      rw [hx2] at h
      simp only [] at h
      refine ge_index (d := 16) (ty := 0) (t := 24) (el := 3) (sz := 1) (m := lf_2.length) (c := cf_2) (x := (.tmp 14)) (y := (.tmp 15)) (A := Af_2) (k' := .i64) (j := x0) (jn := ((x0).toNat)) (b0 := blkOf Af_2) (o0 := offOf Af_2) (by kernel_rfl) (by kernel_rfl) (by kernel_rfl) (by kernel_rfl) (by kernel_rfl) ((hS1.rd hRf_2).eqSome (pos_of_get hx2)) (Int.toNat_of_nonneg hc1).symm (lt_of_get hx2) ?_
      refine ge_batch [11, 12, 13, 14] (ans := [.val (.int .i64 e2)]) (vs := [(5, .bool (decide (e2 > 0))), (19, .bool (decide (e2 > 0))), (18, .bool (decide (e2 > 0))), (17, .int .i64 e2)]) (l := [.loaded ⟨blkOf Af_2, offOf Af_2 + ((x0).toNat) * 1, none⟩ (.int .i64 e2)]) (by kernel_rfl) ⟨RdL.cell (j := 0) (hS1.rd hRf_2) hx2 rfl, trivial⟩ ?_
      refine ge_nil fun a hF => hK2 _ _ ?_ a hF
      obtain rfl := Option.some.inj h
      exact we_ret (post_ret (rs := [.tmp 5]) (ans := []) (vs := [.bool (decide (e2 > 0))]) (l := []) rfl (by kernel_rfl) trivial ⟨rfl, hS1⟩)
    · rw [if_neg hc2] at h
      refine ge_known (t := 13) (b := decide (e1.At ≤ xf_1)) (c := false) (by kernel_rfl) (decide_eq_false hc2) ?_
      refine ge_batch [8, 9, 10, 11, 12, 13, 14] (ans := []) (vs := [(5, .bool false), (19, .bool false), (18, undef), (17, undef), (16, undef), (15, undef), (14, undef)]) (l := []) (by kernel_rfl) trivial ?_
      refine ge_nil fun a hF => hK2 _ _ ?_ a hF
      obtain rfl := Option.some.inj h
      exact we_ret (post_ret (rs := [.tmp 5]) (ans := []) (vs := [.bool false]) (l := []) rfl (by kernel_rfl) trivial ⟨rfl, hS1⟩)
  · rw [if_neg hc1] at h
    cases h

/-! cmp.isNaN[int] -/
abbrev cmp_isNaN_int.Post (w0 : World) (r : Bool) (e : Ending) (w : World) : Prop := e = .returned (.bool r) ∧ St w0 w []
def cmp_isNaN_int.f (x0 : Int) : Bool :=
  false
theorem cmp_isNaN_int_ok (x0 : Int) (w0 : World) (r : Bool) (h : cmp_isNaN_int.f x0 = r) :
    Calls Try.prog 62 #[.int .i64 x0] w0 (cmp_isNaN_int.Post w0 r) := by
  have hS := St.start w0
  unfold cmp_isNaN_int.f at h
  refine calls_enter (n := 6) (args := [.int .i64 x0]) (fn := Try.f62) rfl rfl rfl rfl ?_
  show WE _ _ _ _ [(0, .int .i64 x0)] _
  refine we_seq fun K1 hK1 => ?_
  refine we_region [(0, 0)] rfl ?_
  refine ge_batch [0] (ans := []) (vs := [(2, .bool false)]) (l := []) (by kernel_rfl) trivial ?_
  refine ge_nil fun a hF => hK1 _ _ ?_ a hF
  refine we_seq fun K2 hK2 => ?_
  refine we_region [(0, 0), (1, 0), (2, 0), (3, 0)] rfl ?_
  refine ge_batch [0, 1, 2] (ans := []) (vs := [(5, .bool (x0 != x0)), (4, .int .i64 x0), (3, .int .i64 x0)]) (l := []) (by kernel_rfl) trivial ?_
  refine ge_known (t := 5) (b := (x0 != x0)) (c := false) (by kernel_rfl) (by simp) ?_
  refine ge_batch [3] (ans := []) (vs := [(2, .bool false)]) (l := []) (by kernel_rfl) trivial ?_
  refine ge_nil fun a hF => hK2 _ _ ?_ a hF
  subst h
  exact we_ret (post_ret (rs := [.tmp 2]) (ans := []) (vs := [.bool false]) (l := []) rfl (by kernel_rfl) trivial ⟨rfl, hS⟩)

/-! cmp.Compare[int] -/
abbrev cmp_Compare_int.Post (w0 : World) (r : Int) (e : Ending) (w : World) : Prop := e = .returned (.int .i64 r) ∧ St w0 w []
def cmp_Compare_int.f (x0 : Int) (x1 : Int) : Int :=
  if (cmp_isNaN_int.f x0) = true then
    if (cmp_isNaN_int.f x1) = true then
      0
    else
      (-1)
  else
    if (cmp_isNaN_int.f x1) = true then
      1
    else
      if x0 < x1 then
        (-1)
      else
        if x0 > x1 then
          1
        else
          0
theorem cmp_Compare_int_ok (x0 : Int) (x1 : Int) (w0 : World) (r : Int) (h : cmp_Compare_int.f x0 x1 = r) :
    Calls Try.prog 42 #[.int .i64 x0, .int .i64 x1] w0 (cmp_Compare_int.Post w0 r) := by
  have hS := St.start w0
  unfold cmp_Compare_int.f at h
  refine calls_enter (n := 20) (args := [.int .i64 x0, .int .i64 x1]) (fn := Try.f42) rfl rfl rfl rfl ?_
  show WE _ _ _ _ [(0, .int .i64 x0), (1, .int .i64 x1)] _
  refine we_seq fun K1 hK1 => ?_
  refine we_region [(0, 0)] rfl ?_
  refine ge_batch [0] (ans := []) (vs := [(4, .int .i64 0)]) (l := []) (by kernel_rfl) trivial ?_
  refine ge_nil fun a hF => hK1 _ _ ?_ a hF
  refine we_seq fun K2 hK2 => ?_
  refine we_region [(0, 0), (1, 1), (2, 0)] rfl ?_
  refine ge_batch [0] (ans := []) (vs := [(7, .int .i64 x0)]) (l := []) (by kernel_rfl) trivial ?_
  refine ge_call (d := some 8) (f := 62) (args := #[.int .i64 x0]) (by kernel_rfl) (cmp_isNaN_int_ok x0 _ _ rfl) ?_
  rintro _ w1 ⟨rfl, hS1⟩
  refine ⟨_, rfl, hS1.below, ?_⟩
  have hS2 := hS.call hS1
  refine ge_batch [2] (ans := []) (vs := [(5, .bool (cmp_isNaN_int.f x0))]) (l := []) (by kernel_rfl) trivial ?_
  refine ge_nil fun a hF => hK2 _ _ ?_ a hF
  refine we_seq fun K3 hK3 => ?_
  refine we_region [(0, 0), (1, 1), (2, 0)] rfl ?_
  refine ge_batch [0] (ans := []) (vs := [(9, .int .i64 x1)]) (l := []) (by kernel_rfl) trivial ?_
  refine ge_call (d := some 10) (f := 62) (args := #[.int .i64 x1]) (by kernel_rfl) (cmp_isNaN_int_ok x1 _ _ rfl) ?_
  rintro _ w2 ⟨rfl, hS3⟩
  refine ⟨_, rfl, hS3.below, ?_⟩
  have hS4 := hS2.call hS3
  refine ge_batch [2] (ans := []) (vs := [(6, .bool (cmp_isNaN_int.f x1))]) (l := []) (by kernel_rfl) trivial ?_
  refine ge_nil fun a hF => hK3 _ _ ?_ a hF
  refine we_seq fun K4 hK4 => ?_
  refine we_seq fun K5 hK5 => ?_
  refine we_region [(0, 0)] rfl ?_
  refine ge_batch [0] (ans := []) (vs := [(11, .bool (cmp_isNaN_int.f x0))]) (l := []) (by kernel_rfl) trivial ?_
  refine ge_nil fun a hF => hK5 _ _ ?_ a hF
  by_cases hc1 : (cmp_isNaN_int.f x0) = true
  · rw [if_pos hc1] at h
    refine we_known (t := 11) (b := (cmp_isNaN_int.f x0)) (v := true) (by kernel_rfl) hc1 ?_
    refine we_true (by kernel_rfl) ?_
    refine we_seq fun K6 hK6 => ?_
    refine we_seq fun K7 hK7 => ?_
    refine we_region [(0, 0)] rfl ?_
    refine ge_batch [0] (ans := []) (vs := [(12, .bool (cmp_isNaN_int.f x1))]) (l := []) (by kernel_rfl) trivial ?_
    refine ge_nil fun a hF => hK7 _ _ ?_ a hF
    by_cases hc2 : (cmp_isNaN_int.f x1) = true
    · rw [if_pos hc2] at h
      refine we_known (t := 12) (b := (cmp_isNaN_int.f x1)) (v := true) (by kernel_rfl) hc2 ?_
      refine we_true (by kernel_rfl) ?_
      refine we_seq fun K8 hK8 => ?_
      refine we_region [(0, 0)] rfl ?_
      refine ge_batch [0] (ans := []) (vs := [(4, .int .i64 0)]) (l := []) (by kernel_rfl) trivial ?_
      refine ge_nil fun a hF => hK8 _ _ ?_ a hF
      subst h
      exact we_ret (post_ret (rs := [.tmp 4]) (ans := []) (vs := [.int .i64 0]) (l := []) rfl (by kernel_rfl) trivial ⟨rfl, hS4⟩)
    · rw [if_neg hc2] at h
      refine we_known (t := 12) (b := (cmp_isNaN_int.f x1)) (v := false) (by kernel_rfl) (Bool.eq_false_iff.2 hc2) ?_
      refine we_false (by kernel_rfl) ?_
      refine we_skip fun a hF => hK6 _ _ ?_ a hF
      refine we_seq fun K9 hK9 => ?_
      refine we_region [(0, 0)] rfl ?_
      refine ge_batch [0] (ans := []) (vs := [(4, .int .i64 (-1))]) (l := []) (by kernel_rfl) trivial ?_
      refine ge_nil fun a hF => hK9 _ _ ?_ a hF
      subst h
      exact we_ret (post_ret (rs := [.tmp 4]) (ans := []) (vs := [.int .i64 (-1)]) (l := []) rfl (by kernel_rfl) trivial ⟨rfl, hS4⟩)
  · rw [if_neg hc1] at h
    refine we_known (t := 11) (b := (cmp_isNaN_int.f x0)) (v := false) (by kernel_rfl) (Bool.eq_false_iff.2 hc1) ?_
    refine we_false (by kernel_rfl) ?_
    refine we_skip fun a hF => hK4 _ _ ?_ a hF
    refine we_seq fun K10 hK10 => ?_
    refine we_seq fun K11 hK11 => ?_
    refine we_region [(0, 0)] rfl ?_
    refine ge_batch [0] (ans := []) (vs := [(13, .bool (cmp_isNaN_int.f x1))]) (l := []) (by kernel_rfl) trivial ?_
    refine ge_nil fun a hF => hK11 _ _ ?_ a hF
    by_cases hc3 : (cmp_isNaN_int.f x1) = true
    · rw [if_pos hc3] at h
      refine we_known (t := 13) (b := (cmp_isNaN_int.f x1)) (v := true) (by kernel_rfl) hc3 ?_
      refine we_true (by kernel_rfl) ?_
      refine we_seq fun K12 hK12 => ?_
      refine we_region [(0, 0)] rfl ?_
      refine ge_batch [0] (ans := []) (vs := [(4, .int .i64 1)]) (l := []) (by kernel_rfl) trivial ?_
      refine ge_nil fun a hF => hK12 _ _ ?_ a hF
      subst h
      exact we_ret (post_ret (rs := [.tmp 4]) (ans := []) (vs := [.int .i64 1]) (l := []) rfl (by kernel_rfl) trivial ⟨rfl, hS4⟩)
    · rw [if_neg hc3] at h
      refine we_known (t := 13) (b := (cmp_isNaN_int.f x1)) (v := false) (by kernel_rfl) (Bool.eq_false_iff.2 hc3) ?_
      refine we_false (by kernel_rfl) ?_
      refine we_skip fun a hF => hK10 _ _ ?_ a hF
      refine we_seq fun K13 hK13 => ?_
      refine we_seq fun K14 hK14 => ?_
      refine we_region [(0, 0), (1, 0), (2, 0)] rfl ?_
      refine ge_batch [0, 1, 2] (ans := []) (vs := [(16, .bool (decide (x0 < x1))), (15, .int .i64 x1), (14, .int .i64 x0)]) (l := []) (by kernel_rfl) trivial ?_
      refine ge_nil fun a hF => hK14 _ _ ?_ a hF
      by_cases hc4 : x0 < x1
      · rw [if_pos hc4] at h
        refine we_known (t := 16) (b := decide (x0 < x1)) (v := true) (by kernel_rfl) (decide_eq_true hc4) ?_
        refine we_true (by kernel_rfl) ?_
        refine we_seq fun K15 hK15 => ?_
        refine we_region [(0, 0)] rfl ?_
        refine ge_batch [0] (ans := []) (vs := [(4, .int .i64 (-1))]) (l := []) (by kernel_rfl) trivial ?_
        refine ge_nil fun a hF => hK15 _ _ ?_ a hF
        subst h
        exact we_ret (post_ret (rs := [.tmp 4]) (ans := []) (vs := [.int .i64 (-1)]) (l := []) rfl (by kernel_rfl) trivial ⟨rfl, hS4⟩)
      · rw [if_neg hc4] at h
        refine we_known (t := 16) (b := decide (x0 < x1)) (v := false) (by kernel_rfl) (decide_eq_false hc4) ?_
        refine we_false (by kernel_rfl) ?_
        refine we_skip fun a hF => hK13 _ _ ?_ a hF
        refine we_seq fun K16 hK16 => ?_
        refine we_seq fun K17 hK17 => ?_
        refine we_region [(0, 0), (1, 0), (2, 0)] rfl ?_
        refine ge_batch [0, 1, 2] (ans := []) (vs := [(19, .bool (decide (x0 > x1))), (18, .int .i64 x1), (17, .int .i64 x0)]) (l := []) (by kernel_rfl) trivial ?_
        refine ge_nil fun a hF => hK17 _ _ ?_ a hF
        by_cases hc5 : x0 > x1
        · rw [if_pos hc5] at h
          refine we_known (t := 19) (b := decide (x0 > x1)) (v := true) (by kernel_rfl) (decide_eq_true hc5) ?_
          refine we_true (by kernel_rfl) ?_
          refine we_seq fun K18 hK18 => ?_
          refine we_region [(0, 0)] rfl ?_
          refine ge_batch [0] (ans := []) (vs := [(4, .int .i64 1)]) (l := []) (by kernel_rfl) trivial ?_
          refine ge_nil fun a hF => hK18 _ _ ?_ a hF
          subst h
          exact we_ret (post_ret (rs := [.tmp 4]) (ans := []) (vs := [.int .i64 1]) (l := []) rfl (by kernel_rfl) trivial ⟨rfl, hS4⟩)
        · rw [if_neg hc5] at h
          refine we_known (t := 19) (b := decide (x0 > x1)) (v := false) (by kernel_rfl) (decide_eq_false hc5) ?_
          refine we_false (by kernel_rfl) ?_
          refine we_skip fun a hF => hK16 _ _ ?_ a hF
          refine we_seq fun K19 hK19 => ?_
          refine we_region [(0, 0)] rfl ?_
          refine ge_batch [0] (ans := []) (vs := [(4, .int .i64 0)]) (l := []) (by kernel_rfl) trivial ?_
          refine ge_nil fun a hF => hK19 _ _ ?_ a hF
          subst h
          exact we_ret (post_ret (rs := [.tmp 4]) (ans := []) (vs := [.int .i64 0]) (l := []) rfl (by kernel_rfl) trivial ⟨rfl, hS4⟩)

/-! punctual/sched.byPriority -/
abbrev sched_byPriority.Post (w0 : World) (r : Int) (e : Ending) (w : World) : Prop := e = .returned (.int .i64 r) ∧ St w0 w []
def sched_byPriority.f (x0 : SJob) (x1 : SJob) : Int :=
  (cmp_Compare_int.f x1.P x0.P)
theorem sched_byPriority_ok (x0 : SJob) (x1 : SJob) (w0 : World) (r : Int) (h : sched_byPriority.f x0 x1 = r) :
    Calls Try.prog 47 #[.agg #[.int .i64 x0.Task, .int .i64 x0.At, .int .i64 x0.C, .int .i64 x0.Due, .int .i64 x0.P], .agg #[.int .i64 x1.Task, .int .i64 x1.At, .int .i64 x1.C, .int .i64 x1.Due, .int .i64 x1.P]] w0 (sched_byPriority.Post w0 r) := by
  have hS := St.start w0
  unfold sched_byPriority.f at h
  refine calls_enter (n := 10) (args := [.agg #[.int .i64 x0.Task, .int .i64 x0.At, .int .i64 x0.C, .int .i64 x0.Due, .int .i64 x0.P], .agg #[.int .i64 x1.Task, .int .i64 x1.At, .int .i64 x1.C, .int .i64 x1.Due, .int .i64 x1.P]]) (fn := Try.f47) rfl rfl rfl rfl ?_
  show WE _ _ _ _ [(0, .agg #[.int .i64 x0.Task, .int .i64 x0.At, .int .i64 x0.C, .int .i64 x0.Due, .int .i64 x0.P]), (1, .agg #[.int .i64 x1.Task, .int .i64 x1.At, .int .i64 x1.C, .int .i64 x1.Due, .int .i64 x1.P])] _
  refine we_seq fun K1 hK1 => ?_
  refine we_region [(0, 1), (1, 1), (2, 0)] rfl ?_
  refine ge_new (d := some 2) (o := .cells #[.int .i64 x0.Task, .int .i64 x0.At, .int .i64 x0.C, .int .i64 x0.Due, .int .i64 x0.P] 59) (v := fun b => .pointer (some ⟨b, 0, none⟩)) hS (fun b => by kernel_rfl) fun b1 w1 hx1 hS1 => ?_
  refine ge_new (d := some 3) (o := .cells #[.int .i64 x1.Task, .int .i64 x1.At, .int .i64 x1.C, .int .i64 x1.Due, .int .i64 x1.P] 59) (v := fun b => .pointer (some ⟨b, 0, none⟩)) hS1 (fun b => by kernel_rfl) fun b2 w2 hx2 hS2 => ?_
  refine ge_batch [2] (ans := []) (vs := [(4, .int .i64 0)]) (l := []) (by kernel_rfl) trivial ?_
  refine ge_nil fun a hF => hK1 _ _ ?_ a hF
  refine we_seq fun K2 hK2 => ?_
  refine we_region [(0, 0), (1, 0), (2, 0), (3, 0), (4, 1), (5, 0)] rfl ?_
  refine ge_batch [0, 1, 2, 3] (ans := [.val (.int .i64 x1.P), .val (.int .i64 x0.P)]) (vs := [(8, .int .i64 x0.P), (7, .pointer (some ⟨b1, 4, none⟩)), (6, .int .i64 x1.P), (5, .pointer (some ⟨b2, 4, none⟩))]) (l := [.loaded ⟨b2, 4, none⟩ (.int .i64 x1.P), .loaded ⟨b1, 4, none⟩ (.int .i64 x0.P)]) (by kernel_rfl) ⟨hS2.cell 0 rfl rfl, hS2.cell 1 rfl rfl, trivial⟩ ?_
  refine ge_call (d := some 9) (f := 42) (args := #[.int .i64 x1.P, .int .i64 x0.P]) (by kernel_rfl) (cmp_Compare_int_ok x1.P x0.P _ _ rfl) ?_
  rintro _ w3 ⟨rfl, hS3⟩
  refine ⟨_, rfl, hS3.below, ?_⟩
  have hS4 := hS2.call hS3
  refine ge_batch [5] (ans := []) (vs := [(4, .int .i64 (cmp_Compare_int.f x1.P x0.P))]) (l := []) (by kernel_rfl) trivial ?_
  refine ge_nil fun a hF => hK2 _ _ ?_ a hF
  have hS5 := hS4.takeN 0
  subst h
  exact we_ret (post_ret (rs := [.tmp 4]) (ans := []) (vs := [.int .i64 (cmp_Compare_int.f x1.P x0.P)]) (l := []) rfl (by kernel_rfl) trivial ⟨rfl, hS5⟩)

/-! cmp.Or[int] -/
abbrev cmp_Or_int.Post (w0 : World) (r : Int) (e : Ending) (w : World) : Prop := e = .returned (.int .i64 r) ∧ St w0 w []
def cmp_Or_int.r0 (l0 : List Int) : Nat → Option (Nat ⊕ (Unit ⊕ Int))
  | i1 =>
    if (i1 : Int) < (l0.length : Int) then
      match l0[i1]? with
      | none => none
      | some e1 =>
        if e1 = 0 then
          some (.inl (i1 + 1))
        else
          some (.inr (.inr e1))
    else
      some (.inr (.inl ()))
def cmp_Or_int.f (K : Nat) (l0 : List Int) : Option Int :=
  match iter (cmp_Or_int.r0 l0) K 0 with
  | none => none
  | some (.inl _) =>
    some 0
  | some (.inr rr1) =>
    some rr1
abbrev cmp_Or_int.A0 (K : Nat) (w0 : World) (l0 : List Int) (A0 : Option Addr) (c0 : Nat) (hR0 : RdL w0 A0 l0) (hL0 : l0.length ≤ c0) : Nat → Act → World → Prop := fun (s : Nat) a w => St w0 w [] ∧ Frm 18 a [(3, .int .i64 0), (6, .slice A0 l0.length c0), (7, .int .i64 (l0.length : Int)), (8, .int .i64 (s : Int))]
abbrev cmp_Or_int.B0 (K : Nat) (w0 : World) (l0 : List Int) (A0 : Option Addr) (c0 : Nat) (hR0 : RdL w0 A0 l0) (hL0 : l0.length ≤ c0) : (Unit ⊕ Int) → Exit → Act → World → Prop := Exits 0 (fun (s : Unit) a w => St w0 w [] ∧ Frm 18 a [(3, .int .i64 0)]) (Rets Try.prog Try.f46 (cmp_Or_int.Post w0))
theorem cmp_Or_int_r0 (K : Nat) (w0 : World) (l0 : List Int) (A0 : Option Addr) (c0 : Nat) (hR0 : RdL w0 A0 l0) (hL0 : l0.length ≤ c0) (s : Nat) (o : Nat ⊕ (Unit ⊕ Int)) (h : cmp_Or_int.r0 l0 s = some o) (a : Act) (w : World) (hA : cmp_Or_int.A0 K w0 l0 A0 c0 hR0 hL0 s a w) (Q : Exit → Act → World → Prop) (hQ : ∀ x a w, Outs (cmp_Or_int.A0 K w0 l0 A0 c0 hR0 hL0) (cmp_Or_int.B0 K w0 l0 A0 c0 hR0 hL0) o x a w → Q x a w) : (subF Try.f46 [1, 1, 0, 1, 0, 0]).wp Try.prog Q a w := by
  obtain ⟨i1, hs⟩ : ∃ z, z = s := ⟨s, rfl⟩
  subst hs
  obtain ⟨hS, hF⟩ := hA
  replace hS : St w0 w [] := hS
  simp only [cmp_Or_int.r0] at h
  refine (?_ : WE Try.prog 18 (subF Try.f46 [1, 1, 0, 1, 0, 0]) Q [(3, .int .i64 0), (6, .slice A0 l0.length c0), (7, .int .i64 (l0.length : Int)), (8, .int .i64 (i1 : Int))] w) a hF
  clear hF a
  refine we_seq fun K5 hK5 => ?_
  refine we_region [(0, 0)] rfl ?_
  refine ge_batch [0] (ans := []) (vs := [(9, .bool (decide ((i1 : Int) < (l0.length : Int))))]) (l := []) (by kernel_rfl) trivial ?_
  refine ge_nil fun a hF => hK5 _ _ ?_ a hF
  refine we_seq fun K6 hK6 => ?_
  by_cases hc1 : (i1 : Int) < (l0.length : Int)
  · rw [if_pos hc1] at h
    refine we_known (t := 9) (b := decide ((i1 : Int) < (l0.length : Int))) (v := true) (by kernel_rfl) (decide_eq_true hc1) ?_
    refine we_true (by kernel_rfl) ?_
    refine we_skip fun a hF => hK6 _ _ ?_ a hF
    refine we_seq fun K7 hK7 => ?_
    refine we_block ?_
    refine we_seq fun K8 hK8 => ?_
    refine we_region [(0, 0), (1, 0), (2, 0)] rfl ?_
    rcases hx1 : l0[i1]? with _ | e1
    · rw [hx1] at h; cases h
    rw [hx1] at h
    simp only [] at h
    refine ge_index (d := 10) (ty := 0) (t := 24) (el := 3) (sz := 1) (m := l0.length) (c := c0) (x := (.tmp 6)) (y := (.tmp 8)) (A := A0) (k' := .i64) (j := (i1 : Int)) (jn := i1) (b0 := blkOf A0) (o0 := offOf A0) (by kernel_rfl) (by kernel_rfl) (by kernel_rfl) (by kernel_rfl) (by kernel_rfl) ((hS.rd hR0).eqSome (pos_of_get hx1)) rfl (lt_of_get hx1) ?_
    refine ge_batch [1, 2] (ans := [.val (.int .i64 e1)]) (vs := [(5, .int .i64 e1), (11, .int .i64 e1)]) (l := [.loaded ⟨blkOf A0, offOf A0 + i1 * 1, none⟩ (.int .i64 e1)]) (by kernel_rfl) ⟨RdL.cell (j := 0) (hS.rd hR0) hx1 rfl, trivial⟩ ?_
    refine ge_nil fun a hF => hK8 _ _ ?_ a hF
    refine we_seq fun K9 hK9 => ?_
    refine we_region [(0, 0), (1, 0), (2, 0)] rfl ?_
    refine ge_batch [0, 1, 2] (ans := []) (vs := [(14, .bool (e1 != 0)), (13, .int .i64 0), (12, .int .i64 e1)]) (l := []) (by kernel_rfl) trivial ?_
    refine ge_nil fun a hF => hK9 _ _ ?_ a hF
    by_cases hc2 : e1 = 0
    · rw [if_pos hc2] at h
      refine we_known (t := 14) (b := (e1 != 0)) (v := false) (by kernel_rfl) (bne_eq_false_iff_eq.2 hc2) ?_
      refine we_false (by kernel_rfl) ?_
      refine we_skip fun a hF => hK7 _ _ ?_ a hF
      refine we_region [(0, 0), (1, 0)] rfl ?_
      refine ge_addn (d := 16) (ty := 3) (x := (.tmp 8)) (y := (.const (.int .i64 1))) (t := 3) (t2 := 3) (k := .i64) (m := i1) (by kernel_rfl) (by kernel_rfl) (by kernel_rfl) (by have h0 := hR0.small; omega) ?_
      refine ge_batch [1] (ans := []) (vs := [(8, .int .i64 ((i1 + 1 : Nat) : Int))]) (l := []) (by kernel_rfl) trivial ?_
      obtain rfl := Option.some.inj h
      exact ge_nil fun a hF => hQ _ _ _ (Outs.again ⟨hS, hF.weaken ⟨by kernel_rfl, by kernel_rfl, by kernel_rfl, by kernel_rfl, trivial⟩⟩)
    · rw [if_neg hc2] at h
      refine we_known (t := 14) (b := (e1 != 0)) (v := true) (by kernel_rfl) (bne_iff_ne.2 hc2) ?_
      refine we_true (by kernel_rfl) ?_
      refine we_seq fun K10 hK10 => ?_
      refine we_region [(0, 0), (1, 0)] rfl ?_
      refine ge_batch [0, 1] (ans := []) (vs := [(2, .int .i64 e1), (15, .int .i64 e1)]) (l := []) (by kernel_rfl) trivial ?_
      refine ge_nil fun a hF => hK10 _ _ ?_ a hF
      obtain rfl := Option.some.inj h
      exact we_ret fun a hF => hQ _ _ _ (Outs.out nofun (Exits.on ⟨rfl, (post_ret (rs := [.tmp 2]) (ans := []) (vs := [.int .i64 e1]) (l := []) rfl (by kernel_rfl) trivial ⟨rfl, hS⟩) a hF⟩))
  · rw [if_neg hc1] at h
    refine we_known (t := 9) (b := decide ((i1 : Int) < (l0.length : Int))) (v := false) (by kernel_rfl) (decide_eq_false hc1) ?_
    refine we_false (by kernel_rfl) ?_
    obtain rfl := Option.some.inj h
    exact we_exit fun a hF => hQ _ _ _ (Outs.out nofun (Exits.here ⟨hS, hF.weaken ⟨by kernel_rfl, trivial⟩⟩))
theorem cmp_Or_int_ok (K : Nat) (l0 : List Int) (A0 : Option Addr) (c0 : Nat) (w0 : World) (hR0 : RdL w0 A0 l0) (hL0 : l0.length ≤ c0) (r : Int) (h : cmp_Or_int.f K l0 = some r) :
    Calls Try.prog 46 #[.slice A0 l0.length c0] w0 (cmp_Or_int.Post w0 r) := by
  have hS := St.start w0
  unfold cmp_Or_int.f at h
  refine calls_enter (n := 18) (args := [.slice A0 l0.length c0]) (fn := Try.f46) rfl rfl rfl rfl ?_
  show WE _ _ _ _ [(0, .slice A0 l0.length c0)] _
  refine we_seq fun K1 hK1 => ?_
  refine we_region [(0, 0)] rfl ?_
  refine ge_batch [0] (ans := []) (vs := [(2, .int .i64 0)]) (l := []) (by kernel_rfl) trivial ?_
  refine ge_nil fun a hF => hK1 _ _ ?_ a hF
  refine we_seq fun K2 hK2 => ?_
  refine we_region [(0, 0)] rfl ?_
  refine ge_batch [0] (ans := []) (vs := [(3, .int .i64 0)]) (l := []) (by kernel_rfl) trivial ?_
  refine ge_nil fun a hF => hK2 _ _ ?_ a hF
  refine we_seq fun K3 hK3 => ?_
  refine we_seq fun K4 hK4 => ?_
  refine we_region [(0, 0), (1, 0), (2, 0)] rfl ?_
  refine ge_batch [0, 1, 2] (ans := []) (vs := [(8, .int .i64 0), (7, .int .i64 (l0.length : Int)), (6, .slice A0 l0.length c0)]) (l := []) (by kernel_rfl) trivial ?_
  refine ge_nil fun a hF => hK4 _ _ ?_ a hF
  refine we_block ?_
  rcases hq1 : iter (cmp_Or_int.r0 l0) K 0 with _ | (_ | rr1)
  · rw [hq1] at h; cases h
  · rw [hq1] at h
    simp only [] at h
    refine we_iter (A := cmp_Or_int.A0 K w0 l0 A0 c0 hR0 hL0) (B := cmp_Or_int.B0 K w0 l0 A0 c0 hR0 hL0) hq1 (fun a hF => ⟨hS, hF.weaken ⟨by kernel_rfl, by kernel_rfl, by kernel_rfl, by kernel_rfl, trivial⟩⟩) (fun s o hf a w hA Q hQ => cmp_Or_int_r0 K w0 l0 A0 c0 hR0 hL0 s o hf a w hA Q hQ) ?_
    rintro _ a w1 _ ⟨rfl, hS1, hF⟩
    replace hS1 : St w0 w1 [] := hS1
    refine hK3 [(3, .int .i64 0)] w1 ?_ a hF
    refine we_seq fun K11 hK11 => ?_
    refine we_region [(0, 0), (1, 0)] rfl ?_
    refine ge_batch [0, 1] (ans := []) (vs := [(2, .int .i64 0), (17, .int .i64 0)]) (l := []) (by kernel_rfl) trivial ?_
    refine ge_nil fun a hF => hK11 _ _ ?_ a hF
    obtain rfl := Option.some.inj h
    exact we_ret (post_ret (rs := [.tmp 2]) (ans := []) (vs := [.int .i64 0]) (l := []) rfl (by kernel_rfl) trivial ⟨rfl, hS1⟩)
  · rw [hq1] at h
    simp only [] at h
    refine we_iter (A := cmp_Or_int.A0 K w0 l0 A0 c0 hR0 hL0) (B := cmp_Or_int.B0 K w0 l0 A0 c0 hR0 hL0) hq1 (fun a hF => ⟨hS, hF.weaken ⟨by kernel_rfl, by kernel_rfl, by kernel_rfl, by kernel_rfl, trivial⟩⟩) (fun s o hf a w hA Q hQ => cmp_Or_int_r0 K w0 l0 A0 c0 hR0 hL0 s o hf a w hA Q hQ) ?_
    rintro _ a w1 _ ⟨rfl, hb⟩
    obtain rfl := Option.some.inj h
    exact hb

/-! punctual/sched.byDue -/
abbrev sched_byDue.Post (w0 : World) (r : Int) (e : Ending) (w : World) : Prop := e = .returned (.int .i64 r) ∧ St w0 w []
def sched_byDue.f (x0 : SJob) (x1 : SJob) : Int :=
  (cmp_Compare_int.f x0.Due x1.Due)
theorem sched_byDue_ok (x0 : SJob) (x1 : SJob) (w0 : World) (r : Int) (h : sched_byDue.f x0 x1 = r) :
    Calls Try.prog 48 #[.agg #[.int .i64 x0.Task, .int .i64 x0.At, .int .i64 x0.C, .int .i64 x0.Due, .int .i64 x0.P], .agg #[.int .i64 x1.Task, .int .i64 x1.At, .int .i64 x1.C, .int .i64 x1.Due, .int .i64 x1.P]] w0 (sched_byDue.Post w0 r) := by
  have hS := St.start w0
  unfold sched_byDue.f at h
  refine calls_enter (n := 10) (args := [.agg #[.int .i64 x0.Task, .int .i64 x0.At, .int .i64 x0.C, .int .i64 x0.Due, .int .i64 x0.P], .agg #[.int .i64 x1.Task, .int .i64 x1.At, .int .i64 x1.C, .int .i64 x1.Due, .int .i64 x1.P]]) (fn := Try.f48) rfl rfl rfl rfl ?_
  show WE _ _ _ _ [(0, .agg #[.int .i64 x0.Task, .int .i64 x0.At, .int .i64 x0.C, .int .i64 x0.Due, .int .i64 x0.P]), (1, .agg #[.int .i64 x1.Task, .int .i64 x1.At, .int .i64 x1.C, .int .i64 x1.Due, .int .i64 x1.P])] _
  refine we_seq fun K1 hK1 => ?_
  refine we_region [(0, 1), (1, 1), (2, 0)] rfl ?_
  refine ge_new (d := some 2) (o := .cells #[.int .i64 x0.Task, .int .i64 x0.At, .int .i64 x0.C, .int .i64 x0.Due, .int .i64 x0.P] 59) (v := fun b => .pointer (some ⟨b, 0, none⟩)) hS (fun b => by kernel_rfl) fun b1 w1 hx1 hS1 => ?_
  refine ge_new (d := some 3) (o := .cells #[.int .i64 x1.Task, .int .i64 x1.At, .int .i64 x1.C, .int .i64 x1.Due, .int .i64 x1.P] 59) (v := fun b => .pointer (some ⟨b, 0, none⟩)) hS1 (fun b => by kernel_rfl) fun b2 w2 hx2 hS2 => ?_
  refine ge_batch [2] (ans := []) (vs := [(4, .int .i64 0)]) (l := []) (by kernel_rfl) trivial ?_
  refine ge_nil fun a hF => hK1 _ _ ?_ a hF
  refine we_seq fun K2 hK2 => ?_
  refine we_region [(0, 0), (1, 0), (2, 0), (3, 0), (4, 1), (5, 0)] rfl ?_
  refine ge_batch [0, 1, 2, 3] (ans := [.val (.int .i64 x0.Due), .val (.int .i64 x1.Due)]) (vs := [(8, .int .i64 x1.Due), (7, .pointer (some ⟨b2, 3, none⟩)), (6, .int .i64 x0.Due), (5, .pointer (some ⟨b1, 3, none⟩))]) (l := [.loaded ⟨b1, 3, none⟩ (.int .i64 x0.Due), .loaded ⟨b2, 3, none⟩ (.int .i64 x1.Due)]) (by kernel_rfl) ⟨hS2.cell 1 rfl rfl, hS2.cell 0 rfl rfl, trivial⟩ ?_
  refine ge_call (d := some 9) (f := 42) (args := #[.int .i64 x0.Due, .int .i64 x1.Due]) (by kernel_rfl) (cmp_Compare_int_ok x0.Due x1.Due _ _ rfl) ?_
  rintro _ w3 ⟨rfl, hS3⟩
  refine ⟨_, rfl, hS3.below, ?_⟩
  have hS4 := hS2.call hS3
  refine ge_batch [5] (ans := []) (vs := [(4, .int .i64 (cmp_Compare_int.f x0.Due x1.Due))]) (l := []) (by kernel_rfl) trivial ?_
  refine ge_nil fun a hF => hK2 _ _ ?_ a hF
  have hS5 := hS4.takeN 0
  subst h
  exact we_ret (post_ret (rs := [.tmp 4]) (ans := []) (vs := [.int .i64 (cmp_Compare_int.f x0.Due x1.Due)]) (l := []) rfl (by kernel_rfl) trivial ⟨rfl, hS5⟩)

/-! punctual/sched.First -/
abbrev sched_First.Post (w0 : World) (r : Int) (e : Ending) (w : World) : Prop := e = .returned (.int .i64 r) ∧ St w0 w []
def sched_First.r0 (K : Nat) (l0 : List SJob) (lg1_0 : List SJob) (xg1_1 : Int) (lg1_2 : List Int) (x2 : Int) : Int × Nat → Option ((Int × Nat) ⊕ (Int ⊕ Int))
  | (z1, i1) =>
    if (i1 : Int) < (l0.length : Int) then
      match l0[i1]? with
      | none => none
      | some e1 =>
        match sched_Play_1.f (i1 : Int) lg1_0 xg1_1 lg1_2 with
        | none => none
        | some r1 =>
          if r1 = true then
            if z1 < 0 then
              some (.inl ((i1 : Int), (i1 + 1)))
            else
              if 0 ≤ z1 then
                match l0[(z1).toNat]? with
                | none => none
                | some e2 =>
                  if (sched_rule.f x2) = 0 then
                    none
                  else
                    if (sched_rule.f x2) = 48 then
                      match cmp_Or_int.f K ([(sched_byPriority.f e1 e2), (cmp_Compare_int.f e1.At e2.At)] : List Int) with
                      | none => none
                      | some r2 =>
                        if r2 < 0 then
                          some (.inl ((i1 : Int), (i1 + 1)))
                        else
                          some (.inl (z1, (i1 + 1)))
                    else
                      if (sched_rule.f x2) = 49 then
                        match cmp_Or_int.f K ([(sched_byDue.f e1 e2), (cmp_Compare_int.f e1.At e2.At)] : List Int) with
                        | none => none
                        | some r3 =>
                          if r3 < 0 then
                            some (.inl ((i1 : Int), (i1 + 1)))
                          else
                            some (.inl (z1, (i1 + 1)))
                      else
                        none
              else
                none
          else
            some (.inl (z1, (i1 + 1)))
    else
      some (.inr (.inl z1))
def sched_First.f (K : Nat) (l0 : List SJob) (lg1_0 : List SJob) (xg1_1 : Int) (lg1_2 : List Int) (x2 : Int) : Option Int :=
  match iter (sched_First.r0 K l0 lg1_0 xg1_1 lg1_2 x2) K ((-1), 0) with
  | none => none
  | some (.inl z3) =>
    some z3
  | some (.inr rr1) =>
    some rr1
abbrev sched_First.A0 (K : Nat) (w0 : World) (l0 : List SJob) (A0 : Option Addr) (c0 : Nat) (bg1_0 : Nat) (lg1_0 : List SJob) (Ag1_0 : Option Addr) (cg1_0 : Nat) (bg1_1 : Nat) (xg1_1 : Int) (bg1_2 : Nat) (lg1_2 : List Int) (Ag1_2 : Option Addr) (cg1_2 : Nat) (x2 : Int) (hR0 : RdL w0 A0 l0) (hL0 : l0.length ≤ c0) (hRg1_0 : RdL w0 Ag1_0 lg1_0) (hLg1_0 : lg1_0.length ≤ cg1_0) (hBg1_0 : Glob w0 bg1_0 [.slice Ag1_0 lg1_0.length cg1_0]) (hBg1_1 : Glob w0 bg1_1 [.int .i64 xg1_1]) (hRg1_2 : RdL w0 Ag1_2 lg1_2) (hLg1_2 : lg1_2.length ≤ cg1_2) (hBg1_2 : Glob w0 bg1_2 [.slice Ag1_2 lg1_2.length cg1_2]) : (Int × Nat) → Act → World → Prop := fun (s : Int × Nat) a w => St w0 w [] ∧ Frm 47 a [(0, .slice A0 l0.length c0), (1, .func (.func 30) #[] #[.pointer (some ⟨bg1_0, 0, none⟩), .pointer (some ⟨bg1_1, 0, none⟩), .pointer (some ⟨bg1_2, 0, none⟩)]), (2, .int .i64 x2), (7, .int .i64 s.1), (10, .slice A0 l0.length c0), (11, .int .i64 (l0.length : Int)), (12, .int .i64 (s.2 : Int))]
abbrev sched_First.B0 (K : Nat) (w0 : World) (l0 : List SJob) (A0 : Option Addr) (c0 : Nat) (bg1_0 : Nat) (lg1_0 : List SJob) (Ag1_0 : Option Addr) (cg1_0 : Nat) (bg1_1 : Nat) (xg1_1 : Int) (bg1_2 : Nat) (lg1_2 : List Int) (Ag1_2 : Option Addr) (cg1_2 : Nat) (x2 : Int) (hR0 : RdL w0 A0 l0) (hL0 : l0.length ≤ c0) (hRg1_0 : RdL w0 Ag1_0 lg1_0) (hLg1_0 : lg1_0.length ≤ cg1_0) (hBg1_0 : Glob w0 bg1_0 [.slice Ag1_0 lg1_0.length cg1_0]) (hBg1_1 : Glob w0 bg1_1 [.int .i64 xg1_1]) (hRg1_2 : RdL w0 Ag1_2 lg1_2) (hLg1_2 : lg1_2.length ≤ cg1_2) (hBg1_2 : Glob w0 bg1_2 [.slice Ag1_2 lg1_2.length cg1_2]) : (Int ⊕ Int) → Exit → Act → World → Prop := Exits 0 (fun (s : Int) a w => St w0 w [] ∧ Frm 47 a [(7, .int .i64 s)]) (Rets Try.prog Try.f29 (sched_First.Post w0))
theorem sched_First_r0 (K : Nat) (w0 : World) (l0 : List SJob) (A0 : Option Addr) (c0 : Nat) (bg1_0 : Nat) (lg1_0 : List SJob) (Ag1_0 : Option Addr) (cg1_0 : Nat) (bg1_1 : Nat) (xg1_1 : Int) (bg1_2 : Nat) (lg1_2 : List Int) (Ag1_2 : Option Addr) (cg1_2 : Nat) (x2 : Int) (hR0 : RdL w0 A0 l0) (hL0 : l0.length ≤ c0) (hRg1_0 : RdL w0 Ag1_0 lg1_0) (hLg1_0 : lg1_0.length ≤ cg1_0) (hBg1_0 : Glob w0 bg1_0 [.slice Ag1_0 lg1_0.length cg1_0]) (hBg1_1 : Glob w0 bg1_1 [.int .i64 xg1_1]) (hRg1_2 : RdL w0 Ag1_2 lg1_2) (hLg1_2 : lg1_2.length ≤ cg1_2) (hBg1_2 : Glob w0 bg1_2 [.slice Ag1_2 lg1_2.length cg1_2]) (s : Int × Nat) (o : (Int × Nat) ⊕ (Int ⊕ Int)) (h : sched_First.r0 K l0 lg1_0 xg1_1 lg1_2 x2 s = some o) (a : Act) (w : World) (hA : sched_First.A0 K w0 l0 A0 c0 bg1_0 lg1_0 Ag1_0 cg1_0 bg1_1 xg1_1 bg1_2 lg1_2 Ag1_2 cg1_2 x2 hR0 hL0 hRg1_0 hLg1_0 hBg1_0 hBg1_1 hRg1_2 hLg1_2 hBg1_2 s a w) (Q : Exit → Act → World → Prop) (hQ : ∀ x a w, Outs (sched_First.A0 K w0 l0 A0 c0 bg1_0 lg1_0 Ag1_0 cg1_0 bg1_1 xg1_1 bg1_2 lg1_2 Ag1_2 cg1_2 x2 hR0 hL0 hRg1_0 hLg1_0 hBg1_0 hBg1_1 hRg1_2 hLg1_2 hBg1_2) (sched_First.B0 K w0 l0 A0 c0 bg1_0 lg1_0 Ag1_0 cg1_0 bg1_1 xg1_1 bg1_2 lg1_2 Ag1_2 cg1_2 x2 hR0 hL0 hRg1_0 hLg1_0 hBg1_0 hBg1_1 hRg1_2 hLg1_2 hBg1_2) o x a w → Q x a w) : (subF Try.f29 [1, 1, 0, 1, 0, 0]).wp Try.prog Q a w := by
  obtain ⟨z1, i1⟩ := s
  obtain ⟨hS, hF⟩ := hA
  replace hS : St w0 w [] := hS
  simp only [sched_First.r0] at h
  refine (?_ : WE Try.prog 47 (subF Try.f29 [1, 1, 0, 1, 0, 0]) Q [(0, .slice A0 l0.length c0), (1, .func (.func 30) #[] #[.pointer (some ⟨bg1_0, 0, none⟩), .pointer (some ⟨bg1_1, 0, none⟩), .pointer (some ⟨bg1_2, 0, none⟩)]), (2, .int .i64 x2), (7, .int .i64 z1), (10, .slice A0 l0.length c0), (11, .int .i64 (l0.length : Int)), (12, .int .i64 (i1 : Int))] w) a hF
  clear hF a
  refine we_seq fun K5 hK5 => ?_
  refine we_region [(0, 0)] rfl ?_
  refine ge_batch [0] (ans := []) (vs := [(13, .bool (decide ((i1 : Int) < (l0.length : Int))))]) (l := []) (by kernel_rfl) trivial ?_
  refine ge_nil fun a hF => hK5 _ _ ?_ a hF
  refine we_seq fun K6 hK6 => ?_
  by_cases hc1 : (i1 : Int) < (l0.length : Int)
  · rw [if_pos hc1] at h
    refine we_known (t := 13) (b := decide ((i1 : Int) < (l0.length : Int))) (v := true) (by kernel_rfl) (decide_eq_true hc1) ?_
    refine we_true (by kernel_rfl) ?_
    refine we_skip fun a hF => hK6 _ _ ?_ a hF
    refine we_seq fun K7 hK7 => ?_
    refine we_block ?_
    refine we_seq fun K8 hK8 => ?_
    refine we_region [(0, 0), (1, 0), (2, 0), (3, 1), (4, 0), (5, 2)] rfl ?_
    refine ge_batch [0] (ans := []) (vs := [(14, .int .i64 (i1 : Int))]) (l := []) (by kernel_rfl) trivial ?_
    rcases hx1 : l0[i1]? with _ | e1
    · rw [hx1] at h; cases h
    rw [hx1] at h
    simp only [] at h
    refine ge_index (d := 15) (ty := 0) (t := 32) (el := 59) (sz := 5) (m := l0.length) (c := c0) (x := (.tmp 10)) (y := (.tmp 12)) (A := A0) (k' := .i64) (j := (i1 : Int)) (jn := i1) (b0 := blkOf A0) (o0 := offOf A0) (by kernel_rfl) (by kernel_rfl) (by kernel_rfl) (by kernel_rfl) (by kernel_rfl) ((hS.rd hR0).eqSome (pos_of_get hx1)) rfl (lt_of_get hx1) ?_
    refine ge_batch [2] (ans := [.val (.int .i64 e1.Task), .val (.int .i64 e1.At), .val (.int .i64 e1.C), .val (.int .i64 e1.Due), .val (.int .i64 e1.P)]) (vs := [(16, .agg #[.int .i64 e1.Task, .int .i64 e1.At, .int .i64 e1.C, .int .i64 e1.Due, .int .i64 e1.P])]) (l := [.loaded ⟨blkOf A0, offOf A0 + i1 * 5, none⟩ (.int .i64 e1.Task), .loaded ⟨blkOf A0, offOf A0 + i1 * 5 + 1, none⟩ (.int .i64 e1.At), .loaded ⟨blkOf A0, offOf A0 + i1 * 5 + 2, none⟩ (.int .i64 e1.C), .loaded ⟨blkOf A0, offOf A0 + i1 * 5 + 3, none⟩ (.int .i64 e1.Due), .loaded ⟨blkOf A0, offOf A0 + i1 * 5 + 4, none⟩ (.int .i64 e1.P)]) (by kernel_rfl) ⟨RdL.cell (j := 0) (hS.rd hR0) hx1 rfl, RdL.cell (j := 1) (hS.rd hR0) hx1 rfl, RdL.cell (j := 2) (hS.rd hR0) hx1 rfl, RdL.cell (j := 3) (hS.rd hR0) hx1 rfl, RdL.cell (j := 4) (hS.rd hR0) hx1 rfl, trivial⟩ ?_
    refine ge_new (d := some 9) (o := .cells #[.int .i64 0, .int .i64 0, .int .i64 0, .int .i64 0, .int .i64 0] 59) (v := fun b => .pointer (some ⟨b, 0, none⟩)) hS (fun b => by kernel_rfl) fun b1 w1 hx2 hS1 => ?_
    refine ge_batch [4] (ans := []) (vs := [(8, .int .i64 (i1 : Int))]) (l := []) (by kernel_rfl) trivial ?_
    refine ge_set (b := b1) (j := 0) (cs := #[.int .i64 0, .int .i64 0, .int .i64 0, .int .i64 0, .int .i64 0]) (t := 59) (vs := [.int .i64 e1.Task, .int .i64 e1.At, .int .i64 e1.C, .int .i64 e1.Due, .int .i64 e1.P]) hS1 (by kernel_rfl) rfl rfl fun w2 hS2 => ?_
    have hS3 : St w0 w2 [Own.blk b1 (.cells #[.int .i64 e1.Task, .int .i64 e1.At, .int .i64 e1.C, .int .i64 e1.Due, .int .i64 e1.P] 59 (0, 0))] := hS2
    refine ge_nil fun a hF => hK8 _ _ ?_ a hF
    refine we_seq fun K9 hK9 => ?_
    refine we_seq fun K10 hK10 => ?_
    refine we_region [(0, 0), (1, 0), (2, 1), (3, 0)] rfl ?_
    rcases hq1 : sched_Play_1.f (i1 : Int) lg1_0 xg1_1 lg1_2 with _ | r1
    · rw [hq1] at h; cases h
    rw [hq1] at h
    simp only [] at h
    refine ge_batch [0, 1] (ans := []) (vs := [(18, .int .i64 (i1 : Int)), (17, .func (.func 30) #[] #[.pointer (some ⟨bg1_0, 0, none⟩), .pointer (some ⟨bg1_1, 0, none⟩), .pointer (some ⟨bg1_2, 0, none⟩)])]) (l := []) (by kernel_rfl) trivial ?_
    refine ge_call (d := some 19) (f := 30) (args := #[.int .i64 (i1 : Int), .pointer (some ⟨bg1_0, 0, none⟩), .pointer (some ⟨bg1_1, 0, none⟩), .pointer (some ⟨bg1_2, 0, none⟩)]) (by kernel_rfl) (sched_Play_1_ok (i1 : Int) bg1_0 lg1_0 Ag1_0 cg1_0 bg1_1 xg1_1 bg1_2 lg1_2 Ag1_2 cg1_2 _ (hS3.rd hRg1_0) hLg1_0 (Glob.ext hBg1_0 hS3.below) (Glob.ext hBg1_1 hS3.below) (hS3.rd hRg1_2) hLg1_2 (Glob.ext hBg1_2 hS3.below) _ hq1) ?_
    rintro _ w3 ⟨rfl, hS4⟩
    refine ⟨_, rfl, hS4.below, ?_⟩
    have hS5 := hS3.call hS4
    refine ge_batch [3] (ans := []) (vs := [(20, .bool (!r1))]) (l := []) (by kernel_rfl) trivial ?_
    refine ge_nil fun a hF => hK10 _ _ ?_ a hF
    by_cases hc2 : r1 = true
    · rw [if_pos hc2] at h
      refine we_known (t := 20) (b := !r1) (v := false) (by kernel_rfl) (congrArg (fun z => !z) hc2) ?_
      refine we_false (by kernel_rfl) ?_
      refine we_skip fun a hF => hK9 _ _ ?_ a hF
      refine we_seq fun K11 hK11 => ?_
      refine we_draws (by kernel_rfl) [(0, 0), (1, 0), (2, 0), (3, 0), (5, 0), (6, 0), (7, 0), (8, 0), (9, 0), (11, 0), (12, 0), (13, 0), (14, 0), (15, 0), (16, 0), (17, 0), (4, 1), (10, 1), (18, 1), (19, 1), (20, 1), (21, 0), (22, 0)] (by kernel_rfl) ?_
      have hS6 := hS5.drew
      refine ge_batch [0, 1, 2] (ans := []) (vs := [(23, .bool (decide (z1 < 0))), (22, .bool (decide (z1 < 0))), (21, .int .i64 z1)]) (l := []) (by kernel_rfl) trivial ?_
      by_cases hc3 : z1 < 0
      · rw [if_pos hc3] at h
        refine ge_known (t := 23) (b := decide (z1 < 0)) (c := true) (by kernel_rfl) (decide_eq_true hc3) ?_
        refine ge_batch [3, 5, 6, 7, 8, 9, 11, 12, 13, 14, 15, 16, 17] (ans := []) (vs := [(38, undef), (37, undef), (36, undef), (35, undef), (34, undef), (33, undef), (32, undef), (30, undef), (29, undef), (28, undef), (27, undef), (26, undef), (24, undef)]) (l := []) (by kernel_rfl) trivial ?_
        refine ge_off rfl rfl rfl (by kernel_rfl) ?_
        refine ge_off rfl rfl rfl (by kernel_rfl) ?_
        refine ge_off rfl rfl rfl (by kernel_rfl) ?_
        refine ge_off rfl rfl rfl (by kernel_rfl) ?_
        refine ge_off rfl rfl rfl (by kernel_rfl) ?_
        refine ge_batch [21, 22] (ans := []) (vs := [(43, .bool true), (42, undef)]) (l := []) (by kernel_rfl) trivial ?_
        refine ge_nil fun a hF => hK11 _ _ ?_ a hF
        refine we_true (by kernel_rfl) ?_
        refine we_region [(0, 0), (1, 0)] rfl ?_
        refine ge_batch [0, 1] (ans := []) (vs := [(7, .int .i64 (i1 : Int)), (44, .int .i64 (i1 : Int))]) (l := []) (by kernel_rfl) trivial ?_
        refine ge_nil fun a hF => hK7 _ _ ?_ a hF
        refine we_region [(0, 0), (1, 0)] rfl ?_
        refine ge_addn (d := 45) (ty := 3) (x := (.tmp 12)) (y := (.const (.int .i64 1))) (t := 3) (t2 := 3) (k := .i64) (m := i1) (by kernel_rfl) (by kernel_rfl) (by kernel_rfl) (by have h0 := hR0.small; omega) ?_
        refine ge_batch [1] (ans := []) (vs := [(12, .int .i64 ((i1 + 1 : Nat) : Int))]) (l := []) (by kernel_rfl) trivial ?_
        have hS7 := hS6.takeN 0
        obtain rfl := Option.some.inj h
        exact ge_nil fun a hF => hQ _ _ _ (Outs.again ⟨hS7, hF.weaken ⟨by kernel_rfl, by kernel_rfl, by kernel_rfl, by kernel_rfl, by kernel_rfl, by kernel_rfl, by kernel_rfl, trivial⟩⟩)
      · rw [if_neg hc3] at h
        refine ge_known (t := 23) (b := decide (z1 < 0)) (c := false) (by kernel_rfl) (decide_eq_false hc3) ?_
        refine ge_batch [3, 5, 6, 7] (ans := [.val (.int .i64 e1.Task), .val (.int .i64 e1.At), .val (.int .i64 e1.C), .val (.int .i64 e1.Due), .val (.int .i64 e1.P)]) (vs := [(28, .int .i64 z1), (27, .slice A0 l0.length c0), (26, .agg #[.int .i64 e1.Task, .int .i64 e1.At, .int .i64 e1.C, .int .i64 e1.Due, .int .i64 e1.P]), (24, .int .i64 x2)]) (l := [.loaded ⟨b1, 0, none⟩ (.int .i64 e1.Task), .loaded ⟨b1, 1, none⟩ (.int .i64 e1.At), .loaded ⟨b1, 2, none⟩ (.int .i64 e1.C), .loaded ⟨b1, 3, none⟩ (.int .i64 e1.Due), .loaded ⟨b1, 4, none⟩ (.int .i64 e1.P)]) (by kernel_rfl) ⟨hS6.cell 0 rfl rfl, hS6.cell 0 rfl rfl, hS6.cell 0 rfl rfl, hS6.cell 0 rfl rfl, hS6.cell 0 rfl rfl, trivial⟩ ?_
        by_cases hc4 : 0 ≤ z1
        · rw [if_pos hc4] at h
          rcases hx3 : l0[(z1).toNat]? with _ | e2
          · rw [hx3] at h; cases h
          rw [hx3] at h
          simp only [] at h
          refine ge_index (d := 29) (ty := 0) (t := 32) (el := 59) (sz := 5) (m := l0.length) (c := c0) (x := (.tmp 27)) (y := (.tmp 28)) (A := A0) (k' := .i64) (j := z1) (jn := ((z1).toNat)) (b0 := blkOf A0) (o0 := offOf A0) (by kernel_rfl) (by kernel_rfl) (by kernel_rfl) (by kernel_rfl) (by kernel_rfl) ((hS6.rd hR0).eqSome (pos_of_get hx3)) (Int.toNat_of_nonneg hc4).symm (lt_of_get hx3) ?_
          refine ge_batch [9, 11, 12, 13, 14] (ans := [.val (.int .i64 e2.Task), .val (.int .i64 e2.At), .val (.int .i64 e2.C), .val (.int .i64 e2.Due), .val (.int .i64 e2.P), .val (.int .i64 e1.At)]) (vs := [(35, .int .i64 z1), (34, .slice A0 l0.length c0), (33, .int .i64 e1.At), (32, .pointer (some ⟨b1, 1, none⟩)), (30, .agg #[.int .i64 e2.Task, .int .i64 e2.At, .int .i64 e2.C, .int .i64 e2.Due, .int .i64 e2.P])]) (l := [.loaded ⟨blkOf A0, offOf A0 + ((z1).toNat) * 5, none⟩ (.int .i64 e2.Task), .loaded ⟨blkOf A0, offOf A0 + ((z1).toNat) * 5 + 1, none⟩ (.int .i64 e2.At), .loaded ⟨blkOf A0, offOf A0 + ((z1).toNat) * 5 + 2, none⟩ (.int .i64 e2.C), .loaded ⟨blkOf A0, offOf A0 + ((z1).toNat) * 5 + 3, none⟩ (.int .i64 e2.Due), .loaded ⟨blkOf A0, offOf A0 + ((z1).toNat) * 5 + 4, none⟩ (.int .i64 e2.P), .loaded ⟨b1, 1, none⟩ (.int .i64 e1.At)]) (by kernel_rfl) ⟨RdL.cell (j := 0) (hS6.rd hR0) hx3 rfl, RdL.cell (j := 1) (hS6.rd hR0) hx3 rfl, RdL.cell (j := 2) (hS6.rd hR0) hx3 rfl, RdL.cell (j := 3) (hS6.rd hR0) hx3 rfl, RdL.cell (j := 4) (hS6.rd hR0) hx3 rfl, hS6.cell 0 rfl rfl, trivial⟩ ?_
          refine ge_index (d := 36) (ty := 0) (t := 32) (el := 59) (sz := 5) (m := l0.length) (c := c0) (x := (.tmp 34)) (y := (.tmp 35)) (A := A0) (k' := .i64) (j := z1) (jn := ((z1).toNat)) (b0 := blkOf A0) (o0 := offOf A0) (by kernel_rfl) (by kernel_rfl) (by kernel_rfl) (by kernel_rfl) (by kernel_rfl) ((hS6.rd hR0).eqSome (pos_of_get hx3)) (Int.toNat_of_nonneg hc4).symm (lt_of_get hx3) ?_
          refine ge_batch [16, 17] (ans := [.val (.int .i64 e2.At)]) (vs := [(38, .int .i64 e2.At), (37, .pointer (some ⟨blkOf A0, offOf A0 + (z1).toNat * 5 + 1, none⟩))]) (l := [.loaded ⟨blkOf A0, offOf A0 + ((z1).toNat) * 5 + 1, none⟩ (.int .i64 e2.At)]) (by kernel_rfl) ⟨RdL.cell (j := 1) (hS6.rd hR0) hx3 rfl, trivial⟩ ?_
          refine ge_call (d := some 25) (f := 28) (args := #[.int .i64 x2]) (by kernel_rfl) (sched_rule_ok x2 _ _ rfl) ?_
          rintro _ w4 ⟨rfl, hS8⟩
          refine ⟨_, rfl, hS8.below, ?_⟩
          have hS9 := hS6.call hS8
          by_cases hc5 : (sched_rule.f x2) = 0
          · rw [if_pos hc5] at h
            refine ge_same (t := 25) (v := fnVal (sched_rule.f x2)) (v' := .nilFunc) (by kernel_rfl) (by rw [hc5]; rfl) ?_
            cases h
          · rw [if_neg hc5] at h
            by_cases hc6 : (sched_rule.f x2) = 48
            · rw [if_pos hc6] at h
              refine ge_same (t := 25) (v := fnVal (sched_rule.f x2)) (v' := .func (.func 47) #[] #[]) (by kernel_rfl) (by rw [hc6]; rfl) ?_
              refine ge_call (d := some 31) (f := 47) (args := #[.agg #[.int .i64 e1.Task, .int .i64 e1.At, .int .i64 e1.C, .int .i64 e1.Due, .int .i64 e1.P], .agg #[.int .i64 e2.Task, .int .i64 e2.At, .int .i64 e2.C, .int .i64 e2.Due, .int .i64 e2.P]]) (by kernel_rfl) (sched_byPriority_ok e1 e2 _ _ rfl) ?_
              rintro _ w5 ⟨rfl, hS10⟩
              refine ⟨_, rfl, hS10.below, ?_⟩
              have hS11 := hS9.call hS10
              refine ge_call (d := some 39) (f := 42) (args := #[.int .i64 e1.At, .int .i64 e2.At]) (by kernel_rfl) (cmp_Compare_int_ok e1.At e2.At _ _ rfl) ?_
              rintro _ w6 ⟨rfl, hS12⟩
              refine ⟨_, rfl, hS12.below, ?_⟩
              have hS13 := hS11.call hS12
              refine ge_new (d := some 40) (o := .cells #[.int .i64 (sched_byPriority.f e1 e2), .int .i64 (cmp_Compare_int.f e1.At e2.At)] 3) (v := fun b => .slice (some ⟨b, 0, none⟩) 2 2) hS13 (fun b => by kernel_rfl) fun b2 w7 hx4 hS14 => ?_
              rcases hq5 : cmp_Or_int.f K ([(sched_byPriority.f e1 e2), (cmp_Compare_int.f e1.At e2.At)] : List Int) with _ | r2
              · rw [hq5] at h; cases h
              rw [hq5] at h
              simp only [] at h
              refine ge_call (d := some 41) (f := 46) (args := #[.slice (some ⟨b2, 0, none⟩) 2 2]) (by kernel_rfl) (cmp_Or_int_ok K ([(sched_byPriority.f e1 e2), (cmp_Compare_int.f e1.At e2.At)] : List Int) (some ⟨b2, 0, none⟩) 2 _ (hS14.rdBlk 0 ([(sched_byPriority.f e1 e2), (cmp_Compare_int.f e1.At e2.At)] : List Int) rfl rfl rfl) (Nat.le_refl _) _ hq5) ?_
              rintro _ w8 ⟨rfl, hS15⟩
              refine ⟨_, rfl, hS15.below, ?_⟩
              have hS16 := hS14.call hS15
              refine ge_batch [21, 22] (ans := []) (vs := [(43, .bool (decide (r2 < 0))), (42, .bool (decide (r2 < 0)))]) (l := []) (by kernel_rfl) trivial ?_
              refine ge_nil fun a hF => hK11 _ _ ?_ a hF
              by_cases hc7 : r2 < 0
              · rw [if_pos hc7] at h
                refine we_known (t := 43) (b := decide (r2 < 0)) (v := true) (by kernel_rfl) (decide_eq_true hc7) ?_
                refine we_true (by kernel_rfl) ?_
                refine we_region [(0, 0), (1, 0)] rfl ?_
                refine ge_batch [0, 1] (ans := []) (vs := [(7, .int .i64 (i1 : Int)), (44, .int .i64 (i1 : Int))]) (l := []) (by kernel_rfl) trivial ?_
                refine ge_nil fun a hF => hK7 _ _ ?_ a hF
                refine we_region [(0, 0), (1, 0)] rfl ?_
                refine ge_addn (d := 45) (ty := 3) (x := (.tmp 12)) (y := (.const (.int .i64 1))) (t := 3) (t2 := 3) (k := .i64) (m := i1) (by kernel_rfl) (by kernel_rfl) (by kernel_rfl) (by have h0 := hR0.small; omega) ?_
                refine ge_batch [1] (ans := []) (vs := [(12, .int .i64 ((i1 + 1 : Nat) : Int))]) (l := []) (by kernel_rfl) trivial ?_
                have hS17 := hS16.takeN 0
                obtain rfl := Option.some.inj h
                exact ge_nil fun a hF => hQ _ _ _ (Outs.again ⟨hS17, hF.weaken ⟨by kernel_rfl, by kernel_rfl, by kernel_rfl, by kernel_rfl, by kernel_rfl, by kernel_rfl, by kernel_rfl, trivial⟩⟩)
              · rw [if_neg hc7] at h
                refine we_known (t := 43) (b := decide (r2 < 0)) (v := false) (by kernel_rfl) (decide_eq_false hc7) ?_
                refine we_false (by kernel_rfl) ?_
                refine we_skip fun a hF => hK7 _ _ ?_ a hF
                refine we_region [(0, 0), (1, 0)] rfl ?_
                refine ge_addn (d := 45) (ty := 3) (x := (.tmp 12)) (y := (.const (.int .i64 1))) (t := 3) (t2 := 3) (k := .i64) (m := i1) (by kernel_rfl) (by kernel_rfl) (by kernel_rfl) (by have h0 := hR0.small; omega) ?_
                refine ge_batch [1] (ans := []) (vs := [(12, .int .i64 ((i1 + 1 : Nat) : Int))]) (l := []) (by kernel_rfl) trivial ?_
                have hS18 := hS16.takeN 0
                obtain rfl := Option.some.inj h
                exact ge_nil fun a hF => hQ _ _ _ (Outs.again ⟨hS18, hF.weaken ⟨by kernel_rfl, by kernel_rfl, by kernel_rfl, by kernel_rfl, by kernel_rfl, by kernel_rfl, by kernel_rfl, trivial⟩⟩)
            · rw [if_neg hc6] at h
              by_cases hc8 : (sched_rule.f x2) = 49
              · rw [if_pos hc8] at h
                refine ge_same (t := 25) (v := fnVal (sched_rule.f x2)) (v' := .func (.func 48) #[] #[]) (by kernel_rfl) (by rw [hc8]; rfl) ?_
                refine ge_call (d := some 31) (f := 48) (args := #[.agg #[.int .i64 e1.Task, .int .i64 e1.At, .int .i64 e1.C, .int .i64 e1.Due, .int .i64 e1.P], .agg #[.int .i64 e2.Task, .int .i64 e2.At, .int .i64 e2.C, .int .i64 e2.Due, .int .i64 e2.P]]) (by kernel_rfl) (sched_byDue_ok e1 e2 _ _ rfl) ?_
                rintro _ w9 ⟨rfl, hS19⟩
                refine ⟨_, rfl, hS19.below, ?_⟩
                have hS20 := hS9.call hS19
                refine ge_call (d := some 39) (f := 42) (args := #[.int .i64 e1.At, .int .i64 e2.At]) (by kernel_rfl) (cmp_Compare_int_ok e1.At e2.At _ _ rfl) ?_
                rintro _ w10 ⟨rfl, hS21⟩
                refine ⟨_, rfl, hS21.below, ?_⟩
                have hS22 := hS20.call hS21
                refine ge_new (d := some 40) (o := .cells #[.int .i64 (sched_byDue.f e1 e2), .int .i64 (cmp_Compare_int.f e1.At e2.At)] 3) (v := fun b => .slice (some ⟨b, 0, none⟩) 2 2) hS22 (fun b => by kernel_rfl) fun b3 w11 hx5 hS23 => ?_
                rcases hq8 : cmp_Or_int.f K ([(sched_byDue.f e1 e2), (cmp_Compare_int.f e1.At e2.At)] : List Int) with _ | r3
                · rw [hq8] at h; cases h
                rw [hq8] at h
                simp only [] at h
                refine ge_call (d := some 41) (f := 46) (args := #[.slice (some ⟨b3, 0, none⟩) 2 2]) (by kernel_rfl) (cmp_Or_int_ok K ([(sched_byDue.f e1 e2), (cmp_Compare_int.f e1.At e2.At)] : List Int) (some ⟨b3, 0, none⟩) 2 _ (hS23.rdBlk 0 ([(sched_byDue.f e1 e2), (cmp_Compare_int.f e1.At e2.At)] : List Int) rfl rfl rfl) (Nat.le_refl _) _ hq8) ?_
                rintro _ w12 ⟨rfl, hS24⟩
                refine ⟨_, rfl, hS24.below, ?_⟩
                have hS25 := hS23.call hS24
                refine ge_batch [21, 22] (ans := []) (vs := [(43, .bool (decide (r3 < 0))), (42, .bool (decide (r3 < 0)))]) (l := []) (by kernel_rfl) trivial ?_
                refine ge_nil fun a hF => hK11 _ _ ?_ a hF
                by_cases hc9 : r3 < 0
                · rw [if_pos hc9] at h
                  refine we_known (t := 43) (b := decide (r3 < 0)) (v := true) (by kernel_rfl) (decide_eq_true hc9) ?_
                  refine we_true (by kernel_rfl) ?_
                  refine we_region [(0, 0), (1, 0)] rfl ?_
                  refine ge_batch [0, 1] (ans := []) (vs := [(7, .int .i64 (i1 : Int)), (44, .int .i64 (i1 : Int))]) (l := []) (by kernel_rfl) trivial ?_
                  refine ge_nil fun a hF => hK7 _ _ ?_ a hF
                  refine we_region [(0, 0), (1, 0)] rfl ?_
                  refine ge_addn (d := 45) (ty := 3) (x := (.tmp 12)) (y := (.const (.int .i64 1))) (t := 3) (t2 := 3) (k := .i64) (m := i1) (by kernel_rfl) (by kernel_rfl) (by kernel_rfl) (by have h0 := hR0.small; omega) ?_
                  refine ge_batch [1] (ans := []) (vs := [(12, .int .i64 ((i1 + 1 : Nat) : Int))]) (l := []) (by kernel_rfl) trivial ?_
                  have hS26 := hS25.takeN 0
                  obtain rfl := Option.some.inj h
                  exact ge_nil fun a hF => hQ _ _ _ (Outs.again ⟨hS26, hF.weaken ⟨by kernel_rfl, by kernel_rfl, by kernel_rfl, by kernel_rfl, by kernel_rfl, by kernel_rfl, by kernel_rfl, trivial⟩⟩)
                · rw [if_neg hc9] at h
                  refine we_known (t := 43) (b := decide (r3 < 0)) (v := false) (by kernel_rfl) (decide_eq_false hc9) ?_
                  refine we_false (by kernel_rfl) ?_
                  refine we_skip fun a hF => hK7 _ _ ?_ a hF
                  refine we_region [(0, 0), (1, 0)] rfl ?_
                  refine ge_addn (d := 45) (ty := 3) (x := (.tmp 12)) (y := (.const (.int .i64 1))) (t := 3) (t2 := 3) (k := .i64) (m := i1) (by kernel_rfl) (by kernel_rfl) (by kernel_rfl) (by have h0 := hR0.small; omega) ?_
                  refine ge_batch [1] (ans := []) (vs := [(12, .int .i64 ((i1 + 1 : Nat) : Int))]) (l := []) (by kernel_rfl) trivial ?_
                  have hS27 := hS25.takeN 0
                  obtain rfl := Option.some.inj h
                  exact ge_nil fun a hF => hQ _ _ _ (Outs.again ⟨hS27, hF.weaken ⟨by kernel_rfl, by kernel_rfl, by kernel_rfl, by kernel_rfl, by kernel_rfl, by kernel_rfl, by kernel_rfl, trivial⟩⟩)
              · rw [if_neg hc8] at h
                cases h
        · rw [if_neg hc4] at h
          cases h
    · rw [if_neg hc2] at h
      refine we_known (t := 20) (b := !r1) (v := true) (by kernel_rfl) (congrArg (fun z => !z) (Bool.eq_false_iff.2 hc2)) ?_
      refine we_true (by kernel_rfl) ?_
      refine we_exit fun a hF => hK7 _ _ ?_ a hF
      refine we_region [(0, 0), (1, 0)] rfl ?_
      refine ge_addn (d := 45) (ty := 3) (x := (.tmp 12)) (y := (.const (.int .i64 1))) (t := 3) (t2 := 3) (k := .i64) (m := i1) (by kernel_rfl) (by kernel_rfl) (by kernel_rfl) (by have h0 := hR0.small; omega) ?_
      refine ge_batch [1] (ans := []) (vs := [(12, .int .i64 ((i1 + 1 : Nat) : Int))]) (l := []) (by kernel_rfl) trivial ?_
      have hS28 := hS5.takeN 0
      obtain rfl := Option.some.inj h
      exact ge_nil fun a hF => hQ _ _ _ (Outs.again ⟨hS28, hF.weaken ⟨by kernel_rfl, by kernel_rfl, by kernel_rfl, by kernel_rfl, by kernel_rfl, by kernel_rfl, by kernel_rfl, trivial⟩⟩)
  · rw [if_neg hc1] at h
    refine we_known (t := 13) (b := decide ((i1 : Int) < (l0.length : Int))) (v := false) (by kernel_rfl) (decide_eq_false hc1) ?_
    refine we_false (by kernel_rfl) ?_
    obtain rfl := Option.some.inj h
    exact we_exit fun a hF => hQ _ _ _ (Outs.out nofun (Exits.here ⟨hS, hF.weaken ⟨by kernel_rfl, trivial⟩⟩))
theorem sched_First_ok (K : Nat) (l0 : List SJob) (A0 : Option Addr) (c0 : Nat) (bg1_0 : Nat) (lg1_0 : List SJob) (Ag1_0 : Option Addr) (cg1_0 : Nat) (bg1_1 : Nat) (xg1_1 : Int) (bg1_2 : Nat) (lg1_2 : List Int) (Ag1_2 : Option Addr) (cg1_2 : Nat) (x2 : Int) (w0 : World) (hR0 : RdL w0 A0 l0) (hL0 : l0.length ≤ c0) (hRg1_0 : RdL w0 Ag1_0 lg1_0) (hLg1_0 : lg1_0.length ≤ cg1_0) (hBg1_0 : Glob w0 bg1_0 [.slice Ag1_0 lg1_0.length cg1_0]) (hBg1_1 : Glob w0 bg1_1 [.int .i64 xg1_1]) (hRg1_2 : RdL w0 Ag1_2 lg1_2) (hLg1_2 : lg1_2.length ≤ cg1_2) (hBg1_2 : Glob w0 bg1_2 [.slice Ag1_2 lg1_2.length cg1_2]) (r : Int) (h : sched_First.f K l0 lg1_0 xg1_1 lg1_2 x2 = some r) :
    Calls Try.prog 29 #[.slice A0 l0.length c0, .func (.func 30) #[] #[.pointer (some ⟨bg1_0, 0, none⟩), .pointer (some ⟨bg1_1, 0, none⟩), .pointer (some ⟨bg1_2, 0, none⟩)], .int .i64 x2] w0 (sched_First.Post w0 r) := by
  have hS := St.start w0
  unfold sched_First.f at h
  refine calls_enter (n := 47) (args := [.slice A0 l0.length c0, .func (.func 30) #[] #[.pointer (some ⟨bg1_0, 0, none⟩), .pointer (some ⟨bg1_1, 0, none⟩), .pointer (some ⟨bg1_2, 0, none⟩)], .int .i64 x2]) (fn := Try.f29) rfl rfl rfl rfl ?_
  show WE _ _ _ _ [(0, .slice A0 l0.length c0), (1, .func (.func 30) #[] #[.pointer (some ⟨bg1_0, 0, none⟩), .pointer (some ⟨bg1_1, 0, none⟩), .pointer (some ⟨bg1_2, 0, none⟩)]), (2, .int .i64 x2)] _
  refine we_seq fun K1 hK1 => ?_
  refine we_region [(0, 0)] rfl ?_
  refine ge_batch [0] (ans := []) (vs := [(6, .int .i64 0)]) (l := []) (by kernel_rfl) trivial ?_
  refine ge_nil fun a hF => hK1 _ _ ?_ a hF
  refine we_seq fun K2 hK2 => ?_
  refine we_region [(0, 0)] rfl ?_
  refine ge_batch [0] (ans := []) (vs := [(7, .int .i64 (-1))]) (l := []) (by kernel_rfl) trivial ?_
  refine ge_nil fun a hF => hK2 _ _ ?_ a hF
  refine we_seq fun K3 hK3 => ?_
  refine we_seq fun K4 hK4 => ?_
  refine we_region [(0, 0), (1, 0), (2, 0)] rfl ?_
  refine ge_batch [0, 1, 2] (ans := []) (vs := [(12, .int .i64 0), (11, .int .i64 (l0.length : Int)), (10, .slice A0 l0.length c0)]) (l := []) (by kernel_rfl) trivial ?_
  refine ge_nil fun a hF => hK4 _ _ ?_ a hF
  refine we_block ?_
  rcases hq9 : iter (sched_First.r0 K l0 lg1_0 xg1_1 lg1_2 x2) K ((-1), 0) with _ | (z3 | rr1)
  · rw [hq9] at h; cases h
  · rw [hq9] at h
    simp only [] at h
    refine we_iter (A := sched_First.A0 K w0 l0 A0 c0 bg1_0 lg1_0 Ag1_0 cg1_0 bg1_1 xg1_1 bg1_2 lg1_2 Ag1_2 cg1_2 x2 hR0 hL0 hRg1_0 hLg1_0 hBg1_0 hBg1_1 hRg1_2 hLg1_2 hBg1_2) (B := sched_First.B0 K w0 l0 A0 c0 bg1_0 lg1_0 Ag1_0 cg1_0 bg1_1 xg1_1 bg1_2 lg1_2 Ag1_2 cg1_2 x2 hR0 hL0 hRg1_0 hLg1_0 hBg1_0 hBg1_1 hRg1_2 hLg1_2 hBg1_2) hq9 (fun a hF => ⟨hS, hF.weaken ⟨by kernel_rfl, by kernel_rfl, by kernel_rfl, by kernel_rfl, by kernel_rfl, by kernel_rfl, by kernel_rfl, trivial⟩⟩) (fun s o hf a w hA Q hQ => sched_First_r0 K w0 l0 A0 c0 bg1_0 lg1_0 Ag1_0 cg1_0 bg1_1 xg1_1 bg1_2 lg1_2 Ag1_2 cg1_2 x2 hR0 hL0 hRg1_0 hLg1_0 hBg1_0 hBg1_1 hRg1_2 hLg1_2 hBg1_2 s o hf a w hA Q hQ) ?_
    rintro _ a w13 _ ⟨rfl, hS29, hF⟩
    replace hS29 : St w0 w13 [] := hS29
    refine hK3 [(7, .int .i64 z3)] w13 ?_ a hF
    refine we_seq fun K12 hK12 => ?_
    refine we_region [(0, 0), (1, 0)] rfl ?_
    refine ge_batch [0, 1] (ans := []) (vs := [(6, .int .i64 z3), (46, .int .i64 z3)]) (l := []) (by kernel_rfl) trivial ?_
    refine ge_nil fun a hF => hK12 _ _ ?_ a hF
    obtain rfl := Option.some.inj h
    exact we_ret (post_ret (rs := [.tmp 6]) (ans := []) (vs := [.int .i64 z3]) (l := []) rfl (by kernel_rfl) trivial ⟨rfl, hS29⟩)
  · rw [hq9] at h
    simp only [] at h
    refine we_iter (A := sched_First.A0 K w0 l0 A0 c0 bg1_0 lg1_0 Ag1_0 cg1_0 bg1_1 xg1_1 bg1_2 lg1_2 Ag1_2 cg1_2 x2 hR0 hL0 hRg1_0 hLg1_0 hBg1_0 hBg1_1 hRg1_2 hLg1_2 hBg1_2) (B := sched_First.B0 K w0 l0 A0 c0 bg1_0 lg1_0 Ag1_0 cg1_0 bg1_1 xg1_1 bg1_2 lg1_2 Ag1_2 cg1_2 x2 hR0 hL0 hRg1_0 hLg1_0 hBg1_0 hBg1_1 hRg1_2 hLg1_2 hBg1_2) hq9 (fun a hF => ⟨hS, hF.weaken ⟨by kernel_rfl, by kernel_rfl, by kernel_rfl, by kernel_rfl, by kernel_rfl, by kernel_rfl, by kernel_rfl, trivial⟩⟩) (fun s o hf a w hA Q hQ => sched_First_r0 K w0 l0 A0 c0 bg1_0 lg1_0 Ag1_0 cg1_0 bg1_1 xg1_1 bg1_2 lg1_2 Ag1_2 cg1_2 x2 hR0 hL0 hRg1_0 hLg1_0 hBg1_0 hBg1_1 hRg1_2 hLg1_2 hBg1_2 s o hf a w hA Q hQ) ?_
    rintro _ a w1 _ ⟨rfl, hb⟩
    obtain rfl := Option.some.inj h
    exact hb

structure SPlayed where
  Runs : List Int
  Ends : List Int

/-! punctual/sched.Play -/
abbrev sched_Play.Post (w0 : World) (r : SPlayed × SFault) (e : Ending) (w : World) : Prop := ∃ (v0 : Value) (v1 : Value), e = .returned (.tuple #[.agg #[v0, v1], .agg #[.int .i64 r.2.Code, .int .i64 r.2.At]]) ∧ St w0 w [Own.of v0 3 r.1.Runs, Own.of v1 3 r.1.Ends]
def sched_Play.p0 (x1 : Int) : Option (Unit ⊕ (SPlayed × SFault)) :=
    if (sched_rule.f x1) = 0 then
      some (.inr ((⟨([] : List Int), ([] : List Int)⟩ : SPlayed), (⟨6, 0⟩ : SFault)))
    else
      if (sched_rule.f x1) = 48 then
        some (.inl ())
      else
        if (sched_rule.f x1) = 49 then
          some (.inl ())
        else
          none
def sched_Play.p1 (x3 : Int) : Option (Unit ⊕ (SPlayed × SFault)) :=
    if x3 < 0 then
      some (.inr ((⟨([] : List Int), ([] : List Int)⟩ : SPlayed), (⟨3, 0⟩ : SFault)))
    else
      if x3 > 20000 then
        some (.inr ((⟨([] : List Int), ([] : List Int)⟩ : SPlayed), (⟨3, 0⟩ : SFault)))
      else
        some (.inl ())
def sched_Play.p2 (l0 : List SJob) (x3 : Int) : Option (((List Int) × (List Int)) ⊕ (SPlayed × SFault)) :=
    if 0 ≤ x3 then
      if ((x3).toNat) ≤ 17592186044416 then
        if l0.length ≤ 17592186044416 then
          some (.inl ((List.replicate ((x3).toNat) (0 : Int)), (List.replicate l0.length (0 : Int))))
        else
          none
      else
        none
    else
      none
def sched_Play.r3 (l0 : List SJob) : Nat × (List Int) × (List Int) → Option ((Nat × (List Int) × (List Int)) ⊕ (((List Int) × (List Int)) ⊕ (SPlayed × SFault)))
  | (i1, m5, m6) =>
    if (i1 : Int) < (l0.length : Int) then
      match l0[i1]? with
      | none => none
      | some e1 =>
        match m5[i1]? with
        | none => none
        | some e2 =>
          match m6[i1]? with
          | none => none
          | some e3 =>
            some (.inl ((i1 + 1), (m5.set i1 e1.C), (m6.set i1 (-1))))
    else
      some (.inr (.inl (m5, m6)))
def sched_Play.p5 (K : Nat) (l0 : List SJob) (x1 : Int) (x2 : Bool) (z1 : Int) (z2 : Int) (m11 : List Int) : Option (Int ⊕ (SPlayed × SFault)) :=
    if x2 = true then
      match sched_First.f K l0 l0 z2 m11 x1 with
      | none => none
      | some r2 =>
        some (.inl r2)
    else
      if z1 < 0 then
        match sched_First.f K l0 l0 z2 m11 x1 with
        | none => none
        | some r3 =>
          some (.inl r3)
      else
        if 0 ≤ z1 then
          match m11[(z1).toNat]? with
          | none => none
          | some e4 =>
            if e4 = 0 then
              match sched_First.f K l0 l0 z2 m11 x1 with
              | none => none
              | some r4 =>
                some (.inl r4)
            else
              some (.inl z1)
        else
          none
def sched_Play.r4 (K : Nat) (l0 : List SJob) (x1 : Int) (x2 : Bool) (x3 : Int) : Int × Int × (List Int) × (List Int) × (List Int) → Option ((Int × Int × (List Int) × (List Int) × (List Int)) ⊕ (((List Int) × (List Int)) ⊕ (SPlayed × SFault)))
  | (z1, z2, m11, m12, m13) =>
    if z2 < x3 then
      match sched_Play.p5 K l0 x1 x2 z1 z2 m11 with
      | none => none
      | some (.inl z4) =>
        if 0 ≤ z2 then
          match m12[(z2).toNat]? with
          | none => none
          | some e5 =>
            if z4 < 0 then
              some (.inl (z4, IntKind.i64.wrap (z2 + 1), m11, (m12.set ((z2).toNat) z4), m13))
            else
              if 0 ≤ z4 then
                match m11[(z4).toNat]? with
                | none => none
                | some e6 =>
                  match (m11.set ((z4).toNat) (IntKind.i64.wrap (e6 - 1)))[(z4).toNat]? with
                  | none => none
                  | some e7 =>
                    if e7 = 0 then
                      match m13[(z4).toNat]? with
                      | none => none
                      | some e8 =>
                        some (.inl (z4, IntKind.i64.wrap (z2 + 1), (m11.set ((z4).toNat) (IntKind.i64.wrap (e6 - 1))), (m12.set ((z2).toNat) z4), (m13.set ((z4).toNat) (IntKind.i64.wrap (z2 + 1)))))
                    else
                      some (.inl (z4, IntKind.i64.wrap (z2 + 1), (m11.set ((z4).toNat) (IntKind.i64.wrap (e6 - 1))), (m12.set ((z2).toNat) z4), m13))
              else
                none
        else
          none
      | some (.inr rr1) =>
        some (.inr (.inr rr1))
    else
      some (.inr (.inl (m12, m13)))
def sched_Play.p6 (r1 : SFault) : Option ((Int × Int × (List Int) × (List Int)) ⊕ (SPlayed × SFault)) :=
    some (.inl (r1.Code, r1.At, ([] : List Int), ([] : List Int)))
def sched_Play.f (K : Nat) (l0 : List SJob) (x1 : Int) (x2 : Bool) (x3 : Int) : Option (SPlayed × SFault) :=
  match sched_Check.f K l0 with
  | none => none
  | some r1 =>
    if r1.Code = 0 then
      match sched_Play.p0 x1 with
      | none => none
      | some (.inl _) =>
        match sched_Play.p1 x3 with
        | none => none
        | some (.inl _) =>
          match sched_Play.p2 l0 x3 with
          | none => none
          | some (.inl (m3, m4)) =>
            if l0.length ≤ 17592186044416 then
              match iter (sched_Play.r3 l0) K (0, (List.replicate l0.length (0 : Int)), m4) with
              | none => none
              | some (.inl (m9, m10)) =>
                match iter (sched_Play.r4 K l0 x1 x2 x3) K ((-1), 0, m9, m3, m10) with
                | none => none
                | some (.inl (m16, m17)) =>
                  some ((⟨m16, m17⟩ : SPlayed), (⟨0, 0⟩ : SFault))
                | some (.inr rr2) =>
                  some rr2
              | some (.inr rr3) =>
                some rr3
            else
              none
          | some (.inr rr4) =>
            some rr4
        | some (.inr rr5) =>
          some rr5
      | some (.inr rr6) =>
        some rr6
    else
      match sched_Play.p6 r1 with
      | none => none
      | some (.inl (z7, z8, m20, m21)) =>
        some ((⟨m20, m21⟩ : SPlayed), (⟨z7, z8⟩ : SFault))
      | some (.inr rr7) =>
        some rr7
abbrev sched_Play.A0 (K : Nat) (w0 : World) (l0 : List SJob) (A0 : Option Addr) (c0 : Nat) (x1 : Int) (x2 : Bool) (x3 : Int) (hR0 : RdL w0 A0 l0) (hL0 : l0.length ≤ c0) (b1 : Nat) (b2 : Nat) (b3 : Nat) (r1 : SFault) (b4 : Nat) (hc1 : r1.Code = 0) : Unit → Act → World → Prop := fun (s : Unit) a w => St w0 w [Own.blk b3 (.cells #[.int .i64 0, .int .i64 0] 29 (0, 0)), Own.blk b2 (.cells #[.slice none 0 0, .slice none 0 0] 37 (0, 0)), Own.blk b1 (.cells #[.slice A0 l0.length c0] 32 (0, 0))] ∧ Frm 110 a [(1, .int .i64 x1), (2, .bool x2), (3, .int .i64 x3), (4, .pointer (some ⟨b1, 0, none⟩)), (8, .pointer (some ⟨b2, 0, none⟩)), (9, .pointer (some ⟨b3, 0, none⟩))]
abbrev sched_Play.B0 (K : Nat) (w0 : World) (l0 : List SJob) (A0 : Option Addr) (c0 : Nat) (x1 : Int) (x2 : Bool) (x3 : Int) (hR0 : RdL w0 A0 l0) (hL0 : l0.length ≤ c0) (b1 : Nat) (b2 : Nat) (b3 : Nat) (r1 : SFault) (b4 : Nat) (hc1 : r1.Code = 0) : (SPlayed × SFault) → Exit → Act → World → Prop := Rets Try.prog Try.f13 (sched_Play.Post w0)
theorem sched_Play_p0 (K : Nat) (w0 : World) (l0 : List SJob) (A0 : Option Addr) (c0 : Nat) (x1 : Int) (x2 : Bool) (x3 : Int) (hR0 : RdL w0 A0 l0) (hL0 : l0.length ≤ c0) (b1 : Nat) (b2 : Nat) (b3 : Nat) (r1 : SFault) (b4 : Nat) (hc1 : r1.Code = 0) (o : Unit ⊕ (SPlayed × SFault)) (h : sched_Play.p0 x1 = some o) (w : World) (hS : St w0 w [Own.blk b4 (.cells #[.int .i64 r1.Code, .int .i64 r1.At] 29 (0, 0)), Own.blk b3 (.cells #[.int .i64 0, .int .i64 0] 29 (0, 0)), Own.blk b2 (.cells #[.slice none 0 0, .slice none 0 0] 37 (0, 0)), Own.blk b1 (.cells #[.slice A0 l0.length c0] 32 (0, 0))]) (Q : Exit → Act → World → Prop) (hQ : ∀ x a w, Outs (sched_Play.A0 K w0 l0 A0 c0 x1 x2 x3 hR0 hL0 b1 b2 b3 r1 b4 hc1) (sched_Play.B0 K w0 l0 A0 c0 x1 x2 x3 hR0 hL0 b1 b2 b3 r1 b4 hc1) o x a w → Q x a w) : WE Try.prog 110 (subF Try.f13 [1, 1, 0]) Q [(0, .slice A0 l0.length c0), (1, .int .i64 x1), (2, .bool x2), (3, .int .i64 x3), (4, .pointer (some ⟨b1, 0, none⟩)), (8, .pointer (some ⟨b2, 0, none⟩)), (9, .pointer (some ⟨b3, 0, none⟩)), (10, .pointer (some ⟨b4, 0, none⟩)), (17, .slice A0 l0.length c0), (18, .agg #[.int .i64 r1.Code, .int .i64 r1.At]), (19, .pointer (some ⟨b4, 0, none⟩)), (20, .int .i64 r1.Code), (21, .bool false)] w := by
  simp only [sched_Play.p0] at h
  refine we_seq fun K6 hK6 => ?_
  refine we_region [(0, 0), (1, 1), (2, 0)] rfl ?_
  refine ge_batch [0] (ans := []) (vs := [(24, .int .i64 x1)]) (l := []) (by kernel_rfl) trivial ?_
  refine ge_call (d := some 25) (f := 28) (args := #[.int .i64 x1]) (by kernel_rfl) (sched_rule_ok x1 _ _ rfl) ?_
  rintro _ w7 ⟨rfl, hS9⟩
  refine ⟨_, rfl, hS9.below, ?_⟩
  have hS10 := hS.call hS9
  by_cases hc2 : (sched_rule.f x1) = 0
  · rw [if_pos hc2] at h
    refine ge_same (t := 25) (v := fnVal (sched_rule.f x1)) (v' := .nilFunc) (by kernel_rfl) (by rw [hc2]; rfl) ?_
    refine ge_batch [2] (ans := []) (vs := [(26, .bool true)]) (l := []) (by kernel_rfl) trivial ?_
    refine ge_nil fun a hF => hK6 _ _ ?_ a hF
    refine we_true (by kernel_rfl) ?_
    refine we_seq fun K7 hK7 => ?_
    refine we_region [(0, 0), (1, 0), (2, 2), (3, 2)] rfl ?_
    refine ge_batch [0, 1] (ans := []) (vs := [(28, .agg #[.int .i64 6, .int .i64 0]), (27, .agg #[.slice none 0 0, .slice none 0 0])]) (l := []) (by kernel_rfl) trivial ?_
    have hS11 := hS10.bring 2 rfl
    refine ge_set (b := b2) (j := 0) (cs := #[.slice none 0 0, .slice none 0 0]) (t := 37) (vs := [.slice none 0 0, .slice none 0 0]) hS11 (by kernel_rfl) rfl rfl fun w8 hS12 => ?_
    have hS13 : St w0 w8 [Own.blk b2 (.cells #[.slice none 0 0, .slice none 0 0] 37 (0, 0)), Own.blk b4 (.cells #[.int .i64 r1.Code, .int .i64 r1.At] 29 (0, 0)), Own.blk b3 (.cells #[.int .i64 0, .int .i64 0] 29 (0, 0)), Own.blk b1 (.cells #[.slice A0 l0.length c0] 32 (0, 0))] := hS12
    have hS14 := hS13.bring 2 rfl
    refine ge_set (b := b3) (j := 0) (cs := #[.int .i64 0, .int .i64 0]) (t := 29) (vs := [.int .i64 6, .int .i64 0]) hS14 (by kernel_rfl) rfl rfl fun w9 hS15 => ?_
    have hS16 : St w0 w9 [Own.blk b3 (.cells #[.int .i64 6, .int .i64 0] 29 (0, 0)), Own.blk b2 (.cells #[.slice none 0 0, .slice none 0 0] 37 (0, 0)), Own.blk b4 (.cells #[.int .i64 r1.Code, .int .i64 r1.At] 29 (0, 0)), Own.blk b1 (.cells #[.slice A0 l0.length c0] 32 (0, 0))] := hS15
    refine ge_nil fun a hF => hK7 _ _ ?_ a hF
    have hS17 := hS16.nil (α := Int) 3
    have hS18 := hS17.nil (α := Int) 3
    have hS19 := hS18.bring 1 rfl
    have hS20 := hS19.bring 1 rfl
    have hS21 := hS20.takeN 2
    obtain rfl := Option.some.inj h
    exact we_ret fun a hF => hQ _ _ _ (Outs.out nofun ⟨rfl, (post_ret (rs := [.cell 8 37, .cell 9 29]) (ans := [.val ((.slice none 0 0)), .val ((.slice none 0 0)), .val (.int .i64 6), .val (.int .i64 0)]) (vs := [.agg #[(.slice none 0 0), (.slice none 0 0)], .agg #[.int .i64 6, .int .i64 0]]) (l := [.loaded ⟨b2, 0, none⟩ ((.slice none 0 0)), .loaded ⟨b2, 1, none⟩ ((.slice none 0 0)), .loaded ⟨b3, 0, none⟩ (.int .i64 6), .loaded ⟨b3, 1, none⟩ (.int .i64 0)]) rfl (by kernel_rfl) ⟨hS18.cell 3 rfl rfl, hS18.cell 3 rfl rfl, hS18.cell 2 rfl rfl, hS18.cell 2 rfl rfl, trivial⟩ ⟨(.slice none 0 0), (.slice none 0 0), rfl, hS21⟩) a hF⟩)
  · rw [if_neg hc2] at h
    by_cases hc3 : (sched_rule.f x1) = 48
    · rw [if_pos hc3] at h
      refine ge_same (t := 25) (v := fnVal (sched_rule.f x1)) (v' := .func (.func 47) #[] #[]) (by kernel_rfl) (by rw [hc3]; rfl) ?_
      refine ge_batch [2] (ans := []) (vs := [(26, .bool false)]) (l := []) (by kernel_rfl) trivial ?_
      refine ge_nil fun a hF => hK6 _ _ ?_ a hF
      refine we_false (by kernel_rfl) ?_
      have hS22 := hS10.bring 3 rfl
      have hS23 := hS22.bring 3 rfl
      have hS24 := hS23.bring 3 rfl
      have hS25 := hS24.takeN 3
      obtain rfl := Option.some.inj h
      exact we_skip fun a hF => hQ _ _ _ (Outs.again ⟨hS25, hF.weaken ⟨by kernel_rfl, by kernel_rfl, by kernel_rfl, by kernel_rfl, by kernel_rfl, by kernel_rfl, trivial⟩⟩)
    · rw [if_neg hc3] at h
      by_cases hc4 : (sched_rule.f x1) = 49
      · rw [if_pos hc4] at h
        refine ge_same (t := 25) (v := fnVal (sched_rule.f x1)) (v' := .func (.func 48) #[] #[]) (by kernel_rfl) (by rw [hc4]; rfl) ?_
        refine ge_batch [2] (ans := []) (vs := [(26, .bool false)]) (l := []) (by kernel_rfl) trivial ?_
        refine ge_nil fun a hF => hK6 _ _ ?_ a hF
        refine we_false (by kernel_rfl) ?_
        have hS26 := hS10.bring 3 rfl
        have hS27 := hS26.bring 3 rfl
        have hS28 := hS27.bring 3 rfl
        have hS29 := hS28.takeN 3
        obtain rfl := Option.some.inj h
        exact we_skip fun a hF => hQ _ _ _ (Outs.again ⟨hS29, hF.weaken ⟨by kernel_rfl, by kernel_rfl, by kernel_rfl, by kernel_rfl, by kernel_rfl, by kernel_rfl, trivial⟩⟩)
      · rw [if_neg hc4] at h
        cases h
abbrev sched_Play.A1 (K : Nat) (w0 : World) (l0 : List SJob) (A0 : Option Addr) (c0 : Nat) (x1 : Int) (x2 : Bool) (x3 : Int) (hR0 : RdL w0 A0 l0) (hL0 : l0.length ≤ c0) (b1 : Nat) (b2 : Nat) (b3 : Nat) (r1 : SFault) (b4 : Nat) (hc1 : r1.Code = 0) : Unit → Act → World → Prop := fun (s : Unit) a w => St w0 w [Own.blk b3 (.cells #[.int .i64 0, .int .i64 0] 29 (0, 0)), Own.blk b2 (.cells #[.slice none 0 0, .slice none 0 0] 37 (0, 0)), Own.blk b1 (.cells #[.slice A0 l0.length c0] 32 (0, 0))] ∧ Frm 110 a [(1, .int .i64 x1), (2, .bool x2), (3, .int .i64 x3), (4, .pointer (some ⟨b1, 0, none⟩)), (8, .pointer (some ⟨b2, 0, none⟩)), (9, .pointer (some ⟨b3, 0, none⟩))]
abbrev sched_Play.B1 (K : Nat) (w0 : World) (l0 : List SJob) (A0 : Option Addr) (c0 : Nat) (x1 : Int) (x2 : Bool) (x3 : Int) (hR0 : RdL w0 A0 l0) (hL0 : l0.length ≤ c0) (b1 : Nat) (b2 : Nat) (b3 : Nat) (r1 : SFault) (b4 : Nat) (hc1 : r1.Code = 0) : (SPlayed × SFault) → Exit → Act → World → Prop := Rets Try.prog Try.f13 (sched_Play.Post w0)
theorem sched_Play_p1 (K : Nat) (w0 : World) (l0 : List SJob) (A0 : Option Addr) (c0 : Nat) (x1 : Int) (x2 : Bool) (x3 : Int) (hR0 : RdL w0 A0 l0) (hL0 : l0.length ≤ c0) (b1 : Nat) (b2 : Nat) (b3 : Nat) (r1 : SFault) (b4 : Nat) (hc1 : r1.Code = 0) (o : Unit ⊕ (SPlayed × SFault)) (h : sched_Play.p1 x3 = some o) (w : World) (hS : St w0 w [Own.blk b3 (.cells #[.int .i64 0, .int .i64 0] 29 (0, 0)), Own.blk b2 (.cells #[.slice none 0 0, .slice none 0 0] 37 (0, 0)), Own.blk b1 (.cells #[.slice A0 l0.length c0] 32 (0, 0))]) (Q : Exit → Act → World → Prop) (hQ : ∀ x a w, Outs (sched_Play.A1 K w0 l0 A0 c0 x1 x2 x3 hR0 hL0 b1 b2 b3 r1 b4 hc1) (sched_Play.B1 K w0 l0 A0 c0 x1 x2 x3 hR0 hL0 b1 b2 b3 r1 b4 hc1) o x a w → Q x a w) : WE Try.prog 110 (subF Try.f13 [1, 1, 1, 0]) Q [(1, .int .i64 x1), (2, .bool x2), (3, .int .i64 x3), (4, .pointer (some ⟨b1, 0, none⟩)), (8, .pointer (some ⟨b2, 0, none⟩)), (9, .pointer (some ⟨b3, 0, none⟩))] w := by
  simp only [sched_Play.p1] at h
  refine we_seq fun K9 hK9 => ?_
  refine we_region [(0, 0), (1, 0), (2, 0), (3, 0), (4, 0), (5, 0)] rfl ?_
  refine ge_batch [0, 1, 2] (ans := []) (vs := [(31, .bool (decide (x3 < 0))), (30, .bool (decide (x3 < 0))), (29, .int .i64 x3)]) (l := []) (by kernel_rfl) trivial ?_
  by_cases hc5 : x3 < 0
  · rw [if_pos hc5] at h
    refine ge_known (t := 31) (b := decide (x3 < 0)) (c := true) (by kernel_rfl) (decide_eq_true hc5) ?_
    refine ge_batch [3, 4, 5] (ans := []) (vs := [(34, .bool true), (33, undef), (32, undef)]) (l := []) (by kernel_rfl) trivial ?_
    refine ge_nil fun a hF => hK9 _ _ ?_ a hF
    refine we_true (by kernel_rfl) ?_
    refine we_seq fun K10 hK10 => ?_
    refine we_region [(0, 0), (1, 0), (2, 2), (3, 2)] rfl ?_
    refine ge_batch [0, 1] (ans := []) (vs := [(36, .agg #[.int .i64 3, .int .i64 0]), (35, .agg #[.slice none 0 0, .slice none 0 0])]) (l := []) (by kernel_rfl) trivial ?_
    have hS31 := hS.bring 1 rfl
    refine ge_set (b := b2) (j := 0) (cs := #[.slice none 0 0, .slice none 0 0]) (t := 37) (vs := [.slice none 0 0, .slice none 0 0]) hS31 (by kernel_rfl) rfl rfl fun w11 hS32 => ?_
    have hS33 : St w0 w11 [Own.blk b2 (.cells #[.slice none 0 0, .slice none 0 0] 37 (0, 0)), Own.blk b3 (.cells #[.int .i64 0, .int .i64 0] 29 (0, 0)), Own.blk b1 (.cells #[.slice A0 l0.length c0] 32 (0, 0))] := hS32
    have hS34 := hS33.bring 1 rfl
    refine ge_set (b := b3) (j := 0) (cs := #[.int .i64 0, .int .i64 0]) (t := 29) (vs := [.int .i64 3, .int .i64 0]) hS34 (by kernel_rfl) rfl rfl fun w12 hS35 => ?_
    have hS36 : St w0 w12 [Own.blk b3 (.cells #[.int .i64 3, .int .i64 0] 29 (0, 0)), Own.blk b2 (.cells #[.slice none 0 0, .slice none 0 0] 37 (0, 0)), Own.blk b1 (.cells #[.slice A0 l0.length c0] 32 (0, 0))] := hS35
    refine ge_nil fun a hF => hK10 _ _ ?_ a hF
    have hS37 := hS36.nil (α := Int) 3
    have hS38 := hS37.nil (α := Int) 3
    have hS39 := hS38.bring 1 rfl
    have hS40 := hS39.bring 1 rfl
    have hS41 := hS40.takeN 2
    obtain rfl := Option.some.inj h
    exact we_ret fun a hF => hQ _ _ _ (Outs.out nofun ⟨rfl, (post_ret (rs := [.cell 8 37, .cell 9 29]) (ans := [.val ((.slice none 0 0)), .val ((.slice none 0 0)), .val (.int .i64 3), .val (.int .i64 0)]) (vs := [.agg #[(.slice none 0 0), (.slice none 0 0)], .agg #[.int .i64 3, .int .i64 0]]) (l := [.loaded ⟨b2, 0, none⟩ ((.slice none 0 0)), .loaded ⟨b2, 1, none⟩ ((.slice none 0 0)), .loaded ⟨b3, 0, none⟩ (.int .i64 3), .loaded ⟨b3, 1, none⟩ (.int .i64 0)]) rfl (by kernel_rfl) ⟨hS38.cell 3 rfl rfl, hS38.cell 3 rfl rfl, hS38.cell 2 rfl rfl, hS38.cell 2 rfl rfl, trivial⟩ ⟨(.slice none 0 0), (.slice none 0 0), rfl, hS41⟩) a hF⟩)
  · rw [if_neg hc5] at h
    refine ge_known (t := 31) (b := decide (x3 < 0)) (c := false) (by kernel_rfl) (decide_eq_false hc5) ?_
    refine ge_batch [3, 4, 5] (ans := []) (vs := [(34, .bool (decide (x3 > 20000))), (33, .bool (decide (x3 > 20000))), (32, .int .i64 x3)]) (l := []) (by kernel_rfl) trivial ?_
    refine ge_nil fun a hF => hK9 _ _ ?_ a hF
    by_cases hc6 : x3 > 20000
    · rw [if_pos hc6] at h
      refine we_known (t := 34) (b := decide (x3 > 20000)) (v := true) (by kernel_rfl) (decide_eq_true hc6) ?_
      refine we_true (by kernel_rfl) ?_
      refine we_seq fun K11 hK11 => ?_
      refine we_region [(0, 0), (1, 0), (2, 2), (3, 2)] rfl ?_
      refine ge_batch [0, 1] (ans := []) (vs := [(36, .agg #[.int .i64 3, .int .i64 0]), (35, .agg #[.slice none 0 0, .slice none 0 0])]) (l := []) (by kernel_rfl) trivial ?_
      have hS42 := hS.bring 1 rfl
      refine ge_set (b := b2) (j := 0) (cs := #[.slice none 0 0, .slice none 0 0]) (t := 37) (vs := [.slice none 0 0, .slice none 0 0]) hS42 (by kernel_rfl) rfl rfl fun w13 hS43 => ?_
      have hS44 : St w0 w13 [Own.blk b2 (.cells #[.slice none 0 0, .slice none 0 0] 37 (0, 0)), Own.blk b3 (.cells #[.int .i64 0, .int .i64 0] 29 (0, 0)), Own.blk b1 (.cells #[.slice A0 l0.length c0] 32 (0, 0))] := hS43
      have hS45 := hS44.bring 1 rfl
      refine ge_set (b := b3) (j := 0) (cs := #[.int .i64 0, .int .i64 0]) (t := 29) (vs := [.int .i64 3, .int .i64 0]) hS45 (by kernel_rfl) rfl rfl fun w14 hS46 => ?_
      have hS47 : St w0 w14 [Own.blk b3 (.cells #[.int .i64 3, .int .i64 0] 29 (0, 0)), Own.blk b2 (.cells #[.slice none 0 0, .slice none 0 0] 37 (0, 0)), Own.blk b1 (.cells #[.slice A0 l0.length c0] 32 (0, 0))] := hS46
      refine ge_nil fun a hF => hK11 _ _ ?_ a hF
      have hS48 := hS47.nil (α := Int) 3
      have hS49 := hS48.nil (α := Int) 3
      have hS50 := hS49.bring 1 rfl
      have hS51 := hS50.bring 1 rfl
      have hS52 := hS51.takeN 2
      obtain rfl := Option.some.inj h
      exact we_ret fun a hF => hQ _ _ _ (Outs.out nofun ⟨rfl, (post_ret (rs := [.cell 8 37, .cell 9 29]) (ans := [.val ((.slice none 0 0)), .val ((.slice none 0 0)), .val (.int .i64 3), .val (.int .i64 0)]) (vs := [.agg #[(.slice none 0 0), (.slice none 0 0)], .agg #[.int .i64 3, .int .i64 0]]) (l := [.loaded ⟨b2, 0, none⟩ ((.slice none 0 0)), .loaded ⟨b2, 1, none⟩ ((.slice none 0 0)), .loaded ⟨b3, 0, none⟩ (.int .i64 3), .loaded ⟨b3, 1, none⟩ (.int .i64 0)]) rfl (by kernel_rfl) ⟨hS49.cell 3 rfl rfl, hS49.cell 3 rfl rfl, hS49.cell 2 rfl rfl, hS49.cell 2 rfl rfl, trivial⟩ ⟨(.slice none 0 0), (.slice none 0 0), rfl, hS52⟩) a hF⟩)
    · rw [if_neg hc6] at h
      refine we_known (t := 34) (b := decide (x3 > 20000)) (v := false) (by kernel_rfl) (decide_eq_false hc6) ?_
      refine we_false (by kernel_rfl) ?_
      have hS53 := hS.bring 2 rfl
      have hS54 := hS53.bring 2 rfl
      have hS55 := hS54.bring 2 rfl
      obtain rfl := Option.some.inj h
      exact we_skip fun a hF => hQ _ _ _ (Outs.again ⟨hS55, hF.weaken ⟨by kernel_rfl, by kernel_rfl, by kernel_rfl, by kernel_rfl, by kernel_rfl, by kernel_rfl, trivial⟩⟩)
abbrev sched_Play.A2 (K : Nat) (w0 : World) (l0 : List SJob) (A0 : Option Addr) (c0 : Nat) (x1 : Int) (x2 : Bool) (x3 : Int) (hR0 : RdL w0 A0 l0) (hL0 : l0.length ≤ c0) (b1 : Nat) (b2 : Nat) (b3 : Nat) (r1 : SFault) (b4 : Nat) (hc1 : r1.Code = 0) : ((List Int) × (List Int)) → Act → World → Prop := fun (s : (List Int) × (List Int)) a w => ∃ (b5 : Nat) (v1 : Value) (v2 : Value), St w0 w [Own.blk b5 (.cells #[v1, v2] 37 (0, 0)), Own.blk b3 (.cells #[.int .i64 0, .int .i64 0] 29 (0, 0)), Own.blk b2 (.cells #[.slice none 0 0, .slice none 0 0] 37 (0, 0)), Own.blk b1 (.cells #[.slice A0 l0.length c0] 32 (0, 0)), Own.of v1 3 s.1, Own.of v2 3 s.2] ∧ Frm 110 a [(1, .int .i64 x1), (2, .bool x2), (3, .int .i64 x3), (4, .pointer (some ⟨b1, 0, none⟩)), (8, .pointer (some ⟨b2, 0, none⟩)), (9, .pointer (some ⟨b3, 0, none⟩)), (11, .pointer (some ⟨b5, 0, none⟩))]
abbrev sched_Play.B2 (K : Nat) (w0 : World) (l0 : List SJob) (A0 : Option Addr) (c0 : Nat) (x1 : Int) (x2 : Bool) (x3 : Int) (hR0 : RdL w0 A0 l0) (hL0 : l0.length ≤ c0) (b1 : Nat) (b2 : Nat) (b3 : Nat) (r1 : SFault) (b4 : Nat) (hc1 : r1.Code = 0) : (SPlayed × SFault) → Exit → Act → World → Prop := Rets Try.prog Try.f13 (sched_Play.Post w0)
theorem sched_Play_p2 (K : Nat) (w0 : World) (l0 : List SJob) (A0 : Option Addr) (c0 : Nat) (x1 : Int) (x2 : Bool) (x3 : Int) (hR0 : RdL w0 A0 l0) (hL0 : l0.length ≤ c0) (b1 : Nat) (b2 : Nat) (b3 : Nat) (r1 : SFault) (b4 : Nat) (hc1 : r1.Code = 0) (o : ((List Int) × (List Int)) ⊕ (SPlayed × SFault)) (h : sched_Play.p2 l0 x3 = some o) (w : World) (hS : St w0 w [Own.blk b3 (.cells #[.int .i64 0, .int .i64 0] 29 (0, 0)), Own.blk b2 (.cells #[.slice none 0 0, .slice none 0 0] 37 (0, 0)), Own.blk b1 (.cells #[.slice A0 l0.length c0] 32 (0, 0))]) (Q : Exit → Act → World → Prop) (hQ : ∀ x a w, Outs (sched_Play.A2 K w0 l0 A0 c0 x1 x2 x3 hR0 hL0 b1 b2 b3 r1 b4 hc1) (sched_Play.B2 K w0 l0 A0 c0 x1 x2 x3 hR0 hL0 b1 b2 b3 r1 b4 hc1) o x a w → Q x a w) : WE Try.prog 110 (subF Try.f13 [1, 1, 1, 1, 0]) Q [(1, .int .i64 x1), (2, .bool x2), (3, .int .i64 x3), (4, .pointer (some ⟨b1, 0, none⟩)), (8, .pointer (some ⟨b2, 0, none⟩)), (9, .pointer (some ⟨b3, 0, none⟩))] w := by
  simp only [sched_Play.p2] at h
  refine we_orders2 (by kernel_rfl) [(2, [⟨b1, 0, none⟩])] (.vals [0] (.vals [2] (.vals [3] (.alt 1 1 (.alt 4 1 (.vals [5] (.alt 6 1 (.alt 7 2 .fin .nomore) .nomore)) (.alt 6 1 (.alt 4 1 (.vals [5] (.alt 7 2 .fin .nomore)) .nomore) .nomore)) (.alt 4 1 (.alt 1 1 (.vals [5] (.alt 6 1 (.alt 7 2 .fin .nomore) .nomore)) (.alt 6 1 (.alt 1 1 (.vals [5] (.alt 7 2 .fin .nomore)) .nomore) .nomore)) (.alt 6 1 (.alt 1 1 (.alt 4 1 (.vals [5] (.alt 7 2 .fin .nomore)) .nomore) (.alt 4 1 (.alt 1 1 (.vals [5] (.alt 7 2 .fin .nomore)) .nomore) .nomore)) .nomore)))))) (by kernel_rfl) ?_
  have hS57 := hS.drew
  refine go2_batch [0] (ans := []) (vs := [(37, .int .i64 x3)]) (l := []) (by kernel_rfl) trivial mem_nil ?_
  refine go2_batch [2] (ans := [.val (.slice A0 l0.length c0)]) (vs := [(39, .slice A0 l0.length c0)]) (l := [.loaded ⟨b1, 0, none⟩ (.slice A0 l0.length c0)]) (by kernel_rfl) ⟨hS57.cell 2 rfl rfl, trivial⟩ (mem_one (by kernel_rfl)) ?_
  refine go2_batch [3] (ans := []) (vs := [(40, .int .i64 (l0.length : Int))]) (l := []) (by kernel_rfl) trivial mem_nil ?_
  by_cases hc7 : 0 ≤ x3
  · rw [if_pos hc7] at h
    by_cases hc8 : ((x3).toNat) ≤ 17592186044416
    · rw [if_pos hc8] at h
      by_cases hc9 : l0.length ≤ 17592186044416
      · rw [if_pos hc9] at h
        refine go_alt2 (fun KK hKK => ?_) ?_
        · refine ge_one2 ?_
          refine ge_make (α := Int) (d := 38) (t := 24) (el := 3) (bytes := 8) (l := ((x3).toNat)) (c := ((x3).toNat)) (x := (.tmp 37)) (y := (.tmp 37)) (ty := 24) (k1 := .i64) (k2 := .i64) (li := x3) (ci := x3) (z := .int .i64 0) (z' := (0 : Int)) (by kernel_rfl) (by kernel_rfl) (by kernel_rfl) (Int.toNat_of_nonneg hc7).symm (Int.toNat_of_nonneg hc7).symm (by kernel_rfl) (by kernel_rfl) rfl hS57 (Nat.le_refl _) rfl (by omega) fun v3 w16 _ hS58 => ?_
          refine ge_nil fun a hF => hKK _ _ (RS.of2 (l := [.loaded ⟨b1, 0, none⟩ (.slice A0 l0.length c0)]) (by kernel_rfl) ⟨hS57.cell 2 rfl rfl, trivial⟩ ⟨hS58.cell 3 rfl rfl, trivial⟩) ?_ a hF
          refine go_alt2 (fun KK hKK => ?_) ?_
          · refine ge_one2 ?_
            refine ge_make (α := Int) (d := 41) (t := 24) (el := 3) (bytes := 8) (l := l0.length) (c := l0.length) (x := (.tmp 40)) (y := (.tmp 40)) (ty := 24) (k1 := .i64) (k2 := .i64) (li := (l0.length : Int)) (ci := (l0.length : Int)) (z := .int .i64 0) (z' := (0 : Int)) (by kernel_rfl) (by kernel_rfl) (by kernel_rfl) rfl rfl (by kernel_rfl) (by kernel_rfl) rfl hS58 (Nat.le_refl _) rfl (by omega) fun v4 w17 _ hS59 => ?_
            refine ge_nil fun a hF => hKK _ _ (RS.of2 (l := [.loaded ⟨b1, 0, none⟩ (.slice A0 l0.length c0)]) (by kernel_rfl) ⟨hS58.cell 3 rfl rfl, trivial⟩ ⟨hS59.cell 4 rfl rfl, trivial⟩) ?_ a hF
            obtain ⟨Z1, cz1, rfl⟩ := hS59.open 1 rfl
            obtain ⟨Z2, cz2, rfl⟩ := hS59.open 0 rfl
            refine go2_batch [5] (ans := []) (vs := [(42, .agg #[(.slice Z1 (List.replicate ((x3).toNat) (0 : Int)).length cz1), (.slice Z2 (List.replicate l0.length (0 : Int)).length cz2)])]) (l := []) (by kernel_rfl) trivial mem_nil ?_
            refine go_alt2 (fun KK hKK => ?_) ?_
            · refine ge_one2 ?_
              refine ge_new (d := some 11) (o := .cells #[.slice none 0 0, .slice none 0 0] 37) (v := fun b => .pointer (some ⟨b, 0, none⟩)) hS59 (fun b => by kernel_rfl) fun b6 w18 hx5 hS60 => ?_
              refine ge_nil fun a hF => hKK _ _ (RS.of2 (l := [.loaded ⟨b1, 0, none⟩ (.slice A0 l0.length c0)]) (by kernel_rfl) ⟨hS59.cell 4 rfl rfl, trivial⟩ ⟨hS60.cell 5 rfl rfl, trivial⟩) ?_ a hF
              refine go_alt2 (fun KK hKK => ?_) ?_
              · refine ge_set (b := b6) (j := 0) (cs := #[.slice none 0 0, .slice none 0 0]) (t := 37) (vs := [(.slice Z1 (List.replicate ((x3).toNat) (0 : Int)).length cz1), (.slice Z2 (List.replicate l0.length (0 : Int)).length cz2)]) hS60 (by kernel_rfl) rfl rfl fun w19 hS61 => ?_
                have hS62 : St w0 w19 [Own.blk b6 (.cells #[(.slice Z1 (List.replicate ((x3).toNat) (0 : Int)).length cz1), (.slice Z2 (List.replicate l0.length (0 : Int)).length cz2)] 37 (0, 0)), Own.of (.slice Z2 (List.replicate l0.length (0 : Int)).length cz2) 3 (List.replicate l0.length (0 : Int)), Own.of (.slice Z1 (List.replicate ((x3).toNat) (0 : Int)).length cz1) 3 (List.replicate ((x3).toNat) (0 : Int)), Own.blk b3 (.cells #[.int .i64 0, .int .i64 0] 29 (0, 0)), Own.blk b2 (.cells #[.slice none 0 0, .slice none 0 0] 37 (0, 0)), Own.blk b1 (.cells #[.slice A0 l0.length c0] 32 (0, 0))] := hS61
                refine ge_nil fun a hF => hKK _ _ (RS.of2 (l := []) (by kernel_rfl) trivial trivial) ?_ a hF
                have hS63 := hS62.bring 1 rfl
                have hS64 := hS63.bring 2 rfl
                have hS65 := hS64.bring 5 rfl
                have hS66 := hS65.bring 5 rfl
                have hS67 := hS66.bring 5 rfl
                have hS68 := hS67.bring 5 rfl
                obtain rfl := Option.some.inj h
                exact go_fin2 fun a hF => hQ _ _ _ (Outs.again ⟨b6, (.slice Z1 (List.replicate ((x3).toNat) (0 : Int)).length cz1), (.slice Z2 (List.replicate l0.length (0 : Int)).length cz2), hS68, hF.weaken ⟨by kernel_rfl, by kernel_rfl, by kernel_rfl, by kernel_rfl, by kernel_rfl, by kernel_rfl, by kernel_rfl, trivial⟩⟩)
              exact go_nomore2
            exact go_nomore2
          refine go_alt2 (fun KK hKK => ?_) ?_
          · refine ge_one2 ?_
            refine ge_new (d := some 11) (o := .cells #[.slice none 0 0, .slice none 0 0] 37) (v := fun b => .pointer (some ⟨b, 0, none⟩)) hS58 (fun b => by kernel_rfl) fun b6 w17 hx5 hS59 => ?_
            refine ge_nil fun a hF => hKK _ _ (RS.of2 (l := [.loaded ⟨b1, 0, none⟩ (.slice A0 l0.length c0)]) (by kernel_rfl) ⟨hS58.cell 3 rfl rfl, trivial⟩ ⟨hS59.cell 4 rfl rfl, trivial⟩) ?_ a hF
            refine go_alt2 (fun KK hKK => ?_) ?_
            · refine ge_one2 ?_
              refine ge_make (α := Int) (d := 41) (t := 24) (el := 3) (bytes := 8) (l := l0.length) (c := l0.length) (x := (.tmp 40)) (y := (.tmp 40)) (ty := 24) (k1 := .i64) (k2 := .i64) (li := (l0.length : Int)) (ci := (l0.length : Int)) (z := .int .i64 0) (z' := (0 : Int)) (by kernel_rfl) (by kernel_rfl) (by kernel_rfl) rfl rfl (by kernel_rfl) (by kernel_rfl) rfl hS59 (Nat.le_refl _) rfl (by omega) fun v4 w18 _ hS60 => ?_
              refine ge_nil fun a hF => hKK _ _ (RS.of2 (l := [.loaded ⟨b1, 0, none⟩ (.slice A0 l0.length c0)]) (by kernel_rfl) ⟨hS59.cell 4 rfl rfl, trivial⟩ ⟨hS60.cell 5 rfl rfl, trivial⟩) ?_ a hF
              obtain ⟨Z1, cz1, rfl⟩ := hS60.open 2 rfl
              obtain ⟨Z2, cz2, rfl⟩ := hS60.open 0 rfl
              refine go2_batch [5] (ans := []) (vs := [(42, .agg #[(.slice Z1 (List.replicate ((x3).toNat) (0 : Int)).length cz1), (.slice Z2 (List.replicate l0.length (0 : Int)).length cz2)])]) (l := []) (by kernel_rfl) trivial mem_nil ?_
              refine go_alt2 (fun KK hKK => ?_) ?_
              · have hS61 := hS60.bring 1 rfl
                refine ge_set (b := b6) (j := 0) (cs := #[.slice none 0 0, .slice none 0 0]) (t := 37) (vs := [(.slice Z1 (List.replicate ((x3).toNat) (0 : Int)).length cz1), (.slice Z2 (List.replicate l0.length (0 : Int)).length cz2)]) hS61 (by kernel_rfl) rfl rfl fun w19 hS62 => ?_
                have hS63 : St w0 w19 [Own.blk b6 (.cells #[(.slice Z1 (List.replicate ((x3).toNat) (0 : Int)).length cz1), (.slice Z2 (List.replicate l0.length (0 : Int)).length cz2)] 37 (0, 0)), Own.of (.slice Z2 (List.replicate l0.length (0 : Int)).length cz2) 3 (List.replicate l0.length (0 : Int)), Own.of (.slice Z1 (List.replicate ((x3).toNat) (0 : Int)).length cz1) 3 (List.replicate ((x3).toNat) (0 : Int)), Own.blk b3 (.cells #[.int .i64 0, .int .i64 0] 29 (0, 0)), Own.blk b2 (.cells #[.slice none 0 0, .slice none 0 0] 37 (0, 0)), Own.blk b1 (.cells #[.slice A0 l0.length c0] 32 (0, 0))] := hS62
                refine ge_nil fun a hF => hKK _ _ (RS.of2 (l := []) (by kernel_rfl) trivial trivial) ?_ a hF
                have hS64 := hS63.bring 1 rfl
                have hS65 := hS64.bring 2 rfl
                have hS66 := hS65.bring 5 rfl
                have hS67 := hS66.bring 5 rfl
                have hS68 := hS67.bring 5 rfl
                have hS69 := hS68.bring 5 rfl
                obtain rfl := Option.some.inj h
                exact go_fin2 fun a hF => hQ _ _ _ (Outs.again ⟨b6, (.slice Z1 (List.replicate ((x3).toNat) (0 : Int)).length cz1), (.slice Z2 (List.replicate l0.length (0 : Int)).length cz2), hS69, hF.weaken ⟨by kernel_rfl, by kernel_rfl, by kernel_rfl, by kernel_rfl, by kernel_rfl, by kernel_rfl, by kernel_rfl, trivial⟩⟩)
              exact go_nomore2
            exact go_nomore2
          exact go_nomore2
        refine go_alt2 (fun KK hKK => ?_) ?_
        · refine ge_one2 ?_
          refine ge_make (α := Int) (d := 41) (t := 24) (el := 3) (bytes := 8) (l := l0.length) (c := l0.length) (x := (.tmp 40)) (y := (.tmp 40)) (ty := 24) (k1 := .i64) (k2 := .i64) (li := (l0.length : Int)) (ci := (l0.length : Int)) (z := .int .i64 0) (z' := (0 : Int)) (by kernel_rfl) (by kernel_rfl) (by kernel_rfl) rfl rfl (by kernel_rfl) (by kernel_rfl) rfl hS57 (Nat.le_refl _) rfl (by omega) fun v3 w16 _ hS58 => ?_
          refine ge_nil fun a hF => hKK _ _ (RS.of2 (l := [.loaded ⟨b1, 0, none⟩ (.slice A0 l0.length c0)]) (by kernel_rfl) ⟨hS57.cell 2 rfl rfl, trivial⟩ ⟨hS58.cell 3 rfl rfl, trivial⟩) ?_ a hF
          refine go_alt2 (fun KK hKK => ?_) ?_
          · refine ge_one2 ?_
            refine ge_make (α := Int) (d := 38) (t := 24) (el := 3) (bytes := 8) (l := ((x3).toNat)) (c := ((x3).toNat)) (x := (.tmp 37)) (y := (.tmp 37)) (ty := 24) (k1 := .i64) (k2 := .i64) (li := x3) (ci := x3) (z := .int .i64 0) (z' := (0 : Int)) (by kernel_rfl) (by kernel_rfl) (by kernel_rfl) (Int.toNat_of_nonneg hc7).symm (Int.toNat_of_nonneg hc7).symm (by kernel_rfl) (by kernel_rfl) rfl hS58 (Nat.le_refl _) rfl (by omega) fun v4 w17 _ hS59 => ?_
            refine ge_nil fun a hF => hKK _ _ (RS.of2 (l := [.loaded ⟨b1, 0, none⟩ (.slice A0 l0.length c0)]) (by kernel_rfl) ⟨hS58.cell 3 rfl rfl, trivial⟩ ⟨hS59.cell 4 rfl rfl, trivial⟩) ?_ a hF
            obtain ⟨Z1, cz1, rfl⟩ := hS59.open 0 rfl
            obtain ⟨Z2, cz2, rfl⟩ := hS59.open 1 rfl
            refine go2_batch [5] (ans := []) (vs := [(42, .agg #[(.slice Z1 (List.replicate ((x3).toNat) (0 : Int)).length cz1), (.slice Z2 (List.replicate l0.length (0 : Int)).length cz2)])]) (l := []) (by kernel_rfl) trivial mem_nil ?_
            refine go_alt2 (fun KK hKK => ?_) ?_
            · refine ge_one2 ?_
              refine ge_new (d := some 11) (o := .cells #[.slice none 0 0, .slice none 0 0] 37) (v := fun b => .pointer (some ⟨b, 0, none⟩)) hS59 (fun b => by kernel_rfl) fun b6 w18 hx5 hS60 => ?_
              refine ge_nil fun a hF => hKK _ _ (RS.of2 (l := [.loaded ⟨b1, 0, none⟩ (.slice A0 l0.length c0)]) (by kernel_rfl) ⟨hS59.cell 4 rfl rfl, trivial⟩ ⟨hS60.cell 5 rfl rfl, trivial⟩) ?_ a hF
              refine go_alt2 (fun KK hKK => ?_) ?_
              · refine ge_set (b := b6) (j := 0) (cs := #[.slice none 0 0, .slice none 0 0]) (t := 37) (vs := [(.slice Z1 (List.replicate ((x3).toNat) (0 : Int)).length cz1), (.slice Z2 (List.replicate l0.length (0 : Int)).length cz2)]) hS60 (by kernel_rfl) rfl rfl fun w19 hS61 => ?_
                have hS62 : St w0 w19 [Own.blk b6 (.cells #[(.slice Z1 (List.replicate ((x3).toNat) (0 : Int)).length cz1), (.slice Z2 (List.replicate l0.length (0 : Int)).length cz2)] 37 (0, 0)), Own.of (.slice Z1 (List.replicate ((x3).toNat) (0 : Int)).length cz1) 3 (List.replicate ((x3).toNat) (0 : Int)), Own.of (.slice Z2 (List.replicate l0.length (0 : Int)).length cz2) 3 (List.replicate l0.length (0 : Int)), Own.blk b3 (.cells #[.int .i64 0, .int .i64 0] 29 (0, 0)), Own.blk b2 (.cells #[.slice none 0 0, .slice none 0 0] 37 (0, 0)), Own.blk b1 (.cells #[.slice A0 l0.length c0] 32 (0, 0))] := hS61
                refine ge_nil fun a hF => hKK _ _ (RS.of2 (l := []) (by kernel_rfl) trivial trivial) ?_ a hF
                have hS63 := hS62.bring 2 rfl
                have hS64 := hS63.bring 2 rfl
                have hS65 := hS64.bring 5 rfl
                have hS66 := hS65.bring 5 rfl
                have hS67 := hS66.bring 5 rfl
                have hS68 := hS67.bring 5 rfl
                obtain rfl := Option.some.inj h
                exact go_fin2 fun a hF => hQ _ _ _ (Outs.again ⟨b6, (.slice Z1 (List.replicate ((x3).toNat) (0 : Int)).length cz1), (.slice Z2 (List.replicate l0.length (0 : Int)).length cz2), hS68, hF.weaken ⟨by kernel_rfl, by kernel_rfl, by kernel_rfl, by kernel_rfl, by kernel_rfl, by kernel_rfl, by kernel_rfl, trivial⟩⟩)
              exact go_nomore2
            exact go_nomore2
          refine go_alt2 (fun KK hKK => ?_) ?_
          · refine ge_one2 ?_
            refine ge_new (d := some 11) (o := .cells #[.slice none 0 0, .slice none 0 0] 37) (v := fun b => .pointer (some ⟨b, 0, none⟩)) hS58 (fun b => by kernel_rfl) fun b6 w17 hx5 hS59 => ?_
            refine ge_nil fun a hF => hKK _ _ (RS.of2 (l := [.loaded ⟨b1, 0, none⟩ (.slice A0 l0.length c0)]) (by kernel_rfl) ⟨hS58.cell 3 rfl rfl, trivial⟩ ⟨hS59.cell 4 rfl rfl, trivial⟩) ?_ a hF
            refine go_alt2 (fun KK hKK => ?_) ?_
            · refine ge_one2 ?_
              refine ge_make (α := Int) (d := 38) (t := 24) (el := 3) (bytes := 8) (l := ((x3).toNat)) (c := ((x3).toNat)) (x := (.tmp 37)) (y := (.tmp 37)) (ty := 24) (k1 := .i64) (k2 := .i64) (li := x3) (ci := x3) (z := .int .i64 0) (z' := (0 : Int)) (by kernel_rfl) (by kernel_rfl) (by kernel_rfl) (Int.toNat_of_nonneg hc7).symm (Int.toNat_of_nonneg hc7).symm (by kernel_rfl) (by kernel_rfl) rfl hS59 (Nat.le_refl _) rfl (by omega) fun v4 w18 _ hS60 => ?_
              refine ge_nil fun a hF => hKK _ _ (RS.of2 (l := [.loaded ⟨b1, 0, none⟩ (.slice A0 l0.length c0)]) (by kernel_rfl) ⟨hS59.cell 4 rfl rfl, trivial⟩ ⟨hS60.cell 5 rfl rfl, trivial⟩) ?_ a hF
              obtain ⟨Z1, cz1, rfl⟩ := hS60.open 0 rfl
              obtain ⟨Z2, cz2, rfl⟩ := hS60.open 2 rfl
              refine go2_batch [5] (ans := []) (vs := [(42, .agg #[(.slice Z1 (List.replicate ((x3).toNat) (0 : Int)).length cz1), (.slice Z2 (List.replicate l0.length (0 : Int)).length cz2)])]) (l := []) (by kernel_rfl) trivial mem_nil ?_
              refine go_alt2 (fun KK hKK => ?_) ?_
              · have hS61 := hS60.bring 1 rfl
                refine ge_set (b := b6) (j := 0) (cs := #[.slice none 0 0, .slice none 0 0]) (t := 37) (vs := [(.slice Z1 (List.replicate ((x3).toNat) (0 : Int)).length cz1), (.slice Z2 (List.replicate l0.length (0 : Int)).length cz2)]) hS61 (by kernel_rfl) rfl rfl fun w19 hS62 => ?_
                have hS63 : St w0 w19 [Own.blk b6 (.cells #[(.slice Z1 (List.replicate ((x3).toNat) (0 : Int)).length cz1), (.slice Z2 (List.replicate l0.length (0 : Int)).length cz2)] 37 (0, 0)), Own.of (.slice Z1 (List.replicate ((x3).toNat) (0 : Int)).length cz1) 3 (List.replicate ((x3).toNat) (0 : Int)), Own.of (.slice Z2 (List.replicate l0.length (0 : Int)).length cz2) 3 (List.replicate l0.length (0 : Int)), Own.blk b3 (.cells #[.int .i64 0, .int .i64 0] 29 (0, 0)), Own.blk b2 (.cells #[.slice none 0 0, .slice none 0 0] 37 (0, 0)), Own.blk b1 (.cells #[.slice A0 l0.length c0] 32 (0, 0))] := hS62
                refine ge_nil fun a hF => hKK _ _ (RS.of2 (l := []) (by kernel_rfl) trivial trivial) ?_ a hF
                have hS64 := hS63.bring 2 rfl
                have hS65 := hS64.bring 2 rfl
                have hS66 := hS65.bring 5 rfl
                have hS67 := hS66.bring 5 rfl
                have hS68 := hS67.bring 5 rfl
                have hS69 := hS68.bring 5 rfl
                obtain rfl := Option.some.inj h
                exact go_fin2 fun a hF => hQ _ _ _ (Outs.again ⟨b6, (.slice Z1 (List.replicate ((x3).toNat) (0 : Int)).length cz1), (.slice Z2 (List.replicate l0.length (0 : Int)).length cz2), hS69, hF.weaken ⟨by kernel_rfl, by kernel_rfl, by kernel_rfl, by kernel_rfl, by kernel_rfl, by kernel_rfl, by kernel_rfl, trivial⟩⟩)
              exact go_nomore2
            exact go_nomore2
          exact go_nomore2
        refine go_alt2 (fun KK hKK => ?_) ?_
        · refine ge_one2 ?_
          refine ge_new (d := some 11) (o := .cells #[.slice none 0 0, .slice none 0 0] 37) (v := fun b => .pointer (some ⟨b, 0, none⟩)) hS57 (fun b => by kernel_rfl) fun b6 w16 hx5 hS58 => ?_
          refine ge_nil fun a hF => hKK _ _ (RS.of2 (l := [.loaded ⟨b1, 0, none⟩ (.slice A0 l0.length c0)]) (by kernel_rfl) ⟨hS57.cell 2 rfl rfl, trivial⟩ ⟨hS58.cell 3 rfl rfl, trivial⟩) ?_ a hF
          refine go_alt2 (fun KK hKK => ?_) ?_
          · refine ge_one2 ?_
            refine ge_make (α := Int) (d := 38) (t := 24) (el := 3) (bytes := 8) (l := ((x3).toNat)) (c := ((x3).toNat)) (x := (.tmp 37)) (y := (.tmp 37)) (ty := 24) (k1 := .i64) (k2 := .i64) (li := x3) (ci := x3) (z := .int .i64 0) (z' := (0 : Int)) (by kernel_rfl) (by kernel_rfl) (by kernel_rfl) (Int.toNat_of_nonneg hc7).symm (Int.toNat_of_nonneg hc7).symm (by kernel_rfl) (by kernel_rfl) rfl hS58 (Nat.le_refl _) rfl (by omega) fun v3 w17 _ hS59 => ?_
            refine ge_nil fun a hF => hKK _ _ (RS.of2 (l := [.loaded ⟨b1, 0, none⟩ (.slice A0 l0.length c0)]) (by kernel_rfl) ⟨hS58.cell 3 rfl rfl, trivial⟩ ⟨hS59.cell 4 rfl rfl, trivial⟩) ?_ a hF
            refine go_alt2 (fun KK hKK => ?_) ?_
            · refine ge_one2 ?_
              refine ge_make (α := Int) (d := 41) (t := 24) (el := 3) (bytes := 8) (l := l0.length) (c := l0.length) (x := (.tmp 40)) (y := (.tmp 40)) (ty := 24) (k1 := .i64) (k2 := .i64) (li := (l0.length : Int)) (ci := (l0.length : Int)) (z := .int .i64 0) (z' := (0 : Int)) (by kernel_rfl) (by kernel_rfl) (by kernel_rfl) rfl rfl (by kernel_rfl) (by kernel_rfl) rfl hS59 (Nat.le_refl _) rfl (by omega) fun v4 w18 _ hS60 => ?_
              refine ge_nil fun a hF => hKK _ _ (RS.of2 (l := [.loaded ⟨b1, 0, none⟩ (.slice A0 l0.length c0)]) (by kernel_rfl) ⟨hS59.cell 4 rfl rfl, trivial⟩ ⟨hS60.cell 5 rfl rfl, trivial⟩) ?_ a hF
              obtain ⟨Z1, cz1, rfl⟩ := hS60.open 1 rfl
              obtain ⟨Z2, cz2, rfl⟩ := hS60.open 0 rfl
              refine go2_batch [5] (ans := []) (vs := [(42, .agg #[(.slice Z1 (List.replicate ((x3).toNat) (0 : Int)).length cz1), (.slice Z2 (List.replicate l0.length (0 : Int)).length cz2)])]) (l := []) (by kernel_rfl) trivial mem_nil ?_
              refine go_alt2 (fun KK hKK => ?_) ?_
              · have hS61 := hS60.bring 2 rfl
                refine ge_set (b := b6) (j := 0) (cs := #[.slice none 0 0, .slice none 0 0]) (t := 37) (vs := [(.slice Z1 (List.replicate ((x3).toNat) (0 : Int)).length cz1), (.slice Z2 (List.replicate l0.length (0 : Int)).length cz2)]) hS61 (by kernel_rfl) rfl rfl fun w19 hS62 => ?_
                have hS63 : St w0 w19 [Own.blk b6 (.cells #[(.slice Z1 (List.replicate ((x3).toNat) (0 : Int)).length cz1), (.slice Z2 (List.replicate l0.length (0 : Int)).length cz2)] 37 (0, 0)), Own.of (.slice Z2 (List.replicate l0.length (0 : Int)).length cz2) 3 (List.replicate l0.length (0 : Int)), Own.of (.slice Z1 (List.replicate ((x3).toNat) (0 : Int)).length cz1) 3 (List.replicate ((x3).toNat) (0 : Int)), Own.blk b3 (.cells #[.int .i64 0, .int .i64 0] 29 (0, 0)), Own.blk b2 (.cells #[.slice none 0 0, .slice none 0 0] 37 (0, 0)), Own.blk b1 (.cells #[.slice A0 l0.length c0] 32 (0, 0))] := hS62
                refine ge_nil fun a hF => hKK _ _ (RS.of2 (l := []) (by kernel_rfl) trivial trivial) ?_ a hF
                have hS64 := hS63.bring 1 rfl
                have hS65 := hS64.bring 2 rfl
                have hS66 := hS65.bring 5 rfl
                have hS67 := hS66.bring 5 rfl
                have hS68 := hS67.bring 5 rfl
                have hS69 := hS68.bring 5 rfl
                obtain rfl := Option.some.inj h
                exact go_fin2 fun a hF => hQ _ _ _ (Outs.again ⟨b6, (.slice Z1 (List.replicate ((x3).toNat) (0 : Int)).length cz1), (.slice Z2 (List.replicate l0.length (0 : Int)).length cz2), hS69, hF.weaken ⟨by kernel_rfl, by kernel_rfl, by kernel_rfl, by kernel_rfl, by kernel_rfl, by kernel_rfl, by kernel_rfl, trivial⟩⟩)
              exact go_nomore2
            exact go_nomore2
          refine go_alt2 (fun KK hKK => ?_) ?_
          · refine ge_one2 ?_
            refine ge_make (α := Int) (d := 41) (t := 24) (el := 3) (bytes := 8) (l := l0.length) (c := l0.length) (x := (.tmp 40)) (y := (.tmp 40)) (ty := 24) (k1 := .i64) (k2 := .i64) (li := (l0.length : Int)) (ci := (l0.length : Int)) (z := .int .i64 0) (z' := (0 : Int)) (by kernel_rfl) (by kernel_rfl) (by kernel_rfl) rfl rfl (by kernel_rfl) (by kernel_rfl) rfl hS58 (Nat.le_refl _) rfl (by omega) fun v3 w17 _ hS59 => ?_
            refine ge_nil fun a hF => hKK _ _ (RS.of2 (l := [.loaded ⟨b1, 0, none⟩ (.slice A0 l0.length c0)]) (by kernel_rfl) ⟨hS58.cell 3 rfl rfl, trivial⟩ ⟨hS59.cell 4 rfl rfl, trivial⟩) ?_ a hF
            refine go_alt2 (fun KK hKK => ?_) ?_
            · refine ge_one2 ?_
              refine ge_make (α := Int) (d := 38) (t := 24) (el := 3) (bytes := 8) (l := ((x3).toNat)) (c := ((x3).toNat)) (x := (.tmp 37)) (y := (.tmp 37)) (ty := 24) (k1 := .i64) (k2 := .i64) (li := x3) (ci := x3) (z := .int .i64 0) (z' := (0 : Int)) (by kernel_rfl) (by kernel_rfl) (by kernel_rfl) (Int.toNat_of_nonneg hc7).symm (Int.toNat_of_nonneg hc7).symm (by kernel_rfl) (by kernel_rfl) rfl hS59 (Nat.le_refl _) rfl (by omega) fun v4 w18 _ hS60 => ?_
              refine ge_nil fun a hF => hKK _ _ (RS.of2 (l := [.loaded ⟨b1, 0, none⟩ (.slice A0 l0.length c0)]) (by kernel_rfl) ⟨hS59.cell 4 rfl rfl, trivial⟩ ⟨hS60.cell 5 rfl rfl, trivial⟩) ?_ a hF
              obtain ⟨Z1, cz1, rfl⟩ := hS60.open 0 rfl
              obtain ⟨Z2, cz2, rfl⟩ := hS60.open 1 rfl
              refine go2_batch [5] (ans := []) (vs := [(42, .agg #[(.slice Z1 (List.replicate ((x3).toNat) (0 : Int)).length cz1), (.slice Z2 (List.replicate l0.length (0 : Int)).length cz2)])]) (l := []) (by kernel_rfl) trivial mem_nil ?_
              refine go_alt2 (fun KK hKK => ?_) ?_
              · have hS61 := hS60.bring 2 rfl
                refine ge_set (b := b6) (j := 0) (cs := #[.slice none 0 0, .slice none 0 0]) (t := 37) (vs := [(.slice Z1 (List.replicate ((x3).toNat) (0 : Int)).length cz1), (.slice Z2 (List.replicate l0.length (0 : Int)).length cz2)]) hS61 (by kernel_rfl) rfl rfl fun w19 hS62 => ?_
                have hS63 : St w0 w19 [Own.blk b6 (.cells #[(.slice Z1 (List.replicate ((x3).toNat) (0 : Int)).length cz1), (.slice Z2 (List.replicate l0.length (0 : Int)).length cz2)] 37 (0, 0)), Own.of (.slice Z1 (List.replicate ((x3).toNat) (0 : Int)).length cz1) 3 (List.replicate ((x3).toNat) (0 : Int)), Own.of (.slice Z2 (List.replicate l0.length (0 : Int)).length cz2) 3 (List.replicate l0.length (0 : Int)), Own.blk b3 (.cells #[.int .i64 0, .int .i64 0] 29 (0, 0)), Own.blk b2 (.cells #[.slice none 0 0, .slice none 0 0] 37 (0, 0)), Own.blk b1 (.cells #[.slice A0 l0.length c0] 32 (0, 0))] := hS62
                refine ge_nil fun a hF => hKK _ _ (RS.of2 (l := []) (by kernel_rfl) trivial trivial) ?_ a hF
                have hS64 := hS63.bring 2 rfl
                have hS65 := hS64.bring 2 rfl
                have hS66 := hS65.bring 5 rfl
                have hS67 := hS66.bring 5 rfl
                have hS68 := hS67.bring 5 rfl
                have hS69 := hS68.bring 5 rfl
                obtain rfl := Option.some.inj h
                exact go_fin2 fun a hF => hQ _ _ _ (Outs.again ⟨b6, (.slice Z1 (List.replicate ((x3).toNat) (0 : Int)).length cz1), (.slice Z2 (List.replicate l0.length (0 : Int)).length cz2), hS69, hF.weaken ⟨by kernel_rfl, by kernel_rfl, by kernel_rfl, by kernel_rfl, by kernel_rfl, by kernel_rfl, by kernel_rfl, trivial⟩⟩)
              exact go_nomore2
            exact go_nomore2
          exact go_nomore2
        exact go_nomore2
      · rw [if_neg hc9] at h
        cases h
    · rw [if_neg hc8] at h
      cases h
  · rw [if_neg hc7] at h
    cases h
abbrev sched_Play.A3 (K : Nat) (w0 : World) (l0 : List SJob) (A0 : Option Addr) (c0 : Nat) (x1 : Int) (x2 : Bool) (x3 : Int) (hR0 : RdL w0 A0 l0) (hL0 : l0.length ≤ c0) (b1 : Nat) (b2 : Nat) (b3 : Nat) (r1 : SFault) (b4 : Nat) (hc1 : r1.Code = 0) (b7 : Nat) (m3 : List Int) (m4 : List Int) (hc10 : l0.length ≤ 17592186044416) (b8 : Nat) (Z3 : Option Addr) (cz3 : Nat) (Z4 : Option Addr) (cz4 : Nat) (Z5 : Option Addr) (cz5 : Nat) : (Nat × (List Int) × (List Int)) → Act → World → Prop := fun (s : Nat × (List Int) × (List Int)) a w => St w0 w [Own.blk b8 (.cells #[(.slice Z3 s.2.1.length cz3)] 24 (0, 0)), Own.blk b7 (.cells #[(.slice Z4 m3.length cz4), (.slice Z5 s.2.2.length cz5)] 37 (0, 0)), Own.blk b3 (.cells #[.int .i64 0, .int .i64 0] 29 (0, 0)), Own.blk b2 (.cells #[.slice none 0 0, .slice none 0 0] 37 (0, 0)), Own.blk b1 (.cells #[.slice A0 l0.length c0] 32 (0, 0)), Own.of (.slice Z3 s.2.1.length cz3) 3 s.2.1, Own.of (.slice Z4 m3.length cz4) 3 m3, Own.of (.slice Z5 s.2.2.length cz5) 3 s.2.2] ∧ Frm 110 a [(1, .int .i64 x1), (2, .bool x2), (3, .int .i64 x3), (4, .pointer (some ⟨b1, 0, none⟩)), (8, .pointer (some ⟨b2, 0, none⟩)), (9, .pointer (some ⟨b3, 0, none⟩)), (11, .pointer (some ⟨b7, 0, none⟩)), (12, .pointer (some ⟨b8, 0, none⟩)), (46, .slice A0 l0.length c0), (47, .int .i64 (l0.length : Int)), (48, .int .i64 (s.1 : Int))]
abbrev sched_Play.B3 (K : Nat) (w0 : World) (l0 : List SJob) (A0 : Option Addr) (c0 : Nat) (x1 : Int) (x2 : Bool) (x3 : Int) (hR0 : RdL w0 A0 l0) (hL0 : l0.length ≤ c0) (b1 : Nat) (b2 : Nat) (b3 : Nat) (r1 : SFault) (b4 : Nat) (hc1 : r1.Code = 0) (b7 : Nat) (m3 : List Int) (m4 : List Int) (hc10 : l0.length ≤ 17592186044416) (b8 : Nat) (Z3 : Option Addr) (cz3 : Nat) (Z4 : Option Addr) (cz4 : Nat) (Z5 : Option Addr) (cz5 : Nat) : (((List Int) × (List Int)) ⊕ (SPlayed × SFault)) → Exit → Act → World → Prop := Exits 0 (fun (s : (List Int) × (List Int)) a w => St w0 w [Own.blk b8 (.cells #[(.slice Z3 s.1.length cz3)] 24 (0, 0)), Own.blk b7 (.cells #[(.slice Z4 m3.length cz4), (.slice Z5 s.2.length cz5)] 37 (0, 0)), Own.blk b3 (.cells #[.int .i64 0, .int .i64 0] 29 (0, 0)), Own.blk b2 (.cells #[.slice none 0 0, .slice none 0 0] 37 (0, 0)), Own.blk b1 (.cells #[.slice A0 l0.length c0] 32 (0, 0)), Own.of (.slice Z3 s.1.length cz3) 3 s.1, Own.of (.slice Z4 m3.length cz4) 3 m3, Own.of (.slice Z5 s.2.length cz5) 3 s.2] ∧ Frm 110 a [(1, .int .i64 x1), (2, .bool x2), (3, .int .i64 x3), (4, .pointer (some ⟨b1, 0, none⟩)), (8, .pointer (some ⟨b2, 0, none⟩)), (9, .pointer (some ⟨b3, 0, none⟩)), (11, .pointer (some ⟨b7, 0, none⟩)), (12, .pointer (some ⟨b8, 0, none⟩))]) (Rets Try.prog Try.f13 (sched_Play.Post w0))
theorem sched_Play_r3 (K : Nat) (w0 : World) (l0 : List SJob) (A0 : Option Addr) (c0 : Nat) (x1 : Int) (x2 : Bool) (x3 : Int) (hR0 : RdL w0 A0 l0) (hL0 : l0.length ≤ c0) (b1 : Nat) (b2 : Nat) (b3 : Nat) (r1 : SFault) (b4 : Nat) (hc1 : r1.Code = 0) (b7 : Nat) (m3 : List Int) (m4 : List Int) (hc10 : l0.length ≤ 17592186044416) (b8 : Nat) (Z3 : Option Addr) (cz3 : Nat) (Z4 : Option Addr) (cz4 : Nat) (Z5 : Option Addr) (cz5 : Nat) (s : Nat × (List Int) × (List Int)) (o : (Nat × (List Int) × (List Int)) ⊕ (((List Int) × (List Int)) ⊕ (SPlayed × SFault))) (h : sched_Play.r3 l0 s = some o) (a : Act) (w : World) (hA : sched_Play.A3 K w0 l0 A0 c0 x1 x2 x3 hR0 hL0 b1 b2 b3 r1 b4 hc1 b7 m3 m4 hc10 b8 Z3 cz3 Z4 cz4 Z5 cz5 s a w) (Q : Exit → Act → World → Prop) (hQ : ∀ x a w, Outs (sched_Play.A3 K w0 l0 A0 c0 x1 x2 x3 hR0 hL0 b1 b2 b3 r1 b4 hc1 b7 m3 m4 hc10 b8 Z3 cz3 Z4 cz4 Z5 cz5) (sched_Play.B3 K w0 l0 A0 c0 x1 x2 x3 hR0 hL0 b1 b2 b3 r1 b4 hc1 b7 m3 m4 hc10 b8 Z3 cz3 Z4 cz4 Z5 cz5) o x a w → Q x a w) : (subF Try.f13 [1, 1, 1, 1, 1, 1, 0, 1, 0, 0]).wp Try.prog Q a w := by
  obtain ⟨i1, m5, m6⟩ := s
  obtain ⟨hS, hF⟩ := hA
  replace hS : St w0 w [Own.blk b8 (.cells #[(.slice Z3 m5.length cz3)] 24 (0, 0)), Own.blk b7 (.cells #[(.slice Z4 m3.length cz4), (.slice Z5 m6.length cz5)] 37 (0, 0)), Own.blk b3 (.cells #[.int .i64 0, .int .i64 0] 29 (0, 0)), Own.blk b2 (.cells #[.slice none 0 0, .slice none 0 0] 37 (0, 0)), Own.blk b1 (.cells #[.slice A0 l0.length c0] 32 (0, 0)), Own.of (.slice Z3 m5.length cz3) 3 m5, Own.of (.slice Z4 m3.length cz4) 3 m3, Own.of (.slice Z5 m6.length cz5) 3 m6] := hS
  simp only [sched_Play.r3] at h
  refine (?_ : WE Try.prog 110 (subF Try.f13 [1, 1, 1, 1, 1, 1, 0, 1, 0, 0]) Q [(1, .int .i64 x1), (2, .bool x2), (3, .int .i64 x3), (4, .pointer (some ⟨b1, 0, none⟩)), (8, .pointer (some ⟨b2, 0, none⟩)), (9, .pointer (some ⟨b3, 0, none⟩)), (11, .pointer (some ⟨b7, 0, none⟩)), (12, .pointer (some ⟨b8, 0, none⟩)), (46, .slice A0 l0.length c0), (47, .int .i64 (l0.length : Int)), (48, .int .i64 (i1 : Int))] w) a hF
  clear hF a
  refine we_seq fun K16 hK16 => ?_
  refine we_region [(0, 0)] rfl ?_
  refine ge_batch [0] (ans := []) (vs := [(49, .bool (decide ((i1 : Int) < (l0.length : Int))))]) (l := []) (by kernel_rfl) trivial ?_
  refine ge_nil fun a hF => hK16 _ _ ?_ a hF
  refine we_seq fun K17 hK17 => ?_
  by_cases hc11 : (i1 : Int) < (l0.length : Int)
  · rw [if_pos hc11] at h
    refine we_known (t := 49) (b := decide ((i1 : Int) < (l0.length : Int))) (v := true) (by kernel_rfl) (decide_eq_true hc11) ?_
    refine we_true (by kernel_rfl) ?_
    refine we_skip fun a hF => hK17 _ _ ?_ a hF
    refine we_seq fun K18 hK18 => ?_
    refine we_block ?_
    refine we_seq fun K19 hK19 => ?_
    refine we_region [(0, 0), (1, 0), (2, 0), (3, 1), (4, 0), (5, 2)] rfl ?_
    refine ge_batch [0] (ans := []) (vs := [(50, .int .i64 (i1 : Int))]) (l := []) (by kernel_rfl) trivial ?_
    rcases hx7 : l0[i1]? with _ | e1
    · rw [hx7] at h; cases h
    rw [hx7] at h
    simp only [] at h
    refine ge_index (d := 51) (ty := 0) (t := 32) (el := 59) (sz := 5) (m := l0.length) (c := c0) (x := (.tmp 46)) (y := (.tmp 48)) (A := A0) (k' := .i64) (j := (i1 : Int)) (jn := i1) (b0 := blkOf A0) (o0 := offOf A0) (by kernel_rfl) (by kernel_rfl) (by kernel_rfl) (by kernel_rfl) (by kernel_rfl) ((hS.rd hR0).eqSome (pos_of_get hx7)) rfl (lt_of_get hx7) ?_
    refine ge_batch [2] (ans := [.val (.int .i64 e1.Task), .val (.int .i64 e1.At), .val (.int .i64 e1.C), .val (.int .i64 e1.Due), .val (.int .i64 e1.P)]) (vs := [(52, .agg #[.int .i64 e1.Task, .int .i64 e1.At, .int .i64 e1.C, .int .i64 e1.Due, .int .i64 e1.P])]) (l := [.loaded ⟨blkOf A0, offOf A0 + i1 * 5, none⟩ (.int .i64 e1.Task), .loaded ⟨blkOf A0, offOf A0 + i1 * 5 + 1, none⟩ (.int .i64 e1.At), .loaded ⟨blkOf A0, offOf A0 + i1 * 5 + 2, none⟩ (.int .i64 e1.C), .loaded ⟨blkOf A0, offOf A0 + i1 * 5 + 3, none⟩ (.int .i64 e1.Due), .loaded ⟨blkOf A0, offOf A0 + i1 * 5 + 4, none⟩ (.int .i64 e1.P)]) (by kernel_rfl) ⟨RdL.cell (j := 0) (hS.rd hR0) hx7 rfl, RdL.cell (j := 1) (hS.rd hR0) hx7 rfl, RdL.cell (j := 2) (hS.rd hR0) hx7 rfl, RdL.cell (j := 3) (hS.rd hR0) hx7 rfl, RdL.cell (j := 4) (hS.rd hR0) hx7 rfl, trivial⟩ ?_
    refine ge_new (d := some 14) (o := .cells #[.int .i64 0, .int .i64 0, .int .i64 0, .int .i64 0, .int .i64 0] 59) (v := fun b => .pointer (some ⟨b, 0, none⟩)) hS (fun b => by kernel_rfl) fun b9 w24 hx8 hS83 => ?_
    refine ge_batch [4] (ans := []) (vs := [(13, .int .i64 (i1 : Int))]) (l := []) (by kernel_rfl) trivial ?_
    refine ge_set (b := b9) (j := 0) (cs := #[.int .i64 0, .int .i64 0, .int .i64 0, .int .i64 0, .int .i64 0]) (t := 59) (vs := [.int .i64 e1.Task, .int .i64 e1.At, .int .i64 e1.C, .int .i64 e1.Due, .int .i64 e1.P]) hS83 (by kernel_rfl) rfl rfl fun w25 hS84 => ?_
    have hS85 : St w0 w25 [Own.blk b9 (.cells #[.int .i64 e1.Task, .int .i64 e1.At, .int .i64 e1.C, .int .i64 e1.Due, .int .i64 e1.P] 59 (0, 0)), Own.blk b8 (.cells #[(.slice Z3 m5.length cz3)] 24 (0, 0)), Own.blk b7 (.cells #[(.slice Z4 m3.length cz4), (.slice Z5 m6.length cz5)] 37 (0, 0)), Own.blk b3 (.cells #[.int .i64 0, .int .i64 0] 29 (0, 0)), Own.blk b2 (.cells #[.slice none 0 0, .slice none 0 0] 37 (0, 0)), Own.blk b1 (.cells #[.slice A0 l0.length c0] 32 (0, 0)), Own.of (.slice Z3 m5.length cz3) 3 m5, Own.of (.slice Z4 m3.length cz4) 3 m3, Own.of (.slice Z5 m6.length cz5) 3 m6] := hS84
    refine ge_nil fun a hF => hK19 _ _ ?_ a hF
    refine we_orders2 (by kernel_rfl) [(0, [⟨b8, 0, none⟩]), (3, [⟨b7, 1, none⟩]), (6, [⟨b9, 2, none⟩])] (.vals [0] (.vals [1] (.vals [2] (.vals [3] (.vals [4] (.vals [5] (.vals [6] (.vals [7] (.alt 8 2 (.vals [9] (.alt 10 2 .fin .nomore)) .nomore))))))))) (by kernel_rfl) ?_
    have hS86 := hS85.drew
    refine go2_batch [0] (ans := [.val ((.slice Z3 m5.length cz3))]) (vs := [(53, (.slice Z3 m5.length cz3))]) (l := [.loaded ⟨b8, 0, none⟩ ((.slice Z3 m5.length cz3))]) (by kernel_rfl) ⟨hS86.cell 1 rfl rfl, trivial⟩ (mem_one (by kernel_rfl)) ?_
    refine go2_batch [1, 2] (ans := []) (vs := [(55, .pointer (some ⟨b7, 1, none⟩)), (54, .int .i64 (i1 : Int))]) (l := []) (by kernel_rfl) trivial mem_nil ?_
    refine go2_batch [3] (ans := [.val ((.slice Z5 m6.length cz5))]) (vs := [(56, (.slice Z5 m6.length cz5))]) (l := [.loaded ⟨b7, 1, none⟩ ((.slice Z5 m6.length cz5))]) (by kernel_rfl) ⟨hS86.cell 2 rfl rfl, trivial⟩ (mem_one (by kernel_rfl)) ?_
    refine go2_batch [4, 5] (ans := []) (vs := [(58, .pointer (some ⟨b9, 2, none⟩)), (57, .int .i64 (i1 : Int))]) (l := []) (by kernel_rfl) trivial mem_nil ?_
    refine go2_batch [6] (ans := [.val (.int .i64 e1.C)]) (vs := [(59, .int .i64 e1.C)]) (l := [.loaded ⟨b9, 2, none⟩ (.int .i64 e1.C)]) (by kernel_rfl) ⟨hS86.cell 0 rfl rfl, trivial⟩ (mem_one (by kernel_rfl)) ?_
    rcases hx9 : m5[i1]? with _ | e2
    · rw [hx9] at h; cases h
    rw [hx9] at h
    simp only [] at h
    refine go2_index (d := 60) (ty := 0) (t := 24) (el := 3) (sz := 1) (m := m5.length) (c := cz3) (x := (.tmp 53)) (y := (.tmp 54)) (A := Z3) (k' := .i64) (j := (i1 : Int)) (jn := i1) (b0 := blkOf Z3) (o0 := offOf Z3) (by kernel_rfl) (by kernel_rfl) (by kernel_rfl) (by kernel_rfl) (by kernel_rfl) ((hS86.rdAt 6 rfl).eqSome (pos_of_get hx9)) rfl (lt_of_get hx9) ?_
    refine go_alt2 (fun KK hKK => ?_) ?_
    · have hS87 := hS86.bring 6 rfl
      refine ge_seti (α := Int) (A := Z3) (nn := m5.length) (c := cz3) (t := 3) (l := m5) (x := e2) (x' := e1.C) (jn := i1) (j := 0) (vs := [.int .i64 e1.C]) (l' := [.stored ⟨blkOf Z3, offOf Z3 + i1 * 1, none⟩ (.int .i64 e1.C)]) hS87 (by kernel_rfl) (by kernel_rfl) hx9 rfl rfl rfl fun w26 hS88 => ?_
      have hS89 : St w0 w26 [Own.of (.slice Z3 m5.length cz3) 3 (m5.set i1 e1.C), Own.blk b9 (.cells #[.int .i64 e1.Task, .int .i64 e1.At, .int .i64 e1.C, .int .i64 e1.Due, .int .i64 e1.P] 59 (0, 0)), Own.blk b8 (.cells #[(.slice Z3 m5.length cz3)] 24 (0, 0)), Own.blk b7 (.cells #[(.slice Z4 m3.length cz4), (.slice Z5 m6.length cz5)] 37 (0, 0)), Own.blk b3 (.cells #[.int .i64 0, .int .i64 0] 29 (0, 0)), Own.blk b2 (.cells #[.slice none 0 0, .slice none 0 0] 37 (0, 0)), Own.blk b1 (.cells #[.slice A0 l0.length c0] 32 (0, 0)), Own.of (.slice Z4 m3.length cz4) 3 m3, Own.of (.slice Z5 m6.length cz5) 3 m6] := hS88
      have hE1 : m5.length = (m5.set i1 e1.C).length := hS89.lenAt 0 rfl
      have hS90 : St w0 w26 [Own.of (.slice Z3 (m5.set i1 e1.C).length cz3) 3 (m5.set i1 e1.C), Own.blk b9 (.cells #[.int .i64 e1.Task, .int .i64 e1.At, .int .i64 e1.C, .int .i64 e1.Due, .int .i64 e1.P] 59 (0, 0)), Own.blk b8 (.cells #[(.slice Z3 (m5.set i1 e1.C).length cz3)] 24 (0, 0)), Own.blk b7 (.cells #[(.slice Z4 m3.length cz4), (.slice Z5 m6.length cz5)] 37 (0, 0)), Own.blk b3 (.cells #[.int .i64 0, .int .i64 0] 29 (0, 0)), Own.blk b2 (.cells #[.slice none 0 0, .slice none 0 0] 37 (0, 0)), Own.blk b1 (.cells #[.slice A0 l0.length c0] 32 (0, 0)), Own.of (.slice Z4 m3.length cz4) 3 m3, Own.of (.slice Z5 m6.length cz5) 3 m6] := by rw [← hE1]; exact hS89
      refine ge_same (t := 53) (v := (.slice Z3 m5.length cz3)) (v' := (.slice Z3 (m5.set i1 e1.C).length cz3)) (by kernel_rfl) (by rw [hE1]) ?_
      refine ge_nil fun a hF => hKK _ _ (RS.of2 (l := [.loaded ⟨b7, 1, none⟩ ((.slice Z5 m6.length cz5))]) (by kernel_rfl) ⟨hS86.cell 2 rfl rfl, trivial⟩ ⟨hS90.cell 3 rfl rfl, trivial⟩) ?_ a hF
      rcases hx10 : m6[i1]? with _ | e3
      · rw [hx10] at h; cases h
      rw [hx10] at h
      simp only [] at h
      refine go2_index (d := 61) (ty := 0) (t := 24) (el := 3) (sz := 1) (m := m6.length) (c := cz5) (x := (.tmp 56)) (y := (.tmp 57)) (A := Z5) (k' := .i64) (j := (i1 : Int)) (jn := i1) (b0 := blkOf Z5) (o0 := offOf Z5) (by kernel_rfl) (by kernel_rfl) (by kernel_rfl) (by kernel_rfl) (by kernel_rfl) ((hS90.rdAt 8 rfl).eqSome (pos_of_get hx10)) rfl (lt_of_get hx10) ?_
      refine go_alt2 (fun KK hKK => ?_) ?_
      · have hS91 := hS90.bring 8 rfl
        refine ge_seti (α := Int) (A := Z5) (nn := m6.length) (c := cz5) (t := 3) (l := m6) (x := e3) (x' := (-1)) (jn := i1) (j := 0) (vs := [.int .i64 (-1)]) (l' := [.stored ⟨blkOf Z5, offOf Z5 + i1 * 1, none⟩ (.int .i64 (-1))]) hS91 (by kernel_rfl) (by kernel_rfl) hx10 rfl rfl rfl fun w27 hS92 => ?_
        have hS93 : St w0 w27 [Own.of (.slice Z5 m6.length cz5) 3 (m6.set i1 (-1)), Own.of (.slice Z3 (m5.set i1 e1.C).length cz3) 3 (m5.set i1 e1.C), Own.blk b9 (.cells #[.int .i64 e1.Task, .int .i64 e1.At, .int .i64 e1.C, .int .i64 e1.Due, .int .i64 e1.P] 59 (0, 0)), Own.blk b8 (.cells #[(.slice Z3 (m5.set i1 e1.C).length cz3)] 24 (0, 0)), Own.blk b7 (.cells #[(.slice Z4 m3.length cz4), (.slice Z5 m6.length cz5)] 37 (0, 0)), Own.blk b3 (.cells #[.int .i64 0, .int .i64 0] 29 (0, 0)), Own.blk b2 (.cells #[.slice none 0 0, .slice none 0 0] 37 (0, 0)), Own.blk b1 (.cells #[.slice A0 l0.length c0] 32 (0, 0)), Own.of (.slice Z4 m3.length cz4) 3 m3] := hS92
        have hE2 : m6.length = (m6.set i1 (-1)).length := hS93.lenAt 0 rfl
        have hS94 : St w0 w27 [Own.of (.slice Z5 (m6.set i1 (-1)).length cz5) 3 (m6.set i1 (-1)), Own.of (.slice Z3 (m5.set i1 e1.C).length cz3) 3 (m5.set i1 e1.C), Own.blk b9 (.cells #[.int .i64 e1.Task, .int .i64 e1.At, .int .i64 e1.C, .int .i64 e1.Due, .int .i64 e1.P] 59 (0, 0)), Own.blk b8 (.cells #[(.slice Z3 (m5.set i1 e1.C).length cz3)] 24 (0, 0)), Own.blk b7 (.cells #[(.slice Z4 m3.length cz4), (.slice Z5 (m6.set i1 (-1)).length cz5)] 37 (0, 0)), Own.blk b3 (.cells #[.int .i64 0, .int .i64 0] 29 (0, 0)), Own.blk b2 (.cells #[.slice none 0 0, .slice none 0 0] 37 (0, 0)), Own.blk b1 (.cells #[.slice A0 l0.length c0] 32 (0, 0)), Own.of (.slice Z4 m3.length cz4) 3 m3] := by rw [← hE2]; exact hS93
        refine ge_same (t := 56) (v := (.slice Z5 m6.length cz5)) (v' := (.slice Z5 (m6.set i1 (-1)).length cz5)) (by kernel_rfl) (by rw [hE2]) ?_
        refine ge_nil fun a hF => hKK _ _ (RS.of2 (l := []) (by kernel_rfl) trivial trivial) ?_ a hF
        refine go_fin2 fun a hF => hK18 _ _ ?_ a hF
        refine we_region [(0, 0), (1, 0)] rfl ?_
        refine ge_addn (d := 62) (ty := 3) (x := (.tmp 48)) (y := (.const (.int .i64 1))) (t := 3) (t2 := 3) (k := .i64) (m := i1) (by kernel_rfl) (by kernel_rfl) (by kernel_rfl) (by have h0 := hR0.small; omega) ?_
        refine ge_batch [1] (ans := []) (vs := [(48, .int .i64 ((i1 + 1 : Nat) : Int))]) (l := []) (by kernel_rfl) trivial ?_
        have hS95 := hS94.bring 8 rfl
        have hS96 := hS95.bring 2 rfl
        have hS97 := hS96.bring 8 rfl
        have hS98 := hS97.bring 8 rfl
        have hS99 := hS98.bring 8 rfl
        have hS100 := hS99.bring 8 rfl
        have hS101 := hS100.bring 8 rfl
        have hS102 := hS101.takeN 8
        obtain rfl := Option.some.inj h
        exact ge_nil fun a hF => hQ _ _ _ (Outs.again ⟨hS102, hF.weaken ⟨by kernel_rfl, by kernel_rfl, by kernel_rfl, by kernel_rfl, by kernel_rfl, by kernel_rfl, by kernel_rfl, by kernel_rfl, by kernel_rfl, by kernel_rfl, by kernel_rfl, trivial⟩⟩)
      exact go_nomore2
    exact go_nomore2
  · rw [if_neg hc11] at h
    refine we_known (t := 49) (b := decide ((i1 : Int) < (l0.length : Int))) (v := false) (by kernel_rfl) (decide_eq_false hc11) ?_
    refine we_false (by kernel_rfl) ?_
    have hS103 := hS.bring 7 rfl
    have hS104 := hS103.bring 7 rfl
    have hS105 := hS104.bring 7 rfl
    have hS106 := hS105.bring 7 rfl
    have hS107 := hS106.bring 7 rfl
    have hS108 := hS107.bring 7 rfl
    have hS109 := hS108.bring 7 rfl
    have hS110 := hS109.bring 7 rfl
    obtain rfl := Option.some.inj h
    exact we_exit fun a hF => hQ _ _ _ (Outs.out nofun (Exits.here ⟨hS110, hF.weaken ⟨by kernel_rfl, by kernel_rfl, by kernel_rfl, by kernel_rfl, by kernel_rfl, by kernel_rfl, by kernel_rfl, by kernel_rfl, trivial⟩⟩))
abbrev sched_Play.A5 (K : Nat) (w0 : World) (l0 : List SJob) (A0 : Option Addr) (c0 : Nat) (x1 : Int) (x2 : Bool) (x3 : Int) (hR0 : RdL w0 A0 l0) (hL0 : l0.length ≤ c0) (b1 : Nat) (b2 : Nat) (b3 : Nat) (r1 : SFault) (b4 : Nat) (hc1 : r1.Code = 0) (b7 : Nat) (m3 : List Int) (m4 : List Int) (hc10 : l0.length ≤ 17592186044416) (b8 : Nat) (Z3 : Option Addr) (cz3 : Nat) (Z4 : Option Addr) (cz4 : Nat) (Z5 : Option Addr) (cz5 : Nat) (m9 : List Int) (m10 : List Int) (z1 : Int) (z2 : Int) (m11 : List Int) (m12 : List Int) (m13 : List Int) (hc12 : z2 < x3) (b10 : Nat) : Int → Act → World → Prop := fun (s : Int) a w => St w0 w [Own.blk b10 (.cells #[.int .i64 z2] 3 (0, 0)), Own.blk b8 (.cells #[(.slice Z3 m11.length cz3)] 24 (0, 0)), Own.blk b7 (.cells #[(.slice Z4 m12.length cz4), (.slice Z5 m13.length cz5)] 37 (0, 0)), Own.blk b3 (.cells #[.int .i64 0, .int .i64 0] 29 (0, 0)), Own.blk b2 (.cells #[.slice none 0 0, .slice none 0 0] 37 (0, 0)), Own.blk b1 (.cells #[.slice A0 l0.length c0] 32 (0, 0)), Own.of (.slice Z3 m11.length cz3) 3 m11, Own.of (.slice Z4 m12.length cz4) 3 m12, Own.of (.slice Z5 m13.length cz5) 3 m13] ∧ Frm 110 a [(1, .int .i64 x1), (2, .bool x2), (4, .pointer (some ⟨b1, 0, none⟩)), (8, .pointer (some ⟨b2, 0, none⟩)), (9, .pointer (some ⟨b3, 0, none⟩)), (11, .pointer (some ⟨b7, 0, none⟩)), (12, .pointer (some ⟨b8, 0, none⟩)), (15, .int .i64 s), (16, .pointer (some ⟨b10, 0, none⟩)), (63, .int .i64 x3), (64, .int .i64 z2)]
abbrev sched_Play.B5 (K : Nat) (w0 : World) (l0 : List SJob) (A0 : Option Addr) (c0 : Nat) (x1 : Int) (x2 : Bool) (x3 : Int) (hR0 : RdL w0 A0 l0) (hL0 : l0.length ≤ c0) (b1 : Nat) (b2 : Nat) (b3 : Nat) (r1 : SFault) (b4 : Nat) (hc1 : r1.Code = 0) (b7 : Nat) (m3 : List Int) (m4 : List Int) (hc10 : l0.length ≤ 17592186044416) (b8 : Nat) (Z3 : Option Addr) (cz3 : Nat) (Z4 : Option Addr) (cz4 : Nat) (Z5 : Option Addr) (cz5 : Nat) (m9 : List Int) (m10 : List Int) (z1 : Int) (z2 : Int) (m11 : List Int) (m12 : List Int) (m13 : List Int) (hc12 : z2 < x3) (b10 : Nat) : (SPlayed × SFault) → Exit → Act → World → Prop := Rets Try.prog Try.f13 (sched_Play.Post w0)
theorem sched_Play_p5 (K : Nat) (w0 : World) (l0 : List SJob) (A0 : Option Addr) (c0 : Nat) (x1 : Int) (x2 : Bool) (x3 : Int) (hR0 : RdL w0 A0 l0) (hL0 : l0.length ≤ c0) (b1 : Nat) (b2 : Nat) (b3 : Nat) (r1 : SFault) (b4 : Nat) (hc1 : r1.Code = 0) (b7 : Nat) (m3 : List Int) (m4 : List Int) (hc10 : l0.length ≤ 17592186044416) (b8 : Nat) (Z3 : Option Addr) (cz3 : Nat) (Z4 : Option Addr) (cz4 : Nat) (Z5 : Option Addr) (cz5 : Nat) (m9 : List Int) (m10 : List Int) (z1 : Int) (z2 : Int) (m11 : List Int) (m12 : List Int) (m13 : List Int) (hc12 : z2 < x3) (b10 : Nat) (o : Int ⊕ (SPlayed × SFault)) (h : sched_Play.p5 K l0 x1 x2 z1 z2 m11 = some o) (w : World) (hS : St w0 w [Own.blk b10 (.cells #[.int .i64 z2] 3 (0, 0)), Own.blk b8 (.cells #[(.slice Z3 m11.length cz3)] 24 (0, 0)), Own.blk b7 (.cells #[(.slice Z4 m12.length cz4), (.slice Z5 m13.length cz5)] 37 (0, 0)), Own.blk b3 (.cells #[.int .i64 0, .int .i64 0] 29 (0, 0)), Own.blk b2 (.cells #[.slice none 0 0, .slice none 0 0] 37 (0, 0)), Own.blk b1 (.cells #[.slice A0 l0.length c0] 32 (0, 0)), Own.of (.slice Z3 m11.length cz3) 3 m11, Own.of (.slice Z4 m12.length cz4) 3 m12, Own.of (.slice Z5 m13.length cz5) 3 m13]) (Q : Exit → Act → World → Prop) (hQ : ∀ x a w, Outs (sched_Play.A5 K w0 l0 A0 c0 x1 x2 x3 hR0 hL0 b1 b2 b3 r1 b4 hc1 b7 m3 m4 hc10 b8 Z3 cz3 Z4 cz4 Z5 cz5 m9 m10 z1 z2 m11 m12 m13 hc12 b10) (sched_Play.B5 K w0 l0 A0 c0 x1 x2 x3 hR0 hL0 b1 b2 b3 r1 b4 hc1 b7 m3 m4 hc10 b8 Z3 cz3 Z4 cz4 Z5 cz5 m9 m10 z1 z2 m11 m12 m13 hc12 b10) o x a w → Q x a w) : WE Try.prog 110 (subF Try.f13 [1, 1, 1, 1, 1, 1, 1, 1, 0, 1, 0, 0, 1, 1, 0, 0, 1, 0]) Q [(1, .int .i64 x1), (2, .bool x2), (4, .pointer (some ⟨b1, 0, none⟩)), (8, .pointer (some ⟨b2, 0, none⟩)), (9, .pointer (some ⟨b3, 0, none⟩)), (11, .pointer (some ⟨b7, 0, none⟩)), (12, .pointer (some ⟨b8, 0, none⟩)), (15, .int .i64 z1), (16, .pointer (some ⟨b10, 0, none⟩)), (63, .int .i64 x3), (64, .int .i64 z2), (65, .bool true), (66, .int .i64 z2)] w := by
  simp only [sched_Play.p5] at h
  refine we_seq fun K28 hK28 => ?_
  refine we_region [(0, 0), (1, 0), (2, 0), (3, 0), (4, 0), (5, 0), (6, 0), (7, 0), (8, 0), (9, 0), (10, 0), (11, 0)] rfl ?_
  refine ge_batch [0, 1] (ans := []) (vs := [(68, .bool x2), (67, .bool x2)]) (l := []) (by kernel_rfl) trivial ?_
  by_cases hc13 : x2 = true
  · rw [if_pos hc13] at h
    refine ge_known (t := 68) (b := x2) (c := true) (by kernel_rfl) hc13 ?_
    refine ge_batch [2, 3, 4, 5, 6, 7, 8, 9, 10, 11] (ans := []) (vs := [(78, .bool true), (77, undef), (76, undef), (75, undef), (74, undef), (73, undef), (72, .bool true), (71, .bool true), (70, undef), (69, undef)]) (l := []) (by kernel_rfl) trivial ?_
    refine ge_nil fun a hF => hK28 _ _ ?_ a hF
    refine we_true (by kernel_rfl) ?_
    refine we_region [(0, 0), (1, 0), (2, 0), (3, 1), (4, 0)] rfl ?_
    rcases hq7 : sched_First.f K l0 l0 z2 m11 x1 with _ | r2
    · rw [hq7] at h; cases h
    rw [hq7] at h
    simp only [] at h
    refine ge_batch [0, 1, 2] (ans := [.val (.slice A0 l0.length c0)]) (vs := [(81, .int .i64 x1), (80, .func (.func 30) #[] #[.pointer (some ⟨b1, 0, none⟩), .pointer (some ⟨b10, 0, none⟩), .pointer (some ⟨b8, 0, none⟩)]), (79, .slice A0 l0.length c0)]) (l := [.loaded ⟨b1, 0, none⟩ (.slice A0 l0.length c0)]) (by kernel_rfl) ⟨hS.cell 5 rfl rfl, trivial⟩ ?_
    refine ge_call (d := some 82) (f := 29) (args := #[.slice A0 l0.length c0, .func (.func 30) #[] #[.pointer (some ⟨b1, 0, none⟩), .pointer (some ⟨b10, 0, none⟩), .pointer (some ⟨b8, 0, none⟩)], .int .i64 x1]) (by kernel_rfl) (sched_First_ok K l0 A0 c0 b1 l0 A0 c0 b10 z2 b8 m11 Z3 cz3 x1 _ (hS.rd hR0) hL0 (hS.rd hR0) hL0 (hS.globOf 5 rfl) (hS.globOf 0 rfl) (hS.rdAt 6 rfl) (hS.capAt 6 rfl) (hS.globOf 1 rfl) _ hq7) ?_
    rintro _ w31 ⟨rfl, hS123⟩
    refine ⟨_, rfl, hS123.below, ?_⟩
    have hS124 := hS.call hS123
    refine ge_batch [4] (ans := []) (vs := [(15, .int .i64 r2)]) (l := []) (by kernel_rfl) trivial ?_
    have hS125 := hS124.bring 8 rfl
    have hS126 := hS125.bring 8 rfl
    have hS127 := hS126.bring 8 rfl
    have hS128 := hS127.bring 8 rfl
    have hS129 := hS128.bring 8 rfl
    have hS130 := hS129.bring 8 rfl
    have hS131 := hS130.bring 8 rfl
    have hS132 := hS131.bring 8 rfl
    have hS133 := hS132.bring 8 rfl
    obtain rfl := Option.some.inj h
    exact ge_nil fun a hF => hQ _ _ _ (Outs.again ⟨hS133, hF.weaken ⟨by kernel_rfl, by kernel_rfl, by kernel_rfl, by kernel_rfl, by kernel_rfl, by kernel_rfl, by kernel_rfl, by kernel_rfl, by kernel_rfl, by kernel_rfl, by kernel_rfl, trivial⟩⟩)
  · rw [if_neg hc13] at h
    refine ge_known (t := 68) (b := x2) (c := false) (by kernel_rfl) (Bool.eq_false_iff.2 hc13) ?_
    refine ge_batch [2, 3, 4, 5] (ans := []) (vs := [(72, .bool (decide (z1 < 0))), (71, .bool (decide (z1 < 0))), (70, .bool (decide (z1 < 0))), (69, .int .i64 z1)]) (l := []) (by kernel_rfl) trivial ?_
    by_cases hc14 : z1 < 0
    · rw [if_pos hc14] at h
      refine ge_known (t := 72) (b := decide (z1 < 0)) (c := true) (by kernel_rfl) (decide_eq_true hc14) ?_
      refine ge_batch [6, 7, 8, 9, 10, 11] (ans := []) (vs := [(78, .bool true), (77, undef), (76, undef), (75, undef), (74, undef), (73, undef)]) (l := []) (by kernel_rfl) trivial ?_
      refine ge_nil fun a hF => hK28 _ _ ?_ a hF
      refine we_true (by kernel_rfl) ?_
      refine we_region [(0, 0), (1, 0), (2, 0), (3, 1), (4, 0)] rfl ?_
      rcases hq8 : sched_First.f K l0 l0 z2 m11 x1 with _ | r3
      · rw [hq8] at h; cases h
      rw [hq8] at h
      simp only [] at h
      refine ge_batch [0, 1, 2] (ans := [.val (.slice A0 l0.length c0)]) (vs := [(81, .int .i64 x1), (80, .func (.func 30) #[] #[.pointer (some ⟨b1, 0, none⟩), .pointer (some ⟨b10, 0, none⟩), .pointer (some ⟨b8, 0, none⟩)]), (79, .slice A0 l0.length c0)]) (l := [.loaded ⟨b1, 0, none⟩ (.slice A0 l0.length c0)]) (by kernel_rfl) ⟨hS.cell 5 rfl rfl, trivial⟩ ?_
      refine ge_call (d := some 82) (f := 29) (args := #[.slice A0 l0.length c0, .func (.func 30) #[] #[.pointer (some ⟨b1, 0, none⟩), .pointer (some ⟨b10, 0, none⟩), .pointer (some ⟨b8, 0, none⟩)], .int .i64 x1]) (by kernel_rfl) (sched_First_ok K l0 A0 c0 b1 l0 A0 c0 b10 z2 b8 m11 Z3 cz3 x1 _ (hS.rd hR0) hL0 (hS.rd hR0) hL0 (hS.globOf 5 rfl) (hS.globOf 0 rfl) (hS.rdAt 6 rfl) (hS.capAt 6 rfl) (hS.globOf 1 rfl) _ hq8) ?_
      rintro _ w32 ⟨rfl, hS134⟩
      refine ⟨_, rfl, hS134.below, ?_⟩
      have hS135 := hS.call hS134
      refine ge_batch [4] (ans := []) (vs := [(15, .int .i64 r3)]) (l := []) (by kernel_rfl) trivial ?_
      have hS136 := hS135.bring 8 rfl
      have hS137 := hS136.bring 8 rfl
      have hS138 := hS137.bring 8 rfl
      have hS139 := hS138.bring 8 rfl
      have hS140 := hS139.bring 8 rfl
      have hS141 := hS140.bring 8 rfl
      have hS142 := hS141.bring 8 rfl
      have hS143 := hS142.bring 8 rfl
      have hS144 := hS143.bring 8 rfl
      obtain rfl := Option.some.inj h
      exact ge_nil fun a hF => hQ _ _ _ (Outs.again ⟨hS144, hF.weaken ⟨by kernel_rfl, by kernel_rfl, by kernel_rfl, by kernel_rfl, by kernel_rfl, by kernel_rfl, by kernel_rfl, by kernel_rfl, by kernel_rfl, by kernel_rfl, by kernel_rfl, trivial⟩⟩)
    · rw [if_neg hc14] at h
      refine ge_known (t := 72) (b := decide (z1 < 0)) (c := false) (by kernel_rfl) (decide_eq_false hc14) ?_
      refine ge_batch [6, 7] (ans := [.val ((.slice Z3 m11.length cz3))]) (vs := [(74, .int .i64 z1), (73, (.slice Z3 m11.length cz3))]) (l := [.loaded ⟨b8, 0, none⟩ ((.slice Z3 m11.length cz3))]) (by kernel_rfl) ⟨hS.cell 1 rfl rfl, trivial⟩ ?_
      by_cases hc15 : 0 ≤ z1
      · rw [if_pos hc15] at h
        rcases hx12 : m11[(z1).toNat]? with _ | e4
        · rw [hx12] at h; cases h
        rw [hx12] at h
        simp only [] at h
        refine ge_index (d := 75) (ty := 0) (t := 24) (el := 3) (sz := 1) (m := m11.length) (c := cz3) (x := (.tmp 73)) (y := (.tmp 74)) (A := Z3) (k' := .i64) (j := z1) (jn := ((z1).toNat)) (b0 := blkOf Z3) (o0 := offOf Z3) (by kernel_rfl) (by kernel_rfl) (by kernel_rfl) (by kernel_rfl) (by kernel_rfl) ((hS.rdAt 6 rfl).eqSome (pos_of_get hx12)) (Int.toNat_of_nonneg hc15).symm (lt_of_get hx12) ?_
        refine ge_batch [9, 10, 11] (ans := [.val (.int .i64 e4)]) (vs := [(78, .bool (e4 == 0)), (77, .bool (e4 == 0)), (76, .int .i64 e4)]) (l := [.loaded ⟨blkOf Z3, offOf Z3 + ((z1).toNat) * 1, none⟩ (.int .i64 e4)]) (by kernel_rfl) ⟨RdL.cell (j := 0) (hS.rdAt 6 rfl) hx12 rfl, trivial⟩ ?_
        refine ge_nil fun a hF => hK28 _ _ ?_ a hF
        by_cases hc16 : e4 = 0
        · rw [if_pos hc16] at h
          refine we_known (t := 78) (b := (e4 == 0)) (v := true) (by kernel_rfl) (beq_iff_eq.2 hc16) ?_
          refine we_true (by kernel_rfl) ?_
          refine we_region [(0, 0), (1, 0), (2, 0), (3, 1), (4, 0)] rfl ?_
          rcases hq9 : sched_First.f K l0 l0 z2 m11 x1 with _ | r4
          · rw [hq9] at h; cases h
          rw [hq9] at h
          simp only [] at h
          refine ge_batch [0, 1, 2] (ans := [.val (.slice A0 l0.length c0)]) (vs := [(81, .int .i64 x1), (80, .func (.func 30) #[] #[.pointer (some ⟨b1, 0, none⟩), .pointer (some ⟨b10, 0, none⟩), .pointer (some ⟨b8, 0, none⟩)]), (79, .slice A0 l0.length c0)]) (l := [.loaded ⟨b1, 0, none⟩ (.slice A0 l0.length c0)]) (by kernel_rfl) ⟨hS.cell 5 rfl rfl, trivial⟩ ?_
          refine ge_call (d := some 82) (f := 29) (args := #[.slice A0 l0.length c0, .func (.func 30) #[] #[.pointer (some ⟨b1, 0, none⟩), .pointer (some ⟨b10, 0, none⟩), .pointer (some ⟨b8, 0, none⟩)], .int .i64 x1]) (by kernel_rfl) (sched_First_ok K l0 A0 c0 b1 l0 A0 c0 b10 z2 b8 m11 Z3 cz3 x1 _ (hS.rd hR0) hL0 (hS.rd hR0) hL0 (hS.globOf 5 rfl) (hS.globOf 0 rfl) (hS.rdAt 6 rfl) (hS.capAt 6 rfl) (hS.globOf 1 rfl) _ hq9) ?_
          rintro _ w33 ⟨rfl, hS145⟩
          refine ⟨_, rfl, hS145.below, ?_⟩
          have hS146 := hS.call hS145
          refine ge_batch [4] (ans := []) (vs := [(15, .int .i64 r4)]) (l := []) (by kernel_rfl) trivial ?_
          have hS147 := hS146.bring 8 rfl
          have hS148 := hS147.bring 8 rfl
          have hS149 := hS148.bring 8 rfl
          have hS150 := hS149.bring 8 rfl
          have hS151 := hS150.bring 8 rfl
          have hS152 := hS151.bring 8 rfl
          have hS153 := hS152.bring 8 rfl
          have hS154 := hS153.bring 8 rfl
          have hS155 := hS154.bring 8 rfl
          obtain rfl := Option.some.inj h
          exact ge_nil fun a hF => hQ _ _ _ (Outs.again ⟨hS155, hF.weaken ⟨by kernel_rfl, by kernel_rfl, by kernel_rfl, by kernel_rfl, by kernel_rfl, by kernel_rfl, by kernel_rfl, by kernel_rfl, by kernel_rfl, by kernel_rfl, by kernel_rfl, trivial⟩⟩)
        · rw [if_neg hc16] at h
          refine we_known (t := 78) (b := (e4 == 0)) (v := false) (by kernel_rfl) (beq_eq_false_iff_ne.2 hc16) ?_
          refine we_false (by kernel_rfl) ?_
          have hS156 := hS.bring 8 rfl
          have hS157 := hS156.bring 8 rfl
          have hS158 := hS157.bring 8 rfl
          have hS159 := hS158.bring 8 rfl
          have hS160 := hS159.bring 8 rfl
          have hS161 := hS160.bring 8 rfl
          have hS162 := hS161.bring 8 rfl
          have hS163 := hS162.bring 8 rfl
          have hS164 := hS163.bring 8 rfl
          obtain rfl := Option.some.inj h
          exact we_skip fun a hF => hQ _ _ _ (Outs.again ⟨hS164, hF.weaken ⟨by kernel_rfl, by kernel_rfl, by kernel_rfl, by kernel_rfl, by kernel_rfl, by kernel_rfl, by kernel_rfl, by kernel_rfl, by kernel_rfl, by kernel_rfl, by kernel_rfl, trivial⟩⟩)
      · rw [if_neg hc15] at h
        cases h
abbrev sched_Play.A4 (K : Nat) (w0 : World) (l0 : List SJob) (A0 : Option Addr) (c0 : Nat) (x1 : Int) (x2 : Bool) (x3 : Int) (hR0 : RdL w0 A0 l0) (hL0 : l0.length ≤ c0) (b1 : Nat) (b2 : Nat) (b3 : Nat) (r1 : SFault) (b4 : Nat) (hc1 : r1.Code = 0) (b7 : Nat) (m3 : List Int) (m4 : List Int) (hc10 : l0.length ≤ 17592186044416) (b8 : Nat) (Z3 : Option Addr) (cz3 : Nat) (Z4 : Option Addr) (cz4 : Nat) (Z5 : Option Addr) (cz5 : Nat) (m9 : List Int) (m10 : List Int) : (Int × Int × (List Int) × (List Int) × (List Int)) → Act → World → Prop := fun (s : Int × Int × (List Int) × (List Int) × (List Int)) a w => St w0 w [Own.blk b8 (.cells #[(.slice Z3 s.2.2.1.length cz3)] 24 (0, 0)), Own.blk b7 (.cells #[(.slice Z4 s.2.2.2.1.length cz4), (.slice Z5 s.2.2.2.2.length cz5)] 37 (0, 0)), Own.blk b3 (.cells #[.int .i64 0, .int .i64 0] 29 (0, 0)), Own.blk b2 (.cells #[.slice none 0 0, .slice none 0 0] 37 (0, 0)), Own.blk b1 (.cells #[.slice A0 l0.length c0] 32 (0, 0)), Own.of (.slice Z3 s.2.2.1.length cz3) 3 s.2.2.1, Own.of (.slice Z4 s.2.2.2.1.length cz4) 3 s.2.2.2.1, Own.of (.slice Z5 s.2.2.2.2.length cz5) 3 s.2.2.2.2] ∧ Frm 110 a [(1, .int .i64 x1), (2, .bool x2), (4, .pointer (some ⟨b1, 0, none⟩)), (8, .pointer (some ⟨b2, 0, none⟩)), (9, .pointer (some ⟨b3, 0, none⟩)), (11, .pointer (some ⟨b7, 0, none⟩)), (12, .pointer (some ⟨b8, 0, none⟩)), (15, .int .i64 s.1), (63, .int .i64 x3), (64, .int .i64 s.2.1)]
abbrev sched_Play.B4 (K : Nat) (w0 : World) (l0 : List SJob) (A0 : Option Addr) (c0 : Nat) (x1 : Int) (x2 : Bool) (x3 : Int) (hR0 : RdL w0 A0 l0) (hL0 : l0.length ≤ c0) (b1 : Nat) (b2 : Nat) (b3 : Nat) (r1 : SFault) (b4 : Nat) (hc1 : r1.Code = 0) (b7 : Nat) (m3 : List Int) (m4 : List Int) (hc10 : l0.length ≤ 17592186044416) (b8 : Nat) (Z3 : Option Addr) (cz3 : Nat) (Z4 : Option Addr) (cz4 : Nat) (Z5 : Option Addr) (cz5 : Nat) (m9 : List Int) (m10 : List Int) : (((List Int) × (List Int)) ⊕ (SPlayed × SFault)) → Exit → Act → World → Prop := Exits 2 (fun (s : (List Int) × (List Int)) a w => St w0 w [Own.blk b7 (.cells #[(.slice Z4 s.1.length cz4), (.slice Z5 s.2.length cz5)] 37 (0, 0)), Own.blk b3 (.cells #[.int .i64 0, .int .i64 0] 29 (0, 0)), Own.blk b2 (.cells #[.slice none 0 0, .slice none 0 0] 37 (0, 0)), Own.of (.slice Z4 s.1.length cz4) 3 s.1, Own.of (.slice Z5 s.2.length cz5) 3 s.2] ∧ Frm 110 a [(8, .pointer (some ⟨b2, 0, none⟩)), (9, .pointer (some ⟨b3, 0, none⟩)), (11, .pointer (some ⟨b7, 0, none⟩))]) (Rets Try.prog Try.f13 (sched_Play.Post w0))
theorem sched_Play_r4 (K : Nat) (w0 : World) (l0 : List SJob) (A0 : Option Addr) (c0 : Nat) (x1 : Int) (x2 : Bool) (x3 : Int) (hR0 : RdL w0 A0 l0) (hL0 : l0.length ≤ c0) (b1 : Nat) (b2 : Nat) (b3 : Nat) (r1 : SFault) (b4 : Nat) (hc1 : r1.Code = 0) (b7 : Nat) (m3 : List Int) (m4 : List Int) (hc10 : l0.length ≤ 17592186044416) (b8 : Nat) (Z3 : Option Addr) (cz3 : Nat) (Z4 : Option Addr) (cz4 : Nat) (Z5 : Option Addr) (cz5 : Nat) (m9 : List Int) (m10 : List Int) (s : Int × Int × (List Int) × (List Int) × (List Int)) (o : (Int × Int × (List Int) × (List Int) × (List Int)) ⊕ (((List Int) × (List Int)) ⊕ (SPlayed × SFault))) (h : sched_Play.r4 K l0 x1 x2 x3 s = some o) (a : Act) (w : World) (hA : sched_Play.A4 K w0 l0 A0 c0 x1 x2 x3 hR0 hL0 b1 b2 b3 r1 b4 hc1 b7 m3 m4 hc10 b8 Z3 cz3 Z4 cz4 Z5 cz5 m9 m10 s a w) (Q : Exit → Act → World → Prop) (hQ : ∀ x a w, Outs (sched_Play.A4 K w0 l0 A0 c0 x1 x2 x3 hR0 hL0 b1 b2 b3 r1 b4 hc1 b7 m3 m4 hc10 b8 Z3 cz3 Z4 cz4 Z5 cz5 m9 m10) (sched_Play.B4 K w0 l0 A0 c0 x1 x2 x3 hR0 hL0 b1 b2 b3 r1 b4 hc1 b7 m3 m4 hc10 b8 Z3 cz3 Z4 cz4 Z5 cz5 m9 m10) o x a w → Q x a w) : (subF Try.f13 [1, 1, 1, 1, 1, 1, 1, 1, 0, 1, 0, 0]).wp Try.prog Q a w := by
  obtain ⟨z1, z2, m11, m12, m13⟩ := s
  obtain ⟨hS, hF⟩ := hA
  replace hS : St w0 w [Own.blk b8 (.cells #[(.slice Z3 m11.length cz3)] 24 (0, 0)), Own.blk b7 (.cells #[(.slice Z4 m12.length cz4), (.slice Z5 m13.length cz5)] 37 (0, 0)), Own.blk b3 (.cells #[.int .i64 0, .int .i64 0] 29 (0, 0)), Own.blk b2 (.cells #[.slice none 0 0, .slice none 0 0] 37 (0, 0)), Own.blk b1 (.cells #[.slice A0 l0.length c0] 32 (0, 0)), Own.of (.slice Z3 m11.length cz3) 3 m11, Own.of (.slice Z4 m12.length cz4) 3 m12, Own.of (.slice Z5 m13.length cz5) 3 m13] := hS
  simp only [sched_Play.r4] at h
  refine (?_ : WE Try.prog 110 (subF Try.f13 [1, 1, 1, 1, 1, 1, 1, 1, 0, 1, 0, 0]) Q [(1, .int .i64 x1), (2, .bool x2), (4, .pointer (some ⟨b1, 0, none⟩)), (8, .pointer (some ⟨b2, 0, none⟩)), (9, .pointer (some ⟨b3, 0, none⟩)), (11, .pointer (some ⟨b7, 0, none⟩)), (12, .pointer (some ⟨b8, 0, none⟩)), (15, .int .i64 z1), (63, .int .i64 x3), (64, .int .i64 z2)] w) a hF
  clear hF a
  refine we_seq fun K23 hK23 => ?_
  refine we_region [(0, 0)] rfl ?_
  refine ge_batch [0] (ans := []) (vs := [(65, .bool (decide (z2 < x3)))]) (l := []) (by kernel_rfl) trivial ?_
  refine ge_nil fun a hF => hK23 _ _ ?_ a hF
  refine we_seq fun K24 hK24 => ?_
  by_cases hc12 : z2 < x3
  · rw [if_pos hc12] at h
    refine we_known (t := 65) (b := decide (z2 < x3)) (v := true) (by kernel_rfl) (decide_eq_true hc12) ?_
    refine we_true (by kernel_rfl) ?_
    refine we_skip fun a hF => hK24 _ _ ?_ a hF
    refine we_seq fun K25 hK25 => ?_
    refine we_block ?_
    refine we_seq fun K26 hK26 => ?_
    refine we_region [(0, 0), (1, 1), (2, 2)] rfl ?_
    refine ge_batch [0] (ans := []) (vs := [(66, .int .i64 z2)]) (l := []) (by kernel_rfl) trivial ?_
    refine ge_new (d := some 16) (o := .cells #[.int .i64 0] 3) (v := fun b => .pointer (some ⟨b, 0, none⟩)) hS (fun b => by kernel_rfl) fun b10 w29 hx11 hS120 => ?_
    refine ge_set (b := b10) (j := 0) (cs := #[.int .i64 0]) (t := 3) (vs := [.int .i64 z2]) hS120 (by kernel_rfl) rfl rfl fun w30 hS121 => ?_
    have hS122 : St w0 w30 [Own.blk b10 (.cells #[.int .i64 z2] 3 (0, 0)), Own.blk b8 (.cells #[(.slice Z3 m11.length cz3)] 24 (0, 0)), Own.blk b7 (.cells #[(.slice Z4 m12.length cz4), (.slice Z5 m13.length cz5)] 37 (0, 0)), Own.blk b3 (.cells #[.int .i64 0, .int .i64 0] 29 (0, 0)), Own.blk b2 (.cells #[.slice none 0 0, .slice none 0 0] 37 (0, 0)), Own.blk b1 (.cells #[.slice A0 l0.length c0] 32 (0, 0)), Own.of (.slice Z3 m11.length cz3) 3 m11, Own.of (.slice Z4 m12.length cz4) 3 m12, Own.of (.slice Z5 m13.length cz5) 3 m13] := hS121
    refine ge_nil fun a hF => hK26 _ _ ?_ a hF
    refine we_seq fun K27 hK27 => ?_
    rcases hq10 : sched_Play.p5 K l0 x1 x2 z1 z2 m11 with _ | (z4 | rr1)
    · rw [hq10] at h; cases h
    · rw [hq10] at h
      simp only [] at h
      refine we_keep (e' := [(1, .int .i64 x1), (2, .bool x2), (4, .pointer (some ⟨b1, 0, none⟩)), (8, .pointer (some ⟨b2, 0, none⟩)), (9, .pointer (some ⟨b3, 0, none⟩)), (11, .pointer (some ⟨b7, 0, none⟩)), (12, .pointer (some ⟨b8, 0, none⟩)), (15, .int .i64 z1), (16, .pointer (some ⟨b10, 0, none⟩)), (63, .int .i64 x3), (64, .int .i64 z2), (65, .bool true), (66, .int .i64 z2)]) ⟨by kernel_rfl, by kernel_rfl, by kernel_rfl, by kernel_rfl, by kernel_rfl, by kernel_rfl, by kernel_rfl, by kernel_rfl, by kernel_rfl, by kernel_rfl, by kernel_rfl, by kernel_rfl, by kernel_rfl, trivial⟩ (sched_Play_p5 K w0 l0 A0 c0 x1 x2 x3 hR0 hL0 b1 b2 b3 r1 b4 hc1 b7 m3 m4 hc10 b8 Z3 cz3 Z4 cz4 Z5 cz5 m9 m10 z1 z2 m11 m12 m13 hc12 b10 _ hq10 _ hS122 _ ?_)
      rintro _ a w34 ⟨rfl, hS165, hF⟩
      replace hS165 : St w0 w34 [Own.blk b10 (.cells #[.int .i64 z2] 3 (0, 0)), Own.blk b8 (.cells #[(.slice Z3 m11.length cz3)] 24 (0, 0)), Own.blk b7 (.cells #[(.slice Z4 m12.length cz4), (.slice Z5 m13.length cz5)] 37 (0, 0)), Own.blk b3 (.cells #[.int .i64 0, .int .i64 0] 29 (0, 0)), Own.blk b2 (.cells #[.slice none 0 0, .slice none 0 0] 37 (0, 0)), Own.blk b1 (.cells #[.slice A0 l0.length c0] 32 (0, 0)), Own.of (.slice Z3 m11.length cz3) 3 m11, Own.of (.slice Z4 m12.length cz4) 3 m12, Own.of (.slice Z5 m13.length cz5) 3 m13] := hS165
      refine hK27 [(1, .int .i64 x1), (2, .bool x2), (4, .pointer (some ⟨b1, 0, none⟩)), (8, .pointer (some ⟨b2, 0, none⟩)), (9, .pointer (some ⟨b3, 0, none⟩)), (11, .pointer (some ⟨b7, 0, none⟩)), (12, .pointer (some ⟨b8, 0, none⟩)), (15, .int .i64 z4), (16, .pointer (some ⟨b10, 0, none⟩)), (63, .int .i64 x3), (64, .int .i64 z2)] w34 ?_ a hF
      refine we_seq fun K29 hK29 => ?_
      refine we_region [(0, 0), (1, 0), (2, 0), (3, 0), (4, 0), (5, 2)] rfl ?_
      refine ge_batch [0, 1, 2, 3] (ans := [.val ((.slice Z4 m12.length cz4)), .val (.int .i64 z2)]) (vs := [(86, .int .i64 z4), (85, .int .i64 z2), (84, (.slice Z4 m12.length cz4)), (83, .pointer (some ⟨b7, 0, none⟩))]) (l := [.loaded ⟨b7, 0, none⟩ ((.slice Z4 m12.length cz4)), .loaded ⟨b10, 0, none⟩ (.int .i64 z2)]) (by kernel_rfl) ⟨hS165.cell 2 rfl rfl, hS165.cell 0 rfl rfl, trivial⟩ ?_
      by_cases hc17 : 0 ≤ z2
      · rw [if_pos hc17] at h
        rcases hx13 : m12[(z2).toNat]? with _ | e5
        · rw [hx13] at h; cases h
        rw [hx13] at h
        simp only [] at h
        refine ge_index (d := 87) (ty := 0) (t := 24) (el := 3) (sz := 1) (m := m12.length) (c := cz4) (x := (.tmp 84)) (y := (.tmp 85)) (A := Z4) (k' := .i64) (j := z2) (jn := ((z2).toNat)) (b0 := blkOf Z4) (o0 := offOf Z4) (by kernel_rfl) (by kernel_rfl) (by kernel_rfl) (by kernel_rfl) (by kernel_rfl) ((hS165.rdAt 7 rfl).eqSome (pos_of_get hx13)) (Int.toNat_of_nonneg hc17).symm (lt_of_get hx13) ?_
        have hS166 := hS165.bring 7 rfl
        refine ge_seti (α := Int) (A := Z4) (nn := m12.length) (c := cz4) (t := 3) (l := m12) (x := e5) (x' := z4) (jn := ((z2).toNat)) (j := 0) (vs := [.int .i64 z4]) (l' := [.stored ⟨blkOf Z4, offOf Z4 + ((z2).toNat) * 1, none⟩ (.int .i64 z4)]) hS166 (by kernel_rfl) (by kernel_rfl) hx13 rfl rfl rfl fun w35 hS167 => ?_
        have hS168 : St w0 w35 [Own.of (.slice Z4 m12.length cz4) 3 (m12.set ((z2).toNat) z4), Own.blk b10 (.cells #[.int .i64 z2] 3 (0, 0)), Own.blk b8 (.cells #[(.slice Z3 m11.length cz3)] 24 (0, 0)), Own.blk b7 (.cells #[(.slice Z4 m12.length cz4), (.slice Z5 m13.length cz5)] 37 (0, 0)), Own.blk b3 (.cells #[.int .i64 0, .int .i64 0] 29 (0, 0)), Own.blk b2 (.cells #[.slice none 0 0, .slice none 0 0] 37 (0, 0)), Own.blk b1 (.cells #[.slice A0 l0.length c0] 32 (0, 0)), Own.of (.slice Z3 m11.length cz3) 3 m11, Own.of (.slice Z5 m13.length cz5) 3 m13] := hS167
        have hE3 : m12.length = (m12.set ((z2).toNat) z4).length := hS168.lenAt 0 rfl
        have hS169 : St w0 w35 [Own.of (.slice Z4 (m12.set ((z2).toNat) z4).length cz4) 3 (m12.set ((z2).toNat) z4), Own.blk b10 (.cells #[.int .i64 z2] 3 (0, 0)), Own.blk b8 (.cells #[(.slice Z3 m11.length cz3)] 24 (0, 0)), Own.blk b7 (.cells #[(.slice Z4 (m12.set ((z2).toNat) z4).length cz4), (.slice Z5 m13.length cz5)] 37 (0, 0)), Own.blk b3 (.cells #[.int .i64 0, .int .i64 0] 29 (0, 0)), Own.blk b2 (.cells #[.slice none 0 0, .slice none 0 0] 37 (0, 0)), Own.blk b1 (.cells #[.slice A0 l0.length c0] 32 (0, 0)), Own.of (.slice Z3 m11.length cz3) 3 m11, Own.of (.slice Z5 m13.length cz5) 3 m13] := by rw [← hE3]; exact hS168
        refine ge_same (t := 84) (v := (.slice Z4 m12.length cz4)) (v' := (.slice Z4 (m12.set ((z2).toNat) z4).length cz4)) (by kernel_rfl) (by rw [hE3]) ?_
        refine ge_nil fun a hF => hK29 _ _ ?_ a hF
        refine we_seq fun K30 hK30 => ?_
        refine we_seq fun K31 hK31 => ?_
        refine we_region [(0, 0), (1, 0)] rfl ?_
        refine ge_batch [0, 1] (ans := []) (vs := [(89, .bool (decide (z4 < 0))), (88, .int .i64 z4)]) (l := []) (by kernel_rfl) trivial ?_
        refine ge_nil fun a hF => hK31 _ _ ?_ a hF
        by_cases hc18 : z4 < 0
        · rw [if_pos hc18] at h
          refine we_known (t := 89) (b := decide (z4 < 0)) (v := true) (by kernel_rfl) (decide_eq_true hc18) ?_
          refine we_true (by kernel_rfl) ?_
          refine we_exit fun a hF => hK25 _ _ ?_ a hF
          refine we_region [(0, 0), (1, 0)] rfl ?_
          refine ge_batch [0, 1] (ans := []) (vs := [(64, .int .i64 (IntKind.i64.wrap (z2 + 1))), (107, .int .i64 (IntKind.i64.wrap (z2 + 1)))]) (l := []) (by kernel_rfl) trivial ?_
          have hS170 := hS169.bring 8 rfl
          have hS171 := hS170.bring 1 rfl
          have hS172 := hS171.bring 8 rfl
          have hS173 := hS172.bring 8 rfl
          have hS174 := hS173.bring 8 rfl
          have hS175 := hS174.bring 8 rfl
          have hS176 := hS175.bring 8 rfl
          have hS177 := hS176.bring 8 rfl
          have hS178 := hS177.takeN 8
          obtain rfl := Option.some.inj h
          exact ge_nil fun a hF => hQ _ _ _ (Outs.again ⟨hS178, hF.weaken ⟨by kernel_rfl, by kernel_rfl, by kernel_rfl, by kernel_rfl, by kernel_rfl, by kernel_rfl, by kernel_rfl, by kernel_rfl, by kernel_rfl, by kernel_rfl, trivial⟩⟩)
        · rw [if_neg hc18] at h
          refine we_known (t := 89) (b := decide (z4 < 0)) (v := false) (by kernel_rfl) (decide_eq_false hc18) ?_
          refine we_false (by kernel_rfl) ?_
          refine we_skip fun a hF => hK30 _ _ ?_ a hF
          refine we_seq fun K32 hK32 => ?_
          refine we_region [(0, 0), (1, 0), (2, 0), (3, 0), (4, 0), (5, 0), (6, 2)] rfl ?_
          refine ge_batch [0, 1] (ans := [.val ((.slice Z3 m11.length cz3))]) (vs := [(91, .int .i64 z4), (90, (.slice Z3 m11.length cz3))]) (l := [.loaded ⟨b8, 0, none⟩ ((.slice Z3 m11.length cz3))]) (by kernel_rfl) ⟨hS169.cell 2 rfl rfl, trivial⟩ ?_
          by_cases hc19 : 0 ≤ z4
          · rw [if_pos hc19] at h
            rcases hx14 : m11[(z4).toNat]? with _ | e6
            · rw [hx14] at h; cases h
            rw [hx14] at h
            simp only [] at h
            refine ge_index (d := 92) (ty := 0) (t := 24) (el := 3) (sz := 1) (m := m11.length) (c := cz3) (x := (.tmp 90)) (y := (.tmp 91)) (A := Z3) (k' := .i64) (j := z4) (jn := ((z4).toNat)) (b0 := blkOf Z3) (o0 := offOf Z3) (by kernel_rfl) (by kernel_rfl) (by kernel_rfl) (by kernel_rfl) (by kernel_rfl) ((hS169.rdAt 7 rfl).eqSome (pos_of_get hx14)) (Int.toNat_of_nonneg hc19).symm (lt_of_get hx14) ?_
            refine ge_batch [3, 4] (ans := [.val (.int .i64 e6)]) (vs := [(94, .int .i64 (IntKind.i64.wrap (e6 - 1))), (93, .int .i64 e6)]) (l := [.loaded ⟨blkOf Z3, offOf Z3 + ((z4).toNat) * 1, none⟩ (.int .i64 e6)]) (by kernel_rfl) ⟨RdL.cell (j := 0) (hS169.rdAt 7 rfl) hx14 rfl, trivial⟩ ?_
            refine ge_index (d := 95) (ty := 0) (t := 24) (el := 3) (sz := 1) (m := m11.length) (c := cz3) (x := (.tmp 90)) (y := (.tmp 91)) (A := Z3) (k' := .i64) (j := z4) (jn := ((z4).toNat)) (b0 := blkOf Z3) (o0 := offOf Z3) (by kernel_rfl) (by kernel_rfl) (by kernel_rfl) (by kernel_rfl) (by kernel_rfl) ((hS169.rdAt 7 rfl).eqSome (pos_of_get hx14)) (Int.toNat_of_nonneg hc19).symm (lt_of_get hx14) ?_
            have hS179 := hS169.bring 7 rfl
            refine ge_seti (α := Int) (A := Z3) (nn := m11.length) (c := cz3) (t := 3) (l := m11) (x := e6) (x' := (IntKind.i64.wrap (e6 - 1))) (jn := ((z4).toNat)) (j := 0) (vs := [.int .i64 (IntKind.i64.wrap (e6 - 1))]) (l' := [.stored ⟨blkOf Z3, offOf Z3 + ((z4).toNat) * 1, none⟩ (.int .i64 (IntKind.i64.wrap (e6 - 1)))]) hS179 (by kernel_rfl) (by kernel_rfl) hx14 rfl rfl rfl fun w36 hS180 => ?_
            have hS181 : St w0 w36 [Own.of (.slice Z3 m11.length cz3) 3 (m11.set ((z4).toNat) (IntKind.i64.wrap (e6 - 1))), Own.of (.slice Z4 (m12.set ((z2).toNat) z4).length cz4) 3 (m12.set ((z2).toNat) z4), Own.blk b10 (.cells #[.int .i64 z2] 3 (0, 0)), Own.blk b8 (.cells #[(.slice Z3 m11.length cz3)] 24 (0, 0)), Own.blk b7 (.cells #[(.slice Z4 (m12.set ((z2).toNat) z4).length cz4), (.slice Z5 m13.length cz5)] 37 (0, 0)), Own.blk b3 (.cells #[.int .i64 0, .int .i64 0] 29 (0, 0)), Own.blk b2 (.cells #[.slice none 0 0, .slice none 0 0] 37 (0, 0)), Own.blk b1 (.cells #[.slice A0 l0.length c0] 32 (0, 0)), Own.of (.slice Z5 m13.length cz5) 3 m13] := hS180
            have hE4 : m11.length = (m11.set ((z4).toNat) (IntKind.i64.wrap (e6 - 1))).length := hS181.lenAt 0 rfl
            have hS182 : St w0 w36 [Own.of (.slice Z3 (m11.set ((z4).toNat) (IntKind.i64.wrap (e6 - 1))).length cz3) 3 (m11.set ((z4).toNat) (IntKind.i64.wrap (e6 - 1))), Own.of (.slice Z4 (m12.set ((z2).toNat) z4).length cz4) 3 (m12.set ((z2).toNat) z4), Own.blk b10 (.cells #[.int .i64 z2] 3 (0, 0)), Own.blk b8 (.cells #[(.slice Z3 (m11.set ((z4).toNat) (IntKind.i64.wrap (e6 - 1))).length cz3)] 24 (0, 0)), Own.blk b7 (.cells #[(.slice Z4 (m12.set ((z2).toNat) z4).length cz4), (.slice Z5 m13.length cz5)] 37 (0, 0)), Own.blk b3 (.cells #[.int .i64 0, .int .i64 0] 29 (0, 0)), Own.blk b2 (.cells #[.slice none 0 0, .slice none 0 0] 37 (0, 0)), Own.blk b1 (.cells #[.slice A0 l0.length c0] 32 (0, 0)), Own.of (.slice Z5 m13.length cz5) 3 m13] := by rw [← hE4]; exact hS181
            refine ge_same (t := 90) (v := (.slice Z3 m11.length cz3)) (v' := (.slice Z3 (m11.set ((z4).toNat) (IntKind.i64.wrap (e6 - 1))).length cz3)) (by kernel_rfl) (by rw [hE4]) ?_
            refine ge_nil fun a hF => hK32 _ _ ?_ a hF
            refine we_seq fun K33 hK33 => ?_
            refine we_region [(0, 0), (1, 0), (2, 0), (3, 0), (4, 0)] rfl ?_
            refine ge_batch [0, 1] (ans := [.val ((.slice Z3 (m11.set ((z4).toNat) (IntKind.i64.wrap (e6 - 1))).length cz3))]) (vs := [(97, .int .i64 z4), (96, (.slice Z3 (m11.set ((z4).toNat) (IntKind.i64.wrap (e6 - 1))).length cz3))]) (l := [.loaded ⟨b8, 0, none⟩ ((.slice Z3 (m11.set ((z4).toNat) (IntKind.i64.wrap (e6 - 1))).length cz3))]) (by kernel_rfl) ⟨hS182.cell 3 rfl rfl, trivial⟩ ?_
            rcases hx15 : (m11.set ((z4).toNat) (IntKind.i64.wrap (e6 - 1)))[(z4).toNat]? with _ | e7
            · rw [hx15] at h; cases h
            rw [hx15] at h
            simp only [] at h
            refine ge_index (d := 98) (ty := 0) (t := 24) (el := 3) (sz := 1) (m := (m11.set ((z4).toNat) (IntKind.i64.wrap (e6 - 1))).length) (c := cz3) (x := (.tmp 96)) (y := (.tmp 97)) (A := Z3) (k' := .i64) (j := z4) (jn := ((z4).toNat)) (b0 := blkOf Z3) (o0 := offOf Z3) (by kernel_rfl) (by kernel_rfl) (by kernel_rfl) (by kernel_rfl) (by kernel_rfl) ((hS182.rdAt 0 rfl).eqSome (pos_of_get hx15)) (Int.toNat_of_nonneg hc19).symm (lt_of_get hx15) ?_
            refine ge_batch [3, 4] (ans := [.val (.int .i64 e7)]) (vs := [(100, .bool (e7 == 0)), (99, .int .i64 e7)]) (l := [.loaded ⟨blkOf Z3, offOf Z3 + ((z4).toNat) * 1, none⟩ (.int .i64 e7)]) (by kernel_rfl) ⟨RdL.cell (j := 0) (hS182.rdAt 0 rfl) hx15 rfl, trivial⟩ ?_
            refine ge_nil fun a hF => hK33 _ _ ?_ a hF
            by_cases hc20 : e7 = 0
            · rw [if_pos hc20] at h
              refine we_known (t := 100) (b := (e7 == 0)) (v := true) (by kernel_rfl) (beq_iff_eq.2 hc20) ?_
              refine we_true (by kernel_rfl) ?_
              refine we_region [(0, 0), (1, 0), (2, 0), (3, 0), (4, 0), (5, 0), (6, 2)] rfl ?_
              refine ge_batch [0, 1, 2, 3, 4] (ans := [.val ((.slice Z5 m13.length cz5)), .val (.int .i64 z2)]) (vs := [(105, .int .i64 (IntKind.i64.wrap (z2 + 1))), (104, .int .i64 z2), (103, .int .i64 z4), (102, (.slice Z5 m13.length cz5)), (101, .pointer (some ⟨b7, 1, none⟩))]) (l := [.loaded ⟨b7, 1, none⟩ ((.slice Z5 m13.length cz5)), .loaded ⟨b10, 0, none⟩ (.int .i64 z2)]) (by kernel_rfl) ⟨hS182.cell 4 rfl rfl, hS182.cell 2 rfl rfl, trivial⟩ ?_
              rcases hx16 : m13[(z4).toNat]? with _ | e8
              · rw [hx16] at h; cases h
              rw [hx16] at h
              simp only [] at h
              refine ge_index (d := 106) (ty := 0) (t := 24) (el := 3) (sz := 1) (m := m13.length) (c := cz5) (x := (.tmp 102)) (y := (.tmp 103)) (A := Z5) (k' := .i64) (j := z4) (jn := ((z4).toNat)) (b0 := blkOf Z5) (o0 := offOf Z5) (by kernel_rfl) (by kernel_rfl) (by kernel_rfl) (by kernel_rfl) (by kernel_rfl) ((hS182.rdAt 8 rfl).eqSome (pos_of_get hx16)) (Int.toNat_of_nonneg hc19).symm (lt_of_get hx16) ?_
              have hS183 := hS182.bring 8 rfl
              refine ge_seti (α := Int) (A := Z5) (nn := m13.length) (c := cz5) (t := 3) (l := m13) (x := e8) (x' := (IntKind.i64.wrap (z2 + 1))) (jn := ((z4).toNat)) (j := 0) (vs := [.int .i64 (IntKind.i64.wrap (z2 + 1))]) (l' := [.stored ⟨blkOf Z5, offOf Z5 + ((z4).toNat) * 1, none⟩ (.int .i64 (IntKind.i64.wrap (z2 + 1)))]) hS183 (by kernel_rfl) (by kernel_rfl) hx16 rfl rfl rfl fun w37 hS184 => ?_
              have hS185 : St w0 w37 [Own.of (.slice Z5 m13.length cz5) 3 (m13.set ((z4).toNat) (IntKind.i64.wrap (z2 + 1))), Own.of (.slice Z3 (m11.set ((z4).toNat) (IntKind.i64.wrap (e6 - 1))).length cz3) 3 (m11.set ((z4).toNat) (IntKind.i64.wrap (e6 - 1))), Own.of (.slice Z4 (m12.set ((z2).toNat) z4).length cz4) 3 (m12.set ((z2).toNat) z4), Own.blk b10 (.cells #[.int .i64 z2] 3 (0, 0)), Own.blk b8 (.cells #[(.slice Z3 (m11.set ((z4).toNat) (IntKind.i64.wrap (e6 - 1))).length cz3)] 24 (0, 0)), Own.blk b7 (.cells #[(.slice Z4 (m12.set ((z2).toNat) z4).length cz4), (.slice Z5 m13.length cz5)] 37 (0, 0)), Own.blk b3 (.cells #[.int .i64 0, .int .i64 0] 29 (0, 0)), Own.blk b2 (.cells #[.slice none 0 0, .slice none 0 0] 37 (0, 0)), Own.blk b1 (.cells #[.slice A0 l0.length c0] 32 (0, 0))] := hS184
              have hE5 : m13.length = (m13.set ((z4).toNat) (IntKind.i64.wrap (z2 + 1))).length := hS185.lenAt 0 rfl
              have hS186 : St w0 w37 [Own.of (.slice Z5 (m13.set ((z4).toNat) (IntKind.i64.wrap (z2 + 1))).length cz5) 3 (m13.set ((z4).toNat) (IntKind.i64.wrap (z2 + 1))), Own.of (.slice Z3 (m11.set ((z4).toNat) (IntKind.i64.wrap (e6 - 1))).length cz3) 3 (m11.set ((z4).toNat) (IntKind.i64.wrap (e6 - 1))), Own.of (.slice Z4 (m12.set ((z2).toNat) z4).length cz4) 3 (m12.set ((z2).toNat) z4), Own.blk b10 (.cells #[.int .i64 z2] 3 (0, 0)), Own.blk b8 (.cells #[(.slice Z3 (m11.set ((z4).toNat) (IntKind.i64.wrap (e6 - 1))).length cz3)] 24 (0, 0)), Own.blk b7 (.cells #[(.slice Z4 (m12.set ((z2).toNat) z4).length cz4), (.slice Z5 (m13.set ((z4).toNat) (IntKind.i64.wrap (z2 + 1))).length cz5)] 37 (0, 0)), Own.blk b3 (.cells #[.int .i64 0, .int .i64 0] 29 (0, 0)), Own.blk b2 (.cells #[.slice none 0 0, .slice none 0 0] 37 (0, 0)), Own.blk b1 (.cells #[.slice A0 l0.length c0] 32 (0, 0))] := by rw [← hE5]; exact hS185
              refine ge_same (t := 102) (v := (.slice Z5 m13.length cz5)) (v' := (.slice Z5 (m13.set ((z4).toNat) (IntKind.i64.wrap (z2 + 1))).length cz5)) (by kernel_rfl) (by rw [hE5]) ?_
              refine ge_nil fun a hF => hK25 _ _ ?_ a hF
              refine we_region [(0, 0), (1, 0)] rfl ?_
              refine ge_batch [0, 1] (ans := []) (vs := [(64, .int .i64 (IntKind.i64.wrap (z2 + 1))), (107, .int .i64 (IntKind.i64.wrap (z2 + 1)))]) (l := []) (by kernel_rfl) trivial ?_
              have hS187 := hS186.bring 2 rfl
              have hS188 := hS187.bring 2 rfl
              have hS189 := hS188.bring 8 rfl
              have hS190 := hS189.bring 8 rfl
              have hS191 := hS190.bring 8 rfl
              have hS192 := hS191.bring 8 rfl
              have hS193 := hS192.bring 8 rfl
              have hS194 := hS193.takeN 8
              obtain rfl := Option.some.inj h
              exact ge_nil fun a hF => hQ _ _ _ (Outs.again ⟨hS194, hF.weaken ⟨by kernel_rfl, by kernel_rfl, by kernel_rfl, by kernel_rfl, by kernel_rfl, by kernel_rfl, by kernel_rfl, by kernel_rfl, by kernel_rfl, by kernel_rfl, trivial⟩⟩)
            · rw [if_neg hc20] at h
              refine we_known (t := 100) (b := (e7 == 0)) (v := false) (by kernel_rfl) (beq_eq_false_iff_ne.2 hc20) ?_
              refine we_false (by kernel_rfl) ?_
              refine we_skip fun a hF => hK25 _ _ ?_ a hF
              refine we_region [(0, 0), (1, 0)] rfl ?_
              refine ge_batch [0, 1] (ans := []) (vs := [(64, .int .i64 (IntKind.i64.wrap (z2 + 1))), (107, .int .i64 (IntKind.i64.wrap (z2 + 1)))]) (l := []) (by kernel_rfl) trivial ?_
              have hS195 := hS182.bring 8 rfl
              have hS196 := hS195.bring 2 rfl
              have hS197 := hS196.bring 2 rfl
              have hS198 := hS197.bring 8 rfl
              have hS199 := hS198.bring 8 rfl
              have hS200 := hS199.bring 8 rfl
              have hS201 := hS200.bring 8 rfl
              have hS202 := hS201.bring 8 rfl
              have hS203 := hS202.takeN 8
              obtain rfl := Option.some.inj h
              exact ge_nil fun a hF => hQ _ _ _ (Outs.again ⟨hS203, hF.weaken ⟨by kernel_rfl, by kernel_rfl, by kernel_rfl, by kernel_rfl, by kernel_rfl, by kernel_rfl, by kernel_rfl, by kernel_rfl, by kernel_rfl, by kernel_rfl, trivial⟩⟩)
          · rw [if_neg hc19] at h
            cases h
      · rw [if_neg hc17] at h
        cases h
    · rw [hq10] at h
      simp only [] at h
      refine we_keep (e' := [(1, .int .i64 x1), (2, .bool x2), (4, .pointer (some ⟨b1, 0, none⟩)), (8, .pointer (some ⟨b2, 0, none⟩)), (9, .pointer (some ⟨b3, 0, none⟩)), (11, .pointer (some ⟨b7, 0, none⟩)), (12, .pointer (some ⟨b8, 0, none⟩)), (15, .int .i64 z1), (16, .pointer (some ⟨b10, 0, none⟩)), (63, .int .i64 x3), (64, .int .i64 z2), (65, .bool true), (66, .int .i64 z2)]) ⟨by kernel_rfl, by kernel_rfl, by kernel_rfl, by kernel_rfl, by kernel_rfl, by kernel_rfl, by kernel_rfl, by kernel_rfl, by kernel_rfl, by kernel_rfl, by kernel_rfl, by kernel_rfl, by kernel_rfl, trivial⟩ (sched_Play_p5 K w0 l0 A0 c0 x1 x2 x3 hR0 hL0 b1 b2 b3 r1 b4 hc1 b7 m3 m4 hc10 b8 Z3 cz3 Z4 cz4 Z5 cz5 m9 m10 z1 z2 m11 m12 m13 hc12 b10 _ hq10 _ hS122 _ ?_)
      rintro _ a w1 ⟨_, rfl, hb⟩
      obtain rfl := Option.some.inj h
      exact hQ _ _ _ (Outs.out nofun (Exits.on ⟨rfl, hb⟩))
  · rw [if_neg hc12] at h
    refine we_known (t := 65) (b := decide (z2 < x3)) (v := false) (by kernel_rfl) (decide_eq_false hc12) ?_
    refine we_false (by kernel_rfl) ?_
    have hS204 := hS.bring 7 rfl
    have hS205 := hS204.bring 7 rfl
    have hS206 := hS205.bring 5 rfl
    have hS207 := hS206.bring 5 rfl
    have hS208 := hS207.bring 5 rfl
    have hS209 := hS208.takeN 5
    obtain rfl := Option.some.inj h
    exact we_exit fun a hF => hQ _ _ _ (Outs.out nofun (Exits.here ⟨hS209, hF.weaken ⟨by kernel_rfl, by kernel_rfl, by kernel_rfl, trivial⟩⟩))
abbrev sched_Play.A6 (K : Nat) (w0 : World) (l0 : List SJob) (A0 : Option Addr) (c0 : Nat) (x1 : Int) (x2 : Bool) (x3 : Int) (hR0 : RdL w0 A0 l0) (hL0 : l0.length ≤ c0) (b1 : Nat) (b2 : Nat) (b3 : Nat) (r1 : SFault) (b4 : Nat) (hc1 : ¬ (r1.Code = 0)) : (Int × Int × (List Int) × (List Int)) → Act → World → Prop := fun (s : Int × Int × (List Int) × (List Int)) a w => ∃ (v8 : Value) (v9 : Value), St w0 w [Own.blk b3 (.cells #[.int .i64 s.1, .int .i64 s.2.1] 29 (0, 0)), Own.blk b2 (.cells #[v8, v9] 37 (0, 0)), Own.of v8 3 s.2.2.1, Own.of v9 3 s.2.2.2] ∧ Frm 110 a [(8, .pointer (some ⟨b2, 0, none⟩)), (9, .pointer (some ⟨b3, 0, none⟩))]
abbrev sched_Play.B6 (K : Nat) (w0 : World) (l0 : List SJob) (A0 : Option Addr) (c0 : Nat) (x1 : Int) (x2 : Bool) (x3 : Int) (hR0 : RdL w0 A0 l0) (hL0 : l0.length ≤ c0) (b1 : Nat) (b2 : Nat) (b3 : Nat) (r1 : SFault) (b4 : Nat) (hc1 : ¬ (r1.Code = 0)) : (SPlayed × SFault) → Exit → Act → World → Prop := Rets Try.prog Try.f13 (sched_Play.Post w0)
theorem sched_Play_p6 (K : Nat) (w0 : World) (l0 : List SJob) (A0 : Option Addr) (c0 : Nat) (x1 : Int) (x2 : Bool) (x3 : Int) (hR0 : RdL w0 A0 l0) (hL0 : l0.length ≤ c0) (b1 : Nat) (b2 : Nat) (b3 : Nat) (r1 : SFault) (b4 : Nat) (hc1 : ¬ (r1.Code = 0)) (o : (Int × Int × (List Int) × (List Int)) ⊕ (SPlayed × SFault)) (h : sched_Play.p6 r1 = some o) (w : World) (hS : St w0 w [Own.blk b4 (.cells #[.int .i64 r1.Code, .int .i64 r1.At] 29 (0, 0)), Own.blk b3 (.cells #[.int .i64 0, .int .i64 0] 29 (0, 0)), Own.blk b2 (.cells #[.slice none 0 0, .slice none 0 0] 37 (0, 0)), Own.blk b1 (.cells #[.slice A0 l0.length c0] 32 (0, 0))]) (Q : Exit → Act → World → Prop) (hQ : ∀ x a w, Outs (sched_Play.A6 K w0 l0 A0 c0 x1 x2 x3 hR0 hL0 b1 b2 b3 r1 b4 hc1) (sched_Play.B6 K w0 l0 A0 c0 x1 x2 x3 hR0 hL0 b1 b2 b3 r1 b4 hc1) o x a w → Q x a w) : WE Try.prog 110 (subF Try.f13 [1, 0, 1, 1, 0, 0]) Q [(0, .slice A0 l0.length c0), (1, .int .i64 x1), (2, .bool x2), (3, .int .i64 x3), (4, .pointer (some ⟨b1, 0, none⟩)), (8, .pointer (some ⟨b2, 0, none⟩)), (9, .pointer (some ⟨b3, 0, none⟩)), (10, .pointer (some ⟨b4, 0, none⟩)), (17, .slice A0 l0.length c0), (18, .agg #[.int .i64 r1.Code, .int .i64 r1.At]), (19, .pointer (some ⟨b4, 0, none⟩)), (20, .int .i64 r1.Code), (21, .bool true)] w := by
  simp only [sched_Play.p6] at h
  refine we_orders2 (by kernel_rfl) [(1, [⟨b4, 0, none⟩, ⟨b4, 1, none⟩])] (.vals [0] (.vals [1] (.alt 2 2 (.alt 3 2 .fin .nomore) .nomore))) (by kernel_rfl) ?_
  have hS220 := hS.drew
  refine go2_batch [0] (ans := []) (vs := [(22, .agg #[.slice none 0 0, .slice none 0 0])]) (l := []) (by kernel_rfl) trivial mem_nil ?_
  refine go2_batch [1] (ans := [.val (.int .i64 r1.Code), .val (.int .i64 r1.At)]) (vs := [(23, .agg #[.int .i64 r1.Code, .int .i64 r1.At])]) (l := [.loaded ⟨b4, 0, none⟩ (.int .i64 r1.Code), .loaded ⟨b4, 1, none⟩ (.int .i64 r1.At)]) (by kernel_rfl) ⟨hS220.cell 0 rfl rfl, hS220.cell 0 rfl rfl, trivial⟩ (mem_one (by kernel_rfl)) ?_
  refine go_alt2 (fun KK hKK => ?_) ?_
  · have hS221 := hS220.bring 2 rfl
    refine ge_set (b := b2) (j := 0) (cs := #[.slice none 0 0, .slice none 0 0]) (t := 37) (vs := [.slice none 0 0, .slice none 0 0]) hS221 (by kernel_rfl) rfl rfl fun w41 hS222 => ?_
    have hS223 : St w0 w41 [Own.blk b2 (.cells #[.slice none 0 0, .slice none 0 0] 37 (0, 0)), Own.blk b4 (.cells #[.int .i64 r1.Code, .int .i64 r1.At] 29 (0, 0)), Own.blk b3 (.cells #[.int .i64 0, .int .i64 0] 29 (0, 0)), Own.blk b1 (.cells #[.slice A0 l0.length c0] 32 (0, 0))] := hS222
    refine ge_nil fun a hF => hKK _ _ (RS.of2 (l := [.loaded ⟨b4, 0, none⟩ (.int .i64 r1.Code), .loaded ⟨b4, 1, none⟩ (.int .i64 r1.At)]) (by kernel_rfl) ⟨hS220.cell 0 rfl rfl, hS220.cell 0 rfl rfl, trivial⟩ ⟨hS223.cell 1 rfl rfl, hS223.cell 1 rfl rfl, trivial⟩) ?_ a hF
    refine go_alt2 (fun KK hKK => ?_) ?_
    · have hS224 := hS223.bring 2 rfl
      refine ge_set (b := b3) (j := 0) (cs := #[.int .i64 0, .int .i64 0]) (t := 29) (vs := [.int .i64 r1.Code, .int .i64 r1.At]) hS224 (by kernel_rfl) rfl rfl fun w42 hS225 => ?_
      have hS226 : St w0 w42 [Own.blk b3 (.cells #[.int .i64 r1.Code, .int .i64 r1.At] 29 (0, 0)), Own.blk b2 (.cells #[.slice none 0 0, .slice none 0 0] 37 (0, 0)), Own.blk b4 (.cells #[.int .i64 r1.Code, .int .i64 r1.At] 29 (0, 0)), Own.blk b1 (.cells #[.slice A0 l0.length c0] 32 (0, 0))] := hS225
      refine ge_nil fun a hF => hKK _ _ (RS.of2 (l := []) (by kernel_rfl) trivial trivial) ?_ a hF
      have hS227 := hS226.nil (α := Int) 3
      have hS228 := hS227.nil (α := Int) 3
      have hS229 := hS228.bring 1 rfl
      have hS230 := hS229.bring 1 rfl
      have hS231 := hS230.bring 3 rfl
      have hS232 := hS231.bring 3 rfl
      have hS233 := hS232.takeN 4
      obtain rfl := Option.some.inj h
      exact go_fin2 fun a hF => hQ _ _ _ (Outs.again ⟨(.slice none 0 0), (.slice none 0 0), hS233, hF.weaken ⟨by kernel_rfl, by kernel_rfl, trivial⟩⟩)
    exact go_nomore2
  exact go_nomore2
theorem sched_Play_ok (K : Nat) (l0 : List SJob) (A0 : Option Addr) (c0 : Nat) (x1 : Int) (x2 : Bool) (x3 : Int) (w0 : World) (hR0 : RdL w0 A0 l0) (hL0 : l0.length ≤ c0) (r : SPlayed × SFault) (h : sched_Play.f K l0 x1 x2 x3 = some r) :
    Calls Try.prog 13 #[.slice A0 l0.length c0, .int .i64 x1, .bool x2, .int .i64 x3] w0 (sched_Play.Post w0 r) := by
  have hS := St.start w0
  unfold sched_Play.f at h
  refine calls_enter (n := 110) (args := [.slice A0 l0.length c0, .int .i64 x1, .bool x2, .int .i64 x3]) (fn := Try.f13) rfl rfl rfl rfl ?_
  show WE _ _ _ _ [(0, .slice A0 l0.length c0), (1, .int .i64 x1), (2, .bool x2), (3, .int .i64 x3)] _
  refine we_seq fun K1 hK1 => ?_
  refine we_region [(0, 1), (1, 1), (2, 1)] rfl ?_
  refine ge_new (d := some 4) (o := .cells #[.slice A0 l0.length c0] 32) (v := fun b => .pointer (some ⟨b, 0, none⟩)) hS (fun b => by kernel_rfl) fun b1 w1 hx1 hS1 => ?_
  refine ge_new (d := some 8) (o := .cells #[.slice none 0 0, .slice none 0 0] 37) (v := fun b => .pointer (some ⟨b, 0, none⟩)) hS1 (fun b => by kernel_rfl) fun b2 w2 hx2 hS2 => ?_
  refine ge_new (d := some 9) (o := .cells #[.int .i64 0, .int .i64 0] 29) (v := fun b => .pointer (some ⟨b, 0, none⟩)) hS2 (fun b => by kernel_rfl) fun b3 w3 hx3 hS3 => ?_
  refine ge_nil fun a hF => hK1 _ _ ?_ a hF
  refine we_seq fun K2 hK2 => ?_
  refine we_seq fun K3 hK3 => ?_
  refine we_region [(0, 0), (1, 1), (2, 1), (3, 2)] rfl ?_
  rcases hq1 : sched_Check.f K l0 with _ | r1
  · rw [hq1] at h; cases h
  rw [hq1] at h
  simp only [] at h
  refine ge_batch [0] (ans := [.val (.slice A0 l0.length c0)]) (vs := [(17, .slice A0 l0.length c0)]) (l := [.loaded ⟨b1, 0, none⟩ (.slice A0 l0.length c0)]) (by kernel_rfl) ⟨hS3.cell 2 rfl rfl, trivial⟩ ?_
  refine ge_call (d := some 18) (f := 21) (args := #[.slice A0 l0.length c0]) (by kernel_rfl) (sched_Check_ok K l0 A0 c0 _ (hS3.rd hR0) hL0 _ hq1) ?_
  rintro _ w4 ⟨rfl, hS4⟩
  refine ⟨_, rfl, hS4.below, ?_⟩
  have hS5 := hS3.call hS4
  refine ge_new (d := some 10) (o := .cells #[.int .i64 0, .int .i64 0] 29) (v := fun b => .pointer (some ⟨b, 0, none⟩)) hS5 (fun b => by kernel_rfl) fun b4 w5 hx4 hS6 => ?_
  refine ge_set (b := b4) (j := 0) (cs := #[.int .i64 0, .int .i64 0]) (t := 29) (vs := [.int .i64 r1.Code, .int .i64 r1.At]) hS6 (by kernel_rfl) rfl rfl fun w6 hS7 => ?_
  have hS8 : St w0 w6 [Own.blk b4 (.cells #[.int .i64 r1.Code, .int .i64 r1.At] 29 (0, 0)), Own.blk b3 (.cells #[.int .i64 0, .int .i64 0] 29 (0, 0)), Own.blk b2 (.cells #[.slice none 0 0, .slice none 0 0] 37 (0, 0)), Own.blk b1 (.cells #[.slice A0 l0.length c0] 32 (0, 0))] := hS7
  refine ge_nil fun a hF => hK3 _ _ ?_ a hF
  refine we_seq fun K4 hK4 => ?_
  refine we_region [(0, 0), (1, 0), (2, 0)] rfl ?_
  refine ge_batch [0, 1, 2] (ans := [.val (.int .i64 r1.Code)]) (vs := [(21, .bool (r1.Code != 0)), (20, .int .i64 r1.Code), (19, .pointer (some ⟨b4, 0, none⟩))]) (l := [.loaded ⟨b4, 0, none⟩ (.int .i64 r1.Code)]) (by kernel_rfl) ⟨hS8.cell 0 rfl rfl, trivial⟩ ?_
  refine ge_nil fun a hF => hK4 _ _ ?_ a hF
  by_cases hc1 : r1.Code = 0
  · rw [if_pos hc1] at h
    refine we_known (t := 21) (b := (r1.Code != 0)) (v := false) (by kernel_rfl) (bne_eq_false_iff_eq.2 hc1) ?_
    refine we_false (by kernel_rfl) ?_
    refine we_skip fun a hF => hK2 _ _ ?_ a hF
    refine we_seq fun K5 hK5 => ?_
    rcases hq3 : sched_Play.p0 x1 with _ | (_ | rr6)
    · rw [hq3] at h; cases h
    · rw [hq3] at h
      simp only [] at h
      refine we_keep (e' := [(0, .slice A0 l0.length c0), (1, .int .i64 x1), (2, .bool x2), (3, .int .i64 x3), (4, .pointer (some ⟨b1, 0, none⟩)), (8, .pointer (some ⟨b2, 0, none⟩)), (9, .pointer (some ⟨b3, 0, none⟩)), (10, .pointer (some ⟨b4, 0, none⟩)), (17, .slice A0 l0.length c0), (18, .agg #[.int .i64 r1.Code, .int .i64 r1.At]), (19, .pointer (some ⟨b4, 0, none⟩)), (20, .int .i64 r1.Code), (21, .bool false)]) ⟨by kernel_rfl, by kernel_rfl, by kernel_rfl, by kernel_rfl, by kernel_rfl, by kernel_rfl, by kernel_rfl, by kernel_rfl, by kernel_rfl, by kernel_rfl, by kernel_rfl, by kernel_rfl, by kernel_rfl, trivial⟩ (sched_Play_p0 K w0 l0 A0 c0 x1 x2 x3 hR0 hL0 b1 b2 b3 r1 b4 hc1 _ hq3 _ hS8 _ ?_)
      rintro _ a w10 ⟨rfl, hS30, hF⟩
      replace hS30 : St w0 w10 [Own.blk b3 (.cells #[.int .i64 0, .int .i64 0] 29 (0, 0)), Own.blk b2 (.cells #[.slice none 0 0, .slice none 0 0] 37 (0, 0)), Own.blk b1 (.cells #[.slice A0 l0.length c0] 32 (0, 0))] := hS30
      refine hK5 [(1, .int .i64 x1), (2, .bool x2), (3, .int .i64 x3), (4, .pointer (some ⟨b1, 0, none⟩)), (8, .pointer (some ⟨b2, 0, none⟩)), (9, .pointer (some ⟨b3, 0, none⟩))] w10 ?_ a hF
      refine we_seq fun K8 hK8 => ?_
      rcases hq4 : sched_Play.p1 x3 with _ | (_ | rr5)
      · rw [hq4] at h; cases h
      · rw [hq4] at h
        simp only [] at h
        refine we_keep (e' := [(1, .int .i64 x1), (2, .bool x2), (3, .int .i64 x3), (4, .pointer (some ⟨b1, 0, none⟩)), (8, .pointer (some ⟨b2, 0, none⟩)), (9, .pointer (some ⟨b3, 0, none⟩))]) ⟨by kernel_rfl, by kernel_rfl, by kernel_rfl, by kernel_rfl, by kernel_rfl, by kernel_rfl, trivial⟩ (sched_Play_p1 K w0 l0 A0 c0 x1 x2 x3 hR0 hL0 b1 b2 b3 r1 b4 hc1 _ hq4 _ hS30 _ ?_)
        rintro _ a w15 ⟨rfl, hS56, hF⟩
        replace hS56 : St w0 w15 [Own.blk b3 (.cells #[.int .i64 0, .int .i64 0] 29 (0, 0)), Own.blk b2 (.cells #[.slice none 0 0, .slice none 0 0] 37 (0, 0)), Own.blk b1 (.cells #[.slice A0 l0.length c0] 32 (0, 0))] := hS56
        refine hK8 [(1, .int .i64 x1), (2, .bool x2), (3, .int .i64 x3), (4, .pointer (some ⟨b1, 0, none⟩)), (8, .pointer (some ⟨b2, 0, none⟩)), (9, .pointer (some ⟨b3, 0, none⟩))] w15 ?_ a hF
        refine we_seq fun K12 hK12 => ?_
        rcases hq5 : sched_Play.p2 l0 x3 with _ | (⟨m3, m4⟩ | rr4)
        · rw [hq5] at h; cases h
        · rw [hq5] at h
          simp only [] at h
          refine we_keep (e' := [(1, .int .i64 x1), (2, .bool x2), (3, .int .i64 x3), (4, .pointer (some ⟨b1, 0, none⟩)), (8, .pointer (some ⟨b2, 0, none⟩)), (9, .pointer (some ⟨b3, 0, none⟩))]) ⟨by kernel_rfl, by kernel_rfl, by kernel_rfl, by kernel_rfl, by kernel_rfl, by kernel_rfl, trivial⟩ (sched_Play_p2 K w0 l0 A0 c0 x1 x2 x3 hR0 hL0 b1 b2 b3 r1 b4 hc1 _ hq5 _ hS56 _ ?_)
          rintro _ a w20 ⟨rfl, b7, v5, v6, hS70, hF⟩
          replace hS70 : St w0 w20 [Own.blk b7 (.cells #[v5, v6] 37 (0, 0)), Own.blk b3 (.cells #[.int .i64 0, .int .i64 0] 29 (0, 0)), Own.blk b2 (.cells #[.slice none 0 0, .slice none 0 0] 37 (0, 0)), Own.blk b1 (.cells #[.slice A0 l0.length c0] 32 (0, 0)), Own.of v5 3 m3, Own.of v6 3 m4] := hS70
          refine hK12 [(1, .int .i64 x1), (2, .bool x2), (3, .int .i64 x3), (4, .pointer (some ⟨b1, 0, none⟩)), (8, .pointer (some ⟨b2, 0, none⟩)), (9, .pointer (some ⟨b3, 0, none⟩)), (11, .pointer (some ⟨b7, 0, none⟩))] w20 ?_ a hF
          refine we_seq fun K13 hK13 => ?_
          refine we_region [(0, 0), (1, 0), (2, 1), (3, 1), (4, 2)] rfl ?_
          refine ge_batch [0, 1] (ans := [.val (.slice A0 l0.length c0)]) (vs := [(44, .int .i64 (l0.length : Int)), (43, .slice A0 l0.length c0)]) (l := [.loaded ⟨b1, 0, none⟩ (.slice A0 l0.length c0)]) (by kernel_rfl) ⟨hS70.cell 3 rfl rfl, trivial⟩ ?_
          by_cases hc10 : l0.length ≤ 17592186044416
          · rw [if_pos hc10] at h
            refine ge_make (α := Int) (d := 45) (t := 24) (el := 3) (bytes := 8) (l := l0.length) (c := l0.length) (x := (.tmp 44)) (y := (.tmp 44)) (ty := 24) (k1 := .i64) (k2 := .i64) (li := (l0.length : Int)) (ci := (l0.length : Int)) (z := .int .i64 0) (z' := (0 : Int)) (by kernel_rfl) (by kernel_rfl) (by kernel_rfl) rfl rfl (by kernel_rfl) (by kernel_rfl) rfl hS70 (Nat.le_refl _) rfl (by omega) fun v7 w21 _ hS71 => ?_
            refine ge_new (d := some 12) (o := .cells #[.slice none 0 0] 24) (v := fun b => .pointer (some ⟨b, 0, none⟩)) hS71 (fun b => by kernel_rfl) fun b8 w22 hx6 hS72 => ?_
            obtain ⟨Z3, cz3, rfl⟩ := hS72.open 1 rfl
            refine ge_set (b := b8) (j := 0) (cs := #[.slice none 0 0]) (t := 24) (vs := [(.slice Z3 (List.replicate l0.length (0 : Int)).length cz3)]) hS72 (by kernel_rfl) rfl rfl fun w23 hS73 => ?_
            have hS74 : St w0 w23 [Own.blk b8 (.cells #[(.slice Z3 (List.replicate l0.length (0 : Int)).length cz3)] 24 (0, 0)), Own.of (.slice Z3 (List.replicate l0.length (0 : Int)).length cz3) 3 (List.replicate l0.length (0 : Int)), Own.blk b7 (.cells #[v5, v6] 37 (0, 0)), Own.blk b3 (.cells #[.int .i64 0, .int .i64 0] 29 (0, 0)), Own.blk b2 (.cells #[.slice none 0 0, .slice none 0 0] 37 (0, 0)), Own.blk b1 (.cells #[.slice A0 l0.length c0] 32 (0, 0)), Own.of v5 3 m3, Own.of v6 3 m4] := hS73
            refine ge_nil fun a hF => hK13 _ _ ?_ a hF
            refine we_seq fun K14 hK14 => ?_
            refine we_seq fun K15 hK15 => ?_
            refine we_region [(0, 0), (1, 0), (2, 0)] rfl ?_
            refine ge_batch [0, 1, 2] (ans := [.val (.slice A0 l0.length c0)]) (vs := [(48, .int .i64 0), (47, .int .i64 (l0.length : Int)), (46, .slice A0 l0.length c0)]) (l := [.loaded ⟨b1, 0, none⟩ (.slice A0 l0.length c0)]) (by kernel_rfl) ⟨hS74.cell 5 rfl rfl, trivial⟩ ?_
            refine ge_nil fun a hF => hK15 _ _ ?_ a hF
            refine we_block ?_
            obtain ⟨Z4, cz4, rfl⟩ := hS74.open 6 rfl
            obtain ⟨Z5, cz5, rfl⟩ := hS74.open 7 rfl
            have hS75 := hS74.bring 7 rfl
            have hS76 := hS75.bring 7 rfl
            have hS77 := hS76.bring 3 rfl
            have hS78 := hS77.bring 7 rfl
            have hS79 := hS78.bring 7 rfl
            have hS80 := hS79.bring 7 rfl
            have hS81 := hS80.bring 7 rfl
            have hS82 := hS81.bring 7 rfl
            rcases hq6 : iter (sched_Play.r3 l0) K (0, (List.replicate l0.length (0 : Int)), m4) with _ | (⟨m9, m10⟩ | rr3)
            · rw [hq6] at h; cases h
            · rw [hq6] at h
              simp only [] at h
              refine we_iter (A := sched_Play.A3 K w0 l0 A0 c0 x1 x2 x3 hR0 hL0 b1 b2 b3 r1 b4 hc1 b7 m3 m4 hc10 b8 Z3 cz3 Z4 cz4 Z5 cz5) (B := sched_Play.B3 K w0 l0 A0 c0 x1 x2 x3 hR0 hL0 b1 b2 b3 r1 b4 hc1 b7 m3 m4 hc10 b8 Z3 cz3 Z4 cz4 Z5 cz5) hq6 (fun a hF => ⟨hS82, hF.weaken ⟨by kernel_rfl, by kernel_rfl, by kernel_rfl, by kernel_rfl, by kernel_rfl, by kernel_rfl, by kernel_rfl, by kernel_rfl, by kernel_rfl, by kernel_rfl, by kernel_rfl, trivial⟩⟩) (fun s o hf a w hA Q hQ => sched_Play_r3 K w0 l0 A0 c0 x1 x2 x3 hR0 hL0 b1 b2 b3 r1 b4 hc1 b7 m3 m4 hc10 b8 Z3 cz3 Z4 cz4 Z5 cz5 s o hf a w hA Q hQ) ?_
              rintro _ a w28 _ ⟨rfl, hS111, hF⟩
              replace hS111 : St w0 w28 [Own.blk b8 (.cells #[(.slice Z3 m9.length cz3)] 24 (0, 0)), Own.blk b7 (.cells #[(.slice Z4 m3.length cz4), (.slice Z5 m10.length cz5)] 37 (0, 0)), Own.blk b3 (.cells #[.int .i64 0, .int .i64 0] 29 (0, 0)), Own.blk b2 (.cells #[.slice none 0 0, .slice none 0 0] 37 (0, 0)), Own.blk b1 (.cells #[.slice A0 l0.length c0] 32 (0, 0)), Own.of (.slice Z3 m9.length cz3) 3 m9, Own.of (.slice Z4 m3.length cz4) 3 m3, Own.of (.slice Z5 m10.length cz5) 3 m10] := hS111
              refine hK14 [(1, .int .i64 x1), (2, .bool x2), (3, .int .i64 x3), (4, .pointer (some ⟨b1, 0, none⟩)), (8, .pointer (some ⟨b2, 0, none⟩)), (9, .pointer (some ⟨b3, 0, none⟩)), (11, .pointer (some ⟨b7, 0, none⟩)), (12, .pointer (some ⟨b8, 0, none⟩))] w28 ?_ a hF
              refine we_seq fun K20 hK20 => ?_
              refine we_region [(0, 0)] rfl ?_
              refine ge_batch [0] (ans := []) (vs := [(15, .int .i64 (-1))]) (l := []) (by kernel_rfl) trivial ?_
              refine ge_nil fun a hF => hK20 _ _ ?_ a hF
              refine we_seq fun K21 hK21 => ?_
              refine we_seq fun K22 hK22 => ?_
              refine we_region [(0, 0), (1, 0)] rfl ?_
              refine ge_batch [0, 1] (ans := []) (vs := [(64, .int .i64 0), (63, .int .i64 x3)]) (l := []) (by kernel_rfl) trivial ?_
              refine ge_nil fun a hF => hK22 _ _ ?_ a hF
              refine we_block ?_
              have hS112 := hS111.bring 7 rfl
              have hS113 := hS112.bring 7 rfl
              have hS114 := hS113.bring 7 rfl
              have hS115 := hS114.bring 7 rfl
              have hS116 := hS115.bring 7 rfl
              have hS117 := hS116.bring 7 rfl
              have hS118 := hS117.bring 7 rfl
              have hS119 := hS118.bring 7 rfl
              rcases hq11 : iter (sched_Play.r4 K l0 x1 x2 x3) K ((-1), 0, m9, m3, m10) with _ | (⟨m16, m17⟩ | rr2)
              · rw [hq11] at h; cases h
              · rw [hq11] at h
                simp only [] at h
                refine we_iter (A := sched_Play.A4 K w0 l0 A0 c0 x1 x2 x3 hR0 hL0 b1 b2 b3 r1 b4 hc1 b7 m3 m4 hc10 b8 Z3 cz3 Z4 cz4 Z5 cz5 m9 m10) (B := sched_Play.B4 K w0 l0 A0 c0 x1 x2 x3 hR0 hL0 b1 b2 b3 r1 b4 hc1 b7 m3 m4 hc10 b8 Z3 cz3 Z4 cz4 Z5 cz5 m9 m10) hq11 (fun a hF => ⟨hS119, hF.weaken ⟨by kernel_rfl, by kernel_rfl, by kernel_rfl, by kernel_rfl, by kernel_rfl, by kernel_rfl, by kernel_rfl, by kernel_rfl, by kernel_rfl, by kernel_rfl, trivial⟩⟩) (fun s o hf a w hA Q hQ => sched_Play_r4 K w0 l0 A0 c0 x1 x2 x3 hR0 hL0 b1 b2 b3 r1 b4 hc1 b7 m3 m4 hc10 b8 Z3 cz3 Z4 cz4 Z5 cz5 m9 m10 s o hf a w hA Q hQ) ?_
                rintro _ a w38 _ ⟨rfl, hS210, hF⟩
                replace hS210 : St w0 w38 [Own.blk b7 (.cells #[(.slice Z4 m16.length cz4), (.slice Z5 m17.length cz5)] 37 (0, 0)), Own.blk b3 (.cells #[.int .i64 0, .int .i64 0] 29 (0, 0)), Own.blk b2 (.cells #[.slice none 0 0, .slice none 0 0] 37 (0, 0)), Own.of (.slice Z4 m16.length cz4) 3 m16, Own.of (.slice Z5 m17.length cz5) 3 m17] := hS210
                refine hK21 [(8, .pointer (some ⟨b2, 0, none⟩)), (9, .pointer (some ⟨b3, 0, none⟩)), (11, .pointer (some ⟨b7, 0, none⟩))] w38 ?_ a hF
                refine we_seq fun K34 hK34 => ?_
                refine we_region [(0, 0), (1, 0), (2, 2), (3, 2)] rfl ?_
                refine ge_batch [0, 1] (ans := [.val ((.slice Z4 m16.length cz4)), .val ((.slice Z5 m17.length cz5))]) (vs := [(109, .agg #[.int .i64 0, .int .i64 0]), (108, .agg #[(.slice Z4 m16.length cz4), (.slice Z5 m17.length cz5)])]) (l := [.loaded ⟨b7, 0, none⟩ ((.slice Z4 m16.length cz4)), .loaded ⟨b7, 1, none⟩ ((.slice Z5 m17.length cz5))]) (by kernel_rfl) ⟨hS210.cell 0 rfl rfl, hS210.cell 0 rfl rfl, trivial⟩ ?_
                have hS211 := hS210.bring 2 rfl
                refine ge_set (b := b2) (j := 0) (cs := #[.slice none 0 0, .slice none 0 0]) (t := 37) (vs := [(.slice Z4 m16.length cz4), (.slice Z5 m17.length cz5)]) hS211 (by kernel_rfl) rfl rfl fun w39 hS212 => ?_
                have hS213 : St w0 w39 [Own.blk b2 (.cells #[(.slice Z4 m16.length cz4), (.slice Z5 m17.length cz5)] 37 (0, 0)), Own.blk b7 (.cells #[(.slice Z4 m16.length cz4), (.slice Z5 m17.length cz5)] 37 (0, 0)), Own.blk b3 (.cells #[.int .i64 0, .int .i64 0] 29 (0, 0)), Own.of (.slice Z4 m16.length cz4) 3 m16, Own.of (.slice Z5 m17.length cz5) 3 m17] := hS212
                have hS214 := hS213.bring 2 rfl
                refine ge_set (b := b3) (j := 0) (cs := #[.int .i64 0, .int .i64 0]) (t := 29) (vs := [.int .i64 0, .int .i64 0]) hS214 (by kernel_rfl) rfl rfl fun w40 hS215 => ?_
                have hS216 : St w0 w40 [Own.blk b3 (.cells #[.int .i64 0, .int .i64 0] 29 (0, 0)), Own.blk b2 (.cells #[(.slice Z4 m16.length cz4), (.slice Z5 m17.length cz5)] 37 (0, 0)), Own.blk b7 (.cells #[(.slice Z4 m16.length cz4), (.slice Z5 m17.length cz5)] 37 (0, 0)), Own.of (.slice Z4 m16.length cz4) 3 m16, Own.of (.slice Z5 m17.length cz5) 3 m17] := hS215
                refine ge_nil fun a hF => hK34 _ _ ?_ a hF
                have hS217 := hS216.bring 4 rfl
                have hS218 := hS217.bring 4 rfl
                have hS219 := hS218.takeN 2
                obtain rfl := Option.some.inj h
                exact we_ret (post_ret (rs := [.cell 8 37, .cell 9 29]) (ans := [.val ((.slice Z4 m16.length cz4)), .val ((.slice Z5 m17.length cz5)), .val (.int .i64 0), .val (.int .i64 0)]) (vs := [.agg #[(.slice Z4 m16.length cz4), (.slice Z5 m17.length cz5)], .agg #[.int .i64 0, .int .i64 0]]) (l := [.loaded ⟨b2, 0, none⟩ ((.slice Z4 m16.length cz4)), .loaded ⟨b2, 1, none⟩ ((.slice Z5 m17.length cz5)), .loaded ⟨b3, 0, none⟩ (.int .i64 0), .loaded ⟨b3, 1, none⟩ (.int .i64 0)]) rfl (by kernel_rfl) ⟨hS216.cell 1 rfl rfl, hS216.cell 1 rfl rfl, hS216.cell 0 rfl rfl, hS216.cell 0 rfl rfl, trivial⟩ ⟨(.slice Z4 m16.length cz4), (.slice Z5 m17.length cz5), rfl, hS219⟩)
              · rw [hq11] at h
                simp only [] at h
                refine we_iter (A := sched_Play.A4 K w0 l0 A0 c0 x1 x2 x3 hR0 hL0 b1 b2 b3 r1 b4 hc1 b7 m3 m4 hc10 b8 Z3 cz3 Z4 cz4 Z5 cz5 m9 m10) (B := sched_Play.B4 K w0 l0 A0 c0 x1 x2 x3 hR0 hL0 b1 b2 b3 r1 b4 hc1 b7 m3 m4 hc10 b8 Z3 cz3 Z4 cz4 Z5 cz5 m9 m10) hq11 (fun a hF => ⟨hS119, hF.weaken ⟨by kernel_rfl, by kernel_rfl, by kernel_rfl, by kernel_rfl, by kernel_rfl, by kernel_rfl, by kernel_rfl, by kernel_rfl, by kernel_rfl, by kernel_rfl, trivial⟩⟩) (fun s o hf a w hA Q hQ => sched_Play_r4 K w0 l0 A0 c0 x1 x2 x3 hR0 hL0 b1 b2 b3 r1 b4 hc1 b7 m3 m4 hc10 b8 Z3 cz3 Z4 cz4 Z5 cz5 m9 m10 s o hf a w hA Q hQ) ?_
                rintro _ a w1 _ ⟨rfl, hb⟩
                obtain rfl := Option.some.inj h
                exact hb
            · rw [hq6] at h
              simp only [] at h
              refine we_iter (A := sched_Play.A3 K w0 l0 A0 c0 x1 x2 x3 hR0 hL0 b1 b2 b3 r1 b4 hc1 b7 m3 m4 hc10 b8 Z3 cz3 Z4 cz4 Z5 cz5) (B := sched_Play.B3 K w0 l0 A0 c0 x1 x2 x3 hR0 hL0 b1 b2 b3 r1 b4 hc1 b7 m3 m4 hc10 b8 Z3 cz3 Z4 cz4 Z5 cz5) hq6 (fun a hF => ⟨hS82, hF.weaken ⟨by kernel_rfl, by kernel_rfl, by kernel_rfl, by kernel_rfl, by kernel_rfl, by kernel_rfl, by kernel_rfl, by kernel_rfl, by kernel_rfl, by kernel_rfl, by kernel_rfl, trivial⟩⟩) (fun s o hf a w hA Q hQ => sched_Play_r3 K w0 l0 A0 c0 x1 x2 x3 hR0 hL0 b1 b2 b3 r1 b4 hc1 b7 m3 m4 hc10 b8 Z3 cz3 Z4 cz4 Z5 cz5 s o hf a w hA Q hQ) ?_
              rintro _ a w1 _ ⟨rfl, hb⟩
              obtain rfl := Option.some.inj h
              exact hb
          · rw [if_neg hc10] at h
            cases h
        · rw [hq5] at h
          simp only [] at h
          refine we_keep (e' := [(1, .int .i64 x1), (2, .bool x2), (3, .int .i64 x3), (4, .pointer (some ⟨b1, 0, none⟩)), (8, .pointer (some ⟨b2, 0, none⟩)), (9, .pointer (some ⟨b3, 0, none⟩))]) ⟨by kernel_rfl, by kernel_rfl, by kernel_rfl, by kernel_rfl, by kernel_rfl, by kernel_rfl, trivial⟩ (sched_Play_p2 K w0 l0 A0 c0 x1 x2 x3 hR0 hL0 b1 b2 b3 r1 b4 hc1 _ hq5 _ hS56 _ ?_)
          rintro _ a w1 ⟨_, rfl, hb⟩
          obtain rfl := Option.some.inj h
          exact hb
      · rw [hq4] at h
        simp only [] at h
        refine we_keep (e' := [(1, .int .i64 x1), (2, .bool x2), (3, .int .i64 x3), (4, .pointer (some ⟨b1, 0, none⟩)), (8, .pointer (some ⟨b2, 0, none⟩)), (9, .pointer (some ⟨b3, 0, none⟩))]) ⟨by kernel_rfl, by kernel_rfl, by kernel_rfl, by kernel_rfl, by kernel_rfl, by kernel_rfl, trivial⟩ (sched_Play_p1 K w0 l0 A0 c0 x1 x2 x3 hR0 hL0 b1 b2 b3 r1 b4 hc1 _ hq4 _ hS30 _ ?_)
        rintro _ a w1 ⟨_, rfl, hb⟩
        obtain rfl := Option.some.inj h
        exact hb
    · rw [hq3] at h
      simp only [] at h
      refine we_keep (e' := [(0, .slice A0 l0.length c0), (1, .int .i64 x1), (2, .bool x2), (3, .int .i64 x3), (4, .pointer (some ⟨b1, 0, none⟩)), (8, .pointer (some ⟨b2, 0, none⟩)), (9, .pointer (some ⟨b3, 0, none⟩)), (10, .pointer (some ⟨b4, 0, none⟩)), (17, .slice A0 l0.length c0), (18, .agg #[.int .i64 r1.Code, .int .i64 r1.At]), (19, .pointer (some ⟨b4, 0, none⟩)), (20, .int .i64 r1.Code), (21, .bool false)]) ⟨by kernel_rfl, by kernel_rfl, by kernel_rfl, by kernel_rfl, by kernel_rfl, by kernel_rfl, by kernel_rfl, by kernel_rfl, by kernel_rfl, by kernel_rfl, by kernel_rfl, by kernel_rfl, by kernel_rfl, trivial⟩ (sched_Play_p0 K w0 l0 A0 c0 x1 x2 x3 hR0 hL0 b1 b2 b3 r1 b4 hc1 _ hq3 _ hS8 _ ?_)
      rintro _ a w1 ⟨_, rfl, hb⟩
      obtain rfl := Option.some.inj h
      exact hb
  · rw [if_neg hc1] at h
    refine we_known (t := 21) (b := (r1.Code != 0)) (v := true) (by kernel_rfl) (bne_iff_ne.2 hc1) ?_
    refine we_true (by kernel_rfl) ?_
    refine we_seq fun K35 hK35 => ?_
    rcases hq12 : sched_Play.p6 r1 with _ | (⟨z7, z8, m20, m21⟩ | rr7)
    · rw [hq12] at h; cases h
    · rw [hq12] at h
      simp only [] at h
      refine we_keep (e' := [(0, .slice A0 l0.length c0), (1, .int .i64 x1), (2, .bool x2), (3, .int .i64 x3), (4, .pointer (some ⟨b1, 0, none⟩)), (8, .pointer (some ⟨b2, 0, none⟩)), (9, .pointer (some ⟨b3, 0, none⟩)), (10, .pointer (some ⟨b4, 0, none⟩)), (17, .slice A0 l0.length c0), (18, .agg #[.int .i64 r1.Code, .int .i64 r1.At]), (19, .pointer (some ⟨b4, 0, none⟩)), (20, .int .i64 r1.Code), (21, .bool true)]) ⟨by kernel_rfl, by kernel_rfl, by kernel_rfl, by kernel_rfl, by kernel_rfl, by kernel_rfl, by kernel_rfl, by kernel_rfl, by kernel_rfl, by kernel_rfl, by kernel_rfl, by kernel_rfl, by kernel_rfl, trivial⟩ (sched_Play_p6 K w0 l0 A0 c0 x1 x2 x3 hR0 hL0 b1 b2 b3 r1 b4 hc1 _ hq12 _ hS8 _ ?_)
      rintro _ a w43 ⟨rfl, v10, v11, hS234, hF⟩
      replace hS234 : St w0 w43 [Own.blk b3 (.cells #[.int .i64 z7, .int .i64 z8] 29 (0, 0)), Own.blk b2 (.cells #[v10, v11] 37 (0, 0)), Own.of v10 3 m20, Own.of v11 3 m21] := hS234
      refine hK35 [(8, .pointer (some ⟨b2, 0, none⟩)), (9, .pointer (some ⟨b3, 0, none⟩))] w43 ?_ a hF
      have hS235 := hS234.bring 3 rfl
      have hS236 := hS235.bring 3 rfl
      have hS237 := hS236.takeN 2
      obtain rfl := Option.some.inj h
      exact we_ret (post_ret (rs := [.cell 8 37, .cell 9 29]) (ans := [.val (v10), .val (v11), .val (.int .i64 z7), .val (.int .i64 z8)]) (vs := [.agg #[v10, v11], .agg #[.int .i64 z7, .int .i64 z8]]) (l := [.loaded ⟨b2, 0, none⟩ (v10), .loaded ⟨b2, 1, none⟩ (v11), .loaded ⟨b3, 0, none⟩ (.int .i64 z7), .loaded ⟨b3, 1, none⟩ (.int .i64 z8)]) rfl (by kernel_rfl) ⟨hS234.cell 1 rfl rfl, hS234.cell 1 rfl rfl, hS234.cell 0 rfl rfl, hS234.cell 0 rfl rfl, trivial⟩ ⟨v10, v11, rfl, hS237⟩)
    · rw [hq12] at h
      simp only [] at h
      refine we_keep (e' := [(0, .slice A0 l0.length c0), (1, .int .i64 x1), (2, .bool x2), (3, .int .i64 x3), (4, .pointer (some ⟨b1, 0, none⟩)), (8, .pointer (some ⟨b2, 0, none⟩)), (9, .pointer (some ⟨b3, 0, none⟩)), (10, .pointer (some ⟨b4, 0, none⟩)), (17, .slice A0 l0.length c0), (18, .agg #[.int .i64 r1.Code, .int .i64 r1.At]), (19, .pointer (some ⟨b4, 0, none⟩)), (20, .int .i64 r1.Code), (21, .bool true)]) ⟨by kernel_rfl, by kernel_rfl, by kernel_rfl, by kernel_rfl, by kernel_rfl, by kernel_rfl, by kernel_rfl, by kernel_rfl, by kernel_rfl, by kernel_rfl, by kernel_rfl, by kernel_rfl, by kernel_rfl, trivial⟩ (sched_Play_p6 K w0 l0 A0 c0 x1 x2 x3 hR0 hL0 b1 b2 b3 r1 b4 hc1 _ hq12 _ hS8 _ ?_)
      rintro _ a w1 ⟨_, rfl, hb⟩
      obtain rfl := Option.some.inj h
      exact hb
end Go.Proofs.Ytlipdmblinjjaaa.GV
