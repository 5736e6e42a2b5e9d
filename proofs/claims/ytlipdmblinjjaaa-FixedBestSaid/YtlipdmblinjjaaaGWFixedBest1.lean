/- Walks of single functions, written by a program of this work. -/
import Derived.Test.YtlipdmblinjjaaaGv26
import Derived.Test.YtlipdmblinjjaaaProg
namespace Go.Proofs.Ytlipdmblinjjaaa.GV
open Go Go.RowKit
set_option linter.unusedVariables false
set_option linter.unusedSimpArgs false
set_option maxRecDepth 100000

structure STask where
  Name : ByteArray
  C : Int
  T : Int
  D : Int
  J : Int
  O : Int
  P : Int
def STask.eqb (x y : STask) : Bool := ((x.Name.toList == y.Name.toList) && ((x.C == y.C) && ((x.T == y.T) && ((x.D == y.D) && ((x.J == y.J) && ((x.O == y.O) && ((x.P == y.P) && true)))))))
instance : Ok STask := ⟨fun x => Ok.ok x.Name ∧ Ok.ok x.C ∧ Ok.ok x.T ∧ Ok.ok x.D ∧ Ok.ok x.J ∧ Ok.ok x.O ∧ Ok.ok x.P ∧ True⟩
instance : Flat STask := ⟨7, fun x => [.string x.Name, .int .i64 x.C, .int .i64 x.T, .int .i64 x.D, .int .i64 x.J, .int .i64 x.O, .int .i64 x.P], fun _ => rfl, fun _ => rfl, by decide⟩

/-! punctual/punctuallaw.three -/
abbrev three.Post (w0 : World) (r : List STask) (e : Ending) (w : World) : Prop := ∃ (v0 : Value), e = .returned (v0) ∧ St w0 w [Own.of v0 46 r]
def three.f : List STask :=
  ([(⟨⟨#[97]⟩, 1, 4, 4, 0, 0, 3⟩ : STask), (⟨⟨#[98]⟩, 2, 6, 6, 0, 0, 2⟩ : STask), (⟨⟨#[99]⟩, 3, 12, 12, 0, 0, 1⟩ : STask)] : List STask)
theorem three_ok  (w0 : World) (r : List STask) (h : three.f = r) :
    Calls Try.prog 24 #[] w0 (three.Post w0 r) := by
  have hS := St.start w0
  unfold three.f at h
  refine calls_enter (n := 5) (args := []) (fn := Try.f24) rfl rfl rfl rfl ?_
  show WE _ _ _ _ [] _
  refine we_seq fun K1 hK1 => ?_
  refine we_region [(0, 0)] rfl ?_
  refine ge_batch [0] (ans := []) (vs := [(0, .slice none 0 0)]) (l := []) (by kernel_rfl) trivial ?_
  refine ge_nil fun a hF => hK1 _ _ ?_ a hF
  refine we_seq fun K2 hK2 => ?_
  refine we_region [(0, 0), (1, 0), (2, 0), (3, 1), (4, 0)] rfl ?_
  refine ge_batch [0, 1, 2] (ans := []) (vs := [(3, .agg #[.string (⟨#[99]⟩), .int .i64 3, .int .i64 12, .int .i64 12, .int .i64 0, .int .i64 0, .int .i64 1]), (2, .agg #[.string (⟨#[98]⟩), .int .i64 2, .int .i64 6, .int .i64 6, .int .i64 0, .int .i64 0, .int .i64 2]), (1, .agg #[.string (⟨#[97]⟩), .int .i64 1, .int .i64 4, .int .i64 4, .int .i64 0, .int .i64 0, .int .i64 3])]) (l := []) (by kernel_rfl) trivial ?_
  refine ge_new (d := some 4) (o := .cells #[.string (⟨#[97]⟩), .int .i64 1, .int .i64 4, .int .i64 4, .int .i64 0, .int .i64 0, .int .i64 3, .string (⟨#[98]⟩), .int .i64 2, .int .i64 6, .int .i64 6, .int .i64 0, .int .i64 0, .int .i64 2, .string (⟨#[99]⟩), .int .i64 3, .int .i64 12, .int .i64 12, .int .i64 0, .int .i64 0, .int .i64 1] 46) (v := fun b => .slice (some ⟨b, 0, none⟩) 3 3) hS (fun b => by kernel_rfl) fun b1 w1 hx1 hS1 => ?_
  refine ge_batch [4] (ans := []) (vs := [(0, .slice (some ⟨b1, 0, none⟩) 3 3)]) (l := []) (by kernel_rfl) trivial ?_
  refine ge_nil fun a hF => hK2 _ _ ?_ a hF
  have hS2 := hS1.asRow (α := STask) (c := 3) ([(⟨⟨#[97]⟩, 1, 4, 4, 0, 0, 3⟩ : STask), (⟨⟨#[98]⟩, 2, 6, 6, 0, 0, 2⟩ : STask), (⟨⟨#[99]⟩, 3, 12, 12, 0, 0, 1⟩ : STask)] : List STask) (Nat.le_refl _) (by decide) rfl rfl
  subst h
  exact we_ret (post_ret (rs := [.tmp 0]) (ans := []) (vs := [(.slice (some ⟨b1, 0, none⟩) 3 3)]) (l := []) rfl (by kernel_rfl) trivial ⟨(.slice (some ⟨b1, 0, none⟩) 3 3), rfl, hS2⟩)

/-! punctual/tasks.isName -/
abbrev tasks_isName.Post (w0 : World) (r : Bool) (e : Ending) (w : World) : Prop := e = .returned (.bool r) ∧ St w0 w []
def tasks_isName.r0 (x0 : ByteArray) : Nat → Option (Nat ⊕ (Unit ⊕ Bool))
  | i1 =>
    if i1 < x0.size then
      if ((Utf8.decode x0 i1).1 : Int) < 97 then
        some (.inr (.inr false))
      else
        if ((Utf8.decode x0 i1).1 : Int) > 122 then
          some (.inr (.inr false))
        else
          some (.inl (i1 + (Utf8.decode x0 i1).2))
    else
      some (.inr (.inl ()))
def tasks_isName.f (K : Nat) (x0 : ByteArray) : Option Bool :=
  if (x0.size : Int) < 1 then
    some false
  else
    if (x0.size : Int) > 10 then
      some false
    else
      match iter (tasks_isName.r0 x0) K 0 with
      | none => none
      | some (.inl _) =>
        some true
      | some (.inr rr1) =>
        some rr1
abbrev tasks_isName.A0 (K : Nat) (w0 : World) (x0 : ByteArray) (hc1 : ¬ ((x0.size : Int) < 1)) (hc2 : ¬ ((x0.size : Int) > 10)) (b1 : Nat) : Nat → Act → World → Prop := fun (s : Nat) a w => St w0 w [Own.blk b1 (.stringIter x0 s)] ∧ Frm 24 a [(14, .pointer (some ⟨b1, 0, none⟩))]
abbrev tasks_isName.B0 (K : Nat) (w0 : World) (x0 : ByteArray) (hc1 : ¬ ((x0.size : Int) < 1)) (hc2 : ¬ ((x0.size : Int) > 10)) (b1 : Nat) : (Unit ⊕ Bool) → Exit → Act → World → Prop := Exits 0 (fun (s : Unit) a w => St w0 w [] ∧ Frm 24 a []) (Rets Try.prog Try.f53 (tasks_isName.Post w0))
theorem tasks_isName_r0 (K : Nat) (w0 : World) (x0 : ByteArray) (hc1 : ¬ ((x0.size : Int) < 1)) (hc2 : ¬ ((x0.size : Int) > 10)) (b1 : Nat) (s : Nat) (o : Nat ⊕ (Unit ⊕ Bool)) (h : tasks_isName.r0 x0 s = some o) (a : Act) (w : World) (hA : tasks_isName.A0 K w0 x0 hc1 hc2 b1 s a w) (Q : Exit → Act → World → Prop) (hQ : ∀ x a w, Outs (tasks_isName.A0 K w0 x0 hc1 hc2 b1) (tasks_isName.B0 K w0 x0 hc1 hc2 b1) o x a w → Q x a w) : (subF Try.f53 [1, 1, 0, 1, 0, 0]).wp Try.prog Q a w := by
  obtain ⟨i1, hs⟩ : ∃ z, z = s := ⟨s, rfl⟩
  subst hs
  obtain ⟨hS, hF⟩ := hA
  replace hS : St w0 w [Own.blk b1 (.stringIter x0 i1)] := hS
  simp only [tasks_isName.r0] at h
  refine (?_ : WE Try.prog 24 (subF Try.f53 [1, 1, 0, 1, 0, 0]) Q [(14, .pointer (some ⟨b1, 0, none⟩))] w) a hF
  clear hF a
  refine we_seq fun K8 hK8 => ?_
  refine we_region [(0, 2), (1, 0)] rfl ?_
  by_cases hc3 : i1 < x0.size
  · rw [if_pos hc3] at h
    refine ge_next (m := 0) (d := 15) (b := b1) (x := (.tmp 14)) (ty := 0) (s := x0) (pos := i1) (by kernel_rfl) (by kernel_rfl) hS (fun _ w2 hS2 => ?_) (fun hp => absurd hc3 hp)
    refine ge_batch [1] (ans := []) (vs := [(16, .bool true)]) (l := []) (by kernel_rfl) trivial ?_
    refine ge_nil fun a hF => hK8 _ _ ?_ a hF
    refine we_seq fun K9 hK9 => ?_
    refine we_true (by kernel_rfl) ?_
    refine we_skip fun a hF => hK9 _ _ ?_ a hF
    refine we_block ?_
    refine we_seq fun K10 hK10 => ?_
    refine we_region [(0, 0), (1, 0)] rfl ?_
    refine ge_batch [0, 1] (ans := []) (vs := [(4, .int .i32 ((Utf8.decode x0 i1).1 : Int)), (17, .int .i32 ((Utf8.decode x0 i1).1 : Int))]) (l := []) (by kernel_rfl) trivial ?_
    refine ge_nil fun a hF => hK10 _ _ ?_ a hF
    refine we_seq fun K11 hK11 => ?_
    refine we_region [(0, 0), (1, 0), (2, 0), (3, 0), (4, 0), (5, 0)] rfl ?_
    refine ge_batch [0, 1, 2] (ans := []) (vs := [(20, .bool (decide (((Utf8.decode x0 i1).1 : Int) < 97))), (19, .bool (decide (((Utf8.decode x0 i1).1 : Int) < 97))), (18, .int .i32 ((Utf8.decode x0 i1).1 : Int))]) (l := []) (by kernel_rfl) trivial ?_
    by_cases hc4 : ((Utf8.decode x0 i1).1 : Int) < 97
    · rw [if_pos hc4] at h
      refine ge_known (t := 20) (b := decide (((Utf8.decode x0 i1).1 : Int) < 97)) (c := true) (by kernel_rfl) (decide_eq_true hc4) ?_
      refine ge_batch [3, 4, 5] (ans := []) (vs := [(23, .bool true), (22, undef), (21, undef)]) (l := []) (by kernel_rfl) trivial ?_
      refine ge_nil fun a hF => hK11 _ _ ?_ a hF
      refine we_true (by kernel_rfl) ?_
      refine we_seq fun K12 hK12 => ?_
      refine we_region [(0, 0)] rfl ?_
      refine ge_batch [0] (ans := []) (vs := [(2, .bool false)]) (l := []) (by kernel_rfl) trivial ?_
      refine ge_nil fun a hF => hK12 _ _ ?_ a hF
      have hS3 := hS2.takeN 0
      obtain rfl := Option.some.inj h
      exact we_ret fun a hF => hQ _ _ _ (Outs.out nofun (Exits.on ⟨rfl, (post_ret (rs := [.tmp 2]) (ans := []) (vs := [.bool false]) (l := []) rfl (by kernel_rfl) trivial ⟨rfl, hS3⟩) a hF⟩))
    · rw [if_neg hc4] at h
      refine ge_known (t := 20) (b := decide (((Utf8.decode x0 i1).1 : Int) < 97)) (c := false) (by kernel_rfl) (decide_eq_false hc4) ?_
      refine ge_batch [3, 4, 5] (ans := []) (vs := [(23, .bool (decide (((Utf8.decode x0 i1).1 : Int) > 122))), (22, .bool (decide (((Utf8.decode x0 i1).1 : Int) > 122))), (21, .int .i32 ((Utf8.decode x0 i1).1 : Int))]) (l := []) (by kernel_rfl) trivial ?_
      refine ge_nil fun a hF => hK11 _ _ ?_ a hF
      by_cases hc5 : ((Utf8.decode x0 i1).1 : Int) > 122
      · rw [if_pos hc5] at h
        refine we_known (t := 23) (b := decide (((Utf8.decode x0 i1).1 : Int) > 122)) (v := true) (by kernel_rfl) (decide_eq_true hc5) ?_
        refine we_true (by kernel_rfl) ?_
        refine we_seq fun K13 hK13 => ?_
        refine we_region [(0, 0)] rfl ?_
        refine ge_batch [0] (ans := []) (vs := [(2, .bool false)]) (l := []) (by kernel_rfl) trivial ?_
        refine ge_nil fun a hF => hK13 _ _ ?_ a hF
        have hS4 := hS2.takeN 0
        obtain rfl := Option.some.inj h
        exact we_ret fun a hF => hQ _ _ _ (Outs.out nofun (Exits.on ⟨rfl, (post_ret (rs := [.tmp 2]) (ans := []) (vs := [.bool false]) (l := []) rfl (by kernel_rfl) trivial ⟨rfl, hS4⟩) a hF⟩))
      · rw [if_neg hc5] at h
        refine we_known (t := 23) (b := decide (((Utf8.decode x0 i1).1 : Int) > 122)) (v := false) (by kernel_rfl) (decide_eq_false hc5) ?_
        refine we_false (by kernel_rfl) ?_
        obtain rfl := Option.some.inj h
        exact we_skip fun a hF => hQ _ _ _ (Outs.again ⟨hS2, hF.weaken ⟨by kernel_rfl, trivial⟩⟩)
  · rw [if_neg hc3] at h
    refine ge_next (m := 0) (d := 15) (b := b1) (x := (.tmp 14)) (ty := 0) (s := x0) (pos := i1) (by kernel_rfl) (by kernel_rfl) hS (fun hp => absurd hp hc3) (fun _ => ?_)
    refine ge_batch [1] (ans := []) (vs := [(16, .bool false)]) (l := []) (by kernel_rfl) trivial ?_
    refine ge_nil fun a hF => hK8 _ _ ?_ a hF
    refine we_seq fun K14 hK14 => ?_
    refine we_false (by kernel_rfl) ?_
    have hS5 := hS.takeN 0
    obtain rfl := Option.some.inj h
    exact we_exit fun a hF => hQ _ _ _ (Outs.out nofun (Exits.here ⟨hS5, hF.weaken trivial⟩))
theorem tasks_isName_ok (K : Nat) (x0 : ByteArray) (w0 : World) (r : Bool) (h : tasks_isName.f K x0 = some r) :
    Calls Try.prog 53 #[.string x0] w0 (tasks_isName.Post w0 r) := by
  have hS := St.start w0
  unfold tasks_isName.f at h
  refine calls_enter (n := 24) (args := [.string x0]) (fn := Try.f53) rfl rfl rfl rfl ?_
  show WE _ _ _ _ [(0, .string x0)] _
  refine we_seq fun K1 hK1 => ?_
  refine we_region [(0, 0)] rfl ?_
  refine ge_batch [0] (ans := []) (vs := [(2, .bool false)]) (l := []) (by kernel_rfl) trivial ?_
  refine ge_nil fun a hF => hK1 _ _ ?_ a hF
  refine we_seq fun K2 hK2 => ?_
  refine we_seq fun K3 hK3 => ?_
  refine we_region [(0, 0), (1, 0), (2, 0), (3, 0), (4, 0), (5, 0), (6, 0), (7, 0)] rfl ?_
  refine ge_batch [0, 1, 2, 3] (ans := []) (vs := [(8, .bool (decide ((x0.size : Int) < 1))), (7, .bool (decide ((x0.size : Int) < 1))), (6, .int .i64 (x0.size : Int)), (5, .string x0)]) (l := []) (by kernel_rfl) trivial ?_
  by_cases hc1 : (x0.size : Int) < 1
  · rw [if_pos hc1] at h
    refine ge_known (t := 8) (b := decide ((x0.size : Int) < 1)) (c := true) (by kernel_rfl) (decide_eq_true hc1) ?_
    refine ge_batch [4, 5, 6, 7] (ans := []) (vs := [(12, .bool true), (11, undef), (10, undef), (9, undef)]) (l := []) (by kernel_rfl) trivial ?_
    refine ge_nil fun a hF => hK3 _ _ ?_ a hF
    refine we_true (by kernel_rfl) ?_
    refine we_seq fun K4 hK4 => ?_
    refine we_region [(0, 0)] rfl ?_
    refine ge_batch [0] (ans := []) (vs := [(2, .bool false)]) (l := []) (by kernel_rfl) trivial ?_
    refine ge_nil fun a hF => hK4 _ _ ?_ a hF
    obtain rfl := Option.some.inj h
    exact we_ret (post_ret (rs := [.tmp 2]) (ans := []) (vs := [.bool false]) (l := []) rfl (by kernel_rfl) trivial ⟨rfl, hS⟩)
  · rw [if_neg hc1] at h
    refine ge_known (t := 8) (b := decide ((x0.size : Int) < 1)) (c := false) (by kernel_rfl) (decide_eq_false hc1) ?_
    refine ge_batch [4, 5, 6, 7] (ans := []) (vs := [(12, .bool (decide ((x0.size : Int) > 10))), (11, .bool (decide ((x0.size : Int) > 10))), (10, .int .i64 (x0.size : Int)), (9, .string x0)]) (l := []) (by kernel_rfl) trivial ?_
    refine ge_nil fun a hF => hK3 _ _ ?_ a hF
    by_cases hc2 : (x0.size : Int) > 10
    · rw [if_pos hc2] at h
      refine we_known (t := 12) (b := decide ((x0.size : Int) > 10)) (v := true) (by kernel_rfl) (decide_eq_true hc2) ?_
      refine we_true (by kernel_rfl) ?_
      refine we_seq fun K5 hK5 => ?_
      refine we_region [(0, 0)] rfl ?_
      refine ge_batch [0] (ans := []) (vs := [(2, .bool false)]) (l := []) (by kernel_rfl) trivial ?_
      refine ge_nil fun a hF => hK5 _ _ ?_ a hF
      obtain rfl := Option.some.inj h
      exact we_ret (post_ret (rs := [.tmp 2]) (ans := []) (vs := [.bool false]) (l := []) rfl (by kernel_rfl) trivial ⟨rfl, hS⟩)
    · rw [if_neg hc2] at h
      refine we_known (t := 12) (b := decide ((x0.size : Int) > 10)) (v := false) (by kernel_rfl) (decide_eq_false hc2) ?_
      refine we_false (by kernel_rfl) ?_
      refine we_skip fun a hF => hK2 _ _ ?_ a hF
      refine we_seq fun K6 hK6 => ?_
      refine we_seq fun K7 hK7 => ?_
      refine we_region [(0, 0), (1, 1)] rfl ?_
      refine ge_batch [0] (ans := []) (vs := [(13, .string x0)]) (l := []) (by kernel_rfl) trivial ?_
      refine ge_new (d := some 14) (o := .stringIter x0 0) (v := fun b => .pointer (some ⟨b, 0, none⟩)) hS (fun b => by kernel_rfl) fun b1 w1 hx1 hS1 => ?_
      refine ge_nil fun a hF => hK7 _ _ ?_ a hF
      refine we_block ?_
      rcases hq1 : iter (tasks_isName.r0 x0) K 0 with _ | (_ | rr1)
      · rw [hq1] at h; cases h
      · rw [hq1] at h
        simp only [] at h
        refine we_iter (A := tasks_isName.A0 K w0 x0 hc1 hc2 b1) (B := tasks_isName.B0 K w0 x0 hc1 hc2 b1) hq1 (fun a hF => ⟨hS1, hF.weaken ⟨by kernel_rfl, trivial⟩⟩) (fun s o hf a w hA Q hQ => tasks_isName_r0 K w0 x0 hc1 hc2 b1 s o hf a w hA Q hQ) ?_
        rintro _ a w3 _ ⟨rfl, hS6, hF⟩
        replace hS6 : St w0 w3 [] := hS6
        refine hK6 [] w3 ?_ a hF
        refine we_seq fun K15 hK15 => ?_
        refine we_region [(0, 0)] rfl ?_
        refine ge_batch [0] (ans := []) (vs := [(2, .bool true)]) (l := []) (by kernel_rfl) trivial ?_
        refine ge_nil fun a hF => hK15 _ _ ?_ a hF
        obtain rfl := Option.some.inj h
        exact we_ret (post_ret (rs := [.tmp 2]) (ans := []) (vs := [.bool true]) (l := []) rfl (by kernel_rfl) trivial ⟨rfl, hS6⟩)
      · rw [hq1] at h
        simp only [] at h
        refine we_iter (A := tasks_isName.A0 K w0 x0 hc1 hc2 b1) (B := tasks_isName.B0 K w0 x0 hc1 hc2 b1) hq1 (fun a hF => ⟨hS1, hF.weaken ⟨by kernel_rfl, trivial⟩⟩) (fun s o hf a w hA Q hQ => tasks_isName_r0 K w0 x0 hc1 hc2 b1 s o hf a w hA Q hQ) ?_
        rintro _ a w1 _ ⟨rfl, hb⟩
        obtain rfl := Option.some.inj h
        exact hb

/-! punctual/tasks.Check$1 -/
abbrev tasks_Check_1.Post (w0 : World) (r : Bool) (e : Ending) (w : World) : Prop := e = .returned (.bool r) ∧ St w0 w []
def tasks_Check_1.f (x0 : STask) (xf_0 : STask) : Bool :=
  (x0.Name.toList == xf_0.Name.toList)
theorem tasks_Check_1_ok (x0 : STask) (bf_0 : Nat) (xf_0 : STask) (w0 : World) (hBf_0 : Glob w0 bf_0 [.string xf_0.Name, .int .i64 xf_0.C, .int .i64 xf_0.T, .int .i64 xf_0.D, .int .i64 xf_0.J, .int .i64 xf_0.O, .int .i64 xf_0.P]) (r : Bool) (h : tasks_Check_1.f x0 xf_0 = r) :
    Calls Try.prog 55 #[.agg #[.string x0.Name, .int .i64 x0.C, .int .i64 x0.T, .int .i64 x0.D, .int .i64 x0.J, .int .i64 x0.O, .int .i64 x0.P], .pointer (some ⟨bf_0, 0, none⟩)] w0 (tasks_Check_1.Post w0 r) := by
  have hS := St.start w0
  unfold tasks_Check_1.f at h
  refine calls_enter (n := 9) (args := [.agg #[.string x0.Name, .int .i64 x0.C, .int .i64 x0.T, .int .i64 x0.D, .int .i64 x0.J, .int .i64 x0.O, .int .i64 x0.P], .pointer (some ⟨bf_0, 0, none⟩)]) (fn := Try.f55) rfl rfl rfl rfl ?_
  show WE _ _ _ _ [(0, .agg #[.string x0.Name, .int .i64 x0.C, .int .i64 x0.T, .int .i64 x0.D, .int .i64 x0.J, .int .i64 x0.O, .int .i64 x0.P]), (1, .pointer (some ⟨bf_0, 0, none⟩))] _
  refine we_seq fun K1 hK1 => ?_
  refine we_region [(0, 1), (1, 0)] rfl ?_
  refine ge_new (d := some 2) (o := .cells #[.string x0.Name, .int .i64 x0.C, .int .i64 x0.T, .int .i64 x0.D, .int .i64 x0.J, .int .i64 x0.O, .int .i64 x0.P] 46) (v := fun b => .pointer (some ⟨b, 0, none⟩)) hS (fun b => by kernel_rfl) fun b1 w1 hx1 hS1 => ?_
  refine ge_batch [1] (ans := []) (vs := [(3, .bool false)]) (l := []) (by kernel_rfl) trivial ?_
  refine ge_nil fun a hF => hK1 _ _ ?_ a hF
  refine we_seq fun K2 hK2 => ?_
  refine we_region [(0, 0), (1, 0), (2, 0), (3, 0), (4, 0), (5, 0)] rfl ?_
  refine ge_batch [0, 1, 2, 3, 4, 5] (ans := [.val (.string x0.Name), .val (.string xf_0.Name)]) (vs := [(3, .bool (x0.Name.toList == xf_0.Name.toList)), (8, .bool (x0.Name.toList == xf_0.Name.toList)), (7, .string xf_0.Name), (6, .pointer (some ⟨bf_0, 0, none⟩)), (5, .string x0.Name), (4, .pointer (some ⟨b1, 0, none⟩))]) (l := [.loaded ⟨b1, 0, none⟩ (.string x0.Name), .loaded ⟨bf_0, 0, none⟩ (.string xf_0.Name)]) (by kernel_rfl) ⟨hS1.cell 0 rfl rfl, hS1.glob hBf_0 rfl, trivial⟩ ?_
  refine ge_nil fun a hF => hK2 _ _ ?_ a hF
  have hS2 := hS1.takeN 0
  subst h
  exact we_ret (post_ret (rs := [.tmp 3]) (ans := []) (vs := [.bool (x0.Name.toList == xf_0.Name.toList)]) (l := []) rfl (by kernel_rfl) trivial ⟨rfl, hS2⟩)

/-! slices.IndexFunc[[]punctual/api.Task,punctual/api.Task] -/
abbrev slices_IndexFunc_api_Task_api_Task.Post (w0 : World) (r : Int) (e : Ending) (w : World) : Prop := e = .returned (.int .i64 r) ∧ St w0 w []
def slices_IndexFunc_api_Task_api_Task.r0 (l0 : List STask) (xg1_0 : STask) : Nat → Option (Nat ⊕ (Unit ⊕ Int))
  | i1 =>
    if (i1 : Int) < (l0.length : Int) then
      match l0[i1]? with
      | none => none
      | some e1 =>
        if (tasks_Check_1.f e1 xg1_0) = true then
          some (.inr (.inr (i1 : Int)))
        else
          some (.inl (i1 + 1))
    else
      some (.inr (.inl ()))
def slices_IndexFunc_api_Task_api_Task.f (K : Nat) (l0 : List STask) (xg1_0 : STask) : Option Int :=
  match iter (slices_IndexFunc_api_Task_api_Task.r0 l0 xg1_0) K 0 with
  | none => none
  | some (.inl _) =>
    some (-1)
  | some (.inr rr1) =>
    some rr1
abbrev slices_IndexFunc_api_Task_api_Task.A0 (K : Nat) (w0 : World) (l0 : List STask) (A0 : Option Addr) (c0 : Nat) (bg1_0 : Nat) (xg1_0 : STask) (hR0 : RdL w0 A0 l0) (hL0 : l0.length ≤ c0) (hBg1_0 : Glob w0 bg1_0 [.string xg1_0.Name, .int .i64 xg1_0.C, .int .i64 xg1_0.T, .int .i64 xg1_0.D, .int .i64 xg1_0.J, .int .i64 xg1_0.O, .int .i64 xg1_0.P]) : Nat → Act → World → Prop := fun (s : Nat) a w => St w0 w [] ∧ Frm 19 a [(0, .slice A0 l0.length c0), (1, .func (.func 55) #[] #[.pointer (some ⟨bg1_0, 0, none⟩)]), (7, .int .i64 (l0.length : Int)), (8, .int .i64 (s : Int))]
abbrev slices_IndexFunc_api_Task_api_Task.B0 (K : Nat) (w0 : World) (l0 : List STask) (A0 : Option Addr) (c0 : Nat) (bg1_0 : Nat) (xg1_0 : STask) (hR0 : RdL w0 A0 l0) (hL0 : l0.length ≤ c0) (hBg1_0 : Glob w0 bg1_0 [.string xg1_0.Name, .int .i64 xg1_0.C, .int .i64 xg1_0.T, .int .i64 xg1_0.D, .int .i64 xg1_0.J, .int .i64 xg1_0.O, .int .i64 xg1_0.P]) : (Unit ⊕ Int) → Exit → Act → World → Prop := Exits 0 (fun (s : Unit) a w => St w0 w [] ∧ Frm 19 a []) (Rets Try.prog Try.f65 (slices_IndexFunc_api_Task_api_Task.Post w0))
theorem slices_IndexFunc_api_Task_api_Task_r0 (K : Nat) (w0 : World) (l0 : List STask) (A0 : Option Addr) (c0 : Nat) (bg1_0 : Nat) (xg1_0 : STask) (hR0 : RdL w0 A0 l0) (hL0 : l0.length ≤ c0) (hBg1_0 : Glob w0 bg1_0 [.string xg1_0.Name, .int .i64 xg1_0.C, .int .i64 xg1_0.T, .int .i64 xg1_0.D, .int .i64 xg1_0.J, .int .i64 xg1_0.O, .int .i64 xg1_0.P]) (s : Nat) (o : Nat ⊕ (Unit ⊕ Int)) (h : slices_IndexFunc_api_Task_api_Task.r0 l0 xg1_0 s = some o) (a : Act) (w : World) (hA : slices_IndexFunc_api_Task_api_Task.A0 K w0 l0 A0 c0 bg1_0 xg1_0 hR0 hL0 hBg1_0 s a w) (Q : Exit → Act → World → Prop) (hQ : ∀ x a w, Outs (slices_IndexFunc_api_Task_api_Task.A0 K w0 l0 A0 c0 bg1_0 xg1_0 hR0 hL0 hBg1_0) (slices_IndexFunc_api_Task_api_Task.B0 K w0 l0 A0 c0 bg1_0 xg1_0 hR0 hL0 hBg1_0) o x a w → Q x a w) : (subF Try.f65 [1, 0, 1, 0, 0]).wp Try.prog Q a w := by
  obtain ⟨i1, hs⟩ : ∃ z, z = s := ⟨s, rfl⟩
  subst hs
  obtain ⟨hS, hF⟩ := hA
  replace hS : St w0 w [] := hS
  simp only [slices_IndexFunc_api_Task_api_Task.r0] at h
  refine (?_ : WE Try.prog 19 (subF Try.f65 [1, 0, 1, 0, 0]) Q [(0, .slice A0 l0.length c0), (1, .func (.func 55) #[] #[.pointer (some ⟨bg1_0, 0, none⟩)]), (7, .int .i64 (l0.length : Int)), (8, .int .i64 (i1 : Int))] w) a hF
  clear hF a
  refine we_seq fun K4 hK4 => ?_
  refine we_region [(0, 0)] rfl ?_
  refine ge_batch [0] (ans := []) (vs := [(9, .bool (decide ((i1 : Int) < (l0.length : Int))))]) (l := []) (by kernel_rfl) trivial ?_
  refine ge_nil fun a hF => hK4 _ _ ?_ a hF
  refine we_seq fun K5 hK5 => ?_
  by_cases hc1 : (i1 : Int) < (l0.length : Int)
  · rw [if_pos hc1] at h
    refine we_known (t := 9) (b := decide ((i1 : Int) < (l0.length : Int))) (v := true) (by kernel_rfl) (decide_eq_true hc1) ?_
    refine we_true (by kernel_rfl) ?_
    refine we_skip fun a hF => hK5 _ _ ?_ a hF
    refine we_seq fun K6 hK6 => ?_
    refine we_block ?_
    refine we_seq fun K7 hK7 => ?_
    refine we_region [(0, 0), (1, 0)] rfl ?_
    refine ge_batch [0, 1] (ans := []) (vs := [(5, .int .i64 (i1 : Int)), (10, .int .i64 (i1 : Int))]) (l := []) (by kernel_rfl) trivial ?_
    refine ge_nil fun a hF => hK7 _ _ ?_ a hF
    refine we_seq fun K8 hK8 => ?_
    refine we_region [(0, 0), (1, 0), (2, 0), (3, 0), (4, 0), (5, 1)] rfl ?_
    refine ge_batch [0, 1, 2] (ans := []) (vs := [(13, .int .i64 (i1 : Int)), (12, .slice A0 l0.length c0), (11, .func (.func 55) #[] #[.pointer (some ⟨bg1_0, 0, none⟩)])]) (l := []) (by kernel_rfl) trivial ?_
    rcases hx1 : l0[i1]? with _ | e1
    · rw [hx1] at h; cases h
    rw [hx1] at h
    simp only [] at h
    refine ge_index (d := 14) (ty := 0) (t := 22) (el := 46) (sz := 7) (m := l0.length) (c := c0) (x := (.tmp 12)) (y := (.tmp 13)) (A := A0) (k' := .i64) (j := (i1 : Int)) (jn := i1) (b0 := blkOf A0) (o0 := offOf A0) (by kernel_rfl) (by kernel_rfl) (by kernel_rfl) (by kernel_rfl) (by kernel_rfl) ((hS.rd hR0).eqSome (pos_of_get hx1)) rfl (lt_of_get hx1) ?_
    refine ge_batch [4] (ans := [.val (.string e1.Name), .val (.int .i64 e1.C), .val (.int .i64 e1.T), .val (.int .i64 e1.D), .val (.int .i64 e1.J), .val (.int .i64 e1.O), .val (.int .i64 e1.P)]) (vs := [(15, .agg #[.string e1.Name, .int .i64 e1.C, .int .i64 e1.T, .int .i64 e1.D, .int .i64 e1.J, .int .i64 e1.O, .int .i64 e1.P])]) (l := [.loaded ⟨blkOf A0, offOf A0 + i1 * 7, none⟩ (.string e1.Name), .loaded ⟨blkOf A0, offOf A0 + i1 * 7 + 1, none⟩ (.int .i64 e1.C), .loaded ⟨blkOf A0, offOf A0 + i1 * 7 + 2, none⟩ (.int .i64 e1.T), .loaded ⟨blkOf A0, offOf A0 + i1 * 7 + 3, none⟩ (.int .i64 e1.D), .loaded ⟨blkOf A0, offOf A0 + i1 * 7 + 4, none⟩ (.int .i64 e1.J), .loaded ⟨blkOf A0, offOf A0 + i1 * 7 + 5, none⟩ (.int .i64 e1.O), .loaded ⟨blkOf A0, offOf A0 + i1 * 7 + 6, none⟩ (.int .i64 e1.P)]) (by kernel_rfl) ⟨RdL.cell (j := 0) (hS.rd hR0) hx1 rfl, RdL.cell (j := 1) (hS.rd hR0) hx1 rfl, RdL.cell (j := 2) (hS.rd hR0) hx1 rfl, RdL.cell (j := 3) (hS.rd hR0) hx1 rfl, RdL.cell (j := 4) (hS.rd hR0) hx1 rfl, RdL.cell (j := 5) (hS.rd hR0) hx1 rfl, RdL.cell (j := 6) (hS.rd hR0) hx1 rfl, trivial⟩ ?_
    refine ge_call (d := some 16) (f := 55) (args := #[.agg #[.string e1.Name, .int .i64 e1.C, .int .i64 e1.T, .int .i64 e1.D, .int .i64 e1.J, .int .i64 e1.O, .int .i64 e1.P], .pointer (some ⟨bg1_0, 0, none⟩)]) (by kernel_rfl) (tasks_Check_1_ok e1 bg1_0 xg1_0 _ (Glob.ext hBg1_0 hS.below) _ rfl) ?_
    rintro _ w1 ⟨rfl, hS1⟩
    refine ⟨_, rfl, hS1.below, ?_⟩
    have hS2 := hS.call hS1
    refine ge_nil fun a hF => hK8 _ _ ?_ a hF
    by_cases hc2 : (tasks_Check_1.f e1 xg1_0) = true
    · rw [if_pos hc2] at h
      refine we_known (t := 16) (b := (tasks_Check_1.f e1 xg1_0)) (v := true) (by kernel_rfl) hc2 ?_
      refine we_true (by kernel_rfl) ?_
      refine we_seq fun K9 hK9 => ?_
      refine we_region [(0, 0), (1, 0)] rfl ?_
      refine ge_batch [0, 1] (ans := []) (vs := [(4, .int .i64 (i1 : Int)), (17, .int .i64 (i1 : Int))]) (l := []) (by kernel_rfl) trivial ?_
      refine ge_nil fun a hF => hK9 _ _ ?_ a hF
      obtain rfl := Option.some.inj h
      exact we_ret fun a hF => hQ _ _ _ (Outs.out nofun (Exits.on ⟨rfl, (post_ret (rs := [.tmp 4]) (ans := []) (vs := [.int .i64 (i1 : Int)]) (l := []) rfl (by kernel_rfl) trivial ⟨rfl, hS2⟩) a hF⟩))
    · rw [if_neg hc2] at h
      refine we_known (t := 16) (b := (tasks_Check_1.f e1 xg1_0)) (v := false) (by kernel_rfl) (Bool.eq_false_iff.2 hc2) ?_
      refine we_false (by kernel_rfl) ?_
      refine we_skip fun a hF => hK6 _ _ ?_ a hF
      refine we_region [(0, 0), (1, 0)] rfl ?_
      refine ge_addn (d := 18) (ty := 3) (x := (.tmp 8)) (y := (.const (.int .i64 1))) (t := 3) (t2 := 3) (k := .i64) (m := i1) (by kernel_rfl) (by kernel_rfl) (by kernel_rfl) (by have h0 := hR0.small; omega) ?_
      refine ge_batch [1] (ans := []) (vs := [(8, .int .i64 ((i1 + 1 : Nat) : Int))]) (l := []) (by kernel_rfl) trivial ?_
      obtain rfl := Option.some.inj h
      exact ge_nil fun a hF => hQ _ _ _ (Outs.again ⟨hS2, hF.weaken ⟨by kernel_rfl, by kernel_rfl, by kernel_rfl, by kernel_rfl, trivial⟩⟩)
  · rw [if_neg hc1] at h
    refine we_known (t := 9) (b := decide ((i1 : Int) < (l0.length : Int))) (v := false) (by kernel_rfl) (decide_eq_false hc1) ?_
    refine we_false (by kernel_rfl) ?_
    obtain rfl := Option.some.inj h
    exact we_exit fun a hF => hQ _ _ _ (Outs.out nofun (Exits.here ⟨hS, hF.weaken trivial⟩))
theorem slices_IndexFunc_api_Task_api_Task_ok (K : Nat) (l0 : List STask) (A0 : Option Addr) (c0 : Nat) (bg1_0 : Nat) (xg1_0 : STask) (w0 : World) (hR0 : RdL w0 A0 l0) (hL0 : l0.length ≤ c0) (hBg1_0 : Glob w0 bg1_0 [.string xg1_0.Name, .int .i64 xg1_0.C, .int .i64 xg1_0.T, .int .i64 xg1_0.D, .int .i64 xg1_0.J, .int .i64 xg1_0.O, .int .i64 xg1_0.P]) (r : Int) (h : slices_IndexFunc_api_Task_api_Task.f K l0 xg1_0 = some r) :
    Calls Try.prog 65 #[.slice A0 l0.length c0, .func (.func 55) #[] #[.pointer (some ⟨bg1_0, 0, none⟩)]] w0 (slices_IndexFunc_api_Task_api_Task.Post w0 r) := by
  have hS := St.start w0
  unfold slices_IndexFunc_api_Task_api_Task.f at h
  refine calls_enter (n := 19) (args := [.slice A0 l0.length c0, .func (.func 55) #[] #[.pointer (some ⟨bg1_0, 0, none⟩)]]) (fn := Try.f65) rfl rfl rfl rfl ?_
  show WE _ _ _ _ [(0, .slice A0 l0.length c0), (1, .func (.func 55) #[] #[.pointer (some ⟨bg1_0, 0, none⟩)])] _
  refine we_seq fun K1 hK1 => ?_
  refine we_region [(0, 0)] rfl ?_
  refine ge_batch [0] (ans := []) (vs := [(4, .int .i64 0)]) (l := []) (by kernel_rfl) trivial ?_
  refine ge_nil fun a hF => hK1 _ _ ?_ a hF
  refine we_seq fun K2 hK2 => ?_
  refine we_seq fun K3 hK3 => ?_
  refine we_region [(0, 0), (1, 0), (2, 0)] rfl ?_
  refine ge_batch [0, 1, 2] (ans := []) (vs := [(8, .int .i64 0), (7, .int .i64 (l0.length : Int)), (6, .slice A0 l0.length c0)]) (l := []) (by kernel_rfl) trivial ?_
  refine ge_nil fun a hF => hK3 _ _ ?_ a hF
  refine we_block ?_
  rcases hq2 : iter (slices_IndexFunc_api_Task_api_Task.r0 l0 xg1_0) K 0 with _ | (_ | rr1)
  · rw [hq2] at h; cases h
  · rw [hq2] at h
    simp only [] at h
    refine we_iter (A := slices_IndexFunc_api_Task_api_Task.A0 K w0 l0 A0 c0 bg1_0 xg1_0 hR0 hL0 hBg1_0) (B := slices_IndexFunc_api_Task_api_Task.B0 K w0 l0 A0 c0 bg1_0 xg1_0 hR0 hL0 hBg1_0) hq2 (fun a hF => ⟨hS, hF.weaken ⟨by kernel_rfl, by kernel_rfl, by kernel_rfl, by kernel_rfl, trivial⟩⟩) (fun s o hf a w hA Q hQ => slices_IndexFunc_api_Task_api_Task_r0 K w0 l0 A0 c0 bg1_0 xg1_0 hR0 hL0 hBg1_0 s o hf a w hA Q hQ) ?_
    rintro _ a w2 _ ⟨rfl, hS3, hF⟩
    replace hS3 : St w0 w2 [] := hS3
    refine hK2 [] w2 ?_ a hF
    refine we_seq fun K10 hK10 => ?_
    refine we_region [(0, 0)] rfl ?_
    refine ge_batch [0] (ans := []) (vs := [(4, .int .i64 (-1))]) (l := []) (by kernel_rfl) trivial ?_
    refine ge_nil fun a hF => hK10 _ _ ?_ a hF
    obtain rfl := Option.some.inj h
    exact we_ret (post_ret (rs := [.tmp 4]) (ans := []) (vs := [.int .i64 (-1)]) (l := []) rfl (by kernel_rfl) trivial ⟨rfl, hS3⟩)
  · rw [hq2] at h
    simp only [] at h
    refine we_iter (A := slices_IndexFunc_api_Task_api_Task.A0 K w0 l0 A0 c0 bg1_0 xg1_0 hR0 hL0 hBg1_0) (B := slices_IndexFunc_api_Task_api_Task.B0 K w0 l0 A0 c0 bg1_0 xg1_0 hR0 hL0 hBg1_0) hq2 (fun a hF => ⟨hS, hF.weaken ⟨by kernel_rfl, by kernel_rfl, by kernel_rfl, by kernel_rfl, trivial⟩⟩) (fun s o hf a w hA Q hQ => slices_IndexFunc_api_Task_api_Task_r0 K w0 l0 A0 c0 bg1_0 xg1_0 hR0 hL0 hBg1_0 s o hf a w hA Q hQ) ?_
    rintro _ a w1 _ ⟨rfl, hb⟩
    obtain rfl := Option.some.inj h
    exact hb

/-! slices.ContainsFunc[[]punctual/api.Task,punctual/api.Task] -/
abbrev slices_ContainsFunc_api_Task_api_Task.Post (w0 : World) (r : Bool) (e : Ending) (w : World) : Prop := e = .returned (.bool r) ∧ St w0 w []
def slices_ContainsFunc_api_Task_api_Task.f (K : Nat) (l0 : List STask) (xg1_0 : STask) : Option Bool :=
  match slices_IndexFunc_api_Task_api_Task.f K l0 xg1_0 with
  | none => none
  | some r1 =>
    some (decide (r1 ≥ 0))
theorem slices_ContainsFunc_api_Task_api_Task_ok (K : Nat) (l0 : List STask) (A0 : Option Addr) (c0 : Nat) (bg1_0 : Nat) (xg1_0 : STask) (w0 : World) (hR0 : RdL w0 A0 l0) (hL0 : l0.length ≤ c0) (hBg1_0 : Glob w0 bg1_0 [.string xg1_0.Name, .int .i64 xg1_0.C, .int .i64 xg1_0.T, .int .i64 xg1_0.D, .int .i64 xg1_0.J, .int .i64 xg1_0.O, .int .i64 xg1_0.P]) (r : Bool) (h : slices_ContainsFunc_api_Task_api_Task.f K l0 xg1_0 = some r) :
    Calls Try.prog 54 #[.slice A0 l0.length c0, .func (.func 55) #[] #[.pointer (some ⟨bg1_0, 0, none⟩)]] w0 (slices_ContainsFunc_api_Task_api_Task.Post w0 r) := by
  have hS := St.start w0
  unfold slices_ContainsFunc_api_Task_api_Task.f at h
  refine calls_enter (n := 9) (args := [.slice A0 l0.length c0, .func (.func 55) #[] #[.pointer (some ⟨bg1_0, 0, none⟩)]]) (fn := Try.f54) rfl rfl rfl rfl ?_
  show WE _ _ _ _ [(0, .slice A0 l0.length c0), (1, .func (.func 55) #[] #[.pointer (some ⟨bg1_0, 0, none⟩)])] _
  refine we_seq fun K1 hK1 => ?_
  refine we_region [(0, 0)] rfl ?_
  refine ge_batch [0] (ans := []) (vs := [(4, .bool false)]) (l := []) (by kernel_rfl) trivial ?_
  refine ge_nil fun a hF => hK1 _ _ ?_ a hF
  refine we_seq fun K2 hK2 => ?_
  refine we_region [(0, 0), (1, 0), (2, 1), (3, 0), (4, 0)] rfl ?_
  rcases hq1 : slices_IndexFunc_api_Task_api_Task.f K l0 xg1_0 with _ | r1
  · rw [hq1] at h; cases h
  rw [hq1] at h
  simp only [] at h
  refine ge_batch [0, 1] (ans := []) (vs := [(6, .func (.func 55) #[] #[.pointer (some ⟨bg1_0, 0, none⟩)]), (5, .slice A0 l0.length c0)]) (l := []) (by kernel_rfl) trivial ?_
  refine ge_call (d := some 7) (f := 65) (args := #[.slice A0 l0.length c0, .func (.func 55) #[] #[.pointer (some ⟨bg1_0, 0, none⟩)]]) (by kernel_rfl) (slices_IndexFunc_api_Task_api_Task_ok K l0 A0 c0 bg1_0 xg1_0 _ (hS.rd hR0) hL0 (Glob.ext hBg1_0 hS.below) _ hq1) ?_
  rintro _ w1 ⟨rfl, hS1⟩
  refine ⟨_, rfl, hS1.below, ?_⟩
  have hS2 := hS.call hS1
  refine ge_batch [3, 4] (ans := []) (vs := [(4, .bool (decide (r1 ≥ 0))), (8, .bool (decide (r1 ≥ 0)))]) (l := []) (by kernel_rfl) trivial ?_
  refine ge_nil fun a hF => hK2 _ _ ?_ a hF
  obtain rfl := Option.some.inj h
  exact we_ret (post_ret (rs := [.tmp 4]) (ans := []) (vs := [.bool (decide (r1 ≥ 0))]) (l := []) rfl (by kernel_rfl) trivial ⟨rfl, hS2⟩)

/-! punctual/tasks.numbers -/
abbrev tasks_numbers.Post (w0 : World) (r : List Int) (e : Ending) (w : World) : Prop := ∃ (v0 : Value), e = .returned (v0) ∧ St w0 w [Own.of v0 3 r]
def tasks_numbers.f (x0 : STask) : List Int :=
  ([x0.C, x0.T, x0.D, x0.J, x0.O, x0.P] : List Int)
theorem tasks_numbers_ok (x0 : STask) (w0 : World) (r : List Int) (h : tasks_numbers.f x0 = r) :
    Calls Try.prog 56 #[.agg #[.string x0.Name, .int .i64 x0.C, .int .i64 x0.T, .int .i64 x0.D, .int .i64 x0.J, .int .i64 x0.O, .int .i64 x0.P]] w0 (tasks_numbers.Post w0 r) := by
  have hS := St.start w0
  unfold tasks_numbers.f at h
  refine calls_enter (n := 16) (args := [.agg #[.string x0.Name, .int .i64 x0.C, .int .i64 x0.T, .int .i64 x0.D, .int .i64 x0.J, .int .i64 x0.O, .int .i64 x0.P]]) (fn := Try.f56) rfl rfl rfl rfl ?_
  show WE _ _ _ _ [(0, .agg #[.string x0.Name, .int .i64 x0.C, .int .i64 x0.T, .int .i64 x0.D, .int .i64 x0.J, .int .i64 x0.O, .int .i64 x0.P])] _
  refine we_seq fun K1 hK1 => ?_
  refine we_region [(0, 1), (1, 0)] rfl ?_
  refine ge_new (d := some 1) (o := .cells #[.string x0.Name, .int .i64 x0.C, .int .i64 x0.T, .int .i64 x0.D, .int .i64 x0.J, .int .i64 x0.O, .int .i64 x0.P] 46) (v := fun b => .pointer (some ⟨b, 0, none⟩)) hS (fun b => by kernel_rfl) fun b1 w1 hx1 hS1 => ?_
  refine ge_batch [1] (ans := []) (vs := [(2, .slice none 0 0)]) (l := []) (by kernel_rfl) trivial ?_
  refine ge_nil fun a hF => hK1 _ _ ?_ a hF
  refine we_seq fun K2 hK2 => ?_
  refine we_region [(0, 0), (1, 0), (2, 0), (3, 0), (4, 0), (5, 0), (6, 0), (7, 0), (8, 0), (9, 0), (10, 0), (11, 0), (12, 1), (13, 0)] rfl ?_
  refine ge_batch [0, 1, 2, 3, 4, 5, 6, 7, 8, 9, 10, 11] (ans := [.val (.int .i64 x0.C), .val (.int .i64 x0.T), .val (.int .i64 x0.D), .val (.int .i64 x0.J), .val (.int .i64 x0.O), .val (.int .i64 x0.P)]) (vs := [(14, .int .i64 x0.P), (13, .pointer (some ⟨b1, 6, none⟩)), (12, .int .i64 x0.O), (11, .pointer (some ⟨b1, 5, none⟩)), (10, .int .i64 x0.J), (9, .pointer (some ⟨b1, 4, none⟩)), (8, .int .i64 x0.D), (7, .pointer (some ⟨b1, 3, none⟩)), (6, .int .i64 x0.T), (5, .pointer (some ⟨b1, 2, none⟩)), (4, .int .i64 x0.C), (3, .pointer (some ⟨b1, 1, none⟩))]) (l := [.loaded ⟨b1, 1, none⟩ (.int .i64 x0.C), .loaded ⟨b1, 2, none⟩ (.int .i64 x0.T), .loaded ⟨b1, 3, none⟩ (.int .i64 x0.D), .loaded ⟨b1, 4, none⟩ (.int .i64 x0.J), .loaded ⟨b1, 5, none⟩ (.int .i64 x0.O), .loaded ⟨b1, 6, none⟩ (.int .i64 x0.P)]) (by kernel_rfl) ⟨hS1.cell 0 rfl rfl, hS1.cell 0 rfl rfl, hS1.cell 0 rfl rfl, hS1.cell 0 rfl rfl, hS1.cell 0 rfl rfl, hS1.cell 0 rfl rfl, trivial⟩ ?_
  refine ge_new (d := some 15) (o := .cells #[.int .i64 x0.C, .int .i64 x0.T, .int .i64 x0.D, .int .i64 x0.J, .int .i64 x0.O, .int .i64 x0.P] 3) (v := fun b => .slice (some ⟨b, 0, none⟩) 6 6) hS1 (fun b => by kernel_rfl) fun b2 w2 hx2 hS2 => ?_
  refine ge_batch [13] (ans := []) (vs := [(2, .slice (some ⟨b2, 0, none⟩) 6 6)]) (l := []) (by kernel_rfl) trivial ?_
  refine ge_nil fun a hF => hK2 _ _ ?_ a hF
  have hS3 := hS2.asRow (α := Int) (c := 6) ([x0.C, x0.T, x0.D, x0.J, x0.O, x0.P] : List Int) (Nat.le_refl _) (by decide) rfl rfl
  have hS4 := hS3.takeN 1
  subst h
  exact we_ret (post_ret (rs := [.tmp 2]) (ans := []) (vs := [(.slice (some ⟨b2, 0, none⟩) 6 6)]) (l := []) rfl (by kernel_rfl) trivial ⟨(.slice (some ⟨b2, 0, none⟩) 6 6), rfl, hS4⟩)

/-! punctual/tasks.bounds -/
abbrev tasks_bounds.Post (w0 : World) (r : Int × Int) (e : Ending) (w : World) : Prop := e = .returned (.tuple #[.int .i64 r.1, .int .i64 r.2]) ∧ St w0 w []
def tasks_bounds.f (x0 : Int) : Int × Int :=
  if x0 = 0 then
    (1, 10000)
  else
    if x0 = 1 then
      (1, 10000)
    else
      if x0 = 2 then
        (1, 10000)
      else
        if x0 = 5 then
          (0, 1000)
        else
          (0, 10000)
theorem tasks_bounds_ok (x0 : Int) (w0 : World) (r : Int × Int) (h : tasks_bounds.f x0 = r) :
    Calls Try.prog 57 #[.int .i64 x0] w0 (tasks_bounds.Post w0 r) := by
  have hS := St.start w0
  unfold tasks_bounds.f at h
  refine calls_enter (n := 11) (args := [.int .i64 x0]) (fn := Try.f57) rfl rfl rfl rfl ?_
  show WE _ _ _ _ [(0, .int .i64 x0)] _
  refine we_seq fun K1 hK1 => ?_
  refine we_region [(0, 0), (1, 0)] rfl ?_
  refine ge_batch [0, 1] (ans := []) (vs := [(3, .int .i64 0), (2, .int .i64 0)]) (l := []) (by kernel_rfl) trivial ?_
  refine ge_nil fun a hF => hK1 _ _ ?_ a hF
  refine we_seq fun K2 hK2 => ?_
  refine we_seq fun K3 hK3 => ?_
  refine we_region [(0, 0)] rfl ?_
  refine ge_batch [0] (ans := []) (vs := [(4, .int .i64 x0)]) (l := []) (by kernel_rfl) trivial ?_
  refine ge_nil fun a hF => hK3 _ _ ?_ a hF
  refine we_block ?_
  refine we_seq fun K4 hK4 => ?_
  refine we_seq fun K5 hK5 => ?_
  refine we_region [(0, 0), (1, 0)] rfl ?_
  refine ge_batch [0, 1] (ans := []) (vs := [(5, .bool (x0 == 0)), (6, .bool (x0 == 0))]) (l := []) (by kernel_rfl) trivial ?_
  refine ge_nil fun a hF => hK5 _ _ ?_ a hF
  by_cases hc1 : x0 = 0
  · rw [if_pos hc1] at h
    refine we_known (t := 5) (b := (x0 == 0)) (v := true) (by kernel_rfl) (beq_iff_eq.2 hc1) ?_
    refine we_true (by kernel_rfl) ?_
    refine we_skip fun a hF => hK4 _ _ ?_ a hF
    refine we_true (by kernel_rfl) ?_
    refine we_seq fun K6 hK6 => ?_
    refine we_region [(0, 0), (1, 0)] rfl ?_
    refine ge_batch [0, 1] (ans := []) (vs := [(3, .int .i64 10000), (2, .int .i64 1)]) (l := []) (by kernel_rfl) trivial ?_
    refine ge_nil fun a hF => hK6 _ _ ?_ a hF
    subst h
    exact we_ret (post_ret (rs := [.tmp 2, .tmp 3]) (ans := []) (vs := [.int .i64 1, .int .i64 10000]) (l := []) rfl (by kernel_rfl) trivial ⟨rfl, hS⟩)
  · rw [if_neg hc1] at h
    refine we_known (t := 5) (b := (x0 == 0)) (v := false) (by kernel_rfl) (beq_eq_false_iff_ne.2 hc1) ?_
    refine we_false (by kernel_rfl) ?_
    refine we_seq fun K7 hK7 => ?_
    refine we_region [(0, 0), (1, 0)] rfl ?_
    refine ge_batch [0, 1] (ans := []) (vs := [(5, .bool (x0 == 1)), (7, .bool (x0 == 1))]) (l := []) (by kernel_rfl) trivial ?_
    refine ge_nil fun a hF => hK7 _ _ ?_ a hF
    by_cases hc2 : x0 = 1
    · rw [if_pos hc2] at h
      refine we_known (t := 5) (b := (x0 == 1)) (v := true) (by kernel_rfl) (beq_iff_eq.2 hc2) ?_
      refine we_true (by kernel_rfl) ?_
      refine we_skip fun a hF => hK4 _ _ ?_ a hF
      refine we_true (by kernel_rfl) ?_
      refine we_seq fun K8 hK8 => ?_
      refine we_region [(0, 0), (1, 0)] rfl ?_
      refine ge_batch [0, 1] (ans := []) (vs := [(3, .int .i64 10000), (2, .int .i64 1)]) (l := []) (by kernel_rfl) trivial ?_
      refine ge_nil fun a hF => hK8 _ _ ?_ a hF
      subst h
      exact we_ret (post_ret (rs := [.tmp 2, .tmp 3]) (ans := []) (vs := [.int .i64 1, .int .i64 10000]) (l := []) rfl (by kernel_rfl) trivial ⟨rfl, hS⟩)
    · rw [if_neg hc2] at h
      refine we_known (t := 5) (b := (x0 == 1)) (v := false) (by kernel_rfl) (beq_eq_false_iff_ne.2 hc2) ?_
      refine we_false (by kernel_rfl) ?_
      refine we_region [(0, 0), (1, 0)] rfl ?_
      refine ge_batch [0, 1] (ans := []) (vs := [(5, .bool (x0 == 2)), (8, .bool (x0 == 2))]) (l := []) (by kernel_rfl) trivial ?_
      refine ge_nil fun a hF => hK4 _ _ ?_ a hF
      by_cases hc3 : x0 = 2
      · rw [if_pos hc3] at h
        refine we_known (t := 5) (b := (x0 == 2)) (v := true) (by kernel_rfl) (beq_iff_eq.2 hc3) ?_
        refine we_true (by kernel_rfl) ?_
        refine we_seq fun K9 hK9 => ?_
        refine we_region [(0, 0), (1, 0)] rfl ?_
        refine ge_batch [0, 1] (ans := []) (vs := [(3, .int .i64 10000), (2, .int .i64 1)]) (l := []) (by kernel_rfl) trivial ?_
        refine ge_nil fun a hF => hK9 _ _ ?_ a hF
        subst h
        exact we_ret (post_ret (rs := [.tmp 2, .tmp 3]) (ans := []) (vs := [.int .i64 1, .int .i64 10000]) (l := []) rfl (by kernel_rfl) trivial ⟨rfl, hS⟩)
      · rw [if_neg hc3] at h
        refine we_known (t := 5) (b := (x0 == 2)) (v := false) (by kernel_rfl) (beq_eq_false_iff_ne.2 hc3) ?_
        refine we_false (by kernel_rfl) ?_
        refine we_seq fun K10 hK10 => ?_
        refine we_region [(0, 0), (1, 0)] rfl ?_
        refine ge_batch [0, 1] (ans := []) (vs := [(9, .bool (x0 == 5)), (10, .bool (x0 == 5))]) (l := []) (by kernel_rfl) trivial ?_
        refine ge_nil fun a hF => hK10 _ _ ?_ a hF
        by_cases hc4 : x0 = 5
        · rw [if_pos hc4] at h
          refine we_known (t := 9) (b := (x0 == 5)) (v := true) (by kernel_rfl) (beq_iff_eq.2 hc4) ?_
          refine we_true (by kernel_rfl) ?_
          refine we_seq fun K11 hK11 => ?_
          refine we_region [(0, 0), (1, 0)] rfl ?_
          refine ge_batch [0, 1] (ans := []) (vs := [(3, .int .i64 1000), (2, .int .i64 0)]) (l := []) (by kernel_rfl) trivial ?_
          refine ge_nil fun a hF => hK11 _ _ ?_ a hF
          subst h
          exact we_ret (post_ret (rs := [.tmp 2, .tmp 3]) (ans := []) (vs := [.int .i64 0, .int .i64 1000]) (l := []) rfl (by kernel_rfl) trivial ⟨rfl, hS⟩)
        · rw [if_neg hc4] at h
          refine we_known (t := 9) (b := (x0 == 5)) (v := false) (by kernel_rfl) (beq_eq_false_iff_ne.2 hc4) ?_
          refine we_false (by kernel_rfl) ?_
          refine we_skip fun a hF => hK2 _ _ ?_ a hF
          refine we_seq fun K12 hK12 => ?_
          refine we_region [(0, 0), (1, 0)] rfl ?_
          refine ge_batch [0, 1] (ans := []) (vs := [(3, .int .i64 10000), (2, .int .i64 0)]) (l := []) (by kernel_rfl) trivial ?_
          refine ge_nil fun a hF => hK12 _ _ ?_ a hF
          subst h
          exact we_ret (post_ret (rs := [.tmp 2, .tmp 3]) (ans := []) (vs := [.int .i64 0, .int .i64 10000]) (l := []) rfl (by kernel_rfl) trivial ⟨rfl, hS⟩)

structure SFault where
  Code : Int
  At : Int
def SFault.eqb (x y : SFault) : Bool := ((x.Code == y.Code) && ((x.At == y.At) && true))
instance : Ok SFault := ⟨fun x => Ok.ok x.Code ∧ Ok.ok x.At ∧ True⟩
instance : Flat SFault := ⟨2, fun x => [.int .i64 x.Code, .int .i64 x.At], fun _ => rfl, fun _ => rfl, by decide⟩

/-! punctual/tasks.Check -/
abbrev tasks_Check.Post (w0 : World) (r : SFault) (e : Ending) (w : World) : Prop := e = .returned (.agg #[.int .i64 r.Code, .int .i64 r.At]) ∧ St w0 w []
def tasks_Check.p0 (l0 : List STask) : Option (Unit ⊕ SFault) :=
    if (l0.length : Int) < 1 then
      some (.inr (⟨2, 0⟩ : SFault))
    else
      if (l0.length : Int) > 8 then
        some (.inr (⟨2, 0⟩ : SFault))
      else
        some (.inl ())
def tasks_Check.r2 (i1 : Nat) (e1 : STask) : Nat → Option (Nat ⊕ (Unit ⊕ SFault))
  | i2 =>
    if (i2 : Int) < ((tasks_numbers.f e1).length : Int) then
      match (tasks_numbers.f e1)[i2]? with
      | none => none
      | some e2 =>
        if e2 < ((tasks_bounds.f (i2 : Int)).1) then
          some (.inr (.inr (⟨3, (i1 : Int)⟩ : SFault)))
        else
          if e2 > ((tasks_bounds.f (i2 : Int)).2) then
            some (.inr (.inr (⟨3, (i1 : Int)⟩ : SFault)))
          else
            some (.inl (i2 + 1))
    else
      some (.inr (.inl ()))
def tasks_Check.r1 (K : Nat) (l0 : List STask) : Nat → Option (Nat ⊕ (Unit ⊕ SFault))
  | i1 =>
    if (i1 : Int) < (l0.length : Int) then
      match l0[i1]? with
      | none => none
      | some e1 =>
        match tasks_isName.f K e1.Name with
        | none => none
        | some r1 =>
          if r1 = true then
            if i1 ≤ l0.length then
              match slices_ContainsFunc_api_Task_api_Task.f K ((l0.take i1).drop 0) e1 with
              | none => none
              | some r2 =>
                if r2 = true then
                  some (.inr (.inr (⟨5, (i1 : Int)⟩ : SFault)))
                else
                  match iter (tasks_Check.r2 i1 e1) K 0 with
                  | none => none
                  | some (.inl _) =>
                    if e1.C > e1.D then
                      some (.inr (.inr (⟨12, (i1 : Int)⟩ : SFault)))
                    else
                      some (.inl (i1 + 1))
                  | some (.inr rr1) =>
                    some (.inr (.inr rr1))
            else
              none
          else
            some (.inr (.inr (⟨4, (i1 : Int)⟩ : SFault)))
    else
      some (.inr (.inl ()))
def tasks_Check.f (K : Nat) (l0 : List STask) : Option SFault :=
  match tasks_Check.p0 l0 with
  | none => none
  | some (.inl _) =>
    match iter (tasks_Check.r1 K l0) K 0 with
    | none => none
    | some (.inl _) =>
      some (⟨0, 0⟩ : SFault)
    | some (.inr rr2) =>
      some rr2
  | some (.inr rr3) =>
    some rr3
abbrev tasks_Check.A0 (K : Nat) (w0 : World) (l0 : List STask) (A0 : Option Addr) (c0 : Nat) (hR0 : RdL w0 A0 l0) (hL0 : l0.length ≤ c0) (b1 : Nat) : Unit → Act → World → Prop := fun (s : Unit) a w => St w0 w [Own.blk b1 (.cells #[.int .i64 0, .int .i64 0] 29 (0, 0))] ∧ Frm 71 a [(0, .slice A0 l0.length c0), (2, .pointer (some ⟨b1, 0, none⟩))]
abbrev tasks_Check.B0 (K : Nat) (w0 : World) (l0 : List STask) (A0 : Option Addr) (c0 : Nat) (hR0 : RdL w0 A0 l0) (hL0 : l0.length ≤ c0) (b1 : Nat) : SFault → Exit → Act → World → Prop := Rets Try.prog Try.f35 (tasks_Check.Post w0)
theorem tasks_Check_p0 (K : Nat) (w0 : World) (l0 : List STask) (A0 : Option Addr) (c0 : Nat) (hR0 : RdL w0 A0 l0) (hL0 : l0.length ≤ c0) (b1 : Nat) (o : Unit ⊕ SFault) (h : tasks_Check.p0 l0 = some o) (w : World) (hS : St w0 w [Own.blk b1 (.cells #[.int .i64 0, .int .i64 0] 29 (0, 0))]) (Q : Exit → Act → World → Prop) (hQ : ∀ x a w, Outs (tasks_Check.A0 K w0 l0 A0 c0 hR0 hL0 b1) (tasks_Check.B0 K w0 l0 A0 c0 hR0 hL0 b1) o x a w → Q x a w) : WE Try.prog 71 (subF Try.f35 [1, 0]) Q [(0, .slice A0 l0.length c0), (2, .pointer (some ⟨b1, 0, none⟩))] w := by
  simp only [tasks_Check.p0] at h
  refine we_seq fun K3 hK3 => ?_
  refine we_region [(0, 0), (1, 0), (2, 0), (3, 0), (4, 0), (5, 0), (6, 0), (7, 0)] rfl ?_
  refine ge_batch [0, 1, 2, 3] (ans := []) (vs := [(12, .bool (decide ((l0.length : Int) < 1))), (11, .bool (decide ((l0.length : Int) < 1))), (10, .int .i64 (l0.length : Int)), (9, .slice A0 l0.length c0)]) (l := []) (by kernel_rfl) trivial ?_
  by_cases hc1 : (l0.length : Int) < 1
  · rw [if_pos hc1] at h
    refine ge_known (t := 12) (b := decide ((l0.length : Int) < 1)) (c := true) (by kernel_rfl) (decide_eq_true hc1) ?_
    refine ge_batch [4, 5, 6, 7] (ans := []) (vs := [(16, .bool true), (15, undef), (14, undef), (13, undef)]) (l := []) (by kernel_rfl) trivial ?_
    refine ge_nil fun a hF => hK3 _ _ ?_ a hF
    refine we_true (by kernel_rfl) ?_
    refine we_seq fun K4 hK4 => ?_
    refine we_region [(0, 0), (1, 2)] rfl ?_
    refine ge_batch [0] (ans := []) (vs := [(17, .agg #[.int .i64 2, .int .i64 0])]) (l := []) (by kernel_rfl) trivial ?_
    refine ge_set (b := b1) (j := 0) (cs := #[.int .i64 0, .int .i64 0]) (t := 29) (vs := [.int .i64 2, .int .i64 0]) hS (by kernel_rfl) rfl rfl fun w2 hS2 => ?_
    have hS3 : St w0 w2 [Own.blk b1 (.cells #[.int .i64 2, .int .i64 0] 29 (0, 0))] := hS2
    refine ge_nil fun a hF => hK4 _ _ ?_ a hF
    have hS4 := hS3.takeN 0
    obtain rfl := Option.some.inj h
    exact we_ret fun a hF => hQ _ _ _ (Outs.out nofun ⟨rfl, (post_ret (rs := [.cell 2 29]) (ans := [.val (.int .i64 2), .val (.int .i64 0)]) (vs := [.agg #[.int .i64 2, .int .i64 0]]) (l := [.loaded ⟨b1, 0, none⟩ (.int .i64 2), .loaded ⟨b1, 1, none⟩ (.int .i64 0)]) rfl (by kernel_rfl) ⟨hS3.cell 0 rfl rfl, hS3.cell 0 rfl rfl, trivial⟩ ⟨rfl, hS4⟩) a hF⟩)
  · rw [if_neg hc1] at h
    refine ge_known (t := 12) (b := decide ((l0.length : Int) < 1)) (c := false) (by kernel_rfl) (decide_eq_false hc1) ?_
    refine ge_batch [4, 5, 6, 7] (ans := []) (vs := [(16, .bool (decide ((l0.length : Int) > 8))), (15, .bool (decide ((l0.length : Int) > 8))), (14, .int .i64 (l0.length : Int)), (13, .slice A0 l0.length c0)]) (l := []) (by kernel_rfl) trivial ?_
    refine ge_nil fun a hF => hK3 _ _ ?_ a hF
    by_cases hc2 : (l0.length : Int) > 8
    · rw [if_pos hc2] at h
      refine we_known (t := 16) (b := decide ((l0.length : Int) > 8)) (v := true) (by kernel_rfl) (decide_eq_true hc2) ?_
      refine we_true (by kernel_rfl) ?_
      refine we_seq fun K5 hK5 => ?_
      refine we_region [(0, 0), (1, 2)] rfl ?_
      refine ge_batch [0] (ans := []) (vs := [(17, .agg #[.int .i64 2, .int .i64 0])]) (l := []) (by kernel_rfl) trivial ?_
      refine ge_set (b := b1) (j := 0) (cs := #[.int .i64 0, .int .i64 0]) (t := 29) (vs := [.int .i64 2, .int .i64 0]) hS (by kernel_rfl) rfl rfl fun w3 hS5 => ?_
      have hS6 : St w0 w3 [Own.blk b1 (.cells #[.int .i64 2, .int .i64 0] 29 (0, 0))] := hS5
      refine ge_nil fun a hF => hK5 _ _ ?_ a hF
      have hS7 := hS6.takeN 0
      obtain rfl := Option.some.inj h
      exact we_ret fun a hF => hQ _ _ _ (Outs.out nofun ⟨rfl, (post_ret (rs := [.cell 2 29]) (ans := [.val (.int .i64 2), .val (.int .i64 0)]) (vs := [.agg #[.int .i64 2, .int .i64 0]]) (l := [.loaded ⟨b1, 0, none⟩ (.int .i64 2), .loaded ⟨b1, 1, none⟩ (.int .i64 0)]) rfl (by kernel_rfl) ⟨hS6.cell 0 rfl rfl, hS6.cell 0 rfl rfl, trivial⟩ ⟨rfl, hS7⟩) a hF⟩)
    · rw [if_neg hc2] at h
      refine we_known (t := 16) (b := decide ((l0.length : Int) > 8)) (v := false) (by kernel_rfl) (decide_eq_false hc2) ?_
      refine we_false (by kernel_rfl) ?_
      obtain rfl := Option.some.inj h
      exact we_skip fun a hF => hQ _ _ _ (Outs.again ⟨hS, hF.weaken ⟨by kernel_rfl, by kernel_rfl, trivial⟩⟩)
abbrev tasks_Check.A2 (K : Nat) (w0 : World) (l0 : List STask) (A0 : Option Addr) (c0 : Nat) (hR0 : RdL w0 A0 l0) (hL0 : l0.length ≤ c0) (b1 : Nat) (i1 : Nat) (hc3 : (i1 : Int) < (l0.length : Int)) (e1 : STask) (hx2 : l0[i1]? = some e1) (b2 : Nat) (r1 : Bool) (hc4 : r1 = true) (hc5 : i1 ≤ l0.length) (r2 : Bool) (hc6 : ¬ (r2 = true)) (Z1 : Option Addr) (cz1 : Nat) : Nat → Act → World → Prop := fun (s : Nat) a w => St w0 w [Own.blk b2 (.cells #[.string e1.Name, .int .i64 e1.C, .int .i64 e1.T, .int .i64 e1.D, .int .i64 e1.J, .int .i64 e1.O, .int .i64 e1.P] 46 (0, 0)), Own.blk b1 (.cells #[.int .i64 0, .int .i64 0] 29 (0, 0)), Own.of (.slice Z1 (tasks_numbers.f e1).length cz1) 3 (tasks_numbers.f e1)] ∧ Frm 71 a [(0, .slice A0 l0.length c0), (2, .pointer (some ⟨b1, 0, none⟩)), (3, .int .i64 (i1 : Int)), (4, .pointer (some ⟨b2, 0, none⟩)), (18, .slice A0 l0.length c0), (19, .int .i64 (l0.length : Int)), (20, .int .i64 (i1 : Int)), (39, (.slice Z1 (tasks_numbers.f e1).length cz1)), (40, .int .i64 ((tasks_numbers.f e1).length : Int)), (41, .int .i64 (s : Int))]
abbrev tasks_Check.B2 (K : Nat) (w0 : World) (l0 : List STask) (A0 : Option Addr) (c0 : Nat) (hR0 : RdL w0 A0 l0) (hL0 : l0.length ≤ c0) (b1 : Nat) (i1 : Nat) (hc3 : (i1 : Int) < (l0.length : Int)) (e1 : STask) (hx2 : l0[i1]? = some e1) (b2 : Nat) (r1 : Bool) (hc4 : r1 = true) (hc5 : i1 ≤ l0.length) (r2 : Bool) (hc6 : ¬ (r2 = true)) (Z1 : Option Addr) (cz1 : Nat) : (Unit ⊕ SFault) → Exit → Act → World → Prop := Exits 2 (fun (s : Unit) a w => St w0 w [Own.blk b2 (.cells #[.string e1.Name, .int .i64 e1.C, .int .i64 e1.T, .int .i64 e1.D, .int .i64 e1.J, .int .i64 e1.O, .int .i64 e1.P] 46 (0, 0)), Own.blk b1 (.cells #[.int .i64 0, .int .i64 0] 29 (0, 0))] ∧ Frm 71 a [(0, .slice A0 l0.length c0), (2, .pointer (some ⟨b1, 0, none⟩)), (3, .int .i64 (i1 : Int)), (4, .pointer (some ⟨b2, 0, none⟩)), (18, .slice A0 l0.length c0), (19, .int .i64 (l0.length : Int)), (20, .int .i64 (i1 : Int))]) (Rets Try.prog Try.f35 (tasks_Check.Post w0))
theorem tasks_Check_r2 (K : Nat) (w0 : World) (l0 : List STask) (A0 : Option Addr) (c0 : Nat) (hR0 : RdL w0 A0 l0) (hL0 : l0.length ≤ c0) (b1 : Nat) (i1 : Nat) (hc3 : (i1 : Int) < (l0.length : Int)) (e1 : STask) (hx2 : l0[i1]? = some e1) (b2 : Nat) (r1 : Bool) (hc4 : r1 = true) (hc5 : i1 ≤ l0.length) (r2 : Bool) (hc6 : ¬ (r2 = true)) (Z1 : Option Addr) (cz1 : Nat) (s : Nat) (o : Nat ⊕ (Unit ⊕ SFault)) (h : tasks_Check.r2 i1 e1 s = some o) (a : Act) (w : World) (hA : tasks_Check.A2 K w0 l0 A0 c0 hR0 hL0 b1 i1 hc3 e1 hx2 b2 r1 hc4 hc5 r2 hc6 Z1 cz1 s a w) (Q : Exit → Act → World → Prop) (hQ : ∀ x a w, Outs (tasks_Check.A2 K w0 l0 A0 c0 hR0 hL0 b1 i1 hc3 e1 hx2 b2 r1 hc4 hc5 r2 hc6 Z1 cz1) (tasks_Check.B2 K w0 l0 A0 c0 hR0 hL0 b1 i1 hc3 e1 hx2 b2 r1 hc4 hc5 r2 hc6 Z1 cz1) o x a w → Q x a w) : (subF Try.f35 [1, 1, 0, 1, 0, 0, 1, 1, 0, 0, 1, 1, 1, 0, 1, 0, 0]).wp Try.prog Q a w := by
  obtain ⟨i2, hs⟩ : ∃ z, z = s := ⟨s, rfl⟩
  subst hs
  obtain ⟨hS, hF⟩ := hA
  replace hS : St w0 w [Own.blk b2 (.cells #[.string e1.Name, .int .i64 e1.C, .int .i64 e1.T, .int .i64 e1.D, .int .i64 e1.J, .int .i64 e1.O, .int .i64 e1.P] 46 (0, 0)), Own.blk b1 (.cells #[.int .i64 0, .int .i64 0] 29 (0, 0)), Own.of (.slice Z1 (tasks_numbers.f e1).length cz1) 3 (tasks_numbers.f e1)] := hS
  simp only [tasks_Check.r2] at h
  refine (?_ : WE Try.prog 71 (subF Try.f35 [1, 1, 0, 1, 0, 0, 1, 1, 0, 0, 1, 1, 1, 0, 1, 0, 0]) Q [(0, .slice A0 l0.length c0), (2, .pointer (some ⟨b1, 0, none⟩)), (3, .int .i64 (i1 : Int)), (4, .pointer (some ⟨b2, 0, none⟩)), (18, .slice A0 l0.length c0), (19, .int .i64 (l0.length : Int)), (20, .int .i64 (i1 : Int)), (39, (.slice Z1 (tasks_numbers.f e1).length cz1)), (40, .int .i64 ((tasks_numbers.f e1).length : Int)), (41, .int .i64 (i2 : Int))] w) a hF
  clear hF a
  refine we_seq fun K19 hK19 => ?_
  refine we_region [(0, 0)] rfl ?_
  refine ge_batch [0] (ans := []) (vs := [(42, .bool (decide ((i2 : Int) < ((tasks_numbers.f e1).length : Int))))]) (l := []) (by kernel_rfl) trivial ?_
  refine ge_nil fun a hF => hK19 _ _ ?_ a hF
  refine we_seq fun K20 hK20 => ?_
  by_cases hc7 : (i2 : Int) < ((tasks_numbers.f e1).length : Int)
  · rw [if_pos hc7] at h
    refine we_known (t := 42) (b := decide ((i2 : Int) < ((tasks_numbers.f e1).length : Int))) (v := true) (by kernel_rfl) (decide_eq_true hc7) ?_
    refine we_true (by kernel_rfl) ?_
    refine we_skip fun a hF => hK20 _ _ ?_ a hF
    refine we_seq fun K21 hK21 => ?_
    refine we_block ?_
    refine we_seq fun K22 hK22 => ?_
    refine we_region [(0, 0), (1, 0), (2, 0), (3, 0), (4, 0)] rfl ?_
    refine ge_batch [0] (ans := []) (vs := [(43, .int .i64 (i2 : Int))]) (l := []) (by kernel_rfl) trivial ?_
    rcases hx4 : (tasks_numbers.f e1)[i2]? with _ | e2
    · rw [hx4] at h; cases h
    rw [hx4] at h
    simp only [] at h
    refine ge_index (d := 44) (ty := 0) (t := 24) (el := 3) (sz := 1) (m := (tasks_numbers.f e1).length) (c := cz1) (x := (.tmp 39)) (y := (.tmp 41)) (A := Z1) (k' := .i64) (j := (i2 : Int)) (jn := i2) (b0 := blkOf Z1) (o0 := offOf Z1) (by kernel_rfl) (by kernel_rfl) (by kernel_rfl) (by kernel_rfl) (by kernel_rfl) ((hS.rdAt 2 rfl).eqSome (pos_of_get hx4)) rfl (lt_of_get hx4) ?_
    refine ge_batch [2, 3, 4] (ans := [.val (.int .i64 e2)]) (vs := [(6, .int .i64 e2), (5, .int .i64 (i2 : Int)), (45, .int .i64 e2)]) (l := [.loaded ⟨blkOf Z1, offOf Z1 + i2 * 1, none⟩ (.int .i64 e2)]) (by kernel_rfl) ⟨RdL.cell (j := 0) (hS.rdAt 2 rfl) hx4 rfl, trivial⟩ ?_
    refine ge_nil fun a hF => hK22 _ _ ?_ a hF
    refine we_seq fun K23 hK23 => ?_
    refine we_region [(0, 0), (1, 1), (2, 0), (3, 0), (4, 0), (5, 0), (6, 0)] rfl ?_
    refine ge_batch [0] (ans := []) (vs := [(47, .int .i64 (i2 : Int))]) (l := []) (by kernel_rfl) trivial ?_
    refine ge_call (d := some 48) (f := 57) (args := #[.int .i64 (i2 : Int)]) (by kernel_rfl) (tasks_bounds_ok (i2 : Int) _ _ rfl) ?_
    rintro _ w11 ⟨rfl, hS24⟩
    refine ⟨_, rfl, hS24.below, ?_⟩
    have hS25 := hS.call hS24
    refine ge_batch [2, 3, 4, 5, 6] (ans := []) (vs := [(8, .int .i64 ((tasks_bounds.f (i2 : Int)).2)), (7, .int .i64 ((tasks_bounds.f (i2 : Int)).1)), (50, .int .i64 ((tasks_bounds.f (i2 : Int)).2)), (49, .int .i64 ((tasks_bounds.f (i2 : Int)).1)), (46, .tuple #[.int .i64 ((tasks_bounds.f (i2 : Int)).1), .int .i64 ((tasks_bounds.f (i2 : Int)).2)])]) (l := []) (by kernel_rfl) trivial ?_
    refine ge_nil fun a hF => hK23 _ _ ?_ a hF
    refine we_seq fun K24 hK24 => ?_
    refine we_region [(0, 0), (1, 0), (2, 0), (3, 0), (4, 0), (5, 0), (6, 0), (7, 0)] rfl ?_
    refine ge_batch [0, 1, 2, 3] (ans := []) (vs := [(54, .bool (decide (e2 < ((tasks_bounds.f (i2 : Int)).1)))), (53, .bool (decide (e2 < ((tasks_bounds.f (i2 : Int)).1)))), (52, .int .i64 ((tasks_bounds.f (i2 : Int)).1)), (51, .int .i64 e2)]) (l := []) (by kernel_rfl) trivial ?_
    by_cases hc8 : e2 < ((tasks_bounds.f (i2 : Int)).1)
    · rw [if_pos hc8] at h
      refine ge_known (t := 54) (b := decide (e2 < ((tasks_bounds.f (i2 : Int)).1))) (c := true) (by kernel_rfl) (decide_eq_true hc8) ?_
      refine ge_batch [4, 5, 6, 7] (ans := []) (vs := [(58, .bool true), (57, undef), (56, undef), (55, undef)]) (l := []) (by kernel_rfl) trivial ?_
      refine ge_nil fun a hF => hK24 _ _ ?_ a hF
      refine we_true (by kernel_rfl) ?_
      refine we_seq fun K25 hK25 => ?_
      refine we_region [(0, 0), (1, 0), (2, 2)] rfl ?_
      refine ge_batch [0, 1] (ans := []) (vs := [(60, .agg #[.int .i64 3, .int .i64 (i1 : Int)]), (59, .int .i64 (i1 : Int))]) (l := []) (by kernel_rfl) trivial ?_
      have hS26 := hS25.bring 1 rfl
      refine ge_set (b := b1) (j := 0) (cs := #[.int .i64 0, .int .i64 0]) (t := 29) (vs := [.int .i64 3, .int .i64 (i1 : Int)]) hS26 (by kernel_rfl) rfl rfl fun w12 hS27 => ?_
      have hS28 : St w0 w12 [Own.blk b1 (.cells #[.int .i64 3, .int .i64 (i1 : Int)] 29 (0, 0)), Own.blk b2 (.cells #[.string e1.Name, .int .i64 e1.C, .int .i64 e1.T, .int .i64 e1.D, .int .i64 e1.J, .int .i64 e1.O, .int .i64 e1.P] 46 (0, 0)), Own.of (.slice Z1 (tasks_numbers.f e1).length cz1) 3 (tasks_numbers.f e1)] := hS27
      refine ge_nil fun a hF => hK25 _ _ ?_ a hF
      have hS29 := hS28.takeN 0
      obtain rfl := Option.some.inj h
      exact we_ret fun a hF => hQ _ _ _ (Outs.out nofun (Exits.on ⟨rfl, (post_ret (rs := [.cell 2 29]) (ans := [.val (.int .i64 3), .val (.int .i64 (i1 : Int))]) (vs := [.agg #[.int .i64 3, .int .i64 (i1 : Int)]]) (l := [.loaded ⟨b1, 0, none⟩ (.int .i64 3), .loaded ⟨b1, 1, none⟩ (.int .i64 (i1 : Int))]) rfl (by kernel_rfl) ⟨hS28.cell 0 rfl rfl, hS28.cell 0 rfl rfl, trivial⟩ ⟨rfl, hS29⟩) a hF⟩))
    · rw [if_neg hc8] at h
      refine ge_known (t := 54) (b := decide (e2 < ((tasks_bounds.f (i2 : Int)).1))) (c := false) (by kernel_rfl) (decide_eq_false hc8) ?_
      refine ge_batch [4, 5, 6, 7] (ans := []) (vs := [(58, .bool (decide (e2 > ((tasks_bounds.f (i2 : Int)).2)))), (57, .bool (decide (e2 > ((tasks_bounds.f (i2 : Int)).2)))), (56, .int .i64 ((tasks_bounds.f (i2 : Int)).2)), (55, .int .i64 e2)]) (l := []) (by kernel_rfl) trivial ?_
      refine ge_nil fun a hF => hK24 _ _ ?_ a hF
      by_cases hc9 : e2 > ((tasks_bounds.f (i2 : Int)).2)
      · rw [if_pos hc9] at h
        refine we_known (t := 58) (b := decide (e2 > ((tasks_bounds.f (i2 : Int)).2))) (v := true) (by kernel_rfl) (decide_eq_true hc9) ?_
        refine we_true (by kernel_rfl) ?_
        refine we_seq fun K26 hK26 => ?_
        refine we_region [(0, 0), (1, 0), (2, 2)] rfl ?_
        refine ge_batch [0, 1] (ans := []) (vs := [(60, .agg #[.int .i64 3, .int .i64 (i1 : Int)]), (59, .int .i64 (i1 : Int))]) (l := []) (by kernel_rfl) trivial ?_
        have hS30 := hS25.bring 1 rfl
        refine ge_set (b := b1) (j := 0) (cs := #[.int .i64 0, .int .i64 0]) (t := 29) (vs := [.int .i64 3, .int .i64 (i1 : Int)]) hS30 (by kernel_rfl) rfl rfl fun w13 hS31 => ?_
        have hS32 : St w0 w13 [Own.blk b1 (.cells #[.int .i64 3, .int .i64 (i1 : Int)] 29 (0, 0)), Own.blk b2 (.cells #[.string e1.Name, .int .i64 e1.C, .int .i64 e1.T, .int .i64 e1.D, .int .i64 e1.J, .int .i64 e1.O, .int .i64 e1.P] 46 (0, 0)), Own.of (.slice Z1 (tasks_numbers.f e1).length cz1) 3 (tasks_numbers.f e1)] := hS31
        refine ge_nil fun a hF => hK26 _ _ ?_ a hF
        have hS33 := hS32.takeN 0
        obtain rfl := Option.some.inj h
        exact we_ret fun a hF => hQ _ _ _ (Outs.out nofun (Exits.on ⟨rfl, (post_ret (rs := [.cell 2 29]) (ans := [.val (.int .i64 3), .val (.int .i64 (i1 : Int))]) (vs := [.agg #[.int .i64 3, .int .i64 (i1 : Int)]]) (l := [.loaded ⟨b1, 0, none⟩ (.int .i64 3), .loaded ⟨b1, 1, none⟩ (.int .i64 (i1 : Int))]) rfl (by kernel_rfl) ⟨hS32.cell 0 rfl rfl, hS32.cell 0 rfl rfl, trivial⟩ ⟨rfl, hS33⟩) a hF⟩))
      · rw [if_neg hc9] at h
        refine we_known (t := 58) (b := decide (e2 > ((tasks_bounds.f (i2 : Int)).2))) (v := false) (by kernel_rfl) (decide_eq_false hc9) ?_
        refine we_false (by kernel_rfl) ?_
        refine we_skip fun a hF => hK21 _ _ ?_ a hF
        refine we_region [(0, 0), (1, 0)] rfl ?_
        refine ge_addn (d := 61) (ty := 3) (x := (.tmp 41)) (y := (.const (.int .i64 1))) (t := 3) (t2 := 3) (k := .i64) (m := i2) (by kernel_rfl) (by kernel_rfl) (by kernel_rfl) (by have h0 := hS25.ofSmall 2 rfl; omega) ?_
        refine ge_batch [1] (ans := []) (vs := [(41, .int .i64 ((i2 + 1 : Nat) : Int))]) (l := []) (by kernel_rfl) trivial ?_
        have hS34 := hS25.bring 2 rfl
        have hS35 := hS34.bring 2 rfl
        have hS36 := hS35.bring 2 rfl
        obtain rfl := Option.some.inj h
        exact ge_nil fun a hF => hQ _ _ _ (Outs.again ⟨hS36, hF.weaken ⟨by kernel_rfl, by kernel_rfl, by kernel_rfl, by kernel_rfl, by kernel_rfl, by kernel_rfl, by kernel_rfl, by kernel_rfl, by kernel_rfl, by kernel_rfl, trivial⟩⟩)
  · rw [if_neg hc7] at h
    refine we_known (t := 42) (b := decide ((i2 : Int) < ((tasks_numbers.f e1).length : Int))) (v := false) (by kernel_rfl) (decide_eq_false hc7) ?_
    refine we_false (by kernel_rfl) ?_
    have hS37 := hS.bring 1 rfl
    have hS38 := hS37.bring 1 rfl
    have hS39 := hS38.takeN 2
    obtain rfl := Option.some.inj h
    exact we_exit fun a hF => hQ _ _ _ (Outs.out nofun (Exits.here ⟨hS39, hF.weaken ⟨by kernel_rfl, by kernel_rfl, by kernel_rfl, by kernel_rfl, by kernel_rfl, by kernel_rfl, by kernel_rfl, trivial⟩⟩))
abbrev tasks_Check.A1 (K : Nat) (w0 : World) (l0 : List STask) (A0 : Option Addr) (c0 : Nat) (hR0 : RdL w0 A0 l0) (hL0 : l0.length ≤ c0) (b1 : Nat) : Nat → Act → World → Prop := fun (s : Nat) a w => St w0 w [Own.blk b1 (.cells #[.int .i64 0, .int .i64 0] 29 (0, 0))] ∧ Frm 71 a [(0, .slice A0 l0.length c0), (2, .pointer (some ⟨b1, 0, none⟩)), (18, .slice A0 l0.length c0), (19, .int .i64 (l0.length : Int)), (20, .int .i64 (s : Int))]
abbrev tasks_Check.B1 (K : Nat) (w0 : World) (l0 : List STask) (A0 : Option Addr) (c0 : Nat) (hR0 : RdL w0 A0 l0) (hL0 : l0.length ≤ c0) (b1 : Nat) : (Unit ⊕ SFault) → Exit → Act → World → Prop := Exits 0 (fun (s : Unit) a w => St w0 w [Own.blk b1 (.cells #[.int .i64 0, .int .i64 0] 29 (0, 0))] ∧ Frm 71 a [(2, .pointer (some ⟨b1, 0, none⟩))]) (Rets Try.prog Try.f35 (tasks_Check.Post w0))
theorem tasks_Check_r1 (K : Nat) (w0 : World) (l0 : List STask) (A0 : Option Addr) (c0 : Nat) (hR0 : RdL w0 A0 l0) (hL0 : l0.length ≤ c0) (b1 : Nat) (s : Nat) (o : Nat ⊕ (Unit ⊕ SFault)) (h : tasks_Check.r1 K l0 s = some o) (a : Act) (w : World) (hA : tasks_Check.A1 K w0 l0 A0 c0 hR0 hL0 b1 s a w) (Q : Exit → Act → World → Prop) (hQ : ∀ x a w, Outs (tasks_Check.A1 K w0 l0 A0 c0 hR0 hL0 b1) (tasks_Check.B1 K w0 l0 A0 c0 hR0 hL0 b1) o x a w → Q x a w) : (subF Try.f35 [1, 1, 0, 1, 0, 0]).wp Try.prog Q a w := by
  obtain ⟨i1, hs⟩ : ∃ z, z = s := ⟨s, rfl⟩
  subst hs
  obtain ⟨hS, hF⟩ := hA
  replace hS : St w0 w [Own.blk b1 (.cells #[.int .i64 0, .int .i64 0] 29 (0, 0))] := hS
  simp only [tasks_Check.r1] at h
  refine (?_ : WE Try.prog 71 (subF Try.f35 [1, 1, 0, 1, 0, 0]) Q [(0, .slice A0 l0.length c0), (2, .pointer (some ⟨b1, 0, none⟩)), (18, .slice A0 l0.length c0), (19, .int .i64 (l0.length : Int)), (20, .int .i64 (i1 : Int))] w) a hF
  clear hF a
  refine we_seq fun K8 hK8 => ?_
  refine we_region [(0, 0)] rfl ?_
  refine ge_batch [0] (ans := []) (vs := [(21, .bool (decide ((i1 : Int) < (l0.length : Int))))]) (l := []) (by kernel_rfl) trivial ?_
  refine ge_nil fun a hF => hK8 _ _ ?_ a hF
  refine we_seq fun K9 hK9 => ?_
  by_cases hc3 : (i1 : Int) < (l0.length : Int)
  · rw [if_pos hc3] at h
    refine we_known (t := 21) (b := decide ((i1 : Int) < (l0.length : Int))) (v := true) (by kernel_rfl) (decide_eq_true hc3) ?_
    refine we_true (by kernel_rfl) ?_
    refine we_skip fun a hF => hK9 _ _ ?_ a hF
    refine we_seq fun K10 hK10 => ?_
    refine we_block ?_
    refine we_seq fun K11 hK11 => ?_
    refine we_region [(0, 0), (1, 0), (2, 0), (3, 1), (4, 0), (5, 2)] rfl ?_
    refine ge_batch [0] (ans := []) (vs := [(22, .int .i64 (i1 : Int))]) (l := []) (by kernel_rfl) trivial ?_
    rcases hx2 : l0[i1]? with _ | e1
    · rw [hx2] at h; cases h
    rw [hx2] at h
    simp only [] at h
    refine ge_index (d := 23) (ty := 0) (t := 22) (el := 46) (sz := 7) (m := l0.length) (c := c0) (x := (.tmp 18)) (y := (.tmp 20)) (A := A0) (k' := .i64) (j := (i1 : Int)) (jn := i1) (b0 := blkOf A0) (o0 := offOf A0) (by kernel_rfl) (by kernel_rfl) (by kernel_rfl) (by kernel_rfl) (by kernel_rfl) ((hS.rd hR0).eqSome (pos_of_get hx2)) rfl (lt_of_get hx2) ?_
    refine ge_batch [2] (ans := [.val (.string e1.Name), .val (.int .i64 e1.C), .val (.int .i64 e1.T), .val (.int .i64 e1.D), .val (.int .i64 e1.J), .val (.int .i64 e1.O), .val (.int .i64 e1.P)]) (vs := [(24, .agg #[.string e1.Name, .int .i64 e1.C, .int .i64 e1.T, .int .i64 e1.D, .int .i64 e1.J, .int .i64 e1.O, .int .i64 e1.P])]) (l := [.loaded ⟨blkOf A0, offOf A0 + i1 * 7, none⟩ (.string e1.Name), .loaded ⟨blkOf A0, offOf A0 + i1 * 7 + 1, none⟩ (.int .i64 e1.C), .loaded ⟨blkOf A0, offOf A0 + i1 * 7 + 2, none⟩ (.int .i64 e1.T), .loaded ⟨blkOf A0, offOf A0 + i1 * 7 + 3, none⟩ (.int .i64 e1.D), .loaded ⟨blkOf A0, offOf A0 + i1 * 7 + 4, none⟩ (.int .i64 e1.J), .loaded ⟨blkOf A0, offOf A0 + i1 * 7 + 5, none⟩ (.int .i64 e1.O), .loaded ⟨blkOf A0, offOf A0 + i1 * 7 + 6, none⟩ (.int .i64 e1.P)]) (by kernel_rfl) ⟨RdL.cell (j := 0) (hS.rd hR0) hx2 rfl, RdL.cell (j := 1) (hS.rd hR0) hx2 rfl, RdL.cell (j := 2) (hS.rd hR0) hx2 rfl, RdL.cell (j := 3) (hS.rd hR0) hx2 rfl, RdL.cell (j := 4) (hS.rd hR0) hx2 rfl, RdL.cell (j := 5) (hS.rd hR0) hx2 rfl, RdL.cell (j := 6) (hS.rd hR0) hx2 rfl, trivial⟩ ?_
    refine ge_new (d := some 4) (o := .cells #[.string (⟨#[]⟩), .int .i64 0, .int .i64 0, .int .i64 0, .int .i64 0, .int .i64 0, .int .i64 0] 46) (v := fun b => .pointer (some ⟨b, 0, none⟩)) hS (fun b => by kernel_rfl) fun b2 w5 hx3 hS9 => ?_
    refine ge_batch [4] (ans := []) (vs := [(3, .int .i64 (i1 : Int))]) (l := []) (by kernel_rfl) trivial ?_
    refine ge_set (b := b2) (j := 0) (cs := #[.string (⟨#[]⟩), .int .i64 0, .int .i64 0, .int .i64 0, .int .i64 0, .int .i64 0, .int .i64 0]) (t := 46) (vs := [.string e1.Name, .int .i64 e1.C, .int .i64 e1.T, .int .i64 e1.D, .int .i64 e1.J, .int .i64 e1.O, .int .i64 e1.P]) hS9 (by kernel_rfl) rfl rfl fun w6 hS10 => ?_
    have hS11 : St w0 w6 [Own.blk b2 (.cells #[.string e1.Name, .int .i64 e1.C, .int .i64 e1.T, .int .i64 e1.D, .int .i64 e1.J, .int .i64 e1.O, .int .i64 e1.P] 46 (0, 0)), Own.blk b1 (.cells #[.int .i64 0, .int .i64 0] 29 (0, 0))] := hS10
    refine ge_nil fun a hF => hK11 _ _ ?_ a hF
    refine we_seq fun K12 hK12 => ?_
    refine we_seq fun K13 hK13 => ?_
    refine we_region [(0, 0), (1, 0), (2, 1), (3, 0)] rfl ?_
    rcases hq2 : tasks_isName.f K e1.Name with _ | r1
    · rw [hq2] at h; cases h
    rw [hq2] at h
    simp only [] at h
    refine ge_batch [0, 1] (ans := [.val (.string e1.Name)]) (vs := [(26, .string e1.Name), (25, .pointer (some ⟨b2, 0, none⟩))]) (l := [.loaded ⟨b2, 0, none⟩ (.string e1.Name)]) (by kernel_rfl) ⟨hS11.cell 0 rfl rfl, trivial⟩ ?_
    refine ge_call (d := some 27) (f := 53) (args := #[.string e1.Name]) (by kernel_rfl) (tasks_isName_ok K e1.Name _ _ hq2) ?_
    rintro _ w7 ⟨rfl, hS12⟩
    refine ⟨_, rfl, hS12.below, ?_⟩
    have hS13 := hS11.call hS12
    refine ge_batch [3] (ans := []) (vs := [(28, .bool (!r1))]) (l := []) (by kernel_rfl) trivial ?_
    refine ge_nil fun a hF => hK13 _ _ ?_ a hF
    by_cases hc4 : r1 = true
    · rw [if_pos hc4] at h
      refine we_known (t := 28) (b := !r1) (v := false) (by kernel_rfl) (congrArg (fun z => !z) hc4) ?_
      refine we_false (by kernel_rfl) ?_
      refine we_skip fun a hF => hK12 _ _ ?_ a hF
      refine we_seq fun K14 hK14 => ?_
      refine we_seq fun K15 hK15 => ?_
      refine we_region [(0, 0), (1, 0), (2, 0), (3, 0), (4, 1)] rfl ?_
      refine ge_batch [0, 1] (ans := []) (vs := [(32, .int .i64 (i1 : Int)), (31, .slice A0 l0.length c0)]) (l := []) (by kernel_rfl) trivial ?_
      by_cases hc5 : i1 ≤ l0.length
      · rw [if_pos hc5] at h
        refine ge_part (d := 33) (ty := 22) (t := 22) (el := 46) (sz := 7) (m := l0.length) (c := c0) (lo := 0) (hi := i1) (x := (.tmp 31)) (xl := none) (xh := some (.tmp 32)) (A := A0) (by kernel_rfl) (by kernel_rfl) rfl ⟨.i64, (i1 : Int), by kernel_rfl, rfl⟩ (by kernel_rfl) (by kernel_rfl) (by have f0 := hc5; have f1 := hL0; omega) (by have f0 := hc5; have f1 := hL0; omega) ?_
        refine ge_same (t := 33) (v := .slice (subA A0 c0 0 7) (i1 - 0) (c0 - 0)) (v' := .slice (subA A0 c0 0 7) (((l0.take i1).drop 0).length) (c0 - 0)) (by kernel_rfl) (by have f0 := hc5; have f1 := hL0; rw [show i1 - 0 = ((l0.take i1).drop 0).length by simp only [List.length_drop, List.length_take]; omega]) ?_
        rcases hq3 : slices_ContainsFunc_api_Task_api_Task.f K ((l0.take i1).drop 0) e1 with _ | r2
        · rw [hq3] at h; cases h
        rw [hq3] at h
        simp only [] at h
        refine ge_batch [3] (ans := []) (vs := [(34, .func (.func 55) #[] #[.pointer (some ⟨b2, 0, none⟩)])]) (l := []) (by kernel_rfl) trivial ?_
        refine ge_call (d := some 35) (f := 54) (args := #[.slice (subA A0 c0 0 7) (((l0.take i1).drop 0).length) (c0 - 0), .func (.func 55) #[] #[.pointer (some ⟨b2, 0, none⟩)]]) (by kernel_rfl) (slices_ContainsFunc_api_Task_api_Task_ok K ((l0.take i1).drop 0) (subA A0 c0 0 7) (c0 - 0) b2 e1 _ (hS13.rd (RdL.part hR0 hL0 0 i1)) (by have f0 := hc5; have f1 := hL0; simp only [List.length_drop, List.length_take]; omega) (hS13.globOf 0 rfl) _ hq3) ?_
        rintro _ w8 ⟨rfl, hS14⟩
        refine ⟨_, rfl, hS14.below, ?_⟩
        have hS15 := hS13.call hS14
        refine ge_nil fun a hF => hK15 _ _ ?_ a hF
        by_cases hc6 : r2 = true
        · rw [if_pos hc6] at h
          refine we_known (t := 35) (b := r2) (v := true) (by kernel_rfl) hc6 ?_
          refine we_true (by kernel_rfl) ?_
          refine we_seq fun K16 hK16 => ?_
          refine we_region [(0, 0), (1, 0), (2, 2)] rfl ?_
          refine ge_batch [0, 1] (ans := []) (vs := [(37, .agg #[.int .i64 5, .int .i64 (i1 : Int)]), (36, .int .i64 (i1 : Int))]) (l := []) (by kernel_rfl) trivial ?_
          have hS16 := hS15.bring 1 rfl
          refine ge_set (b := b1) (j := 0) (cs := #[.int .i64 0, .int .i64 0]) (t := 29) (vs := [.int .i64 5, .int .i64 (i1 : Int)]) hS16 (by kernel_rfl) rfl rfl fun w9 hS17 => ?_
          have hS18 : St w0 w9 [Own.blk b1 (.cells #[.int .i64 5, .int .i64 (i1 : Int)] 29 (0, 0)), Own.blk b2 (.cells #[.string e1.Name, .int .i64 e1.C, .int .i64 e1.T, .int .i64 e1.D, .int .i64 e1.J, .int .i64 e1.O, .int .i64 e1.P] 46 (0, 0))] := hS17
          refine ge_nil fun a hF => hK16 _ _ ?_ a hF
          have hS19 := hS18.takeN 0
          obtain rfl := Option.some.inj h
          exact we_ret fun a hF => hQ _ _ _ (Outs.out nofun (Exits.on ⟨rfl, (post_ret (rs := [.cell 2 29]) (ans := [.val (.int .i64 5), .val (.int .i64 (i1 : Int))]) (vs := [.agg #[.int .i64 5, .int .i64 (i1 : Int)]]) (l := [.loaded ⟨b1, 0, none⟩ (.int .i64 5), .loaded ⟨b1, 1, none⟩ (.int .i64 (i1 : Int))]) rfl (by kernel_rfl) ⟨hS18.cell 0 rfl rfl, hS18.cell 0 rfl rfl, trivial⟩ ⟨rfl, hS19⟩) a hF⟩))
        · rw [if_neg hc6] at h
          refine we_known (t := 35) (b := r2) (v := false) (by kernel_rfl) (Bool.eq_false_iff.2 hc6) ?_
          refine we_false (by kernel_rfl) ?_
          refine we_skip fun a hF => hK14 _ _ ?_ a hF
          refine we_seq fun K17 hK17 => ?_
          refine we_seq fun K18 hK18 => ?_
          refine we_region [(0, 0), (1, 1), (2, 0), (3, 0)] rfl ?_
          refine ge_batch [0] (ans := [.val (.string e1.Name), .val (.int .i64 e1.C), .val (.int .i64 e1.T), .val (.int .i64 e1.D), .val (.int .i64 e1.J), .val (.int .i64 e1.O), .val (.int .i64 e1.P)]) (vs := [(38, .agg #[.string e1.Name, .int .i64 e1.C, .int .i64 e1.T, .int .i64 e1.D, .int .i64 e1.J, .int .i64 e1.O, .int .i64 e1.P])]) (l := [.loaded ⟨b2, 0, none⟩ (.string e1.Name), .loaded ⟨b2, 1, none⟩ (.int .i64 e1.C), .loaded ⟨b2, 2, none⟩ (.int .i64 e1.T), .loaded ⟨b2, 3, none⟩ (.int .i64 e1.D), .loaded ⟨b2, 4, none⟩ (.int .i64 e1.J), .loaded ⟨b2, 5, none⟩ (.int .i64 e1.O), .loaded ⟨b2, 6, none⟩ (.int .i64 e1.P)]) (by kernel_rfl) ⟨hS15.cell 0 rfl rfl, hS15.cell 0 rfl rfl, hS15.cell 0 rfl rfl, hS15.cell 0 rfl rfl, hS15.cell 0 rfl rfl, hS15.cell 0 rfl rfl, hS15.cell 0 rfl rfl, trivial⟩ ?_
          refine ge_call (d := some 39) (f := 56) (args := #[.agg #[.string e1.Name, .int .i64 e1.C, .int .i64 e1.T, .int .i64 e1.D, .int .i64 e1.J, .int .i64 e1.O, .int .i64 e1.P]]) (by kernel_rfl) (tasks_numbers_ok e1 _ _ rfl) ?_
          rintro _ w10 ⟨v1, rfl, hS20⟩
          refine ⟨_, rfl, hS20.below, ?_⟩
          have hS21 := hS15.call hS20
          obtain ⟨Z1, cz1, rfl⟩ := hS21.open 0 rfl
          refine ge_batch [2, 3] (ans := []) (vs := [(41, .int .i64 0), (40, .int .i64 ((tasks_numbers.f e1).length : Int))]) (l := []) (by kernel_rfl) trivial ?_
          refine ge_nil fun a hF => hK18 _ _ ?_ a hF
          refine we_block ?_
          have hS22 := hS21.bring 2 rfl
          have hS23 := hS22.bring 2 rfl
          rcases hq6 : iter (tasks_Check.r2 i1 e1) K 0 with _ | (_ | rr1)
          · rw [hq6] at h; cases h
          · rw [hq6] at h
            simp only [] at h
            refine we_iter (A := tasks_Check.A2 K w0 l0 A0 c0 hR0 hL0 b1 i1 hc3 e1 hx2 b2 r1 hc4 hc5 r2 hc6 Z1 cz1) (B := tasks_Check.B2 K w0 l0 A0 c0 hR0 hL0 b1 i1 hc3 e1 hx2 b2 r1 hc4 hc5 r2 hc6 Z1 cz1) hq6 (fun a hF => ⟨hS23, hF.weaken ⟨by kernel_rfl, by kernel_rfl, by kernel_rfl, by kernel_rfl, by kernel_rfl, by kernel_rfl, by kernel_rfl, by kernel_rfl, by kernel_rfl, by kernel_rfl, trivial⟩⟩) (fun s o hf a w hA Q hQ => tasks_Check_r2 K w0 l0 A0 c0 hR0 hL0 b1 i1 hc3 e1 hx2 b2 r1 hc4 hc5 r2 hc6 Z1 cz1 s o hf a w hA Q hQ) ?_
            rintro _ a w14 _ ⟨rfl, hS40, hF⟩
            replace hS40 : St w0 w14 [Own.blk b2 (.cells #[.string e1.Name, .int .i64 e1.C, .int .i64 e1.T, .int .i64 e1.D, .int .i64 e1.J, .int .i64 e1.O, .int .i64 e1.P] 46 (0, 0)), Own.blk b1 (.cells #[.int .i64 0, .int .i64 0] 29 (0, 0))] := hS40
            refine hK17 [(0, .slice A0 l0.length c0), (2, .pointer (some ⟨b1, 0, none⟩)), (3, .int .i64 (i1 : Int)), (4, .pointer (some ⟨b2, 0, none⟩)), (18, .slice A0 l0.length c0), (19, .int .i64 (l0.length : Int)), (20, .int .i64 (i1 : Int))] w14 ?_ a hF
            refine we_seq fun K27 hK27 => ?_
            refine we_region [(0, 0), (1, 0), (2, 0), (3, 0), (4, 0)] rfl ?_
            refine ge_batch [0, 1, 2, 3, 4] (ans := [.val (.int .i64 e1.C), .val (.int .i64 e1.D)]) (vs := [(66, .bool (decide (e1.C > e1.D))), (65, .int .i64 e1.D), (64, .pointer (some ⟨b2, 3, none⟩)), (63, .int .i64 e1.C), (62, .pointer (some ⟨b2, 1, none⟩))]) (l := [.loaded ⟨b2, 1, none⟩ (.int .i64 e1.C), .loaded ⟨b2, 3, none⟩ (.int .i64 e1.D)]) (by kernel_rfl) ⟨hS40.cell 0 rfl rfl, hS40.cell 0 rfl rfl, trivial⟩ ?_
            refine ge_nil fun a hF => hK27 _ _ ?_ a hF
            by_cases hc10 : e1.C > e1.D
            · rw [if_pos hc10] at h
              refine we_known (t := 66) (b := decide (e1.C > e1.D)) (v := true) (by kernel_rfl) (decide_eq_true hc10) ?_
              refine we_true (by kernel_rfl) ?_
              refine we_seq fun K28 hK28 => ?_
              refine we_region [(0, 0), (1, 0), (2, 2)] rfl ?_
              refine ge_batch [0, 1] (ans := []) (vs := [(68, .agg #[.int .i64 12, .int .i64 (i1 : Int)]), (67, .int .i64 (i1 : Int))]) (l := []) (by kernel_rfl) trivial ?_
              have hS41 := hS40.bring 1 rfl
              refine ge_set (b := b1) (j := 0) (cs := #[.int .i64 0, .int .i64 0]) (t := 29) (vs := [.int .i64 12, .int .i64 (i1 : Int)]) hS41 (by kernel_rfl) rfl rfl fun w15 hS42 => ?_
              have hS43 : St w0 w15 [Own.blk b1 (.cells #[.int .i64 12, .int .i64 (i1 : Int)] 29 (0, 0)), Own.blk b2 (.cells #[.string e1.Name, .int .i64 e1.C, .int .i64 e1.T, .int .i64 e1.D, .int .i64 e1.J, .int .i64 e1.O, .int .i64 e1.P] 46 (0, 0))] := hS42
              refine ge_nil fun a hF => hK28 _ _ ?_ a hF
              have hS44 := hS43.takeN 0
              obtain rfl := Option.some.inj h
              exact we_ret fun a hF => hQ _ _ _ (Outs.out nofun (Exits.on ⟨rfl, (post_ret (rs := [.cell 2 29]) (ans := [.val (.int .i64 12), .val (.int .i64 (i1 : Int))]) (vs := [.agg #[.int .i64 12, .int .i64 (i1 : Int)]]) (l := [.loaded ⟨b1, 0, none⟩ (.int .i64 12), .loaded ⟨b1, 1, none⟩ (.int .i64 (i1 : Int))]) rfl (by kernel_rfl) ⟨hS43.cell 0 rfl rfl, hS43.cell 0 rfl rfl, trivial⟩ ⟨rfl, hS44⟩) a hF⟩))
            · rw [if_neg hc10] at h
              refine we_known (t := 66) (b := decide (e1.C > e1.D)) (v := false) (by kernel_rfl) (decide_eq_false hc10) ?_
              refine we_false (by kernel_rfl) ?_
              refine we_skip fun a hF => hK10 _ _ ?_ a hF
              refine we_region [(0, 0), (1, 0)] rfl ?_
              refine ge_addn (d := 69) (ty := 3) (x := (.tmp 20)) (y := (.const (.int .i64 1))) (t := 3) (t2 := 3) (k := .i64) (m := i1) (by kernel_rfl) (by kernel_rfl) (by kernel_rfl) (by have h0 := hR0.small; omega) ?_
              refine ge_batch [1] (ans := []) (vs := [(20, .int .i64 ((i1 + 1 : Nat) : Int))]) (l := []) (by kernel_rfl) trivial ?_
              have hS45 := hS40.bring 1 rfl
              have hS46 := hS45.takeN 1
              obtain rfl := Option.some.inj h
              exact ge_nil fun a hF => hQ _ _ _ (Outs.again ⟨hS46, hF.weaken ⟨by kernel_rfl, by kernel_rfl, by kernel_rfl, by kernel_rfl, by kernel_rfl, trivial⟩⟩)
          · rw [hq6] at h
            simp only [] at h
            refine we_iter (A := tasks_Check.A2 K w0 l0 A0 c0 hR0 hL0 b1 i1 hc3 e1 hx2 b2 r1 hc4 hc5 r2 hc6 Z1 cz1) (B := tasks_Check.B2 K w0 l0 A0 c0 hR0 hL0 b1 i1 hc3 e1 hx2 b2 r1 hc4 hc5 r2 hc6 Z1 cz1) hq6 (fun a hF => ⟨hS23, hF.weaken ⟨by kernel_rfl, by kernel_rfl, by kernel_rfl, by kernel_rfl, by kernel_rfl, by kernel_rfl, by kernel_rfl, by kernel_rfl, by kernel_rfl, by kernel_rfl, trivial⟩⟩) (fun s o hf a w hA Q hQ => tasks_Check_r2 K w0 l0 A0 c0 hR0 hL0 b1 i1 hc3 e1 hx2 b2 r1 hc4 hc5 r2 hc6 Z1 cz1 s o hf a w hA Q hQ) ?_
            rintro _ a w1 _ ⟨rfl, hb⟩
            obtain rfl := Option.some.inj h
            exact hQ _ _ _ (Outs.out nofun (Exits.on ⟨rfl, hb⟩))
      · rw [if_neg hc5] at h
        cases h
    · rw [if_neg hc4] at h
      refine we_known (t := 28) (b := !r1) (v := true) (by kernel_rfl) (congrArg (fun z => !z) (Bool.eq_false_iff.2 hc4)) ?_
      refine we_true (by kernel_rfl) ?_
      refine we_seq fun K29 hK29 => ?_
      refine we_region [(0, 0), (1, 0), (2, 2)] rfl ?_
      refine ge_batch [0, 1] (ans := []) (vs := [(30, .agg #[.int .i64 4, .int .i64 (i1 : Int)]), (29, .int .i64 (i1 : Int))]) (l := []) (by kernel_rfl) trivial ?_
      have hS47 := hS13.bring 1 rfl
      refine ge_set (b := b1) (j := 0) (cs := #[.int .i64 0, .int .i64 0]) (t := 29) (vs := [.int .i64 4, .int .i64 (i1 : Int)]) hS47 (by kernel_rfl) rfl rfl fun w16 hS48 => ?_
      have hS49 : St w0 w16 [Own.blk b1 (.cells #[.int .i64 4, .int .i64 (i1 : Int)] 29 (0, 0)), Own.blk b2 (.cells #[.string e1.Name, .int .i64 e1.C, .int .i64 e1.T, .int .i64 e1.D, .int .i64 e1.J, .int .i64 e1.O, .int .i64 e1.P] 46 (0, 0))] := hS48
      refine ge_nil fun a hF => hK29 _ _ ?_ a hF
      have hS50 := hS49.takeN 0
      obtain rfl := Option.some.inj h
      exact we_ret fun a hF => hQ _ _ _ (Outs.out nofun (Exits.on ⟨rfl, (post_ret (rs := [.cell 2 29]) (ans := [.val (.int .i64 4), .val (.int .i64 (i1 : Int))]) (vs := [.agg #[.int .i64 4, .int .i64 (i1 : Int)]]) (l := [.loaded ⟨b1, 0, none⟩ (.int .i64 4), .loaded ⟨b1, 1, none⟩ (.int .i64 (i1 : Int))]) rfl (by kernel_rfl) ⟨hS49.cell 0 rfl rfl, hS49.cell 0 rfl rfl, trivial⟩ ⟨rfl, hS50⟩) a hF⟩))
  · rw [if_neg hc3] at h
    refine we_known (t := 21) (b := decide ((i1 : Int) < (l0.length : Int))) (v := false) (by kernel_rfl) (decide_eq_false hc3) ?_
    refine we_false (by kernel_rfl) ?_
    obtain rfl := Option.some.inj h
    exact we_exit fun a hF => hQ _ _ _ (Outs.out nofun (Exits.here ⟨hS, hF.weaken ⟨by kernel_rfl, trivial⟩⟩))
theorem tasks_Check_ok (K : Nat) (l0 : List STask) (A0 : Option Addr) (c0 : Nat) (w0 : World) (hR0 : RdL w0 A0 l0) (hL0 : l0.length ≤ c0) (r : SFault) (h : tasks_Check.f K l0 = some r) :
    Calls Try.prog 35 #[.slice A0 l0.length c0] w0 (tasks_Check.Post w0 r) := by
  have hS := St.start w0
  unfold tasks_Check.f at h
  refine calls_enter (n := 71) (args := [.slice A0 l0.length c0]) (fn := Try.f35) rfl rfl rfl rfl ?_
  show WE _ _ _ _ [(0, .slice A0 l0.length c0)] _
  refine we_seq fun K1 hK1 => ?_
  refine we_region [(0, 1)] rfl ?_
  refine ge_new (d := some 2) (o := .cells #[.int .i64 0, .int .i64 0] 29) (v := fun b => .pointer (some ⟨b, 0, none⟩)) hS (fun b => by kernel_rfl) fun b1 w1 hx1 hS1 => ?_
  refine ge_nil fun a hF => hK1 _ _ ?_ a hF
  refine we_seq fun K2 hK2 => ?_
  rcases hq1 : tasks_Check.p0 l0 with _ | (_ | rr3)
  · rw [hq1] at h; cases h
  · rw [hq1] at h
    simp only [] at h
    refine we_keep (e' := [(0, .slice A0 l0.length c0), (2, .pointer (some ⟨b1, 0, none⟩))]) ⟨by kernel_rfl, by kernel_rfl, trivial⟩ (tasks_Check_p0 K w0 l0 A0 c0 hR0 hL0 b1 _ hq1 _ hS1 _ ?_)
    rintro _ a w4 ⟨rfl, hS8, hF⟩
    replace hS8 : St w0 w4 [Own.blk b1 (.cells #[.int .i64 0, .int .i64 0] 29 (0, 0))] := hS8
    refine hK2 [(0, .slice A0 l0.length c0), (2, .pointer (some ⟨b1, 0, none⟩))] w4 ?_ a hF
    refine we_seq fun K6 hK6 => ?_
    refine we_seq fun K7 hK7 => ?_
    refine we_region [(0, 0), (1, 0), (2, 0)] rfl ?_
    refine ge_batch [0, 1, 2] (ans := []) (vs := [(20, .int .i64 0), (19, .int .i64 (l0.length : Int)), (18, .slice A0 l0.length c0)]) (l := []) (by kernel_rfl) trivial ?_
    refine ge_nil fun a hF => hK7 _ _ ?_ a hF
    refine we_block ?_
    rcases hq7 : iter (tasks_Check.r1 K l0) K 0 with _ | (_ | rr2)
    · rw [hq7] at h; cases h
    · rw [hq7] at h
      simp only [] at h
      refine we_iter (A := tasks_Check.A1 K w0 l0 A0 c0 hR0 hL0 b1) (B := tasks_Check.B1 K w0 l0 A0 c0 hR0 hL0 b1) hq7 (fun a hF => ⟨hS8, hF.weaken ⟨by kernel_rfl, by kernel_rfl, by kernel_rfl, by kernel_rfl, by kernel_rfl, trivial⟩⟩) (fun s o hf a w hA Q hQ => tasks_Check_r1 K w0 l0 A0 c0 hR0 hL0 b1 s o hf a w hA Q hQ) ?_
      rintro _ a w17 _ ⟨rfl, hS51, hF⟩
      replace hS51 : St w0 w17 [Own.blk b1 (.cells #[.int .i64 0, .int .i64 0] 29 (0, 0))] := hS51
      refine hK6 [(2, .pointer (some ⟨b1, 0, none⟩))] w17 ?_ a hF
      refine we_seq fun K30 hK30 => ?_
      refine we_region [(0, 0), (1, 2)] rfl ?_
      refine ge_batch [0] (ans := []) (vs := [(70, .agg #[.int .i64 0, .int .i64 0])]) (l := []) (by kernel_rfl) trivial ?_
      refine ge_set (b := b1) (j := 0) (cs := #[.int .i64 0, .int .i64 0]) (t := 29) (vs := [.int .i64 0, .int .i64 0]) hS51 (by kernel_rfl) rfl rfl fun w18 hS52 => ?_
      have hS53 : St w0 w18 [Own.blk b1 (.cells #[.int .i64 0, .int .i64 0] 29 (0, 0))] := hS52
      refine ge_nil fun a hF => hK30 _ _ ?_ a hF
      have hS54 := hS53.takeN 0
      obtain rfl := Option.some.inj h
      exact we_ret (post_ret (rs := [.cell 2 29]) (ans := [.val (.int .i64 0), .val (.int .i64 0)]) (vs := [.agg #[.int .i64 0, .int .i64 0]]) (l := [.loaded ⟨b1, 0, none⟩ (.int .i64 0), .loaded ⟨b1, 1, none⟩ (.int .i64 0)]) rfl (by kernel_rfl) ⟨hS53.cell 0 rfl rfl, hS53.cell 0 rfl rfl, trivial⟩ ⟨rfl, hS54⟩)
    · rw [hq7] at h
      simp only [] at h
      refine we_iter (A := tasks_Check.A1 K w0 l0 A0 c0 hR0 hL0 b1) (B := tasks_Check.B1 K w0 l0 A0 c0 hR0 hL0 b1) hq7 (fun a hF => ⟨hS8, hF.weaken ⟨by kernel_rfl, by kernel_rfl, by kernel_rfl, by kernel_rfl, by kernel_rfl, trivial⟩⟩) (fun s o hf a w hA Q hQ => tasks_Check_r1 K w0 l0 A0 c0 hR0 hL0 b1 s o hf a w hA Q hQ) ?_
      rintro _ a w1 _ ⟨rfl, hb⟩
      obtain rfl := Option.some.inj h
      exact hb
  · rw [hq1] at h
    simp only [] at h
    refine we_keep (e' := [(0, .slice A0 l0.length c0), (2, .pointer (some ⟨b1, 0, none⟩))]) ⟨by kernel_rfl, by kernel_rfl, trivial⟩ (tasks_Check_p0 K w0 l0 A0 c0 hR0 hL0 b1 _ hq1 _ hS1 _ ?_)
    rintro _ a w1 ⟨_, rfl, hb⟩
    obtain rfl := Option.some.inj h
    exact hb

/-! punctual/fixed.check -/
abbrev fixed_check.Post (w0 : World) (r : SFault) (e : Ending) (w : World) : Prop := e = .returned (.agg #[.int .i64 r.Code, .int .i64 r.At]) ∧ St w0 w []
def fixed_check.r0 (l0 : List STask) : Nat → Option (Nat ⊕ (Unit ⊕ SFault))
  | i1 =>
    if (i1 : Int) < (l0.length : Int) then
      match l0[i1]? with
      | none => none
      | some e1 =>
        if e1.D > e1.T then
          some (.inr (.inr (⟨12, (i1 : Int)⟩ : SFault)))
        else
          some (.inl (i1 + 1))
    else
      some (.inr (.inl ()))
def fixed_check.f (K : Nat) (l0 : List STask) : Option SFault :=
  match tasks_Check.f K l0 with
  | none => none
  | some r1 =>
    if r1.Code = 0 then
      match iter (fixed_check.r0 l0) K 0 with
      | none => none
      | some (.inl _) =>
        some (⟨0, 0⟩ : SFault)
      | some (.inr rr1) =>
        some rr1
    else
      some r1
abbrev fixed_check.A0 (K : Nat) (w0 : World) (l0 : List STask) (A0 : Option Addr) (c0 : Nat) (hR0 : RdL w0 A0 l0) (hL0 : l0.length ≤ c0) (b1 : Nat) (r1 : SFault) (b2 : Nat) (hc1 : r1.Code = 0) : Nat → Act → World → Prop := fun (s : Nat) a w => St w0 w [Own.blk b1 (.cells #[.int .i64 0, .int .i64 0] 29 (0, 0))] ∧ Frm 28 a [(2, .pointer (some ⟨b1, 0, none⟩)), (12, .slice A0 l0.length c0), (13, .int .i64 (l0.length : Int)), (14, .int .i64 (s : Int))]
abbrev fixed_check.B0 (K : Nat) (w0 : World) (l0 : List STask) (A0 : Option Addr) (c0 : Nat) (hR0 : RdL w0 A0 l0) (hL0 : l0.length ≤ c0) (b1 : Nat) (r1 : SFault) (b2 : Nat) (hc1 : r1.Code = 0) : (Unit ⊕ SFault) → Exit → Act → World → Prop := Exits 0 (fun (s : Unit) a w => St w0 w [Own.blk b1 (.cells #[.int .i64 0, .int .i64 0] 29 (0, 0))] ∧ Frm 28 a [(2, .pointer (some ⟨b1, 0, none⟩))]) (Rets Try.prog Try.f26 (fixed_check.Post w0))
theorem fixed_check_r0 (K : Nat) (w0 : World) (l0 : List STask) (A0 : Option Addr) (c0 : Nat) (hR0 : RdL w0 A0 l0) (hL0 : l0.length ≤ c0) (b1 : Nat) (r1 : SFault) (b2 : Nat) (hc1 : r1.Code = 0) (s : Nat) (o : Nat ⊕ (Unit ⊕ SFault)) (h : fixed_check.r0 l0 s = some o) (a : Act) (w : World) (hA : fixed_check.A0 K w0 l0 A0 c0 hR0 hL0 b1 r1 b2 hc1 s a w) (Q : Exit → Act → World → Prop) (hQ : ∀ x a w, Outs (fixed_check.A0 K w0 l0 A0 c0 hR0 hL0 b1 r1 b2 hc1) (fixed_check.B0 K w0 l0 A0 c0 hR0 hL0 b1 r1 b2 hc1) o x a w → Q x a w) : (subF Try.f26 [1, 1, 0, 1, 0, 0]).wp Try.prog Q a w := by
  obtain ⟨i1, hs⟩ : ∃ z, z = s := ⟨s, rfl⟩
  subst hs
  obtain ⟨hS, hF⟩ := hA
  replace hS : St w0 w [Own.blk b1 (.cells #[.int .i64 0, .int .i64 0] 29 (0, 0))] := hS
  simp only [fixed_check.r0] at h
  refine (?_ : WE Try.prog 28 (subF Try.f26 [1, 1, 0, 1, 0, 0]) Q [(2, .pointer (some ⟨b1, 0, none⟩)), (12, .slice A0 l0.length c0), (13, .int .i64 (l0.length : Int)), (14, .int .i64 (i1 : Int))] w) a hF
  clear hF a
  refine we_seq fun K7 hK7 => ?_
  refine we_region [(0, 0)] rfl ?_
  refine ge_batch [0] (ans := []) (vs := [(15, .bool (decide ((i1 : Int) < (l0.length : Int))))]) (l := []) (by kernel_rfl) trivial ?_
  refine ge_nil fun a hF => hK7 _ _ ?_ a hF
  refine we_seq fun K8 hK8 => ?_
  by_cases hc2 : (i1 : Int) < (l0.length : Int)
  · rw [if_pos hc2] at h
    refine we_known (t := 15) (b := decide ((i1 : Int) < (l0.length : Int))) (v := true) (by kernel_rfl) (decide_eq_true hc2) ?_
    refine we_true (by kernel_rfl) ?_
    refine we_skip fun a hF => hK8 _ _ ?_ a hF
    refine we_seq fun K9 hK9 => ?_
    refine we_block ?_
    refine we_seq fun K10 hK10 => ?_
    refine we_region [(0, 0), (1, 0), (2, 0), (3, 1), (4, 0), (5, 2)] rfl ?_
    refine ge_batch [0] (ans := []) (vs := [(16, .int .i64 (i1 : Int))]) (l := []) (by kernel_rfl) trivial ?_
    rcases hx3 : l0[i1]? with _ | e1
    · rw [hx3] at h; cases h
    rw [hx3] at h
    simp only [] at h
    refine ge_index (d := 17) (ty := 0) (t := 22) (el := 46) (sz := 7) (m := l0.length) (c := c0) (x := (.tmp 12)) (y := (.tmp 14)) (A := A0) (k' := .i64) (j := (i1 : Int)) (jn := i1) (b0 := blkOf A0) (o0 := offOf A0) (by kernel_rfl) (by kernel_rfl) (by kernel_rfl) (by kernel_rfl) (by kernel_rfl) ((hS.rd hR0).eqSome (pos_of_get hx3)) rfl (lt_of_get hx3) ?_
    refine ge_batch [2] (ans := [.val (.string e1.Name), .val (.int .i64 e1.C), .val (.int .i64 e1.T), .val (.int .i64 e1.D), .val (.int .i64 e1.J), .val (.int .i64 e1.O), .val (.int .i64 e1.P)]) (vs := [(18, .agg #[.string e1.Name, .int .i64 e1.C, .int .i64 e1.T, .int .i64 e1.D, .int .i64 e1.J, .int .i64 e1.O, .int .i64 e1.P])]) (l := [.loaded ⟨blkOf A0, offOf A0 + i1 * 7, none⟩ (.string e1.Name), .loaded ⟨blkOf A0, offOf A0 + i1 * 7 + 1, none⟩ (.int .i64 e1.C), .loaded ⟨blkOf A0, offOf A0 + i1 * 7 + 2, none⟩ (.int .i64 e1.T), .loaded ⟨blkOf A0, offOf A0 + i1 * 7 + 3, none⟩ (.int .i64 e1.D), .loaded ⟨blkOf A0, offOf A0 + i1 * 7 + 4, none⟩ (.int .i64 e1.J), .loaded ⟨blkOf A0, offOf A0 + i1 * 7 + 5, none⟩ (.int .i64 e1.O), .loaded ⟨blkOf A0, offOf A0 + i1 * 7 + 6, none⟩ (.int .i64 e1.P)]) (by kernel_rfl) ⟨RdL.cell (j := 0) (hS.rd hR0) hx3 rfl, RdL.cell (j := 1) (hS.rd hR0) hx3 rfl, RdL.cell (j := 2) (hS.rd hR0) hx3 rfl, RdL.cell (j := 3) (hS.rd hR0) hx3 rfl, RdL.cell (j := 4) (hS.rd hR0) hx3 rfl, RdL.cell (j := 5) (hS.rd hR0) hx3 rfl, RdL.cell (j := 6) (hS.rd hR0) hx3 rfl, trivial⟩ ?_
    refine ge_new (d := some 5) (o := .cells #[.string (⟨#[]⟩), .int .i64 0, .int .i64 0, .int .i64 0, .int .i64 0, .int .i64 0, .int .i64 0] 46) (v := fun b => .pointer (some ⟨b, 0, none⟩)) hS (fun b => by kernel_rfl) fun b3 w5 hx4 hS9 => ?_
    refine ge_batch [4] (ans := []) (vs := [(4, .int .i64 (i1 : Int))]) (l := []) (by kernel_rfl) trivial ?_
    refine ge_set (b := b3) (j := 0) (cs := #[.string (⟨#[]⟩), .int .i64 0, .int .i64 0, .int .i64 0, .int .i64 0, .int .i64 0, .int .i64 0]) (t := 46) (vs := [.string e1.Name, .int .i64 e1.C, .int .i64 e1.T, .int .i64 e1.D, .int .i64 e1.J, .int .i64 e1.O, .int .i64 e1.P]) hS9 (by kernel_rfl) rfl rfl fun w6 hS10 => ?_
    have hS11 : St w0 w6 [Own.blk b3 (.cells #[.string e1.Name, .int .i64 e1.C, .int .i64 e1.T, .int .i64 e1.D, .int .i64 e1.J, .int .i64 e1.O, .int .i64 e1.P] 46 (0, 0)), Own.blk b1 (.cells #[.int .i64 0, .int .i64 0] 29 (0, 0))] := hS10
    refine ge_nil fun a hF => hK10 _ _ ?_ a hF
    refine we_seq fun K11 hK11 => ?_
    refine we_region [(0, 0), (1, 0), (2, 0), (3, 0), (4, 0)] rfl ?_
    refine ge_batch [0, 1, 2, 3, 4] (ans := [.val (.int .i64 e1.D), .val (.int .i64 e1.T)]) (vs := [(23, .bool (decide (e1.D > e1.T))), (22, .int .i64 e1.T), (21, .pointer (some ⟨b3, 2, none⟩)), (20, .int .i64 e1.D), (19, .pointer (some ⟨b3, 3, none⟩))]) (l := [.loaded ⟨b3, 3, none⟩ (.int .i64 e1.D), .loaded ⟨b3, 2, none⟩ (.int .i64 e1.T)]) (by kernel_rfl) ⟨hS11.cell 0 rfl rfl, hS11.cell 0 rfl rfl, trivial⟩ ?_
    refine ge_nil fun a hF => hK11 _ _ ?_ a hF
    by_cases hc3 : e1.D > e1.T
    · rw [if_pos hc3] at h
      refine we_known (t := 23) (b := decide (e1.D > e1.T)) (v := true) (by kernel_rfl) (decide_eq_true hc3) ?_
      refine we_true (by kernel_rfl) ?_
      refine we_seq fun K12 hK12 => ?_
      refine we_region [(0, 0), (1, 0), (2, 2)] rfl ?_
      refine ge_batch [0, 1] (ans := []) (vs := [(25, .agg #[.int .i64 12, .int .i64 (i1 : Int)]), (24, .int .i64 (i1 : Int))]) (l := []) (by kernel_rfl) trivial ?_
      have hS12 := hS11.bring 1 rfl
      refine ge_set (b := b1) (j := 0) (cs := #[.int .i64 0, .int .i64 0]) (t := 29) (vs := [.int .i64 12, .int .i64 (i1 : Int)]) hS12 (by kernel_rfl) rfl rfl fun w7 hS13 => ?_
      have hS14 : St w0 w7 [Own.blk b1 (.cells #[.int .i64 12, .int .i64 (i1 : Int)] 29 (0, 0)), Own.blk b3 (.cells #[.string e1.Name, .int .i64 e1.C, .int .i64 e1.T, .int .i64 e1.D, .int .i64 e1.J, .int .i64 e1.O, .int .i64 e1.P] 46 (0, 0))] := hS13
      refine ge_nil fun a hF => hK12 _ _ ?_ a hF
      have hS15 := hS14.takeN 0
      obtain rfl := Option.some.inj h
      exact we_ret fun a hF => hQ _ _ _ (Outs.out nofun (Exits.on ⟨rfl, (post_ret (rs := [.cell 2 29]) (ans := [.val (.int .i64 12), .val (.int .i64 (i1 : Int))]) (vs := [.agg #[.int .i64 12, .int .i64 (i1 : Int)]]) (l := [.loaded ⟨b1, 0, none⟩ (.int .i64 12), .loaded ⟨b1, 1, none⟩ (.int .i64 (i1 : Int))]) rfl (by kernel_rfl) ⟨hS14.cell 0 rfl rfl, hS14.cell 0 rfl rfl, trivial⟩ ⟨rfl, hS15⟩) a hF⟩))
    · rw [if_neg hc3] at h
      refine we_known (t := 23) (b := decide (e1.D > e1.T)) (v := false) (by kernel_rfl) (decide_eq_false hc3) ?_
      refine we_false (by kernel_rfl) ?_
      refine we_skip fun a hF => hK9 _ _ ?_ a hF
      refine we_region [(0, 0), (1, 0)] rfl ?_
      refine ge_addn (d := 26) (ty := 3) (x := (.tmp 14)) (y := (.const (.int .i64 1))) (t := 3) (t2 := 3) (k := .i64) (m := i1) (by kernel_rfl) (by kernel_rfl) (by kernel_rfl) (by have h0 := hR0.small; omega) ?_
      refine ge_batch [1] (ans := []) (vs := [(14, .int .i64 ((i1 + 1 : Nat) : Int))]) (l := []) (by kernel_rfl) trivial ?_
      have hS16 := hS11.bring 1 rfl
      have hS17 := hS16.takeN 1
      obtain rfl := Option.some.inj h
      exact ge_nil fun a hF => hQ _ _ _ (Outs.again ⟨hS17, hF.weaken ⟨by kernel_rfl, by kernel_rfl, by kernel_rfl, by kernel_rfl, trivial⟩⟩)
  · rw [if_neg hc2] at h
    refine we_known (t := 15) (b := decide ((i1 : Int) < (l0.length : Int))) (v := false) (by kernel_rfl) (decide_eq_false hc2) ?_
    refine we_false (by kernel_rfl) ?_
    obtain rfl := Option.some.inj h
    exact we_exit fun a hF => hQ _ _ _ (Outs.out nofun (Exits.here ⟨hS, hF.weaken ⟨by kernel_rfl, trivial⟩⟩))
theorem fixed_check_ok (K : Nat) (l0 : List STask) (A0 : Option Addr) (c0 : Nat) (w0 : World) (hR0 : RdL w0 A0 l0) (hL0 : l0.length ≤ c0) (r : SFault) (h : fixed_check.f K l0 = some r) :
    Calls Try.prog 26 #[.slice A0 l0.length c0] w0 (fixed_check.Post w0 r) := by
  have hS := St.start w0
  unfold fixed_check.f at h
  refine calls_enter (n := 28) (args := [.slice A0 l0.length c0]) (fn := Try.f26) rfl rfl rfl rfl ?_
  show WE _ _ _ _ [(0, .slice A0 l0.length c0)] _
  refine we_seq fun K1 hK1 => ?_
  refine we_region [(0, 1)] rfl ?_
  refine ge_new (d := some 2) (o := .cells #[.int .i64 0, .int .i64 0] 29) (v := fun b => .pointer (some ⟨b, 0, none⟩)) hS (fun b => by kernel_rfl) fun b1 w1 hx1 hS1 => ?_
  refine ge_nil fun a hF => hK1 _ _ ?_ a hF
  refine we_seq fun K2 hK2 => ?_
  refine we_seq fun K3 hK3 => ?_
  refine we_region [(0, 0), (1, 1), (2, 1), (3, 2)] rfl ?_
  rcases hq1 : tasks_Check.f K l0 with _ | r1
  · rw [hq1] at h; cases h
  rw [hq1] at h
  simp only [] at h
  refine ge_batch [0] (ans := []) (vs := [(6, .slice A0 l0.length c0)]) (l := []) (by kernel_rfl) trivial ?_
  refine ge_call (d := some 7) (f := 35) (args := #[.slice A0 l0.length c0]) (by kernel_rfl) (tasks_Check_ok K l0 A0 c0 _ (hS1.rd hR0) hL0 _ hq1) ?_
  rintro _ w2 ⟨rfl, hS2⟩
  refine ⟨_, rfl, hS2.below, ?_⟩
  have hS3 := hS1.call hS2
  refine ge_new (d := some 3) (o := .cells #[.int .i64 0, .int .i64 0] 29) (v := fun b => .pointer (some ⟨b, 0, none⟩)) hS3 (fun b => by kernel_rfl) fun b2 w3 hx2 hS4 => ?_
  refine ge_set (b := b2) (j := 0) (cs := #[.int .i64 0, .int .i64 0]) (t := 29) (vs := [.int .i64 r1.Code, .int .i64 r1.At]) hS4 (by kernel_rfl) rfl rfl fun w4 hS5 => ?_
  have hS6 : St w0 w4 [Own.blk b2 (.cells #[.int .i64 r1.Code, .int .i64 r1.At] 29 (0, 0)), Own.blk b1 (.cells #[.int .i64 0, .int .i64 0] 29 (0, 0))] := hS5
  refine ge_nil fun a hF => hK3 _ _ ?_ a hF
  refine we_seq fun K4 hK4 => ?_
  refine we_region [(0, 0), (1, 0), (2, 0)] rfl ?_
  refine ge_batch [0, 1, 2] (ans := [.val (.int .i64 r1.Code)]) (vs := [(10, .bool (r1.Code != 0)), (9, .int .i64 r1.Code), (8, .pointer (some ⟨b2, 0, none⟩))]) (l := [.loaded ⟨b2, 0, none⟩ (.int .i64 r1.Code)]) (by kernel_rfl) ⟨hS6.cell 0 rfl rfl, trivial⟩ ?_
  refine ge_nil fun a hF => hK4 _ _ ?_ a hF
  by_cases hc1 : r1.Code = 0
  · rw [if_pos hc1] at h
    refine we_known (t := 10) (b := (r1.Code != 0)) (v := false) (by kernel_rfl) (bne_eq_false_iff_eq.2 hc1) ?_
    refine we_false (by kernel_rfl) ?_
    refine we_skip fun a hF => hK2 _ _ ?_ a hF
    refine we_seq fun K5 hK5 => ?_
    refine we_seq fun K6 hK6 => ?_
    refine we_region [(0, 0), (1, 0), (2, 0)] rfl ?_
    refine ge_batch [0, 1, 2] (ans := []) (vs := [(14, .int .i64 0), (13, .int .i64 (l0.length : Int)), (12, .slice A0 l0.length c0)]) (l := []) (by kernel_rfl) trivial ?_
    refine ge_nil fun a hF => hK6 _ _ ?_ a hF
    refine we_block ?_
    have hS7 := hS6.bring 1 rfl
    have hS8 := hS7.takeN 1
    rcases hq2 : iter (fixed_check.r0 l0) K 0 with _ | (_ | rr1)
    · rw [hq2] at h; cases h
    · rw [hq2] at h
      simp only [] at h
      refine we_iter (A := fixed_check.A0 K w0 l0 A0 c0 hR0 hL0 b1 r1 b2 hc1) (B := fixed_check.B0 K w0 l0 A0 c0 hR0 hL0 b1 r1 b2 hc1) hq2 (fun a hF => ⟨hS8, hF.weaken ⟨by kernel_rfl, by kernel_rfl, by kernel_rfl, by kernel_rfl, trivial⟩⟩) (fun s o hf a w hA Q hQ => fixed_check_r0 K w0 l0 A0 c0 hR0 hL0 b1 r1 b2 hc1 s o hf a w hA Q hQ) ?_
      rintro _ a w8 _ ⟨rfl, hS18, hF⟩
      replace hS18 : St w0 w8 [Own.blk b1 (.cells #[.int .i64 0, .int .i64 0] 29 (0, 0))] := hS18
      refine hK5 [(2, .pointer (some ⟨b1, 0, none⟩))] w8 ?_ a hF
      refine we_seq fun K13 hK13 => ?_
      refine we_region [(0, 0), (1, 2)] rfl ?_
      refine ge_batch [0] (ans := []) (vs := [(27, .agg #[.int .i64 0, .int .i64 0])]) (l := []) (by kernel_rfl) trivial ?_
      refine ge_set (b := b1) (j := 0) (cs := #[.int .i64 0, .int .i64 0]) (t := 29) (vs := [.int .i64 0, .int .i64 0]) hS18 (by kernel_rfl) rfl rfl fun w9 hS19 => ?_
      have hS20 : St w0 w9 [Own.blk b1 (.cells #[.int .i64 0, .int .i64 0] 29 (0, 0))] := hS19
      refine ge_nil fun a hF => hK13 _ _ ?_ a hF
      have hS21 := hS20.takeN 0
      obtain rfl := Option.some.inj h
      exact we_ret (post_ret (rs := [.cell 2 29]) (ans := [.val (.int .i64 0), .val (.int .i64 0)]) (vs := [.agg #[.int .i64 0, .int .i64 0]]) (l := [.loaded ⟨b1, 0, none⟩ (.int .i64 0), .loaded ⟨b1, 1, none⟩ (.int .i64 0)]) rfl (by kernel_rfl) ⟨hS20.cell 0 rfl rfl, hS20.cell 0 rfl rfl, trivial⟩ ⟨rfl, hS21⟩)
    · rw [hq2] at h
      simp only [] at h
      refine we_iter (A := fixed_check.A0 K w0 l0 A0 c0 hR0 hL0 b1 r1 b2 hc1) (B := fixed_check.B0 K w0 l0 A0 c0 hR0 hL0 b1 r1 b2 hc1) hq2 (fun a hF => ⟨hS8, hF.weaken ⟨by kernel_rfl, by kernel_rfl, by kernel_rfl, by kernel_rfl, trivial⟩⟩) (fun s o hf a w hA Q hQ => fixed_check_r0 K w0 l0 A0 c0 hR0 hL0 b1 r1 b2 hc1 s o hf a w hA Q hQ) ?_
      rintro _ a w1 _ ⟨rfl, hb⟩
      obtain rfl := Option.some.inj h
      exact hb
  · rw [if_neg hc1] at h
    refine we_known (t := 10) (b := (r1.Code != 0)) (v := true) (by kernel_rfl) (bne_iff_ne.2 hc1) ?_
    refine we_true (by kernel_rfl) ?_
    refine we_seq fun K14 hK14 => ?_
    refine we_region [(0, 0), (1, 2)] rfl ?_
    refine ge_batch [0] (ans := [.val (.int .i64 r1.Code), .val (.int .i64 r1.At)]) (vs := [(11, .agg #[.int .i64 r1.Code, .int .i64 r1.At])]) (l := [.loaded ⟨b2, 0, none⟩ (.int .i64 r1.Code), .loaded ⟨b2, 1, none⟩ (.int .i64 r1.At)]) (by kernel_rfl) ⟨hS6.cell 0 rfl rfl, hS6.cell 0 rfl rfl, trivial⟩ ?_
    have hS22 := hS6.bring 1 rfl
    refine ge_set (b := b1) (j := 0) (cs := #[.int .i64 0, .int .i64 0]) (t := 29) (vs := [.int .i64 r1.Code, .int .i64 r1.At]) hS22 (by kernel_rfl) rfl rfl fun w10 hS23 => ?_
    have hS24 : St w0 w10 [Own.blk b1 (.cells #[.int .i64 r1.Code, .int .i64 r1.At] 29 (0, 0)), Own.blk b2 (.cells #[.int .i64 r1.Code, .int .i64 r1.At] 29 (0, 0))] := hS23
    refine ge_nil fun a hF => hK14 _ _ ?_ a hF
    have hS25 := hS24.takeN 0
    obtain rfl := Option.some.inj h
    exact we_ret (post_ret (rs := [.cell 2 29]) (ans := [.val (.int .i64 r1.Code), .val (.int .i64 r1.At)]) (vs := [.agg #[.int .i64 r1.Code, .int .i64 r1.At]]) (l := [.loaded ⟨b1, 0, none⟩ (.int .i64 r1.Code), .loaded ⟨b1, 1, none⟩ (.int .i64 r1.At)]) rfl (by kernel_rfl) ⟨hS24.cell 0 rfl rfl, hS24.cell 0 rfl rfl, trivial⟩ ⟨rfl, hS25⟩)

/-! punctual/fixed.above -/
abbrev fixed_above.Post (w0 : World) (r : List STask) (e : Ending) (w : World) : Prop := ∃ (v0 : Value), e = .returned (v0) ∧ St w0 w [Own.of v0 46 r]
def fixed_above.r0 (l0 : List STask) (x1 : Int) : (List STask) × Nat → Option (((List STask) × Nat) ⊕ ((List STask) ⊕ (List STask)))
  | (m1, i1) =>
    if (i1 : Int) < (l0.length : Int) then
      match l0[i1]? with
      | none => none
      | some e1 =>
        if (i1 : Int) = x1 then
          some (.inl (m1, (i1 + 1)))
        else
          if 0 ≤ x1 then
            match l0[(x1).toNat]? with
            | none => none
            | some e2 =>
              if e1.P ≥ e2.P then
                if m1.length < 2199023255552 then
                  some (.inl ((m1 ++ [e1]), (i1 + 1)))
                else
                  none
              else
                some (.inl (m1, (i1 + 1)))
          else
            none
    else
      some (.inr (.inl m1))
def fixed_above.f (K : Nat) (l0 : List STask) (x1 : Int) : Option (List STask) :=
  match iter (fixed_above.r0 l0 x1) K (([] : List STask), 0) with
  | none => none
  | some (.inl m3) =>
    some m3
  | some (.inr rr1) =>
    some rr1
abbrev fixed_above.A0 (K : Nat) (w0 : World) (l0 : List STask) (A0 : Option Addr) (c0 : Nat) (x1 : Int) (hR0 : RdL w0 A0 l0) (hL0 : l0.length ≤ c0) : ((List STask) × Nat) → Act → World → Prop := fun (s : (List STask) × Nat) a w => ∃ (v1 : Value), St w0 w [Own.of v1 46 s.1] ∧ Frm 34 a [(0, .slice A0 l0.length c0), (1, .int .i64 x1), (5, v1), (8, .slice A0 l0.length c0), (9, .int .i64 (l0.length : Int)), (10, .int .i64 (s.2 : Int))]
abbrev fixed_above.B0 (K : Nat) (w0 : World) (l0 : List STask) (A0 : Option Addr) (c0 : Nat) (x1 : Int) (hR0 : RdL w0 A0 l0) (hL0 : l0.length ≤ c0) : ((List STask) ⊕ (List STask)) → Exit → Act → World → Prop := Exits 0 (fun (s : (List STask)) a w => ∃ (v2 : Value), St w0 w [Own.of v2 46 s] ∧ Frm 34 a [(5, v2)]) (Rets Try.prog Try.f43 (fixed_above.Post w0))
theorem fixed_above_r0 (K : Nat) (w0 : World) (l0 : List STask) (A0 : Option Addr) (c0 : Nat) (x1 : Int) (hR0 : RdL w0 A0 l0) (hL0 : l0.length ≤ c0) (s : (List STask) × Nat) (o : ((List STask) × Nat) ⊕ ((List STask) ⊕ (List STask))) (h : fixed_above.r0 l0 x1 s = some o) (a : Act) (w : World) (hA : fixed_above.A0 K w0 l0 A0 c0 x1 hR0 hL0 s a w) (Q : Exit → Act → World → Prop) (hQ : ∀ x a w, Outs (fixed_above.A0 K w0 l0 A0 c0 x1 hR0 hL0) (fixed_above.B0 K w0 l0 A0 c0 x1 hR0 hL0) o x a w → Q x a w) : (subF Try.f43 [1, 1, 0, 1, 0, 0]).wp Try.prog Q a w := by
  obtain ⟨m1, i1⟩ := s
  obtain ⟨v1, hS, hF⟩ := hA
  replace hS : St w0 w [Own.of v1 46 m1] := hS
  simp only [fixed_above.r0] at h
  refine (?_ : WE Try.prog 34 (subF Try.f43 [1, 1, 0, 1, 0, 0]) Q [(0, .slice A0 l0.length c0), (1, .int .i64 x1), (5, v1), (8, .slice A0 l0.length c0), (9, .int .i64 (l0.length : Int)), (10, .int .i64 (i1 : Int))] w) a hF
  clear hF a
  refine we_seq fun K5 hK5 => ?_
  refine we_region [(0, 0)] rfl ?_
  refine ge_batch [0] (ans := []) (vs := [(11, .bool (decide ((i1 : Int) < (l0.length : Int))))]) (l := []) (by kernel_rfl) trivial ?_
  refine ge_nil fun a hF => hK5 _ _ ?_ a hF
  refine we_seq fun K6 hK6 => ?_
  by_cases hc1 : (i1 : Int) < (l0.length : Int)
  · rw [if_pos hc1] at h
    refine we_known (t := 11) (b := decide ((i1 : Int) < (l0.length : Int))) (v := true) (by kernel_rfl) (decide_eq_true hc1) ?_
    refine we_true (by kernel_rfl) ?_
    refine we_skip fun a hF => hK6 _ _ ?_ a hF
    refine we_seq fun K7 hK7 => ?_
    refine we_block ?_
    refine we_seq fun K8 hK8 => ?_
    refine we_region [(0, 0), (1, 0), (2, 0), (3, 1), (4, 0), (5, 2)] rfl ?_
    refine ge_batch [0] (ans := []) (vs := [(12, .int .i64 (i1 : Int))]) (l := []) (by kernel_rfl) trivial ?_
    rcases hx1 : l0[i1]? with _ | e1
    · rw [hx1] at h; cases h
    rw [hx1] at h
    simp only [] at h
    refine ge_index (d := 13) (ty := 0) (t := 22) (el := 46) (sz := 7) (m := l0.length) (c := c0) (x := (.tmp 8)) (y := (.tmp 10)) (A := A0) (k' := .i64) (j := (i1 : Int)) (jn := i1) (b0 := blkOf A0) (o0 := offOf A0) (by kernel_rfl) (by kernel_rfl) (by kernel_rfl) (by kernel_rfl) (by kernel_rfl) ((hS.rd hR0).eqSome (pos_of_get hx1)) rfl (lt_of_get hx1) ?_
    refine ge_batch [2] (ans := [.val (.string e1.Name), .val (.int .i64 e1.C), .val (.int .i64 e1.T), .val (.int .i64 e1.D), .val (.int .i64 e1.J), .val (.int .i64 e1.O), .val (.int .i64 e1.P)]) (vs := [(14, .agg #[.string e1.Name, .int .i64 e1.C, .int .i64 e1.T, .int .i64 e1.D, .int .i64 e1.J, .int .i64 e1.O, .int .i64 e1.P])]) (l := [.loaded ⟨blkOf A0, offOf A0 + i1 * 7, none⟩ (.string e1.Name), .loaded ⟨blkOf A0, offOf A0 + i1 * 7 + 1, none⟩ (.int .i64 e1.C), .loaded ⟨blkOf A0, offOf A0 + i1 * 7 + 2, none⟩ (.int .i64 e1.T), .loaded ⟨blkOf A0, offOf A0 + i1 * 7 + 3, none⟩ (.int .i64 e1.D), .loaded ⟨blkOf A0, offOf A0 + i1 * 7 + 4, none⟩ (.int .i64 e1.J), .loaded ⟨blkOf A0, offOf A0 + i1 * 7 + 5, none⟩ (.int .i64 e1.O), .loaded ⟨blkOf A0, offOf A0 + i1 * 7 + 6, none⟩ (.int .i64 e1.P)]) (by kernel_rfl) ⟨RdL.cell (j := 0) (hS.rd hR0) hx1 rfl, RdL.cell (j := 1) (hS.rd hR0) hx1 rfl, RdL.cell (j := 2) (hS.rd hR0) hx1 rfl, RdL.cell (j := 3) (hS.rd hR0) hx1 rfl, RdL.cell (j := 4) (hS.rd hR0) hx1 rfl, RdL.cell (j := 5) (hS.rd hR0) hx1 rfl, RdL.cell (j := 6) (hS.rd hR0) hx1 rfl, trivial⟩ ?_
    refine ge_new (d := some 7) (o := .cells #[.string (⟨#[]⟩), .int .i64 0, .int .i64 0, .int .i64 0, .int .i64 0, .int .i64 0, .int .i64 0] 46) (v := fun b => .pointer (some ⟨b, 0, none⟩)) hS (fun b => by kernel_rfl) fun b1 w1 hx2 hS2 => ?_
    refine ge_batch [4] (ans := []) (vs := [(6, .int .i64 (i1 : Int))]) (l := []) (by kernel_rfl) trivial ?_
    refine ge_set (b := b1) (j := 0) (cs := #[.string (⟨#[]⟩), .int .i64 0, .int .i64 0, .int .i64 0, .int .i64 0, .int .i64 0, .int .i64 0]) (t := 46) (vs := [.string e1.Name, .int .i64 e1.C, .int .i64 e1.T, .int .i64 e1.D, .int .i64 e1.J, .int .i64 e1.O, .int .i64 e1.P]) hS2 (by kernel_rfl) rfl rfl fun w2 hS3 => ?_
    have hS4 : St w0 w2 [Own.blk b1 (.cells #[.string e1.Name, .int .i64 e1.C, .int .i64 e1.T, .int .i64 e1.D, .int .i64 e1.J, .int .i64 e1.O, .int .i64 e1.P] 46 (0, 0)), Own.of v1 46 m1] := hS3
    refine ge_nil fun a hF => hK8 _ _ ?_ a hF
    refine we_seq fun K9 hK9 => ?_
    refine we_draws (by kernel_rfl) [(0, 0), (1, 0), (2, 0), (3, 0), (4, 0), (5, 0), (6, 0), (7, 0), (8, 0), (9, 0), (10, 0), (11, 0), (12, 0)] (by kernel_rfl) ?_
    have hS5 := hS4.drew
    refine ge_batch [0, 1, 2, 3] (ans := []) (vs := [(18, .bool ((i1 : Int) != x1)), (17, .bool ((i1 : Int) != x1)), (16, .int .i64 x1), (15, .int .i64 (i1 : Int))]) (l := []) (by kernel_rfl) trivial ?_
    by_cases hc2 : (i1 : Int) = x1
    · rw [if_pos hc2] at h
      refine ge_known (t := 18) (b := ((i1 : Int) != x1)) (c := false) (by kernel_rfl) (bne_eq_false_iff_eq.2 hc2) ?_
      refine ge_batch [4, 5, 6, 7, 8, 9, 10, 11, 12] (ans := []) (vs := [(27, .bool false), (26, undef), (25, undef), (24, undef), (23, undef), (22, undef), (21, undef), (20, undef), (19, undef)]) (l := []) (by kernel_rfl) trivial ?_
      refine ge_nil fun a hF => hK9 _ _ ?_ a hF
      refine we_false (by kernel_rfl) ?_
      refine we_skip fun a hF => hK7 _ _ ?_ a hF
      refine we_region [(0, 0), (1, 0)] rfl ?_
      refine ge_addn (d := 32) (ty := 3) (x := (.tmp 10)) (y := (.const (.int .i64 1))) (t := 3) (t2 := 3) (k := .i64) (m := i1) (by kernel_rfl) (by kernel_rfl) (by kernel_rfl) (by have h0 := hR0.small; omega) ?_
      refine ge_batch [1] (ans := []) (vs := [(10, .int .i64 ((i1 + 1 : Nat) : Int))]) (l := []) (by kernel_rfl) trivial ?_
      have hS6 := hS5.bring 1 rfl
      have hS7 := hS6.takeN 1
      obtain rfl := Option.some.inj h
      exact ge_nil fun a hF => hQ _ _ _ (Outs.again ⟨v1, hS7, hF.weaken ⟨by kernel_rfl, by kernel_rfl, by kernel_rfl, by kernel_rfl, by kernel_rfl, by kernel_rfl, trivial⟩⟩)
    · rw [if_neg hc2] at h
      refine ge_known (t := 18) (b := ((i1 : Int) != x1)) (c := true) (by kernel_rfl) (bne_iff_ne.2 hc2) ?_
      refine ge_batch [4, 5, 6, 7] (ans := [.val (.int .i64 e1.P)]) (vs := [(22, .int .i64 x1), (21, .slice A0 l0.length c0), (20, .int .i64 e1.P), (19, .pointer (some ⟨b1, 6, none⟩))]) (l := [.loaded ⟨b1, 6, none⟩ (.int .i64 e1.P)]) (by kernel_rfl) ⟨hS5.cell 0 rfl rfl, trivial⟩ ?_
      by_cases hc3 : 0 ≤ x1
      · rw [if_pos hc3] at h
        rcases hx3 : l0[(x1).toNat]? with _ | e2
        · rw [hx3] at h; cases h
        rw [hx3] at h
        simp only [] at h
        refine ge_index (d := 23) (ty := 0) (t := 22) (el := 46) (sz := 7) (m := l0.length) (c := c0) (x := (.tmp 21)) (y := (.tmp 22)) (A := A0) (k' := .i64) (j := x1) (jn := ((x1).toNat)) (b0 := blkOf A0) (o0 := offOf A0) (by kernel_rfl) (by kernel_rfl) (by kernel_rfl) (by kernel_rfl) (by kernel_rfl) ((hS5.rd hR0).eqSome (pos_of_get hx3)) (Int.toNat_of_nonneg hc3).symm (lt_of_get hx3) ?_
        refine ge_batch [9, 10, 11, 12] (ans := [.val (.int .i64 e2.P)]) (vs := [(27, .bool (decide (e1.P ≥ e2.P))), (26, .bool (decide (e1.P ≥ e2.P))), (25, .int .i64 e2.P), (24, .pointer (some ⟨blkOf A0, offOf A0 + (x1).toNat * 7 + 6, none⟩))]) (l := [.loaded ⟨blkOf A0, offOf A0 + ((x1).toNat) * 7 + 6, none⟩ (.int .i64 e2.P)]) (by kernel_rfl) ⟨RdL.cell (j := 6) (hS5.rd hR0) hx3 rfl, trivial⟩ ?_
        refine ge_nil fun a hF => hK9 _ _ ?_ a hF
        by_cases hc4 : e1.P ≥ e2.P
        · rw [if_pos hc4] at h
          refine we_known (t := 27) (b := decide (e1.P ≥ e2.P)) (v := true) (by kernel_rfl) (decide_eq_true hc4) ?_
          refine we_true (by kernel_rfl) ?_
          refine we_region [(0, 0), (1, 0), (2, 1), (3, 2), (4, 0)] rfl ?_
          refine ge_batch [0, 1] (ans := [.val (.string e1.Name), .val (.int .i64 e1.C), .val (.int .i64 e1.T), .val (.int .i64 e1.D), .val (.int .i64 e1.J), .val (.int .i64 e1.O), .val (.int .i64 e1.P)]) (vs := [(29, .agg #[.string e1.Name, .int .i64 e1.C, .int .i64 e1.T, .int .i64 e1.D, .int .i64 e1.J, .int .i64 e1.O, .int .i64 e1.P]), (28, v1)]) (l := [.loaded ⟨b1, 0, none⟩ (.string e1.Name), .loaded ⟨b1, 1, none⟩ (.int .i64 e1.C), .loaded ⟨b1, 2, none⟩ (.int .i64 e1.T), .loaded ⟨b1, 3, none⟩ (.int .i64 e1.D), .loaded ⟨b1, 4, none⟩ (.int .i64 e1.J), .loaded ⟨b1, 5, none⟩ (.int .i64 e1.O), .loaded ⟨b1, 6, none⟩ (.int .i64 e1.P)]) (by kernel_rfl) ⟨hS5.cell 0 rfl rfl, hS5.cell 0 rfl rfl, hS5.cell 0 rfl rfl, hS5.cell 0 rfl rfl, hS5.cell 0 rfl rfl, hS5.cell 0 rfl rfl, hS5.cell 0 rfl rfl, trivial⟩ ?_
          refine ge_new (d := some 30) (o := .cells #[.string e1.Name, .int .i64 e1.C, .int .i64 e1.T, .int .i64 e1.D, .int .i64 e1.J, .int .i64 e1.O, .int .i64 e1.P] 46) (v := fun b => .slice (some ⟨b, 0, none⟩) 1 1) hS5 (fun b => by kernel_rfl) fun b2 w3 hx4 hS8 => ?_
          have hS9 := hS8.bring 2 rfl
          by_cases hc5 : m1.length < 2199023255552
          · rw [if_pos hc5] at h
            refine ge_append (α := STask) (m := 0) (d := 31) (t := 22) (el := 46) (bytes := 64) (c1 := 1) (b1 := b2) (x := (.tmp 28)) (y := (.tmp 30)) (ty := 22) (v := v1) (z := .agg #[.string (⟨#[]⟩), .int .i64 0, .int .i64 0, .int .i64 0, .int .i64 0, .int .i64 0, .int .i64 0]) (l := m1) (u := e1) (by kernel_rfl) (by kernel_rfl) (by kernel_rfl) (by kernel_rfl) (by kernel_rfl) rfl hS9 rfl (by omega) fun v3 w4 hS10 => ?_
            refine ge_batch [4] (ans := []) (vs := [(5, v3)]) (l := []) (by kernel_rfl) trivial ?_
            refine ge_nil fun a hF => hK7 _ _ ?_ a hF
            refine we_region [(0, 0), (1, 0)] rfl ?_
            refine ge_addn (d := 32) (ty := 3) (x := (.tmp 10)) (y := (.const (.int .i64 1))) (t := 3) (t2 := 3) (k := .i64) (m := i1) (by kernel_rfl) (by kernel_rfl) (by kernel_rfl) (by have h0 := hR0.small; omega) ?_
            refine ge_batch [1] (ans := []) (vs := [(10, .int .i64 ((i1 + 1 : Nat) : Int))]) (l := []) (by kernel_rfl) trivial ?_
            have hS11 := hS10.takeN 1
            obtain rfl := Option.some.inj h
            exact ge_nil fun a hF => hQ _ _ _ (Outs.again ⟨v3, hS11, hF.weaken ⟨by kernel_rfl, by kernel_rfl, by kernel_rfl, by kernel_rfl, by kernel_rfl, by kernel_rfl, trivial⟩⟩)
          · rw [if_neg hc5] at h
            cases h
        · rw [if_neg hc4] at h
          refine we_known (t := 27) (b := decide (e1.P ≥ e2.P)) (v := false) (by kernel_rfl) (decide_eq_false hc4) ?_
          refine we_false (by kernel_rfl) ?_
          refine we_skip fun a hF => hK7 _ _ ?_ a hF
          refine we_region [(0, 0), (1, 0)] rfl ?_
          refine ge_addn (d := 32) (ty := 3) (x := (.tmp 10)) (y := (.const (.int .i64 1))) (t := 3) (t2 := 3) (k := .i64) (m := i1) (by kernel_rfl) (by kernel_rfl) (by kernel_rfl) (by have h0 := hR0.small; omega) ?_
          refine ge_batch [1] (ans := []) (vs := [(10, .int .i64 ((i1 + 1 : Nat) : Int))]) (l := []) (by kernel_rfl) trivial ?_
          have hS12 := hS5.bring 1 rfl
          have hS13 := hS12.takeN 1
          obtain rfl := Option.some.inj h
          exact ge_nil fun a hF => hQ _ _ _ (Outs.again ⟨v1, hS13, hF.weaken ⟨by kernel_rfl, by kernel_rfl, by kernel_rfl, by kernel_rfl, by kernel_rfl, by kernel_rfl, trivial⟩⟩)
      · rw [if_neg hc3] at h
        cases h
  · rw [if_neg hc1] at h
    refine we_known (t := 11) (b := decide ((i1 : Int) < (l0.length : Int))) (v := false) (by kernel_rfl) (decide_eq_false hc1) ?_
    refine we_false (by kernel_rfl) ?_
    obtain rfl := Option.some.inj h
    exact we_exit fun a hF => hQ _ _ _ (Outs.out nofun (Exits.here ⟨v1, hS, hF.weaken ⟨by kernel_rfl, trivial⟩⟩))
theorem fixed_above_ok (K : Nat) (l0 : List STask) (A0 : Option Addr) (c0 : Nat) (x1 : Int) (w0 : World) (hR0 : RdL w0 A0 l0) (hL0 : l0.length ≤ c0) (r : List STask) (h : fixed_above.f K l0 x1 = some r) :
    Calls Try.prog 43 #[.slice A0 l0.length c0, .int .i64 x1] w0 (fixed_above.Post w0 r) := by
  have hS := St.start w0
  unfold fixed_above.f at h
  refine calls_enter (n := 34) (args := [.slice A0 l0.length c0, .int .i64 x1]) (fn := Try.f43) rfl rfl rfl rfl ?_
  show WE _ _ _ _ [(0, .slice A0 l0.length c0), (1, .int .i64 x1)] _
  refine we_seq fun K1 hK1 => ?_
  refine we_region [(0, 0)] rfl ?_
  refine ge_batch [0] (ans := []) (vs := [(4, .slice none 0 0)]) (l := []) (by kernel_rfl) trivial ?_
  refine ge_nil fun a hF => hK1 _ _ ?_ a hF
  refine we_seq fun K2 hK2 => ?_
  refine we_region [(0, 0)] rfl ?_
  refine ge_batch [0] (ans := []) (vs := [(5, .slice none 0 0)]) (l := []) (by kernel_rfl) trivial ?_
  refine ge_nil fun a hF => hK2 _ _ ?_ a hF
  refine we_seq fun K3 hK3 => ?_
  refine we_seq fun K4 hK4 => ?_
  refine we_region [(0, 0), (1, 0), (2, 0)] rfl ?_
  refine ge_batch [0, 1, 2] (ans := []) (vs := [(10, .int .i64 0), (9, .int .i64 (l0.length : Int)), (8, .slice A0 l0.length c0)]) (l := []) (by kernel_rfl) trivial ?_
  refine ge_nil fun a hF => hK4 _ _ ?_ a hF
  refine we_block ?_
  have hS1 := hS.nil (α := STask) 46
  rcases hq1 : iter (fixed_above.r0 l0 x1) K (([] : List STask), 0) with _ | (m3 | rr1)
  · rw [hq1] at h; cases h
  · rw [hq1] at h
    simp only [] at h
    refine we_iter (A := fixed_above.A0 K w0 l0 A0 c0 x1 hR0 hL0) (B := fixed_above.B0 K w0 l0 A0 c0 x1 hR0 hL0) hq1 (fun a hF => ⟨(.slice none 0 0), hS1, hF.weaken ⟨by kernel_rfl, by kernel_rfl, by kernel_rfl, by kernel_rfl, by kernel_rfl, by kernel_rfl, trivial⟩⟩) (fun s o hf a w hA Q hQ => fixed_above_r0 K w0 l0 A0 c0 x1 hR0 hL0 s o hf a w hA Q hQ) ?_
    rintro _ a w5 _ ⟨rfl, v4, hS14, hF⟩
    replace hS14 : St w0 w5 [Own.of v4 46 m3] := hS14
    refine hK3 [(5, v4)] w5 ?_ a hF
    refine we_seq fun K10 hK10 => ?_
    refine we_region [(0, 0), (1, 0)] rfl ?_
    refine ge_batch [0, 1] (ans := []) (vs := [(4, v4), (33, v4)]) (l := []) (by kernel_rfl) trivial ?_
    refine ge_nil fun a hF => hK10 _ _ ?_ a hF
    obtain rfl := Option.some.inj h
    exact we_ret (post_ret (rs := [.tmp 4]) (ans := []) (vs := [v4]) (l := []) rfl (by kernel_rfl) trivial ⟨v4, rfl, hS14⟩)
  · rw [hq1] at h
    simp only [] at h
    refine we_iter (A := fixed_above.A0 K w0 l0 A0 c0 x1 hR0 hL0) (B := fixed_above.B0 K w0 l0 A0 c0 x1 hR0 hL0) hq1 (fun a hF => ⟨(.slice none 0 0), hS1, hF.weaken ⟨by kernel_rfl, by kernel_rfl, by kernel_rfl, by kernel_rfl, by kernel_rfl, by kernel_rfl, trivial⟩⟩) (fun s o hf a w hA Q hQ => fixed_above_r0 K w0 l0 A0 c0 x1 hR0 hL0 s o hf a w hA Q hQ) ?_
    rintro _ a w1 _ ⟨rfl, hb⟩
    obtain rfl := Option.some.inj h
    exact hb

/-! punctual/fixed.ceil -/
abbrev fixed_ceil.Post (w0 : World) (r : Int) (e : Ending) (w : World) : Prop := e = .returned (.int .i64 r) ∧ St w0 w []
def fixed_ceil.f (x0 : Int) (x1 : Int) : Option Int :=
  if x1 = 0 then
    none
  else
    some (IntKind.i64.wrap (Int.tdiv (IntKind.i64.wrap ((IntKind.i64.wrap (x0 + x1)) - 1)) x1))
theorem fixed_ceil_ok (x0 : Int) (x1 : Int) (w0 : World) (r : Int) (h : fixed_ceil.f x0 x1 = some r) :
    Calls Try.prog 52 #[.int .i64 x0, .int .i64 x1] w0 (fixed_ceil.Post w0 r) := by
  have hS := St.start w0
  unfold fixed_ceil.f at h
  refine calls_enter (n := 11) (args := [.int .i64 x0, .int .i64 x1]) (fn := Try.f52) rfl rfl rfl rfl ?_
  show WE _ _ _ _ [(0, .int .i64 x0), (1, .int .i64 x1)] _
  refine we_seq fun K1 hK1 => ?_
  refine we_region [(0, 0)] rfl ?_
  refine ge_batch [0] (ans := []) (vs := [(4, .int .i64 0)]) (l := []) (by kernel_rfl) trivial ?_
  refine ge_nil fun a hF => hK1 _ _ ?_ a hF
  refine we_seq fun K2 hK2 => ?_
  refine we_region [(0, 0), (1, 0), (2, 0), (3, 0), (4, 0), (5, 0), (6, 0)] rfl ?_
  refine ge_batch [0, 1, 2, 3, 4] (ans := []) (vs := [(9, .int .i64 x1), (8, .int .i64 (IntKind.i64.wrap ((IntKind.i64.wrap (x0 + x1)) - 1))), (7, .int .i64 (IntKind.i64.wrap (x0 + x1))), (6, .int .i64 x1), (5, .int .i64 x0)]) (l := []) (by kernel_rfl) trivial ?_
  by_cases hc1 : x1 = 0
  · rw [if_pos hc1] at h
    cases h
  · rw [if_neg hc1] at h
    refine ge_div (d := 10) (ty := 3) (op := .quo) (x := (.tmp 8)) (y := (.tmp 9)) (t := 3) (t2 := 3) (k := .i64) (p := (IntKind.i64.wrap ((IntKind.i64.wrap (x0 + x1)) - 1))) (q := x1) (v := .int .i64 (IntKind.i64.wrap (Int.tdiv (IntKind.i64.wrap ((IntKind.i64.wrap (x0 + x1)) - 1)) x1))) (by kernel_rfl) (by kernel_rfl) (by kernel_rfl) hc1 rfl ?_
    refine ge_batch [6] (ans := []) (vs := [(4, .int .i64 (IntKind.i64.wrap (Int.tdiv (IntKind.i64.wrap ((IntKind.i64.wrap (x0 + x1)) - 1)) x1)))]) (l := []) (by kernel_rfl) trivial ?_
    refine ge_nil fun a hF => hK2 _ _ ?_ a hF
    obtain rfl := Option.some.inj h
    exact we_ret (post_ret (rs := [.tmp 4]) (ans := []) (vs := [.int .i64 (IntKind.i64.wrap (Int.tdiv (IntKind.i64.wrap ((IntKind.i64.wrap (x0 + x1)) - 1)) x1))]) (l := []) rfl (by kernel_rfl) trivial ⟨rfl, hS⟩)

/-! punctual/fixed.response$1 -/
abbrev fixed_response_1.Post (w0 : World) (r : Int) (e : Ending) (w : World) : Prop := e = .returned (.int .i64 r) ∧ St w0 w []
def fixed_response_1.r0 (x0 : Int) (lf_2 : List STask) : Int × Nat → Option ((Int × Nat) ⊕ (Int ⊕ Int))
  | (z1, i1) =>
    if (i1 : Int) < (lf_2.length : Int) then
      match lf_2[i1]? with
      | none => none
      | some e1 =>
        match fixed_ceil.f (IntKind.i64.wrap (x0 + e1.J)) e1.T with
        | none => none
        | some r1 =>
          some (.inl (IntKind.i64.wrap (z1 + (IntKind.i64.wrap (r1 * e1.C))), (i1 + 1)))
    else
      some (.inr (.inl z1))
def fixed_response_1.f (K : Nat) (x0 : Int) (xf_0 : STask) (xf_1 : Int) (lf_2 : List STask) : Option Int :=
  match iter (fixed_response_1.r0 x0 lf_2) K (IntKind.i64.wrap (xf_0.C + xf_1), 0) with
  | none => none
  | some (.inl z3) =>
    some z3
  | some (.inr rr1) =>
    some rr1
abbrev fixed_response_1.A0 (K : Nat) (w0 : World) (x0 : Int) (bf_0 : Nat) (xf_0 : STask) (bf_1 : Nat) (xf_1 : Int) (bf_2 : Nat) (lf_2 : List STask) (Af_2 : Option Addr) (cf_2 : Nat) (hBf_0 : Glob w0 bf_0 [.string xf_0.Name, .int .i64 xf_0.C, .int .i64 xf_0.T, .int .i64 xf_0.D, .int .i64 xf_0.J, .int .i64 xf_0.O, .int .i64 xf_0.P]) (hBf_1 : Glob w0 bf_1 [.int .i64 xf_1]) (hRf_2 : RdL w0 Af_2 lf_2) (hLf_2 : lf_2.length ≤ cf_2) (hBf_2 : Glob w0 bf_2 [.slice Af_2 lf_2.length cf_2]) : (Int × Nat) → Act → World → Prop := fun (s : Int × Nat) a w => St w0 w [] ∧ Frm 33 a [(0, .int .i64 x0), (6, .int .i64 s.1), (13, .slice Af_2 lf_2.length cf_2), (14, .int .i64 (lf_2.length : Int)), (15, .int .i64 (s.2 : Int))]
abbrev fixed_response_1.B0 (K : Nat) (w0 : World) (x0 : Int) (bf_0 : Nat) (xf_0 : STask) (bf_1 : Nat) (xf_1 : Int) (bf_2 : Nat) (lf_2 : List STask) (Af_2 : Option Addr) (cf_2 : Nat) (hBf_0 : Glob w0 bf_0 [.string xf_0.Name, .int .i64 xf_0.C, .int .i64 xf_0.T, .int .i64 xf_0.D, .int .i64 xf_0.J, .int .i64 xf_0.O, .int .i64 xf_0.P]) (hBf_1 : Glob w0 bf_1 [.int .i64 xf_1]) (hRf_2 : RdL w0 Af_2 lf_2) (hLf_2 : lf_2.length ≤ cf_2) (hBf_2 : Glob w0 bf_2 [.slice Af_2 lf_2.length cf_2]) : (Int ⊕ Int) → Exit → Act → World → Prop := Exits 0 (fun (s : Int) a w => St w0 w [] ∧ Frm 33 a [(6, .int .i64 s)]) (Rets Try.prog Try.f51 (fixed_response_1.Post w0))
theorem fixed_response_1_r0 (K : Nat) (w0 : World) (x0 : Int) (bf_0 : Nat) (xf_0 : STask) (bf_1 : Nat) (xf_1 : Int) (bf_2 : Nat) (lf_2 : List STask) (Af_2 : Option Addr) (cf_2 : Nat) (hBf_0 : Glob w0 bf_0 [.string xf_0.Name, .int .i64 xf_0.C, .int .i64 xf_0.T, .int .i64 xf_0.D, .int .i64 xf_0.J, .int .i64 xf_0.O, .int .i64 xf_0.P]) (hBf_1 : Glob w0 bf_1 [.int .i64 xf_1]) (hRf_2 : RdL w0 Af_2 lf_2) (hLf_2 : lf_2.length ≤ cf_2) (hBf_2 : Glob w0 bf_2 [.slice Af_2 lf_2.length cf_2]) (s : Int × Nat) (o : (Int × Nat) ⊕ (Int ⊕ Int)) (h : fixed_response_1.r0 x0 lf_2 s = some o) (a : Act) (w : World) (hA : fixed_response_1.A0 K w0 x0 bf_0 xf_0 bf_1 xf_1 bf_2 lf_2 Af_2 cf_2 hBf_0 hBf_1 hRf_2 hLf_2 hBf_2 s a w) (Q : Exit → Act → World → Prop) (hQ : ∀ x a w, Outs (fixed_response_1.A0 K w0 x0 bf_0 xf_0 bf_1 xf_1 bf_2 lf_2 Af_2 cf_2 hBf_0 hBf_1 hRf_2 hLf_2 hBf_2) (fixed_response_1.B0 K w0 x0 bf_0 xf_0 bf_1 xf_1 bf_2 lf_2 Af_2 cf_2 hBf_0 hBf_1 hRf_2 hLf_2 hBf_2) o x a w → Q x a w) : (subF Try.f51 [1, 1, 0, 1, 0, 0]).wp Try.prog Q a w := by
  obtain ⟨z1, i1⟩ := s
  obtain ⟨hS, hF⟩ := hA
  replace hS : St w0 w [] := hS
  simp only [fixed_response_1.r0] at h
  refine (?_ : WE Try.prog 33 (subF Try.f51 [1, 1, 0, 1, 0, 0]) Q [(0, .int .i64 x0), (6, .int .i64 z1), (13, .slice Af_2 lf_2.length cf_2), (14, .int .i64 (lf_2.length : Int)), (15, .int .i64 (i1 : Int))] w) a hF
  clear hF a
  refine we_seq fun K5 hK5 => ?_
  refine we_region [(0, 0)] rfl ?_
  refine ge_batch [0] (ans := []) (vs := [(16, .bool (decide ((i1 : Int) < (lf_2.length : Int))))]) (l := []) (by kernel_rfl) trivial ?_
  refine ge_nil fun a hF => hK5 _ _ ?_ a hF
  refine we_seq fun K6 hK6 => ?_
  by_cases hc1 : (i1 : Int) < (lf_2.length : Int)
  · rw [if_pos hc1] at h
    refine we_known (t := 16) (b := decide ((i1 : Int) < (lf_2.length : Int))) (v := true) (by kernel_rfl) (decide_eq_true hc1) ?_
    refine we_true (by kernel_rfl) ?_
    refine we_skip fun a hF => hK6 _ _ ?_ a hF
    refine we_seq fun K7 hK7 => ?_
    refine we_block ?_
    refine we_seq fun K8 hK8 => ?_
    refine we_region [(0, 0), (1, 0), (2, 1), (3, 2)] rfl ?_
    rcases hx1 : lf_2[i1]? with _ | e1
    · rw [hx1] at h; cases h
    rw [hx1] at h
    simp only [] at h
    refine ge_index (d := 17) (ty := 0) (t := 22) (el := 46) (sz := 7) (m := lf_2.length) (c := cf_2) (x := (.tmp 13)) (y := (.tmp 15)) (A := Af_2) (k' := .i64) (j := (i1 : Int)) (jn := i1) (b0 := blkOf Af_2) (o0 := offOf Af_2) (by kernel_rfl) (by kernel_rfl) (by kernel_rfl) (by kernel_rfl) (by kernel_rfl) ((hS.rd hRf_2).eqSome (pos_of_get hx1)) rfl (lt_of_get hx1) ?_
    refine ge_batch [1] (ans := [.val (.string e1.Name), .val (.int .i64 e1.C), .val (.int .i64 e1.T), .val (.int .i64 e1.D), .val (.int .i64 e1.J), .val (.int .i64 e1.O), .val (.int .i64 e1.P)]) (vs := [(18, .agg #[.string e1.Name, .int .i64 e1.C, .int .i64 e1.T, .int .i64 e1.D, .int .i64 e1.J, .int .i64 e1.O, .int .i64 e1.P])]) (l := [.loaded ⟨blkOf Af_2, offOf Af_2 + i1 * 7, none⟩ (.string e1.Name), .loaded ⟨blkOf Af_2, offOf Af_2 + i1 * 7 + 1, none⟩ (.int .i64 e1.C), .loaded ⟨blkOf Af_2, offOf Af_2 + i1 * 7 + 2, none⟩ (.int .i64 e1.T), .loaded ⟨blkOf Af_2, offOf Af_2 + i1 * 7 + 3, none⟩ (.int .i64 e1.D), .loaded ⟨blkOf Af_2, offOf Af_2 + i1 * 7 + 4, none⟩ (.int .i64 e1.J), .loaded ⟨blkOf Af_2, offOf Af_2 + i1 * 7 + 5, none⟩ (.int .i64 e1.O), .loaded ⟨blkOf Af_2, offOf Af_2 + i1 * 7 + 6, none⟩ (.int .i64 e1.P)]) (by kernel_rfl) ⟨RdL.cell (j := 0) (hS.rd hRf_2) hx1 rfl, RdL.cell (j := 1) (hS.rd hRf_2) hx1 rfl, RdL.cell (j := 2) (hS.rd hRf_2) hx1 rfl, RdL.cell (j := 3) (hS.rd hRf_2) hx1 rfl, RdL.cell (j := 4) (hS.rd hRf_2) hx1 rfl, RdL.cell (j := 5) (hS.rd hRf_2) hx1 rfl, RdL.cell (j := 6) (hS.rd hRf_2) hx1 rfl, trivial⟩ ?_
    refine ge_new (d := some 8) (o := .cells #[.string (⟨#[]⟩), .int .i64 0, .int .i64 0, .int .i64 0, .int .i64 0, .int .i64 0, .int .i64 0] 46) (v := fun b => .pointer (some ⟨b, 0, none⟩)) hS (fun b => by kernel_rfl) fun b1 w1 hx2 hS1 => ?_
    refine ge_set (b := b1) (j := 0) (cs := #[.string (⟨#[]⟩), .int .i64 0, .int .i64 0, .int .i64 0, .int .i64 0, .int .i64 0, .int .i64 0]) (t := 46) (vs := [.string e1.Name, .int .i64 e1.C, .int .i64 e1.T, .int .i64 e1.D, .int .i64 e1.J, .int .i64 e1.O, .int .i64 e1.P]) hS1 (by kernel_rfl) rfl rfl fun w2 hS2 => ?_
    have hS3 : St w0 w2 [Own.blk b1 (.cells #[.string e1.Name, .int .i64 e1.C, .int .i64 e1.T, .int .i64 e1.D, .int .i64 e1.J, .int .i64 e1.O, .int .i64 e1.P] 46 (0, 0))] := hS2
    refine ge_nil fun a hF => hK8 _ _ ?_ a hF
    refine we_draws (by kernel_rfl) [(0, 0), (1, 0), (2, 0), (3, 0), (4, 0), (5, 0), (6, 0), (8, 0), (9, 0), (7, 1), (10, 0), (11, 0), (12, 0)] (by kernel_rfl) ?_
    have hS4 := hS3.drew
    rcases hq1 : fixed_ceil.f (IntKind.i64.wrap (x0 + e1.J)) e1.T with _ | r1
    · rw [hq1] at h; cases h
    rw [hq1] at h
    simp only [] at h
    refine ge_batch [0, 1, 2, 3, 4, 5, 6, 8, 9] (ans := [.val (.int .i64 e1.J), .val (.int .i64 e1.T), .val (.int .i64 e1.C)]) (vs := [(28, .int .i64 e1.C), (27, .pointer (some ⟨b1, 1, none⟩)), (25, .int .i64 e1.T), (24, .pointer (some ⟨b1, 2, none⟩)), (23, .int .i64 (IntKind.i64.wrap (x0 + e1.J))), (22, .int .i64 e1.J), (21, .pointer (some ⟨b1, 4, none⟩)), (20, .int .i64 x0), (19, .int .i64 z1)]) (l := [.loaded ⟨b1, 4, none⟩ (.int .i64 e1.J), .loaded ⟨b1, 2, none⟩ (.int .i64 e1.T), .loaded ⟨b1, 1, none⟩ (.int .i64 e1.C)]) (by kernel_rfl) ⟨hS4.cell 0 rfl rfl, hS4.cell 0 rfl rfl, hS4.cell 0 rfl rfl, trivial⟩ ?_
    refine ge_call (d := some 26) (f := 52) (args := #[.int .i64 (IntKind.i64.wrap (x0 + e1.J)), .int .i64 e1.T]) (by kernel_rfl) (fixed_ceil_ok (IntKind.i64.wrap (x0 + e1.J)) e1.T _ _ hq1) ?_
    rintro _ w3 ⟨rfl, hS5⟩
    refine ⟨_, rfl, hS5.below, ?_⟩
    have hS6 := hS4.call hS5
    refine ge_batch [10, 11, 12] (ans := []) (vs := [(6, .int .i64 (IntKind.i64.wrap (z1 + (IntKind.i64.wrap (r1 * e1.C))))), (30, .int .i64 (IntKind.i64.wrap (z1 + (IntKind.i64.wrap (r1 * e1.C))))), (29, .int .i64 (IntKind.i64.wrap (r1 * e1.C)))]) (l := []) (by kernel_rfl) trivial ?_
    refine ge_nil fun a hF => hK7 _ _ ?_ a hF
    refine we_region [(0, 0), (1, 0)] rfl ?_
    refine ge_addn (d := 31) (ty := 3) (x := (.tmp 15)) (y := (.const (.int .i64 1))) (t := 3) (t2 := 3) (k := .i64) (m := i1) (by kernel_rfl) (by kernel_rfl) (by kernel_rfl) (by have h0 := hRf_2.small; omega) ?_
    refine ge_batch [1] (ans := []) (vs := [(15, .int .i64 ((i1 + 1 : Nat) : Int))]) (l := []) (by kernel_rfl) trivial ?_
    have hS7 := hS6.takeN 0
    obtain rfl := Option.some.inj h
    exact ge_nil fun a hF => hQ _ _ _ (Outs.again ⟨hS7, hF.weaken ⟨by kernel_rfl, by kernel_rfl, by kernel_rfl, by kernel_rfl, by kernel_rfl, trivial⟩⟩)
  · rw [if_neg hc1] at h
    refine we_known (t := 16) (b := decide ((i1 : Int) < (lf_2.length : Int))) (v := false) (by kernel_rfl) (decide_eq_false hc1) ?_
    refine we_false (by kernel_rfl) ?_
    obtain rfl := Option.some.inj h
    exact we_exit fun a hF => hQ _ _ _ (Outs.out nofun (Exits.here ⟨hS, hF.weaken ⟨by kernel_rfl, trivial⟩⟩))
theorem fixed_response_1_ok (K : Nat) (x0 : Int) (bf_0 : Nat) (xf_0 : STask) (bf_1 : Nat) (xf_1 : Int) (bf_2 : Nat) (lf_2 : List STask) (Af_2 : Option Addr) (cf_2 : Nat) (w0 : World) (hBf_0 : Glob w0 bf_0 [.string xf_0.Name, .int .i64 xf_0.C, .int .i64 xf_0.T, .int .i64 xf_0.D, .int .i64 xf_0.J, .int .i64 xf_0.O, .int .i64 xf_0.P]) (hBf_1 : Glob w0 bf_1 [.int .i64 xf_1]) (hRf_2 : RdL w0 Af_2 lf_2) (hLf_2 : lf_2.length ≤ cf_2) (hBf_2 : Glob w0 bf_2 [.slice Af_2 lf_2.length cf_2]) (r : Int) (h : fixed_response_1.f K x0 xf_0 xf_1 lf_2 = some r) :
    Calls Try.prog 51 #[.int .i64 x0, .pointer (some ⟨bf_0, 0, none⟩), .pointer (some ⟨bf_1, 0, none⟩), .pointer (some ⟨bf_2, 0, none⟩)] w0 (fixed_response_1.Post w0 r) := by
  have hS := St.start w0
  unfold fixed_response_1.f at h
  refine calls_enter (n := 33) (args := [.int .i64 x0, .pointer (some ⟨bf_0, 0, none⟩), .pointer (some ⟨bf_1, 0, none⟩), .pointer (some ⟨bf_2, 0, none⟩)]) (fn := Try.f51) rfl rfl rfl rfl ?_
  show WE _ _ _ _ [(0, .int .i64 x0), (1, .pointer (some ⟨bf_0, 0, none⟩)), (2, .pointer (some ⟨bf_1, 0, none⟩)), (3, .pointer (some ⟨bf_2, 0, none⟩))] _
  refine we_seq fun K1 hK1 => ?_
  refine we_region [(0, 0)] rfl ?_
  refine ge_batch [0] (ans := []) (vs := [(5, .int .i64 0)]) (l := []) (by kernel_rfl) trivial ?_
  refine ge_nil fun a hF => hK1 _ _ ?_ a hF
  refine we_seq fun K2 hK2 => ?_
  refine we_region [(0, 0), (1, 0), (2, 0), (3, 0), (4, 0)] rfl ?_
  refine ge_batch [0, 1, 2, 3, 4] (ans := [.val (.int .i64 xf_0.C), .val (.int .i64 xf_1)]) (vs := [(6, .int .i64 (IntKind.i64.wrap (xf_0.C + xf_1))), (12, .int .i64 (IntKind.i64.wrap (xf_0.C + xf_1))), (11, .int .i64 xf_1), (10, .int .i64 xf_0.C), (9, .pointer (some ⟨bf_0, 1, none⟩))]) (l := [.loaded ⟨bf_0, 1, none⟩ (.int .i64 xf_0.C), .loaded ⟨bf_1, 0, none⟩ (.int .i64 xf_1)]) (by kernel_rfl) ⟨hS.glob hBf_0 rfl, hS.glob hBf_1 rfl, trivial⟩ ?_
  refine ge_nil fun a hF => hK2 _ _ ?_ a hF
  refine we_seq fun K3 hK3 => ?_
  refine we_seq fun K4 hK4 => ?_
  refine we_region [(0, 0), (1, 0), (2, 0)] rfl ?_
  refine ge_batch [0, 1, 2] (ans := [.val (.slice Af_2 lf_2.length cf_2)]) (vs := [(15, .int .i64 0), (14, .int .i64 (lf_2.length : Int)), (13, .slice Af_2 lf_2.length cf_2)]) (l := [.loaded ⟨bf_2, 0, none⟩ (.slice Af_2 lf_2.length cf_2)]) (by kernel_rfl) ⟨hS.glob hBf_2 rfl, trivial⟩ ?_
  refine ge_nil fun a hF => hK4 _ _ ?_ a hF
  refine we_block ?_
  rcases hq2 : iter (fixed_response_1.r0 x0 lf_2) K (IntKind.i64.wrap (xf_0.C + xf_1), 0) with _ | (z3 | rr1)
  · rw [hq2] at h; cases h
  · rw [hq2] at h
    simp only [] at h
    refine we_iter (A := fixed_response_1.A0 K w0 x0 bf_0 xf_0 bf_1 xf_1 bf_2 lf_2 Af_2 cf_2 hBf_0 hBf_1 hRf_2 hLf_2 hBf_2) (B := fixed_response_1.B0 K w0 x0 bf_0 xf_0 bf_1 xf_1 bf_2 lf_2 Af_2 cf_2 hBf_0 hBf_1 hRf_2 hLf_2 hBf_2) hq2 (fun a hF => ⟨hS, hF.weaken ⟨by kernel_rfl, by kernel_rfl, by kernel_rfl, by kernel_rfl, by kernel_rfl, trivial⟩⟩) (fun s o hf a w hA Q hQ => fixed_response_1_r0 K w0 x0 bf_0 xf_0 bf_1 xf_1 bf_2 lf_2 Af_2 cf_2 hBf_0 hBf_1 hRf_2 hLf_2 hBf_2 s o hf a w hA Q hQ) ?_
    rintro _ a w4 _ ⟨rfl, hS8, hF⟩
    replace hS8 : St w0 w4 [] := hS8
    refine hK3 [(6, .int .i64 z3)] w4 ?_ a hF
    refine we_seq fun K9 hK9 => ?_
    refine we_region [(0, 0), (1, 0)] rfl ?_
    refine ge_batch [0, 1] (ans := []) (vs := [(5, .int .i64 z3), (32, .int .i64 z3)]) (l := []) (by kernel_rfl) trivial ?_
    refine ge_nil fun a hF => hK9 _ _ ?_ a hF
    obtain rfl := Option.some.inj h
    exact we_ret (post_ret (rs := [.tmp 5]) (ans := []) (vs := [.int .i64 z3]) (l := []) rfl (by kernel_rfl) trivial ⟨rfl, hS8⟩)
  · rw [hq2] at h
    simp only [] at h
    refine we_iter (A := fixed_response_1.A0 K w0 x0 bf_0 xf_0 bf_1 xf_1 bf_2 lf_2 Af_2 cf_2 hBf_0 hBf_1 hRf_2 hLf_2 hBf_2) (B := fixed_response_1.B0 K w0 x0 bf_0 xf_0 bf_1 xf_1 bf_2 lf_2 Af_2 cf_2 hBf_0 hBf_1 hRf_2 hLf_2 hBf_2) hq2 (fun a hF => ⟨hS, hF.weaken ⟨by kernel_rfl, by kernel_rfl, by kernel_rfl, by kernel_rfl, by kernel_rfl, trivial⟩⟩) (fun s o hf a w hA Q hQ => fixed_response_1_r0 K w0 x0 bf_0 xf_0 bf_1 xf_1 bf_2 lf_2 Af_2 cf_2 hBf_0 hBf_1 hRf_2 hLf_2 hBf_2 s o hf a w hA Q hQ) ?_
    rintro _ a w1 _ ⟨rfl, hb⟩
    obtain rfl := Option.some.inj h
    exact hb

/-! punctual/fixed.Settle -/
abbrev fixed_Settle.Post (w0 : World) (r : Int) (e : Ending) (w : World) : Prop := e = .returned (.int .i64 r) ∧ St w0 w []
def fixed_Settle.r0 (K : Nat) (x1 : Int) (xg2_0 : STask) (xg2_1 : Int) (lg2_2 : List STask) : Int → Option (Int ⊕ (Unit ⊕ Int))
  | z1 =>
    if z1 ≤ x1 then
      match fixed_response_1.f K z1 xg2_0 xg2_1 lg2_2 with
      | none => none
      | some r1 =>
        if r1 ≤ z1 then
          some (.inr (.inr z1))
        else
          some (.inl r1)
    else
      some (.inr (.inl ()))
def fixed_Settle.f (K : Nat) (x0 : Int) (x1 : Int) (xg2_0 : STask) (xg2_1 : Int) (lg2_2 : List STask) : Option Int :=
  match iter (fixed_Settle.r0 K x1 xg2_0 xg2_1 lg2_2) K x0 with
  | none => none
  | some (.inl _) =>
    some 0
  | some (.inr rr1) =>
    some rr1
abbrev fixed_Settle.A0 (K : Nat) (w0 : World) (x0 : Int) (x1 : Int) (bg2_0 : Nat) (xg2_0 : STask) (bg2_1 : Nat) (xg2_1 : Int) (bg2_2 : Nat) (lg2_2 : List STask) (Ag2_2 : Option Addr) (cg2_2 : Nat) (hBg2_0 : Glob w0 bg2_0 [.string xg2_0.Name, .int .i64 xg2_0.C, .int .i64 xg2_0.T, .int .i64 xg2_0.D, .int .i64 xg2_0.J, .int .i64 xg2_0.O, .int .i64 xg2_0.P]) (hBg2_1 : Glob w0 bg2_1 [.int .i64 xg2_1]) (hRg2_2 : RdL w0 Ag2_2 lg2_2) (hLg2_2 : lg2_2.length ≤ cg2_2) (hBg2_2 : Glob w0 bg2_2 [.slice Ag2_2 lg2_2.length cg2_2]) : Int → Act → World → Prop := fun (s : Int) a w => St w0 w [] ∧ Frm 21 a [(1, .int .i64 x1), (2, .func (.func 51) #[] #[.pointer (some ⟨bg2_0, 0, none⟩), .pointer (some ⟨bg2_1, 0, none⟩), .pointer (some ⟨bg2_2, 0, none⟩)]), (7, .int .i64 s)]
abbrev fixed_Settle.B0 (K : Nat) (w0 : World) (x0 : Int) (x1 : Int) (bg2_0 : Nat) (xg2_0 : STask) (bg2_1 : Nat) (xg2_1 : Int) (bg2_2 : Nat) (lg2_2 : List STask) (Ag2_2 : Option Addr) (cg2_2 : Nat) (hBg2_0 : Glob w0 bg2_0 [.string xg2_0.Name, .int .i64 xg2_0.C, .int .i64 xg2_0.T, .int .i64 xg2_0.D, .int .i64 xg2_0.J, .int .i64 xg2_0.O, .int .i64 xg2_0.P]) (hBg2_1 : Glob w0 bg2_1 [.int .i64 xg2_1]) (hRg2_2 : RdL w0 Ag2_2 lg2_2) (hLg2_2 : lg2_2.length ≤ cg2_2) (hBg2_2 : Glob w0 bg2_2 [.slice Ag2_2 lg2_2.length cg2_2]) : (Unit ⊕ Int) → Exit → Act → World → Prop := Exits 0 (fun (s : Unit) a w => St w0 w [] ∧ Frm 21 a []) (Rets Try.prog Try.f50 (fixed_Settle.Post w0))
theorem fixed_Settle_r0 (K : Nat) (w0 : World) (x0 : Int) (x1 : Int) (bg2_0 : Nat) (xg2_0 : STask) (bg2_1 : Nat) (xg2_1 : Int) (bg2_2 : Nat) (lg2_2 : List STask) (Ag2_2 : Option Addr) (cg2_2 : Nat) (hBg2_0 : Glob w0 bg2_0 [.string xg2_0.Name, .int .i64 xg2_0.C, .int .i64 xg2_0.T, .int .i64 xg2_0.D, .int .i64 xg2_0.J, .int .i64 xg2_0.O, .int .i64 xg2_0.P]) (hBg2_1 : Glob w0 bg2_1 [.int .i64 xg2_1]) (hRg2_2 : RdL w0 Ag2_2 lg2_2) (hLg2_2 : lg2_2.length ≤ cg2_2) (hBg2_2 : Glob w0 bg2_2 [.slice Ag2_2 lg2_2.length cg2_2]) (s : Int) (o : Int ⊕ (Unit ⊕ Int)) (h : fixed_Settle.r0 K x1 xg2_0 xg2_1 lg2_2 s = some o) (a : Act) (w : World) (hA : fixed_Settle.A0 K w0 x0 x1 bg2_0 xg2_0 bg2_1 xg2_1 bg2_2 lg2_2 Ag2_2 cg2_2 hBg2_0 hBg2_1 hRg2_2 hLg2_2 hBg2_2 s a w) (Q : Exit → Act → World → Prop) (hQ : ∀ x a w, Outs (fixed_Settle.A0 K w0 x0 x1 bg2_0 xg2_0 bg2_1 xg2_1 bg2_2 lg2_2 Ag2_2 cg2_2 hBg2_0 hBg2_1 hRg2_2 hLg2_2 hBg2_2) (fixed_Settle.B0 K w0 x0 x1 bg2_0 xg2_0 bg2_1 xg2_1 bg2_2 lg2_2 Ag2_2 cg2_2 hBg2_0 hBg2_1 hRg2_2 hLg2_2 hBg2_2) o x a w → Q x a w) : (subF Try.f50 [1, 0, 1, 0, 0]).wp Try.prog Q a w := by
  obtain ⟨z1, hs⟩ : ∃ z, z = s := ⟨s, rfl⟩
  subst hs
  obtain ⟨hS, hF⟩ := hA
  replace hS : St w0 w [] := hS
  simp only [fixed_Settle.r0] at h
  refine (?_ : WE Try.prog 21 (subF Try.f50 [1, 0, 1, 0, 0]) Q [(1, .int .i64 x1), (2, .func (.func 51) #[] #[.pointer (some ⟨bg2_0, 0, none⟩), .pointer (some ⟨bg2_1, 0, none⟩), .pointer (some ⟨bg2_2, 0, none⟩)]), (7, .int .i64 z1)] w) a hF
  clear hF a
  refine we_seq fun K4 hK4 => ?_
  refine we_seq fun K5 hK5 => ?_
  refine we_region [(0, 0), (1, 0), (2, 0)] rfl ?_
  refine ge_batch [0, 1, 2] (ans := []) (vs := [(12, .bool (decide (z1 ≤ x1))), (11, .int .i64 x1), (10, .int .i64 z1)]) (l := []) (by kernel_rfl) trivial ?_
  refine ge_nil fun a hF => hK5 _ _ ?_ a hF
  by_cases hc1 : z1 ≤ x1
  · rw [if_pos hc1] at h
    refine we_known (t := 12) (b := decide (z1 ≤ x1)) (v := true) (by kernel_rfl) (decide_eq_true hc1) ?_
    refine we_true (by kernel_rfl) ?_
    refine we_skip fun a hF => hK4 _ _ ?_ a hF
    refine we_block ?_
    refine we_seq fun K6 hK6 => ?_
    refine we_region [(0, 0), (1, 0), (2, 1), (3, 0)] rfl ?_
    rcases hq1 : fixed_response_1.f K z1 xg2_0 xg2_1 lg2_2 with _ | r1
    · rw [hq1] at h; cases h
    rw [hq1] at h
    simp only [] at h
    refine ge_batch [0, 1] (ans := []) (vs := [(14, .int .i64 z1), (13, .func (.func 51) #[] #[.pointer (some ⟨bg2_0, 0, none⟩), .pointer (some ⟨bg2_1, 0, none⟩), .pointer (some ⟨bg2_2, 0, none⟩)])]) (l := []) (by kernel_rfl) trivial ?_
    refine ge_call (d := some 15) (f := 51) (args := #[.int .i64 z1, .pointer (some ⟨bg2_0, 0, none⟩), .pointer (some ⟨bg2_1, 0, none⟩), .pointer (some ⟨bg2_2, 0, none⟩)]) (by kernel_rfl) (fixed_response_1_ok K z1 bg2_0 xg2_0 bg2_1 xg2_1 bg2_2 lg2_2 Ag2_2 cg2_2 _ (Glob.ext hBg2_0 hS.below) (Glob.ext hBg2_1 hS.below) (hS.rd hRg2_2) hLg2_2 (Glob.ext hBg2_2 hS.below) _ hq1) ?_
    rintro _ w1 ⟨rfl, hS1⟩
    refine ⟨_, rfl, hS1.below, ?_⟩
    have hS2 := hS.call hS1
    refine ge_batch [3] (ans := []) (vs := [(8, .int .i64 r1)]) (l := []) (by kernel_rfl) trivial ?_
    refine ge_nil fun a hF => hK6 _ _ ?_ a hF
    refine we_seq fun K7 hK7 => ?_
    refine we_seq fun K8 hK8 => ?_
    refine we_region [(0, 0), (1, 0), (2, 0)] rfl ?_
    refine ge_batch [0, 1, 2] (ans := []) (vs := [(18, .bool (decide (r1 ≤ z1))), (17, .int .i64 z1), (16, .int .i64 r1)]) (l := []) (by kernel_rfl) trivial ?_
    refine ge_nil fun a hF => hK8 _ _ ?_ a hF
    by_cases hc2 : r1 ≤ z1
    · rw [if_pos hc2] at h
      refine we_known (t := 18) (b := decide (r1 ≤ z1)) (v := true) (by kernel_rfl) (decide_eq_true hc2) ?_
      refine we_true (by kernel_rfl) ?_
      refine we_seq fun K9 hK9 => ?_
      refine we_region [(0, 0), (1, 0)] rfl ?_
      refine ge_batch [0, 1] (ans := []) (vs := [(6, .int .i64 z1), (19, .int .i64 z1)]) (l := []) (by kernel_rfl) trivial ?_
      refine ge_nil fun a hF => hK9 _ _ ?_ a hF
      obtain rfl := Option.some.inj h
      exact we_ret fun a hF => hQ _ _ _ (Outs.out nofun (Exits.on ⟨rfl, (post_ret (rs := [.tmp 6]) (ans := []) (vs := [.int .i64 z1]) (l := []) rfl (by kernel_rfl) trivial ⟨rfl, hS2⟩) a hF⟩))
    · rw [if_neg hc2] at h
      refine we_known (t := 18) (b := decide (r1 ≤ z1)) (v := false) (by kernel_rfl) (decide_eq_false hc2) ?_
      refine we_false (by kernel_rfl) ?_
      refine we_skip fun a hF => hK7 _ _ ?_ a hF
      refine we_region [(0, 0), (1, 0)] rfl ?_
      refine ge_batch [0, 1] (ans := []) (vs := [(7, .int .i64 r1), (20, .int .i64 r1)]) (l := []) (by kernel_rfl) trivial ?_
      obtain rfl := Option.some.inj h
      exact ge_nil fun a hF => hQ _ _ _ (Outs.again ⟨hS2, hF.weaken ⟨by kernel_rfl, by kernel_rfl, by kernel_rfl, trivial⟩⟩)
  · rw [if_neg hc1] at h
    refine we_known (t := 12) (b := decide (z1 ≤ x1)) (v := false) (by kernel_rfl) (decide_eq_false hc1) ?_
    refine we_false (by kernel_rfl) ?_
    obtain rfl := Option.some.inj h
    exact we_exit fun a hF => hQ _ _ _ (Outs.out nofun (Exits.here ⟨hS, hF.weaken trivial⟩))
theorem fixed_Settle_ok (K : Nat) (x0 : Int) (x1 : Int) (bg2_0 : Nat) (xg2_0 : STask) (bg2_1 : Nat) (xg2_1 : Int) (bg2_2 : Nat) (lg2_2 : List STask) (Ag2_2 : Option Addr) (cg2_2 : Nat) (w0 : World) (hBg2_0 : Glob w0 bg2_0 [.string xg2_0.Name, .int .i64 xg2_0.C, .int .i64 xg2_0.T, .int .i64 xg2_0.D, .int .i64 xg2_0.J, .int .i64 xg2_0.O, .int .i64 xg2_0.P]) (hBg2_1 : Glob w0 bg2_1 [.int .i64 xg2_1]) (hRg2_2 : RdL w0 Ag2_2 lg2_2) (hLg2_2 : lg2_2.length ≤ cg2_2) (hBg2_2 : Glob w0 bg2_2 [.slice Ag2_2 lg2_2.length cg2_2]) (r : Int) (h : fixed_Settle.f K x0 x1 xg2_0 xg2_1 lg2_2 = some r) :
    Calls Try.prog 50 #[.int .i64 x0, .int .i64 x1, .func (.func 51) #[] #[.pointer (some ⟨bg2_0, 0, none⟩), .pointer (some ⟨bg2_1, 0, none⟩), .pointer (some ⟨bg2_2, 0, none⟩)]] w0 (fixed_Settle.Post w0 r) := by
  have hS := St.start w0
  unfold fixed_Settle.f at h
  refine calls_enter (n := 21) (args := [.int .i64 x0, .int .i64 x1, .func (.func 51) #[] #[.pointer (some ⟨bg2_0, 0, none⟩), .pointer (some ⟨bg2_1, 0, none⟩), .pointer (some ⟨bg2_2, 0, none⟩)]]) (fn := Try.f50) rfl rfl rfl rfl ?_
  show WE _ _ _ _ [(0, .int .i64 x0), (1, .int .i64 x1), (2, .func (.func 51) #[] #[.pointer (some ⟨bg2_0, 0, none⟩), .pointer (some ⟨bg2_1, 0, none⟩), .pointer (some ⟨bg2_2, 0, none⟩)])] _
  refine we_seq fun K1 hK1 => ?_
  refine we_region [(0, 0)] rfl ?_
  refine ge_batch [0] (ans := []) (vs := [(6, .int .i64 0)]) (l := []) (by kernel_rfl) trivial ?_
  refine ge_nil fun a hF => hK1 _ _ ?_ a hF
  refine we_seq fun K2 hK2 => ?_
  refine we_seq fun K3 hK3 => ?_
  refine we_region [(0, 0), (1, 0)] rfl ?_
  refine ge_batch [0, 1] (ans := []) (vs := [(7, .int .i64 x0), (9, .int .i64 x0)]) (l := []) (by kernel_rfl) trivial ?_
  refine ge_nil fun a hF => hK3 _ _ ?_ a hF
  refine we_block ?_
  rcases hq2 : iter (fixed_Settle.r0 K x1 xg2_0 xg2_1 lg2_2) K x0 with _ | (_ | rr1)
  · rw [hq2] at h; cases h
  · rw [hq2] at h
    simp only [] at h
    refine we_iter (A := fixed_Settle.A0 K w0 x0 x1 bg2_0 xg2_0 bg2_1 xg2_1 bg2_2 lg2_2 Ag2_2 cg2_2 hBg2_0 hBg2_1 hRg2_2 hLg2_2 hBg2_2) (B := fixed_Settle.B0 K w0 x0 x1 bg2_0 xg2_0 bg2_1 xg2_1 bg2_2 lg2_2 Ag2_2 cg2_2 hBg2_0 hBg2_1 hRg2_2 hLg2_2 hBg2_2) hq2 (fun a hF => ⟨hS, hF.weaken ⟨by kernel_rfl, by kernel_rfl, by kernel_rfl, trivial⟩⟩) (fun s o hf a w hA Q hQ => fixed_Settle_r0 K w0 x0 x1 bg2_0 xg2_0 bg2_1 xg2_1 bg2_2 lg2_2 Ag2_2 cg2_2 hBg2_0 hBg2_1 hRg2_2 hLg2_2 hBg2_2 s o hf a w hA Q hQ) ?_
    rintro _ a w2 _ ⟨rfl, hS3, hF⟩
    replace hS3 : St w0 w2 [] := hS3
    refine hK2 [] w2 ?_ a hF
    refine we_seq fun K10 hK10 => ?_
    refine we_region [(0, 0)] rfl ?_
    refine ge_batch [0] (ans := []) (vs := [(6, .int .i64 0)]) (l := []) (by kernel_rfl) trivial ?_
    refine ge_nil fun a hF => hK10 _ _ ?_ a hF
    obtain rfl := Option.some.inj h
    exact we_ret (post_ret (rs := [.tmp 6]) (ans := []) (vs := [.int .i64 0]) (l := []) rfl (by kernel_rfl) trivial ⟨rfl, hS3⟩)
  · rw [hq2] at h
    simp only [] at h
    refine we_iter (A := fixed_Settle.A0 K w0 x0 x1 bg2_0 xg2_0 bg2_1 xg2_1 bg2_2 lg2_2 Ag2_2 cg2_2 hBg2_0 hBg2_1 hRg2_2 hLg2_2 hBg2_2) (B := fixed_Settle.B0 K w0 x0 x1 bg2_0 xg2_0 bg2_1 xg2_1 bg2_2 lg2_2 Ag2_2 cg2_2 hBg2_0 hBg2_1 hRg2_2 hLg2_2 hBg2_2) hq2 (fun a hF => ⟨hS, hF.weaken ⟨by kernel_rfl, by kernel_rfl, by kernel_rfl, trivial⟩⟩) (fun s o hf a w hA Q hQ => fixed_Settle_r0 K w0 x0 x1 bg2_0 xg2_0 bg2_1 xg2_1 bg2_2 lg2_2 Ag2_2 cg2_2 hBg2_0 hBg2_1 hRg2_2 hLg2_2 hBg2_2 s o hf a w hA Q hQ) ?_
    rintro _ a w1 _ ⟨rfl, hb⟩
    obtain rfl := Option.some.inj h
    exact hb

/-! punctual/fixed.response -/
abbrev fixed_response.Post (w0 : World) (r : Int) (e : Ending) (w : World) : Prop := e = .returned (.int .i64 r) ∧ St w0 w []
def fixed_response.f (K : Nat) (x0 : STask) (l1 : List STask) (x2 : Int) : Option Int :=
  match fixed_Settle.f K (IntKind.i64.wrap (x0.C + x2)) (IntKind.i64.wrap (x0.D - x0.J)) x0 x2 l1 with
  | none => none
  | some r1 =>
    if r1 = 0 then
      some 0
    else
      some (IntKind.i64.wrap (r1 + x0.J))
theorem fixed_response_ok (K : Nat) (x0 : STask) (l1 : List STask) (A1 : Option Addr) (c1 : Nat) (x2 : Int) (w0 : World) (hR1 : RdL w0 A1 l1) (hL1 : l1.length ≤ c1) (r : Int) (h : fixed_response.f K x0 l1 x2 = some r) :
    Calls Try.prog 34 #[.agg #[.string x0.Name, .int .i64 x0.C, .int .i64 x0.T, .int .i64 x0.D, .int .i64 x0.J, .int .i64 x0.O, .int .i64 x0.P], .slice A1 l1.length c1, .int .i64 x2] w0 (fixed_response.Post w0 r) := by
  have hS := St.start w0
  unfold fixed_response.f at h
  refine calls_enter (n := 25) (args := [.agg #[.string x0.Name, .int .i64 x0.C, .int .i64 x0.T, .int .i64 x0.D, .int .i64 x0.J, .int .i64 x0.O, .int .i64 x0.P], .slice A1 l1.length c1, .int .i64 x2]) (fn := Try.f34) rfl rfl rfl rfl ?_
  show WE _ _ _ _ [(0, .agg #[.string x0.Name, .int .i64 x0.C, .int .i64 x0.T, .int .i64 x0.D, .int .i64 x0.J, .int .i64 x0.O, .int .i64 x0.P]), (1, .slice A1 l1.length c1), (2, .int .i64 x2)] _
  refine we_seq fun K1 hK1 => ?_
  refine we_region [(0, 1), (1, 1), (2, 1), (3, 0)] rfl ?_
  refine ge_new (d := some 3) (o := .cells #[.string x0.Name, .int .i64 x0.C, .int .i64 x0.T, .int .i64 x0.D, .int .i64 x0.J, .int .i64 x0.O, .int .i64 x0.P] 46) (v := fun b => .pointer (some ⟨b, 0, none⟩)) hS (fun b => by kernel_rfl) fun b1 w1 hx1 hS1 => ?_
  refine ge_new (d := some 4) (o := .cells #[.slice A1 l1.length c1] 22) (v := fun b => .pointer (some ⟨b, 0, none⟩)) hS1 (fun b => by kernel_rfl) fun b2 w2 hx2 hS2 => ?_
  refine ge_new (d := some 5) (o := .cells #[.int .i64 x2] 3) (v := fun b => .pointer (some ⟨b, 0, none⟩)) hS2 (fun b => by kernel_rfl) fun b3 w3 hx3 hS3 => ?_
  refine ge_batch [3] (ans := []) (vs := [(6, .int .i64 0)]) (l := []) (by kernel_rfl) trivial ?_
  refine ge_nil fun a hF => hK1 _ _ ?_ a hF
  refine we_seq fun K2 hK2 => ?_
  refine we_region [(0, 0), (1, 0), (2, 0), (3, 0), (4, 0), (5, 0), (6, 0), (7, 0), (8, 0), (9, 0), (10, 1), (11, 0)] rfl ?_
  rcases hq1 : fixed_Settle.f K (IntKind.i64.wrap (x0.C + x2)) (IntKind.i64.wrap (x0.D - x0.J)) x0 x2 l1 with _ | r1
  · rw [hq1] at h; cases h
  rw [hq1] at h
  simp only [] at h
  refine ge_batch [0, 1, 2, 3, 4, 5, 6, 7, 8, 9] (ans := [.val (.int .i64 x0.C), .val (.int .i64 x2), .val (.int .i64 x0.D), .val (.int .i64 x0.J)]) (vs := [(17, .func (.func 51) #[] #[.pointer (some ⟨b1, 0, none⟩), .pointer (some ⟨b3, 0, none⟩), .pointer (some ⟨b2, 0, none⟩)]), (16, .int .i64 (IntKind.i64.wrap (x0.D - x0.J))), (15, .int .i64 x0.J), (14, .pointer (some ⟨b1, 4, none⟩)), (13, .int .i64 x0.D), (12, .pointer (some ⟨b1, 3, none⟩)), (11, .int .i64 (IntKind.i64.wrap (x0.C + x2))), (10, .int .i64 x2), (9, .int .i64 x0.C), (8, .pointer (some ⟨b1, 1, none⟩))]) (l := [.loaded ⟨b1, 1, none⟩ (.int .i64 x0.C), .loaded ⟨b3, 0, none⟩ (.int .i64 x2), .loaded ⟨b1, 3, none⟩ (.int .i64 x0.D), .loaded ⟨b1, 4, none⟩ (.int .i64 x0.J)]) (by kernel_rfl) ⟨hS3.cell 2 rfl rfl, hS3.cell 0 rfl rfl, hS3.cell 2 rfl rfl, hS3.cell 2 rfl rfl, trivial⟩ ?_
  refine ge_call (d := some 18) (f := 50) (args := #[.int .i64 (IntKind.i64.wrap (x0.C + x2)), .int .i64 (IntKind.i64.wrap (x0.D - x0.J)), .func (.func 51) #[] #[.pointer (some ⟨b1, 0, none⟩), .pointer (some ⟨b3, 0, none⟩), .pointer (some ⟨b2, 0, none⟩)]]) (by kernel_rfl) (fixed_Settle_ok K (IntKind.i64.wrap (x0.C + x2)) (IntKind.i64.wrap (x0.D - x0.J)) b1 x0 b3 x2 b2 l1 A1 c1 _ (hS3.globOf 2 rfl) (hS3.globOf 0 rfl) (hS3.rd hR1) hL1 (hS3.globOf 1 rfl) _ hq1) ?_
  rintro _ w4 ⟨rfl, hS4⟩
  refine ⟨_, rfl, hS4.below, ?_⟩
  have hS5 := hS3.call hS4
  refine ge_batch [11] (ans := []) (vs := [(7, .int .i64 r1)]) (l := []) (by kernel_rfl) trivial ?_
  refine ge_nil fun a hF => hK2 _ _ ?_ a hF
  refine we_seq fun K3 hK3 => ?_
  refine we_seq fun K4 hK4 => ?_
  refine we_region [(0, 0), (1, 0)] rfl ?_
  refine ge_batch [0, 1] (ans := []) (vs := [(20, .bool (r1 == 0)), (19, .int .i64 r1)]) (l := []) (by kernel_rfl) trivial ?_
  refine ge_nil fun a hF => hK4 _ _ ?_ a hF
  by_cases hc1 : r1 = 0
  · rw [if_pos hc1] at h
    refine we_known (t := 20) (b := (r1 == 0)) (v := true) (by kernel_rfl) (beq_iff_eq.2 hc1) ?_
    refine we_true (by kernel_rfl) ?_
    refine we_seq fun K5 hK5 => ?_
    refine we_region [(0, 0)] rfl ?_
    refine ge_batch [0] (ans := []) (vs := [(6, .int .i64 0)]) (l := []) (by kernel_rfl) trivial ?_
    refine ge_nil fun a hF => hK5 _ _ ?_ a hF
    have hS6 := hS5.takeN 0
    obtain rfl := Option.some.inj h
    exact we_ret (post_ret (rs := [.tmp 6]) (ans := []) (vs := [.int .i64 0]) (l := []) rfl (by kernel_rfl) trivial ⟨rfl, hS6⟩)
  · rw [if_neg hc1] at h
    refine we_known (t := 20) (b := (r1 == 0)) (v := false) (by kernel_rfl) (beq_eq_false_iff_ne.2 hc1) ?_
    refine we_false (by kernel_rfl) ?_
    refine we_skip fun a hF => hK3 _ _ ?_ a hF
    refine we_seq fun K6 hK6 => ?_
    refine we_region [(0, 0), (1, 0), (2, 0), (3, 0), (4, 0)] rfl ?_
    refine ge_batch [0, 1, 2, 3, 4] (ans := [.val (.int .i64 x0.J)]) (vs := [(6, .int .i64 (IntKind.i64.wrap (r1 + x0.J))), (24, .int .i64 (IntKind.i64.wrap (r1 + x0.J))), (23, .int .i64 x0.J), (22, .pointer (some ⟨b1, 4, none⟩)), (21, .int .i64 r1)]) (l := [.loaded ⟨b1, 4, none⟩ (.int .i64 x0.J)]) (by kernel_rfl) ⟨hS5.cell 2 rfl rfl, trivial⟩ ?_
    refine ge_nil fun a hF => hK6 _ _ ?_ a hF
    have hS7 := hS5.takeN 0
    obtain rfl := Option.some.inj h
    exact we_ret (post_ret (rs := [.tmp 6]) (ans := []) (vs := [.int .i64 (IntKind.i64.wrap (r1 + x0.J))]) (l := []) rfl (by kernel_rfl) trivial ⟨rfl, hS7⟩)

/-! punctual/fixed.Response -/
abbrev fixed_Response.Post (w0 : World) (r : Int × SFault) (e : Ending) (w : World) : Prop := e = .returned (.tuple #[.int .i64 r.1, .agg #[.int .i64 r.2.Code, .int .i64 r.2.At]]) ∧ St w0 w []
def fixed_Response.p0 (l0 : List STask) (x1 : Int) (x2 : Int) : Option (Bool ⊕ (Int × SFault)) :=
    if x1 < 0 then
      some (.inl true)
    else
      if x1 ≥ (l0.length : Int) then
        some (.inl true)
      else
        if x2 < 0 then
          some (.inl true)
        else
          some (.inl (decide (x2 > 10000)))
def fixed_Response.f (K : Nat) (l0 : List STask) (x1 : Int) (x2 : Int) : Option (Int × SFault) :=
  match fixed_check.f K l0 with
  | none => none
  | some r1 =>
    if r1.Code = 0 then
      match fixed_Response.p0 l0 x1 x2 with
      | none => none
      | some (.inl q2) =>
        if q2 = true then
          some (0, (⟨3, 0⟩ : SFault))
        else
          if 0 ≤ x1 then
            match l0[(x1).toNat]? with
            | none => none
            | some e1 =>
              match fixed_above.f K l0 x1 with
              | none => none
              | some r2 =>
                match fixed_response.f K e1 r2 x2 with
                | none => none
                | some r3 =>
                  if r3 = 0 then
                    some (0, (⟨13, x1⟩ : SFault))
                  else
                    some (r3, (⟨0, 0⟩ : SFault))
          else
            none
      | some (.inr rr1) =>
        some rr1
    else
      some (0, r1)
abbrev fixed_Response.A0 (K : Nat) (w0 : World) (l0 : List STask) (A0 : Option Addr) (c0 : Nat) (x1 : Int) (x2 : Int) (hR0 : RdL w0 A0 l0) (hL0 : l0.length ≤ c0) (b1 : Nat) (r1 : SFault) (b2 : Nat) (hc1 : r1.Code = 0) : Bool → Act → World → Prop := fun (s : Bool) a w => St w0 w [Own.blk b1 (.cells #[.int .i64 0, .int .i64 0] 29 (0, 0))] ∧ Frm 48 a [(0, .slice A0 l0.length c0), (1, .int .i64 x1), (2, .int .i64 x2), (7, .pointer (some ⟨b1, 0, none⟩)), (31, .bool s)]
abbrev fixed_Response.B0 (K : Nat) (w0 : World) (l0 : List STask) (A0 : Option Addr) (c0 : Nat) (x1 : Int) (x2 : Int) (hR0 : RdL w0 A0 l0) (hL0 : l0.length ≤ c0) (b1 : Nat) (r1 : SFault) (b2 : Nat) (hc1 : r1.Code = 0) : (Int × SFault) → Exit → Act → World → Prop := Rets Try.prog Try.f20 (fixed_Response.Post w0)
theorem fixed_Response_p0 (K : Nat) (w0 : World) (l0 : List STask) (A0 : Option Addr) (c0 : Nat) (x1 : Int) (x2 : Int) (hR0 : RdL w0 A0 l0) (hL0 : l0.length ≤ c0) (b1 : Nat) (r1 : SFault) (b2 : Nat) (hc1 : r1.Code = 0) (o : Bool ⊕ (Int × SFault)) (h : fixed_Response.p0 l0 x1 x2 = some o) (w : World) (hS : St w0 w [Own.blk b2 (.cells #[.int .i64 r1.Code, .int .i64 r1.At] 29 (0, 0)), Own.blk b1 (.cells #[.int .i64 0, .int .i64 0] 29 (0, 0))]) (Q : Exit → Act → World → Prop) (hQ : ∀ x a w, Outs (fixed_Response.A0 K w0 l0 A0 c0 x1 x2 hR0 hL0 b1 r1 b2 hc1) (fixed_Response.B0 K w0 l0 A0 c0 x1 x2 hR0 hL0 b1 r1 b2 hc1) o x a w → Q x a w) : WE Try.prog 48 (subF Try.f20 [1, 1, 0, 0]) Q [(0, .slice A0 l0.length c0), (1, .int .i64 x1), (2, .int .i64 x2), (6, .int .i64 0), (7, .pointer (some ⟨b1, 0, none⟩)), (8, .pointer (some ⟨b2, 0, none⟩)), (10, .slice A0 l0.length c0), (11, .agg #[.int .i64 r1.Code, .int .i64 r1.At]), (12, .pointer (some ⟨b2, 0, none⟩)), (13, .int .i64 r1.Code), (14, .bool false)] w := by
  simp only [fixed_Response.p0] at h
  refine we_region [(0, 0), (1, 0), (2, 0), (3, 0), (4, 0), (5, 0), (6, 0), (7, 0), (8, 0), (9, 0), (10, 0), (11, 0), (12, 0), (13, 0), (14, 0), (15, 0)] rfl ?_
  refine ge_batch [0, 1, 2] (ans := []) (vs := [(18, .bool (decide (x1 < 0))), (17, .bool (decide (x1 < 0))), (16, .int .i64 x1)]) (l := []) (by kernel_rfl) trivial ?_
  by_cases hc2 : x1 < 0
  · rw [if_pos hc2] at h
    refine ge_known (t := 18) (b := decide (x1 < 0)) (c := true) (by kernel_rfl) (decide_eq_true hc2) ?_
    refine ge_batch [3, 4, 5, 6, 7, 8, 9, 10, 11, 12, 13, 14, 15] (ans := []) (vs := [(31, .bool true), (30, undef), (29, undef), (28, .bool true), (27, .bool true), (26, undef), (25, undef), (24, .bool true), (23, .bool true), (22, undef), (21, undef), (20, undef), (19, undef)]) (l := []) (by kernel_rfl) trivial ?_
    have hS7 := hS.bring 1 rfl
    have hS8 := hS7.takeN 1
    obtain rfl := Option.some.inj h
    exact ge_nil fun a hF => hQ _ _ _ (Outs.again ⟨hS8, hF.weaken ⟨by kernel_rfl, by kernel_rfl, by kernel_rfl, by kernel_rfl, by kernel_rfl, trivial⟩⟩)
  · rw [if_neg hc2] at h
    refine ge_known (t := 18) (b := decide (x1 < 0)) (c := false) (by kernel_rfl) (decide_eq_false hc2) ?_
    refine ge_batch [3, 4, 5, 6, 7, 8] (ans := []) (vs := [(24, .bool (decide (x1 ≥ (l0.length : Int)))), (23, .bool (decide (x1 ≥ (l0.length : Int)))), (22, .bool (decide (x1 ≥ (l0.length : Int)))), (21, .int .i64 (l0.length : Int)), (20, .slice A0 l0.length c0), (19, .int .i64 x1)]) (l := []) (by kernel_rfl) trivial ?_
    by_cases hc3 : x1 ≥ (l0.length : Int)
    · rw [if_pos hc3] at h
      refine ge_known (t := 24) (b := decide (x1 ≥ (l0.length : Int))) (c := true) (by kernel_rfl) (decide_eq_true hc3) ?_
      refine ge_batch [9, 10, 11, 12, 13, 14, 15] (ans := []) (vs := [(31, .bool true), (30, undef), (29, undef), (28, .bool true), (27, .bool true), (26, undef), (25, undef)]) (l := []) (by kernel_rfl) trivial ?_
      have hS9 := hS.bring 1 rfl
      have hS10 := hS9.takeN 1
      obtain rfl := Option.some.inj h
      exact ge_nil fun a hF => hQ _ _ _ (Outs.again ⟨hS10, hF.weaken ⟨by kernel_rfl, by kernel_rfl, by kernel_rfl, by kernel_rfl, by kernel_rfl, trivial⟩⟩)
    · rw [if_neg hc3] at h
      refine ge_known (t := 24) (b := decide (x1 ≥ (l0.length : Int))) (c := false) (by kernel_rfl) (decide_eq_false hc3) ?_
      refine ge_batch [9, 10, 11, 12] (ans := []) (vs := [(28, .bool (decide (x2 < 0))), (27, .bool (decide (x2 < 0))), (26, .bool (decide (x2 < 0))), (25, .int .i64 x2)]) (l := []) (by kernel_rfl) trivial ?_
      by_cases hc4 : x2 < 0
      · rw [if_pos hc4] at h
        refine ge_known (t := 28) (b := decide (x2 < 0)) (c := true) (by kernel_rfl) (decide_eq_true hc4) ?_
        refine ge_batch [13, 14, 15] (ans := []) (vs := [(31, .bool true), (30, undef), (29, undef)]) (l := []) (by kernel_rfl) trivial ?_
        have hS11 := hS.bring 1 rfl
        have hS12 := hS11.takeN 1
        obtain rfl := Option.some.inj h
        exact ge_nil fun a hF => hQ _ _ _ (Outs.again ⟨hS12, hF.weaken ⟨by kernel_rfl, by kernel_rfl, by kernel_rfl, by kernel_rfl, by kernel_rfl, trivial⟩⟩)
      · rw [if_neg hc4] at h
        refine ge_known (t := 28) (b := decide (x2 < 0)) (c := false) (by kernel_rfl) (decide_eq_false hc4) ?_
        refine ge_batch [13, 14, 15] (ans := []) (vs := [(31, .bool (decide (x2 > 10000))), (30, .bool (decide (x2 > 10000))), (29, .int .i64 x2)]) (l := []) (by kernel_rfl) trivial ?_
        have hS13 := hS.bring 1 rfl
        have hS14 := hS13.takeN 1
        obtain rfl := Option.some.inj h
        exact ge_nil fun a hF => hQ _ _ _ (Outs.again ⟨hS14, hF.weaken ⟨by kernel_rfl, by kernel_rfl, by kernel_rfl, by kernel_rfl, by kernel_rfl, trivial⟩⟩)
theorem fixed_Response_ok (K : Nat) (l0 : List STask) (A0 : Option Addr) (c0 : Nat) (x1 : Int) (x2 : Int) (w0 : World) (hR0 : RdL w0 A0 l0) (hL0 : l0.length ≤ c0) (r : Int × SFault) (h : fixed_Response.f K l0 x1 x2 = some r) :
    Calls Try.prog 20 #[.slice A0 l0.length c0, .int .i64 x1, .int .i64 x2] w0 (fixed_Response.Post w0 r) := by
  have hS := St.start w0
  unfold fixed_Response.f at h
  refine calls_enter (n := 48) (args := [.slice A0 l0.length c0, .int .i64 x1, .int .i64 x2]) (fn := Try.f20) rfl rfl rfl rfl ?_
  show WE _ _ _ _ [(0, .slice A0 l0.length c0), (1, .int .i64 x1), (2, .int .i64 x2)] _
  refine we_seq fun K1 hK1 => ?_
  refine we_region [(0, 0), (1, 1)] rfl ?_
  refine ge_batch [0] (ans := []) (vs := [(6, .int .i64 0)]) (l := []) (by kernel_rfl) trivial ?_
  refine ge_new (d := some 7) (o := .cells #[.int .i64 0, .int .i64 0] 29) (v := fun b => .pointer (some ⟨b, 0, none⟩)) hS (fun b => by kernel_rfl) fun b1 w1 hx1 hS1 => ?_
  refine ge_nil fun a hF => hK1 _ _ ?_ a hF
  refine we_seq fun K2 hK2 => ?_
  refine we_seq fun K3 hK3 => ?_
  refine we_region [(0, 0), (1, 1), (2, 1), (3, 2)] rfl ?_
  rcases hq1 : fixed_check.f K l0 with _ | r1
  · rw [hq1] at h; cases h
  rw [hq1] at h
  simp only [] at h
  refine ge_batch [0] (ans := []) (vs := [(10, .slice A0 l0.length c0)]) (l := []) (by kernel_rfl) trivial ?_
  refine ge_call (d := some 11) (f := 26) (args := #[.slice A0 l0.length c0]) (by kernel_rfl) (fixed_check_ok K l0 A0 c0 _ (hS1.rd hR0) hL0 _ hq1) ?_
  rintro _ w2 ⟨rfl, hS2⟩
  refine ⟨_, rfl, hS2.below, ?_⟩
  have hS3 := hS1.call hS2
  refine ge_new (d := some 8) (o := .cells #[.int .i64 0, .int .i64 0] 29) (v := fun b => .pointer (some ⟨b, 0, none⟩)) hS3 (fun b => by kernel_rfl) fun b2 w3 hx2 hS4 => ?_
  refine ge_set (b := b2) (j := 0) (cs := #[.int .i64 0, .int .i64 0]) (t := 29) (vs := [.int .i64 r1.Code, .int .i64 r1.At]) hS4 (by kernel_rfl) rfl rfl fun w4 hS5 => ?_
  have hS6 : St w0 w4 [Own.blk b2 (.cells #[.int .i64 r1.Code, .int .i64 r1.At] 29 (0, 0)), Own.blk b1 (.cells #[.int .i64 0, .int .i64 0] 29 (0, 0))] := hS5
  refine ge_nil fun a hF => hK3 _ _ ?_ a hF
  refine we_seq fun K4 hK4 => ?_
  refine we_region [(0, 0), (1, 0), (2, 0)] rfl ?_
  refine ge_batch [0, 1, 2] (ans := [.val (.int .i64 r1.Code)]) (vs := [(14, .bool (r1.Code != 0)), (13, .int .i64 r1.Code), (12, .pointer (some ⟨b2, 0, none⟩))]) (l := [.loaded ⟨b2, 0, none⟩ (.int .i64 r1.Code)]) (by kernel_rfl) ⟨hS6.cell 0 rfl rfl, trivial⟩ ?_
  refine ge_nil fun a hF => hK4 _ _ ?_ a hF
  by_cases hc1 : r1.Code = 0
  · rw [if_pos hc1] at h
    refine we_known (t := 14) (b := (r1.Code != 0)) (v := false) (by kernel_rfl) (bne_eq_false_iff_eq.2 hc1) ?_
    refine we_false (by kernel_rfl) ?_
    refine we_skip fun a hF => hK2 _ _ ?_ a hF
    refine we_seq fun K5 hK5 => ?_
    refine we_seq fun K6 hK6 => ?_
    rcases hq2 : fixed_Response.p0 l0 x1 x2 with _ | (q2 | rr1)
    · rw [hq2] at h; cases h
    · rw [hq2] at h
      simp only [] at h
      refine we_keep (e' := [(0, .slice A0 l0.length c0), (1, .int .i64 x1), (2, .int .i64 x2), (6, .int .i64 0), (7, .pointer (some ⟨b1, 0, none⟩)), (8, .pointer (some ⟨b2, 0, none⟩)), (10, .slice A0 l0.length c0), (11, .agg #[.int .i64 r1.Code, .int .i64 r1.At]), (12, .pointer (some ⟨b2, 0, none⟩)), (13, .int .i64 r1.Code), (14, .bool false)]) ⟨by kernel_rfl, by kernel_rfl, by kernel_rfl, by kernel_rfl, by kernel_rfl, by kernel_rfl, by kernel_rfl, by kernel_rfl, by kernel_rfl, by kernel_rfl, by kernel_rfl, trivial⟩ (fixed_Response_p0 K w0 l0 A0 c0 x1 x2 hR0 hL0 b1 r1 b2 hc1 _ hq2 _ hS6 _ ?_)
      rintro _ a w5 ⟨rfl, hS15, hF⟩
      replace hS15 : St w0 w5 [Own.blk b1 (.cells #[.int .i64 0, .int .i64 0] 29 (0, 0))] := hS15
      refine hK6 [(0, .slice A0 l0.length c0), (1, .int .i64 x1), (2, .int .i64 x2), (7, .pointer (some ⟨b1, 0, none⟩)), (31, .bool q2)] w5 ?_ a hF
      by_cases hc5 : q2 = true
      · rw [if_pos hc5] at h
        refine we_known (t := 31) (b := q2) (v := true) (by kernel_rfl) hc5 ?_
        refine we_true (by kernel_rfl) ?_
        refine we_seq fun K7 hK7 => ?_
        refine we_region [(0, 0), (1, 0), (2, 2)] rfl ?_
        refine ge_batch [0, 1] (ans := []) (vs := [(6, .int .i64 0), (32, .agg #[.int .i64 3, .int .i64 0])]) (l := []) (by kernel_rfl) trivial ?_
        refine ge_set (b := b1) (j := 0) (cs := #[.int .i64 0, .int .i64 0]) (t := 29) (vs := [.int .i64 3, .int .i64 0]) hS15 (by kernel_rfl) rfl rfl fun w6 hS16 => ?_
        have hS17 : St w0 w6 [Own.blk b1 (.cells #[.int .i64 3, .int .i64 0] 29 (0, 0))] := hS16
        refine ge_nil fun a hF => hK7 _ _ ?_ a hF
        have hS18 := hS17.takeN 0
        obtain rfl := Option.some.inj h
        exact we_ret (post_ret (rs := [.tmp 6, .cell 7 29]) (ans := [.val (.int .i64 3), .val (.int .i64 0)]) (vs := [.int .i64 0, .agg #[.int .i64 3, .int .i64 0]]) (l := [.loaded ⟨b1, 0, none⟩ (.int .i64 3), .loaded ⟨b1, 1, none⟩ (.int .i64 0)]) rfl (by kernel_rfl) ⟨hS17.cell 0 rfl rfl, hS17.cell 0 rfl rfl, trivial⟩ ⟨rfl, hS18⟩)
      · rw [if_neg hc5] at h
        refine we_known (t := 31) (b := q2) (v := false) (by kernel_rfl) (Bool.eq_false_iff.2 hc5) ?_
        refine we_false (by kernel_rfl) ?_
        refine we_skip fun a hF => hK5 _ _ ?_ a hF
        refine we_seq fun K8 hK8 => ?_
        refine we_draws (by kernel_rfl) [(0, 0), (1, 0), (2, 0), (3, 0), (4, 0), (5, 0), (7, 0), (6, 1), (8, 1), (9, 0)] (by kernel_rfl) ?_
        have hS19 := hS15.drew
        refine ge_batch [0, 1] (ans := []) (vs := [(34, .int .i64 x1), (33, .slice A0 l0.length c0)]) (l := []) (by kernel_rfl) trivial ?_
        by_cases hc6 : 0 ≤ x1
        · rw [if_pos hc6] at h
          rcases hx3 : l0[(x1).toNat]? with _ | e1
          · rw [hx3] at h; cases h
          rw [hx3] at h
          simp only [] at h
          refine ge_index (d := 35) (ty := 0) (t := 22) (el := 46) (sz := 7) (m := l0.length) (c := c0) (x := (.tmp 33)) (y := (.tmp 34)) (A := A0) (k' := .i64) (j := x1) (jn := ((x1).toNat)) (b0 := blkOf A0) (o0 := offOf A0) (by kernel_rfl) (by kernel_rfl) (by kernel_rfl) (by kernel_rfl) (by kernel_rfl) ((hS19.rd hR0).eqSome (pos_of_get hx3)) (Int.toNat_of_nonneg hc6).symm (lt_of_get hx3) ?_
          rcases hq3 : fixed_above.f K l0 x1 with _ | r2
          · rw [hq3] at h; cases h
          rw [hq3] at h
          simp only [] at h
          refine ge_batch [3, 4, 5, 7] (ans := [.val (.string e1.Name), .val (.int .i64 e1.C), .val (.int .i64 e1.T), .val (.int .i64 e1.D), .val (.int .i64 e1.J), .val (.int .i64 e1.O), .val (.int .i64 e1.P)]) (vs := [(40, .int .i64 x2), (38, .int .i64 x1), (37, .slice A0 l0.length c0), (36, .agg #[.string e1.Name, .int .i64 e1.C, .int .i64 e1.T, .int .i64 e1.D, .int .i64 e1.J, .int .i64 e1.O, .int .i64 e1.P])]) (l := [.loaded ⟨blkOf A0, offOf A0 + ((x1).toNat) * 7, none⟩ (.string e1.Name), .loaded ⟨blkOf A0, offOf A0 + ((x1).toNat) * 7 + 1, none⟩ (.int .i64 e1.C), .loaded ⟨blkOf A0, offOf A0 + ((x1).toNat) * 7 + 2, none⟩ (.int .i64 e1.T), .loaded ⟨blkOf A0, offOf A0 + ((x1).toNat) * 7 + 3, none⟩ (.int .i64 e1.D), .loaded ⟨blkOf A0, offOf A0 + ((x1).toNat) * 7 + 4, none⟩ (.int .i64 e1.J), .loaded ⟨blkOf A0, offOf A0 + ((x1).toNat) * 7 + 5, none⟩ (.int .i64 e1.O), .loaded ⟨blkOf A0, offOf A0 + ((x1).toNat) * 7 + 6, none⟩ (.int .i64 e1.P)]) (by kernel_rfl) ⟨RdL.cell (j := 0) (hS19.rd hR0) hx3 rfl, RdL.cell (j := 1) (hS19.rd hR0) hx3 rfl, RdL.cell (j := 2) (hS19.rd hR0) hx3 rfl, RdL.cell (j := 3) (hS19.rd hR0) hx3 rfl, RdL.cell (j := 4) (hS19.rd hR0) hx3 rfl, RdL.cell (j := 5) (hS19.rd hR0) hx3 rfl, RdL.cell (j := 6) (hS19.rd hR0) hx3 rfl, trivial⟩ ?_
          refine ge_call (d := some 39) (f := 43) (args := #[.slice A0 l0.length c0, .int .i64 x1]) (by kernel_rfl) (fixed_above_ok K l0 A0 c0 x1 _ (hS19.rd hR0) hL0 _ hq3) ?_
          rintro _ w7 ⟨v1, rfl, hS20⟩
          refine ⟨_, rfl, hS20.below, ?_⟩
          have hS21 := hS19.call hS20
          obtain ⟨Z1, cz1, rfl⟩ := hS21.open 0 rfl
          rcases hq4 : fixed_response.f K e1 r2 x2 with _ | r3
          · rw [hq4] at h; cases h
          rw [hq4] at h
          simp only [] at h
          refine ge_call (d := some 41) (f := 34) (args := #[.agg #[.string e1.Name, .int .i64 e1.C, .int .i64 e1.T, .int .i64 e1.D, .int .i64 e1.J, .int .i64 e1.O, .int .i64 e1.P], (.slice Z1 r2.length cz1), .int .i64 x2]) (by kernel_rfl) (fixed_response_ok K e1 r2 Z1 cz1 x2 _ (hS21.rdAt 0 rfl) (hS21.capAt 0 rfl) _ hq4) ?_
          rintro _ w8 ⟨rfl, hS22⟩
          refine ⟨_, rfl, hS22.below, ?_⟩
          have hS23 := hS21.call hS22
          refine ge_batch [9] (ans := []) (vs := [(9, .int .i64 r3)]) (l := []) (by kernel_rfl) trivial ?_
          refine ge_nil fun a hF => hK8 _ _ ?_ a hF
          refine we_seq fun K9 hK9 => ?_
          refine we_seq fun K10 hK10 => ?_
          refine we_region [(0, 0), (1, 0)] rfl ?_
          refine ge_batch [0, 1] (ans := []) (vs := [(43, .bool (r3 == 0)), (42, .int .i64 r3)]) (l := []) (by kernel_rfl) trivial ?_
          refine ge_nil fun a hF => hK10 _ _ ?_ a hF
          by_cases hc7 : r3 = 0
          · rw [if_pos hc7] at h
            refine we_known (t := 43) (b := (r3 == 0)) (v := true) (by kernel_rfl) (beq_iff_eq.2 hc7) ?_
            refine we_true (by kernel_rfl) ?_
            refine we_seq fun K11 hK11 => ?_
            refine we_region [(0, 0), (1, 0), (2, 0), (3, 2)] rfl ?_
            refine ge_batch [0, 1, 2] (ans := []) (vs := [(6, .int .i64 0), (45, .agg #[.int .i64 13, .int .i64 x1]), (44, .int .i64 x1)]) (l := []) (by kernel_rfl) trivial ?_
            have hS24 := hS23.bring 1 rfl
            refine ge_set (b := b1) (j := 0) (cs := #[.int .i64 0, .int .i64 0]) (t := 29) (vs := [.int .i64 13, .int .i64 x1]) hS24 (by kernel_rfl) rfl rfl fun w9 hS25 => ?_
            have hS26 : St w0 w9 [Own.blk b1 (.cells #[.int .i64 13, .int .i64 x1] 29 (0, 0)), Own.of (.slice Z1 r2.length cz1) 46 r2] := hS25
            refine ge_nil fun a hF => hK11 _ _ ?_ a hF
            have hS27 := hS26.takeN 0
            obtain rfl := Option.some.inj h
            exact we_ret (post_ret (rs := [.tmp 6, .cell 7 29]) (ans := [.val (.int .i64 13), .val (.int .i64 x1)]) (vs := [.int .i64 0, .agg #[.int .i64 13, .int .i64 x1]]) (l := [.loaded ⟨b1, 0, none⟩ (.int .i64 13), .loaded ⟨b1, 1, none⟩ (.int .i64 x1)]) rfl (by kernel_rfl) ⟨hS26.cell 0 rfl rfl, hS26.cell 0 rfl rfl, trivial⟩ ⟨rfl, hS27⟩)
          · rw [if_neg hc7] at h
            refine we_known (t := 43) (b := (r3 == 0)) (v := false) (by kernel_rfl) (beq_eq_false_iff_ne.2 hc7) ?_
            refine we_false (by kernel_rfl) ?_
            refine we_skip fun a hF => hK9 _ _ ?_ a hF
            refine we_seq fun K12 hK12 => ?_
            refine we_region [(0, 0), (1, 0), (2, 0), (3, 2)] rfl ?_
            refine ge_batch [0, 1, 2] (ans := []) (vs := [(6, .int .i64 r3), (47, .agg #[.int .i64 0, .int .i64 0]), (46, .int .i64 r3)]) (l := []) (by kernel_rfl) trivial ?_
            have hS28 := hS23.bring 1 rfl
            refine ge_set (b := b1) (j := 0) (cs := #[.int .i64 0, .int .i64 0]) (t := 29) (vs := [.int .i64 0, .int .i64 0]) hS28 (by kernel_rfl) rfl rfl fun w10 hS29 => ?_
            have hS30 : St w0 w10 [Own.blk b1 (.cells #[.int .i64 0, .int .i64 0] 29 (0, 0)), Own.of (.slice Z1 r2.length cz1) 46 r2] := hS29
            refine ge_nil fun a hF => hK12 _ _ ?_ a hF
            have hS31 := hS30.takeN 0
            obtain rfl := Option.some.inj h
            exact we_ret (post_ret (rs := [.tmp 6, .cell 7 29]) (ans := [.val (.int .i64 0), .val (.int .i64 0)]) (vs := [.int .i64 r3, .agg #[.int .i64 0, .int .i64 0]]) (l := [.loaded ⟨b1, 0, none⟩ (.int .i64 0), .loaded ⟨b1, 1, none⟩ (.int .i64 0)]) rfl (by kernel_rfl) ⟨hS30.cell 0 rfl rfl, hS30.cell 0 rfl rfl, trivial⟩ ⟨rfl, hS31⟩)
        · rw [if_neg hc6] at h
          cases h
    · rw [hq2] at h
      simp only [] at h
      refine we_keep (e' := [(0, .slice A0 l0.length c0), (1, .int .i64 x1), (2, .int .i64 x2), (6, .int .i64 0), (7, .pointer (some ⟨b1, 0, none⟩)), (8, .pointer (some ⟨b2, 0, none⟩)), (10, .slice A0 l0.length c0), (11, .agg #[.int .i64 r1.Code, .int .i64 r1.At]), (12, .pointer (some ⟨b2, 0, none⟩)), (13, .int .i64 r1.Code), (14, .bool false)]) ⟨by kernel_rfl, by kernel_rfl, by kernel_rfl, by kernel_rfl, by kernel_rfl, by kernel_rfl, by kernel_rfl, by kernel_rfl, by kernel_rfl, by kernel_rfl, by kernel_rfl, trivial⟩ (fixed_Response_p0 K w0 l0 A0 c0 x1 x2 hR0 hL0 b1 r1 b2 hc1 _ hq2 _ hS6 _ ?_)
      rintro _ a w1 ⟨_, rfl, hb⟩
      obtain rfl := Option.some.inj h
      exact hb
  · rw [if_neg hc1] at h
    refine we_known (t := 14) (b := (r1.Code != 0)) (v := true) (by kernel_rfl) (bne_iff_ne.2 hc1) ?_
    refine we_true (by kernel_rfl) ?_
    refine we_seq fun K13 hK13 => ?_
    refine we_draws (by kernel_rfl) [(0, 0), (1, 0), (2, 2)] (by kernel_rfl) ?_
    have hS32 := hS6.drew
    refine ge_batch [0, 1] (ans := [.val (.int .i64 r1.Code), .val (.int .i64 r1.At)]) (vs := [(6, .int .i64 0), (15, .agg #[.int .i64 r1.Code, .int .i64 r1.At])]) (l := [.loaded ⟨b2, 0, none⟩ (.int .i64 r1.Code), .loaded ⟨b2, 1, none⟩ (.int .i64 r1.At)]) (by kernel_rfl) ⟨hS32.cell 0 rfl rfl, hS32.cell 0 rfl rfl, trivial⟩ ?_
    have hS33 := hS32.bring 1 rfl
    refine ge_set (b := b1) (j := 0) (cs := #[.int .i64 0, .int .i64 0]) (t := 29) (vs := [.int .i64 r1.Code, .int .i64 r1.At]) hS33 (by kernel_rfl) rfl rfl fun w11 hS34 => ?_
    have hS35 : St w0 w11 [Own.blk b1 (.cells #[.int .i64 r1.Code, .int .i64 r1.At] 29 (0, 0)), Own.blk b2 (.cells #[.int .i64 r1.Code, .int .i64 r1.At] 29 (0, 0))] := hS34
    refine ge_nil fun a hF => hK13 _ _ ?_ a hF
    have hS36 := hS35.takeN 0
    obtain rfl := Option.some.inj h
    exact we_ret (post_ret (rs := [.tmp 6, .cell 7 29]) (ans := [.val (.int .i64 r1.Code), .val (.int .i64 r1.At)]) (vs := [.int .i64 0, .agg #[.int .i64 r1.Code, .int .i64 r1.At]]) (l := [.loaded ⟨b1, 0, none⟩ (.int .i64 r1.Code), .loaded ⟨b1, 1, none⟩ (.int .i64 r1.At)]) rfl (by kernel_rfl) ⟨hS35.cell 0 rfl rfl, hS35.cell 0 rfl rfl, trivial⟩ ⟨rfl, hS36⟩)

/-! punctual/fixed.Responses -/
abbrev fixed_Responses.Post (w0 : World) (r : (List Int) × SFault) (e : Ending) (w : World) : Prop := ∃ (v0 : Value), e = .returned (.tuple #[v0, .agg #[.int .i64 r.2.Code, .int .i64 r.2.At]]) ∧ St w0 w [Own.of v0 3 r.1]
def fixed_Responses.r0 (K : Nat) (l0 : List STask) (l1 : List Int) : (List Int) × Nat → Option (((List Int) × Nat) ⊕ ((List Int) ⊕ ((List Int) × SFault)))
  | (m1, i1) =>
    if (i1 : Int) < (l1.length : Int) then
      match l1[i1]? with
      | none => none
      | some e1 =>
        match fixed_Response.f K l0 (i1 : Int) e1 with
        | none => none
        | some r2 =>
          if r2.2.Code = 0 then
            if m1.length < 17592186044416 then
              some (.inl ((m1 ++ [r2.1]), (i1 + 1)))
            else
              none
          else
            some (.inr (.inr (([] : List Int), r2.2)))
    else
      some (.inr (.inl m1))
def fixed_Responses.f (K : Nat) (l0 : List STask) (l1 : List Int) : Option ((List Int) × SFault) :=
  match fixed_check.f K l0 with
  | none => none
  | some r1 =>
    if r1.Code = 0 then
      if (l1.length : Int) = (l0.length : Int) then
        match iter (fixed_Responses.r0 K l0 l1) K (([] : List Int), 0) with
        | none => none
        | some (.inl m3) =>
          some (m3, (⟨0, 0⟩ : SFault))
        | some (.inr rr1) =>
          some rr1
      else
        some (([] : List Int), (⟨2, 0⟩ : SFault))
    else
      some (([] : List Int), r1)
abbrev fixed_Responses.A0 (K : Nat) (w0 : World) (l0 : List STask) (A0 : Option Addr) (c0 : Nat) (l1 : List Int) (A1 : Option Addr) (c1 : Nat) (hR0 : RdL w0 A0 l0) (hL0 : l0.length ≤ c0) (hR1 : RdL w0 A1 l1) (hL1 : l1.length ≤ c1) (b1 : Nat) (r1 : SFault) (b2 : Nat) (hc1 : r1.Code = 0) (hc2 : (l1.length : Int) = (l0.length : Int)) : ((List Int) × Nat) → Act → World → Prop := fun (s : (List Int) × Nat) a w => ∃ (v1 : Value), St w0 w [Own.blk b1 (.cells #[.int .i64 0, .int .i64 0] 29 (0, 0)), Own.of v1 3 s.1] ∧ Frm 49 a [(0, .slice A0 l0.length c0), (5, .pointer (some ⟨b1, 0, none⟩)), (7, v1), (24, .slice A1 l1.length c1), (25, .int .i64 (l1.length : Int)), (26, .int .i64 (s.2 : Int))]
abbrev fixed_Responses.B0 (K : Nat) (w0 : World) (l0 : List STask) (A0 : Option Addr) (c0 : Nat) (l1 : List Int) (A1 : Option Addr) (c1 : Nat) (hR0 : RdL w0 A0 l0) (hL0 : l0.length ≤ c0) (hR1 : RdL w0 A1 l1) (hL1 : l1.length ≤ c1) (b1 : Nat) (r1 : SFault) (b2 : Nat) (hc1 : r1.Code = 0) (hc2 : (l1.length : Int) = (l0.length : Int)) : ((List Int) ⊕ ((List Int) × SFault)) → Exit → Act → World → Prop := Exits 0 (fun (s : (List Int)) a w => ∃ (v2 : Value), St w0 w [Own.blk b1 (.cells #[.int .i64 0, .int .i64 0] 29 (0, 0)), Own.of v2 3 s] ∧ Frm 49 a [(5, .pointer (some ⟨b1, 0, none⟩)), (7, v2)]) (Rets Try.prog Try.f10 (fixed_Responses.Post w0))
theorem fixed_Responses_r0 (K : Nat) (w0 : World) (l0 : List STask) (A0 : Option Addr) (c0 : Nat) (l1 : List Int) (A1 : Option Addr) (c1 : Nat) (hR0 : RdL w0 A0 l0) (hL0 : l0.length ≤ c0) (hR1 : RdL w0 A1 l1) (hL1 : l1.length ≤ c1) (b1 : Nat) (r1 : SFault) (b2 : Nat) (hc1 : r1.Code = 0) (hc2 : (l1.length : Int) = (l0.length : Int)) (s : (List Int) × Nat) (o : ((List Int) × Nat) ⊕ ((List Int) ⊕ ((List Int) × SFault))) (h : fixed_Responses.r0 K l0 l1 s = some o) (a : Act) (w : World) (hA : fixed_Responses.A0 K w0 l0 A0 c0 l1 A1 c1 hR0 hL0 hR1 hL1 b1 r1 b2 hc1 hc2 s a w) (Q : Exit → Act → World → Prop) (hQ : ∀ x a w, Outs (fixed_Responses.A0 K w0 l0 A0 c0 l1 A1 c1 hR0 hL0 hR1 hL1 b1 r1 b2 hc1 hc2) (fixed_Responses.B0 K w0 l0 A0 c0 l1 A1 c1 hR0 hL0 hR1 hL1 b1 r1 b2 hc1 hc2) o x a w → Q x a w) : (subF Try.f10 [1, 1, 1, 1, 0, 1, 0, 0]).wp Try.prog Q a w := by
  obtain ⟨m1, i1⟩ := s
  obtain ⟨v1, hS, hF⟩ := hA
  replace hS : St w0 w [Own.blk b1 (.cells #[.int .i64 0, .int .i64 0] 29 (0, 0)), Own.of v1 3 m1] := hS
  simp only [fixed_Responses.r0] at h
  refine (?_ : WE Try.prog 49 (subF Try.f10 [1, 1, 1, 1, 0, 1, 0, 0]) Q [(0, .slice A0 l0.length c0), (5, .pointer (some ⟨b1, 0, none⟩)), (7, v1), (24, .slice A1 l1.length c1), (25, .int .i64 (l1.length : Int)), (26, .int .i64 (i1 : Int))] w) a hF
  clear hF a
  refine we_seq fun K10 hK10 => ?_
  refine we_region [(0, 0)] rfl ?_
  refine ge_batch [0] (ans := []) (vs := [(27, .bool (decide ((i1 : Int) < (l1.length : Int))))]) (l := []) (by kernel_rfl) trivial ?_
  refine ge_nil fun a hF => hK10 _ _ ?_ a hF
  refine we_seq fun K11 hK11 => ?_
  by_cases hc3 : (i1 : Int) < (l1.length : Int)
  · rw [if_pos hc3] at h
    refine we_known (t := 27) (b := decide ((i1 : Int) < (l1.length : Int))) (v := true) (by kernel_rfl) (decide_eq_true hc3) ?_
    refine we_true (by kernel_rfl) ?_
    refine we_skip fun a hF => hK11 _ _ ?_ a hF
    refine we_seq fun K12 hK12 => ?_
    refine we_block ?_
    refine we_seq fun K13 hK13 => ?_
    refine we_region [(0, 0), (1, 0), (2, 0), (3, 0), (4, 0)] rfl ?_
    refine ge_batch [0] (ans := []) (vs := [(28, .int .i64 (i1 : Int))]) (l := []) (by kernel_rfl) trivial ?_
    rcases hx3 : l1[i1]? with _ | e1
    · rw [hx3] at h; cases h
    rw [hx3] at h
    simp only [] at h
    refine ge_index (d := 29) (ty := 0) (t := 24) (el := 3) (sz := 1) (m := l1.length) (c := c1) (x := (.tmp 24)) (y := (.tmp 26)) (A := A1) (k' := .i64) (j := (i1 : Int)) (jn := i1) (b0 := blkOf A1) (o0 := offOf A1) (by kernel_rfl) (by kernel_rfl) (by kernel_rfl) (by kernel_rfl) (by kernel_rfl) ((hS.rd hR1).eqSome (pos_of_get hx3)) rfl (lt_of_get hx3) ?_
    refine ge_batch [2, 3, 4] (ans := [.val (.int .i64 e1)]) (vs := [(9, .int .i64 e1), (8, .int .i64 (i1 : Int)), (30, .int .i64 e1)]) (l := [.loaded ⟨blkOf A1, offOf A1 + i1 * 1, none⟩ (.int .i64 e1)]) (by kernel_rfl) ⟨RdL.cell (j := 0) (hS.rd hR1) hx3 rfl, trivial⟩ ?_
    refine ge_nil fun a hF => hK13 _ _ ?_ a hF
    refine we_seq fun K14 hK14 => ?_
    refine we_region [(0, 0), (1, 0), (2, 0), (3, 1), (4, 0), (5, 0), (6, 0), (7, 1), (8, 0), (9, 2)] rfl ?_
    rcases hq2 : fixed_Response.f K l0 (i1 : Int) e1 with _ | r2
    · rw [hq2] at h; cases h
    rw [hq2] at h
    simp only [] at h
    refine ge_batch [0, 1, 2] (ans := []) (vs := [(34, .int .i64 e1), (33, .int .i64 (i1 : Int)), (32, .slice A0 l0.length c0)]) (l := []) (by kernel_rfl) trivial ?_
    refine ge_call (d := some 35) (f := 20) (args := #[.slice A0 l0.length c0, .int .i64 (i1 : Int), .int .i64 e1]) (by kernel_rfl) (fixed_Response_ok K l0 A0 c0 (i1 : Int) e1 _ (hS.rd hR0) hL0 _ hq2) ?_
    rintro _ w5 ⟨rfl, hS10⟩
    refine ⟨_, rfl, hS10.below, ?_⟩
    have hS11 := hS.call hS10
    refine ge_batch [4, 5, 6] (ans := []) (vs := [(37, .agg #[.int .i64 r2.2.Code, .int .i64 r2.2.At]), (36, .int .i64 r2.1), (31, .tuple #[.int .i64 r2.1, .agg #[.int .i64 r2.2.Code, .int .i64 r2.2.At]])]) (l := []) (by kernel_rfl) trivial ?_
    refine ge_new (d := some 11) (o := .cells #[.int .i64 0, .int .i64 0] 29) (v := fun b => .pointer (some ⟨b, 0, none⟩)) hS11 (fun b => by kernel_rfl) fun b3 w6 hx4 hS12 => ?_
    refine ge_batch [8] (ans := []) (vs := [(10, .int .i64 r2.1)]) (l := []) (by kernel_rfl) trivial ?_
    refine ge_set (b := b3) (j := 0) (cs := #[.int .i64 0, .int .i64 0]) (t := 29) (vs := [.int .i64 r2.2.Code, .int .i64 r2.2.At]) hS12 (by kernel_rfl) rfl rfl fun w7 hS13 => ?_
    have hS14 : St w0 w7 [Own.blk b3 (.cells #[.int .i64 r2.2.Code, .int .i64 r2.2.At] 29 (0, 0)), Own.blk b1 (.cells #[.int .i64 0, .int .i64 0] 29 (0, 0)), Own.of v1 3 m1] := hS13
    refine ge_nil fun a hF => hK14 _ _ ?_ a hF
    refine we_seq fun K15 hK15 => ?_
    refine we_seq fun K16 hK16 => ?_
    refine we_region [(0, 0), (1, 0), (2, 0)] rfl ?_
    refine ge_batch [0, 1, 2] (ans := [.val (.int .i64 r2.2.Code)]) (vs := [(40, .bool (r2.2.Code != 0)), (39, .int .i64 r2.2.Code), (38, .pointer (some ⟨b3, 0, none⟩))]) (l := [.loaded ⟨b3, 0, none⟩ (.int .i64 r2.2.Code)]) (by kernel_rfl) ⟨hS14.cell 0 rfl rfl, trivial⟩ ?_
    refine ge_nil fun a hF => hK16 _ _ ?_ a hF
    by_cases hc4 : r2.2.Code = 0
    · rw [if_pos hc4] at h
      refine we_known (t := 40) (b := (r2.2.Code != 0)) (v := false) (by kernel_rfl) (bne_eq_false_iff_eq.2 hc4) ?_
      refine we_false (by kernel_rfl) ?_
      refine we_skip fun a hF => hK15 _ _ ?_ a hF
      refine we_region [(0, 0), (1, 0), (2, 1), (3, 2), (4, 0)] rfl ?_
      refine ge_batch [0, 1] (ans := []) (vs := [(43, .int .i64 r2.1), (42, v1)]) (l := []) (by kernel_rfl) trivial ?_
      refine ge_new (d := some 44) (o := .cells #[.int .i64 r2.1] 3) (v := fun b => .slice (some ⟨b, 0, none⟩) 1 1) hS14 (fun b => by kernel_rfl) fun b4 w8 hx5 hS15 => ?_
      have hS16 := hS15.bring 3 rfl
      by_cases hc5 : m1.length < 17592186044416
      · rw [if_pos hc5] at h
        refine ge_append (α := Int) (m := 0) (d := 45) (t := 24) (el := 3) (bytes := 8) (c1 := 1) (b1 := b4) (x := (.tmp 42)) (y := (.tmp 44)) (ty := 24) (v := v1) (z := .int .i64 0) (l := m1) (u := r2.1) (by kernel_rfl) (by kernel_rfl) (by kernel_rfl) (by kernel_rfl) (by kernel_rfl) rfl hS16 rfl (by omega) fun v3 w9 hS17 => ?_
        refine ge_batch [4] (ans := []) (vs := [(7, v3)]) (l := []) (by kernel_rfl) trivial ?_
        refine ge_nil fun a hF => hK12 _ _ ?_ a hF
        refine we_region [(0, 0), (1, 0)] rfl ?_
        refine ge_addn (d := 46) (ty := 3) (x := (.tmp 26)) (y := (.const (.int .i64 1))) (t := 3) (t2 := 3) (k := .i64) (m := i1) (by kernel_rfl) (by kernel_rfl) (by kernel_rfl) (by have h0 := hR1.small; omega) ?_
        refine ge_batch [1] (ans := []) (vs := [(26, .int .i64 ((i1 + 1 : Nat) : Int))]) (l := []) (by kernel_rfl) trivial ?_
        have hS18 := hS17.bring 2 rfl
        have hS19 := hS18.takeN 2
        obtain rfl := Option.some.inj h
        exact ge_nil fun a hF => hQ _ _ _ (Outs.again ⟨v3, hS19, hF.weaken ⟨by kernel_rfl, by kernel_rfl, by kernel_rfl, by kernel_rfl, by kernel_rfl, by kernel_rfl, trivial⟩⟩)
      · rw [if_neg hc5] at h
        cases h
    · rw [if_neg hc4] at h
      refine we_known (t := 40) (b := (r2.2.Code != 0)) (v := true) (by kernel_rfl) (bne_iff_ne.2 hc4) ?_
      refine we_true (by kernel_rfl) ?_
      refine we_seq fun K17 hK17 => ?_
      refine we_draws (by kernel_rfl) [(0, 0), (1, 0), (2, 2)] (by kernel_rfl) ?_
      have hS20 := hS14.drew
      refine ge_batch [0, 1] (ans := [.val (.int .i64 r2.2.Code), .val (.int .i64 r2.2.At)]) (vs := [(4, .slice none 0 0), (41, .agg #[.int .i64 r2.2.Code, .int .i64 r2.2.At])]) (l := [.loaded ⟨b3, 0, none⟩ (.int .i64 r2.2.Code), .loaded ⟨b3, 1, none⟩ (.int .i64 r2.2.At)]) (by kernel_rfl) ⟨hS20.cell 0 rfl rfl, hS20.cell 0 rfl rfl, trivial⟩ ?_
      have hS21 := hS20.bring 1 rfl
      refine ge_set (b := b1) (j := 0) (cs := #[.int .i64 0, .int .i64 0]) (t := 29) (vs := [.int .i64 r2.2.Code, .int .i64 r2.2.At]) hS21 (by kernel_rfl) rfl rfl fun w10 hS22 => ?_
      have hS23 : St w0 w10 [Own.blk b1 (.cells #[.int .i64 r2.2.Code, .int .i64 r2.2.At] 29 (0, 0)), Own.blk b3 (.cells #[.int .i64 r2.2.Code, .int .i64 r2.2.At] 29 (0, 0)), Own.of v1 3 m1] := hS22
      refine ge_nil fun a hF => hK17 _ _ ?_ a hF
      have hS24 := hS23.nil (α := Int) 3
      have hS25 := hS24.takeN 1
      obtain rfl := Option.some.inj h
      exact we_ret fun a hF => hQ _ _ _ (Outs.out nofun (Exits.on ⟨rfl, (post_ret (rs := [.tmp 4, .cell 5 29]) (ans := [.val (.int .i64 r2.2.Code), .val (.int .i64 r2.2.At)]) (vs := [(.slice none 0 0), .agg #[.int .i64 r2.2.Code, .int .i64 r2.2.At]]) (l := [.loaded ⟨b1, 0, none⟩ (.int .i64 r2.2.Code), .loaded ⟨b1, 1, none⟩ (.int .i64 r2.2.At)]) rfl (by kernel_rfl) ⟨hS24.cell 1 rfl rfl, hS24.cell 1 rfl rfl, trivial⟩ ⟨(.slice none 0 0), rfl, hS25⟩) a hF⟩))
  · rw [if_neg hc3] at h
    refine we_known (t := 27) (b := decide ((i1 : Int) < (l1.length : Int))) (v := false) (by kernel_rfl) (decide_eq_false hc3) ?_
    refine we_false (by kernel_rfl) ?_
    have hS26 := hS.bring 1 rfl
    have hS27 := hS26.bring 1 rfl
    obtain rfl := Option.some.inj h
    exact we_exit fun a hF => hQ _ _ _ (Outs.out nofun (Exits.here ⟨v1, hS27, hF.weaken ⟨by kernel_rfl, by kernel_rfl, trivial⟩⟩))
theorem fixed_Responses_ok (K : Nat) (l0 : List STask) (A0 : Option Addr) (c0 : Nat) (l1 : List Int) (A1 : Option Addr) (c1 : Nat) (w0 : World) (hR0 : RdL w0 A0 l0) (hL0 : l0.length ≤ c0) (hR1 : RdL w0 A1 l1) (hL1 : l1.length ≤ c1) (r : (List Int) × SFault) (h : fixed_Responses.f K l0 l1 = some r) :
    Calls Try.prog 10 #[.slice A0 l0.length c0, .slice A1 l1.length c1] w0 (fixed_Responses.Post w0 r) := by
  have hS := St.start w0
  unfold fixed_Responses.f at h
  refine calls_enter (n := 49) (args := [.slice A0 l0.length c0, .slice A1 l1.length c1]) (fn := Try.f10) rfl rfl rfl rfl ?_
  show WE _ _ _ _ [(0, .slice A0 l0.length c0), (1, .slice A1 l1.length c1)] _
  refine we_seq fun K1 hK1 => ?_
  refine we_region [(0, 0), (1, 1)] rfl ?_
  refine ge_batch [0] (ans := []) (vs := [(4, .slice none 0 0)]) (l := []) (by kernel_rfl) trivial ?_
  refine ge_new (d := some 5) (o := .cells #[.int .i64 0, .int .i64 0] 29) (v := fun b => .pointer (some ⟨b, 0, none⟩)) hS (fun b => by kernel_rfl) fun b1 w1 hx1 hS1 => ?_
  refine ge_nil fun a hF => hK1 _ _ ?_ a hF
  refine we_seq fun K2 hK2 => ?_
  refine we_seq fun K3 hK3 => ?_
  refine we_region [(0, 0), (1, 1), (2, 1), (3, 2)] rfl ?_
  rcases hq1 : fixed_check.f K l0 with _ | r1
  · rw [hq1] at h; cases h
  rw [hq1] at h
  simp only [] at h
  refine ge_batch [0] (ans := []) (vs := [(12, .slice A0 l0.length c0)]) (l := []) (by kernel_rfl) trivial ?_
  refine ge_call (d := some 13) (f := 26) (args := #[.slice A0 l0.length c0]) (by kernel_rfl) (fixed_check_ok K l0 A0 c0 _ (hS1.rd hR0) hL0 _ hq1) ?_
  rintro _ w2 ⟨rfl, hS2⟩
  refine ⟨_, rfl, hS2.below, ?_⟩
  have hS3 := hS1.call hS2
  refine ge_new (d := some 6) (o := .cells #[.int .i64 0, .int .i64 0] 29) (v := fun b => .pointer (some ⟨b, 0, none⟩)) hS3 (fun b => by kernel_rfl) fun b2 w3 hx2 hS4 => ?_
  refine ge_set (b := b2) (j := 0) (cs := #[.int .i64 0, .int .i64 0]) (t := 29) (vs := [.int .i64 r1.Code, .int .i64 r1.At]) hS4 (by kernel_rfl) rfl rfl fun w4 hS5 => ?_
  have hS6 : St w0 w4 [Own.blk b2 (.cells #[.int .i64 r1.Code, .int .i64 r1.At] 29 (0, 0)), Own.blk b1 (.cells #[.int .i64 0, .int .i64 0] 29 (0, 0))] := hS5
  refine ge_nil fun a hF => hK3 _ _ ?_ a hF
  refine we_seq fun K4 hK4 => ?_
  refine we_region [(0, 0), (1, 0), (2, 0)] rfl ?_
  refine ge_batch [0, 1, 2] (ans := [.val (.int .i64 r1.Code)]) (vs := [(16, .bool (r1.Code != 0)), (15, .int .i64 r1.Code), (14, .pointer (some ⟨b2, 0, none⟩))]) (l := [.loaded ⟨b2, 0, none⟩ (.int .i64 r1.Code)]) (by kernel_rfl) ⟨hS6.cell 0 rfl rfl, trivial⟩ ?_
  refine ge_nil fun a hF => hK4 _ _ ?_ a hF
  by_cases hc1 : r1.Code = 0
  · rw [if_pos hc1] at h
    refine we_known (t := 16) (b := (r1.Code != 0)) (v := false) (by kernel_rfl) (bne_eq_false_iff_eq.2 hc1) ?_
    refine we_false (by kernel_rfl) ?_
    refine we_skip fun a hF => hK2 _ _ ?_ a hF
    refine we_seq fun K5 hK5 => ?_
    refine we_seq fun K6 hK6 => ?_
    refine we_region [(0, 0), (1, 0), (2, 0), (3, 0), (4, 0)] rfl ?_
    refine ge_batch [0, 1, 2, 3, 4] (ans := []) (vs := [(22, .bool ((l1.length : Int) != (l0.length : Int))), (21, .int .i64 (l0.length : Int)), (20, .slice A0 l0.length c0), (19, .int .i64 (l1.length : Int)), (18, .slice A1 l1.length c1)]) (l := []) (by kernel_rfl) trivial ?_
    refine ge_nil fun a hF => hK6 _ _ ?_ a hF
    by_cases hc2 : (l1.length : Int) = (l0.length : Int)
    · rw [if_pos hc2] at h
      refine we_known (t := 22) (b := ((l1.length : Int) != (l0.length : Int))) (v := false) (by kernel_rfl) (bne_eq_false_iff_eq.2 hc2) ?_
      refine we_false (by kernel_rfl) ?_
      refine we_skip fun a hF => hK5 _ _ ?_ a hF
      refine we_seq fun K7 hK7 => ?_
      refine we_region [(0, 0)] rfl ?_
      refine ge_batch [0] (ans := []) (vs := [(7, .slice none 0 0)]) (l := []) (by kernel_rfl) trivial ?_
      refine ge_nil fun a hF => hK7 _ _ ?_ a hF
      refine we_seq fun K8 hK8 => ?_
      refine we_seq fun K9 hK9 => ?_
      refine we_region [(0, 0), (1, 0), (2, 0)] rfl ?_
      refine ge_batch [0, 1, 2] (ans := []) (vs := [(26, .int .i64 0), (25, .int .i64 (l1.length : Int)), (24, .slice A1 l1.length c1)]) (l := []) (by kernel_rfl) trivial ?_
      refine ge_nil fun a hF => hK9 _ _ ?_ a hF
      refine we_block ?_
      have hS7 := hS6.nil (α := Int) 3
      have hS8 := hS7.bring 2 rfl
      have hS9 := hS8.takeN 2
      rcases hq3 : iter (fixed_Responses.r0 K l0 l1) K (([] : List Int), 0) with _ | (m3 | rr1)
      · rw [hq3] at h; cases h
      · rw [hq3] at h
        simp only [] at h
        refine we_iter (A := fixed_Responses.A0 K w0 l0 A0 c0 l1 A1 c1 hR0 hL0 hR1 hL1 b1 r1 b2 hc1 hc2) (B := fixed_Responses.B0 K w0 l0 A0 c0 l1 A1 c1 hR0 hL0 hR1 hL1 b1 r1 b2 hc1 hc2) hq3 (fun a hF => ⟨(.slice none 0 0), hS9, hF.weaken ⟨by kernel_rfl, by kernel_rfl, by kernel_rfl, by kernel_rfl, by kernel_rfl, by kernel_rfl, trivial⟩⟩) (fun s o hf a w hA Q hQ => fixed_Responses_r0 K w0 l0 A0 c0 l1 A1 c1 hR0 hL0 hR1 hL1 b1 r1 b2 hc1 hc2 s o hf a w hA Q hQ) ?_
        rintro _ a w11 _ ⟨rfl, v4, hS28, hF⟩
        replace hS28 : St w0 w11 [Own.blk b1 (.cells #[.int .i64 0, .int .i64 0] 29 (0, 0)), Own.of v4 3 m3] := hS28
        refine hK8 [(5, .pointer (some ⟨b1, 0, none⟩)), (7, v4)] w11 ?_ a hF
        refine we_seq fun K18 hK18 => ?_
        refine we_region [(0, 0), (1, 0), (2, 0), (3, 2)] rfl ?_
        refine ge_batch [0, 1, 2] (ans := []) (vs := [(4, v4), (48, .agg #[.int .i64 0, .int .i64 0]), (47, v4)]) (l := []) (by kernel_rfl) trivial ?_
        refine ge_set (b := b1) (j := 0) (cs := #[.int .i64 0, .int .i64 0]) (t := 29) (vs := [.int .i64 0, .int .i64 0]) hS28 (by kernel_rfl) rfl rfl fun w12 hS29 => ?_
        have hS30 : St w0 w12 [Own.blk b1 (.cells #[.int .i64 0, .int .i64 0] 29 (0, 0)), Own.of v4 3 m3] := hS29
        refine ge_nil fun a hF => hK18 _ _ ?_ a hF
        have hS31 := hS30.bring 1 rfl
        have hS32 := hS31.takeN 1
        obtain rfl := Option.some.inj h
        exact we_ret (post_ret (rs := [.tmp 4, .cell 5 29]) (ans := [.val (.int .i64 0), .val (.int .i64 0)]) (vs := [v4, .agg #[.int .i64 0, .int .i64 0]]) (l := [.loaded ⟨b1, 0, none⟩ (.int .i64 0), .loaded ⟨b1, 1, none⟩ (.int .i64 0)]) rfl (by kernel_rfl) ⟨hS30.cell 0 rfl rfl, hS30.cell 0 rfl rfl, trivial⟩ ⟨v4, rfl, hS32⟩)
      · rw [hq3] at h
        simp only [] at h
        refine we_iter (A := fixed_Responses.A0 K w0 l0 A0 c0 l1 A1 c1 hR0 hL0 hR1 hL1 b1 r1 b2 hc1 hc2) (B := fixed_Responses.B0 K w0 l0 A0 c0 l1 A1 c1 hR0 hL0 hR1 hL1 b1 r1 b2 hc1 hc2) hq3 (fun a hF => ⟨(.slice none 0 0), hS9, hF.weaken ⟨by kernel_rfl, by kernel_rfl, by kernel_rfl, by kernel_rfl, by kernel_rfl, by kernel_rfl, trivial⟩⟩) (fun s o hf a w hA Q hQ => fixed_Responses_r0 K w0 l0 A0 c0 l1 A1 c1 hR0 hL0 hR1 hL1 b1 r1 b2 hc1 hc2 s o hf a w hA Q hQ) ?_
        rintro _ a w1 _ ⟨rfl, hb⟩
        obtain rfl := Option.some.inj h
        exact hb
    · rw [if_neg hc2] at h
      refine we_known (t := 22) (b := ((l1.length : Int) != (l0.length : Int))) (v := true) (by kernel_rfl) (bne_iff_ne.2 hc2) ?_
      refine we_true (by kernel_rfl) ?_
      refine we_seq fun K19 hK19 => ?_
      refine we_region [(0, 0), (1, 0), (2, 2)] rfl ?_
      refine ge_batch [0, 1] (ans := []) (vs := [(4, .slice none 0 0), (23, .agg #[.int .i64 2, .int .i64 0])]) (l := []) (by kernel_rfl) trivial ?_
      have hS33 := hS6.bring 1 rfl
      refine ge_set (b := b1) (j := 0) (cs := #[.int .i64 0, .int .i64 0]) (t := 29) (vs := [.int .i64 2, .int .i64 0]) hS33 (by kernel_rfl) rfl rfl fun w13 hS34 => ?_
      have hS35 : St w0 w13 [Own.blk b1 (.cells #[.int .i64 2, .int .i64 0] 29 (0, 0)), Own.blk b2 (.cells #[.int .i64 r1.Code, .int .i64 r1.At] 29 (0, 0))] := hS34
      refine ge_nil fun a hF => hK19 _ _ ?_ a hF
      have hS36 := hS35.nil (α := Int) 3
      have hS37 := hS36.takeN 1
      obtain rfl := Option.some.inj h
      exact we_ret (post_ret (rs := [.tmp 4, .cell 5 29]) (ans := [.val (.int .i64 2), .val (.int .i64 0)]) (vs := [(.slice none 0 0), .agg #[.int .i64 2, .int .i64 0]]) (l := [.loaded ⟨b1, 0, none⟩ (.int .i64 2), .loaded ⟨b1, 1, none⟩ (.int .i64 0)]) rfl (by kernel_rfl) ⟨hS36.cell 1 rfl rfl, hS36.cell 1 rfl rfl, trivial⟩ ⟨(.slice none 0 0), rfl, hS37⟩)
  · rw [if_neg hc1] at h
    refine we_known (t := 16) (b := (r1.Code != 0)) (v := true) (by kernel_rfl) (bne_iff_ne.2 hc1) ?_
    refine we_true (by kernel_rfl) ?_
    refine we_seq fun K20 hK20 => ?_
    refine we_draws (by kernel_rfl) [(0, 0), (1, 0), (2, 2)] (by kernel_rfl) ?_
    have hS38 := hS6.drew
    refine ge_batch [0, 1] (ans := [.val (.int .i64 r1.Code), .val (.int .i64 r1.At)]) (vs := [(4, .slice none 0 0), (17, .agg #[.int .i64 r1.Code, .int .i64 r1.At])]) (l := [.loaded ⟨b2, 0, none⟩ (.int .i64 r1.Code), .loaded ⟨b2, 1, none⟩ (.int .i64 r1.At)]) (by kernel_rfl) ⟨hS38.cell 0 rfl rfl, hS38.cell 0 rfl rfl, trivial⟩ ?_
    have hS39 := hS38.bring 1 rfl
    refine ge_set (b := b1) (j := 0) (cs := #[.int .i64 0, .int .i64 0]) (t := 29) (vs := [.int .i64 r1.Code, .int .i64 r1.At]) hS39 (by kernel_rfl) rfl rfl fun w14 hS40 => ?_
    have hS41 : St w0 w14 [Own.blk b1 (.cells #[.int .i64 r1.Code, .int .i64 r1.At] 29 (0, 0)), Own.blk b2 (.cells #[.int .i64 r1.Code, .int .i64 r1.At] 29 (0, 0))] := hS40
    refine ge_nil fun a hF => hK20 _ _ ?_ a hF
    have hS42 := hS41.nil (α := Int) 3
    have hS43 := hS42.takeN 1
    obtain rfl := Option.some.inj h
    exact we_ret (post_ret (rs := [.tmp 4, .cell 5 29]) (ans := [.val (.int .i64 r1.Code), .val (.int .i64 r1.At)]) (vs := [(.slice none 0 0), .agg #[.int .i64 r1.Code, .int .i64 r1.At]]) (l := [.loaded ⟨b1, 0, none⟩ (.int .i64 r1.Code), .loaded ⟨b1, 1, none⟩ (.int .i64 r1.At)]) rfl (by kernel_rfl) ⟨hS42.cell 1 rfl rfl, hS42.cell 1 rfl rfl, trivial⟩ ⟨(.slice none 0 0), rfl, hS43⟩)

/-! punctual/punctualsame.Same[int] -/
abbrev punctualsame_Same_int.Post (w0 : World) (r : Bool) (e : Ending) (w : World) : Prop := e = .returned (.bool r) ∧ St w0 w []
def punctualsame_Same_int.r0 (l0 : List Int) (l1 : List Int) : Nat → Option (Nat ⊕ (Unit ⊕ Bool))
  | i1 =>
    if (i1 : Int) < (l0.length : Int) then
      match l0[i1]? with
      | none => none
      | some e1 =>
        match l1[i1]? with
        | none => none
        | some e2 =>
          if e1 = e2 then
            some (.inl (i1 + 1))
          else
            some (.inr (.inr false))
    else
      some (.inr (.inl ()))
def punctualsame_Same_int.f (K : Nat) (l0 : List Int) (l1 : List Int) : Option Bool :=
  if (l0.length : Int) = (l1.length : Int) then
    match iter (punctualsame_Same_int.r0 l0 l1) K 0 with
    | none => none
    | some (.inl _) =>
      some true
    | some (.inr rr1) =>
      some rr1
  else
    some false
abbrev punctualsame_Same_int.A0 (K : Nat) (w0 : World) (l0 : List Int) (A0 : Option Addr) (c0 : Nat) (l1 : List Int) (A1 : Option Addr) (c1 : Nat) (hR0 : RdL w0 A0 l0) (hL0 : l0.length ≤ c0) (hR1 : RdL w0 A1 l1) (hL1 : l1.length ≤ c1) (hc1 : (l0.length : Int) = (l1.length : Int)) : Nat → Act → World → Prop := fun (s : Nat) a w => St w0 w [] ∧ Frm 26 a [(0, .slice A0 l0.length c0), (1, .slice A1 l1.length c1), (12, .int .i64 (l0.length : Int)), (13, .int .i64 (s : Int))]
abbrev punctualsame_Same_int.B0 (K : Nat) (w0 : World) (l0 : List Int) (A0 : Option Addr) (c0 : Nat) (l1 : List Int) (A1 : Option Addr) (c1 : Nat) (hR0 : RdL w0 A0 l0) (hL0 : l0.length ≤ c0) (hR1 : RdL w0 A1 l1) (hL1 : l1.length ≤ c1) (hc1 : (l0.length : Int) = (l1.length : Int)) : (Unit ⊕ Bool) → Exit → Act → World → Prop := Exits 0 (fun (s : Unit) a w => St w0 w [] ∧ Frm 26 a []) (Rets Try.prog Try.f25 (punctualsame_Same_int.Post w0))
theorem punctualsame_Same_int_r0 (K : Nat) (w0 : World) (l0 : List Int) (A0 : Option Addr) (c0 : Nat) (l1 : List Int) (A1 : Option Addr) (c1 : Nat) (hR0 : RdL w0 A0 l0) (hL0 : l0.length ≤ c0) (hR1 : RdL w0 A1 l1) (hL1 : l1.length ≤ c1) (hc1 : (l0.length : Int) = (l1.length : Int)) (s : Nat) (o : Nat ⊕ (Unit ⊕ Bool)) (h : punctualsame_Same_int.r0 l0 l1 s = some o) (a : Act) (w : World) (hA : punctualsame_Same_int.A0 K w0 l0 A0 c0 l1 A1 c1 hR0 hL0 hR1 hL1 hc1 s a w) (Q : Exit → Act → World → Prop) (hQ : ∀ x a w, Outs (punctualsame_Same_int.A0 K w0 l0 A0 c0 l1 A1 c1 hR0 hL0 hR1 hL1 hc1) (punctualsame_Same_int.B0 K w0 l0 A0 c0 l1 A1 c1 hR0 hL0 hR1 hL1 hc1) o x a w → Q x a w) : (subF Try.f25 [1, 1, 0, 1, 0, 0]).wp Try.prog Q a w := by
  obtain ⟨i1, hs⟩ : ∃ z, z = s := ⟨s, rfl⟩
  subst hs
  obtain ⟨hS, hF⟩ := hA
  replace hS : St w0 w [] := hS
  simp only [punctualsame_Same_int.r0] at h
  refine (?_ : WE Try.prog 26 (subF Try.f25 [1, 1, 0, 1, 0, 0]) Q [(0, .slice A0 l0.length c0), (1, .slice A1 l1.length c1), (12, .int .i64 (l0.length : Int)), (13, .int .i64 (i1 : Int))] w) a hF
  clear hF a
  refine we_seq fun K6 hK6 => ?_
  refine we_region [(0, 0)] rfl ?_
  refine ge_batch [0] (ans := []) (vs := [(14, .bool (decide ((i1 : Int) < (l0.length : Int))))]) (l := []) (by kernel_rfl) trivial ?_
  refine ge_nil fun a hF => hK6 _ _ ?_ a hF
  refine we_seq fun K7 hK7 => ?_
  by_cases hc2 : (i1 : Int) < (l0.length : Int)
  · rw [if_pos hc2] at h
    refine we_known (t := 14) (b := decide ((i1 : Int) < (l0.length : Int))) (v := true) (by kernel_rfl) (decide_eq_true hc2) ?_
    refine we_true (by kernel_rfl) ?_
    refine we_skip fun a hF => hK7 _ _ ?_ a hF
    refine we_seq fun K8 hK8 => ?_
    refine we_block ?_
    refine we_seq fun K9 hK9 => ?_
    refine we_region [(0, 0), (1, 0)] rfl ?_
    refine ge_batch [0, 1] (ans := []) (vs := [(5, .int .i64 (i1 : Int)), (15, .int .i64 (i1 : Int))]) (l := []) (by kernel_rfl) trivial ?_
    refine ge_nil fun a hF => hK9 _ _ ?_ a hF
    refine we_seq fun K10 hK10 => ?_
    refine we_draws (by kernel_rfl) [(0, 0), (1, 0), (2, 0), (3, 0), (4, 0), (5, 0), (6, 0), (7, 0), (8, 0)] (by kernel_rfl) ?_
    have hS1 := hS.drew
    refine ge_batch [0, 1] (ans := []) (vs := [(17, .int .i64 (i1 : Int)), (16, .slice A0 l0.length c0)]) (l := []) (by kernel_rfl) trivial ?_
    rcases hx1 : l0[i1]? with _ | e1
    · rw [hx1] at h; cases h
    rw [hx1] at h
    simp only [] at h
    refine ge_index (d := 18) (ty := 0) (t := 24) (el := 3) (sz := 1) (m := l0.length) (c := c0) (x := (.tmp 16)) (y := (.tmp 17)) (A := A0) (k' := .i64) (j := (i1 : Int)) (jn := i1) (b0 := blkOf A0) (o0 := offOf A0) (by kernel_rfl) (by kernel_rfl) (by kernel_rfl) (by kernel_rfl) (by kernel_rfl) ((hS1.rd hR0).eqSome (pos_of_get hx1)) rfl (lt_of_get hx1) ?_
    refine ge_batch [3, 4, 5] (ans := [.val (.int .i64 e1)]) (vs := [(21, .int .i64 (i1 : Int)), (20, .slice A1 l1.length c1), (19, .int .i64 e1)]) (l := [.loaded ⟨blkOf A0, offOf A0 + i1 * 1, none⟩ (.int .i64 e1)]) (by kernel_rfl) ⟨RdL.cell (j := 0) (hS1.rd hR0) hx1 rfl, trivial⟩ ?_
    rcases hx2 : l1[i1]? with _ | e2
    · rw [hx2] at h; cases h
    rw [hx2] at h
    simp only [] at h
    refine ge_index (d := 22) (ty := 0) (t := 24) (el := 3) (sz := 1) (m := l1.length) (c := c1) (x := (.tmp 20)) (y := (.tmp 21)) (A := A1) (k' := .i64) (j := (i1 : Int)) (jn := i1) (b0 := blkOf A1) (o0 := offOf A1) (by kernel_rfl) (by kernel_rfl) (by kernel_rfl) (by kernel_rfl) (by kernel_rfl) ((hS1.rd hR1).eqSome (pos_of_get hx2)) rfl (lt_of_get hx2) ?_
    refine ge_batch [7, 8] (ans := [.val (.int .i64 e2)]) (vs := [(24, .bool (e1 != e2)), (23, .int .i64 e2)]) (l := [.loaded ⟨blkOf A1, offOf A1 + i1 * 1, none⟩ (.int .i64 e2)]) (by kernel_rfl) ⟨RdL.cell (j := 0) (hS1.rd hR1) hx2 rfl, trivial⟩ ?_
    refine ge_nil fun a hF => hK10 _ _ ?_ a hF
    by_cases hc3 : e1 = e2
    · rw [if_pos hc3] at h
      refine we_known (t := 24) (b := (e1 != e2)) (v := false) (by kernel_rfl) (bne_eq_false_iff_eq.2 hc3) ?_
      refine we_false (by kernel_rfl) ?_
      refine we_skip fun a hF => hK8 _ _ ?_ a hF
      refine we_region [(0, 0), (1, 0)] rfl ?_
      refine ge_addn (d := 25) (ty := 3) (x := (.tmp 13)) (y := (.const (.int .i64 1))) (t := 3) (t2 := 3) (k := .i64) (m := i1) (by kernel_rfl) (by kernel_rfl) (by kernel_rfl) (by have h0 := hR0.small; omega) ?_
      refine ge_batch [1] (ans := []) (vs := [(13, .int .i64 ((i1 + 1 : Nat) : Int))]) (l := []) (by kernel_rfl) trivial ?_
      obtain rfl := Option.some.inj h
      exact ge_nil fun a hF => hQ _ _ _ (Outs.again ⟨hS1, hF.weaken ⟨by kernel_rfl, by kernel_rfl, by kernel_rfl, by kernel_rfl, trivial⟩⟩)
    · rw [if_neg hc3] at h
      refine we_known (t := 24) (b := (e1 != e2)) (v := true) (by kernel_rfl) (bne_iff_ne.2 hc3) ?_
      refine we_true (by kernel_rfl) ?_
      refine we_seq fun K11 hK11 => ?_
      refine we_region [(0, 0)] rfl ?_
      refine ge_batch [0] (ans := []) (vs := [(4, .bool false)]) (l := []) (by kernel_rfl) trivial ?_
      refine ge_nil fun a hF => hK11 _ _ ?_ a hF
      obtain rfl := Option.some.inj h
      exact we_ret fun a hF => hQ _ _ _ (Outs.out nofun (Exits.on ⟨rfl, (post_ret (rs := [.tmp 4]) (ans := []) (vs := [.bool false]) (l := []) rfl (by kernel_rfl) trivial ⟨rfl, hS1⟩) a hF⟩))
  · rw [if_neg hc2] at h
    refine we_known (t := 14) (b := decide ((i1 : Int) < (l0.length : Int))) (v := false) (by kernel_rfl) (decide_eq_false hc2) ?_
    refine we_false (by kernel_rfl) ?_
    obtain rfl := Option.some.inj h
    exact we_exit fun a hF => hQ _ _ _ (Outs.out nofun (Exits.here ⟨hS, hF.weaken trivial⟩))
theorem punctualsame_Same_int_ok (K : Nat) (l0 : List Int) (A0 : Option Addr) (c0 : Nat) (l1 : List Int) (A1 : Option Addr) (c1 : Nat) (w0 : World) (hR0 : RdL w0 A0 l0) (hL0 : l0.length ≤ c0) (hR1 : RdL w0 A1 l1) (hL1 : l1.length ≤ c1) (r : Bool) (h : punctualsame_Same_int.f K l0 l1 = some r) :
    Calls Try.prog 25 #[.slice A0 l0.length c0, .slice A1 l1.length c1] w0 (punctualsame_Same_int.Post w0 r) := by
  have hS := St.start w0
  unfold punctualsame_Same_int.f at h
  refine calls_enter (n := 26) (args := [.slice A0 l0.length c0, .slice A1 l1.length c1]) (fn := Try.f25) rfl rfl rfl rfl ?_
  show WE _ _ _ _ [(0, .slice A0 l0.length c0), (1, .slice A1 l1.length c1)] _
  refine we_seq fun K1 hK1 => ?_
  refine we_region [(0, 0)] rfl ?_
  refine ge_batch [0] (ans := []) (vs := [(4, .bool false)]) (l := []) (by kernel_rfl) trivial ?_
  refine ge_nil fun a hF => hK1 _ _ ?_ a hF
  refine we_seq fun K2 hK2 => ?_
  refine we_seq fun K3 hK3 => ?_
  refine we_region [(0, 0), (1, 0), (2, 0), (3, 0), (4, 0)] rfl ?_
  refine ge_batch [0, 1, 2, 3, 4] (ans := []) (vs := [(10, .bool ((l0.length : Int) != (l1.length : Int))), (9, .int .i64 (l1.length : Int)), (8, .slice A1 l1.length c1), (7, .int .i64 (l0.length : Int)), (6, .slice A0 l0.length c0)]) (l := []) (by kernel_rfl) trivial ?_
  refine ge_nil fun a hF => hK3 _ _ ?_ a hF
  by_cases hc1 : (l0.length : Int) = (l1.length : Int)
  · rw [if_pos hc1] at h
    refine we_known (t := 10) (b := ((l0.length : Int) != (l1.length : Int))) (v := false) (by kernel_rfl) (bne_eq_false_iff_eq.2 hc1) ?_
    refine we_false (by kernel_rfl) ?_
    refine we_skip fun a hF => hK2 _ _ ?_ a hF
    refine we_seq fun K4 hK4 => ?_
    refine we_seq fun K5 hK5 => ?_
    refine we_region [(0, 0), (1, 0), (2, 0)] rfl ?_
    refine ge_batch [0, 1, 2] (ans := []) (vs := [(13, .int .i64 0), (12, .int .i64 (l0.length : Int)), (11, .slice A0 l0.length c0)]) (l := []) (by kernel_rfl) trivial ?_
    refine ge_nil fun a hF => hK5 _ _ ?_ a hF
    refine we_block ?_
    rcases hq1 : iter (punctualsame_Same_int.r0 l0 l1) K 0 with _ | (_ | rr1)
    · rw [hq1] at h; cases h
    · rw [hq1] at h
      simp only [] at h
      refine we_iter (A := punctualsame_Same_int.A0 K w0 l0 A0 c0 l1 A1 c1 hR0 hL0 hR1 hL1 hc1) (B := punctualsame_Same_int.B0 K w0 l0 A0 c0 l1 A1 c1 hR0 hL0 hR1 hL1 hc1) hq1 (fun a hF => ⟨hS, hF.weaken ⟨by kernel_rfl, by kernel_rfl, by kernel_rfl, by kernel_rfl, trivial⟩⟩) (fun s o hf a w hA Q hQ => punctualsame_Same_int_r0 K w0 l0 A0 c0 l1 A1 c1 hR0 hL0 hR1 hL1 hc1 s o hf a w hA Q hQ) ?_
      rintro _ a w1 _ ⟨rfl, hS2, hF⟩
      replace hS2 : St w0 w1 [] := hS2
      refine hK4 [] w1 ?_ a hF
      refine we_seq fun K12 hK12 => ?_
      refine we_region [(0, 0)] rfl ?_
      refine ge_batch [0] (ans := []) (vs := [(4, .bool true)]) (l := []) (by kernel_rfl) trivial ?_
      refine ge_nil fun a hF => hK12 _ _ ?_ a hF
      obtain rfl := Option.some.inj h
      exact we_ret (post_ret (rs := [.tmp 4]) (ans := []) (vs := [.bool true]) (l := []) rfl (by kernel_rfl) trivial ⟨rfl, hS2⟩)
    · rw [hq1] at h
      simp only [] at h
      refine we_iter (A := punctualsame_Same_int.A0 K w0 l0 A0 c0 l1 A1 c1 hR0 hL0 hR1 hL1 hc1) (B := punctualsame_Same_int.B0 K w0 l0 A0 c0 l1 A1 c1 hR0 hL0 hR1 hL1 hc1) hq1 (fun a hF => ⟨hS, hF.weaken ⟨by kernel_rfl, by kernel_rfl, by kernel_rfl, by kernel_rfl, trivial⟩⟩) (fun s o hf a w hA Q hQ => punctualsame_Same_int_r0 K w0 l0 A0 c0 l1 A1 c1 hR0 hL0 hR1 hL1 hc1 s o hf a w hA Q hQ) ?_
      rintro _ a w1 _ ⟨rfl, hb⟩
      obtain rfl := Option.some.inj h
      exact hb
  · rw [if_neg hc1] at h
    refine we_known (t := 10) (b := ((l0.length : Int) != (l1.length : Int))) (v := true) (by kernel_rfl) (bne_iff_ne.2 hc1) ?_
    refine we_true (by kernel_rfl) ?_
    refine we_seq fun K13 hK13 => ?_
    refine we_region [(0, 0)] rfl ?_
    refine ge_batch [0] (ans := []) (vs := [(4, .bool false)]) (l := []) (by kernel_rfl) trivial ?_
    refine ge_nil fun a hF => hK13 _ _ ?_ a hF
    obtain rfl := Option.some.inj h
    exact we_ret (post_ret (rs := [.tmp 4]) (ans := []) (vs := [.bool false]) (l := []) rfl (by kernel_rfl) trivial ⟨rfl, hS⟩)

/-! punctual/punctuallaw.responds -/
abbrev responds.Post (w0 : World) (r : Bool) (e : Ending) (w : World) : Prop := e = .returned (.bool r) ∧ St w0 w []
def responds.f (K : Nat) : Option Bool :=
  match fixed_Responses.f K three.f ([0, 0, 0] : List Int) with
  | none => none
  | some r1 =>
    if r1.2.Code = 0 then
      match punctualsame_Same_int.f K r1.1 ([1, 3, 10] : List Int) with
      | none => none
      | some r2 =>
        some r2
    else
      some false
theorem responds_ok (K : Nat)  (w0 : World) (r : Bool) (h : responds.f K = some r) :
    Calls Try.prog 7 #[] w0 (responds.Post w0 r) := by
  have hS := St.start w0
  unfold responds.f at h
  refine calls_enter (n := 17) (args := []) (fn := Try.f7) rfl rfl rfl rfl ?_
  show WE _ _ _ _ [] _
  refine we_seq fun K1 hK1 => ?_
  refine we_region [(0, 0)] rfl ?_
  refine ge_batch [0] (ans := []) (vs := [(0, .bool false)]) (l := []) (by kernel_rfl) trivial ?_
  refine ge_nil fun a hF => hK1 _ _ ?_ a hF
  refine we_seq fun K2 hK2 => ?_
  refine we_region [(0, 1), (1, 1), (2, 1), (3, 0), (4, 0), (5, 0), (6, 1), (7, 0), (8, 2)] rfl ?_
  refine ge_call (d := some 4) (f := 24) (args := #[]) (by kernel_rfl) (three_ok _ _ rfl) ?_
  rintro _ w1 ⟨v1, rfl, hS1⟩
  refine ⟨_, rfl, hS1.below, ?_⟩
  have hS2 := hS.call hS1
  refine ge_new (d := some 5) (o := .cells #[.int .i64 0, .int .i64 0, .int .i64 0] 3) (v := fun b => .slice (some ⟨b, 0, none⟩) 3 3) hS2 (fun b => by kernel_rfl) fun b1 w2 hx1 hS3 => ?_
  obtain ⟨Z1, cz1, rfl⟩ := hS3.open 1 rfl
  rcases hq2 : fixed_Responses.f K three.f ([0, 0, 0] : List Int) with _ | r1
  · rw [hq2] at h; cases h
  rw [hq2] at h
  simp only [] at h
  refine ge_call (d := some 6) (f := 10) (args := #[(.slice Z1 three.f.length cz1), .slice (some ⟨b1, 0, none⟩) 3 3]) (by kernel_rfl) (fixed_Responses_ok K three.f Z1 cz1 ([0, 0, 0] : List Int) (some ⟨b1, 0, none⟩) 3 _ (hS3.rdAt 1 rfl) (hS3.capAt 1 rfl) (hS3.rdBlk 0 ([0, 0, 0] : List Int) rfl rfl rfl) (Nat.le_refl _) _ hq2) ?_
  rintro _ w3 ⟨v2, rfl, hS4⟩
  refine ⟨_, rfl, hS4.below, ?_⟩
  have hS5 := hS3.call hS4
  refine ge_batch [3, 4, 5] (ans := []) (vs := [(8, .agg #[.int .i64 r1.2.Code, .int .i64 r1.2.At]), (7, v2), (3, .tuple #[v2, .agg #[.int .i64 r1.2.Code, .int .i64 r1.2.At]])]) (l := []) (by kernel_rfl) trivial ?_
  refine ge_new (d := some 2) (o := .cells #[.int .i64 0, .int .i64 0] 29) (v := fun b => .pointer (some ⟨b, 0, none⟩)) hS5 (fun b => by kernel_rfl) fun b2 w4 hx2 hS6 => ?_
  refine ge_batch [7] (ans := []) (vs := [(1, v2)]) (l := []) (by kernel_rfl) trivial ?_
  refine ge_set (b := b2) (j := 0) (cs := #[.int .i64 0, .int .i64 0]) (t := 29) (vs := [.int .i64 r1.2.Code, .int .i64 r1.2.At]) hS6 (by kernel_rfl) rfl rfl fun w5 hS7 => ?_
  have hS8 : St w0 w5 [Own.blk b2 (.cells #[.int .i64 r1.2.Code, .int .i64 r1.2.At] 29 (0, 0)), Own.of v2 3 r1.1, Own.blk b1 (.cells #[.int .i64 0, .int .i64 0, .int .i64 0] 3 (0, 0)), Own.of (.slice Z1 three.f.length cz1) 46 three.f] := hS7
  refine ge_nil fun a hF => hK2 _ _ ?_ a hF
  refine we_seq fun K3 hK3 => ?_
  refine we_region [(0, 0), (1, 0), (2, 0), (3, 0), (4, 0), (5, 1), (6, 1), (7, 0), (8, 0)] rfl ?_
  refine ge_batch [0, 1, 2, 3] (ans := [.val (.int .i64 r1.2.Code)]) (vs := [(12, .bool (r1.2.Code == 0)), (11, .bool (r1.2.Code == 0)), (10, .int .i64 r1.2.Code), (9, .pointer (some ⟨b2, 0, none⟩))]) (l := [.loaded ⟨b2, 0, none⟩ (.int .i64 r1.2.Code)]) (by kernel_rfl) ⟨hS8.cell 0 rfl rfl, trivial⟩ ?_
  by_cases hc1 : r1.2.Code = 0
  · rw [if_pos hc1] at h
    refine ge_known (t := 12) (b := (r1.2.Code == 0)) (c := true) (by kernel_rfl) (beq_iff_eq.2 hc1) ?_
    refine ge_batch [4] (ans := []) (vs := [(13, v2)]) (l := []) (by kernel_rfl) trivial ?_
    refine ge_new (d := some 14) (o := .cells #[.int .i64 1, .int .i64 3, .int .i64 10] 3) (v := fun b => .slice (some ⟨b, 0, none⟩) 3 3) hS8 (fun b => by kernel_rfl) fun b3 w6 hx3 hS9 => ?_
    obtain ⟨Z2, cz2, rfl⟩ := hS9.open 2 rfl
    rcases hq3 : punctualsame_Same_int.f K r1.1 ([1, 3, 10] : List Int) with _ | r2
    · rw [hq3] at h; cases h
    rw [hq3] at h
    simp only [] at h
    refine ge_call (d := some 15) (f := 25) (args := #[(.slice Z2 r1.1.length cz2), .slice (some ⟨b3, 0, none⟩) 3 3]) (by kernel_rfl) (punctualsame_Same_int_ok K r1.1 Z2 cz2 ([1, 3, 10] : List Int) (some ⟨b3, 0, none⟩) 3 _ (hS9.rdAt 2 rfl) (hS9.capAt 2 rfl) (hS9.rdBlk 0 ([1, 3, 10] : List Int) rfl rfl rfl) (Nat.le_refl _) _ hq3) ?_
    rintro _ w7 ⟨rfl, hS10⟩
    refine ⟨_, rfl, hS10.below, ?_⟩
    have hS11 := hS9.call hS10
    refine ge_batch [7, 8] (ans := []) (vs := [(0, .bool r2), (16, .bool r2)]) (l := []) (by kernel_rfl) trivial ?_
    refine ge_nil fun a hF => hK3 _ _ ?_ a hF
    have hS12 := hS11.takeN 0
    obtain rfl := Option.some.inj h
    exact we_ret (post_ret (rs := [.tmp 0]) (ans := []) (vs := [.bool r2]) (l := []) rfl (by kernel_rfl) trivial ⟨rfl, hS12⟩)
  · rw [if_neg hc1] at h
    refine ge_known (t := 12) (b := (r1.2.Code == 0)) (c := false) (by kernel_rfl) (beq_eq_false_iff_ne.2 hc1) ?_
    refine ge_batch [4] (ans := []) (vs := [(13, undef)]) (l := []) (by kernel_rfl) trivial ?_
    refine ge_off rfl rfl rfl (by kernel_rfl) ?_
    refine ge_off rfl rfl rfl (by kernel_rfl) ?_
    refine ge_batch [7, 8] (ans := []) (vs := [(0, .bool false), (16, .bool false)]) (l := []) (by kernel_rfl) trivial ?_
    refine ge_nil fun a hF => hK3 _ _ ?_ a hF
    have hS13 := hS8.takeN 0
    obtain rfl := Option.some.inj h
    exact we_ret (post_ret (rs := [.tmp 0]) (ans := []) (vs := [.bool false]) (l := []) rfl (by kernel_rfl) trivial ⟨rfl, hS13⟩)

/-! punctual/punctuallaw.few -/
abbrev few.Post (w0 : World) (r : Bool) (e : Ending) (w : World) : Prop := e = .returned (.bool r) ∧ St w0 w []
def few.f (x0 : Int) : Bool :=
  decide (x0 ≤ 5000)
theorem few_ok (x0 : Int) (w0 : World) (r : Bool) (h : few.f x0 = r) :
    Calls Try.prog 9 #[.int .i64 x0] w0 (few.Post w0 r) := by
  have hS := St.start w0
  unfold few.f at h
  refine calls_enter (n := 5) (args := [.int .i64 x0]) (fn := Try.f9) rfl rfl rfl rfl ?_
  show WE _ _ _ _ [(0, .int .i64 x0)] _
  refine we_seq fun K1 hK1 => ?_
  refine we_region [(0, 0)] rfl ?_
  refine ge_batch [0] (ans := []) (vs := [(2, .bool false)]) (l := []) (by kernel_rfl) trivial ?_
  refine ge_nil fun a hF => hK1 _ _ ?_ a hF
  refine we_seq fun K2 hK2 => ?_
  refine we_region [(0, 0), (1, 0), (2, 0)] rfl ?_
  refine ge_batch [0, 1, 2] (ans := []) (vs := [(2, .bool (decide (x0 ≤ 5000))), (4, .bool (decide (x0 ≤ 5000))), (3, .int .i64 x0)]) (l := []) (by kernel_rfl) trivial ?_
  refine ge_nil fun a hF => hK2 _ _ ?_ a hF
  subst h
  exact we_ret (post_ret (rs := [.tmp 2]) (ans := []) (vs := [.bool (decide (x0 ≤ 5000))]) (l := []) rfl (by kernel_rfl) trivial ⟨rfl, hS⟩)

/-! punctual/fixed.Assign$1 -/
abbrev fixed_Assign_1.Post (w0 : World) (r : Bool) (e : Ending) (w : World) : Prop := e = .returned (.bool r) ∧ St w0 w []
def fixed_Assign_1.f (x0 : Int) : Bool :=
  if x0 < 0 then
    true
  else
    decide (x0 > 10000)
theorem fixed_Assign_1_ok (x0 : Int) (w0 : World) (r : Bool) (h : fixed_Assign_1.f x0 = r) :
    Calls Try.prog 32 #[.int .i64 x0] w0 (fixed_Assign_1.Post w0 r) := by
  have hS := St.start w0
  unfold fixed_Assign_1.f at h
  refine calls_enter (n := 9) (args := [.int .i64 x0]) (fn := Try.f32) rfl rfl rfl rfl ?_
  show WE _ _ _ _ [(0, .int .i64 x0)] _
  refine we_seq fun K1 hK1 => ?_
  refine we_region [(0, 0)] rfl ?_
  refine ge_batch [0] (ans := []) (vs := [(2, .bool false)]) (l := []) (by kernel_rfl) trivial ?_
  refine ge_nil fun a hF => hK1 _ _ ?_ a hF
  refine we_seq fun K2 hK2 => ?_
  refine we_region [(0, 0), (1, 0), (2, 0), (3, 0), (4, 0), (5, 0), (6, 0)] rfl ?_
  refine ge_batch [0, 1, 2] (ans := []) (vs := [(5, .bool (decide (x0 < 0))), (4, .bool (decide (x0 < 0))), (3, .int .i64 x0)]) (l := []) (by kernel_rfl) trivial ?_
  by_cases hc1 : x0 < 0
  · rw [if_pos hc1] at h
    refine ge_known (t := 5) (b := decide (x0 < 0)) (c := true) (by kernel_rfl) (decide_eq_true hc1) ?_
    refine ge_batch [3, 4, 5, 6] (ans := []) (vs := [(2, .bool true), (8, .bool true), (7, undef), (6, undef)]) (l := []) (by kernel_rfl) trivial ?_
    refine ge_nil fun a hF => hK2 _ _ ?_ a hF
    subst h
    exact we_ret (post_ret (rs := [.tmp 2]) (ans := []) (vs := [.bool true]) (l := []) rfl (by kernel_rfl) trivial ⟨rfl, hS⟩)
  · rw [if_neg hc1] at h
    refine ge_known (t := 5) (b := decide (x0 < 0)) (c := false) (by kernel_rfl) (decide_eq_false hc1) ?_
    refine ge_batch [3, 4, 5, 6] (ans := []) (vs := [(2, .bool (decide (x0 > 10000))), (8, .bool (decide (x0 > 10000))), (7, .bool (decide (x0 > 10000))), (6, .int .i64 x0)]) (l := []) (by kernel_rfl) trivial ?_
    refine ge_nil fun a hF => hK2 _ _ ?_ a hF
    subst h
    exact we_ret (post_ret (rs := [.tmp 2]) (ans := []) (vs := [.bool (decide (x0 > 10000))]) (l := []) rfl (by kernel_rfl) trivial ⟨rfl, hS⟩)

/-! slices.IndexFunc[[]int,int] -/
abbrev slices_IndexFunc_int_int.Post (w0 : World) (r : Int) (e : Ending) (w : World) : Prop := e = .returned (.int .i64 r) ∧ St w0 w []
def slices_IndexFunc_int_int.r0 (l0 : List Int) : Nat → Option (Nat ⊕ (Unit ⊕ Int))
  | i1 =>
    if (i1 : Int) < (l0.length : Int) then
      match l0[i1]? with
      | none => none
      | some e1 =>
        if (fixed_Assign_1.f e1) = true then
          some (.inr (.inr (i1 : Int)))
        else
          some (.inl (i1 + 1))
    else
      some (.inr (.inl ()))
def slices_IndexFunc_int_int.f (K : Nat) (l0 : List Int) : Option Int :=
  match iter (slices_IndexFunc_int_int.r0 l0) K 0 with
  | none => none
  | some (.inl _) =>
    some (-1)
  | some (.inr rr1) =>
    some rr1
abbrev slices_IndexFunc_int_int.A0 (K : Nat) (w0 : World) (l0 : List Int) (A0 : Option Addr) (c0 : Nat) (hR0 : RdL w0 A0 l0) (hL0 : l0.length ≤ c0) : Nat → Act → World → Prop := fun (s : Nat) a w => St w0 w [] ∧ Frm 19 a [(0, .slice A0 l0.length c0), (1, .func (.func 32) #[] #[]), (7, .int .i64 (l0.length : Int)), (8, .int .i64 (s : Int))]
abbrev slices_IndexFunc_int_int.B0 (K : Nat) (w0 : World) (l0 : List Int) (A0 : Option Addr) (c0 : Nat) (hR0 : RdL w0 A0 l0) (hL0 : l0.length ≤ c0) : (Unit ⊕ Int) → Exit → Act → World → Prop := Exits 0 (fun (s : Unit) a w => St w0 w [] ∧ Frm 19 a []) (Rets Try.prog Try.f49 (slices_IndexFunc_int_int.Post w0))
theorem slices_IndexFunc_int_int_r0 (K : Nat) (w0 : World) (l0 : List Int) (A0 : Option Addr) (c0 : Nat) (hR0 : RdL w0 A0 l0) (hL0 : l0.length ≤ c0) (s : Nat) (o : Nat ⊕ (Unit ⊕ Int)) (h : slices_IndexFunc_int_int.r0 l0 s = some o) (a : Act) (w : World) (hA : slices_IndexFunc_int_int.A0 K w0 l0 A0 c0 hR0 hL0 s a w) (Q : Exit → Act → World → Prop) (hQ : ∀ x a w, Outs (slices_IndexFunc_int_int.A0 K w0 l0 A0 c0 hR0 hL0) (slices_IndexFunc_int_int.B0 K w0 l0 A0 c0 hR0 hL0) o x a w → Q x a w) : (subF Try.f49 [1, 0, 1, 0, 0]).wp Try.prog Q a w := by
  obtain ⟨i1, hs⟩ : ∃ z, z = s := ⟨s, rfl⟩
  subst hs
  obtain ⟨hS, hF⟩ := hA
  replace hS : St w0 w [] := hS
  simp only [slices_IndexFunc_int_int.r0] at h
  refine (?_ : WE Try.prog 19 (subF Try.f49 [1, 0, 1, 0, 0]) Q [(0, .slice A0 l0.length c0), (1, .func (.func 32) #[] #[]), (7, .int .i64 (l0.length : Int)), (8, .int .i64 (i1 : Int))] w) a hF
  clear hF a
  refine we_seq fun K4 hK4 => ?_
  refine we_region [(0, 0)] rfl ?_
  refine ge_batch [0] (ans := []) (vs := [(9, .bool (decide ((i1 : Int) < (l0.length : Int))))]) (l := []) (by kernel_rfl) trivial ?_
  refine ge_nil fun a hF => hK4 _ _ ?_ a hF
  refine we_seq fun K5 hK5 => ?_
  by_cases hc1 : (i1 : Int) < (l0.length : Int)
  · rw [if_pos hc1] at h
    refine we_known (t := 9) (b := decide ((i1 : Int) < (l0.length : Int))) (v := true) (by kernel_rfl) (decide_eq_true hc1) ?_
    refine we_true (by kernel_rfl) ?_
    refine we_skip fun a hF => hK5 _ _ ?_ a hF
    refine we_seq fun K6 hK6 => ?_
    refine we_block ?_
    refine we_seq fun K7 hK7 => ?_
    refine we_region [(0, 0), (1, 0)] rfl ?_
    refine ge_batch [0, 1] (ans := []) (vs := [(5, .int .i64 (i1 : Int)), (10, .int .i64 (i1 : Int))]) (l := []) (by kernel_rfl) trivial ?_
    refine ge_nil fun a hF => hK7 _ _ ?_ a hF
    refine we_seq fun K8 hK8 => ?_
    refine we_region [(0, 0), (1, 0), (2, 0), (3, 0), (4, 0), (5, 1)] rfl ?_
    refine ge_batch [0, 1, 2] (ans := []) (vs := [(13, .int .i64 (i1 : Int)), (12, .slice A0 l0.length c0), (11, .func (.func 32) #[] #[])]) (l := []) (by kernel_rfl) trivial ?_
    rcases hx1 : l0[i1]? with _ | e1
    · rw [hx1] at h; cases h
    rw [hx1] at h
    simp only [] at h
    refine ge_index (d := 14) (ty := 0) (t := 24) (el := 3) (sz := 1) (m := l0.length) (c := c0) (x := (.tmp 12)) (y := (.tmp 13)) (A := A0) (k' := .i64) (j := (i1 : Int)) (jn := i1) (b0 := blkOf A0) (o0 := offOf A0) (by kernel_rfl) (by kernel_rfl) (by kernel_rfl) (by kernel_rfl) (by kernel_rfl) ((hS.rd hR0).eqSome (pos_of_get hx1)) rfl (lt_of_get hx1) ?_
    refine ge_batch [4] (ans := [.val (.int .i64 e1)]) (vs := [(15, .int .i64 e1)]) (l := [.loaded ⟨blkOf A0, offOf A0 + i1 * 1, none⟩ (.int .i64 e1)]) (by kernel_rfl) ⟨RdL.cell (j := 0) (hS.rd hR0) hx1 rfl, trivial⟩ ?_
    refine ge_call (d := some 16) (f := 32) (args := #[.int .i64 e1]) (by kernel_rfl) (fixed_Assign_1_ok e1 _ _ rfl) ?_
    rintro _ w1 ⟨rfl, hS1⟩
    refine ⟨_, rfl, hS1.below, ?_⟩
    have hS2 := hS.call hS1
    refine ge_nil fun a hF => hK8 _ _ ?_ a hF
    by_cases hc2 : (fixed_Assign_1.f e1) = true
    · rw [if_pos hc2] at h
      refine we_known (t := 16) (b := (fixed_Assign_1.f e1)) (v := true) (by kernel_rfl) hc2 ?_
      refine we_true (by kernel_rfl) ?_
      refine we_seq fun K9 hK9 => ?_
      refine we_region [(0, 0), (1, 0)] rfl ?_
      refine ge_batch [0, 1] (ans := []) (vs := [(4, .int .i64 (i1 : Int)), (17, .int .i64 (i1 : Int))]) (l := []) (by kernel_rfl) trivial ?_
      refine ge_nil fun a hF => hK9 _ _ ?_ a hF
      obtain rfl := Option.some.inj h
      exact we_ret fun a hF => hQ _ _ _ (Outs.out nofun (Exits.on ⟨rfl, (post_ret (rs := [.tmp 4]) (ans := []) (vs := [.int .i64 (i1 : Int)]) (l := []) rfl (by kernel_rfl) trivial ⟨rfl, hS2⟩) a hF⟩))
    · rw [if_neg hc2] at h
      refine we_known (t := 16) (b := (fixed_Assign_1.f e1)) (v := false) (by kernel_rfl) (Bool.eq_false_iff.2 hc2) ?_
      refine we_false (by kernel_rfl) ?_
      refine we_skip fun a hF => hK6 _ _ ?_ a hF
      refine we_region [(0, 0), (1, 0)] rfl ?_
      refine ge_addn (d := 18) (ty := 3) (x := (.tmp 8)) (y := (.const (.int .i64 1))) (t := 3) (t2 := 3) (k := .i64) (m := i1) (by kernel_rfl) (by kernel_rfl) (by kernel_rfl) (by have h0 := hR0.small; omega) ?_
      refine ge_batch [1] (ans := []) (vs := [(8, .int .i64 ((i1 + 1 : Nat) : Int))]) (l := []) (by kernel_rfl) trivial ?_
      obtain rfl := Option.some.inj h
      exact ge_nil fun a hF => hQ _ _ _ (Outs.again ⟨hS2, hF.weaken ⟨by kernel_rfl, by kernel_rfl, by kernel_rfl, by kernel_rfl, trivial⟩⟩)
  · rw [if_neg hc1] at h
    refine we_known (t := 9) (b := decide ((i1 : Int) < (l0.length : Int))) (v := false) (by kernel_rfl) (decide_eq_false hc1) ?_
    refine we_false (by kernel_rfl) ?_
    obtain rfl := Option.some.inj h
    exact we_exit fun a hF => hQ _ _ _ (Outs.out nofun (Exits.here ⟨hS, hF.weaken trivial⟩))
theorem slices_IndexFunc_int_int_ok (K : Nat) (l0 : List Int) (A0 : Option Addr) (c0 : Nat) (w0 : World) (hR0 : RdL w0 A0 l0) (hL0 : l0.length ≤ c0) (r : Int) (h : slices_IndexFunc_int_int.f K l0 = some r) :
    Calls Try.prog 49 #[.slice A0 l0.length c0, .func (.func 32) #[] #[]] w0 (slices_IndexFunc_int_int.Post w0 r) := by
  have hS := St.start w0
  unfold slices_IndexFunc_int_int.f at h
  refine calls_enter (n := 19) (args := [.slice A0 l0.length c0, .func (.func 32) #[] #[]]) (fn := Try.f49) rfl rfl rfl rfl ?_
  show WE _ _ _ _ [(0, .slice A0 l0.length c0), (1, .func (.func 32) #[] #[])] _
  refine we_seq fun K1 hK1 => ?_
  refine we_region [(0, 0)] rfl ?_
  refine ge_batch [0] (ans := []) (vs := [(4, .int .i64 0)]) (l := []) (by kernel_rfl) trivial ?_
  refine ge_nil fun a hF => hK1 _ _ ?_ a hF
  refine we_seq fun K2 hK2 => ?_
  refine we_seq fun K3 hK3 => ?_
  refine we_region [(0, 0), (1, 0), (2, 0)] rfl ?_
  refine ge_batch [0, 1, 2] (ans := []) (vs := [(8, .int .i64 0), (7, .int .i64 (l0.length : Int)), (6, .slice A0 l0.length c0)]) (l := []) (by kernel_rfl) trivial ?_
  refine ge_nil fun a hF => hK3 _ _ ?_ a hF
  refine we_block ?_
  rcases hq2 : iter (slices_IndexFunc_int_int.r0 l0) K 0 with _ | (_ | rr1)
  · rw [hq2] at h; cases h
  · rw [hq2] at h
    simp only [] at h
    refine we_iter (A := slices_IndexFunc_int_int.A0 K w0 l0 A0 c0 hR0 hL0) (B := slices_IndexFunc_int_int.B0 K w0 l0 A0 c0 hR0 hL0) hq2 (fun a hF => ⟨hS, hF.weaken ⟨by kernel_rfl, by kernel_rfl, by kernel_rfl, by kernel_rfl, trivial⟩⟩) (fun s o hf a w hA Q hQ => slices_IndexFunc_int_int_r0 K w0 l0 A0 c0 hR0 hL0 s o hf a w hA Q hQ) ?_
    rintro _ a w2 _ ⟨rfl, hS3, hF⟩
    replace hS3 : St w0 w2 [] := hS3
    refine hK2 [] w2 ?_ a hF
    refine we_seq fun K10 hK10 => ?_
    refine we_region [(0, 0)] rfl ?_
    refine ge_batch [0] (ans := []) (vs := [(4, .int .i64 (-1))]) (l := []) (by kernel_rfl) trivial ?_
    refine ge_nil fun a hF => hK10 _ _ ?_ a hF
    obtain rfl := Option.some.inj h
    exact we_ret (post_ret (rs := [.tmp 4]) (ans := []) (vs := [.int .i64 (-1)]) (l := []) rfl (by kernel_rfl) trivial ⟨rfl, hS3⟩)
  · rw [hq2] at h
    simp only [] at h
    refine we_iter (A := slices_IndexFunc_int_int.A0 K w0 l0 A0 c0 hR0 hL0) (B := slices_IndexFunc_int_int.B0 K w0 l0 A0 c0 hR0 hL0) hq2 (fun a hF => ⟨hS, hF.weaken ⟨by kernel_rfl, by kernel_rfl, by kernel_rfl, by kernel_rfl, trivial⟩⟩) (fun s o hf a w hA Q hQ => slices_IndexFunc_int_int_r0 K w0 l0 A0 c0 hR0 hL0 s o hf a w hA Q hQ) ?_
    rintro _ a w1 _ ⟨rfl, hb⟩
    obtain rfl := Option.some.inj h
    exact hb

/-! slices.ContainsFunc[[]int,int] -/
abbrev slices_ContainsFunc_int_int.Post (w0 : World) (r : Bool) (e : Ending) (w : World) : Prop := e = .returned (.bool r) ∧ St w0 w []
def slices_ContainsFunc_int_int.f (K : Nat) (l0 : List Int) : Option Bool :=
  match slices_IndexFunc_int_int.f K l0 with
  | none => none
  | some r1 =>
    some (decide (r1 ≥ 0))
theorem slices_ContainsFunc_int_int_ok (K : Nat) (l0 : List Int) (A0 : Option Addr) (c0 : Nat) (w0 : World) (hR0 : RdL w0 A0 l0) (hL0 : l0.length ≤ c0) (r : Bool) (h : slices_ContainsFunc_int_int.f K l0 = some r) :
    Calls Try.prog 31 #[.slice A0 l0.length c0, .func (.func 32) #[] #[]] w0 (slices_ContainsFunc_int_int.Post w0 r) := by
  have hS := St.start w0
  unfold slices_ContainsFunc_int_int.f at h
  refine calls_enter (n := 9) (args := [.slice A0 l0.length c0, .func (.func 32) #[] #[]]) (fn := Try.f31) rfl rfl rfl rfl ?_
  show WE _ _ _ _ [(0, .slice A0 l0.length c0), (1, .func (.func 32) #[] #[])] _
  refine we_seq fun K1 hK1 => ?_
  refine we_region [(0, 0)] rfl ?_
  refine ge_batch [0] (ans := []) (vs := [(4, .bool false)]) (l := []) (by kernel_rfl) trivial ?_
  refine ge_nil fun a hF => hK1 _ _ ?_ a hF
  refine we_seq fun K2 hK2 => ?_
  refine we_region [(0, 0), (1, 0), (2, 1), (3, 0), (4, 0)] rfl ?_
  rcases hq1 : slices_IndexFunc_int_int.f K l0 with _ | r1
  · rw [hq1] at h; cases h
  rw [hq1] at h
  simp only [] at h
  refine ge_batch [0, 1] (ans := []) (vs := [(6, .func (.func 32) #[] #[]), (5, .slice A0 l0.length c0)]) (l := []) (by kernel_rfl) trivial ?_
  refine ge_call (d := some 7) (f := 49) (args := #[.slice A0 l0.length c0, .func (.func 32) #[] #[]]) (by kernel_rfl) (slices_IndexFunc_int_int_ok K l0 A0 c0 _ (hS.rd hR0) hL0 _ hq1) ?_
  rintro _ w1 ⟨rfl, hS1⟩
  refine ⟨_, rfl, hS1.below, ?_⟩
  have hS2 := hS.call hS1
  refine ge_batch [3, 4] (ans := []) (vs := [(4, .bool (decide (r1 ≥ 0))), (8, .bool (decide (r1 ≥ 0)))]) (l := []) (by kernel_rfl) trivial ?_
  refine ge_nil fun a hF => hK2 _ _ ?_ a hF
  obtain rfl := Option.some.inj h
  exact we_ret (post_ret (rs := [.tmp 4]) (ans := []) (vs := [.bool (decide (r1 ≥ 0))]) (l := []) rfl (by kernel_rfl) trivial ⟨rfl, hS2⟩)

/-! slices.Clone[[]punctual/api.Task,punctual/api.Task] -/
abbrev slices_Clone_api_Task_api_Task.Post (w0 : World) (r : List STask) (e : Ending) (w : World) : Prop := ∃ (v0 : Value), e = .returned (v0) ∧ St w0 w [Own.of v0 46 r]
def slices_Clone_api_Task_api_Task.f (l0 : List STask) : Option (List STask) :=
  if 0 + l0.length ≤ 2199023255552 then
    some l0
  else
    none
theorem slices_Clone_api_Task_api_Task_ok (l0 : List STask) (A0 : Option Addr) (c0 : Nat) (w0 : World) (hR0 : RdL w0 A0 l0) (hL0 : l0.length ≤ c0) (r : List STask) (h : slices_Clone_api_Task_api_Task.f l0 = some r) :
    Calls Try.prog 33 #[.slice A0 l0.length c0] w0 (slices_Clone_api_Task_api_Task.Post w0 r) := by
  have hS := St.start w0
  unfold slices_Clone_api_Task_api_Task.f at h
  rcases A0 with _ | ad
  · obtain rfl := RdL.nil_of hR0
    rw [if_pos (by decide)] at h
    refine calls_enter (n := 8) (args := [.slice none ([] : List STask).length c0]) (fn := Try.f33) rfl rfl rfl rfl ?_
    show WE _ _ _ _ [(0, .slice none ([] : List STask).length c0)] _
    refine we_seq fun K1 hK1 => ?_
    refine we_region [(0, 0)] rfl ?_
    refine ge_batch [0] (ans := []) (vs := [(2, .slice none 0 0)]) (l := []) (by kernel_rfl) trivial ?_
    refine ge_nil fun a hF => hK1 _ _ ?_ a hF
    refine we_seq fun K2 hK2 => ?_
    refine we_seq fun K3 hK3 => ?_
    refine we_region [(0, 0), (1, 0)] rfl ?_
    refine ge_batch [0, 1] (ans := []) (vs := [(4, .bool true), (3, .slice none (([] : List STask).length) c0)]) (l := []) (by kernel_rfl) trivial ?_
    refine ge_nil fun a hF => hK3 _ _ ?_ a hF
    refine we_true (by kernel_rfl) ?_
    refine we_seq fun K4 hK4 => ?_
    refine we_region [(0, 0)] rfl ?_
    refine ge_batch [0] (ans := []) (vs := [(2, .slice none 0 0)]) (l := []) (by kernel_rfl) trivial ?_
    refine ge_nil fun a hF => hK4 _ _ ?_ a hF
    have hS1 := hS.nil (α := STask) 46
    obtain rfl := Option.some.inj h
    exact we_ret (post_ret (rs := [.tmp 2]) (ans := []) (vs := [(.slice none 0 0)]) (l := []) rfl (by kernel_rfl) trivial ⟨(.slice none 0 0), rfl, hS1⟩)
  · refine calls_enter (n := 8) (args := [.slice (some ad) l0.length c0]) (fn := Try.f33) rfl rfl rfl rfl ?_
    show WE _ _ _ _ [(0, .slice (some ad) l0.length c0)] _
    refine we_seq fun K5 hK5 => ?_
    refine we_region [(0, 0)] rfl ?_
    refine ge_batch [0] (ans := []) (vs := [(2, .slice none 0 0)]) (l := []) (by kernel_rfl) trivial ?_
    refine ge_nil fun a hF => hK5 _ _ ?_ a hF
    refine we_seq fun K6 hK6 => ?_
    refine we_seq fun K7 hK7 => ?_
    refine we_region [(0, 0), (1, 0)] rfl ?_
    refine ge_batch [0, 1] (ans := []) (vs := [(4, .bool false), (3, .slice (some ad) l0.length c0)]) (l := []) (by kernel_rfl) trivial ?_
    refine ge_nil fun a hF => hK7 _ _ ?_ a hF
    refine we_false (by kernel_rfl) ?_
    refine we_skip fun a hF => hK6 _ _ ?_ a hF
    refine we_seq fun K8 hK8 => ?_
    refine we_region [(0, 1), (1, 0), (2, 2), (3, 0)] rfl ?_
    refine ge_new (d := some 5) (o := .cells #[] 46) (v := fun b => .slice (some ⟨b, 0, none⟩) 0 0) hS (fun b => by kernel_rfl) fun b1 w1 hx1 hS2 => ?_
    refine ge_batch [1] (ans := []) (vs := [(6, .slice (some ad) l0.length c0)]) (l := []) (by kernel_rfl) trivial ?_
    have hS3 := hS2.asRow (α := STask) (c := 0) ([] : List STask) (Nat.le_refl _) (by decide) rfl rfl
    by_cases hc1 : 0 + l0.length ≤ 2199023255552
    · rw [if_pos hc1] at h
      refine ge_appendL (α := STask) (m := 0) (d := 7) (t := 22) (el := 46) (bytes := 64) (c1 := c0) (A1 := (some ad)) (x := (.tmp 5)) (y := (.tmp 6)) (ty := 22) (v := (.slice (some ⟨b1, 0, none⟩) 0 0)) (z := .agg #[.string (⟨#[]⟩), .int .i64 0, .int .i64 0, .int .i64 0, .int .i64 0, .int .i64 0, .int .i64 0]) (l := ([] : List STask)) (us := l0) (by kernel_rfl) (by kernel_rfl) (by kernel_rfl) (by kernel_rfl) (by kernel_rfl) rfl hS3 (hS3.rd hR0) rfl (Nat.mul_le_of_le_div _ _ _ hc1) fun v1 w2 hS4 => ?_
      have hS5 : St w0 w2 [Own.of v1 46 l0] := hS4
      refine ge_batch [3] (ans := []) (vs := [(2, v1)]) (l := []) (by kernel_rfl) trivial ?_
      refine ge_nil fun a hF => hK8 _ _ ?_ a hF
      obtain rfl := Option.some.inj h
      exact we_ret (post_ret (rs := [.tmp 2]) (ans := []) (vs := [v1]) (l := []) rfl (by kernel_rfl) trivial ⟨v1, rfl, hS5⟩)
    · rw [if_neg hc1] at h
      cases h
end Go.Proofs.Ytlipdmblinjjaaa.GV
