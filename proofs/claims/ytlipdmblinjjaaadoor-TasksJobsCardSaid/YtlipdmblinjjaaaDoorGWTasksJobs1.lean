/- Walks of single functions, written by a program of this work. -/
import Derived.Test.YtlipdmblinjjaaaDoorGv16
import Derived.Test.YtlipdmblinjjaaaDoorProg
namespace Go.Proofs.YtlipdmblinjjaaaDoor.GV
open Go Go.RowKit
set_option linter.unusedVariables false
set_option linter.unusedSimpArgs false
set_option maxRecDepth 100000

structure STask where
  Name : ByteArray
  C : Int
  T : Int
  D : Int
  J : Int
  O : Int
  P : Int
def STask.eqb (x y : STask) : Bool := ((x.Name.toList == y.Name.toList) && ((x.C == y.C) && ((x.T == y.T) && ((x.D == y.D) && ((x.J == y.J) && ((x.O == y.O) && ((x.P == y.P) && true)))))))
instance : Ok STask := ⟨fun x => Ok.ok x.Name ∧ Ok.ok x.C ∧ Ok.ok x.T ∧ Ok.ok x.D ∧ Ok.ok x.J ∧ Ok.ok x.O ∧ Ok.ok x.P ∧ True⟩
instance : Flat STask := ⟨7, fun x => [.string x.Name, .int .i64 x.C, .int .i64 x.T, .int .i64 x.D, .int .i64 x.J, .int .i64 x.O, .int .i64 x.P], fun _ => rfl, fun _ => rfl, by decide⟩

/-! punctual/punctuallaw.three -/
abbrev three.Post (w0 : World) (r : List STask) (e : Ending) (w : World) : Prop := ∃ (v0 : Value), e = .returned (v0) ∧ St w0 w [Own.of v0 46 r]
def three.f : List STask :=
  ([(⟨⟨#[97]⟩, 1, 4, 4, 0, 0, 3⟩ : STask), (⟨⟨#[98]⟩, 2, 6, 6, 0, 0, 2⟩ : STask), (⟨⟨#[99]⟩, 3, 12, 12, 0, 0, 1⟩ : STask)] : List STask)
theorem three_ok  (w0 : World) (r : List STask) (h : three.f = r) :
    Calls Tryd.prog 20 #[] w0 (three.Post w0 r) := by
  have hS := St.start w0
  unfold three.f at h
  refine calls_enter (n := 5) (args := []) (fn := Tryd.f20) rfl rfl rfl rfl ?_
  show WE _ _ _ _ [] _
  refine we_seq fun K1 hK1 => ?_
  refine we_region [(0, 0)] rfl ?_
  refine ge_batch [0] (ans := []) (vs := [(0, .slice none 0 0)]) (l := []) (by kernel_rfl) trivial ?_
  refine ge_nil fun a hF => hK1 _ _ ?_ a hF
  refine we_seq fun K2 hK2 => ?_
  refine we_region [(0, 0), (1, 0), (2, 0), (3, 1), (4, 0)] rfl ?_
  refine ge_batch [0, 1, 2] (ans := []) (vs := [(3, .agg #[.string (⟨#[99]⟩), .int .i64 3, .int .i64 12, .int .i64 12, .int .i64 0, .int .i64 0, .int .i64 1]), (2, .agg #[.string (⟨#[98]⟩), .int .i64 2, .int .i64 6, .int .i64 6, .int .i64 0, .int .i64 0, .int .i64 2]), (1, .agg #[.string (⟨#[97]⟩), .int .i64 1, .int .i64 4, .int .i64 4, .int .i64 0, .int .i64 0, .int .i64 3])]) (l := []) (by kernel_rfl) trivial ?_
  refine ge_new (d := some 4) (o := .cells #[.string (⟨#[97]⟩), .int .i64 1, .int .i64 4, .int .i64 4, .int .i64 0, .int .i64 0, .int .i64 3, .string (⟨#[98]⟩), .int .i64 2, .int .i64 6, .int .i64 6, .int .i64 0, .int .i64 0, .int .i64 2, .string (⟨#[99]⟩), .int .i64 3, .int .i64 12, .int .i64 12, .int .i64 0, .int .i64 0, .int .i64 1] 46) (v := fun b => .slice (some ⟨b, 0, none⟩) 3 3) hS (fun b => by kernel_rfl) fun b1 w1 hx1 hS1 => ?_
  refine ge_batch [4] (ans := []) (vs := [(0, .slice (some ⟨b1, 0, none⟩) 3 3)]) (l := []) (by kernel_rfl) trivial ?_
  refine ge_nil fun a hF => hK2 _ _ ?_ a hF
  have hS2 := hS1.asRow (α := STask) (c := 3) ([(⟨⟨#[97]⟩, 1, 4, 4, 0, 0, 3⟩ : STask), (⟨⟨#[98]⟩, 2, 6, 6, 0, 0, 2⟩ : STask), (⟨⟨#[99]⟩, 3, 12, 12, 0, 0, 1⟩ : STask)] : List STask) (Nat.le_refl _) (by decide) rfl rfl
  subst h
  exact we_ret (post_ret (rs := [.tmp 0]) (ans := []) (vs := [(.slice (some ⟨b1, 0, none⟩) 3 3)]) (l := []) rfl (by kernel_rfl) trivial ⟨(.slice (some ⟨b1, 0, none⟩) 3 3), rfl, hS2⟩)

/-! punctual/tasks.isName -/
abbrev tasks_isName.Post (w0 : World) (r : Bool) (e : Ending) (w : World) : Prop := e = .returned (.bool r) ∧ St w0 w []
def tasks_isName.r0 (x0 : ByteArray) : Nat → Option (Nat ⊕ (Unit ⊕ Bool))
  | i1 =>
    if i1 < x0.size then
      if ((Utf8.decode x0 i1).1 : Int) < 97 then
        some (.inr (.inr false))
      else
        if ((Utf8.decode x0 i1).1 : Int) > 122 then
          some (.inr (.inr false))
        else
          some (.inl (i1 + (Utf8.decode x0 i1).2))
    else
      some (.inr (.inl ()))
def tasks_isName.f (K : Nat) (x0 : ByteArray) : Option Bool :=
  if (x0.size : Int) < 1 then
    some false
  else
    if (x0.size : Int) > 10 then
      some false
    else
      match iter (tasks_isName.r0 x0) K 0 with
      | none => none
      | some (.inl _) =>
        some true
      | some (.inr rr1) =>
        some rr1
abbrev tasks_isName.A0 (K : Nat) (w0 : World) (x0 : ByteArray) (hc1 : ¬ ((x0.size : Int) < 1)) (hc2 : ¬ ((x0.size : Int) > 10)) (b1 : Nat) : Nat → Act → World → Prop := fun (s : Nat) a w => St w0 w [Own.blk b1 (.stringIter x0 s)] ∧ Frm 24 a [(14, .pointer (some ⟨b1, 0, none⟩))]
abbrev tasks_isName.B0 (K : Nat) (w0 : World) (x0 : ByteArray) (hc1 : ¬ ((x0.size : Int) < 1)) (hc2 : ¬ ((x0.size : Int) > 10)) (b1 : Nat) : (Unit ⊕ Bool) → Exit → Act → World → Prop := Exits 0 (fun (s : Unit) a w => St w0 w [] ∧ Frm 24 a []) (Rets Tryd.prog Tryd.f61 (tasks_isName.Post w0))
theorem tasks_isName_r0 (K : Nat) (w0 : World) (x0 : ByteArray) (hc1 : ¬ ((x0.size : Int) < 1)) (hc2 : ¬ ((x0.size : Int) > 10)) (b1 : Nat) (s : Nat) (o : Nat ⊕ (Unit ⊕ Bool)) (h : tasks_isName.r0 x0 s = some o) (a : Act) (w : World) (hA : tasks_isName.A0 K w0 x0 hc1 hc2 b1 s a w) (Q : Exit → Act → World → Prop) (hQ : ∀ x a w, Outs (tasks_isName.A0 K w0 x0 hc1 hc2 b1) (tasks_isName.B0 K w0 x0 hc1 hc2 b1) o x a w → Q x a w) : (subF Tryd.f61 [1, 1, 0, 1, 0, 0]).wp Tryd.prog Q a w := by
  obtain ⟨i1, hs⟩ : ∃ z, z = s := ⟨s, rfl⟩
  subst hs
  obtain ⟨hS, hF⟩ := hA
  replace hS : St w0 w [Own.blk b1 (.stringIter x0 i1)] := hS
  simp only [tasks_isName.r0] at h
  refine (?_ : WE Tryd.prog 24 (subF Tryd.f61 [1, 1, 0, 1, 0, 0]) Q [(14, .pointer (some ⟨b1, 0, none⟩))] w) a hF
  clear hF a
  refine we_seq fun K8 hK8 => ?_
  refine we_region [(0, 2), (1, 0)] rfl ?_
  by_cases hc3 : i1 < x0.size
  · rw [if_pos hc3] at h
    refine ge_next (m := 0) (d := 15) (b := b1) (x := (.tmp 14)) (ty := 0) (s := x0) (pos := i1) (by kernel_rfl) (by kernel_rfl) hS (fun _ w2 hS2 => ?_) (fun hp => absurd hc3 hp)
    refine ge_batch [1] (ans := []) (vs := [(16, .bool true)]) (l := []) (by kernel_rfl) trivial ?_
    refine ge_nil fun a hF => hK8 _ _ ?_ a hF
    refine we_seq fun K9 hK9 => ?_
    refine we_true (by kernel_rfl) ?_
    refine we_skip fun a hF => hK9 _ _ ?_ a hF
    refine we_block ?_
    refine we_seq fun K10 hK10 => ?_
    refine we_region [(0, 0), (1, 0)] rfl ?_
    refine ge_batch [0, 1] (ans := []) (vs := [(4, .int .i32 ((Utf8.decode x0 i1).1 : Int)), (17, .int .i32 ((Utf8.decode x0 i1).1 : Int))]) (l := []) (by kernel_rfl) trivial ?_
    refine ge_nil fun a hF => hK10 _ _ ?_ a hF
    refine we_seq fun K11 hK11 => ?_
    refine we_region [(0, 0), (1, 0), (2, 0), (3, 0), (4, 0), (5, 0)] rfl ?_
    refine ge_batch [0, 1, 2] (ans := []) (vs := [(20, .bool (decide (((Utf8.decode x0 i1).1 : Int) < 97))), (19, .bool (decide (((Utf8.decode x0 i1).1 : Int) < 97))), (18, .int .i32 ((Utf8.decode x0 i1).1 : Int))]) (l := []) (by kernel_rfl) trivial ?_
    by_cases hc4 : ((Utf8.decode x0 i1).1 : Int) < 97
    · rw [if_pos hc4] at h
      refine ge_known (t := 20) (b := decide (((Utf8.decode x0 i1).1 : Int) < 97)) (c := true) (by kernel_rfl) (decide_eq_true hc4) ?_
      refine ge_batch [3, 4, 5] (ans := []) (vs := [(23, .bool true), (22, undef), (21, undef)]) (l := []) (by kernel_rfl) trivial ?_
      refine ge_nil fun a hF => hK11 _ _ ?_ a hF
      refine we_true (by kernel_rfl) ?_
      refine we_seq fun K12 hK12 => ?_
      refine we_region [(0, 0)] rfl ?_
      refine ge_batch [0] (ans := []) (vs := [(2, .bool false)]) (l := []) (by kernel_rfl) trivial ?_
      refine ge_nil fun a hF => hK12 _ _ ?_ a hF
      have hS3 := hS2.takeN 0
      obtain rfl := Option.some.inj h
      exact we_ret fun a hF => hQ _ _ _ (Outs.out nofun (Exits.on ⟨rfl, (post_ret (rs := [.tmp 2]) (ans := []) (vs := [.bool false]) (l := []) rfl (by kernel_rfl) trivial ⟨rfl, hS3⟩) a hF⟩))
    · rw [if_neg hc4] at h
      refine ge_known (t := 20) (b := decide (((Utf8.decode x0 i1).1 : Int) < 97)) (c := false) (by kernel_rfl) (decide_eq_false hc4) ?_
      refine ge_batch [3, 4, 5] (ans := []) (vs := [(23, .bool (decide (((Utf8.decode x0 i1).1 : Int) > 122))), (22, .bool (decide (((Utf8.decode x0 i1).1 : Int) > 122))), (21, .int .i32 ((Utf8.decode x0 i1).1 : Int))]) (l := []) (by kernel_rfl) trivial ?_
      refine ge_nil fun a hF => hK11 _ _ ?_ a hF
      by_cases hc5 : ((Utf8.decode x0 i1).1 : Int) > 122
      · rw [if_pos hc5] at h
        refine we_known (t := 23) (b := decide (((Utf8.decode x0 i1).1 : Int) > 122)) (v := true) (by kernel_rfl) (decide_eq_true hc5) ?_
        refine we_true (by kernel_rfl) ?_
        refine we_seq fun K13 hK13 => ?_
        refine we_region [(0, 0)] rfl ?_
        refine ge_batch [0] (ans := []) (vs := [(2, .bool false)]) (l := []) (by kernel_rfl) trivial ?_
        refine ge_nil fun a hF => hK13 _ _ ?_ a hF
        have hS4 := hS2.takeN 0
        obtain rfl := Option.some.inj h
        exact we_ret fun a hF => hQ _ _ _ (Outs.out nofun (Exits.on ⟨rfl, (post_ret (rs := [.tmp 2]) (ans := []) (vs := [.bool false]) (l := []) rfl (by kernel_rfl) trivial ⟨rfl, hS4⟩) a hF⟩))
      · rw [if_neg hc5] at h
        refine we_known (t := 23) (b := decide (((Utf8.decode x0 i1).1 : Int) > 122)) (v := false) (by kernel_rfl) (decide_eq_false hc5) ?_
        refine we_false (by kernel_rfl) ?_
        obtain rfl := Option.some.inj h
        exact we_skip fun a hF => hQ _ _ _ (Outs.again ⟨hS2, hF.weaken ⟨by kernel_rfl, trivial⟩⟩)
  · rw [if_neg hc3] at h
    refine ge_next (m := 0) (d := 15) (b := b1) (x := (.tmp 14)) (ty := 0) (s := x0) (pos := i1) (by kernel_rfl) (by kernel_rfl) hS (fun hp => absurd hp hc3) (fun _ => ?_)
    refine ge_batch [1] (ans := []) (vs := [(16, .bool false)]) (l := []) (by kernel_rfl) trivial ?_
    refine ge_nil fun a hF => hK8 _ _ ?_ a hF
    refine we_seq fun K14 hK14 => ?_
    refine we_false (by kernel_rfl) ?_
    have hS5 := hS.takeN 0
    obtain rfl := Option.some.inj h
    exact we_exit fun a hF => hQ _ _ _ (Outs.out nofun (Exits.here ⟨hS5, hF.weaken trivial⟩))
theorem tasks_isName_ok (K : Nat) (x0 : ByteArray) (w0 : World) (r : Bool) (h : tasks_isName.f K x0 = some r) :
    Calls Tryd.prog 61 #[.string x0] w0 (tasks_isName.Post w0 r) := by
  have hS := St.start w0
  unfold tasks_isName.f at h
  refine calls_enter (n := 24) (args := [.string x0]) (fn := Tryd.f61) rfl rfl rfl rfl ?_
  show WE _ _ _ _ [(0, .string x0)] _
  refine we_seq fun K1 hK1 => ?_
  refine we_region [(0, 0)] rfl ?_
  refine ge_batch [0] (ans := []) (vs := [(2, .bool false)]) (l := []) (by kernel_rfl) trivial ?_
  refine ge_nil fun a hF => hK1 _ _ ?_ a hF
  refine we_seq fun K2 hK2 => ?_
  refine we_seq fun K3 hK3 => ?_
  refine we_region [(0, 0), (1, 0), (2, 0), (3, 0), (4, 0), (5, 0), (6, 0), (7, 0)] rfl ?_
  refine ge_batch [0, 1, 2, 3] (ans := []) (vs := [(8, .bool (decide ((x0.size : Int) < 1))), (7, .bool (decide ((x0.size : Int) < 1))), (6, .int .i64 (x0.size : Int)), (5, .string x0)]) (l := []) (by kernel_rfl) trivial ?_
  by_cases hc1 : (x0.size : Int) < 1
  · rw [if_pos hc1] at h
    refine ge_known (t := 8) (b := decide ((x0.size : Int) < 1)) (c := true) (by kernel_rfl) (decide_eq_true hc1) ?_
    refine ge_batch [4, 5, 6, 7] (ans := []) (vs := [(12, .bool true), (11, undef), (10, undef), (9, undef)]) (l := []) (by kernel_rfl) trivial ?_
    refine ge_nil fun a hF => hK3 _ _ ?_ a hF
    refine we_true (by kernel_rfl) ?_
    refine we_seq fun K4 hK4 => ?_
    refine we_region [(0, 0)] rfl ?_
    refine ge_batch [0] (ans := []) (vs := [(2, .bool false)]) (l := []) (by kernel_rfl) trivial ?_
    refine ge_nil fun a hF => hK4 _ _ ?_ a hF
    obtain rfl := Option.some.inj h
    exact we_ret (post_ret (rs := [.tmp 2]) (ans := []) (vs := [.bool false]) (l := []) rfl (by kernel_rfl) trivial ⟨rfl, hS⟩)
  · rw [if_neg hc1] at h
    refine ge_known (t := 8) (b := decide ((x0.size : Int) < 1)) (c := false) (by kernel_rfl) (decide_eq_false hc1) ?_
    refine ge_batch [4, 5, 6, 7] (ans := []) (vs := [(12, .bool (decide ((x0.size : Int) > 10))), (11, .bool (decide ((x0.size : Int) > 10))), (10, .int .i64 (x0.size : Int)), (9, .string x0)]) (l := []) (by kernel_rfl) trivial ?_
    refine ge_nil fun a hF => hK3 _ _ ?_ a hF
    by_cases hc2 : (x0.size : Int) > 10
    · rw [if_pos hc2] at h
      refine we_known (t := 12) (b := decide ((x0.size : Int) > 10)) (v := true) (by kernel_rfl) (decide_eq_true hc2) ?_
      refine we_true (by kernel_rfl) ?_
      refine we_seq fun K5 hK5 => ?_
      refine we_region [(0, 0)] rfl ?_
      refine ge_batch [0] (ans := []) (vs := [(2, .bool false)]) (l := []) (by kernel_rfl) trivial ?_
      refine ge_nil fun a hF => hK5 _ _ ?_ a hF
      obtain rfl := Option.some.inj h
      exact we_ret (post_ret (rs := [.tmp 2]) (ans := []) (vs := [.bool false]) (l := []) rfl (by kernel_rfl) trivial ⟨rfl, hS⟩)
    · rw [if_neg hc2] at h
      refine we_known (t := 12) (b := decide ((x0.size : Int) > 10)) (v := false) (by kernel_rfl) (decide_eq_false hc2) ?_
      refine we_false (by kernel_rfl) ?_
      refine we_skip fun a hF => hK2 _ _ ?_ a hF
      refine we_seq fun K6 hK6 => ?_
      refine we_seq fun K7 hK7 => ?_
      refine we_region [(0, 0), (1, 1)] rfl ?_
      refine ge_batch [0] (ans := []) (vs := [(13, .string x0)]) (l := []) (by kernel_rfl) trivial ?_
      refine ge_new (d := some 14) (o := .stringIter x0 0) (v := fun b => .pointer (some ⟨b, 0, none⟩)) hS (fun b => by kernel_rfl) fun b1 w1 hx1 hS1 => ?_
      refine ge_nil fun a hF => hK7 _ _ ?_ a hF
      refine we_block ?_
      rcases hq1 : iter (tasks_isName.r0 x0) K 0 with _ | (_ | rr1)
      · rw [hq1] at h; cases h
      · rw [hq1] at h
        simp only [] at h
        refine we_iter (A := tasks_isName.A0 K w0 x0 hc1 hc2 b1) (B := tasks_isName.B0 K w0 x0 hc1 hc2 b1) hq1 (fun a hF => ⟨hS1, hF.weaken ⟨by kernel_rfl, trivial⟩⟩) (fun s o hf a w hA Q hQ => tasks_isName_r0 K w0 x0 hc1 hc2 b1 s o hf a w hA Q hQ) ?_
        rintro _ a w3 _ ⟨rfl, hS6, hF⟩
        replace hS6 : St w0 w3 [] := hS6
        refine hK6 [] w3 ?_ a hF
        refine we_seq fun K15 hK15 => ?_
        refine we_region [(0, 0)] rfl ?_
        refine ge_batch [0] (ans := []) (vs := [(2, .bool true)]) (l := []) (by kernel_rfl) trivial ?_
        refine ge_nil fun a hF => hK15 _ _ ?_ a hF
        obtain rfl := Option.some.inj h
        exact we_ret (post_ret (rs := [.tmp 2]) (ans := []) (vs := [.bool true]) (l := []) rfl (by kernel_rfl) trivial ⟨rfl, hS6⟩)
      · rw [hq1] at h
        simp only [] at h
        refine we_iter (A := tasks_isName.A0 K w0 x0 hc1 hc2 b1) (B := tasks_isName.B0 K w0 x0 hc1 hc2 b1) hq1 (fun a hF => ⟨hS1, hF.weaken ⟨by kernel_rfl, trivial⟩⟩) (fun s o hf a w hA Q hQ => tasks_isName_r0 K w0 x0 hc1 hc2 b1 s o hf a w hA Q hQ) ?_
        rintro _ a w1 _ ⟨rfl, hb⟩
        obtain rfl := Option.some.inj h
        exact hb

/-! punctual/tasks.Check$1 -/
abbrev tasks_Check_1.Post (w0 : World) (r : Bool) (e : Ending) (w : World) : Prop := e = .returned (.bool r) ∧ St w0 w []
def tasks_Check_1.f (x0 : STask) (xf_0 : STask) : Bool :=
  (x0.Name.toList == xf_0.Name.toList)
theorem tasks_Check_1_ok (x0 : STask) (bf_0 : Nat) (xf_0 : STask) (w0 : World) (hBf_0 : Glob w0 bf_0 [.string xf_0.Name, .int .i64 xf_0.C, .int .i64 xf_0.T, .int .i64 xf_0.D, .int .i64 xf_0.J, .int .i64 xf_0.O, .int .i64 xf_0.P]) (r : Bool) (h : tasks_Check_1.f x0 xf_0 = r) :
    Calls Tryd.prog 63 #[.agg #[.string x0.Name, .int .i64 x0.C, .int .i64 x0.T, .int .i64 x0.D, .int .i64 x0.J, .int .i64 x0.O, .int .i64 x0.P], .pointer (some ⟨bf_0, 0, none⟩)] w0 (tasks_Check_1.Post w0 r) := by
  have hS := St.start w0
  unfold tasks_Check_1.f at h
  refine calls_enter (n := 9) (args := [.agg #[.string x0.Name, .int .i64 x0.C, .int .i64 x0.T, .int .i64 x0.D, .int .i64 x0.J, .int .i64 x0.O, .int .i64 x0.P], .pointer (some ⟨bf_0, 0, none⟩)]) (fn := Tryd.f63) rfl rfl rfl rfl ?_
  show WE _ _ _ _ [(0, .agg #[.string x0.Name, .int .i64 x0.C, .int .i64 x0.T, .int .i64 x0.D, .int .i64 x0.J, .int .i64 x0.O, .int .i64 x0.P]), (1, .pointer (some ⟨bf_0, 0, none⟩))] _
  refine we_seq fun K1 hK1 => ?_
  refine we_region [(0, 1), (1, 0)] rfl ?_
  refine ge_new (d := some 2) (o := .cells #[.string x0.Name, .int .i64 x0.C, .int .i64 x0.T, .int .i64 x0.D, .int .i64 x0.J, .int .i64 x0.O, .int .i64 x0.P] 46) (v := fun b => .pointer (some ⟨b, 0, none⟩)) hS (fun b => by kernel_rfl) fun b1 w1 hx1 hS1 => ?_
  refine ge_batch [1] (ans := []) (vs := [(3, .bool false)]) (l := []) (by kernel_rfl) trivial ?_
  refine ge_nil fun a hF => hK1 _ _ ?_ a hF
  refine we_seq fun K2 hK2 => ?_
  refine we_region [(0, 0), (1, 0), (2, 0), (3, 0), (4, 0), (5, 0)] rfl ?_
  refine ge_batch [0, 1, 2, 3, 4, 5] (ans := [.val (.string x0.Name), .val (.string xf_0.Name)]) (vs := [(3, .bool (x0.Name.toList == xf_0.Name.toList)), (8, .bool (x0.Name.toList == xf_0.Name.toList)), (7, .string xf_0.Name), (6, .pointer (some ⟨bf_0, 0, none⟩)), (5, .string x0.Name), (4, .pointer (some ⟨b1, 0, none⟩))]) (l := [.loaded ⟨b1, 0, none⟩ (.string x0.Name), .loaded ⟨bf_0, 0, none⟩ (.string xf_0.Name)]) (by kernel_rfl) ⟨hS1.cell 0 rfl rfl, hS1.glob hBf_0 rfl, trivial⟩ ?_
  refine ge_nil fun a hF => hK2 _ _ ?_ a hF
  have hS2 := hS1.takeN 0
  subst h
  exact we_ret (post_ret (rs := [.tmp 3]) (ans := []) (vs := [.bool (x0.Name.toList == xf_0.Name.toList)]) (l := []) rfl (by kernel_rfl) trivial ⟨rfl, hS2⟩)

/-! slices.IndexFunc[[]punctual/api.Task,punctual/api.Task] -/
abbrev slices_IndexFunc_api_Task_api_Task.Post (w0 : World) (r : Int) (e : Ending) (w : World) : Prop := e = .returned (.int .i64 r) ∧ St w0 w []
def slices_IndexFunc_api_Task_api_Task.r0 (l0 : List STask) (xg1_0 : STask) : Nat → Option (Nat ⊕ (Unit ⊕ Int))
  | i1 =>
    if (i1 : Int) < (l0.length : Int) then
      match l0[i1]? with
      | none => none
      | some e1 =>
        if (tasks_Check_1.f e1 xg1_0) = true then
          some (.inr (.inr (i1 : Int)))
        else
          some (.inl (i1 + 1))
    else
      some (.inr (.inl ()))
def slices_IndexFunc_api_Task_api_Task.f (K : Nat) (l0 : List STask) (xg1_0 : STask) : Option Int :=
  match iter (slices_IndexFunc_api_Task_api_Task.r0 l0 xg1_0) K 0 with
  | none => none
  | some (.inl _) =>
    some (-1)
  | some (.inr rr1) =>
    some rr1
abbrev slices_IndexFunc_api_Task_api_Task.A0 (K : Nat) (w0 : World) (l0 : List STask) (A0 : Option Addr) (c0 : Nat) (bg1_0 : Nat) (xg1_0 : STask) (hR0 : RdL w0 A0 l0) (hL0 : l0.length ≤ c0) (hBg1_0 : Glob w0 bg1_0 [.string xg1_0.Name, .int .i64 xg1_0.C, .int .i64 xg1_0.T, .int .i64 xg1_0.D, .int .i64 xg1_0.J, .int .i64 xg1_0.O, .int .i64 xg1_0.P]) : Nat → Act → World → Prop := fun (s : Nat) a w => St w0 w [] ∧ Frm 19 a [(0, .slice A0 l0.length c0), (1, .func (.func 63) #[] #[.pointer (some ⟨bg1_0, 0, none⟩)]), (7, .int .i64 (l0.length : Int)), (8, .int .i64 (s : Int))]
abbrev slices_IndexFunc_api_Task_api_Task.B0 (K : Nat) (w0 : World) (l0 : List STask) (A0 : Option Addr) (c0 : Nat) (bg1_0 : Nat) (xg1_0 : STask) (hR0 : RdL w0 A0 l0) (hL0 : l0.length ≤ c0) (hBg1_0 : Glob w0 bg1_0 [.string xg1_0.Name, .int .i64 xg1_0.C, .int .i64 xg1_0.T, .int .i64 xg1_0.D, .int .i64 xg1_0.J, .int .i64 xg1_0.O, .int .i64 xg1_0.P]) : (Unit ⊕ Int) → Exit → Act → World → Prop := Exits 0 (fun (s : Unit) a w => St w0 w [] ∧ Frm 19 a []) (Rets Tryd.prog Tryd.f90 (slices_IndexFunc_api_Task_api_Task.Post w0))
theorem slices_IndexFunc_api_Task_api_Task_r0 (K : Nat) (w0 : World) (l0 : List STask) (A0 : Option Addr) (c0 : Nat) (bg1_0 : Nat) (xg1_0 : STask) (hR0 : RdL w0 A0 l0) (hL0 : l0.length ≤ c0) (hBg1_0 : Glob w0 bg1_0 [.string xg1_0.Name, .int .i64 xg1_0.C, .int .i64 xg1_0.T, .int .i64 xg1_0.D, .int .i64 xg1_0.J, .int .i64 xg1_0.O, .int .i64 xg1_0.P]) (s : Nat) (o : Nat ⊕ (Unit ⊕ Int)) (h : slices_IndexFunc_api_Task_api_Task.r0 l0 xg1_0 s = some o) (a : Act) (w : World) (hA : slices_IndexFunc_api_Task_api_Task.A0 K w0 l0 A0 c0 bg1_0 xg1_0 hR0 hL0 hBg1_0 s a w) (Q : Exit → Act → World → Prop) (hQ : ∀ x a w, Outs (slices_IndexFunc_api_Task_api_Task.A0 K w0 l0 A0 c0 bg1_0 xg1_0 hR0 hL0 hBg1_0) (slices_IndexFunc_api_Task_api_Task.B0 K w0 l0 A0 c0 bg1_0 xg1_0 hR0 hL0 hBg1_0) o x a w → Q x a w) : (subF Tryd.f90 [1, 0, 1, 0, 0]).wp Tryd.prog Q a w := by
  obtain ⟨i1, hs⟩ : ∃ z, z = s := ⟨s, rfl⟩
  subst hs
  obtain ⟨hS, hF⟩ := hA
  replace hS : St w0 w [] := hS
  simp only [slices_IndexFunc_api_Task_api_Task.r0] at h
  refine (?_ : WE Tryd.prog 19 (subF Tryd.f90 [1, 0, 1, 0, 0]) Q [(0, .slice A0 l0.length c0), (1, .func (.func 63) #[] #[.pointer (some ⟨bg1_0, 0, none⟩)]), (7, .int .i64 (l0.length : Int)), (8, .int .i64 (i1 : Int))] w) a hF
  clear hF a
  refine we_seq fun K4 hK4 => ?_
  refine we_region [(0, 0)] rfl ?_
  refine ge_batch [0] (ans := []) (vs := [(9, .bool (decide ((i1 : Int) < (l0.length : Int))))]) (l := []) (by kernel_rfl) trivial ?_
  refine ge_nil fun a hF => hK4 _ _ ?_ a hF
  refine we_seq fun K5 hK5 => ?_
  by_cases hc1 : (i1 : Int) < (l0.length : Int)
  · rw [if_pos hc1] at h
    refine we_known (t := 9) (b := decide ((i1 : Int) < (l0.length : Int))) (v := true) (by kernel_rfl) (decide_eq_true hc1) ?_
    refine we_true (by kernel_rfl) ?_
    refine we_skip fun a hF => hK5 _ _ ?_ a hF
    refine we_seq fun K6 hK6 => ?_
    refine we_block ?_
    refine we_seq fun K7 hK7 => ?_
    refine we_region [(0, 0), (1, 0)] rfl ?_
    refine ge_batch [0, 1] (ans := []) (vs := [(5, .int .i64 (i1 : Int)), (10, .int .i64 (i1 : Int))]) (l := []) (by kernel_rfl) trivial ?_
    refine ge_nil fun a hF => hK7 _ _ ?_ a hF
    refine we_seq fun K8 hK8 => ?_
    refine we_region [(0, 0), (1, 0), (2, 0), (3, 0), (4, 0), (5, 1)] rfl ?_
    refine ge_batch [0, 1, 2] (ans := []) (vs := [(13, .int .i64 (i1 : Int)), (12, .slice A0 l0.length c0), (11, .func (.func 63) #[] #[.pointer (some ⟨bg1_0, 0, none⟩)])]) (l := []) (by kernel_rfl) trivial ?_
    rcases hx1 : l0[i1]? with _ | e1
    · rw [hx1] at h; cases h
    rw [hx1] at h
    simp only [] at h
    refine ge_index (d := 14) (ty := 0) (t := 40) (el := 46) (sz := 7) (m := l0.length) (c := c0) (x := (.tmp 12)) (y := (.tmp 13)) (A := A0) (k' := .i64) (j := (i1 : Int)) (jn := i1) (b0 := blkOf A0) (o0 := offOf A0) (by kernel_rfl) (by kernel_rfl) (by kernel_rfl) (by kernel_rfl) (by kernel_rfl) ((hS.rd hR0).eqSome (pos_of_get hx1)) rfl (lt_of_get hx1) ?_
    refine ge_batch [4] (ans := [.val (.string e1.Name), .val (.int .i64 e1.C), .val (.int .i64 e1.T), .val (.int .i64 e1.D), .val (.int .i64 e1.J), .val (.int .i64 e1.O), .val (.int .i64 e1.P)]) (vs := [(15, .agg #[.string e1.Name, .int .i64 e1.C, .int .i64 e1.T, .int .i64 e1.D, .int .i64 e1.J, .int .i64 e1.O, .int .i64 e1.P])]) (l := [.loaded ⟨blkOf A0, offOf A0 + i1 * 7, none⟩ (.string e1.Name), .loaded ⟨blkOf A0, offOf A0 + i1 * 7 + 1, none⟩ (.int .i64 e1.C), .loaded ⟨blkOf A0, offOf A0 + i1 * 7 + 2, none⟩ (.int .i64 e1.T), .loaded ⟨blkOf A0, offOf A0 + i1 * 7 + 3, none⟩ (.int .i64 e1.D), .loaded ⟨blkOf A0, offOf A0 + i1 * 7 + 4, none⟩ (.int .i64 e1.J), .loaded ⟨blkOf A0, offOf A0 + i1 * 7 + 5, none⟩ (.int .i64 e1.O), .loaded ⟨blkOf A0, offOf A0 + i1 * 7 + 6, none⟩ (.int .i64 e1.P)]) (by kernel_rfl) ⟨RdL.cell (j := 0) (hS.rd hR0) hx1 rfl, RdL.cell (j := 1) (hS.rd hR0) hx1 rfl, RdL.cell (j := 2) (hS.rd hR0) hx1 rfl, RdL.cell (j := 3) (hS.rd hR0) hx1 rfl, RdL.cell (j := 4) (hS.rd hR0) hx1 rfl, RdL.cell (j := 5) (hS.rd hR0) hx1 rfl, RdL.cell (j := 6) (hS.rd hR0) hx1 rfl, trivial⟩ ?_
    refine ge_call (d := some 16) (f := 63) (args := #[.agg #[.string e1.Name, .int .i64 e1.C, .int .i64 e1.T, .int .i64 e1.D, .int .i64 e1.J, .int .i64 e1.O, .int .i64 e1.P], .pointer (some ⟨bg1_0, 0, none⟩)]) (by kernel_rfl) (tasks_Check_1_ok e1 bg1_0 xg1_0 _ (Glob.ext hBg1_0 hS.below) _ rfl) ?_
    rintro _ w1 ⟨rfl, hS1⟩
    refine ⟨_, rfl, hS1.below, ?_⟩
    have hS2 := hS.call hS1
    refine ge_nil fun a hF => hK8 _ _ ?_ a hF
    by_cases hc2 : (tasks_Check_1.f e1 xg1_0) = true
    · rw [if_pos hc2] at h
      refine we_known (t := 16) (b := (tasks_Check_1.f e1 xg1_0)) (v := true) (by kernel_rfl) hc2 ?_
      refine we_true (by kernel_rfl) ?_
      refine we_seq fun K9 hK9 => ?_
      refine we_region [(0, 0), (1, 0)] rfl ?_
      refine ge_batch [0, 1] (ans := []) (vs := [(4, .int .i64 (i1 : Int)), (17, .int .i64 (i1 : Int))]) (l := []) (by kernel_rfl) trivial ?_
      refine ge_nil fun a hF => hK9 _ _ ?_ a hF
      obtain rfl := Option.some.inj h
      exact we_ret fun a hF => hQ _ _ _ (Outs.out nofun (Exits.on ⟨rfl, (post_ret (rs := [.tmp 4]) (ans := []) (vs := [.int .i64 (i1 : Int)]) (l := []) rfl (by kernel_rfl) trivial ⟨rfl, hS2⟩) a hF⟩))
    · rw [if_neg hc2] at h
      refine we_known (t := 16) (b := (tasks_Check_1.f e1 xg1_0)) (v := false) (by kernel_rfl) (Bool.eq_false_iff.2 hc2) ?_
      refine we_false (by kernel_rfl) ?_
      refine we_skip fun a hF => hK6 _ _ ?_ a hF
      refine we_region [(0, 0), (1, 0)] rfl ?_
      refine ge_addn (d := 18) (ty := 3) (x := (.tmp 8)) (y := (.const (.int .i64 1))) (t := 3) (t2 := 3) (k := .i64) (m := i1) (by kernel_rfl) (by kernel_rfl) (by kernel_rfl) (by have h0 := hR0.small; omega) ?_
      refine ge_batch [1] (ans := []) (vs := [(8, .int .i64 ((i1 + 1 : Nat) : Int))]) (l := []) (by kernel_rfl) trivial ?_
      obtain rfl := Option.some.inj h
      exact ge_nil fun a hF => hQ _ _ _ (Outs.again ⟨hS2, hF.weaken ⟨by kernel_rfl, by kernel_rfl, by kernel_rfl, by kernel_rfl, trivial⟩⟩)
  · rw [if_neg hc1] at h
    refine we_known (t := 9) (b := decide ((i1 : Int) < (l0.length : Int))) (v := false) (by kernel_rfl) (decide_eq_false hc1) ?_
    refine we_false (by kernel_rfl) ?_
    obtain rfl := Option.some.inj h
    exact we_exit fun a hF => hQ _ _ _ (Outs.out nofun (Exits.here ⟨hS, hF.weaken trivial⟩))
theorem slices_IndexFunc_api_Task_api_Task_ok (K : Nat) (l0 : List STask) (A0 : Option Addr) (c0 : Nat) (bg1_0 : Nat) (xg1_0 : STask) (w0 : World) (hR0 : RdL w0 A0 l0) (hL0 : l0.length ≤ c0) (hBg1_0 : Glob w0 bg1_0 [.string xg1_0.Name, .int .i64 xg1_0.C, .int .i64 xg1_0.T, .int .i64 xg1_0.D, .int .i64 xg1_0.J, .int .i64 xg1_0.O, .int .i64 xg1_0.P]) (r : Int) (h : slices_IndexFunc_api_Task_api_Task.f K l0 xg1_0 = some r) :
    Calls Tryd.prog 90 #[.slice A0 l0.length c0, .func (.func 63) #[] #[.pointer (some ⟨bg1_0, 0, none⟩)]] w0 (slices_IndexFunc_api_Task_api_Task.Post w0 r) := by
  have hS := St.start w0
  unfold slices_IndexFunc_api_Task_api_Task.f at h
  refine calls_enter (n := 19) (args := [.slice A0 l0.length c0, .func (.func 63) #[] #[.pointer (some ⟨bg1_0, 0, none⟩)]]) (fn := Tryd.f90) rfl rfl rfl rfl ?_
  show WE _ _ _ _ [(0, .slice A0 l0.length c0), (1, .func (.func 63) #[] #[.pointer (some ⟨bg1_0, 0, none⟩)])] _
  refine we_seq fun K1 hK1 => ?_
  refine we_region [(0, 0)] rfl ?_
  refine ge_batch [0] (ans := []) (vs := [(4, .int .i64 0)]) (l := []) (by kernel_rfl) trivial ?_
  refine ge_nil fun a hF => hK1 _ _ ?_ a hF
  refine we_seq fun K2 hK2 => ?_
  refine we_seq fun K3 hK3 => ?_
  refine we_region [(0, 0), (1, 0), (2, 0)] rfl ?_
  refine ge_batch [0, 1, 2] (ans := []) (vs := [(8, .int .i64 0), (7, .int .i64 (l0.length : Int)), (6, .slice A0 l0.length c0)]) (l := []) (by kernel_rfl) trivial ?_
  refine ge_nil fun a hF => hK3 _ _ ?_ a hF
  refine we_block ?_
  rcases hq2 : iter (slices_IndexFunc_api_Task_api_Task.r0 l0 xg1_0) K 0 with _ | (_ | rr1)
  · rw [hq2] at h; cases h
  · rw [hq2] at h
    simp only [] at h
    refine we_iter (A := slices_IndexFunc_api_Task_api_Task.A0 K w0 l0 A0 c0 bg1_0 xg1_0 hR0 hL0 hBg1_0) (B := slices_IndexFunc_api_Task_api_Task.B0 K w0 l0 A0 c0 bg1_0 xg1_0 hR0 hL0 hBg1_0) hq2 (fun a hF => ⟨hS, hF.weaken ⟨by kernel_rfl, by kernel_rfl, by kernel_rfl, by kernel_rfl, trivial⟩⟩) (fun s o hf a w hA Q hQ => slices_IndexFunc_api_Task_api_Task_r0 K w0 l0 A0 c0 bg1_0 xg1_0 hR0 hL0 hBg1_0 s o hf a w hA Q hQ) ?_
    rintro _ a w2 _ ⟨rfl, hS3, hF⟩
    replace hS3 : St w0 w2 [] := hS3
    refine hK2 [] w2 ?_ a hF
    refine we_seq fun K10 hK10 => ?_
    refine we_region [(0, 0)] rfl ?_
    refine ge_batch [0] (ans := []) (vs := [(4, .int .i64 (-1))]) (l := []) (by kernel_rfl) trivial ?_
    refine ge_nil fun a hF => hK10 _ _ ?_ a hF
    obtain rfl := Option.some.inj h
    exact we_ret (post_ret (rs := [.tmp 4]) (ans := []) (vs := [.int .i64 (-1)]) (l := []) rfl (by kernel_rfl) trivial ⟨rfl, hS3⟩)
  · rw [hq2] at h
    simp only [] at h
    refine we_iter (A := slices_IndexFunc_api_Task_api_Task.A0 K w0 l0 A0 c0 bg1_0 xg1_0 hR0 hL0 hBg1_0) (B := slices_IndexFunc_api_Task_api_Task.B0 K w0 l0 A0 c0 bg1_0 xg1_0 hR0 hL0 hBg1_0) hq2 (fun a hF => ⟨hS, hF.weaken ⟨by kernel_rfl, by kernel_rfl, by kernel_rfl, by kernel_rfl, trivial⟩⟩) (fun s o hf a w hA Q hQ => slices_IndexFunc_api_Task_api_Task_r0 K w0 l0 A0 c0 bg1_0 xg1_0 hR0 hL0 hBg1_0 s o hf a w hA Q hQ) ?_
    rintro _ a w1 _ ⟨rfl, hb⟩
    obtain rfl := Option.some.inj h
    exact hb

/-! slices.ContainsFunc[[]punctual/api.Task,punctual/api.Task] -/
abbrev slices_ContainsFunc_api_Task_api_Task.Post (w0 : World) (r : Bool) (e : Ending) (w : World) : Prop := e = .returned (.bool r) ∧ St w0 w []
def slices_ContainsFunc_api_Task_api_Task.f (K : Nat) (l0 : List STask) (xg1_0 : STask) : Option Bool :=
  match slices_IndexFunc_api_Task_api_Task.f K l0 xg1_0 with
  | none => none
  | some r1 =>
    some (decide (r1 ≥ 0))
theorem slices_ContainsFunc_api_Task_api_Task_ok (K : Nat) (l0 : List STask) (A0 : Option Addr) (c0 : Nat) (bg1_0 : Nat) (xg1_0 : STask) (w0 : World) (hR0 : RdL w0 A0 l0) (hL0 : l0.length ≤ c0) (hBg1_0 : Glob w0 bg1_0 [.string xg1_0.Name, .int .i64 xg1_0.C, .int .i64 xg1_0.T, .int .i64 xg1_0.D, .int .i64 xg1_0.J, .int .i64 xg1_0.O, .int .i64 xg1_0.P]) (r : Bool) (h : slices_ContainsFunc_api_Task_api_Task.f K l0 xg1_0 = some r) :
    Calls Tryd.prog 62 #[.slice A0 l0.length c0, .func (.func 63) #[] #[.pointer (some ⟨bg1_0, 0, none⟩)]] w0 (slices_ContainsFunc_api_Task_api_Task.Post w0 r) := by
  have hS := St.start w0
  unfold slices_ContainsFunc_api_Task_api_Task.f at h
  refine calls_enter (n := 9) (args := [.slice A0 l0.length c0, .func (.func 63) #[] #[.pointer (some ⟨bg1_0, 0, none⟩)]]) (fn := Tryd.f62) rfl rfl rfl rfl ?_
  show WE _ _ _ _ [(0, .slice A0 l0.length c0), (1, .func (.func 63) #[] #[.pointer (some ⟨bg1_0, 0, none⟩)])] _
  refine we_seq fun K1 hK1 => ?_
  refine we_region [(0, 0)] rfl ?_
  refine ge_batch [0] (ans := []) (vs := [(4, .bool false)]) (l := []) (by kernel_rfl) trivial ?_
  refine ge_nil fun a hF => hK1 _ _ ?_ a hF
  refine we_seq fun K2 hK2 => ?_
  refine we_region [(0, 0), (1, 0), (2, 1), (3, 0), (4, 0)] rfl ?_
  rcases hq1 : slices_IndexFunc_api_Task_api_Task.f K l0 xg1_0 with _ | r1
  · rw [hq1] at h; cases h
  rw [hq1] at h
  simp only [] at h
  refine ge_batch [0, 1] (ans := []) (vs := [(6, .func (.func 63) #[] #[.pointer (some ⟨bg1_0, 0, none⟩)]), (5, .slice A0 l0.length c0)]) (l := []) (by kernel_rfl) trivial ?_
  refine ge_call (d := some 7) (f := 90) (args := #[.slice A0 l0.length c0, .func (.func 63) #[] #[.pointer (some ⟨bg1_0, 0, none⟩)]]) (by kernel_rfl) (slices_IndexFunc_api_Task_api_Task_ok K l0 A0 c0 bg1_0 xg1_0 _ (hS.rd hR0) hL0 (Glob.ext hBg1_0 hS.below) _ hq1) ?_
  rintro _ w1 ⟨rfl, hS1⟩
  refine ⟨_, rfl, hS1.below, ?_⟩
  have hS2 := hS.call hS1
  refine ge_batch [3, 4] (ans := []) (vs := [(4, .bool (decide (r1 ≥ 0))), (8, .bool (decide (r1 ≥ 0)))]) (l := []) (by kernel_rfl) trivial ?_
  refine ge_nil fun a hF => hK2 _ _ ?_ a hF
  obtain rfl := Option.some.inj h
  exact we_ret (post_ret (rs := [.tmp 4]) (ans := []) (vs := [.bool (decide (r1 ≥ 0))]) (l := []) rfl (by kernel_rfl) trivial ⟨rfl, hS2⟩)

/-! punctual/tasks.numbers -/
abbrev tasks_numbers.Post (w0 : World) (r : List Int) (e : Ending) (w : World) : Prop := ∃ (v0 : Value), e = .returned (v0) ∧ St w0 w [Own.of v0 3 r]
def tasks_numbers.f (x0 : STask) : List Int :=
  ([x0.C, x0.T, x0.D, x0.J, x0.O, x0.P] : List Int)
theorem tasks_numbers_ok (x0 : STask) (w0 : World) (r : List Int) (h : tasks_numbers.f x0 = r) :
    Calls Tryd.prog 64 #[.agg #[.string x0.Name, .int .i64 x0.C, .int .i64 x0.T, .int .i64 x0.D, .int .i64 x0.J, .int .i64 x0.O, .int .i64 x0.P]] w0 (tasks_numbers.Post w0 r) := by
  have hS := St.start w0
  unfold tasks_numbers.f at h
  refine calls_enter (n := 16) (args := [.agg #[.string x0.Name, .int .i64 x0.C, .int .i64 x0.T, .int .i64 x0.D, .int .i64 x0.J, .int .i64 x0.O, .int .i64 x0.P]]) (fn := Tryd.f64) rfl rfl rfl rfl ?_
  show WE _ _ _ _ [(0, .agg #[.string x0.Name, .int .i64 x0.C, .int .i64 x0.T, .int .i64 x0.D, .int .i64 x0.J, .int .i64 x0.O, .int .i64 x0.P])] _
  refine we_seq fun K1 hK1 => ?_
  refine we_region [(0, 1), (1, 0)] rfl ?_
  refine ge_new (d := some 1) (o := .cells #[.string x0.Name, .int .i64 x0.C, .int .i64 x0.T, .int .i64 x0.D, .int .i64 x0.J, .int .i64 x0.O, .int .i64 x0.P] 46) (v := fun b => .pointer (some ⟨b, 0, none⟩)) hS (fun b => by kernel_rfl) fun b1 w1 hx1 hS1 => ?_
  refine ge_batch [1] (ans := []) (vs := [(2, .slice none 0 0)]) (l := []) (by kernel_rfl) trivial ?_
  refine ge_nil fun a hF => hK1 _ _ ?_ a hF
  refine we_seq fun K2 hK2 => ?_
  refine we_region [(0, 0), (1, 0), (2, 0), (3, 0), (4, 0), (5, 0), (6, 0), (7, 0), (8, 0), (9, 0), (10, 0), (11, 0), (12, 1), (13, 0)] rfl ?_
  refine ge_batch [0, 1, 2, 3, 4, 5, 6, 7, 8, 9, 10, 11] (ans := [.val (.int .i64 x0.C), .val (.int .i64 x0.T), .val (.int .i64 x0.D), .val (.int .i64 x0.J), .val (.int .i64 x0.O), .val (.int .i64 x0.P)]) (vs := [(14, .int .i64 x0.P), (13, .pointer (some ⟨b1, 6, none⟩)), (12, .int .i64 x0.O), (11, .pointer (some ⟨b1, 5, none⟩)), (10, .int .i64 x0.J), (9, .pointer (some ⟨b1, 4, none⟩)), (8, .int .i64 x0.D), (7, .pointer (some ⟨b1, 3, none⟩)), (6, .int .i64 x0.T), (5, .pointer (some ⟨b1, 2, none⟩)), (4, .int .i64 x0.C), (3, .pointer (some ⟨b1, 1, none⟩))]) (l := [.loaded ⟨b1, 1, none⟩ (.int .i64 x0.C), .loaded ⟨b1, 2, none⟩ (.int .i64 x0.T), .loaded ⟨b1, 3, none⟩ (.int .i64 x0.D), .loaded ⟨b1, 4, none⟩ (.int .i64 x0.J), .loaded ⟨b1, 5, none⟩ (.int .i64 x0.O), .loaded ⟨b1, 6, none⟩ (.int .i64 x0.P)]) (by kernel_rfl) ⟨hS1.cell 0 rfl rfl, hS1.cell 0 rfl rfl, hS1.cell 0 rfl rfl, hS1.cell 0 rfl rfl, hS1.cell 0 rfl rfl, hS1.cell 0 rfl rfl, trivial⟩ ?_
  refine ge_new (d := some 15) (o := .cells #[.int .i64 x0.C, .int .i64 x0.T, .int .i64 x0.D, .int .i64 x0.J, .int .i64 x0.O, .int .i64 x0.P] 3) (v := fun b => .slice (some ⟨b, 0, none⟩) 6 6) hS1 (fun b => by kernel_rfl) fun b2 w2 hx2 hS2 => ?_
  refine ge_batch [13] (ans := []) (vs := [(2, .slice (some ⟨b2, 0, none⟩) 6 6)]) (l := []) (by kernel_rfl) trivial ?_
  refine ge_nil fun a hF => hK2 _ _ ?_ a hF
  have hS3 := hS2.asRow (α := Int) (c := 6) ([x0.C, x0.T, x0.D, x0.J, x0.O, x0.P] : List Int) (Nat.le_refl _) (by decide) rfl rfl
  have hS4 := hS3.takeN 1
  subst h
  exact we_ret (post_ret (rs := [.tmp 2]) (ans := []) (vs := [(.slice (some ⟨b2, 0, none⟩) 6 6)]) (l := []) rfl (by kernel_rfl) trivial ⟨(.slice (some ⟨b2, 0, none⟩) 6 6), rfl, hS4⟩)

/-! punctual/tasks.bounds -/
abbrev tasks_bounds.Post (w0 : World) (r : Int × Int) (e : Ending) (w : World) : Prop := e = .returned (.tuple #[.int .i64 r.1, .int .i64 r.2]) ∧ St w0 w []
def tasks_bounds.f (x0 : Int) : Int × Int :=
  if x0 = 0 then
    (1, 10000)
  else
    if x0 = 1 then
      (1, 10000)
    else
      if x0 = 2 then
        (1, 10000)
      else
        if x0 = 5 then
          (0, 1000)
        else
          (0, 10000)
theorem tasks_bounds_ok (x0 : Int) (w0 : World) (r : Int × Int) (h : tasks_bounds.f x0 = r) :
    Calls Tryd.prog 65 #[.int .i64 x0] w0 (tasks_bounds.Post w0 r) := by
  have hS := St.start w0
  unfold tasks_bounds.f at h
  refine calls_enter (n := 11) (args := [.int .i64 x0]) (fn := Tryd.f65) rfl rfl rfl rfl ?_
  show WE _ _ _ _ [(0, .int .i64 x0)] _
  refine we_seq fun K1 hK1 => ?_
  refine we_region [(0, 0), (1, 0)] rfl ?_
  refine ge_batch [0, 1] (ans := []) (vs := [(3, .int .i64 0), (2, .int .i64 0)]) (l := []) (by kernel_rfl) trivial ?_
  refine ge_nil fun a hF => hK1 _ _ ?_ a hF
  refine we_seq fun K2 hK2 => ?_
  refine we_seq fun K3 hK3 => ?_
  refine we_region [(0, 0)] rfl ?_
  refine ge_batch [0] (ans := []) (vs := [(4, .int .i64 x0)]) (l := []) (by kernel_rfl) trivial ?_
  refine ge_nil fun a hF => hK3 _ _ ?_ a hF
  refine we_block ?_
  refine we_seq fun K4 hK4 => ?_
  refine we_seq fun K5 hK5 => ?_
  refine we_region [(0, 0), (1, 0)] rfl ?_
  refine ge_batch [0, 1] (ans := []) (vs := [(5, .bool (x0 == 0)), (6, .bool (x0 == 0))]) (l := []) (by kernel_rfl) trivial ?_
  refine ge_nil fun a hF => hK5 _ _ ?_ a hF
  by_cases hc1 : x0 = 0
  · rw [if_pos hc1] at h
    refine we_known (t := 5) (b := (x0 == 0)) (v := true) (by kernel_rfl) (beq_iff_eq.2 hc1) ?_
    refine we_true (by kernel_rfl) ?_
    refine we_skip fun a hF => hK4 _ _ ?_ a hF
    refine we_true (by kernel_rfl) ?_
    refine we_seq fun K6 hK6 => ?_
    refine we_region [(0, 0), (1, 0)] rfl ?_
    refine ge_batch [0, 1] (ans := []) (vs := [(3, .int .i64 10000), (2, .int .i64 1)]) (l := []) (by kernel_rfl) trivial ?_
    refine ge_nil fun a hF => hK6 _ _ ?_ a hF
    subst h
    exact we_ret (post_ret (rs := [.tmp 2, .tmp 3]) (ans := []) (vs := [.int .i64 1, .int .i64 10000]) (l := []) rfl (by kernel_rfl) trivial ⟨rfl, hS⟩)
  · rw [if_neg hc1] at h
    refine we_known (t := 5) (b := (x0 == 0)) (v := false) (by kernel_rfl) (beq_eq_false_iff_ne.2 hc1) ?_
    refine we_false (by kernel_rfl) ?_
    refine we_seq fun K7 hK7 => ?_
    refine we_region [(0, 0), (1, 0)] rfl ?_
    refine ge_batch [0, 1] (ans := []) (vs := [(5, .bool (x0 == 1)), (7, .bool (x0 == 1))]) (l := []) (by kernel_rfl) trivial ?_
    refine ge_nil fun a hF => hK7 _ _ ?_ a hF
    by_cases hc2 : x0 = 1
    · rw [if_pos hc2] at h
      refine we_known (t := 5) (b := (x0 == 1)) (v := true) (by kernel_rfl) (beq_iff_eq.2 hc2) ?_
      refine we_true (by kernel_rfl) ?_
      refine we_skip fun a hF => hK4 _ _ ?_ a hF
      refine we_true (by kernel_rfl) ?_
      refine we_seq fun K8 hK8 => ?_
      refine we_region [(0, 0), (1, 0)] rfl ?_
      refine ge_batch [0, 1] (ans := []) (vs := [(3, .int .i64 10000), (2, .int .i64 1)]) (l := []) (by kernel_rfl) trivial ?_
      refine ge_nil fun a hF => hK8 _ _ ?_ a hF
      subst h
      exact we_ret (post_ret (rs := [.tmp 2, .tmp 3]) (ans := []) (vs := [.int .i64 1, .int .i64 10000]) (l := []) rfl (by kernel_rfl) trivial ⟨rfl, hS⟩)
    · rw [if_neg hc2] at h
      refine we_known (t := 5) (b := (x0 == 1)) (v := false) (by kernel_rfl) (beq_eq_false_iff_ne.2 hc2) ?_
      refine we_false (by kernel_rfl) ?_
      refine we_region [(0, 0), (1, 0)] rfl ?_
      refine ge_batch [0, 1] (ans := []) (vs := [(5, .bool (x0 == 2)), (8, .bool (x0 == 2))]) (l := []) (by kernel_rfl) trivial ?_
      refine ge_nil fun a hF => hK4 _ _ ?_ a hF
      by_cases hc3 : x0 = 2
      · rw [if_pos hc3] at h
        refine we_known (t := 5) (b := (x0 == 2)) (v := true) (by kernel_rfl) (beq_iff_eq.2 hc3) ?_
        refine we_true (by kernel_rfl) ?_
        refine we_seq fun K9 hK9 => ?_
        refine we_region [(0, 0), (1, 0)] rfl ?_
        refine ge_batch [0, 1] (ans := []) (vs := [(3, .int .i64 10000), (2, .int .i64 1)]) (l := []) (by kernel_rfl) trivial ?_
        refine ge_nil fun a hF => hK9 _ _ ?_ a hF
        subst h
        exact we_ret (post_ret (rs := [.tmp 2, .tmp 3]) (ans := []) (vs := [.int .i64 1, .int .i64 10000]) (l := []) rfl (by kernel_rfl) trivial ⟨rfl, hS⟩)
      · rw [if_neg hc3] at h
        refine we_known (t := 5) (b := (x0 == 2)) (v := false) (by kernel_rfl) (beq_eq_false_iff_ne.2 hc3) ?_
        refine we_false (by kernel_rfl) ?_
        refine we_seq fun K10 hK10 => ?_
        refine we_region [(0, 0), (1, 0)] rfl ?_
        refine ge_batch [0, 1] (ans := []) (vs := [(9, .bool (x0 == 5)), (10, .bool (x0 == 5))]) (l := []) (by kernel_rfl) trivial ?_
        refine ge_nil fun a hF => hK10 _ _ ?_ a hF
        by_cases hc4 : x0 = 5
        · rw [if_pos hc4] at h
          refine we_known (t := 9) (b := (x0 == 5)) (v := true) (by kernel_rfl) (beq_iff_eq.2 hc4) ?_
          refine we_true (by kernel_rfl) ?_
          refine we_seq fun K11 hK11 => ?_
          refine we_region [(0, 0), (1, 0)] rfl ?_
          refine ge_batch [0, 1] (ans := []) (vs := [(3, .int .i64 1000), (2, .int .i64 0)]) (l := []) (by kernel_rfl) trivial ?_
          refine ge_nil fun a hF => hK11 _ _ ?_ a hF
          subst h
          exact we_ret (post_ret (rs := [.tmp 2, .tmp 3]) (ans := []) (vs := [.int .i64 0, .int .i64 1000]) (l := []) rfl (by kernel_rfl) trivial ⟨rfl, hS⟩)
        · rw [if_neg hc4] at h
          refine we_known (t := 9) (b := (x0 == 5)) (v := false) (by kernel_rfl) (beq_eq_false_iff_ne.2 hc4) ?_
          refine we_false (by kernel_rfl) ?_
          refine we_skip fun a hF => hK2 _ _ ?_ a hF
          refine we_seq fun K12 hK12 => ?_
          refine we_region [(0, 0), (1, 0)] rfl ?_
          refine ge_batch [0, 1] (ans := []) (vs := [(3, .int .i64 10000), (2, .int .i64 0)]) (l := []) (by kernel_rfl) trivial ?_
          refine ge_nil fun a hF => hK12 _ _ ?_ a hF
          subst h
          exact we_ret (post_ret (rs := [.tmp 2, .tmp 3]) (ans := []) (vs := [.int .i64 0, .int .i64 10000]) (l := []) rfl (by kernel_rfl) trivial ⟨rfl, hS⟩)

structure SFault where
  Code : Int
  At : Int
def SFault.eqb (x y : SFault) : Bool := ((x.Code == y.Code) && ((x.At == y.At) && true))
instance : Ok SFault := ⟨fun x => Ok.ok x.Code ∧ Ok.ok x.At ∧ True⟩
instance : Flat SFault := ⟨2, fun x => [.int .i64 x.Code, .int .i64 x.At], fun _ => rfl, fun _ => rfl, by decide⟩

/-! punctual/tasks.Check -/
abbrev tasks_Check.Post (w0 : World) (r : SFault) (e : Ending) (w : World) : Prop := e = .returned (.agg #[.int .i64 r.Code, .int .i64 r.At]) ∧ St w0 w []
def tasks_Check.p0 (l0 : List STask) : Option (Unit ⊕ SFault) :=
    if (l0.length : Int) < 1 then
      some (.inr (⟨2, 0⟩ : SFault))
    else
      if (l0.length : Int) > 8 then
        some (.inr (⟨2, 0⟩ : SFault))
      else
        some (.inl ())
def tasks_Check.r2 (i1 : Nat) (e1 : STask) : Nat → Option (Nat ⊕ (Unit ⊕ SFault))
  | i2 =>
    if (i2 : Int) < ((tasks_numbers.f e1).length : Int) then
      match (tasks_numbers.f e1)[i2]? with
      | none => none
      | some e2 =>
        if e2 < ((tasks_bounds.f (i2 : Int)).1) then
          some (.inr (.inr (⟨3, (i1 : Int)⟩ : SFault)))
        else
          if e2 > ((tasks_bounds.f (i2 : Int)).2) then
            some (.inr (.inr (⟨3, (i1 : Int)⟩ : SFault)))
          else
            some (.inl (i2 + 1))
    else
      some (.inr (.inl ()))
def tasks_Check.r1 (K : Nat) (l0 : List STask) : Nat → Option (Nat ⊕ (Unit ⊕ SFault))
  | i1 =>
    if (i1 : Int) < (l0.length : Int) then
      match l0[i1]? with
      | none => none
      | some e1 =>
        match tasks_isName.f K e1.Name with
        | none => none
        | some r1 =>
          if r1 = true then
            if i1 ≤ l0.length then
              match slices_ContainsFunc_api_Task_api_Task.f K ((l0.take i1).drop 0) e1 with
              | none => none
              | some r2 =>
                if r2 = true then
                  some (.inr (.inr (⟨5, (i1 : Int)⟩ : SFault)))
                else
                  match iter (tasks_Check.r2 i1 e1) K 0 with
                  | none => none
                  | some (.inl _) =>
                    if e1.C > e1.D then
                      some (.inr (.inr (⟨12, (i1 : Int)⟩ : SFault)))
                    else
                      some (.inl (i1 + 1))
                  | some (.inr rr1) =>
                    some (.inr (.inr rr1))
            else
              none
          else
            some (.inr (.inr (⟨4, (i1 : Int)⟩ : SFault)))
    else
      some (.inr (.inl ()))
def tasks_Check.f (K : Nat) (l0 : List STask) : Option SFault :=
  match tasks_Check.p0 l0 with
  | none => none
  | some (.inl _) =>
    match iter (tasks_Check.r1 K l0) K 0 with
    | none => none
    | some (.inl _) =>
      some (⟨0, 0⟩ : SFault)
    | some (.inr rr2) =>
      some rr2
  | some (.inr rr3) =>
    some rr3
abbrev tasks_Check.A0 (K : Nat) (w0 : World) (l0 : List STask) (A0 : Option Addr) (c0 : Nat) (hR0 : RdL w0 A0 l0) (hL0 : l0.length ≤ c0) (b1 : Nat) : Unit → Act → World → Prop := fun (s : Unit) a w => St w0 w [Own.blk b1 (.cells #[.int .i64 0, .int .i64 0] 26 (0, 0))] ∧ Frm 71 a [(0, .slice A0 l0.length c0), (2, .pointer (some ⟨b1, 0, none⟩))]
abbrev tasks_Check.B0 (K : Nat) (w0 : World) (l0 : List STask) (A0 : Option Addr) (c0 : Nat) (hR0 : RdL w0 A0 l0) (hL0 : l0.length ≤ c0) (b1 : Nat) : SFault → Exit → Act → World → Prop := Rets Tryd.prog Tryd.f19 (tasks_Check.Post w0)
theorem tasks_Check_p0 (K : Nat) (w0 : World) (l0 : List STask) (A0 : Option Addr) (c0 : Nat) (hR0 : RdL w0 A0 l0) (hL0 : l0.length ≤ c0) (b1 : Nat) (o : Unit ⊕ SFault) (h : tasks_Check.p0 l0 = some o) (w : World) (hS : St w0 w [Own.blk b1 (.cells #[.int .i64 0, .int .i64 0] 26 (0, 0))]) (Q : Exit → Act → World → Prop) (hQ : ∀ x a w, Outs (tasks_Check.A0 K w0 l0 A0 c0 hR0 hL0 b1) (tasks_Check.B0 K w0 l0 A0 c0 hR0 hL0 b1) o x a w → Q x a w) : WE Tryd.prog 71 (subF Tryd.f19 [1, 0]) Q [(0, .slice A0 l0.length c0), (2, .pointer (some ⟨b1, 0, none⟩))] w := by
  simp only [tasks_Check.p0] at h
  refine we_seq fun K3 hK3 => ?_
  refine we_region [(0, 0), (1, 0), (2, 0), (3, 0), (4, 0), (5, 0), (6, 0), (7, 0)] rfl ?_
  refine ge_batch [0, 1, 2, 3] (ans := []) (vs := [(12, .bool (decide ((l0.length : Int) < 1))), (11, .bool (decide ((l0.length : Int) < 1))), (10, .int .i64 (l0.length : Int)), (9, .slice A0 l0.length c0)]) (l := []) (by kernel_rfl) trivial ?_
  by_cases hc1 : (l0.length : Int) < 1
  · rw [if_pos hc1] at h
    refine ge_known (t := 12) (b := decide ((l0.length : Int) < 1)) (c := true) (by kernel_rfl) (decide_eq_true hc1) ?_
    refine ge_batch [4, 5, 6, 7] (ans := []) (vs := [(16, .bool true), (15, undef), (14, undef), (13, undef)]) (l := []) (by kernel_rfl) trivial ?_
    refine ge_nil fun a hF => hK3 _ _ ?_ a hF
    refine we_true (by kernel_rfl) ?_
    refine we_seq fun K4 hK4 => ?_
    refine we_region [(0, 0), (1, 2)] rfl ?_
    refine ge_batch [0] (ans := []) (vs := [(17, .agg #[.int .i64 2, .int .i64 0])]) (l := []) (by kernel_rfl) trivial ?_
    refine ge_set (b := b1) (j := 0) (cs := #[.int .i64 0, .int .i64 0]) (t := 26) (vs := [.int .i64 2, .int .i64 0]) hS (by kernel_rfl) rfl rfl fun w2 hS2 => ?_
    have hS3 : St w0 w2 [Own.blk b1 (.cells #[.int .i64 2, .int .i64 0] 26 (0, 0))] := hS2
    refine ge_nil fun a hF => hK4 _ _ ?_ a hF
    have hS4 := hS3.takeN 0
    obtain rfl := Option.some.inj h
    exact we_ret fun a hF => hQ _ _ _ (Outs.out nofun ⟨rfl, (post_ret (rs := [.cell 2 26]) (ans := [.val (.int .i64 2), .val (.int .i64 0)]) (vs := [.agg #[.int .i64 2, .int .i64 0]]) (l := [.loaded ⟨b1, 0, none⟩ (.int .i64 2), .loaded ⟨b1, 1, none⟩ (.int .i64 0)]) rfl (by kernel_rfl) ⟨hS3.cell 0 rfl rfl, hS3.cell 0 rfl rfl, trivial⟩ ⟨rfl, hS4⟩) a hF⟩)
  · rw [if_neg hc1] at h
    refine ge_known (t := 12) (b := decide ((l0.length : Int) < 1)) (c := false) (by kernel_rfl) (decide_eq_false hc1) ?_
    refine ge_batch [4, 5, 6, 7] (ans := []) (vs := [(16, .bool (decide ((l0.length : Int) > 8))), (15, .bool (decide ((l0.length : Int) > 8))), (14, .int .i64 (l0.length : Int)), (13, .slice A0 l0.length c0)]) (l := []) (by kernel_rfl) trivial ?_
    refine ge_nil fun a hF => hK3 _ _ ?_ a hF
    by_cases hc2 : (l0.length : Int) > 8
    · rw [if_pos hc2] at h
      refine we_known (t := 16) (b := decide ((l0.length : Int) > 8)) (v := true) (by kernel_rfl) (decide_eq_true hc2) ?_
      refine we_true (by kernel_rfl) ?_
      refine we_seq fun K5 hK5 => ?_
      refine we_region [(0, 0), (1, 2)] rfl ?_
      refine ge_batch [0] (ans := []) (vs := [(17, .agg #[.int .i64 2, .int .i64 0])]) (l := []) (by kernel_rfl) trivial ?_
      refine ge_set (b := b1) (j := 0) (cs := #[.int .i64 0, .int .i64 0]) (t := 26) (vs := [.int .i64 2, .int .i64 0]) hS (by kernel_rfl) rfl rfl fun w3 hS5 => ?_
      have hS6 : St w0 w3 [Own.blk b1 (.cells #[.int .i64 2, .int .i64 0] 26 (0, 0))] := hS5
      refine ge_nil fun a hF => hK5 _ _ ?_ a hF
      have hS7 := hS6.takeN 0
      obtain rfl := Option.some.inj h
      exact we_ret fun a hF => hQ _ _ _ (Outs.out nofun ⟨rfl, (post_ret (rs := [.cell 2 26]) (ans := [.val (.int .i64 2), .val (.int .i64 0)]) (vs := [.agg #[.int .i64 2, .int .i64 0]]) (l := [.loaded ⟨b1, 0, none⟩ (.int .i64 2), .loaded ⟨b1, 1, none⟩ (.int .i64 0)]) rfl (by kernel_rfl) ⟨hS6.cell 0 rfl rfl, hS6.cell 0 rfl rfl, trivial⟩ ⟨rfl, hS7⟩) a hF⟩)
    · rw [if_neg hc2] at h
      refine we_known (t := 16) (b := decide ((l0.length : Int) > 8)) (v := false) (by kernel_rfl) (decide_eq_false hc2) ?_
      refine we_false (by kernel_rfl) ?_
      obtain rfl := Option.some.inj h
      exact we_skip fun a hF => hQ _ _ _ (Outs.again ⟨hS, hF.weaken ⟨by kernel_rfl, by kernel_rfl, trivial⟩⟩)
abbrev tasks_Check.A2 (K : Nat) (w0 : World) (l0 : List STask) (A0 : Option Addr) (c0 : Nat) (hR0 : RdL w0 A0 l0) (hL0 : l0.length ≤ c0) (b1 : Nat) (i1 : Nat) (hc3 : (i1 : Int) < (l0.length : Int)) (e1 : STask) (hx2 : l0[i1]? = some e1) (b2 : Nat) (r1 : Bool) (hc4 : r1 = true) (hc5 : i1 ≤ l0.length) (r2 : Bool) (hc6 : ¬ (r2 = true)) (Z1 : Option Addr) (cz1 : Nat) : Nat → Act → World → Prop := fun (s : Nat) a w => St w0 w [Own.blk b2 (.cells #[.string e1.Name, .int .i64 e1.C, .int .i64 e1.T, .int .i64 e1.D, .int .i64 e1.J, .int .i64 e1.O, .int .i64 e1.P] 46 (0, 0)), Own.blk b1 (.cells #[.int .i64 0, .int .i64 0] 26 (0, 0)), Own.of (.slice Z1 (tasks_numbers.f e1).length cz1) 3 (tasks_numbers.f e1)] ∧ Frm 71 a [(0, .slice A0 l0.length c0), (2, .pointer (some ⟨b1, 0, none⟩)), (3, .int .i64 (i1 : Int)), (4, .pointer (some ⟨b2, 0, none⟩)), (18, .slice A0 l0.length c0), (19, .int .i64 (l0.length : Int)), (20, .int .i64 (i1 : Int)), (39, (.slice Z1 (tasks_numbers.f e1).length cz1)), (40, .int .i64 ((tasks_numbers.f e1).length : Int)), (41, .int .i64 (s : Int))]
abbrev tasks_Check.B2 (K : Nat) (w0 : World) (l0 : List STask) (A0 : Option Addr) (c0 : Nat) (hR0 : RdL w0 A0 l0) (hL0 : l0.length ≤ c0) (b1 : Nat) (i1 : Nat) (hc3 : (i1 : Int) < (l0.length : Int)) (e1 : STask) (hx2 : l0[i1]? = some e1) (b2 : Nat) (r1 : Bool) (hc4 : r1 = true) (hc5 : i1 ≤ l0.length) (r2 : Bool) (hc6 : ¬ (r2 = true)) (Z1 : Option Addr) (cz1 : Nat) : (Unit ⊕ SFault) → Exit → Act → World → Prop := Exits 2 (fun (s : Unit) a w => St w0 w [Own.blk b2 (.cells #[.string e1.Name, .int .i64 e1.C, .int .i64 e1.T, .int .i64 e1.D, .int .i64 e1.J, .int .i64 e1.O, .int .i64 e1.P] 46 (0, 0)), Own.blk b1 (.cells #[.int .i64 0, .int .i64 0] 26 (0, 0))] ∧ Frm 71 a [(0, .slice A0 l0.length c0), (2, .pointer (some ⟨b1, 0, none⟩)), (3, .int .i64 (i1 : Int)), (4, .pointer (some ⟨b2, 0, none⟩)), (18, .slice A0 l0.length c0), (19, .int .i64 (l0.length : Int)), (20, .int .i64 (i1 : Int))]) (Rets Tryd.prog Tryd.f19 (tasks_Check.Post w0))
theorem tasks_Check_r2 (K : Nat) (w0 : World) (l0 : List STask) (A0 : Option Addr) (c0 : Nat) (hR0 : RdL w0 A0 l0) (hL0 : l0.length ≤ c0) (b1 : Nat) (i1 : Nat) (hc3 : (i1 : Int) < (l0.length : Int)) (e1 : STask) (hx2 : l0[i1]? = some e1) (b2 : Nat) (r1 : Bool) (hc4 : r1 = true) (hc5 : i1 ≤ l0.length) (r2 : Bool) (hc6 : ¬ (r2 = true)) (Z1 : Option Addr) (cz1 : Nat) (s : Nat) (o : Nat ⊕ (Unit ⊕ SFault)) (h : tasks_Check.r2 i1 e1 s = some o) (a : Act) (w : World) (hA : tasks_Check.A2 K w0 l0 A0 c0 hR0 hL0 b1 i1 hc3 e1 hx2 b2 r1 hc4 hc5 r2 hc6 Z1 cz1 s a w) (Q : Exit → Act → World → Prop) (hQ : ∀ x a w, Outs (tasks_Check.A2 K w0 l0 A0 c0 hR0 hL0 b1 i1 hc3 e1 hx2 b2 r1 hc4 hc5 r2 hc6 Z1 cz1) (tasks_Check.B2 K w0 l0 A0 c0 hR0 hL0 b1 i1 hc3 e1 hx2 b2 r1 hc4 hc5 r2 hc6 Z1 cz1) o x a w → Q x a w) : (subF Tryd.f19 [1, 1, 0, 1, 0, 0, 1, 1, 0, 0, 1, 1, 1, 0, 1, 0, 0]).wp Tryd.prog Q a w := by
  obtain ⟨i2, hs⟩ : ∃ z, z = s := ⟨s, rfl⟩
  subst hs
  obtain ⟨hS, hF⟩ := hA
  replace hS : St w0 w [Own.blk b2 (.cells #[.string e1.Name, .int .i64 e1.C, .int .i64 e1.T, .int .i64 e1.D, .int .i64 e1.J, .int .i64 e1.O, .int .i64 e1.P] 46 (0, 0)), Own.blk b1 (.cells #[.int .i64 0, .int .i64 0] 26 (0, 0)), Own.of (.slice Z1 (tasks_numbers.f e1).length cz1) 3 (tasks_numbers.f e1)] := hS
  simp only [tasks_Check.r2] at h
  refine (?_ : WE Tryd.prog 71 (subF Tryd.f19 [1, 1, 0, 1, 0, 0, 1, 1, 0, 0, 1, 1, 1, 0, 1, 0, 0]) Q [(0, .slice A0 l0.length c0), (2, .pointer (some ⟨b1, 0, none⟩)), (3, .int .i64 (i1 : Int)), (4, .pointer (some ⟨b2, 0, none⟩)), (18, .slice A0 l0.length c0), (19, .int .i64 (l0.length : Int)), (20, .int .i64 (i1 : Int)), (39, (.slice Z1 (tasks_numbers.f e1).length cz1)), (40, .int .i64 ((tasks_numbers.f e1).length : Int)), (41, .int .i64 (i2 : Int))] w) a hF
  clear hF a
  refine we_seq fun K19 hK19 => ?_
  refine we_region [(0, 0)] rfl ?_
  refine ge_batch [0] (ans := []) (vs := [(42, .bool (decide ((i2 : Int) < ((tasks_numbers.f e1).length : Int))))]) (l := []) (by kernel_rfl) trivial ?_
  refine ge_nil fun a hF => hK19 _ _ ?_ a hF
  refine we_seq fun K20 hK20 => ?_
  by_cases hc7 : (i2 : Int) < ((tasks_numbers.f e1).length : Int)
  · rw [if_pos hc7] at h
    refine we_known (t := 42) (b := decide ((i2 : Int) < ((tasks_numbers.f e1).length : Int))) (v := true) (by kernel_rfl) (decide_eq_true hc7) ?_
    refine we_true (by kernel_rfl) ?_
    refine we_skip fun a hF => hK20 _ _ ?_ a hF
    refine we_seq fun K21 hK21 => ?_
    refine we_block ?_
    refine we_seq fun K22 hK22 => ?_
    refine we_region [(0, 0), (1, 0), (2, 0), (3, 0), (4, 0)] rfl ?_
    refine ge_batch [0] (ans := []) (vs := [(43, .int .i64 (i2 : Int))]) (l := []) (by kernel_rfl) trivial ?_
    rcases hx4 : (tasks_numbers.f e1)[i2]? with _ | e2
    · rw [hx4] at h; cases h
    rw [hx4] at h
    simp only [] at h
    refine ge_index (d := 44) (ty := 0) (t := 23) (el := 3) (sz := 1) (m := (tasks_numbers.f e1).length) (c := cz1) (x := (.tmp 39)) (y := (.tmp 41)) (A := Z1) (k' := .i64) (j := (i2 : Int)) (jn := i2) (b0 := blkOf Z1) (o0 := offOf Z1) (by kernel_rfl) (by kernel_rfl) (by kernel_rfl) (by kernel_rfl) (by kernel_rfl) ((hS.rdAt 2 rfl).eqSome (pos_of_get hx4)) rfl (lt_of_get hx4) ?_
    refine ge_batch [2, 3, 4] (ans := [.val (.int .i64 e2)]) (vs := [(6, .int .i64 e2), (5, .int .i64 (i2 : Int)), (45, .int .i64 e2)]) (l := [.loaded ⟨blkOf Z1, offOf Z1 + i2 * 1, none⟩ (.int .i64 e2)]) (by kernel_rfl) ⟨RdL.cell (j := 0) (hS.rdAt 2 rfl) hx4 rfl, trivial⟩ ?_
    refine ge_nil fun a hF => hK22 _ _ ?_ a hF
    refine we_seq fun K23 hK23 => ?_
    refine we_region [(0, 0), (1, 1), (2, 0), (3, 0), (4, 0), (5, 0), (6, 0)] rfl ?_
    refine ge_batch [0] (ans := []) (vs := [(47, .int .i64 (i2 : Int))]) (l := []) (by kernel_rfl) trivial ?_
    refine ge_call (d := some 48) (f := 65) (args := #[.int .i64 (i2 : Int)]) (by kernel_rfl) (tasks_bounds_ok (i2 : Int) _ _ rfl) ?_
    rintro _ w11 ⟨rfl, hS24⟩
    refine ⟨_, rfl, hS24.below, ?_⟩
    have hS25 := hS.call hS24
    refine ge_batch [2, 3, 4, 5, 6] (ans := []) (vs := [(8, .int .i64 ((tasks_bounds.f (i2 : Int)).2)), (7, .int .i64 ((tasks_bounds.f (i2 : Int)).1)), (50, .int .i64 ((tasks_bounds.f (i2 : Int)).2)), (49, .int .i64 ((tasks_bounds.f (i2 : Int)).1)), (46, .tuple #[.int .i64 ((tasks_bounds.f (i2 : Int)).1), .int .i64 ((tasks_bounds.f (i2 : Int)).2)])]) (l := []) (by kernel_rfl) trivial ?_
    refine ge_nil fun a hF => hK23 _ _ ?_ a hF
    refine we_seq fun K24 hK24 => ?_
    refine we_region [(0, 0), (1, 0), (2, 0), (3, 0), (4, 0), (5, 0), (6, 0), (7, 0)] rfl ?_
    refine ge_batch [0, 1, 2, 3] (ans := []) (vs := [(54, .bool (decide (e2 < ((tasks_bounds.f (i2 : Int)).1)))), (53, .bool (decide (e2 < ((tasks_bounds.f (i2 : Int)).1)))), (52, .int .i64 ((tasks_bounds.f (i2 : Int)).1)), (51, .int .i64 e2)]) (l := []) (by kernel_rfl) trivial ?_
    by_cases hc8 : e2 < ((tasks_bounds.f (i2 : Int)).1)
    · rw [if_pos hc8] at h
      refine ge_known (t := 54) (b := decide (e2 < ((tasks_bounds.f (i2 : Int)).1))) (c := true) (by kernel_rfl) (decide_eq_true hc8) ?_
      refine ge_batch [4, 5, 6, 7] (ans := []) (vs := [(58, .bool true), (57, undef), (56, undef), (55, undef)]) (l := []) (by kernel_rfl) trivial ?_
      refine ge_nil fun a hF => hK24 _ _ ?_ a hF
      refine we_true (by kernel_rfl) ?_
      refine we_seq fun K25 hK25 => ?_
      refine we_region [(0, 0), (1, 0), (2, 2)] rfl ?_
      refine ge_batch [0, 1] (ans := []) (vs := [(60, .agg #[.int .i64 3, .int .i64 (i1 : Int)]), (59, .int .i64 (i1 : Int))]) (l := []) (by kernel_rfl) trivial ?_
      have hS26 := hS25.bring 1 rfl
      refine ge_set (b := b1) (j := 0) (cs := #[.int .i64 0, .int .i64 0]) (t := 26) (vs := [.int .i64 3, .int .i64 (i1 : Int)]) hS26 (by kernel_rfl) rfl rfl fun w12 hS27 => ?_
      have hS28 : St w0 w12 [Own.blk b1 (.cells #[.int .i64 3, .int .i64 (i1 : Int)] 26 (0, 0)), Own.blk b2 (.cells #[.string e1.Name, .int .i64 e1.C, .int .i64 e1.T, .int .i64 e1.D, .int .i64 e1.J, .int .i64 e1.O, .int .i64 e1.P] 46 (0, 0)), Own.of (.slice Z1 (tasks_numbers.f e1).length cz1) 3 (tasks_numbers.f e1)] := hS27
      refine ge_nil fun a hF => hK25 _ _ ?_ a hF
      have hS29 := hS28.takeN 0
      obtain rfl := Option.some.inj h
      exact we_ret fun a hF => hQ _ _ _ (Outs.out nofun (Exits.on ⟨rfl, (post_ret (rs := [.cell 2 26]) (ans := [.val (.int .i64 3), .val (.int .i64 (i1 : Int))]) (vs := [.agg #[.int .i64 3, .int .i64 (i1 : Int)]]) (l := [.loaded ⟨b1, 0, none⟩ (.int .i64 3), .loaded ⟨b1, 1, none⟩ (.int .i64 (i1 : Int))]) rfl (by kernel_rfl) ⟨hS28.cell 0 rfl rfl, hS28.cell 0 rfl rfl, trivial⟩ ⟨rfl, hS29⟩) a hF⟩))
    · rw [if_neg hc8] at h
      refine ge_known (t := 54) (b := decide (e2 < ((tasks_bounds.f (i2 : Int)).1))) (c := false) (by kernel_rfl) (decide_eq_false hc8) ?_
      refine ge_batch [4, 5, 6, 7] (ans := []) (vs := [(58, .bool (decide (e2 > ((tasks_bounds.f (i2 : Int)).2)))), (57, .bool (decide (e2 > ((tasks_bounds.f (i2 : Int)).2)))), (56, .int .i64 ((tasks_bounds.f (i2 : Int)).2)), (55, .int .i64 e2)]) (l := []) (by kernel_rfl) trivial ?_
      refine ge_nil fun a hF => hK24 _ _ ?_ a hF
      by_cases hc9 : e2 > ((tasks_bounds.f (i2 : Int)).2)
      · rw [if_pos hc9] at h
        refine we_known (t := 58) (b := decide (e2 > ((tasks_bounds.f (i2 : Int)).2))) (v := true) (by kernel_rfl) (decide_eq_true hc9) ?_
        refine we_true (by kernel_rfl) ?_
        refine we_seq fun K26 hK26 => ?_
        refine we_region [(0, 0), (1, 0), (2, 2)] rfl ?_
        refine ge_batch [0, 1] (ans := []) (vs := [(60, .agg #[.int .i64 3, .int .i64 (i1 : Int)]), (59, .int .i64 (i1 : Int))]) (l := []) (by kernel_rfl) trivial ?_
        have hS30 := hS25.bring 1 rfl
        refine ge_set (b := b1) (j := 0) (cs := #[.int .i64 0, .int .i64 0]) (t := 26) (vs := [.int .i64 3, .int .i64 (i1 : Int)]) hS30 (by kernel_rfl) rfl rfl fun w13 hS31 => ?_
        have hS32 : St w0 w13 [Own.blk b1 (.cells #[.int .i64 3, .int .i64 (i1 : Int)] 26 (0, 0)), Own.blk b2 (.cells #[.string e1.Name, .int .i64 e1.C, .int .i64 e1.T, .int .i64 e1.D, .int .i64 e1.J, .int .i64 e1.O, .int .i64 e1.P] 46 (0, 0)), Own.of (.slice Z1 (tasks_numbers.f e1).length cz1) 3 (tasks_numbers.f e1)] := hS31
        refine ge_nil fun a hF => hK26 _ _ ?_ a hF
        have hS33 := hS32.takeN 0
        obtain rfl := Option.some.inj h
        exact we_ret fun a hF => hQ _ _ _ (Outs.out nofun (Exits.on ⟨rfl, (post_ret (rs := [.cell 2 26]) (ans := [.val (.int .i64 3), .val (.int .i64 (i1 : Int))]) (vs := [.agg #[.int .i64 3, .int .i64 (i1 : Int)]]) (l := [.loaded ⟨b1, 0, none⟩ (.int .i64 3), .loaded ⟨b1, 1, none⟩ (.int .i64 (i1 : Int))]) rfl (by kernel_rfl) ⟨hS32.cell 0 rfl rfl, hS32.cell 0 rfl rfl, trivial⟩ ⟨rfl, hS33⟩) a hF⟩))
      · rw [if_neg hc9] at h
        refine we_known (t := 58) (b := decide (e2 > ((tasks_bounds.f (i2 : Int)).2))) (v := false) (by kernel_rfl) (decide_eq_false hc9) ?_
        refine we_false (by kernel_rfl) ?_
        refine we_skip fun a hF => hK21 _ _ ?_ a hF
        refine we_region [(0, 0), (1, 0)] rfl ?_
        refine ge_addn (d := 61) (ty := 3) (x := (.tmp 41)) (y := (.const (.int .i64 1))) (t := 3) (t2 := 3) (k := .i64) (m := i2) (by kernel_rfl) (by kernel_rfl) (by kernel_rfl) (by have h0 := hS25.ofSmall 2 rfl; omega) ?_
        refine ge_batch [1] (ans := []) (vs := [(41, .int .i64 ((i2 + 1 : Nat) : Int))]) (l := []) (by kernel_rfl) trivial ?_
        have hS34 := hS25.bring 2 rfl
        have hS35 := hS34.bring 2 rfl
        have hS36 := hS35.bring 2 rfl
        obtain rfl := Option.some.inj h
        exact ge_nil fun a hF => hQ _ _ _ (Outs.again ⟨hS36, hF.weaken ⟨by kernel_rfl, by kernel_rfl, by kernel_rfl, by kernel_rfl, by kernel_rfl, by kernel_rfl, by kernel_rfl, by kernel_rfl, by kernel_rfl, by kernel_rfl, trivial⟩⟩)
  · rw [if_neg hc7] at h
    refine we_known (t := 42) (b := decide ((i2 : Int) < ((tasks_numbers.f e1).length : Int))) (v := false) (by kernel_rfl) (decide_eq_false hc7) ?_
    refine we_false (by kernel_rfl) ?_
    have hS37 := hS.bring 1 rfl
    have hS38 := hS37.bring 1 rfl
    have hS39 := hS38.takeN 2
    obtain rfl := Option.some.inj h
    exact we_exit fun a hF => hQ _ _ _ (Outs.out nofun (Exits.here ⟨hS39, hF.weaken ⟨by kernel_rfl, by kernel_rfl, by kernel_rfl, by kernel_rfl, by kernel_rfl, by kernel_rfl, by kernel_rfl, trivial⟩⟩))
abbrev tasks_Check.A1 (K : Nat) (w0 : World) (l0 : List STask) (A0 : Option Addr) (c0 : Nat) (hR0 : RdL w0 A0 l0) (hL0 : l0.length ≤ c0) (b1 : Nat) : Nat → Act → World → Prop := fun (s : Nat) a w => St w0 w [Own.blk b1 (.cells #[.int .i64 0, .int .i64 0] 26 (0, 0))] ∧ Frm 71 a [(0, .slice A0 l0.length c0), (2, .pointer (some ⟨b1, 0, none⟩)), (18, .slice A0 l0.length c0), (19, .int .i64 (l0.length : Int)), (20, .int .i64 (s : Int))]
abbrev tasks_Check.B1 (K : Nat) (w0 : World) (l0 : List STask) (A0 : Option Addr) (c0 : Nat) (hR0 : RdL w0 A0 l0) (hL0 : l0.length ≤ c0) (b1 : Nat) : (Unit ⊕ SFault) → Exit → Act → World → Prop := Exits 0 (fun (s : Unit) a w => St w0 w [Own.blk b1 (.cells #[.int .i64 0, .int .i64 0] 26 (0, 0))] ∧ Frm 71 a [(2, .pointer (some ⟨b1, 0, none⟩))]) (Rets Tryd.prog Tryd.f19 (tasks_Check.Post w0))
theorem tasks_Check_r1 (K : Nat) (w0 : World) (l0 : List STask) (A0 : Option Addr) (c0 : Nat) (hR0 : RdL w0 A0 l0) (hL0 : l0.length ≤ c0) (b1 : Nat) (s : Nat) (o : Nat ⊕ (Unit ⊕ SFault)) (h : tasks_Check.r1 K l0 s = some o) (a : Act) (w : World) (hA : tasks_Check.A1 K w0 l0 A0 c0 hR0 hL0 b1 s a w) (Q : Exit → Act → World → Prop) (hQ : ∀ x a w, Outs (tasks_Check.A1 K w0 l0 A0 c0 hR0 hL0 b1) (tasks_Check.B1 K w0 l0 A0 c0 hR0 hL0 b1) o x a w → Q x a w) : (subF Tryd.f19 [1, 1, 0, 1, 0, 0]).wp Tryd.prog Q a w := by
  obtain ⟨i1, hs⟩ : ∃ z, z = s := ⟨s, rfl⟩
  subst hs
  obtain ⟨hS, hF⟩ := hA
  replace hS : St w0 w [Own.blk b1 (.cells #[.int .i64 0, .int .i64 0] 26 (0, 0))] := hS
  simp only [tasks_Check.r1] at h
  refine (?_ : WE Tryd.prog 71 (subF Tryd.f19 [1, 1, 0, 1, 0, 0]) Q [(0, .slice A0 l0.length c0), (2, .pointer (some ⟨b1, 0, none⟩)), (18, .slice A0 l0.length c0), (19, .int .i64 (l0.length : Int)), (20, .int .i64 (i1 : Int))] w) a hF
  clear hF a
  refine we_seq fun K8 hK8 => ?_
  refine we_region [(0, 0)] rfl ?_
  refine ge_batch [0] (ans := []) (vs := [(21, .bool (decide ((i1 : Int) < (l0.length : Int))))]) (l := []) (by kernel_rfl) trivial ?_
  refine ge_nil fun a hF => hK8 _ _ ?_ a hF
  refine we_seq fun K9 hK9 => ?_
  by_cases hc3 : (i1 : Int) < (l0.length : Int)
  · rw [if_pos hc3] at h
    refine we_known (t := 21) (b := decide ((i1 : Int) < (l0.length : Int))) (v := true) (by kernel_rfl) (decide_eq_true hc3) ?_
    refine we_true (by kernel_rfl) ?_
    refine we_skip fun a hF => hK9 _ _ ?_ a hF
    refine we_seq fun K10 hK10 => ?_
    refine we_block ?_
    refine we_seq fun K11 hK11 => ?_
    refine we_region [(0, 0), (1, 0), (2, 0), (3, 1), (4, 0), (5, 2)] rfl ?_
    refine ge_batch [0] (ans := []) (vs := [(22, .int .i64 (i1 : Int))]) (l := []) (by kernel_rfl) trivial ?_
    rcases hx2 : l0[i1]? with _ | e1
    · rw [hx2] at h; cases h
    rw [hx2] at h
    simp only [] at h
    refine ge_index (d := 23) (ty := 0) (t := 40) (el := 46) (sz := 7) (m := l0.length) (c := c0) (x := (.tmp 18)) (y := (.tmp 20)) (A := A0) (k' := .i64) (j := (i1 : Int)) (jn := i1) (b0 := blkOf A0) (o0 := offOf A0) (by kernel_rfl) (by kernel_rfl) (by kernel_rfl) (by kernel_rfl) (by kernel_rfl) ((hS.rd hR0).eqSome (pos_of_get hx2)) rfl (lt_of_get hx2) ?_
    refine ge_batch [2] (ans := [.val (.string e1.Name), .val (.int .i64 e1.C), .val (.int .i64 e1.T), .val (.int .i64 e1.D), .val (.int .i64 e1.J), .val (.int .i64 e1.O), .val (.int .i64 e1.P)]) (vs := [(24, .agg #[.string e1.Name, .int .i64 e1.C, .int .i64 e1.T, .int .i64 e1.D, .int .i64 e1.J, .int .i64 e1.O, .int .i64 e1.P])]) (l := [.loaded ⟨blkOf A0, offOf A0 + i1 * 7, none⟩ (.string e1.Name), .loaded ⟨blkOf A0, offOf A0 + i1 * 7 + 1, none⟩ (.int .i64 e1.C), .loaded ⟨blkOf A0, offOf A0 + i1 * 7 + 2, none⟩ (.int .i64 e1.T), .loaded ⟨blkOf A0, offOf A0 + i1 * 7 + 3, none⟩ (.int .i64 e1.D), .loaded ⟨blkOf A0, offOf A0 + i1 * 7 + 4, none⟩ (.int .i64 e1.J), .loaded ⟨blkOf A0, offOf A0 + i1 * 7 + 5, none⟩ (.int .i64 e1.O), .loaded ⟨blkOf A0, offOf A0 + i1 * 7 + 6, none⟩ (.int .i64 e1.P)]) (by kernel_rfl) ⟨RdL.cell (j := 0) (hS.rd hR0) hx2 rfl, RdL.cell (j := 1) (hS.rd hR0) hx2 rfl, RdL.cell (j := 2) (hS.rd hR0) hx2 rfl, RdL.cell (j := 3) (hS.rd hR0) hx2 rfl, RdL.cell (j := 4) (hS.rd hR0) hx2 rfl, RdL.cell (j := 5) (hS.rd hR0) hx2 rfl, RdL.cell (j := 6) (hS.rd hR0) hx2 rfl, trivial⟩ ?_
    refine ge_new (d := some 4) (o := .cells #[.string (⟨#[]⟩), .int .i64 0, .int .i64 0, .int .i64 0, .int .i64 0, .int .i64 0, .int .i64 0] 46) (v := fun b => .pointer (some ⟨b, 0, none⟩)) hS (fun b => by kernel_rfl) fun b2 w5 hx3 hS9 => ?_
    refine ge_batch [4] (ans := []) (vs := [(3, .int .i64 (i1 : Int))]) (l := []) (by kernel_rfl) trivial ?_
    refine ge_set (b := b2) (j := 0) (cs := #[.string (⟨#[]⟩), .int .i64 0, .int .i64 0, .int .i64 0, .int .i64 0, .int .i64 0, .int .i64 0]) (t := 46) (vs := [.string e1.Name, .int .i64 e1.C, .int .i64 e1.T, .int .i64 e1.D, .int .i64 e1.J, .int .i64 e1.O, .int .i64 e1.P]) hS9 (by kernel_rfl) rfl rfl fun w6 hS10 => ?_
    have hS11 : St w0 w6 [Own.blk b2 (.cells #[.string e1.Name, .int .i64 e1.C, .int .i64 e1.T, .int .i64 e1.D, .int .i64 e1.J, .int .i64 e1.O, .int .i64 e1.P] 46 (0, 0)), Own.blk b1 (.cells #[.int .i64 0, .int .i64 0] 26 (0, 0))] := hS10
    refine ge_nil fun a hF => hK11 _ _ ?_ a hF
    refine we_seq fun K12 hK12 => ?_
    refine we_seq fun K13 hK13 => ?_
    refine we_region [(0, 0), (1, 0), (2, 1), (3, 0)] rfl ?_
    rcases hq2 : tasks_isName.f K e1.Name with _ | r1
    · rw [hq2] at h; cases h
    rw [hq2] at h
    simp only [] at h
    refine ge_batch [0, 1] (ans := [.val (.string e1.Name)]) (vs := [(26, .string e1.Name), (25, .pointer (some ⟨b2, 0, none⟩))]) (l := [.loaded ⟨b2, 0, none⟩ (.string e1.Name)]) (by kernel_rfl) ⟨hS11.cell 0 rfl rfl, trivial⟩ ?_
    refine ge_call (d := some 27) (f := 61) (args := #[.string e1.Name]) (by kernel_rfl) (tasks_isName_ok K e1.Name _ _ hq2) ?_
    rintro _ w7 ⟨rfl, hS12⟩
    refine ⟨_, rfl, hS12.below, ?_⟩
    have hS13 := hS11.call hS12
    refine ge_batch [3] (ans := []) (vs := [(28, .bool (!r1))]) (l := []) (by kernel_rfl) trivial ?_
    refine ge_nil fun a hF => hK13 _ _ ?_ a hF
    by_cases hc4 : r1 = true
    · rw [if_pos hc4] at h
      refine we_known (t := 28) (b := !r1) (v := false) (by kernel_rfl) (congrArg (fun z => !z) hc4) ?_
      refine we_false (by kernel_rfl) ?_
      refine we_skip fun a hF => hK12 _ _ ?_ a hF
      refine we_seq fun K14 hK14 => ?_
      refine we_seq fun K15 hK15 => ?_
      refine we_region [(0, 0), (1, 0), (2, 0), (3, 0), (4, 1)] rfl ?_
      refine ge_batch [0, 1] (ans := []) (vs := [(32, .int .i64 (i1 : Int)), (31, .slice A0 l0.length c0)]) (l := []) (by kernel_rfl) trivial ?_
      by_cases hc5 : i1 ≤ l0.length
      · rw [if_pos hc5] at h
        refine ge_part (d := 33) (ty := 40) (t := 40) (el := 46) (sz := 7) (m := l0.length) (c := c0) (lo := 0) (hi := i1) (x := (.tmp 31)) (xl := none) (xh := some (.tmp 32)) (A := A0) (by kernel_rfl) (by kernel_rfl) rfl ⟨.i64, (i1 : Int), by kernel_rfl, rfl⟩ (by kernel_rfl) (by kernel_rfl) (by have f0 := hc5; have f1 := hL0; omega) (by have f0 := hc5; have f1 := hL0; omega) ?_
        refine ge_same (t := 33) (v := .slice (subA A0 c0 0 7) (i1 - 0) (c0 - 0)) (v' := .slice (subA A0 c0 0 7) (((l0.take i1).drop 0).length) (c0 - 0)) (by kernel_rfl) (by have f0 := hc5; have f1 := hL0; rw [show i1 - 0 = ((l0.take i1).drop 0).length by simp only [List.length_drop, List.length_take]; omega]) ?_
        rcases hq3 : slices_ContainsFunc_api_Task_api_Task.f K ((l0.take i1).drop 0) e1 with _ | r2
        · rw [hq3] at h; cases h
        rw [hq3] at h
        simp only [] at h
        refine ge_batch [3] (ans := []) (vs := [(34, .func (.func 63) #[] #[.pointer (some ⟨b2, 0, none⟩)])]) (l := []) (by kernel_rfl) trivial ?_
        refine ge_call (d := some 35) (f := 62) (args := #[.slice (subA A0 c0 0 7) (((l0.take i1).drop 0).length) (c0 - 0), .func (.func 63) #[] #[.pointer (some ⟨b2, 0, none⟩)]]) (by kernel_rfl) (slices_ContainsFunc_api_Task_api_Task_ok K ((l0.take i1).drop 0) (subA A0 c0 0 7) (c0 - 0) b2 e1 _ (hS13.rd (RdL.part hR0 hL0 0 i1)) (by have f0 := hc5; have f1 := hL0; simp only [List.length_drop, List.length_take]; omega) (hS13.globOf 0 rfl) _ hq3) ?_
        rintro _ w8 ⟨rfl, hS14⟩
        refine ⟨_, rfl, hS14.below, ?_⟩
        have hS15 := hS13.call hS14
        refine ge_nil fun a hF => hK15 _ _ ?_ a hF
        by_cases hc6 : r2 = true
        · rw [if_pos hc6] at h
          refine we_known (t := 35) (b := r2) (v := true) (by kernel_rfl) hc6 ?_
          refine we_true (by kernel_rfl) ?_
          refine we_seq fun K16 hK16 => ?_
          refine we_region [(0, 0), (1, 0), (2, 2)] rfl ?_
          refine ge_batch [0, 1] (ans := []) (vs := [(37, .agg #[.int .i64 5, .int .i64 (i1 : Int)]), (36, .int .i64 (i1 : Int))]) (l := []) (by kernel_rfl) trivial ?_
          have hS16 := hS15.bring 1 rfl
          refine ge_set (b := b1) (j := 0) (cs := #[.int .i64 0, .int .i64 0]) (t := 26) (vs := [.int .i64 5, .int .i64 (i1 : Int)]) hS16 (by kernel_rfl) rfl rfl fun w9 hS17 => ?_
          have hS18 : St w0 w9 [Own.blk b1 (.cells #[.int .i64 5, .int .i64 (i1 : Int)] 26 (0, 0)), Own.blk b2 (.cells #[.string e1.Name, .int .i64 e1.C, .int .i64 e1.T, .int .i64 e1.D, .int .i64 e1.J, .int .i64 e1.O, .int .i64 e1.P] 46 (0, 0))] := hS17
          refine ge_nil fun a hF => hK16 _ _ ?_ a hF
          have hS19 := hS18.takeN 0
          obtain rfl := Option.some.inj h
          exact we_ret fun a hF => hQ _ _ _ (Outs.out nofun (Exits.on ⟨rfl, (post_ret (rs := [.cell 2 26]) (ans := [.val (.int .i64 5), .val (.int .i64 (i1 : Int))]) (vs := [.agg #[.int .i64 5, .int .i64 (i1 : Int)]]) (l := [.loaded ⟨b1, 0, none⟩ (.int .i64 5), .loaded ⟨b1, 1, none⟩ (.int .i64 (i1 : Int))]) rfl (by kernel_rfl) ⟨hS18.cell 0 rfl rfl, hS18.cell 0 rfl rfl, trivial⟩ ⟨rfl, hS19⟩) a hF⟩))
        · rw [if_neg hc6] at h
          refine we_known (t := 35) (b := r2) (v := false) (by kernel_rfl) (Bool.eq_false_iff.2 hc6) ?_
          refine we_false (by kernel_rfl) ?_
          refine we_skip fun a hF => hK14 _ _ ?_ a hF
          refine we_seq fun K17 hK17 => ?_
          refine we_seq fun K18 hK18 => ?_
          refine we_region [(0, 0), (1, 1), (2, 0), (3, 0)] rfl ?_
          refine ge_batch [0] (ans := [.val (.string e1.Name), .val (.int .i64 e1.C), .val (.int .i64 e1.T), .val (.int .i64 e1.D), .val (.int .i64 e1.J), .val (.int .i64 e1.O), .val (.int .i64 e1.P)]) (vs := [(38, .agg #[.string e1.Name, .int .i64 e1.C, .int .i64 e1.T, .int .i64 e1.D, .int .i64 e1.J, .int .i64 e1.O, .int .i64 e1.P])]) (l := [.loaded ⟨b2, 0, none⟩ (.string e1.Name), .loaded ⟨b2, 1, none⟩ (.int .i64 e1.C), .loaded ⟨b2, 2, none⟩ (.int .i64 e1.T), .loaded ⟨b2, 3, none⟩ (.int .i64 e1.D), .loaded ⟨b2, 4, none⟩ (.int .i64 e1.J), .loaded ⟨b2, 5, none⟩ (.int .i64 e1.O), .loaded ⟨b2, 6, none⟩ (.int .i64 e1.P)]) (by kernel_rfl) ⟨hS15.cell 0 rfl rfl, hS15.cell 0 rfl rfl, hS15.cell 0 rfl rfl, hS15.cell 0 rfl rfl, hS15.cell 0 rfl rfl, hS15.cell 0 rfl rfl, hS15.cell 0 rfl rfl, trivial⟩ ?_
          refine ge_call (d := some 39) (f := 64) (args := #[.agg #[.string e1.Name, .int .i64 e1.C, .int .i64 e1.T, .int .i64 e1.D, .int .i64 e1.J, .int .i64 e1.O, .int .i64 e1.P]]) (by kernel_rfl) (tasks_numbers_ok e1 _ _ rfl) ?_
          rintro _ w10 ⟨v1, rfl, hS20⟩
          refine ⟨_, rfl, hS20.below, ?_⟩
          have hS21 := hS15.call hS20
          obtain ⟨Z1, cz1, rfl⟩ := hS21.open 0 rfl
          refine ge_batch [2, 3] (ans := []) (vs := [(41, .int .i64 0), (40, .int .i64 ((tasks_numbers.f e1).length : Int))]) (l := []) (by kernel_rfl) trivial ?_
          refine ge_nil fun a hF => hK18 _ _ ?_ a hF
          refine we_block ?_
          have hS22 := hS21.bring 2 rfl
          have hS23 := hS22.bring 2 rfl
          rcases hq6 : iter (tasks_Check.r2 i1 e1) K 0 with _ | (_ | rr1)
          · rw [hq6] at h; cases h
          · rw [hq6] at h
            simp only [] at h
            refine we_iter (A := tasks_Check.A2 K w0 l0 A0 c0 hR0 hL0 b1 i1 hc3 e1 hx2 b2 r1 hc4 hc5 r2 hc6 Z1 cz1) (B := tasks_Check.B2 K w0 l0 A0 c0 hR0 hL0 b1 i1 hc3 e1 hx2 b2 r1 hc4 hc5 r2 hc6 Z1 cz1) hq6 (fun a hF => ⟨hS23, hF.weaken ⟨by kernel_rfl, by kernel_rfl, by kernel_rfl, by kernel_rfl, by kernel_rfl, by kernel_rfl, by kernel_rfl, by kernel_rfl, by kernel_rfl, by kernel_rfl, trivial⟩⟩) (fun s o hf a w hA Q hQ => tasks_Check_r2 K w0 l0 A0 c0 hR0 hL0 b1 i1 hc3 e1 hx2 b2 r1 hc4 hc5 r2 hc6 Z1 cz1 s o hf a w hA Q hQ) ?_
            rintro _ a w14 _ ⟨rfl, hS40, hF⟩
            replace hS40 : St w0 w14 [Own.blk b2 (.cells #[.string e1.Name, .int .i64 e1.C, .int .i64 e1.T, .int .i64 e1.D, .int .i64 e1.J, .int .i64 e1.O, .int .i64 e1.P] 46 (0, 0)), Own.blk b1 (.cells #[.int .i64 0, .int .i64 0] 26 (0, 0))] := hS40
            refine hK17 [(0, .slice A0 l0.length c0), (2, .pointer (some ⟨b1, 0, none⟩)), (3, .int .i64 (i1 : Int)), (4, .pointer (some ⟨b2, 0, none⟩)), (18, .slice A0 l0.length c0), (19, .int .i64 (l0.length : Int)), (20, .int .i64 (i1 : Int))] w14 ?_ a hF
            refine we_seq fun K27 hK27 => ?_
            refine we_region [(0, 0), (1, 0), (2, 0), (3, 0), (4, 0)] rfl ?_
            refine ge_batch [0, 1, 2, 3, 4] (ans := [.val (.int .i64 e1.C), .val (.int .i64 e1.D)]) (vs := [(66, .bool (decide (e1.C > e1.D))), (65, .int .i64 e1.D), (64, .pointer (some ⟨b2, 3, none⟩)), (63, .int .i64 e1.C), (62, .pointer (some ⟨b2, 1, none⟩))]) (l := [.loaded ⟨b2, 1, none⟩ (.int .i64 e1.C), .loaded ⟨b2, 3, none⟩ (.int .i64 e1.D)]) (by kernel_rfl) ⟨hS40.cell 0 rfl rfl, hS40.cell 0 rfl rfl, trivial⟩ ?_
            refine ge_nil fun a hF => hK27 _ _ ?_ a hF
            by_cases hc10 : e1.C > e1.D
            · rw [if_pos hc10] at h
              refine we_known (t := 66) (b := decide (e1.C > e1.D)) (v := true) (by kernel_rfl) (decide_eq_true hc10) ?_
              refine we_true (by kernel_rfl) ?_
              refine we_seq fun K28 hK28 => ?_
              refine we_region [(0, 0), (1, 0), (2, 2)] rfl ?_
              refine ge_batch [0, 1] (ans := []) (vs := [(68, .agg #[.int .i64 12, .int .i64 (i1 : Int)]), (67, .int .i64 (i1 : Int))]) (l := []) (by kernel_rfl) trivial ?_
              have hS41 := hS40.bring 1 rfl
              refine ge_set (b := b1) (j := 0) (cs := #[.int .i64 0, .int .i64 0]) (t := 26) (vs := [.int .i64 12, .int .i64 (i1 : Int)]) hS41 (by kernel_rfl) rfl rfl fun w15 hS42 => ?_
              have hS43 : St w0 w15 [Own.blk b1 (.cells #[.int .i64 12, .int .i64 (i1 : Int)] 26 (0, 0)), Own.blk b2 (.cells #[.string e1.Name, .int .i64 e1.C, .int .i64 e1.T, .int .i64 e1.D, .int .i64 e1.J, .int .i64 e1.O, .int .i64 e1.P] 46 (0, 0))] := hS42
              refine ge_nil fun a hF => hK28 _ _ ?_ a hF
              have hS44 := hS43.takeN 0
              obtain rfl := Option.some.inj h
              exact we_ret fun a hF => hQ _ _ _ (Outs.out nofun (Exits.on ⟨rfl, (post_ret (rs := [.cell 2 26]) (ans := [.val (.int .i64 12), .val (.int .i64 (i1 : Int))]) (vs := [.agg #[.int .i64 12, .int .i64 (i1 : Int)]]) (l := [.loaded ⟨b1, 0, none⟩ (.int .i64 12), .loaded ⟨b1, 1, none⟩ (.int .i64 (i1 : Int))]) rfl (by kernel_rfl) ⟨hS43.cell 0 rfl rfl, hS43.cell 0 rfl rfl, trivial⟩ ⟨rfl, hS44⟩) a hF⟩))
            · rw [if_neg hc10] at h
              refine we_known (t := 66) (b := decide (e1.C > e1.D)) (v := false) (by kernel_rfl) (decide_eq_false hc10) ?_
              refine we_false (by kernel_rfl) ?_
              refine we_skip fun a hF => hK10 _ _ ?_ a hF
              refine we_region [(0, 0), (1, 0)] rfl ?_
              refine ge_addn (d := 69) (ty := 3) (x := (.tmp 20)) (y := (.const (.int .i64 1))) (t := 3) (t2 := 3) (k := .i64) (m := i1) (by kernel_rfl) (by kernel_rfl) (by kernel_rfl) (by have h0 := hR0.small; omega) ?_
              refine ge_batch [1] (ans := []) (vs := [(20, .int .i64 ((i1 + 1 : Nat) : Int))]) (l := []) (by kernel_rfl) trivial ?_
              have hS45 := hS40.bring 1 rfl
              have hS46 := hS45.takeN 1
              obtain rfl := Option.some.inj h
              exact ge_nil fun a hF => hQ _ _ _ (Outs.again ⟨hS46, hF.weaken ⟨by kernel_rfl, by kernel_rfl, by kernel_rfl, by kernel_rfl, by kernel_rfl, trivial⟩⟩)
          · rw [hq6] at h
            simp only [] at h
            refine we_iter (A := tasks_Check.A2 K w0 l0 A0 c0 hR0 hL0 b1 i1 hc3 e1 hx2 b2 r1 hc4 hc5 r2 hc6 Z1 cz1) (B := tasks_Check.B2 K w0 l0 A0 c0 hR0 hL0 b1 i1 hc3 e1 hx2 b2 r1 hc4 hc5 r2 hc6 Z1 cz1) hq6 (fun a hF => ⟨hS23, hF.weaken ⟨by kernel_rfl, by kernel_rfl, by kernel_rfl, by kernel_rfl, by kernel_rfl, by kernel_rfl, by kernel_rfl, by kernel_rfl, by kernel_rfl, by kernel_rfl, trivial⟩⟩) (fun s o hf a w hA Q hQ => tasks_Check_r2 K w0 l0 A0 c0 hR0 hL0 b1 i1 hc3 e1 hx2 b2 r1 hc4 hc5 r2 hc6 Z1 cz1 s o hf a w hA Q hQ) ?_
            rintro _ a w1 _ ⟨rfl, hb⟩
            obtain rfl := Option.some.inj h
            exact hQ _ _ _ (Outs.out nofun (Exits.on ⟨rfl, hb⟩))
      · rw [if_neg hc5] at h
        cases h
    · rw [if_neg hc4] at h
      refine we_known (t := 28) (b := !r1) (v := true) (by kernel_rfl) (congrArg (fun z => !z) (Bool.eq_false_iff.2 hc4)) ?_
      refine we_true (by kernel_rfl) ?_
      refine we_seq fun K29 hK29 => ?_
      refine we_region [(0, 0), (1, 0), (2, 2)] rfl ?_
      refine ge_batch [0, 1] (ans := []) (vs := [(30, .agg #[.int .i64 4, .int .i64 (i1 : Int)]), (29, .int .i64 (i1 : Int))]) (l := []) (by kernel_rfl) trivial ?_
      have hS47 := hS13.bring 1 rfl
      refine ge_set (b := b1) (j := 0) (cs := #[.int .i64 0, .int .i64 0]) (t := 26) (vs := [.int .i64 4, .int .i64 (i1 : Int)]) hS47 (by kernel_rfl) rfl rfl fun w16 hS48 => ?_
      have hS49 : St w0 w16 [Own.blk b1 (.cells #[.int .i64 4, .int .i64 (i1 : Int)] 26 (0, 0)), Own.blk b2 (.cells #[.string e1.Name, .int .i64 e1.C, .int .i64 e1.T, .int .i64 e1.D, .int .i64 e1.J, .int .i64 e1.O, .int .i64 e1.P] 46 (0, 0))] := hS48
      refine ge_nil fun a hF => hK29 _ _ ?_ a hF
      have hS50 := hS49.takeN 0
      obtain rfl := Option.some.inj h
      exact we_ret fun a hF => hQ _ _ _ (Outs.out nofun (Exits.on ⟨rfl, (post_ret (rs := [.cell 2 26]) (ans := [.val (.int .i64 4), .val (.int .i64 (i1 : Int))]) (vs := [.agg #[.int .i64 4, .int .i64 (i1 : Int)]]) (l := [.loaded ⟨b1, 0, none⟩ (.int .i64 4), .loaded ⟨b1, 1, none⟩ (.int .i64 (i1 : Int))]) rfl (by kernel_rfl) ⟨hS49.cell 0 rfl rfl, hS49.cell 0 rfl rfl, trivial⟩ ⟨rfl, hS50⟩) a hF⟩))
  · rw [if_neg hc3] at h
    refine we_known (t := 21) (b := decide ((i1 : Int) < (l0.length : Int))) (v := false) (by kernel_rfl) (decide_eq_false hc3) ?_
    refine we_false (by kernel_rfl) ?_
    obtain rfl := Option.some.inj h
    exact we_exit fun a hF => hQ _ _ _ (Outs.out nofun (Exits.here ⟨hS, hF.weaken ⟨by kernel_rfl, trivial⟩⟩))
theorem tasks_Check_ok (K : Nat) (l0 : List STask) (A0 : Option Addr) (c0 : Nat) (w0 : World) (hR0 : RdL w0 A0 l0) (hL0 : l0.length ≤ c0) (r : SFault) (h : tasks_Check.f K l0 = some r) :
    Calls Tryd.prog 19 #[.slice A0 l0.length c0] w0 (tasks_Check.Post w0 r) := by
  have hS := St.start w0
  unfold tasks_Check.f at h
  refine calls_enter (n := 71) (args := [.slice A0 l0.length c0]) (fn := Tryd.f19) rfl rfl rfl rfl ?_
  show WE _ _ _ _ [(0, .slice A0 l0.length c0)] _
  refine we_seq fun K1 hK1 => ?_
  refine we_region [(0, 1)] rfl ?_
  refine ge_new (d := some 2) (o := .cells #[.int .i64 0, .int .i64 0] 26) (v := fun b => .pointer (some ⟨b, 0, none⟩)) hS (fun b => by kernel_rfl) fun b1 w1 hx1 hS1 => ?_
  refine ge_nil fun a hF => hK1 _ _ ?_ a hF
  refine we_seq fun K2 hK2 => ?_
  rcases hq1 : tasks_Check.p0 l0 with _ | (_ | rr3)
  · rw [hq1] at h; cases h
  · rw [hq1] at h
    simp only [] at h
    refine we_keep (e' := [(0, .slice A0 l0.length c0), (2, .pointer (some ⟨b1, 0, none⟩))]) ⟨by kernel_rfl, by kernel_rfl, trivial⟩ (tasks_Check_p0 K w0 l0 A0 c0 hR0 hL0 b1 _ hq1 _ hS1 _ ?_)
    rintro _ a w4 ⟨rfl, hS8, hF⟩
    replace hS8 : St w0 w4 [Own.blk b1 (.cells #[.int .i64 0, .int .i64 0] 26 (0, 0))] := hS8
    refine hK2 [(0, .slice A0 l0.length c0), (2, .pointer (some ⟨b1, 0, none⟩))] w4 ?_ a hF
    refine we_seq fun K6 hK6 => ?_
    refine we_seq fun K7 hK7 => ?_
    refine we_region [(0, 0), (1, 0), (2, 0)] rfl ?_
    refine ge_batch [0, 1, 2] (ans := []) (vs := [(20, .int .i64 0), (19, .int .i64 (l0.length : Int)), (18, .slice A0 l0.length c0)]) (l := []) (by kernel_rfl) trivial ?_
    refine ge_nil fun a hF => hK7 _ _ ?_ a hF
    refine we_block ?_
    rcases hq7 : iter (tasks_Check.r1 K l0) K 0 with _ | (_ | rr2)
    · rw [hq7] at h; cases h
    · rw [hq7] at h
      simp only [] at h
      refine we_iter (A := tasks_Check.A1 K w0 l0 A0 c0 hR0 hL0 b1) (B := tasks_Check.B1 K w0 l0 A0 c0 hR0 hL0 b1) hq7 (fun a hF => ⟨hS8, hF.weaken ⟨by kernel_rfl, by kernel_rfl, by kernel_rfl, by kernel_rfl, by kernel_rfl, trivial⟩⟩) (fun s o hf a w hA Q hQ => tasks_Check_r1 K w0 l0 A0 c0 hR0 hL0 b1 s o hf a w hA Q hQ) ?_
      rintro _ a w17 _ ⟨rfl, hS51, hF⟩
      replace hS51 : St w0 w17 [Own.blk b1 (.cells #[.int .i64 0, .int .i64 0] 26 (0, 0))] := hS51
      refine hK6 [(2, .pointer (some ⟨b1, 0, none⟩))] w17 ?_ a hF
      refine we_seq fun K30 hK30 => ?_
      refine we_region [(0, 0), (1, 2)] rfl ?_
      refine ge_batch [0] (ans := []) (vs := [(70, .agg #[.int .i64 0, .int .i64 0])]) (l := []) (by kernel_rfl) trivial ?_
      refine ge_set (b := b1) (j := 0) (cs := #[.int .i64 0, .int .i64 0]) (t := 26) (vs := [.int .i64 0, .int .i64 0]) hS51 (by kernel_rfl) rfl rfl fun w18 hS52 => ?_
      have hS53 : St w0 w18 [Own.blk b1 (.cells #[.int .i64 0, .int .i64 0] 26 (0, 0))] := hS52
      refine ge_nil fun a hF => hK30 _ _ ?_ a hF
      have hS54 := hS53.takeN 0
      obtain rfl := Option.some.inj h
      exact we_ret (post_ret (rs := [.cell 2 26]) (ans := [.val (.int .i64 0), .val (.int .i64 0)]) (vs := [.agg #[.int .i64 0, .int .i64 0]]) (l := [.loaded ⟨b1, 0, none⟩ (.int .i64 0), .loaded ⟨b1, 1, none⟩ (.int .i64 0)]) rfl (by kernel_rfl) ⟨hS53.cell 0 rfl rfl, hS53.cell 0 rfl rfl, trivial⟩ ⟨rfl, hS54⟩)
    · rw [hq7] at h
      simp only [] at h
      refine we_iter (A := tasks_Check.A1 K w0 l0 A0 c0 hR0 hL0 b1) (B := tasks_Check.B1 K w0 l0 A0 c0 hR0 hL0 b1) hq7 (fun a hF => ⟨hS8, hF.weaken ⟨by kernel_rfl, by kernel_rfl, by kernel_rfl, by kernel_rfl, by kernel_rfl, trivial⟩⟩) (fun s o hf a w hA Q hQ => tasks_Check_r1 K w0 l0 A0 c0 hR0 hL0 b1 s o hf a w hA Q hQ) ?_
      rintro _ a w1 _ ⟨rfl, hb⟩
      obtain rfl := Option.some.inj h
      exact hb
  · rw [hq1] at h
    simp only [] at h
    refine we_keep (e' := [(0, .slice A0 l0.length c0), (2, .pointer (some ⟨b1, 0, none⟩))]) ⟨by kernel_rfl, by kernel_rfl, trivial⟩ (tasks_Check_p0 K w0 l0 A0 c0 hR0 hL0 b1 _ hq1 _ hS1 _ ?_)
    rintro _ a w1 ⟨_, rfl, hb⟩
    obtain rfl := Option.some.inj h
    exact hb

structure SCome where
  Task : Int
  At : Int
def SCome.eqb (x y : SCome) : Bool := ((x.Task == y.Task) && ((x.At == y.At) && true))
instance : Ok SCome := ⟨fun x => Ok.ok x.Task ∧ Ok.ok x.At ∧ True⟩
instance : Flat SCome := ⟨2, fun x => [.int .i64 x.Task, .int .i64 x.At], fun _ => rfl, fun _ => rfl, by decide⟩

/-! punctual/tasks.Legal -/
abbrev tasks_Legal.Post (w0 : World) (r : SFault) (e : Ending) (w : World) : Prop := e = .returned (.agg #[.int .i64 r.Code, .int .i64 r.At]) ∧ St w0 w []
def tasks_Legal.p1 (l0 : List STask) (l1 : List SCome) (i1 : Nat) (m1 : List Int) (e1 : SCome) : Option (Unit ⊕ SFault) :=
    if e1.Task < 0 then
      some (.inr (⟨4, (i1 : Int)⟩ : SFault))
    else
      if e1.Task ≥ (l0.length : Int) then
        some (.inr (⟨4, (i1 : Int)⟩ : SFault))
      else
        if e1.At < 0 then
          some (.inr (⟨3, (i1 : Int)⟩ : SFault))
        else
          if e1.At > 20000 then
            some (.inr (⟨3, (i1 : Int)⟩ : SFault))
          else
            if (i1 : Int) > 0 then
              if 0 ≤ (IntKind.i64.wrap ((i1 : Int) - 1)) then
                match l1[(IntKind.i64.wrap ((i1 : Int) - 1)).toNat]? with
                | none => none
                | some e2 =>
                  if e1.At < e2.At then
                    some (.inr (⟨12, (i1 : Int)⟩ : SFault))
                  else
                    if 0 ≤ e1.Task then
                      match m1[(e1.Task).toNat]? with
                      | none => none
                      | some e3 =>
                        if e1.At < e3 then
                          some (.inr (⟨12, (i1 : Int)⟩ : SFault))
                        else
                          some (.inl ())
                    else
                      none
              else
                none
            else
              if 0 ≤ e1.Task then
                match m1[(e1.Task).toNat]? with
                | none => none
                | some e4 =>
                  if e1.At < e4 then
                    some (.inr (⟨12, (i1 : Int)⟩ : SFault))
                  else
                    some (.inl ())
              else
                none
def tasks_Legal.r0 (l0 : List STask) (l1 : List SCome) : Nat × (List Int) → Option ((Nat × (List Int)) ⊕ (Unit ⊕ SFault))
  | (i1, m1) =>
    if (i1 : Int) < (l1.length : Int) then
      match l1[i1]? with
      | none => none
      | some e1 =>
        match tasks_Legal.p1 l0 l1 i1 m1 e1 with
        | none => none
        | some (.inl _) =>
          if 0 ≤ e1.Task then
            match l0[(e1.Task).toNat]? with
            | none => none
            | some e5 =>
              match m1[(e1.Task).toNat]? with
              | none => none
              | some e6 =>
                some (.inl ((i1 + 1), (m1.set ((e1.Task).toNat) (IntKind.i64.wrap (e1.At + e5.T)))))
          else
            none
        | some (.inr rr1) =>
          some (.inr (.inr rr1))
    else
      some (.inr (.inl ()))
def tasks_Legal.f (K : Nat) (l0 : List STask) (l1 : List SCome) : Option SFault :=
  match tasks_Check.f K l0 with
  | none => none
  | some r1 =>
    if r1.Code = 0 then
      if (l1.length : Int) > 4000 then
        some (⟨2, 0⟩ : SFault)
      else
        if l0.length ≤ 17592186044416 then
          match iter (tasks_Legal.r0 l0 l1) K (0, (List.replicate l0.length (0 : Int))) with
          | none => none
          | some (.inl _) =>
            some (⟨0, 0⟩ : SFault)
          | some (.inr rr2) =>
            some rr2
        else
          none
    else
      some r1
abbrev tasks_Legal.A1 (K : Nat) (w0 : World) (l0 : List STask) (A0 : Option Addr) (c0 : Nat) (l1 : List SCome) (A1 : Option Addr) (c1 : Nat) (hR0 : RdL w0 A0 l0) (hL0 : l0.length ≤ c0) (hR1 : RdL w0 A1 l1) (hL1 : l1.length ≤ c1) (b1 : Nat) (r1 : SFault) (b2 : Nat) (hc1 : r1.Code = 0) (hc2 : ¬ ((l1.length : Int) > 4000)) (hc3 : l0.length ≤ 17592186044416) (Z1 : Option Addr) (cz1 : Nat) (i1 : Nat) (m1 : List Int) (hc4 : (i1 : Int) < (l1.length : Int)) (e1 : SCome) (hx3 : l1[i1]? = some e1) (b3 : Nat) : Unit → Act → World → Prop := fun (s : Unit) a w => St w0 w [Own.blk b3 (.cells #[.int .i64 e1.Task, .int .i64 e1.At] 53 (0, 0)), Own.blk b1 (.cells #[.int .i64 0, .int .i64 0] 26 (0, 0)), Own.of (.slice Z1 m1.length cz1) 3 m1] ∧ Frm 94 a [(0, .slice A0 l0.length c0), (1, .slice A1 l1.length c1), (4, .pointer (some ⟨b1, 0, none⟩)), (6, (.slice Z1 m1.length cz1)), (8, .pointer (some ⟨b3, 0, none⟩)), (22, .slice A1 l1.length c1), (23, .int .i64 (l1.length : Int)), (24, .int .i64 (i1 : Int))]
abbrev tasks_Legal.B1 (K : Nat) (w0 : World) (l0 : List STask) (A0 : Option Addr) (c0 : Nat) (l1 : List SCome) (A1 : Option Addr) (c1 : Nat) (hR0 : RdL w0 A0 l0) (hL0 : l0.length ≤ c0) (hR1 : RdL w0 A1 l1) (hL1 : l1.length ≤ c1) (b1 : Nat) (r1 : SFault) (b2 : Nat) (hc1 : r1.Code = 0) (hc2 : ¬ ((l1.length : Int) > 4000)) (hc3 : l0.length ≤ 17592186044416) (Z1 : Option Addr) (cz1 : Nat) (i1 : Nat) (m1 : List Int) (hc4 : (i1 : Int) < (l1.length : Int)) (e1 : SCome) (hx3 : l1[i1]? = some e1) (b3 : Nat) : SFault → Exit → Act → World → Prop := Rets Tryd.prog Tryd.f48 (tasks_Legal.Post w0)
theorem tasks_Legal_p1 (K : Nat) (w0 : World) (l0 : List STask) (A0 : Option Addr) (c0 : Nat) (l1 : List SCome) (A1 : Option Addr) (c1 : Nat) (hR0 : RdL w0 A0 l0) (hL0 : l0.length ≤ c0) (hR1 : RdL w0 A1 l1) (hL1 : l1.length ≤ c1) (b1 : Nat) (r1 : SFault) (b2 : Nat) (hc1 : r1.Code = 0) (hc2 : ¬ ((l1.length : Int) > 4000)) (hc3 : l0.length ≤ 17592186044416) (Z1 : Option Addr) (cz1 : Nat) (i1 : Nat) (m1 : List Int) (hc4 : (i1 : Int) < (l1.length : Int)) (e1 : SCome) (hx3 : l1[i1]? = some e1) (b3 : Nat) (o : Unit ⊕ SFault) (h : tasks_Legal.p1 l0 l1 i1 m1 e1 = some o) (w : World) (hS : St w0 w [Own.blk b3 (.cells #[.int .i64 e1.Task, .int .i64 e1.At] 53 (0, 0)), Own.blk b1 (.cells #[.int .i64 0, .int .i64 0] 26 (0, 0)), Own.of (.slice Z1 m1.length cz1) 3 m1]) (Q : Exit → Act → World → Prop) (hQ : ∀ x a w, Outs (tasks_Legal.A1 K w0 l0 A0 c0 l1 A1 c1 hR0 hL0 hR1 hL1 b1 r1 b2 hc1 hc2 hc3 Z1 cz1 i1 m1 hc4 e1 hx3 b3) (tasks_Legal.B1 K w0 l0 A0 c0 l1 A1 c1 hR0 hL0 hR1 hL1 b1 r1 b2 hc1 hc2 hc3 Z1 cz1 i1 m1 hc4 e1 hx3 b3) o x a w → Q x a w) : WE Tryd.prog 94 (subF Tryd.f48 [1, 1, 1, 1, 0, 1, 0, 0, 1, 1, 0, 0, 1, 0]) Q [(0, .slice A0 l0.length c0), (1, .slice A1 l1.length c1), (4, .pointer (some ⟨b1, 0, none⟩)), (6, (.slice Z1 m1.length cz1)), (7, .int .i64 (i1 : Int)), (8, .pointer (some ⟨b3, 0, none⟩)), (22, .slice A1 l1.length c1), (23, .int .i64 (l1.length : Int)), (24, .int .i64 (i1 : Int)), (25, .bool true), (26, .int .i64 (i1 : Int)), (27, .pointer (some ⟨blkOf A1, offOf A1 + i1 * 2, none⟩)), (28, .agg #[.int .i64 e1.Task, .int .i64 e1.At])] w := by
  simp only [tasks_Legal.p1] at h
  refine we_block ?_
  refine we_seq fun K16 hK16 => ?_
  refine we_region [(0, 0), (1, 0), (2, 0), (3, 0), (4, 0), (5, 0), (6, 0), (7, 0), (8, 0), (9, 0), (10, 0)] rfl ?_
  refine ge_batch [0, 1, 2, 3] (ans := [.val (.int .i64 e1.Task)]) (vs := [(33, .bool (decide (e1.Task < 0))), (32, .bool (decide (e1.Task < 0))), (31, .int .i64 e1.Task), (30, .pointer (some ⟨b3, 0, none⟩))]) (l := [.loaded ⟨b3, 0, none⟩ (.int .i64 e1.Task)]) (by kernel_rfl) ⟨hS.cell 0 rfl rfl, trivial⟩ ?_
  by_cases hc5 : e1.Task < 0
  · rw [if_pos hc5] at h
    refine ge_known (t := 33) (b := decide (e1.Task < 0)) (c := true) (by kernel_rfl) (decide_eq_true hc5) ?_
    refine ge_batch [4, 5, 6, 7, 8, 9, 10] (ans := []) (vs := [(29, .bool true), (39, .bool true), (38, undef), (37, undef), (36, undef), (35, undef), (34, undef)]) (l := []) (by kernel_rfl) trivial ?_
    refine ge_nil fun a hF => hK16 _ _ ?_ a hF
    refine we_true (by kernel_rfl) ?_
    refine we_seq fun K17 hK17 => ?_
    refine we_region [(0, 0), (1, 0), (2, 2)] rfl ?_
    refine ge_batch [0, 1] (ans := []) (vs := [(41, .agg #[.int .i64 4, .int .i64 (i1 : Int)]), (40, .int .i64 (i1 : Int))]) (l := []) (by kernel_rfl) trivial ?_
    have hS17 := hS.bring 1 rfl
    refine ge_set (b := b1) (j := 0) (cs := #[.int .i64 0, .int .i64 0]) (t := 26) (vs := [.int .i64 4, .int .i64 (i1 : Int)]) hS17 (by kernel_rfl) rfl rfl fun w9 hS18 => ?_
    have hS19 : St w0 w9 [Own.blk b1 (.cells #[.int .i64 4, .int .i64 (i1 : Int)] 26 (0, 0)), Own.blk b3 (.cells #[.int .i64 e1.Task, .int .i64 e1.At] 53 (0, 0)), Own.of (.slice Z1 m1.length cz1) 3 m1] := hS18
    refine ge_nil fun a hF => hK17 _ _ ?_ a hF
    have hS20 := hS19.takeN 0
    obtain rfl := Option.some.inj h
    exact we_ret fun a hF => hQ _ _ _ (Outs.out nofun ⟨rfl, (post_ret (rs := [.cell 4 26]) (ans := [.val (.int .i64 4), .val (.int .i64 (i1 : Int))]) (vs := [.agg #[.int .i64 4, .int .i64 (i1 : Int)]]) (l := [.loaded ⟨b1, 0, none⟩ (.int .i64 4), .loaded ⟨b1, 1, none⟩ (.int .i64 (i1 : Int))]) rfl (by kernel_rfl) ⟨hS19.cell 0 rfl rfl, hS19.cell 0 rfl rfl, trivial⟩ ⟨rfl, hS20⟩) a hF⟩)
  · rw [if_neg hc5] at h
    refine ge_known (t := 33) (b := decide (e1.Task < 0)) (c := false) (by kernel_rfl) (decide_eq_false hc5) ?_
    refine ge_batch [4, 5, 6, 7, 8, 9, 10] (ans := [.val (.int .i64 e1.Task)]) (vs := [(29, .bool (decide (e1.Task ≥ (l0.length : Int)))), (39, .bool (decide (e1.Task ≥ (l0.length : Int)))), (38, .bool (decide (e1.Task ≥ (l0.length : Int)))), (37, .int .i64 (l0.length : Int)), (36, .slice A0 l0.length c0), (35, .int .i64 e1.Task), (34, .pointer (some ⟨b3, 0, none⟩))]) (l := [.loaded ⟨b3, 0, none⟩ (.int .i64 e1.Task)]) (by kernel_rfl) ⟨hS.cell 0 rfl rfl, trivial⟩ ?_
    refine ge_nil fun a hF => hK16 _ _ ?_ a hF
    by_cases hc6 : e1.Task ≥ (l0.length : Int)
    · rw [if_pos hc6] at h
      refine we_known (t := 29) (b := decide (e1.Task ≥ (l0.length : Int))) (v := true) (by kernel_rfl) (decide_eq_true hc6) ?_
      refine we_true (by kernel_rfl) ?_
      refine we_seq fun K18 hK18 => ?_
      refine we_region [(0, 0), (1, 0), (2, 2)] rfl ?_
      refine ge_batch [0, 1] (ans := []) (vs := [(41, .agg #[.int .i64 4, .int .i64 (i1 : Int)]), (40, .int .i64 (i1 : Int))]) (l := []) (by kernel_rfl) trivial ?_
      have hS21 := hS.bring 1 rfl
      refine ge_set (b := b1) (j := 0) (cs := #[.int .i64 0, .int .i64 0]) (t := 26) (vs := [.int .i64 4, .int .i64 (i1 : Int)]) hS21 (by kernel_rfl) rfl rfl fun w10 hS22 => ?_
      have hS23 : St w0 w10 [Own.blk b1 (.cells #[.int .i64 4, .int .i64 (i1 : Int)] 26 (0, 0)), Own.blk b3 (.cells #[.int .i64 e1.Task, .int .i64 e1.At] 53 (0, 0)), Own.of (.slice Z1 m1.length cz1) 3 m1] := hS22
      refine ge_nil fun a hF => hK18 _ _ ?_ a hF
      have hS24 := hS23.takeN 0
      obtain rfl := Option.some.inj h
      exact we_ret fun a hF => hQ _ _ _ (Outs.out nofun ⟨rfl, (post_ret (rs := [.cell 4 26]) (ans := [.val (.int .i64 4), .val (.int .i64 (i1 : Int))]) (vs := [.agg #[.int .i64 4, .int .i64 (i1 : Int)]]) (l := [.loaded ⟨b1, 0, none⟩ (.int .i64 4), .loaded ⟨b1, 1, none⟩ (.int .i64 (i1 : Int))]) rfl (by kernel_rfl) ⟨hS23.cell 0 rfl rfl, hS23.cell 0 rfl rfl, trivial⟩ ⟨rfl, hS24⟩) a hF⟩)
    · rw [if_neg hc6] at h
      refine we_known (t := 29) (b := decide (e1.Task ≥ (l0.length : Int))) (v := false) (by kernel_rfl) (decide_eq_false hc6) ?_
      refine we_false (by kernel_rfl) ?_
      refine we_seq fun K19 hK19 => ?_
      refine we_region [(0, 0), (1, 0), (2, 0), (3, 0), (4, 0), (5, 0), (6, 0), (7, 0), (8, 0)] rfl ?_
      refine ge_batch [0, 1, 2, 3] (ans := [.val (.int .i64 e1.At)]) (vs := [(46, .bool (decide (e1.At < 0))), (45, .bool (decide (e1.At < 0))), (44, .int .i64 e1.At), (43, .pointer (some ⟨b3, 1, none⟩))]) (l := [.loaded ⟨b3, 1, none⟩ (.int .i64 e1.At)]) (by kernel_rfl) ⟨hS.cell 0 rfl rfl, trivial⟩ ?_
      by_cases hc7 : e1.At < 0
      · rw [if_pos hc7] at h
        refine ge_known (t := 46) (b := decide (e1.At < 0)) (c := true) (by kernel_rfl) (decide_eq_true hc7) ?_
        refine ge_batch [4, 5, 6, 7, 8] (ans := []) (vs := [(42, .bool true), (50, .bool true), (49, undef), (48, undef), (47, undef)]) (l := []) (by kernel_rfl) trivial ?_
        refine ge_nil fun a hF => hK19 _ _ ?_ a hF
        refine we_true (by kernel_rfl) ?_
        refine we_seq fun K20 hK20 => ?_
        refine we_region [(0, 0), (1, 0), (2, 2)] rfl ?_
        refine ge_batch [0, 1] (ans := []) (vs := [(52, .agg #[.int .i64 3, .int .i64 (i1 : Int)]), (51, .int .i64 (i1 : Int))]) (l := []) (by kernel_rfl) trivial ?_
        have hS25 := hS.bring 1 rfl
        refine ge_set (b := b1) (j := 0) (cs := #[.int .i64 0, .int .i64 0]) (t := 26) (vs := [.int .i64 3, .int .i64 (i1 : Int)]) hS25 (by kernel_rfl) rfl rfl fun w11 hS26 => ?_
        have hS27 : St w0 w11 [Own.blk b1 (.cells #[.int .i64 3, .int .i64 (i1 : Int)] 26 (0, 0)), Own.blk b3 (.cells #[.int .i64 e1.Task, .int .i64 e1.At] 53 (0, 0)), Own.of (.slice Z1 m1.length cz1) 3 m1] := hS26
        refine ge_nil fun a hF => hK20 _ _ ?_ a hF
        have hS28 := hS27.takeN 0
        obtain rfl := Option.some.inj h
        exact we_ret fun a hF => hQ _ _ _ (Outs.out nofun ⟨rfl, (post_ret (rs := [.cell 4 26]) (ans := [.val (.int .i64 3), .val (.int .i64 (i1 : Int))]) (vs := [.agg #[.int .i64 3, .int .i64 (i1 : Int)]]) (l := [.loaded ⟨b1, 0, none⟩ (.int .i64 3), .loaded ⟨b1, 1, none⟩ (.int .i64 (i1 : Int))]) rfl (by kernel_rfl) ⟨hS27.cell 0 rfl rfl, hS27.cell 0 rfl rfl, trivial⟩ ⟨rfl, hS28⟩) a hF⟩)
      · rw [if_neg hc7] at h
        refine ge_known (t := 46) (b := decide (e1.At < 0)) (c := false) (by kernel_rfl) (decide_eq_false hc7) ?_
        refine ge_batch [4, 5, 6, 7, 8] (ans := [.val (.int .i64 e1.At)]) (vs := [(42, .bool (decide (e1.At > 20000))), (50, .bool (decide (e1.At > 20000))), (49, .bool (decide (e1.At > 20000))), (48, .int .i64 e1.At), (47, .pointer (some ⟨b3, 1, none⟩))]) (l := [.loaded ⟨b3, 1, none⟩ (.int .i64 e1.At)]) (by kernel_rfl) ⟨hS.cell 0 rfl rfl, trivial⟩ ?_
        refine ge_nil fun a hF => hK19 _ _ ?_ a hF
        by_cases hc8 : e1.At > 20000
        · rw [if_pos hc8] at h
          refine we_known (t := 42) (b := decide (e1.At > 20000)) (v := true) (by kernel_rfl) (decide_eq_true hc8) ?_
          refine we_true (by kernel_rfl) ?_
          refine we_seq fun K21 hK21 => ?_
          refine we_region [(0, 0), (1, 0), (2, 2)] rfl ?_
          refine ge_batch [0, 1] (ans := []) (vs := [(52, .agg #[.int .i64 3, .int .i64 (i1 : Int)]), (51, .int .i64 (i1 : Int))]) (l := []) (by kernel_rfl) trivial ?_
          have hS29 := hS.bring 1 rfl
          refine ge_set (b := b1) (j := 0) (cs := #[.int .i64 0, .int .i64 0]) (t := 26) (vs := [.int .i64 3, .int .i64 (i1 : Int)]) hS29 (by kernel_rfl) rfl rfl fun w12 hS30 => ?_
          have hS31 : St w0 w12 [Own.blk b1 (.cells #[.int .i64 3, .int .i64 (i1 : Int)] 26 (0, 0)), Own.blk b3 (.cells #[.int .i64 e1.Task, .int .i64 e1.At] 53 (0, 0)), Own.of (.slice Z1 m1.length cz1) 3 m1] := hS30
          refine ge_nil fun a hF => hK21 _ _ ?_ a hF
          have hS32 := hS31.takeN 0
          obtain rfl := Option.some.inj h
          exact we_ret fun a hF => hQ _ _ _ (Outs.out nofun ⟨rfl, (post_ret (rs := [.cell 4 26]) (ans := [.val (.int .i64 3), .val (.int .i64 (i1 : Int))]) (vs := [.agg #[.int .i64 3, .int .i64 (i1 : Int)]]) (l := [.loaded ⟨b1, 0, none⟩ (.int .i64 3), .loaded ⟨b1, 1, none⟩ (.int .i64 (i1 : Int))]) rfl (by kernel_rfl) ⟨hS31.cell 0 rfl rfl, hS31.cell 0 rfl rfl, trivial⟩ ⟨rfl, hS32⟩) a hF⟩)
        · rw [if_neg hc8] at h
          refine we_known (t := 42) (b := decide (e1.At > 20000)) (v := false) (by kernel_rfl) (decide_eq_false hc8) ?_
          refine we_false (by kernel_rfl) ?_
          refine we_seq fun K22 hK22 => ?_
          refine we_draws (by kernel_rfl) [(0, 0), (1, 0), (2, 0), (3, 0), (4, 0), (5, 0), (6, 0), (7, 0), (8, 0), (9, 0), (10, 0), (11, 0), (12, 0), (13, 0), (14, 0), (15, 0), (16, 0), (17, 0), (18, 0), (19, 0), (20, 0), (21, 0), (22, 0), (23, 0)] (by kernel_rfl) ?_
          have hS33 := hS.drew
          refine ge_batch [0, 1, 2] (ans := []) (vs := [(56, .bool (decide ((i1 : Int) > 0))), (55, .bool (decide ((i1 : Int) > 0))), (54, .int .i64 (i1 : Int))]) (l := []) (by kernel_rfl) trivial ?_
          by_cases hc9 : (i1 : Int) > 0
          · rw [if_pos hc9] at h
            refine ge_known (t := 56) (b := decide ((i1 : Int) > 0)) (c := true) (by kernel_rfl) (decide_eq_true hc9) ?_
            refine ge_batch [3, 4, 5, 6, 7] (ans := [.val (.int .i64 e1.At)]) (vs := [(61, .int .i64 (IntKind.i64.wrap ((i1 : Int) - 1))), (60, .int .i64 (i1 : Int)), (59, .slice A1 l1.length c1), (58, .int .i64 e1.At), (57, .pointer (some ⟨b3, 1, none⟩))]) (l := [.loaded ⟨b3, 1, none⟩ (.int .i64 e1.At)]) (by kernel_rfl) ⟨hS33.cell 0 rfl rfl, trivial⟩ ?_
            by_cases hc10 : 0 ≤ (IntKind.i64.wrap ((i1 : Int) - 1))
            · rw [if_pos hc10] at h
              rcases hx5 : l1[(IntKind.i64.wrap ((i1 : Int) - 1)).toNat]? with _ | e2
              · rw [hx5] at h; cases h
              rw [hx5] at h
              simp only [] at h
              refine ge_index (d := 62) (ty := 0) (t := 49) (el := 53) (sz := 2) (m := l1.length) (c := c1) (x := (.tmp 59)) (y := (.tmp 61)) (A := A1) (k' := .i64) (j := (IntKind.i64.wrap ((i1 : Int) - 1))) (jn := ((IntKind.i64.wrap ((i1 : Int) - 1)).toNat)) (b0 := blkOf A1) (o0 := offOf A1) (by kernel_rfl) (by kernel_rfl) (by kernel_rfl) (by kernel_rfl) (by kernel_rfl) ((hS33.rd hR1).eqSome (pos_of_get hx5)) (Int.toNat_of_nonneg hc10).symm (lt_of_get hx5) ?_
              refine ge_batch [9, 10, 11, 12, 13] (ans := [.val (.int .i64 e2.At)]) (vs := [(67, .bool (decide (e1.At < e2.At))), (66, .bool (decide (e1.At < e2.At))), (65, .bool (decide (e1.At < e2.At))), (64, .int .i64 e2.At), (63, .pointer (some ⟨blkOf A1, offOf A1 + (IntKind.i64.wrap ((i1 : Int) - 1)).toNat * 2 + 1, none⟩))]) (l := [.loaded ⟨blkOf A1, offOf A1 + ((IntKind.i64.wrap ((i1 : Int) - 1)).toNat) * 2 + 1, none⟩ (.int .i64 e2.At)]) (by kernel_rfl) ⟨RdL.cell (j := 1) (hS33.rd hR1) hx5 rfl, trivial⟩ ?_
              by_cases hc11 : e1.At < e2.At
              · rw [if_pos hc11] at h
                refine ge_known (t := 67) (b := decide (e1.At < e2.At)) (c := true) (by kernel_rfl) (decide_eq_true hc11) ?_
                refine ge_batch [14, 15, 16, 17, 18, 19, 20, 21, 22, 23] (ans := []) (vs := [(53, .bool true), (76, .bool true), (75, undef), (74, undef), (73, undef), (72, undef), (71, undef), (70, undef), (69, undef), (68, undef)]) (l := []) (by kernel_rfl) trivial ?_
                refine ge_nil fun a hF => hK22 _ _ ?_ a hF
                refine we_true (by kernel_rfl) ?_
                refine we_seq fun K23 hK23 => ?_
                refine we_region [(0, 0), (1, 0), (2, 2)] rfl ?_
                refine ge_batch [0, 1] (ans := []) (vs := [(78, .agg #[.int .i64 12, .int .i64 (i1 : Int)]), (77, .int .i64 (i1 : Int))]) (l := []) (by kernel_rfl) trivial ?_
                have hS34 := hS33.bring 1 rfl
                refine ge_set (b := b1) (j := 0) (cs := #[.int .i64 0, .int .i64 0]) (t := 26) (vs := [.int .i64 12, .int .i64 (i1 : Int)]) hS34 (by kernel_rfl) rfl rfl fun w13 hS35 => ?_
                have hS36 : St w0 w13 [Own.blk b1 (.cells #[.int .i64 12, .int .i64 (i1 : Int)] 26 (0, 0)), Own.blk b3 (.cells #[.int .i64 e1.Task, .int .i64 e1.At] 53 (0, 0)), Own.of (.slice Z1 m1.length cz1) 3 m1] := hS35
                refine ge_nil fun a hF => hK23 _ _ ?_ a hF
                have hS37 := hS36.takeN 0
                obtain rfl := Option.some.inj h
                exact we_ret fun a hF => hQ _ _ _ (Outs.out nofun ⟨rfl, (post_ret (rs := [.cell 4 26]) (ans := [.val (.int .i64 12), .val (.int .i64 (i1 : Int))]) (vs := [.agg #[.int .i64 12, .int .i64 (i1 : Int)]]) (l := [.loaded ⟨b1, 0, none⟩ (.int .i64 12), .loaded ⟨b1, 1, none⟩ (.int .i64 (i1 : Int))]) rfl (by kernel_rfl) ⟨hS36.cell 0 rfl rfl, hS36.cell 0 rfl rfl, trivial⟩ ⟨rfl, hS37⟩) a hF⟩)
              · rw [if_neg hc11] at h
                refine ge_known (t := 67) (b := decide (e1.At < e2.At)) (c := false) (by kernel_rfl) (decide_eq_false hc11) ?_
                refine ge_batch [14, 15, 16, 17, 18] (ans := [.val (.int .i64 e1.At), .val (.int .i64 e1.Task)]) (vs := [(72, .int .i64 e1.Task), (71, .pointer (some ⟨b3, 0, none⟩)), (70, (.slice Z1 m1.length cz1)), (69, .int .i64 e1.At), (68, .pointer (some ⟨b3, 1, none⟩))]) (l := [.loaded ⟨b3, 1, none⟩ (.int .i64 e1.At), .loaded ⟨b3, 0, none⟩ (.int .i64 e1.Task)]) (by kernel_rfl) ⟨hS33.cell 0 rfl rfl, hS33.cell 0 rfl rfl, trivial⟩ ?_
                by_cases hc12 : 0 ≤ e1.Task
                · rw [if_pos hc12] at h
                  rcases hx6 : m1[(e1.Task).toNat]? with _ | e3
                  · rw [hx6] at h; cases h
                  rw [hx6] at h
                  simp only [] at h
                  refine ge_index (d := 73) (ty := 0) (t := 23) (el := 3) (sz := 1) (m := m1.length) (c := cz1) (x := (.tmp 70)) (y := (.tmp 72)) (A := Z1) (k' := .i64) (j := e1.Task) (jn := ((e1.Task).toNat)) (b0 := blkOf Z1) (o0 := offOf Z1) (by kernel_rfl) (by kernel_rfl) (by kernel_rfl) (by kernel_rfl) (by kernel_rfl) ((hS33.rdAt 2 rfl).eqSome (pos_of_get hx6)) (Int.toNat_of_nonneg hc12).symm (lt_of_get hx6) ?_
                  refine ge_batch [20, 21, 22, 23] (ans := [.val (.int .i64 e3)]) (vs := [(53, .bool (decide (e1.At < e3))), (76, .bool (decide (e1.At < e3))), (75, .bool (decide (e1.At < e3))), (74, .int .i64 e3)]) (l := [.loaded ⟨blkOf Z1, offOf Z1 + ((e1.Task).toNat) * 1, none⟩ (.int .i64 e3)]) (by kernel_rfl) ⟨RdL.cell (j := 0) (hS33.rdAt 2 rfl) hx6 rfl, trivial⟩ ?_
                  refine ge_nil fun a hF => hK22 _ _ ?_ a hF
                  by_cases hc13 : e1.At < e3
                  · rw [if_pos hc13] at h
                    refine we_known (t := 53) (b := decide (e1.At < e3)) (v := true) (by kernel_rfl) (decide_eq_true hc13) ?_
                    refine we_true (by kernel_rfl) ?_
                    refine we_seq fun K24 hK24 => ?_
                    refine we_region [(0, 0), (1, 0), (2, 2)] rfl ?_
                    refine ge_batch [0, 1] (ans := []) (vs := [(78, .agg #[.int .i64 12, .int .i64 (i1 : Int)]), (77, .int .i64 (i1 : Int))]) (l := []) (by kernel_rfl) trivial ?_
                    have hS38 := hS33.bring 1 rfl
                    refine ge_set (b := b1) (j := 0) (cs := #[.int .i64 0, .int .i64 0]) (t := 26) (vs := [.int .i64 12, .int .i64 (i1 : Int)]) hS38 (by kernel_rfl) rfl rfl fun w14 hS39 => ?_
                    have hS40 : St w0 w14 [Own.blk b1 (.cells #[.int .i64 12, .int .i64 (i1 : Int)] 26 (0, 0)), Own.blk b3 (.cells #[.int .i64 e1.Task, .int .i64 e1.At] 53 (0, 0)), Own.of (.slice Z1 m1.length cz1) 3 m1] := hS39
                    refine ge_nil fun a hF => hK24 _ _ ?_ a hF
                    have hS41 := hS40.takeN 0
                    obtain rfl := Option.some.inj h
                    exact we_ret fun a hF => hQ _ _ _ (Outs.out nofun ⟨rfl, (post_ret (rs := [.cell 4 26]) (ans := [.val (.int .i64 12), .val (.int .i64 (i1 : Int))]) (vs := [.agg #[.int .i64 12, .int .i64 (i1 : Int)]]) (l := [.loaded ⟨b1, 0, none⟩ (.int .i64 12), .loaded ⟨b1, 1, none⟩ (.int .i64 (i1 : Int))]) rfl (by kernel_rfl) ⟨hS40.cell 0 rfl rfl, hS40.cell 0 rfl rfl, trivial⟩ ⟨rfl, hS41⟩) a hF⟩)
                  · rw [if_neg hc13] at h
                    refine we_known (t := 53) (b := decide (e1.At < e3)) (v := false) (by kernel_rfl) (decide_eq_false hc13) ?_
                    refine we_false (by kernel_rfl) ?_
                    have hS42 := hS33.bring 2 rfl
                    have hS43 := hS42.bring 2 rfl
                    have hS44 := hS43.bring 2 rfl
                    obtain rfl := Option.some.inj h
                    exact we_skip fun a hF => hQ _ _ _ (Outs.again ⟨hS44, hF.weaken ⟨by kernel_rfl, by kernel_rfl, by kernel_rfl, by kernel_rfl, by kernel_rfl, by kernel_rfl, by kernel_rfl, by kernel_rfl, trivial⟩⟩)
                · rw [if_neg hc12] at h
                  cases h
            · rw [if_neg hc10] at h
              cases h
          · rw [if_neg hc9] at h
            refine ge_known (t := 56) (b := decide ((i1 : Int) > 0)) (c := false) (by kernel_rfl) (decide_eq_false hc9) ?_
            refine ge_batch [3, 4, 5, 6, 7, 8, 9, 10, 11, 12, 13, 14, 15, 16, 17, 18] (ans := [.val (.int .i64 e1.At), .val (.int .i64 e1.Task)]) (vs := [(72, .int .i64 e1.Task), (71, .pointer (some ⟨b3, 0, none⟩)), (70, (.slice Z1 m1.length cz1)), (69, .int .i64 e1.At), (68, .pointer (some ⟨b3, 1, none⟩)), (67, .bool false), (66, .bool false), (65, undef), (64, undef), (63, undef), (62, undef), (61, undef), (60, undef), (59, undef), (58, undef), (57, undef)]) (l := [.loaded ⟨b3, 1, none⟩ (.int .i64 e1.At), .loaded ⟨b3, 0, none⟩ (.int .i64 e1.Task)]) (by kernel_rfl) ⟨hS33.cell 0 rfl rfl, hS33.cell 0 rfl rfl, trivial⟩ ?_
            by_cases hc14 : 0 ≤ e1.Task
            · rw [if_pos hc14] at h
              rcases hx7 : m1[(e1.Task).toNat]? with _ | e4
              · rw [hx7] at h; cases h
              rw [hx7] at h
              simp only [] at h
              refine ge_index (d := 73) (ty := 0) (t := 23) (el := 3) (sz := 1) (m := m1.length) (c := cz1) (x := (.tmp 70)) (y := (.tmp 72)) (A := Z1) (k' := .i64) (j := e1.Task) (jn := ((e1.Task).toNat)) (b0 := blkOf Z1) (o0 := offOf Z1) (by kernel_rfl) (by kernel_rfl) (by kernel_rfl) (by kernel_rfl) (by kernel_rfl) ((hS33.rdAt 2 rfl).eqSome (pos_of_get hx7)) (Int.toNat_of_nonneg hc14).symm (lt_of_get hx7) ?_
              refine ge_batch [20, 21, 22, 23] (ans := [.val (.int .i64 e4)]) (vs := [(53, .bool (decide (e1.At < e4))), (76, .bool (decide (e1.At < e4))), (75, .bool (decide (e1.At < e4))), (74, .int .i64 e4)]) (l := [.loaded ⟨blkOf Z1, offOf Z1 + ((e1.Task).toNat) * 1, none⟩ (.int .i64 e4)]) (by kernel_rfl) ⟨RdL.cell (j := 0) (hS33.rdAt 2 rfl) hx7 rfl, trivial⟩ ?_
              refine ge_nil fun a hF => hK22 _ _ ?_ a hF
              by_cases hc15 : e1.At < e4
              · rw [if_pos hc15] at h
                refine we_known (t := 53) (b := decide (e1.At < e4)) (v := true) (by kernel_rfl) (decide_eq_true hc15) ?_
                refine we_true (by kernel_rfl) ?_
                refine we_seq fun K25 hK25 => ?_
                refine we_region [(0, 0), (1, 0), (2, 2)] rfl ?_
                refine ge_batch [0, 1] (ans := []) (vs := [(78, .agg #[.int .i64 12, .int .i64 (i1 : Int)]), (77, .int .i64 (i1 : Int))]) (l := []) (by kernel_rfl) trivial ?_
                have hS45 := hS33.bring 1 rfl
                refine ge_set (b := b1) (j := 0) (cs := #[.int .i64 0, .int .i64 0]) (t := 26) (vs := [.int .i64 12, .int .i64 (i1 : Int)]) hS45 (by kernel_rfl) rfl rfl fun w15 hS46 => ?_
                have hS47 : St w0 w15 [Own.blk b1 (.cells #[.int .i64 12, .int .i64 (i1 : Int)] 26 (0, 0)), Own.blk b3 (.cells #[.int .i64 e1.Task, .int .i64 e1.At] 53 (0, 0)), Own.of (.slice Z1 m1.length cz1) 3 m1] := hS46
                refine ge_nil fun a hF => hK25 _ _ ?_ a hF
                have hS48 := hS47.takeN 0
                obtain rfl := Option.some.inj h
                exact we_ret fun a hF => hQ _ _ _ (Outs.out nofun ⟨rfl, (post_ret (rs := [.cell 4 26]) (ans := [.val (.int .i64 12), .val (.int .i64 (i1 : Int))]) (vs := [.agg #[.int .i64 12, .int .i64 (i1 : Int)]]) (l := [.loaded ⟨b1, 0, none⟩ (.int .i64 12), .loaded ⟨b1, 1, none⟩ (.int .i64 (i1 : Int))]) rfl (by kernel_rfl) ⟨hS47.cell 0 rfl rfl, hS47.cell 0 rfl rfl, trivial⟩ ⟨rfl, hS48⟩) a hF⟩)
              · rw [if_neg hc15] at h
                refine we_known (t := 53) (b := decide (e1.At < e4)) (v := false) (by kernel_rfl) (decide_eq_false hc15) ?_
                refine we_false (by kernel_rfl) ?_
                have hS49 := hS33.bring 2 rfl
                have hS50 := hS49.bring 2 rfl
                have hS51 := hS50.bring 2 rfl
                obtain rfl := Option.some.inj h
                exact we_skip fun a hF => hQ _ _ _ (Outs.again ⟨hS51, hF.weaken ⟨by kernel_rfl, by kernel_rfl, by kernel_rfl, by kernel_rfl, by kernel_rfl, by kernel_rfl, by kernel_rfl, by kernel_rfl, trivial⟩⟩)
            · rw [if_neg hc14] at h
              cases h
abbrev tasks_Legal.A0 (K : Nat) (w0 : World) (l0 : List STask) (A0 : Option Addr) (c0 : Nat) (l1 : List SCome) (A1 : Option Addr) (c1 : Nat) (hR0 : RdL w0 A0 l0) (hL0 : l0.length ≤ c0) (hR1 : RdL w0 A1 l1) (hL1 : l1.length ≤ c1) (b1 : Nat) (r1 : SFault) (b2 : Nat) (hc1 : r1.Code = 0) (hc2 : ¬ ((l1.length : Int) > 4000)) (hc3 : l0.length ≤ 17592186044416) (Z1 : Option Addr) (cz1 : Nat) : (Nat × (List Int)) → Act → World → Prop := fun (s : Nat × (List Int)) a w => St w0 w [Own.blk b1 (.cells #[.int .i64 0, .int .i64 0] 26 (0, 0)), Own.of (.slice Z1 s.2.length cz1) 3 s.2] ∧ Frm 94 a [(0, .slice A0 l0.length c0), (1, .slice A1 l1.length c1), (4, .pointer (some ⟨b1, 0, none⟩)), (6, (.slice Z1 s.2.length cz1)), (22, .slice A1 l1.length c1), (23, .int .i64 (l1.length : Int)), (24, .int .i64 (s.1 : Int))]
abbrev tasks_Legal.B0 (K : Nat) (w0 : World) (l0 : List STask) (A0 : Option Addr) (c0 : Nat) (l1 : List SCome) (A1 : Option Addr) (c1 : Nat) (hR0 : RdL w0 A0 l0) (hL0 : l0.length ≤ c0) (hR1 : RdL w0 A1 l1) (hL1 : l1.length ≤ c1) (b1 : Nat) (r1 : SFault) (b2 : Nat) (hc1 : r1.Code = 0) (hc2 : ¬ ((l1.length : Int) > 4000)) (hc3 : l0.length ≤ 17592186044416) (Z1 : Option Addr) (cz1 : Nat) : (Unit ⊕ SFault) → Exit → Act → World → Prop := Exits 0 (fun (s : Unit) a w => St w0 w [Own.blk b1 (.cells #[.int .i64 0, .int .i64 0] 26 (0, 0))] ∧ Frm 94 a [(4, .pointer (some ⟨b1, 0, none⟩))]) (Rets Tryd.prog Tryd.f48 (tasks_Legal.Post w0))
theorem tasks_Legal_r0 (K : Nat) (w0 : World) (l0 : List STask) (A0 : Option Addr) (c0 : Nat) (l1 : List SCome) (A1 : Option Addr) (c1 : Nat) (hR0 : RdL w0 A0 l0) (hL0 : l0.length ≤ c0) (hR1 : RdL w0 A1 l1) (hL1 : l1.length ≤ c1) (b1 : Nat) (r1 : SFault) (b2 : Nat) (hc1 : r1.Code = 0) (hc2 : ¬ ((l1.length : Int) > 4000)) (hc3 : l0.length ≤ 17592186044416) (Z1 : Option Addr) (cz1 : Nat) (s : Nat × (List Int)) (o : (Nat × (List Int)) ⊕ (Unit ⊕ SFault)) (h : tasks_Legal.r0 l0 l1 s = some o) (a : Act) (w : World) (hA : tasks_Legal.A0 K w0 l0 A0 c0 l1 A1 c1 hR0 hL0 hR1 hL1 b1 r1 b2 hc1 hc2 hc3 Z1 cz1 s a w) (Q : Exit → Act → World → Prop) (hQ : ∀ x a w, Outs (tasks_Legal.A0 K w0 l0 A0 c0 l1 A1 c1 hR0 hL0 hR1 hL1 b1 r1 b2 hc1 hc2 hc3 Z1 cz1) (tasks_Legal.B0 K w0 l0 A0 c0 l1 A1 c1 hR0 hL0 hR1 hL1 b1 r1 b2 hc1 hc2 hc3 Z1 cz1) o x a w → Q x a w) : (subF Tryd.f48 [1, 1, 1, 1, 0, 1, 0, 0]).wp Tryd.prog Q a w := by
  obtain ⟨i1, m1⟩ := s
  obtain ⟨hS, hF⟩ := hA
  replace hS : St w0 w [Own.blk b1 (.cells #[.int .i64 0, .int .i64 0] 26 (0, 0)), Own.of (.slice Z1 m1.length cz1) 3 m1] := hS
  simp only [tasks_Legal.r0] at h
  refine (?_ : WE Tryd.prog 94 (subF Tryd.f48 [1, 1, 1, 1, 0, 1, 0, 0]) Q [(0, .slice A0 l0.length c0), (1, .slice A1 l1.length c1), (4, .pointer (some ⟨b1, 0, none⟩)), (6, (.slice Z1 m1.length cz1)), (22, .slice A1 l1.length c1), (23, .int .i64 (l1.length : Int)), (24, .int .i64 (i1 : Int))] w) a hF
  clear hF a
  refine we_seq fun K11 hK11 => ?_
  refine we_region [(0, 0)] rfl ?_
  refine ge_batch [0] (ans := []) (vs := [(25, .bool (decide ((i1 : Int) < (l1.length : Int))))]) (l := []) (by kernel_rfl) trivial ?_
  refine ge_nil fun a hF => hK11 _ _ ?_ a hF
  refine we_seq fun K12 hK12 => ?_
  by_cases hc4 : (i1 : Int) < (l1.length : Int)
  · rw [if_pos hc4] at h
    refine we_known (t := 25) (b := decide ((i1 : Int) < (l1.length : Int))) (v := true) (by kernel_rfl) (decide_eq_true hc4) ?_
    refine we_true (by kernel_rfl) ?_
    refine we_skip fun a hF => hK12 _ _ ?_ a hF
    refine we_seq fun K13 hK13 => ?_
    refine we_block ?_
    refine we_seq fun K14 hK14 => ?_
    refine we_region [(0, 0), (1, 0), (2, 0), (3, 1), (4, 0), (5, 2)] rfl ?_
    refine ge_batch [0] (ans := []) (vs := [(26, .int .i64 (i1 : Int))]) (l := []) (by kernel_rfl) trivial ?_
    rcases hx3 : l1[i1]? with _ | e1
    · rw [hx3] at h; cases h
    rw [hx3] at h
    simp only [] at h
    refine ge_index (d := 27) (ty := 0) (t := 49) (el := 53) (sz := 2) (m := l1.length) (c := c1) (x := (.tmp 22)) (y := (.tmp 24)) (A := A1) (k' := .i64) (j := (i1 : Int)) (jn := i1) (b0 := blkOf A1) (o0 := offOf A1) (by kernel_rfl) (by kernel_rfl) (by kernel_rfl) (by kernel_rfl) (by kernel_rfl) ((hS.rd hR1).eqSome (pos_of_get hx3)) rfl (lt_of_get hx3) ?_
    refine ge_batch [2] (ans := [.val (.int .i64 e1.Task), .val (.int .i64 e1.At)]) (vs := [(28, .agg #[.int .i64 e1.Task, .int .i64 e1.At])]) (l := [.loaded ⟨blkOf A1, offOf A1 + i1 * 2, none⟩ (.int .i64 e1.Task), .loaded ⟨blkOf A1, offOf A1 + i1 * 2 + 1, none⟩ (.int .i64 e1.At)]) (by kernel_rfl) ⟨RdL.cell (j := 0) (hS.rd hR1) hx3 rfl, RdL.cell (j := 1) (hS.rd hR1) hx3 rfl, trivial⟩ ?_
    refine ge_new (d := some 8) (o := .cells #[.int .i64 0, .int .i64 0] 53) (v := fun b => .pointer (some ⟨b, 0, none⟩)) hS (fun b => by kernel_rfl) fun b3 w7 hx4 hS14 => ?_
    refine ge_batch [4] (ans := []) (vs := [(7, .int .i64 (i1 : Int))]) (l := []) (by kernel_rfl) trivial ?_
    refine ge_set (b := b3) (j := 0) (cs := #[.int .i64 0, .int .i64 0]) (t := 53) (vs := [.int .i64 e1.Task, .int .i64 e1.At]) hS14 (by kernel_rfl) rfl rfl fun w8 hS15 => ?_
    have hS16 : St w0 w8 [Own.blk b3 (.cells #[.int .i64 e1.Task, .int .i64 e1.At] 53 (0, 0)), Own.blk b1 (.cells #[.int .i64 0, .int .i64 0] 26 (0, 0)), Own.of (.slice Z1 m1.length cz1) 3 m1] := hS15
    refine ge_nil fun a hF => hK14 _ _ ?_ a hF
    refine we_seq fun K15 hK15 => ?_
    rcases hq2 : tasks_Legal.p1 l0 l1 i1 m1 e1 with _ | (_ | rr1)
    · rw [hq2] at h; cases h
    · rw [hq2] at h
      simp only [] at h
      refine we_keep (e' := [(0, .slice A0 l0.length c0), (1, .slice A1 l1.length c1), (4, .pointer (some ⟨b1, 0, none⟩)), (6, (.slice Z1 m1.length cz1)), (7, .int .i64 (i1 : Int)), (8, .pointer (some ⟨b3, 0, none⟩)), (22, .slice A1 l1.length c1), (23, .int .i64 (l1.length : Int)), (24, .int .i64 (i1 : Int)), (25, .bool true), (26, .int .i64 (i1 : Int)), (27, .pointer (some ⟨blkOf A1, offOf A1 + i1 * 2, none⟩)), (28, .agg #[.int .i64 e1.Task, .int .i64 e1.At])]) ⟨by kernel_rfl, by kernel_rfl, by kernel_rfl, by kernel_rfl, by kernel_rfl, by kernel_rfl, by kernel_rfl, by kernel_rfl, by kernel_rfl, by kernel_rfl, by kernel_rfl, by kernel_rfl, by kernel_rfl, trivial⟩ (tasks_Legal_p1 K w0 l0 A0 c0 l1 A1 c1 hR0 hL0 hR1 hL1 b1 r1 b2 hc1 hc2 hc3 Z1 cz1 i1 m1 hc4 e1 hx3 b3 _ hq2 _ hS16 _ ?_)
      rintro _ a w16 ⟨rfl, hS52, hF⟩
      replace hS52 : St w0 w16 [Own.blk b3 (.cells #[.int .i64 e1.Task, .int .i64 e1.At] 53 (0, 0)), Own.blk b1 (.cells #[.int .i64 0, .int .i64 0] 26 (0, 0)), Own.of (.slice Z1 m1.length cz1) 3 m1] := hS52
      refine hK15 [(0, .slice A0 l0.length c0), (1, .slice A1 l1.length c1), (4, .pointer (some ⟨b1, 0, none⟩)), (6, (.slice Z1 m1.length cz1)), (8, .pointer (some ⟨b3, 0, none⟩)), (22, .slice A1 l1.length c1), (23, .int .i64 (l1.length : Int)), (24, .int .i64 (i1 : Int))] w16 ?_ a hF
      refine we_draws (by kernel_rfl) [(0, 0), (1, 0), (2, 0), (3, 0), (4, 0), (5, 0), (6, 0), (7, 0), (8, 0), (9, 0), (10, 0), (11, 0), (12, 0), (13, 2)] (by kernel_rfl) ?_
      have hS53 := hS52.drew
      refine ge_batch [0, 1, 2, 3, 4, 5, 6, 7] (ans := [.val (.int .i64 e1.Task), .val (.int .i64 e1.At), .val (.int .i64 e1.Task)]) (vs := [(86, .int .i64 e1.Task), (85, .pointer (some ⟨b3, 0, none⟩)), (84, .slice A0 l0.length c0), (83, .int .i64 e1.At), (82, .pointer (some ⟨b3, 1, none⟩)), (81, .int .i64 e1.Task), (80, .pointer (some ⟨b3, 0, none⟩)), (79, (.slice Z1 m1.length cz1))]) (l := [.loaded ⟨b3, 0, none⟩ (.int .i64 e1.Task), .loaded ⟨b3, 1, none⟩ (.int .i64 e1.At), .loaded ⟨b3, 0, none⟩ (.int .i64 e1.Task)]) (by kernel_rfl) ⟨hS53.cell 0 rfl rfl, hS53.cell 0 rfl rfl, hS53.cell 0 rfl rfl, trivial⟩ ?_
      by_cases hc16 : 0 ≤ e1.Task
      · rw [if_pos hc16] at h
        rcases hx8 : l0[(e1.Task).toNat]? with _ | e5
        · rw [hx8] at h; cases h
        rw [hx8] at h
        simp only [] at h
        refine ge_index (d := 87) (ty := 0) (t := 40) (el := 46) (sz := 7) (m := l0.length) (c := c0) (x := (.tmp 84)) (y := (.tmp 86)) (A := A0) (k' := .i64) (j := e1.Task) (jn := ((e1.Task).toNat)) (b0 := blkOf A0) (o0 := offOf A0) (by kernel_rfl) (by kernel_rfl) (by kernel_rfl) (by kernel_rfl) (by kernel_rfl) ((hS53.rd hR0).eqSome (pos_of_get hx8)) (Int.toNat_of_nonneg hc16).symm (lt_of_get hx8) ?_
        refine ge_batch [9, 10, 11] (ans := [.val (.int .i64 e5.T)]) (vs := [(90, .int .i64 (IntKind.i64.wrap (e1.At + e5.T))), (89, .int .i64 e5.T), (88, .pointer (some ⟨blkOf A0, offOf A0 + (e1.Task).toNat * 7 + 2, none⟩))]) (l := [.loaded ⟨blkOf A0, offOf A0 + ((e1.Task).toNat) * 7 + 2, none⟩ (.int .i64 e5.T)]) (by kernel_rfl) ⟨RdL.cell (j := 2) (hS53.rd hR0) hx8 rfl, trivial⟩ ?_
        rcases hx9 : m1[(e1.Task).toNat]? with _ | e6
        · rw [hx9] at h; cases h
        rw [hx9] at h
        simp only [] at h
        refine ge_index (d := 91) (ty := 0) (t := 23) (el := 3) (sz := 1) (m := m1.length) (c := cz1) (x := (.tmp 79)) (y := (.tmp 81)) (A := Z1) (k' := .i64) (j := e1.Task) (jn := ((e1.Task).toNat)) (b0 := blkOf Z1) (o0 := offOf Z1) (by kernel_rfl) (by kernel_rfl) (by kernel_rfl) (by kernel_rfl) (by kernel_rfl) ((hS53.rdAt 2 rfl).eqSome (pos_of_get hx9)) (Int.toNat_of_nonneg hc16).symm (lt_of_get hx9) ?_
        have hS54 := hS53.bring 2 rfl
        refine ge_seti (α := Int) (A := Z1) (nn := m1.length) (c := cz1) (t := 3) (l := m1) (x := e6) (x' := (IntKind.i64.wrap (e1.At + e5.T))) (jn := ((e1.Task).toNat)) (j := 0) (vs := [.int .i64 (IntKind.i64.wrap (e1.At + e5.T))]) (l' := [.stored ⟨blkOf Z1, offOf Z1 + ((e1.Task).toNat) * 1, none⟩ (.int .i64 (IntKind.i64.wrap (e1.At + e5.T)))]) hS54 (by kernel_rfl) (by kernel_rfl) hx9 rfl rfl rfl fun w17 hS55 => ?_
        have hS56 : St w0 w17 [Own.of (.slice Z1 m1.length cz1) 3 (m1.set ((e1.Task).toNat) (IntKind.i64.wrap (e1.At + e5.T))), Own.blk b3 (.cells #[.int .i64 e1.Task, .int .i64 e1.At] 53 (0, 0)), Own.blk b1 (.cells #[.int .i64 0, .int .i64 0] 26 (0, 0))] := hS55
        have hE1 : m1.length = (m1.set ((e1.Task).toNat) (IntKind.i64.wrap (e1.At + e5.T))).length := hS56.lenAt 0 rfl
        have hS57 : St w0 w17 [Own.of (.slice Z1 (m1.set ((e1.Task).toNat) (IntKind.i64.wrap (e1.At + e5.T))).length cz1) 3 (m1.set ((e1.Task).toNat) (IntKind.i64.wrap (e1.At + e5.T))), Own.blk b3 (.cells #[.int .i64 e1.Task, .int .i64 e1.At] 53 (0, 0)), Own.blk b1 (.cells #[.int .i64 0, .int .i64 0] 26 (0, 0))] := by rw [← hE1]; exact hS56
        refine ge_same (t := 6) (v := (.slice Z1 m1.length cz1)) (v' := (.slice Z1 (m1.set ((e1.Task).toNat) (IntKind.i64.wrap (e1.At + e5.T))).length cz1)) (by kernel_rfl) (by rw [hE1]) ?_
        refine ge_same (t := 79) (v := (.slice Z1 m1.length cz1)) (v' := (.slice Z1 (m1.set ((e1.Task).toNat) (IntKind.i64.wrap (e1.At + e5.T))).length cz1)) (by kernel_rfl) (by rw [hE1]) ?_
        refine ge_nil fun a hF => hK13 _ _ ?_ a hF
        refine we_region [(0, 0), (1, 0)] rfl ?_
        refine ge_addn (d := 92) (ty := 3) (x := (.tmp 24)) (y := (.const (.int .i64 1))) (t := 3) (t2 := 3) (k := .i64) (m := i1) (by kernel_rfl) (by kernel_rfl) (by kernel_rfl) (by have h0 := hR1.small; omega) ?_
        refine ge_batch [1] (ans := []) (vs := [(24, .int .i64 ((i1 + 1 : Nat) : Int))]) (l := []) (by kernel_rfl) trivial ?_
        have hS58 := hS57.bring 2 rfl
        have hS59 := hS58.takeN 2
        obtain rfl := Option.some.inj h
        exact ge_nil fun a hF => hQ _ _ _ (Outs.again ⟨hS59, hF.weaken ⟨by kernel_rfl, by kernel_rfl, by kernel_rfl, by kernel_rfl, by kernel_rfl, by kernel_rfl, by kernel_rfl, trivial⟩⟩)
      · rw [if_neg hc16] at h
        cases h
    · rw [hq2] at h
      simp only [] at h
      refine we_keep (e' := [(0, .slice A0 l0.length c0), (1, .slice A1 l1.length c1), (4, .pointer (some ⟨b1, 0, none⟩)), (6, (.slice Z1 m1.length cz1)), (7, .int .i64 (i1 : Int)), (8, .pointer (some ⟨b3, 0, none⟩)), (22, .slice A1 l1.length c1), (23, .int .i64 (l1.length : Int)), (24, .int .i64 (i1 : Int)), (25, .bool true), (26, .int .i64 (i1 : Int)), (27, .pointer (some ⟨blkOf A1, offOf A1 + i1 * 2, none⟩)), (28, .agg #[.int .i64 e1.Task, .int .i64 e1.At])]) ⟨by kernel_rfl, by kernel_rfl, by kernel_rfl, by kernel_rfl, by kernel_rfl, by kernel_rfl, by kernel_rfl, by kernel_rfl, by kernel_rfl, by kernel_rfl, by kernel_rfl, by kernel_rfl, by kernel_rfl, trivial⟩ (tasks_Legal_p1 K w0 l0 A0 c0 l1 A1 c1 hR0 hL0 hR1 hL1 b1 r1 b2 hc1 hc2 hc3 Z1 cz1 i1 m1 hc4 e1 hx3 b3 _ hq2 _ hS16 _ ?_)
      rintro _ a w1 ⟨_, rfl, hb⟩
      obtain rfl := Option.some.inj h
      exact hQ _ _ _ (Outs.out nofun (Exits.on ⟨rfl, hb⟩))
  · rw [if_neg hc4] at h
    refine we_known (t := 25) (b := decide ((i1 : Int) < (l1.length : Int))) (v := false) (by kernel_rfl) (decide_eq_false hc4) ?_
    refine we_false (by kernel_rfl) ?_
    have hS60 := hS.takeN 1
    obtain rfl := Option.some.inj h
    exact we_exit fun a hF => hQ _ _ _ (Outs.out nofun (Exits.here ⟨hS60, hF.weaken ⟨by kernel_rfl, trivial⟩⟩))
theorem tasks_Legal_ok (K : Nat) (l0 : List STask) (A0 : Option Addr) (c0 : Nat) (l1 : List SCome) (A1 : Option Addr) (c1 : Nat) (w0 : World) (hR0 : RdL w0 A0 l0) (hL0 : l0.length ≤ c0) (hR1 : RdL w0 A1 l1) (hL1 : l1.length ≤ c1) (r : SFault) (h : tasks_Legal.f K l0 l1 = some r) :
    Calls Tryd.prog 48 #[.slice A0 l0.length c0, .slice A1 l1.length c1] w0 (tasks_Legal.Post w0 r) := by
  have hS := St.start w0
  unfold tasks_Legal.f at h
  refine calls_enter (n := 94) (args := [.slice A0 l0.length c0, .slice A1 l1.length c1]) (fn := Tryd.f48) rfl rfl rfl rfl ?_
  show WE _ _ _ _ [(0, .slice A0 l0.length c0), (1, .slice A1 l1.length c1)] _
  refine we_seq fun K1 hK1 => ?_
  refine we_region [(0, 1)] rfl ?_
  refine ge_new (d := some 4) (o := .cells #[.int .i64 0, .int .i64 0] 26) (v := fun b => .pointer (some ⟨b, 0, none⟩)) hS (fun b => by kernel_rfl) fun b1 w1 hx1 hS1 => ?_
  refine ge_nil fun a hF => hK1 _ _ ?_ a hF
  refine we_seq fun K2 hK2 => ?_
  refine we_seq fun K3 hK3 => ?_
  refine we_region [(0, 0), (1, 1), (2, 1), (3, 2)] rfl ?_
  rcases hq1 : tasks_Check.f K l0 with _ | r1
  · rw [hq1] at h; cases h
  rw [hq1] at h
  simp only [] at h
  refine ge_batch [0] (ans := []) (vs := [(9, .slice A0 l0.length c0)]) (l := []) (by kernel_rfl) trivial ?_
  refine ge_call (d := some 10) (f := 19) (args := #[.slice A0 l0.length c0]) (by kernel_rfl) (tasks_Check_ok K l0 A0 c0 _ (hS1.rd hR0) hL0 _ hq1) ?_
  rintro _ w2 ⟨rfl, hS2⟩
  refine ⟨_, rfl, hS2.below, ?_⟩
  have hS3 := hS1.call hS2
  refine ge_new (d := some 5) (o := .cells #[.int .i64 0, .int .i64 0] 26) (v := fun b => .pointer (some ⟨b, 0, none⟩)) hS3 (fun b => by kernel_rfl) fun b2 w3 hx2 hS4 => ?_
  refine ge_set (b := b2) (j := 0) (cs := #[.int .i64 0, .int .i64 0]) (t := 26) (vs := [.int .i64 r1.Code, .int .i64 r1.At]) hS4 (by kernel_rfl) rfl rfl fun w4 hS5 => ?_
  have hS6 : St w0 w4 [Own.blk b2 (.cells #[.int .i64 r1.Code, .int .i64 r1.At] 26 (0, 0)), Own.blk b1 (.cells #[.int .i64 0, .int .i64 0] 26 (0, 0))] := hS5
  refine ge_nil fun a hF => hK3 _ _ ?_ a hF
  refine we_seq fun K4 hK4 => ?_
  refine we_region [(0, 0), (1, 0), (2, 0)] rfl ?_
  refine ge_batch [0, 1, 2] (ans := [.val (.int .i64 r1.Code)]) (vs := [(13, .bool (r1.Code != 0)), (12, .int .i64 r1.Code), (11, .pointer (some ⟨b2, 0, none⟩))]) (l := [.loaded ⟨b2, 0, none⟩ (.int .i64 r1.Code)]) (by kernel_rfl) ⟨hS6.cell 0 rfl rfl, trivial⟩ ?_
  refine ge_nil fun a hF => hK4 _ _ ?_ a hF
  by_cases hc1 : r1.Code = 0
  · rw [if_pos hc1] at h
    refine we_known (t := 13) (b := (r1.Code != 0)) (v := false) (by kernel_rfl) (bne_eq_false_iff_eq.2 hc1) ?_
    refine we_false (by kernel_rfl) ?_
    refine we_skip fun a hF => hK2 _ _ ?_ a hF
    refine we_seq fun K5 hK5 => ?_
    refine we_seq fun K6 hK6 => ?_
    refine we_region [(0, 0), (1, 0), (2, 0)] rfl ?_
    refine ge_batch [0, 1, 2] (ans := []) (vs := [(17, .bool (decide ((l1.length : Int) > 4000))), (16, .int .i64 (l1.length : Int)), (15, .slice A1 l1.length c1)]) (l := []) (by kernel_rfl) trivial ?_
    refine ge_nil fun a hF => hK6 _ _ ?_ a hF
    by_cases hc2 : (l1.length : Int) > 4000
    · rw [if_pos hc2] at h
      refine we_known (t := 17) (b := decide ((l1.length : Int) > 4000)) (v := true) (by kernel_rfl) (decide_eq_true hc2) ?_
      refine we_true (by kernel_rfl) ?_
      refine we_seq fun K7 hK7 => ?_
      refine we_region [(0, 0), (1, 2)] rfl ?_
      refine ge_batch [0] (ans := []) (vs := [(18, .agg #[.int .i64 2, .int .i64 0])]) (l := []) (by kernel_rfl) trivial ?_
      have hS7 := hS6.bring 1 rfl
      refine ge_set (b := b1) (j := 0) (cs := #[.int .i64 0, .int .i64 0]) (t := 26) (vs := [.int .i64 2, .int .i64 0]) hS7 (by kernel_rfl) rfl rfl fun w5 hS8 => ?_
      have hS9 : St w0 w5 [Own.blk b1 (.cells #[.int .i64 2, .int .i64 0] 26 (0, 0)), Own.blk b2 (.cells #[.int .i64 r1.Code, .int .i64 r1.At] 26 (0, 0))] := hS8
      refine ge_nil fun a hF => hK7 _ _ ?_ a hF
      have hS10 := hS9.takeN 0
      obtain rfl := Option.some.inj h
      exact we_ret (post_ret (rs := [.cell 4 26]) (ans := [.val (.int .i64 2), .val (.int .i64 0)]) (vs := [.agg #[.int .i64 2, .int .i64 0]]) (l := [.loaded ⟨b1, 0, none⟩ (.int .i64 2), .loaded ⟨b1, 1, none⟩ (.int .i64 0)]) rfl (by kernel_rfl) ⟨hS9.cell 0 rfl rfl, hS9.cell 0 rfl rfl, trivial⟩ ⟨rfl, hS10⟩)
    · rw [if_neg hc2] at h
      refine we_known (t := 17) (b := decide ((l1.length : Int) > 4000)) (v := false) (by kernel_rfl) (decide_eq_false hc2) ?_
      refine we_false (by kernel_rfl) ?_
      refine we_skip fun a hF => hK5 _ _ ?_ a hF
      refine we_seq fun K8 hK8 => ?_
      refine we_region [(0, 0), (1, 0), (2, 1), (3, 0)] rfl ?_
      refine ge_batch [0, 1] (ans := []) (vs := [(20, .int .i64 (l0.length : Int)), (19, .slice A0 l0.length c0)]) (l := []) (by kernel_rfl) trivial ?_
      by_cases hc3 : l0.length ≤ 17592186044416
      · rw [if_pos hc3] at h
        refine ge_make (α := Int) (d := 21) (t := 23) (el := 3) (bytes := 8) (l := l0.length) (c := l0.length) (x := (.tmp 20)) (y := (.tmp 20)) (ty := 23) (k1 := .i64) (k2 := .i64) (li := (l0.length : Int)) (ci := (l0.length : Int)) (z := .int .i64 0) (z' := (0 : Int)) (by kernel_rfl) (by kernel_rfl) (by kernel_rfl) rfl rfl (by kernel_rfl) (by kernel_rfl) rfl hS6 (Nat.le_refl _) rfl (by omega) fun v1 w6 _ hS11 => ?_
        refine ge_batch [3] (ans := []) (vs := [(6, v1)]) (l := []) (by kernel_rfl) trivial ?_
        refine ge_nil fun a hF => hK8 _ _ ?_ a hF
        refine we_seq fun K9 hK9 => ?_
        refine we_seq fun K10 hK10 => ?_
        refine we_region [(0, 0), (1, 0), (2, 0)] rfl ?_
        refine ge_batch [0, 1, 2] (ans := []) (vs := [(24, .int .i64 0), (23, .int .i64 (l1.length : Int)), (22, .slice A1 l1.length c1)]) (l := []) (by kernel_rfl) trivial ?_
        refine ge_nil fun a hF => hK10 _ _ ?_ a hF
        refine we_block ?_
        obtain ⟨Z1, cz1, rfl⟩ := hS11.open 0 rfl
        have hS12 := hS11.bring 2 rfl
        have hS13 := hS12.takeN 2
        rcases hq3 : iter (tasks_Legal.r0 l0 l1) K (0, (List.replicate l0.length (0 : Int))) with _ | (_ | rr2)
        · rw [hq3] at h; cases h
        · rw [hq3] at h
          simp only [] at h
          refine we_iter (A := tasks_Legal.A0 K w0 l0 A0 c0 l1 A1 c1 hR0 hL0 hR1 hL1 b1 r1 b2 hc1 hc2 hc3 Z1 cz1) (B := tasks_Legal.B0 K w0 l0 A0 c0 l1 A1 c1 hR0 hL0 hR1 hL1 b1 r1 b2 hc1 hc2 hc3 Z1 cz1) hq3 (fun a hF => ⟨hS13, hF.weaken ⟨by kernel_rfl, by kernel_rfl, by kernel_rfl, by kernel_rfl, by kernel_rfl, by kernel_rfl, by kernel_rfl, trivial⟩⟩) (fun s o hf a w hA Q hQ => tasks_Legal_r0 K w0 l0 A0 c0 l1 A1 c1 hR0 hL0 hR1 hL1 b1 r1 b2 hc1 hc2 hc3 Z1 cz1 s o hf a w hA Q hQ) ?_
          rintro _ a w18 _ ⟨rfl, hS61, hF⟩
          replace hS61 : St w0 w18 [Own.blk b1 (.cells #[.int .i64 0, .int .i64 0] 26 (0, 0))] := hS61
          refine hK9 [(4, .pointer (some ⟨b1, 0, none⟩))] w18 ?_ a hF
          refine we_seq fun K26 hK26 => ?_
          refine we_region [(0, 0), (1, 2)] rfl ?_
          refine ge_batch [0] (ans := []) (vs := [(93, .agg #[.int .i64 0, .int .i64 0])]) (l := []) (by kernel_rfl) trivial ?_
          refine ge_set (b := b1) (j := 0) (cs := #[.int .i64 0, .int .i64 0]) (t := 26) (vs := [.int .i64 0, .int .i64 0]) hS61 (by kernel_rfl) rfl rfl fun w19 hS62 => ?_
          have hS63 : St w0 w19 [Own.blk b1 (.cells #[.int .i64 0, .int .i64 0] 26 (0, 0))] := hS62
          refine ge_nil fun a hF => hK26 _ _ ?_ a hF
          have hS64 := hS63.takeN 0
          obtain rfl := Option.some.inj h
          exact we_ret (post_ret (rs := [.cell 4 26]) (ans := [.val (.int .i64 0), .val (.int .i64 0)]) (vs := [.agg #[.int .i64 0, .int .i64 0]]) (l := [.loaded ⟨b1, 0, none⟩ (.int .i64 0), .loaded ⟨b1, 1, none⟩ (.int .i64 0)]) rfl (by kernel_rfl) ⟨hS63.cell 0 rfl rfl, hS63.cell 0 rfl rfl, trivial⟩ ⟨rfl, hS64⟩)
        · rw [hq3] at h
          simp only [] at h
          refine we_iter (A := tasks_Legal.A0 K w0 l0 A0 c0 l1 A1 c1 hR0 hL0 hR1 hL1 b1 r1 b2 hc1 hc2 hc3 Z1 cz1) (B := tasks_Legal.B0 K w0 l0 A0 c0 l1 A1 c1 hR0 hL0 hR1 hL1 b1 r1 b2 hc1 hc2 hc3 Z1 cz1) hq3 (fun a hF => ⟨hS13, hF.weaken ⟨by kernel_rfl, by kernel_rfl, by kernel_rfl, by kernel_rfl, by kernel_rfl, by kernel_rfl, by kernel_rfl, trivial⟩⟩) (fun s o hf a w hA Q hQ => tasks_Legal_r0 K w0 l0 A0 c0 l1 A1 c1 hR0 hL0 hR1 hL1 b1 r1 b2 hc1 hc2 hc3 Z1 cz1 s o hf a w hA Q hQ) ?_
          rintro _ a w1 _ ⟨rfl, hb⟩
          obtain rfl := Option.some.inj h
          exact hb
      · rw [if_neg hc3] at h
        cases h
  · rw [if_neg hc1] at h
    refine we_known (t := 13) (b := (r1.Code != 0)) (v := true) (by kernel_rfl) (bne_iff_ne.2 hc1) ?_
    refine we_true (by kernel_rfl) ?_
    refine we_seq fun K27 hK27 => ?_
    refine we_region [(0, 0), (1, 2)] rfl ?_
    refine ge_batch [0] (ans := [.val (.int .i64 r1.Code), .val (.int .i64 r1.At)]) (vs := [(14, .agg #[.int .i64 r1.Code, .int .i64 r1.At])]) (l := [.loaded ⟨b2, 0, none⟩ (.int .i64 r1.Code), .loaded ⟨b2, 1, none⟩ (.int .i64 r1.At)]) (by kernel_rfl) ⟨hS6.cell 0 rfl rfl, hS6.cell 0 rfl rfl, trivial⟩ ?_
    have hS65 := hS6.bring 1 rfl
    refine ge_set (b := b1) (j := 0) (cs := #[.int .i64 0, .int .i64 0]) (t := 26) (vs := [.int .i64 r1.Code, .int .i64 r1.At]) hS65 (by kernel_rfl) rfl rfl fun w20 hS66 => ?_
    have hS67 : St w0 w20 [Own.blk b1 (.cells #[.int .i64 r1.Code, .int .i64 r1.At] 26 (0, 0)), Own.blk b2 (.cells #[.int .i64 r1.Code, .int .i64 r1.At] 26 (0, 0))] := hS66
    refine ge_nil fun a hF => hK27 _ _ ?_ a hF
    have hS68 := hS67.takeN 0
    obtain rfl := Option.some.inj h
    exact we_ret (post_ret (rs := [.cell 4 26]) (ans := [.val (.int .i64 r1.Code), .val (.int .i64 r1.At)]) (vs := [.agg #[.int .i64 r1.Code, .int .i64 r1.At]]) (l := [.loaded ⟨b1, 0, none⟩ (.int .i64 r1.Code), .loaded ⟨b1, 1, none⟩ (.int .i64 r1.At)]) rfl (by kernel_rfl) ⟨hS67.cell 0 rfl rfl, hS67.cell 0 rfl rfl, trivial⟩ ⟨rfl, hS68⟩)

structure SJob where
  Task : Int
  At : Int
  C : Int
  Due : Int
  P : Int
def SJob.eqb (x y : SJob) : Bool := ((x.Task == y.Task) && ((x.At == y.At) && ((x.C == y.C) && ((x.Due == y.Due) && ((x.P == y.P) && true)))))
instance : Ok SJob := ⟨fun x => Ok.ok x.Task ∧ Ok.ok x.At ∧ Ok.ok x.C ∧ Ok.ok x.Due ∧ Ok.ok x.P ∧ True⟩
instance : Flat SJob := ⟨5, fun x => [.int .i64 x.Task, .int .i64 x.At, .int .i64 x.C, .int .i64 x.Due, .int .i64 x.P], fun _ => rfl, fun _ => rfl, by decide⟩

/-! punctual/tasks.Jobs -/
abbrev tasks_Jobs.Post (w0 : World) (r : (List SJob) × SFault) (e : Ending) (w : World) : Prop := ∃ (v0 : Value), e = .returned (.tuple #[v0, .agg #[.int .i64 r.2.Code, .int .i64 r.2.At]]) ∧ St w0 w [Own.of v0 30 r.1]
def tasks_Jobs.p0 (l1 : List SCome) (l2 : List Int) (l3 : List Int) : Option (Unit ⊕ ((List SJob) × SFault)) :=
    if (l2.length : Int) = (l1.length : Int) then
      if (l3.length : Int) = (l1.length : Int) then
        some (.inl ())
      else
        some (.inr (([] : List SJob), (⟨2, 0⟩ : SFault)))
    else
      some (.inr (([] : List SJob), (⟨2, 0⟩ : SFault)))
def tasks_Jobs.p2 (l2 : List Int) (l3 : List Int) (i1 : Nat) (e2 : STask) : Option (Unit ⊕ ((List SJob) × SFault)) :=
    match l2[i1]? with
    | none => none
    | some e3 =>
      if e3 < 0 then
        some (.inr (([] : List SJob), (⟨3, (i1 : Int)⟩ : SFault)))
      else
        if e3 > e2.J then
          some (.inr (([] : List SJob), (⟨3, (i1 : Int)⟩ : SFault)))
        else
          match l3[i1]? with
          | none => none
          | some e4 =>
            if e4 < 1 then
              some (.inr (([] : List SJob), (⟨3, (i1 : Int)⟩ : SFault)))
            else
              if e4 > e2.C then
                some (.inr (([] : List SJob), (⟨3, (i1 : Int)⟩ : SFault)))
              else
                some (.inl ())
def tasks_Jobs.r1 (l0 : List STask) (l1 : List SCome) (l2 : List Int) (l3 : List Int) : (List SJob) × Nat → Option (((List SJob) × Nat) ⊕ ((List SJob) ⊕ ((List SJob) × SFault)))
  | (m1, i1) =>
    if (i1 : Int) < (l1.length : Int) then
      match l1[i1]? with
      | none => none
      | some e1 =>
        if 0 ≤ e1.Task then
          match l0[(e1.Task).toNat]? with
          | none => none
          | some e2 =>
            match tasks_Jobs.p2 l2 l3 i1 e2 with
            | none => none
            | some (.inl _) =>
              match l2[i1]? with
              | none => none
              | some e5 =>
                match l3[i1]? with
                | none => none
                | some e6 =>
                  if m1.length < 3518437208883 then
                    some (.inl ((m1 ++ [(⟨e1.Task, IntKind.i64.wrap (e1.At + e5), e6, IntKind.i64.wrap (e1.At + e2.D), e2.P⟩ : SJob)]), (i1 + 1)))
                  else
                    none
            | some (.inr rr1) =>
              some (.inr (.inr rr1))
        else
          none
    else
      some (.inr (.inl m1))
def tasks_Jobs.f (K : Nat) (l0 : List STask) (l1 : List SCome) (l2 : List Int) (l3 : List Int) : Option ((List SJob) × SFault) :=
  match tasks_Legal.f K l0 l1 with
  | none => none
  | some r1 =>
    if r1.Code = 0 then
      match tasks_Jobs.p0 l1 l2 l3 with
      | none => none
      | some (.inl _) =>
        match iter (tasks_Jobs.r1 l0 l1 l2 l3) K (([] : List SJob), 0) with
        | none => none
        | some (.inl m3) =>
          some (m3, (⟨0, 0⟩ : SFault))
        | some (.inr rr2) =>
          some rr2
      | some (.inr rr3) =>
        some rr3
    else
      some (([] : List SJob), r1)
abbrev tasks_Jobs.A0 (K : Nat) (w0 : World) (l0 : List STask) (A0 : Option Addr) (c0 : Nat) (l1 : List SCome) (A1 : Option Addr) (c1 : Nat) (l2 : List Int) (A2 : Option Addr) (c2 : Nat) (l3 : List Int) (A3 : Option Addr) (c3 : Nat) (hR0 : RdL w0 A0 l0) (hL0 : l0.length ≤ c0) (hR1 : RdL w0 A1 l1) (hL1 : l1.length ≤ c1) (hR2 : RdL w0 A2 l2) (hL2 : l2.length ≤ c2) (hR3 : RdL w0 A3 l3) (hL3 : l3.length ≤ c3) (b1 : Nat) (r1 : SFault) (b2 : Nat) (hc1 : r1.Code = 0) : Unit → Act → World → Prop := fun (s : Unit) a w => St w0 w [Own.blk b1 (.cells #[.int .i64 0, .int .i64 0] 26 (0, 0))] ∧ Frm 106 a [(0, .slice A0 l0.length c0), (1, .slice A1 l1.length c1), (2, .slice A2 l2.length c2), (3, .slice A3 l3.length c3), (9, .pointer (some ⟨b1, 0, none⟩))]
abbrev tasks_Jobs.B0 (K : Nat) (w0 : World) (l0 : List STask) (A0 : Option Addr) (c0 : Nat) (l1 : List SCome) (A1 : Option Addr) (c1 : Nat) (l2 : List Int) (A2 : Option Addr) (c2 : Nat) (l3 : List Int) (A3 : Option Addr) (c3 : Nat) (hR0 : RdL w0 A0 l0) (hL0 : l0.length ≤ c0) (hR1 : RdL w0 A1 l1) (hL1 : l1.length ≤ c1) (hR2 : RdL w0 A2 l2) (hL2 : l2.length ≤ c2) (hR3 : RdL w0 A3 l3) (hL3 : l3.length ≤ c3) (b1 : Nat) (r1 : SFault) (b2 : Nat) (hc1 : r1.Code = 0) : ((List SJob) × SFault) → Exit → Act → World → Prop := Rets Tryd.prog Tryd.f25 (tasks_Jobs.Post w0)
theorem tasks_Jobs_p0 (K : Nat) (w0 : World) (l0 : List STask) (A0 : Option Addr) (c0 : Nat) (l1 : List SCome) (A1 : Option Addr) (c1 : Nat) (l2 : List Int) (A2 : Option Addr) (c2 : Nat) (l3 : List Int) (A3 : Option Addr) (c3 : Nat) (hR0 : RdL w0 A0 l0) (hL0 : l0.length ≤ c0) (hR1 : RdL w0 A1 l1) (hL1 : l1.length ≤ c1) (hR2 : RdL w0 A2 l2) (hL2 : l2.length ≤ c2) (hR3 : RdL w0 A3 l3) (hL3 : l3.length ≤ c3) (b1 : Nat) (r1 : SFault) (b2 : Nat) (hc1 : r1.Code = 0) (o : Unit ⊕ ((List SJob) × SFault)) (h : tasks_Jobs.p0 l1 l2 l3 = some o) (w : World) (hS : St w0 w [Own.blk b2 (.cells #[.int .i64 r1.Code, .int .i64 r1.At] 26 (0, 0)), Own.blk b1 (.cells #[.int .i64 0, .int .i64 0] 26 (0, 0))]) (Q : Exit → Act → World → Prop) (hQ : ∀ x a w, Outs (tasks_Jobs.A0 K w0 l0 A0 c0 l1 A1 c1 l2 A2 c2 l3 A3 c3 hR0 hL0 hR1 hL1 hR2 hL2 hR3 hL3 b1 r1 b2 hc1) (tasks_Jobs.B0 K w0 l0 A0 c0 l1 A1 c1 l2 A2 c2 l3 A3 c3 hR0 hL0 hR1 hL1 hR2 hL2 hR3 hL3 b1 r1 b2 hc1) o x a w → Q x a w) : WE Tryd.prog 106 (subF Tryd.f25 [1, 1, 0]) Q [(0, .slice A0 l0.length c0), (1, .slice A1 l1.length c1), (2, .slice A2 l2.length c2), (3, .slice A3 l3.length c3), (8, .slice none 0 0), (9, .pointer (some ⟨b1, 0, none⟩)), (10, .pointer (some ⟨b2, 0, none⟩)), (15, .slice A0 l0.length c0), (16, .slice A1 l1.length c1), (17, .agg #[.int .i64 r1.Code, .int .i64 r1.At]), (18, .pointer (some ⟨b2, 0, none⟩)), (19, .int .i64 r1.Code), (20, .bool false)] w := by
  simp only [tasks_Jobs.p0] at h
  refine we_seq fun K6 hK6 => ?_
  refine we_region [(0, 0), (1, 0), (2, 0), (3, 0), (4, 0), (5, 0), (6, 0), (7, 0), (8, 0), (9, 0), (10, 0), (11, 0)] rfl ?_
  refine ge_batch [0, 1, 2, 3, 4, 5] (ans := []) (vs := [(27, .bool ((l2.length : Int) != (l1.length : Int))), (26, .bool ((l2.length : Int) != (l1.length : Int))), (25, .int .i64 (l1.length : Int)), (24, .slice A1 l1.length c1), (23, .int .i64 (l2.length : Int)), (22, .slice A2 l2.length c2)]) (l := []) (by kernel_rfl) trivial ?_
  by_cases hc2 : (l2.length : Int) = (l1.length : Int)
  · rw [if_pos hc2] at h
    refine ge_known (t := 27) (b := ((l2.length : Int) != (l1.length : Int))) (c := false) (by kernel_rfl) (bne_eq_false_iff_eq.2 hc2) ?_
    refine ge_batch [6, 7, 8, 9, 10, 11] (ans := []) (vs := [(33, .bool ((l3.length : Int) != (l1.length : Int))), (32, .bool ((l3.length : Int) != (l1.length : Int))), (31, .int .i64 (l1.length : Int)), (30, .slice A1 l1.length c1), (29, .int .i64 (l3.length : Int)), (28, .slice A3 l3.length c3)]) (l := []) (by kernel_rfl) trivial ?_
    refine ge_nil fun a hF => hK6 _ _ ?_ a hF
    by_cases hc3 : (l3.length : Int) = (l1.length : Int)
    · rw [if_pos hc3] at h
      refine we_known (t := 33) (b := ((l3.length : Int) != (l1.length : Int))) (v := false) (by kernel_rfl) (bne_eq_false_iff_eq.2 hc3) ?_
      refine we_false (by kernel_rfl) ?_
      have hS7 := hS.bring 1 rfl
      have hS8 := hS7.takeN 1
      obtain rfl := Option.some.inj h
      exact we_skip fun a hF => hQ _ _ _ (Outs.again ⟨hS8, hF.weaken ⟨by kernel_rfl, by kernel_rfl, by kernel_rfl, by kernel_rfl, by kernel_rfl, trivial⟩⟩)
    · rw [if_neg hc3] at h
      refine we_known (t := 33) (b := ((l3.length : Int) != (l1.length : Int))) (v := true) (by kernel_rfl) (bne_iff_ne.2 hc3) ?_
      refine we_true (by kernel_rfl) ?_
      refine we_seq fun K7 hK7 => ?_
      refine we_region [(0, 0), (1, 0), (2, 2)] rfl ?_
      refine ge_batch [0, 1] (ans := []) (vs := [(8, .slice none 0 0), (34, .agg #[.int .i64 2, .int .i64 0])]) (l := []) (by kernel_rfl) trivial ?_
      have hS9 := hS.bring 1 rfl
      refine ge_set (b := b1) (j := 0) (cs := #[.int .i64 0, .int .i64 0]) (t := 26) (vs := [.int .i64 2, .int .i64 0]) hS9 (by kernel_rfl) rfl rfl fun w5 hS10 => ?_
      have hS11 : St w0 w5 [Own.blk b1 (.cells #[.int .i64 2, .int .i64 0] 26 (0, 0)), Own.blk b2 (.cells #[.int .i64 r1.Code, .int .i64 r1.At] 26 (0, 0))] := hS10
      refine ge_nil fun a hF => hK7 _ _ ?_ a hF
      have hS12 := hS11.nil (α := SJob) 30
      have hS13 := hS12.takeN 1
      obtain rfl := Option.some.inj h
      exact we_ret fun a hF => hQ _ _ _ (Outs.out nofun ⟨rfl, (post_ret (rs := [.tmp 8, .cell 9 26]) (ans := [.val (.int .i64 2), .val (.int .i64 0)]) (vs := [(.slice none 0 0), .agg #[.int .i64 2, .int .i64 0]]) (l := [.loaded ⟨b1, 0, none⟩ (.int .i64 2), .loaded ⟨b1, 1, none⟩ (.int .i64 0)]) rfl (by kernel_rfl) ⟨hS12.cell 1 rfl rfl, hS12.cell 1 rfl rfl, trivial⟩ ⟨(.slice none 0 0), rfl, hS13⟩) a hF⟩)
  · rw [if_neg hc2] at h
    refine ge_known (t := 27) (b := ((l2.length : Int) != (l1.length : Int))) (c := true) (by kernel_rfl) (bne_iff_ne.2 hc2) ?_
    refine ge_batch [6, 7, 8, 9, 10, 11] (ans := []) (vs := [(33, .bool true), (32, undef), (31, undef), (30, undef), (29, undef), (28, undef)]) (l := []) (by kernel_rfl) trivial ?_
    refine ge_nil fun a hF => hK6 _ _ ?_ a hF
    refine we_true (by kernel_rfl) ?_
    refine we_seq fun K8 hK8 => ?_
    refine we_region [(0, 0), (1, 0), (2, 2)] rfl ?_
    refine ge_batch [0, 1] (ans := []) (vs := [(8, .slice none 0 0), (34, .agg #[.int .i64 2, .int .i64 0])]) (l := []) (by kernel_rfl) trivial ?_
    have hS14 := hS.bring 1 rfl
    refine ge_set (b := b1) (j := 0) (cs := #[.int .i64 0, .int .i64 0]) (t := 26) (vs := [.int .i64 2, .int .i64 0]) hS14 (by kernel_rfl) rfl rfl fun w6 hS15 => ?_
    have hS16 : St w0 w6 [Own.blk b1 (.cells #[.int .i64 2, .int .i64 0] 26 (0, 0)), Own.blk b2 (.cells #[.int .i64 r1.Code, .int .i64 r1.At] 26 (0, 0))] := hS15
    refine ge_nil fun a hF => hK8 _ _ ?_ a hF
    have hS17 := hS16.nil (α := SJob) 30
    have hS18 := hS17.takeN 1
    obtain rfl := Option.some.inj h
    exact we_ret fun a hF => hQ _ _ _ (Outs.out nofun ⟨rfl, (post_ret (rs := [.tmp 8, .cell 9 26]) (ans := [.val (.int .i64 2), .val (.int .i64 0)]) (vs := [(.slice none 0 0), .agg #[.int .i64 2, .int .i64 0]]) (l := [.loaded ⟨b1, 0, none⟩ (.int .i64 2), .loaded ⟨b1, 1, none⟩ (.int .i64 0)]) rfl (by kernel_rfl) ⟨hS17.cell 1 rfl rfl, hS17.cell 1 rfl rfl, trivial⟩ ⟨(.slice none 0 0), rfl, hS18⟩) a hF⟩)
abbrev tasks_Jobs.A2 (K : Nat) (w0 : World) (l0 : List STask) (A0 : Option Addr) (c0 : Nat) (l1 : List SCome) (A1 : Option Addr) (c1 : Nat) (l2 : List Int) (A2 : Option Addr) (c2 : Nat) (l3 : List Int) (A3 : Option Addr) (c3 : Nat) (hR0 : RdL w0 A0 l0) (hL0 : l0.length ≤ c0) (hR1 : RdL w0 A1 l1) (hL1 : l1.length ≤ c1) (hR2 : RdL w0 A2 l2) (hL2 : l2.length ≤ c2) (hR3 : RdL w0 A3 l3) (hL3 : l3.length ≤ c3) (b1 : Nat) (r1 : SFault) (b2 : Nat) (hc1 : r1.Code = 0) (m1 : List SJob) (i1 : Nat) (hc4 : (i1 : Int) < (l1.length : Int)) (e1 : SCome) (hx3 : l1[i1]? = some e1) (b3 : Nat) (hc5 : 0 ≤ e1.Task) (e2 : STask) (hx5 : l0[(e1.Task).toNat]? = some e2) (b4 : Nat) (Z1 : Option Addr) (cz1 : Nat) : Unit → Act → World → Prop := fun (s : Unit) a w => St w0 w [Own.blk b4 (.cells #[.string e2.Name, .int .i64 e2.C, .int .i64 e2.T, .int .i64 e2.D, .int .i64 e2.J, .int .i64 e2.O, .int .i64 e2.P] 46 (0, 0)), Own.blk b3 (.cells #[.int .i64 e1.Task, .int .i64 e1.At] 53 (0, 0)), Own.blk b1 (.cells #[.int .i64 0, .int .i64 0] 26 (0, 0)), Own.of (.slice Z1 m1.length cz1) 30 m1] ∧ Frm 106 a [(0, .slice A0 l0.length c0), (2, .slice A2 l2.length c2), (3, .slice A3 l3.length c3), (9, .pointer (some ⟨b1, 0, none⟩)), (11, (.slice Z1 m1.length cz1)), (12, .int .i64 (i1 : Int)), (13, .pointer (some ⟨b3, 0, none⟩)), (14, .pointer (some ⟨b4, 0, none⟩)), (35, .slice A1 l1.length c1), (36, .int .i64 (l1.length : Int)), (37, .int .i64 (i1 : Int))]
abbrev tasks_Jobs.B2 (K : Nat) (w0 : World) (l0 : List STask) (A0 : Option Addr) (c0 : Nat) (l1 : List SCome) (A1 : Option Addr) (c1 : Nat) (l2 : List Int) (A2 : Option Addr) (c2 : Nat) (l3 : List Int) (A3 : Option Addr) (c3 : Nat) (hR0 : RdL w0 A0 l0) (hL0 : l0.length ≤ c0) (hR1 : RdL w0 A1 l1) (hL1 : l1.length ≤ c1) (hR2 : RdL w0 A2 l2) (hL2 : l2.length ≤ c2) (hR3 : RdL w0 A3 l3) (hL3 : l3.length ≤ c3) (b1 : Nat) (r1 : SFault) (b2 : Nat) (hc1 : r1.Code = 0) (m1 : List SJob) (i1 : Nat) (hc4 : (i1 : Int) < (l1.length : Int)) (e1 : SCome) (hx3 : l1[i1]? = some e1) (b3 : Nat) (hc5 : 0 ≤ e1.Task) (e2 : STask) (hx5 : l0[(e1.Task).toNat]? = some e2) (b4 : Nat) (Z1 : Option Addr) (cz1 : Nat) : ((List SJob) × SFault) → Exit → Act → World → Prop := Rets Tryd.prog Tryd.f25 (tasks_Jobs.Post w0)
theorem tasks_Jobs_p2 (K : Nat) (w0 : World) (l0 : List STask) (A0 : Option Addr) (c0 : Nat) (l1 : List SCome) (A1 : Option Addr) (c1 : Nat) (l2 : List Int) (A2 : Option Addr) (c2 : Nat) (l3 : List Int) (A3 : Option Addr) (c3 : Nat) (hR0 : RdL w0 A0 l0) (hL0 : l0.length ≤ c0) (hR1 : RdL w0 A1 l1) (hL1 : l1.length ≤ c1) (hR2 : RdL w0 A2 l2) (hL2 : l2.length ≤ c2) (hR3 : RdL w0 A3 l3) (hL3 : l3.length ≤ c3) (b1 : Nat) (r1 : SFault) (b2 : Nat) (hc1 : r1.Code = 0) (m1 : List SJob) (i1 : Nat) (hc4 : (i1 : Int) < (l1.length : Int)) (e1 : SCome) (hx3 : l1[i1]? = some e1) (b3 : Nat) (hc5 : 0 ≤ e1.Task) (e2 : STask) (hx5 : l0[(e1.Task).toNat]? = some e2) (b4 : Nat) (Z1 : Option Addr) (cz1 : Nat) (o : Unit ⊕ ((List SJob) × SFault)) (h : tasks_Jobs.p2 l2 l3 i1 e2 = some o) (w : World) (hS : St w0 w [Own.blk b4 (.cells #[.string e2.Name, .int .i64 e2.C, .int .i64 e2.T, .int .i64 e2.D, .int .i64 e2.J, .int .i64 e2.O, .int .i64 e2.P] 46 (0, 0)), Own.blk b3 (.cells #[.int .i64 e1.Task, .int .i64 e1.At] 53 (0, 0)), Own.blk b1 (.cells #[.int .i64 0, .int .i64 0] 26 (0, 0)), Own.of (.slice Z1 m1.length cz1) 30 m1]) (Q : Exit → Act → World → Prop) (hQ : ∀ x a w, Outs (tasks_Jobs.A2 K w0 l0 A0 c0 l1 A1 c1 l2 A2 c2 l3 A3 c3 hR0 hL0 hR1 hL1 hR2 hL2 hR3 hL3 b1 r1 b2 hc1 m1 i1 hc4 e1 hx3 b3 hc5 e2 hx5 b4 Z1 cz1) (tasks_Jobs.B2 K w0 l0 A0 c0 l1 A1 c1 l2 A2 c2 l3 A3 c3 hR0 hL0 hR1 hL1 hR2 hL2 hR3 hL3 b1 r1 b2 hc1 m1 i1 hc4 e1 hx3 b3 hc5 e2 hx5 b4 Z1 cz1) o x a w → Q x a w) : WE Tryd.prog 106 (subF Tryd.f25 [1, 1, 1, 1, 0, 1, 0, 0, 1, 1, 0, 0, 1, 1, 0]) Q [(0, .slice A0 l0.length c0), (2, .slice A2 l2.length c2), (3, .slice A3 l3.length c3), (9, .pointer (some ⟨b1, 0, none⟩)), (11, (.slice Z1 m1.length cz1)), (12, .int .i64 (i1 : Int)), (13, .pointer (some ⟨b3, 0, none⟩)), (14, .pointer (some ⟨b4, 0, none⟩)), (35, .slice A1 l1.length c1), (36, .int .i64 (l1.length : Int)), (37, .int .i64 (i1 : Int)), (38, .bool true), (39, .int .i64 (i1 : Int)), (40, .pointer (some ⟨blkOf A1, offOf A1 + i1 * 2, none⟩)), (41, .agg #[.int .i64 e1.Task, .int .i64 e1.At]), (42, .slice A0 l0.length c0), (43, .pointer (some ⟨b3, 0, none⟩)), (44, .int .i64 e1.Task), (45, .pointer (some ⟨blkOf A0, offOf A0 + (e1.Task).toNat * 7, none⟩)), (46, .agg #[.string e2.Name, .int .i64 e2.C, .int .i64 e2.T, .int .i64 e2.D, .int .i64 e2.J, .int .i64 e2.O, .int .i64 e2.P])] w := by
  simp only [tasks_Jobs.p2] at h
  refine we_seq fun K18 hK18 => ?_
  refine we_draws (by kernel_rfl) [(0, 0), (1, 0), (2, 0), (3, 0), (4, 0), (5, 0), (6, 0), (7, 0), (8, 0), (9, 0), (10, 0), (11, 0), (12, 0), (13, 0), (14, 0), (15, 0), (16, 0), (17, 0), (18, 0), (19, 0), (20, 0), (21, 0), (22, 0), (23, 0), (24, 0), (25, 0), (26, 0), (27, 0), (28, 0), (29, 0)] (by kernel_rfl) ?_
  have hS28 := hS.drew
  refine ge_batch [0, 1] (ans := []) (vs := [(48, .int .i64 (i1 : Int)), (47, .slice A2 l2.length c2)]) (l := []) (by kernel_rfl) trivial ?_
  rcases hx7 : l2[i1]? with _ | e3
  · rw [hx7] at h; cases h
  rw [hx7] at h
  simp only [] at h
  refine ge_index (d := 49) (ty := 0) (t := 23) (el := 3) (sz := 1) (m := l2.length) (c := c2) (x := (.tmp 47)) (y := (.tmp 48)) (A := A2) (k' := .i64) (j := (i1 : Int)) (jn := i1) (b0 := blkOf A2) (o0 := offOf A2) (by kernel_rfl) (by kernel_rfl) (by kernel_rfl) (by kernel_rfl) (by kernel_rfl) ((hS28.rd hR2).eqSome (pos_of_get hx7)) rfl (lt_of_get hx7) ?_
  refine ge_batch [3, 4, 5] (ans := [.val (.int .i64 e3)]) (vs := [(52, .bool (decide (e3 < 0))), (51, .bool (decide (e3 < 0))), (50, .int .i64 e3)]) (l := [.loaded ⟨blkOf A2, offOf A2 + i1 * 1, none⟩ (.int .i64 e3)]) (by kernel_rfl) ⟨RdL.cell (j := 0) (hS28.rd hR2) hx7 rfl, trivial⟩ ?_
  by_cases hc6 : e3 < 0
  · rw [if_pos hc6] at h
    refine ge_known (t := 52) (b := decide (e3 < 0)) (c := true) (by kernel_rfl) (decide_eq_true hc6) ?_
    refine ge_batch [6, 7, 8, 9, 10, 11, 12, 13, 14, 15, 16, 17, 18, 19, 20, 21, 22, 23, 24, 25, 26, 27, 28, 29] (ans := []) (vs := [(76, .bool true), (75, undef), (74, undef), (73, undef), (72, undef), (71, undef), (70, undef), (69, undef), (68, .bool true), (67, .bool true), (66, undef), (65, undef), (64, undef), (63, undef), (62, undef), (61, .bool true), (60, .bool true), (59, undef), (58, undef), (57, undef), (56, undef), (55, undef), (54, undef), (53, undef)]) (l := []) (by kernel_rfl) trivial ?_
    refine ge_nil fun a hF => hK18 _ _ ?_ a hF
    refine we_true (by kernel_rfl) ?_
    refine we_seq fun K19 hK19 => ?_
    refine we_region [(0, 0), (1, 0), (2, 0), (3, 2)] rfl ?_
    refine ge_batch [0, 1, 2] (ans := []) (vs := [(8, .slice none 0 0), (78, .agg #[.int .i64 3, .int .i64 (i1 : Int)]), (77, .int .i64 (i1 : Int))]) (l := []) (by kernel_rfl) trivial ?_
    have hS29 := hS28.bring 2 rfl
    refine ge_set (b := b1) (j := 0) (cs := #[.int .i64 0, .int .i64 0]) (t := 26) (vs := [.int .i64 3, .int .i64 (i1 : Int)]) hS29 (by kernel_rfl) rfl rfl fun w12 hS30 => ?_
    have hS31 : St w0 w12 [Own.blk b1 (.cells #[.int .i64 3, .int .i64 (i1 : Int)] 26 (0, 0)), Own.blk b4 (.cells #[.string e2.Name, .int .i64 e2.C, .int .i64 e2.T, .int .i64 e2.D, .int .i64 e2.J, .int .i64 e2.O, .int .i64 e2.P] 46 (0, 0)), Own.blk b3 (.cells #[.int .i64 e1.Task, .int .i64 e1.At] 53 (0, 0)), Own.of (.slice Z1 m1.length cz1) 30 m1] := hS30
    refine ge_nil fun a hF => hK19 _ _ ?_ a hF
    have hS32 := hS31.nil (α := SJob) 30
    have hS33 := hS32.takeN 1
    obtain rfl := Option.some.inj h
    exact we_ret fun a hF => hQ _ _ _ (Outs.out nofun ⟨rfl, (post_ret (rs := [.tmp 8, .cell 9 26]) (ans := [.val (.int .i64 3), .val (.int .i64 (i1 : Int))]) (vs := [(.slice none 0 0), .agg #[.int .i64 3, .int .i64 (i1 : Int)]]) (l := [.loaded ⟨b1, 0, none⟩ (.int .i64 3), .loaded ⟨b1, 1, none⟩ (.int .i64 (i1 : Int))]) rfl (by kernel_rfl) ⟨hS32.cell 1 rfl rfl, hS32.cell 1 rfl rfl, trivial⟩ ⟨(.slice none 0 0), rfl, hS33⟩) a hF⟩)
  · rw [if_neg hc6] at h
    refine ge_known (t := 52) (b := decide (e3 < 0)) (c := false) (by kernel_rfl) (decide_eq_false hc6) ?_
    refine ge_batch [6, 7] (ans := []) (vs := [(54, .int .i64 (i1 : Int)), (53, .slice A2 l2.length c2)]) (l := []) (by kernel_rfl) trivial ?_
    refine ge_index (d := 55) (ty := 0) (t := 23) (el := 3) (sz := 1) (m := l2.length) (c := c2) (x := (.tmp 53)) (y := (.tmp 54)) (A := A2) (k' := .i64) (j := (i1 : Int)) (jn := i1) (b0 := blkOf A2) (o0 := offOf A2) (by kernel_rfl) (by kernel_rfl) (by kernel_rfl) (by kernel_rfl) (by kernel_rfl) ((hS28.rd hR2).eqSome (pos_of_get hx7)) rfl (lt_of_get hx7) ?_
    refine ge_batch [9, 10, 11, 12, 13, 14] (ans := [.val (.int .i64 e3), .val (.int .i64 e2.J)]) (vs := [(61, .bool (decide (e3 > e2.J))), (60, .bool (decide (e3 > e2.J))), (59, .bool (decide (e3 > e2.J))), (58, .int .i64 e2.J), (57, .pointer (some ⟨b4, 4, none⟩)), (56, .int .i64 e3)]) (l := [.loaded ⟨blkOf A2, offOf A2 + i1 * 1, none⟩ (.int .i64 e3), .loaded ⟨b4, 4, none⟩ (.int .i64 e2.J)]) (by kernel_rfl) ⟨RdL.cell (j := 0) (hS28.rd hR2) hx7 rfl, hS28.cell 0 rfl rfl, trivial⟩ ?_
    by_cases hc7 : e3 > e2.J
    · rw [if_pos hc7] at h
      refine ge_known (t := 61) (b := decide (e3 > e2.J)) (c := true) (by kernel_rfl) (decide_eq_true hc7) ?_
      refine ge_batch [15, 16, 17, 18, 19, 20, 21, 22, 23, 24, 25, 26, 27, 28, 29] (ans := []) (vs := [(76, .bool true), (75, undef), (74, undef), (73, undef), (72, undef), (71, undef), (70, undef), (69, undef), (68, .bool true), (67, .bool true), (66, undef), (65, undef), (64, undef), (63, undef), (62, undef)]) (l := []) (by kernel_rfl) trivial ?_
      refine ge_nil fun a hF => hK18 _ _ ?_ a hF
      refine we_true (by kernel_rfl) ?_
      refine we_seq fun K20 hK20 => ?_
      refine we_region [(0, 0), (1, 0), (2, 0), (3, 2)] rfl ?_
      refine ge_batch [0, 1, 2] (ans := []) (vs := [(8, .slice none 0 0), (78, .agg #[.int .i64 3, .int .i64 (i1 : Int)]), (77, .int .i64 (i1 : Int))]) (l := []) (by kernel_rfl) trivial ?_
      have hS34 := hS28.bring 2 rfl
      refine ge_set (b := b1) (j := 0) (cs := #[.int .i64 0, .int .i64 0]) (t := 26) (vs := [.int .i64 3, .int .i64 (i1 : Int)]) hS34 (by kernel_rfl) rfl rfl fun w13 hS35 => ?_
      have hS36 : St w0 w13 [Own.blk b1 (.cells #[.int .i64 3, .int .i64 (i1 : Int)] 26 (0, 0)), Own.blk b4 (.cells #[.string e2.Name, .int .i64 e2.C, .int .i64 e2.T, .int .i64 e2.D, .int .i64 e2.J, .int .i64 e2.O, .int .i64 e2.P] 46 (0, 0)), Own.blk b3 (.cells #[.int .i64 e1.Task, .int .i64 e1.At] 53 (0, 0)), Own.of (.slice Z1 m1.length cz1) 30 m1] := hS35
      refine ge_nil fun a hF => hK20 _ _ ?_ a hF
      have hS37 := hS36.nil (α := SJob) 30
      have hS38 := hS37.takeN 1
      obtain rfl := Option.some.inj h
      exact we_ret fun a hF => hQ _ _ _ (Outs.out nofun ⟨rfl, (post_ret (rs := [.tmp 8, .cell 9 26]) (ans := [.val (.int .i64 3), .val (.int .i64 (i1 : Int))]) (vs := [(.slice none 0 0), .agg #[.int .i64 3, .int .i64 (i1 : Int)]]) (l := [.loaded ⟨b1, 0, none⟩ (.int .i64 3), .loaded ⟨b1, 1, none⟩ (.int .i64 (i1 : Int))]) rfl (by kernel_rfl) ⟨hS37.cell 1 rfl rfl, hS37.cell 1 rfl rfl, trivial⟩ ⟨(.slice none 0 0), rfl, hS38⟩) a hF⟩)
    · rw [if_neg hc7] at h
      refine ge_known (t := 61) (b := decide (e3 > e2.J)) (c := false) (by kernel_rfl) (decide_eq_false hc7) ?_
      refine ge_batch [15, 16] (ans := []) (vs := [(63, .int .i64 (i1 : Int)), (62, .slice A3 l3.length c3)]) (l := []) (by kernel_rfl) trivial ?_
      rcases hx8 : l3[i1]? with _ | e4
      · rw [hx8] at h; cases h
      rw [hx8] at h
      simp only [] at h
      refine ge_index (d := 64) (ty := 0) (t := 23) (el := 3) (sz := 1) (m := l3.length) (c := c3) (x := (.tmp 62)) (y := (.tmp 63)) (A := A3) (k' := .i64) (j := (i1 : Int)) (jn := i1) (b0 := blkOf A3) (o0 := offOf A3) (by kernel_rfl) (by kernel_rfl) (by kernel_rfl) (by kernel_rfl) (by kernel_rfl) ((hS28.rd hR3).eqSome (pos_of_get hx8)) rfl (lt_of_get hx8) ?_
      refine ge_batch [18, 19, 20, 21] (ans := [.val (.int .i64 e4)]) (vs := [(68, .bool (decide (e4 < 1))), (67, .bool (decide (e4 < 1))), (66, .bool (decide (e4 < 1))), (65, .int .i64 e4)]) (l := [.loaded ⟨blkOf A3, offOf A3 + i1 * 1, none⟩ (.int .i64 e4)]) (by kernel_rfl) ⟨RdL.cell (j := 0) (hS28.rd hR3) hx8 rfl, trivial⟩ ?_
      by_cases hc8 : e4 < 1
      · rw [if_pos hc8] at h
        refine ge_known (t := 68) (b := decide (e4 < 1)) (c := true) (by kernel_rfl) (decide_eq_true hc8) ?_
        refine ge_batch [22, 23, 24, 25, 26, 27, 28, 29] (ans := []) (vs := [(76, .bool true), (75, undef), (74, undef), (73, undef), (72, undef), (71, undef), (70, undef), (69, undef)]) (l := []) (by kernel_rfl) trivial ?_
        refine ge_nil fun a hF => hK18 _ _ ?_ a hF
        refine we_true (by kernel_rfl) ?_
        refine we_seq fun K21 hK21 => ?_
        refine we_region [(0, 0), (1, 0), (2, 0), (3, 2)] rfl ?_
        refine ge_batch [0, 1, 2] (ans := []) (vs := [(8, .slice none 0 0), (78, .agg #[.int .i64 3, .int .i64 (i1 : Int)]), (77, .int .i64 (i1 : Int))]) (l := []) (by kernel_rfl) trivial ?_
        have hS39 := hS28.bring 2 rfl
        refine ge_set (b := b1) (j := 0) (cs := #[.int .i64 0, .int .i64 0]) (t := 26) (vs := [.int .i64 3, .int .i64 (i1 : Int)]) hS39 (by kernel_rfl) rfl rfl fun w14 hS40 => ?_
        have hS41 : St w0 w14 [Own.blk b1 (.cells #[.int .i64 3, .int .i64 (i1 : Int)] 26 (0, 0)), Own.blk b4 (.cells #[.string e2.Name, .int .i64 e2.C, .int .i64 e2.T, .int .i64 e2.D, .int .i64 e2.J, .int .i64 e2.O, .int .i64 e2.P] 46 (0, 0)), Own.blk b3 (.cells #[.int .i64 e1.Task, .int .i64 e1.At] 53 (0, 0)), Own.of (.slice Z1 m1.length cz1) 30 m1] := hS40
        refine ge_nil fun a hF => hK21 _ _ ?_ a hF
        have hS42 := hS41.nil (α := SJob) 30
        have hS43 := hS42.takeN 1
        obtain rfl := Option.some.inj h
        exact we_ret fun a hF => hQ _ _ _ (Outs.out nofun ⟨rfl, (post_ret (rs := [.tmp 8, .cell 9 26]) (ans := [.val (.int .i64 3), .val (.int .i64 (i1 : Int))]) (vs := [(.slice none 0 0), .agg #[.int .i64 3, .int .i64 (i1 : Int)]]) (l := [.loaded ⟨b1, 0, none⟩ (.int .i64 3), .loaded ⟨b1, 1, none⟩ (.int .i64 (i1 : Int))]) rfl (by kernel_rfl) ⟨hS42.cell 1 rfl rfl, hS42.cell 1 rfl rfl, trivial⟩ ⟨(.slice none 0 0), rfl, hS43⟩) a hF⟩)
      · rw [if_neg hc8] at h
        refine ge_known (t := 68) (b := decide (e4 < 1)) (c := false) (by kernel_rfl) (decide_eq_false hc8) ?_
        refine ge_batch [22, 23] (ans := []) (vs := [(70, .int .i64 (i1 : Int)), (69, .slice A3 l3.length c3)]) (l := []) (by kernel_rfl) trivial ?_
        refine ge_index (d := 71) (ty := 0) (t := 23) (el := 3) (sz := 1) (m := l3.length) (c := c3) (x := (.tmp 69)) (y := (.tmp 70)) (A := A3) (k' := .i64) (j := (i1 : Int)) (jn := i1) (b0 := blkOf A3) (o0 := offOf A3) (by kernel_rfl) (by kernel_rfl) (by kernel_rfl) (by kernel_rfl) (by kernel_rfl) ((hS28.rd hR3).eqSome (pos_of_get hx8)) rfl (lt_of_get hx8) ?_
        refine ge_batch [25, 26, 27, 28, 29] (ans := [.val (.int .i64 e4), .val (.int .i64 e2.C)]) (vs := [(76, .bool (decide (e4 > e2.C))), (75, .bool (decide (e4 > e2.C))), (74, .int .i64 e2.C), (73, .pointer (some ⟨b4, 1, none⟩)), (72, .int .i64 e4)]) (l := [.loaded ⟨blkOf A3, offOf A3 + i1 * 1, none⟩ (.int .i64 e4), .loaded ⟨b4, 1, none⟩ (.int .i64 e2.C)]) (by kernel_rfl) ⟨RdL.cell (j := 0) (hS28.rd hR3) hx8 rfl, hS28.cell 0 rfl rfl, trivial⟩ ?_
        refine ge_nil fun a hF => hK18 _ _ ?_ a hF
        by_cases hc9 : e4 > e2.C
        · rw [if_pos hc9] at h
          refine we_known (t := 76) (b := decide (e4 > e2.C)) (v := true) (by kernel_rfl) (decide_eq_true hc9) ?_
          refine we_true (by kernel_rfl) ?_
          refine we_seq fun K22 hK22 => ?_
          refine we_region [(0, 0), (1, 0), (2, 0), (3, 2)] rfl ?_
          refine ge_batch [0, 1, 2] (ans := []) (vs := [(8, .slice none 0 0), (78, .agg #[.int .i64 3, .int .i64 (i1 : Int)]), (77, .int .i64 (i1 : Int))]) (l := []) (by kernel_rfl) trivial ?_
          have hS44 := hS28.bring 2 rfl
          refine ge_set (b := b1) (j := 0) (cs := #[.int .i64 0, .int .i64 0]) (t := 26) (vs := [.int .i64 3, .int .i64 (i1 : Int)]) hS44 (by kernel_rfl) rfl rfl fun w15 hS45 => ?_
          have hS46 : St w0 w15 [Own.blk b1 (.cells #[.int .i64 3, .int .i64 (i1 : Int)] 26 (0, 0)), Own.blk b4 (.cells #[.string e2.Name, .int .i64 e2.C, .int .i64 e2.T, .int .i64 e2.D, .int .i64 e2.J, .int .i64 e2.O, .int .i64 e2.P] 46 (0, 0)), Own.blk b3 (.cells #[.int .i64 e1.Task, .int .i64 e1.At] 53 (0, 0)), Own.of (.slice Z1 m1.length cz1) 30 m1] := hS45
          refine ge_nil fun a hF => hK22 _ _ ?_ a hF
          have hS47 := hS46.nil (α := SJob) 30
          have hS48 := hS47.takeN 1
          obtain rfl := Option.some.inj h
          exact we_ret fun a hF => hQ _ _ _ (Outs.out nofun ⟨rfl, (post_ret (rs := [.tmp 8, .cell 9 26]) (ans := [.val (.int .i64 3), .val (.int .i64 (i1 : Int))]) (vs := [(.slice none 0 0), .agg #[.int .i64 3, .int .i64 (i1 : Int)]]) (l := [.loaded ⟨b1, 0, none⟩ (.int .i64 3), .loaded ⟨b1, 1, none⟩ (.int .i64 (i1 : Int))]) rfl (by kernel_rfl) ⟨hS47.cell 1 rfl rfl, hS47.cell 1 rfl rfl, trivial⟩ ⟨(.slice none 0 0), rfl, hS48⟩) a hF⟩)
        · rw [if_neg hc9] at h
          refine we_known (t := 76) (b := decide (e4 > e2.C)) (v := false) (by kernel_rfl) (decide_eq_false hc9) ?_
          refine we_false (by kernel_rfl) ?_
          have hS49 := hS28.bring 3 rfl
          have hS50 := hS49.bring 3 rfl
          have hS51 := hS50.bring 3 rfl
          have hS52 := hS51.bring 3 rfl
          obtain rfl := Option.some.inj h
          exact we_skip fun a hF => hQ _ _ _ (Outs.again ⟨hS52, hF.weaken ⟨by kernel_rfl, by kernel_rfl, by kernel_rfl, by kernel_rfl, by kernel_rfl, by kernel_rfl, by kernel_rfl, by kernel_rfl, by kernel_rfl, by kernel_rfl, by kernel_rfl, trivial⟩⟩)
abbrev tasks_Jobs.A1 (K : Nat) (w0 : World) (l0 : List STask) (A0 : Option Addr) (c0 : Nat) (l1 : List SCome) (A1 : Option Addr) (c1 : Nat) (l2 : List Int) (A2 : Option Addr) (c2 : Nat) (l3 : List Int) (A3 : Option Addr) (c3 : Nat) (hR0 : RdL w0 A0 l0) (hL0 : l0.length ≤ c0) (hR1 : RdL w0 A1 l1) (hL1 : l1.length ≤ c1) (hR2 : RdL w0 A2 l2) (hL2 : l2.length ≤ c2) (hR3 : RdL w0 A3 l3) (hL3 : l3.length ≤ c3) (b1 : Nat) (r1 : SFault) (b2 : Nat) (hc1 : r1.Code = 0) : ((List SJob) × Nat) → Act → World → Prop := fun (s : (List SJob) × Nat) a w => ∃ (v1 : Value), St w0 w [Own.blk b1 (.cells #[.int .i64 0, .int .i64 0] 26 (0, 0)), Own.of v1 30 s.1] ∧ Frm 106 a [(0, .slice A0 l0.length c0), (2, .slice A2 l2.length c2), (3, .slice A3 l3.length c3), (9, .pointer (some ⟨b1, 0, none⟩)), (11, v1), (35, .slice A1 l1.length c1), (36, .int .i64 (l1.length : Int)), (37, .int .i64 (s.2 : Int))]
abbrev tasks_Jobs.B1 (K : Nat) (w0 : World) (l0 : List STask) (A0 : Option Addr) (c0 : Nat) (l1 : List SCome) (A1 : Option Addr) (c1 : Nat) (l2 : List Int) (A2 : Option Addr) (c2 : Nat) (l3 : List Int) (A3 : Option Addr) (c3 : Nat) (hR0 : RdL w0 A0 l0) (hL0 : l0.length ≤ c0) (hR1 : RdL w0 A1 l1) (hL1 : l1.length ≤ c1) (hR2 : RdL w0 A2 l2) (hL2 : l2.length ≤ c2) (hR3 : RdL w0 A3 l3) (hL3 : l3.length ≤ c3) (b1 : Nat) (r1 : SFault) (b2 : Nat) (hc1 : r1.Code = 0) : ((List SJob) ⊕ ((List SJob) × SFault)) → Exit → Act → World → Prop := Exits 0 (fun (s : (List SJob)) a w => ∃ (v2 : Value), St w0 w [Own.blk b1 (.cells #[.int .i64 0, .int .i64 0] 26 (0, 0)), Own.of v2 30 s] ∧ Frm 106 a [(9, .pointer (some ⟨b1, 0, none⟩)), (11, v2)]) (Rets Tryd.prog Tryd.f25 (tasks_Jobs.Post w0))
theorem tasks_Jobs_r1 (K : Nat) (w0 : World) (l0 : List STask) (A0 : Option Addr) (c0 : Nat) (l1 : List SCome) (A1 : Option Addr) (c1 : Nat) (l2 : List Int) (A2 : Option Addr) (c2 : Nat) (l3 : List Int) (A3 : Option Addr) (c3 : Nat) (hR0 : RdL w0 A0 l0) (hL0 : l0.length ≤ c0) (hR1 : RdL w0 A1 l1) (hL1 : l1.length ≤ c1) (hR2 : RdL w0 A2 l2) (hL2 : l2.length ≤ c2) (hR3 : RdL w0 A3 l3) (hL3 : l3.length ≤ c3) (b1 : Nat) (r1 : SFault) (b2 : Nat) (hc1 : r1.Code = 0) (s : (List SJob) × Nat) (o : ((List SJob) × Nat) ⊕ ((List SJob) ⊕ ((List SJob) × SFault))) (h : tasks_Jobs.r1 l0 l1 l2 l3 s = some o) (a : Act) (w : World) (hA : tasks_Jobs.A1 K w0 l0 A0 c0 l1 A1 c1 l2 A2 c2 l3 A3 c3 hR0 hL0 hR1 hL1 hR2 hL2 hR3 hL3 b1 r1 b2 hc1 s a w) (Q : Exit → Act → World → Prop) (hQ : ∀ x a w, Outs (tasks_Jobs.A1 K w0 l0 A0 c0 l1 A1 c1 l2 A2 c2 l3 A3 c3 hR0 hL0 hR1 hL1 hR2 hL2 hR3 hL3 b1 r1 b2 hc1) (tasks_Jobs.B1 K w0 l0 A0 c0 l1 A1 c1 l2 A2 c2 l3 A3 c3 hR0 hL0 hR1 hL1 hR2 hL2 hR3 hL3 b1 r1 b2 hc1) o x a w → Q x a w) : (subF Tryd.f25 [1, 1, 1, 1, 0, 1, 0, 0]).wp Tryd.prog Q a w := by
  obtain ⟨m1, i1⟩ := s
  obtain ⟨v1, hS, hF⟩ := hA
  replace hS : St w0 w [Own.blk b1 (.cells #[.int .i64 0, .int .i64 0] 26 (0, 0)), Own.of v1 30 m1] := hS
  simp only [tasks_Jobs.r1] at h
  refine (?_ : WE Tryd.prog 106 (subF Tryd.f25 [1, 1, 1, 1, 0, 1, 0, 0]) Q [(0, .slice A0 l0.length c0), (2, .slice A2 l2.length c2), (3, .slice A3 l3.length c3), (9, .pointer (some ⟨b1, 0, none⟩)), (11, v1), (35, .slice A1 l1.length c1), (36, .int .i64 (l1.length : Int)), (37, .int .i64 (i1 : Int))] w) a hF
  clear hF a
  refine we_seq fun K12 hK12 => ?_
  refine we_region [(0, 0)] rfl ?_
  refine ge_batch [0] (ans := []) (vs := [(38, .bool (decide ((i1 : Int) < (l1.length : Int))))]) (l := []) (by kernel_rfl) trivial ?_
  refine ge_nil fun a hF => hK12 _ _ ?_ a hF
  refine we_seq fun K13 hK13 => ?_
  by_cases hc4 : (i1 : Int) < (l1.length : Int)
  · rw [if_pos hc4] at h
    refine we_known (t := 38) (b := decide ((i1 : Int) < (l1.length : Int))) (v := true) (by kernel_rfl) (decide_eq_true hc4) ?_
    refine we_true (by kernel_rfl) ?_
    refine we_skip fun a hF => hK13 _ _ ?_ a hF
    refine we_seq fun K14 hK14 => ?_
    refine we_block ?_
    refine we_seq fun K15 hK15 => ?_
    refine we_region [(0, 0), (1, 0), (2, 0), (3, 1), (4, 0), (5, 2)] rfl ?_
    refine ge_batch [0] (ans := []) (vs := [(39, .int .i64 (i1 : Int))]) (l := []) (by kernel_rfl) trivial ?_
    rcases hx3 : l1[i1]? with _ | e1
    · rw [hx3] at h; cases h
    rw [hx3] at h
    simp only [] at h
    refine ge_index (d := 40) (ty := 0) (t := 49) (el := 53) (sz := 2) (m := l1.length) (c := c1) (x := (.tmp 35)) (y := (.tmp 37)) (A := A1) (k' := .i64) (j := (i1 : Int)) (jn := i1) (b0 := blkOf A1) (o0 := offOf A1) (by kernel_rfl) (by kernel_rfl) (by kernel_rfl) (by kernel_rfl) (by kernel_rfl) ((hS.rd hR1).eqSome (pos_of_get hx3)) rfl (lt_of_get hx3) ?_
    refine ge_batch [2] (ans := [.val (.int .i64 e1.Task), .val (.int .i64 e1.At)]) (vs := [(41, .agg #[.int .i64 e1.Task, .int .i64 e1.At])]) (l := [.loaded ⟨blkOf A1, offOf A1 + i1 * 2, none⟩ (.int .i64 e1.Task), .loaded ⟨blkOf A1, offOf A1 + i1 * 2 + 1, none⟩ (.int .i64 e1.At)]) (by kernel_rfl) ⟨RdL.cell (j := 0) (hS.rd hR1) hx3 rfl, RdL.cell (j := 1) (hS.rd hR1) hx3 rfl, trivial⟩ ?_
    refine ge_new (d := some 13) (o := .cells #[.int .i64 0, .int .i64 0] 53) (v := fun b => .pointer (some ⟨b, 0, none⟩)) hS (fun b => by kernel_rfl) fun b3 w8 hx4 hS22 => ?_
    refine ge_batch [4] (ans := []) (vs := [(12, .int .i64 (i1 : Int))]) (l := []) (by kernel_rfl) trivial ?_
    refine ge_set (b := b3) (j := 0) (cs := #[.int .i64 0, .int .i64 0]) (t := 53) (vs := [.int .i64 e1.Task, .int .i64 e1.At]) hS22 (by kernel_rfl) rfl rfl fun w9 hS23 => ?_
    have hS24 : St w0 w9 [Own.blk b3 (.cells #[.int .i64 e1.Task, .int .i64 e1.At] 53 (0, 0)), Own.blk b1 (.cells #[.int .i64 0, .int .i64 0] 26 (0, 0)), Own.of v1 30 m1] := hS23
    refine ge_nil fun a hF => hK15 _ _ ?_ a hF
    refine we_seq fun K16 hK16 => ?_
    refine we_region [(0, 0), (1, 0), (2, 0), (3, 0), (4, 0), (5, 1), (6, 2)] rfl ?_
    refine ge_batch [0, 1, 2] (ans := [.val (.int .i64 e1.Task)]) (vs := [(44, .int .i64 e1.Task), (43, .pointer (some ⟨b3, 0, none⟩)), (42, .slice A0 l0.length c0)]) (l := [.loaded ⟨b3, 0, none⟩ (.int .i64 e1.Task)]) (by kernel_rfl) ⟨hS24.cell 0 rfl rfl, trivial⟩ ?_
    by_cases hc5 : 0 ≤ e1.Task
    · rw [if_pos hc5] at h
      rcases hx5 : l0[(e1.Task).toNat]? with _ | e2
      · rw [hx5] at h; cases h
      rw [hx5] at h
      simp only [] at h
      refine ge_index (d := 45) (ty := 0) (t := 40) (el := 46) (sz := 7) (m := l0.length) (c := c0) (x := (.tmp 42)) (y := (.tmp 44)) (A := A0) (k' := .i64) (j := e1.Task) (jn := ((e1.Task).toNat)) (b0 := blkOf A0) (o0 := offOf A0) (by kernel_rfl) (by kernel_rfl) (by kernel_rfl) (by kernel_rfl) (by kernel_rfl) ((hS24.rd hR0).eqSome (pos_of_get hx5)) (Int.toNat_of_nonneg hc5).symm (lt_of_get hx5) ?_
      refine ge_batch [4] (ans := [.val (.string e2.Name), .val (.int .i64 e2.C), .val (.int .i64 e2.T), .val (.int .i64 e2.D), .val (.int .i64 e2.J), .val (.int .i64 e2.O), .val (.int .i64 e2.P)]) (vs := [(46, .agg #[.string e2.Name, .int .i64 e2.C, .int .i64 e2.T, .int .i64 e2.D, .int .i64 e2.J, .int .i64 e2.O, .int .i64 e2.P])]) (l := [.loaded ⟨blkOf A0, offOf A0 + ((e1.Task).toNat) * 7, none⟩ (.string e2.Name), .loaded ⟨blkOf A0, offOf A0 + ((e1.Task).toNat) * 7 + 1, none⟩ (.int .i64 e2.C), .loaded ⟨blkOf A0, offOf A0 + ((e1.Task).toNat) * 7 + 2, none⟩ (.int .i64 e2.T), .loaded ⟨blkOf A0, offOf A0 + ((e1.Task).toNat) * 7 + 3, none⟩ (.int .i64 e2.D), .loaded ⟨blkOf A0, offOf A0 + ((e1.Task).toNat) * 7 + 4, none⟩ (.int .i64 e2.J), .loaded ⟨blkOf A0, offOf A0 + ((e1.Task).toNat) * 7 + 5, none⟩ (.int .i64 e2.O), .loaded ⟨blkOf A0, offOf A0 + ((e1.Task).toNat) * 7 + 6, none⟩ (.int .i64 e2.P)]) (by kernel_rfl) ⟨RdL.cell (j := 0) (hS24.rd hR0) hx5 rfl, RdL.cell (j := 1) (hS24.rd hR0) hx5 rfl, RdL.cell (j := 2) (hS24.rd hR0) hx5 rfl, RdL.cell (j := 3) (hS24.rd hR0) hx5 rfl, RdL.cell (j := 4) (hS24.rd hR0) hx5 rfl, RdL.cell (j := 5) (hS24.rd hR0) hx5 rfl, RdL.cell (j := 6) (hS24.rd hR0) hx5 rfl, trivial⟩ ?_
      refine ge_new (d := some 14) (o := .cells #[.string (⟨#[]⟩), .int .i64 0, .int .i64 0, .int .i64 0, .int .i64 0, .int .i64 0, .int .i64 0] 46) (v := fun b => .pointer (some ⟨b, 0, none⟩)) hS24 (fun b => by kernel_rfl) fun b4 w10 hx6 hS25 => ?_
      refine ge_set (b := b4) (j := 0) (cs := #[.string (⟨#[]⟩), .int .i64 0, .int .i64 0, .int .i64 0, .int .i64 0, .int .i64 0, .int .i64 0]) (t := 46) (vs := [.string e2.Name, .int .i64 e2.C, .int .i64 e2.T, .int .i64 e2.D, .int .i64 e2.J, .int .i64 e2.O, .int .i64 e2.P]) hS25 (by kernel_rfl) rfl rfl fun w11 hS26 => ?_
      have hS27 : St w0 w11 [Own.blk b4 (.cells #[.string e2.Name, .int .i64 e2.C, .int .i64 e2.T, .int .i64 e2.D, .int .i64 e2.J, .int .i64 e2.O, .int .i64 e2.P] 46 (0, 0)), Own.blk b3 (.cells #[.int .i64 e1.Task, .int .i64 e1.At] 53 (0, 0)), Own.blk b1 (.cells #[.int .i64 0, .int .i64 0] 26 (0, 0)), Own.of v1 30 m1] := hS26
      refine ge_nil fun a hF => hK16 _ _ ?_ a hF
      refine we_seq fun K17 hK17 => ?_
      obtain ⟨Z1, cz1, rfl⟩ := hS27.open 3 rfl
      rcases hq3 : tasks_Jobs.p2 l2 l3 i1 e2 with _ | (_ | rr1)
      · rw [hq3] at h; cases h
      · rw [hq3] at h
        simp only [] at h
        refine we_keep (e' := [(0, .slice A0 l0.length c0), (2, .slice A2 l2.length c2), (3, .slice A3 l3.length c3), (9, .pointer (some ⟨b1, 0, none⟩)), (11, (.slice Z1 m1.length cz1)), (12, .int .i64 (i1 : Int)), (13, .pointer (some ⟨b3, 0, none⟩)), (14, .pointer (some ⟨b4, 0, none⟩)), (35, .slice A1 l1.length c1), (36, .int .i64 (l1.length : Int)), (37, .int .i64 (i1 : Int)), (38, .bool true), (39, .int .i64 (i1 : Int)), (40, .pointer (some ⟨blkOf A1, offOf A1 + i1 * 2, none⟩)), (41, .agg #[.int .i64 e1.Task, .int .i64 e1.At]), (42, .slice A0 l0.length c0), (43, .pointer (some ⟨b3, 0, none⟩)), (44, .int .i64 e1.Task), (45, .pointer (some ⟨blkOf A0, offOf A0 + (e1.Task).toNat * 7, none⟩)), (46, .agg #[.string e2.Name, .int .i64 e2.C, .int .i64 e2.T, .int .i64 e2.D, .int .i64 e2.J, .int .i64 e2.O, .int .i64 e2.P])]) ⟨by kernel_rfl, by kernel_rfl, by kernel_rfl, by kernel_rfl, by kernel_rfl, by kernel_rfl, by kernel_rfl, by kernel_rfl, by kernel_rfl, by kernel_rfl, by kernel_rfl, by kernel_rfl, by kernel_rfl, by kernel_rfl, by kernel_rfl, by kernel_rfl, by kernel_rfl, by kernel_rfl, by kernel_rfl, by kernel_rfl, trivial⟩ (tasks_Jobs_p2 K w0 l0 A0 c0 l1 A1 c1 l2 A2 c2 l3 A3 c3 hR0 hL0 hR1 hL1 hR2 hL2 hR3 hL3 b1 r1 b2 hc1 m1 i1 hc4 e1 hx3 b3 hc5 e2 hx5 b4 Z1 cz1 _ hq3 _ hS27 _ ?_)
        rintro _ a w16 ⟨rfl, hS53, hF⟩
        replace hS53 : St w0 w16 [Own.blk b4 (.cells #[.string e2.Name, .int .i64 e2.C, .int .i64 e2.T, .int .i64 e2.D, .int .i64 e2.J, .int .i64 e2.O, .int .i64 e2.P] 46 (0, 0)), Own.blk b3 (.cells #[.int .i64 e1.Task, .int .i64 e1.At] 53 (0, 0)), Own.blk b1 (.cells #[.int .i64 0, .int .i64 0] 26 (0, 0)), Own.of (.slice Z1 m1.length cz1) 30 m1] := hS53
        refine hK17 [(0, .slice A0 l0.length c0), (2, .slice A2 l2.length c2), (3, .slice A3 l3.length c3), (9, .pointer (some ⟨b1, 0, none⟩)), (11, (.slice Z1 m1.length cz1)), (12, .int .i64 (i1 : Int)), (13, .pointer (some ⟨b3, 0, none⟩)), (14, .pointer (some ⟨b4, 0, none⟩)), (35, .slice A1 l1.length c1), (36, .int .i64 (l1.length : Int)), (37, .int .i64 (i1 : Int))] w16 ?_ a hF
        refine we_orders (by kernel_rfl) [⟨b3, 0, none⟩, ⟨b3, 1, none⟩, ⟨b4, 3, none⟩, ⟨b4, 6, none⟩, ⟨blkOf A2, offOf A2 + i1 * 1, none⟩, ⟨blkOf A3, offOf A3 + i1 * 1, none⟩] (.vals [0] (.vals [1] (.vals [2] (.vals [3] (.vals [4] (.vals [5] (.vals [6] (.vals [7] (.vals [8] (.vals [9] (.vals [10] (.vals [11] (.vals [12] (.vals [13] (.vals [14] (.vals [15] (.vals [16] (.vals [17] (.vals [18] (.vals [19] (.vals [20] (.vals [21] (.alt 22 1 (.alt 23 2 (.vals [24] .fin) .nomore) .nomore))))))))))))))))))))))) (by kernel_rfl) ?_
        have hS54 := hS53.drew
        refine go_batch [0, 1, 2, 3, 4, 5, 6] (ans := [.val (.int .i64 e1.Task), .val (.int .i64 e1.At)]) (vs := [(85, .int .i64 (i1 : Int)), (84, .slice A2 l2.length c2), (83, .int .i64 e1.At), (82, .pointer (some ⟨b3, 1, none⟩)), (81, .int .i64 e1.Task), (80, .pointer (some ⟨b3, 0, none⟩)), (79, (.slice Z1 m1.length cz1))]) (l := [.loaded ⟨b3, 0, none⟩ (.int .i64 e1.Task), .loaded ⟨b3, 1, none⟩ (.int .i64 e1.At)]) (by kernel_rfl) ⟨hS54.cell 1 rfl rfl, hS54.cell 1 rfl rfl, trivial⟩ (by simp [didAddrs]) ?_
        rcases hx9 : l2[i1]? with _ | e5
        · rw [hx9] at h; cases h
        rw [hx9] at h
        simp only [] at h
        refine go_index (d := 86) (ty := 0) (t := 23) (el := 3) (sz := 1) (m := l2.length) (c := c2) (x := (.tmp 84)) (y := (.tmp 85)) (A := A2) (k' := .i64) (j := (i1 : Int)) (jn := i1) (b0 := blkOf A2) (o0 := offOf A2) (by kernel_rfl) (by kernel_rfl) (by kernel_rfl) (by kernel_rfl) (by kernel_rfl) ((hS54.rd hR2).eqSome (pos_of_get hx9)) rfl (lt_of_get hx9) ?_
        refine go_batch [8, 9, 10, 11] (ans := [.val (.int .i64 e5)]) (vs := [(90, .int .i64 (i1 : Int)), (89, .slice A3 l3.length c3), (88, .int .i64 (IntKind.i64.wrap (e1.At + e5))), (87, .int .i64 e5)]) (l := [.loaded ⟨blkOf A2, offOf A2 + i1 * 1, none⟩ (.int .i64 e5)]) (by kernel_rfl) ⟨RdL.cell (j := 0) (hS54.rd hR2) hx9 rfl, trivial⟩ (by simp [didAddrs]) ?_
        rcases hx10 : l3[i1]? with _ | e6
        · rw [hx10] at h; cases h
        rw [hx10] at h
        simp only [] at h
        refine go_index (d := 91) (ty := 0) (t := 23) (el := 3) (sz := 1) (m := l3.length) (c := c3) (x := (.tmp 89)) (y := (.tmp 90)) (A := A3) (k' := .i64) (j := (i1 : Int)) (jn := i1) (b0 := blkOf A3) (o0 := offOf A3) (by kernel_rfl) (by kernel_rfl) (by kernel_rfl) (by kernel_rfl) (by kernel_rfl) ((hS54.rd hR3).eqSome (pos_of_get hx10)) rfl (lt_of_get hx10) ?_
        refine go_batch [13, 14, 15, 16, 17, 18, 19, 20, 21] (ans := [.val (.int .i64 e6), .val (.int .i64 e1.At), .val (.int .i64 e2.D), .val (.int .i64 e2.P)]) (vs := [(100, .agg #[.int .i64 e1.Task, .int .i64 (IntKind.i64.wrap (e1.At + e5)), .int .i64 e6, .int .i64 (IntKind.i64.wrap (e1.At + e2.D)), .int .i64 e2.P]), (99, .int .i64 e2.P), (98, .pointer (some ⟨b4, 6, none⟩)), (97, .int .i64 (IntKind.i64.wrap (e1.At + e2.D))), (96, .int .i64 e2.D), (95, .pointer (some ⟨b4, 3, none⟩)), (94, .int .i64 e1.At), (93, .pointer (some ⟨b3, 1, none⟩)), (92, .int .i64 e6)]) (l := [.loaded ⟨blkOf A3, offOf A3 + i1 * 1, none⟩ (.int .i64 e6), .loaded ⟨b3, 1, none⟩ (.int .i64 e1.At), .loaded ⟨b4, 3, none⟩ (.int .i64 e2.D), .loaded ⟨b4, 6, none⟩ (.int .i64 e2.P)]) (by kernel_rfl) ⟨RdL.cell (j := 0) (hS54.rd hR3) hx10 rfl, hS54.cell 1 rfl rfl, hS54.cell 0 rfl rfl, hS54.cell 0 rfl rfl, trivial⟩ (by simp [didAddrs]) ?_
        refine go_alt (fun K hK => ?_) ?_
        · refine ge_one2 ?_
          refine ge_new (d := some 101) (o := .cells #[.int .i64 e1.Task, .int .i64 (IntKind.i64.wrap (e1.At + e5)), .int .i64 e6, .int .i64 (IntKind.i64.wrap (e1.At + e2.D)), .int .i64 e2.P] 30) (v := fun b => .slice (some ⟨b, 0, none⟩) 1 1) hS54 (fun b => by kernel_rfl) fun b5 w17 hx11 hS55 => ?_
          refine ge_nil fun a hF => hK _ _ (RS.of (l := [.loaded ⟨b3, 0, none⟩ (.int .i64 e1.Task), .loaded ⟨b3, 1, none⟩ (.int .i64 e1.At), .loaded ⟨b4, 3, none⟩ (.int .i64 e2.D), .loaded ⟨b4, 6, none⟩ (.int .i64 e2.P), .loaded ⟨blkOf A2, offOf A2 + i1 * 1, none⟩ (.int .i64 e5), .loaded ⟨blkOf A3, offOf A3 + i1 * 1, none⟩ (.int .i64 e6)]) ⟨hS54.cell 1 rfl rfl, hS54.cell 1 rfl rfl, hS54.cell 0 rfl rfl, hS54.cell 0 rfl rfl, RdL.cell (j := 0) (hS54.rd hR2) hx9 rfl, RdL.cell (j := 0) (hS54.rd hR3) hx10 rfl, trivial⟩ ⟨hS55.cell 2 rfl rfl, hS55.cell 2 rfl rfl, hS55.cell 1 rfl rfl, hS55.cell 1 rfl rfl, RdL.cell (j := 0) (hS55.rd hR2) hx9 rfl, RdL.cell (j := 0) (hS55.rd hR3) hx10 rfl, trivial⟩) ?_ a hF
          refine go_alt (fun K hK => ?_) ?_
          · have hS56 := hS55.bring 4 rfl
            by_cases hc10 : m1.length < 3518437208883
            · rw [if_pos hc10] at h
              refine ge_append (α := SJob) (m := 0) (d := 102) (t := 22) (el := 30) (bytes := 40) (c1 := 1) (b1 := b5) (x := (.tmp 79)) (y := (.tmp 101)) (ty := 22) (v := (.slice Z1 m1.length cz1)) (z := .agg #[.int .i64 0, .int .i64 0, .int .i64 0, .int .i64 0, .int .i64 0]) (l := m1) (u := (⟨e1.Task, IntKind.i64.wrap (e1.At + e5), e6, IntKind.i64.wrap (e1.At + e2.D), e2.P⟩ : SJob)) (by kernel_rfl) (by kernel_rfl) (by kernel_rfl) (by kernel_rfl) (by kernel_rfl) rfl hS56 rfl (by omega) fun v3 w18 hS57 => ?_
              refine ge_nil fun a hF => hK _ _ (RS.of (l := [.loaded ⟨b3, 0, none⟩ (.int .i64 e1.Task), .loaded ⟨b3, 1, none⟩ (.int .i64 e1.At), .loaded ⟨b4, 3, none⟩ (.int .i64 e2.D), .loaded ⟨b4, 6, none⟩ (.int .i64 e2.P), .loaded ⟨blkOf A2, offOf A2 + i1 * 1, none⟩ (.int .i64 e5), .loaded ⟨blkOf A3, offOf A3 + i1 * 1, none⟩ (.int .i64 e6)]) ⟨hS55.cell 2 rfl rfl, hS55.cell 2 rfl rfl, hS55.cell 1 rfl rfl, hS55.cell 1 rfl rfl, RdL.cell (j := 0) (hS55.rd hR2) hx9 rfl, RdL.cell (j := 0) (hS55.rd hR3) hx10 rfl, trivial⟩ ⟨hS57.cell 2 rfl rfl, hS57.cell 2 rfl rfl, hS57.cell 1 rfl rfl, hS57.cell 1 rfl rfl, RdL.cell (j := 0) (hS57.rd hR2) hx9 rfl, RdL.cell (j := 0) (hS57.rd hR3) hx10 rfl, trivial⟩) ?_ a hF
              refine go_batch [24] (ans := []) (vs := [(11, v3)]) (l := []) (by kernel_rfl) trivial (by simp [didAddrs]) ?_
              refine go_fin fun a hF => hK14 _ _ ?_ a hF
              refine we_region [(0, 0), (1, 0)] rfl ?_
              refine ge_addn (d := 103) (ty := 3) (x := (.tmp 37)) (y := (.const (.int .i64 1))) (t := 3) (t2 := 3) (k := .i64) (m := i1) (by kernel_rfl) (by kernel_rfl) (by kernel_rfl) (by have h0 := hR1.small; omega) ?_
              refine ge_batch [1] (ans := []) (vs := [(37, .int .i64 ((i1 + 1 : Nat) : Int))]) (l := []) (by kernel_rfl) trivial ?_
              have hS58 := hS57.bring 3 rfl
              have hS59 := hS58.takeN 2
              obtain rfl := Option.some.inj h
              exact ge_nil fun a hF => hQ _ _ _ (Outs.again ⟨v3, hS59, hF.weaken ⟨by kernel_rfl, by kernel_rfl, by kernel_rfl, by kernel_rfl, by kernel_rfl, by kernel_rfl, by kernel_rfl, by kernel_rfl, trivial⟩⟩)
            · rw [if_neg hc10] at h
              cases h
          exact go_nomore
        exact go_nomore
      · rw [hq3] at h
        simp only [] at h
        refine we_keep (e' := [(0, .slice A0 l0.length c0), (2, .slice A2 l2.length c2), (3, .slice A3 l3.length c3), (9, .pointer (some ⟨b1, 0, none⟩)), (11, (.slice Z1 m1.length cz1)), (12, .int .i64 (i1 : Int)), (13, .pointer (some ⟨b3, 0, none⟩)), (14, .pointer (some ⟨b4, 0, none⟩)), (35, .slice A1 l1.length c1), (36, .int .i64 (l1.length : Int)), (37, .int .i64 (i1 : Int)), (38, .bool true), (39, .int .i64 (i1 : Int)), (40, .pointer (some ⟨blkOf A1, offOf A1 + i1 * 2, none⟩)), (41, .agg #[.int .i64 e1.Task, .int .i64 e1.At]), (42, .slice A0 l0.length c0), (43, .pointer (some ⟨b3, 0, none⟩)), (44, .int .i64 e1.Task), (45, .pointer (some ⟨blkOf A0, offOf A0 + (e1.Task).toNat * 7, none⟩)), (46, .agg #[.string e2.Name, .int .i64 e2.C, .int .i64 e2.T, .int .i64 e2.D, .int .i64 e2.J, .int .i64 e2.O, .int .i64 e2.P])]) ⟨by kernel_rfl, by kernel_rfl, by kernel_rfl, by kernel_rfl, by kernel_rfl, by kernel_rfl, by kernel_rfl, by kernel_rfl, by kernel_rfl, by kernel_rfl, by kernel_rfl, by kernel_rfl, by kernel_rfl, by kernel_rfl, by kernel_rfl, by kernel_rfl, by kernel_rfl, by kernel_rfl, by kernel_rfl, by kernel_rfl, trivial⟩ (tasks_Jobs_p2 K w0 l0 A0 c0 l1 A1 c1 l2 A2 c2 l3 A3 c3 hR0 hL0 hR1 hL1 hR2 hL2 hR3 hL3 b1 r1 b2 hc1 m1 i1 hc4 e1 hx3 b3 hc5 e2 hx5 b4 Z1 cz1 _ hq3 _ hS27 _ ?_)
        rintro _ a w1 ⟨_, rfl, hb⟩
        obtain rfl := Option.some.inj h
        exact hQ _ _ _ (Outs.out nofun (Exits.on ⟨rfl, hb⟩))
    · rw [if_neg hc5] at h
      cases h
  · rw [if_neg hc4] at h
    refine we_known (t := 38) (b := decide ((i1 : Int) < (l1.length : Int))) (v := false) (by kernel_rfl) (decide_eq_false hc4) ?_
    refine we_false (by kernel_rfl) ?_
    have hS60 := hS.bring 1 rfl
    have hS61 := hS60.bring 1 rfl
    obtain rfl := Option.some.inj h
    exact we_exit fun a hF => hQ _ _ _ (Outs.out nofun (Exits.here ⟨v1, hS61, hF.weaken ⟨by kernel_rfl, by kernel_rfl, trivial⟩⟩))
theorem tasks_Jobs_ok (K : Nat) (l0 : List STask) (A0 : Option Addr) (c0 : Nat) (l1 : List SCome) (A1 : Option Addr) (c1 : Nat) (l2 : List Int) (A2 : Option Addr) (c2 : Nat) (l3 : List Int) (A3 : Option Addr) (c3 : Nat) (w0 : World) (hR0 : RdL w0 A0 l0) (hL0 : l0.length ≤ c0) (hR1 : RdL w0 A1 l1) (hL1 : l1.length ≤ c1) (hR2 : RdL w0 A2 l2) (hL2 : l2.length ≤ c2) (hR3 : RdL w0 A3 l3) (hL3 : l3.length ≤ c3) (r : (List SJob) × SFault) (h : tasks_Jobs.f K l0 l1 l2 l3 = some r) :
    Calls Tryd.prog 25 #[.slice A0 l0.length c0, .slice A1 l1.length c1, .slice A2 l2.length c2, .slice A3 l3.length c3] w0 (tasks_Jobs.Post w0 r) := by
  have hS := St.start w0
  unfold tasks_Jobs.f at h
  refine calls_enter (n := 106) (args := [.slice A0 l0.length c0, .slice A1 l1.length c1, .slice A2 l2.length c2, .slice A3 l3.length c3]) (fn := Tryd.f25) rfl rfl rfl rfl ?_
  show WE _ _ _ _ [(0, .slice A0 l0.length c0), (1, .slice A1 l1.length c1), (2, .slice A2 l2.length c2), (3, .slice A3 l3.length c3)] _
  refine we_seq fun K1 hK1 => ?_
  refine we_region [(0, 0), (1, 1)] rfl ?_
  refine ge_batch [0] (ans := []) (vs := [(8, .slice none 0 0)]) (l := []) (by kernel_rfl) trivial ?_
  refine ge_new (d := some 9) (o := .cells #[.int .i64 0, .int .i64 0] 26) (v := fun b => .pointer (some ⟨b, 0, none⟩)) hS (fun b => by kernel_rfl) fun b1 w1 hx1 hS1 => ?_
  refine ge_nil fun a hF => hK1 _ _ ?_ a hF
  refine we_seq fun K2 hK2 => ?_
  refine we_seq fun K3 hK3 => ?_
  refine we_region [(0, 0), (1, 0), (2, 1), (3, 1), (4, 2)] rfl ?_
  rcases hq1 : tasks_Legal.f K l0 l1 with _ | r1
  · rw [hq1] at h; cases h
  rw [hq1] at h
  simp only [] at h
  refine ge_batch [0, 1] (ans := []) (vs := [(16, .slice A1 l1.length c1), (15, .slice A0 l0.length c0)]) (l := []) (by kernel_rfl) trivial ?_
  refine ge_call (d := some 17) (f := 48) (args := #[.slice A0 l0.length c0, .slice A1 l1.length c1]) (by kernel_rfl) (tasks_Legal_ok K l0 A0 c0 l1 A1 c1 _ (hS1.rd hR0) hL0 (hS1.rd hR1) hL1 _ hq1) ?_
  rintro _ w2 ⟨rfl, hS2⟩
  refine ⟨_, rfl, hS2.below, ?_⟩
  have hS3 := hS1.call hS2
  refine ge_new (d := some 10) (o := .cells #[.int .i64 0, .int .i64 0] 26) (v := fun b => .pointer (some ⟨b, 0, none⟩)) hS3 (fun b => by kernel_rfl) fun b2 w3 hx2 hS4 => ?_
  refine ge_set (b := b2) (j := 0) (cs := #[.int .i64 0, .int .i64 0]) (t := 26) (vs := [.int .i64 r1.Code, .int .i64 r1.At]) hS4 (by kernel_rfl) rfl rfl fun w4 hS5 => ?_
  have hS6 : St w0 w4 [Own.blk b2 (.cells #[.int .i64 r1.Code, .int .i64 r1.At] 26 (0, 0)), Own.blk b1 (.cells #[.int .i64 0, .int .i64 0] 26 (0, 0))] := hS5
  refine ge_nil fun a hF => hK3 _ _ ?_ a hF
  refine we_seq fun K4 hK4 => ?_
  refine we_region [(0, 0), (1, 0), (2, 0)] rfl ?_
  refine ge_batch [0, 1, 2] (ans := [.val (.int .i64 r1.Code)]) (vs := [(20, .bool (r1.Code != 0)), (19, .int .i64 r1.Code), (18, .pointer (some ⟨b2, 0, none⟩))]) (l := [.loaded ⟨b2, 0, none⟩ (.int .i64 r1.Code)]) (by kernel_rfl) ⟨hS6.cell 0 rfl rfl, trivial⟩ ?_
  refine ge_nil fun a hF => hK4 _ _ ?_ a hF
  by_cases hc1 : r1.Code = 0
  · rw [if_pos hc1] at h
    refine we_known (t := 20) (b := (r1.Code != 0)) (v := false) (by kernel_rfl) (bne_eq_false_iff_eq.2 hc1) ?_
    refine we_false (by kernel_rfl) ?_
    refine we_skip fun a hF => hK2 _ _ ?_ a hF
    refine we_seq fun K5 hK5 => ?_
    rcases hq2 : tasks_Jobs.p0 l1 l2 l3 with _ | (_ | rr3)
    · rw [hq2] at h; cases h
    · rw [hq2] at h
      simp only [] at h
      refine we_keep (e' := [(0, .slice A0 l0.length c0), (1, .slice A1 l1.length c1), (2, .slice A2 l2.length c2), (3, .slice A3 l3.length c3), (8, .slice none 0 0), (9, .pointer (some ⟨b1, 0, none⟩)), (10, .pointer (some ⟨b2, 0, none⟩)), (15, .slice A0 l0.length c0), (16, .slice A1 l1.length c1), (17, .agg #[.int .i64 r1.Code, .int .i64 r1.At]), (18, .pointer (some ⟨b2, 0, none⟩)), (19, .int .i64 r1.Code), (20, .bool false)]) ⟨by kernel_rfl, by kernel_rfl, by kernel_rfl, by kernel_rfl, by kernel_rfl, by kernel_rfl, by kernel_rfl, by kernel_rfl, by kernel_rfl, by kernel_rfl, by kernel_rfl, by kernel_rfl, by kernel_rfl, trivial⟩ (tasks_Jobs_p0 K w0 l0 A0 c0 l1 A1 c1 l2 A2 c2 l3 A3 c3 hR0 hL0 hR1 hL1 hR2 hL2 hR3 hL3 b1 r1 b2 hc1 _ hq2 _ hS6 _ ?_)
      rintro _ a w7 ⟨rfl, hS19, hF⟩
      replace hS19 : St w0 w7 [Own.blk b1 (.cells #[.int .i64 0, .int .i64 0] 26 (0, 0))] := hS19
      refine hK5 [(0, .slice A0 l0.length c0), (1, .slice A1 l1.length c1), (2, .slice A2 l2.length c2), (3, .slice A3 l3.length c3), (9, .pointer (some ⟨b1, 0, none⟩))] w7 ?_ a hF
      refine we_seq fun K9 hK9 => ?_
      refine we_region [(0, 0)] rfl ?_
      refine ge_batch [0] (ans := []) (vs := [(11, .slice none 0 0)]) (l := []) (by kernel_rfl) trivial ?_
      refine ge_nil fun a hF => hK9 _ _ ?_ a hF
      refine we_seq fun K10 hK10 => ?_
      refine we_seq fun K11 hK11 => ?_
      refine we_region [(0, 0), (1, 0), (2, 0)] rfl ?_
      refine ge_batch [0, 1, 2] (ans := []) (vs := [(37, .int .i64 0), (36, .int .i64 (l1.length : Int)), (35, .slice A1 l1.length c1)]) (l := []) (by kernel_rfl) trivial ?_
      refine ge_nil fun a hF => hK11 _ _ ?_ a hF
      refine we_block ?_
      have hS20 := hS19.nil (α := SJob) 30
      have hS21 := hS20.bring 1 rfl
      rcases hq4 : iter (tasks_Jobs.r1 l0 l1 l2 l3) K (([] : List SJob), 0) with _ | (m3 | rr2)
      · rw [hq4] at h; cases h
      · rw [hq4] at h
        simp only [] at h
        refine we_iter (A := tasks_Jobs.A1 K w0 l0 A0 c0 l1 A1 c1 l2 A2 c2 l3 A3 c3 hR0 hL0 hR1 hL1 hR2 hL2 hR3 hL3 b1 r1 b2 hc1) (B := tasks_Jobs.B1 K w0 l0 A0 c0 l1 A1 c1 l2 A2 c2 l3 A3 c3 hR0 hL0 hR1 hL1 hR2 hL2 hR3 hL3 b1 r1 b2 hc1) hq4 (fun a hF => ⟨(.slice none 0 0), hS21, hF.weaken ⟨by kernel_rfl, by kernel_rfl, by kernel_rfl, by kernel_rfl, by kernel_rfl, by kernel_rfl, by kernel_rfl, by kernel_rfl, trivial⟩⟩) (fun s o hf a w hA Q hQ => tasks_Jobs_r1 K w0 l0 A0 c0 l1 A1 c1 l2 A2 c2 l3 A3 c3 hR0 hL0 hR1 hL1 hR2 hL2 hR3 hL3 b1 r1 b2 hc1 s o hf a w hA Q hQ) ?_
        rintro _ a w19 _ ⟨rfl, v4, hS62, hF⟩
        replace hS62 : St w0 w19 [Own.blk b1 (.cells #[.int .i64 0, .int .i64 0] 26 (0, 0)), Own.of v4 30 m3] := hS62
        refine hK10 [(9, .pointer (some ⟨b1, 0, none⟩)), (11, v4)] w19 ?_ a hF
        refine we_seq fun K23 hK23 => ?_
        refine we_region [(0, 0), (1, 0), (2, 0), (3, 2)] rfl ?_
        refine ge_batch [0, 1, 2] (ans := []) (vs := [(8, v4), (105, .agg #[.int .i64 0, .int .i64 0]), (104, v4)]) (l := []) (by kernel_rfl) trivial ?_
        refine ge_set (b := b1) (j := 0) (cs := #[.int .i64 0, .int .i64 0]) (t := 26) (vs := [.int .i64 0, .int .i64 0]) hS62 (by kernel_rfl) rfl rfl fun w20 hS63 => ?_
        have hS64 : St w0 w20 [Own.blk b1 (.cells #[.int .i64 0, .int .i64 0] 26 (0, 0)), Own.of v4 30 m3] := hS63
        refine ge_nil fun a hF => hK23 _ _ ?_ a hF
        have hS65 := hS64.bring 1 rfl
        have hS66 := hS65.takeN 1
        obtain rfl := Option.some.inj h
        exact we_ret (post_ret (rs := [.tmp 8, .cell 9 26]) (ans := [.val (.int .i64 0), .val (.int .i64 0)]) (vs := [v4, .agg #[.int .i64 0, .int .i64 0]]) (l := [.loaded ⟨b1, 0, none⟩ (.int .i64 0), .loaded ⟨b1, 1, none⟩ (.int .i64 0)]) rfl (by kernel_rfl) ⟨hS64.cell 0 rfl rfl, hS64.cell 0 rfl rfl, trivial⟩ ⟨v4, rfl, hS66⟩)
      · rw [hq4] at h
        simp only [] at h
        refine we_iter (A := tasks_Jobs.A1 K w0 l0 A0 c0 l1 A1 c1 l2 A2 c2 l3 A3 c3 hR0 hL0 hR1 hL1 hR2 hL2 hR3 hL3 b1 r1 b2 hc1) (B := tasks_Jobs.B1 K w0 l0 A0 c0 l1 A1 c1 l2 A2 c2 l3 A3 c3 hR0 hL0 hR1 hL1 hR2 hL2 hR3 hL3 b1 r1 b2 hc1) hq4 (fun a hF => ⟨(.slice none 0 0), hS21, hF.weaken ⟨by kernel_rfl, by kernel_rfl, by kernel_rfl, by kernel_rfl, by kernel_rfl, by kernel_rfl, by kernel_rfl, by kernel_rfl, trivial⟩⟩) (fun s o hf a w hA Q hQ => tasks_Jobs_r1 K w0 l0 A0 c0 l1 A1 c1 l2 A2 c2 l3 A3 c3 hR0 hL0 hR1 hL1 hR2 hL2 hR3 hL3 b1 r1 b2 hc1 s o hf a w hA Q hQ) ?_
        rintro _ a w1 _ ⟨rfl, hb⟩
        obtain rfl := Option.some.inj h
        exact hb
    · rw [hq2] at h
      simp only [] at h
      refine we_keep (e' := [(0, .slice A0 l0.length c0), (1, .slice A1 l1.length c1), (2, .slice A2 l2.length c2), (3, .slice A3 l3.length c3), (8, .slice none 0 0), (9, .pointer (some ⟨b1, 0, none⟩)), (10, .pointer (some ⟨b2, 0, none⟩)), (15, .slice A0 l0.length c0), (16, .slice A1 l1.length c1), (17, .agg #[.int .i64 r1.Code, .int .i64 r1.At]), (18, .pointer (some ⟨b2, 0, none⟩)), (19, .int .i64 r1.Code), (20, .bool false)]) ⟨by kernel_rfl, by kernel_rfl, by kernel_rfl, by kernel_rfl, by kernel_rfl, by kernel_rfl, by kernel_rfl, by kernel_rfl, by kernel_rfl, by kernel_rfl, by kernel_rfl, by kernel_rfl, by kernel_rfl, trivial⟩ (tasks_Jobs_p0 K w0 l0 A0 c0 l1 A1 c1 l2 A2 c2 l3 A3 c3 hR0 hL0 hR1 hL1 hR2 hL2 hR3 hL3 b1 r1 b2 hc1 _ hq2 _ hS6 _ ?_)
      rintro _ a w1 ⟨_, rfl, hb⟩
      obtain rfl := Option.some.inj h
      exact hb
  · rw [if_neg hc1] at h
    refine we_known (t := 20) (b := (r1.Code != 0)) (v := true) (by kernel_rfl) (bne_iff_ne.2 hc1) ?_
    refine we_true (by kernel_rfl) ?_
    refine we_seq fun K24 hK24 => ?_
    refine we_draws (by kernel_rfl) [(0, 0), (1, 0), (2, 2)] (by kernel_rfl) ?_
    have hS67 := hS6.drew
    refine ge_batch [0, 1] (ans := [.val (.int .i64 r1.Code), .val (.int .i64 r1.At)]) (vs := [(8, .slice none 0 0), (21, .agg #[.int .i64 r1.Code, .int .i64 r1.At])]) (l := [.loaded ⟨b2, 0, none⟩ (.int .i64 r1.Code), .loaded ⟨b2, 1, none⟩ (.int .i64 r1.At)]) (by kernel_rfl) ⟨hS67.cell 0 rfl rfl, hS67.cell 0 rfl rfl, trivial⟩ ?_
    have hS68 := hS67.bring 1 rfl
    refine ge_set (b := b1) (j := 0) (cs := #[.int .i64 0, .int .i64 0]) (t := 26) (vs := [.int .i64 r1.Code, .int .i64 r1.At]) hS68 (by kernel_rfl) rfl rfl fun w21 hS69 => ?_
    have hS70 : St w0 w21 [Own.blk b1 (.cells #[.int .i64 r1.Code, .int .i64 r1.At] 26 (0, 0)), Own.blk b2 (.cells #[.int .i64 r1.Code, .int .i64 r1.At] 26 (0, 0))] := hS69
    refine ge_nil fun a hF => hK24 _ _ ?_ a hF
    have hS71 := hS70.nil (α := SJob) 30
    have hS72 := hS71.takeN 1
    obtain rfl := Option.some.inj h
    exact we_ret (post_ret (rs := [.tmp 8, .cell 9 26]) (ans := [.val (.int .i64 r1.Code), .val (.int .i64 r1.At)]) (vs := [(.slice none 0 0), .agg #[.int .i64 r1.Code, .int .i64 r1.At]]) (l := [.loaded ⟨b1, 0, none⟩ (.int .i64 r1.Code), .loaded ⟨b1, 1, none⟩ (.int .i64 r1.At)]) rfl (by kernel_rfl) ⟨hS71.cell 1 rfl rfl, hS71.cell 1 rfl rfl, trivial⟩ ⟨(.slice none 0 0), rfl, hS72⟩)

/-! punctual/punctualsame.Same[punctual/api.Job] -/
abbrev punctualsame_Same_api_Job.Post (w0 : World) (r : Bool) (e : Ending) (w : World) : Prop := e = .returned (.bool r) ∧ St w0 w []
def punctualsame_Same_api_Job.r0 (l0 : List SJob) (l1 : List SJob) : Nat → Option (Nat ⊕ (Unit ⊕ Bool))
  | i1 =>
    if (i1 : Int) < (l0.length : Int) then
      match l0[i1]? with
      | none => none
      | some e1 =>
        match l1[i1]? with
        | none => none
        | some e2 =>
          if (SJob.eqb e1 e2) = true then
            some (.inl (i1 + 1))
          else
            some (.inr (.inr false))
    else
      some (.inr (.inl ()))
def punctualsame_Same_api_Job.f (K : Nat) (l0 : List SJob) (l1 : List SJob) : Option Bool :=
  if (l0.length : Int) = (l1.length : Int) then
    match iter (punctualsame_Same_api_Job.r0 l0 l1) K 0 with
    | none => none
    | some (.inl _) =>
      some true
    | some (.inr rr1) =>
      some rr1
  else
    some false
abbrev punctualsame_Same_api_Job.A0 (K : Nat) (w0 : World) (l0 : List SJob) (A0 : Option Addr) (c0 : Nat) (l1 : List SJob) (A1 : Option Addr) (c1 : Nat) (hR0 : RdL w0 A0 l0) (hL0 : l0.length ≤ c0) (hR1 : RdL w0 A1 l1) (hL1 : l1.length ≤ c1) (hc1 : (l0.length : Int) = (l1.length : Int)) : Nat → Act → World → Prop := fun (s : Nat) a w => St w0 w [] ∧ Frm 26 a [(0, .slice A0 l0.length c0), (1, .slice A1 l1.length c1), (12, .int .i64 (l0.length : Int)), (13, .int .i64 (s : Int))]
abbrev punctualsame_Same_api_Job.B0 (K : Nat) (w0 : World) (l0 : List SJob) (A0 : Option Addr) (c0 : Nat) (l1 : List SJob) (A1 : Option Addr) (c1 : Nat) (hR0 : RdL w0 A0 l0) (hL0 : l0.length ≤ c0) (hR1 : RdL w0 A1 l1) (hL1 : l1.length ≤ c1) (hc1 : (l0.length : Int) = (l1.length : Int)) : (Unit ⊕ Bool) → Exit → Act → World → Prop := Exits 0 (fun (s : Unit) a w => St w0 w [] ∧ Frm 26 a []) (Rets Tryd.prog Tryd.f26 (punctualsame_Same_api_Job.Post w0))
theorem punctualsame_Same_api_Job_r0 (K : Nat) (w0 : World) (l0 : List SJob) (A0 : Option Addr) (c0 : Nat) (l1 : List SJob) (A1 : Option Addr) (c1 : Nat) (hR0 : RdL w0 A0 l0) (hL0 : l0.length ≤ c0) (hR1 : RdL w0 A1 l1) (hL1 : l1.length ≤ c1) (hc1 : (l0.length : Int) = (l1.length : Int)) (s : Nat) (o : Nat ⊕ (Unit ⊕ Bool)) (h : punctualsame_Same_api_Job.r0 l0 l1 s = some o) (a : Act) (w : World) (hA : punctualsame_Same_api_Job.A0 K w0 l0 A0 c0 l1 A1 c1 hR0 hL0 hR1 hL1 hc1 s a w) (Q : Exit → Act → World → Prop) (hQ : ∀ x a w, Outs (punctualsame_Same_api_Job.A0 K w0 l0 A0 c0 l1 A1 c1 hR0 hL0 hR1 hL1 hc1) (punctualsame_Same_api_Job.B0 K w0 l0 A0 c0 l1 A1 c1 hR0 hL0 hR1 hL1 hc1) o x a w → Q x a w) : (subF Tryd.f26 [1, 1, 0, 1, 0, 0]).wp Tryd.prog Q a w := by
  obtain ⟨i1, hs⟩ : ∃ z, z = s := ⟨s, rfl⟩
  subst hs
  obtain ⟨hS, hF⟩ := hA
  replace hS : St w0 w [] := hS
  simp only [punctualsame_Same_api_Job.r0] at h
  refine (?_ : WE Tryd.prog 26 (subF Tryd.f26 [1, 1, 0, 1, 0, 0]) Q [(0, .slice A0 l0.length c0), (1, .slice A1 l1.length c1), (12, .int .i64 (l0.length : Int)), (13, .int .i64 (i1 : Int))] w) a hF
  clear hF a
  refine we_seq fun K6 hK6 => ?_
  refine we_region [(0, 0)] rfl ?_
  refine ge_batch [0] (ans := []) (vs := [(14, .bool (decide ((i1 : Int) < (l0.length : Int))))]) (l := []) (by kernel_rfl) trivial ?_
  refine ge_nil fun a hF => hK6 _ _ ?_ a hF
  refine we_seq fun K7 hK7 => ?_
  by_cases hc2 : (i1 : Int) < (l0.length : Int)
  · rw [if_pos hc2] at h
    refine we_known (t := 14) (b := decide ((i1 : Int) < (l0.length : Int))) (v := true) (by kernel_rfl) (decide_eq_true hc2) ?_
    refine we_true (by kernel_rfl) ?_
    refine we_skip fun a hF => hK7 _ _ ?_ a hF
    refine we_seq fun K8 hK8 => ?_
    refine we_block ?_
    refine we_seq fun K9 hK9 => ?_
    refine we_region [(0, 0), (1, 0)] rfl ?_
    refine ge_batch [0, 1] (ans := []) (vs := [(5, .int .i64 (i1 : Int)), (15, .int .i64 (i1 : Int))]) (l := []) (by kernel_rfl) trivial ?_
    refine ge_nil fun a hF => hK9 _ _ ?_ a hF
    refine we_seq fun K10 hK10 => ?_
    refine we_draws (by kernel_rfl) [(0, 0), (1, 0), (2, 0), (3, 0), (4, 0), (5, 0), (6, 0), (7, 0), (8, 0)] (by kernel_rfl) ?_
    have hS1 := hS.drew
    refine ge_batch [0, 1] (ans := []) (vs := [(17, .int .i64 (i1 : Int)), (16, .slice A0 l0.length c0)]) (l := []) (by kernel_rfl) trivial ?_
    rcases hx1 : l0[i1]? with _ | e1
    · rw [hx1] at h; cases h
    rw [hx1] at h
    simp only [] at h
    refine ge_index (d := 18) (ty := 0) (t := 22) (el := 30) (sz := 5) (m := l0.length) (c := c0) (x := (.tmp 16)) (y := (.tmp 17)) (A := A0) (k' := .i64) (j := (i1 : Int)) (jn := i1) (b0 := blkOf A0) (o0 := offOf A0) (by kernel_rfl) (by kernel_rfl) (by kernel_rfl) (by kernel_rfl) (by kernel_rfl) ((hS1.rd hR0).eqSome (pos_of_get hx1)) rfl (lt_of_get hx1) ?_
    refine ge_batch [3, 4, 5] (ans := [.val (.int .i64 e1.Task), .val (.int .i64 e1.At), .val (.int .i64 e1.C), .val (.int .i64 e1.Due), .val (.int .i64 e1.P)]) (vs := [(21, .int .i64 (i1 : Int)), (20, .slice A1 l1.length c1), (19, .agg #[.int .i64 e1.Task, .int .i64 e1.At, .int .i64 e1.C, .int .i64 e1.Due, .int .i64 e1.P])]) (l := [.loaded ⟨blkOf A0, offOf A0 + i1 * 5, none⟩ (.int .i64 e1.Task), .loaded ⟨blkOf A0, offOf A0 + i1 * 5 + 1, none⟩ (.int .i64 e1.At), .loaded ⟨blkOf A0, offOf A0 + i1 * 5 + 2, none⟩ (.int .i64 e1.C), .loaded ⟨blkOf A0, offOf A0 + i1 * 5 + 3, none⟩ (.int .i64 e1.Due), .loaded ⟨blkOf A0, offOf A0 + i1 * 5 + 4, none⟩ (.int .i64 e1.P)]) (by kernel_rfl) ⟨RdL.cell (j := 0) (hS1.rd hR0) hx1 rfl, RdL.cell (j := 1) (hS1.rd hR0) hx1 rfl, RdL.cell (j := 2) (hS1.rd hR0) hx1 rfl, RdL.cell (j := 3) (hS1.rd hR0) hx1 rfl, RdL.cell (j := 4) (hS1.rd hR0) hx1 rfl, trivial⟩ ?_
    rcases hx2 : l1[i1]? with _ | e2
    · rw [hx2] at h; cases h
    rw [hx2] at h
    simp only [] at h
    refine ge_index (d := 22) (ty := 0) (t := 22) (el := 30) (sz := 5) (m := l1.length) (c := c1) (x := (.tmp 20)) (y := (.tmp 21)) (A := A1) (k' := .i64) (j := (i1 : Int)) (jn := i1) (b0 := blkOf A1) (o0 := offOf A1) (by kernel_rfl) (by kernel_rfl) (by kernel_rfl) (by kernel_rfl) (by kernel_rfl) ((hS1.rd hR1).eqSome (pos_of_get hx2)) rfl (lt_of_get hx2) ?_
    refine ge_batch [7] (ans := [.val (.int .i64 e2.Task), .val (.int .i64 e2.At), .val (.int .i64 e2.C), .val (.int .i64 e2.Due), .val (.int .i64 e2.P)]) (vs := [(23, .agg #[.int .i64 e2.Task, .int .i64 e2.At, .int .i64 e2.C, .int .i64 e2.Due, .int .i64 e2.P])]) (l := [.loaded ⟨blkOf A1, offOf A1 + i1 * 5, none⟩ (.int .i64 e2.Task), .loaded ⟨blkOf A1, offOf A1 + i1 * 5 + 1, none⟩ (.int .i64 e2.At), .loaded ⟨blkOf A1, offOf A1 + i1 * 5 + 2, none⟩ (.int .i64 e2.C), .loaded ⟨blkOf A1, offOf A1 + i1 * 5 + 3, none⟩ (.int .i64 e2.Due), .loaded ⟨blkOf A1, offOf A1 + i1 * 5 + 4, none⟩ (.int .i64 e2.P)]) (by kernel_rfl) ⟨RdL.cell (j := 0) (hS1.rd hR1) hx2 rfl, RdL.cell (j := 1) (hS1.rd hR1) hx2 rfl, RdL.cell (j := 2) (hS1.rd hR1) hx2 rfl, RdL.cell (j := 3) (hS1.rd hR1) hx2 rfl, RdL.cell (j := 4) (hS1.rd hR1) hx2 rfl, trivial⟩ ?_
    refine ge_eqs (d := 24) (ty := 4) (op := .neq) (x := (.tmp 19)) (y := (.tmp 23)) (t := 30) (t2 := 30) (xs := #[.int .i64 e1.Task, .int .i64 e1.At, .int .i64 e1.C, .int .i64 e1.Due, .int .i64 e1.P]) (ys := #[.int .i64 e2.Task, .int .i64 e2.At, .int .i64 e2.C, .int .i64 e2.Due, .int .i64 e2.P]) (r := (SJob.eqb e1 e2)) (v := !(SJob.eqb e1 e2)) (by kernel_rfl) (by kernel_rfl) (by kernel_rfl) (by kernel_rfl) (by kernel_rfl) rfl ?_
    refine ge_nil fun a hF => hK10 _ _ ?_ a hF
    by_cases hc3 : (SJob.eqb e1 e2) = true
    · rw [if_pos hc3] at h
      refine we_known (t := 24) (b := !(SJob.eqb e1 e2)) (v := false) (by kernel_rfl) (congrArg (fun z => !z) hc3) ?_
      refine we_false (by kernel_rfl) ?_
      refine we_skip fun a hF => hK8 _ _ ?_ a hF
      refine we_region [(0, 0), (1, 0)] rfl ?_
      refine ge_addn (d := 25) (ty := 3) (x := (.tmp 13)) (y := (.const (.int .i64 1))) (t := 3) (t2 := 3) (k := .i64) (m := i1) (by kernel_rfl) (by kernel_rfl) (by kernel_rfl) (by have h0 := hR0.small; omega) ?_
      refine ge_batch [1] (ans := []) (vs := [(13, .int .i64 ((i1 + 1 : Nat) : Int))]) (l := []) (by kernel_rfl) trivial ?_
      obtain rfl := Option.some.inj h
      exact ge_nil fun a hF => hQ _ _ _ (Outs.again ⟨hS1, hF.weaken ⟨by kernel_rfl, by kernel_rfl, by kernel_rfl, by kernel_rfl, trivial⟩⟩)
    · rw [if_neg hc3] at h
      refine we_known (t := 24) (b := !(SJob.eqb e1 e2)) (v := true) (by kernel_rfl) (congrArg (fun z => !z) (Bool.eq_false_iff.2 hc3)) ?_
      refine we_true (by kernel_rfl) ?_
      refine we_seq fun K11 hK11 => ?_
      refine we_region [(0, 0)] rfl ?_
      refine ge_batch [0] (ans := []) (vs := [(4, .bool false)]) (l := []) (by kernel_rfl) trivial ?_
      refine ge_nil fun a hF => hK11 _ _ ?_ a hF
      obtain rfl := Option.some.inj h
      exact we_ret fun a hF => hQ _ _ _ (Outs.out nofun (Exits.on ⟨rfl, (post_ret (rs := [.tmp 4]) (ans := []) (vs := [.bool false]) (l := []) rfl (by kernel_rfl) trivial ⟨rfl, hS1⟩) a hF⟩))
  · rw [if_neg hc2] at h
    refine we_known (t := 14) (b := decide ((i1 : Int) < (l0.length : Int))) (v := false) (by kernel_rfl) (decide_eq_false hc2) ?_
    refine we_false (by kernel_rfl) ?_
    obtain rfl := Option.some.inj h
    exact we_exit fun a hF => hQ _ _ _ (Outs.out nofun (Exits.here ⟨hS, hF.weaken trivial⟩))
theorem punctualsame_Same_api_Job_ok (K : Nat) (l0 : List SJob) (A0 : Option Addr) (c0 : Nat) (l1 : List SJob) (A1 : Option Addr) (c1 : Nat) (w0 : World) (hR0 : RdL w0 A0 l0) (hL0 : l0.length ≤ c0) (hR1 : RdL w0 A1 l1) (hL1 : l1.length ≤ c1) (r : Bool) (h : punctualsame_Same_api_Job.f K l0 l1 = some r) :
    Calls Tryd.prog 26 #[.slice A0 l0.length c0, .slice A1 l1.length c1] w0 (punctualsame_Same_api_Job.Post w0 r) := by
  have hS := St.start w0
  unfold punctualsame_Same_api_Job.f at h
  refine calls_enter (n := 26) (args := [.slice A0 l0.length c0, .slice A1 l1.length c1]) (fn := Tryd.f26) rfl rfl rfl rfl ?_
  show WE _ _ _ _ [(0, .slice A0 l0.length c0), (1, .slice A1 l1.length c1)] _
  refine we_seq fun K1 hK1 => ?_
  refine we_region [(0, 0)] rfl ?_
  refine ge_batch [0] (ans := []) (vs := [(4, .bool false)]) (l := []) (by kernel_rfl) trivial ?_
  refine ge_nil fun a hF => hK1 _ _ ?_ a hF
  refine we_seq fun K2 hK2 => ?_
  refine we_seq fun K3 hK3 => ?_
  refine we_region [(0, 0), (1, 0), (2, 0), (3, 0), (4, 0)] rfl ?_
  refine ge_batch [0, 1, 2, 3, 4] (ans := []) (vs := [(10, .bool ((l0.length : Int) != (l1.length : Int))), (9, .int .i64 (l1.length : Int)), (8, .slice A1 l1.length c1), (7, .int .i64 (l0.length : Int)), (6, .slice A0 l0.length c0)]) (l := []) (by kernel_rfl) trivial ?_
  refine ge_nil fun a hF => hK3 _ _ ?_ a hF
  by_cases hc1 : (l0.length : Int) = (l1.length : Int)
  · rw [if_pos hc1] at h
    refine we_known (t := 10) (b := ((l0.length : Int) != (l1.length : Int))) (v := false) (by kernel_rfl) (bne_eq_false_iff_eq.2 hc1) ?_
    refine we_false (by kernel_rfl) ?_
    refine we_skip fun a hF => hK2 _ _ ?_ a hF
    refine we_seq fun K4 hK4 => ?_
    refine we_seq fun K5 hK5 => ?_
    refine we_region [(0, 0), (1, 0), (2, 0)] rfl ?_
    refine ge_batch [0, 1, 2] (ans := []) (vs := [(13, .int .i64 0), (12, .int .i64 (l0.length : Int)), (11, .slice A0 l0.length c0)]) (l := []) (by kernel_rfl) trivial ?_
    refine ge_nil fun a hF => hK5 _ _ ?_ a hF
    refine we_block ?_
    rcases hq1 : iter (punctualsame_Same_api_Job.r0 l0 l1) K 0 with _ | (_ | rr1)
    · rw [hq1] at h; cases h
    · rw [hq1] at h
      simp only [] at h
      refine we_iter (A := punctualsame_Same_api_Job.A0 K w0 l0 A0 c0 l1 A1 c1 hR0 hL0 hR1 hL1 hc1) (B := punctualsame_Same_api_Job.B0 K w0 l0 A0 c0 l1 A1 c1 hR0 hL0 hR1 hL1 hc1) hq1 (fun a hF => ⟨hS, hF.weaken ⟨by kernel_rfl, by kernel_rfl, by kernel_rfl, by kernel_rfl, trivial⟩⟩) (fun s o hf a w hA Q hQ => punctualsame_Same_api_Job_r0 K w0 l0 A0 c0 l1 A1 c1 hR0 hL0 hR1 hL1 hc1 s o hf a w hA Q hQ) ?_
      rintro _ a w1 _ ⟨rfl, hS2, hF⟩
      replace hS2 : St w0 w1 [] := hS2
      refine hK4 [] w1 ?_ a hF
      refine we_seq fun K12 hK12 => ?_
      refine we_region [(0, 0)] rfl ?_
      refine ge_batch [0] (ans := []) (vs := [(4, .bool true)]) (l := []) (by kernel_rfl) trivial ?_
      refine ge_nil fun a hF => hK12 _ _ ?_ a hF
      obtain rfl := Option.some.inj h
      exact we_ret (post_ret (rs := [.tmp 4]) (ans := []) (vs := [.bool true]) (l := []) rfl (by kernel_rfl) trivial ⟨rfl, hS2⟩)
    · rw [hq1] at h
      simp only [] at h
      refine we_iter (A := punctualsame_Same_api_Job.A0 K w0 l0 A0 c0 l1 A1 c1 hR0 hL0 hR1 hL1 hc1) (B := punctualsame_Same_api_Job.B0 K w0 l0 A0 c0 l1 A1 c1 hR0 hL0 hR1 hL1 hc1) hq1 (fun a hF => ⟨hS, hF.weaken ⟨by kernel_rfl, by kernel_rfl, by kernel_rfl, by kernel_rfl, trivial⟩⟩) (fun s o hf a w hA Q hQ => punctualsame_Same_api_Job_r0 K w0 l0 A0 c0 l1 A1 c1 hR0 hL0 hR1 hL1 hc1 s o hf a w hA Q hQ) ?_
      rintro _ a w1 _ ⟨rfl, hb⟩
      obtain rfl := Option.some.inj h
      exact hb
  · rw [if_neg hc1] at h
    refine we_known (t := 10) (b := ((l0.length : Int) != (l1.length : Int))) (v := true) (by kernel_rfl) (bne_iff_ne.2 hc1) ?_
    refine we_true (by kernel_rfl) ?_
    refine we_seq fun K13 hK13 => ?_
    refine we_region [(0, 0)] rfl ?_
    refine ge_batch [0] (ans := []) (vs := [(4, .bool false)]) (l := []) (by kernel_rfl) trivial ?_
    refine ge_nil fun a hF => hK13 _ _ ?_ a hF
    obtain rfl := Option.some.inj h
    exact we_ret (post_ret (rs := [.tmp 4]) (ans := []) (vs := [.bool false]) (l := []) rfl (by kernel_rfl) trivial ⟨rfl, hS⟩)

/-! punctual/punctuallaw.few -/
abbrev few.Post (w0 : World) (r : Bool) (e : Ending) (w : World) : Prop := e = .returned (.bool r) ∧ St w0 w []
def few.f (x0 : Int) : Bool :=
  decide (x0 ≤ 5000)
theorem few_ok (x0 : Int) (w0 : World) (r : Bool) (h : few.f x0 = r) :
    Calls Tryd.prog 13 #[.int .i64 x0] w0 (few.Post w0 r) := by
  have hS := St.start w0
  unfold few.f at h
  refine calls_enter (n := 5) (args := [.int .i64 x0]) (fn := Tryd.f13) rfl rfl rfl rfl ?_
  show WE _ _ _ _ [(0, .int .i64 x0)] _
  refine we_seq fun K1 hK1 => ?_
  refine we_region [(0, 0)] rfl ?_
  refine ge_batch [0] (ans := []) (vs := [(2, .bool false)]) (l := []) (by kernel_rfl) trivial ?_
  refine ge_nil fun a hF => hK1 _ _ ?_ a hF
  refine we_seq fun K2 hK2 => ?_
  refine we_region [(0, 0), (1, 0), (2, 0)] rfl ?_
  refine ge_batch [0, 1, 2] (ans := []) (vs := [(2, .bool (decide (x0 ≤ 5000))), (4, .bool (decide (x0 ≤ 5000))), (3, .int .i64 x0)]) (l := []) (by kernel_rfl) trivial ?_
  refine ge_nil fun a hF => hK2 _ _ ?_ a hF
  subst h
  exact we_ret (post_ret (rs := [.tmp 2]) (ans := []) (vs := [.bool (decide (x0 ≤ 5000))]) (l := []) rfl (by kernel_rfl) trivial ⟨rfl, hS⟩)

/-! punctual/punctualref.F -/
abbrev punctualref_F.Post (w0 : World) (r : SFault) (e : Ending) (w : World) : Prop := e = .returned (.agg #[.int .i64 r.Code, .int .i64 r.At]) ∧ St w0 w []
def punctualref_F.f (x0 : Int) (x1 : Int) : SFault :=
  (⟨x0, x1⟩ : SFault)
theorem punctualref_F_ok (x0 : Int) (x1 : Int) (w0 : World) (r : SFault) (h : punctualref_F.f x0 x1 = r) :
    Calls Tryd.prog 21 #[.int .i64 x0, .int .i64 x1] w0 (punctualref_F.Post w0 r) := by
  have hS := St.start w0
  unfold punctualref_F.f at h
  refine calls_enter (n := 8) (args := [.int .i64 x0, .int .i64 x1]) (fn := Tryd.f21) rfl rfl rfl rfl ?_
  show WE _ _ _ _ [(0, .int .i64 x0), (1, .int .i64 x1)] _
  refine we_seq fun K1 hK1 => ?_
  refine we_region [(0, 1)] rfl ?_
  refine ge_new (d := some 4) (o := .cells #[.int .i64 0, .int .i64 0] 26) (v := fun b => .pointer (some ⟨b, 0, none⟩)) hS (fun b => by kernel_rfl) fun b1 w1 hx1 hS1 => ?_
  refine ge_nil fun a hF => hK1 _ _ ?_ a hF
  refine we_seq fun K2 hK2 => ?_
  refine we_region [(0, 0), (1, 0), (2, 0), (3, 2)] rfl ?_
  refine ge_batch [0, 1, 2] (ans := []) (vs := [(7, .agg #[.int .i64 x0, .int .i64 x1]), (6, .int .i64 x1), (5, .int .i64 x0)]) (l := []) (by kernel_rfl) trivial ?_
  refine ge_set (b := b1) (j := 0) (cs := #[.int .i64 0, .int .i64 0]) (t := 26) (vs := [.int .i64 x0, .int .i64 x1]) hS1 (by kernel_rfl) rfl rfl fun w2 hS2 => ?_
  have hS3 : St w0 w2 [Own.blk b1 (.cells #[.int .i64 x0, .int .i64 x1] 26 (0, 0))] := hS2
  refine ge_nil fun a hF => hK2 _ _ ?_ a hF
  have hS4 := hS3.takeN 0
  subst h
  exact we_ret (post_ret (rs := [.cell 4 26]) (ans := [.val (.int .i64 x0), .val (.int .i64 x1)]) (vs := [.agg #[.int .i64 x0, .int .i64 x1]]) (l := [.loaded ⟨b1, 0, none⟩ (.int .i64 x0), .loaded ⟨b1, 1, none⟩ (.int .i64 x1)]) rfl (by kernel_rfl) ⟨hS3.cell 0 rfl rfl, hS3.cell 0 rfl rfl, trivial⟩ ⟨rfl, hS4⟩)

structure A6Int where
  a0 : Int
  a1 : Int
  a2 : Int
  a3 : Int
  a4 : Int
  a5 : Int
def A6Int.eqb (x y : A6Int) : Bool := ((x.a0 == y.a0) && ((x.a1 == y.a1) && ((x.a2 == y.a2) && ((x.a3 == y.a3) && ((x.a4 == y.a4) && ((x.a5 == y.a5) && true))))))
instance : Ok A6Int := ⟨fun x => Ok.ok x.a0 ∧ Ok.ok x.a1 ∧ Ok.ok x.a2 ∧ Ok.ok x.a3 ∧ Ok.ok x.a4 ∧ Ok.ok x.a5 ∧ True⟩
instance : Flat A6Int := ⟨6, fun x => [.int .i64 x.a0, .int .i64 x.a1, .int .i64 x.a2, .int .i64 x.a3, .int .i64 x.a4, .int .i64 x.a5], fun _ => rfl, fun _ => rfl, by decide⟩

/-! punctual/punctualref.sixOf -/
abbrev punctualref_sixOf.Post (w0 : World) (r : A6Int) (e : Ending) (w : World) : Prop := e = .returned (.agg #[.int .i64 r.a0, .int .i64 r.a1, .int .i64 r.a2, .int .i64 r.a3, .int .i64 r.a4, .int .i64 r.a5]) ∧ St w0 w []
def punctualref_sixOf.f (x0 : STask) : A6Int :=
  (⟨x0.C, x0.T, x0.D, x0.J, x0.O, x0.P⟩ : A6Int)
theorem punctualref_sixOf_ok (x0 : STask) (w0 : World) (r : A6Int) (h : punctualref_sixOf.f x0 = r) :
    Calls Tryd.prog 66 #[.agg #[.string x0.Name, .int .i64 x0.C, .int .i64 x0.T, .int .i64 x0.D, .int .i64 x0.J, .int .i64 x0.O, .int .i64 x0.P]] w0 (punctualref_sixOf.Post w0 r) := by
  have hS := St.start w0
  unfold punctualref_sixOf.f at h
  refine calls_enter (n := 16) (args := [.agg #[.string x0.Name, .int .i64 x0.C, .int .i64 x0.T, .int .i64 x0.D, .int .i64 x0.J, .int .i64 x0.O, .int .i64 x0.P]]) (fn := Tryd.f66) rfl rfl rfl rfl ?_
  show WE _ _ _ _ [(0, .agg #[.string x0.Name, .int .i64 x0.C, .int .i64 x0.T, .int .i64 x0.D, .int .i64 x0.J, .int .i64 x0.O, .int .i64 x0.P])] _
  refine we_seq fun K1 hK1 => ?_
  refine we_region [(0, 1), (1, 1)] rfl ?_
  refine ge_new (d := some 1) (o := .cells #[.string x0.Name, .int .i64 x0.C, .int .i64 x0.T, .int .i64 x0.D, .int .i64 x0.J, .int .i64 x0.O, .int .i64 x0.P] 46) (v := fun b => .pointer (some ⟨b, 0, none⟩)) hS (fun b => by kernel_rfl) fun b1 w1 hx1 hS1 => ?_
  refine ge_new (d := some 2) (o := .cells #[.int .i64 0, .int .i64 0, .int .i64 0, .int .i64 0, .int .i64 0, .int .i64 0] 94) (v := fun b => .pointer (some ⟨b, 0, none⟩)) hS1 (fun b => by kernel_rfl) fun b2 w2 hx2 hS2 => ?_
  refine ge_nil fun a hF => hK1 _ _ ?_ a hF
  refine we_seq fun K2 hK2 => ?_
  refine we_region [(0, 0), (1, 0), (2, 0), (3, 0), (4, 0), (5, 0), (6, 0), (7, 0), (8, 0), (9, 0), (10, 0), (11, 0), (12, 0), (13, 2)] rfl ?_
  refine ge_batch [0, 1, 2, 3, 4, 5, 6, 7, 8, 9, 10, 11, 12] (ans := [.val (.int .i64 x0.C), .val (.int .i64 x0.T), .val (.int .i64 x0.D), .val (.int .i64 x0.J), .val (.int .i64 x0.O), .val (.int .i64 x0.P)]) (vs := [(15, .agg #[.int .i64 x0.C, .int .i64 x0.T, .int .i64 x0.D, .int .i64 x0.J, .int .i64 x0.O, .int .i64 x0.P]), (14, .int .i64 x0.P), (13, .pointer (some ⟨b1, 6, none⟩)), (12, .int .i64 x0.O), (11, .pointer (some ⟨b1, 5, none⟩)), (10, .int .i64 x0.J), (9, .pointer (some ⟨b1, 4, none⟩)), (8, .int .i64 x0.D), (7, .pointer (some ⟨b1, 3, none⟩)), (6, .int .i64 x0.T), (5, .pointer (some ⟨b1, 2, none⟩)), (4, .int .i64 x0.C), (3, .pointer (some ⟨b1, 1, none⟩))]) (l := [.loaded ⟨b1, 1, none⟩ (.int .i64 x0.C), .loaded ⟨b1, 2, none⟩ (.int .i64 x0.T), .loaded ⟨b1, 3, none⟩ (.int .i64 x0.D), .loaded ⟨b1, 4, none⟩ (.int .i64 x0.J), .loaded ⟨b1, 5, none⟩ (.int .i64 x0.O), .loaded ⟨b1, 6, none⟩ (.int .i64 x0.P)]) (by kernel_rfl) ⟨hS2.cell 1 rfl rfl, hS2.cell 1 rfl rfl, hS2.cell 1 rfl rfl, hS2.cell 1 rfl rfl, hS2.cell 1 rfl rfl, hS2.cell 1 rfl rfl, trivial⟩ ?_
  refine ge_set (b := b2) (j := 0) (cs := #[.int .i64 0, .int .i64 0, .int .i64 0, .int .i64 0, .int .i64 0, .int .i64 0]) (t := 94) (vs := [.int .i64 x0.C, .int .i64 x0.T, .int .i64 x0.D, .int .i64 x0.J, .int .i64 x0.O, .int .i64 x0.P]) hS2 (by kernel_rfl) rfl rfl fun w3 hS3 => ?_
  have hS4 : St w0 w3 [Own.blk b2 (.cells #[.int .i64 x0.C, .int .i64 x0.T, .int .i64 x0.D, .int .i64 x0.J, .int .i64 x0.O, .int .i64 x0.P] 94 (0, 0)), Own.blk b1 (.cells #[.string x0.Name, .int .i64 x0.C, .int .i64 x0.T, .int .i64 x0.D, .int .i64 x0.J, .int .i64 x0.O, .int .i64 x0.P] 46 (0, 0))] := hS3
  refine ge_nil fun a hF => hK2 _ _ ?_ a hF
  have hS5 := hS4.takeN 0
  subst h
  exact we_ret (post_ret (rs := [.cell 2 94]) (ans := [.val (.int .i64 x0.C), .val (.int .i64 x0.T), .val (.int .i64 x0.D), .val (.int .i64 x0.J), .val (.int .i64 x0.O), .val (.int .i64 x0.P)]) (vs := [.agg #[.int .i64 x0.C, .int .i64 x0.T, .int .i64 x0.D, .int .i64 x0.J, .int .i64 x0.O, .int .i64 x0.P]]) (l := [.loaded ⟨b2, 0, none⟩ (.int .i64 x0.C), .loaded ⟨b2, 1, none⟩ (.int .i64 x0.T), .loaded ⟨b2, 2, none⟩ (.int .i64 x0.D), .loaded ⟨b2, 3, none⟩ (.int .i64 x0.J), .loaded ⟨b2, 4, none⟩ (.int .i64 x0.O), .loaded ⟨b2, 5, none⟩ (.int .i64 x0.P)]) rfl (by kernel_rfl) ⟨hS4.cell 0 rfl rfl, hS4.cell 0 rfl rfl, hS4.cell 0 rfl rfl, hS4.cell 0 rfl rfl, hS4.cell 0 rfl rfl, hS4.cell 0 rfl rfl, trivial⟩ ⟨rfl, hS5⟩)
end Go.Proofs.YtlipdmblinjjaaaDoor.GV
