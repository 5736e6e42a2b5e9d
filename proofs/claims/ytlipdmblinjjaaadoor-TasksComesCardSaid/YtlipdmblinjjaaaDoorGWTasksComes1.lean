/- Walks of single functions, written by a program of this work. -/
import Derived.Test.YtlipdmblinjjaaaDoorGv26
import Derived.Test.YtlipdmblinjjaaaDoorProg
namespace Go.Proofs.YtlipdmblinjjaaaDoor.GV
open Go Go.RowKit
set_option linter.unusedVariables false
set_option linter.unusedSimpArgs false
set_option maxRecDepth 100000

structure STask where
  Name : ByteArray
  C : Int
  T : Int
  D : Int
  J : Int
  O : Int
  P : Int
def STask.eqb (x y : STask) : Bool := ((x.Name.toList == y.Name.toList) && ((x.C == y.C) && ((x.T == y.T) && ((x.D == y.D) && ((x.J == y.J) && ((x.O == y.O) && ((x.P == y.P) && true)))))))
instance : Ok STask := ⟨fun x => Ok.ok x.Name ∧ Ok.ok x.C ∧ Ok.ok x.T ∧ Ok.ok x.D ∧ Ok.ok x.J ∧ Ok.ok x.O ∧ Ok.ok x.P ∧ True⟩
instance : Flat STask := ⟨7, fun x => [.string x.Name, .int .i64 x.C, .int .i64 x.T, .int .i64 x.D, .int .i64 x.J, .int .i64 x.O, .int .i64 x.P], fun _ => rfl, fun _ => rfl, by decide⟩

/-! punctual/punctuallaw.three -/
abbrev three.Post (w0 : World) (r : List STask) (e : Ending) (w : World) : Prop := ∃ (v0 : Value), e = .returned (v0) ∧ St w0 w [Own.of v0 46 r]
def three.f : List STask :=
  ([(⟨⟨#[97]⟩, 1, 4, 4, 0, 0, 3⟩ : STask), (⟨⟨#[98]⟩, 2, 6, 6, 0, 0, 2⟩ : STask), (⟨⟨#[99]⟩, 3, 12, 12, 0, 0, 1⟩ : STask)] : List STask)
theorem three_ok  (w0 : World) (r : List STask) (h : three.f = r) :
    Calls Tryd.prog 20 #[] w0 (three.Post w0 r) := by
  have hS := St.start w0
  unfold three.f at h
  refine calls_enter (n := 5) (args := []) (fn := Tryd.f20) rfl rfl rfl rfl ?_
  show WE _ _ _ _ [] _
  refine we_seq fun K1 hK1 => ?_
  refine we_region [(0, 0)] rfl ?_
  refine ge_batch [0] (ans := []) (vs := [(0, .slice none 0 0)]) (l := []) (by kernel_rfl) trivial ?_
  refine ge_nil fun a hF => hK1 _ _ ?_ a hF
  refine we_seq fun K2 hK2 => ?_
  refine we_region [(0, 0), (1, 0), (2, 0), (3, 1), (4, 0)] rfl ?_
  refine ge_batch [0, 1, 2] (ans := []) (vs := [(3, .agg #[.string (⟨#[99]⟩), .int .i64 3, .int .i64 12, .int .i64 12, .int .i64 0, .int .i64 0, .int .i64 1]), (2, .agg #[.string (⟨#[98]⟩), .int .i64 2, .int .i64 6, .int .i64 6, .int .i64 0, .int .i64 0, .int .i64 2]), (1, .agg #[.string (⟨#[97]⟩), .int .i64 1, .int .i64 4, .int .i64 4, .int .i64 0, .int .i64 0, .int .i64 3])]) (l := []) (by kernel_rfl) trivial ?_
  refine ge_new (d := some 4) (o := .cells #[.string (⟨#[97]⟩), .int .i64 1, .int .i64 4, .int .i64 4, .int .i64 0, .int .i64 0, .int .i64 3, .string (⟨#[98]⟩), .int .i64 2, .int .i64 6, .int .i64 6, .int .i64 0, .int .i64 0, .int .i64 2, .string (⟨#[99]⟩), .int .i64 3, .int .i64 12, .int .i64 12, .int .i64 0, .int .i64 0, .int .i64 1] 46) (v := fun b => .slice (some ⟨b, 0, none⟩) 3 3) hS (fun b => by kernel_rfl) fun b1 w1 hx1 hS1 => ?_
  refine ge_batch [4] (ans := []) (vs := [(0, .slice (some ⟨b1, 0, none⟩) 3 3)]) (l := []) (by kernel_rfl) trivial ?_
  refine ge_nil fun a hF => hK2 _ _ ?_ a hF
  have hS2 := hS1.asRow (α := STask) (c := 3) ([(⟨⟨#[97]⟩, 1, 4, 4, 0, 0, 3⟩ : STask), (⟨⟨#[98]⟩, 2, 6, 6, 0, 0, 2⟩ : STask), (⟨⟨#[99]⟩, 3, 12, 12, 0, 0, 1⟩ : STask)] : List STask) (Nat.le_refl _) (by decide) rfl rfl
  subst h
  exact we_ret (post_ret (rs := [.tmp 0]) (ans := []) (vs := [(.slice (some ⟨b1, 0, none⟩) 3 3)]) (l := []) rfl (by kernel_rfl) trivial ⟨(.slice (some ⟨b1, 0, none⟩) 3 3), rfl, hS2⟩)

/-! punctual/tasks.isName -/
abbrev tasks_isName.Post (w0 : World) (r : Bool) (e : Ending) (w : World) : Prop := e = .returned (.bool r) ∧ St w0 w []
def tasks_isName.r0 (x0 : ByteArray) : Nat → Option (Nat ⊕ (Unit ⊕ Bool))
  | i1 =>
    if i1 < x0.size then
      if ((Utf8.decode x0 i1).1 : Int) < 97 then
        some (.inr (.inr false))
      else
        if ((Utf8.decode x0 i1).1 : Int) > 122 then
          some (.inr (.inr false))
        else
          some (.inl (i1 + (Utf8.decode x0 i1).2))
    else
      some (.inr (.inl ()))
def tasks_isName.f (K : Nat) (x0 : ByteArray) : Option Bool :=
  if (x0.size : Int) < 1 then
    some false
  else
    if (x0.size : Int) > 10 then
      some false
    else
      match iter (tasks_isName.r0 x0) K 0 with
      | none => none
      | some (.inl _) =>
        some true
      | some (.inr rr1) =>
        some rr1
abbrev tasks_isName.A0 (K : Nat) (w0 : World) (x0 : ByteArray) (hc1 : ¬ ((x0.size : Int) < 1)) (hc2 : ¬ ((x0.size : Int) > 10)) (b1 : Nat) : Nat → Act → World → Prop := fun (s : Nat) a w => St w0 w [Own.blk b1 (.stringIter x0 s)] ∧ Frm 24 a [(14, .pointer (some ⟨b1, 0, none⟩))]
abbrev tasks_isName.B0 (K : Nat) (w0 : World) (x0 : ByteArray) (hc1 : ¬ ((x0.size : Int) < 1)) (hc2 : ¬ ((x0.size : Int) > 10)) (b1 : Nat) : (Unit ⊕ Bool) → Exit → Act → World → Prop := Exits 0 (fun (s : Unit) a w => St w0 w [] ∧ Frm 24 a []) (Rets Tryd.prog Tryd.f61 (tasks_isName.Post w0))
theorem tasks_isName_r0 (K : Nat) (w0 : World) (x0 : ByteArray) (hc1 : ¬ ((x0.size : Int) < 1)) (hc2 : ¬ ((x0.size : Int) > 10)) (b1 : Nat) (s : Nat) (o : Nat ⊕ (Unit ⊕ Bool)) (h : tasks_isName.r0 x0 s = some o) (a : Act) (w : World) (hA : tasks_isName.A0 K w0 x0 hc1 hc2 b1 s a w) (Q : Exit → Act → World → Prop) (hQ : ∀ x a w, Outs (tasks_isName.A0 K w0 x0 hc1 hc2 b1) (tasks_isName.B0 K w0 x0 hc1 hc2 b1) o x a w → Q x a w) : (subF Tryd.f61 [1, 1, 0, 1, 0, 0]).wp Tryd.prog Q a w := by
  obtain ⟨i1, hs⟩ : ∃ z, z = s := ⟨s, rfl⟩
  subst hs
  obtain ⟨hS, hF⟩ := hA
  replace hS : St w0 w [Own.blk b1 (.stringIter x0 i1)] := hS
  simp only [tasks_isName.r0] at h
  refine (?_ : WE Tryd.prog 24 (subF Tryd.f61 [1, 1, 0, 1, 0, 0]) Q [(14, .pointer (some ⟨b1, 0, none⟩))] w) a hF
  clear hF a
  refine we_seq fun K8 hK8 => ?_
  refine we_region [(0, 2), (1, 0)] rfl ?_
  by_cases hc3 : i1 < x0.size
  · rw [if_pos hc3] at h
    refine ge_next (m := 0) (d := 15) (b := b1) (x := (.tmp 14)) (ty := 0) (s := x0) (pos := i1) (by kernel_rfl) (by kernel_rfl) hS (fun _ w2 hS2 => ?_) (fun hp => absurd hc3 hp)
    refine ge_batch [1] (ans := []) (vs := [(16, .bool true)]) (l := []) (by kernel_rfl) trivial ?_
    refine ge_nil fun a hF => hK8 _ _ ?_ a hF
    refine we_seq fun K9 hK9 => ?_
    refine we_true (by kernel_rfl) ?_
    refine we_skip fun a hF => hK9 _ _ ?_ a hF
    refine we_block ?_
    refine we_seq fun K10 hK10 => ?_
    refine we_region [(0, 0), (1, 0)] rfl ?_
    refine ge_batch [0, 1] (ans := []) (vs := [(4, .int .i32 ((Utf8.decode x0 i1).1 : Int)), (17, .int .i32 ((Utf8.decode x0 i1).1 : Int))]) (l := []) (by kernel_rfl) trivial ?_
    refine ge_nil fun a hF => hK10 _ _ ?_ a hF
    refine we_seq fun K11 hK11 => ?_
    refine we_region [(0, 0), (1, 0), (2, 0), (3, 0), (4, 0), (5, 0)] rfl ?_
    refine ge_batch [0, 1, 2] (ans := []) (vs := [(20, .bool (decide (((Utf8.decode x0 i1).1 : Int) < 97))), (19, .bool (decide (((Utf8.decode x0 i1).1 : Int) < 97))), (18, .int .i32 ((Utf8.decode x0 i1).1 : Int))]) (l := []) (by kernel_rfl) trivial ?_
    by_cases hc4 : ((Utf8.decode x0 i1).1 : Int) < 97
    · rw [if_pos hc4] at h
      refine ge_known (t := 20) (b := decide (((Utf8.decode x0 i1).1 : Int) < 97)) (c := true) (by kernel_rfl) (decide_eq_true hc4) ?_
      refine ge_batch [3, 4, 5] (ans := []) (vs := [(23, .bool true), (22, undef), (21, undef)]) (l := []) (by kernel_rfl) trivial ?_
      refine ge_nil fun a hF => hK11 _ _ ?_ a hF
      refine we_true (by kernel_rfl) ?_
      refine we_seq fun K12 hK12 => ?_
      refine we_region [(0, 0)] rfl ?_
      refine ge_batch [0] (ans := []) (vs := [(2, .bool false)]) (l := []) (by kernel_rfl) trivial ?_
      refine ge_nil fun a hF => hK12 _ _ ?_ a hF
      have hS3 := hS2.takeN 0
      obtain rfl := Option.some.inj h
      exact we_ret fun a hF => hQ _ _ _ (Outs.out nofun (Exits.on ⟨rfl, (post_ret (rs := [.tmp 2]) (ans := []) (vs := [.bool false]) (l := []) rfl (by kernel_rfl) trivial ⟨rfl, hS3⟩) a hF⟩))
    · rw [if_neg hc4] at h
      refine ge_known (t := 20) (b := decide (((Utf8.decode x0 i1).1 : Int) < 97)) (c := false) (by kernel_rfl) (decide_eq_false hc4) ?_
      refine ge_batch [3, 4, 5] (ans := []) (vs := [(23, .bool (decide (((Utf8.decode x0 i1).1 : Int) > 122))), (22, .bool (decide (((Utf8.decode x0 i1).1 : Int) > 122))), (21, .int .i32 ((Utf8.decode x0 i1).1 : Int))]) (l := []) (by kernel_rfl) trivial ?_
      refine ge_nil fun a hF => hK11 _ _ ?_ a hF
      by_cases hc5 : ((Utf8.decode x0 i1).1 : Int) > 122
      · rw [if_pos hc5] at h
        refine we_known (t := 23) (b := decide (((Utf8.decode x0 i1).1 : Int) > 122)) (v := true) (by kernel_rfl) (decide_eq_true hc5) ?_
        refine we_true (by kernel_rfl) ?_
        refine we_seq fun K13 hK13 => ?_
        refine we_region [(0, 0)] rfl ?_
        refine ge_batch [0] (ans := []) (vs := [(2, .bool false)]) (l := []) (by kernel_rfl) trivial ?_
        refine ge_nil fun a hF => hK13 _ _ ?_ a hF
        have hS4 := hS2.takeN 0
        obtain rfl := Option.some.inj h
        exact we_ret fun a hF => hQ _ _ _ (Outs.out nofun (Exits.on ⟨rfl, (post_ret (rs := [.tmp 2]) (ans := []) (vs := [.bool false]) (l := []) rfl (by kernel_rfl) trivial ⟨rfl, hS4⟩) a hF⟩))
      · rw [if_neg hc5] at h
        refine we_known (t := 23) (b := decide (((Utf8.decode x0 i1).1 : Int) > 122)) (v := false) (by kernel_rfl) (decide_eq_false hc5) ?_
        refine we_false (by kernel_rfl) ?_
        obtain rfl := Option.some.inj h
        exact we_skip fun a hF => hQ _ _ _ (Outs.again ⟨hS2, hF.weaken ⟨by kernel_rfl, trivial⟩⟩)
  · rw [if_neg hc3] at h
    refine ge_next (m := 0) (d := 15) (b := b1) (x := (.tmp 14)) (ty := 0) (s := x0) (pos := i1) (by kernel_rfl) (by kernel_rfl) hS (fun hp => absurd hp hc3) (fun _ => ?_)
    refine ge_batch [1] (ans := []) (vs := [(16, .bool false)]) (l := []) (by kernel_rfl) trivial ?_
    refine ge_nil fun a hF => hK8 _ _ ?_ a hF
    refine we_seq fun K14 hK14 => ?_
    refine we_false (by kernel_rfl) ?_
    have hS5 := hS.takeN 0
    obtain rfl := Option.some.inj h
    exact we_exit fun a hF => hQ _ _ _ (Outs.out nofun (Exits.here ⟨hS5, hF.weaken trivial⟩))
theorem tasks_isName_ok (K : Nat) (x0 : ByteArray) (w0 : World) (r : Bool) (h : tasks_isName.f K x0 = some r) :
    Calls Tryd.prog 61 #[.string x0] w0 (tasks_isName.Post w0 r) := by
  have hS := St.start w0
  unfold tasks_isName.f at h
  refine calls_enter (n := 24) (args := [.string x0]) (fn := Tryd.f61) rfl rfl rfl rfl ?_
  show WE _ _ _ _ [(0, .string x0)] _
  refine we_seq fun K1 hK1 => ?_
  refine we_region [(0, 0)] rfl ?_
  refine ge_batch [0] (ans := []) (vs := [(2, .bool false)]) (l := []) (by kernel_rfl) trivial ?_
  refine ge_nil fun a hF => hK1 _ _ ?_ a hF
  refine we_seq fun K2 hK2 => ?_
  refine we_seq fun K3 hK3 => ?_
  refine we_region [(0, 0), (1, 0), (2, 0), (3, 0), (4, 0), (5, 0), (6, 0), (7, 0)] rfl ?_
  refine ge_batch [0, 1, 2, 3] (ans := []) (vs := [(8, .bool (decide ((x0.size : Int) < 1))), (7, .bool (decide ((x0.size : Int) < 1))), (6, .int .i64 (x0.size : Int)), (5, .string x0)]) (l := []) (by kernel_rfl) trivial ?_
  by_cases hc1 : (x0.size : Int) < 1
  · rw [if_pos hc1] at h
    refine ge_known (t := 8) (b := decide ((x0.size : Int) < 1)) (c := true) (by kernel_rfl) (decide_eq_true hc1) ?_
    refine ge_batch [4, 5, 6, 7] (ans := []) (vs := [(12, .bool true), (11, undef), (10, undef), (9, undef)]) (l := []) (by kernel_rfl) trivial ?_
    refine ge_nil fun a hF => hK3 _ _ ?_ a hF
    refine we_true (by kernel_rfl) ?_
    refine we_seq fun K4 hK4 => ?_
    refine we_region [(0, 0)] rfl ?_
    refine ge_batch [0] (ans := []) (vs := [(2, .bool false)]) (l := []) (by kernel_rfl) trivial ?_
    refine ge_nil fun a hF => hK4 _ _ ?_ a hF
    obtain rfl := Option.some.inj h
    exact we_ret (post_ret (rs := [.tmp 2]) (ans := []) (vs := [.bool false]) (l := []) rfl (by kernel_rfl) trivial ⟨rfl, hS⟩)
  · rw [if_neg hc1] at h
    refine ge_known (t := 8) (b := decide ((x0.size : Int) < 1)) (c := false) (by kernel_rfl) (decide_eq_false hc1) ?_
    refine ge_batch [4, 5, 6, 7] (ans := []) (vs := [(12, .bool (decide ((x0.size : Int) > 10))), (11, .bool (decide ((x0.size : Int) > 10))), (10, .int .i64 (x0.size : Int)), (9, .string x0)]) (l := []) (by kernel_rfl) trivial ?_
    refine ge_nil fun a hF => hK3 _ _ ?_ a hF
    by_cases hc2 : (x0.size : Int) > 10
    · rw [if_pos hc2] at h
      refine we_known (t := 12) (b := decide ((x0.size : Int) > 10)) (v := true) (by kernel_rfl) (decide_eq_true hc2) ?_
      refine we_true (by kernel_rfl) ?_
      refine we_seq fun K5 hK5 => ?_
      refine we_region [(0, 0)] rfl ?_
      refine ge_batch [0] (ans := []) (vs := [(2, .bool false)]) (l := []) (by kernel_rfl) trivial ?_
      refine ge_nil fun a hF => hK5 _ _ ?_ a hF
      obtain rfl := Option.some.inj h
      exact we_ret (post_ret (rs := [.tmp 2]) (ans := []) (vs := [.bool false]) (l := []) rfl (by kernel_rfl) trivial ⟨rfl, hS⟩)
    · rw [if_neg hc2] at h
      refine we_known (t := 12) (b := decide ((x0.size : Int) > 10)) (v := false) (by kernel_rfl) (decide_eq_false hc2) ?_
      refine we_false (by kernel_rfl) ?_
      refine we_skip fun a hF => hK2 _ _ ?_ a hF
      refine we_seq fun K6 hK6 => ?_
      refine we_seq fun K7 hK7 => ?_
      refine we_region [(0, 0), (1, 1)] rfl ?_
      refine ge_batch [0] (ans := []) (vs := [(13, .string x0)]) (l := []) (by kernel_rfl) trivial ?_
      refine ge_new (d := some 14) (o := .stringIter x0 0) (v := fun b => .pointer (some ⟨b, 0, none⟩)) hS (fun b => by kernel_rfl) fun b1 w1 hx1 hS1 => ?_
      refine ge_nil fun a hF => hK7 _ _ ?_ a hF
      refine we_block ?_
      rcases hq1 : iter (tasks_isName.r0 x0) K 0 with _ | (_ | rr1)
      · rw [hq1] at h; cases h
      · rw [hq1] at h
        simp only [] at h
        refine we_iter (A := tasks_isName.A0 K w0 x0 hc1 hc2 b1) (B := tasks_isName.B0 K w0 x0 hc1 hc2 b1) hq1 (fun a hF => ⟨hS1, hF.weaken ⟨by kernel_rfl, trivial⟩⟩) (fun s o hf a w hA Q hQ => tasks_isName_r0 K w0 x0 hc1 hc2 b1 s o hf a w hA Q hQ) ?_
        rintro _ a w3 _ ⟨rfl, hS6, hF⟩
        replace hS6 : St w0 w3 [] := hS6
        refine hK6 [] w3 ?_ a hF
        refine we_seq fun K15 hK15 => ?_
        refine we_region [(0, 0)] rfl ?_
        refine ge_batch [0] (ans := []) (vs := [(2, .bool true)]) (l := []) (by kernel_rfl) trivial ?_
        refine ge_nil fun a hF => hK15 _ _ ?_ a hF
        obtain rfl := Option.some.inj h
        exact we_ret (post_ret (rs := [.tmp 2]) (ans := []) (vs := [.bool true]) (l := []) rfl (by kernel_rfl) trivial ⟨rfl, hS6⟩)
      · rw [hq1] at h
        simp only [] at h
        refine we_iter (A := tasks_isName.A0 K w0 x0 hc1 hc2 b1) (B := tasks_isName.B0 K w0 x0 hc1 hc2 b1) hq1 (fun a hF => ⟨hS1, hF.weaken ⟨by kernel_rfl, trivial⟩⟩) (fun s o hf a w hA Q hQ => tasks_isName_r0 K w0 x0 hc1 hc2 b1 s o hf a w hA Q hQ) ?_
        rintro _ a w1 _ ⟨rfl, hb⟩
        obtain rfl := Option.some.inj h
        exact hb

/-! punctual/tasks.Check$1 -/
abbrev tasks_Check_1.Post (w0 : World) (r : Bool) (e : Ending) (w : World) : Prop := e = .returned (.bool r) ∧ St w0 w []
def tasks_Check_1.f (x0 : STask) (xf_0 : STask) : Bool :=
  (x0.Name.toList == xf_0.Name.toList)
theorem tasks_Check_1_ok (x0 : STask) (bf_0 : Nat) (xf_0 : STask) (w0 : World) (hBf_0 : Glob w0 bf_0 [.string xf_0.Name, .int .i64 xf_0.C, .int .i64 xf_0.T, .int .i64 xf_0.D, .int .i64 xf_0.J, .int .i64 xf_0.O, .int .i64 xf_0.P]) (r : Bool) (h : tasks_Check_1.f x0 xf_0 = r) :
    Calls Tryd.prog 63 #[.agg #[.string x0.Name, .int .i64 x0.C, .int .i64 x0.T, .int .i64 x0.D, .int .i64 x0.J, .int .i64 x0.O, .int .i64 x0.P], .pointer (some ⟨bf_0, 0, none⟩)] w0 (tasks_Check_1.Post w0 r) := by
  have hS := St.start w0
  unfold tasks_Check_1.f at h
  refine calls_enter (n := 9) (args := [.agg #[.string x0.Name, .int .i64 x0.C, .int .i64 x0.T, .int .i64 x0.D, .int .i64 x0.J, .int .i64 x0.O, .int .i64 x0.P], .pointer (some ⟨bf_0, 0, none⟩)]) (fn := Tryd.f63) rfl rfl rfl rfl ?_
  show WE _ _ _ _ [(0, .agg #[.string x0.Name, .int .i64 x0.C, .int .i64 x0.T, .int .i64 x0.D, .int .i64 x0.J, .int .i64 x0.O, .int .i64 x0.P]), (1, .pointer (some ⟨bf_0, 0, none⟩))] _
  refine we_seq fun K1 hK1 => ?_
  refine we_region [(0, 1), (1, 0)] rfl ?_
  refine ge_new (d := some 2) (o := .cells #[.string x0.Name, .int .i64 x0.C, .int .i64 x0.T, .int .i64 x0.D, .int .i64 x0.J, .int .i64 x0.O, .int .i64 x0.P] 46) (v := fun b => .pointer (some ⟨b, 0, none⟩)) hS (fun b => by kernel_rfl) fun b1 w1 hx1 hS1 => ?_
  refine ge_batch [1] (ans := []) (vs := [(3, .bool false)]) (l := []) (by kernel_rfl) trivial ?_
  refine ge_nil fun a hF => hK1 _ _ ?_ a hF
  refine we_seq fun K2 hK2 => ?_
  refine we_region [(0, 0), (1, 0), (2, 0), (3, 0), (4, 0), (5, 0)] rfl ?_
  refine ge_batch [0, 1, 2, 3, 4, 5] (ans := [.val (.string x0.Name), .val (.string xf_0.Name)]) (vs := [(3, .bool (x0.Name.toList == xf_0.Name.toList)), (8, .bool (x0.Name.toList == xf_0.Name.toList)), (7, .string xf_0.Name), (6, .pointer (some ⟨bf_0, 0, none⟩)), (5, .string x0.Name), (4, .pointer (some ⟨b1, 0, none⟩))]) (l := [.loaded ⟨b1, 0, none⟩ (.string x0.Name), .loaded ⟨bf_0, 0, none⟩ (.string xf_0.Name)]) (by kernel_rfl) ⟨hS1.cell 0 rfl rfl, hS1.glob hBf_0 rfl, trivial⟩ ?_
  refine ge_nil fun a hF => hK2 _ _ ?_ a hF
  have hS2 := hS1.takeN 0
  subst h
  exact we_ret (post_ret (rs := [.tmp 3]) (ans := []) (vs := [.bool (x0.Name.toList == xf_0.Name.toList)]) (l := []) rfl (by kernel_rfl) trivial ⟨rfl, hS2⟩)

/-! slices.IndexFunc[[]punctual/api.Task,punctual/api.Task] -/
abbrev slices_IndexFunc_api_Task_api_Task.Post (w0 : World) (r : Int) (e : Ending) (w : World) : Prop := e = .returned (.int .i64 r) ∧ St w0 w []
def slices_IndexFunc_api_Task_api_Task.r0 (l0 : List STask) (xg1_0 : STask) : Nat → Option (Nat ⊕ (Unit ⊕ Int))
  | i1 =>
    if (i1 : Int) < (l0.length : Int) then
      match l0[i1]? with
      | none => none
      | some e1 =>
        if (tasks_Check_1.f e1 xg1_0) = true then
          some (.inr (.inr (i1 : Int)))
        else
          some (.inl (i1 + 1))
    else
      some (.inr (.inl ()))
def slices_IndexFunc_api_Task_api_Task.f (K : Nat) (l0 : List STask) (xg1_0 : STask) : Option Int :=
  match iter (slices_IndexFunc_api_Task_api_Task.r0 l0 xg1_0) K 0 with
  | none => none
  | some (.inl _) =>
    some (-1)
  | some (.inr rr1) =>
    some rr1
abbrev slices_IndexFunc_api_Task_api_Task.A0 (K : Nat) (w0 : World) (l0 : List STask) (A0 : Option Addr) (c0 : Nat) (bg1_0 : Nat) (xg1_0 : STask) (hR0 : RdL w0 A0 l0) (hL0 : l0.length ≤ c0) (hBg1_0 : Glob w0 bg1_0 [.string xg1_0.Name, .int .i64 xg1_0.C, .int .i64 xg1_0.T, .int .i64 xg1_0.D, .int .i64 xg1_0.J, .int .i64 xg1_0.O, .int .i64 xg1_0.P]) : Nat → Act → World → Prop := fun (s : Nat) a w => St w0 w [] ∧ Frm 19 a [(0, .slice A0 l0.length c0), (1, .func (.func 63) #[] #[.pointer (some ⟨bg1_0, 0, none⟩)]), (7, .int .i64 (l0.length : Int)), (8, .int .i64 (s : Int))]
abbrev slices_IndexFunc_api_Task_api_Task.B0 (K : Nat) (w0 : World) (l0 : List STask) (A0 : Option Addr) (c0 : Nat) (bg1_0 : Nat) (xg1_0 : STask) (hR0 : RdL w0 A0 l0) (hL0 : l0.length ≤ c0) (hBg1_0 : Glob w0 bg1_0 [.string xg1_0.Name, .int .i64 xg1_0.C, .int .i64 xg1_0.T, .int .i64 xg1_0.D, .int .i64 xg1_0.J, .int .i64 xg1_0.O, .int .i64 xg1_0.P]) : (Unit ⊕ Int) → Exit → Act → World → Prop := Exits 0 (fun (s : Unit) a w => St w0 w [] ∧ Frm 19 a []) (Rets Tryd.prog Tryd.f90 (slices_IndexFunc_api_Task_api_Task.Post w0))
theorem slices_IndexFunc_api_Task_api_Task_r0 (K : Nat) (w0 : World) (l0 : List STask) (A0 : Option Addr) (c0 : Nat) (bg1_0 : Nat) (xg1_0 : STask) (hR0 : RdL w0 A0 l0) (hL0 : l0.length ≤ c0) (hBg1_0 : Glob w0 bg1_0 [.string xg1_0.Name, .int .i64 xg1_0.C, .int .i64 xg1_0.T, .int .i64 xg1_0.D, .int .i64 xg1_0.J, .int .i64 xg1_0.O, .int .i64 xg1_0.P]) (s : Nat) (o : Nat ⊕ (Unit ⊕ Int)) (h : slices_IndexFunc_api_Task_api_Task.r0 l0 xg1_0 s = some o) (a : Act) (w : World) (hA : slices_IndexFunc_api_Task_api_Task.A0 K w0 l0 A0 c0 bg1_0 xg1_0 hR0 hL0 hBg1_0 s a w) (Q : Exit → Act → World → Prop) (hQ : ∀ x a w, Outs (slices_IndexFunc_api_Task_api_Task.A0 K w0 l0 A0 c0 bg1_0 xg1_0 hR0 hL0 hBg1_0) (slices_IndexFunc_api_Task_api_Task.B0 K w0 l0 A0 c0 bg1_0 xg1_0 hR0 hL0 hBg1_0) o x a w → Q x a w) : (subF Tryd.f90 [1, 0, 1, 0, 0]).wp Tryd.prog Q a w := by
  obtain ⟨i1, hs⟩ : ∃ z, z = s := ⟨s, rfl⟩
  subst hs
  obtain ⟨hS, hF⟩ := hA
  replace hS : St w0 w [] := hS
  simp only [slices_IndexFunc_api_Task_api_Task.r0] at h
  refine (?_ : WE Tryd.prog 19 (subF Tryd.f90 [1, 0, 1, 0, 0]) Q [(0, .slice A0 l0.length c0), (1, .func (.func 63) #[] #[.pointer (some ⟨bg1_0, 0, none⟩)]), (7, .int .i64 (l0.length : Int)), (8, .int .i64 (i1 : Int))] w) a hF
  clear hF a
  refine we_seq fun K4 hK4 => ?_
  refine we_region [(0, 0)] rfl ?_
  refine ge_batch [0] (ans := []) (vs := [(9, .bool (decide ((i1 : Int) < (l0.length : Int))))]) (l := []) (by kernel_rfl) trivial ?_
  refine ge_nil fun a hF => hK4 _ _ ?_ a hF
  refine we_seq fun K5 hK5 => ?_
  by_cases hc1 : (i1 : Int) < (l0.length : Int)
  · rw [if_pos hc1] at h
    refine we_known (t := 9) (b := decide ((i1 : Int) < (l0.length : Int))) (v := true) (by kernel_rfl) (decide_eq_true hc1) ?_
    refine we_true (by kernel_rfl) ?_
    refine we_skip fun a hF => hK5 _ _ ?_ a hF
    refine we_seq fun K6 hK6 => ?_
    refine we_block ?_
    refine we_seq fun K7 hK7 => ?_
    refine we_region [(0, 0), (1, 0)] rfl ?_
    refine ge_batch [0, 1] (ans := []) (vs := [(5, .int .i64 (i1 : Int)), (10, .int .i64 (i1 : Int))]) (l := []) (by kernel_rfl) trivial ?_
    refine ge_nil fun a hF => hK7 _ _ ?_ a hF
    refine we_seq fun K8 hK8 => ?_
    refine we_region [(0, 0), (1, 0), (2, 0), (3, 0), (4, 0), (5, 1)] rfl ?_
    refine ge_batch [0, 1, 2] (ans := []) (vs := [(13, .int .i64 (i1 : Int)), (12, .slice A0 l0.length c0), (11, .func (.func 63) #[] #[.pointer (some ⟨bg1_0, 0, none⟩)])]) (l := []) (by kernel_rfl) trivial ?_
    rcases hx1 : l0[i1]? with _ | e1
    · rw [hx1] at h; cases h
    rw [hx1] at h
    simp only [] at h
    refine ge_index (d := 14) (ty := 0) (t := 40) (el := 46) (sz := 7) (m := l0.length) (c := c0) (x := (.tmp 12)) (y := (.tmp 13)) (A := A0) (k' := .i64) (j := (i1 : Int)) (jn := i1) (b0 := blkOf A0) (o0 := offOf A0) (by kernel_rfl) (by kernel_rfl) (by kernel_rfl) (by kernel_rfl) (by kernel_rfl) ((hS.rd hR0).eqSome (pos_of_get hx1)) rfl (lt_of_get hx1) ?_
    refine ge_batch [4] (ans := [.val (.string e1.Name), .val (.int .i64 e1.C), .val (.int .i64 e1.T), .val (.int .i64 e1.D), .val (.int .i64 e1.J), .val (.int .i64 e1.O), .val (.int .i64 e1.P)]) (vs := [(15, .agg #[.string e1.Name, .int .i64 e1.C, .int .i64 e1.T, .int .i64 e1.D, .int .i64 e1.J, .int .i64 e1.O, .int .i64 e1.P])]) (l := [.loaded ⟨blkOf A0, offOf A0 + i1 * 7, none⟩ (.string e1.Name), .loaded ⟨blkOf A0, offOf A0 + i1 * 7 + 1, none⟩ (.int .i64 e1.C), .loaded ⟨blkOf A0, offOf A0 + i1 * 7 + 2, none⟩ (.int .i64 e1.T), .loaded ⟨blkOf A0, offOf A0 + i1 * 7 + 3, none⟩ (.int .i64 e1.D), .loaded ⟨blkOf A0, offOf A0 + i1 * 7 + 4, none⟩ (.int .i64 e1.J), .loaded ⟨blkOf A0, offOf A0 + i1 * 7 + 5, none⟩ (.int .i64 e1.O), .loaded ⟨blkOf A0, offOf A0 + i1 * 7 + 6, none⟩ (.int .i64 e1.P)]) (by kernel_rfl) ⟨RdL.cell (j := 0) (hS.rd hR0) hx1 rfl, RdL.cell (j := 1) (hS.rd hR0) hx1 rfl, RdL.cell (j := 2) (hS.rd hR0) hx1 rfl, RdL.cell (j := 3) (hS.rd hR0) hx1 rfl, RdL.cell (j := 4) (hS.rd hR0) hx1 rfl, RdL.cell (j := 5) (hS.rd hR0) hx1 rfl, RdL.cell (j := 6) (hS.rd hR0) hx1 rfl, trivial⟩ ?_
    refine ge_call (d := some 16) (f := 63) (args := #[.agg #[.string e1.Name, .int .i64 e1.C, .int .i64 e1.T, .int .i64 e1.D, .int .i64 e1.J, .int .i64 e1.O, .int .i64 e1.P], .pointer (some ⟨bg1_0, 0, none⟩)]) (by kernel_rfl) (tasks_Check_1_ok e1 bg1_0 xg1_0 _ (Glob.ext hBg1_0 hS.below) _ rfl) ?_
    rintro _ w1 ⟨rfl, hS1⟩
    refine ⟨_, rfl, hS1.below, ?_⟩
    have hS2 := hS.call hS1
    refine ge_nil fun a hF => hK8 _ _ ?_ a hF
    by_cases hc2 : (tasks_Check_1.f e1 xg1_0) = true
    · rw [if_pos hc2] at h
      refine we_known (t := 16) (b := (tasks_Check_1.f e1 xg1_0)) (v := true) (by kernel_rfl) hc2 ?_
      refine we_true (by kernel_rfl) ?_
      refine we_seq fun K9 hK9 => ?_
      refine we_region [(0, 0), (1, 0)] rfl ?_
      refine ge_batch [0, 1] (ans := []) (vs := [(4, .int .i64 (i1 : Int)), (17, .int .i64 (i1 : Int))]) (l := []) (by kernel_rfl) trivial ?_
      refine ge_nil fun a hF => hK9 _ _ ?_ a hF
      obtain rfl := Option.some.inj h
      exact we_ret fun a hF => hQ _ _ _ (Outs.out nofun (Exits.on ⟨rfl, (post_ret (rs := [.tmp 4]) (ans := []) (vs := [.int .i64 (i1 : Int)]) (l := []) rfl (by kernel_rfl) trivial ⟨rfl, hS2⟩) a hF⟩))
    · rw [if_neg hc2] at h
      refine we_known (t := 16) (b := (tasks_Check_1.f e1 xg1_0)) (v := false) (by kernel_rfl) (Bool.eq_false_iff.2 hc2) ?_
      refine we_false (by kernel_rfl) ?_
      refine we_skip fun a hF => hK6 _ _ ?_ a hF
      refine we_region [(0, 0), (1, 0)] rfl ?_
      refine ge_addn (d := 18) (ty := 3) (x := (.tmp 8)) (y := (.const (.int .i64 1))) (t := 3) (t2 := 3) (k := .i64) (m := i1) (by kernel_rfl) (by kernel_rfl) (by kernel_rfl) (by have h0 := hR0.small; omega) ?_
      refine ge_batch [1] (ans := []) (vs := [(8, .int .i64 ((i1 + 1 : Nat) : Int))]) (l := []) (by kernel_rfl) trivial ?_
      obtain rfl := Option.some.inj h
      exact ge_nil fun a hF => hQ _ _ _ (Outs.again ⟨hS2, hF.weaken ⟨by kernel_rfl, by kernel_rfl, by kernel_rfl, by kernel_rfl, trivial⟩⟩)
  · rw [if_neg hc1] at h
    refine we_known (t := 9) (b := decide ((i1 : Int) < (l0.length : Int))) (v := false) (by kernel_rfl) (decide_eq_false hc1) ?_
    refine we_false (by kernel_rfl) ?_
    obtain rfl := Option.some.inj h
    exact we_exit fun a hF => hQ _ _ _ (Outs.out nofun (Exits.here ⟨hS, hF.weaken trivial⟩))
theorem slices_IndexFunc_api_Task_api_Task_ok (K : Nat) (l0 : List STask) (A0 : Option Addr) (c0 : Nat) (bg1_0 : Nat) (xg1_0 : STask) (w0 : World) (hR0 : RdL w0 A0 l0) (hL0 : l0.length ≤ c0) (hBg1_0 : Glob w0 bg1_0 [.string xg1_0.Name, .int .i64 xg1_0.C, .int .i64 xg1_0.T, .int .i64 xg1_0.D, .int .i64 xg1_0.J, .int .i64 xg1_0.O, .int .i64 xg1_0.P]) (r : Int) (h : slices_IndexFunc_api_Task_api_Task.f K l0 xg1_0 = some r) :
    Calls Tryd.prog 90 #[.slice A0 l0.length c0, .func (.func 63) #[] #[.pointer (some ⟨bg1_0, 0, none⟩)]] w0 (slices_IndexFunc_api_Task_api_Task.Post w0 r) := by
  have hS := St.start w0
  unfold slices_IndexFunc_api_Task_api_Task.f at h
  refine calls_enter (n := 19) (args := [.slice A0 l0.length c0, .func (.func 63) #[] #[.pointer (some ⟨bg1_0, 0, none⟩)]]) (fn := Tryd.f90) rfl rfl rfl rfl ?_
  show WE _ _ _ _ [(0, .slice A0 l0.length c0), (1, .func (.func 63) #[] #[.pointer (some ⟨bg1_0, 0, none⟩)])] _
  refine we_seq fun K1 hK1 => ?_
  refine we_region [(0, 0)] rfl ?_
  refine ge_batch [0] (ans := []) (vs := [(4, .int .i64 0)]) (l := []) (by kernel_rfl) trivial ?_
  refine ge_nil fun a hF => hK1 _ _ ?_ a hF
  refine we_seq fun K2 hK2 => ?_
  refine we_seq fun K3 hK3 => ?_
  refine we_region [(0, 0), (1, 0), (2, 0)] rfl ?_
  refine ge_batch [0, 1, 2] (ans := []) (vs := [(8, .int .i64 0), (7, .int .i64 (l0.length : Int)), (6, .slice A0 l0.length c0)]) (l := []) (by kernel_rfl) trivial ?_
  refine ge_nil fun a hF => hK3 _ _ ?_ a hF
  refine we_block ?_
  rcases hq2 : iter (slices_IndexFunc_api_Task_api_Task.r0 l0 xg1_0) K 0 with _ | (_ | rr1)
  · rw [hq2] at h; cases h
  · rw [hq2] at h
    simp only [] at h
    refine we_iter (A := slices_IndexFunc_api_Task_api_Task.A0 K w0 l0 A0 c0 bg1_0 xg1_0 hR0 hL0 hBg1_0) (B := slices_IndexFunc_api_Task_api_Task.B0 K w0 l0 A0 c0 bg1_0 xg1_0 hR0 hL0 hBg1_0) hq2 (fun a hF => ⟨hS, hF.weaken ⟨by kernel_rfl, by kernel_rfl, by kernel_rfl, by kernel_rfl, trivial⟩⟩) (fun s o hf a w hA Q hQ => slices_IndexFunc_api_Task_api_Task_r0 K w0 l0 A0 c0 bg1_0 xg1_0 hR0 hL0 hBg1_0 s o hf a w hA Q hQ) ?_
    rintro _ a w2 _ ⟨rfl, hS3, hF⟩
    replace hS3 : St w0 w2 [] := hS3
    refine hK2 [] w2 ?_ a hF
    refine we_seq fun K10 hK10 => ?_
    refine we_region [(0, 0)] rfl ?_
    refine ge_batch [0] (ans := []) (vs := [(4, .int .i64 (-1))]) (l := []) (by kernel_rfl) trivial ?_
    refine ge_nil fun a hF => hK10 _ _ ?_ a hF
    obtain rfl := Option.some.inj h
    exact we_ret (post_ret (rs := [.tmp 4]) (ans := []) (vs := [.int .i64 (-1)]) (l := []) rfl (by kernel_rfl) trivial ⟨rfl, hS3⟩)
  · rw [hq2] at h
    simp only [] at h
    refine we_iter (A := slices_IndexFunc_api_Task_api_Task.A0 K w0 l0 A0 c0 bg1_0 xg1_0 hR0 hL0 hBg1_0) (B := slices_IndexFunc_api_Task_api_Task.B0 K w0 l0 A0 c0 bg1_0 xg1_0 hR0 hL0 hBg1_0) hq2 (fun a hF => ⟨hS, hF.weaken ⟨by kernel_rfl, by kernel_rfl, by kernel_rfl, by kernel_rfl, trivial⟩⟩) (fun s o hf a w hA Q hQ => slices_IndexFunc_api_Task_api_Task_r0 K w0 l0 A0 c0 bg1_0 xg1_0 hR0 hL0 hBg1_0 s o hf a w hA Q hQ) ?_
    rintro _ a w1 _ ⟨rfl, hb⟩
    obtain rfl := Option.some.inj h
    exact hb

/-! slices.ContainsFunc[[]punctual/api.Task,punctual/api.Task] -/
abbrev slices_ContainsFunc_api_Task_api_Task.Post (w0 : World) (r : Bool) (e : Ending) (w : World) : Prop := e = .returned (.bool r) ∧ St w0 w []
def slices_ContainsFunc_api_Task_api_Task.f (K : Nat) (l0 : List STask) (xg1_0 : STask) : Option Bool :=
  match slices_IndexFunc_api_Task_api_Task.f K l0 xg1_0 with
  | none => none
  | some r1 =>
    some (decide (r1 ≥ 0))
theorem slices_ContainsFunc_api_Task_api_Task_ok (K : Nat) (l0 : List STask) (A0 : Option Addr) (c0 : Nat) (bg1_0 : Nat) (xg1_0 : STask) (w0 : World) (hR0 : RdL w0 A0 l0) (hL0 : l0.length ≤ c0) (hBg1_0 : Glob w0 bg1_0 [.string xg1_0.Name, .int .i64 xg1_0.C, .int .i64 xg1_0.T, .int .i64 xg1_0.D, .int .i64 xg1_0.J, .int .i64 xg1_0.O, .int .i64 xg1_0.P]) (r : Bool) (h : slices_ContainsFunc_api_Task_api_Task.f K l0 xg1_0 = some r) :
    Calls Tryd.prog 62 #[.slice A0 l0.length c0, .func (.func 63) #[] #[.pointer (some ⟨bg1_0, 0, none⟩)]] w0 (slices_ContainsFunc_api_Task_api_Task.Post w0 r) := by
  have hS := St.start w0
  unfold slices_ContainsFunc_api_Task_api_Task.f at h
  refine calls_enter (n := 9) (args := [.slice A0 l0.length c0, .func (.func 63) #[] #[.pointer (some ⟨bg1_0, 0, none⟩)]]) (fn := Tryd.f62) rfl rfl rfl rfl ?_
  show WE _ _ _ _ [(0, .slice A0 l0.length c0), (1, .func (.func 63) #[] #[.pointer (some ⟨bg1_0, 0, none⟩)])] _
  refine we_seq fun K1 hK1 => ?_
  refine we_region [(0, 0)] rfl ?_
  refine ge_batch [0] (ans := []) (vs := [(4, .bool false)]) (l := []) (by kernel_rfl) trivial ?_
  refine ge_nil fun a hF => hK1 _ _ ?_ a hF
  refine we_seq fun K2 hK2 => ?_
  refine we_region [(0, 0), (1, 0), (2, 1), (3, 0), (4, 0)] rfl ?_
  rcases hq1 : slices_IndexFunc_api_Task_api_Task.f K l0 xg1_0 with _ | r1
  · rw [hq1] at h; cases h
  rw [hq1] at h
  simp only [] at h
  refine ge_batch [0, 1] (ans := []) (vs := [(6, .func (.func 63) #[] #[.pointer (some ⟨bg1_0, 0, none⟩)]), (5, .slice A0 l0.length c0)]) (l := []) (by kernel_rfl) trivial ?_
  refine ge_call (d := some 7) (f := 90) (args := #[.slice A0 l0.length c0, .func (.func 63) #[] #[.pointer (some ⟨bg1_0, 0, none⟩)]]) (by kernel_rfl) (slices_IndexFunc_api_Task_api_Task_ok K l0 A0 c0 bg1_0 xg1_0 _ (hS.rd hR0) hL0 (Glob.ext hBg1_0 hS.below) _ hq1) ?_
  rintro _ w1 ⟨rfl, hS1⟩
  refine ⟨_, rfl, hS1.below, ?_⟩
  have hS2 := hS.call hS1
  refine ge_batch [3, 4] (ans := []) (vs := [(4, .bool (decide (r1 ≥ 0))), (8, .bool (decide (r1 ≥ 0)))]) (l := []) (by kernel_rfl) trivial ?_
  refine ge_nil fun a hF => hK2 _ _ ?_ a hF
  obtain rfl := Option.some.inj h
  exact we_ret (post_ret (rs := [.tmp 4]) (ans := []) (vs := [.bool (decide (r1 ≥ 0))]) (l := []) rfl (by kernel_rfl) trivial ⟨rfl, hS2⟩)

/-! punctual/tasks.numbers -/
abbrev tasks_numbers.Post (w0 : World) (r : List Int) (e : Ending) (w : World) : Prop := ∃ (v0 : Value), e = .returned (v0) ∧ St w0 w [Own.of v0 3 r]
def tasks_numbers.f (x0 : STask) : List Int :=
  ([x0.C, x0.T, x0.D, x0.J, x0.O, x0.P] : List Int)
theorem tasks_numbers_ok (x0 : STask) (w0 : World) (r : List Int) (h : tasks_numbers.f x0 = r) :
    Calls Tryd.prog 64 #[.agg #[.string x0.Name, .int .i64 x0.C, .int .i64 x0.T, .int .i64 x0.D, .int .i64 x0.J, .int .i64 x0.O, .int .i64 x0.P]] w0 (tasks_numbers.Post w0 r) := by
  have hS := St.start w0
  unfold tasks_numbers.f at h
  refine calls_enter (n := 16) (args := [.agg #[.string x0.Name, .int .i64 x0.C, .int .i64 x0.T, .int .i64 x0.D, .int .i64 x0.J, .int .i64 x0.O, .int .i64 x0.P]]) (fn := Tryd.f64) rfl rfl rfl rfl ?_
  show WE _ _ _ _ [(0, .agg #[.string x0.Name, .int .i64 x0.C, .int .i64 x0.T, .int .i64 x0.D, .int .i64 x0.J, .int .i64 x0.O, .int .i64 x0.P])] _
  refine we_seq fun K1 hK1 => ?_
  refine we_region [(0, 1), (1, 0)] rfl ?_
  refine ge_new (d := some 1) (o := .cells #[.string x0.Name, .int .i64 x0.C, .int .i64 x0.T, .int .i64 x0.D, .int .i64 x0.J, .int .i64 x0.O, .int .i64 x0.P] 46) (v := fun b => .pointer (some ⟨b, 0, none⟩)) hS (fun b => by kernel_rfl) fun b1 w1 hx1 hS1 => ?_
  refine ge_batch [1] (ans := []) (vs := [(2, .slice none 0 0)]) (l := []) (by kernel_rfl) trivial ?_
  refine ge_nil fun a hF => hK1 _ _ ?_ a hF
  refine we_seq fun K2 hK2 => ?_
  refine we_region [(0, 0), (1, 0), (2, 0), (3, 0), (4, 0), (5, 0), (6, 0), (7, 0), (8, 0), (9, 0), (10, 0), (11, 0), (12, 1), (13, 0)] rfl ?_
  refine ge_batch [0, 1, 2, 3, 4, 5, 6, 7, 8, 9, 10, 11] (ans := [.val (.int .i64 x0.C), .val (.int .i64 x0.T), .val (.int .i64 x0.D), .val (.int .i64 x0.J), .val (.int .i64 x0.O), .val (.int .i64 x0.P)]) (vs := [(14, .int .i64 x0.P), (13, .pointer (some ⟨b1, 6, none⟩)), (12, .int .i64 x0.O), (11, .pointer (some ⟨b1, 5, none⟩)), (10, .int .i64 x0.J), (9, .pointer (some ⟨b1, 4, none⟩)), (8, .int .i64 x0.D), (7, .pointer (some ⟨b1, 3, none⟩)), (6, .int .i64 x0.T), (5, .pointer (some ⟨b1, 2, none⟩)), (4, .int .i64 x0.C), (3, .pointer (some ⟨b1, 1, none⟩))]) (l := [.loaded ⟨b1, 1, none⟩ (.int .i64 x0.C), .loaded ⟨b1, 2, none⟩ (.int .i64 x0.T), .loaded ⟨b1, 3, none⟩ (.int .i64 x0.D), .loaded ⟨b1, 4, none⟩ (.int .i64 x0.J), .loaded ⟨b1, 5, none⟩ (.int .i64 x0.O), .loaded ⟨b1, 6, none⟩ (.int .i64 x0.P)]) (by kernel_rfl) ⟨hS1.cell 0 rfl rfl, hS1.cell 0 rfl rfl, hS1.cell 0 rfl rfl, hS1.cell 0 rfl rfl, hS1.cell 0 rfl rfl, hS1.cell 0 rfl rfl, trivial⟩ ?_
  refine ge_new (d := some 15) (o := .cells #[.int .i64 x0.C, .int .i64 x0.T, .int .i64 x0.D, .int .i64 x0.J, .int .i64 x0.O, .int .i64 x0.P] 3) (v := fun b => .slice (some ⟨b, 0, none⟩) 6 6) hS1 (fun b => by kernel_rfl) fun b2 w2 hx2 hS2 => ?_
  refine ge_batch [13] (ans := []) (vs := [(2, .slice (some ⟨b2, 0, none⟩) 6 6)]) (l := []) (by kernel_rfl) trivial ?_
  refine ge_nil fun a hF => hK2 _ _ ?_ a hF
  have hS3 := hS2.asRow (α := Int) (c := 6) ([x0.C, x0.T, x0.D, x0.J, x0.O, x0.P] : List Int) (Nat.le_refl _) (by decide) rfl rfl
  have hS4 := hS3.takeN 1
  subst h
  exact we_ret (post_ret (rs := [.tmp 2]) (ans := []) (vs := [(.slice (some ⟨b2, 0, none⟩) 6 6)]) (l := []) rfl (by kernel_rfl) trivial ⟨(.slice (some ⟨b2, 0, none⟩) 6 6), rfl, hS4⟩)

/-! punctual/tasks.bounds -/
abbrev tasks_bounds.Post (w0 : World) (r : Int × Int) (e : Ending) (w : World) : Prop := e = .returned (.tuple #[.int .i64 r.1, .int .i64 r.2]) ∧ St w0 w []
def tasks_bounds.f (x0 : Int) : Int × Int :=
  if x0 = 0 then
    (1, 10000)
  else
    if x0 = 1 then
      (1, 10000)
    else
      if x0 = 2 then
        (1, 10000)
      else
        if x0 = 5 then
          (0, 1000)
        else
          (0, 10000)
theorem tasks_bounds_ok (x0 : Int) (w0 : World) (r : Int × Int) (h : tasks_bounds.f x0 = r) :
    Calls Tryd.prog 65 #[.int .i64 x0] w0 (tasks_bounds.Post w0 r) := by
  have hS := St.start w0
  unfold tasks_bounds.f at h
  refine calls_enter (n := 11) (args := [.int .i64 x0]) (fn := Tryd.f65) rfl rfl rfl rfl ?_
  show WE _ _ _ _ [(0, .int .i64 x0)] _
  refine we_seq fun K1 hK1 => ?_
  refine we_region [(0, 0), (1, 0)] rfl ?_
  refine ge_batch [0, 1] (ans := []) (vs := [(3, .int .i64 0), (2, .int .i64 0)]) (l := []) (by kernel_rfl) trivial ?_
  refine ge_nil fun a hF => hK1 _ _ ?_ a hF
  refine we_seq fun K2 hK2 => ?_
  refine we_seq fun K3 hK3 => ?_
  refine we_region [(0, 0)] rfl ?_
  refine ge_batch [0] (ans := []) (vs := [(4, .int .i64 x0)]) (l := []) (by kernel_rfl) trivial ?_
  refine ge_nil fun a hF => hK3 _ _ ?_ a hF
  refine we_block ?_
  refine we_seq fun K4 hK4 => ?_
  refine we_seq fun K5 hK5 => ?_
  refine we_region [(0, 0), (1, 0)] rfl ?_
  refine ge_batch [0, 1] (ans := []) (vs := [(5, .bool (x0 == 0)), (6, .bool (x0 == 0))]) (l := []) (by kernel_rfl) trivial ?_
  refine ge_nil fun a hF => hK5 _ _ ?_ a hF
  by_cases hc1 : x0 = 0
  · rw [if_pos hc1] at h
    refine we_known (t := 5) (b := (x0 == 0)) (v := true) (by kernel_rfl) (beq_iff_eq.2 hc1) ?_
    refine we_true (by kernel_rfl) ?_
    refine we_skip fun a hF => hK4 _ _ ?_ a hF
    refine we_true (by kernel_rfl) ?_
    refine we_seq fun K6 hK6 => ?_
    refine we_region [(0, 0), (1, 0)] rfl ?_
    refine ge_batch [0, 1] (ans := []) (vs := [(3, .int .i64 10000), (2, .int .i64 1)]) (l := []) (by kernel_rfl) trivial ?_
    refine ge_nil fun a hF => hK6 _ _ ?_ a hF
    subst h
    exact we_ret (post_ret (rs := [.tmp 2, .tmp 3]) (ans := []) (vs := [.int .i64 1, .int .i64 10000]) (l := []) rfl (by kernel_rfl) trivial ⟨rfl, hS⟩)
  · rw [if_neg hc1] at h
    refine we_known (t := 5) (b := (x0 == 0)) (v := false) (by kernel_rfl) (beq_eq_false_iff_ne.2 hc1) ?_
    refine we_false (by kernel_rfl) ?_
    refine we_seq fun K7 hK7 => ?_
    refine we_region [(0, 0), (1, 0)] rfl ?_
    refine ge_batch [0, 1] (ans := []) (vs := [(5, .bool (x0 == 1)), (7, .bool (x0 == 1))]) (l := []) (by kernel_rfl) trivial ?_
    refine ge_nil fun a hF => hK7 _ _ ?_ a hF
    by_cases hc2 : x0 = 1
    · rw [if_pos hc2] at h
      refine we_known (t := 5) (b := (x0 == 1)) (v := true) (by kernel_rfl) (beq_iff_eq.2 hc2) ?_
      refine we_true (by kernel_rfl) ?_
      refine we_skip fun a hF => hK4 _ _ ?_ a hF
      refine we_true (by kernel_rfl) ?_
      refine we_seq fun K8 hK8 => ?_
      refine we_region [(0, 0), (1, 0)] rfl ?_
      refine ge_batch [0, 1] (ans := []) (vs := [(3, .int .i64 10000), (2, .int .i64 1)]) (l := []) (by kernel_rfl) trivial ?_
      refine ge_nil fun a hF => hK8 _ _ ?_ a hF
      subst h
      exact we_ret (post_ret (rs := [.tmp 2, .tmp 3]) (ans := []) (vs := [.int .i64 1, .int .i64 10000]) (l := []) rfl (by kernel_rfl) trivial ⟨rfl, hS⟩)
    · rw [if_neg hc2] at h
      refine we_known (t := 5) (b := (x0 == 1)) (v := false) (by kernel_rfl) (beq_eq_false_iff_ne.2 hc2) ?_
      refine we_false (by kernel_rfl) ?_
      refine we_region [(0, 0), (1, 0)] rfl ?_
      refine ge_batch [0, 1] (ans := []) (vs := [(5, .bool (x0 == 2)), (8, .bool (x0 == 2))]) (l := []) (by kernel_rfl) trivial ?_
      refine ge_nil fun a hF => hK4 _ _ ?_ a hF
      by_cases hc3 : x0 = 2
      · rw [if_pos hc3] at h
        refine we_known (t := 5) (b := (x0 == 2)) (v := true) (by kernel_rfl) (beq_iff_eq.2 hc3) ?_
        refine we_true (by kernel_rfl) ?_
        refine we_seq fun K9 hK9 => ?_
        refine we_region [(0, 0), (1, 0)] rfl ?_
        refine ge_batch [0, 1] (ans := []) (vs := [(3, .int .i64 10000), (2, .int .i64 1)]) (l := []) (by kernel_rfl) trivial ?_
        refine ge_nil fun a hF => hK9 _ _ ?_ a hF
        subst h
        exact we_ret (post_ret (rs := [.tmp 2, .tmp 3]) (ans := []) (vs := [.int .i64 1, .int .i64 10000]) (l := []) rfl (by kernel_rfl) trivial ⟨rfl, hS⟩)
      · rw [if_neg hc3] at h
        refine we_known (t := 5) (b := (x0 == 2)) (v := false) (by kernel_rfl) (beq_eq_false_iff_ne.2 hc3) ?_
        refine we_false (by kernel_rfl) ?_
        refine we_seq fun K10 hK10 => ?_
        refine we_region [(0, 0), (1, 0)] rfl ?_
        refine ge_batch [0, 1] (ans := []) (vs := [(9, .bool (x0 == 5)), (10, .bool (x0 == 5))]) (l := []) (by kernel_rfl) trivial ?_
        refine ge_nil fun a hF => hK10 _ _ ?_ a hF
        by_cases hc4 : x0 = 5
        · rw [if_pos hc4] at h
          refine we_known (t := 9) (b := (x0 == 5)) (v := true) (by kernel_rfl) (beq_iff_eq.2 hc4) ?_
          refine we_true (by kernel_rfl) ?_
          refine we_seq fun K11 hK11 => ?_
          refine we_region [(0, 0), (1, 0)] rfl ?_
          refine ge_batch [0, 1] (ans := []) (vs := [(3, .int .i64 1000), (2, .int .i64 0)]) (l := []) (by kernel_rfl) trivial ?_
          refine ge_nil fun a hF => hK11 _ _ ?_ a hF
          subst h
          exact we_ret (post_ret (rs := [.tmp 2, .tmp 3]) (ans := []) (vs := [.int .i64 0, .int .i64 1000]) (l := []) rfl (by kernel_rfl) trivial ⟨rfl, hS⟩)
        · rw [if_neg hc4] at h
          refine we_known (t := 9) (b := (x0 == 5)) (v := false) (by kernel_rfl) (beq_eq_false_iff_ne.2 hc4) ?_
          refine we_false (by kernel_rfl) ?_
          refine we_skip fun a hF => hK2 _ _ ?_ a hF
          refine we_seq fun K12 hK12 => ?_
          refine we_region [(0, 0), (1, 0)] rfl ?_
          refine ge_batch [0, 1] (ans := []) (vs := [(3, .int .i64 10000), (2, .int .i64 0)]) (l := []) (by kernel_rfl) trivial ?_
          refine ge_nil fun a hF => hK12 _ _ ?_ a hF
          subst h
          exact we_ret (post_ret (rs := [.tmp 2, .tmp 3]) (ans := []) (vs := [.int .i64 0, .int .i64 10000]) (l := []) rfl (by kernel_rfl) trivial ⟨rfl, hS⟩)

structure SFault where
  Code : Int
  At : Int
def SFault.eqb (x y : SFault) : Bool := ((x.Code == y.Code) && ((x.At == y.At) && true))
instance : Ok SFault := ⟨fun x => Ok.ok x.Code ∧ Ok.ok x.At ∧ True⟩
instance : Flat SFault := ⟨2, fun x => [.int .i64 x.Code, .int .i64 x.At], fun _ => rfl, fun _ => rfl, by decide⟩

/-! punctual/tasks.Check -/
abbrev tasks_Check.Post (w0 : World) (r : SFault) (e : Ending) (w : World) : Prop := e = .returned (.agg #[.int .i64 r.Code, .int .i64 r.At]) ∧ St w0 w []
def tasks_Check.p0 (l0 : List STask) : Option (Unit ⊕ SFault) :=
    if (l0.length : Int) < 1 then
      some (.inr (⟨2, 0⟩ : SFault))
    else
      if (l0.length : Int) > 8 then
        some (.inr (⟨2, 0⟩ : SFault))
      else
        some (.inl ())
def tasks_Check.r2 (i1 : Nat) (e1 : STask) : Nat → Option (Nat ⊕ (Unit ⊕ SFault))
  | i2 =>
    if (i2 : Int) < ((tasks_numbers.f e1).length : Int) then
      match (tasks_numbers.f e1)[i2]? with
      | none => none
      | some e2 =>
        if e2 < ((tasks_bounds.f (i2 : Int)).1) then
          some (.inr (.inr (⟨3, (i1 : Int)⟩ : SFault)))
        else
          if e2 > ((tasks_bounds.f (i2 : Int)).2) then
            some (.inr (.inr (⟨3, (i1 : Int)⟩ : SFault)))
          else
            some (.inl (i2 + 1))
    else
      some (.inr (.inl ()))
def tasks_Check.r1 (K : Nat) (l0 : List STask) : Nat → Option (Nat ⊕ (Unit ⊕ SFault))
  | i1 =>
    if (i1 : Int) < (l0.length : Int) then
      match l0[i1]? with
      | none => none
      | some e1 =>
        match tasks_isName.f K e1.Name with
        | none => none
        | some r1 =>
          if r1 = true then
            if i1 ≤ l0.length then
              match slices_ContainsFunc_api_Task_api_Task.f K ((l0.take i1).drop 0) e1 with
              | none => none
              | some r2 =>
                if r2 = true then
                  some (.inr (.inr (⟨5, (i1 : Int)⟩ : SFault)))
                else
                  match iter (tasks_Check.r2 i1 e1) K 0 with
                  | none => none
                  | some (.inl _) =>
                    if e1.C > e1.D then
                      some (.inr (.inr (⟨12, (i1 : Int)⟩ : SFault)))
                    else
                      some (.inl (i1 + 1))
                  | some (.inr rr1) =>
                    some (.inr (.inr rr1))
            else
              none
          else
            some (.inr (.inr (⟨4, (i1 : Int)⟩ : SFault)))
    else
      some (.inr (.inl ()))
def tasks_Check.f (K : Nat) (l0 : List STask) : Option SFault :=
  match tasks_Check.p0 l0 with
  | none => none
  | some (.inl _) =>
    match iter (tasks_Check.r1 K l0) K 0 with
    | none => none
    | some (.inl _) =>
      some (⟨0, 0⟩ : SFault)
    | some (.inr rr2) =>
      some rr2
  | some (.inr rr3) =>
    some rr3
abbrev tasks_Check.A0 (K : Nat) (w0 : World) (l0 : List STask) (A0 : Option Addr) (c0 : Nat) (hR0 : RdL w0 A0 l0) (hL0 : l0.length ≤ c0) (b1 : Nat) : Unit → Act → World → Prop := fun (s : Unit) a w => St w0 w [Own.blk b1 (.cells #[.int .i64 0, .int .i64 0] 26 (0, 0))] ∧ Frm 71 a [(0, .slice A0 l0.length c0), (2, .pointer (some ⟨b1, 0, none⟩))]
abbrev tasks_Check.B0 (K : Nat) (w0 : World) (l0 : List STask) (A0 : Option Addr) (c0 : Nat) (hR0 : RdL w0 A0 l0) (hL0 : l0.length ≤ c0) (b1 : Nat) : SFault → Exit → Act → World → Prop := Rets Tryd.prog Tryd.f19 (tasks_Check.Post w0)
theorem tasks_Check_p0 (K : Nat) (w0 : World) (l0 : List STask) (A0 : Option Addr) (c0 : Nat) (hR0 : RdL w0 A0 l0) (hL0 : l0.length ≤ c0) (b1 : Nat) (o : Unit ⊕ SFault) (h : tasks_Check.p0 l0 = some o) (w : World) (hS : St w0 w [Own.blk b1 (.cells #[.int .i64 0, .int .i64 0] 26 (0, 0))]) (Q : Exit → Act → World → Prop) (hQ : ∀ x a w, Outs (tasks_Check.A0 K w0 l0 A0 c0 hR0 hL0 b1) (tasks_Check.B0 K w0 l0 A0 c0 hR0 hL0 b1) o x a w → Q x a w) : WE Tryd.prog 71 (subF Tryd.f19 [1, 0]) Q [(0, .slice A0 l0.length c0), (2, .pointer (some ⟨b1, 0, none⟩))] w := by
  simp only [tasks_Check.p0] at h
  refine we_seq fun K3 hK3 => ?_
  refine we_region [(0, 0), (1, 0), (2, 0), (3, 0), (4, 0), (5, 0), (6, 0), (7, 0)] rfl ?_
  refine ge_batch [0, 1, 2, 3] (ans := []) (vs := [(12, .bool (decide ((l0.length : Int) < 1))), (11, .bool (decide ((l0.length : Int) < 1))), (10, .int .i64 (l0.length : Int)), (9, .slice A0 l0.length c0)]) (l := []) (by kernel_rfl) trivial ?_
  by_cases hc1 : (l0.length : Int) < 1
  · rw [if_pos hc1] at h
    refine ge_known (t := 12) (b := decide ((l0.length : Int) < 1)) (c := true) (by kernel_rfl) (decide_eq_true hc1) ?_
    refine ge_batch [4, 5, 6, 7] (ans := []) (vs := [(16, .bool true), (15, undef), (14, undef), (13, undef)]) (l := []) (by kernel_rfl) trivial ?_
    refine ge_nil fun a hF => hK3 _ _ ?_ a hF
    refine we_true (by kernel_rfl) ?_
    refine we_seq fun K4 hK4 => ?_
    refine we_region [(0, 0), (1, 2)] rfl ?_
    refine ge_batch [0] (ans := []) (vs := [(17, .agg #[.int .i64 2, .int .i64 0])]) (l := []) (by kernel_rfl) trivial ?_
    refine ge_set (b := b1) (j := 0) (cs := #[.int .i64 0, .int .i64 0]) (t := 26) (vs := [.int .i64 2, .int .i64 0]) hS (by kernel_rfl) rfl rfl fun w2 hS2 => ?_
    have hS3 : St w0 w2 [Own.blk b1 (.cells #[.int .i64 2, .int .i64 0] 26 (0, 0))] := hS2
    refine ge_nil fun a hF => hK4 _ _ ?_ a hF
    have hS4 := hS3.takeN 0
    obtain rfl := Option.some.inj h
    exact we_ret fun a hF => hQ _ _ _ (Outs.out nofun ⟨rfl, (post_ret (rs := [.cell 2 26]) (ans := [.val (.int .i64 2), .val (.int .i64 0)]) (vs := [.agg #[.int .i64 2, .int .i64 0]]) (l := [.loaded ⟨b1, 0, none⟩ (.int .i64 2), .loaded ⟨b1, 1, none⟩ (.int .i64 0)]) rfl (by kernel_rfl) ⟨hS3.cell 0 rfl rfl, hS3.cell 0 rfl rfl, trivial⟩ ⟨rfl, hS4⟩) a hF⟩)
  · rw [if_neg hc1] at h
    refine ge_known (t := 12) (b := decide ((l0.length : Int) < 1)) (c := false) (by kernel_rfl) (decide_eq_false hc1) ?_
    refine ge_batch [4, 5, 6, 7] (ans := []) (vs := [(16, .bool (decide ((l0.length : Int) > 8))), (15, .bool (decide ((l0.length : Int) > 8))), (14, .int .i64 (l0.length : Int)), (13, .slice A0 l0.length c0)]) (l := []) (by kernel_rfl) trivial ?_
    refine ge_nil fun a hF => hK3 _ _ ?_ a hF
    by_cases hc2 : (l0.length : Int) > 8
    · rw [if_pos hc2] at h
      refine we_known (t := 16) (b := decide ((l0.length : Int) > 8)) (v := true) (by kernel_rfl) (decide_eq_true hc2) ?_
      refine we_true (by kernel_rfl) ?_
      refine we_seq fun K5 hK5 => ?_
      refine we_region [(0, 0), (1, 2)] rfl ?_
      refine ge_batch [0] (ans := []) (vs := [(17, .agg #[.int .i64 2, .int .i64 0])]) (l := []) (by kernel_rfl) trivial ?_
      refine ge_set (b := b1) (j := 0) (cs := #[.int .i64 0, .int .i64 0]) (t := 26) (vs := [.int .i64 2, .int .i64 0]) hS (by kernel_rfl) rfl rfl fun w3 hS5 => ?_
      have hS6 : St w0 w3 [Own.blk b1 (.cells #[.int .i64 2, .int .i64 0] 26 (0, 0))] := hS5
      refine ge_nil fun a hF => hK5 _ _ ?_ a hF
      have hS7 := hS6.takeN 0
      obtain rfl := Option.some.inj h
      exact we_ret fun a hF => hQ _ _ _ (Outs.out nofun ⟨rfl, (post_ret (rs := [.cell 2 26]) (ans := [.val (.int .i64 2), .val (.int .i64 0)]) (vs := [.agg #[.int .i64 2, .int .i64 0]]) (l := [.loaded ⟨b1, 0, none⟩ (.int .i64 2), .loaded ⟨b1, 1, none⟩ (.int .i64 0)]) rfl (by kernel_rfl) ⟨hS6.cell 0 rfl rfl, hS6.cell 0 rfl rfl, trivial⟩ ⟨rfl, hS7⟩) a hF⟩)
    · rw [if_neg hc2] at h
      refine we_known (t := 16) (b := decide ((l0.length : Int) > 8)) (v := false) (by kernel_rfl) (decide_eq_false hc2) ?_
      refine we_false (by kernel_rfl) ?_
      obtain rfl := Option.some.inj h
      exact we_skip fun a hF => hQ _ _ _ (Outs.again ⟨hS, hF.weaken ⟨by kernel_rfl, by kernel_rfl, trivial⟩⟩)
abbrev tasks_Check.A2 (K : Nat) (w0 : World) (l0 : List STask) (A0 : Option Addr) (c0 : Nat) (hR0 : RdL w0 A0 l0) (hL0 : l0.length ≤ c0) (b1 : Nat) (i1 : Nat) (hc3 : (i1 : Int) < (l0.length : Int)) (e1 : STask) (hx2 : l0[i1]? = some e1) (b2 : Nat) (r1 : Bool) (hc4 : r1 = true) (hc5 : i1 ≤ l0.length) (r2 : Bool) (hc6 : ¬ (r2 = true)) (Z1 : Option Addr) (cz1 : Nat) : Nat → Act → World → Prop := fun (s : Nat) a w => St w0 w [Own.blk b2 (.cells #[.string e1.Name, .int .i64 e1.C, .int .i64 e1.T, .int .i64 e1.D, .int .i64 e1.J, .int .i64 e1.O, .int .i64 e1.P] 46 (0, 0)), Own.blk b1 (.cells #[.int .i64 0, .int .i64 0] 26 (0, 0)), Own.of (.slice Z1 (tasks_numbers.f e1).length cz1) 3 (tasks_numbers.f e1)] ∧ Frm 71 a [(0, .slice A0 l0.length c0), (2, .pointer (some ⟨b1, 0, none⟩)), (3, .int .i64 (i1 : Int)), (4, .pointer (some ⟨b2, 0, none⟩)), (18, .slice A0 l0.length c0), (19, .int .i64 (l0.length : Int)), (20, .int .i64 (i1 : Int)), (39, (.slice Z1 (tasks_numbers.f e1).length cz1)), (40, .int .i64 ((tasks_numbers.f e1).length : Int)), (41, .int .i64 (s : Int))]
abbrev tasks_Check.B2 (K : Nat) (w0 : World) (l0 : List STask) (A0 : Option Addr) (c0 : Nat) (hR0 : RdL w0 A0 l0) (hL0 : l0.length ≤ c0) (b1 : Nat) (i1 : Nat) (hc3 : (i1 : Int) < (l0.length : Int)) (e1 : STask) (hx2 : l0[i1]? = some e1) (b2 : Nat) (r1 : Bool) (hc4 : r1 = true) (hc5 : i1 ≤ l0.length) (r2 : Bool) (hc6 : ¬ (r2 = true)) (Z1 : Option Addr) (cz1 : Nat) : (Unit ⊕ SFault) → Exit → Act → World → Prop := Exits 2 (fun (s : Unit) a w => St w0 w [Own.blk b2 (.cells #[.string e1.Name, .int .i64 e1.C, .int .i64 e1.T, .int .i64 e1.D, .int .i64 e1.J, .int .i64 e1.O, .int .i64 e1.P] 46 (0, 0)), Own.blk b1 (.cells #[.int .i64 0, .int .i64 0] 26 (0, 0))] ∧ Frm 71 a [(0, .slice A0 l0.length c0), (2, .pointer (some ⟨b1, 0, none⟩)), (3, .int .i64 (i1 : Int)), (4, .pointer (some ⟨b2, 0, none⟩)), (18, .slice A0 l0.length c0), (19, .int .i64 (l0.length : Int)), (20, .int .i64 (i1 : Int))]) (Rets Tryd.prog Tryd.f19 (tasks_Check.Post w0))
theorem tasks_Check_r2 (K : Nat) (w0 : World) (l0 : List STask) (A0 : Option Addr) (c0 : Nat) (hR0 : RdL w0 A0 l0) (hL0 : l0.length ≤ c0) (b1 : Nat) (i1 : Nat) (hc3 : (i1 : Int) < (l0.length : Int)) (e1 : STask) (hx2 : l0[i1]? = some e1) (b2 : Nat) (r1 : Bool) (hc4 : r1 = true) (hc5 : i1 ≤ l0.length) (r2 : Bool) (hc6 : ¬ (r2 = true)) (Z1 : Option Addr) (cz1 : Nat) (s : Nat) (o : Nat ⊕ (Unit ⊕ SFault)) (h : tasks_Check.r2 i1 e1 s = some o) (a : Act) (w : World) (hA : tasks_Check.A2 K w0 l0 A0 c0 hR0 hL0 b1 i1 hc3 e1 hx2 b2 r1 hc4 hc5 r2 hc6 Z1 cz1 s a w) (Q : Exit → Act → World → Prop) (hQ : ∀ x a w, Outs (tasks_Check.A2 K w0 l0 A0 c0 hR0 hL0 b1 i1 hc3 e1 hx2 b2 r1 hc4 hc5 r2 hc6 Z1 cz1) (tasks_Check.B2 K w0 l0 A0 c0 hR0 hL0 b1 i1 hc3 e1 hx2 b2 r1 hc4 hc5 r2 hc6 Z1 cz1) o x a w → Q x a w) : (subF Tryd.f19 [1, 1, 0, 1, 0, 0, 1, 1, 0, 0, 1, 1, 1, 0, 1, 0, 0]).wp Tryd.prog Q a w := by
  obtain ⟨i2, hs⟩ : ∃ z, z = s := ⟨s, rfl⟩
  subst hs
  obtain ⟨hS, hF⟩ := hA
  replace hS : St w0 w [Own.blk b2 (.cells #[.string e1.Name, .int .i64 e1.C, .int .i64 e1.T, .int .i64 e1.D, .int .i64 e1.J, .int .i64 e1.O, .int .i64 e1.P] 46 (0, 0)), Own.blk b1 (.cells #[.int .i64 0, .int .i64 0] 26 (0, 0)), Own.of (.slice Z1 (tasks_numbers.f e1).length cz1) 3 (tasks_numbers.f e1)] := hS
  simp only [tasks_Check.r2] at h
  refine (?_ : WE Tryd.prog 71 (subF Tryd.f19 [1, 1, 0, 1, 0, 0, 1, 1, 0, 0, 1, 1, 1, 0, 1, 0, 0]) Q [(0, .slice A0 l0.length c0), (2, .pointer (some ⟨b1, 0, none⟩)), (3, .int .i64 (i1 : Int)), (4, .pointer (some ⟨b2, 0, none⟩)), (18, .slice A0 l0.length c0), (19, .int .i64 (l0.length : Int)), (20, .int .i64 (i1 : Int)), (39, (.slice Z1 (tasks_numbers.f e1).length cz1)), (40, .int .i64 ((tasks_numbers.f e1).length : Int)), (41, .int .i64 (i2 : Int))] w) a hF
  clear hF a
  refine we_seq fun K19 hK19 => ?_
  refine we_region [(0, 0)] rfl ?_
  refine ge_batch [0] (ans := []) (vs := [(42, .bool (decide ((i2 : Int) < ((tasks_numbers.f e1).length : Int))))]) (l := []) (by kernel_rfl) trivial ?_
  refine ge_nil fun a hF => hK19 _ _ ?_ a hF
  refine we_seq fun K20 hK20 => ?_
  by_cases hc7 : (i2 : Int) < ((tasks_numbers.f e1).length : Int)
  · rw [if_pos hc7] at h
    refine we_known (t := 42) (b := decide ((i2 : Int) < ((tasks_numbers.f e1).length : Int))) (v := true) (by kernel_rfl) (decide_eq_true hc7) ?_
    refine we_true (by kernel_rfl) ?_
    refine we_skip fun a hF => hK20 _ _ ?_ a hF
    refine we_seq fun K21 hK21 => ?_
    refine we_block ?_
    refine we_seq fun K22 hK22 => ?_
    refine we_region [(0, 0), (1, 0), (2, 0), (3, 0), (4, 0)] rfl ?_
    refine ge_batch [0] (ans := []) (vs := [(43, .int .i64 (i2 : Int))]) (l := []) (by kernel_rfl) trivial ?_
    rcases hx4 : (tasks_numbers.f e1)[i2]? with _ | e2
    · rw [hx4] at h; cases h
    rw [hx4] at h
    simp only [] at h
    refine ge_index (d := 44) (ty := 0) (t := 23) (el := 3) (sz := 1) (m := (tasks_numbers.f e1).length) (c := cz1) (x := (.tmp 39)) (y := (.tmp 41)) (A := Z1) (k' := .i64) (j := (i2 : Int)) (jn := i2) (b0 := blkOf Z1) (o0 := offOf Z1) (by kernel_rfl) (by kernel_rfl) (by kernel_rfl) (by kernel_rfl) (by kernel_rfl) ((hS.rdAt 2 rfl).eqSome (pos_of_get hx4)) rfl (lt_of_get hx4) ?_
    refine ge_batch [2, 3, 4] (ans := [.val (.int .i64 e2)]) (vs := [(6, .int .i64 e2), (5, .int .i64 (i2 : Int)), (45, .int .i64 e2)]) (l := [.loaded ⟨blkOf Z1, offOf Z1 + i2 * 1, none⟩ (.int .i64 e2)]) (by kernel_rfl) ⟨RdL.cell (j := 0) (hS.rdAt 2 rfl) hx4 rfl, trivial⟩ ?_
    refine ge_nil fun a hF => hK22 _ _ ?_ a hF
    refine we_seq fun K23 hK23 => ?_
    refine we_region [(0, 0), (1, 1), (2, 0), (3, 0), (4, 0), (5, 0), (6, 0)] rfl ?_
    refine ge_batch [0] (ans := []) (vs := [(47, .int .i64 (i2 : Int))]) (l := []) (by kernel_rfl) trivial ?_
    refine ge_call (d := some 48) (f := 65) (args := #[.int .i64 (i2 : Int)]) (by kernel_rfl) (tasks_bounds_ok (i2 : Int) _ _ rfl) ?_
    rintro _ w11 ⟨rfl, hS24⟩
    refine ⟨_, rfl, hS24.below, ?_⟩
    have hS25 := hS.call hS24
    refine ge_batch [2, 3, 4, 5, 6] (ans := []) (vs := [(8, .int .i64 ((tasks_bounds.f (i2 : Int)).2)), (7, .int .i64 ((tasks_bounds.f (i2 : Int)).1)), (50, .int .i64 ((tasks_bounds.f (i2 : Int)).2)), (49, .int .i64 ((tasks_bounds.f (i2 : Int)).1)), (46, .tuple #[.int .i64 ((tasks_bounds.f (i2 : Int)).1), .int .i64 ((tasks_bounds.f (i2 : Int)).2)])]) (l := []) (by kernel_rfl) trivial ?_
    refine ge_nil fun a hF => hK23 _ _ ?_ a hF
    refine we_seq fun K24 hK24 => ?_
    refine we_region [(0, 0), (1, 0), (2, 0), (3, 0), (4, 0), (5, 0), (6, 0), (7, 0)] rfl ?_
    refine ge_batch [0, 1, 2, 3] (ans := []) (vs := [(54, .bool (decide (e2 < ((tasks_bounds.f (i2 : Int)).1)))), (53, .bool (decide (e2 < ((tasks_bounds.f (i2 : Int)).1)))), (52, .int .i64 ((tasks_bounds.f (i2 : Int)).1)), (51, .int .i64 e2)]) (l := []) (by kernel_rfl) trivial ?_
    by_cases hc8 : e2 < ((tasks_bounds.f (i2 : Int)).1)
    · rw [if_pos hc8] at h
      refine ge_known (t := 54) (b := decide (e2 < ((tasks_bounds.f (i2 : Int)).1))) (c := true) (by kernel_rfl) (decide_eq_true hc8) ?_
      refine ge_batch [4, 5, 6, 7] (ans := []) (vs := [(58, .bool true), (57, undef), (56, undef), (55, undef)]) (l := []) (by kernel_rfl) trivial ?_
      refine ge_nil fun a hF => hK24 _ _ ?_ a hF
      refine we_true (by kernel_rfl) ?_
      refine we_seq fun K25 hK25 => ?_
      refine we_region [(0, 0), (1, 0), (2, 2)] rfl ?_
      refine ge_batch [0, 1] (ans := []) (vs := [(60, .agg #[.int .i64 3, .int .i64 (i1 : Int)]), (59, .int .i64 (i1 : Int))]) (l := []) (by kernel_rfl) trivial ?_
      have hS26 := hS25.bring 1 rfl
      refine ge_set (b := b1) (j := 0) (cs := #[.int .i64 0, .int .i64 0]) (t := 26) (vs := [.int .i64 3, .int .i64 (i1 : Int)]) hS26 (by kernel_rfl) rfl rfl fun w12 hS27 => ?_
      have hS28 : St w0 w12 [Own.blk b1 (.cells #[.int .i64 3, .int .i64 (i1 : Int)] 26 (0, 0)), Own.blk b2 (.cells #[.string e1.Name, .int .i64 e1.C, .int .i64 e1.T, .int .i64 e1.D, .int .i64 e1.J, .int .i64 e1.O, .int .i64 e1.P] 46 (0, 0)), Own.of (.slice Z1 (tasks_numbers.f e1).length cz1) 3 (tasks_numbers.f e1)] := hS27
      refine ge_nil fun a hF => hK25 _ _ ?_ a hF
      have hS29 := hS28.takeN 0
      obtain rfl := Option.some.inj h
      exact we_ret fun a hF => hQ _ _ _ (Outs.out nofun (Exits.on ⟨rfl, (post_ret (rs := [.cell 2 26]) (ans := [.val (.int .i64 3), .val (.int .i64 (i1 : Int))]) (vs := [.agg #[.int .i64 3, .int .i64 (i1 : Int)]]) (l := [.loaded ⟨b1, 0, none⟩ (.int .i64 3), .loaded ⟨b1, 1, none⟩ (.int .i64 (i1 : Int))]) rfl (by kernel_rfl) ⟨hS28.cell 0 rfl rfl, hS28.cell 0 rfl rfl, trivial⟩ ⟨rfl, hS29⟩) a hF⟩))
    · rw [if_neg hc8] at h
      refine ge_known (t := 54) (b := decide (e2 < ((tasks_bounds.f (i2 : Int)).1))) (c := false) (by kernel_rfl) (decide_eq_false hc8) ?_
      refine ge_batch [4, 5, 6, 7] (ans := []) (vs := [(58, .bool (decide (e2 > ((tasks_bounds.f (i2 : Int)).2)))), (57, .bool (decide (e2 > ((tasks_bounds.f (i2 : Int)).2)))), (56, .int .i64 ((tasks_bounds.f (i2 : Int)).2)), (55, .int .i64 e2)]) (l := []) (by kernel_rfl) trivial ?_
      refine ge_nil fun a hF => hK24 _ _ ?_ a hF
      by_cases hc9 : e2 > ((tasks_bounds.f (i2 : Int)).2)
      · rw [if_pos hc9] at h
        refine we_known (t := 58) (b := decide (e2 > ((tasks_bounds.f (i2 : Int)).2))) (v := true) (by kernel_rfl) (decide_eq_true hc9) ?_
        refine we_true (by kernel_rfl) ?_
        refine we_seq fun K26 hK26 => ?_
        refine we_region [(0, 0), (1, 0), (2, 2)] rfl ?_
        refine ge_batch [0, 1] (ans := []) (vs := [(60, .agg #[.int .i64 3, .int .i64 (i1 : Int)]), (59, .int .i64 (i1 : Int))]) (l := []) (by kernel_rfl) trivial ?_
        have hS30 := hS25.bring 1 rfl
        refine ge_set (b := b1) (j := 0) (cs := #[.int .i64 0, .int .i64 0]) (t := 26) (vs := [.int .i64 3, .int .i64 (i1 : Int)]) hS30 (by kernel_rfl) rfl rfl fun w13 hS31 => ?_
        have hS32 : St w0 w13 [Own.blk b1 (.cells #[.int .i64 3, .int .i64 (i1 : Int)] 26 (0, 0)), Own.blk b2 (.cells #[.string e1.Name, .int .i64 e1.C, .int .i64 e1.T, .int .i64 e1.D, .int .i64 e1.J, .int .i64 e1.O, .int .i64 e1.P] 46 (0, 0)), Own.of (.slice Z1 (tasks_numbers.f e1).length cz1) 3 (tasks_numbers.f e1)] := hS31
        refine ge_nil fun a hF => hK26 _ _ ?_ a hF
        have hS33 := hS32.takeN 0
        obtain rfl := Option.some.inj h
        exact we_ret fun a hF => hQ _ _ _ (Outs.out nofun (Exits.on ⟨rfl, (post_ret (rs := [.cell 2 26]) (ans := [.val (.int .i64 3), .val (.int .i64 (i1 : Int))]) (vs := [.agg #[.int .i64 3, .int .i64 (i1 : Int)]]) (l := [.loaded ⟨b1, 0, none⟩ (.int .i64 3), .loaded ⟨b1, 1, none⟩ (.int .i64 (i1 : Int))]) rfl (by kernel_rfl) ⟨hS32.cell 0 rfl rfl, hS32.cell 0 rfl rfl, trivial⟩ ⟨rfl, hS33⟩) a hF⟩))
      · rw [if_neg hc9] at h
        refine we_known (t := 58) (b := decide (e2 > ((tasks_bounds.f (i2 : Int)).2))) (v := false) (by kernel_rfl) (decide_eq_false hc9) ?_
        refine we_false (by kernel_rfl) ?_
        refine we_skip fun a hF => hK21 _ _ ?_ a hF
        refine we_region [(0, 0), (1, 0)] rfl ?_
        refine ge_addn (d := 61) (ty := 3) (x := (.tmp 41)) (y := (.const (.int .i64 1))) (t := 3) (t2 := 3) (k := .i64) (m := i2) (by kernel_rfl) (by kernel_rfl) (by kernel_rfl) (by have h0 := hS25.ofSmall 2 rfl; omega) ?_
        refine ge_batch [1] (ans := []) (vs := [(41, .int .i64 ((i2 + 1 : Nat) : Int))]) (l := []) (by kernel_rfl) trivial ?_
        have hS34 := hS25.bring 2 rfl
        have hS35 := hS34.bring 2 rfl
        have hS36 := hS35.bring 2 rfl
        obtain rfl := Option.some.inj h
        exact ge_nil fun a hF => hQ _ _ _ (Outs.again ⟨hS36, hF.weaken ⟨by kernel_rfl, by kernel_rfl, by kernel_rfl, by kernel_rfl, by kernel_rfl, by kernel_rfl, by kernel_rfl, by kernel_rfl, by kernel_rfl, by kernel_rfl, trivial⟩⟩)
  · rw [if_neg hc7] at h
    refine we_known (t := 42) (b := decide ((i2 : Int) < ((tasks_numbers.f e1).length : Int))) (v := false) (by kernel_rfl) (decide_eq_false hc7) ?_
    refine we_false (by kernel_rfl) ?_
    have hS37 := hS.bring 1 rfl
    have hS38 := hS37.bring 1 rfl
    have hS39 := hS38.takeN 2
    obtain rfl := Option.some.inj h
    exact we_exit fun a hF => hQ _ _ _ (Outs.out nofun (Exits.here ⟨hS39, hF.weaken ⟨by kernel_rfl, by kernel_rfl, by kernel_rfl, by kernel_rfl, by kernel_rfl, by kernel_rfl, by kernel_rfl, trivial⟩⟩))
abbrev tasks_Check.A1 (K : Nat) (w0 : World) (l0 : List STask) (A0 : Option Addr) (c0 : Nat) (hR0 : RdL w0 A0 l0) (hL0 : l0.length ≤ c0) (b1 : Nat) : Nat → Act → World → Prop := fun (s : Nat) a w => St w0 w [Own.blk b1 (.cells #[.int .i64 0, .int .i64 0] 26 (0, 0))] ∧ Frm 71 a [(0, .slice A0 l0.length c0), (2, .pointer (some ⟨b1, 0, none⟩)), (18, .slice A0 l0.length c0), (19, .int .i64 (l0.length : Int)), (20, .int .i64 (s : Int))]
abbrev tasks_Check.B1 (K : Nat) (w0 : World) (l0 : List STask) (A0 : Option Addr) (c0 : Nat) (hR0 : RdL w0 A0 l0) (hL0 : l0.length ≤ c0) (b1 : Nat) : (Unit ⊕ SFault) → Exit → Act → World → Prop := Exits 0 (fun (s : Unit) a w => St w0 w [Own.blk b1 (.cells #[.int .i64 0, .int .i64 0] 26 (0, 0))] ∧ Frm 71 a [(2, .pointer (some ⟨b1, 0, none⟩))]) (Rets Tryd.prog Tryd.f19 (tasks_Check.Post w0))
theorem tasks_Check_r1 (K : Nat) (w0 : World) (l0 : List STask) (A0 : Option Addr) (c0 : Nat) (hR0 : RdL w0 A0 l0) (hL0 : l0.length ≤ c0) (b1 : Nat) (s : Nat) (o : Nat ⊕ (Unit ⊕ SFault)) (h : tasks_Check.r1 K l0 s = some o) (a : Act) (w : World) (hA : tasks_Check.A1 K w0 l0 A0 c0 hR0 hL0 b1 s a w) (Q : Exit → Act → World → Prop) (hQ : ∀ x a w, Outs (tasks_Check.A1 K w0 l0 A0 c0 hR0 hL0 b1) (tasks_Check.B1 K w0 l0 A0 c0 hR0 hL0 b1) o x a w → Q x a w) : (subF Tryd.f19 [1, 1, 0, 1, 0, 0]).wp Tryd.prog Q a w := by
  obtain ⟨i1, hs⟩ : ∃ z, z = s := ⟨s, rfl⟩
  subst hs
  obtain ⟨hS, hF⟩ := hA
  replace hS : St w0 w [Own.blk b1 (.cells #[.int .i64 0, .int .i64 0] 26 (0, 0))] := hS
  simp only [tasks_Check.r1] at h
  refine (?_ : WE Tryd.prog 71 (subF Tryd.f19 [1, 1, 0, 1, 0, 0]) Q [(0, .slice A0 l0.length c0), (2, .pointer (some ⟨b1, 0, none⟩)), (18, .slice A0 l0.length c0), (19, .int .i64 (l0.length : Int)), (20, .int .i64 (i1 : Int))] w) a hF
  clear hF a
  refine we_seq fun K8 hK8 => ?_
  refine we_region [(0, 0)] rfl ?_
  refine ge_batch [0] (ans := []) (vs := [(21, .bool (decide ((i1 : Int) < (l0.length : Int))))]) (l := []) (by kernel_rfl) trivial ?_
  refine ge_nil fun a hF => hK8 _ _ ?_ a hF
  refine we_seq fun K9 hK9 => ?_
  by_cases hc3 : (i1 : Int) < (l0.length : Int)
  · rw [if_pos hc3] at h
    refine we_known (t := 21) (b := decide ((i1 : Int) < (l0.length : Int))) (v := true) (by kernel_rfl) (decide_eq_true hc3) ?_
    refine we_true (by kernel_rfl) ?_
    refine we_skip fun a hF => hK9 _ _ ?_ a hF
    refine we_seq fun K10 hK10 => ?_
    refine we_block ?_
    refine we_seq fun K11 hK11 => ?_
    refine we_region [(0, 0), (1, 0), (2, 0), (3, 1), (4, 0), (5, 2)] rfl ?_
    refine ge_batch [0] (ans := []) (vs := [(22, .int .i64 (i1 : Int))]) (l := []) (by kernel_rfl) trivial ?_
    rcases hx2 : l0[i1]? with _ | e1
    · rw [hx2] at h; cases h
    rw [hx2] at h
    simp only [] at h
    refine ge_index (d := 23) (ty := 0) (t := 40) (el := 46) (sz := 7) (m := l0.length) (c := c0) (x := (.tmp 18)) (y := (.tmp 20)) (A := A0) (k' := .i64) (j := (i1 : Int)) (jn := i1) (b0 := blkOf A0) (o0 := offOf A0) (by kernel_rfl) (by kernel_rfl) (by kernel_rfl) (by kernel_rfl) (by kernel_rfl) ((hS.rd hR0).eqSome (pos_of_get hx2)) rfl (lt_of_get hx2) ?_
    refine ge_batch [2] (ans := [.val (.string e1.Name), .val (.int .i64 e1.C), .val (.int .i64 e1.T), .val (.int .i64 e1.D), .val (.int .i64 e1.J), .val (.int .i64 e1.O), .val (.int .i64 e1.P)]) (vs := [(24, .agg #[.string e1.Name, .int .i64 e1.C, .int .i64 e1.T, .int .i64 e1.D, .int .i64 e1.J, .int .i64 e1.O, .int .i64 e1.P])]) (l := [.loaded ⟨blkOf A0, offOf A0 + i1 * 7, none⟩ (.string e1.Name), .loaded ⟨blkOf A0, offOf A0 + i1 * 7 + 1, none⟩ (.int .i64 e1.C), .loaded ⟨blkOf A0, offOf A0 + i1 * 7 + 2, none⟩ (.int .i64 e1.T), .loaded ⟨blkOf A0, offOf A0 + i1 * 7 + 3, none⟩ (.int .i64 e1.D), .loaded ⟨blkOf A0, offOf A0 + i1 * 7 + 4, none⟩ (.int .i64 e1.J), .loaded ⟨blkOf A0, offOf A0 + i1 * 7 + 5, none⟩ (.int .i64 e1.O), .loaded ⟨blkOf A0, offOf A0 + i1 * 7 + 6, none⟩ (.int .i64 e1.P)]) (by kernel_rfl) ⟨RdL.cell (j := 0) (hS.rd hR0) hx2 rfl, RdL.cell (j := 1) (hS.rd hR0) hx2 rfl, RdL.cell (j := 2) (hS.rd hR0) hx2 rfl, RdL.cell (j := 3) (hS.rd hR0) hx2 rfl, RdL.cell (j := 4) (hS.rd hR0) hx2 rfl, RdL.cell (j := 5) (hS.rd hR0) hx2 rfl, RdL.cell (j := 6) (hS.rd hR0) hx2 rfl, trivial⟩ ?_
    refine ge_new (d := some 4) (o := .cells #[.string (⟨#[]⟩), .int .i64 0, .int .i64 0, .int .i64 0, .int .i64 0, .int .i64 0, .int .i64 0] 46) (v := fun b => .pointer (some ⟨b, 0, none⟩)) hS (fun b => by kernel_rfl) fun b2 w5 hx3 hS9 => ?_
    refine ge_batch [4] (ans := []) (vs := [(3, .int .i64 (i1 : Int))]) (l := []) (by kernel_rfl) trivial ?_
    refine ge_set (b := b2) (j := 0) (cs := #[.string (⟨#[]⟩), .int .i64 0, .int .i64 0, .int .i64 0, .int .i64 0, .int .i64 0, .int .i64 0]) (t := 46) (vs := [.string e1.Name, .int .i64 e1.C, .int .i64 e1.T, .int .i64 e1.D, .int .i64 e1.J, .int .i64 e1.O, .int .i64 e1.P]) hS9 (by kernel_rfl) rfl rfl fun w6 hS10 => ?_
    have hS11 : St w0 w6 [Own.blk b2 (.cells #[.string e1.Name, .int .i64 e1.C, .int .i64 e1.T, .int .i64 e1.D, .int .i64 e1.J, .int .i64 e1.O, .int .i64 e1.P] 46 (0, 0)), Own.blk b1 (.cells #[.int .i64 0, .int .i64 0] 26 (0, 0))] := hS10
    refine ge_nil fun a hF => hK11 _ _ ?_ a hF
    refine we_seq fun K12 hK12 => ?_
    refine we_seq fun K13 hK13 => ?_
    refine we_region [(0, 0), (1, 0), (2, 1), (3, 0)] rfl ?_
    rcases hq2 : tasks_isName.f K e1.Name with _ | r1
    · rw [hq2] at h; cases h
    rw [hq2] at h
    simp only [] at h
    refine ge_batch [0, 1] (ans := [.val (.string e1.Name)]) (vs := [(26, .string e1.Name), (25, .pointer (some ⟨b2, 0, none⟩))]) (l := [.loaded ⟨b2, 0, none⟩ (.string e1.Name)]) (by kernel_rfl) ⟨hS11.cell 0 rfl rfl, trivial⟩ ?_
    refine ge_call (d := some 27) (f := 61) (args := #[.string e1.Name]) (by kernel_rfl) (tasks_isName_ok K e1.Name _ _ hq2) ?_
    rintro _ w7 ⟨rfl, hS12⟩
    refine ⟨_, rfl, hS12.below, ?_⟩
    have hS13 := hS11.call hS12
    refine ge_batch [3] (ans := []) (vs := [(28, .bool (!r1))]) (l := []) (by kernel_rfl) trivial ?_
    refine ge_nil fun a hF => hK13 _ _ ?_ a hF
    by_cases hc4 : r1 = true
    · rw [if_pos hc4] at h
      refine we_known (t := 28) (b := !r1) (v := false) (by kernel_rfl) (congrArg (fun z => !z) hc4) ?_
      refine we_false (by kernel_rfl) ?_
      refine we_skip fun a hF => hK12 _ _ ?_ a hF
      refine we_seq fun K14 hK14 => ?_
      refine we_seq fun K15 hK15 => ?_
      refine we_region [(0, 0), (1, 0), (2, 0), (3, 0), (4, 1)] rfl ?_
      refine ge_batch [0, 1] (ans := []) (vs := [(32, .int .i64 (i1 : Int)), (31, .slice A0 l0.length c0)]) (l := []) (by kernel_rfl) trivial ?_
      by_cases hc5 : i1 ≤ l0.length
      · rw [if_pos hc5] at h
        refine ge_part (d := 33) (ty := 40) (t := 40) (el := 46) (sz := 7) (m := l0.length) (c := c0) (lo := 0) (hi := i1) (x := (.tmp 31)) (xl := none) (xh := some (.tmp 32)) (A := A0) (by kernel_rfl) (by kernel_rfl) rfl ⟨.i64, (i1 : Int), by kernel_rfl, rfl⟩ (by kernel_rfl) (by kernel_rfl) (by have f0 := hc5; have f1 := hL0; omega) (by have f0 := hc5; have f1 := hL0; omega) ?_
        refine ge_same (t := 33) (v := .slice (subA A0 c0 0 7) (i1 - 0) (c0 - 0)) (v' := .slice (subA A0 c0 0 7) (((l0.take i1).drop 0).length) (c0 - 0)) (by kernel_rfl) (by have f0 := hc5; have f1 := hL0; rw [show i1 - 0 = ((l0.take i1).drop 0).length by simp only [List.length_drop, List.length_take]; omega]) ?_
        rcases hq3 : slices_ContainsFunc_api_Task_api_Task.f K ((l0.take i1).drop 0) e1 with _ | r2
        · rw [hq3] at h; cases h
        rw [hq3] at h
        simp only [] at h
        refine ge_batch [3] (ans := []) (vs := [(34, .func (.func 63) #[] #[.pointer (some ⟨b2, 0, none⟩)])]) (l := []) (by kernel_rfl) trivial ?_
        refine ge_call (d := some 35) (f := 62) (args := #[.slice (subA A0 c0 0 7) (((l0.take i1).drop 0).length) (c0 - 0), .func (.func 63) #[] #[.pointer (some ⟨b2, 0, none⟩)]]) (by kernel_rfl) (slices_ContainsFunc_api_Task_api_Task_ok K ((l0.take i1).drop 0) (subA A0 c0 0 7) (c0 - 0) b2 e1 _ (hS13.rd (RdL.part hR0 hL0 0 i1)) (by have f0 := hc5; have f1 := hL0; simp only [List.length_drop, List.length_take]; omega) (hS13.globOf 0 rfl) _ hq3) ?_
        rintro _ w8 ⟨rfl, hS14⟩
        refine ⟨_, rfl, hS14.below, ?_⟩
        have hS15 := hS13.call hS14
        refine ge_nil fun a hF => hK15 _ _ ?_ a hF
        by_cases hc6 : r2 = true
        · rw [if_pos hc6] at h
          refine we_known (t := 35) (b := r2) (v := true) (by kernel_rfl) hc6 ?_
          refine we_true (by kernel_rfl) ?_
          refine we_seq fun K16 hK16 => ?_
          refine we_region [(0, 0), (1, 0), (2, 2)] rfl ?_
          refine ge_batch [0, 1] (ans := []) (vs := [(37, .agg #[.int .i64 5, .int .i64 (i1 : Int)]), (36, .int .i64 (i1 : Int))]) (l := []) (by kernel_rfl) trivial ?_
          have hS16 := hS15.bring 1 rfl
          refine ge_set (b := b1) (j := 0) (cs := #[.int .i64 0, .int .i64 0]) (t := 26) (vs := [.int .i64 5, .int .i64 (i1 : Int)]) hS16 (by kernel_rfl) rfl rfl fun w9 hS17 => ?_
          have hS18 : St w0 w9 [Own.blk b1 (.cells #[.int .i64 5, .int .i64 (i1 : Int)] 26 (0, 0)), Own.blk b2 (.cells #[.string e1.Name, .int .i64 e1.C, .int .i64 e1.T, .int .i64 e1.D, .int .i64 e1.J, .int .i64 e1.O, .int .i64 e1.P] 46 (0, 0))] := hS17
          refine ge_nil fun a hF => hK16 _ _ ?_ a hF
          have hS19 := hS18.takeN 0
          obtain rfl := Option.some.inj h
          exact we_ret fun a hF => hQ _ _ _ (Outs.out nofun (Exits.on ⟨rfl, (post_ret (rs := [.cell 2 26]) (ans := [.val (.int .i64 5), .val (.int .i64 (i1 : Int))]) (vs := [.agg #[.int .i64 5, .int .i64 (i1 : Int)]]) (l := [.loaded ⟨b1, 0, none⟩ (.int .i64 5), .loaded ⟨b1, 1, none⟩ (.int .i64 (i1 : Int))]) rfl (by kernel_rfl) ⟨hS18.cell 0 rfl rfl, hS18.cell 0 rfl rfl, trivial⟩ ⟨rfl, hS19⟩) a hF⟩))
        · rw [if_neg hc6] at h
          refine we_known (t := 35) (b := r2) (v := false) (by kernel_rfl) (Bool.eq_false_iff.2 hc6) ?_
          refine we_false (by kernel_rfl) ?_
          refine we_skip fun a hF => hK14 _ _ ?_ a hF
          refine we_seq fun K17 hK17 => ?_
          refine we_seq fun K18 hK18 => ?_
          refine we_region [(0, 0), (1, 1), (2, 0), (3, 0)] rfl ?_
          refine ge_batch [0] (ans := [.val (.string e1.Name), .val (.int .i64 e1.C), .val (.int .i64 e1.T), .val (.int .i64 e1.D), .val (.int .i64 e1.J), .val (.int .i64 e1.O), .val (.int .i64 e1.P)]) (vs := [(38, .agg #[.string e1.Name, .int .i64 e1.C, .int .i64 e1.T, .int .i64 e1.D, .int .i64 e1.J, .int .i64 e1.O, .int .i64 e1.P])]) (l := [.loaded ⟨b2, 0, none⟩ (.string e1.Name), .loaded ⟨b2, 1, none⟩ (.int .i64 e1.C), .loaded ⟨b2, 2, none⟩ (.int .i64 e1.T), .loaded ⟨b2, 3, none⟩ (.int .i64 e1.D), .loaded ⟨b2, 4, none⟩ (.int .i64 e1.J), .loaded ⟨b2, 5, none⟩ (.int .i64 e1.O), .loaded ⟨b2, 6, none⟩ (.int .i64 e1.P)]) (by kernel_rfl) ⟨hS15.cell 0 rfl rfl, hS15.cell 0 rfl rfl, hS15.cell 0 rfl rfl, hS15.cell 0 rfl rfl, hS15.cell 0 rfl rfl, hS15.cell 0 rfl rfl, hS15.cell 0 rfl rfl, trivial⟩ ?_
          refine ge_call (d := some 39) (f := 64) (args := #[.agg #[.string e1.Name, .int .i64 e1.C, .int .i64 e1.T, .int .i64 e1.D, .int .i64 e1.J, .int .i64 e1.O, .int .i64 e1.P]]) (by kernel_rfl) (tasks_numbers_ok e1 _ _ rfl) ?_
          rintro _ w10 ⟨v1, rfl, hS20⟩
          refine ⟨_, rfl, hS20.below, ?_⟩
          have hS21 := hS15.call hS20
          obtain ⟨Z1, cz1, rfl⟩ := hS21.open 0 rfl
          refine ge_batch [2, 3] (ans := []) (vs := [(41, .int .i64 0), (40, .int .i64 ((tasks_numbers.f e1).length : Int))]) (l := []) (by kernel_rfl) trivial ?_
          refine ge_nil fun a hF => hK18 _ _ ?_ a hF
          refine we_block ?_
          have hS22 := hS21.bring 2 rfl
          have hS23 := hS22.bring 2 rfl
          rcases hq6 : iter (tasks_Check.r2 i1 e1) K 0 with _ | (_ | rr1)
          · rw [hq6] at h; cases h
          · rw [hq6] at h
            simp only [] at h
            refine we_iter (A := tasks_Check.A2 K w0 l0 A0 c0 hR0 hL0 b1 i1 hc3 e1 hx2 b2 r1 hc4 hc5 r2 hc6 Z1 cz1) (B := tasks_Check.B2 K w0 l0 A0 c0 hR0 hL0 b1 i1 hc3 e1 hx2 b2 r1 hc4 hc5 r2 hc6 Z1 cz1) hq6 (fun a hF => ⟨hS23, hF.weaken ⟨by kernel_rfl, by kernel_rfl, by kernel_rfl, by kernel_rfl, by kernel_rfl, by kernel_rfl, by kernel_rfl, by kernel_rfl, by kernel_rfl, by kernel_rfl, trivial⟩⟩) (fun s o hf a w hA Q hQ => tasks_Check_r2 K w0 l0 A0 c0 hR0 hL0 b1 i1 hc3 e1 hx2 b2 r1 hc4 hc5 r2 hc6 Z1 cz1 s o hf a w hA Q hQ) ?_
            rintro _ a w14 _ ⟨rfl, hS40, hF⟩
            replace hS40 : St w0 w14 [Own.blk b2 (.cells #[.string e1.Name, .int .i64 e1.C, .int .i64 e1.T, .int .i64 e1.D, .int .i64 e1.J, .int .i64 e1.O, .int .i64 e1.P] 46 (0, 0)), Own.blk b1 (.cells #[.int .i64 0, .int .i64 0] 26 (0, 0))] := hS40
            refine hK17 [(0, .slice A0 l0.length c0), (2, .pointer (some ⟨b1, 0, none⟩)), (3, .int .i64 (i1 : Int)), (4, .pointer (some ⟨b2, 0, none⟩)), (18, .slice A0 l0.length c0), (19, .int .i64 (l0.length : Int)), (20, .int .i64 (i1 : Int))] w14 ?_ a hF
            refine we_seq fun K27 hK27 => ?_
            refine we_region [(0, 0), (1, 0), (2, 0), (3, 0), (4, 0)] rfl ?_
            refine ge_batch [0, 1, 2, 3, 4] (ans := [.val (.int .i64 e1.C), .val (.int .i64 e1.D)]) (vs := [(66, .bool (decide (e1.C > e1.D))), (65, .int .i64 e1.D), (64, .pointer (some ⟨b2, 3, none⟩)), (63, .int .i64 e1.C), (62, .pointer (some ⟨b2, 1, none⟩))]) (l := [.loaded ⟨b2, 1, none⟩ (.int .i64 e1.C), .loaded ⟨b2, 3, none⟩ (.int .i64 e1.D)]) (by kernel_rfl) ⟨hS40.cell 0 rfl rfl, hS40.cell 0 rfl rfl, trivial⟩ ?_
            refine ge_nil fun a hF => hK27 _ _ ?_ a hF
            by_cases hc10 : e1.C > e1.D
            · rw [if_pos hc10] at h
              refine we_known (t := 66) (b := decide (e1.C > e1.D)) (v := true) (by kernel_rfl) (decide_eq_true hc10) ?_
              refine we_true (by kernel_rfl) ?_
              refine we_seq fun K28 hK28 => ?_
              refine we_region [(0, 0), (1, 0), (2, 2)] rfl ?_
              refine ge_batch [0, 1] (ans := []) (vs := [(68, .agg #[.int .i64 12, .int .i64 (i1 : Int)]), (67, .int .i64 (i1 : Int))]) (l := []) (by kernel_rfl) trivial ?_
              have hS41 := hS40.bring 1 rfl
              refine ge_set (b := b1) (j := 0) (cs := #[.int .i64 0, .int .i64 0]) (t := 26) (vs := [.int .i64 12, .int .i64 (i1 : Int)]) hS41 (by kernel_rfl) rfl rfl fun w15 hS42 => ?_
              have hS43 : St w0 w15 [Own.blk b1 (.cells #[.int .i64 12, .int .i64 (i1 : Int)] 26 (0, 0)), Own.blk b2 (.cells #[.string e1.Name, .int .i64 e1.C, .int .i64 e1.T, .int .i64 e1.D, .int .i64 e1.J, .int .i64 e1.O, .int .i64 e1.P] 46 (0, 0))] := hS42
              refine ge_nil fun a hF => hK28 _ _ ?_ a hF
              have hS44 := hS43.takeN 0
              obtain rfl := Option.some.inj h
              exact we_ret fun a hF => hQ _ _ _ (Outs.out nofun (Exits.on ⟨rfl, (post_ret (rs := [.cell 2 26]) (ans := [.val (.int .i64 12), .val (.int .i64 (i1 : Int))]) (vs := [.agg #[.int .i64 12, .int .i64 (i1 : Int)]]) (l := [.loaded ⟨b1, 0, none⟩ (.int .i64 12), .loaded ⟨b1, 1, none⟩ (.int .i64 (i1 : Int))]) rfl (by kernel_rfl) ⟨hS43.cell 0 rfl rfl, hS43.cell 0 rfl rfl, trivial⟩ ⟨rfl, hS44⟩) a hF⟩))
            · rw [if_neg hc10] at h
              refine we_known (t := 66) (b := decide (e1.C > e1.D)) (v := false) (by kernel_rfl) (decide_eq_false hc10) ?_
              refine we_false (by kernel_rfl) ?_
              refine we_skip fun a hF => hK10 _ _ ?_ a hF
              refine we_region [(0, 0), (1, 0)] rfl ?_
              refine ge_addn (d := 69) (ty := 3) (x := (.tmp 20)) (y := (.const (.int .i64 1))) (t := 3) (t2 := 3) (k := .i64) (m := i1) (by kernel_rfl) (by kernel_rfl) (by kernel_rfl) (by have h0 := hR0.small; omega) ?_
              refine ge_batch [1] (ans := []) (vs := [(20, .int .i64 ((i1 + 1 : Nat) : Int))]) (l := []) (by kernel_rfl) trivial ?_
              have hS45 := hS40.bring 1 rfl
              have hS46 := hS45.takeN 1
              obtain rfl := Option.some.inj h
              exact ge_nil fun a hF => hQ _ _ _ (Outs.again ⟨hS46, hF.weaken ⟨by kernel_rfl, by kernel_rfl, by kernel_rfl, by kernel_rfl, by kernel_rfl, trivial⟩⟩)
          · rw [hq6] at h
            simp only [] at h
            refine we_iter (A := tasks_Check.A2 K w0 l0 A0 c0 hR0 hL0 b1 i1 hc3 e1 hx2 b2 r1 hc4 hc5 r2 hc6 Z1 cz1) (B := tasks_Check.B2 K w0 l0 A0 c0 hR0 hL0 b1 i1 hc3 e1 hx2 b2 r1 hc4 hc5 r2 hc6 Z1 cz1) hq6 (fun a hF => ⟨hS23, hF.weaken ⟨by kernel_rfl, by kernel_rfl, by kernel_rfl, by kernel_rfl, by kernel_rfl, by kernel_rfl, by kernel_rfl, by kernel_rfl, by kernel_rfl, by kernel_rfl, trivial⟩⟩) (fun s o hf a w hA Q hQ => tasks_Check_r2 K w0 l0 A0 c0 hR0 hL0 b1 i1 hc3 e1 hx2 b2 r1 hc4 hc5 r2 hc6 Z1 cz1 s o hf a w hA Q hQ) ?_
            rintro _ a w1 _ ⟨rfl, hb⟩
            obtain rfl := Option.some.inj h
            exact hQ _ _ _ (Outs.out nofun (Exits.on ⟨rfl, hb⟩))
      · rw [if_neg hc5] at h
        cases h
    · rw [if_neg hc4] at h
      refine we_known (t := 28) (b := !r1) (v := true) (by kernel_rfl) (congrArg (fun z => !z) (Bool.eq_false_iff.2 hc4)) ?_
      refine we_true (by kernel_rfl) ?_
      refine we_seq fun K29 hK29 => ?_
      refine we_region [(0, 0), (1, 0), (2, 2)] rfl ?_
      refine ge_batch [0, 1] (ans := []) (vs := [(30, .agg #[.int .i64 4, .int .i64 (i1 : Int)]), (29, .int .i64 (i1 : Int))]) (l := []) (by kernel_rfl) trivial ?_
      have hS47 := hS13.bring 1 rfl
      refine ge_set (b := b1) (j := 0) (cs := #[.int .i64 0, .int .i64 0]) (t := 26) (vs := [.int .i64 4, .int .i64 (i1 : Int)]) hS47 (by kernel_rfl) rfl rfl fun w16 hS48 => ?_
      have hS49 : St w0 w16 [Own.blk b1 (.cells #[.int .i64 4, .int .i64 (i1 : Int)] 26 (0, 0)), Own.blk b2 (.cells #[.string e1.Name, .int .i64 e1.C, .int .i64 e1.T, .int .i64 e1.D, .int .i64 e1.J, .int .i64 e1.O, .int .i64 e1.P] 46 (0, 0))] := hS48
      refine ge_nil fun a hF => hK29 _ _ ?_ a hF
      have hS50 := hS49.takeN 0
      obtain rfl := Option.some.inj h
      exact we_ret fun a hF => hQ _ _ _ (Outs.out nofun (Exits.on ⟨rfl, (post_ret (rs := [.cell 2 26]) (ans := [.val (.int .i64 4), .val (.int .i64 (i1 : Int))]) (vs := [.agg #[.int .i64 4, .int .i64 (i1 : Int)]]) (l := [.loaded ⟨b1, 0, none⟩ (.int .i64 4), .loaded ⟨b1, 1, none⟩ (.int .i64 (i1 : Int))]) rfl (by kernel_rfl) ⟨hS49.cell 0 rfl rfl, hS49.cell 0 rfl rfl, trivial⟩ ⟨rfl, hS50⟩) a hF⟩))
  · rw [if_neg hc3] at h
    refine we_known (t := 21) (b := decide ((i1 : Int) < (l0.length : Int))) (v := false) (by kernel_rfl) (decide_eq_false hc3) ?_
    refine we_false (by kernel_rfl) ?_
    obtain rfl := Option.some.inj h
    exact we_exit fun a hF => hQ _ _ _ (Outs.out nofun (Exits.here ⟨hS, hF.weaken ⟨by kernel_rfl, trivial⟩⟩))
theorem tasks_Check_ok (K : Nat) (l0 : List STask) (A0 : Option Addr) (c0 : Nat) (w0 : World) (hR0 : RdL w0 A0 l0) (hL0 : l0.length ≤ c0) (r : SFault) (h : tasks_Check.f K l0 = some r) :
    Calls Tryd.prog 19 #[.slice A0 l0.length c0] w0 (tasks_Check.Post w0 r) := by
  have hS := St.start w0
  unfold tasks_Check.f at h
  refine calls_enter (n := 71) (args := [.slice A0 l0.length c0]) (fn := Tryd.f19) rfl rfl rfl rfl ?_
  show WE _ _ _ _ [(0, .slice A0 l0.length c0)] _
  refine we_seq fun K1 hK1 => ?_
  refine we_region [(0, 1)] rfl ?_
  refine ge_new (d := some 2) (o := .cells #[.int .i64 0, .int .i64 0] 26) (v := fun b => .pointer (some ⟨b, 0, none⟩)) hS (fun b => by kernel_rfl) fun b1 w1 hx1 hS1 => ?_
  refine ge_nil fun a hF => hK1 _ _ ?_ a hF
  refine we_seq fun K2 hK2 => ?_
  rcases hq1 : tasks_Check.p0 l0 with _ | (_ | rr3)
  · rw [hq1] at h; cases h
  · rw [hq1] at h
    simp only [] at h
    refine we_keep (e' := [(0, .slice A0 l0.length c0), (2, .pointer (some ⟨b1, 0, none⟩))]) ⟨by kernel_rfl, by kernel_rfl, trivial⟩ (tasks_Check_p0 K w0 l0 A0 c0 hR0 hL0 b1 _ hq1 _ hS1 _ ?_)
    rintro _ a w4 ⟨rfl, hS8, hF⟩
    replace hS8 : St w0 w4 [Own.blk b1 (.cells #[.int .i64 0, .int .i64 0] 26 (0, 0))] := hS8
    refine hK2 [(0, .slice A0 l0.length c0), (2, .pointer (some ⟨b1, 0, none⟩))] w4 ?_ a hF
    refine we_seq fun K6 hK6 => ?_
    refine we_seq fun K7 hK7 => ?_
    refine we_region [(0, 0), (1, 0), (2, 0)] rfl ?_
    refine ge_batch [0, 1, 2] (ans := []) (vs := [(20, .int .i64 0), (19, .int .i64 (l0.length : Int)), (18, .slice A0 l0.length c0)]) (l := []) (by kernel_rfl) trivial ?_
    refine ge_nil fun a hF => hK7 _ _ ?_ a hF
    refine we_block ?_
    rcases hq7 : iter (tasks_Check.r1 K l0) K 0 with _ | (_ | rr2)
    · rw [hq7] at h; cases h
    · rw [hq7] at h
      simp only [] at h
      refine we_iter (A := tasks_Check.A1 K w0 l0 A0 c0 hR0 hL0 b1) (B := tasks_Check.B1 K w0 l0 A0 c0 hR0 hL0 b1) hq7 (fun a hF => ⟨hS8, hF.weaken ⟨by kernel_rfl, by kernel_rfl, by kernel_rfl, by kernel_rfl, by kernel_rfl, trivial⟩⟩) (fun s o hf a w hA Q hQ => tasks_Check_r1 K w0 l0 A0 c0 hR0 hL0 b1 s o hf a w hA Q hQ) ?_
      rintro _ a w17 _ ⟨rfl, hS51, hF⟩
      replace hS51 : St w0 w17 [Own.blk b1 (.cells #[.int .i64 0, .int .i64 0] 26 (0, 0))] := hS51
      refine hK6 [(2, .pointer (some ⟨b1, 0, none⟩))] w17 ?_ a hF
      refine we_seq fun K30 hK30 => ?_
      refine we_region [(0, 0), (1, 2)] rfl ?_
      refine ge_batch [0] (ans := []) (vs := [(70, .agg #[.int .i64 0, .int .i64 0])]) (l := []) (by kernel_rfl) trivial ?_
      refine ge_set (b := b1) (j := 0) (cs := #[.int .i64 0, .int .i64 0]) (t := 26) (vs := [.int .i64 0, .int .i64 0]) hS51 (by kernel_rfl) rfl rfl fun w18 hS52 => ?_
      have hS53 : St w0 w18 [Own.blk b1 (.cells #[.int .i64 0, .int .i64 0] 26 (0, 0))] := hS52
      refine ge_nil fun a hF => hK30 _ _ ?_ a hF
      have hS54 := hS53.takeN 0
      obtain rfl := Option.some.inj h
      exact we_ret (post_ret (rs := [.cell 2 26]) (ans := [.val (.int .i64 0), .val (.int .i64 0)]) (vs := [.agg #[.int .i64 0, .int .i64 0]]) (l := [.loaded ⟨b1, 0, none⟩ (.int .i64 0), .loaded ⟨b1, 1, none⟩ (.int .i64 0)]) rfl (by kernel_rfl) ⟨hS53.cell 0 rfl rfl, hS53.cell 0 rfl rfl, trivial⟩ ⟨rfl, hS54⟩)
    · rw [hq7] at h
      simp only [] at h
      refine we_iter (A := tasks_Check.A1 K w0 l0 A0 c0 hR0 hL0 b1) (B := tasks_Check.B1 K w0 l0 A0 c0 hR0 hL0 b1) hq7 (fun a hF => ⟨hS8, hF.weaken ⟨by kernel_rfl, by kernel_rfl, by kernel_rfl, by kernel_rfl, by kernel_rfl, trivial⟩⟩) (fun s o hf a w hA Q hQ => tasks_Check_r1 K w0 l0 A0 c0 hR0 hL0 b1 s o hf a w hA Q hQ) ?_
      rintro _ a w1 _ ⟨rfl, hb⟩
      obtain rfl := Option.some.inj h
      exact hb
  · rw [hq1] at h
    simp only [] at h
    refine we_keep (e' := [(0, .slice A0 l0.length c0), (2, .pointer (some ⟨b1, 0, none⟩))]) ⟨by kernel_rfl, by kernel_rfl, trivial⟩ (tasks_Check_p0 K w0 l0 A0 c0 hR0 hL0 b1 _ hq1 _ hS1 _ ?_)
    rintro _ a w1 ⟨_, rfl, hb⟩
    obtain rfl := Option.some.inj h
    exact hb

/-! cmp.isNaN[int] -/
abbrev cmp_isNaN_int.Post (w0 : World) (r : Bool) (e : Ending) (w : World) : Prop := e = .returned (.bool r) ∧ St w0 w []
def cmp_isNaN_int.f (x0 : Int) : Bool :=
  false
theorem cmp_isNaN_int_ok (x0 : Int) (w0 : World) (r : Bool) (h : cmp_isNaN_int.f x0 = r) :
    Calls Tryd.prog 99 #[.int .i64 x0] w0 (cmp_isNaN_int.Post w0 r) := by
  have hS := St.start w0
  unfold cmp_isNaN_int.f at h
  refine calls_enter (n := 6) (args := [.int .i64 x0]) (fn := Tryd.f99) rfl rfl rfl rfl ?_
  show WE _ _ _ _ [(0, .int .i64 x0)] _
  refine we_seq fun K1 hK1 => ?_
  refine we_region [(0, 0)] rfl ?_
  refine ge_batch [0] (ans := []) (vs := [(2, .bool false)]) (l := []) (by kernel_rfl) trivial ?_
  refine ge_nil fun a hF => hK1 _ _ ?_ a hF
  refine we_seq fun K2 hK2 => ?_
  refine we_region [(0, 0), (1, 0), (2, 0), (3, 0)] rfl ?_
  refine ge_batch [0, 1, 2] (ans := []) (vs := [(5, .bool (x0 != x0)), (4, .int .i64 x0), (3, .int .i64 x0)]) (l := []) (by kernel_rfl) trivial ?_
  refine ge_known (t := 5) (b := (x0 != x0)) (c := false) (by kernel_rfl) (by simp) ?_
  refine ge_batch [3] (ans := []) (vs := [(2, .bool false)]) (l := []) (by kernel_rfl) trivial ?_
  refine ge_nil fun a hF => hK2 _ _ ?_ a hF
  subst h
  exact we_ret (post_ret (rs := [.tmp 2]) (ans := []) (vs := [.bool false]) (l := []) rfl (by kernel_rfl) trivial ⟨rfl, hS⟩)

/-! cmp.Compare[int] -/
abbrev cmp_Compare_int.Post (w0 : World) (r : Int) (e : Ending) (w : World) : Prop := e = .returned (.int .i64 r) ∧ St w0 w []
def cmp_Compare_int.f (x0 : Int) (x1 : Int) : Int :=
  if (cmp_isNaN_int.f x0) = true then
    if (cmp_isNaN_int.f x1) = true then
      0
    else
      (-1)
  else
    if (cmp_isNaN_int.f x1) = true then
      1
    else
      if x0 < x1 then
        (-1)
      else
        if x0 > x1 then
          1
        else
          0
theorem cmp_Compare_int_ok (x0 : Int) (x1 : Int) (w0 : World) (r : Int) (h : cmp_Compare_int.f x0 x1 = r) :
    Calls Tryd.prog 80 #[.int .i64 x0, .int .i64 x1] w0 (cmp_Compare_int.Post w0 r) := by
  have hS := St.start w0
  unfold cmp_Compare_int.f at h
  refine calls_enter (n := 20) (args := [.int .i64 x0, .int .i64 x1]) (fn := Tryd.f80) rfl rfl rfl rfl ?_
  show WE _ _ _ _ [(0, .int .i64 x0), (1, .int .i64 x1)] _
  refine we_seq fun K1 hK1 => ?_
  refine we_region [(0, 0)] rfl ?_
  refine ge_batch [0] (ans := []) (vs := [(4, .int .i64 0)]) (l := []) (by kernel_rfl) trivial ?_
  refine ge_nil fun a hF => hK1 _ _ ?_ a hF
  refine we_seq fun K2 hK2 => ?_
  refine we_region [(0, 0), (1, 1), (2, 0)] rfl ?_
  refine ge_batch [0] (ans := []) (vs := [(7, .int .i64 x0)]) (l := []) (by kernel_rfl) trivial ?_
  refine ge_call (d := some 8) (f := 99) (args := #[.int .i64 x0]) (by kernel_rfl) (cmp_isNaN_int_ok x0 _ _ rfl) ?_
  rintro _ w1 ⟨rfl, hS1⟩
  refine ⟨_, rfl, hS1.below, ?_⟩
  have hS2 := hS.call hS1
  refine ge_batch [2] (ans := []) (vs := [(5, .bool (cmp_isNaN_int.f x0))]) (l := []) (by kernel_rfl) trivial ?_
  refine ge_nil fun a hF => hK2 _ _ ?_ a hF
  refine we_seq fun K3 hK3 => ?_
  refine we_region [(0, 0), (1, 1), (2, 0)] rfl ?_
  refine ge_batch [0] (ans := []) (vs := [(9, .int .i64 x1)]) (l := []) (by kernel_rfl) trivial ?_
  refine ge_call (d := some 10) (f := 99) (args := #[.int .i64 x1]) (by kernel_rfl) (cmp_isNaN_int_ok x1 _ _ rfl) ?_
  rintro _ w2 ⟨rfl, hS3⟩
  refine ⟨_, rfl, hS3.below, ?_⟩
  have hS4 := hS2.call hS3
  refine ge_batch [2] (ans := []) (vs := [(6, .bool (cmp_isNaN_int.f x1))]) (l := []) (by kernel_rfl) trivial ?_
  refine ge_nil fun a hF => hK3 _ _ ?_ a hF
  refine we_seq fun K4 hK4 => ?_
  refine we_seq fun K5 hK5 => ?_
  refine we_region [(0, 0)] rfl ?_
  refine ge_batch [0] (ans := []) (vs := [(11, .bool (cmp_isNaN_int.f x0))]) (l := []) (by kernel_rfl) trivial ?_
  refine ge_nil fun a hF => hK5 _ _ ?_ a hF
  by_cases hc1 : (cmp_isNaN_int.f x0) = true
  · rw [if_pos hc1] at h
    refine we_known (t := 11) (b := (cmp_isNaN_int.f x0)) (v := true) (by kernel_rfl) hc1 ?_
    refine we_true (by kernel_rfl) ?_
    refine we_seq fun K6 hK6 => ?_
    refine we_seq fun K7 hK7 => ?_
    refine we_region [(0, 0)] rfl ?_
    refine ge_batch [0] (ans := []) (vs := [(12, .bool (cmp_isNaN_int.f x1))]) (l := []) (by kernel_rfl) trivial ?_
    refine ge_nil fun a hF => hK7 _ _ ?_ a hF
    by_cases hc2 : (cmp_isNaN_int.f x1) = true
    · rw [if_pos hc2] at h
      refine we_known (t := 12) (b := (cmp_isNaN_int.f x1)) (v := true) (by kernel_rfl) hc2 ?_
      refine we_true (by kernel_rfl) ?_
      refine we_seq fun K8 hK8 => ?_
      refine we_region [(0, 0)] rfl ?_
      refine ge_batch [0] (ans := []) (vs := [(4, .int .i64 0)]) (l := []) (by kernel_rfl) trivial ?_
      refine ge_nil fun a hF => hK8 _ _ ?_ a hF
      subst h
      exact we_ret (post_ret (rs := [.tmp 4]) (ans := []) (vs := [.int .i64 0]) (l := []) rfl (by kernel_rfl) trivial ⟨rfl, hS4⟩)
    · rw [if_neg hc2] at h
      refine we_known (t := 12) (b := (cmp_isNaN_int.f x1)) (v := false) (by kernel_rfl) (Bool.eq_false_iff.2 hc2) ?_
      refine we_false (by kernel_rfl) ?_
      refine we_skip fun a hF => hK6 _ _ ?_ a hF
      refine we_seq fun K9 hK9 => ?_
      refine we_region [(0, 0)] rfl ?_
      refine ge_batch [0] (ans := []) (vs := [(4, .int .i64 (-1))]) (l := []) (by kernel_rfl) trivial ?_
      refine ge_nil fun a hF => hK9 _ _ ?_ a hF
      subst h
      exact we_ret (post_ret (rs := [.tmp 4]) (ans := []) (vs := [.int .i64 (-1)]) (l := []) rfl (by kernel_rfl) trivial ⟨rfl, hS4⟩)
  · rw [if_neg hc1] at h
    refine we_known (t := 11) (b := (cmp_isNaN_int.f x0)) (v := false) (by kernel_rfl) (Bool.eq_false_iff.2 hc1) ?_
    refine we_false (by kernel_rfl) ?_
    refine we_skip fun a hF => hK4 _ _ ?_ a hF
    refine we_seq fun K10 hK10 => ?_
    refine we_seq fun K11 hK11 => ?_
    refine we_region [(0, 0)] rfl ?_
    refine ge_batch [0] (ans := []) (vs := [(13, .bool (cmp_isNaN_int.f x1))]) (l := []) (by kernel_rfl) trivial ?_
    refine ge_nil fun a hF => hK11 _ _ ?_ a hF
    by_cases hc3 : (cmp_isNaN_int.f x1) = true
    · rw [if_pos hc3] at h
      refine we_known (t := 13) (b := (cmp_isNaN_int.f x1)) (v := true) (by kernel_rfl) hc3 ?_
      refine we_true (by kernel_rfl) ?_
      refine we_seq fun K12 hK12 => ?_
      refine we_region [(0, 0)] rfl ?_
      refine ge_batch [0] (ans := []) (vs := [(4, .int .i64 1)]) (l := []) (by kernel_rfl) trivial ?_
      refine ge_nil fun a hF => hK12 _ _ ?_ a hF
      subst h
      exact we_ret (post_ret (rs := [.tmp 4]) (ans := []) (vs := [.int .i64 1]) (l := []) rfl (by kernel_rfl) trivial ⟨rfl, hS4⟩)
    · rw [if_neg hc3] at h
      refine we_known (t := 13) (b := (cmp_isNaN_int.f x1)) (v := false) (by kernel_rfl) (Bool.eq_false_iff.2 hc3) ?_
      refine we_false (by kernel_rfl) ?_
      refine we_skip fun a hF => hK10 _ _ ?_ a hF
      refine we_seq fun K13 hK13 => ?_
      refine we_seq fun K14 hK14 => ?_
      refine we_region [(0, 0), (1, 0), (2, 0)] rfl ?_
      refine ge_batch [0, 1, 2] (ans := []) (vs := [(16, .bool (decide (x0 < x1))), (15, .int .i64 x1), (14, .int .i64 x0)]) (l := []) (by kernel_rfl) trivial ?_
      refine ge_nil fun a hF => hK14 _ _ ?_ a hF
      by_cases hc4 : x0 < x1
      · rw [if_pos hc4] at h
        refine we_known (t := 16) (b := decide (x0 < x1)) (v := true) (by kernel_rfl) (decide_eq_true hc4) ?_
        refine we_true (by kernel_rfl) ?_
        refine we_seq fun K15 hK15 => ?_
        refine we_region [(0, 0)] rfl ?_
        refine ge_batch [0] (ans := []) (vs := [(4, .int .i64 (-1))]) (l := []) (by kernel_rfl) trivial ?_
        refine ge_nil fun a hF => hK15 _ _ ?_ a hF
        subst h
        exact we_ret (post_ret (rs := [.tmp 4]) (ans := []) (vs := [.int .i64 (-1)]) (l := []) rfl (by kernel_rfl) trivial ⟨rfl, hS4⟩)
      · rw [if_neg hc4] at h
        refine we_known (t := 16) (b := decide (x0 < x1)) (v := false) (by kernel_rfl) (decide_eq_false hc4) ?_
        refine we_false (by kernel_rfl) ?_
        refine we_skip fun a hF => hK13 _ _ ?_ a hF
        refine we_seq fun K16 hK16 => ?_
        refine we_seq fun K17 hK17 => ?_
        refine we_region [(0, 0), (1, 0), (2, 0)] rfl ?_
        refine ge_batch [0, 1, 2] (ans := []) (vs := [(19, .bool (decide (x0 > x1))), (18, .int .i64 x1), (17, .int .i64 x0)]) (l := []) (by kernel_rfl) trivial ?_
        refine ge_nil fun a hF => hK17 _ _ ?_ a hF
        by_cases hc5 : x0 > x1
        · rw [if_pos hc5] at h
          refine we_known (t := 19) (b := decide (x0 > x1)) (v := true) (by kernel_rfl) (decide_eq_true hc5) ?_
          refine we_true (by kernel_rfl) ?_
          refine we_seq fun K18 hK18 => ?_
          refine we_region [(0, 0)] rfl ?_
          refine ge_batch [0] (ans := []) (vs := [(4, .int .i64 1)]) (l := []) (by kernel_rfl) trivial ?_
          refine ge_nil fun a hF => hK18 _ _ ?_ a hF
          subst h
          exact we_ret (post_ret (rs := [.tmp 4]) (ans := []) (vs := [.int .i64 1]) (l := []) rfl (by kernel_rfl) trivial ⟨rfl, hS4⟩)
        · rw [if_neg hc5] at h
          refine we_known (t := 19) (b := decide (x0 > x1)) (v := false) (by kernel_rfl) (decide_eq_false hc5) ?_
          refine we_false (by kernel_rfl) ?_
          refine we_skip fun a hF => hK16 _ _ ?_ a hF
          refine we_seq fun K19 hK19 => ?_
          refine we_region [(0, 0)] rfl ?_
          refine ge_batch [0] (ans := []) (vs := [(4, .int .i64 0)]) (l := []) (by kernel_rfl) trivial ?_
          refine ge_nil fun a hF => hK19 _ _ ?_ a hF
          subst h
          exact we_ret (post_ret (rs := [.tmp 4]) (ans := []) (vs := [.int .i64 0]) (l := []) rfl (by kernel_rfl) trivial ⟨rfl, hS4⟩)

structure SCome where
  Task : Int
  At : Int
def SCome.eqb (x y : SCome) : Bool := ((x.Task == y.Task) && ((x.At == y.At) && true))
instance : Ok SCome := ⟨fun x => Ok.ok x.Task ∧ Ok.ok x.At ∧ True⟩
instance : Flat SCome := ⟨2, fun x => [.int .i64 x.Task, .int .i64 x.At], fun _ => rfl, fun _ => rfl, by decide⟩

/-! punctual/tasks.Comes$1 -/
abbrev tasks_Comes_1.Post (w0 : World) (r : Int) (e : Ending) (w : World) : Prop := e = .returned (.int .i64 r) ∧ St w0 w []
def tasks_Comes_1.f (x0 : SCome) (x1 : SCome) : Int :=
  (cmp_Compare_int.f x0.At x1.At)
theorem tasks_Comes_1_ok (x0 : SCome) (x1 : SCome) (w0 : World) (r : Int) (h : tasks_Comes_1.f x0 x1 = r) :
    Calls Tryd.prog 79 #[.agg #[.int .i64 x0.Task, .int .i64 x0.At], .agg #[.int .i64 x1.Task, .int .i64 x1.At]] w0 (tasks_Comes_1.Post w0 r) := by
  have hS := St.start w0
  unfold tasks_Comes_1.f at h
  refine calls_enter (n := 10) (args := [.agg #[.int .i64 x0.Task, .int .i64 x0.At], .agg #[.int .i64 x1.Task, .int .i64 x1.At]]) (fn := Tryd.f79) rfl rfl rfl rfl ?_
  show WE _ _ _ _ [(0, .agg #[.int .i64 x0.Task, .int .i64 x0.At]), (1, .agg #[.int .i64 x1.Task, .int .i64 x1.At])] _
  refine we_seq fun K1 hK1 => ?_
  refine we_region [(0, 1), (1, 1), (2, 0)] rfl ?_
  refine ge_new (d := some 2) (o := .cells #[.int .i64 x0.Task, .int .i64 x0.At] 53) (v := fun b => .pointer (some ⟨b, 0, none⟩)) hS (fun b => by kernel_rfl) fun b1 w1 hx1 hS1 => ?_
  refine ge_new (d := some 3) (o := .cells #[.int .i64 x1.Task, .int .i64 x1.At] 53) (v := fun b => .pointer (some ⟨b, 0, none⟩)) hS1 (fun b => by kernel_rfl) fun b2 w2 hx2 hS2 => ?_
  refine ge_batch [2] (ans := []) (vs := [(4, .int .i64 0)]) (l := []) (by kernel_rfl) trivial ?_
  refine ge_nil fun a hF => hK1 _ _ ?_ a hF
  refine we_seq fun K2 hK2 => ?_
  refine we_region [(0, 0), (1, 0), (2, 0), (3, 0), (4, 1), (5, 0)] rfl ?_
  refine ge_batch [0, 1, 2, 3] (ans := [.val (.int .i64 x0.At), .val (.int .i64 x1.At)]) (vs := [(8, .int .i64 x1.At), (7, .pointer (some ⟨b2, 1, none⟩)), (6, .int .i64 x0.At), (5, .pointer (some ⟨b1, 1, none⟩))]) (l := [.loaded ⟨b1, 1, none⟩ (.int .i64 x0.At), .loaded ⟨b2, 1, none⟩ (.int .i64 x1.At)]) (by kernel_rfl) ⟨hS2.cell 1 rfl rfl, hS2.cell 0 rfl rfl, trivial⟩ ?_
  refine ge_call (d := some 9) (f := 80) (args := #[.int .i64 x0.At, .int .i64 x1.At]) (by kernel_rfl) (cmp_Compare_int_ok x0.At x1.At _ _ rfl) ?_
  rintro _ w3 ⟨rfl, hS3⟩
  refine ⟨_, rfl, hS3.below, ?_⟩
  have hS4 := hS2.call hS3
  refine ge_batch [5] (ans := []) (vs := [(4, .int .i64 (cmp_Compare_int.f x0.At x1.At))]) (l := []) (by kernel_rfl) trivial ?_
  refine ge_nil fun a hF => hK2 _ _ ?_ a hF
  have hS5 := hS4.takeN 0
  subst h
  exact we_ret (post_ret (rs := [.tmp 4]) (ans := []) (vs := [.int .i64 (cmp_Compare_int.f x0.At x1.At)]) (l := []) rfl (by kernel_rfl) trivial ⟨rfl, hS5⟩)

/-! slices.insertionSortCmpFunc[punctual/api.Come] -/
abbrev slices_insertionSortCmpFunc_api_Come.Post (w0 : World) (l0 : List SCome) (A0 : Option Addr) (c0 : Nat) (x1 : Int) (x2 : Int) (LT : List Own) (r : List SCome) (e : Ending) (w : World) : Prop := e = .returned (.tuple #[]) ∧ l0.length = r.length ∧ St w0 w [Own.of (.slice A0 r.length c0) 53 r, Own.all LT]
def slices_insertionSortCmpFunc_api_Come.r1 (x1 : Int) : Int × (List SCome) → Option ((Int × (List SCome)) ⊕ ((List SCome) ⊕ (List SCome)))
  | (z2, m3) =>
    if z2 > x1 then
      if 0 ≤ z2 then
        match m3[(z2).toNat]? with
        | none => none
        | some e1 =>
          if 0 ≤ (IntKind.i64.wrap (z2 - 1)) then
            match m3[(IntKind.i64.wrap (z2 - 1)).toNat]? with
            | none => none
            | some e2 =>
              if (tasks_Comes_1.f e1 e2) < 0 then
                match (m3.set ((z2).toNat) e2)[(IntKind.i64.wrap (z2 - 1)).toNat]? with
                | none => none
                | some e3 =>
                  some (.inl (IntKind.i64.wrap (z2 - 1), ((m3.set ((z2).toNat) e2).set ((IntKind.i64.wrap (z2 - 1)).toNat) e1)))
              else
                some (.inr (.inl m3))
          else
            none
      else
        none
    else
      some (.inr (.inl m3))
def slices_insertionSortCmpFunc_api_Come.r0 (K : Nat) (x1 : Int) (x2 : Int) : Int × (List SCome) → Option ((Int × (List SCome)) ⊕ ((List SCome) ⊕ (List SCome)))
  | (z1, m1) =>
    if z1 < x2 then
      match iter (slices_insertionSortCmpFunc_api_Come.r1 x1) K (z1, m1) with
      | none => none
      | some (.inl m5) =>
        some (.inl (IntKind.i64.wrap (z1 + 1), m5))
      | some (.inr rr1) =>
        some (.inr (.inr rr1))
    else
      some (.inr (.inl m1))
def slices_insertionSortCmpFunc_api_Come.f (K : Nat) (l0 : List SCome) (x1 : Int) (x2 : Int) : Option (List SCome) :=
  match iter (slices_insertionSortCmpFunc_api_Come.r0 K x1 x2) K (IntKind.i64.wrap (x1 + 1), l0) with
  | none => none
  | some (.inl m6) =>
    some m6
  | some (.inr rr2) =>
    some rr2
abbrev slices_insertionSortCmpFunc_api_Come.A1 (K : Nat) (w0 : World) (l0 : List SCome) (A0 : Option Addr) (c0 : Nat) (x1 : Int) (x2 : Int) (LT : List Own) (z1 : Int) (m1 : List SCome) (hLio1 : l0.length = m1.length) (hc1 : z1 < x2) : (Int × (List SCome)) → Act → World → Prop := fun (s : Int × (List SCome)) a w => l0.length = s.2.length ∧ St w0 w [Own.of (.slice A0 s.2.length c0) 53 s.2, Own.all LT] ∧ Frm 53 a [(0, (.slice A0 s.2.length c0)), (1, .int .i64 x1), (2, .int .i64 x2), (3, .func (.func 79) #[] #[]), (8, .int .i64 z1), (9, .int .i64 s.1)]
abbrev slices_insertionSortCmpFunc_api_Come.B1 (K : Nat) (w0 : World) (l0 : List SCome) (A0 : Option Addr) (c0 : Nat) (x1 : Int) (x2 : Int) (LT : List Own) (z1 : Int) (m1 : List SCome) (hLio1 : l0.length = m1.length) (hc1 : z1 < x2) : ((List SCome) ⊕ (List SCome)) → Exit → Act → World → Prop := Exits 2 (fun (s : (List SCome)) a w => l0.length = s.length ∧ St w0 w [Own.of (.slice A0 s.length c0) 53 s, Own.all LT] ∧ Frm 53 a [(0, (.slice A0 s.length c0)), (1, .int .i64 x1), (2, .int .i64 x2), (3, .func (.func 79) #[] #[]), (8, .int .i64 z1)]) (Rets Tryd.prog Tryd.f105 (slices_insertionSortCmpFunc_api_Come.Post w0 l0 A0 c0 x1 x2 LT))
theorem slices_insertionSortCmpFunc_api_Come_r1 (K : Nat) (w0 : World) (l0 : List SCome) (A0 : Option Addr) (c0 : Nat) (x1 : Int) (x2 : Int) (LT : List Own) (z1 : Int) (m1 : List SCome) (hLio1 : l0.length = m1.length) (hc1 : z1 < x2) (s : Int × (List SCome)) (o : (Int × (List SCome)) ⊕ ((List SCome) ⊕ (List SCome))) (h : slices_insertionSortCmpFunc_api_Come.r1 x1 s = some o) (a : Act) (w : World) (hA : slices_insertionSortCmpFunc_api_Come.A1 K w0 l0 A0 c0 x1 x2 LT z1 m1 hLio1 hc1 s a w) (Q : Exit → Act → World → Prop) (hQ : ∀ x a w, Outs (slices_insertionSortCmpFunc_api_Come.A1 K w0 l0 A0 c0 x1 x2 LT z1 m1 hLio1 hc1) (slices_insertionSortCmpFunc_api_Come.B1 K w0 l0 A0 c0 x1 x2 LT z1 m1 hLio1 hc1) o x a w → Q x a w) : (subF Tryd.f105 [1, 0, 0, 1, 0, 0, 1, 0, 0]).wp Tryd.prog Q a w := by
  obtain ⟨z2, m3⟩ := s
  obtain ⟨hLio3, hS, hF⟩ := hA
  replace hS : St w0 w [Own.of (.slice A0 m3.length c0) 53 m3, Own.all LT] := hS
  simp only [slices_insertionSortCmpFunc_api_Come.r1] at h
  refine (?_ : WE Tryd.prog 53 (subF Tryd.f105 [1, 0, 0, 1, 0, 0, 1, 0, 0]) Q [(0, (.slice A0 m3.length c0)), (1, .int .i64 x1), (2, .int .i64 x2), (3, .func (.func 79) #[] #[]), (8, .int .i64 z1), (9, .int .i64 z2)] w) a hF
  clear hF a
  refine we_seq fun K6 hK6 => ?_
  refine we_seq fun K7 hK7 => ?_
  refine we_draws (by kernel_rfl) [(0, 0), (1, 0), (2, 0), (3, 0), (4, 0), (5, 0), (6, 0), (7, 0), (8, 0), (9, 0), (10, 0), (11, 0), (12, 0), (13, 0), (14, 1), (15, 0), (16, 0)] (by kernel_rfl) ?_
  have hS5 := hS.drew
  refine ge_batch [0, 1, 2, 3] (ans := []) (vs := [(21, .bool (decide (z2 > x1))), (20, .bool (decide (z2 > x1))), (19, .int .i64 x1), (18, .int .i64 z2)]) (l := []) (by kernel_rfl) trivial ?_
  by_cases hc2 : z2 > x1
  · rw [if_pos hc2] at h
    refine ge_known (t := 21) (b := decide (z2 > x1)) (c := true) (by kernel_rfl) (decide_eq_true hc2) ?_
    refine ge_batch [4, 5, 6] (ans := []) (vs := [(24, .int .i64 z2), (23, (.slice A0 m3.length c0)), (22, .func (.func 79) #[] #[])]) (l := []) (by kernel_rfl) trivial ?_
    by_cases hc3 : 0 ≤ z2
    · rw [if_pos hc3] at h
      rcases hx1 : m3[(z2).toNat]? with _ | e1
      · rw [hx1] at h; cases h
      rw [hx1] at h
      simp only [] at h
      refine ge_index (d := 25) (ty := 0) (t := 49) (el := 53) (sz := 2) (m := m3.length) (c := c0) (x := (.tmp 23)) (y := (.tmp 24)) (A := A0) (k' := .i64) (j := z2) (jn := ((z2).toNat)) (b0 := blkOf A0) (o0 := offOf A0) (by kernel_rfl) (by kernel_rfl) (by kernel_rfl) (by kernel_rfl) (by kernel_rfl) ((hS5.rdAt 0 rfl).eqSome (pos_of_get hx1)) (Int.toNat_of_nonneg hc3).symm (lt_of_get hx1) ?_
      refine ge_batch [8, 9, 10, 11] (ans := [.val (.int .i64 e1.Task), .val (.int .i64 e1.At)]) (vs := [(29, .int .i64 (IntKind.i64.wrap (z2 - 1))), (28, .int .i64 z2), (27, (.slice A0 m3.length c0)), (26, .agg #[.int .i64 e1.Task, .int .i64 e1.At])]) (l := [.loaded ⟨blkOf A0, offOf A0 + ((z2).toNat) * 2, none⟩ (.int .i64 e1.Task), .loaded ⟨blkOf A0, offOf A0 + ((z2).toNat) * 2 + 1, none⟩ (.int .i64 e1.At)]) (by kernel_rfl) ⟨RdL.cell (j := 0) (hS5.rdAt 0 rfl) hx1 rfl, RdL.cell (j := 1) (hS5.rdAt 0 rfl) hx1 rfl, trivial⟩ ?_
      by_cases hc4 : 0 ≤ (IntKind.i64.wrap (z2 - 1))
      · rw [if_pos hc4] at h
        rcases hx2 : m3[(IntKind.i64.wrap (z2 - 1)).toNat]? with _ | e2
        · rw [hx2] at h; cases h
        rw [hx2] at h
        simp only [] at h
        refine ge_index (d := 30) (ty := 0) (t := 49) (el := 53) (sz := 2) (m := m3.length) (c := c0) (x := (.tmp 27)) (y := (.tmp 29)) (A := A0) (k' := .i64) (j := (IntKind.i64.wrap (z2 - 1))) (jn := ((IntKind.i64.wrap (z2 - 1)).toNat)) (b0 := blkOf A0) (o0 := offOf A0) (by kernel_rfl) (by kernel_rfl) (by kernel_rfl) (by kernel_rfl) (by kernel_rfl) ((hS5.rdAt 0 rfl).eqSome (pos_of_get hx2)) (Int.toNat_of_nonneg hc4).symm (lt_of_get hx2) ?_
        refine ge_batch [13] (ans := [.val (.int .i64 e2.Task), .val (.int .i64 e2.At)]) (vs := [(31, .agg #[.int .i64 e2.Task, .int .i64 e2.At])]) (l := [.loaded ⟨blkOf A0, offOf A0 + ((IntKind.i64.wrap (z2 - 1)).toNat) * 2, none⟩ (.int .i64 e2.Task), .loaded ⟨blkOf A0, offOf A0 + ((IntKind.i64.wrap (z2 - 1)).toNat) * 2 + 1, none⟩ (.int .i64 e2.At)]) (by kernel_rfl) ⟨RdL.cell (j := 0) (hS5.rdAt 0 rfl) hx2 rfl, RdL.cell (j := 1) (hS5.rdAt 0 rfl) hx2 rfl, trivial⟩ ?_
        refine ge_call (d := some 32) (f := 79) (args := #[.agg #[.int .i64 e1.Task, .int .i64 e1.At], .agg #[.int .i64 e2.Task, .int .i64 e2.At]]) (by kernel_rfl) (tasks_Comes_1_ok e1 e2 _ _ rfl) ?_
        rintro _ w1 ⟨rfl, hS6⟩
        refine ⟨_, rfl, hS6.below, ?_⟩
        have hS7 := hS5.call hS6
        refine ge_batch [15, 16] (ans := []) (vs := [(34, .bool (decide ((tasks_Comes_1.f e1 e2) < 0))), (33, .bool (decide ((tasks_Comes_1.f e1 e2) < 0)))]) (l := []) (by kernel_rfl) trivial ?_
        refine ge_nil fun a hF => hK7 _ _ ?_ a hF
        by_cases hc5 : (tasks_Comes_1.f e1 e2) < 0
        · rw [if_pos hc5] at h
          refine we_known (t := 34) (b := decide ((tasks_Comes_1.f e1 e2) < 0)) (v := true) (by kernel_rfl) (decide_eq_true hc5) ?_
          refine we_true (by kernel_rfl) ?_
          refine we_skip fun a hF => hK6 _ _ ?_ a hF
          refine we_seq fun K8 hK8 => ?_
          refine we_block ?_
          refine we_orders2 (by kernel_rfl) [(9, [⟨blkOf A0, offOf A0 + ((IntKind.i64.wrap (z2 - 1)).toNat) * 2, none⟩, ⟨blkOf A0, offOf A0 + ((IntKind.i64.wrap (z2 - 1)).toNat) * 2 + 1, none⟩]), (13, [⟨blkOf A0, offOf A0 + ((z2).toNat) * 2, none⟩, ⟨blkOf A0, offOf A0 + ((z2).toNat) * 2 + 1, none⟩])] (.vals [0] (.vals [1] (.vals [2] (.vals [3] (.vals [4] (.vals [5] (.vals [6] (.vals [7] (.vals [8] (.vals [9] (.vals [10] (.vals [11] (.vals [12] (.vals [13] (.vals [14] (.alt 15 2 (.vals [16] (.alt 17 2 .fin .nomore)) .nomore)))))))))))))))) (by kernel_rfl) ?_
          have hS8 := hS7.drew
          refine go2_batch [0, 1, 2, 3, 4, 5, 6, 7] (ans := []) (vs := [(44, .int .i64 (IntKind.i64.wrap (z2 - 1))), (43, .int .i64 z2), (42, (.slice A0 m3.length c0)), (41, .int .i64 (IntKind.i64.wrap (z2 - 1))), (40, .int .i64 z2), (39, (.slice A0 m3.length c0)), (38, .int .i64 z2), (37, (.slice A0 m3.length c0))]) (l := []) (by kernel_rfl) trivial mem_nil ?_
          refine go2_index (d := 45) (ty := 0) (t := 49) (el := 53) (sz := 2) (m := m3.length) (c := c0) (x := (.tmp 42)) (y := (.tmp 44)) (A := A0) (k' := .i64) (j := (IntKind.i64.wrap (z2 - 1))) (jn := ((IntKind.i64.wrap (z2 - 1)).toNat)) (b0 := blkOf A0) (o0 := offOf A0) (by kernel_rfl) (by kernel_rfl) (by kernel_rfl) (by kernel_rfl) (by kernel_rfl) ((hS8.rdAt 0 rfl).eqSome (pos_of_get hx2)) (Int.toNat_of_nonneg hc4).symm (lt_of_get hx2) ?_
          refine go2_batch [9] (ans := [.val (.int .i64 e2.Task), .val (.int .i64 e2.At)]) (vs := [(46, .agg #[.int .i64 e2.Task, .int .i64 e2.At])]) (l := [.loaded ⟨blkOf A0, offOf A0 + ((IntKind.i64.wrap (z2 - 1)).toNat) * 2, none⟩ (.int .i64 e2.Task), .loaded ⟨blkOf A0, offOf A0 + ((IntKind.i64.wrap (z2 - 1)).toNat) * 2 + 1, none⟩ (.int .i64 e2.At)]) (by kernel_rfl) ⟨RdL.cell (j := 0) (hS8.rdAt 0 rfl) hx2 rfl, RdL.cell (j := 1) (hS8.rdAt 0 rfl) hx2 rfl, trivial⟩ (mem_one (by kernel_rfl)) ?_
          refine go2_batch [10, 11] (ans := []) (vs := [(48, .int .i64 z2), (47, (.slice A0 m3.length c0))]) (l := []) (by kernel_rfl) trivial mem_nil ?_
          refine go2_index (d := 49) (ty := 0) (t := 49) (el := 53) (sz := 2) (m := m3.length) (c := c0) (x := (.tmp 47)) (y := (.tmp 48)) (A := A0) (k' := .i64) (j := z2) (jn := ((z2).toNat)) (b0 := blkOf A0) (o0 := offOf A0) (by kernel_rfl) (by kernel_rfl) (by kernel_rfl) (by kernel_rfl) (by kernel_rfl) ((hS8.rdAt 0 rfl).eqSome (pos_of_get hx1)) (Int.toNat_of_nonneg hc3).symm (lt_of_get hx1) ?_
          refine go2_batch [13] (ans := [.val (.int .i64 e1.Task), .val (.int .i64 e1.At)]) (vs := [(50, .agg #[.int .i64 e1.Task, .int .i64 e1.At])]) (l := [.loaded ⟨blkOf A0, offOf A0 + ((z2).toNat) * 2, none⟩ (.int .i64 e1.Task), .loaded ⟨blkOf A0, offOf A0 + ((z2).toNat) * 2 + 1, none⟩ (.int .i64 e1.At)]) (by kernel_rfl) ⟨RdL.cell (j := 0) (hS8.rdAt 0 rfl) hx1 rfl, RdL.cell (j := 1) (hS8.rdAt 0 rfl) hx1 rfl, trivial⟩ (mem_one (by kernel_rfl)) ?_
          refine go2_index (d := 51) (ty := 0) (t := 49) (el := 53) (sz := 2) (m := m3.length) (c := c0) (x := (.tmp 37)) (y := (.tmp 38)) (A := A0) (k' := .i64) (j := z2) (jn := ((z2).toNat)) (b0 := blkOf A0) (o0 := offOf A0) (by kernel_rfl) (by kernel_rfl) (by kernel_rfl) (by kernel_rfl) (by kernel_rfl) ((hS8.rdAt 0 rfl).eqSome (pos_of_get hx1)) (Int.toNat_of_nonneg hc3).symm (lt_of_get hx1) ?_
          refine go_alt2 (fun KK hKK => ?_) ?_
          · refine ge_seti (α := SCome) (A := A0) (nn := m3.length) (c := c0) (t := 53) (l := m3) (x := e1) (x' := e2) (jn := ((z2).toNat)) (j := 0) (vs := [.int .i64 e2.Task, .int .i64 e2.At]) (l' := [.stored ⟨blkOf A0, offOf A0 + ((z2).toNat) * 2, none⟩ (.int .i64 e2.Task), .stored ⟨blkOf A0, offOf A0 + ((z2).toNat) * 2 + 1, none⟩ (.int .i64 e2.At)]) hS8 (by kernel_rfl) (by kernel_rfl) hx1 rfl rfl rfl fun w2 hS9 => ?_
            have hS10 : St w0 w2 [Own.of (.slice A0 m3.length c0) 53 (m3.set ((z2).toNat) e2), Own.all LT] := hS9
            have hE1 : m3.length = (m3.set ((z2).toNat) e2).length := hS10.lenAt 0 rfl
            have hS11 : St w0 w2 [Own.of (.slice A0 (m3.set ((z2).toNat) e2).length c0) 53 (m3.set ((z2).toNat) e2), Own.all LT] := by rw [← hE1]; exact hS10
            refine ge_same (t := 0) (v := (.slice A0 m3.length c0)) (v' := (.slice A0 (m3.set ((z2).toNat) e2).length c0)) (by kernel_rfl) (by rw [hE1]) ?_
            refine ge_same (t := 23) (v := (.slice A0 m3.length c0)) (v' := (.slice A0 (m3.set ((z2).toNat) e2).length c0)) (by kernel_rfl) (by rw [hE1]) ?_
            refine ge_same (t := 27) (v := (.slice A0 m3.length c0)) (v' := (.slice A0 (m3.set ((z2).toNat) e2).length c0)) (by kernel_rfl) (by rw [hE1]) ?_
            refine ge_same (t := 37) (v := (.slice A0 m3.length c0)) (v' := (.slice A0 (m3.set ((z2).toNat) e2).length c0)) (by kernel_rfl) (by rw [hE1]) ?_
            refine ge_same (t := 39) (v := (.slice A0 m3.length c0)) (v' := (.slice A0 (m3.set ((z2).toNat) e2).length c0)) (by kernel_rfl) (by rw [hE1]) ?_
            refine ge_same (t := 42) (v := (.slice A0 m3.length c0)) (v' := (.slice A0 (m3.set ((z2).toNat) e2).length c0)) (by kernel_rfl) (by rw [hE1]) ?_
            refine ge_same (t := 47) (v := (.slice A0 m3.length c0)) (v' := (.slice A0 (m3.set ((z2).toNat) e2).length c0)) (by kernel_rfl) (by rw [hE1]) ?_
            refine ge_nil fun a hF => hKK _ _ (RS.of2 (l := []) (by kernel_rfl) trivial trivial) ?_ a hF
            rcases hx3 : (m3.set ((z2).toNat) e2)[(IntKind.i64.wrap (z2 - 1)).toNat]? with _ | e3
            · rw [hx3] at h; cases h
            rw [hx3] at h
            simp only [] at h
            refine go2_index (d := 52) (ty := 0) (t := 49) (el := 53) (sz := 2) (m := (m3.set ((z2).toNat) e2).length) (c := c0) (x := (.tmp 39)) (y := (.tmp 41)) (A := A0) (k' := .i64) (j := (IntKind.i64.wrap (z2 - 1))) (jn := ((IntKind.i64.wrap (z2 - 1)).toNat)) (b0 := blkOf A0) (o0 := offOf A0) (by kernel_rfl) (by kernel_rfl) (by kernel_rfl) (by kernel_rfl) (by kernel_rfl) ((hS11.rdAt 0 rfl).eqSome (pos_of_get hx3)) (Int.toNat_of_nonneg hc4).symm (lt_of_get hx3) ?_
            refine go_alt2 (fun KK hKK => ?_) ?_
            · refine ge_seti (α := SCome) (A := A0) (nn := ((m3.set ((z2).toNat) e2).length)) (c := c0) (t := 53) (l := (m3.set ((z2).toNat) e2)) (x := e3) (x' := e1) (jn := ((IntKind.i64.wrap (z2 - 1)).toNat)) (j := 0) (vs := [.int .i64 e1.Task, .int .i64 e1.At]) (l' := [.stored ⟨blkOf A0, offOf A0 + ((IntKind.i64.wrap (z2 - 1)).toNat) * 2, none⟩ (.int .i64 e1.Task), .stored ⟨blkOf A0, offOf A0 + ((IntKind.i64.wrap (z2 - 1)).toNat) * 2 + 1, none⟩ (.int .i64 e1.At)]) hS11 (by kernel_rfl) (by kernel_rfl) hx3 rfl rfl rfl fun w3 hS12 => ?_
              have hS13 : St w0 w3 [Own.of (.slice A0 (m3.set ((z2).toNat) e2).length c0) 53 ((m3.set ((z2).toNat) e2).set ((IntKind.i64.wrap (z2 - 1)).toNat) e1), Own.all LT] := hS12
              have hE2 : (m3.set ((z2).toNat) e2).length = ((m3.set ((z2).toNat) e2).set ((IntKind.i64.wrap (z2 - 1)).toNat) e1).length := hS13.lenAt 0 rfl
              have hS14 : St w0 w3 [Own.of (.slice A0 ((m3.set ((z2).toNat) e2).set ((IntKind.i64.wrap (z2 - 1)).toNat) e1).length c0) 53 ((m3.set ((z2).toNat) e2).set ((IntKind.i64.wrap (z2 - 1)).toNat) e1), Own.all LT] := by rw [← hE2]; exact hS13
              refine ge_same (t := 0) (v := (.slice A0 (m3.set ((z2).toNat) e2).length c0)) (v' := (.slice A0 ((m3.set ((z2).toNat) e2).set ((IntKind.i64.wrap (z2 - 1)).toNat) e1).length c0)) (by kernel_rfl) (by rw [hE2]) ?_
              refine ge_same (t := 23) (v := (.slice A0 (m3.set ((z2).toNat) e2).length c0)) (v' := (.slice A0 ((m3.set ((z2).toNat) e2).set ((IntKind.i64.wrap (z2 - 1)).toNat) e1).length c0)) (by kernel_rfl) (by rw [hE2]) ?_
              refine ge_same (t := 27) (v := (.slice A0 (m3.set ((z2).toNat) e2).length c0)) (v' := (.slice A0 ((m3.set ((z2).toNat) e2).set ((IntKind.i64.wrap (z2 - 1)).toNat) e1).length c0)) (by kernel_rfl) (by rw [hE2]) ?_
              refine ge_same (t := 37) (v := (.slice A0 (m3.set ((z2).toNat) e2).length c0)) (v' := (.slice A0 ((m3.set ((z2).toNat) e2).set ((IntKind.i64.wrap (z2 - 1)).toNat) e1).length c0)) (by kernel_rfl) (by rw [hE2]) ?_
              refine ge_same (t := 39) (v := (.slice A0 (m3.set ((z2).toNat) e2).length c0)) (v' := (.slice A0 ((m3.set ((z2).toNat) e2).set ((IntKind.i64.wrap (z2 - 1)).toNat) e1).length c0)) (by kernel_rfl) (by rw [hE2]) ?_
              refine ge_same (t := 42) (v := (.slice A0 (m3.set ((z2).toNat) e2).length c0)) (v' := (.slice A0 ((m3.set ((z2).toNat) e2).set ((IntKind.i64.wrap (z2 - 1)).toNat) e1).length c0)) (by kernel_rfl) (by rw [hE2]) ?_
              refine ge_same (t := 47) (v := (.slice A0 (m3.set ((z2).toNat) e2).length c0)) (v' := (.slice A0 ((m3.set ((z2).toNat) e2).set ((IntKind.i64.wrap (z2 - 1)).toNat) e1).length c0)) (by kernel_rfl) (by rw [hE2]) ?_
              refine ge_nil fun a hF => hKK _ _ (RS.of2 (l := []) (by kernel_rfl) trivial trivial) ?_ a hF
              refine go_fin2 fun a hF => hK8 _ _ ?_ a hF
              refine we_region [(0, 0), (1, 0), (2, 0)] rfl ?_
              refine ge_batch [0, 1, 2] (ans := []) (vs := [(9, .int .i64 (IntKind.i64.wrap (z2 - 1))), (36, .int .i64 (IntKind.i64.wrap (z2 - 1))), (35, .int .i64 z2)]) (l := []) (by kernel_rfl) trivial ?_
              have hS15 := hS14.bring 1 rfl
              have hS16 := hS15.bring 1 rfl
              obtain rfl := Option.some.inj h
              exact ge_nil fun a hF => hQ _ _ _ (Outs.again ⟨(Eq.trans hLio3 (by simp only [List.length_set])), hS16, hF.weaken ⟨by kernel_rfl, by kernel_rfl, by kernel_rfl, by kernel_rfl, by kernel_rfl, by kernel_rfl, trivial⟩⟩)
            exact go_nomore2
          exact go_nomore2
        · rw [if_neg hc5] at h
          refine we_known (t := 34) (b := decide ((tasks_Comes_1.f e1 e2) < 0)) (v := false) (by kernel_rfl) (decide_eq_false hc5) ?_
          refine we_false (by kernel_rfl) ?_
          have hS17 := hS7.bring 1 rfl
          have hS18 := hS17.bring 1 rfl
          obtain rfl := Option.some.inj h
          exact we_exit fun a hF => hQ _ _ _ (Outs.out nofun (Exits.here ⟨hLio3, hS18, hF.weaken ⟨by kernel_rfl, by kernel_rfl, by kernel_rfl, by kernel_rfl, by kernel_rfl, trivial⟩⟩))
      · rw [if_neg hc4] at h
        cases h
    · rw [if_neg hc3] at h
      cases h
  · rw [if_neg hc2] at h
    refine ge_known (t := 21) (b := decide (z2 > x1)) (c := false) (by kernel_rfl) (decide_eq_false hc2) ?_
    refine ge_batch [4, 5, 6, 7, 8, 9, 10, 11, 12, 13] (ans := []) (vs := [(31, undef), (30, undef), (29, undef), (28, undef), (27, undef), (26, undef), (25, undef), (24, undef), (23, undef), (22, undef)]) (l := []) (by kernel_rfl) trivial ?_
    refine ge_off rfl rfl rfl (by kernel_rfl) ?_
    refine ge_batch [15, 16] (ans := []) (vs := [(34, .bool false), (33, undef)]) (l := []) (by kernel_rfl) trivial ?_
    refine ge_nil fun a hF => hK7 _ _ ?_ a hF
    refine we_false (by kernel_rfl) ?_
    have hS19 := hS5.bring 1 rfl
    have hS20 := hS19.bring 1 rfl
    obtain rfl := Option.some.inj h
    exact we_exit fun a hF => hQ _ _ _ (Outs.out nofun (Exits.here ⟨hLio3, hS20, hF.weaken ⟨by kernel_rfl, by kernel_rfl, by kernel_rfl, by kernel_rfl, by kernel_rfl, trivial⟩⟩))
abbrev slices_insertionSortCmpFunc_api_Come.A0 (K : Nat) (w0 : World) (l0 : List SCome) (A0 : Option Addr) (c0 : Nat) (x1 : Int) (x2 : Int) (LT : List Own) : (Int × (List SCome)) → Act → World → Prop := fun (s : Int × (List SCome)) a w => l0.length = s.2.length ∧ St w0 w [Own.of (.slice A0 s.2.length c0) 53 s.2, Own.all LT] ∧ Frm 53 a [(0, (.slice A0 s.2.length c0)), (1, .int .i64 x1), (2, .int .i64 x2), (3, .func (.func 79) #[] #[]), (8, .int .i64 s.1)]
abbrev slices_insertionSortCmpFunc_api_Come.B0 (K : Nat) (w0 : World) (l0 : List SCome) (A0 : Option Addr) (c0 : Nat) (x1 : Int) (x2 : Int) (LT : List Own) : ((List SCome) ⊕ (List SCome)) → Exit → Act → World → Prop := Exits 0 (fun (s : (List SCome)) a w => l0.length = s.length ∧ St w0 w [Own.of (.slice A0 s.length c0) 53 s, Own.all LT] ∧ Frm 53 a [(0, (.slice A0 s.length c0)), (3, .func (.func 79) #[] #[])]) (Rets Tryd.prog Tryd.f105 (slices_insertionSortCmpFunc_api_Come.Post w0 l0 A0 c0 x1 x2 LT))
theorem slices_insertionSortCmpFunc_api_Come_r0 (K : Nat) (w0 : World) (l0 : List SCome) (A0 : Option Addr) (c0 : Nat) (x1 : Int) (x2 : Int) (LT : List Own) (s : Int × (List SCome)) (o : (Int × (List SCome)) ⊕ ((List SCome) ⊕ (List SCome))) (h : slices_insertionSortCmpFunc_api_Come.r0 K x1 x2 s = some o) (a : Act) (w : World) (hA : slices_insertionSortCmpFunc_api_Come.A0 K w0 l0 A0 c0 x1 x2 LT s a w) (Q : Exit → Act → World → Prop) (hQ : ∀ x a w, Outs (slices_insertionSortCmpFunc_api_Come.A0 K w0 l0 A0 c0 x1 x2 LT) (slices_insertionSortCmpFunc_api_Come.B0 K w0 l0 A0 c0 x1 x2 LT) o x a w → Q x a w) : (subF Tryd.f105 [1, 0, 0]).wp Tryd.prog Q a w := by
  obtain ⟨z1, m1⟩ := s
  obtain ⟨hLio1, hS, hF⟩ := hA
  replace hS : St w0 w [Own.of (.slice A0 m1.length c0) 53 m1, Own.all LT] := hS
  simp only [slices_insertionSortCmpFunc_api_Come.r0] at h
  refine (?_ : WE Tryd.prog 53 (subF Tryd.f105 [1, 0, 0]) Q [(0, (.slice A0 m1.length c0)), (1, .int .i64 x1), (2, .int .i64 x2), (3, .func (.func 79) #[] #[]), (8, .int .i64 z1)] w) a hF
  clear hF a
  refine we_seq fun K2 hK2 => ?_
  refine we_seq fun K3 hK3 => ?_
  refine we_region [(0, 0), (1, 0), (2, 0)] rfl ?_
  refine ge_batch [0, 1, 2] (ans := []) (vs := [(14, .bool (decide (z1 < x2))), (13, .int .i64 x2), (12, .int .i64 z1)]) (l := []) (by kernel_rfl) trivial ?_
  refine ge_nil fun a hF => hK3 _ _ ?_ a hF
  by_cases hc1 : z1 < x2
  · rw [if_pos hc1] at h
    refine we_known (t := 14) (b := decide (z1 < x2)) (v := true) (by kernel_rfl) (decide_eq_true hc1) ?_
    refine we_true (by kernel_rfl) ?_
    refine we_skip fun a hF => hK2 _ _ ?_ a hF
    refine we_seq fun K4 hK4 => ?_
    refine we_block ?_
    refine we_seq fun K5 hK5 => ?_
    refine we_region [(0, 0), (1, 0)] rfl ?_
    refine ge_batch [0, 1] (ans := []) (vs := [(9, .int .i64 z1), (17, .int .i64 z1)]) (l := []) (by kernel_rfl) trivial ?_
    refine ge_nil fun a hF => hK5 _ _ ?_ a hF
    refine we_block ?_
    have hS3 := hS.bring 1 rfl
    have hS4 := hS3.bring 1 rfl
    rcases hq2 : iter (slices_insertionSortCmpFunc_api_Come.r1 x1) K (z1, m1) with _ | (m5 | rr1)
    · rw [hq2] at h; cases h
    · rw [hq2] at h
      simp only [] at h
      refine we_iter (A := slices_insertionSortCmpFunc_api_Come.A1 K w0 l0 A0 c0 x1 x2 LT z1 m1 hLio1 hc1) (B := slices_insertionSortCmpFunc_api_Come.B1 K w0 l0 A0 c0 x1 x2 LT z1 m1 hLio1 hc1) hq2 (fun a hF => ⟨hLio1, hS4, hF.weaken ⟨by kernel_rfl, by kernel_rfl, by kernel_rfl, by kernel_rfl, by kernel_rfl, by kernel_rfl, trivial⟩⟩) (fun s o hf a w hA Q hQ => slices_insertionSortCmpFunc_api_Come_r1 K w0 l0 A0 c0 x1 x2 LT z1 m1 hLio1 hc1 s o hf a w hA Q hQ) ?_
      rintro _ a w4 _ ⟨rfl, hRz1, hS21, hF⟩
      replace hS21 : St w0 w4 [Own.of (.slice A0 m5.length c0) 53 m5, Own.all LT] := hS21
      refine hK4 [(0, (.slice A0 m5.length c0)), (1, .int .i64 x1), (2, .int .i64 x2), (3, .func (.func 79) #[] #[]), (8, .int .i64 z1)] w4 ?_ a hF
      refine we_region [(0, 0), (1, 0), (2, 0)] rfl ?_
      refine ge_batch [0, 1, 2] (ans := []) (vs := [(8, .int .i64 (IntKind.i64.wrap (z1 + 1))), (16, .int .i64 (IntKind.i64.wrap (z1 + 1))), (15, .int .i64 z1)]) (l := []) (by kernel_rfl) trivial ?_
      have hS22 := hS21.bring 1 rfl
      have hS23 := hS22.bring 1 rfl
      obtain rfl := Option.some.inj h
      exact ge_nil fun a hF => hQ _ _ _ (Outs.again ⟨hRz1, hS23, hF.weaken ⟨by kernel_rfl, by kernel_rfl, by kernel_rfl, by kernel_rfl, by kernel_rfl, trivial⟩⟩)
    · rw [hq2] at h
      simp only [] at h
      refine we_iter (A := slices_insertionSortCmpFunc_api_Come.A1 K w0 l0 A0 c0 x1 x2 LT z1 m1 hLio1 hc1) (B := slices_insertionSortCmpFunc_api_Come.B1 K w0 l0 A0 c0 x1 x2 LT z1 m1 hLio1 hc1) hq2 (fun a hF => ⟨hLio1, hS4, hF.weaken ⟨by kernel_rfl, by kernel_rfl, by kernel_rfl, by kernel_rfl, by kernel_rfl, by kernel_rfl, trivial⟩⟩) (fun s o hf a w hA Q hQ => slices_insertionSortCmpFunc_api_Come_r1 K w0 l0 A0 c0 x1 x2 LT z1 m1 hLio1 hc1 s o hf a w hA Q hQ) ?_
      rintro _ a w1 _ ⟨rfl, hb⟩
      obtain rfl := Option.some.inj h
      exact hQ _ _ _ (Outs.out nofun (Exits.on ⟨rfl, hb⟩))
  · rw [if_neg hc1] at h
    refine we_known (t := 14) (b := decide (z1 < x2)) (v := false) (by kernel_rfl) (decide_eq_false hc1) ?_
    refine we_false (by kernel_rfl) ?_
    have hS24 := hS.bring 1 rfl
    have hS25 := hS24.bring 1 rfl
    obtain rfl := Option.some.inj h
    exact we_exit fun a hF => hQ _ _ _ (Outs.out nofun (Exits.here ⟨hLio1, hS25, hF.weaken ⟨by kernel_rfl, by kernel_rfl, trivial⟩⟩))
theorem slices_insertionSortCmpFunc_api_Come_ok (K : Nat) (l0 : List SCome) (A0 : Option Addr) (c0 : Nat) (x1 : Int) (x2 : Int) (w0 wE : World) (LT : List Own) (hS : St w0 wE [Own.of (.slice A0 l0.length c0) 53 l0, Own.all LT]) (r : List SCome) (h : slices_insertionSortCmpFunc_api_Come.f K l0 x1 x2 = some r) :
    Calls Tryd.prog 105 #[(.slice A0 l0.length c0), .int .i64 x1, .int .i64 x2, .func (.func 79) #[] #[]] wE (slices_insertionSortCmpFunc_api_Come.Post w0 l0 A0 c0 x1 x2 LT r) := by
  unfold slices_insertionSortCmpFunc_api_Come.f at h
  refine calls_enter (n := 53) (args := [(.slice A0 l0.length c0), .int .i64 x1, .int .i64 x2, .func (.func 79) #[] #[]]) (fn := Tryd.f105) rfl rfl rfl rfl ?_
  show WE _ _ _ _ [(0, (.slice A0 l0.length c0)), (1, .int .i64 x1), (2, .int .i64 x2), (3, .func (.func 79) #[] #[])] _
  refine we_seq fun K1 hK1 => ?_
  refine we_region [(0, 0), (1, 0), (2, 0)] rfl ?_
  refine ge_batch [0, 1, 2] (ans := []) (vs := [(8, .int .i64 (IntKind.i64.wrap (x1 + 1))), (11, .int .i64 (IntKind.i64.wrap (x1 + 1))), (10, .int .i64 x1)]) (l := []) (by kernel_rfl) trivial ?_
  refine ge_nil fun a hF => hK1 _ _ ?_ a hF
  refine we_block ?_
  have hS1 := hS.bring 1 rfl
  have hS2 := hS1.bring 1 rfl
  rcases hq3 : iter (slices_insertionSortCmpFunc_api_Come.r0 K x1 x2) K (IntKind.i64.wrap (x1 + 1), l0) with _ | (m6 | rr2)
  · rw [hq3] at h; cases h
  · rw [hq3] at h
    simp only [] at h
    refine we_iter (A := slices_insertionSortCmpFunc_api_Come.A0 K w0 l0 A0 c0 x1 x2 LT) (B := slices_insertionSortCmpFunc_api_Come.B0 K w0 l0 A0 c0 x1 x2 LT) hq3 (fun a hF => ⟨rfl, hS2, hF.weaken ⟨by kernel_rfl, by kernel_rfl, by kernel_rfl, by kernel_rfl, by kernel_rfl, trivial⟩⟩) (fun s o hf a w hA Q hQ => slices_insertionSortCmpFunc_api_Come_r0 K w0 l0 A0 c0 x1 x2 LT s o hf a w hA Q hQ) ?_
    rintro _ a w5 _ ⟨rfl, hRz2, hS26, hF⟩
    replace hS26 : St w0 w5 [Own.of (.slice A0 m6.length c0) 53 m6, Own.all LT] := hS26
    have hS27 := hS26.bring 1 rfl
    have hS28 := hS27.bring 1 rfl
    obtain rfl := Option.some.inj h
    exact (post_end (rs := []) (ans := []) (vs := []) (l := []) rfl (by kernel_rfl) trivial ⟨rfl, hRz2, hS28⟩) a hF
  · rw [hq3] at h
    simp only [] at h
    refine we_iter (A := slices_insertionSortCmpFunc_api_Come.A0 K w0 l0 A0 c0 x1 x2 LT) (B := slices_insertionSortCmpFunc_api_Come.B0 K w0 l0 A0 c0 x1 x2 LT) hq3 (fun a hF => ⟨rfl, hS2, hF.weaken ⟨by kernel_rfl, by kernel_rfl, by kernel_rfl, by kernel_rfl, by kernel_rfl, trivial⟩⟩) (fun s o hf a w hA Q hQ => slices_insertionSortCmpFunc_api_Come_r0 K w0 l0 A0 c0 x1 x2 LT s o hf a w hA Q hQ) ?_
    rintro _ a w1 _ ⟨rfl, hb⟩
    obtain rfl := Option.some.inj h
    exact hb

/-! slices.swapRangeCmpFunc[punctual/api.Come] -/
abbrev slices_swapRangeCmpFunc_api_Come.Post (w0 : World) (l0 : List SCome) (A0 : Option Addr) (c0 : Nat) (x1 : Int) (x2 : Int) (x3 : Int) (LT : List Own) (r : List SCome) (e : Ending) (w : World) : Prop := e = .returned (.tuple #[]) ∧ l0.length = r.length ∧ St w0 w [Own.of (.slice A0 r.length c0) 53 r, Own.all LT]
def slices_swapRangeCmpFunc_api_Come.r0 (x1 : Int) (x2 : Int) (x3 : Int) : Int × (List SCome) → Option ((Int × (List SCome)) ⊕ ((List SCome) ⊕ (List SCome)))
  | (z1, m1) =>
    if z1 < x3 then
      if 0 ≤ (IntKind.i64.wrap (x2 + z1)) then
        match m1[(IntKind.i64.wrap (x2 + z1)).toNat]? with
        | none => none
        | some e1 =>
          if 0 ≤ (IntKind.i64.wrap (x1 + z1)) then
            match m1[(IntKind.i64.wrap (x1 + z1)).toNat]? with
            | none => none
            | some e2 =>
              match (m1.set ((IntKind.i64.wrap (x1 + z1)).toNat) e1)[(IntKind.i64.wrap (x2 + z1)).toNat]? with
              | none => none
              | some e3 =>
                some (.inl (IntKind.i64.wrap (z1 + 1), ((m1.set ((IntKind.i64.wrap (x1 + z1)).toNat) e1).set ((IntKind.i64.wrap (x2 + z1)).toNat) e2)))
          else
            none
      else
        none
    else
      some (.inr (.inl m1))
def slices_swapRangeCmpFunc_api_Come.f (K : Nat) (l0 : List SCome) (x1 : Int) (x2 : Int) (x3 : Int) : Option (List SCome) :=
  match iter (slices_swapRangeCmpFunc_api_Come.r0 x1 x2 x3) K (0, l0) with
  | none => none
  | some (.inl m3) =>
    some m3
  | some (.inr rr1) =>
    some rr1
abbrev slices_swapRangeCmpFunc_api_Come.A0 (K : Nat) (w0 : World) (l0 : List SCome) (A0 : Option Addr) (c0 : Nat) (x1 : Int) (x2 : Int) (x3 : Int) (LT : List Own) : (Int × (List SCome)) → Act → World → Prop := fun (s : Int × (List SCome)) a w => l0.length = s.2.length ∧ St w0 w [Own.of (.slice A0 s.2.length c0) 53 s.2, Own.all LT] ∧ Frm 38 a [(0, (.slice A0 s.2.length c0)), (1, .int .i64 x1), (2, .int .i64 x2), (3, .int .i64 x3), (4, .func (.func 79) #[] #[]), (10, .int .i64 s.1)]
abbrev slices_swapRangeCmpFunc_api_Come.B0 (K : Nat) (w0 : World) (l0 : List SCome) (A0 : Option Addr) (c0 : Nat) (x1 : Int) (x2 : Int) (x3 : Int) (LT : List Own) : ((List SCome) ⊕ (List SCome)) → Exit → Act → World → Prop := Exits 0 (fun (s : (List SCome)) a w => l0.length = s.length ∧ St w0 w [Own.of (.slice A0 s.length c0) 53 s, Own.all LT] ∧ Frm 38 a [(0, (.slice A0 s.length c0)), (4, .func (.func 79) #[] #[])]) (Rets Tryd.prog Tryd.f125 (slices_swapRangeCmpFunc_api_Come.Post w0 l0 A0 c0 x1 x2 x3 LT))
theorem slices_swapRangeCmpFunc_api_Come_r0 (K : Nat) (w0 : World) (l0 : List SCome) (A0 : Option Addr) (c0 : Nat) (x1 : Int) (x2 : Int) (x3 : Int) (LT : List Own) (s : Int × (List SCome)) (o : (Int × (List SCome)) ⊕ ((List SCome) ⊕ (List SCome))) (h : slices_swapRangeCmpFunc_api_Come.r0 x1 x2 x3 s = some o) (a : Act) (w : World) (hA : slices_swapRangeCmpFunc_api_Come.A0 K w0 l0 A0 c0 x1 x2 x3 LT s a w) (Q : Exit → Act → World → Prop) (hQ : ∀ x a w, Outs (slices_swapRangeCmpFunc_api_Come.A0 K w0 l0 A0 c0 x1 x2 x3 LT) (slices_swapRangeCmpFunc_api_Come.B0 K w0 l0 A0 c0 x1 x2 x3 LT) o x a w → Q x a w) : (subF Tryd.f125 [1, 0, 0]).wp Tryd.prog Q a w := by
  obtain ⟨z1, m1⟩ := s
  obtain ⟨hLio1, hS, hF⟩ := hA
  replace hS : St w0 w [Own.of (.slice A0 m1.length c0) 53 m1, Own.all LT] := hS
  simp only [slices_swapRangeCmpFunc_api_Come.r0] at h
  refine (?_ : WE Tryd.prog 38 (subF Tryd.f125 [1, 0, 0]) Q [(0, (.slice A0 m1.length c0)), (1, .int .i64 x1), (2, .int .i64 x2), (3, .int .i64 x3), (4, .func (.func 79) #[] #[]), (10, .int .i64 z1)] w) a hF
  clear hF a
  refine we_seq fun K2 hK2 => ?_
  refine we_seq fun K3 hK3 => ?_
  refine we_region [(0, 0), (1, 0), (2, 0)] rfl ?_
  refine ge_batch [0, 1, 2] (ans := []) (vs := [(13, .bool (decide (z1 < x3))), (12, .int .i64 x3), (11, .int .i64 z1)]) (l := []) (by kernel_rfl) trivial ?_
  refine ge_nil fun a hF => hK3 _ _ ?_ a hF
  by_cases hc1 : z1 < x3
  · rw [if_pos hc1] at h
    refine we_known (t := 13) (b := decide (z1 < x3)) (v := true) (by kernel_rfl) (decide_eq_true hc1) ?_
    refine we_true (by kernel_rfl) ?_
    refine we_skip fun a hF => hK2 _ _ ?_ a hF
    refine we_seq fun K4 hK4 => ?_
    refine we_block ?_
    refine we_orders2 (by kernel_rfl) [(13, [⟨blkOf A0, offOf A0 + ((IntKind.i64.wrap (x2 + z1)).toNat) * 2, none⟩, ⟨blkOf A0, offOf A0 + ((IntKind.i64.wrap (x2 + z1)).toNat) * 2 + 1, none⟩]), (19, [⟨blkOf A0, offOf A0 + ((IntKind.i64.wrap (x1 + z1)).toNat) * 2, none⟩, ⟨blkOf A0, offOf A0 + ((IntKind.i64.wrap (x1 + z1)).toNat) * 2 + 1, none⟩])] (.vals [0] (.vals [1] (.vals [2] (.vals [3] (.vals [4] (.vals [5] (.vals [6] (.vals [7] (.vals [8] (.vals [9] (.vals [10] (.vals [11] (.vals [12] (.vals [13] (.vals [14] (.vals [15] (.vals [16] (.vals [17] (.vals [18] (.vals [19] (.vals [20] (.alt 21 2 (.vals [22] (.alt 23 2 .fin .nomore)) .nomore)))))))))))))))))))))) (by kernel_rfl) ?_
    have hS3 := hS.drew
    refine go2_batch [0, 1, 2, 3, 4, 5, 6, 7, 8, 9, 10, 11] (ans := []) (vs := [(27, .int .i64 (IntKind.i64.wrap (x2 + z1))), (26, .int .i64 z1), (25, .int .i64 x2), (24, (.slice A0 m1.length c0)), (23, .int .i64 (IntKind.i64.wrap (x2 + z1))), (22, .int .i64 z1), (21, .int .i64 x2), (20, (.slice A0 m1.length c0)), (19, .int .i64 (IntKind.i64.wrap (x1 + z1))), (18, .int .i64 z1), (17, .int .i64 x1), (16, (.slice A0 m1.length c0))]) (l := []) (by kernel_rfl) trivial mem_nil ?_
    by_cases hc2 : 0 ≤ (IntKind.i64.wrap (x2 + z1))
    · rw [if_pos hc2] at h
      rcases hx1 : m1[(IntKind.i64.wrap (x2 + z1)).toNat]? with _ | e1
      · rw [hx1] at h; cases h
      rw [hx1] at h
      simp only [] at h
      refine go2_index (d := 28) (ty := 0) (t := 49) (el := 53) (sz := 2) (m := m1.length) (c := c0) (x := (.tmp 24)) (y := (.tmp 27)) (A := A0) (k' := .i64) (j := (IntKind.i64.wrap (x2 + z1))) (jn := ((IntKind.i64.wrap (x2 + z1)).toNat)) (b0 := blkOf A0) (o0 := offOf A0) (by kernel_rfl) (by kernel_rfl) (by kernel_rfl) (by kernel_rfl) (by kernel_rfl) ((hS3.rdAt 0 rfl).eqSome (pos_of_get hx1)) (Int.toNat_of_nonneg hc2).symm (lt_of_get hx1) ?_
      refine go2_batch [13] (ans := [.val (.int .i64 e1.Task), .val (.int .i64 e1.At)]) (vs := [(29, .agg #[.int .i64 e1.Task, .int .i64 e1.At])]) (l := [.loaded ⟨blkOf A0, offOf A0 + ((IntKind.i64.wrap (x2 + z1)).toNat) * 2, none⟩ (.int .i64 e1.Task), .loaded ⟨blkOf A0, offOf A0 + ((IntKind.i64.wrap (x2 + z1)).toNat) * 2 + 1, none⟩ (.int .i64 e1.At)]) (by kernel_rfl) ⟨RdL.cell (j := 0) (hS3.rdAt 0 rfl) hx1 rfl, RdL.cell (j := 1) (hS3.rdAt 0 rfl) hx1 rfl, trivial⟩ (mem_one (by kernel_rfl)) ?_
      refine go2_batch [14, 15, 16, 17] (ans := []) (vs := [(33, .int .i64 (IntKind.i64.wrap (x1 + z1))), (32, .int .i64 z1), (31, .int .i64 x1), (30, (.slice A0 m1.length c0))]) (l := []) (by kernel_rfl) trivial mem_nil ?_
      by_cases hc3 : 0 ≤ (IntKind.i64.wrap (x1 + z1))
      · rw [if_pos hc3] at h
        rcases hx2 : m1[(IntKind.i64.wrap (x1 + z1)).toNat]? with _ | e2
        · rw [hx2] at h; cases h
        rw [hx2] at h
        simp only [] at h
        refine go2_index (d := 34) (ty := 0) (t := 49) (el := 53) (sz := 2) (m := m1.length) (c := c0) (x := (.tmp 30)) (y := (.tmp 33)) (A := A0) (k' := .i64) (j := (IntKind.i64.wrap (x1 + z1))) (jn := ((IntKind.i64.wrap (x1 + z1)).toNat)) (b0 := blkOf A0) (o0 := offOf A0) (by kernel_rfl) (by kernel_rfl) (by kernel_rfl) (by kernel_rfl) (by kernel_rfl) ((hS3.rdAt 0 rfl).eqSome (pos_of_get hx2)) (Int.toNat_of_nonneg hc3).symm (lt_of_get hx2) ?_
        refine go2_batch [19] (ans := [.val (.int .i64 e2.Task), .val (.int .i64 e2.At)]) (vs := [(35, .agg #[.int .i64 e2.Task, .int .i64 e2.At])]) (l := [.loaded ⟨blkOf A0, offOf A0 + ((IntKind.i64.wrap (x1 + z1)).toNat) * 2, none⟩ (.int .i64 e2.Task), .loaded ⟨blkOf A0, offOf A0 + ((IntKind.i64.wrap (x1 + z1)).toNat) * 2 + 1, none⟩ (.int .i64 e2.At)]) (by kernel_rfl) ⟨RdL.cell (j := 0) (hS3.rdAt 0 rfl) hx2 rfl, RdL.cell (j := 1) (hS3.rdAt 0 rfl) hx2 rfl, trivial⟩ (mem_one (by kernel_rfl)) ?_
        refine go2_index (d := 36) (ty := 0) (t := 49) (el := 53) (sz := 2) (m := m1.length) (c := c0) (x := (.tmp 16)) (y := (.tmp 19)) (A := A0) (k' := .i64) (j := (IntKind.i64.wrap (x1 + z1))) (jn := ((IntKind.i64.wrap (x1 + z1)).toNat)) (b0 := blkOf A0) (o0 := offOf A0) (by kernel_rfl) (by kernel_rfl) (by kernel_rfl) (by kernel_rfl) (by kernel_rfl) ((hS3.rdAt 0 rfl).eqSome (pos_of_get hx2)) (Int.toNat_of_nonneg hc3).symm (lt_of_get hx2) ?_
        refine go_alt2 (fun KK hKK => ?_) ?_
        · refine ge_seti (α := SCome) (A := A0) (nn := m1.length) (c := c0) (t := 53) (l := m1) (x := e2) (x' := e1) (jn := ((IntKind.i64.wrap (x1 + z1)).toNat)) (j := 0) (vs := [.int .i64 e1.Task, .int .i64 e1.At]) (l' := [.stored ⟨blkOf A0, offOf A0 + ((IntKind.i64.wrap (x1 + z1)).toNat) * 2, none⟩ (.int .i64 e1.Task), .stored ⟨blkOf A0, offOf A0 + ((IntKind.i64.wrap (x1 + z1)).toNat) * 2 + 1, none⟩ (.int .i64 e1.At)]) hS3 (by kernel_rfl) (by kernel_rfl) hx2 rfl rfl rfl fun w1 hS4 => ?_
          have hS5 : St w0 w1 [Own.of (.slice A0 m1.length c0) 53 (m1.set ((IntKind.i64.wrap (x1 + z1)).toNat) e1), Own.all LT] := hS4
          have hE1 : m1.length = (m1.set ((IntKind.i64.wrap (x1 + z1)).toNat) e1).length := hS5.lenAt 0 rfl
          have hS6 : St w0 w1 [Own.of (.slice A0 (m1.set ((IntKind.i64.wrap (x1 + z1)).toNat) e1).length c0) 53 (m1.set ((IntKind.i64.wrap (x1 + z1)).toNat) e1), Own.all LT] := by rw [← hE1]; exact hS5
          refine ge_same (t := 0) (v := (.slice A0 m1.length c0)) (v' := (.slice A0 (m1.set ((IntKind.i64.wrap (x1 + z1)).toNat) e1).length c0)) (by kernel_rfl) (by rw [hE1]) ?_
          refine ge_same (t := 16) (v := (.slice A0 m1.length c0)) (v' := (.slice A0 (m1.set ((IntKind.i64.wrap (x1 + z1)).toNat) e1).length c0)) (by kernel_rfl) (by rw [hE1]) ?_
          refine ge_same (t := 20) (v := (.slice A0 m1.length c0)) (v' := (.slice A0 (m1.set ((IntKind.i64.wrap (x1 + z1)).toNat) e1).length c0)) (by kernel_rfl) (by rw [hE1]) ?_
          refine ge_same (t := 24) (v := (.slice A0 m1.length c0)) (v' := (.slice A0 (m1.set ((IntKind.i64.wrap (x1 + z1)).toNat) e1).length c0)) (by kernel_rfl) (by rw [hE1]) ?_
          refine ge_same (t := 30) (v := (.slice A0 m1.length c0)) (v' := (.slice A0 (m1.set ((IntKind.i64.wrap (x1 + z1)).toNat) e1).length c0)) (by kernel_rfl) (by rw [hE1]) ?_
          refine ge_nil fun a hF => hKK _ _ (RS.of2 (l := []) (by kernel_rfl) trivial trivial) ?_ a hF
          rcases hx3 : (m1.set ((IntKind.i64.wrap (x1 + z1)).toNat) e1)[(IntKind.i64.wrap (x2 + z1)).toNat]? with _ | e3
          · rw [hx3] at h; cases h
          rw [hx3] at h
          simp only [] at h
          refine go2_index (d := 37) (ty := 0) (t := 49) (el := 53) (sz := 2) (m := (m1.set ((IntKind.i64.wrap (x1 + z1)).toNat) e1).length) (c := c0) (x := (.tmp 20)) (y := (.tmp 23)) (A := A0) (k' := .i64) (j := (IntKind.i64.wrap (x2 + z1))) (jn := ((IntKind.i64.wrap (x2 + z1)).toNat)) (b0 := blkOf A0) (o0 := offOf A0) (by kernel_rfl) (by kernel_rfl) (by kernel_rfl) (by kernel_rfl) (by kernel_rfl) ((hS6.rdAt 0 rfl).eqSome (pos_of_get hx3)) (Int.toNat_of_nonneg hc2).symm (lt_of_get hx3) ?_
          refine go_alt2 (fun KK hKK => ?_) ?_
          · refine ge_seti (α := SCome) (A := A0) (nn := ((m1.set ((IntKind.i64.wrap (x1 + z1)).toNat) e1).length)) (c := c0) (t := 53) (l := (m1.set ((IntKind.i64.wrap (x1 + z1)).toNat) e1)) (x := e3) (x' := e2) (jn := ((IntKind.i64.wrap (x2 + z1)).toNat)) (j := 0) (vs := [.int .i64 e2.Task, .int .i64 e2.At]) (l' := [.stored ⟨blkOf A0, offOf A0 + ((IntKind.i64.wrap (x2 + z1)).toNat) * 2, none⟩ (.int .i64 e2.Task), .stored ⟨blkOf A0, offOf A0 + ((IntKind.i64.wrap (x2 + z1)).toNat) * 2 + 1, none⟩ (.int .i64 e2.At)]) hS6 (by kernel_rfl) (by kernel_rfl) hx3 rfl rfl rfl fun w2 hS7 => ?_
            have hS8 : St w0 w2 [Own.of (.slice A0 (m1.set ((IntKind.i64.wrap (x1 + z1)).toNat) e1).length c0) 53 ((m1.set ((IntKind.i64.wrap (x1 + z1)).toNat) e1).set ((IntKind.i64.wrap (x2 + z1)).toNat) e2), Own.all LT] := hS7
            have hE2 : (m1.set ((IntKind.i64.wrap (x1 + z1)).toNat) e1).length = ((m1.set ((IntKind.i64.wrap (x1 + z1)).toNat) e1).set ((IntKind.i64.wrap (x2 + z1)).toNat) e2).length := hS8.lenAt 0 rfl
            have hS9 : St w0 w2 [Own.of (.slice A0 ((m1.set ((IntKind.i64.wrap (x1 + z1)).toNat) e1).set ((IntKind.i64.wrap (x2 + z1)).toNat) e2).length c0) 53 ((m1.set ((IntKind.i64.wrap (x1 + z1)).toNat) e1).set ((IntKind.i64.wrap (x2 + z1)).toNat) e2), Own.all LT] := by rw [← hE2]; exact hS8
            refine ge_same (t := 0) (v := (.slice A0 (m1.set ((IntKind.i64.wrap (x1 + z1)).toNat) e1).length c0)) (v' := (.slice A0 ((m1.set ((IntKind.i64.wrap (x1 + z1)).toNat) e1).set ((IntKind.i64.wrap (x2 + z1)).toNat) e2).length c0)) (by kernel_rfl) (by rw [hE2]) ?_
            refine ge_same (t := 16) (v := (.slice A0 (m1.set ((IntKind.i64.wrap (x1 + z1)).toNat) e1).length c0)) (v' := (.slice A0 ((m1.set ((IntKind.i64.wrap (x1 + z1)).toNat) e1).set ((IntKind.i64.wrap (x2 + z1)).toNat) e2).length c0)) (by kernel_rfl) (by rw [hE2]) ?_
            refine ge_same (t := 20) (v := (.slice A0 (m1.set ((IntKind.i64.wrap (x1 + z1)).toNat) e1).length c0)) (v' := (.slice A0 ((m1.set ((IntKind.i64.wrap (x1 + z1)).toNat) e1).set ((IntKind.i64.wrap (x2 + z1)).toNat) e2).length c0)) (by kernel_rfl) (by rw [hE2]) ?_
            refine ge_same (t := 24) (v := (.slice A0 (m1.set ((IntKind.i64.wrap (x1 + z1)).toNat) e1).length c0)) (v' := (.slice A0 ((m1.set ((IntKind.i64.wrap (x1 + z1)).toNat) e1).set ((IntKind.i64.wrap (x2 + z1)).toNat) e2).length c0)) (by kernel_rfl) (by rw [hE2]) ?_
            refine ge_same (t := 30) (v := (.slice A0 (m1.set ((IntKind.i64.wrap (x1 + z1)).toNat) e1).length c0)) (v' := (.slice A0 ((m1.set ((IntKind.i64.wrap (x1 + z1)).toNat) e1).set ((IntKind.i64.wrap (x2 + z1)).toNat) e2).length c0)) (by kernel_rfl) (by rw [hE2]) ?_
            refine ge_nil fun a hF => hKK _ _ (RS.of2 (l := []) (by kernel_rfl) trivial trivial) ?_ a hF
            refine go_fin2 fun a hF => hK4 _ _ ?_ a hF
            refine we_region [(0, 0), (1, 0), (2, 0)] rfl ?_
            refine ge_batch [0, 1, 2] (ans := []) (vs := [(10, .int .i64 (IntKind.i64.wrap (z1 + 1))), (15, .int .i64 (IntKind.i64.wrap (z1 + 1))), (14, .int .i64 z1)]) (l := []) (by kernel_rfl) trivial ?_
            have hS10 := hS9.bring 1 rfl
            have hS11 := hS10.bring 1 rfl
            obtain rfl := Option.some.inj h
            exact ge_nil fun a hF => hQ _ _ _ (Outs.again ⟨(Eq.trans hLio1 (by simp only [List.length_set])), hS11, hF.weaken ⟨by kernel_rfl, by kernel_rfl, by kernel_rfl, by kernel_rfl, by kernel_rfl, by kernel_rfl, trivial⟩⟩)
          exact go_nomore2
        exact go_nomore2
      · rw [if_neg hc3] at h
        cases h
    · rw [if_neg hc2] at h
      cases h
  · rw [if_neg hc1] at h
    refine we_known (t := 13) (b := decide (z1 < x3)) (v := false) (by kernel_rfl) (decide_eq_false hc1) ?_
    refine we_false (by kernel_rfl) ?_
    have hS12 := hS.bring 1 rfl
    have hS13 := hS12.bring 1 rfl
    obtain rfl := Option.some.inj h
    exact we_exit fun a hF => hQ _ _ _ (Outs.out nofun (Exits.here ⟨hLio1, hS13, hF.weaken ⟨by kernel_rfl, by kernel_rfl, trivial⟩⟩))
theorem slices_swapRangeCmpFunc_api_Come_ok (K : Nat) (l0 : List SCome) (A0 : Option Addr) (c0 : Nat) (x1 : Int) (x2 : Int) (x3 : Int) (w0 wE : World) (LT : List Own) (hS : St w0 wE [Own.of (.slice A0 l0.length c0) 53 l0, Own.all LT]) (r : List SCome) (h : slices_swapRangeCmpFunc_api_Come.f K l0 x1 x2 x3 = some r) :
    Calls Tryd.prog 125 #[(.slice A0 l0.length c0), .int .i64 x1, .int .i64 x2, .int .i64 x3, .func (.func 79) #[] #[]] wE (slices_swapRangeCmpFunc_api_Come.Post w0 l0 A0 c0 x1 x2 x3 LT r) := by
  unfold slices_swapRangeCmpFunc_api_Come.f at h
  refine calls_enter (n := 38) (args := [(.slice A0 l0.length c0), .int .i64 x1, .int .i64 x2, .int .i64 x3, .func (.func 79) #[] #[]]) (fn := Tryd.f125) rfl rfl rfl rfl ?_
  show WE _ _ _ _ [(0, (.slice A0 l0.length c0)), (1, .int .i64 x1), (2, .int .i64 x2), (3, .int .i64 x3), (4, .func (.func 79) #[] #[])] _
  refine we_seq fun K1 hK1 => ?_
  refine we_region [(0, 0)] rfl ?_
  refine ge_batch [0] (ans := []) (vs := [(10, .int .i64 0)]) (l := []) (by kernel_rfl) trivial ?_
  refine ge_nil fun a hF => hK1 _ _ ?_ a hF
  refine we_block ?_
  have hS1 := hS.bring 1 rfl
  have hS2 := hS1.bring 1 rfl
  rcases hq1 : iter (slices_swapRangeCmpFunc_api_Come.r0 x1 x2 x3) K (0, l0) with _ | (m3 | rr1)
  · rw [hq1] at h; cases h
  · rw [hq1] at h
    simp only [] at h
    refine we_iter (A := slices_swapRangeCmpFunc_api_Come.A0 K w0 l0 A0 c0 x1 x2 x3 LT) (B := slices_swapRangeCmpFunc_api_Come.B0 K w0 l0 A0 c0 x1 x2 x3 LT) hq1 (fun a hF => ⟨rfl, hS2, hF.weaken ⟨by kernel_rfl, by kernel_rfl, by kernel_rfl, by kernel_rfl, by kernel_rfl, by kernel_rfl, trivial⟩⟩) (fun s o hf a w hA Q hQ => slices_swapRangeCmpFunc_api_Come_r0 K w0 l0 A0 c0 x1 x2 x3 LT s o hf a w hA Q hQ) ?_
    rintro _ a w3 _ ⟨rfl, hRz1, hS14, hF⟩
    replace hS14 : St w0 w3 [Own.of (.slice A0 m3.length c0) 53 m3, Own.all LT] := hS14
    have hS15 := hS14.bring 1 rfl
    have hS16 := hS15.bring 1 rfl
    obtain rfl := Option.some.inj h
    exact (post_end (rs := []) (ans := []) (vs := []) (l := []) rfl (by kernel_rfl) trivial ⟨rfl, hRz1, hS16⟩) a hF
  · rw [hq1] at h
    simp only [] at h
    refine we_iter (A := slices_swapRangeCmpFunc_api_Come.A0 K w0 l0 A0 c0 x1 x2 x3 LT) (B := slices_swapRangeCmpFunc_api_Come.B0 K w0 l0 A0 c0 x1 x2 x3 LT) hq1 (fun a hF => ⟨rfl, hS2, hF.weaken ⟨by kernel_rfl, by kernel_rfl, by kernel_rfl, by kernel_rfl, by kernel_rfl, by kernel_rfl, trivial⟩⟩) (fun s o hf a w hA Q hQ => slices_swapRangeCmpFunc_api_Come_r0 K w0 l0 A0 c0 x1 x2 x3 LT s o hf a w hA Q hQ) ?_
    rintro _ a w1 _ ⟨rfl, hb⟩
    obtain rfl := Option.some.inj h
    exact hb

/-! slices.rotateCmpFunc[punctual/api.Come] -/
abbrev slices_rotateCmpFunc_api_Come.Post (w0 : World) (l0 : List SCome) (A0 : Option Addr) (c0 : Nat) (x1 : Int) (x2 : Int) (x3 : Int) (LT : List Own) (r : List SCome) (e : Ending) (w : World) : Prop := e = .returned (.tuple #[]) ∧ l0.length = r.length ∧ St w0 w [Own.of (.slice A0 r.length c0) 53 r, Own.all LT]
def slices_rotateCmpFunc_api_Come.r0 (K : Nat) (x2 : Int) : Int × Int × (List SCome) → Option ((Int × Int × (List SCome)) ⊕ ((Int × (List SCome)) ⊕ (List SCome)))
  | (z1, z2, m1) =>
    if z1 = z2 then
      some (.inr (.inl (z1, m1)))
    else
      if z1 > z2 then
        match slices_swapRangeCmpFunc_api_Come.f K m1 (IntKind.i64.wrap (x2 - z1)) x2 z2 with
        | none => none
        | some r1 =>
          some (.inl (IntKind.i64.wrap (z1 - z2), z2, r1))
      else
        match slices_swapRangeCmpFunc_api_Come.f K m1 (IntKind.i64.wrap (x2 - z1)) (IntKind.i64.wrap ((IntKind.i64.wrap (x2 + z2)) - z1)) z1 with
        | none => none
        | some r2 =>
          some (.inl (z1, IntKind.i64.wrap (z2 - z1), r2))
def slices_rotateCmpFunc_api_Come.f (K : Nat) (l0 : List SCome) (x1 : Int) (x2 : Int) (x3 : Int) : Option (List SCome) :=
  match iter (slices_rotateCmpFunc_api_Come.r0 K x2) K (IntKind.i64.wrap (x2 - x1), IntKind.i64.wrap (x3 - x2), l0) with
  | none => none
  | some (.inl (z4, m3)) =>
    match slices_swapRangeCmpFunc_api_Come.f K m3 (IntKind.i64.wrap (x2 - z4)) x2 z4 with
    | none => none
    | some r3 =>
      some r3
  | some (.inr rr1) =>
    some rr1
abbrev slices_rotateCmpFunc_api_Come.A0 (K : Nat) (w0 : World) (l0 : List SCome) (A0 : Option Addr) (c0 : Nat) (x1 : Int) (x2 : Int) (x3 : Int) (LT : List Own) : (Int × Int × (List SCome)) → Act → World → Prop := fun (s : Int × Int × (List SCome)) a w => l0.length = s.2.2.length ∧ St w0 w [Own.of (.slice A0 s.2.2.length c0) 53 s.2.2, Own.all LT] ∧ Frm 58 a [(0, (.slice A0 s.2.2.length c0)), (2, .int .i64 x2), (4, .func (.func 79) #[] #[]), (10, .int .i64 s.1), (11, .int .i64 s.2.1)]
abbrev slices_rotateCmpFunc_api_Come.B0 (K : Nat) (w0 : World) (l0 : List SCome) (A0 : Option Addr) (c0 : Nat) (x1 : Int) (x2 : Int) (x3 : Int) (LT : List Own) : ((Int × (List SCome)) ⊕ (List SCome)) → Exit → Act → World → Prop := Exits 0 (fun (s : Int × (List SCome)) a w => l0.length = s.2.length ∧ St w0 w [Own.of (.slice A0 s.2.length c0) 53 s.2, Own.all LT] ∧ Frm 58 a [(0, (.slice A0 s.2.length c0)), (2, .int .i64 x2), (4, .func (.func 79) #[] #[]), (10, .int .i64 s.1)]) (Rets Tryd.prog Tryd.f118 (slices_rotateCmpFunc_api_Come.Post w0 l0 A0 c0 x1 x2 x3 LT))
theorem slices_rotateCmpFunc_api_Come_r0 (K : Nat) (w0 : World) (l0 : List SCome) (A0 : Option Addr) (c0 : Nat) (x1 : Int) (x2 : Int) (x3 : Int) (LT : List Own) (s : Int × Int × (List SCome)) (o : (Int × Int × (List SCome)) ⊕ ((Int × (List SCome)) ⊕ (List SCome))) (h : slices_rotateCmpFunc_api_Come.r0 K x2 s = some o) (a : Act) (w : World) (hA : slices_rotateCmpFunc_api_Come.A0 K w0 l0 A0 c0 x1 x2 x3 LT s a w) (Q : Exit → Act → World → Prop) (hQ : ∀ x a w, Outs (slices_rotateCmpFunc_api_Come.A0 K w0 l0 A0 c0 x1 x2 x3 LT) (slices_rotateCmpFunc_api_Come.B0 K w0 l0 A0 c0 x1 x2 x3 LT) o x a w → Q x a w) : (subF Tryd.f118 [1, 1, 0, 0, 0]).wp Tryd.prog Q a w := by
  obtain ⟨z1, z2, m1⟩ := s
  obtain ⟨hLio1, hS, hF⟩ := hA
  replace hS : St w0 w [Own.of (.slice A0 m1.length c0) 53 m1, Own.all LT] := hS
  simp only [slices_rotateCmpFunc_api_Come.r0] at h
  refine (?_ : WE Tryd.prog 58 (subF Tryd.f118 [1, 1, 0, 0, 0]) Q [(0, (.slice A0 m1.length c0)), (2, .int .i64 x2), (4, .func (.func 79) #[] #[]), (10, .int .i64 z1), (11, .int .i64 z2)] w) a hF
  clear hF a
  refine we_seq fun K4 hK4 => ?_
  refine we_seq fun K5 hK5 => ?_
  refine we_region [(0, 0), (1, 0), (2, 0)] rfl ?_
  refine ge_batch [0, 1, 2] (ans := []) (vs := [(20, .bool (z1 != z2)), (19, .int .i64 z2), (18, .int .i64 z1)]) (l := []) (by kernel_rfl) trivial ?_
  refine ge_nil fun a hF => hK5 _ _ ?_ a hF
  by_cases hc1 : z1 = z2
  · rw [if_pos hc1] at h
    refine we_known (t := 20) (b := (z1 != z2)) (v := false) (by kernel_rfl) (bne_eq_false_iff_eq.2 hc1) ?_
    refine we_false (by kernel_rfl) ?_
    have hS3 := hS.bring 1 rfl
    have hS4 := hS3.bring 1 rfl
    obtain rfl := Option.some.inj h
    exact we_exit fun a hF => hQ _ _ _ (Outs.out nofun (Exits.here ⟨hLio1, hS4, hF.weaken ⟨by kernel_rfl, by kernel_rfl, by kernel_rfl, by kernel_rfl, trivial⟩⟩))
  · rw [if_neg hc1] at h
    refine we_known (t := 20) (b := (z1 != z2)) (v := true) (by kernel_rfl) (bne_iff_ne.2 hc1) ?_
    refine we_true (by kernel_rfl) ?_
    refine we_skip fun a hF => hK4 _ _ ?_ a hF
    refine we_block ?_
    refine we_seq fun K6 hK6 => ?_
    refine we_region [(0, 0), (1, 0), (2, 0)] rfl ?_
    refine ge_batch [0, 1, 2] (ans := []) (vs := [(23, .bool (decide (z1 > z2))), (22, .int .i64 z2), (21, .int .i64 z1)]) (l := []) (by kernel_rfl) trivial ?_
    refine ge_nil fun a hF => hK6 _ _ ?_ a hF
    by_cases hc2 : z1 > z2
    · rw [if_pos hc2] at h
      refine we_known (t := 23) (b := decide (z1 > z2)) (v := true) (by kernel_rfl) (decide_eq_true hc2) ?_
      refine we_true (by kernel_rfl) ?_
      refine we_seq fun K7 hK7 => ?_
      refine we_region [(0, 0), (1, 0), (2, 0), (3, 0), (4, 0), (5, 0), (6, 0), (7, 2)] rfl ?_
      refine ge_batch [0, 1, 2, 3, 4, 5, 6] (ans := []) (vs := [(30, .func (.func 79) #[] #[]), (29, .int .i64 z2), (28, .int .i64 x2), (27, .int .i64 (IntKind.i64.wrap (x2 - z1))), (26, .int .i64 z1), (25, .int .i64 x2), (24, (.slice A0 m1.length c0))]) (l := []) (by kernel_rfl) trivial ?_
      rcases hq1 : slices_swapRangeCmpFunc_api_Come.f K m1 (IntKind.i64.wrap (x2 - z1)) x2 z2 with _ | r1
      · rw [hq1] at h; cases h
      rw [hq1] at h
      simp only [] at h
      have hS6 : St w0 w [Own.of (.slice A0 m1.length c0) 53 m1, Own.all [Own.all LT]] := hS.packN 1
      refine ge_call2 (m := 0) (d := some 31) (f := 125) (args := #[.slice A0 m1.length c0, .int .i64 (IntKind.i64.wrap (x2 - z1)), .int .i64 x2, .int .i64 z2, .func (.func 79) #[] #[]]) (by kernel_rfl) (slices_swapRangeCmpFunc_api_Come_ok K m1 A0 c0 (IntKind.i64.wrap (x2 - z1)) x2 z2 _ _ _ hS6 _ hq1) ?_
      rintro _ w1 ⟨rfl, hE1, hS5⟩
      refine ⟨_, rfl, ?_⟩
      have hS7 : St w0 w1 [Own.of (.slice A0 r1.length c0) 53 r1, Own.all LT] := hS5.unpack [Own.of (.slice A0 r1.length c0) 53 r1]
      refine ge_same (t := 0) (v := (.slice A0 m1.length c0)) (v' := (.slice A0 r1.length c0)) (by kernel_rfl) (by rw [show m1.length = r1.length from hE1]) ?_
      refine ge_same (t := 24) (v := (.slice A0 m1.length c0)) (v' := (.slice A0 r1.length c0)) (by kernel_rfl) (by rw [show m1.length = r1.length from hE1]) ?_
      have hLio3 : l0.length = r1.length := Eq.trans hLio1 hE1
      refine ge_nil fun a hF => hK7 _ _ ?_ a hF
      refine we_region [(0, 0), (1, 0), (2, 0), (3, 0)] rfl ?_
      refine ge_batch [0, 1, 2, 3] (ans := []) (vs := [(10, .int .i64 (IntKind.i64.wrap (z1 - z2))), (34, .int .i64 (IntKind.i64.wrap (z1 - z2))), (33, .int .i64 z2), (32, .int .i64 z1)]) (l := []) (by kernel_rfl) trivial ?_
      have hS8 := hS7.bring 1 rfl
      have hS9 := hS8.bring 1 rfl
      obtain rfl := Option.some.inj h
      exact ge_nil fun a hF => hQ _ _ _ (Outs.again ⟨hLio3, hS9, hF.weaken ⟨by kernel_rfl, by kernel_rfl, by kernel_rfl, by kernel_rfl, by kernel_rfl, trivial⟩⟩)
    · rw [if_neg hc2] at h
      refine we_known (t := 23) (b := decide (z1 > z2)) (v := false) (by kernel_rfl) (decide_eq_false hc2) ?_
      refine we_false (by kernel_rfl) ?_
      refine we_seq fun K8 hK8 => ?_
      refine we_region [(0, 0), (1, 0), (2, 0), (3, 0), (4, 0), (5, 0), (6, 0), (7, 0), (8, 0), (9, 0), (10, 0), (11, 2)] rfl ?_
      refine ge_batch [0, 1, 2, 3, 4, 5, 6, 7, 8, 9, 10] (ans := []) (vs := [(45, .func (.func 79) #[] #[]), (44, .int .i64 z1), (43, .int .i64 (IntKind.i64.wrap ((IntKind.i64.wrap (x2 + z2)) - z1))), (42, .int .i64 z1), (41, .int .i64 (IntKind.i64.wrap (x2 + z2))), (40, .int .i64 z2), (39, .int .i64 x2), (38, .int .i64 (IntKind.i64.wrap (x2 - z1))), (37, .int .i64 z1), (36, .int .i64 x2), (35, (.slice A0 m1.length c0))]) (l := []) (by kernel_rfl) trivial ?_
      rcases hq2 : slices_swapRangeCmpFunc_api_Come.f K m1 (IntKind.i64.wrap (x2 - z1)) (IntKind.i64.wrap ((IntKind.i64.wrap (x2 + z2)) - z1)) z1 with _ | r2
      · rw [hq2] at h; cases h
      rw [hq2] at h
      simp only [] at h
      have hS11 : St w0 w [Own.of (.slice A0 m1.length c0) 53 m1, Own.all [Own.all LT]] := hS.packN 1
      refine ge_call2 (m := 0) (d := some 46) (f := 125) (args := #[.slice A0 m1.length c0, .int .i64 (IntKind.i64.wrap (x2 - z1)), .int .i64 (IntKind.i64.wrap ((IntKind.i64.wrap (x2 + z2)) - z1)), .int .i64 z1, .func (.func 79) #[] #[]]) (by kernel_rfl) (slices_swapRangeCmpFunc_api_Come_ok K m1 A0 c0 (IntKind.i64.wrap (x2 - z1)) (IntKind.i64.wrap ((IntKind.i64.wrap (x2 + z2)) - z1)) z1 _ _ _ hS11 _ hq2) ?_
      rintro _ w2 ⟨rfl, hE2, hS10⟩
      refine ⟨_, rfl, ?_⟩
      have hS12 : St w0 w2 [Own.of (.slice A0 r2.length c0) 53 r2, Own.all LT] := hS10.unpack [Own.of (.slice A0 r2.length c0) 53 r2]
      refine ge_same (t := 0) (v := (.slice A0 m1.length c0)) (v' := (.slice A0 r2.length c0)) (by kernel_rfl) (by rw [show m1.length = r2.length from hE2]) ?_
      refine ge_same (t := 35) (v := (.slice A0 m1.length c0)) (v' := (.slice A0 r2.length c0)) (by kernel_rfl) (by rw [show m1.length = r2.length from hE2]) ?_
      have hLio4 : l0.length = r2.length := Eq.trans hLio1 hE2
      refine ge_nil fun a hF => hK8 _ _ ?_ a hF
      refine we_region [(0, 0), (1, 0), (2, 0), (3, 0)] rfl ?_
      refine ge_batch [0, 1, 2, 3] (ans := []) (vs := [(11, .int .i64 (IntKind.i64.wrap (z2 - z1))), (49, .int .i64 (IntKind.i64.wrap (z2 - z1))), (48, .int .i64 z1), (47, .int .i64 z2)]) (l := []) (by kernel_rfl) trivial ?_
      have hS13 := hS12.bring 1 rfl
      have hS14 := hS13.bring 1 rfl
      obtain rfl := Option.some.inj h
      exact ge_nil fun a hF => hQ _ _ _ (Outs.again ⟨hLio4, hS14, hF.weaken ⟨by kernel_rfl, by kernel_rfl, by kernel_rfl, by kernel_rfl, by kernel_rfl, trivial⟩⟩)
theorem slices_rotateCmpFunc_api_Come_ok (K : Nat) (l0 : List SCome) (A0 : Option Addr) (c0 : Nat) (x1 : Int) (x2 : Int) (x3 : Int) (w0 wE : World) (LT : List Own) (hS : St w0 wE [Own.of (.slice A0 l0.length c0) 53 l0, Own.all LT]) (r : List SCome) (h : slices_rotateCmpFunc_api_Come.f K l0 x1 x2 x3 = some r) :
    Calls Tryd.prog 118 #[(.slice A0 l0.length c0), .int .i64 x1, .int .i64 x2, .int .i64 x3, .func (.func 79) #[] #[]] wE (slices_rotateCmpFunc_api_Come.Post w0 l0 A0 c0 x1 x2 x3 LT r) := by
  unfold slices_rotateCmpFunc_api_Come.f at h
  refine calls_enter (n := 58) (args := [(.slice A0 l0.length c0), .int .i64 x1, .int .i64 x2, .int .i64 x3, .func (.func 79) #[] #[]]) (fn := Tryd.f118) rfl rfl rfl rfl ?_
  show WE _ _ _ _ [(0, (.slice A0 l0.length c0)), (1, .int .i64 x1), (2, .int .i64 x2), (3, .int .i64 x3), (4, .func (.func 79) #[] #[])] _
  refine we_seq fun K1 hK1 => ?_
  refine we_region [(0, 0), (1, 0), (2, 0), (3, 0)] rfl ?_
  refine ge_batch [0, 1, 2, 3] (ans := []) (vs := [(10, .int .i64 (IntKind.i64.wrap (x2 - x1))), (14, .int .i64 (IntKind.i64.wrap (x2 - x1))), (13, .int .i64 x1), (12, .int .i64 x2)]) (l := []) (by kernel_rfl) trivial ?_
  refine ge_nil fun a hF => hK1 _ _ ?_ a hF
  refine we_seq fun K2 hK2 => ?_
  refine we_region [(0, 0), (1, 0), (2, 0), (3, 0)] rfl ?_
  refine ge_batch [0, 1, 2, 3] (ans := []) (vs := [(11, .int .i64 (IntKind.i64.wrap (x3 - x2))), (17, .int .i64 (IntKind.i64.wrap (x3 - x2))), (16, .int .i64 x2), (15, .int .i64 x3)]) (l := []) (by kernel_rfl) trivial ?_
  refine ge_nil fun a hF => hK2 _ _ ?_ a hF
  refine we_seq fun K3 hK3 => ?_
  refine we_block ?_
  have hS1 := hS.bring 1 rfl
  have hS2 := hS1.bring 1 rfl
  rcases hq3 : iter (slices_rotateCmpFunc_api_Come.r0 K x2) K (IntKind.i64.wrap (x2 - x1), IntKind.i64.wrap (x3 - x2), l0) with _ | (⟨z4, m3⟩ | rr1)
  · rw [hq3] at h; cases h
  · rw [hq3] at h
    simp only [] at h
    refine we_iter (A := slices_rotateCmpFunc_api_Come.A0 K w0 l0 A0 c0 x1 x2 x3 LT) (B := slices_rotateCmpFunc_api_Come.B0 K w0 l0 A0 c0 x1 x2 x3 LT) hq3 (fun a hF => ⟨rfl, hS2, hF.weaken ⟨by kernel_rfl, by kernel_rfl, by kernel_rfl, by kernel_rfl, by kernel_rfl, trivial⟩⟩) (fun s o hf a w hA Q hQ => slices_rotateCmpFunc_api_Come_r0 K w0 l0 A0 c0 x1 x2 x3 LT s o hf a w hA Q hQ) ?_
    rintro _ a w3 _ ⟨rfl, hRz1, hS15, hF⟩
    replace hS15 : St w0 w3 [Own.of (.slice A0 m3.length c0) 53 m3, Own.all LT] := hS15
    refine hK3 [(0, (.slice A0 m3.length c0)), (2, .int .i64 x2), (4, .func (.func 79) #[] #[]), (10, .int .i64 z4)] w3 ?_ a hF
    refine we_region [(0, 0), (1, 0), (2, 0), (3, 0), (4, 0), (5, 0), (6, 0), (7, 2)] rfl ?_
    refine ge_batch [0, 1, 2, 3, 4, 5, 6] (ans := []) (vs := [(56, .func (.func 79) #[] #[]), (55, .int .i64 z4), (54, .int .i64 x2), (53, .int .i64 (IntKind.i64.wrap (x2 - z4))), (52, .int .i64 z4), (51, .int .i64 x2), (50, (.slice A0 m3.length c0))]) (l := []) (by kernel_rfl) trivial ?_
    rcases hq4 : slices_swapRangeCmpFunc_api_Come.f K m3 (IntKind.i64.wrap (x2 - z4)) x2 z4 with _ | r3
    · rw [hq4] at h; cases h
    rw [hq4] at h
    simp only [] at h
    have hS17 : St w0 w3 [Own.of (.slice A0 m3.length c0) 53 m3, Own.all [Own.all LT]] := hS15.packN 1
    refine ge_call2 (m := 0) (d := some 57) (f := 125) (args := #[.slice A0 m3.length c0, .int .i64 (IntKind.i64.wrap (x2 - z4)), .int .i64 x2, .int .i64 z4, .func (.func 79) #[] #[]]) (by kernel_rfl) (slices_swapRangeCmpFunc_api_Come_ok K m3 A0 c0 (IntKind.i64.wrap (x2 - z4)) x2 z4 _ _ _ hS17 _ hq4) ?_
    rintro _ w4 ⟨rfl, hE3, hS16⟩
    refine ⟨_, rfl, ?_⟩
    have hS18 : St w0 w4 [Own.of (.slice A0 r3.length c0) 53 r3, Own.all LT] := hS16.unpack [Own.of (.slice A0 r3.length c0) 53 r3]
    refine ge_same (t := 0) (v := (.slice A0 m3.length c0)) (v' := (.slice A0 r3.length c0)) (by kernel_rfl) (by rw [show m3.length = r3.length from hE3]) ?_
    refine ge_same (t := 50) (v := (.slice A0 m3.length c0)) (v' := (.slice A0 r3.length c0)) (by kernel_rfl) (by rw [show m3.length = r3.length from hE3]) ?_
    have hLio5 : l0.length = r3.length := Eq.trans hRz1 hE3
    have hS19 := hS18.bring 1 rfl
    have hS20 := hS19.bring 1 rfl
    obtain rfl := Option.some.inj h
    exact ge_nil (post_end (rs := []) (ans := []) (vs := []) (l := []) rfl (by kernel_rfl) trivial ⟨rfl, hLio5, hS20⟩)
  · rw [hq3] at h
    simp only [] at h
    refine we_iter (A := slices_rotateCmpFunc_api_Come.A0 K w0 l0 A0 c0 x1 x2 x3 LT) (B := slices_rotateCmpFunc_api_Come.B0 K w0 l0 A0 c0 x1 x2 x3 LT) hq3 (fun a hF => ⟨rfl, hS2, hF.weaken ⟨by kernel_rfl, by kernel_rfl, by kernel_rfl, by kernel_rfl, by kernel_rfl, trivial⟩⟩) (fun s o hf a w hA Q hQ => slices_rotateCmpFunc_api_Come_r0 K w0 l0 A0 c0 x1 x2 x3 LT s o hf a w hA Q hQ) ?_
    rintro _ a w1 _ ⟨rfl, hb⟩
    obtain rfl := Option.some.inj h
    exact hb
end Go.Proofs.YtlipdmblinjjaaaDoor.GV
