/- Walks of single functions, written by a program of this work. -/
import Derived.Test.YtlipdmblinjjaaaDoorGv17
import Derived.Test.YtlipdmblinjjaaaDoorProg
namespace Go.Proofs.YtlipdmblinjjaaaDoor.GV
open Go Go.RowKit
set_option linter.unusedVariables false
set_option linter.unusedSimpArgs false
set_option maxRecDepth 100000

structure STask where
  Name : ByteArray
  C : Int
  T : Int
  D : Int
  J : Int
  O : Int
  P : Int
def STask.eqb (x y : STask) : Bool := ((x.Name.toList == y.Name.toList) && ((x.C == y.C) && ((x.T == y.T) && ((x.D == y.D) && ((x.J == y.J) && ((x.O == y.O) && ((x.P == y.P) && true)))))))
instance : Ok STask := ⟨fun x => Ok.ok x.Name ∧ Ok.ok x.C ∧ Ok.ok x.T ∧ Ok.ok x.D ∧ Ok.ok x.J ∧ Ok.ok x.O ∧ Ok.ok x.P ∧ True⟩
instance : Flat STask := ⟨7, fun x => [.string x.Name, .int .i64 x.C, .int .i64 x.T, .int .i64 x.D, .int .i64 x.J, .int .i64 x.O, .int .i64 x.P], fun _ => rfl, fun _ => rfl, by decide⟩

/-! punctual/punctuallaw.three -/
abbrev three.Post (w0 : World) (r : List STask) (e : Ending) (w : World) : Prop := ∃ (v0 : Value), e = .returned (v0) ∧ St w0 w [Own.of v0 46 r]
def three.f : List STask :=
  ([(⟨⟨#[97]⟩, 1, 4, 4, 0, 0, 3⟩ : STask), (⟨⟨#[98]⟩, 2, 6, 6, 0, 0, 2⟩ : STask), (⟨⟨#[99]⟩, 3, 12, 12, 0, 0, 1⟩ : STask)] : List STask)
theorem three_ok  (w0 : World) (r : List STask) (h : three.f = r) :
    Calls Tryd.prog 20 #[] w0 (three.Post w0 r) := by
  have hS := St.start w0
  unfold three.f at h
  refine calls_enter (n := 5) (args := []) (fn := Tryd.f20) rfl rfl rfl rfl ?_
  show WE _ _ _ _ [] _
  refine we_seq fun K1 hK1 => ?_
  refine we_region [(0, 0)] rfl ?_
  refine ge_batch [0] (ans := []) (vs := [(0, .slice none 0 0)]) (l := []) (by kernel_rfl) trivial ?_
  refine ge_nil fun a hF => hK1 _ _ ?_ a hF
  refine we_seq fun K2 hK2 => ?_
  refine we_region [(0, 0), (1, 0), (2, 0), (3, 1), (4, 0)] rfl ?_
  refine ge_batch [0, 1, 2] (ans := []) (vs := [(3, .agg #[.string (⟨#[99]⟩), .int .i64 3, .int .i64 12, .int .i64 12, .int .i64 0, .int .i64 0, .int .i64 1]), (2, .agg #[.string (⟨#[98]⟩), .int .i64 2, .int .i64 6, .int .i64 6, .int .i64 0, .int .i64 0, .int .i64 2]), (1, .agg #[.string (⟨#[97]⟩), .int .i64 1, .int .i64 4, .int .i64 4, .int .i64 0, .int .i64 0, .int .i64 3])]) (l := []) (by kernel_rfl) trivial ?_
  refine ge_new (d := some 4) (o := .cells #[.string (⟨#[97]⟩), .int .i64 1, .int .i64 4, .int .i64 4, .int .i64 0, .int .i64 0, .int .i64 3, .string (⟨#[98]⟩), .int .i64 2, .int .i64 6, .int .i64 6, .int .i64 0, .int .i64 0, .int .i64 2, .string (⟨#[99]⟩), .int .i64 3, .int .i64 12, .int .i64 12, .int .i64 0, .int .i64 0, .int .i64 1] 46) (v := fun b => .slice (some ⟨b, 0, none⟩) 3 3) hS (fun b => by kernel_rfl) fun b1 w1 hx1 hS1 => ?_
  refine ge_batch [4] (ans := []) (vs := [(0, .slice (some ⟨b1, 0, none⟩) 3 3)]) (l := []) (by kernel_rfl) trivial ?_
  refine ge_nil fun a hF => hK2 _ _ ?_ a hF
  have hS2 := hS1.asRow (α := STask) (c := 3) ([(⟨⟨#[97]⟩, 1, 4, 4, 0, 0, 3⟩ : STask), (⟨⟨#[98]⟩, 2, 6, 6, 0, 0, 2⟩ : STask), (⟨⟨#[99]⟩, 3, 12, 12, 0, 0, 1⟩ : STask)] : List STask) (Nat.le_refl _) (by decide) rfl rfl
  subst h
  exact we_ret (post_ret (rs := [.tmp 0]) (ans := []) (vs := [(.slice (some ⟨b1, 0, none⟩) 3 3)]) (l := []) rfl (by kernel_rfl) trivial ⟨(.slice (some ⟨b1, 0, none⟩) 3 3), rfl, hS2⟩)

/-! punctual/tasks.isName -/
abbrev tasks_isName.Post (w0 : World) (r : Bool) (e : Ending) (w : World) : Prop := e = .returned (.bool r) ∧ St w0 w []
def tasks_isName.r0 (x0 : ByteArray) : Nat → Option (Nat ⊕ (Unit ⊕ Bool))
  | i1 =>
    if i1 < x0.size then
      if ((Utf8.decode x0 i1).1 : Int) < 97 then
        some (.inr (.inr false))
      else
        if ((Utf8.decode x0 i1).1 : Int) > 122 then
          some (.inr (.inr false))
        else
          some (.inl (i1 + (Utf8.decode x0 i1).2))
    else
      some (.inr (.inl ()))
def tasks_isName.f (K : Nat) (x0 : ByteArray) : Option Bool :=
  if (x0.size : Int) < 1 then
    some false
  else
    if (x0.size : Int) > 10 then
      some false
    else
      match iter (tasks_isName.r0 x0) K 0 with
      | none => none
      | some (.inl _) =>
        some true
      | some (.inr rr1) =>
        some rr1
abbrev tasks_isName.A0 (K : Nat) (w0 : World) (x0 : ByteArray) (hc1 : ¬ ((x0.size : Int) < 1)) (hc2 : ¬ ((x0.size : Int) > 10)) (b1 : Nat) : Nat → Act → World → Prop := fun (s : Nat) a w => St w0 w [Own.blk b1 (.stringIter x0 s)] ∧ Frm 24 a [(14, .pointer (some ⟨b1, 0, none⟩))]
abbrev tasks_isName.B0 (K : Nat) (w0 : World) (x0 : ByteArray) (hc1 : ¬ ((x0.size : Int) < 1)) (hc2 : ¬ ((x0.size : Int) > 10)) (b1 : Nat) : (Unit ⊕ Bool) → Exit → Act → World → Prop := Exits 0 (fun (s : Unit) a w => St w0 w [] ∧ Frm 24 a []) (Rets Tryd.prog Tryd.f61 (tasks_isName.Post w0))
theorem tasks_isName_r0 (K : Nat) (w0 : World) (x0 : ByteArray) (hc1 : ¬ ((x0.size : Int) < 1)) (hc2 : ¬ ((x0.size : Int) > 10)) (b1 : Nat) (s : Nat) (o : Nat ⊕ (Unit ⊕ Bool)) (h : tasks_isName.r0 x0 s = some o) (a : Act) (w : World) (hA : tasks_isName.A0 K w0 x0 hc1 hc2 b1 s a w) (Q : Exit → Act → World → Prop) (hQ : ∀ x a w, Outs (tasks_isName.A0 K w0 x0 hc1 hc2 b1) (tasks_isName.B0 K w0 x0 hc1 hc2 b1) o x a w → Q x a w) : (subF Tryd.f61 [1, 1, 0, 1, 0, 0]).wp Tryd.prog Q a w := by
  obtain ⟨i1, hs⟩ : ∃ z, z = s := ⟨s, rfl⟩
  subst hs
  obtain ⟨hS, hF⟩ := hA
  replace hS : St w0 w [Own.blk b1 (.stringIter x0 i1)] := hS
  simp only [tasks_isName.r0] at h
  refine (?_ : WE Tryd.prog 24 (subF Tryd.f61 [1, 1, 0, 1, 0, 0]) Q [(14, .pointer (some ⟨b1, 0, none⟩))] w) a hF
  clear hF a
  refine we_seq fun K8 hK8 => ?_
  refine we_region [(0, 2), (1, 0)] rfl ?_
  by_cases hc3 : i1 < x0.size
  · rw [if_pos hc3] at h
    refine ge_next (m := 0) (d := 15) (b := b1) (x := (.tmp 14)) (ty := 0) (s := x0) (pos := i1) (by kernel_rfl) (by kernel_rfl) hS (fun _ w2 hS2 => ?_) (fun hp => absurd hc3 hp)
    refine ge_batch [1] (ans := []) (vs := [(16, .bool true)]) (l := []) (by kernel_rfl) trivial ?_
    refine ge_nil fun a hF => hK8 _ _ ?_ a hF
    refine we_seq fun K9 hK9 => ?_
    refine we_true (by kernel_rfl) ?_
    refine we_skip fun a hF => hK9 _ _ ?_ a hF
    refine we_block ?_
    refine we_seq fun K10 hK10 => ?_
    refine we_region [(0, 0), (1, 0)] rfl ?_
    refine ge_batch [0, 1] (ans := []) (vs := [(4, .int .i32 ((Utf8.decode x0 i1).1 : Int)), (17, .int .i32 ((Utf8.decode x0 i1).1 : Int))]) (l := []) (by kernel_rfl) trivial ?_
    refine ge_nil fun a hF => hK10 _ _ ?_ a hF
    refine we_seq fun K11 hK11 => ?_
    refine we_region [(0, 0), (1, 0), (2, 0), (3, 0), (4, 0), (5, 0)] rfl ?_
    refine ge_batch [0, 1, 2] (ans := []) (vs := [(20, .bool (decide (((Utf8.decode x0 i1).1 : Int) < 97))), (19, .bool (decide (((Utf8.decode x0 i1).1 : Int) < 97))), (18, .int .i32 ((Utf8.decode x0 i1).1 : Int))]) (l := []) (by kernel_rfl) trivial ?_
    by_cases hc4 : ((Utf8.decode x0 i1).1 : Int) < 97
    · rw [if_pos hc4] at h
      refine ge_known (t := 20) (b := decide (((Utf8.decode x0 i1).1 : Int) < 97)) (c := true) (by kernel_rfl) (decide_eq_true hc4) ?_
      refine ge_batch [3, 4, 5] (ans := []) (vs := [(23, .bool true), (22, undef), (21, undef)]) (l := []) (by kernel_rfl) trivial ?_
      refine ge_nil fun a hF => hK11 _ _ ?_ a hF
      refine we_true (by kernel_rfl) ?_
      refine we_seq fun K12 hK12 => ?_
      refine we_region [(0, 0)] rfl ?_
      refine ge_batch [0] (ans := []) (vs := [(2, .bool false)]) (l := []) (by kernel_rfl) trivial ?_
      refine ge_nil fun a hF => hK12 _ _ ?_ a hF
      have hS3 := hS2.takeN 0
      obtain rfl := Option.some.inj h
      exact we_ret fun a hF => hQ _ _ _ (Outs.out nofun (Exits.on ⟨rfl, (post_ret (rs := [.tmp 2]) (ans := []) (vs := [.bool false]) (l := []) rfl (by kernel_rfl) trivial ⟨rfl, hS3⟩) a hF⟩))
    · rw [if_neg hc4] at h
      refine ge_known (t := 20) (b := decide (((Utf8.decode x0 i1).1 : Int) < 97)) (c := false) (by kernel_rfl) (decide_eq_false hc4) ?_
      refine ge_batch [3, 4, 5] (ans := []) (vs := [(23, .bool (decide (((Utf8.decode x0 i1).1 : Int) > 122))), (22, .bool (decide (((Utf8.decode x0 i1).1 : Int) > 122))), (21, .int .i32 ((Utf8.decode x0 i1).1 : Int))]) (l := []) (by kernel_rfl) trivial ?_
      refine ge_nil fun a hF => hK11 _ _ ?_ a hF
      by_cases hc5 : ((Utf8.decode x0 i1).1 : Int) > 122
      · rw [if_pos hc5] at h
        refine we_known (t := 23) (b := decide (((Utf8.decode x0 i1).1 : Int) > 122)) (v := true) (by kernel_rfl) (decide_eq_true hc5) ?_
        refine we_true (by kernel_rfl) ?_
        refine we_seq fun K13 hK13 => ?_
        refine we_region [(0, 0)] rfl ?_
        refine ge_batch [0] (ans := []) (vs := [(2, .bool false)]) (l := []) (by kernel_rfl) trivial ?_
        refine ge_nil fun a hF => hK13 _ _ ?_ a hF
        have hS4 := hS2.takeN 0
        obtain rfl := Option.some.inj h
        exact we_ret fun a hF => hQ _ _ _ (Outs.out nofun (Exits.on ⟨rfl, (post_ret (rs := [.tmp 2]) (ans := []) (vs := [.bool false]) (l := []) rfl (by kernel_rfl) trivial ⟨rfl, hS4⟩) a hF⟩))
      · rw [if_neg hc5] at h
        refine we_known (t := 23) (b := decide (((Utf8.decode x0 i1).1 : Int) > 122)) (v := false) (by kernel_rfl) (decide_eq_false hc5) ?_
        refine we_false (by kernel_rfl) ?_
        obtain rfl := Option.some.inj h
        exact we_skip fun a hF => hQ _ _ _ (Outs.again ⟨hS2, hF.weaken ⟨by kernel_rfl, trivial⟩⟩)
  · rw [if_neg hc3] at h
    refine ge_next (m := 0) (d := 15) (b := b1) (x := (.tmp 14)) (ty := 0) (s := x0) (pos := i1) (by kernel_rfl) (by kernel_rfl) hS (fun hp => absurd hp hc3) (fun _ => ?_)
    refine ge_batch [1] (ans := []) (vs := [(16, .bool false)]) (l := []) (by kernel_rfl) trivial ?_
    refine ge_nil fun a hF => hK8 _ _ ?_ a hF
    refine we_seq fun K14 hK14 => ?_
    refine we_false (by kernel_rfl) ?_
    have hS5 := hS.takeN 0
    obtain rfl := Option.some.inj h
    exact we_exit fun a hF => hQ _ _ _ (Outs.out nofun (Exits.here ⟨hS5, hF.weaken trivial⟩))
theorem tasks_isName_ok (K : Nat) (x0 : ByteArray) (w0 : World) (r : Bool) (h : tasks_isName.f K x0 = some r) :
    Calls Tryd.prog 61 #[.string x0] w0 (tasks_isName.Post w0 r) := by
  have hS := St.start w0
  unfold tasks_isName.f at h
  refine calls_enter (n := 24) (args := [.string x0]) (fn := Tryd.f61) rfl rfl rfl rfl ?_
  show WE _ _ _ _ [(0, .string x0)] _
  refine we_seq fun K1 hK1 => ?_
  refine we_region [(0, 0)] rfl ?_
  refine ge_batch [0] (ans := []) (vs := [(2, .bool false)]) (l := []) (by kernel_rfl) trivial ?_
  refine ge_nil fun a hF => hK1 _ _ ?_ a hF
  refine we_seq fun K2 hK2 => ?_
  refine we_seq fun K3 hK3 => ?_
  refine we_region [(0, 0), (1, 0), (2, 0), (3, 0), (4, 0), (5, 0), (6, 0), (7, 0)] rfl ?_
  refine ge_batch [0, 1, 2, 3] (ans := []) (vs := [(8, .bool (decide ((x0.size : Int) < 1))), (7, .bool (decide ((x0.size : Int) < 1))), (6, .int .i64 (x0.size : Int)), (5, .string x0)]) (l := []) (by kernel_rfl) trivial ?_
  by_cases hc1 : (x0.size : Int) < 1
  · rw [if_pos hc1] at h
    refine ge_known (t := 8) (b := decide ((x0.size : Int) < 1)) (c := true) (by kernel_rfl) (decide_eq_true hc1) ?_
    refine ge_batch [4, 5, 6, 7] (ans := []) (vs := [(12, .bool true), (11, undef), (10, undef), (9, undef)]) (l := []) (by kernel_rfl) trivial ?_
    refine ge_nil fun a hF => hK3 _ _ ?_ a hF
    refine we_true (by kernel_rfl) ?_
    refine we_seq fun K4 hK4 => ?_
    refine we_region [(0, 0)] rfl ?_
    refine ge_batch [0] (ans := []) (vs := [(2, .bool false)]) (l := []) (by kernel_rfl) trivial ?_
    refine ge_nil fun a hF => hK4 _ _ ?_ a hF
    obtain rfl := Option.some.inj h
    exact we_ret (post_ret (rs := [.tmp 2]) (ans := []) (vs := [.bool false]) (l := []) rfl (by kernel_rfl) trivial ⟨rfl, hS⟩)
  · rw [if_neg hc1] at h
    refine ge_known (t := 8) (b := decide ((x0.size : Int) < 1)) (c := false) (by kernel_rfl) (decide_eq_false hc1) ?_
    refine ge_batch [4, 5, 6, 7] (ans := []) (vs := [(12, .bool (decide ((x0.size : Int) > 10))), (11, .bool (decide ((x0.size : Int) > 10))), (10, .int .i64 (x0.size : Int)), (9, .string x0)]) (l := []) (by kernel_rfl) trivial ?_
    refine ge_nil fun a hF => hK3 _ _ ?_ a hF
    by_cases hc2 : (x0.size : Int) > 10
    · rw [if_pos hc2] at h
      refine we_known (t := 12) (b := decide ((x0.size : Int) > 10)) (v := true) (by kernel_rfl) (decide_eq_true hc2) ?_
      refine we_true (by kernel_rfl) ?_
      refine we_seq fun K5 hK5 => ?_
      refine we_region [(0, 0)] rfl ?_
      refine ge_batch [0] (ans := []) (vs := [(2, .bool false)]) (l := []) (by kernel_rfl) trivial ?_
      refine ge_nil fun a hF => hK5 _ _ ?_ a hF
      obtain rfl := Option.some.inj h
      exact we_ret (post_ret (rs := [.tmp 2]) (ans := []) (vs := [.bool false]) (l := []) rfl (by kernel_rfl) trivial ⟨rfl, hS⟩)
    · rw [if_neg hc2] at h
      refine we_known (t := 12) (b := decide ((x0.size : Int) > 10)) (v := false) (by kernel_rfl) (decide_eq_false hc2) ?_
      refine we_false (by kernel_rfl) ?_
      refine we_skip fun a hF => hK2 _ _ ?_ a hF
      refine we_seq fun K6 hK6 => ?_
      refine we_seq fun K7 hK7 => ?_
      refine we_region [(0, 0), (1, 1)] rfl ?_
      refine ge_batch [0] (ans := []) (vs := [(13, .string x0)]) (l := []) (by kernel_rfl) trivial ?_
      refine ge_new (d := some 14) (o := .stringIter x0 0) (v := fun b => .pointer (some ⟨b, 0, none⟩)) hS (fun b => by kernel_rfl) fun b1 w1 hx1 hS1 => ?_
      refine ge_nil fun a hF => hK7 _ _ ?_ a hF
      refine we_block ?_
      rcases hq1 : iter (tasks_isName.r0 x0) K 0 with _ | (_ | rr1)
      · rw [hq1] at h; cases h
      · rw [hq1] at h
        simp only [] at h
        refine we_iter (A := tasks_isName.A0 K w0 x0 hc1 hc2 b1) (B := tasks_isName.B0 K w0 x0 hc1 hc2 b1) hq1 (fun a hF => ⟨hS1, hF.weaken ⟨by kernel_rfl, trivial⟩⟩) (fun s o hf a w hA Q hQ => tasks_isName_r0 K w0 x0 hc1 hc2 b1 s o hf a w hA Q hQ) ?_
        rintro _ a w3 _ ⟨rfl, hS6, hF⟩
        replace hS6 : St w0 w3 [] := hS6
        refine hK6 [] w3 ?_ a hF
        refine we_seq fun K15 hK15 => ?_
        refine we_region [(0, 0)] rfl ?_
        refine ge_batch [0] (ans := []) (vs := [(2, .bool true)]) (l := []) (by kernel_rfl) trivial ?_
        refine ge_nil fun a hF => hK15 _ _ ?_ a hF
        obtain rfl := Option.some.inj h
        exact we_ret (post_ret (rs := [.tmp 2]) (ans := []) (vs := [.bool true]) (l := []) rfl (by kernel_rfl) trivial ⟨rfl, hS6⟩)
      · rw [hq1] at h
        simp only [] at h
        refine we_iter (A := tasks_isName.A0 K w0 x0 hc1 hc2 b1) (B := tasks_isName.B0 K w0 x0 hc1 hc2 b1) hq1 (fun a hF => ⟨hS1, hF.weaken ⟨by kernel_rfl, trivial⟩⟩) (fun s o hf a w hA Q hQ => tasks_isName_r0 K w0 x0 hc1 hc2 b1 s o hf a w hA Q hQ) ?_
        rintro _ a w1 _ ⟨rfl, hb⟩
        obtain rfl := Option.some.inj h
        exact hb

/-! punctual/tasks.Check$1 -/
abbrev tasks_Check_1.Post (w0 : World) (r : Bool) (e : Ending) (w : World) : Prop := e = .returned (.bool r) ∧ St w0 w []
def tasks_Check_1.f (x0 : STask) (xf_0 : STask) : Bool :=
  (x0.Name.toList == xf_0.Name.toList)
theorem tasks_Check_1_ok (x0 : STask) (bf_0 : Nat) (xf_0 : STask) (w0 : World) (hBf_0 : Glob w0 bf_0 [.string xf_0.Name, .int .i64 xf_0.C, .int .i64 xf_0.T, .int .i64 xf_0.D, .int .i64 xf_0.J, .int .i64 xf_0.O, .int .i64 xf_0.P]) (r : Bool) (h : tasks_Check_1.f x0 xf_0 = r) :
    Calls Tryd.prog 63 #[.agg #[.string x0.Name, .int .i64 x0.C, .int .i64 x0.T, .int .i64 x0.D, .int .i64 x0.J, .int .i64 x0.O, .int .i64 x0.P], .pointer (some ⟨bf_0, 0, none⟩)] w0 (tasks_Check_1.Post w0 r) := by
  have hS := St.start w0
  unfold tasks_Check_1.f at h
  refine calls_enter (n := 9) (args := [.agg #[.string x0.Name, .int .i64 x0.C, .int .i64 x0.T, .int .i64 x0.D, .int .i64 x0.J, .int .i64 x0.O, .int .i64 x0.P], .pointer (some ⟨bf_0, 0, none⟩)]) (fn := Tryd.f63) rfl rfl rfl rfl ?_
  show WE _ _ _ _ [(0, .agg #[.string x0.Name, .int .i64 x0.C, .int .i64 x0.T, .int .i64 x0.D, .int .i64 x0.J, .int .i64 x0.O, .int .i64 x0.P]), (1, .pointer (some ⟨bf_0, 0, none⟩))] _
  refine we_seq fun K1 hK1 => ?_
  refine we_region [(0, 1), (1, 0)] rfl ?_
  refine ge_new (d := some 2) (o := .cells #[.string x0.Name, .int .i64 x0.C, .int .i64 x0.T, .int .i64 x0.D, .int .i64 x0.J, .int .i64 x0.O, .int .i64 x0.P] 46) (v := fun b => .pointer (some ⟨b, 0, none⟩)) hS (fun b => by kernel_rfl) fun b1 w1 hx1 hS1 => ?_
  refine ge_batch [1] (ans := []) (vs := [(3, .bool false)]) (l := []) (by kernel_rfl) trivial ?_
  refine ge_nil fun a hF => hK1 _ _ ?_ a hF
  refine we_seq fun K2 hK2 => ?_
  refine we_region [(0, 0), (1, 0), (2, 0), (3, 0), (4, 0), (5, 0)] rfl ?_
  refine ge_batch [0, 1, 2, 3, 4, 5] (ans := [.val (.string x0.Name), .val (.string xf_0.Name)]) (vs := [(3, .bool (x0.Name.toList == xf_0.Name.toList)), (8, .bool (x0.Name.toList == xf_0.Name.toList)), (7, .string xf_0.Name), (6, .pointer (some ⟨bf_0, 0, none⟩)), (5, .string x0.Name), (4, .pointer (some ⟨b1, 0, none⟩))]) (l := [.loaded ⟨b1, 0, none⟩ (.string x0.Name), .loaded ⟨bf_0, 0, none⟩ (.string xf_0.Name)]) (by kernel_rfl) ⟨hS1.cell 0 rfl rfl, hS1.glob hBf_0 rfl, trivial⟩ ?_
  refine ge_nil fun a hF => hK2 _ _ ?_ a hF
  have hS2 := hS1.takeN 0
  subst h
  exact we_ret (post_ret (rs := [.tmp 3]) (ans := []) (vs := [.bool (x0.Name.toList == xf_0.Name.toList)]) (l := []) rfl (by kernel_rfl) trivial ⟨rfl, hS2⟩)

/-! slices.IndexFunc[[]punctual/api.Task,punctual/api.Task] -/
abbrev slices_IndexFunc_api_Task_api_Task.Post (w0 : World) (r : Int) (e : Ending) (w : World) : Prop := e = .returned (.int .i64 r) ∧ St w0 w []
def slices_IndexFunc_api_Task_api_Task.r0 (l0 : List STask) (xg1_0 : STask) : Nat → Option (Nat ⊕ (Unit ⊕ Int))
  | i1 =>
    if (i1 : Int) < (l0.length : Int) then
      match l0[i1]? with
      | none => none
      | some e1 =>
        if (tasks_Check_1.f e1 xg1_0) = true then
          some (.inr (.inr (i1 : Int)))
        else
          some (.inl (i1 + 1))
    else
      some (.inr (.inl ()))
def slices_IndexFunc_api_Task_api_Task.f (K : Nat) (l0 : List STask) (xg1_0 : STask) : Option Int :=
  match iter (slices_IndexFunc_api_Task_api_Task.r0 l0 xg1_0) K 0 with
  | none => none
  | some (.inl _) =>
    some (-1)
  | some (.inr rr1) =>
    some rr1
abbrev slices_IndexFunc_api_Task_api_Task.A0 (K : Nat) (w0 : World) (l0 : List STask) (A0 : Option Addr) (c0 : Nat) (bg1_0 : Nat) (xg1_0 : STask) (hR0 : RdL w0 A0 l0) (hL0 : l0.length ≤ c0) (hBg1_0 : Glob w0 bg1_0 [.string xg1_0.Name, .int .i64 xg1_0.C, .int .i64 xg1_0.T, .int .i64 xg1_0.D, .int .i64 xg1_0.J, .int .i64 xg1_0.O, .int .i64 xg1_0.P]) : Nat → Act → World → Prop := fun (s : Nat) a w => St w0 w [] ∧ Frm 19 a [(0, .slice A0 l0.length c0), (1, .func (.func 63) #[] #[.pointer (some ⟨bg1_0, 0, none⟩)]), (7, .int .i64 (l0.length : Int)), (8, .int .i64 (s : Int))]
abbrev slices_IndexFunc_api_Task_api_Task.B0 (K : Nat) (w0 : World) (l0 : List STask) (A0 : Option Addr) (c0 : Nat) (bg1_0 : Nat) (xg1_0 : STask) (hR0 : RdL w0 A0 l0) (hL0 : l0.length ≤ c0) (hBg1_0 : Glob w0 bg1_0 [.string xg1_0.Name, .int .i64 xg1_0.C, .int .i64 xg1_0.T, .int .i64 xg1_0.D, .int .i64 xg1_0.J, .int .i64 xg1_0.O, .int .i64 xg1_0.P]) : (Unit ⊕ Int) → Exit → Act → World → Prop := Exits 0 (fun (s : Unit) a w => St w0 w [] ∧ Frm 19 a []) (Rets Tryd.prog Tryd.f90 (slices_IndexFunc_api_Task_api_Task.Post w0))
theorem slices_IndexFunc_api_Task_api_Task_r0 (K : Nat) (w0 : World) (l0 : List STask) (A0 : Option Addr) (c0 : Nat) (bg1_0 : Nat) (xg1_0 : STask) (hR0 : RdL w0 A0 l0) (hL0 : l0.length ≤ c0) (hBg1_0 : Glob w0 bg1_0 [.string xg1_0.Name, .int .i64 xg1_0.C, .int .i64 xg1_0.T, .int .i64 xg1_0.D, .int .i64 xg1_0.J, .int .i64 xg1_0.O, .int .i64 xg1_0.P]) (s : Nat) (o : Nat ⊕ (Unit ⊕ Int)) (h : slices_IndexFunc_api_Task_api_Task.r0 l0 xg1_0 s = some o) (a : Act) (w : World) (hA : slices_IndexFunc_api_Task_api_Task.A0 K w0 l0 A0 c0 bg1_0 xg1_0 hR0 hL0 hBg1_0 s a w) (Q : Exit → Act → World → Prop) (hQ : ∀ x a w, Outs (slices_IndexFunc_api_Task_api_Task.A0 K w0 l0 A0 c0 bg1_0 xg1_0 hR0 hL0 hBg1_0) (slices_IndexFunc_api_Task_api_Task.B0 K w0 l0 A0 c0 bg1_0 xg1_0 hR0 hL0 hBg1_0) o x a w → Q x a w) : (subF Tryd.f90 [1, 0, 1, 0, 0]).wp Tryd.prog Q a w := by
  obtain ⟨i1, hs⟩ : ∃ z, z = s := ⟨s, rfl⟩
  subst hs
  obtain ⟨hS, hF⟩ := hA
  replace hS : St w0 w [] := hS
  simp only [slices_IndexFunc_api_Task_api_Task.r0] at h
  refine (?_ : WE Tryd.prog 19 (subF Tryd.f90 [1, 0, 1, 0, 0]) Q [(0, .slice A0 l0.length c0), (1, .func (.func 63) #[] #[.pointer (some ⟨bg1_0, 0, none⟩)]), (7, .int .i64 (l0.length : Int)), (8, .int .i64 (i1 : Int))] w) a hF
  clear hF a
  refine we_seq fun K4 hK4 => ?_
  refine we_region [(0, 0)] rfl ?_
  refine ge_batch [0] (ans := []) (vs := [(9, .bool (decide ((i1 : Int) < (l0.length : Int))))]) (l := []) (by kernel_rfl) trivial ?_
  refine ge_nil fun a hF => hK4 _ _ ?_ a hF
  refine we_seq fun K5 hK5 => ?_
  by_cases hc1 : (i1 : Int) < (l0.length : Int)
  · rw [if_pos hc1] at h
    refine we_known (t := 9) (b := decide ((i1 : Int) < (l0.length : Int))) (v := true) (by kernel_rfl) (decide_eq_true hc1) ?_
    refine we_true (by kernel_rfl) ?_
    refine we_skip fun a hF => hK5 _ _ ?_ a hF
    refine we_seq fun K6 hK6 => ?_
    refine we_block ?_
    refine we_seq fun K7 hK7 => ?_
    refine we_region [(0, 0), (1, 0)] rfl ?_
    refine ge_batch [0, 1] (ans := []) (vs := [(5, .int .i64 (i1 : Int)), (10, .int .i64 (i1 : Int))]) (l := []) (by kernel_rfl) trivial ?_
    refine ge_nil fun a hF => hK7 _ _ ?_ a hF
    refine we_seq fun K8 hK8 => ?_
    refine we_region [(0, 0), (1, 0), (2, 0), (3, 0), (4, 0), (5, 1)] rfl ?_
    refine ge_batch [0, 1, 2] (ans := []) (vs := [(13, .int .i64 (i1 : Int)), (12, .slice A0 l0.length c0), (11, .func (.func 63) #[] #[.pointer (some ⟨bg1_0, 0, none⟩)])]) (l := []) (by kernel_rfl) trivial ?_
    rcases hx1 : l0[i1]? with _ | e1
    · rw [hx1] at h; cases h
    rw [hx1] at h
    simp only [] at h
    refine ge_index (d := 14) (ty := 0) (t := 40) (el := 46) (sz := 7) (m := l0.length) (c := c0) (x := (.tmp 12)) (y := (.tmp 13)) (A := A0) (k' := .i64) (j := (i1 : Int)) (jn := i1) (b0 := blkOf A0) (o0 := offOf A0) (by kernel_rfl) (by kernel_rfl) (by kernel_rfl) (by kernel_rfl) (by kernel_rfl) ((hS.rd hR0).eqSome (pos_of_get hx1)) rfl (lt_of_get hx1) ?_
    refine ge_batch [4] (ans := [.val (.string e1.Name), .val (.int .i64 e1.C), .val (.int .i64 e1.T), .val (.int .i64 e1.D), .val (.int .i64 e1.J), .val (.int .i64 e1.O), .val (.int .i64 e1.P)]) (vs := [(15, .agg #[.string e1.Name, .int .i64 e1.C, .int .i64 e1.T, .int .i64 e1.D, .int .i64 e1.J, .int .i64 e1.O, .int .i64 e1.P])]) (l := [.loaded ⟨blkOf A0, offOf A0 + i1 * 7, none⟩ (.string e1.Name), .loaded ⟨blkOf A0, offOf A0 + i1 * 7 + 1, none⟩ (.int .i64 e1.C), .loaded ⟨blkOf A0, offOf A0 + i1 * 7 + 2, none⟩ (.int .i64 e1.T), .loaded ⟨blkOf A0, offOf A0 + i1 * 7 + 3, none⟩ (.int .i64 e1.D), .loaded ⟨blkOf A0, offOf A0 + i1 * 7 + 4, none⟩ (.int .i64 e1.J), .loaded ⟨blkOf A0, offOf A0 + i1 * 7 + 5, none⟩ (.int .i64 e1.O), .loaded ⟨blkOf A0, offOf A0 + i1 * 7 + 6, none⟩ (.int .i64 e1.P)]) (by kernel_rfl) ⟨RdL.cell (j := 0) (hS.rd hR0) hx1 rfl, RdL.cell (j := 1) (hS.rd hR0) hx1 rfl, RdL.cell (j := 2) (hS.rd hR0) hx1 rfl, RdL.cell (j := 3) (hS.rd hR0) hx1 rfl, RdL.cell (j := 4) (hS.rd hR0) hx1 rfl, RdL.cell (j := 5) (hS.rd hR0) hx1 rfl, RdL.cell (j := 6) (hS.rd hR0) hx1 rfl, trivial⟩ ?_
    refine ge_call (d := some 16) (f := 63) (args := #[.agg #[.string e1.Name, .int .i64 e1.C, .int .i64 e1.T, .int .i64 e1.D, .int .i64 e1.J, .int .i64 e1.O, .int .i64 e1.P], .pointer (some ⟨bg1_0, 0, none⟩)]) (by kernel_rfl) (tasks_Check_1_ok e1 bg1_0 xg1_0 _ (Glob.ext hBg1_0 hS.below) _ rfl) ?_
    rintro _ w1 ⟨rfl, hS1⟩
    refine ⟨_, rfl, hS1.below, ?_⟩
    have hS2 := hS.call hS1
    refine ge_nil fun a hF => hK8 _ _ ?_ a hF
    by_cases hc2 : (tasks_Check_1.f e1 xg1_0) = true
    · rw [if_pos hc2] at h
      refine we_known (t := 16) (b := (tasks_Check_1.f e1 xg1_0)) (v := true) (by kernel_rfl) hc2 ?_
      refine we_true (by kernel_rfl) ?_
      refine we_seq fun K9 hK9 => ?_
      refine we_region [(0, 0), (1, 0)] rfl ?_
      refine ge_batch [0, 1] (ans := []) (vs := [(4, .int .i64 (i1 : Int)), (17, .int .i64 (i1 : Int))]) (l := []) (by kernel_rfl) trivial ?_
      refine ge_nil fun a hF => hK9 _ _ ?_ a hF
      obtain rfl := Option.some.inj h
      exact we_ret fun a hF => hQ _ _ _ (Outs.out nofun (Exits.on ⟨rfl, (post_ret (rs := [.tmp 4]) (ans := []) (vs := [.int .i64 (i1 : Int)]) (l := []) rfl (by kernel_rfl) trivial ⟨rfl, hS2⟩) a hF⟩))
    · rw [if_neg hc2] at h
      refine we_known (t := 16) (b := (tasks_Check_1.f e1 xg1_0)) (v := false) (by kernel_rfl) (Bool.eq_false_iff.2 hc2) ?_
      refine we_false (by kernel_rfl) ?_
      refine we_skip fun a hF => hK6 _ _ ?_ a hF
      refine we_region [(0, 0), (1, 0)] rfl ?_
      refine ge_addn (d := 18) (ty := 3) (x := (.tmp 8)) (y := (.const (.int .i64 1))) (t := 3) (t2 := 3) (k := .i64) (m := i1) (by kernel_rfl) (by kernel_rfl) (by kernel_rfl) (by have h0 := hR0.small; omega) ?_
      refine ge_batch [1] (ans := []) (vs := [(8, .int .i64 ((i1 + 1 : Nat) : Int))]) (l := []) (by kernel_rfl) trivial ?_
      obtain rfl := Option.some.inj h
      exact ge_nil fun a hF => hQ _ _ _ (Outs.again ⟨hS2, hF.weaken ⟨by kernel_rfl, by kernel_rfl, by kernel_rfl, by kernel_rfl, trivial⟩⟩)
  · rw [if_neg hc1] at h
    refine we_known (t := 9) (b := decide ((i1 : Int) < (l0.length : Int))) (v := false) (by kernel_rfl) (decide_eq_false hc1) ?_
    refine we_false (by kernel_rfl) ?_
    obtain rfl := Option.some.inj h
    exact we_exit fun a hF => hQ _ _ _ (Outs.out nofun (Exits.here ⟨hS, hF.weaken trivial⟩))
theorem slices_IndexFunc_api_Task_api_Task_ok (K : Nat) (l0 : List STask) (A0 : Option Addr) (c0 : Nat) (bg1_0 : Nat) (xg1_0 : STask) (w0 : World) (hR0 : RdL w0 A0 l0) (hL0 : l0.length ≤ c0) (hBg1_0 : Glob w0 bg1_0 [.string xg1_0.Name, .int .i64 xg1_0.C, .int .i64 xg1_0.T, .int .i64 xg1_0.D, .int .i64 xg1_0.J, .int .i64 xg1_0.O, .int .i64 xg1_0.P]) (r : Int) (h : slices_IndexFunc_api_Task_api_Task.f K l0 xg1_0 = some r) :
    Calls Tryd.prog 90 #[.slice A0 l0.length c0, .func (.func 63) #[] #[.pointer (some ⟨bg1_0, 0, none⟩)]] w0 (slices_IndexFunc_api_Task_api_Task.Post w0 r) := by
  have hS := St.start w0
  unfold slices_IndexFunc_api_Task_api_Task.f at h
  refine calls_enter (n := 19) (args := [.slice A0 l0.length c0, .func (.func 63) #[] #[.pointer (some ⟨bg1_0, 0, none⟩)]]) (fn := Tryd.f90) rfl rfl rfl rfl ?_
  show WE _ _ _ _ [(0, .slice A0 l0.length c0), (1, .func (.func 63) #[] #[.pointer (some ⟨bg1_0, 0, none⟩)])] _
  refine we_seq fun K1 hK1 => ?_
  refine we_region [(0, 0)] rfl ?_
  refine ge_batch [0] (ans := []) (vs := [(4, .int .i64 0)]) (l := []) (by kernel_rfl) trivial ?_
  refine ge_nil fun a hF => hK1 _ _ ?_ a hF
  refine we_seq fun K2 hK2 => ?_
  refine we_seq fun K3 hK3 => ?_
  refine we_region [(0, 0), (1, 0), (2, 0)] rfl ?_
  refine ge_batch [0, 1, 2] (ans := []) (vs := [(8, .int .i64 0), (7, .int .i64 (l0.length : Int)), (6, .slice A0 l0.length c0)]) (l := []) (by kernel_rfl) trivial ?_
  refine ge_nil fun a hF => hK3 _ _ ?_ a hF
  refine we_block ?_
  rcases hq2 : iter (slices_IndexFunc_api_Task_api_Task.r0 l0 xg1_0) K 0 with _ | (_ | rr1)
  · rw [hq2] at h; cases h
  · rw [hq2] at h
    simp only [] at h
    refine we_iter (A := slices_IndexFunc_api_Task_api_Task.A0 K w0 l0 A0 c0 bg1_0 xg1_0 hR0 hL0 hBg1_0) (B := slices_IndexFunc_api_Task_api_Task.B0 K w0 l0 A0 c0 bg1_0 xg1_0 hR0 hL0 hBg1_0) hq2 (fun a hF => ⟨hS, hF.weaken ⟨by kernel_rfl, by kernel_rfl, by kernel_rfl, by kernel_rfl, trivial⟩⟩) (fun s o hf a w hA Q hQ => slices_IndexFunc_api_Task_api_Task_r0 K w0 l0 A0 c0 bg1_0 xg1_0 hR0 hL0 hBg1_0 s o hf a w hA Q hQ) ?_
    rintro _ a w2 _ ⟨rfl, hS3, hF⟩
    replace hS3 : St w0 w2 [] := hS3
    refine hK2 [] w2 ?_ a hF
    refine we_seq fun K10 hK10 => ?_
    refine we_region [(0, 0)] rfl ?_
    refine ge_batch [0] (ans := []) (vs := [(4, .int .i64 (-1))]) (l := []) (by kernel_rfl) trivial ?_
    refine ge_nil fun a hF => hK10 _ _ ?_ a hF
    obtain rfl := Option.some.inj h
    exact we_ret (post_ret (rs := [.tmp 4]) (ans := []) (vs := [.int .i64 (-1)]) (l := []) rfl (by kernel_rfl) trivial ⟨rfl, hS3⟩)
  · rw [hq2] at h
    simp only [] at h
    refine we_iter (A := slices_IndexFunc_api_Task_api_Task.A0 K w0 l0 A0 c0 bg1_0 xg1_0 hR0 hL0 hBg1_0) (B := slices_IndexFunc_api_Task_api_Task.B0 K w0 l0 A0 c0 bg1_0 xg1_0 hR0 hL0 hBg1_0) hq2 (fun a hF => ⟨hS, hF.weaken ⟨by kernel_rfl, by kernel_rfl, by kernel_rfl, by kernel_rfl, trivial⟩⟩) (fun s o hf a w hA Q hQ => slices_IndexFunc_api_Task_api_Task_r0 K w0 l0 A0 c0 bg1_0 xg1_0 hR0 hL0 hBg1_0 s o hf a w hA Q hQ) ?_
    rintro _ a w1 _ ⟨rfl, hb⟩
    obtain rfl := Option.some.inj h
    exact hb

/-! slices.ContainsFunc[[]punctual/api.Task,punctual/api.Task] -/
abbrev slices_ContainsFunc_api_Task_api_Task.Post (w0 : World) (r : Bool) (e : Ending) (w : World) : Prop := e = .returned (.bool r) ∧ St w0 w []
def slices_ContainsFunc_api_Task_api_Task.f (K : Nat) (l0 : List STask) (xg1_0 : STask) : Option Bool :=
  match slices_IndexFunc_api_Task_api_Task.f K l0 xg1_0 with
  | none => none
  | some r1 =>
    some (decide (r1 ≥ 0))
theorem slices_ContainsFunc_api_Task_api_Task_ok (K : Nat) (l0 : List STask) (A0 : Option Addr) (c0 : Nat) (bg1_0 : Nat) (xg1_0 : STask) (w0 : World) (hR0 : RdL w0 A0 l0) (hL0 : l0.length ≤ c0) (hBg1_0 : Glob w0 bg1_0 [.string xg1_0.Name, .int .i64 xg1_0.C, .int .i64 xg1_0.T, .int .i64 xg1_0.D, .int .i64 xg1_0.J, .int .i64 xg1_0.O, .int .i64 xg1_0.P]) (r : Bool) (h : slices_ContainsFunc_api_Task_api_Task.f K l0 xg1_0 = some r) :
    Calls Tryd.prog 62 #[.slice A0 l0.length c0, .func (.func 63) #[] #[.pointer (some ⟨bg1_0, 0, none⟩)]] w0 (slices_ContainsFunc_api_Task_api_Task.Post w0 r) := by
  have hS := St.start w0
  unfold slices_ContainsFunc_api_Task_api_Task.f at h
  refine calls_enter (n := 9) (args := [.slice A0 l0.length c0, .func (.func 63) #[] #[.pointer (some ⟨bg1_0, 0, none⟩)]]) (fn := Tryd.f62) rfl rfl rfl rfl ?_
  show WE _ _ _ _ [(0, .slice A0 l0.length c0), (1, .func (.func 63) #[] #[.pointer (some ⟨bg1_0, 0, none⟩)])] _
  refine we_seq fun K1 hK1 => ?_
  refine we_region [(0, 0)] rfl ?_
  refine ge_batch [0] (ans := []) (vs := [(4, .bool false)]) (l := []) (by kernel_rfl) trivial ?_
  refine ge_nil fun a hF => hK1 _ _ ?_ a hF
  refine we_seq fun K2 hK2 => ?_
  refine we_region [(0, 0), (1, 0), (2, 1), (3, 0), (4, 0)] rfl ?_
  rcases hq1 : slices_IndexFunc_api_Task_api_Task.f K l0 xg1_0 with _ | r1
  · rw [hq1] at h; cases h
  rw [hq1] at h
  simp only [] at h
  refine ge_batch [0, 1] (ans := []) (vs := [(6, .func (.func 63) #[] #[.pointer (some ⟨bg1_0, 0, none⟩)]), (5, .slice A0 l0.length c0)]) (l := []) (by kernel_rfl) trivial ?_
  refine ge_call (d := some 7) (f := 90) (args := #[.slice A0 l0.length c0, .func (.func 63) #[] #[.pointer (some ⟨bg1_0, 0, none⟩)]]) (by kernel_rfl) (slices_IndexFunc_api_Task_api_Task_ok K l0 A0 c0 bg1_0 xg1_0 _ (hS.rd hR0) hL0 (Glob.ext hBg1_0 hS.below) _ hq1) ?_
  rintro _ w1 ⟨rfl, hS1⟩
  refine ⟨_, rfl, hS1.below, ?_⟩
  have hS2 := hS.call hS1
  refine ge_batch [3, 4] (ans := []) (vs := [(4, .bool (decide (r1 ≥ 0))), (8, .bool (decide (r1 ≥ 0)))]) (l := []) (by kernel_rfl) trivial ?_
  refine ge_nil fun a hF => hK2 _ _ ?_ a hF
  obtain rfl := Option.some.inj h
  exact we_ret (post_ret (rs := [.tmp 4]) (ans := []) (vs := [.bool (decide (r1 ≥ 0))]) (l := []) rfl (by kernel_rfl) trivial ⟨rfl, hS2⟩)

/-! punctual/tasks.numbers -/
abbrev tasks_numbers.Post (w0 : World) (r : List Int) (e : Ending) (w : World) : Prop := ∃ (v0 : Value), e = .returned (v0) ∧ St w0 w [Own.of v0 3 r]
def tasks_numbers.f (x0 : STask) : List Int :=
  ([x0.C, x0.T, x0.D, x0.J, x0.O, x0.P] : List Int)
theorem tasks_numbers_ok (x0 : STask) (w0 : World) (r : List Int) (h : tasks_numbers.f x0 = r) :
    Calls Tryd.prog 64 #[.agg #[.string x0.Name, .int .i64 x0.C, .int .i64 x0.T, .int .i64 x0.D, .int .i64 x0.J, .int .i64 x0.O, .int .i64 x0.P]] w0 (tasks_numbers.Post w0 r) := by
  have hS := St.start w0
  unfold tasks_numbers.f at h
  refine calls_enter (n := 16) (args := [.agg #[.string x0.Name, .int .i64 x0.C, .int .i64 x0.T, .int .i64 x0.D, .int .i64 x0.J, .int .i64 x0.O, .int .i64 x0.P]]) (fn := Tryd.f64) rfl rfl rfl rfl ?_
  show WE _ _ _ _ [(0, .agg #[.string x0.Name, .int .i64 x0.C, .int .i64 x0.T, .int .i64 x0.D, .int .i64 x0.J, .int .i64 x0.O, .int .i64 x0.P])] _
  refine we_seq fun K1 hK1 => ?_
  refine we_region [(0, 1), (1, 0)] rfl ?_
  refine ge_new (d := some 1) (o := .cells #[.string x0.Name, .int .i64 x0.C, .int .i64 x0.T, .int .i64 x0.D, .int .i64 x0.J, .int .i64 x0.O, .int .i64 x0.P] 46) (v := fun b => .pointer (some ⟨b, 0, none⟩)) hS (fun b => by kernel_rfl) fun b1 w1 hx1 hS1 => ?_
  refine ge_batch [1] (ans := []) (vs := [(2, .slice none 0 0)]) (l := []) (by kernel_rfl) trivial ?_
  refine ge_nil fun a hF => hK1 _ _ ?_ a hF
  refine we_seq fun K2 hK2 => ?_
  refine we_region [(0, 0), (1, 0), (2, 0), (3, 0), (4, 0), (5, 0), (6, 0), (7, 0), (8, 0), (9, 0), (10, 0), (11, 0), (12, 1), (13, 0)] rfl ?_
  refine ge_batch [0, 1, 2, 3, 4, 5, 6, 7, 8, 9, 10, 11] (ans := [.val (.int .i64 x0.C), .val (.int .i64 x0.T), .val (.int .i64 x0.D), .val (.int .i64 x0.J), .val (.int .i64 x0.O), .val (.int .i64 x0.P)]) (vs := [(14, .int .i64 x0.P), (13, .pointer (some ⟨b1, 6, none⟩)), (12, .int .i64 x0.O), (11, .pointer (some ⟨b1, 5, none⟩)), (10, .int .i64 x0.J), (9, .pointer (some ⟨b1, 4, none⟩)), (8, .int .i64 x0.D), (7, .pointer (some ⟨b1, 3, none⟩)), (6, .int .i64 x0.T), (5, .pointer (some ⟨b1, 2, none⟩)), (4, .int .i64 x0.C), (3, .pointer (some ⟨b1, 1, none⟩))]) (l := [.loaded ⟨b1, 1, none⟩ (.int .i64 x0.C), .loaded ⟨b1, 2, none⟩ (.int .i64 x0.T), .loaded ⟨b1, 3, none⟩ (.int .i64 x0.D), .loaded ⟨b1, 4, none⟩ (.int .i64 x0.J), .loaded ⟨b1, 5, none⟩ (.int .i64 x0.O), .loaded ⟨b1, 6, none⟩ (.int .i64 x0.P)]) (by kernel_rfl) ⟨hS1.cell 0 rfl rfl, hS1.cell 0 rfl rfl, hS1.cell 0 rfl rfl, hS1.cell 0 rfl rfl, hS1.cell 0 rfl rfl, hS1.cell 0 rfl rfl, trivial⟩ ?_
  refine ge_new (d := some 15) (o := .cells #[.int .i64 x0.C, .int .i64 x0.T, .int .i64 x0.D, .int .i64 x0.J, .int .i64 x0.O, .int .i64 x0.P] 3) (v := fun b => .slice (some ⟨b, 0, none⟩) 6 6) hS1 (fun b => by kernel_rfl) fun b2 w2 hx2 hS2 => ?_
  refine ge_batch [13] (ans := []) (vs := [(2, .slice (some ⟨b2, 0, none⟩) 6 6)]) (l := []) (by kernel_rfl) trivial ?_
  refine ge_nil fun a hF => hK2 _ _ ?_ a hF
  have hS3 := hS2.asRow (α := Int) (c := 6) ([x0.C, x0.T, x0.D, x0.J, x0.O, x0.P] : List Int) (Nat.le_refl _) (by decide) rfl rfl
  have hS4 := hS3.takeN 1
  subst h
  exact we_ret (post_ret (rs := [.tmp 2]) (ans := []) (vs := [(.slice (some ⟨b2, 0, none⟩) 6 6)]) (l := []) rfl (by kernel_rfl) trivial ⟨(.slice (some ⟨b2, 0, none⟩) 6 6), rfl, hS4⟩)

/-! punctual/tasks.bounds -/
abbrev tasks_bounds.Post (w0 : World) (r : Int × Int) (e : Ending) (w : World) : Prop := e = .returned (.tuple #[.int .i64 r.1, .int .i64 r.2]) ∧ St w0 w []
def tasks_bounds.f (x0 : Int) : Int × Int :=
  if x0 = 0 then
    (1, 10000)
  else
    if x0 = 1 then
      (1, 10000)
    else
      if x0 = 2 then
        (1, 10000)
      else
        if x0 = 5 then
          (0, 1000)
        else
          (0, 10000)
theorem tasks_bounds_ok (x0 : Int) (w0 : World) (r : Int × Int) (h : tasks_bounds.f x0 = r) :
    Calls Tryd.prog 65 #[.int .i64 x0] w0 (tasks_bounds.Post w0 r) := by
  have hS := St.start w0
  unfold tasks_bounds.f at h
  refine calls_enter (n := 11) (args := [.int .i64 x0]) (fn := Tryd.f65) rfl rfl rfl rfl ?_
  show WE _ _ _ _ [(0, .int .i64 x0)] _
  refine we_seq fun K1 hK1 => ?_
  refine we_region [(0, 0), (1, 0)] rfl ?_
  refine ge_batch [0, 1] (ans := []) (vs := [(3, .int .i64 0), (2, .int .i64 0)]) (l := []) (by kernel_rfl) trivial ?_
  refine ge_nil fun a hF => hK1 _ _ ?_ a hF
  refine we_seq fun K2 hK2 => ?_
  refine we_seq fun K3 hK3 => ?_
  refine we_region [(0, 0)] rfl ?_
  refine ge_batch [0] (ans := []) (vs := [(4, .int .i64 x0)]) (l := []) (by kernel_rfl) trivial ?_
  refine ge_nil fun a hF => hK3 _ _ ?_ a hF
  refine we_block ?_
  refine we_seq fun K4 hK4 => ?_
  refine we_seq fun K5 hK5 => ?_
  refine we_region [(0, 0), (1, 0)] rfl ?_
  refine ge_batch [0, 1] (ans := []) (vs := [(5, .bool (x0 == 0)), (6, .bool (x0 == 0))]) (l := []) (by kernel_rfl) trivial ?_
  refine ge_nil fun a hF => hK5 _ _ ?_ a hF
  by_cases hc1 : x0 = 0
  · rw [if_pos hc1] at h
    refine we_known (t := 5) (b := (x0 == 0)) (v := true) (by kernel_rfl) (beq_iff_eq.2 hc1) ?_
    refine we_true (by kernel_rfl) ?_
    refine we_skip fun a hF => hK4 _ _ ?_ a hF
    refine we_true (by kernel_rfl) ?_
    refine we_seq fun K6 hK6 => ?_
    refine we_region [(0, 0), (1, 0)] rfl ?_
    refine ge_batch [0, 1] (ans := []) (vs := [(3, .int .i64 10000), (2, .int .i64 1)]) (l := []) (by kernel_rfl) trivial ?_
    refine ge_nil fun a hF => hK6 _ _ ?_ a hF
    subst h
    exact we_ret (post_ret (rs := [.tmp 2, .tmp 3]) (ans := []) (vs := [.int .i64 1, .int .i64 10000]) (l := []) rfl (by kernel_rfl) trivial ⟨rfl, hS⟩)
  · rw [if_neg hc1] at h
    refine we_known (t := 5) (b := (x0 == 0)) (v := false) (by kernel_rfl) (beq_eq_false_iff_ne.2 hc1) ?_
    refine we_false (by kernel_rfl) ?_
    refine we_seq fun K7 hK7 => ?_
    refine we_region [(0, 0), (1, 0)] rfl ?_
    refine ge_batch [0, 1] (ans := []) (vs := [(5, .bool (x0 == 1)), (7, .bool (x0 == 1))]) (l := []) (by kernel_rfl) trivial ?_
    refine ge_nil fun a hF => hK7 _ _ ?_ a hF
    by_cases hc2 : x0 = 1
    · rw [if_pos hc2] at h
      refine we_known (t := 5) (b := (x0 == 1)) (v := true) (by kernel_rfl) (beq_iff_eq.2 hc2) ?_
      refine we_true (by kernel_rfl) ?_
      refine we_skip fun a hF => hK4 _ _ ?_ a hF
      refine we_true (by kernel_rfl) ?_
      refine we_seq fun K8 hK8 => ?_
      refine we_region [(0, 0), (1, 0)] rfl ?_
      refine ge_batch [0, 1] (ans := []) (vs := [(3, .int .i64 10000), (2, .int .i64 1)]) (l := []) (by kernel_rfl) trivial ?_
      refine ge_nil fun a hF => hK8 _ _ ?_ a hF
      subst h
      exact we_ret (post_ret (rs := [.tmp 2, .tmp 3]) (ans := []) (vs := [.int .i64 1, .int .i64 10000]) (l := []) rfl (by kernel_rfl) trivial ⟨rfl, hS⟩)
    · rw [if_neg hc2] at h
      refine we_known (t := 5) (b := (x0 == 1)) (v := false) (by kernel_rfl) (beq_eq_false_iff_ne.2 hc2) ?_
      refine we_false (by kernel_rfl) ?_
      refine we_region [(0, 0), (1, 0)] rfl ?_
      refine ge_batch [0, 1] (ans := []) (vs := [(5, .bool (x0 == 2)), (8, .bool (x0 == 2))]) (l := []) (by kernel_rfl) trivial ?_
      refine ge_nil fun a hF => hK4 _ _ ?_ a hF
      by_cases hc3 : x0 = 2
      · rw [if_pos hc3] at h
        refine we_known (t := 5) (b := (x0 == 2)) (v := true) (by kernel_rfl) (beq_iff_eq.2 hc3) ?_
        refine we_true (by kernel_rfl) ?_
        refine we_seq fun K9 hK9 => ?_
        refine we_region [(0, 0), (1, 0)] rfl ?_
        refine ge_batch [0, 1] (ans := []) (vs := [(3, .int .i64 10000), (2, .int .i64 1)]) (l := []) (by kernel_rfl) trivial ?_
        refine ge_nil fun a hF => hK9 _ _ ?_ a hF
        subst h
        exact we_ret (post_ret (rs := [.tmp 2, .tmp 3]) (ans := []) (vs := [.int .i64 1, .int .i64 10000]) (l := []) rfl (by kernel_rfl) trivial ⟨rfl, hS⟩)
      · rw [if_neg hc3] at h
        refine we_known (t := 5) (b := (x0 == 2)) (v := false) (by kernel_rfl) (beq_eq_false_iff_ne.2 hc3) ?_
        refine we_false (by kernel_rfl) ?_
        refine we_seq fun K10 hK10 => ?_
        refine we_region [(0, 0), (1, 0)] rfl ?_
        refine ge_batch [0, 1] (ans := []) (vs := [(9, .bool (x0 == 5)), (10, .bool (x0 == 5))]) (l := []) (by kernel_rfl) trivial ?_
        refine ge_nil fun a hF => hK10 _ _ ?_ a hF
        by_cases hc4 : x0 = 5
        · rw [if_pos hc4] at h
          refine we_known (t := 9) (b := (x0 == 5)) (v := true) (by kernel_rfl) (beq_iff_eq.2 hc4) ?_
          refine we_true (by kernel_rfl) ?_
          refine we_seq fun K11 hK11 => ?_
          refine we_region [(0, 0), (1, 0)] rfl ?_
          refine ge_batch [0, 1] (ans := []) (vs := [(3, .int .i64 1000), (2, .int .i64 0)]) (l := []) (by kernel_rfl) trivial ?_
          refine ge_nil fun a hF => hK11 _ _ ?_ a hF
          subst h
          exact we_ret (post_ret (rs := [.tmp 2, .tmp 3]) (ans := []) (vs := [.int .i64 0, .int .i64 1000]) (l := []) rfl (by kernel_rfl) trivial ⟨rfl, hS⟩)
        · rw [if_neg hc4] at h
          refine we_known (t := 9) (b := (x0 == 5)) (v := false) (by kernel_rfl) (beq_eq_false_iff_ne.2 hc4) ?_
          refine we_false (by kernel_rfl) ?_
          refine we_skip fun a hF => hK2 _ _ ?_ a hF
          refine we_seq fun K12 hK12 => ?_
          refine we_region [(0, 0), (1, 0)] rfl ?_
          refine ge_batch [0, 1] (ans := []) (vs := [(3, .int .i64 10000), (2, .int .i64 0)]) (l := []) (by kernel_rfl) trivial ?_
          refine ge_nil fun a hF => hK12 _ _ ?_ a hF
          subst h
          exact we_ret (post_ret (rs := [.tmp 2, .tmp 3]) (ans := []) (vs := [.int .i64 0, .int .i64 10000]) (l := []) rfl (by kernel_rfl) trivial ⟨rfl, hS⟩)

structure SFault where
  Code : Int
  At : Int
def SFault.eqb (x y : SFault) : Bool := ((x.Code == y.Code) && ((x.At == y.At) && true))
instance : Ok SFault := ⟨fun x => Ok.ok x.Code ∧ Ok.ok x.At ∧ True⟩
instance : Flat SFault := ⟨2, fun x => [.int .i64 x.Code, .int .i64 x.At], fun _ => rfl, fun _ => rfl, by decide⟩

/-! punctual/tasks.Check -/
abbrev tasks_Check.Post (w0 : World) (r : SFault) (e : Ending) (w : World) : Prop := e = .returned (.agg #[.int .i64 r.Code, .int .i64 r.At]) ∧ St w0 w []
def tasks_Check.p0 (l0 : List STask) : Option (Unit ⊕ SFault) :=
    if (l0.length : Int) < 1 then
      some (.inr (⟨2, 0⟩ : SFault))
    else
      if (l0.length : Int) > 8 then
        some (.inr (⟨2, 0⟩ : SFault))
      else
        some (.inl ())
def tasks_Check.r2 (i1 : Nat) (e1 : STask) : Nat → Option (Nat ⊕ (Unit ⊕ SFault))
  | i2 =>
    if (i2 : Int) < ((tasks_numbers.f e1).length : Int) then
      match (tasks_numbers.f e1)[i2]? with
      | none => none
      | some e2 =>
        if e2 < ((tasks_bounds.f (i2 : Int)).1) then
          some (.inr (.inr (⟨3, (i1 : Int)⟩ : SFault)))
        else
          if e2 > ((tasks_bounds.f (i2 : Int)).2) then
            some (.inr (.inr (⟨3, (i1 : Int)⟩ : SFault)))
          else
            some (.inl (i2 + 1))
    else
      some (.inr (.inl ()))
def tasks_Check.r1 (K : Nat) (l0 : List STask) : Nat → Option (Nat ⊕ (Unit ⊕ SFault))
  | i1 =>
    if (i1 : Int) < (l0.length : Int) then
      match l0[i1]? with
      | none => none
      | some e1 =>
        match tasks_isName.f K e1.Name with
        | none => none
        | some r1 =>
          if r1 = true then
            if i1 ≤ l0.length then
              match slices_ContainsFunc_api_Task_api_Task.f K ((l0.take i1).drop 0) e1 with
              | none => none
              | some r2 =>
                if r2 = true then
                  some (.inr (.inr (⟨5, (i1 : Int)⟩ : SFault)))
                else
                  match iter (tasks_Check.r2 i1 e1) K 0 with
                  | none => none
                  | some (.inl _) =>
                    if e1.C > e1.D then
                      some (.inr (.inr (⟨12, (i1 : Int)⟩ : SFault)))
                    else
                      some (.inl (i1 + 1))
                  | some (.inr rr1) =>
                    some (.inr (.inr rr1))
            else
              none
          else
            some (.inr (.inr (⟨4, (i1 : Int)⟩ : SFault)))
    else
      some (.inr (.inl ()))
def tasks_Check.f (K : Nat) (l0 : List STask) : Option SFault :=
  match tasks_Check.p0 l0 with
  | none => none
  | some (.inl _) =>
    match iter (tasks_Check.r1 K l0) K 0 with
    | none => none
    | some (.inl _) =>
      some (⟨0, 0⟩ : SFault)
    | some (.inr rr2) =>
      some rr2
  | some (.inr rr3) =>
    some rr3
abbrev tasks_Check.A0 (K : Nat) (w0 : World) (l0 : List STask) (A0 : Option Addr) (c0 : Nat) (hR0 : RdL w0 A0 l0) (hL0 : l0.length ≤ c0) (b1 : Nat) : Unit → Act → World → Prop := fun (s : Unit) a w => St w0 w [Own.blk b1 (.cells #[.int .i64 0, .int .i64 0] 26 (0, 0))] ∧ Frm 71 a [(0, .slice A0 l0.length c0), (2, .pointer (some ⟨b1, 0, none⟩))]
abbrev tasks_Check.B0 (K : Nat) (w0 : World) (l0 : List STask) (A0 : Option Addr) (c0 : Nat) (hR0 : RdL w0 A0 l0) (hL0 : l0.length ≤ c0) (b1 : Nat) : SFault → Exit → Act → World → Prop := Rets Tryd.prog Tryd.f19 (tasks_Check.Post w0)
theorem tasks_Check_p0 (K : Nat) (w0 : World) (l0 : List STask) (A0 : Option Addr) (c0 : Nat) (hR0 : RdL w0 A0 l0) (hL0 : l0.length ≤ c0) (b1 : Nat) (o : Unit ⊕ SFault) (h : tasks_Check.p0 l0 = some o) (w : World) (hS : St w0 w [Own.blk b1 (.cells #[.int .i64 0, .int .i64 0] 26 (0, 0))]) (Q : Exit → Act → World → Prop) (hQ : ∀ x a w, Outs (tasks_Check.A0 K w0 l0 A0 c0 hR0 hL0 b1) (tasks_Check.B0 K w0 l0 A0 c0 hR0 hL0 b1) o x a w → Q x a w) : WE Tryd.prog 71 (subF Tryd.f19 [1, 0]) Q [(0, .slice A0 l0.length c0), (2, .pointer (some ⟨b1, 0, none⟩))] w := by
  simp only [tasks_Check.p0] at h
  refine we_seq fun K3 hK3 => ?_
  refine we_region [(0, 0), (1, 0), (2, 0), (3, 0), (4, 0), (5, 0), (6, 0), (7, 0)] rfl ?_
  refine ge_batch [0, 1, 2, 3] (ans := []) (vs := [(12, .bool (decide ((l0.length : Int) < 1))), (11, .bool (decide ((l0.length : Int) < 1))), (10, .int .i64 (l0.length : Int)), (9, .slice A0 l0.length c0)]) (l := []) (by kernel_rfl) trivial ?_
  by_cases hc1 : (l0.length : Int) < 1
  · rw [if_pos hc1] at h
    refine ge_known (t := 12) (b := decide ((l0.length : Int) < 1)) (c := true) (by kernel_rfl) (decide_eq_true hc1) ?_
    refine ge_batch [4, 5, 6, 7] (ans := []) (vs := [(16, .bool true), (15, undef), (14, undef), (13, undef)]) (l := []) (by kernel_rfl) trivial ?_
    refine ge_nil fun a hF => hK3 _ _ ?_ a hF
    refine we_true (by kernel_rfl) ?_
    refine we_seq fun K4 hK4 => ?_
    refine we_region [(0, 0), (1, 2)] rfl ?_
    refine ge_batch [0] (ans := []) (vs := [(17, .agg #[.int .i64 2, .int .i64 0])]) (l := []) (by kernel_rfl) trivial ?_
    refine ge_set (b := b1) (j := 0) (cs := #[.int .i64 0, .int .i64 0]) (t := 26) (vs := [.int .i64 2, .int .i64 0]) hS (by kernel_rfl) rfl rfl fun w2 hS2 => ?_
    have hS3 : St w0 w2 [Own.blk b1 (.cells #[.int .i64 2, .int .i64 0] 26 (0, 0))] := hS2
    refine ge_nil fun a hF => hK4 _ _ ?_ a hF
    have hS4 := hS3.takeN 0
    obtain rfl := Option.some.inj h
    exact we_ret fun a hF => hQ _ _ _ (Outs.out nofun ⟨rfl, (post_ret (rs := [.cell 2 26]) (ans := [.val (.int .i64 2), .val (.int .i64 0)]) (vs := [.agg #[.int .i64 2, .int .i64 0]]) (l := [.loaded ⟨b1, 0, none⟩ (.int .i64 2), .loaded ⟨b1, 1, none⟩ (.int .i64 0)]) rfl (by kernel_rfl) ⟨hS3.cell 0 rfl rfl, hS3.cell 0 rfl rfl, trivial⟩ ⟨rfl, hS4⟩) a hF⟩)
  · rw [if_neg hc1] at h
    refine ge_known (t := 12) (b := decide ((l0.length : Int) < 1)) (c := false) (by kernel_rfl) (decide_eq_false hc1) ?_
    refine ge_batch [4, 5, 6, 7] (ans := []) (vs := [(16, .bool (decide ((l0.length : Int) > 8))), (15, .bool (decide ((l0.length : Int) > 8))), (14, .int .i64 (l0.length : Int)), (13, .slice A0 l0.length c0)]) (l := []) (by kernel_rfl) trivial ?_
    refine ge_nil fun a hF => hK3 _ _ ?_ a hF
    by_cases hc2 : (l0.length : Int) > 8
    · rw [if_pos hc2] at h
      refine we_known (t := 16) (b := decide ((l0.length : Int) > 8)) (v := true) (by kernel_rfl) (decide_eq_true hc2) ?_
      refine we_true (by kernel_rfl) ?_
      refine we_seq fun K5 hK5 => ?_
      refine we_region [(0, 0), (1, 2)] rfl ?_
      refine ge_batch [0] (ans := []) (vs := [(17, .agg #[.int .i64 2, .int .i64 0])]) (l := []) (by kernel_rfl) trivial ?_
      refine ge_set (b := b1) (j := 0) (cs := #[.int .i64 0, .int .i64 0]) (t := 26) (vs := [.int .i64 2, .int .i64 0]) hS (by kernel_rfl) rfl rfl fun w3 hS5 => ?_
      have hS6 : St w0 w3 [Own.blk b1 (.cells #[.int .i64 2, .int .i64 0] 26 (0, 0))] := hS5
      refine ge_nil fun a hF => hK5 _ _ ?_ a hF
      have hS7 := hS6.takeN 0
      obtain rfl := Option.some.inj h
      exact we_ret fun a hF => hQ _ _ _ (Outs.out nofun ⟨rfl, (post_ret (rs := [.cell 2 26]) (ans := [.val (.int .i64 2), .val (.int .i64 0)]) (vs := [.agg #[.int .i64 2, .int .i64 0]]) (l := [.loaded ⟨b1, 0, none⟩ (.int .i64 2), .loaded ⟨b1, 1, none⟩ (.int .i64 0)]) rfl (by kernel_rfl) ⟨hS6.cell 0 rfl rfl, hS6.cell 0 rfl rfl, trivial⟩ ⟨rfl, hS7⟩) a hF⟩)
    · rw [if_neg hc2] at h
      refine we_known (t := 16) (b := decide ((l0.length : Int) > 8)) (v := false) (by kernel_rfl) (decide_eq_false hc2) ?_
      refine we_false (by kernel_rfl) ?_
      obtain rfl := Option.some.inj h
      exact we_skip fun a hF => hQ _ _ _ (Outs.again ⟨hS, hF.weaken ⟨by kernel_rfl, by kernel_rfl, trivial⟩⟩)
abbrev tasks_Check.A2 (K : Nat) (w0 : World) (l0 : List STask) (A0 : Option Addr) (c0 : Nat) (hR0 : RdL w0 A0 l0) (hL0 : l0.length ≤ c0) (b1 : Nat) (i1 : Nat) (hc3 : (i1 : Int) < (l0.length : Int)) (e1 : STask) (hx2 : l0[i1]? = some e1) (b2 : Nat) (r1 : Bool) (hc4 : r1 = true) (hc5 : i1 ≤ l0.length) (r2 : Bool) (hc6 : ¬ (r2 = true)) (Z1 : Option Addr) (cz1 : Nat) : Nat → Act → World → Prop := fun (s : Nat) a w => St w0 w [Own.blk b2 (.cells #[.string e1.Name, .int .i64 e1.C, .int .i64 e1.T, .int .i64 e1.D, .int .i64 e1.J, .int .i64 e1.O, .int .i64 e1.P] 46 (0, 0)), Own.blk b1 (.cells #[.int .i64 0, .int .i64 0] 26 (0, 0)), Own.of (.slice Z1 (tasks_numbers.f e1).length cz1) 3 (tasks_numbers.f e1)] ∧ Frm 71 a [(0, .slice A0 l0.length c0), (2, .pointer (some ⟨b1, 0, none⟩)), (3, .int .i64 (i1 : Int)), (4, .pointer (some ⟨b2, 0, none⟩)), (18, .slice A0 l0.length c0), (19, .int .i64 (l0.length : Int)), (20, .int .i64 (i1 : Int)), (39, (.slice Z1 (tasks_numbers.f e1).length cz1)), (40, .int .i64 ((tasks_numbers.f e1).length : Int)), (41, .int .i64 (s : Int))]
abbrev tasks_Check.B2 (K : Nat) (w0 : World) (l0 : List STask) (A0 : Option Addr) (c0 : Nat) (hR0 : RdL w0 A0 l0) (hL0 : l0.length ≤ c0) (b1 : Nat) (i1 : Nat) (hc3 : (i1 : Int) < (l0.length : Int)) (e1 : STask) (hx2 : l0[i1]? = some e1) (b2 : Nat) (r1 : Bool) (hc4 : r1 = true) (hc5 : i1 ≤ l0.length) (r2 : Bool) (hc6 : ¬ (r2 = true)) (Z1 : Option Addr) (cz1 : Nat) : (Unit ⊕ SFault) → Exit → Act → World → Prop := Exits 2 (fun (s : Unit) a w => St w0 w [Own.blk b2 (.cells #[.string e1.Name, .int .i64 e1.C, .int .i64 e1.T, .int .i64 e1.D, .int .i64 e1.J, .int .i64 e1.O, .int .i64 e1.P] 46 (0, 0)), Own.blk b1 (.cells #[.int .i64 0, .int .i64 0] 26 (0, 0))] ∧ Frm 71 a [(0, .slice A0 l0.length c0), (2, .pointer (some ⟨b1, 0, none⟩)), (3, .int .i64 (i1 : Int)), (4, .pointer (some ⟨b2, 0, none⟩)), (18, .slice A0 l0.length c0), (19, .int .i64 (l0.length : Int)), (20, .int .i64 (i1 : Int))]) (Rets Tryd.prog Tryd.f19 (tasks_Check.Post w0))
theorem tasks_Check_r2 (K : Nat) (w0 : World) (l0 : List STask) (A0 : Option Addr) (c0 : Nat) (hR0 : RdL w0 A0 l0) (hL0 : l0.length ≤ c0) (b1 : Nat) (i1 : Nat) (hc3 : (i1 : Int) < (l0.length : Int)) (e1 : STask) (hx2 : l0[i1]? = some e1) (b2 : Nat) (r1 : Bool) (hc4 : r1 = true) (hc5 : i1 ≤ l0.length) (r2 : Bool) (hc6 : ¬ (r2 = true)) (Z1 : Option Addr) (cz1 : Nat) (s : Nat) (o : Nat ⊕ (Unit ⊕ SFault)) (h : tasks_Check.r2 i1 e1 s = some o) (a : Act) (w : World) (hA : tasks_Check.A2 K w0 l0 A0 c0 hR0 hL0 b1 i1 hc3 e1 hx2 b2 r1 hc4 hc5 r2 hc6 Z1 cz1 s a w) (Q : Exit → Act → World → Prop) (hQ : ∀ x a w, Outs (tasks_Check.A2 K w0 l0 A0 c0 hR0 hL0 b1 i1 hc3 e1 hx2 b2 r1 hc4 hc5 r2 hc6 Z1 cz1) (tasks_Check.B2 K w0 l0 A0 c0 hR0 hL0 b1 i1 hc3 e1 hx2 b2 r1 hc4 hc5 r2 hc6 Z1 cz1) o x a w → Q x a w) : (subF Tryd.f19 [1, 1, 0, 1, 0, 0, 1, 1, 0, 0, 1, 1, 1, 0, 1, 0, 0]).wp Tryd.prog Q a w := by
  obtain ⟨i2, hs⟩ : ∃ z, z = s := ⟨s, rfl⟩
  subst hs
  obtain ⟨hS, hF⟩ := hA
  replace hS : St w0 w [Own.blk b2 (.cells #[.string e1.Name, .int .i64 e1.C, .int .i64 e1.T, .int .i64 e1.D, .int .i64 e1.J, .int .i64 e1.O, .int .i64 e1.P] 46 (0, 0)), Own.blk b1 (.cells #[.int .i64 0, .int .i64 0] 26 (0, 0)), Own.of (.slice Z1 (tasks_numbers.f e1).length cz1) 3 (tasks_numbers.f e1)] := hS
  simp only [tasks_Check.r2] at h
  refine (?_ : WE Tryd.prog 71 (subF Tryd.f19 [1, 1, 0, 1, 0, 0, 1, 1, 0, 0, 1, 1, 1, 0, 1, 0, 0]) Q [(0, .slice A0 l0.length c0), (2, .pointer (some ⟨b1, 0, none⟩)), (3, .int .i64 (i1 : Int)), (4, .pointer (some ⟨b2, 0, none⟩)), (18, .slice A0 l0.length c0), (19, .int .i64 (l0.length : Int)), (20, .int .i64 (i1 : Int)), (39, (.slice Z1 (tasks_numbers.f e1).length cz1)), (40, .int .i64 ((tasks_numbers.f e1).length : Int)), (41, .int .i64 (i2 : Int))] w) a hF
  clear hF a
  refine we_seq fun K19 hK19 => ?_
  refine we_region [(0, 0)] rfl ?_
  refine ge_batch [0] (ans := []) (vs := [(42, .bool (decide ((i2 : Int) < ((tasks_numbers.f e1).length : Int))))]) (l := []) (by kernel_rfl) trivial ?_
  refine ge_nil fun a hF => hK19 _ _ ?_ a hF
  refine we_seq fun K20 hK20 => ?_
  by_cases hc7 : (i2 : Int) < ((tasks_numbers.f e1).length : Int)
  · rw [if_pos hc7] at h
    refine we_known (t := 42) (b := decide ((i2 : Int) < ((tasks_numbers.f e1).length : Int))) (v := true) (by kernel_rfl) (decide_eq_true hc7) ?_
    refine we_true (by kernel_rfl) ?_
    refine we_skip fun a hF => hK20 _ _ ?_ a hF
    refine we_seq fun K21 hK21 => ?_
    refine we_block ?_
    refine we_seq fun K22 hK22 => ?_
    refine we_region [(0, 0), (1, 0), (2, 0), (3, 0), (4, 0)] rfl ?_
    refine ge_batch [0] (ans := []) (vs := [(43, .int .i64 (i2 : Int))]) (l := []) (by kernel_rfl) trivial ?_
    rcases hx4 : (tasks_numbers.f e1)[i2]? with _ | e2
    · rw [hx4] at h; cases h
    rw [hx4] at h
    simp only [] at h
    refine ge_index (d := 44) (ty := 0) (t := 23) (el := 3) (sz := 1) (m := (tasks_numbers.f e1).length) (c := cz1) (x := (.tmp 39)) (y := (.tmp 41)) (A := Z1) (k' := .i64) (j := (i2 : Int)) (jn := i2) (b0 := blkOf Z1) (o0 := offOf Z1) (by kernel_rfl) (by kernel_rfl) (by kernel_rfl) (by kernel_rfl) (by kernel_rfl) ((hS.rdAt 2 rfl).eqSome (pos_of_get hx4)) rfl (lt_of_get hx4) ?_
    refine ge_batch [2, 3, 4] (ans := [.val (.int .i64 e2)]) (vs := [(6, .int .i64 e2), (5, .int .i64 (i2 : Int)), (45, .int .i64 e2)]) (l := [.loaded ⟨blkOf Z1, offOf Z1 + i2 * 1, none⟩ (.int .i64 e2)]) (by kernel_rfl) ⟨RdL.cell (j := 0) (hS.rdAt 2 rfl) hx4 rfl, trivial⟩ ?_
    refine ge_nil fun a hF => hK22 _ _ ?_ a hF
    refine we_seq fun K23 hK23 => ?_
    refine we_region [(0, 0), (1, 1), (2, 0), (3, 0), (4, 0), (5, 0), (6, 0)] rfl ?_
    refine ge_batch [0] (ans := []) (vs := [(47, .int .i64 (i2 : Int))]) (l := []) (by kernel_rfl) trivial ?_
    refine ge_call (d := some 48) (f := 65) (args := #[.int .i64 (i2 : Int)]) (by kernel_rfl) (tasks_bounds_ok (i2 : Int) _ _ rfl) ?_
    rintro _ w11 ⟨rfl, hS24⟩
    refine ⟨_, rfl, hS24.below, ?_⟩
    have hS25 := hS.call hS24
    refine ge_batch [2, 3, 4, 5, 6] (ans := []) (vs := [(8, .int .i64 ((tasks_bounds.f (i2 : Int)).2)), (7, .int .i64 ((tasks_bounds.f (i2 : Int)).1)), (50, .int .i64 ((tasks_bounds.f (i2 : Int)).2)), (49, .int .i64 ((tasks_bounds.f (i2 : Int)).1)), (46, .tuple #[.int .i64 ((tasks_bounds.f (i2 : Int)).1), .int .i64 ((tasks_bounds.f (i2 : Int)).2)])]) (l := []) (by kernel_rfl) trivial ?_
    refine ge_nil fun a hF => hK23 _ _ ?_ a hF
    refine we_seq fun K24 hK24 => ?_
    refine we_region [(0, 0), (1, 0), (2, 0), (3, 0), (4, 0), (5, 0), (6, 0), (7, 0)] rfl ?_
    refine ge_batch [0, 1, 2, 3] (ans := []) (vs := [(54, .bool (decide (e2 < ((tasks_bounds.f (i2 : Int)).1)))), (53, .bool (decide (e2 < ((tasks_bounds.f (i2 : Int)).1)))), (52, .int .i64 ((tasks_bounds.f (i2 : Int)).1)), (51, .int .i64 e2)]) (l := []) (by kernel_rfl) trivial ?_
    by_cases hc8 : e2 < ((tasks_bounds.f (i2 : Int)).1)
    · rw [if_pos hc8] at h
      refine ge_known (t := 54) (b := decide (e2 < ((tasks_bounds.f (i2 : Int)).1))) (c := true) (by kernel_rfl) (decide_eq_true hc8) ?_
      refine ge_batch [4, 5, 6, 7] (ans := []) (vs := [(58, .bool true), (57, undef), (56, undef), (55, undef)]) (l := []) (by kernel_rfl) trivial ?_
      refine ge_nil fun a hF => hK24 _ _ ?_ a hF
      refine we_true (by kernel_rfl) ?_
      refine we_seq fun K25 hK25 => ?_
      refine we_region [(0, 0), (1, 0), (2, 2)] rfl ?_
      refine ge_batch [0, 1] (ans := []) (vs := [(60, .agg #[.int .i64 3, .int .i64 (i1 : Int)]), (59, .int .i64 (i1 : Int))]) (l := []) (by kernel_rfl) trivial ?_
      have hS26 := hS25.bring 1 rfl
      refine ge_set (b := b1) (j := 0) (cs := #[.int .i64 0, .int .i64 0]) (t := 26) (vs := [.int .i64 3, .int .i64 (i1 : Int)]) hS26 (by kernel_rfl) rfl rfl fun w12 hS27 => ?_
      have hS28 : St w0 w12 [Own.blk b1 (.cells #[.int .i64 3, .int .i64 (i1 : Int)] 26 (0, 0)), Own.blk b2 (.cells #[.string e1.Name, .int .i64 e1.C, .int .i64 e1.T, .int .i64 e1.D, .int .i64 e1.J, .int .i64 e1.O, .int .i64 e1.P] 46 (0, 0)), Own.of (.slice Z1 (tasks_numbers.f e1).length cz1) 3 (tasks_numbers.f e1)] := hS27
      refine ge_nil fun a hF => hK25 _ _ ?_ a hF
      have hS29 := hS28.takeN 0
      obtain rfl := Option.some.inj h
      exact we_ret fun a hF => hQ _ _ _ (Outs.out nofun (Exits.on ⟨rfl, (post_ret (rs := [.cell 2 26]) (ans := [.val (.int .i64 3), .val (.int .i64 (i1 : Int))]) (vs := [.agg #[.int .i64 3, .int .i64 (i1 : Int)]]) (l := [.loaded ⟨b1, 0, none⟩ (.int .i64 3), .loaded ⟨b1, 1, none⟩ (.int .i64 (i1 : Int))]) rfl (by kernel_rfl) ⟨hS28.cell 0 rfl rfl, hS28.cell 0 rfl rfl, trivial⟩ ⟨rfl, hS29⟩) a hF⟩))
    · rw [if_neg hc8] at h
      refine ge_known (t := 54) (b := decide (e2 < ((tasks_bounds.f (i2 : Int)).1))) (c := false) (by kernel_rfl) (decide_eq_false hc8) ?_
      refine ge_batch [4, 5, 6, 7] (ans := []) (vs := [(58, .bool (decide (e2 > ((tasks_bounds.f (i2 : Int)).2)))), (57, .bool (decide (e2 > ((tasks_bounds.f (i2 : Int)).2)))), (56, .int .i64 ((tasks_bounds.f (i2 : Int)).2)), (55, .int .i64 e2)]) (l := []) (by kernel_rfl) trivial ?_
      refine ge_nil fun a hF => hK24 _ _ ?_ a hF
      by_cases hc9 : e2 > ((tasks_bounds.f (i2 : Int)).2)
      · rw [if_pos hc9] at h
        refine we_known (t := 58) (b := decide (e2 > ((tasks_bounds.f (i2 : Int)).2))) (v := true) (by kernel_rfl) (decide_eq_true hc9) ?_
        refine we_true (by kernel_rfl) ?_
        refine we_seq fun K26 hK26 => ?_
        refine we_region [(0, 0), (1, 0), (2, 2)] rfl ?_
        refine ge_batch [0, 1] (ans := []) (vs := [(60, .agg #[.int .i64 3, .int .i64 (i1 : Int)]), (59, .int .i64 (i1 : Int))]) (l := []) (by kernel_rfl) trivial ?_
        have hS30 := hS25.bring 1 rfl
        refine ge_set (b := b1) (j := 0) (cs := #[.int .i64 0, .int .i64 0]) (t := 26) (vs := [.int .i64 3, .int .i64 (i1 : Int)]) hS30 (by kernel_rfl) rfl rfl fun w13 hS31 => ?_
        have hS32 : St w0 w13 [Own.blk b1 (.cells #[.int .i64 3, .int .i64 (i1 : Int)] 26 (0, 0)), Own.blk b2 (.cells #[.string e1.Name, .int .i64 e1.C, .int .i64 e1.T, .int .i64 e1.D, .int .i64 e1.J, .int .i64 e1.O, .int .i64 e1.P] 46 (0, 0)), Own.of (.slice Z1 (tasks_numbers.f e1).length cz1) 3 (tasks_numbers.f e1)] := hS31
        refine ge_nil fun a hF => hK26 _ _ ?_ a hF
        have hS33 := hS32.takeN 0
        obtain rfl := Option.some.inj h
        exact we_ret fun a hF => hQ _ _ _ (Outs.out nofun (Exits.on ⟨rfl, (post_ret (rs := [.cell 2 26]) (ans := [.val (.int .i64 3), .val (.int .i64 (i1 : Int))]) (vs := [.agg #[.int .i64 3, .int .i64 (i1 : Int)]]) (l := [.loaded ⟨b1, 0, none⟩ (.int .i64 3), .loaded ⟨b1, 1, none⟩ (.int .i64 (i1 : Int))]) rfl (by kernel_rfl) ⟨hS32.cell 0 rfl rfl, hS32.cell 0 rfl rfl, trivial⟩ ⟨rfl, hS33⟩) a hF⟩))
      · rw [if_neg hc9] at h
        refine we_known (t := 58) (b := decide (e2 > ((tasks_bounds.f (i2 : Int)).2))) (v := false) (by kernel_rfl) (decide_eq_false hc9) ?_
        refine we_false (by kernel_rfl) ?_
        refine we_skip fun a hF => hK21 _ _ ?_ a hF
        refine we_region [(0, 0), (1, 0)] rfl ?_
        refine ge_addn (d := 61) (ty := 3) (x := (.tmp 41)) (y := (.const (.int .i64 1))) (t := 3) (t2 := 3) (k := .i64) (m := i2) (by kernel_rfl) (by kernel_rfl) (by kernel_rfl) (by have h0 := hS25.ofSmall 2 rfl; omega) ?_
        refine ge_batch [1] (ans := []) (vs := [(41, .int .i64 ((i2 + 1 : Nat) : Int))]) (l := []) (by kernel_rfl) trivial ?_
        have hS34 := hS25.bring 2 rfl
        have hS35 := hS34.bring 2 rfl
        have hS36 := hS35.bring 2 rfl
        obtain rfl := Option.some.inj h
        exact ge_nil fun a hF => hQ _ _ _ (Outs.again ⟨hS36, hF.weaken ⟨by kernel_rfl, by kernel_rfl, by kernel_rfl, by kernel_rfl, by kernel_rfl, by kernel_rfl, by kernel_rfl, by kernel_rfl, by kernel_rfl, by kernel_rfl, trivial⟩⟩)
  · rw [if_neg hc7] at h
    refine we_known (t := 42) (b := decide ((i2 : Int) < ((tasks_numbers.f e1).length : Int))) (v := false) (by kernel_rfl) (decide_eq_false hc7) ?_
    refine we_false (by kernel_rfl) ?_
    have hS37 := hS.bring 1 rfl
    have hS38 := hS37.bring 1 rfl
    have hS39 := hS38.takeN 2
    obtain rfl := Option.some.inj h
    exact we_exit fun a hF => hQ _ _ _ (Outs.out nofun (Exits.here ⟨hS39, hF.weaken ⟨by kernel_rfl, by kernel_rfl, by kernel_rfl, by kernel_rfl, by kernel_rfl, by kernel_rfl, by kernel_rfl, trivial⟩⟩))
abbrev tasks_Check.A1 (K : Nat) (w0 : World) (l0 : List STask) (A0 : Option Addr) (c0 : Nat) (hR0 : RdL w0 A0 l0) (hL0 : l0.length ≤ c0) (b1 : Nat) : Nat → Act → World → Prop := fun (s : Nat) a w => St w0 w [Own.blk b1 (.cells #[.int .i64 0, .int .i64 0] 26 (0, 0))] ∧ Frm 71 a [(0, .slice A0 l0.length c0), (2, .pointer (some ⟨b1, 0, none⟩)), (18, .slice A0 l0.length c0), (19, .int .i64 (l0.length : Int)), (20, .int .i64 (s : Int))]
abbrev tasks_Check.B1 (K : Nat) (w0 : World) (l0 : List STask) (A0 : Option Addr) (c0 : Nat) (hR0 : RdL w0 A0 l0) (hL0 : l0.length ≤ c0) (b1 : Nat) : (Unit ⊕ SFault) → Exit → Act → World → Prop := Exits 0 (fun (s : Unit) a w => St w0 w [Own.blk b1 (.cells #[.int .i64 0, .int .i64 0] 26 (0, 0))] ∧ Frm 71 a [(2, .pointer (some ⟨b1, 0, none⟩))]) (Rets Tryd.prog Tryd.f19 (tasks_Check.Post w0))
theorem tasks_Check_r1 (K : Nat) (w0 : World) (l0 : List STask) (A0 : Option Addr) (c0 : Nat) (hR0 : RdL w0 A0 l0) (hL0 : l0.length ≤ c0) (b1 : Nat) (s : Nat) (o : Nat ⊕ (Unit ⊕ SFault)) (h : tasks_Check.r1 K l0 s = some o) (a : Act) (w : World) (hA : tasks_Check.A1 K w0 l0 A0 c0 hR0 hL0 b1 s a w) (Q : Exit → Act → World → Prop) (hQ : ∀ x a w, Outs (tasks_Check.A1 K w0 l0 A0 c0 hR0 hL0 b1) (tasks_Check.B1 K w0 l0 A0 c0 hR0 hL0 b1) o x a w → Q x a w) : (subF Tryd.f19 [1, 1, 0, 1, 0, 0]).wp Tryd.prog Q a w := by
  obtain ⟨i1, hs⟩ : ∃ z, z = s := ⟨s, rfl⟩
  subst hs
  obtain ⟨hS, hF⟩ := hA
  replace hS : St w0 w [Own.blk b1 (.cells #[.int .i64 0, .int .i64 0] 26 (0, 0))] := hS
  simp only [tasks_Check.r1] at h
  refine (?_ : WE Tryd.prog 71 (subF Tryd.f19 [1, 1, 0, 1, 0, 0]) Q [(0, .slice A0 l0.length c0), (2, .pointer (some ⟨b1, 0, none⟩)), (18, .slice A0 l0.length c0), (19, .int .i64 (l0.length : Int)), (20, .int .i64 (i1 : Int))] w) a hF
  clear hF a
  refine we_seq fun K8 hK8 => ?_
  refine we_region [(0, 0)] rfl ?_
  refine ge_batch [0] (ans := []) (vs := [(21, .bool (decide ((i1 : Int) < (l0.length : Int))))]) (l := []) (by kernel_rfl) trivial ?_
  refine ge_nil fun a hF => hK8 _ _ ?_ a hF
  refine we_seq fun K9 hK9 => ?_
  by_cases hc3 : (i1 : Int) < (l0.length : Int)
  · rw [if_pos hc3] at h
    refine we_known (t := 21) (b := decide ((i1 : Int) < (l0.length : Int))) (v := true) (by kernel_rfl) (decide_eq_true hc3) ?_
    refine we_true (by kernel_rfl) ?_
    refine we_skip fun a hF => hK9 _ _ ?_ a hF
    refine we_seq fun K10 hK10 => ?_
    refine we_block ?_
    refine we_seq fun K11 hK11 => ?_
    refine we_region [(0, 0), (1, 0), (2, 0), (3, 1), (4, 0), (5, 2)] rfl ?_
    refine ge_batch [0] (ans := []) (vs := [(22, .int .i64 (i1 : Int))]) (l := []) (by kernel_rfl) trivial ?_
    rcases hx2 : l0[i1]? with _ | e1
    · rw [hx2] at h; cases h
    rw [hx2] at h
    simp only [] at h
    refine ge_index (d := 23) (ty := 0) (t := 40) (el := 46) (sz := 7) (m := l0.length) (c := c0) (x := (.tmp 18)) (y := (.tmp 20)) (A := A0) (k' := .i64) (j := (i1 : Int)) (jn := i1) (b0 := blkOf A0) (o0 := offOf A0) (by kernel_rfl) (by kernel_rfl) (by kernel_rfl) (by kernel_rfl) (by kernel_rfl) ((hS.rd hR0).eqSome (pos_of_get hx2)) rfl (lt_of_get hx2) ?_
    refine ge_batch [2] (ans := [.val (.string e1.Name), .val (.int .i64 e1.C), .val (.int .i64 e1.T), .val (.int .i64 e1.D), .val (.int .i64 e1.J), .val (.int .i64 e1.O), .val (.int .i64 e1.P)]) (vs := [(24, .agg #[.string e1.Name, .int .i64 e1.C, .int .i64 e1.T, .int .i64 e1.D, .int .i64 e1.J, .int .i64 e1.O, .int .i64 e1.P])]) (l := [.loaded ⟨blkOf A0, offOf A0 + i1 * 7, none⟩ (.string e1.Name), .loaded ⟨blkOf A0, offOf A0 + i1 * 7 + 1, none⟩ (.int .i64 e1.C), .loaded ⟨blkOf A0, offOf A0 + i1 * 7 + 2, none⟩ (.int .i64 e1.T), .loaded ⟨blkOf A0, offOf A0 + i1 * 7 + 3, none⟩ (.int .i64 e1.D), .loaded ⟨blkOf A0, offOf A0 + i1 * 7 + 4, none⟩ (.int .i64 e1.J), .loaded ⟨blkOf A0, offOf A0 + i1 * 7 + 5, none⟩ (.int .i64 e1.O), .loaded ⟨blkOf A0, offOf A0 + i1 * 7 + 6, none⟩ (.int .i64 e1.P)]) (by kernel_rfl) ⟨RdL.cell (j := 0) (hS.rd hR0) hx2 rfl, RdL.cell (j := 1) (hS.rd hR0) hx2 rfl, RdL.cell (j := 2) (hS.rd hR0) hx2 rfl, RdL.cell (j := 3) (hS.rd hR0) hx2 rfl, RdL.cell (j := 4) (hS.rd hR0) hx2 rfl, RdL.cell (j := 5) (hS.rd hR0) hx2 rfl, RdL.cell (j := 6) (hS.rd hR0) hx2 rfl, trivial⟩ ?_
    refine ge_new (d := some 4) (o := .cells #[.string (⟨#[]⟩), .int .i64 0, .int .i64 0, .int .i64 0, .int .i64 0, .int .i64 0, .int .i64 0] 46) (v := fun b => .pointer (some ⟨b, 0, none⟩)) hS (fun b => by kernel_rfl) fun b2 w5 hx3 hS9 => ?_
    refine ge_batch [4] (ans := []) (vs := [(3, .int .i64 (i1 : Int))]) (l := []) (by kernel_rfl) trivial ?_
    refine ge_set (b := b2) (j := 0) (cs := #[.string (⟨#[]⟩), .int .i64 0, .int .i64 0, .int .i64 0, .int .i64 0, .int .i64 0, .int .i64 0]) (t := 46) (vs := [.string e1.Name, .int .i64 e1.C, .int .i64 e1.T, .int .i64 e1.D, .int .i64 e1.J, .int .i64 e1.O, .int .i64 e1.P]) hS9 (by kernel_rfl) rfl rfl fun w6 hS10 => ?_
    have hS11 : St w0 w6 [Own.blk b2 (.cells #[.string e1.Name, .int .i64 e1.C, .int .i64 e1.T, .int .i64 e1.D, .int .i64 e1.J, .int .i64 e1.O, .int .i64 e1.P] 46 (0, 0)), Own.blk b1 (.cells #[.int .i64 0, .int .i64 0] 26 (0, 0))] := hS10
    refine ge_nil fun a hF => hK11 _ _ ?_ a hF
    refine we_seq fun K12 hK12 => ?_
    refine we_seq fun K13 hK13 => ?_
    refine we_region [(0, 0), (1, 0), (2, 1), (3, 0)] rfl ?_
    rcases hq2 : tasks_isName.f K e1.Name with _ | r1
    · rw [hq2] at h; cases h
    rw [hq2] at h
    simp only [] at h
    refine ge_batch [0, 1] (ans := [.val (.string e1.Name)]) (vs := [(26, .string e1.Name), (25, .pointer (some ⟨b2, 0, none⟩))]) (l := [.loaded ⟨b2, 0, none⟩ (.string e1.Name)]) (by kernel_rfl) ⟨hS11.cell 0 rfl rfl, trivial⟩ ?_
    refine ge_call (d := some 27) (f := 61) (args := #[.string e1.Name]) (by kernel_rfl) (tasks_isName_ok K e1.Name _ _ hq2) ?_
    rintro _ w7 ⟨rfl, hS12⟩
    refine ⟨_, rfl, hS12.below, ?_⟩
    have hS13 := hS11.call hS12
    refine ge_batch [3] (ans := []) (vs := [(28, .bool (!r1))]) (l := []) (by kernel_rfl) trivial ?_
    refine ge_nil fun a hF => hK13 _ _ ?_ a hF
    by_cases hc4 : r1 = true
    · rw [if_pos hc4] at h
      refine we_known (t := 28) (b := !r1) (v := false) (by kernel_rfl) (congrArg (fun z => !z) hc4) ?_
      refine we_false (by kernel_rfl) ?_
      refine we_skip fun a hF => hK12 _ _ ?_ a hF
      refine we_seq fun K14 hK14 => ?_
      refine we_seq fun K15 hK15 => ?_
      refine we_region [(0, 0), (1, 0), (2, 0), (3, 0), (4, 1)] rfl ?_
      refine ge_batch [0, 1] (ans := []) (vs := [(32, .int .i64 (i1 : Int)), (31, .slice A0 l0.length c0)]) (l := []) (by kernel_rfl) trivial ?_
      by_cases hc5 : i1 ≤ l0.length
      · rw [if_pos hc5] at h
        refine ge_part (d := 33) (ty := 40) (t := 40) (el := 46) (sz := 7) (m := l0.length) (c := c0) (lo := 0) (hi := i1) (x := (.tmp 31)) (xl := none) (xh := some (.tmp 32)) (A := A0) (by kernel_rfl) (by kernel_rfl) rfl ⟨.i64, (i1 : Int), by kernel_rfl, rfl⟩ (by kernel_rfl) (by kernel_rfl) (by have f0 := hc5; have f1 := hL0; omega) (by have f0 := hc5; have f1 := hL0; omega) ?_
        refine ge_same (t := 33) (v := .slice (subA A0 c0 0 7) (i1 - 0) (c0 - 0)) (v' := .slice (subA A0 c0 0 7) (((l0.take i1).drop 0).length) (c0 - 0)) (by kernel_rfl) (by have f0 := hc5; have f1 := hL0; rw [show i1 - 0 = ((l0.take i1).drop 0).length by simp only [List.length_drop, List.length_take]; omega]) ?_
        rcases hq3 : slices_ContainsFunc_api_Task_api_Task.f K ((l0.take i1).drop 0) e1 with _ | r2
        · rw [hq3] at h; cases h
        rw [hq3] at h
        simp only [] at h
        refine ge_batch [3] (ans := []) (vs := [(34, .func (.func 63) #[] #[.pointer (some ⟨b2, 0, none⟩)])]) (l := []) (by kernel_rfl) trivial ?_
        refine ge_call (d := some 35) (f := 62) (args := #[.slice (subA A0 c0 0 7) (((l0.take i1).drop 0).length) (c0 - 0), .func (.func 63) #[] #[.pointer (some ⟨b2, 0, none⟩)]]) (by kernel_rfl) (slices_ContainsFunc_api_Task_api_Task_ok K ((l0.take i1).drop 0) (subA A0 c0 0 7) (c0 - 0) b2 e1 _ (hS13.rd (RdL.part hR0 hL0 0 i1)) (by have f0 := hc5; have f1 := hL0; simp only [List.length_drop, List.length_take]; omega) (hS13.globOf 0 rfl) _ hq3) ?_
        rintro _ w8 ⟨rfl, hS14⟩
        refine ⟨_, rfl, hS14.below, ?_⟩
        have hS15 := hS13.call hS14
        refine ge_nil fun a hF => hK15 _ _ ?_ a hF
        by_cases hc6 : r2 = true
        · rw [if_pos hc6] at h
          refine we_known (t := 35) (b := r2) (v := true) (by kernel_rfl) hc6 ?_
          refine we_true (by kernel_rfl) ?_
          refine we_seq fun K16 hK16 => ?_
          refine we_region [(0, 0), (1, 0), (2, 2)] rfl ?_
          refine ge_batch [0, 1] (ans := []) (vs := [(37, .agg #[.int .i64 5, .int .i64 (i1 : Int)]), (36, .int .i64 (i1 : Int))]) (l := []) (by kernel_rfl) trivial ?_
          have hS16 := hS15.bring 1 rfl
          refine ge_set (b := b1) (j := 0) (cs := #[.int .i64 0, .int .i64 0]) (t := 26) (vs := [.int .i64 5, .int .i64 (i1 : Int)]) hS16 (by kernel_rfl) rfl rfl fun w9 hS17 => ?_
          have hS18 : St w0 w9 [Own.blk b1 (.cells #[.int .i64 5, .int .i64 (i1 : Int)] 26 (0, 0)), Own.blk b2 (.cells #[.string e1.Name, .int .i64 e1.C, .int .i64 e1.T, .int .i64 e1.D, .int .i64 e1.J, .int .i64 e1.O, .int .i64 e1.P] 46 (0, 0))] := hS17
          refine ge_nil fun a hF => hK16 _ _ ?_ a hF
          have hS19 := hS18.takeN 0
          obtain rfl := Option.some.inj h
          exact we_ret fun a hF => hQ _ _ _ (Outs.out nofun (Exits.on ⟨rfl, (post_ret (rs := [.cell 2 26]) (ans := [.val (.int .i64 5), .val (.int .i64 (i1 : Int))]) (vs := [.agg #[.int .i64 5, .int .i64 (i1 : Int)]]) (l := [.loaded ⟨b1, 0, none⟩ (.int .i64 5), .loaded ⟨b1, 1, none⟩ (.int .i64 (i1 : Int))]) rfl (by kernel_rfl) ⟨hS18.cell 0 rfl rfl, hS18.cell 0 rfl rfl, trivial⟩ ⟨rfl, hS19⟩) a hF⟩))
        · rw [if_neg hc6] at h
          refine we_known (t := 35) (b := r2) (v := false) (by kernel_rfl) (Bool.eq_false_iff.2 hc6) ?_
          refine we_false (by kernel_rfl) ?_
          refine we_skip fun a hF => hK14 _ _ ?_ a hF
          refine we_seq fun K17 hK17 => ?_
          refine we_seq fun K18 hK18 => ?_
          refine we_region [(0, 0), (1, 1), (2, 0), (3, 0)] rfl ?_
          refine ge_batch [0] (ans := [.val (.string e1.Name), .val (.int .i64 e1.C), .val (.int .i64 e1.T), .val (.int .i64 e1.D), .val (.int .i64 e1.J), .val (.int .i64 e1.O), .val (.int .i64 e1.P)]) (vs := [(38, .agg #[.string e1.Name, .int .i64 e1.C, .int .i64 e1.T, .int .i64 e1.D, .int .i64 e1.J, .int .i64 e1.O, .int .i64 e1.P])]) (l := [.loaded ⟨b2, 0, none⟩ (.string e1.Name), .loaded ⟨b2, 1, none⟩ (.int .i64 e1.C), .loaded ⟨b2, 2, none⟩ (.int .i64 e1.T), .loaded ⟨b2, 3, none⟩ (.int .i64 e1.D), .loaded ⟨b2, 4, none⟩ (.int .i64 e1.J), .loaded ⟨b2, 5, none⟩ (.int .i64 e1.O), .loaded ⟨b2, 6, none⟩ (.int .i64 e1.P)]) (by kernel_rfl) ⟨hS15.cell 0 rfl rfl, hS15.cell 0 rfl rfl, hS15.cell 0 rfl rfl, hS15.cell 0 rfl rfl, hS15.cell 0 rfl rfl, hS15.cell 0 rfl rfl, hS15.cell 0 rfl rfl, trivial⟩ ?_
          refine ge_call (d := some 39) (f := 64) (args := #[.agg #[.string e1.Name, .int .i64 e1.C, .int .i64 e1.T, .int .i64 e1.D, .int .i64 e1.J, .int .i64 e1.O, .int .i64 e1.P]]) (by kernel_rfl) (tasks_numbers_ok e1 _ _ rfl) ?_
          rintro _ w10 ⟨v1, rfl, hS20⟩
          refine ⟨_, rfl, hS20.below, ?_⟩
          have hS21 := hS15.call hS20
          obtain ⟨Z1, cz1, rfl⟩ := hS21.open 0 rfl
          refine ge_batch [2, 3] (ans := []) (vs := [(41, .int .i64 0), (40, .int .i64 ((tasks_numbers.f e1).length : Int))]) (l := []) (by kernel_rfl) trivial ?_
          refine ge_nil fun a hF => hK18 _ _ ?_ a hF
          refine we_block ?_
          have hS22 := hS21.bring 2 rfl
          have hS23 := hS22.bring 2 rfl
          rcases hq6 : iter (tasks_Check.r2 i1 e1) K 0 with _ | (_ | rr1)
          · rw [hq6] at h; cases h
          · rw [hq6] at h
            simp only [] at h
            refine we_iter (A := tasks_Check.A2 K w0 l0 A0 c0 hR0 hL0 b1 i1 hc3 e1 hx2 b2 r1 hc4 hc5 r2 hc6 Z1 cz1) (B := tasks_Check.B2 K w0 l0 A0 c0 hR0 hL0 b1 i1 hc3 e1 hx2 b2 r1 hc4 hc5 r2 hc6 Z1 cz1) hq6 (fun a hF => ⟨hS23, hF.weaken ⟨by kernel_rfl, by kernel_rfl, by kernel_rfl, by kernel_rfl, by kernel_rfl, by kernel_rfl, by kernel_rfl, by kernel_rfl, by kernel_rfl, by kernel_rfl, trivial⟩⟩) (fun s o hf a w hA Q hQ => tasks_Check_r2 K w0 l0 A0 c0 hR0 hL0 b1 i1 hc3 e1 hx2 b2 r1 hc4 hc5 r2 hc6 Z1 cz1 s o hf a w hA Q hQ) ?_
            rintro _ a w14 _ ⟨rfl, hS40, hF⟩
            replace hS40 : St w0 w14 [Own.blk b2 (.cells #[.string e1.Name, .int .i64 e1.C, .int .i64 e1.T, .int .i64 e1.D, .int .i64 e1.J, .int .i64 e1.O, .int .i64 e1.P] 46 (0, 0)), Own.blk b1 (.cells #[.int .i64 0, .int .i64 0] 26 (0, 0))] := hS40
            refine hK17 [(0, .slice A0 l0.length c0), (2, .pointer (some ⟨b1, 0, none⟩)), (3, .int .i64 (i1 : Int)), (4, .pointer (some ⟨b2, 0, none⟩)), (18, .slice A0 l0.length c0), (19, .int .i64 (l0.length : Int)), (20, .int .i64 (i1 : Int))] w14 ?_ a hF
            refine we_seq fun K27 hK27 => ?_
            refine we_region [(0, 0), (1, 0), (2, 0), (3, 0), (4, 0)] rfl ?_
            refine ge_batch [0, 1, 2, 3, 4] (ans := [.val (.int .i64 e1.C), .val (.int .i64 e1.D)]) (vs := [(66, .bool (decide (e1.C > e1.D))), (65, .int .i64 e1.D), (64, .pointer (some ⟨b2, 3, none⟩)), (63, .int .i64 e1.C), (62, .pointer (some ⟨b2, 1, none⟩))]) (l := [.loaded ⟨b2, 1, none⟩ (.int .i64 e1.C), .loaded ⟨b2, 3, none⟩ (.int .i64 e1.D)]) (by kernel_rfl) ⟨hS40.cell 0 rfl rfl, hS40.cell 0 rfl rfl, trivial⟩ ?_
            refine ge_nil fun a hF => hK27 _ _ ?_ a hF
            by_cases hc10 : e1.C > e1.D
            · rw [if_pos hc10] at h
              refine we_known (t := 66) (b := decide (e1.C > e1.D)) (v := true) (by kernel_rfl) (decide_eq_true hc10) ?_
              refine we_true (by kernel_rfl) ?_
              refine we_seq fun K28 hK28 => ?_
              refine we_region [(0, 0), (1, 0), (2, 2)] rfl ?_
              refine ge_batch [0, 1] (ans := []) (vs := [(68, .agg #[.int .i64 12, .int .i64 (i1 : Int)]), (67, .int .i64 (i1 : Int))]) (l := []) (by kernel_rfl) trivial ?_
              have hS41 := hS40.bring 1 rfl
              refine ge_set (b := b1) (j := 0) (cs := #[.int .i64 0, .int .i64 0]) (t := 26) (vs := [.int .i64 12, .int .i64 (i1 : Int)]) hS41 (by kernel_rfl) rfl rfl fun w15 hS42 => ?_
              have hS43 : St w0 w15 [Own.blk b1 (.cells #[.int .i64 12, .int .i64 (i1 : Int)] 26 (0, 0)), Own.blk b2 (.cells #[.string e1.Name, .int .i64 e1.C, .int .i64 e1.T, .int .i64 e1.D, .int .i64 e1.J, .int .i64 e1.O, .int .i64 e1.P] 46 (0, 0))] := hS42
              refine ge_nil fun a hF => hK28 _ _ ?_ a hF
              have hS44 := hS43.takeN 0
              obtain rfl := Option.some.inj h
              exact we_ret fun a hF => hQ _ _ _ (Outs.out nofun (Exits.on ⟨rfl, (post_ret (rs := [.cell 2 26]) (ans := [.val (.int .i64 12), .val (.int .i64 (i1 : Int))]) (vs := [.agg #[.int .i64 12, .int .i64 (i1 : Int)]]) (l := [.loaded ⟨b1, 0, none⟩ (.int .i64 12), .loaded ⟨b1, 1, none⟩ (.int .i64 (i1 : Int))]) rfl (by kernel_rfl) ⟨hS43.cell 0 rfl rfl, hS43.cell 0 rfl rfl, trivial⟩ ⟨rfl, hS44⟩) a hF⟩))
            · rw [if_neg hc10] at h
              refine we_known (t := 66) (b := decide (e1.C > e1.D)) (v := false) (by kernel_rfl) (decide_eq_false hc10) ?_
              refine we_false (by kernel_rfl) ?_
              refine we_skip fun a hF => hK10 _ _ ?_ a hF
              refine we_region [(0, 0), (1, 0)] rfl ?_
              refine ge_addn (d := 69) (ty := 3) (x := (.tmp 20)) (y := (.const (.int .i64 1))) (t := 3) (t2 := 3) (k := .i64) (m := i1) (by kernel_rfl) (by kernel_rfl) (by kernel_rfl) (by have h0 := hR0.small; omega) ?_
              refine ge_batch [1] (ans := []) (vs := [(20, .int .i64 ((i1 + 1 : Nat) : Int))]) (l := []) (by kernel_rfl) trivial ?_
              have hS45 := hS40.bring 1 rfl
              have hS46 := hS45.takeN 1
              obtain rfl := Option.some.inj h
              exact ge_nil fun a hF => hQ _ _ _ (Outs.again ⟨hS46, hF.weaken ⟨by kernel_rfl, by kernel_rfl, by kernel_rfl, by kernel_rfl, by kernel_rfl, trivial⟩⟩)
          · rw [hq6] at h
            simp only [] at h
            refine we_iter (A := tasks_Check.A2 K w0 l0 A0 c0 hR0 hL0 b1 i1 hc3 e1 hx2 b2 r1 hc4 hc5 r2 hc6 Z1 cz1) (B := tasks_Check.B2 K w0 l0 A0 c0 hR0 hL0 b1 i1 hc3 e1 hx2 b2 r1 hc4 hc5 r2 hc6 Z1 cz1) hq6 (fun a hF => ⟨hS23, hF.weaken ⟨by kernel_rfl, by kernel_rfl, by kernel_rfl, by kernel_rfl, by kernel_rfl, by kernel_rfl, by kernel_rfl, by kernel_rfl, by kernel_rfl, by kernel_rfl, trivial⟩⟩) (fun s o hf a w hA Q hQ => tasks_Check_r2 K w0 l0 A0 c0 hR0 hL0 b1 i1 hc3 e1 hx2 b2 r1 hc4 hc5 r2 hc6 Z1 cz1 s o hf a w hA Q hQ) ?_
            rintro _ a w1 _ ⟨rfl, hb⟩
            obtain rfl := Option.some.inj h
            exact hQ _ _ _ (Outs.out nofun (Exits.on ⟨rfl, hb⟩))
      · rw [if_neg hc5] at h
        cases h
    · rw [if_neg hc4] at h
      refine we_known (t := 28) (b := !r1) (v := true) (by kernel_rfl) (congrArg (fun z => !z) (Bool.eq_false_iff.2 hc4)) ?_
      refine we_true (by kernel_rfl) ?_
      refine we_seq fun K29 hK29 => ?_
      refine we_region [(0, 0), (1, 0), (2, 2)] rfl ?_
      refine ge_batch [0, 1] (ans := []) (vs := [(30, .agg #[.int .i64 4, .int .i64 (i1 : Int)]), (29, .int .i64 (i1 : Int))]) (l := []) (by kernel_rfl) trivial ?_
      have hS47 := hS13.bring 1 rfl
      refine ge_set (b := b1) (j := 0) (cs := #[.int .i64 0, .int .i64 0]) (t := 26) (vs := [.int .i64 4, .int .i64 (i1 : Int)]) hS47 (by kernel_rfl) rfl rfl fun w16 hS48 => ?_
      have hS49 : St w0 w16 [Own.blk b1 (.cells #[.int .i64 4, .int .i64 (i1 : Int)] 26 (0, 0)), Own.blk b2 (.cells #[.string e1.Name, .int .i64 e1.C, .int .i64 e1.T, .int .i64 e1.D, .int .i64 e1.J, .int .i64 e1.O, .int .i64 e1.P] 46 (0, 0))] := hS48
      refine ge_nil fun a hF => hK29 _ _ ?_ a hF
      have hS50 := hS49.takeN 0
      obtain rfl := Option.some.inj h
      exact we_ret fun a hF => hQ _ _ _ (Outs.out nofun (Exits.on ⟨rfl, (post_ret (rs := [.cell 2 26]) (ans := [.val (.int .i64 4), .val (.int .i64 (i1 : Int))]) (vs := [.agg #[.int .i64 4, .int .i64 (i1 : Int)]]) (l := [.loaded ⟨b1, 0, none⟩ (.int .i64 4), .loaded ⟨b1, 1, none⟩ (.int .i64 (i1 : Int))]) rfl (by kernel_rfl) ⟨hS49.cell 0 rfl rfl, hS49.cell 0 rfl rfl, trivial⟩ ⟨rfl, hS50⟩) a hF⟩))
  · rw [if_neg hc3] at h
    refine we_known (t := 21) (b := decide ((i1 : Int) < (l0.length : Int))) (v := false) (by kernel_rfl) (decide_eq_false hc3) ?_
    refine we_false (by kernel_rfl) ?_
    obtain rfl := Option.some.inj h
    exact we_exit fun a hF => hQ _ _ _ (Outs.out nofun (Exits.here ⟨hS, hF.weaken ⟨by kernel_rfl, trivial⟩⟩))
theorem tasks_Check_ok (K : Nat) (l0 : List STask) (A0 : Option Addr) (c0 : Nat) (w0 : World) (hR0 : RdL w0 A0 l0) (hL0 : l0.length ≤ c0) (r : SFault) (h : tasks_Check.f K l0 = some r) :
    Calls Tryd.prog 19 #[.slice A0 l0.length c0] w0 (tasks_Check.Post w0 r) := by
  have hS := St.start w0
  unfold tasks_Check.f at h
  refine calls_enter (n := 71) (args := [.slice A0 l0.length c0]) (fn := Tryd.f19) rfl rfl rfl rfl ?_
  show WE _ _ _ _ [(0, .slice A0 l0.length c0)] _
  refine we_seq fun K1 hK1 => ?_
  refine we_region [(0, 1)] rfl ?_
  refine ge_new (d := some 2) (o := .cells #[.int .i64 0, .int .i64 0] 26) (v := fun b => .pointer (some ⟨b, 0, none⟩)) hS (fun b => by kernel_rfl) fun b1 w1 hx1 hS1 => ?_
  refine ge_nil fun a hF => hK1 _ _ ?_ a hF
  refine we_seq fun K2 hK2 => ?_
  rcases hq1 : tasks_Check.p0 l0 with _ | (_ | rr3)
  · rw [hq1] at h; cases h
  · rw [hq1] at h
    simp only [] at h
    refine we_keep (e' := [(0, .slice A0 l0.length c0), (2, .pointer (some ⟨b1, 0, none⟩))]) ⟨by kernel_rfl, by kernel_rfl, trivial⟩ (tasks_Check_p0 K w0 l0 A0 c0 hR0 hL0 b1 _ hq1 _ hS1 _ ?_)
    rintro _ a w4 ⟨rfl, hS8, hF⟩
    replace hS8 : St w0 w4 [Own.blk b1 (.cells #[.int .i64 0, .int .i64 0] 26 (0, 0))] := hS8
    refine hK2 [(0, .slice A0 l0.length c0), (2, .pointer (some ⟨b1, 0, none⟩))] w4 ?_ a hF
    refine we_seq fun K6 hK6 => ?_
    refine we_seq fun K7 hK7 => ?_
    refine we_region [(0, 0), (1, 0), (2, 0)] rfl ?_
    refine ge_batch [0, 1, 2] (ans := []) (vs := [(20, .int .i64 0), (19, .int .i64 (l0.length : Int)), (18, .slice A0 l0.length c0)]) (l := []) (by kernel_rfl) trivial ?_
    refine ge_nil fun a hF => hK7 _ _ ?_ a hF
    refine we_block ?_
    rcases hq7 : iter (tasks_Check.r1 K l0) K 0 with _ | (_ | rr2)
    · rw [hq7] at h; cases h
    · rw [hq7] at h
      simp only [] at h
      refine we_iter (A := tasks_Check.A1 K w0 l0 A0 c0 hR0 hL0 b1) (B := tasks_Check.B1 K w0 l0 A0 c0 hR0 hL0 b1) hq7 (fun a hF => ⟨hS8, hF.weaken ⟨by kernel_rfl, by kernel_rfl, by kernel_rfl, by kernel_rfl, by kernel_rfl, trivial⟩⟩) (fun s o hf a w hA Q hQ => tasks_Check_r1 K w0 l0 A0 c0 hR0 hL0 b1 s o hf a w hA Q hQ) ?_
      rintro _ a w17 _ ⟨rfl, hS51, hF⟩
      replace hS51 : St w0 w17 [Own.blk b1 (.cells #[.int .i64 0, .int .i64 0] 26 (0, 0))] := hS51
      refine hK6 [(2, .pointer (some ⟨b1, 0, none⟩))] w17 ?_ a hF
      refine we_seq fun K30 hK30 => ?_
      refine we_region [(0, 0), (1, 2)] rfl ?_
      refine ge_batch [0] (ans := []) (vs := [(70, .agg #[.int .i64 0, .int .i64 0])]) (l := []) (by kernel_rfl) trivial ?_
      refine ge_set (b := b1) (j := 0) (cs := #[.int .i64 0, .int .i64 0]) (t := 26) (vs := [.int .i64 0, .int .i64 0]) hS51 (by kernel_rfl) rfl rfl fun w18 hS52 => ?_
      have hS53 : St w0 w18 [Own.blk b1 (.cells #[.int .i64 0, .int .i64 0] 26 (0, 0))] := hS52
      refine ge_nil fun a hF => hK30 _ _ ?_ a hF
      have hS54 := hS53.takeN 0
      obtain rfl := Option.some.inj h
      exact we_ret (post_ret (rs := [.cell 2 26]) (ans := [.val (.int .i64 0), .val (.int .i64 0)]) (vs := [.agg #[.int .i64 0, .int .i64 0]]) (l := [.loaded ⟨b1, 0, none⟩ (.int .i64 0), .loaded ⟨b1, 1, none⟩ (.int .i64 0)]) rfl (by kernel_rfl) ⟨hS53.cell 0 rfl rfl, hS53.cell 0 rfl rfl, trivial⟩ ⟨rfl, hS54⟩)
    · rw [hq7] at h
      simp only [] at h
      refine we_iter (A := tasks_Check.A1 K w0 l0 A0 c0 hR0 hL0 b1) (B := tasks_Check.B1 K w0 l0 A0 c0 hR0 hL0 b1) hq7 (fun a hF => ⟨hS8, hF.weaken ⟨by kernel_rfl, by kernel_rfl, by kernel_rfl, by kernel_rfl, by kernel_rfl, trivial⟩⟩) (fun s o hf a w hA Q hQ => tasks_Check_r1 K w0 l0 A0 c0 hR0 hL0 b1 s o hf a w hA Q hQ) ?_
      rintro _ a w1 _ ⟨rfl, hb⟩
      obtain rfl := Option.some.inj h
      exact hb
  · rw [hq1] at h
    simp only [] at h
    refine we_keep (e' := [(0, .slice A0 l0.length c0), (2, .pointer (some ⟨b1, 0, none⟩))]) ⟨by kernel_rfl, by kernel_rfl, trivial⟩ (tasks_Check_p0 K w0 l0 A0 c0 hR0 hL0 b1 _ hq1 _ hS1 _ ?_)
    rintro _ a w1 ⟨_, rfl, hb⟩
    obtain rfl := Option.some.inj h
    exact hb

/-! punctual/punctualref.F -/
abbrev punctualref_F.Post (w0 : World) (r : SFault) (e : Ending) (w : World) : Prop := e = .returned (.agg #[.int .i64 r.Code, .int .i64 r.At]) ∧ St w0 w []
def punctualref_F.f (x0 : Int) (x1 : Int) : SFault :=
  (⟨x0, x1⟩ : SFault)
theorem punctualref_F_ok (x0 : Int) (x1 : Int) (w0 : World) (r : SFault) (h : punctualref_F.f x0 x1 = r) :
    Calls Tryd.prog 21 #[.int .i64 x0, .int .i64 x1] w0 (punctualref_F.Post w0 r) := by
  have hS := St.start w0
  unfold punctualref_F.f at h
  refine calls_enter (n := 8) (args := [.int .i64 x0, .int .i64 x1]) (fn := Tryd.f21) rfl rfl rfl rfl ?_
  show WE _ _ _ _ [(0, .int .i64 x0), (1, .int .i64 x1)] _
  refine we_seq fun K1 hK1 => ?_
  refine we_region [(0, 1)] rfl ?_
  refine ge_new (d := some 4) (o := .cells #[.int .i64 0, .int .i64 0] 26) (v := fun b => .pointer (some ⟨b, 0, none⟩)) hS (fun b => by kernel_rfl) fun b1 w1 hx1 hS1 => ?_
  refine ge_nil fun a hF => hK1 _ _ ?_ a hF
  refine we_seq fun K2 hK2 => ?_
  refine we_region [(0, 0), (1, 0), (2, 0), (3, 2)] rfl ?_
  refine ge_batch [0, 1, 2] (ans := []) (vs := [(7, .agg #[.int .i64 x0, .int .i64 x1]), (6, .int .i64 x1), (5, .int .i64 x0)]) (l := []) (by kernel_rfl) trivial ?_
  refine ge_set (b := b1) (j := 0) (cs := #[.int .i64 0, .int .i64 0]) (t := 26) (vs := [.int .i64 x0, .int .i64 x1]) hS1 (by kernel_rfl) rfl rfl fun w2 hS2 => ?_
  have hS3 : St w0 w2 [Own.blk b1 (.cells #[.int .i64 x0, .int .i64 x1] 26 (0, 0))] := hS2
  refine ge_nil fun a hF => hK2 _ _ ?_ a hF
  have hS4 := hS3.takeN 0
  subst h
  exact we_ret (post_ret (rs := [.cell 4 26]) (ans := [.val (.int .i64 x0), .val (.int .i64 x1)]) (vs := [.agg #[.int .i64 x0, .int .i64 x1]]) (l := [.loaded ⟨b1, 0, none⟩ (.int .i64 x0), .loaded ⟨b1, 1, none⟩ (.int .i64 x1)]) rfl (by kernel_rfl) ⟨hS3.cell 0 rfl rfl, hS3.cell 0 rfl rfl, trivial⟩ ⟨rfl, hS4⟩)

/-! punctual/punctuallaw.few -/
abbrev few.Post (w0 : World) (r : Bool) (e : Ending) (w : World) : Prop := e = .returned (.bool r) ∧ St w0 w []
def few.f (x0 : Int) : Bool :=
  decide (x0 ≤ 5000)
theorem few_ok (x0 : Int) (w0 : World) (r : Bool) (h : few.f x0 = r) :
    Calls Tryd.prog 13 #[.int .i64 x0] w0 (few.Post w0 r) := by
  have hS := St.start w0
  unfold few.f at h
  refine calls_enter (n := 5) (args := [.int .i64 x0]) (fn := Tryd.f13) rfl rfl rfl rfl ?_
  show WE _ _ _ _ [(0, .int .i64 x0)] _
  refine we_seq fun K1 hK1 => ?_
  refine we_region [(0, 0)] rfl ?_
  refine ge_batch [0] (ans := []) (vs := [(2, .bool false)]) (l := []) (by kernel_rfl) trivial ?_
  refine ge_nil fun a hF => hK1 _ _ ?_ a hF
  refine we_seq fun K2 hK2 => ?_
  refine we_region [(0, 0), (1, 0), (2, 0)] rfl ?_
  refine ge_batch [0, 1, 2] (ans := []) (vs := [(2, .bool (decide (x0 ≤ 5000))), (4, .bool (decide (x0 ≤ 5000))), (3, .int .i64 x0)]) (l := []) (by kernel_rfl) trivial ?_
  refine ge_nil fun a hF => hK2 _ _ ?_ a hF
  subst h
  exact we_ret (post_ret (rs := [.tmp 2]) (ans := []) (vs := [.bool (decide (x0 ≤ 5000))]) (l := []) rfl (by kernel_rfl) trivial ⟨rfl, hS⟩)

/-! punctual/punctualsame.Lend[punctual/api.Task] -/
abbrev punctualsame_Lend_api_Task.Post (w0 : World) (n : Nat) (r : List STask) (e : Ending) (w : World) : Prop := ∃ (A : Option Addr) (c : Nat), e = .returned (.slice A n c) ∧ r.length ≤ c ∧ St w0 w [Own.of (.slice A r.length c) 46 r]
def punctualsame_Lend_api_Task.f (l0 : List STask) (x1 : STask) : Option (List STask) :=
  if 0 ≤ (IntKind.i64.wrap ((l0.length : Int) + 3)) then
    if ((IntKind.i64.wrap ((l0.length : Int) + 3)).toNat) ≤ 2199023255552 then
      if (List.replicate 0 (⟨⟨#[]⟩, 0, 0, 0, 0, 0, 0⟩ : STask)).length + l0.length ≤ 2199023255552 then
        if ((List.replicate 0 (⟨⟨#[]⟩, 0, 0, 0, 0, 0, 0⟩ : STask)) ++ l0).length + 3 ≤ 2199023255552 then
          some (((List.replicate 0 (⟨⟨#[]⟩, 0, 0, 0, 0, 0, 0⟩ : STask)) ++ l0) ++ ([x1, x1, x1] : List STask))
        else
          none
      else
        none
    else
      none
  else
    none
theorem punctualsame_Lend_api_Task_ok (l0 : List STask) (A0 : Option Addr) (c0 : Nat) (x1 : STask) (w0 : World) (hR0 : RdL w0 A0 l0) (hL0 : l0.length ≤ c0) (r : List STask) (h : punctualsame_Lend_api_Task.f l0 x1 = some r) :
    Calls Tryd.prog 22 #[.slice A0 l0.length c0, .agg #[.string x1.Name, .int .i64 x1.C, .int .i64 x1.T, .int .i64 x1.D, .int .i64 x1.J, .int .i64 x1.O, .int .i64 x1.P]] w0 (punctualsame_Lend_api_Task.Post w0 l0.length r) := by
  have hS := St.start w0
  unfold punctualsame_Lend_api_Task.f at h
  refine calls_enter (n := 21) (args := [.slice A0 l0.length c0, .agg #[.string x1.Name, .int .i64 x1.C, .int .i64 x1.T, .int .i64 x1.D, .int .i64 x1.J, .int .i64 x1.O, .int .i64 x1.P]]) (fn := Tryd.f22) rfl rfl rfl rfl ?_
  show WE _ _ _ _ [(0, .slice A0 l0.length c0), (1, .agg #[.string x1.Name, .int .i64 x1.C, .int .i64 x1.T, .int .i64 x1.D, .int .i64 x1.J, .int .i64 x1.O, .int .i64 x1.P])] _
  refine we_seq fun K1 hK1 => ?_
  refine we_region [(0, 1), (1, 0)] rfl ?_
  refine ge_new (d := some 3) (o := .cells #[.string x1.Name, .int .i64 x1.C, .int .i64 x1.T, .int .i64 x1.D, .int .i64 x1.J, .int .i64 x1.O, .int .i64 x1.P] 46) (v := fun b => .pointer (some ⟨b, 0, none⟩)) hS (fun b => by kernel_rfl) fun b1 w1 hx1 hS1 => ?_
  refine ge_batch [1] (ans := []) (vs := [(4, .slice none 0 0)]) (l := []) (by kernel_rfl) trivial ?_
  refine ge_nil fun a hF => hK1 _ _ ?_ a hF
  refine we_seq fun K2 hK2 => ?_
  refine we_orders (by kernel_rfl) [⟨b1, 0, none⟩, ⟨b1, 1, none⟩, ⟨b1, 2, none⟩, ⟨b1, 3, none⟩, ⟨b1, 4, none⟩, ⟨b1, 5, none⟩, ⟨b1, 6, none⟩] (.vals [0] (.vals [1] (.vals [2] (.vals [4] (.vals [6] (.vals [7] (.vals [8] (.alt 3 1 (.alt 5 2 (.alt 9 1 (.alt 10 2 (.vals [11] .fin) .nomore) .nomore) (.alt 9 1 (.alt 5 2 (.alt 10 2 (.vals [11] .fin) .nomore) .nomore) .nomore)) (.alt 9 1 (.alt 3 1 (.alt 5 2 (.alt 10 2 (.vals [11] .fin) .nomore) .nomore) .nomore) .nomore))))))))) (by kernel_rfl) ?_
  have hS2 := hS1.drew
  refine go_batch [0, 1, 2, 4, 6, 7, 8] (ans := [.val (.string x1.Name), .val (.int .i64 x1.C), .val (.int .i64 x1.T), .val (.int .i64 x1.D), .val (.int .i64 x1.J), .val (.int .i64 x1.O), .val (.int .i64 x1.P), .val (.string x1.Name), .val (.int .i64 x1.C), .val (.int .i64 x1.T), .val (.int .i64 x1.D), .val (.int .i64 x1.J), .val (.int .i64 x1.O), .val (.int .i64 x1.P), .val (.string x1.Name), .val (.int .i64 x1.C), .val (.int .i64 x1.T), .val (.int .i64 x1.D), .val (.int .i64 x1.J), .val (.int .i64 x1.O), .val (.int .i64 x1.P)]) (vs := [(14, .agg #[.string x1.Name, .int .i64 x1.C, .int .i64 x1.T, .int .i64 x1.D, .int .i64 x1.J, .int .i64 x1.O, .int .i64 x1.P]), (13, .agg #[.string x1.Name, .int .i64 x1.C, .int .i64 x1.T, .int .i64 x1.D, .int .i64 x1.J, .int .i64 x1.O, .int .i64 x1.P]), (12, .agg #[.string x1.Name, .int .i64 x1.C, .int .i64 x1.T, .int .i64 x1.D, .int .i64 x1.J, .int .i64 x1.O, .int .i64 x1.P]), (10, .slice A0 l0.length c0), (8, .int .i64 (IntKind.i64.wrap ((l0.length : Int) + 3))), (7, .int .i64 (l0.length : Int)), (6, .slice A0 l0.length c0)]) (l := [.loaded ⟨b1, 0, none⟩ (.string x1.Name), .loaded ⟨b1, 1, none⟩ (.int .i64 x1.C), .loaded ⟨b1, 2, none⟩ (.int .i64 x1.T), .loaded ⟨b1, 3, none⟩ (.int .i64 x1.D), .loaded ⟨b1, 4, none⟩ (.int .i64 x1.J), .loaded ⟨b1, 5, none⟩ (.int .i64 x1.O), .loaded ⟨b1, 6, none⟩ (.int .i64 x1.P), .loaded ⟨b1, 0, none⟩ (.string x1.Name), .loaded ⟨b1, 1, none⟩ (.int .i64 x1.C), .loaded ⟨b1, 2, none⟩ (.int .i64 x1.T), .loaded ⟨b1, 3, none⟩ (.int .i64 x1.D), .loaded ⟨b1, 4, none⟩ (.int .i64 x1.J), .loaded ⟨b1, 5, none⟩ (.int .i64 x1.O), .loaded ⟨b1, 6, none⟩ (.int .i64 x1.P), .loaded ⟨b1, 0, none⟩ (.string x1.Name), .loaded ⟨b1, 1, none⟩ (.int .i64 x1.C), .loaded ⟨b1, 2, none⟩ (.int .i64 x1.T), .loaded ⟨b1, 3, none⟩ (.int .i64 x1.D), .loaded ⟨b1, 4, none⟩ (.int .i64 x1.J), .loaded ⟨b1, 5, none⟩ (.int .i64 x1.O), .loaded ⟨b1, 6, none⟩ (.int .i64 x1.P)]) (by kernel_rfl) ⟨hS2.cell 0 rfl rfl, hS2.cell 0 rfl rfl, hS2.cell 0 rfl rfl, hS2.cell 0 rfl rfl, hS2.cell 0 rfl rfl, hS2.cell 0 rfl rfl, hS2.cell 0 rfl rfl, hS2.cell 0 rfl rfl, hS2.cell 0 rfl rfl, hS2.cell 0 rfl rfl, hS2.cell 0 rfl rfl, hS2.cell 0 rfl rfl, hS2.cell 0 rfl rfl, hS2.cell 0 rfl rfl, hS2.cell 0 rfl rfl, hS2.cell 0 rfl rfl, hS2.cell 0 rfl rfl, hS2.cell 0 rfl rfl, hS2.cell 0 rfl rfl, hS2.cell 0 rfl rfl, hS2.cell 0 rfl rfl, trivial⟩ (by simp [didAddrs]) ?_
  by_cases hc1 : 0 ≤ (IntKind.i64.wrap ((l0.length : Int) + 3))
  · rw [if_pos hc1] at h
    by_cases hc2 : ((IntKind.i64.wrap ((l0.length : Int) + 3)).toNat) ≤ 2199023255552
    · rw [if_pos hc2] at h
      refine go_alt (fun K hK => ?_) ?_
      · refine ge_one2 ?_
        refine ge_make (α := STask) (d := 9) (t := 40) (el := 46) (bytes := 64) (l := 0) (c := ((IntKind.i64.wrap ((l0.length : Int) + 3)).toNat)) (x := (.const (.int .i64 0))) (y := (.tmp 8)) (ty := 40) (k1 := .i64) (k2 := .i64) (li := 0) (ci := (IntKind.i64.wrap ((l0.length : Int) + 3))) (z := .agg #[.string (⟨#[]⟩), .int .i64 0, .int .i64 0, .int .i64 0, .int .i64 0, .int .i64 0, .int .i64 0]) (z' := (⟨⟨#[]⟩, 0, 0, 0, 0, 0, 0⟩ : STask)) (by kernel_rfl) (by kernel_rfl) (by kernel_rfl) rfl (Int.toNat_of_nonneg hc1).symm (by kernel_rfl) (by kernel_rfl) rfl hS2 (Nat.zero_le _) rfl (by omega) fun v1 w2 _ hS3 => ?_
        refine ge_nil fun a hF => hK _ _ (RS.of (l := [.loaded ⟨b1, 0, none⟩ (.string x1.Name), .loaded ⟨b1, 1, none⟩ (.int .i64 x1.C), .loaded ⟨b1, 2, none⟩ (.int .i64 x1.T), .loaded ⟨b1, 3, none⟩ (.int .i64 x1.D), .loaded ⟨b1, 4, none⟩ (.int .i64 x1.J), .loaded ⟨b1, 5, none⟩ (.int .i64 x1.O), .loaded ⟨b1, 6, none⟩ (.int .i64 x1.P)]) ⟨hS2.cell 0 rfl rfl, hS2.cell 0 rfl rfl, hS2.cell 0 rfl rfl, hS2.cell 0 rfl rfl, hS2.cell 0 rfl rfl, hS2.cell 0 rfl rfl, hS2.cell 0 rfl rfl, trivial⟩ ⟨hS3.cell 1 rfl rfl, hS3.cell 1 rfl rfl, hS3.cell 1 rfl rfl, hS3.cell 1 rfl rfl, hS3.cell 1 rfl rfl, hS3.cell 1 rfl rfl, hS3.cell 1 rfl rfl, trivial⟩) ?_ a hF
        refine go_alt (fun K hK => ?_) ?_
        · by_cases hc3 : (List.replicate 0 (⟨⟨#[]⟩, 0, 0, 0, 0, 0, 0⟩ : STask)).length + l0.length ≤ 2199023255552
          · rw [if_pos hc3] at h
            refine ge_appendL (α := STask) (m := 0) (d := 11) (t := 40) (el := 46) (bytes := 64) (c1 := c0) (A1 := A0) (x := (.tmp 9)) (y := (.tmp 10)) (ty := 40) (v := v1) (z := .agg #[.string (⟨#[]⟩), .int .i64 0, .int .i64 0, .int .i64 0, .int .i64 0, .int .i64 0, .int .i64 0]) (l := (List.replicate 0 (⟨⟨#[]⟩, 0, 0, 0, 0, 0, 0⟩ : STask))) (us := l0) (by kernel_rfl) (by kernel_rfl) (by kernel_rfl) (by kernel_rfl) (by kernel_rfl) rfl hS3 (hS3.rd hR0) rfl (Nat.mul_le_of_le_div _ _ _ hc3) fun v2 w3 hS4 => ?_
            have hS5 : St w0 w3 [Own.of v2 46 ((List.replicate 0 (⟨⟨#[]⟩, 0, 0, 0, 0, 0, 0⟩ : STask)) ++ l0), Own.blk b1 (.cells #[.string x1.Name, .int .i64 x1.C, .int .i64 x1.T, .int .i64 x1.D, .int .i64 x1.J, .int .i64 x1.O, .int .i64 x1.P] 46 (0, 0))] := hS4
            refine ge_nil fun a hF => hK _ _ (RS.of (l := [.loaded ⟨b1, 0, none⟩ (.string x1.Name), .loaded ⟨b1, 1, none⟩ (.int .i64 x1.C), .loaded ⟨b1, 2, none⟩ (.int .i64 x1.T), .loaded ⟨b1, 3, none⟩ (.int .i64 x1.D), .loaded ⟨b1, 4, none⟩ (.int .i64 x1.J), .loaded ⟨b1, 5, none⟩ (.int .i64 x1.O), .loaded ⟨b1, 6, none⟩ (.int .i64 x1.P)]) ⟨hS3.cell 1 rfl rfl, hS3.cell 1 rfl rfl, hS3.cell 1 rfl rfl, hS3.cell 1 rfl rfl, hS3.cell 1 rfl rfl, hS3.cell 1 rfl rfl, hS3.cell 1 rfl rfl, trivial⟩ ⟨hS5.cell 1 rfl rfl, hS5.cell 1 rfl rfl, hS5.cell 1 rfl rfl, hS5.cell 1 rfl rfl, hS5.cell 1 rfl rfl, hS5.cell 1 rfl rfl, hS5.cell 1 rfl rfl, trivial⟩) ?_ a hF
            refine go_alt (fun K hK => ?_) ?_
            · refine ge_one2 ?_
              refine ge_new (d := some 15) (o := .cells #[.string x1.Name, .int .i64 x1.C, .int .i64 x1.T, .int .i64 x1.D, .int .i64 x1.J, .int .i64 x1.O, .int .i64 x1.P, .string x1.Name, .int .i64 x1.C, .int .i64 x1.T, .int .i64 x1.D, .int .i64 x1.J, .int .i64 x1.O, .int .i64 x1.P, .string x1.Name, .int .i64 x1.C, .int .i64 x1.T, .int .i64 x1.D, .int .i64 x1.J, .int .i64 x1.O, .int .i64 x1.P] 46) (v := fun b => .slice (some ⟨b, 0, none⟩) 3 3) hS5 (fun b => by kernel_rfl) fun b2 w4 hx2 hS6 => ?_
              refine ge_nil fun a hF => hK _ _ (RS.of (l := [.loaded ⟨b1, 0, none⟩ (.string x1.Name), .loaded ⟨b1, 1, none⟩ (.int .i64 x1.C), .loaded ⟨b1, 2, none⟩ (.int .i64 x1.T), .loaded ⟨b1, 3, none⟩ (.int .i64 x1.D), .loaded ⟨b1, 4, none⟩ (.int .i64 x1.J), .loaded ⟨b1, 5, none⟩ (.int .i64 x1.O), .loaded ⟨b1, 6, none⟩ (.int .i64 x1.P)]) ⟨hS5.cell 1 rfl rfl, hS5.cell 1 rfl rfl, hS5.cell 1 rfl rfl, hS5.cell 1 rfl rfl, hS5.cell 1 rfl rfl, hS5.cell 1 rfl rfl, hS5.cell 1 rfl rfl, trivial⟩ ⟨hS6.cell 2 rfl rfl, hS6.cell 2 rfl rfl, hS6.cell 2 rfl rfl, hS6.cell 2 rfl rfl, hS6.cell 2 rfl rfl, hS6.cell 2 rfl rfl, hS6.cell 2 rfl rfl, trivial⟩) ?_ a hF
              refine go_alt (fun K hK => ?_) ?_
              · have hS7 := hS6.bring 1 rfl
                by_cases hc4 : ((List.replicate 0 (⟨⟨#[]⟩, 0, 0, 0, 0, 0, 0⟩ : STask)) ++ l0).length + 3 ≤ 2199023255552
                · rw [if_pos hc4] at h
                  refine ge_appendL (α := STask) (m := 0) (d := 16) (t := 40) (el := 46) (bytes := 64) (c1 := 3) (A1 := (some ⟨b2, 0, none⟩)) (x := (.tmp 11)) (y := (.tmp 15)) (ty := 40) (v := v2) (z := .agg #[.string (⟨#[]⟩), .int .i64 0, .int .i64 0, .int .i64 0, .int .i64 0, .int .i64 0, .int .i64 0]) (l := ((List.replicate 0 (⟨⟨#[]⟩, 0, 0, 0, 0, 0, 0⟩ : STask)) ++ l0)) (us := ([x1, x1, x1] : List STask)) (by kernel_rfl) (by kernel_rfl) (by kernel_rfl) (by kernel_rfl) (by kernel_rfl) rfl hS7 (hS7.rdBlk 1 ([x1, x1, x1] : List STask) rfl rfl rfl) rfl (Nat.mul_le_of_le_div _ _ _ hc4) fun v3 w5 hS8 => ?_
                  have hS9 : St w0 w5 [Own.of v3 46 (((List.replicate 0 (⟨⟨#[]⟩, 0, 0, 0, 0, 0, 0⟩ : STask)) ++ l0) ++ ([x1, x1, x1] : List STask)), Own.blk b2 (.cells #[.string x1.Name, .int .i64 x1.C, .int .i64 x1.T, .int .i64 x1.D, .int .i64 x1.J, .int .i64 x1.O, .int .i64 x1.P, .string x1.Name, .int .i64 x1.C, .int .i64 x1.T, .int .i64 x1.D, .int .i64 x1.J, .int .i64 x1.O, .int .i64 x1.P, .string x1.Name, .int .i64 x1.C, .int .i64 x1.T, .int .i64 x1.D, .int .i64 x1.J, .int .i64 x1.O, .int .i64 x1.P] 46 (0, 0)), Own.blk b1 (.cells #[.string x1.Name, .int .i64 x1.C, .int .i64 x1.T, .int .i64 x1.D, .int .i64 x1.J, .int .i64 x1.O, .int .i64 x1.P] 46 (0, 0))] := hS8
                  refine ge_nil fun a hF => hK _ _ (RS.of (l := [.loaded ⟨b1, 0, none⟩ (.string x1.Name), .loaded ⟨b1, 1, none⟩ (.int .i64 x1.C), .loaded ⟨b1, 2, none⟩ (.int .i64 x1.T), .loaded ⟨b1, 3, none⟩ (.int .i64 x1.D), .loaded ⟨b1, 4, none⟩ (.int .i64 x1.J), .loaded ⟨b1, 5, none⟩ (.int .i64 x1.O), .loaded ⟨b1, 6, none⟩ (.int .i64 x1.P)]) ⟨hS6.cell 2 rfl rfl, hS6.cell 2 rfl rfl, hS6.cell 2 rfl rfl, hS6.cell 2 rfl rfl, hS6.cell 2 rfl rfl, hS6.cell 2 rfl rfl, hS6.cell 2 rfl rfl, trivial⟩ ⟨hS9.cell 2 rfl rfl, hS9.cell 2 rfl rfl, hS9.cell 2 rfl rfl, hS9.cell 2 rfl rfl, hS9.cell 2 rfl rfl, hS9.cell 2 rfl rfl, hS9.cell 2 rfl rfl, trivial⟩) ?_ a hF
                  refine go_batch [11] (ans := []) (vs := [(5, v3)]) (l := []) (by kernel_rfl) trivial (by simp [didAddrs]) ?_
                  refine go_fin fun a hF => hK2 _ _ ?_ a hF
                  refine we_seq fun K3 hK3 => ?_
                  refine we_region [(0, 0), (1, 0), (2, 0), (3, 0), (4, 0)] rfl ?_
                  refine ge_batch [0, 1, 2] (ans := []) (vs := [(19, .int .i64 (l0.length : Int)), (18, .slice A0 l0.length c0), (17, v3)]) (l := []) (by kernel_rfl) trivial ?_
                  obtain ⟨Z1, cz1, rfl, hcp1⟩ := hS9.open2 0 rfl
                  refine ge_sliceHi (d := 20) (ty := 40) (t := 40) (el := 46) (sz := 7) (m := ((((List.replicate 0 (⟨⟨#[]⟩, 0, 0, 0, 0, 0, 0⟩ : STask)) ++ l0) ++ ([x1, x1, x1] : List STask)).length)) (c := cz1) (hn := l0.length) (x := (.tmp 17)) (y := (.tmp 19)) (A := Z1) (k' := .i64) (hi := (l0.length : Int)) (by kernel_rfl) (by kernel_rfl) (by kernel_rfl) rfl (by kernel_rfl) (by kernel_rfl) (by have h0 := hcp1; simp only [List.length_append, List.length_cons, List.length_nil] at h0; omega) ?_
                  refine ge_batch [4] (ans := []) (vs := [(4, .slice Z1 l0.length cz1)]) (l := []) (by kernel_rfl) trivial ?_
                  refine ge_nil fun a hF => hK3 _ _ ?_ a hF
                  have hS10 := hS9.takeN 1
                  obtain rfl := Option.some.inj h
                  exact we_ret (post_ret (rs := [.tmp 4]) (ans := []) (vs := [.slice Z1 l0.length cz1]) (l := []) rfl (by kernel_rfl) trivial ⟨Z1, cz1, rfl, hcp1, hS10⟩)
                · rw [if_neg hc4] at h
                  cases h
              exact go_nomore
            exact go_nomore
          · rw [if_neg hc3] at h
            cases h
        refine go_alt (fun K hK => ?_) ?_
        · refine ge_one2 ?_
          refine ge_new (d := some 15) (o := .cells #[.string x1.Name, .int .i64 x1.C, .int .i64 x1.T, .int .i64 x1.D, .int .i64 x1.J, .int .i64 x1.O, .int .i64 x1.P, .string x1.Name, .int .i64 x1.C, .int .i64 x1.T, .int .i64 x1.D, .int .i64 x1.J, .int .i64 x1.O, .int .i64 x1.P, .string x1.Name, .int .i64 x1.C, .int .i64 x1.T, .int .i64 x1.D, .int .i64 x1.J, .int .i64 x1.O, .int .i64 x1.P] 46) (v := fun b => .slice (some ⟨b, 0, none⟩) 3 3) hS3 (fun b => by kernel_rfl) fun b2 w3 hx2 hS4 => ?_
          refine ge_nil fun a hF => hK _ _ (RS.of (l := [.loaded ⟨b1, 0, none⟩ (.string x1.Name), .loaded ⟨b1, 1, none⟩ (.int .i64 x1.C), .loaded ⟨b1, 2, none⟩ (.int .i64 x1.T), .loaded ⟨b1, 3, none⟩ (.int .i64 x1.D), .loaded ⟨b1, 4, none⟩ (.int .i64 x1.J), .loaded ⟨b1, 5, none⟩ (.int .i64 x1.O), .loaded ⟨b1, 6, none⟩ (.int .i64 x1.P)]) ⟨hS3.cell 1 rfl rfl, hS3.cell 1 rfl rfl, hS3.cell 1 rfl rfl, hS3.cell 1 rfl rfl, hS3.cell 1 rfl rfl, hS3.cell 1 rfl rfl, hS3.cell 1 rfl rfl, trivial⟩ ⟨hS4.cell 2 rfl rfl, hS4.cell 2 rfl rfl, hS4.cell 2 rfl rfl, hS4.cell 2 rfl rfl, hS4.cell 2 rfl rfl, hS4.cell 2 rfl rfl, hS4.cell 2 rfl rfl, trivial⟩) ?_ a hF
          refine go_alt (fun K hK => ?_) ?_
          · have hS5 := hS4.bring 1 rfl
            by_cases hc3 : (List.replicate 0 (⟨⟨#[]⟩, 0, 0, 0, 0, 0, 0⟩ : STask)).length + l0.length ≤ 2199023255552
            · rw [if_pos hc3] at h
              refine ge_appendL (α := STask) (m := 0) (d := 11) (t := 40) (el := 46) (bytes := 64) (c1 := c0) (A1 := A0) (x := (.tmp 9)) (y := (.tmp 10)) (ty := 40) (v := v1) (z := .agg #[.string (⟨#[]⟩), .int .i64 0, .int .i64 0, .int .i64 0, .int .i64 0, .int .i64 0, .int .i64 0]) (l := (List.replicate 0 (⟨⟨#[]⟩, 0, 0, 0, 0, 0, 0⟩ : STask))) (us := l0) (by kernel_rfl) (by kernel_rfl) (by kernel_rfl) (by kernel_rfl) (by kernel_rfl) rfl hS5 (hS5.rd hR0) rfl (Nat.mul_le_of_le_div _ _ _ hc3) fun v2 w4 hS6 => ?_
              have hS7 : St w0 w4 [Own.of v2 46 ((List.replicate 0 (⟨⟨#[]⟩, 0, 0, 0, 0, 0, 0⟩ : STask)) ++ l0), Own.blk b2 (.cells #[.string x1.Name, .int .i64 x1.C, .int .i64 x1.T, .int .i64 x1.D, .int .i64 x1.J, .int .i64 x1.O, .int .i64 x1.P, .string x1.Name, .int .i64 x1.C, .int .i64 x1.T, .int .i64 x1.D, .int .i64 x1.J, .int .i64 x1.O, .int .i64 x1.P, .string x1.Name, .int .i64 x1.C, .int .i64 x1.T, .int .i64 x1.D, .int .i64 x1.J, .int .i64 x1.O, .int .i64 x1.P] 46 (0, 0)), Own.blk b1 (.cells #[.string x1.Name, .int .i64 x1.C, .int .i64 x1.T, .int .i64 x1.D, .int .i64 x1.J, .int .i64 x1.O, .int .i64 x1.P] 46 (0, 0))] := hS6
              refine ge_nil fun a hF => hK _ _ (RS.of (l := [.loaded ⟨b1, 0, none⟩ (.string x1.Name), .loaded ⟨b1, 1, none⟩ (.int .i64 x1.C), .loaded ⟨b1, 2, none⟩ (.int .i64 x1.T), .loaded ⟨b1, 3, none⟩ (.int .i64 x1.D), .loaded ⟨b1, 4, none⟩ (.int .i64 x1.J), .loaded ⟨b1, 5, none⟩ (.int .i64 x1.O), .loaded ⟨b1, 6, none⟩ (.int .i64 x1.P)]) ⟨hS4.cell 2 rfl rfl, hS4.cell 2 rfl rfl, hS4.cell 2 rfl rfl, hS4.cell 2 rfl rfl, hS4.cell 2 rfl rfl, hS4.cell 2 rfl rfl, hS4.cell 2 rfl rfl, trivial⟩ ⟨hS7.cell 2 rfl rfl, hS7.cell 2 rfl rfl, hS7.cell 2 rfl rfl, hS7.cell 2 rfl rfl, hS7.cell 2 rfl rfl, hS7.cell 2 rfl rfl, hS7.cell 2 rfl rfl, trivial⟩) ?_ a hF
              refine go_alt (fun K hK => ?_) ?_
              · by_cases hc4 : ((List.replicate 0 (⟨⟨#[]⟩, 0, 0, 0, 0, 0, 0⟩ : STask)) ++ l0).length + 3 ≤ 2199023255552
                · rw [if_pos hc4] at h
                  refine ge_appendL (α := STask) (m := 0) (d := 16) (t := 40) (el := 46) (bytes := 64) (c1 := 3) (A1 := (some ⟨b2, 0, none⟩)) (x := (.tmp 11)) (y := (.tmp 15)) (ty := 40) (v := v2) (z := .agg #[.string (⟨#[]⟩), .int .i64 0, .int .i64 0, .int .i64 0, .int .i64 0, .int .i64 0, .int .i64 0]) (l := ((List.replicate 0 (⟨⟨#[]⟩, 0, 0, 0, 0, 0, 0⟩ : STask)) ++ l0)) (us := ([x1, x1, x1] : List STask)) (by kernel_rfl) (by kernel_rfl) (by kernel_rfl) (by kernel_rfl) (by kernel_rfl) rfl hS7 (hS7.rdBlk 1 ([x1, x1, x1] : List STask) rfl rfl rfl) rfl (Nat.mul_le_of_le_div _ _ _ hc4) fun v3 w5 hS8 => ?_
                  have hS9 : St w0 w5 [Own.of v3 46 (((List.replicate 0 (⟨⟨#[]⟩, 0, 0, 0, 0, 0, 0⟩ : STask)) ++ l0) ++ ([x1, x1, x1] : List STask)), Own.blk b2 (.cells #[.string x1.Name, .int .i64 x1.C, .int .i64 x1.T, .int .i64 x1.D, .int .i64 x1.J, .int .i64 x1.O, .int .i64 x1.P, .string x1.Name, .int .i64 x1.C, .int .i64 x1.T, .int .i64 x1.D, .int .i64 x1.J, .int .i64 x1.O, .int .i64 x1.P, .string x1.Name, .int .i64 x1.C, .int .i64 x1.T, .int .i64 x1.D, .int .i64 x1.J, .int .i64 x1.O, .int .i64 x1.P] 46 (0, 0)), Own.blk b1 (.cells #[.string x1.Name, .int .i64 x1.C, .int .i64 x1.T, .int .i64 x1.D, .int .i64 x1.J, .int .i64 x1.O, .int .i64 x1.P] 46 (0, 0))] := hS8
                  refine ge_nil fun a hF => hK _ _ (RS.of (l := [.loaded ⟨b1, 0, none⟩ (.string x1.Name), .loaded ⟨b1, 1, none⟩ (.int .i64 x1.C), .loaded ⟨b1, 2, none⟩ (.int .i64 x1.T), .loaded ⟨b1, 3, none⟩ (.int .i64 x1.D), .loaded ⟨b1, 4, none⟩ (.int .i64 x1.J), .loaded ⟨b1, 5, none⟩ (.int .i64 x1.O), .loaded ⟨b1, 6, none⟩ (.int .i64 x1.P)]) ⟨hS7.cell 2 rfl rfl, hS7.cell 2 rfl rfl, hS7.cell 2 rfl rfl, hS7.cell 2 rfl rfl, hS7.cell 2 rfl rfl, hS7.cell 2 rfl rfl, hS7.cell 2 rfl rfl, trivial⟩ ⟨hS9.cell 2 rfl rfl, hS9.cell 2 rfl rfl, hS9.cell 2 rfl rfl, hS9.cell 2 rfl rfl, hS9.cell 2 rfl rfl, hS9.cell 2 rfl rfl, hS9.cell 2 rfl rfl, trivial⟩) ?_ a hF
                  refine go_batch [11] (ans := []) (vs := [(5, v3)]) (l := []) (by kernel_rfl) trivial (by simp [didAddrs]) ?_
                  refine go_fin fun a hF => hK2 _ _ ?_ a hF
                  refine we_seq fun K3 hK3 => ?_
                  refine we_region [(0, 0), (1, 0), (2, 0), (3, 0), (4, 0)] rfl ?_
                  refine ge_batch [0, 1, 2] (ans := []) (vs := [(19, .int .i64 (l0.length : Int)), (18, .slice A0 l0.length c0), (17, v3)]) (l := []) (by kernel_rfl) trivial ?_
                  obtain ⟨Z1, cz1, rfl, hcp1⟩ := hS9.open2 0 rfl
                  refine ge_sliceHi (d := 20) (ty := 40) (t := 40) (el := 46) (sz := 7) (m := ((((List.replicate 0 (⟨⟨#[]⟩, 0, 0, 0, 0, 0, 0⟩ : STask)) ++ l0) ++ ([x1, x1, x1] : List STask)).length)) (c := cz1) (hn := l0.length) (x := (.tmp 17)) (y := (.tmp 19)) (A := Z1) (k' := .i64) (hi := (l0.length : Int)) (by kernel_rfl) (by kernel_rfl) (by kernel_rfl) rfl (by kernel_rfl) (by kernel_rfl) (by have h0 := hcp1; simp only [List.length_append, List.length_cons, List.length_nil] at h0; omega) ?_
                  refine ge_batch [4] (ans := []) (vs := [(4, .slice Z1 l0.length cz1)]) (l := []) (by kernel_rfl) trivial ?_
                  refine ge_nil fun a hF => hK3 _ _ ?_ a hF
                  have hS10 := hS9.takeN 1
                  obtain rfl := Option.some.inj h
                  exact we_ret (post_ret (rs := [.tmp 4]) (ans := []) (vs := [.slice Z1 l0.length cz1]) (l := []) rfl (by kernel_rfl) trivial ⟨Z1, cz1, rfl, hcp1, hS10⟩)
                · rw [if_neg hc4] at h
                  cases h
              exact go_nomore
            · rw [if_neg hc3] at h
              cases h
          exact go_nomore
        exact go_nomore
      refine go_alt (fun K hK => ?_) ?_
      · refine ge_one2 ?_
        refine ge_new (d := some 15) (o := .cells #[.string x1.Name, .int .i64 x1.C, .int .i64 x1.T, .int .i64 x1.D, .int .i64 x1.J, .int .i64 x1.O, .int .i64 x1.P, .string x1.Name, .int .i64 x1.C, .int .i64 x1.T, .int .i64 x1.D, .int .i64 x1.J, .int .i64 x1.O, .int .i64 x1.P, .string x1.Name, .int .i64 x1.C, .int .i64 x1.T, .int .i64 x1.D, .int .i64 x1.J, .int .i64 x1.O, .int .i64 x1.P] 46) (v := fun b => .slice (some ⟨b, 0, none⟩) 3 3) hS2 (fun b => by kernel_rfl) fun b2 w2 hx2 hS3 => ?_
        refine ge_nil fun a hF => hK _ _ (RS.of (l := [.loaded ⟨b1, 0, none⟩ (.string x1.Name), .loaded ⟨b1, 1, none⟩ (.int .i64 x1.C), .loaded ⟨b1, 2, none⟩ (.int .i64 x1.T), .loaded ⟨b1, 3, none⟩ (.int .i64 x1.D), .loaded ⟨b1, 4, none⟩ (.int .i64 x1.J), .loaded ⟨b1, 5, none⟩ (.int .i64 x1.O), .loaded ⟨b1, 6, none⟩ (.int .i64 x1.P)]) ⟨hS2.cell 0 rfl rfl, hS2.cell 0 rfl rfl, hS2.cell 0 rfl rfl, hS2.cell 0 rfl rfl, hS2.cell 0 rfl rfl, hS2.cell 0 rfl rfl, hS2.cell 0 rfl rfl, trivial⟩ ⟨hS3.cell 1 rfl rfl, hS3.cell 1 rfl rfl, hS3.cell 1 rfl rfl, hS3.cell 1 rfl rfl, hS3.cell 1 rfl rfl, hS3.cell 1 rfl rfl, hS3.cell 1 rfl rfl, trivial⟩) ?_ a hF
        refine go_alt (fun K hK => ?_) ?_
        · refine ge_one2 ?_
          refine ge_make (α := STask) (d := 9) (t := 40) (el := 46) (bytes := 64) (l := 0) (c := ((IntKind.i64.wrap ((l0.length : Int) + 3)).toNat)) (x := (.const (.int .i64 0))) (y := (.tmp 8)) (ty := 40) (k1 := .i64) (k2 := .i64) (li := 0) (ci := (IntKind.i64.wrap ((l0.length : Int) + 3))) (z := .agg #[.string (⟨#[]⟩), .int .i64 0, .int .i64 0, .int .i64 0, .int .i64 0, .int .i64 0, .int .i64 0]) (z' := (⟨⟨#[]⟩, 0, 0, 0, 0, 0, 0⟩ : STask)) (by kernel_rfl) (by kernel_rfl) (by kernel_rfl) rfl (Int.toNat_of_nonneg hc1).symm (by kernel_rfl) (by kernel_rfl) rfl hS3 (Nat.zero_le _) rfl (by omega) fun v1 w3 _ hS4 => ?_
          refine ge_nil fun a hF => hK _ _ (RS.of (l := [.loaded ⟨b1, 0, none⟩ (.string x1.Name), .loaded ⟨b1, 1, none⟩ (.int .i64 x1.C), .loaded ⟨b1, 2, none⟩ (.int .i64 x1.T), .loaded ⟨b1, 3, none⟩ (.int .i64 x1.D), .loaded ⟨b1, 4, none⟩ (.int .i64 x1.J), .loaded ⟨b1, 5, none⟩ (.int .i64 x1.O), .loaded ⟨b1, 6, none⟩ (.int .i64 x1.P)]) ⟨hS3.cell 1 rfl rfl, hS3.cell 1 rfl rfl, hS3.cell 1 rfl rfl, hS3.cell 1 rfl rfl, hS3.cell 1 rfl rfl, hS3.cell 1 rfl rfl, hS3.cell 1 rfl rfl, trivial⟩ ⟨hS4.cell 2 rfl rfl, hS4.cell 2 rfl rfl, hS4.cell 2 rfl rfl, hS4.cell 2 rfl rfl, hS4.cell 2 rfl rfl, hS4.cell 2 rfl rfl, hS4.cell 2 rfl rfl, trivial⟩) ?_ a hF
          refine go_alt (fun K hK => ?_) ?_
          · by_cases hc3 : (List.replicate 0 (⟨⟨#[]⟩, 0, 0, 0, 0, 0, 0⟩ : STask)).length + l0.length ≤ 2199023255552
            · rw [if_pos hc3] at h
              refine ge_appendL (α := STask) (m := 0) (d := 11) (t := 40) (el := 46) (bytes := 64) (c1 := c0) (A1 := A0) (x := (.tmp 9)) (y := (.tmp 10)) (ty := 40) (v := v1) (z := .agg #[.string (⟨#[]⟩), .int .i64 0, .int .i64 0, .int .i64 0, .int .i64 0, .int .i64 0, .int .i64 0]) (l := (List.replicate 0 (⟨⟨#[]⟩, 0, 0, 0, 0, 0, 0⟩ : STask))) (us := l0) (by kernel_rfl) (by kernel_rfl) (by kernel_rfl) (by kernel_rfl) (by kernel_rfl) rfl hS4 (hS4.rd hR0) rfl (Nat.mul_le_of_le_div _ _ _ hc3) fun v2 w4 hS5 => ?_
              have hS6 : St w0 w4 [Own.of v2 46 ((List.replicate 0 (⟨⟨#[]⟩, 0, 0, 0, 0, 0, 0⟩ : STask)) ++ l0), Own.blk b2 (.cells #[.string x1.Name, .int .i64 x1.C, .int .i64 x1.T, .int .i64 x1.D, .int .i64 x1.J, .int .i64 x1.O, .int .i64 x1.P, .string x1.Name, .int .i64 x1.C, .int .i64 x1.T, .int .i64 x1.D, .int .i64 x1.J, .int .i64 x1.O, .int .i64 x1.P, .string x1.Name, .int .i64 x1.C, .int .i64 x1.T, .int .i64 x1.D, .int .i64 x1.J, .int .i64 x1.O, .int .i64 x1.P] 46 (0, 0)), Own.blk b1 (.cells #[.string x1.Name, .int .i64 x1.C, .int .i64 x1.T, .int .i64 x1.D, .int .i64 x1.J, .int .i64 x1.O, .int .i64 x1.P] 46 (0, 0))] := hS5
              refine ge_nil fun a hF => hK _ _ (RS.of (l := [.loaded ⟨b1, 0, none⟩ (.string x1.Name), .loaded ⟨b1, 1, none⟩ (.int .i64 x1.C), .loaded ⟨b1, 2, none⟩ (.int .i64 x1.T), .loaded ⟨b1, 3, none⟩ (.int .i64 x1.D), .loaded ⟨b1, 4, none⟩ (.int .i64 x1.J), .loaded ⟨b1, 5, none⟩ (.int .i64 x1.O), .loaded ⟨b1, 6, none⟩ (.int .i64 x1.P)]) ⟨hS4.cell 2 rfl rfl, hS4.cell 2 rfl rfl, hS4.cell 2 rfl rfl, hS4.cell 2 rfl rfl, hS4.cell 2 rfl rfl, hS4.cell 2 rfl rfl, hS4.cell 2 rfl rfl, trivial⟩ ⟨hS6.cell 2 rfl rfl, hS6.cell 2 rfl rfl, hS6.cell 2 rfl rfl, hS6.cell 2 rfl rfl, hS6.cell 2 rfl rfl, hS6.cell 2 rfl rfl, hS6.cell 2 rfl rfl, trivial⟩) ?_ a hF
              refine go_alt (fun K hK => ?_) ?_
              · by_cases hc4 : ((List.replicate 0 (⟨⟨#[]⟩, 0, 0, 0, 0, 0, 0⟩ : STask)) ++ l0).length + 3 ≤ 2199023255552
                · rw [if_pos hc4] at h
                  refine ge_appendL (α := STask) (m := 0) (d := 16) (t := 40) (el := 46) (bytes := 64) (c1 := 3) (A1 := (some ⟨b2, 0, none⟩)) (x := (.tmp 11)) (y := (.tmp 15)) (ty := 40) (v := v2) (z := .agg #[.string (⟨#[]⟩), .int .i64 0, .int .i64 0, .int .i64 0, .int .i64 0, .int .i64 0, .int .i64 0]) (l := ((List.replicate 0 (⟨⟨#[]⟩, 0, 0, 0, 0, 0, 0⟩ : STask)) ++ l0)) (us := ([x1, x1, x1] : List STask)) (by kernel_rfl) (by kernel_rfl) (by kernel_rfl) (by kernel_rfl) (by kernel_rfl) rfl hS6 (hS6.rdBlk 1 ([x1, x1, x1] : List STask) rfl rfl rfl) rfl (Nat.mul_le_of_le_div _ _ _ hc4) fun v3 w5 hS7 => ?_
                  have hS8 : St w0 w5 [Own.of v3 46 (((List.replicate 0 (⟨⟨#[]⟩, 0, 0, 0, 0, 0, 0⟩ : STask)) ++ l0) ++ ([x1, x1, x1] : List STask)), Own.blk b2 (.cells #[.string x1.Name, .int .i64 x1.C, .int .i64 x1.T, .int .i64 x1.D, .int .i64 x1.J, .int .i64 x1.O, .int .i64 x1.P, .string x1.Name, .int .i64 x1.C, .int .i64 x1.T, .int .i64 x1.D, .int .i64 x1.J, .int .i64 x1.O, .int .i64 x1.P, .string x1.Name, .int .i64 x1.C, .int .i64 x1.T, .int .i64 x1.D, .int .i64 x1.J, .int .i64 x1.O, .int .i64 x1.P] 46 (0, 0)), Own.blk b1 (.cells #[.string x1.Name, .int .i64 x1.C, .int .i64 x1.T, .int .i64 x1.D, .int .i64 x1.J, .int .i64 x1.O, .int .i64 x1.P] 46 (0, 0))] := hS7
                  refine ge_nil fun a hF => hK _ _ (RS.of (l := [.loaded ⟨b1, 0, none⟩ (.string x1.Name), .loaded ⟨b1, 1, none⟩ (.int .i64 x1.C), .loaded ⟨b1, 2, none⟩ (.int .i64 x1.T), .loaded ⟨b1, 3, none⟩ (.int .i64 x1.D), .loaded ⟨b1, 4, none⟩ (.int .i64 x1.J), .loaded ⟨b1, 5, none⟩ (.int .i64 x1.O), .loaded ⟨b1, 6, none⟩ (.int .i64 x1.P)]) ⟨hS6.cell 2 rfl rfl, hS6.cell 2 rfl rfl, hS6.cell 2 rfl rfl, hS6.cell 2 rfl rfl, hS6.cell 2 rfl rfl, hS6.cell 2 rfl rfl, hS6.cell 2 rfl rfl, trivial⟩ ⟨hS8.cell 2 rfl rfl, hS8.cell 2 rfl rfl, hS8.cell 2 rfl rfl, hS8.cell 2 rfl rfl, hS8.cell 2 rfl rfl, hS8.cell 2 rfl rfl, hS8.cell 2 rfl rfl, trivial⟩) ?_ a hF
                  refine go_batch [11] (ans := []) (vs := [(5, v3)]) (l := []) (by kernel_rfl) trivial (by simp [didAddrs]) ?_
                  refine go_fin fun a hF => hK2 _ _ ?_ a hF
                  refine we_seq fun K3 hK3 => ?_
                  refine we_region [(0, 0), (1, 0), (2, 0), (3, 0), (4, 0)] rfl ?_
                  refine ge_batch [0, 1, 2] (ans := []) (vs := [(19, .int .i64 (l0.length : Int)), (18, .slice A0 l0.length c0), (17, v3)]) (l := []) (by kernel_rfl) trivial ?_
                  obtain ⟨Z1, cz1, rfl, hcp1⟩ := hS8.open2 0 rfl
                  refine ge_sliceHi (d := 20) (ty := 40) (t := 40) (el := 46) (sz := 7) (m := ((((List.replicate 0 (⟨⟨#[]⟩, 0, 0, 0, 0, 0, 0⟩ : STask)) ++ l0) ++ ([x1, x1, x1] : List STask)).length)) (c := cz1) (hn := l0.length) (x := (.tmp 17)) (y := (.tmp 19)) (A := Z1) (k' := .i64) (hi := (l0.length : Int)) (by kernel_rfl) (by kernel_rfl) (by kernel_rfl) rfl (by kernel_rfl) (by kernel_rfl) (by have h0 := hcp1; simp only [List.length_append, List.length_cons, List.length_nil] at h0; omega) ?_
                  refine ge_batch [4] (ans := []) (vs := [(4, .slice Z1 l0.length cz1)]) (l := []) (by kernel_rfl) trivial ?_
                  refine ge_nil fun a hF => hK3 _ _ ?_ a hF
                  have hS9 := hS8.takeN 1
                  obtain rfl := Option.some.inj h
                  exact we_ret (post_ret (rs := [.tmp 4]) (ans := []) (vs := [.slice Z1 l0.length cz1]) (l := []) rfl (by kernel_rfl) trivial ⟨Z1, cz1, rfl, hcp1, hS9⟩)
                · rw [if_neg hc4] at h
                  cases h
              exact go_nomore
            · rw [if_neg hc3] at h
              cases h
          exact go_nomore
        exact go_nomore
      exact go_nomore
    · rw [if_neg hc2] at h
      cases h
  · rw [if_neg hc1] at h
    cases h
theorem punctualsame_Lend_api_Task_full (l0 : List STask) (x1 : STask) {r : List STask} (h : punctualsame_Lend_api_Task.f l0 x1 = some r) : r = l0 ++ [x1, x1, x1] := by
  unfold punctualsame_Lend_api_Task.f at h
  repeat' split at h
  all_goals first | (exact (Option.some.inj h).symm) | cases h

structure S94 where
  a0 : Int
  a1 : Int
  a2 : Int
  a3 : Int
  a4 : Int
  a5 : Int
def S94.eqb (x y : S94) : Bool := ((x.a0 == y.a0) && ((x.a1 == y.a1) && ((x.a2 == y.a2) && ((x.a3 == y.a3) && ((x.a4 == y.a4) && ((x.a5 == y.a5) && true))))))
instance : Ok S94 := ⟨fun x => Ok.ok x.a0 ∧ Ok.ok x.a1 ∧ Ok.ok x.a2 ∧ Ok.ok x.a3 ∧ Ok.ok x.a4 ∧ Ok.ok x.a5 ∧ True⟩
instance : Flat S94 := ⟨6, fun x => [.int .i64 x.a0, .int .i64 x.a1, .int .i64 x.a2, .int .i64 x.a3, .int .i64 x.a4, .int .i64 x.a5], fun _ => rfl, fun _ => rfl, by decide⟩

/-! punctual/punctualref.sixOf -/
abbrev punctualref_sixOf.Post (w0 : World) (r : S94) (e : Ending) (w : World) : Prop := e = .returned (.agg #[.int .i64 r.a0, .int .i64 r.a1, .int .i64 r.a2, .int .i64 r.a3, .int .i64 r.a4, .int .i64 r.a5]) ∧ St w0 w []
def punctualref_sixOf.f (x0 : STask) : S94 :=
  (⟨x0.C, x0.T, x0.D, x0.J, x0.O, x0.P⟩ : S94)
theorem punctualref_sixOf_ok (x0 : STask) (w0 : World) (r : S94) (h : punctualref_sixOf.f x0 = r) :
    Calls Tryd.prog 66 #[.agg #[.string x0.Name, .int .i64 x0.C, .int .i64 x0.T, .int .i64 x0.D, .int .i64 x0.J, .int .i64 x0.O, .int .i64 x0.P]] w0 (punctualref_sixOf.Post w0 r) := by
  have hS := St.start w0
  unfold punctualref_sixOf.f at h
  refine calls_enter (n := 16) (args := [.agg #[.string x0.Name, .int .i64 x0.C, .int .i64 x0.T, .int .i64 x0.D, .int .i64 x0.J, .int .i64 x0.O, .int .i64 x0.P]]) (fn := Tryd.f66) rfl rfl rfl rfl ?_
  show WE _ _ _ _ [(0, .agg #[.string x0.Name, .int .i64 x0.C, .int .i64 x0.T, .int .i64 x0.D, .int .i64 x0.J, .int .i64 x0.O, .int .i64 x0.P])] _
  refine we_seq fun K1 hK1 => ?_
  refine we_region [(0, 1), (1, 1)] rfl ?_
  refine ge_new (d := some 1) (o := .cells #[.string x0.Name, .int .i64 x0.C, .int .i64 x0.T, .int .i64 x0.D, .int .i64 x0.J, .int .i64 x0.O, .int .i64 x0.P] 46) (v := fun b => .pointer (some ⟨b, 0, none⟩)) hS (fun b => by kernel_rfl) fun b1 w1 hx1 hS1 => ?_
  refine ge_new (d := some 2) (o := .cells #[.int .i64 0, .int .i64 0, .int .i64 0, .int .i64 0, .int .i64 0, .int .i64 0] 94) (v := fun b => .pointer (some ⟨b, 0, none⟩)) hS1 (fun b => by kernel_rfl) fun b2 w2 hx2 hS2 => ?_
  refine ge_nil fun a hF => hK1 _ _ ?_ a hF
  refine we_seq fun K2 hK2 => ?_
  refine we_region [(0, 0), (1, 0), (2, 0), (3, 0), (4, 0), (5, 0), (6, 0), (7, 0), (8, 0), (9, 0), (10, 0), (11, 0), (12, 0), (13, 2)] rfl ?_
  refine ge_batch [0, 1, 2, 3, 4, 5, 6, 7, 8, 9, 10, 11, 12] (ans := [.val (.int .i64 x0.C), .val (.int .i64 x0.T), .val (.int .i64 x0.D), .val (.int .i64 x0.J), .val (.int .i64 x0.O), .val (.int .i64 x0.P)]) (vs := [(15, .agg #[.int .i64 x0.C, .int .i64 x0.T, .int .i64 x0.D, .int .i64 x0.J, .int .i64 x0.O, .int .i64 x0.P]), (14, .int .i64 x0.P), (13, .pointer (some ⟨b1, 6, none⟩)), (12, .int .i64 x0.O), (11, .pointer (some ⟨b1, 5, none⟩)), (10, .int .i64 x0.J), (9, .pointer (some ⟨b1, 4, none⟩)), (8, .int .i64 x0.D), (7, .pointer (some ⟨b1, 3, none⟩)), (6, .int .i64 x0.T), (5, .pointer (some ⟨b1, 2, none⟩)), (4, .int .i64 x0.C), (3, .pointer (some ⟨b1, 1, none⟩))]) (l := [.loaded ⟨b1, 1, none⟩ (.int .i64 x0.C), .loaded ⟨b1, 2, none⟩ (.int .i64 x0.T), .loaded ⟨b1, 3, none⟩ (.int .i64 x0.D), .loaded ⟨b1, 4, none⟩ (.int .i64 x0.J), .loaded ⟨b1, 5, none⟩ (.int .i64 x0.O), .loaded ⟨b1, 6, none⟩ (.int .i64 x0.P)]) (by kernel_rfl) ⟨hS2.cell 1 rfl rfl, hS2.cell 1 rfl rfl, hS2.cell 1 rfl rfl, hS2.cell 1 rfl rfl, hS2.cell 1 rfl rfl, hS2.cell 1 rfl rfl, trivial⟩ ?_
  refine ge_set (b := b2) (j := 0) (cs := #[.int .i64 0, .int .i64 0, .int .i64 0, .int .i64 0, .int .i64 0, .int .i64 0]) (t := 94) (vs := [.int .i64 x0.C, .int .i64 x0.T, .int .i64 x0.D, .int .i64 x0.J, .int .i64 x0.O, .int .i64 x0.P]) hS2 (by kernel_rfl) rfl rfl fun w3 hS3 => ?_
  have hS4 : St w0 w3 [Own.blk b2 (.cells #[.int .i64 x0.C, .int .i64 x0.T, .int .i64 x0.D, .int .i64 x0.J, .int .i64 x0.O, .int .i64 x0.P] 94 (0, 0)), Own.blk b1 (.cells #[.string x0.Name, .int .i64 x0.C, .int .i64 x0.T, .int .i64 x0.D, .int .i64 x0.J, .int .i64 x0.O, .int .i64 x0.P] 46 (0, 0))] := hS3
  refine ge_nil fun a hF => hK2 _ _ ?_ a hF
  have hS5 := hS4.takeN 0
  subst h
  exact we_ret (post_ret (rs := [.cell 2 94]) (ans := [.val (.int .i64 x0.C), .val (.int .i64 x0.T), .val (.int .i64 x0.D), .val (.int .i64 x0.J), .val (.int .i64 x0.O), .val (.int .i64 x0.P)]) (vs := [.agg #[.int .i64 x0.C, .int .i64 x0.T, .int .i64 x0.D, .int .i64 x0.J, .int .i64 x0.O, .int .i64 x0.P]]) (l := [.loaded ⟨b2, 0, none⟩ (.int .i64 x0.C), .loaded ⟨b2, 1, none⟩ (.int .i64 x0.T), .loaded ⟨b2, 2, none⟩ (.int .i64 x0.D), .loaded ⟨b2, 3, none⟩ (.int .i64 x0.J), .loaded ⟨b2, 4, none⟩ (.int .i64 x0.O), .loaded ⟨b2, 5, none⟩ (.int .i64 x0.P)]) rfl (by kernel_rfl) ⟨hS4.cell 0 rfl rfl, hS4.cell 0 rfl rfl, hS4.cell 0 rfl rfl, hS4.cell 0 rfl rfl, hS4.cell 0 rfl rfl, hS4.cell 0 rfl rfl, trivial⟩ ⟨rfl, hS5⟩)

/-! punctual/punctualref.CheckSet -/
abbrev punctualref_CheckSet.Post (w0 : World) (r : SFault) (e : Ending) (w : World) : Prop := e = .returned (.agg #[.int .i64 r.Code, .int .i64 r.At]) ∧ St w0 w []
def punctualref_CheckSet.p0 (l0 : List STask) : Option (Unit ⊕ SFault) :=
    if (l0.length : Int) = 0 then
      some (.inr (punctualref_F.f 2 0))
    else
      if (l0.length : Int) > 8 then
        some (.inr (punctualref_F.f 2 0))
      else
        some (.inl ())
def punctualref_CheckSet.p2 (e1 : STask) : Option (Bool ⊕ SFault) :=
    if (e1.Name.size : Int) ≥ 1 then
      some (.inl (decide ((e1.Name.size : Int) ≤ 10)))
    else
      some (.inl false)
def punctualref_CheckSet.r3 (e1 : STask) : Bool × Int → Option ((Bool × Int) ⊕ (Bool ⊕ SFault))
  | (q3, z1) =>
    if z1 < (e1.Name.size : Int) then
      if q3 = true then
        if 0 ≤ z1 then
          match e1.Name[(z1).toNat]? with
          | none => none
          | some b3 =>
            if (b3.toNat : Int) ≥ 97 then
              some (.inl (decide ((b3.toNat : Int) ≤ 122), IntKind.i64.wrap (z1 + 1)))
            else
              some (.inl (false, IntKind.i64.wrap (z1 + 1)))
        else
          none
      else
        some (.inl (false, IntKind.i64.wrap (z1 + 1)))
    else
      some (.inr (.inl q3))
def punctualref_CheckSet.r4 (l0 : List STask) (i1 : Nat) (e1 : STask) : Nat → Option (Nat ⊕ (Unit ⊕ SFault))
  | i2 =>
    if (i2 : Int) < (((l0.take i1).drop 0).length : Int) then
      match ((l0.take i1).drop 0)[i2]? with
      | none => none
      | some e2 =>
        if e2.Name.toList = e1.Name.toList then
          some (.inr (.inr (punctualref_F.f 5 (i1 : Int))))
        else
          some (.inl (i2 + 1))
    else
      some (.inr (.inl ()))
def punctualref_CheckSet.r5 (i1 : Nat) (e1 : STask) : Nat → Option (Nat ⊕ (Unit ⊕ SFault))
  | i3 =>
    if (i3 : Int) < 6 then
      match ([(punctualref_sixOf.f e1).a0, (punctualref_sixOf.f e1).a1, (punctualref_sixOf.f e1).a2, (punctualref_sixOf.f e1).a3, (punctualref_sixOf.f e1).a4, (punctualref_sixOf.f e1).a5] : List Int)[i3]? with
      | none => none
      | some e3 =>
        match ([1, 1, 1, 0, 0, 0] : List Int)[i3]? with
        | none => none
        | some e4 =>
          if e3 < e4 then
            some (.inr (.inr (punctualref_F.f 3 (i1 : Int))))
          else
            match ([10000, 10000, 10000, 10000, 10000, 1000] : List Int)[i3]? with
            | none => none
            | some e5 =>
              if e3 > e5 then
                some (.inr (.inr (punctualref_F.f 3 (i1 : Int))))
              else
                some (.inl (i3 + 1))
    else
      some (.inr (.inl ()))
def punctualref_CheckSet.r1 (K : Nat) (l0 : List STask) : Nat → Option (Nat ⊕ (Unit ⊕ SFault))
  | i1 =>
    if (i1 : Int) < (l0.length : Int) then
      match l0[i1]? with
      | none => none
      | some e1 =>
        match punctualref_CheckSet.p2 e1 with
        | none => none
        | some (.inl q2) =>
          match iter (punctualref_CheckSet.r3 e1) K (q2, 0) with
          | none => none
          | some (.inl q5) =>
            if q5 = true then
              if i1 ≤ l0.length then
                match iter (punctualref_CheckSet.r4 l0 i1 e1) K 0 with
                | none => none
                | some (.inl _) =>
                  match iter (punctualref_CheckSet.r5 i1 e1) K 0 with
                  | none => none
                  | some (.inl _) =>
                    if e1.D < e1.C then
                      some (.inr (.inr (punctualref_F.f 12 (i1 : Int))))
                    else
                      some (.inl (i1 + 1))
                  | some (.inr rr1) =>
                    some (.inr (.inr rr1))
                | some (.inr rr2) =>
                  some (.inr (.inr rr2))
              else
                none
            else
              some (.inr (.inr (punctualref_F.f 4 (i1 : Int))))
          | some (.inr rr3) =>
            some (.inr (.inr rr3))
        | some (.inr rr4) =>
          some (.inr (.inr rr4))
    else
      some (.inr (.inl ()))
def punctualref_CheckSet.f (K : Nat) (l0 : List STask) : Option SFault :=
  match punctualref_CheckSet.p0 l0 with
  | none => none
  | some (.inl _) =>
    match iter (punctualref_CheckSet.r1 K l0) K 0 with
    | none => none
    | some (.inl _) =>
      some (⟨0, 0⟩ : SFault)
    | some (.inr rr5) =>
      some rr5
  | some (.inr rr6) =>
    some rr6
abbrev punctualref_CheckSet.A0 (K : Nat) (w0 : World) (l0 : List STask) (A0 : Option Addr) (c0 : Nat) (hR0 : RdL w0 A0 l0) (hL0 : l0.length ≤ c0) (b1 : Nat) : Unit → Act → World → Prop := fun (s : Unit) a w => St w0 w [Own.blk b1 (.cells #[.int .i64 0, .int .i64 0] 26 (0, 0))] ∧ Frm 113 a [(0, .slice A0 l0.length c0), (2, .pointer (some ⟨b1, 0, none⟩))]
abbrev punctualref_CheckSet.B0 (K : Nat) (w0 : World) (l0 : List STask) (A0 : Option Addr) (c0 : Nat) (hR0 : RdL w0 A0 l0) (hL0 : l0.length ≤ c0) (b1 : Nat) : SFault → Exit → Act → World → Prop := Rets Tryd.prog Tryd.f23 (punctualref_CheckSet.Post w0)
theorem punctualref_CheckSet_p0 (K : Nat) (w0 : World) (l0 : List STask) (A0 : Option Addr) (c0 : Nat) (hR0 : RdL w0 A0 l0) (hL0 : l0.length ≤ c0) (b1 : Nat) (o : Unit ⊕ SFault) (h : punctualref_CheckSet.p0 l0 = some o) (w : World) (hS : St w0 w [Own.blk b1 (.cells #[.int .i64 0, .int .i64 0] 26 (0, 0))]) (Q : Exit → Act → World → Prop) (hQ : ∀ x a w, Outs (punctualref_CheckSet.A0 K w0 l0 A0 c0 hR0 hL0 b1) (punctualref_CheckSet.B0 K w0 l0 A0 c0 hR0 hL0 b1) o x a w → Q x a w) : WE Tryd.prog 113 (subF Tryd.f23 [1, 0]) Q [(0, .slice A0 l0.length c0), (2, .pointer (some ⟨b1, 0, none⟩))] w := by
  simp only [punctualref_CheckSet.p0] at h
  refine we_seq fun K3 hK3 => ?_
  refine we_region [(0, 0), (1, 0), (2, 0), (3, 0), (4, 0), (5, 0), (6, 0), (7, 0)] rfl ?_
  refine ge_batch [0, 1, 2, 3] (ans := []) (vs := [(16, .bool ((l0.length : Int) == 0)), (15, .bool ((l0.length : Int) == 0)), (14, .int .i64 (l0.length : Int)), (13, .slice A0 l0.length c0)]) (l := []) (by kernel_rfl) trivial ?_
  by_cases hc1 : (l0.length : Int) = 0
  · rw [if_pos hc1] at h
    refine ge_known (t := 16) (b := ((l0.length : Int) == 0)) (c := true) (by kernel_rfl) (beq_iff_eq.2 hc1) ?_
    refine ge_batch [4, 5, 6, 7] (ans := []) (vs := [(20, .bool true), (19, undef), (18, undef), (17, undef)]) (l := []) (by kernel_rfl) trivial ?_
    refine ge_nil fun a hF => hK3 _ _ ?_ a hF
    refine we_true (by kernel_rfl) ?_
    refine we_seq fun K4 hK4 => ?_
    refine we_region [(0, 1), (1, 2)] rfl ?_
    refine ge_call (d := some 21) (f := 21) (args := #[.int .i64 2, .int .i64 0]) (by kernel_rfl) (punctualref_F_ok 2 0 _ _ rfl) ?_
    rintro _ w2 ⟨rfl, hS2⟩
    refine ⟨_, rfl, hS2.below, ?_⟩
    have hS3 := hS.call hS2
    refine ge_set (b := b1) (j := 0) (cs := #[.int .i64 0, .int .i64 0]) (t := 26) (vs := [.int .i64 ((punctualref_F.f 2 0).Code), .int .i64 ((punctualref_F.f 2 0).At)]) hS3 (by kernel_rfl) rfl rfl fun w3 hS4 => ?_
    have hS5 : St w0 w3 [Own.blk b1 (.cells #[.int .i64 ((punctualref_F.f 2 0).Code), .int .i64 ((punctualref_F.f 2 0).At)] 26 (0, 0))] := hS4
    refine ge_nil fun a hF => hK4 _ _ ?_ a hF
    have hS6 := hS5.takeN 0
    obtain rfl := Option.some.inj h
    exact we_ret fun a hF => hQ _ _ _ (Outs.out nofun ⟨rfl, (post_ret (rs := [.cell 2 26]) (ans := [.val (.int .i64 ((punctualref_F.f 2 0).Code)), .val (.int .i64 ((punctualref_F.f 2 0).At))]) (vs := [.agg #[.int .i64 ((punctualref_F.f 2 0).Code), .int .i64 ((punctualref_F.f 2 0).At)]]) (l := [.loaded ⟨b1, 0, none⟩ (.int .i64 ((punctualref_F.f 2 0).Code)), .loaded ⟨b1, 1, none⟩ (.int .i64 ((punctualref_F.f 2 0).At))]) rfl (by kernel_rfl) ⟨hS5.cell 0 rfl rfl, hS5.cell 0 rfl rfl, trivial⟩ ⟨rfl, hS6⟩) a hF⟩)
  · rw [if_neg hc1] at h
    refine ge_known (t := 16) (b := ((l0.length : Int) == 0)) (c := false) (by kernel_rfl) (beq_eq_false_iff_ne.2 hc1) ?_
    refine ge_batch [4, 5, 6, 7] (ans := []) (vs := [(20, .bool (decide ((l0.length : Int) > 8))), (19, .bool (decide ((l0.length : Int) > 8))), (18, .int .i64 (l0.length : Int)), (17, .slice A0 l0.length c0)]) (l := []) (by kernel_rfl) trivial ?_
    refine ge_nil fun a hF => hK3 _ _ ?_ a hF
    by_cases hc2 : (l0.length : Int) > 8
    · rw [if_pos hc2] at h
      refine we_known (t := 20) (b := decide ((l0.length : Int) > 8)) (v := true) (by kernel_rfl) (decide_eq_true hc2) ?_
      refine we_true (by kernel_rfl) ?_
      refine we_seq fun K5 hK5 => ?_
      refine we_region [(0, 1), (1, 2)] rfl ?_
      refine ge_call (d := some 21) (f := 21) (args := #[.int .i64 2, .int .i64 0]) (by kernel_rfl) (punctualref_F_ok 2 0 _ _ rfl) ?_
      rintro _ w4 ⟨rfl, hS7⟩
      refine ⟨_, rfl, hS7.below, ?_⟩
      have hS8 := hS.call hS7
      refine ge_set (b := b1) (j := 0) (cs := #[.int .i64 0, .int .i64 0]) (t := 26) (vs := [.int .i64 ((punctualref_F.f 2 0).Code), .int .i64 ((punctualref_F.f 2 0).At)]) hS8 (by kernel_rfl) rfl rfl fun w5 hS9 => ?_
      have hS10 : St w0 w5 [Own.blk b1 (.cells #[.int .i64 ((punctualref_F.f 2 0).Code), .int .i64 ((punctualref_F.f 2 0).At)] 26 (0, 0))] := hS9
      refine ge_nil fun a hF => hK5 _ _ ?_ a hF
      have hS11 := hS10.takeN 0
      obtain rfl := Option.some.inj h
      exact we_ret fun a hF => hQ _ _ _ (Outs.out nofun ⟨rfl, (post_ret (rs := [.cell 2 26]) (ans := [.val (.int .i64 ((punctualref_F.f 2 0).Code)), .val (.int .i64 ((punctualref_F.f 2 0).At))]) (vs := [.agg #[.int .i64 ((punctualref_F.f 2 0).Code), .int .i64 ((punctualref_F.f 2 0).At)]]) (l := [.loaded ⟨b1, 0, none⟩ (.int .i64 ((punctualref_F.f 2 0).Code)), .loaded ⟨b1, 1, none⟩ (.int .i64 ((punctualref_F.f 2 0).At))]) rfl (by kernel_rfl) ⟨hS10.cell 0 rfl rfl, hS10.cell 0 rfl rfl, trivial⟩ ⟨rfl, hS11⟩) a hF⟩)
    · rw [if_neg hc2] at h
      refine we_known (t := 20) (b := decide ((l0.length : Int) > 8)) (v := false) (by kernel_rfl) (decide_eq_false hc2) ?_
      refine we_false (by kernel_rfl) ?_
      obtain rfl := Option.some.inj h
      exact we_skip fun a hF => hQ _ _ _ (Outs.again ⟨hS, hF.weaken ⟨by kernel_rfl, by kernel_rfl, trivial⟩⟩)
abbrev punctualref_CheckSet.A2 (K : Nat) (w0 : World) (l0 : List STask) (A0 : Option Addr) (c0 : Nat) (hR0 : RdL w0 A0 l0) (hL0 : l0.length ≤ c0) (b1 : Nat) (i1 : Nat) (hc3 : (i1 : Int) < (l0.length : Int)) (e1 : STask) (hx2 : l0[i1]? = some e1) (b2 : Nat) : Bool → Act → World → Prop := fun (s : Bool) a w => St w0 w [Own.blk b2 (.cells #[.string e1.Name, .int .i64 e1.C, .int .i64 e1.T, .int .i64 e1.D, .int .i64 e1.J, .int .i64 e1.O, .int .i64 e1.P] 46 (0, 0)), Own.blk b1 (.cells #[.int .i64 0, .int .i64 0] 26 (0, 0))] ∧ Frm 113 a [(0, .slice A0 l0.length c0), (2, .pointer (some ⟨b1, 0, none⟩)), (3, .int .i64 (i1 : Int)), (4, .pointer (some ⟨b2, 0, none⟩)), (5, .bool s), (22, .slice A0 l0.length c0), (23, .int .i64 (l0.length : Int)), (24, .int .i64 (i1 : Int))]
abbrev punctualref_CheckSet.B2 (K : Nat) (w0 : World) (l0 : List STask) (A0 : Option Addr) (c0 : Nat) (hR0 : RdL w0 A0 l0) (hL0 : l0.length ≤ c0) (b1 : Nat) (i1 : Nat) (hc3 : (i1 : Int) < (l0.length : Int)) (e1 : STask) (hx2 : l0[i1]? = some e1) (b2 : Nat) : SFault → Exit → Act → World → Prop := Rets Tryd.prog Tryd.f23 (punctualref_CheckSet.Post w0)
theorem punctualref_CheckSet_p2 (K : Nat) (w0 : World) (l0 : List STask) (A0 : Option Addr) (c0 : Nat) (hR0 : RdL w0 A0 l0) (hL0 : l0.length ≤ c0) (b1 : Nat) (i1 : Nat) (hc3 : (i1 : Int) < (l0.length : Int)) (e1 : STask) (hx2 : l0[i1]? = some e1) (b2 : Nat) (o : Bool ⊕ SFault) (h : punctualref_CheckSet.p2 e1 = some o) (w : World) (hS : St w0 w [Own.blk b2 (.cells #[.string e1.Name, .int .i64 e1.C, .int .i64 e1.T, .int .i64 e1.D, .int .i64 e1.J, .int .i64 e1.O, .int .i64 e1.P] 46 (0, 0)), Own.blk b1 (.cells #[.int .i64 0, .int .i64 0] 26 (0, 0))]) (Q : Exit → Act → World → Prop) (hQ : ∀ x a w, Outs (punctualref_CheckSet.A2 K w0 l0 A0 c0 hR0 hL0 b1 i1 hc3 e1 hx2 b2) (punctualref_CheckSet.B2 K w0 l0 A0 c0 hR0 hL0 b1 i1 hc3 e1 hx2 b2) o x a w → Q x a w) : WE Tryd.prog 113 (subF Tryd.f23 [1, 1, 0, 1, 0, 0, 1, 1, 0, 0, 1, 0]) Q [(0, .slice A0 l0.length c0), (2, .pointer (some ⟨b1, 0, none⟩)), (3, .int .i64 (i1 : Int)), (4, .pointer (some ⟨b2, 0, none⟩)), (22, .slice A0 l0.length c0), (23, .int .i64 (l0.length : Int)), (24, .int .i64 (i1 : Int)), (25, .bool true), (26, .int .i64 (i1 : Int)), (27, .pointer (some ⟨blkOf A0, offOf A0 + i1 * 7, none⟩)), (28, .agg #[.string e1.Name, .int .i64 e1.C, .int .i64 e1.T, .int .i64 e1.D, .int .i64 e1.J, .int .i64 e1.O, .int .i64 e1.P])] w := by
  simp only [punctualref_CheckSet.p2] at h
  refine we_region [(0, 0), (1, 0), (2, 0), (3, 0), (4, 0), (5, 0), (6, 0), (7, 0), (8, 0), (9, 0), (10, 0)] rfl ?_
  refine ge_batch [0, 1, 2, 3, 4] (ans := [.val (.string e1.Name)]) (vs := [(33, .bool (decide ((e1.Name.size : Int) ≥ 1))), (32, .bool (decide ((e1.Name.size : Int) ≥ 1))), (31, .int .i64 (e1.Name.size : Int)), (30, .string e1.Name), (29, .pointer (some ⟨b2, 0, none⟩))]) (l := [.loaded ⟨b2, 0, none⟩ (.string e1.Name)]) (by kernel_rfl) ⟨hS.cell 0 rfl rfl, trivial⟩ ?_
  by_cases hc4 : (e1.Name.size : Int) ≥ 1
  · rw [if_pos hc4] at h
    refine ge_known (t := 33) (b := decide ((e1.Name.size : Int) ≥ 1)) (c := true) (by kernel_rfl) (decide_eq_true hc4) ?_
    refine ge_batch [5, 6, 7, 8, 9, 10] (ans := [.val (.string e1.Name)]) (vs := [(5, .bool (decide ((e1.Name.size : Int) ≤ 10))), (38, .bool (decide ((e1.Name.size : Int) ≤ 10))), (37, .bool (decide ((e1.Name.size : Int) ≤ 10))), (36, .int .i64 (e1.Name.size : Int)), (35, .string e1.Name), (34, .pointer (some ⟨b2, 0, none⟩))]) (l := [.loaded ⟨b2, 0, none⟩ (.string e1.Name)]) (by kernel_rfl) ⟨hS.cell 0 rfl rfl, trivial⟩ ?_
    have hS16 := hS.bring 1 rfl
    have hS17 := hS16.bring 1 rfl
    obtain rfl := Option.some.inj h
    exact ge_nil fun a hF => hQ _ _ _ (Outs.again ⟨hS17, hF.weaken ⟨by kernel_rfl, by kernel_rfl, by kernel_rfl, by kernel_rfl, by kernel_rfl, by kernel_rfl, by kernel_rfl, by kernel_rfl, trivial⟩⟩)
  · rw [if_neg hc4] at h
    refine ge_known (t := 33) (b := decide ((e1.Name.size : Int) ≥ 1)) (c := false) (by kernel_rfl) (decide_eq_false hc4) ?_
    refine ge_batch [5, 6, 7, 8, 9, 10] (ans := []) (vs := [(5, .bool false), (38, .bool false), (37, undef), (36, undef), (35, undef), (34, undef)]) (l := []) (by kernel_rfl) trivial ?_
    have hS18 := hS.bring 1 rfl
    have hS19 := hS18.bring 1 rfl
    obtain rfl := Option.some.inj h
    exact ge_nil fun a hF => hQ _ _ _ (Outs.again ⟨hS19, hF.weaken ⟨by kernel_rfl, by kernel_rfl, by kernel_rfl, by kernel_rfl, by kernel_rfl, by kernel_rfl, by kernel_rfl, by kernel_rfl, trivial⟩⟩)
abbrev punctualref_CheckSet.A3 (K : Nat) (w0 : World) (l0 : List STask) (A0 : Option Addr) (c0 : Nat) (hR0 : RdL w0 A0 l0) (hL0 : l0.length ≤ c0) (b1 : Nat) (i1 : Nat) (hc3 : (i1 : Int) < (l0.length : Int)) (e1 : STask) (hx2 : l0[i1]? = some e1) (b2 : Nat) (q2 : Bool) : (Bool × Int) → Act → World → Prop := fun (s : Bool × Int) a w => St w0 w [Own.blk b2 (.cells #[.string e1.Name, .int .i64 e1.C, .int .i64 e1.T, .int .i64 e1.D, .int .i64 e1.J, .int .i64 e1.O, .int .i64 e1.P] 46 (0, 0)), Own.blk b1 (.cells #[.int .i64 0, .int .i64 0] 26 (0, 0))] ∧ Frm 113 a [(0, .slice A0 l0.length c0), (2, .pointer (some ⟨b1, 0, none⟩)), (3, .int .i64 (i1 : Int)), (4, .pointer (some ⟨b2, 0, none⟩)), (5, .bool s.1), (6, .int .i64 s.2), (22, .slice A0 l0.length c0), (23, .int .i64 (l0.length : Int)), (24, .int .i64 (i1 : Int))]
abbrev punctualref_CheckSet.B3 (K : Nat) (w0 : World) (l0 : List STask) (A0 : Option Addr) (c0 : Nat) (hR0 : RdL w0 A0 l0) (hL0 : l0.length ≤ c0) (b1 : Nat) (i1 : Nat) (hc3 : (i1 : Int) < (l0.length : Int)) (e1 : STask) (hx2 : l0[i1]? = some e1) (b2 : Nat) (q2 : Bool) : (Bool ⊕ SFault) → Exit → Act → World → Prop := Exits 2 (fun (s : Bool) a w => St w0 w [Own.blk b2 (.cells #[.string e1.Name, .int .i64 e1.C, .int .i64 e1.T, .int .i64 e1.D, .int .i64 e1.J, .int .i64 e1.O, .int .i64 e1.P] 46 (0, 0)), Own.blk b1 (.cells #[.int .i64 0, .int .i64 0] 26 (0, 0))] ∧ Frm 113 a [(0, .slice A0 l0.length c0), (2, .pointer (some ⟨b1, 0, none⟩)), (3, .int .i64 (i1 : Int)), (4, .pointer (some ⟨b2, 0, none⟩)), (5, .bool s), (22, .slice A0 l0.length c0), (23, .int .i64 (l0.length : Int)), (24, .int .i64 (i1 : Int))]) (Rets Tryd.prog Tryd.f23 (punctualref_CheckSet.Post w0))
theorem punctualref_CheckSet_r3 (K : Nat) (w0 : World) (l0 : List STask) (A0 : Option Addr) (c0 : Nat) (hR0 : RdL w0 A0 l0) (hL0 : l0.length ≤ c0) (b1 : Nat) (i1 : Nat) (hc3 : (i1 : Int) < (l0.length : Int)) (e1 : STask) (hx2 : l0[i1]? = some e1) (b2 : Nat) (q2 : Bool) (s : Bool × Int) (o : (Bool × Int) ⊕ (Bool ⊕ SFault)) (h : punctualref_CheckSet.r3 e1 s = some o) (a : Act) (w : World) (hA : punctualref_CheckSet.A3 K w0 l0 A0 c0 hR0 hL0 b1 i1 hc3 e1 hx2 b2 q2 s a w) (Q : Exit → Act → World → Prop) (hQ : ∀ x a w, Outs (punctualref_CheckSet.A3 K w0 l0 A0 c0 hR0 hL0 b1 i1 hc3 e1 hx2 b2 q2) (punctualref_CheckSet.B3 K w0 l0 A0 c0 hR0 hL0 b1 i1 hc3 e1 hx2 b2 q2) o x a w → Q x a w) : (subF Tryd.f23 [1, 1, 0, 1, 0, 0, 1, 1, 0, 0, 1, 1, 0, 1, 0, 0]).wp Tryd.prog Q a w := by
  obtain ⟨q3, z1⟩ := s
  obtain ⟨hS, hF⟩ := hA
  replace hS : St w0 w [Own.blk b2 (.cells #[.string e1.Name, .int .i64 e1.C, .int .i64 e1.T, .int .i64 e1.D, .int .i64 e1.J, .int .i64 e1.O, .int .i64 e1.P] 46 (0, 0)), Own.blk b1 (.cells #[.int .i64 0, .int .i64 0] 26 (0, 0))] := hS
  simp only [punctualref_CheckSet.r3] at h
  refine (?_ : WE Tryd.prog 113 (subF Tryd.f23 [1, 1, 0, 1, 0, 0, 1, 1, 0, 0, 1, 1, 0, 1, 0, 0]) Q [(0, .slice A0 l0.length c0), (2, .pointer (some ⟨b1, 0, none⟩)), (3, .int .i64 (i1 : Int)), (4, .pointer (some ⟨b2, 0, none⟩)), (5, .bool q3), (6, .int .i64 z1), (22, .slice A0 l0.length c0), (23, .int .i64 (l0.length : Int)), (24, .int .i64 (i1 : Int))] w) a hF
  clear hF a
  refine we_seq fun K15 hK15 => ?_
  refine we_seq fun K16 hK16 => ?_
  refine we_region [(0, 0), (1, 0), (2, 0), (3, 0), (4, 0)] rfl ?_
  refine ge_batch [0, 1, 2, 3, 4] (ans := [.val (.string e1.Name)]) (vs := [(43, .bool (decide (z1 < (e1.Name.size : Int)))), (42, .int .i64 (e1.Name.size : Int)), (41, .string e1.Name), (40, .pointer (some ⟨b2, 0, none⟩)), (39, .int .i64 z1)]) (l := [.loaded ⟨b2, 0, none⟩ (.string e1.Name)]) (by kernel_rfl) ⟨hS.cell 0 rfl rfl, trivial⟩ ?_
  refine ge_nil fun a hF => hK16 _ _ ?_ a hF
  by_cases hc5 : z1 < (e1.Name.size : Int)
  · rw [if_pos hc5] at h
    refine we_known (t := 43) (b := decide (z1 < (e1.Name.size : Int))) (v := true) (by kernel_rfl) (decide_eq_true hc5) ?_
    refine we_true (by kernel_rfl) ?_
    refine we_skip fun a hF => hK15 _ _ ?_ a hF
    refine we_seq fun K17 hK17 => ?_
    refine we_block ?_
    refine we_region [(0, 0), (1, 0), (2, 0), (3, 0), (4, 0), (5, 0), (6, 0), (7, 0), (8, 0), (9, 0), (10, 0), (11, 0), (12, 0), (13, 0), (14, 0), (15, 0)] rfl ?_
    refine ge_batch [0, 1] (ans := []) (vs := [(47, .bool q3), (46, .bool q3)]) (l := []) (by kernel_rfl) trivial ?_
    by_cases hc6 : q3 = true
    · rw [if_pos hc6] at h
      refine ge_known (t := 47) (b := q3) (c := true) (by kernel_rfl) hc6 ?_
      refine ge_batch [2, 3, 4] (ans := [.val (.string e1.Name)]) (vs := [(50, .int .i64 z1), (49, .string e1.Name), (48, .pointer (some ⟨b2, 0, none⟩))]) (l := [.loaded ⟨b2, 0, none⟩ (.string e1.Name)]) (by kernel_rfl) ⟨hS.cell 0 rfl rfl, trivial⟩ ?_
      by_cases hc7 : 0 ≤ z1
      · rw [if_pos hc7] at h
        rcases hx4 : e1.Name[(z1).toNat]? with _ | b3
        · rw [hx4] at h; cases h
        rw [hx4] at h
        simp only [] at h
        refine ge_letter (d := 51) (ty := 5) (t := 9) (x := (.tmp 49)) (y := (.tmp 50)) (k' := .i64) (j := z1) (jn := ((z1).toNat)) (s := e1.Name) (b := b3) (by kernel_rfl) (by kernel_rfl) (by kernel_rfl) (by kernel_rfl) (Int.toNat_of_nonneg hc7).symm hx4 ?_
        refine ge_batch [6, 7, 8] (ans := []) (vs := [(54, .bool (decide ((b3.toNat : Int) ≥ 97))), (53, .bool (decide ((b3.toNat : Int) ≥ 97))), (52, .bool (decide ((b3.toNat : Int) ≥ 97)))]) (l := []) (by kernel_rfl) trivial ?_
        by_cases hc8 : (b3.toNat : Int) ≥ 97
        · rw [if_pos hc8] at h
          refine ge_known (t := 54) (b := decide ((b3.toNat : Int) ≥ 97)) (c := true) (by kernel_rfl) (decide_eq_true hc8) ?_
          refine ge_batch [9, 10, 11] (ans := [.val (.string e1.Name)]) (vs := [(57, .int .i64 z1), (56, .string e1.Name), (55, .pointer (some ⟨b2, 0, none⟩))]) (l := [.loaded ⟨b2, 0, none⟩ (.string e1.Name)]) (by kernel_rfl) ⟨hS.cell 0 rfl rfl, trivial⟩ ?_
          refine ge_letter (d := 58) (ty := 5) (t := 9) (x := (.tmp 56)) (y := (.tmp 57)) (k' := .i64) (j := z1) (jn := ((z1).toNat)) (s := e1.Name) (b := b3) (by kernel_rfl) (by kernel_rfl) (by kernel_rfl) (by kernel_rfl) (Int.toNat_of_nonneg hc7).symm hx4 ?_
          refine ge_batch [13, 14, 15] (ans := []) (vs := [(5, .bool (decide ((b3.toNat : Int) ≤ 122))), (60, .bool (decide ((b3.toNat : Int) ≤ 122))), (59, .bool (decide ((b3.toNat : Int) ≤ 122)))]) (l := []) (by kernel_rfl) trivial ?_
          refine ge_nil fun a hF => hK17 _ _ ?_ a hF
          refine we_region [(0, 0), (1, 0), (2, 0)] rfl ?_
          refine ge_batch [0, 1, 2] (ans := []) (vs := [(6, .int .i64 (IntKind.i64.wrap (z1 + 1))), (45, .int .i64 (IntKind.i64.wrap (z1 + 1))), (44, .int .i64 z1)]) (l := []) (by kernel_rfl) trivial ?_
          have hS23 := hS.bring 1 rfl
          have hS24 := hS23.bring 1 rfl
          obtain rfl := Option.some.inj h
          exact ge_nil fun a hF => hQ _ _ _ (Outs.again ⟨hS24, hF.weaken ⟨by kernel_rfl, by kernel_rfl, by kernel_rfl, by kernel_rfl, by kernel_rfl, by kernel_rfl, by kernel_rfl, by kernel_rfl, by kernel_rfl, trivial⟩⟩)
        · rw [if_neg hc8] at h
          refine ge_known (t := 54) (b := decide ((b3.toNat : Int) ≥ 97)) (c := false) (by kernel_rfl) (decide_eq_false hc8) ?_
          refine ge_batch [9, 10, 11, 12, 13, 14, 15] (ans := []) (vs := [(5, .bool false), (60, .bool false), (59, undef), (58, undef), (57, undef), (56, undef), (55, undef)]) (l := []) (by kernel_rfl) trivial ?_
          refine ge_nil fun a hF => hK17 _ _ ?_ a hF
          refine we_region [(0, 0), (1, 0), (2, 0)] rfl ?_
          refine ge_batch [0, 1, 2] (ans := []) (vs := [(6, .int .i64 (IntKind.i64.wrap (z1 + 1))), (45, .int .i64 (IntKind.i64.wrap (z1 + 1))), (44, .int .i64 z1)]) (l := []) (by kernel_rfl) trivial ?_
          have hS25 := hS.bring 1 rfl
          have hS26 := hS25.bring 1 rfl
          obtain rfl := Option.some.inj h
          exact ge_nil fun a hF => hQ _ _ _ (Outs.again ⟨hS26, hF.weaken ⟨by kernel_rfl, by kernel_rfl, by kernel_rfl, by kernel_rfl, by kernel_rfl, by kernel_rfl, by kernel_rfl, by kernel_rfl, by kernel_rfl, trivial⟩⟩)
      · rw [if_neg hc7] at h
        cases h
    · rw [if_neg hc6] at h
      refine ge_known (t := 47) (b := q3) (c := false) (by kernel_rfl) (Bool.eq_false_iff.2 hc6) ?_
      refine ge_batch [2, 3, 4, 5, 6, 7, 8, 9, 10, 11, 12, 13, 14, 15] (ans := []) (vs := [(5, .bool false), (60, .bool false), (59, undef), (58, undef), (57, undef), (56, undef), (55, undef), (54, .bool false), (53, .bool false), (52, undef), (51, undef), (50, undef), (49, undef), (48, undef)]) (l := []) (by kernel_rfl) trivial ?_
      refine ge_nil fun a hF => hK17 _ _ ?_ a hF
      refine we_region [(0, 0), (1, 0), (2, 0)] rfl ?_
      refine ge_batch [0, 1, 2] (ans := []) (vs := [(6, .int .i64 (IntKind.i64.wrap (z1 + 1))), (45, .int .i64 (IntKind.i64.wrap (z1 + 1))), (44, .int .i64 z1)]) (l := []) (by kernel_rfl) trivial ?_
      have hS27 := hS.bring 1 rfl
      have hS28 := hS27.bring 1 rfl
      obtain rfl := Option.some.inj h
      exact ge_nil fun a hF => hQ _ _ _ (Outs.again ⟨hS28, hF.weaken ⟨by kernel_rfl, by kernel_rfl, by kernel_rfl, by kernel_rfl, by kernel_rfl, by kernel_rfl, by kernel_rfl, by kernel_rfl, by kernel_rfl, trivial⟩⟩)
  · rw [if_neg hc5] at h
    refine we_known (t := 43) (b := decide (z1 < (e1.Name.size : Int))) (v := false) (by kernel_rfl) (decide_eq_false hc5) ?_
    refine we_false (by kernel_rfl) ?_
    have hS29 := hS.bring 1 rfl
    have hS30 := hS29.bring 1 rfl
    obtain rfl := Option.some.inj h
    exact we_exit fun a hF => hQ _ _ _ (Outs.out nofun (Exits.here ⟨hS30, hF.weaken ⟨by kernel_rfl, by kernel_rfl, by kernel_rfl, by kernel_rfl, by kernel_rfl, by kernel_rfl, by kernel_rfl, by kernel_rfl, trivial⟩⟩))
abbrev punctualref_CheckSet.A4 (K : Nat) (w0 : World) (l0 : List STask) (A0 : Option Addr) (c0 : Nat) (hR0 : RdL w0 A0 l0) (hL0 : l0.length ≤ c0) (b1 : Nat) (i1 : Nat) (hc3 : (i1 : Int) < (l0.length : Int)) (e1 : STask) (hx2 : l0[i1]? = some e1) (b2 : Nat) (q2 : Bool) (q5 : Bool) (hc9 : q5 = true) (hc10 : i1 ≤ l0.length) : Nat → Act → World → Prop := fun (s : Nat) a w => St w0 w [Own.blk b2 (.cells #[.string e1.Name, .int .i64 e1.C, .int .i64 e1.T, .int .i64 e1.D, .int .i64 e1.J, .int .i64 e1.O, .int .i64 e1.P] 46 (0, 0)), Own.blk b1 (.cells #[.int .i64 0, .int .i64 0] 26 (0, 0))] ∧ Frm 113 a [(0, .slice A0 l0.length c0), (2, .pointer (some ⟨b1, 0, none⟩)), (3, .int .i64 (i1 : Int)), (4, .pointer (some ⟨b2, 0, none⟩)), (22, .slice A0 l0.length c0), (23, .int .i64 (l0.length : Int)), (24, .int .i64 (i1 : Int)), (67, .slice (subA A0 c0 0 7) (((l0.take i1).drop 0).length) (c0 - 0)), (68, .int .i64 (((l0.take i1).drop 0).length : Int)), (69, .int .i64 (s : Int))]
abbrev punctualref_CheckSet.B4 (K : Nat) (w0 : World) (l0 : List STask) (A0 : Option Addr) (c0 : Nat) (hR0 : RdL w0 A0 l0) (hL0 : l0.length ≤ c0) (b1 : Nat) (i1 : Nat) (hc3 : (i1 : Int) < (l0.length : Int)) (e1 : STask) (hx2 : l0[i1]? = some e1) (b2 : Nat) (q2 : Bool) (q5 : Bool) (hc9 : q5 = true) (hc10 : i1 ≤ l0.length) : (Unit ⊕ SFault) → Exit → Act → World → Prop := Exits 4 (fun (s : Unit) a w => St w0 w [Own.blk b2 (.cells #[.string e1.Name, .int .i64 e1.C, .int .i64 e1.T, .int .i64 e1.D, .int .i64 e1.J, .int .i64 e1.O, .int .i64 e1.P] 46 (0, 0)), Own.blk b1 (.cells #[.int .i64 0, .int .i64 0] 26 (0, 0))] ∧ Frm 113 a [(0, .slice A0 l0.length c0), (2, .pointer (some ⟨b1, 0, none⟩)), (3, .int .i64 (i1 : Int)), (4, .pointer (some ⟨b2, 0, none⟩)), (22, .slice A0 l0.length c0), (23, .int .i64 (l0.length : Int)), (24, .int .i64 (i1 : Int))]) (Rets Tryd.prog Tryd.f23 (punctualref_CheckSet.Post w0))
theorem punctualref_CheckSet_r4 (K : Nat) (w0 : World) (l0 : List STask) (A0 : Option Addr) (c0 : Nat) (hR0 : RdL w0 A0 l0) (hL0 : l0.length ≤ c0) (b1 : Nat) (i1 : Nat) (hc3 : (i1 : Int) < (l0.length : Int)) (e1 : STask) (hx2 : l0[i1]? = some e1) (b2 : Nat) (q2 : Bool) (q5 : Bool) (hc9 : q5 = true) (hc10 : i1 ≤ l0.length) (s : Nat) (o : Nat ⊕ (Unit ⊕ SFault)) (h : punctualref_CheckSet.r4 l0 i1 e1 s = some o) (a : Act) (w : World) (hA : punctualref_CheckSet.A4 K w0 l0 A0 c0 hR0 hL0 b1 i1 hc3 e1 hx2 b2 q2 q5 hc9 hc10 s a w) (Q : Exit → Act → World → Prop) (hQ : ∀ x a w, Outs (punctualref_CheckSet.A4 K w0 l0 A0 c0 hR0 hL0 b1 i1 hc3 e1 hx2 b2 q2 q5 hc9 hc10) (punctualref_CheckSet.B4 K w0 l0 A0 c0 hR0 hL0 b1 i1 hc3 e1 hx2 b2 q2 q5 hc9 hc10) o x a w → Q x a w) : (subF Tryd.f23 [1, 1, 0, 1, 0, 0, 1, 1, 0, 0, 1, 1, 1, 1, 0, 1, 0, 0]).wp Tryd.prog Q a w := by
  obtain ⟨i2, hs⟩ : ∃ z, z = s := ⟨s, rfl⟩
  subst hs
  obtain ⟨hS, hF⟩ := hA
  replace hS : St w0 w [Own.blk b2 (.cells #[.string e1.Name, .int .i64 e1.C, .int .i64 e1.T, .int .i64 e1.D, .int .i64 e1.J, .int .i64 e1.O, .int .i64 e1.P] 46 (0, 0)), Own.blk b1 (.cells #[.int .i64 0, .int .i64 0] 26 (0, 0))] := hS
  simp only [punctualref_CheckSet.r4] at h
  refine (?_ : WE Tryd.prog 113 (subF Tryd.f23 [1, 1, 0, 1, 0, 0, 1, 1, 0, 0, 1, 1, 1, 1, 0, 1, 0, 0]) Q [(0, .slice A0 l0.length c0), (2, .pointer (some ⟨b1, 0, none⟩)), (3, .int .i64 (i1 : Int)), (4, .pointer (some ⟨b2, 0, none⟩)), (22, .slice A0 l0.length c0), (23, .int .i64 (l0.length : Int)), (24, .int .i64 (i1 : Int)), (67, .slice (subA A0 c0 0 7) (((l0.take i1).drop 0).length) (c0 - 0)), (68, .int .i64 (((l0.take i1).drop 0).length : Int)), (69, .int .i64 (i2 : Int))] w) a hF
  clear hF a
  refine we_seq fun K22 hK22 => ?_
  refine we_region [(0, 0)] rfl ?_
  refine ge_batch [0] (ans := []) (vs := [(70, .bool (decide ((i2 : Int) < (((l0.take i1).drop 0).length : Int))))]) (l := []) (by kernel_rfl) trivial ?_
  refine ge_nil fun a hF => hK22 _ _ ?_ a hF
  refine we_seq fun K23 hK23 => ?_
  by_cases hc11 : (i2 : Int) < (((l0.take i1).drop 0).length : Int)
  · rw [if_pos hc11] at h
    refine we_known (t := 70) (b := decide ((i2 : Int) < (((l0.take i1).drop 0).length : Int))) (v := true) (by kernel_rfl) (decide_eq_true hc11) ?_
    refine we_true (by kernel_rfl) ?_
    refine we_skip fun a hF => hK23 _ _ ?_ a hF
    refine we_seq fun K24 hK24 => ?_
    refine we_block ?_
    refine we_seq fun K25 hK25 => ?_
    refine we_region [(0, 0), (1, 0), (2, 1), (3, 2)] rfl ?_
    rcases hx5 : ((l0.take i1).drop 0)[i2]? with _ | e2
    · rw [hx5] at h; cases h
    rw [hx5] at h
    simp only [] at h
    refine ge_index (d := 71) (ty := 0) (t := 40) (el := 46) (sz := 7) (m := ((l0.take i1).drop 0).length) (c := (c0 - 0)) (x := (.tmp 67)) (y := (.tmp 69)) (A := (subA A0 c0 0 7)) (k' := .i64) (j := (i2 : Int)) (jn := i2) (b0 := blkOf (subA A0 c0 0 7)) (o0 := offOf (subA A0 c0 0 7)) (by kernel_rfl) (by kernel_rfl) (by kernel_rfl) (by kernel_rfl) (by kernel_rfl) ((hS.rd (RdL.part hR0 hL0 0 i1)).eqSome (pos_of_get hx5)) rfl (lt_of_get hx5) ?_
    refine ge_batch [1] (ans := [.val (.string e2.Name), .val (.int .i64 e2.C), .val (.int .i64 e2.T), .val (.int .i64 e2.D), .val (.int .i64 e2.J), .val (.int .i64 e2.O), .val (.int .i64 e2.P)]) (vs := [(72, .agg #[.string e2.Name, .int .i64 e2.C, .int .i64 e2.T, .int .i64 e2.D, .int .i64 e2.J, .int .i64 e2.O, .int .i64 e2.P])]) (l := [.loaded ⟨blkOf (subA A0 c0 0 7), offOf (subA A0 c0 0 7) + i2 * 7, none⟩ (.string e2.Name), .loaded ⟨blkOf (subA A0 c0 0 7), offOf (subA A0 c0 0 7) + i2 * 7 + 1, none⟩ (.int .i64 e2.C), .loaded ⟨blkOf (subA A0 c0 0 7), offOf (subA A0 c0 0 7) + i2 * 7 + 2, none⟩ (.int .i64 e2.T), .loaded ⟨blkOf (subA A0 c0 0 7), offOf (subA A0 c0 0 7) + i2 * 7 + 3, none⟩ (.int .i64 e2.D), .loaded ⟨blkOf (subA A0 c0 0 7), offOf (subA A0 c0 0 7) + i2 * 7 + 4, none⟩ (.int .i64 e2.J), .loaded ⟨blkOf (subA A0 c0 0 7), offOf (subA A0 c0 0 7) + i2 * 7 + 5, none⟩ (.int .i64 e2.O), .loaded ⟨blkOf (subA A0 c0 0 7), offOf (subA A0 c0 0 7) + i2 * 7 + 6, none⟩ (.int .i64 e2.P)]) (by kernel_rfl) ⟨RdL.cell (j := 0) (hS.rd (RdL.part hR0 hL0 0 i1)) hx5 rfl, RdL.cell (j := 1) (hS.rd (RdL.part hR0 hL0 0 i1)) hx5 rfl, RdL.cell (j := 2) (hS.rd (RdL.part hR0 hL0 0 i1)) hx5 rfl, RdL.cell (j := 3) (hS.rd (RdL.part hR0 hL0 0 i1)) hx5 rfl, RdL.cell (j := 4) (hS.rd (RdL.part hR0 hL0 0 i1)) hx5 rfl, RdL.cell (j := 5) (hS.rd (RdL.part hR0 hL0 0 i1)) hx5 rfl, RdL.cell (j := 6) (hS.rd (RdL.part hR0 hL0 0 i1)) hx5 rfl, trivial⟩ ?_
    refine ge_new (d := some 8) (o := .cells #[.string (⟨#[]⟩), .int .i64 0, .int .i64 0, .int .i64 0, .int .i64 0, .int .i64 0, .int .i64 0] 46) (v := fun b => .pointer (some ⟨b, 0, none⟩)) hS (fun b => by kernel_rfl) fun b4 w11 hx6 hS34 => ?_
    refine ge_set (b := b4) (j := 0) (cs := #[.string (⟨#[]⟩), .int .i64 0, .int .i64 0, .int .i64 0, .int .i64 0, .int .i64 0, .int .i64 0]) (t := 46) (vs := [.string e2.Name, .int .i64 e2.C, .int .i64 e2.T, .int .i64 e2.D, .int .i64 e2.J, .int .i64 e2.O, .int .i64 e2.P]) hS34 (by kernel_rfl) rfl rfl fun w12 hS35 => ?_
    have hS36 : St w0 w12 [Own.blk b4 (.cells #[.string e2.Name, .int .i64 e2.C, .int .i64 e2.T, .int .i64 e2.D, .int .i64 e2.J, .int .i64 e2.O, .int .i64 e2.P] 46 (0, 0)), Own.blk b2 (.cells #[.string e1.Name, .int .i64 e1.C, .int .i64 e1.T, .int .i64 e1.D, .int .i64 e1.J, .int .i64 e1.O, .int .i64 e1.P] 46 (0, 0)), Own.blk b1 (.cells #[.int .i64 0, .int .i64 0] 26 (0, 0))] := hS35
    refine ge_nil fun a hF => hK25 _ _ ?_ a hF
    refine we_seq fun K26 hK26 => ?_
    refine we_region [(0, 0), (1, 0), (2, 0), (3, 0), (4, 0)] rfl ?_
    refine ge_batch [0, 1, 2, 3, 4] (ans := [.val (.string e2.Name), .val (.string e1.Name)]) (vs := [(77, .bool (e2.Name.toList == e1.Name.toList)), (76, .string e1.Name), (75, .pointer (some ⟨b2, 0, none⟩)), (74, .string e2.Name), (73, .pointer (some ⟨b4, 0, none⟩))]) (l := [.loaded ⟨b4, 0, none⟩ (.string e2.Name), .loaded ⟨b2, 0, none⟩ (.string e1.Name)]) (by kernel_rfl) ⟨hS36.cell 0 rfl rfl, hS36.cell 1 rfl rfl, trivial⟩ ?_
    refine ge_nil fun a hF => hK26 _ _ ?_ a hF
    by_cases hc12 : e2.Name.toList = e1.Name.toList
    · rw [if_pos hc12] at h
      refine we_known (t := 77) (b := (e2.Name.toList == e1.Name.toList)) (v := true) (by kernel_rfl) (beq_iff_eq.2 hc12) ?_
      refine we_true (by kernel_rfl) ?_
      refine we_seq fun K27 hK27 => ?_
      refine we_region [(0, 0), (1, 1), (2, 2)] rfl ?_
      refine ge_batch [0] (ans := []) (vs := [(78, .int .i64 (i1 : Int))]) (l := []) (by kernel_rfl) trivial ?_
      refine ge_call (d := some 79) (f := 21) (args := #[.int .i64 5, .int .i64 (i1 : Int)]) (by kernel_rfl) (punctualref_F_ok 5 (i1 : Int) _ _ rfl) ?_
      rintro _ w13 ⟨rfl, hS37⟩
      refine ⟨_, rfl, hS37.below, ?_⟩
      have hS38 := hS36.call hS37
      have hS39 := hS38.bring 2 rfl
      refine ge_set (b := b1) (j := 0) (cs := #[.int .i64 0, .int .i64 0]) (t := 26) (vs := [.int .i64 ((punctualref_F.f 5 (i1 : Int)).Code), .int .i64 ((punctualref_F.f 5 (i1 : Int)).At)]) hS39 (by kernel_rfl) rfl rfl fun w14 hS40 => ?_
      have hS41 : St w0 w14 [Own.blk b1 (.cells #[.int .i64 ((punctualref_F.f 5 (i1 : Int)).Code), .int .i64 ((punctualref_F.f 5 (i1 : Int)).At)] 26 (0, 0)), Own.blk b4 (.cells #[.string e2.Name, .int .i64 e2.C, .int .i64 e2.T, .int .i64 e2.D, .int .i64 e2.J, .int .i64 e2.O, .int .i64 e2.P] 46 (0, 0)), Own.blk b2 (.cells #[.string e1.Name, .int .i64 e1.C, .int .i64 e1.T, .int .i64 e1.D, .int .i64 e1.J, .int .i64 e1.O, .int .i64 e1.P] 46 (0, 0))] := hS40
      refine ge_nil fun a hF => hK27 _ _ ?_ a hF
      have hS42 := hS41.takeN 0
      obtain rfl := Option.some.inj h
      exact we_ret fun a hF => hQ _ _ _ (Outs.out nofun (Exits.on ⟨rfl, (post_ret (rs := [.cell 2 26]) (ans := [.val (.int .i64 ((punctualref_F.f 5 (i1 : Int)).Code)), .val (.int .i64 ((punctualref_F.f 5 (i1 : Int)).At))]) (vs := [.agg #[.int .i64 ((punctualref_F.f 5 (i1 : Int)).Code), .int .i64 ((punctualref_F.f 5 (i1 : Int)).At)]]) (l := [.loaded ⟨b1, 0, none⟩ (.int .i64 ((punctualref_F.f 5 (i1 : Int)).Code)), .loaded ⟨b1, 1, none⟩ (.int .i64 ((punctualref_F.f 5 (i1 : Int)).At))]) rfl (by kernel_rfl) ⟨hS41.cell 0 rfl rfl, hS41.cell 0 rfl rfl, trivial⟩ ⟨rfl, hS42⟩) a hF⟩))
    · rw [if_neg hc12] at h
      refine we_known (t := 77) (b := (e2.Name.toList == e1.Name.toList)) (v := false) (by kernel_rfl) (beq_eq_false_iff_ne.2 hc12) ?_
      refine we_false (by kernel_rfl) ?_
      refine we_skip fun a hF => hK24 _ _ ?_ a hF
      refine we_region [(0, 0), (1, 0)] rfl ?_
      refine ge_addn (d := 80) (ty := 3) (x := (.tmp 69)) (y := (.const (.int .i64 1))) (t := 3) (t2 := 3) (k := .i64) (m := i2) (by kernel_rfl) (by kernel_rfl) (by kernel_rfl) (by have h0 := hR0.small; have h1 : ((l0.take i1).drop 0).length ≤ l0.length := (by simp only [List.length_drop, List.length_take]; omega); omega) ?_
      refine ge_batch [1] (ans := []) (vs := [(69, .int .i64 ((i2 + 1 : Nat) : Int))]) (l := []) (by kernel_rfl) trivial ?_
      have hS43 := hS36.bring 2 rfl
      have hS44 := hS43.bring 2 rfl
      have hS45 := hS44.takeN 2
      obtain rfl := Option.some.inj h
      exact ge_nil fun a hF => hQ _ _ _ (Outs.again ⟨hS45, hF.weaken ⟨by kernel_rfl, by kernel_rfl, by kernel_rfl, by kernel_rfl, by kernel_rfl, by kernel_rfl, by kernel_rfl, by kernel_rfl, by kernel_rfl, by kernel_rfl, trivial⟩⟩)
  · rw [if_neg hc11] at h
    refine we_known (t := 70) (b := decide ((i2 : Int) < (((l0.take i1).drop 0).length : Int))) (v := false) (by kernel_rfl) (decide_eq_false hc11) ?_
    refine we_false (by kernel_rfl) ?_
    have hS46 := hS.bring 1 rfl
    have hS47 := hS46.bring 1 rfl
    obtain rfl := Option.some.inj h
    exact we_exit fun a hF => hQ _ _ _ (Outs.out nofun (Exits.here ⟨hS47, hF.weaken ⟨by kernel_rfl, by kernel_rfl, by kernel_rfl, by kernel_rfl, by kernel_rfl, by kernel_rfl, by kernel_rfl, trivial⟩⟩))
abbrev punctualref_CheckSet.A5 (K : Nat) (w0 : World) (l0 : List STask) (A0 : Option Addr) (c0 : Nat) (hR0 : RdL w0 A0 l0) (hL0 : l0.length ≤ c0) (b1 : Nat) (i1 : Nat) (hc3 : (i1 : Int) < (l0.length : Int)) (e1 : STask) (hx2 : l0[i1]? = some e1) (b2 : Nat) (q2 : Bool) (q5 : Bool) (hc9 : q5 = true) (hc10 : i1 ≤ l0.length) (b5 : Nat) (b6 : Nat) : Nat → Act → World → Prop := fun (s : Nat) a w => St w0 w [Own.blk b6 (.cells #[.int .i64 10000, .int .i64 10000, .int .i64 10000, .int .i64 10000, .int .i64 10000, .int .i64 1000] 94 (0, 0)), Own.blk b5 (.cells #[.int .i64 1, .int .i64 1, .int .i64 1, .int .i64 0, .int .i64 0, .int .i64 0] 94 (0, 0)), Own.blk b2 (.cells #[.string e1.Name, .int .i64 e1.C, .int .i64 e1.T, .int .i64 e1.D, .int .i64 e1.J, .int .i64 e1.O, .int .i64 e1.P] 46 (0, 0)), Own.blk b1 (.cells #[.int .i64 0, .int .i64 0] 26 (0, 0))] ∧ Frm 113 a [(0, .slice A0 l0.length c0), (2, .pointer (some ⟨b1, 0, none⟩)), (3, .int .i64 (i1 : Int)), (4, .pointer (some ⟨b2, 0, none⟩)), (9, .pointer (some ⟨b5, 0, none⟩)), (10, .pointer (some ⟨b6, 0, none⟩)), (22, .slice A0 l0.length c0), (23, .int .i64 (l0.length : Int)), (24, .int .i64 (i1 : Int)), (84, .agg #[.int .i64 ((punctualref_sixOf.f e1).a0), .int .i64 ((punctualref_sixOf.f e1).a1), .int .i64 ((punctualref_sixOf.f e1).a2), .int .i64 ((punctualref_sixOf.f e1).a3), .int .i64 ((punctualref_sixOf.f e1).a4), .int .i64 ((punctualref_sixOf.f e1).a5)]), (85, .int .i64 (s : Int))]
abbrev punctualref_CheckSet.B5 (K : Nat) (w0 : World) (l0 : List STask) (A0 : Option Addr) (c0 : Nat) (hR0 : RdL w0 A0 l0) (hL0 : l0.length ≤ c0) (b1 : Nat) (i1 : Nat) (hc3 : (i1 : Int) < (l0.length : Int)) (e1 : STask) (hx2 : l0[i1]? = some e1) (b2 : Nat) (q2 : Bool) (q5 : Bool) (hc9 : q5 = true) (hc10 : i1 ≤ l0.length) (b5 : Nat) (b6 : Nat) : (Unit ⊕ SFault) → Exit → Act → World → Prop := Exits 6 (fun (s : Unit) a w => St w0 w [Own.blk b2 (.cells #[.string e1.Name, .int .i64 e1.C, .int .i64 e1.T, .int .i64 e1.D, .int .i64 e1.J, .int .i64 e1.O, .int .i64 e1.P] 46 (0, 0)), Own.blk b1 (.cells #[.int .i64 0, .int .i64 0] 26 (0, 0))] ∧ Frm 113 a [(0, .slice A0 l0.length c0), (2, .pointer (some ⟨b1, 0, none⟩)), (3, .int .i64 (i1 : Int)), (4, .pointer (some ⟨b2, 0, none⟩)), (22, .slice A0 l0.length c0), (23, .int .i64 (l0.length : Int)), (24, .int .i64 (i1 : Int))]) (Rets Tryd.prog Tryd.f23 (punctualref_CheckSet.Post w0))
theorem punctualref_CheckSet_r5 (K : Nat) (w0 : World) (l0 : List STask) (A0 : Option Addr) (c0 : Nat) (hR0 : RdL w0 A0 l0) (hL0 : l0.length ≤ c0) (b1 : Nat) (i1 : Nat) (hc3 : (i1 : Int) < (l0.length : Int)) (e1 : STask) (hx2 : l0[i1]? = some e1) (b2 : Nat) (q2 : Bool) (q5 : Bool) (hc9 : q5 = true) (hc10 : i1 ≤ l0.length) (b5 : Nat) (b6 : Nat) (s : Nat) (o : Nat ⊕ (Unit ⊕ SFault)) (h : punctualref_CheckSet.r5 i1 e1 s = some o) (a : Act) (w : World) (hA : punctualref_CheckSet.A5 K w0 l0 A0 c0 hR0 hL0 b1 i1 hc3 e1 hx2 b2 q2 q5 hc9 hc10 b5 b6 s a w) (Q : Exit → Act → World → Prop) (hQ : ∀ x a w, Outs (punctualref_CheckSet.A5 K w0 l0 A0 c0 hR0 hL0 b1 i1 hc3 e1 hx2 b2 q2 q5 hc9 hc10 b5 b6) (punctualref_CheckSet.B5 K w0 l0 A0 c0 hR0 hL0 b1 i1 hc3 e1 hx2 b2 q2 q5 hc9 hc10 b5 b6) o x a w → Q x a w) : (subF Tryd.f23 [1, 1, 0, 1, 0, 0, 1, 1, 0, 0, 1, 1, 1, 1, 1, 1, 0, 1, 0, 0]).wp Tryd.prog Q a w := by
  obtain ⟨i3, hs⟩ : ∃ z, z = s := ⟨s, rfl⟩
  subst hs
  obtain ⟨hS, hF⟩ := hA
  replace hS : St w0 w [Own.blk b6 (.cells #[.int .i64 10000, .int .i64 10000, .int .i64 10000, .int .i64 10000, .int .i64 10000, .int .i64 1000] 94 (0, 0)), Own.blk b5 (.cells #[.int .i64 1, .int .i64 1, .int .i64 1, .int .i64 0, .int .i64 0, .int .i64 0] 94 (0, 0)), Own.blk b2 (.cells #[.string e1.Name, .int .i64 e1.C, .int .i64 e1.T, .int .i64 e1.D, .int .i64 e1.J, .int .i64 e1.O, .int .i64 e1.P] 46 (0, 0)), Own.blk b1 (.cells #[.int .i64 0, .int .i64 0] 26 (0, 0))] := hS
  simp only [punctualref_CheckSet.r5] at h
  refine (?_ : WE Tryd.prog 113 (subF Tryd.f23 [1, 1, 0, 1, 0, 0, 1, 1, 0, 0, 1, 1, 1, 1, 1, 1, 0, 1, 0, 0]) Q [(0, .slice A0 l0.length c0), (2, .pointer (some ⟨b1, 0, none⟩)), (3, .int .i64 (i1 : Int)), (4, .pointer (some ⟨b2, 0, none⟩)), (9, .pointer (some ⟨b5, 0, none⟩)), (10, .pointer (some ⟨b6, 0, none⟩)), (22, .slice A0 l0.length c0), (23, .int .i64 (l0.length : Int)), (24, .int .i64 (i1 : Int)), (84, .agg #[.int .i64 ((punctualref_sixOf.f e1).a0), .int .i64 ((punctualref_sixOf.f e1).a1), .int .i64 ((punctualref_sixOf.f e1).a2), .int .i64 ((punctualref_sixOf.f e1).a3), .int .i64 ((punctualref_sixOf.f e1).a4), .int .i64 ((punctualref_sixOf.f e1).a5)]), (85, .int .i64 (i3 : Int))] w) a hF
  clear hF a
  refine we_seq fun K31 hK31 => ?_
  refine we_region [(0, 0)] rfl ?_
  refine ge_batch [0] (ans := []) (vs := [(86, .bool (decide ((i3 : Int) < 6)))]) (l := []) (by kernel_rfl) trivial ?_
  refine ge_nil fun a hF => hK31 _ _ ?_ a hF
  refine we_seq fun K32 hK32 => ?_
  by_cases hc13 : (i3 : Int) < 6
  · rw [if_pos hc13] at h
    refine we_known (t := 86) (b := decide ((i3 : Int) < 6)) (v := true) (by kernel_rfl) (decide_eq_true hc13) ?_
    refine we_true (by kernel_rfl) ?_
    refine we_skip fun a hF => hK32 _ _ ?_ a hF
    refine we_seq fun K33 hK33 => ?_
    refine we_block ?_
    refine we_seq fun K34 hK34 => ?_
    refine we_region [(0, 0), (1, 0), (2, 0), (3, 0)] rfl ?_
    refine ge_batch [0] (ans := []) (vs := [(87, .int .i64 (i3 : Int))]) (l := []) (by kernel_rfl) trivial ?_
    rcases hx9 : ([(punctualref_sixOf.f e1).a0, (punctualref_sixOf.f e1).a1, (punctualref_sixOf.f e1).a2, (punctualref_sixOf.f e1).a3, (punctualref_sixOf.f e1).a4, (punctualref_sixOf.f e1).a5] : List Int)[i3]? with _ | e3
    · rw [hx9] at h; cases h
    rw [hx9] at h
    simp only [] at h
    refine ge_arr2 (α := Int) (d := 88) (ty := 3) (t := 94) (len := 6) (el := 3) (x := (.tmp 84)) (y := (.tmp 85)) (k' := .i64) (j := (i3 : Int)) (jn := i3) (l := ([(punctualref_sixOf.f e1).a0, (punctualref_sixOf.f e1).a1, (punctualref_sixOf.f e1).a2, (punctualref_sixOf.f e1).a3, (punctualref_sixOf.f e1).a4, (punctualref_sixOf.f e1).a5] : List Int)) (u := e3) (cs := #[.int .i64 ((punctualref_sixOf.f e1).a0), .int .i64 ((punctualref_sixOf.f e1).a1), .int .i64 ((punctualref_sixOf.f e1).a2), .int .i64 ((punctualref_sixOf.f e1).a3), .int .i64 ((punctualref_sixOf.f e1).a4), .int .i64 ((punctualref_sixOf.f e1).a5)]) (v := .int .i64 e3) (by kernel_rfl) (by kernel_rfl) rfl (by kernel_rfl) (by kernel_rfl) (by kernel_rfl) rfl rfl rfl hx9 rfl (fun w' => by kernel_rfl) ?_
    refine ge_batch [2, 3] (ans := []) (vs := [(12, .int .i64 e3), (11, .int .i64 (i3 : Int))]) (l := []) (by kernel_rfl) trivial ?_
    refine ge_nil fun a hF => hK34 _ _ ?_ a hF
    refine we_seq fun K35 hK35 => ?_
    refine we_region [(0, 0), (1, 0), (2, 0), (3, 0), (4, 0), (5, 0), (6, 0), (7, 0), (8, 0), (9, 0), (10, 0), (11, 0)] rfl ?_
    refine ge_batch [0, 1] (ans := []) (vs := [(90, .int .i64 (i3 : Int)), (89, .int .i64 e3)]) (l := []) (by kernel_rfl) trivial ?_
    rcases hx10 : ([1, 1, 1, 0, 0, 0] : List Int)[i3]? with _ | e4
    · rw [hx10] at h; cases h
    rw [hx10] at h
    simp only [] at h
    refine ge_arrAddr (d := 91) (ty := 0) (t := 94) (len := 6) (el := 3) (b := b5) (o0 := 0) (sz := 1) (x := (.tmp 9)) (y := (.tmp 90)) (k' := .i64) (j := (i3 : Int)) (jn := i3) (by kernel_rfl) (by kernel_rfl) (by kernel_rfl) (by kernel_rfl) (by kernel_rfl) rfl (lt_of_get hx10) ?_
    refine ge_batch [3, 4, 5] (ans := [.val (.int .i64 e4)]) (vs := [(94, .bool (decide (e3 < e4))), (93, .bool (decide (e3 < e4))), (92, .int .i64 e4)]) (l := [.loaded ⟨b5, 0 + i3 * 1, none⟩ (.int .i64 e4)]) (by kernel_rfl) ⟨hS.cellA 1 (pre := []) (post := []) (l := ([1, 1, 1, 0, 0, 0] : List Int)) rfl rfl rfl hx10 rfl rfl, trivial⟩ ?_
    by_cases hc14 : e3 < e4
    · rw [if_pos hc14] at h
      refine ge_known (t := 94) (b := decide (e3 < e4)) (c := true) (by kernel_rfl) (decide_eq_true hc14) ?_
      refine ge_batch [6, 7, 8, 9, 10, 11] (ans := []) (vs := [(100, .bool true), (99, undef), (98, undef), (97, undef), (96, undef), (95, undef)]) (l := []) (by kernel_rfl) trivial ?_
      refine ge_nil fun a hF => hK35 _ _ ?_ a hF
      refine we_true (by kernel_rfl) ?_
      refine we_seq fun K36 hK36 => ?_
      refine we_region [(0, 0), (1, 1), (2, 2)] rfl ?_
      refine ge_batch [0] (ans := []) (vs := [(101, .int .i64 (i1 : Int))]) (l := []) (by kernel_rfl) trivial ?_
      refine ge_call (d := some 102) (f := 21) (args := #[.int .i64 3, .int .i64 (i1 : Int)]) (by kernel_rfl) (punctualref_F_ok 3 (i1 : Int) _ _ rfl) ?_
      rintro _ w21 ⟨rfl, hS63⟩
      refine ⟨_, rfl, hS63.below, ?_⟩
      have hS64 := hS.call hS63
      have hS65 := hS64.bring 3 rfl
      refine ge_set (b := b1) (j := 0) (cs := #[.int .i64 0, .int .i64 0]) (t := 26) (vs := [.int .i64 ((punctualref_F.f 3 (i1 : Int)).Code), .int .i64 ((punctualref_F.f 3 (i1 : Int)).At)]) hS65 (by kernel_rfl) rfl rfl fun w22 hS66 => ?_
      have hS67 : St w0 w22 [Own.blk b1 (.cells #[.int .i64 ((punctualref_F.f 3 (i1 : Int)).Code), .int .i64 ((punctualref_F.f 3 (i1 : Int)).At)] 26 (0, 0)), Own.blk b6 (.cells #[.int .i64 10000, .int .i64 10000, .int .i64 10000, .int .i64 10000, .int .i64 10000, .int .i64 1000] 94 (0, 0)), Own.blk b5 (.cells #[.int .i64 1, .int .i64 1, .int .i64 1, .int .i64 0, .int .i64 0, .int .i64 0] 94 (0, 0)), Own.blk b2 (.cells #[.string e1.Name, .int .i64 e1.C, .int .i64 e1.T, .int .i64 e1.D, .int .i64 e1.J, .int .i64 e1.O, .int .i64 e1.P] 46 (0, 0))] := hS66
      refine ge_nil fun a hF => hK36 _ _ ?_ a hF
      have hS68 := hS67.takeN 0
      obtain rfl := Option.some.inj h
      exact we_ret fun a hF => hQ _ _ _ (Outs.out nofun (Exits.on ⟨rfl, (post_ret (rs := [.cell 2 26]) (ans := [.val (.int .i64 ((punctualref_F.f 3 (i1 : Int)).Code)), .val (.int .i64 ((punctualref_F.f 3 (i1 : Int)).At))]) (vs := [.agg #[.int .i64 ((punctualref_F.f 3 (i1 : Int)).Code), .int .i64 ((punctualref_F.f 3 (i1 : Int)).At)]]) (l := [.loaded ⟨b1, 0, none⟩ (.int .i64 ((punctualref_F.f 3 (i1 : Int)).Code)), .loaded ⟨b1, 1, none⟩ (.int .i64 ((punctualref_F.f 3 (i1 : Int)).At))]) rfl (by kernel_rfl) ⟨hS67.cell 0 rfl rfl, hS67.cell 0 rfl rfl, trivial⟩ ⟨rfl, hS68⟩) a hF⟩))
    · rw [if_neg hc14] at h
      refine ge_known (t := 94) (b := decide (e3 < e4)) (c := false) (by kernel_rfl) (decide_eq_false hc14) ?_
      refine ge_batch [6, 7] (ans := []) (vs := [(96, .int .i64 (i3 : Int)), (95, .int .i64 e3)]) (l := []) (by kernel_rfl) trivial ?_
      rcases hx11 : ([10000, 10000, 10000, 10000, 10000, 1000] : List Int)[i3]? with _ | e5
      · rw [hx11] at h; cases h
      rw [hx11] at h
      simp only [] at h
      refine ge_arrAddr (d := 97) (ty := 0) (t := 94) (len := 6) (el := 3) (b := b6) (o0 := 0) (sz := 1) (x := (.tmp 10)) (y := (.tmp 96)) (k' := .i64) (j := (i3 : Int)) (jn := i3) (by kernel_rfl) (by kernel_rfl) (by kernel_rfl) (by kernel_rfl) (by kernel_rfl) rfl (lt_of_get hx11) ?_
      refine ge_batch [9, 10, 11] (ans := [.val (.int .i64 e5)]) (vs := [(100, .bool (decide (e3 > e5))), (99, .bool (decide (e3 > e5))), (98, .int .i64 e5)]) (l := [.loaded ⟨b6, 0 + i3 * 1, none⟩ (.int .i64 e5)]) (by kernel_rfl) ⟨hS.cellA 0 (pre := []) (post := []) (l := ([10000, 10000, 10000, 10000, 10000, 1000] : List Int)) rfl rfl rfl hx11 rfl rfl, trivial⟩ ?_
      refine ge_nil fun a hF => hK35 _ _ ?_ a hF
      by_cases hc15 : e3 > e5
      · rw [if_pos hc15] at h
        refine we_known (t := 100) (b := decide (e3 > e5)) (v := true) (by kernel_rfl) (decide_eq_true hc15) ?_
        refine we_true (by kernel_rfl) ?_
        refine we_seq fun K37 hK37 => ?_
        refine we_region [(0, 0), (1, 1), (2, 2)] rfl ?_
        refine ge_batch [0] (ans := []) (vs := [(101, .int .i64 (i1 : Int))]) (l := []) (by kernel_rfl) trivial ?_
        refine ge_call (d := some 102) (f := 21) (args := #[.int .i64 3, .int .i64 (i1 : Int)]) (by kernel_rfl) (punctualref_F_ok 3 (i1 : Int) _ _ rfl) ?_
        rintro _ w23 ⟨rfl, hS69⟩
        refine ⟨_, rfl, hS69.below, ?_⟩
        have hS70 := hS.call hS69
        have hS71 := hS70.bring 3 rfl
        refine ge_set (b := b1) (j := 0) (cs := #[.int .i64 0, .int .i64 0]) (t := 26) (vs := [.int .i64 ((punctualref_F.f 3 (i1 : Int)).Code), .int .i64 ((punctualref_F.f 3 (i1 : Int)).At)]) hS71 (by kernel_rfl) rfl rfl fun w24 hS72 => ?_
        have hS73 : St w0 w24 [Own.blk b1 (.cells #[.int .i64 ((punctualref_F.f 3 (i1 : Int)).Code), .int .i64 ((punctualref_F.f 3 (i1 : Int)).At)] 26 (0, 0)), Own.blk b6 (.cells #[.int .i64 10000, .int .i64 10000, .int .i64 10000, .int .i64 10000, .int .i64 10000, .int .i64 1000] 94 (0, 0)), Own.blk b5 (.cells #[.int .i64 1, .int .i64 1, .int .i64 1, .int .i64 0, .int .i64 0, .int .i64 0] 94 (0, 0)), Own.blk b2 (.cells #[.string e1.Name, .int .i64 e1.C, .int .i64 e1.T, .int .i64 e1.D, .int .i64 e1.J, .int .i64 e1.O, .int .i64 e1.P] 46 (0, 0))] := hS72
        refine ge_nil fun a hF => hK37 _ _ ?_ a hF
        have hS74 := hS73.takeN 0
        obtain rfl := Option.some.inj h
        exact we_ret fun a hF => hQ _ _ _ (Outs.out nofun (Exits.on ⟨rfl, (post_ret (rs := [.cell 2 26]) (ans := [.val (.int .i64 ((punctualref_F.f 3 (i1 : Int)).Code)), .val (.int .i64 ((punctualref_F.f 3 (i1 : Int)).At))]) (vs := [.agg #[.int .i64 ((punctualref_F.f 3 (i1 : Int)).Code), .int .i64 ((punctualref_F.f 3 (i1 : Int)).At)]]) (l := [.loaded ⟨b1, 0, none⟩ (.int .i64 ((punctualref_F.f 3 (i1 : Int)).Code)), .loaded ⟨b1, 1, none⟩ (.int .i64 ((punctualref_F.f 3 (i1 : Int)).At))]) rfl (by kernel_rfl) ⟨hS73.cell 0 rfl rfl, hS73.cell 0 rfl rfl, trivial⟩ ⟨rfl, hS74⟩) a hF⟩))
      · rw [if_neg hc15] at h
        refine we_known (t := 100) (b := decide (e3 > e5)) (v := false) (by kernel_rfl) (decide_eq_false hc15) ?_
        refine we_false (by kernel_rfl) ?_
        refine we_skip fun a hF => hK33 _ _ ?_ a hF
        refine we_region [(0, 0), (1, 0)] rfl ?_
        refine ge_addn (d := 103) (ty := 3) (x := (.tmp 85)) (y := (.const (.int .i64 1))) (t := 3) (t2 := 3) (k := .i64) (m := i3) (by kernel_rfl) (by kernel_rfl) (by kernel_rfl) (by omega) ?_
        refine ge_batch [1] (ans := []) (vs := [(85, .int .i64 ((i3 + 1 : Nat) : Int))]) (l := []) (by kernel_rfl) trivial ?_
        have hS75 := hS.bring 3 rfl
        have hS76 := hS75.bring 3 rfl
        have hS77 := hS76.bring 3 rfl
        have hS78 := hS77.bring 3 rfl
        obtain rfl := Option.some.inj h
        exact ge_nil fun a hF => hQ _ _ _ (Outs.again ⟨hS78, hF.weaken ⟨by kernel_rfl, by kernel_rfl, by kernel_rfl, by kernel_rfl, by kernel_rfl, by kernel_rfl, by kernel_rfl, by kernel_rfl, by kernel_rfl, by kernel_rfl, by kernel_rfl, trivial⟩⟩)
  · rw [if_neg hc13] at h
    refine we_known (t := 86) (b := decide ((i3 : Int) < 6)) (v := false) (by kernel_rfl) (decide_eq_false hc13) ?_
    refine we_false (by kernel_rfl) ?_
    have hS79 := hS.bring 3 rfl
    have hS80 := hS79.bring 3 rfl
    have hS81 := hS80.takeN 2
    obtain rfl := Option.some.inj h
    exact we_exit fun a hF => hQ _ _ _ (Outs.out nofun (Exits.here ⟨hS81, hF.weaken ⟨by kernel_rfl, by kernel_rfl, by kernel_rfl, by kernel_rfl, by kernel_rfl, by kernel_rfl, by kernel_rfl, trivial⟩⟩))
abbrev punctualref_CheckSet.A1 (K : Nat) (w0 : World) (l0 : List STask) (A0 : Option Addr) (c0 : Nat) (hR0 : RdL w0 A0 l0) (hL0 : l0.length ≤ c0) (b1 : Nat) : Nat → Act → World → Prop := fun (s : Nat) a w => St w0 w [Own.blk b1 (.cells #[.int .i64 0, .int .i64 0] 26 (0, 0))] ∧ Frm 113 a [(0, .slice A0 l0.length c0), (2, .pointer (some ⟨b1, 0, none⟩)), (22, .slice A0 l0.length c0), (23, .int .i64 (l0.length : Int)), (24, .int .i64 (s : Int))]
abbrev punctualref_CheckSet.B1 (K : Nat) (w0 : World) (l0 : List STask) (A0 : Option Addr) (c0 : Nat) (hR0 : RdL w0 A0 l0) (hL0 : l0.length ≤ c0) (b1 : Nat) : (Unit ⊕ SFault) → Exit → Act → World → Prop := Exits 0 (fun (s : Unit) a w => St w0 w [Own.blk b1 (.cells #[.int .i64 0, .int .i64 0] 26 (0, 0))] ∧ Frm 113 a [(2, .pointer (some ⟨b1, 0, none⟩))]) (Rets Tryd.prog Tryd.f23 (punctualref_CheckSet.Post w0))
theorem punctualref_CheckSet_r1 (K : Nat) (w0 : World) (l0 : List STask) (A0 : Option Addr) (c0 : Nat) (hR0 : RdL w0 A0 l0) (hL0 : l0.length ≤ c0) (b1 : Nat) (s : Nat) (o : Nat ⊕ (Unit ⊕ SFault)) (h : punctualref_CheckSet.r1 K l0 s = some o) (a : Act) (w : World) (hA : punctualref_CheckSet.A1 K w0 l0 A0 c0 hR0 hL0 b1 s a w) (Q : Exit → Act → World → Prop) (hQ : ∀ x a w, Outs (punctualref_CheckSet.A1 K w0 l0 A0 c0 hR0 hL0 b1) (punctualref_CheckSet.B1 K w0 l0 A0 c0 hR0 hL0 b1) o x a w → Q x a w) : (subF Tryd.f23 [1, 1, 0, 1, 0, 0]).wp Tryd.prog Q a w := by
  obtain ⟨i1, hs⟩ : ∃ z, z = s := ⟨s, rfl⟩
  subst hs
  obtain ⟨hS, hF⟩ := hA
  replace hS : St w0 w [Own.blk b1 (.cells #[.int .i64 0, .int .i64 0] 26 (0, 0))] := hS
  simp only [punctualref_CheckSet.r1] at h
  refine (?_ : WE Tryd.prog 113 (subF Tryd.f23 [1, 1, 0, 1, 0, 0]) Q [(0, .slice A0 l0.length c0), (2, .pointer (some ⟨b1, 0, none⟩)), (22, .slice A0 l0.length c0), (23, .int .i64 (l0.length : Int)), (24, .int .i64 (i1 : Int))] w) a hF
  clear hF a
  refine we_seq fun K8 hK8 => ?_
  refine we_region [(0, 0)] rfl ?_
  refine ge_batch [0] (ans := []) (vs := [(25, .bool (decide ((i1 : Int) < (l0.length : Int))))]) (l := []) (by kernel_rfl) trivial ?_
  refine ge_nil fun a hF => hK8 _ _ ?_ a hF
  refine we_seq fun K9 hK9 => ?_
  by_cases hc3 : (i1 : Int) < (l0.length : Int)
  · rw [if_pos hc3] at h
    refine we_known (t := 25) (b := decide ((i1 : Int) < (l0.length : Int))) (v := true) (by kernel_rfl) (decide_eq_true hc3) ?_
    refine we_true (by kernel_rfl) ?_
    refine we_skip fun a hF => hK9 _ _ ?_ a hF
    refine we_seq fun K10 hK10 => ?_
    refine we_block ?_
    refine we_seq fun K11 hK11 => ?_
    refine we_region [(0, 0), (1, 0), (2, 0), (3, 1), (4, 0), (5, 2)] rfl ?_
    refine ge_batch [0] (ans := []) (vs := [(26, .int .i64 (i1 : Int))]) (l := []) (by kernel_rfl) trivial ?_
    rcases hx2 : l0[i1]? with _ | e1
    · rw [hx2] at h; cases h
    rw [hx2] at h
    simp only [] at h
    refine ge_index (d := 27) (ty := 0) (t := 40) (el := 46) (sz := 7) (m := l0.length) (c := c0) (x := (.tmp 22)) (y := (.tmp 24)) (A := A0) (k' := .i64) (j := (i1 : Int)) (jn := i1) (b0 := blkOf A0) (o0 := offOf A0) (by kernel_rfl) (by kernel_rfl) (by kernel_rfl) (by kernel_rfl) (by kernel_rfl) ((hS.rd hR0).eqSome (pos_of_get hx2)) rfl (lt_of_get hx2) ?_
    refine ge_batch [2] (ans := [.val (.string e1.Name), .val (.int .i64 e1.C), .val (.int .i64 e1.T), .val (.int .i64 e1.D), .val (.int .i64 e1.J), .val (.int .i64 e1.O), .val (.int .i64 e1.P)]) (vs := [(28, .agg #[.string e1.Name, .int .i64 e1.C, .int .i64 e1.T, .int .i64 e1.D, .int .i64 e1.J, .int .i64 e1.O, .int .i64 e1.P])]) (l := [.loaded ⟨blkOf A0, offOf A0 + i1 * 7, none⟩ (.string e1.Name), .loaded ⟨blkOf A0, offOf A0 + i1 * 7 + 1, none⟩ (.int .i64 e1.C), .loaded ⟨blkOf A0, offOf A0 + i1 * 7 + 2, none⟩ (.int .i64 e1.T), .loaded ⟨blkOf A0, offOf A0 + i1 * 7 + 3, none⟩ (.int .i64 e1.D), .loaded ⟨blkOf A0, offOf A0 + i1 * 7 + 4, none⟩ (.int .i64 e1.J), .loaded ⟨blkOf A0, offOf A0 + i1 * 7 + 5, none⟩ (.int .i64 e1.O), .loaded ⟨blkOf A0, offOf A0 + i1 * 7 + 6, none⟩ (.int .i64 e1.P)]) (by kernel_rfl) ⟨RdL.cell (j := 0) (hS.rd hR0) hx2 rfl, RdL.cell (j := 1) (hS.rd hR0) hx2 rfl, RdL.cell (j := 2) (hS.rd hR0) hx2 rfl, RdL.cell (j := 3) (hS.rd hR0) hx2 rfl, RdL.cell (j := 4) (hS.rd hR0) hx2 rfl, RdL.cell (j := 5) (hS.rd hR0) hx2 rfl, RdL.cell (j := 6) (hS.rd hR0) hx2 rfl, trivial⟩ ?_
    refine ge_new (d := some 4) (o := .cells #[.string (⟨#[]⟩), .int .i64 0, .int .i64 0, .int .i64 0, .int .i64 0, .int .i64 0, .int .i64 0] 46) (v := fun b => .pointer (some ⟨b, 0, none⟩)) hS (fun b => by kernel_rfl) fun b2 w7 hx3 hS13 => ?_
    refine ge_batch [4] (ans := []) (vs := [(3, .int .i64 (i1 : Int))]) (l := []) (by kernel_rfl) trivial ?_
    refine ge_set (b := b2) (j := 0) (cs := #[.string (⟨#[]⟩), .int .i64 0, .int .i64 0, .int .i64 0, .int .i64 0, .int .i64 0, .int .i64 0]) (t := 46) (vs := [.string e1.Name, .int .i64 e1.C, .int .i64 e1.T, .int .i64 e1.D, .int .i64 e1.J, .int .i64 e1.O, .int .i64 e1.P]) hS13 (by kernel_rfl) rfl rfl fun w8 hS14 => ?_
    have hS15 : St w0 w8 [Own.blk b2 (.cells #[.string e1.Name, .int .i64 e1.C, .int .i64 e1.T, .int .i64 e1.D, .int .i64 e1.J, .int .i64 e1.O, .int .i64 e1.P] 46 (0, 0)), Own.blk b1 (.cells #[.int .i64 0, .int .i64 0] 26 (0, 0))] := hS14
    refine ge_nil fun a hF => hK11 _ _ ?_ a hF
    refine we_seq fun K12 hK12 => ?_
    rcases hq4 : punctualref_CheckSet.p2 e1 with _ | (q2 | rr4)
    · rw [hq4] at h; cases h
    · rw [hq4] at h
      simp only [] at h
      refine we_keep (e' := [(0, .slice A0 l0.length c0), (2, .pointer (some ⟨b1, 0, none⟩)), (3, .int .i64 (i1 : Int)), (4, .pointer (some ⟨b2, 0, none⟩)), (22, .slice A0 l0.length c0), (23, .int .i64 (l0.length : Int)), (24, .int .i64 (i1 : Int)), (25, .bool true), (26, .int .i64 (i1 : Int)), (27, .pointer (some ⟨blkOf A0, offOf A0 + i1 * 7, none⟩)), (28, .agg #[.string e1.Name, .int .i64 e1.C, .int .i64 e1.T, .int .i64 e1.D, .int .i64 e1.J, .int .i64 e1.O, .int .i64 e1.P])]) ⟨by kernel_rfl, by kernel_rfl, by kernel_rfl, by kernel_rfl, by kernel_rfl, by kernel_rfl, by kernel_rfl, by kernel_rfl, by kernel_rfl, by kernel_rfl, by kernel_rfl, trivial⟩ (punctualref_CheckSet_p2 K w0 l0 A0 c0 hR0 hL0 b1 i1 hc3 e1 hx2 b2 _ hq4 _ hS15 _ ?_)
      rintro _ a w9 ⟨rfl, hS20, hF⟩
      replace hS20 : St w0 w9 [Own.blk b2 (.cells #[.string e1.Name, .int .i64 e1.C, .int .i64 e1.T, .int .i64 e1.D, .int .i64 e1.J, .int .i64 e1.O, .int .i64 e1.P] 46 (0, 0)), Own.blk b1 (.cells #[.int .i64 0, .int .i64 0] 26 (0, 0))] := hS20
      refine hK12 [(0, .slice A0 l0.length c0), (2, .pointer (some ⟨b1, 0, none⟩)), (3, .int .i64 (i1 : Int)), (4, .pointer (some ⟨b2, 0, none⟩)), (5, .bool q2), (22, .slice A0 l0.length c0), (23, .int .i64 (l0.length : Int)), (24, .int .i64 (i1 : Int))] w9 ?_ a hF
      refine we_seq fun K13 hK13 => ?_
      refine we_seq fun K14 hK14 => ?_
      refine we_region [(0, 0)] rfl ?_
      refine ge_batch [0] (ans := []) (vs := [(6, .int .i64 0)]) (l := []) (by kernel_rfl) trivial ?_
      refine ge_nil fun a hF => hK14 _ _ ?_ a hF
      refine we_block ?_
      have hS21 := hS20.bring 1 rfl
      have hS22 := hS21.bring 1 rfl
      rcases hq5 : iter (punctualref_CheckSet.r3 e1) K (q2, 0) with _ | (q5 | rr3)
      · rw [hq5] at h; cases h
      · rw [hq5] at h
        simp only [] at h
        refine we_iter (A := punctualref_CheckSet.A3 K w0 l0 A0 c0 hR0 hL0 b1 i1 hc3 e1 hx2 b2 q2) (B := punctualref_CheckSet.B3 K w0 l0 A0 c0 hR0 hL0 b1 i1 hc3 e1 hx2 b2 q2) hq5 (fun a hF => ⟨hS22, hF.weaken ⟨by kernel_rfl, by kernel_rfl, by kernel_rfl, by kernel_rfl, by kernel_rfl, by kernel_rfl, by kernel_rfl, by kernel_rfl, by kernel_rfl, trivial⟩⟩) (fun s o hf a w hA Q hQ => punctualref_CheckSet_r3 K w0 l0 A0 c0 hR0 hL0 b1 i1 hc3 e1 hx2 b2 q2 s o hf a w hA Q hQ) ?_
        rintro _ a w10 _ ⟨rfl, hS31, hF⟩
        replace hS31 : St w0 w10 [Own.blk b2 (.cells #[.string e1.Name, .int .i64 e1.C, .int .i64 e1.T, .int .i64 e1.D, .int .i64 e1.J, .int .i64 e1.O, .int .i64 e1.P] 46 (0, 0)), Own.blk b1 (.cells #[.int .i64 0, .int .i64 0] 26 (0, 0))] := hS31
        refine hK13 [(0, .slice A0 l0.length c0), (2, .pointer (some ⟨b1, 0, none⟩)), (3, .int .i64 (i1 : Int)), (4, .pointer (some ⟨b2, 0, none⟩)), (5, .bool q5), (22, .slice A0 l0.length c0), (23, .int .i64 (l0.length : Int)), (24, .int .i64 (i1 : Int))] w10 ?_ a hF
        refine we_seq fun K18 hK18 => ?_
        refine we_seq fun K19 hK19 => ?_
        refine we_region [(0, 0), (1, 0)] rfl ?_
        refine ge_batch [0, 1] (ans := []) (vs := [(62, .bool (!q5)), (61, .bool q5)]) (l := []) (by kernel_rfl) trivial ?_
        refine ge_nil fun a hF => hK19 _ _ ?_ a hF
        by_cases hc9 : q5 = true
        · rw [if_pos hc9] at h
          refine we_known (t := 62) (b := !q5) (v := false) (by kernel_rfl) (congrArg (fun z => !z) hc9) ?_
          refine we_false (by kernel_rfl) ?_
          refine we_skip fun a hF => hK18 _ _ ?_ a hF
          refine we_seq fun K20 hK20 => ?_
          refine we_seq fun K21 hK21 => ?_
          refine we_region [(0, 0), (1, 0), (2, 0), (3, 0), (4, 0)] rfl ?_
          refine ge_batch [0, 1] (ans := []) (vs := [(66, .int .i64 (i1 : Int)), (65, .slice A0 l0.length c0)]) (l := []) (by kernel_rfl) trivial ?_
          by_cases hc10 : i1 ≤ l0.length
          · rw [if_pos hc10] at h
            refine ge_part (d := 67) (ty := 40) (t := 40) (el := 46) (sz := 7) (m := l0.length) (c := c0) (lo := 0) (hi := i1) (x := (.tmp 65)) (xl := none) (xh := some (.tmp 66)) (A := A0) (by kernel_rfl) (by kernel_rfl) rfl ⟨.i64, (i1 : Int), by kernel_rfl, rfl⟩ (by kernel_rfl) (by kernel_rfl) (by have f0 := hc10; have f1 := hL0; omega) (by have f0 := hc10; have f1 := hL0; omega) ?_
            refine ge_same (t := 67) (v := .slice (subA A0 c0 0 7) (i1 - 0) (c0 - 0)) (v' := .slice (subA A0 c0 0 7) (((l0.take i1).drop 0).length) (c0 - 0)) (by kernel_rfl) (by have f0 := hc10; have f1 := hL0; rw [show i1 - 0 = ((l0.take i1).drop 0).length by simp only [List.length_drop, List.length_take]; omega]) ?_
            refine ge_batch [3, 4] (ans := []) (vs := [(69, .int .i64 0), (68, .int .i64 (((l0.take i1).drop 0).length : Int))]) (l := []) (by kernel_rfl) trivial ?_
            refine ge_nil fun a hF => hK21 _ _ ?_ a hF
            refine we_block ?_
            have hS32 := hS31.bring 1 rfl
            have hS33 := hS32.bring 1 rfl
            rcases hq7 : iter (punctualref_CheckSet.r4 l0 i1 e1) K 0 with _ | (_ | rr2)
            · rw [hq7] at h; cases h
            · rw [hq7] at h
              simp only [] at h
              refine we_iter (A := punctualref_CheckSet.A4 K w0 l0 A0 c0 hR0 hL0 b1 i1 hc3 e1 hx2 b2 q2 q5 hc9 hc10) (B := punctualref_CheckSet.B4 K w0 l0 A0 c0 hR0 hL0 b1 i1 hc3 e1 hx2 b2 q2 q5 hc9 hc10) hq7 (fun a hF => ⟨hS33, hF.weaken ⟨by kernel_rfl, by kernel_rfl, by kernel_rfl, by kernel_rfl, by kernel_rfl, by kernel_rfl, by kernel_rfl, by kernel_rfl, by kernel_rfl, by kernel_rfl, trivial⟩⟩) (fun s o hf a w hA Q hQ => punctualref_CheckSet_r4 K w0 l0 A0 c0 hR0 hL0 b1 i1 hc3 e1 hx2 b2 q2 q5 hc9 hc10 s o hf a w hA Q hQ) ?_
              rintro _ a w15 _ ⟨rfl, hS48, hF⟩
              replace hS48 : St w0 w15 [Own.blk b2 (.cells #[.string e1.Name, .int .i64 e1.C, .int .i64 e1.T, .int .i64 e1.D, .int .i64 e1.J, .int .i64 e1.O, .int .i64 e1.P] 46 (0, 0)), Own.blk b1 (.cells #[.int .i64 0, .int .i64 0] 26 (0, 0))] := hS48
              refine hK20 [(0, .slice A0 l0.length c0), (2, .pointer (some ⟨b1, 0, none⟩)), (3, .int .i64 (i1 : Int)), (4, .pointer (some ⟨b2, 0, none⟩)), (22, .slice A0 l0.length c0), (23, .int .i64 (l0.length : Int)), (24, .int .i64 (i1 : Int))] w15 ?_ a hF
              refine we_seq fun K28 hK28 => ?_
              refine we_region [(0, 0), (1, 0), (2, 1), (3, 1), (4, 2), (5, 2)] rfl ?_
              refine ge_batch [0, 1] (ans := []) (vs := [(82, .agg #[.int .i64 10000, .int .i64 10000, .int .i64 10000, .int .i64 10000, .int .i64 10000, .int .i64 1000]), (81, .agg #[.int .i64 1, .int .i64 1, .int .i64 1, .int .i64 0, .int .i64 0, .int .i64 0])]) (l := []) (by kernel_rfl) trivial ?_
              refine ge_new (d := some 9) (o := .cells #[.int .i64 0, .int .i64 0, .int .i64 0, .int .i64 0, .int .i64 0, .int .i64 0] 94) (v := fun b => .pointer (some ⟨b, 0, none⟩)) hS48 (fun b => by kernel_rfl) fun b5 w16 hx7 hS49 => ?_
              refine ge_new (d := some 10) (o := .cells #[.int .i64 0, .int .i64 0, .int .i64 0, .int .i64 0, .int .i64 0, .int .i64 0] 94) (v := fun b => .pointer (some ⟨b, 0, none⟩)) hS49 (fun b => by kernel_rfl) fun b6 w17 hx8 hS50 => ?_
              have hS51 := hS50.bring 1 rfl
              refine ge_set (b := b5) (j := 0) (cs := #[.int .i64 0, .int .i64 0, .int .i64 0, .int .i64 0, .int .i64 0, .int .i64 0]) (t := 94) (vs := [.int .i64 1, .int .i64 1, .int .i64 1, .int .i64 0, .int .i64 0, .int .i64 0]) hS51 (by kernel_rfl) rfl rfl fun w18 hS52 => ?_
              have hS53 : St w0 w18 [Own.blk b5 (.cells #[.int .i64 1, .int .i64 1, .int .i64 1, .int .i64 0, .int .i64 0, .int .i64 0] 94 (0, 0)), Own.blk b6 (.cells #[.int .i64 0, .int .i64 0, .int .i64 0, .int .i64 0, .int .i64 0, .int .i64 0] 94 (0, 0)), Own.blk b2 (.cells #[.string e1.Name, .int .i64 e1.C, .int .i64 e1.T, .int .i64 e1.D, .int .i64 e1.J, .int .i64 e1.O, .int .i64 e1.P] 46 (0, 0)), Own.blk b1 (.cells #[.int .i64 0, .int .i64 0] 26 (0, 0))] := hS52
              have hS54 := hS53.bring 1 rfl
              refine ge_set (b := b6) (j := 0) (cs := #[.int .i64 0, .int .i64 0, .int .i64 0, .int .i64 0, .int .i64 0, .int .i64 0]) (t := 94) (vs := [.int .i64 10000, .int .i64 10000, .int .i64 10000, .int .i64 10000, .int .i64 10000, .int .i64 1000]) hS54 (by kernel_rfl) rfl rfl fun w19 hS55 => ?_
              have hS56 : St w0 w19 [Own.blk b6 (.cells #[.int .i64 10000, .int .i64 10000, .int .i64 10000, .int .i64 10000, .int .i64 10000, .int .i64 1000] 94 (0, 0)), Own.blk b5 (.cells #[.int .i64 1, .int .i64 1, .int .i64 1, .int .i64 0, .int .i64 0, .int .i64 0] 94 (0, 0)), Own.blk b2 (.cells #[.string e1.Name, .int .i64 e1.C, .int .i64 e1.T, .int .i64 e1.D, .int .i64 e1.J, .int .i64 e1.O, .int .i64 e1.P] 46 (0, 0)), Own.blk b1 (.cells #[.int .i64 0, .int .i64 0] 26 (0, 0))] := hS55
              refine ge_nil fun a hF => hK28 _ _ ?_ a hF
              refine we_seq fun K29 hK29 => ?_
              refine we_seq fun K30 hK30 => ?_
              refine we_region [(0, 0), (1, 1), (2, 0)] rfl ?_
              refine ge_batch [0] (ans := [.val (.string e1.Name), .val (.int .i64 e1.C), .val (.int .i64 e1.T), .val (.int .i64 e1.D), .val (.int .i64 e1.J), .val (.int .i64 e1.O), .val (.int .i64 e1.P)]) (vs := [(83, .agg #[.string e1.Name, .int .i64 e1.C, .int .i64 e1.T, .int .i64 e1.D, .int .i64 e1.J, .int .i64 e1.O, .int .i64 e1.P])]) (l := [.loaded ⟨b2, 0, none⟩ (.string e1.Name), .loaded ⟨b2, 1, none⟩ (.int .i64 e1.C), .loaded ⟨b2, 2, none⟩ (.int .i64 e1.T), .loaded ⟨b2, 3, none⟩ (.int .i64 e1.D), .loaded ⟨b2, 4, none⟩ (.int .i64 e1.J), .loaded ⟨b2, 5, none⟩ (.int .i64 e1.O), .loaded ⟨b2, 6, none⟩ (.int .i64 e1.P)]) (by kernel_rfl) ⟨hS56.cell 2 rfl rfl, hS56.cell 2 rfl rfl, hS56.cell 2 rfl rfl, hS56.cell 2 rfl rfl, hS56.cell 2 rfl rfl, hS56.cell 2 rfl rfl, hS56.cell 2 rfl rfl, trivial⟩ ?_
              refine ge_call (d := some 84) (f := 66) (args := #[.agg #[.string e1.Name, .int .i64 e1.C, .int .i64 e1.T, .int .i64 e1.D, .int .i64 e1.J, .int .i64 e1.O, .int .i64 e1.P]]) (by kernel_rfl) (punctualref_sixOf_ok e1 _ _ rfl) ?_
              rintro _ w20 ⟨rfl, hS57⟩
              refine ⟨_, rfl, hS57.below, ?_⟩
              have hS58 := hS56.call hS57
              refine ge_batch [2] (ans := []) (vs := [(85, .int .i64 0)]) (l := []) (by kernel_rfl) trivial ?_
              refine ge_nil fun a hF => hK30 _ _ ?_ a hF
              refine we_block ?_
              have hS59 := hS58.bring 3 rfl
              have hS60 := hS59.bring 3 rfl
              have hS61 := hS60.bring 3 rfl
              have hS62 := hS61.bring 3 rfl
              rcases hq11 : iter (punctualref_CheckSet.r5 i1 e1) K 0 with _ | (_ | rr1)
              · rw [hq11] at h; cases h
              · rw [hq11] at h
                simp only [] at h
                refine we_iter (A := punctualref_CheckSet.A5 K w0 l0 A0 c0 hR0 hL0 b1 i1 hc3 e1 hx2 b2 q2 q5 hc9 hc10 b5 b6) (B := punctualref_CheckSet.B5 K w0 l0 A0 c0 hR0 hL0 b1 i1 hc3 e1 hx2 b2 q2 q5 hc9 hc10 b5 b6) hq11 (fun a hF => ⟨hS62, hF.weaken ⟨by kernel_rfl, by kernel_rfl, by kernel_rfl, by kernel_rfl, by kernel_rfl, by kernel_rfl, by kernel_rfl, by kernel_rfl, by kernel_rfl, by kernel_rfl, by kernel_rfl, trivial⟩⟩) (fun s o hf a w hA Q hQ => punctualref_CheckSet_r5 K w0 l0 A0 c0 hR0 hL0 b1 i1 hc3 e1 hx2 b2 q2 q5 hc9 hc10 b5 b6 s o hf a w hA Q hQ) ?_
                rintro _ a w25 _ ⟨rfl, hS82, hF⟩
                replace hS82 : St w0 w25 [Own.blk b2 (.cells #[.string e1.Name, .int .i64 e1.C, .int .i64 e1.T, .int .i64 e1.D, .int .i64 e1.J, .int .i64 e1.O, .int .i64 e1.P] 46 (0, 0)), Own.blk b1 (.cells #[.int .i64 0, .int .i64 0] 26 (0, 0))] := hS82
                refine hK29 [(0, .slice A0 l0.length c0), (2, .pointer (some ⟨b1, 0, none⟩)), (3, .int .i64 (i1 : Int)), (4, .pointer (some ⟨b2, 0, none⟩)), (22, .slice A0 l0.length c0), (23, .int .i64 (l0.length : Int)), (24, .int .i64 (i1 : Int))] w25 ?_ a hF
                refine we_seq fun K38 hK38 => ?_
                refine we_region [(0, 0), (1, 0), (2, 0), (3, 0), (4, 0)] rfl ?_
                refine ge_batch [0, 1, 2, 3, 4] (ans := [.val (.int .i64 e1.D), .val (.int .i64 e1.C)]) (vs := [(108, .bool (decide (e1.D < e1.C))), (107, .int .i64 e1.C), (106, .pointer (some ⟨b2, 1, none⟩)), (105, .int .i64 e1.D), (104, .pointer (some ⟨b2, 3, none⟩))]) (l := [.loaded ⟨b2, 3, none⟩ (.int .i64 e1.D), .loaded ⟨b2, 1, none⟩ (.int .i64 e1.C)]) (by kernel_rfl) ⟨hS82.cell 0 rfl rfl, hS82.cell 0 rfl rfl, trivial⟩ ?_
                refine ge_nil fun a hF => hK38 _ _ ?_ a hF
                by_cases hc16 : e1.D < e1.C
                · rw [if_pos hc16] at h
                  refine we_known (t := 108) (b := decide (e1.D < e1.C)) (v := true) (by kernel_rfl) (decide_eq_true hc16) ?_
                  refine we_true (by kernel_rfl) ?_
                  refine we_seq fun K39 hK39 => ?_
                  refine we_region [(0, 0), (1, 1), (2, 2)] rfl ?_
                  refine ge_batch [0] (ans := []) (vs := [(109, .int .i64 (i1 : Int))]) (l := []) (by kernel_rfl) trivial ?_
                  refine ge_call (d := some 110) (f := 21) (args := #[.int .i64 12, .int .i64 (i1 : Int)]) (by kernel_rfl) (punctualref_F_ok 12 (i1 : Int) _ _ rfl) ?_
                  rintro _ w26 ⟨rfl, hS83⟩
                  refine ⟨_, rfl, hS83.below, ?_⟩
                  have hS84 := hS82.call hS83
                  have hS85 := hS84.bring 1 rfl
                  refine ge_set (b := b1) (j := 0) (cs := #[.int .i64 0, .int .i64 0]) (t := 26) (vs := [.int .i64 ((punctualref_F.f 12 (i1 : Int)).Code), .int .i64 ((punctualref_F.f 12 (i1 : Int)).At)]) hS85 (by kernel_rfl) rfl rfl fun w27 hS86 => ?_
                  have hS87 : St w0 w27 [Own.blk b1 (.cells #[.int .i64 ((punctualref_F.f 12 (i1 : Int)).Code), .int .i64 ((punctualref_F.f 12 (i1 : Int)).At)] 26 (0, 0)), Own.blk b2 (.cells #[.string e1.Name, .int .i64 e1.C, .int .i64 e1.T, .int .i64 e1.D, .int .i64 e1.J, .int .i64 e1.O, .int .i64 e1.P] 46 (0, 0))] := hS86
                  refine ge_nil fun a hF => hK39 _ _ ?_ a hF
                  have hS88 := hS87.takeN 0
                  obtain rfl := Option.some.inj h
                  exact we_ret fun a hF => hQ _ _ _ (Outs.out nofun (Exits.on ⟨rfl, (post_ret (rs := [.cell 2 26]) (ans := [.val (.int .i64 ((punctualref_F.f 12 (i1 : Int)).Code)), .val (.int .i64 ((punctualref_F.f 12 (i1 : Int)).At))]) (vs := [.agg #[.int .i64 ((punctualref_F.f 12 (i1 : Int)).Code), .int .i64 ((punctualref_F.f 12 (i1 : Int)).At)]]) (l := [.loaded ⟨b1, 0, none⟩ (.int .i64 ((punctualref_F.f 12 (i1 : Int)).Code)), .loaded ⟨b1, 1, none⟩ (.int .i64 ((punctualref_F.f 12 (i1 : Int)).At))]) rfl (by kernel_rfl) ⟨hS87.cell 0 rfl rfl, hS87.cell 0 rfl rfl, trivial⟩ ⟨rfl, hS88⟩) a hF⟩))
                · rw [if_neg hc16] at h
                  refine we_known (t := 108) (b := decide (e1.D < e1.C)) (v := false) (by kernel_rfl) (decide_eq_false hc16) ?_
                  refine we_false (by kernel_rfl) ?_
                  refine we_skip fun a hF => hK10 _ _ ?_ a hF
                  refine we_region [(0, 0), (1, 0)] rfl ?_
                  refine ge_addn (d := 111) (ty := 3) (x := (.tmp 24)) (y := (.const (.int .i64 1))) (t := 3) (t2 := 3) (k := .i64) (m := i1) (by kernel_rfl) (by kernel_rfl) (by kernel_rfl) (by have h0 := hR0.small; omega) ?_
                  refine ge_batch [1] (ans := []) (vs := [(24, .int .i64 ((i1 + 1 : Nat) : Int))]) (l := []) (by kernel_rfl) trivial ?_
                  have hS89 := hS82.bring 1 rfl
                  have hS90 := hS89.takeN 1
                  obtain rfl := Option.some.inj h
                  exact ge_nil fun a hF => hQ _ _ _ (Outs.again ⟨hS90, hF.weaken ⟨by kernel_rfl, by kernel_rfl, by kernel_rfl, by kernel_rfl, by kernel_rfl, trivial⟩⟩)
              · rw [hq11] at h
                simp only [] at h
                refine we_iter (A := punctualref_CheckSet.A5 K w0 l0 A0 c0 hR0 hL0 b1 i1 hc3 e1 hx2 b2 q2 q5 hc9 hc10 b5 b6) (B := punctualref_CheckSet.B5 K w0 l0 A0 c0 hR0 hL0 b1 i1 hc3 e1 hx2 b2 q2 q5 hc9 hc10 b5 b6) hq11 (fun a hF => ⟨hS62, hF.weaken ⟨by kernel_rfl, by kernel_rfl, by kernel_rfl, by kernel_rfl, by kernel_rfl, by kernel_rfl, by kernel_rfl, by kernel_rfl, by kernel_rfl, by kernel_rfl, by kernel_rfl, trivial⟩⟩) (fun s o hf a w hA Q hQ => punctualref_CheckSet_r5 K w0 l0 A0 c0 hR0 hL0 b1 i1 hc3 e1 hx2 b2 q2 q5 hc9 hc10 b5 b6 s o hf a w hA Q hQ) ?_
                rintro _ a w1 _ ⟨rfl, hb⟩
                obtain rfl := Option.some.inj h
                exact hQ _ _ _ (Outs.out nofun (Exits.on ⟨rfl, hb⟩))
            · rw [hq7] at h
              simp only [] at h
              refine we_iter (A := punctualref_CheckSet.A4 K w0 l0 A0 c0 hR0 hL0 b1 i1 hc3 e1 hx2 b2 q2 q5 hc9 hc10) (B := punctualref_CheckSet.B4 K w0 l0 A0 c0 hR0 hL0 b1 i1 hc3 e1 hx2 b2 q2 q5 hc9 hc10) hq7 (fun a hF => ⟨hS33, hF.weaken ⟨by kernel_rfl, by kernel_rfl, by kernel_rfl, by kernel_rfl, by kernel_rfl, by kernel_rfl, by kernel_rfl, by kernel_rfl, by kernel_rfl, by kernel_rfl, trivial⟩⟩) (fun s o hf a w hA Q hQ => punctualref_CheckSet_r4 K w0 l0 A0 c0 hR0 hL0 b1 i1 hc3 e1 hx2 b2 q2 q5 hc9 hc10 s o hf a w hA Q hQ) ?_
              rintro _ a w1 _ ⟨rfl, hb⟩
              obtain rfl := Option.some.inj h
              exact hQ _ _ _ (Outs.out nofun (Exits.on ⟨rfl, hb⟩))
          · rw [if_neg hc10] at h
            cases h
        · rw [if_neg hc9] at h
          refine we_known (t := 62) (b := !q5) (v := true) (by kernel_rfl) (congrArg (fun z => !z) (Bool.eq_false_iff.2 hc9)) ?_
          refine we_true (by kernel_rfl) ?_
          refine we_seq fun K40 hK40 => ?_
          refine we_region [(0, 0), (1, 1), (2, 2)] rfl ?_
          refine ge_batch [0] (ans := []) (vs := [(63, .int .i64 (i1 : Int))]) (l := []) (by kernel_rfl) trivial ?_
          refine ge_call (d := some 64) (f := 21) (args := #[.int .i64 4, .int .i64 (i1 : Int)]) (by kernel_rfl) (punctualref_F_ok 4 (i1 : Int) _ _ rfl) ?_
          rintro _ w28 ⟨rfl, hS91⟩
          refine ⟨_, rfl, hS91.below, ?_⟩
          have hS92 := hS31.call hS91
          have hS93 := hS92.bring 1 rfl
          refine ge_set (b := b1) (j := 0) (cs := #[.int .i64 0, .int .i64 0]) (t := 26) (vs := [.int .i64 ((punctualref_F.f 4 (i1 : Int)).Code), .int .i64 ((punctualref_F.f 4 (i1 : Int)).At)]) hS93 (by kernel_rfl) rfl rfl fun w29 hS94 => ?_
          have hS95 : St w0 w29 [Own.blk b1 (.cells #[.int .i64 ((punctualref_F.f 4 (i1 : Int)).Code), .int .i64 ((punctualref_F.f 4 (i1 : Int)).At)] 26 (0, 0)), Own.blk b2 (.cells #[.string e1.Name, .int .i64 e1.C, .int .i64 e1.T, .int .i64 e1.D, .int .i64 e1.J, .int .i64 e1.O, .int .i64 e1.P] 46 (0, 0))] := hS94
          refine ge_nil fun a hF => hK40 _ _ ?_ a hF
          have hS96 := hS95.takeN 0
          obtain rfl := Option.some.inj h
          exact we_ret fun a hF => hQ _ _ _ (Outs.out nofun (Exits.on ⟨rfl, (post_ret (rs := [.cell 2 26]) (ans := [.val (.int .i64 ((punctualref_F.f 4 (i1 : Int)).Code)), .val (.int .i64 ((punctualref_F.f 4 (i1 : Int)).At))]) (vs := [.agg #[.int .i64 ((punctualref_F.f 4 (i1 : Int)).Code), .int .i64 ((punctualref_F.f 4 (i1 : Int)).At)]]) (l := [.loaded ⟨b1, 0, none⟩ (.int .i64 ((punctualref_F.f 4 (i1 : Int)).Code)), .loaded ⟨b1, 1, none⟩ (.int .i64 ((punctualref_F.f 4 (i1 : Int)).At))]) rfl (by kernel_rfl) ⟨hS95.cell 0 rfl rfl, hS95.cell 0 rfl rfl, trivial⟩ ⟨rfl, hS96⟩) a hF⟩))
      · rw [hq5] at h
        simp only [] at h
        refine we_iter (A := punctualref_CheckSet.A3 K w0 l0 A0 c0 hR0 hL0 b1 i1 hc3 e1 hx2 b2 q2) (B := punctualref_CheckSet.B3 K w0 l0 A0 c0 hR0 hL0 b1 i1 hc3 e1 hx2 b2 q2) hq5 (fun a hF => ⟨hS22, hF.weaken ⟨by kernel_rfl, by kernel_rfl, by kernel_rfl, by kernel_rfl, by kernel_rfl, by kernel_rfl, by kernel_rfl, by kernel_rfl, by kernel_rfl, trivial⟩⟩) (fun s o hf a w hA Q hQ => punctualref_CheckSet_r3 K w0 l0 A0 c0 hR0 hL0 b1 i1 hc3 e1 hx2 b2 q2 s o hf a w hA Q hQ) ?_
        rintro _ a w1 _ ⟨rfl, hb⟩
        obtain rfl := Option.some.inj h
        exact hQ _ _ _ (Outs.out nofun (Exits.on ⟨rfl, hb⟩))
    · rw [hq4] at h
      simp only [] at h
      refine we_keep (e' := [(0, .slice A0 l0.length c0), (2, .pointer (some ⟨b1, 0, none⟩)), (3, .int .i64 (i1 : Int)), (4, .pointer (some ⟨b2, 0, none⟩)), (22, .slice A0 l0.length c0), (23, .int .i64 (l0.length : Int)), (24, .int .i64 (i1 : Int)), (25, .bool true), (26, .int .i64 (i1 : Int)), (27, .pointer (some ⟨blkOf A0, offOf A0 + i1 * 7, none⟩)), (28, .agg #[.string e1.Name, .int .i64 e1.C, .int .i64 e1.T, .int .i64 e1.D, .int .i64 e1.J, .int .i64 e1.O, .int .i64 e1.P])]) ⟨by kernel_rfl, by kernel_rfl, by kernel_rfl, by kernel_rfl, by kernel_rfl, by kernel_rfl, by kernel_rfl, by kernel_rfl, by kernel_rfl, by kernel_rfl, by kernel_rfl, trivial⟩ (punctualref_CheckSet_p2 K w0 l0 A0 c0 hR0 hL0 b1 i1 hc3 e1 hx2 b2 _ hq4 _ hS15 _ ?_)
      rintro _ a w1 ⟨_, rfl, hb⟩
      obtain rfl := Option.some.inj h
      exact hQ _ _ _ (Outs.out nofun (Exits.on ⟨rfl, hb⟩))
  · rw [if_neg hc3] at h
    refine we_known (t := 25) (b := decide ((i1 : Int) < (l0.length : Int))) (v := false) (by kernel_rfl) (decide_eq_false hc3) ?_
    refine we_false (by kernel_rfl) ?_
    obtain rfl := Option.some.inj h
    exact we_exit fun a hF => hQ _ _ _ (Outs.out nofun (Exits.here ⟨hS, hF.weaken ⟨by kernel_rfl, trivial⟩⟩))
theorem punctualref_CheckSet_ok (K : Nat) (l0 : List STask) (A0 : Option Addr) (c0 : Nat) (w0 : World) (hR0 : RdL w0 A0 l0) (hL0 : l0.length ≤ c0) (r : SFault) (h : punctualref_CheckSet.f K l0 = some r) :
    Calls Tryd.prog 23 #[.slice A0 l0.length c0] w0 (punctualref_CheckSet.Post w0 r) := by
  have hS := St.start w0
  unfold punctualref_CheckSet.f at h
  refine calls_enter (n := 113) (args := [.slice A0 l0.length c0]) (fn := Tryd.f23) rfl rfl rfl rfl ?_
  show WE _ _ _ _ [(0, .slice A0 l0.length c0)] _
  refine we_seq fun K1 hK1 => ?_
  refine we_region [(0, 1)] rfl ?_
  refine ge_new (d := some 2) (o := .cells #[.int .i64 0, .int .i64 0] 26) (v := fun b => .pointer (some ⟨b, 0, none⟩)) hS (fun b => by kernel_rfl) fun b1 w1 hx1 hS1 => ?_
  refine ge_nil fun a hF => hK1 _ _ ?_ a hF
  refine we_seq fun K2 hK2 => ?_
  rcases hq3 : punctualref_CheckSet.p0 l0 with _ | (_ | rr6)
  · rw [hq3] at h; cases h
  · rw [hq3] at h
    simp only [] at h
    refine we_keep (e' := [(0, .slice A0 l0.length c0), (2, .pointer (some ⟨b1, 0, none⟩))]) ⟨by kernel_rfl, by kernel_rfl, trivial⟩ (punctualref_CheckSet_p0 K w0 l0 A0 c0 hR0 hL0 b1 _ hq3 _ hS1 _ ?_)
    rintro _ a w6 ⟨rfl, hS12, hF⟩
    replace hS12 : St w0 w6 [Own.blk b1 (.cells #[.int .i64 0, .int .i64 0] 26 (0, 0))] := hS12
    refine hK2 [(0, .slice A0 l0.length c0), (2, .pointer (some ⟨b1, 0, none⟩))] w6 ?_ a hF
    refine we_seq fun K6 hK6 => ?_
    refine we_seq fun K7 hK7 => ?_
    refine we_region [(0, 0), (1, 0), (2, 0)] rfl ?_
    refine ge_batch [0, 1, 2] (ans := []) (vs := [(24, .int .i64 0), (23, .int .i64 (l0.length : Int)), (22, .slice A0 l0.length c0)]) (l := []) (by kernel_rfl) trivial ?_
    refine ge_nil fun a hF => hK7 _ _ ?_ a hF
    refine we_block ?_
    rcases hq14 : iter (punctualref_CheckSet.r1 K l0) K 0 with _ | (_ | rr5)
    · rw [hq14] at h; cases h
    · rw [hq14] at h
      simp only [] at h
      refine we_iter (A := punctualref_CheckSet.A1 K w0 l0 A0 c0 hR0 hL0 b1) (B := punctualref_CheckSet.B1 K w0 l0 A0 c0 hR0 hL0 b1) hq14 (fun a hF => ⟨hS12, hF.weaken ⟨by kernel_rfl, by kernel_rfl, by kernel_rfl, by kernel_rfl, by kernel_rfl, trivial⟩⟩) (fun s o hf a w hA Q hQ => punctualref_CheckSet_r1 K w0 l0 A0 c0 hR0 hL0 b1 s o hf a w hA Q hQ) ?_
      rintro _ a w30 _ ⟨rfl, hS97, hF⟩
      replace hS97 : St w0 w30 [Own.blk b1 (.cells #[.int .i64 0, .int .i64 0] 26 (0, 0))] := hS97
      refine hK6 [(2, .pointer (some ⟨b1, 0, none⟩))] w30 ?_ a hF
      refine we_seq fun K41 hK41 => ?_
      refine we_region [(0, 0), (1, 2)] rfl ?_
      refine ge_batch [0] (ans := []) (vs := [(112, .agg #[.int .i64 0, .int .i64 0])]) (l := []) (by kernel_rfl) trivial ?_
      refine ge_set (b := b1) (j := 0) (cs := #[.int .i64 0, .int .i64 0]) (t := 26) (vs := [.int .i64 0, .int .i64 0]) hS97 (by kernel_rfl) rfl rfl fun w31 hS98 => ?_
      have hS99 : St w0 w31 [Own.blk b1 (.cells #[.int .i64 0, .int .i64 0] 26 (0, 0))] := hS98
      refine ge_nil fun a hF => hK41 _ _ ?_ a hF
      have hS100 := hS99.takeN 0
      obtain rfl := Option.some.inj h
      exact we_ret (post_ret (rs := [.cell 2 26]) (ans := [.val (.int .i64 0), .val (.int .i64 0)]) (vs := [.agg #[.int .i64 0, .int .i64 0]]) (l := [.loaded ⟨b1, 0, none⟩ (.int .i64 0), .loaded ⟨b1, 1, none⟩ (.int .i64 0)]) rfl (by kernel_rfl) ⟨hS99.cell 0 rfl rfl, hS99.cell 0 rfl rfl, trivial⟩ ⟨rfl, hS100⟩)
    · rw [hq14] at h
      simp only [] at h
      refine we_iter (A := punctualref_CheckSet.A1 K w0 l0 A0 c0 hR0 hL0 b1) (B := punctualref_CheckSet.B1 K w0 l0 A0 c0 hR0 hL0 b1) hq14 (fun a hF => ⟨hS12, hF.weaken ⟨by kernel_rfl, by kernel_rfl, by kernel_rfl, by kernel_rfl, by kernel_rfl, trivial⟩⟩) (fun s o hf a w hA Q hQ => punctualref_CheckSet_r1 K w0 l0 A0 c0 hR0 hL0 b1 s o hf a w hA Q hQ) ?_
      rintro _ a w1 _ ⟨rfl, hb⟩
      obtain rfl := Option.some.inj h
      exact hb
  · rw [hq3] at h
    simp only [] at h
    refine we_keep (e' := [(0, .slice A0 l0.length c0), (2, .pointer (some ⟨b1, 0, none⟩))]) ⟨by kernel_rfl, by kernel_rfl, trivial⟩ (punctualref_CheckSet_p0 K w0 l0 A0 c0 hR0 hL0 b1 _ hq3 _ hS1 _ ?_)
    rintro _ a w1 ⟨_, rfl, hb⟩
    obtain rfl := Option.some.inj h
    exact hb

/-! punctual/punctualsame.Still[punctual/api.Task] -/
abbrev punctualsame_Still_api_Task.Post (w0 : World) (r : Bool) (e : Ending) (w : World) : Prop := e = .returned (.bool r) ∧ St w0 w []
def punctualsame_Still_api_Task.r0 (f0 : List STask) (l1 : List STask) (x2 : STask) : Nat → Option (Nat ⊕ (Unit ⊕ Bool))
  | i1 =>
    if (i1 : Int) < (f0.length : Int) then
      match f0[i1]? with
      | none => none
      | some e1 =>
        if (i1 : Int) < (l1.length : Int) then
          match l1[i1]? with
          | none => none
          | some e2 =>
            if (STask.eqb e1 e2) = true then
              if (i1 : Int) ≥ (l1.length : Int) then
                if (STask.eqb e1 x2) = true then
                  some (.inl (i1 + 1))
                else
                  some (.inr (.inr false))
              else
                some (.inl (i1 + 1))
            else
              some (.inr (.inr false))
        else
          if (i1 : Int) ≥ (l1.length : Int) then
            if (STask.eqb e1 x2) = true then
              some (.inl (i1 + 1))
            else
              some (.inr (.inr false))
          else
            some (.inl (i1 + 1))
    else
      some (.inr (.inl ()))
def punctualsame_Still_api_Task.f (K : Nat) (f0 : List STask) (l1 : List STask) (x2 : STask) : Option Bool :=
  if (IntKind.i64.wrap ((l1.length : Int) + 3)) = (f0.length : Int) then
    match iter (punctualsame_Still_api_Task.r0 f0 l1 x2) K 0 with
    | none => none
    | some (.inl _) =>
      some true
    | some (.inr rr1) =>
      some rr1
  else
    none
abbrev punctualsame_Still_api_Task.A0 (K : Nat) (w0 : World) (f0 : List STask) (A0 : Option Addr) (n0 : Nat) (c0 : Nat) (l1 : List STask) (A1 : Option Addr) (c1 : Nat) (x2 : STask) (hR0 : RdL w0 A0 f0) (hc0 : f0.length ≤ c0) (hR1 : RdL w0 A1 l1) (hL1 : l1.length ≤ c1) (b1 : Nat) (hc1 : (IntKind.i64.wrap ((l1.length : Int) + 3)) = (f0.length : Int)) : Nat → Act → World → Prop := fun (s : Nat) a w => St w0 w [Own.blk b1 (.cells #[.string x2.Name, .int .i64 x2.C, .int .i64 x2.T, .int .i64 x2.D, .int .i64 x2.J, .int .i64 x2.O, .int .i64 x2.P] 46 (0, 0))] ∧ Frm 46 a [(1, .slice A1 l1.length c1), (5, .pointer (some ⟨b1, 0, none⟩)), (15, .slice A0 f0.length c0), (16, .int .i64 (f0.length : Int)), (17, .int .i64 (s : Int))]
abbrev punctualsame_Still_api_Task.B0 (K : Nat) (w0 : World) (f0 : List STask) (A0 : Option Addr) (n0 : Nat) (c0 : Nat) (l1 : List STask) (A1 : Option Addr) (c1 : Nat) (x2 : STask) (hR0 : RdL w0 A0 f0) (hc0 : f0.length ≤ c0) (hR1 : RdL w0 A1 l1) (hL1 : l1.length ≤ c1) (b1 : Nat) (hc1 : (IntKind.i64.wrap ((l1.length : Int) + 3)) = (f0.length : Int)) : (Unit ⊕ Bool) → Exit → Act → World → Prop := Exits 0 (fun (s : Unit) a w => St w0 w [] ∧ Frm 46 a []) (Rets Tryd.prog Tryd.f24 (punctualsame_Still_api_Task.Post w0))
theorem punctualsame_Still_api_Task_r0 (K : Nat) (w0 : World) (f0 : List STask) (A0 : Option Addr) (n0 : Nat) (c0 : Nat) (l1 : List STask) (A1 : Option Addr) (c1 : Nat) (x2 : STask) (hR0 : RdL w0 A0 f0) (hc0 : f0.length ≤ c0) (hR1 : RdL w0 A1 l1) (hL1 : l1.length ≤ c1) (b1 : Nat) (hc1 : (IntKind.i64.wrap ((l1.length : Int) + 3)) = (f0.length : Int)) (s : Nat) (o : Nat ⊕ (Unit ⊕ Bool)) (h : punctualsame_Still_api_Task.r0 f0 l1 x2 s = some o) (a : Act) (w : World) (hA : punctualsame_Still_api_Task.A0 K w0 f0 A0 n0 c0 l1 A1 c1 x2 hR0 hc0 hR1 hL1 b1 hc1 s a w) (Q : Exit → Act → World → Prop) (hQ : ∀ x a w, Outs (punctualsame_Still_api_Task.A0 K w0 f0 A0 n0 c0 l1 A1 c1 x2 hR0 hc0 hR1 hL1 b1 hc1) (punctualsame_Still_api_Task.B0 K w0 f0 A0 n0 c0 l1 A1 c1 x2 hR0 hc0 hR1 hL1 b1 hc1) o x a w → Q x a w) : (subF Tryd.f24 [1, 1, 0, 1, 0, 0]).wp Tryd.prog Q a w := by
  obtain ⟨i1, hs⟩ : ∃ z, z = s := ⟨s, rfl⟩
  subst hs
  obtain ⟨hS, hF⟩ := hA
  replace hS : St w0 w [Own.blk b1 (.cells #[.string x2.Name, .int .i64 x2.C, .int .i64 x2.T, .int .i64 x2.D, .int .i64 x2.J, .int .i64 x2.O, .int .i64 x2.P] 46 (0, 0))] := hS
  simp only [punctualsame_Still_api_Task.r0] at h
  refine (?_ : WE Tryd.prog 46 (subF Tryd.f24 [1, 1, 0, 1, 0, 0]) Q [(1, .slice A1 l1.length c1), (5, .pointer (some ⟨b1, 0, none⟩)), (15, .slice A0 f0.length c0), (16, .int .i64 (f0.length : Int)), (17, .int .i64 (i1 : Int))] w) a hF
  clear hF a
  refine we_seq fun K5 hK5 => ?_
  refine we_region [(0, 0)] rfl ?_
  refine ge_batch [0] (ans := []) (vs := [(18, .bool (decide ((i1 : Int) < (f0.length : Int))))]) (l := []) (by kernel_rfl) trivial ?_
  refine ge_nil fun a hF => hK5 _ _ ?_ a hF
  refine we_seq fun K6 hK6 => ?_
  by_cases hc2 : (i1 : Int) < (f0.length : Int)
  · rw [if_pos hc2] at h
    refine we_known (t := 18) (b := decide ((i1 : Int) < (f0.length : Int))) (v := true) (by kernel_rfl) (decide_eq_true hc2) ?_
    refine we_true (by kernel_rfl) ?_
    refine we_skip fun a hF => hK6 _ _ ?_ a hF
    refine we_seq fun K7 hK7 => ?_
    refine we_block ?_
    refine we_seq fun K8 hK8 => ?_
    refine we_region [(0, 0), (1, 0), (2, 0), (3, 1), (4, 0), (5, 2)] rfl ?_
    refine ge_batch [0] (ans := []) (vs := [(19, .int .i64 (i1 : Int))]) (l := []) (by kernel_rfl) trivial ?_
    rcases hx2 : f0[i1]? with _ | e1
    · rw [hx2] at h; cases h
    rw [hx2] at h
    simp only [] at h
    refine ge_index (d := 20) (ty := 0) (t := 40) (el := 46) (sz := 7) (m := f0.length) (c := c0) (x := (.tmp 15)) (y := (.tmp 17)) (A := A0) (k' := .i64) (j := (i1 : Int)) (jn := i1) (b0 := blkOf A0) (o0 := offOf A0) (by kernel_rfl) (by kernel_rfl) (by kernel_rfl) (by kernel_rfl) (by kernel_rfl) ((hS.rd hR0).eqSome (pos_of_get hx2)) rfl (lt_of_get hx2) ?_
    refine ge_batch [2] (ans := [.val (.string e1.Name), .val (.int .i64 e1.C), .val (.int .i64 e1.T), .val (.int .i64 e1.D), .val (.int .i64 e1.J), .val (.int .i64 e1.O), .val (.int .i64 e1.P)]) (vs := [(21, .agg #[.string e1.Name, .int .i64 e1.C, .int .i64 e1.T, .int .i64 e1.D, .int .i64 e1.J, .int .i64 e1.O, .int .i64 e1.P])]) (l := [.loaded ⟨blkOf A0, offOf A0 + i1 * 7, none⟩ (.string e1.Name), .loaded ⟨blkOf A0, offOf A0 + i1 * 7 + 1, none⟩ (.int .i64 e1.C), .loaded ⟨blkOf A0, offOf A0 + i1 * 7 + 2, none⟩ (.int .i64 e1.T), .loaded ⟨blkOf A0, offOf A0 + i1 * 7 + 3, none⟩ (.int .i64 e1.D), .loaded ⟨blkOf A0, offOf A0 + i1 * 7 + 4, none⟩ (.int .i64 e1.J), .loaded ⟨blkOf A0, offOf A0 + i1 * 7 + 5, none⟩ (.int .i64 e1.O), .loaded ⟨blkOf A0, offOf A0 + i1 * 7 + 6, none⟩ (.int .i64 e1.P)]) (by kernel_rfl) ⟨RdL.cell (j := 0) (hS.rd hR0) hx2 rfl, RdL.cell (j := 1) (hS.rd hR0) hx2 rfl, RdL.cell (j := 2) (hS.rd hR0) hx2 rfl, RdL.cell (j := 3) (hS.rd hR0) hx2 rfl, RdL.cell (j := 4) (hS.rd hR0) hx2 rfl, RdL.cell (j := 5) (hS.rd hR0) hx2 rfl, RdL.cell (j := 6) (hS.rd hR0) hx2 rfl, trivial⟩ ?_
    refine ge_new (d := some 9) (o := .cells #[.string (⟨#[]⟩), .int .i64 0, .int .i64 0, .int .i64 0, .int .i64 0, .int .i64 0, .int .i64 0] 46) (v := fun b => .pointer (some ⟨b, 0, none⟩)) hS (fun b => by kernel_rfl) fun b2 w2 hx3 hS2 => ?_
    refine ge_batch [4] (ans := []) (vs := [(8, .int .i64 (i1 : Int))]) (l := []) (by kernel_rfl) trivial ?_
    refine ge_set (b := b2) (j := 0) (cs := #[.string (⟨#[]⟩), .int .i64 0, .int .i64 0, .int .i64 0, .int .i64 0, .int .i64 0, .int .i64 0]) (t := 46) (vs := [.string e1.Name, .int .i64 e1.C, .int .i64 e1.T, .int .i64 e1.D, .int .i64 e1.J, .int .i64 e1.O, .int .i64 e1.P]) hS2 (by kernel_rfl) rfl rfl fun w3 hS3 => ?_
    have hS4 : St w0 w3 [Own.blk b2 (.cells #[.string e1.Name, .int .i64 e1.C, .int .i64 e1.T, .int .i64 e1.D, .int .i64 e1.J, .int .i64 e1.O, .int .i64 e1.P] 46 (0, 0)), Own.blk b1 (.cells #[.string x2.Name, .int .i64 x2.C, .int .i64 x2.T, .int .i64 x2.D, .int .i64 x2.J, .int .i64 x2.O, .int .i64 x2.P] 46 (0, 0))] := hS3
    refine ge_nil fun a hF => hK8 _ _ ?_ a hF
    refine we_seq fun K9 hK9 => ?_
    refine we_draws (by kernel_rfl) [(0, 0), (1, 0), (2, 0), (3, 0), (4, 0), (5, 0), (6, 0), (7, 0), (8, 0), (9, 0), (10, 0), (11, 0), (12, 0), (13, 0), (14, 0), (15, 0), (16, 0), (17, 0), (18, 0), (19, 0), (20, 0), (21, 0), (22, 0)] (by kernel_rfl) ?_
    have hS5 := hS4.drew
    refine ge_batch [0, 1, 2, 3, 4] (ans := []) (vs := [(26, .bool (decide ((i1 : Int) < (l1.length : Int)))), (25, .bool (decide ((i1 : Int) < (l1.length : Int)))), (24, .int .i64 (l1.length : Int)), (23, .slice A1 l1.length c1), (22, .int .i64 (i1 : Int))]) (l := []) (by kernel_rfl) trivial ?_
    by_cases hc3 : (i1 : Int) < (l1.length : Int)
    · rw [if_pos hc3] at h
      refine ge_known (t := 26) (b := decide ((i1 : Int) < (l1.length : Int))) (c := true) (by kernel_rfl) (decide_eq_true hc3) ?_
      refine ge_batch [5, 6, 7] (ans := [.val (.string e1.Name), .val (.int .i64 e1.C), .val (.int .i64 e1.T), .val (.int .i64 e1.D), .val (.int .i64 e1.J), .val (.int .i64 e1.O), .val (.int .i64 e1.P)]) (vs := [(29, .int .i64 (i1 : Int)), (28, .slice A1 l1.length c1), (27, .agg #[.string e1.Name, .int .i64 e1.C, .int .i64 e1.T, .int .i64 e1.D, .int .i64 e1.J, .int .i64 e1.O, .int .i64 e1.P])]) (l := [.loaded ⟨b2, 0, none⟩ (.string e1.Name), .loaded ⟨b2, 1, none⟩ (.int .i64 e1.C), .loaded ⟨b2, 2, none⟩ (.int .i64 e1.T), .loaded ⟨b2, 3, none⟩ (.int .i64 e1.D), .loaded ⟨b2, 4, none⟩ (.int .i64 e1.J), .loaded ⟨b2, 5, none⟩ (.int .i64 e1.O), .loaded ⟨b2, 6, none⟩ (.int .i64 e1.P)]) (by kernel_rfl) ⟨hS5.cell 0 rfl rfl, hS5.cell 0 rfl rfl, hS5.cell 0 rfl rfl, hS5.cell 0 rfl rfl, hS5.cell 0 rfl rfl, hS5.cell 0 rfl rfl, hS5.cell 0 rfl rfl, trivial⟩ ?_
      rcases hx4 : l1[i1]? with _ | e2
      · rw [hx4] at h; cases h
      rw [hx4] at h
      simp only [] at h
      refine ge_index (d := 30) (ty := 0) (t := 40) (el := 46) (sz := 7) (m := l1.length) (c := c1) (x := (.tmp 28)) (y := (.tmp 29)) (A := A1) (k' := .i64) (j := (i1 : Int)) (jn := i1) (b0 := blkOf A1) (o0 := offOf A1) (by kernel_rfl) (by kernel_rfl) (by kernel_rfl) (by kernel_rfl) (by kernel_rfl) ((hS5.rd hR1).eqSome (pos_of_get hx4)) rfl (lt_of_get hx4) ?_
      refine ge_batch [9] (ans := [.val (.string e2.Name), .val (.int .i64 e2.C), .val (.int .i64 e2.T), .val (.int .i64 e2.D), .val (.int .i64 e2.J), .val (.int .i64 e2.O), .val (.int .i64 e2.P)]) (vs := [(31, .agg #[.string e2.Name, .int .i64 e2.C, .int .i64 e2.T, .int .i64 e2.D, .int .i64 e2.J, .int .i64 e2.O, .int .i64 e2.P])]) (l := [.loaded ⟨blkOf A1, offOf A1 + i1 * 7, none⟩ (.string e2.Name), .loaded ⟨blkOf A1, offOf A1 + i1 * 7 + 1, none⟩ (.int .i64 e2.C), .loaded ⟨blkOf A1, offOf A1 + i1 * 7 + 2, none⟩ (.int .i64 e2.T), .loaded ⟨blkOf A1, offOf A1 + i1 * 7 + 3, none⟩ (.int .i64 e2.D), .loaded ⟨blkOf A1, offOf A1 + i1 * 7 + 4, none⟩ (.int .i64 e2.J), .loaded ⟨blkOf A1, offOf A1 + i1 * 7 + 5, none⟩ (.int .i64 e2.O), .loaded ⟨blkOf A1, offOf A1 + i1 * 7 + 6, none⟩ (.int .i64 e2.P)]) (by kernel_rfl) ⟨RdL.cell (j := 0) (hS5.rd hR1) hx4 rfl, RdL.cell (j := 1) (hS5.rd hR1) hx4 rfl, RdL.cell (j := 2) (hS5.rd hR1) hx4 rfl, RdL.cell (j := 3) (hS5.rd hR1) hx4 rfl, RdL.cell (j := 4) (hS5.rd hR1) hx4 rfl, RdL.cell (j := 5) (hS5.rd hR1) hx4 rfl, RdL.cell (j := 6) (hS5.rd hR1) hx4 rfl, trivial⟩ ?_
      refine ge_eqs (d := 32) (ty := 4) (op := .neq) (x := (.tmp 27)) (y := (.tmp 31)) (t := 46) (t2 := 46) (xs := #[.string e1.Name, .int .i64 e1.C, .int .i64 e1.T, .int .i64 e1.D, .int .i64 e1.J, .int .i64 e1.O, .int .i64 e1.P]) (ys := #[.string e2.Name, .int .i64 e2.C, .int .i64 e2.T, .int .i64 e2.D, .int .i64 e2.J, .int .i64 e2.O, .int .i64 e2.P]) (r := (STask.eqb e1 e2)) (v := !(STask.eqb e1 e2)) (by kernel_rfl) (by kernel_rfl) (by kernel_rfl) (by kernel_rfl) (by kernel_rfl) rfl ?_
      refine ge_batch [11, 12] (ans := []) (vs := [(34, .bool (!(STask.eqb e1 e2))), (33, .bool (!(STask.eqb e1 e2)))]) (l := []) (by kernel_rfl) trivial ?_
      by_cases hc4 : (STask.eqb e1 e2) = true
      · rw [if_pos hc4] at h
        refine ge_known (t := 34) (b := !(STask.eqb e1 e2)) (c := false) (by kernel_rfl) (congrArg (fun z => !z) hc4) ?_
        refine ge_batch [13, 14, 15, 16, 17] (ans := []) (vs := [(39, .bool (decide ((i1 : Int) ≥ (l1.length : Int)))), (38, .bool (decide ((i1 : Int) ≥ (l1.length : Int)))), (37, .int .i64 (l1.length : Int)), (36, .slice A1 l1.length c1), (35, .int .i64 (i1 : Int))]) (l := []) (by kernel_rfl) trivial ?_
        by_cases hc5 : (i1 : Int) ≥ (l1.length : Int)
        · rw [if_pos hc5] at h
          refine ge_known (t := 39) (b := decide ((i1 : Int) ≥ (l1.length : Int))) (c := true) (by kernel_rfl) (decide_eq_true hc5) ?_
          refine ge_batch [18, 19] (ans := [.val (.string e1.Name), .val (.int .i64 e1.C), .val (.int .i64 e1.T), .val (.int .i64 e1.D), .val (.int .i64 e1.J), .val (.int .i64 e1.O), .val (.int .i64 e1.P), .val (.string x2.Name), .val (.int .i64 x2.C), .val (.int .i64 x2.T), .val (.int .i64 x2.D), .val (.int .i64 x2.J), .val (.int .i64 x2.O), .val (.int .i64 x2.P)]) (vs := [(41, .agg #[.string x2.Name, .int .i64 x2.C, .int .i64 x2.T, .int .i64 x2.D, .int .i64 x2.J, .int .i64 x2.O, .int .i64 x2.P]), (40, .agg #[.string e1.Name, .int .i64 e1.C, .int .i64 e1.T, .int .i64 e1.D, .int .i64 e1.J, .int .i64 e1.O, .int .i64 e1.P])]) (l := [.loaded ⟨b2, 0, none⟩ (.string e1.Name), .loaded ⟨b2, 1, none⟩ (.int .i64 e1.C), .loaded ⟨b2, 2, none⟩ (.int .i64 e1.T), .loaded ⟨b2, 3, none⟩ (.int .i64 e1.D), .loaded ⟨b2, 4, none⟩ (.int .i64 e1.J), .loaded ⟨b2, 5, none⟩ (.int .i64 e1.O), .loaded ⟨b2, 6, none⟩ (.int .i64 e1.P), .loaded ⟨b1, 0, none⟩ (.string x2.Name), .loaded ⟨b1, 1, none⟩ (.int .i64 x2.C), .loaded ⟨b1, 2, none⟩ (.int .i64 x2.T), .loaded ⟨b1, 3, none⟩ (.int .i64 x2.D), .loaded ⟨b1, 4, none⟩ (.int .i64 x2.J), .loaded ⟨b1, 5, none⟩ (.int .i64 x2.O), .loaded ⟨b1, 6, none⟩ (.int .i64 x2.P)]) (by kernel_rfl) ⟨hS5.cell 0 rfl rfl, hS5.cell 0 rfl rfl, hS5.cell 0 rfl rfl, hS5.cell 0 rfl rfl, hS5.cell 0 rfl rfl, hS5.cell 0 rfl rfl, hS5.cell 0 rfl rfl, hS5.cell 1 rfl rfl, hS5.cell 1 rfl rfl, hS5.cell 1 rfl rfl, hS5.cell 1 rfl rfl, hS5.cell 1 rfl rfl, hS5.cell 1 rfl rfl, hS5.cell 1 rfl rfl, trivial⟩ ?_
          refine ge_eqs (d := 42) (ty := 4) (op := .neq) (x := (.tmp 40)) (y := (.tmp 41)) (t := 46) (t2 := 46) (xs := #[.string e1.Name, .int .i64 e1.C, .int .i64 e1.T, .int .i64 e1.D, .int .i64 e1.J, .int .i64 e1.O, .int .i64 e1.P]) (ys := #[.string x2.Name, .int .i64 x2.C, .int .i64 x2.T, .int .i64 x2.D, .int .i64 x2.J, .int .i64 x2.O, .int .i64 x2.P]) (r := (STask.eqb e1 x2)) (v := !(STask.eqb e1 x2)) (by kernel_rfl) (by kernel_rfl) (by kernel_rfl) (by kernel_rfl) (by kernel_rfl) rfl ?_
          refine ge_batch [21, 22] (ans := []) (vs := [(44, .bool (!(STask.eqb e1 x2))), (43, .bool (!(STask.eqb e1 x2)))]) (l := []) (by kernel_rfl) trivial ?_
          refine ge_nil fun a hF => hK9 _ _ ?_ a hF
          by_cases hc6 : (STask.eqb e1 x2) = true
          · rw [if_pos hc6] at h
            refine we_known (t := 44) (b := !(STask.eqb e1 x2)) (v := false) (by kernel_rfl) (congrArg (fun z => !z) hc6) ?_
            refine we_false (by kernel_rfl) ?_
            refine we_skip fun a hF => hK7 _ _ ?_ a hF
            refine we_region [(0, 0), (1, 0)] rfl ?_
            refine ge_addn (d := 45) (ty := 3) (x := (.tmp 17)) (y := (.const (.int .i64 1))) (t := 3) (t2 := 3) (k := .i64) (m := i1) (by kernel_rfl) (by kernel_rfl) (by kernel_rfl) (by have h0 := hR0.small; omega) ?_
            refine ge_batch [1] (ans := []) (vs := [(17, .int .i64 ((i1 + 1 : Nat) : Int))]) (l := []) (by kernel_rfl) trivial ?_
            have hS6 := hS5.bring 1 rfl
            have hS7 := hS6.takeN 1
            obtain rfl := Option.some.inj h
            exact ge_nil fun a hF => hQ _ _ _ (Outs.again ⟨hS7, hF.weaken ⟨by kernel_rfl, by kernel_rfl, by kernel_rfl, by kernel_rfl, by kernel_rfl, trivial⟩⟩)
          · rw [if_neg hc6] at h
            refine we_known (t := 44) (b := !(STask.eqb e1 x2)) (v := true) (by kernel_rfl) (congrArg (fun z => !z) (Bool.eq_false_iff.2 hc6)) ?_
            refine we_true (by kernel_rfl) ?_
            refine we_seq fun K10 hK10 => ?_
            refine we_region [(0, 0)] rfl ?_
            refine ge_batch [0] (ans := []) (vs := [(6, .bool false)]) (l := []) (by kernel_rfl) trivial ?_
            refine ge_nil fun a hF => hK10 _ _ ?_ a hF
            have hS8 := hS5.takeN 0
            obtain rfl := Option.some.inj h
            exact we_ret fun a hF => hQ _ _ _ (Outs.out nofun (Exits.on ⟨rfl, (post_ret (rs := [.tmp 6]) (ans := []) (vs := [.bool false]) (l := []) rfl (by kernel_rfl) trivial ⟨rfl, hS8⟩) a hF⟩))
        · rw [if_neg hc5] at h
          refine ge_known (t := 39) (b := decide ((i1 : Int) ≥ (l1.length : Int))) (c := false) (by kernel_rfl) (decide_eq_false hc5) ?_
          refine ge_batch [18, 19, 20, 21, 22] (ans := []) (vs := [(44, .bool false), (43, .bool false), (42, undef), (41, undef), (40, undef)]) (l := []) (by kernel_rfl) trivial ?_
          refine ge_nil fun a hF => hK9 _ _ ?_ a hF
          refine we_false (by kernel_rfl) ?_
          refine we_skip fun a hF => hK7 _ _ ?_ a hF
          refine we_region [(0, 0), (1, 0)] rfl ?_
          refine ge_addn (d := 45) (ty := 3) (x := (.tmp 17)) (y := (.const (.int .i64 1))) (t := 3) (t2 := 3) (k := .i64) (m := i1) (by kernel_rfl) (by kernel_rfl) (by kernel_rfl) (by have h0 := hR0.small; omega) ?_
          refine ge_batch [1] (ans := []) (vs := [(17, .int .i64 ((i1 + 1 : Nat) : Int))]) (l := []) (by kernel_rfl) trivial ?_
          have hS9 := hS5.bring 1 rfl
          have hS10 := hS9.takeN 1
          obtain rfl := Option.some.inj h
          exact ge_nil fun a hF => hQ _ _ _ (Outs.again ⟨hS10, hF.weaken ⟨by kernel_rfl, by kernel_rfl, by kernel_rfl, by kernel_rfl, by kernel_rfl, trivial⟩⟩)
      · rw [if_neg hc4] at h
        refine ge_known (t := 34) (b := !(STask.eqb e1 e2)) (c := true) (by kernel_rfl) (congrArg (fun z => !z) (Bool.eq_false_iff.2 hc4)) ?_
        refine ge_batch [13, 14, 15, 16, 17, 18, 19, 20, 21, 22] (ans := []) (vs := [(44, .bool true), (43, undef), (42, undef), (41, undef), (40, undef), (39, undef), (38, undef), (37, undef), (36, undef), (35, undef)]) (l := []) (by kernel_rfl) trivial ?_
        refine ge_nil fun a hF => hK9 _ _ ?_ a hF
        refine we_true (by kernel_rfl) ?_
        refine we_seq fun K11 hK11 => ?_
        refine we_region [(0, 0)] rfl ?_
        refine ge_batch [0] (ans := []) (vs := [(6, .bool false)]) (l := []) (by kernel_rfl) trivial ?_
        refine ge_nil fun a hF => hK11 _ _ ?_ a hF
        have hS11 := hS5.takeN 0
        obtain rfl := Option.some.inj h
        exact we_ret fun a hF => hQ _ _ _ (Outs.out nofun (Exits.on ⟨rfl, (post_ret (rs := [.tmp 6]) (ans := []) (vs := [.bool false]) (l := []) rfl (by kernel_rfl) trivial ⟨rfl, hS11⟩) a hF⟩))
    · rw [if_neg hc3] at h
      refine ge_known (t := 26) (b := decide ((i1 : Int) < (l1.length : Int))) (c := false) (by kernel_rfl) (decide_eq_false hc3) ?_
      refine ge_batch [5, 6, 7, 8, 9, 10, 11, 12, 13, 14, 15, 16, 17] (ans := []) (vs := [(39, .bool (decide ((i1 : Int) ≥ (l1.length : Int)))), (38, .bool (decide ((i1 : Int) ≥ (l1.length : Int)))), (37, .int .i64 (l1.length : Int)), (36, .slice A1 l1.length c1), (35, .int .i64 (i1 : Int)), (34, .bool false), (33, .bool false), (32, undef), (31, undef), (30, undef), (29, undef), (28, undef), (27, undef)]) (l := []) (by kernel_rfl) trivial ?_
      by_cases hc7 : (i1 : Int) ≥ (l1.length : Int)
      · rw [if_pos hc7] at h
        refine ge_known (t := 39) (b := decide ((i1 : Int) ≥ (l1.length : Int))) (c := true) (by kernel_rfl) (decide_eq_true hc7) ?_
        refine ge_batch [18, 19] (ans := [.val (.string e1.Name), .val (.int .i64 e1.C), .val (.int .i64 e1.T), .val (.int .i64 e1.D), .val (.int .i64 e1.J), .val (.int .i64 e1.O), .val (.int .i64 e1.P), .val (.string x2.Name), .val (.int .i64 x2.C), .val (.int .i64 x2.T), .val (.int .i64 x2.D), .val (.int .i64 x2.J), .val (.int .i64 x2.O), .val (.int .i64 x2.P)]) (vs := [(41, .agg #[.string x2.Name, .int .i64 x2.C, .int .i64 x2.T, .int .i64 x2.D, .int .i64 x2.J, .int .i64 x2.O, .int .i64 x2.P]), (40, .agg #[.string e1.Name, .int .i64 e1.C, .int .i64 e1.T, .int .i64 e1.D, .int .i64 e1.J, .int .i64 e1.O, .int .i64 e1.P])]) (l := [.loaded ⟨b2, 0, none⟩ (.string e1.Name), .loaded ⟨b2, 1, none⟩ (.int .i64 e1.C), .loaded ⟨b2, 2, none⟩ (.int .i64 e1.T), .loaded ⟨b2, 3, none⟩ (.int .i64 e1.D), .loaded ⟨b2, 4, none⟩ (.int .i64 e1.J), .loaded ⟨b2, 5, none⟩ (.int .i64 e1.O), .loaded ⟨b2, 6, none⟩ (.int .i64 e1.P), .loaded ⟨b1, 0, none⟩ (.string x2.Name), .loaded ⟨b1, 1, none⟩ (.int .i64 x2.C), .loaded ⟨b1, 2, none⟩ (.int .i64 x2.T), .loaded ⟨b1, 3, none⟩ (.int .i64 x2.D), .loaded ⟨b1, 4, none⟩ (.int .i64 x2.J), .loaded ⟨b1, 5, none⟩ (.int .i64 x2.O), .loaded ⟨b1, 6, none⟩ (.int .i64 x2.P)]) (by kernel_rfl) ⟨hS5.cell 0 rfl rfl, hS5.cell 0 rfl rfl, hS5.cell 0 rfl rfl, hS5.cell 0 rfl rfl, hS5.cell 0 rfl rfl, hS5.cell 0 rfl rfl, hS5.cell 0 rfl rfl, hS5.cell 1 rfl rfl, hS5.cell 1 rfl rfl, hS5.cell 1 rfl rfl, hS5.cell 1 rfl rfl, hS5.cell 1 rfl rfl, hS5.cell 1 rfl rfl, hS5.cell 1 rfl rfl, trivial⟩ ?_
        refine ge_eqs (d := 42) (ty := 4) (op := .neq) (x := (.tmp 40)) (y := (.tmp 41)) (t := 46) (t2 := 46) (xs := #[.string e1.Name, .int .i64 e1.C, .int .i64 e1.T, .int .i64 e1.D, .int .i64 e1.J, .int .i64 e1.O, .int .i64 e1.P]) (ys := #[.string x2.Name, .int .i64 x2.C, .int .i64 x2.T, .int .i64 x2.D, .int .i64 x2.J, .int .i64 x2.O, .int .i64 x2.P]) (r := (STask.eqb e1 x2)) (v := !(STask.eqb e1 x2)) (by kernel_rfl) (by kernel_rfl) (by kernel_rfl) (by kernel_rfl) (by kernel_rfl) rfl ?_
        refine ge_batch [21, 22] (ans := []) (vs := [(44, .bool (!(STask.eqb e1 x2))), (43, .bool (!(STask.eqb e1 x2)))]) (l := []) (by kernel_rfl) trivial ?_
        refine ge_nil fun a hF => hK9 _ _ ?_ a hF
        by_cases hc8 : (STask.eqb e1 x2) = true
        · rw [if_pos hc8] at h
          refine we_known (t := 44) (b := !(STask.eqb e1 x2)) (v := false) (by kernel_rfl) (congrArg (fun z => !z) hc8) ?_
          refine we_false (by kernel_rfl) ?_
          refine we_skip fun a hF => hK7 _ _ ?_ a hF
          refine we_region [(0, 0), (1, 0)] rfl ?_
          refine ge_addn (d := 45) (ty := 3) (x := (.tmp 17)) (y := (.const (.int .i64 1))) (t := 3) (t2 := 3) (k := .i64) (m := i1) (by kernel_rfl) (by kernel_rfl) (by kernel_rfl) (by have h0 := hR0.small; omega) ?_
          refine ge_batch [1] (ans := []) (vs := [(17, .int .i64 ((i1 + 1 : Nat) : Int))]) (l := []) (by kernel_rfl) trivial ?_
          have hS12 := hS5.bring 1 rfl
          have hS13 := hS12.takeN 1
          obtain rfl := Option.some.inj h
          exact ge_nil fun a hF => hQ _ _ _ (Outs.again ⟨hS13, hF.weaken ⟨by kernel_rfl, by kernel_rfl, by kernel_rfl, by kernel_rfl, by kernel_rfl, trivial⟩⟩)
        · rw [if_neg hc8] at h
          refine we_known (t := 44) (b := !(STask.eqb e1 x2)) (v := true) (by kernel_rfl) (congrArg (fun z => !z) (Bool.eq_false_iff.2 hc8)) ?_
          refine we_true (by kernel_rfl) ?_
          refine we_seq fun K12 hK12 => ?_
          refine we_region [(0, 0)] rfl ?_
          refine ge_batch [0] (ans := []) (vs := [(6, .bool false)]) (l := []) (by kernel_rfl) trivial ?_
          refine ge_nil fun a hF => hK12 _ _ ?_ a hF
          have hS14 := hS5.takeN 0
          obtain rfl := Option.some.inj h
          exact we_ret fun a hF => hQ _ _ _ (Outs.out nofun (Exits.on ⟨rfl, (post_ret (rs := [.tmp 6]) (ans := []) (vs := [.bool false]) (l := []) rfl (by kernel_rfl) trivial ⟨rfl, hS14⟩) a hF⟩))
      · rw [if_neg hc7] at h
        refine ge_known (t := 39) (b := decide ((i1 : Int) ≥ (l1.length : Int))) (c := false) (by kernel_rfl) (decide_eq_false hc7) ?_
        refine ge_batch [18, 19, 20, 21, 22] (ans := []) (vs := [(44, .bool false), (43, .bool false), (42, undef), (41, undef), (40, undef)]) (l := []) (by kernel_rfl) trivial ?_
        refine ge_nil fun a hF => hK9 _ _ ?_ a hF
        refine we_false (by kernel_rfl) ?_
        refine we_skip fun a hF => hK7 _ _ ?_ a hF
        refine we_region [(0, 0), (1, 0)] rfl ?_
        refine ge_addn (d := 45) (ty := 3) (x := (.tmp 17)) (y := (.const (.int .i64 1))) (t := 3) (t2 := 3) (k := .i64) (m := i1) (by kernel_rfl) (by kernel_rfl) (by kernel_rfl) (by have h0 := hR0.small; omega) ?_
        refine ge_batch [1] (ans := []) (vs := [(17, .int .i64 ((i1 + 1 : Nat) : Int))]) (l := []) (by kernel_rfl) trivial ?_
        have hS15 := hS5.bring 1 rfl
        have hS16 := hS15.takeN 1
        obtain rfl := Option.some.inj h
        exact ge_nil fun a hF => hQ _ _ _ (Outs.again ⟨hS16, hF.weaken ⟨by kernel_rfl, by kernel_rfl, by kernel_rfl, by kernel_rfl, by kernel_rfl, trivial⟩⟩)
  · rw [if_neg hc2] at h
    refine we_known (t := 18) (b := decide ((i1 : Int) < (f0.length : Int))) (v := false) (by kernel_rfl) (decide_eq_false hc2) ?_
    refine we_false (by kernel_rfl) ?_
    have hS17 := hS.takeN 0
    obtain rfl := Option.some.inj h
    exact we_exit fun a hF => hQ _ _ _ (Outs.out nofun (Exits.here ⟨hS17, hF.weaken trivial⟩))
theorem punctualsame_Still_api_Task_ok (K : Nat) (f0 : List STask) (A0 : Option Addr) (n0 : Nat) (c0 : Nat) (l1 : List STask) (A1 : Option Addr) (c1 : Nat) (x2 : STask) (w0 : World) (hR0 : RdL w0 A0 f0) (hc0 : f0.length ≤ c0) (hR1 : RdL w0 A1 l1) (hL1 : l1.length ≤ c1) (r : Bool) (h : punctualsame_Still_api_Task.f K f0 l1 x2 = some r) :
    Calls Tryd.prog 24 #[.slice A0 n0 c0, .slice A1 l1.length c1, .agg #[.string x2.Name, .int .i64 x2.C, .int .i64 x2.T, .int .i64 x2.D, .int .i64 x2.J, .int .i64 x2.O, .int .i64 x2.P]] w0 (punctualsame_Still_api_Task.Post w0 r) := by
  have hS := St.start w0
  unfold punctualsame_Still_api_Task.f at h
  refine calls_enter (n := 46) (args := [.slice A0 n0 c0, .slice A1 l1.length c1, .agg #[.string x2.Name, .int .i64 x2.C, .int .i64 x2.T, .int .i64 x2.D, .int .i64 x2.J, .int .i64 x2.O, .int .i64 x2.P]]) (fn := Tryd.f24) rfl rfl rfl rfl ?_
  show WE _ _ _ _ [(0, .slice A0 n0 c0), (1, .slice A1 l1.length c1), (2, .agg #[.string x2.Name, .int .i64 x2.C, .int .i64 x2.T, .int .i64 x2.D, .int .i64 x2.J, .int .i64 x2.O, .int .i64 x2.P])] _
  refine we_seq fun K1 hK1 => ?_
  refine we_region [(0, 1), (1, 0)] rfl ?_
  refine ge_new (d := some 5) (o := .cells #[.string x2.Name, .int .i64 x2.C, .int .i64 x2.T, .int .i64 x2.D, .int .i64 x2.J, .int .i64 x2.O, .int .i64 x2.P] 46) (v := fun b => .pointer (some ⟨b, 0, none⟩)) hS (fun b => by kernel_rfl) fun b1 w1 hx1 hS1 => ?_
  refine ge_batch [1] (ans := []) (vs := [(6, .bool false)]) (l := []) (by kernel_rfl) trivial ?_
  refine ge_nil fun a hF => hK1 _ _ ?_ a hF
  refine we_seq fun K2 hK2 => ?_
  refine we_region [(0, 0), (1, 0), (2, 0), (3, 0), (4, 0), (5, 0)] rfl ?_
  refine ge_batch [0, 1, 2, 3] (ans := []) (vs := [(13, .int .i64 (IntKind.i64.wrap ((l1.length : Int) + 3))), (12, .int .i64 (l1.length : Int)), (11, .slice A1 l1.length c1), (10, .slice A0 n0 c0)]) (l := []) (by kernel_rfl) trivial ?_
  by_cases hc1 : (IntKind.i64.wrap ((l1.length : Int) + 3)) = (f0.length : Int)
  · rw [if_pos hc1] at h
    refine ge_sliceHi (d := 14) (ty := 40) (t := 40) (el := 46) (sz := 7) (m := n0) (c := c0) (hn := f0.length) (x := (.tmp 10)) (y := (.tmp 13)) (A := A0) (k' := .i64) (hi := (IntKind.i64.wrap ((l1.length : Int) + 3))) (by kernel_rfl) (by kernel_rfl) (by kernel_rfl) hc1 (by kernel_rfl) (by kernel_rfl) hc0 ?_
    refine ge_batch [5] (ans := []) (vs := [(7, .slice A0 f0.length c0)]) (l := []) (by kernel_rfl) trivial ?_
    refine ge_nil fun a hF => hK2 _ _ ?_ a hF
    refine we_seq fun K3 hK3 => ?_
    refine we_seq fun K4 hK4 => ?_
    refine we_region [(0, 0), (1, 0), (2, 0)] rfl ?_
    refine ge_batch [0, 1, 2] (ans := []) (vs := [(17, .int .i64 0), (16, .int .i64 (f0.length : Int)), (15, .slice A0 f0.length c0)]) (l := []) (by kernel_rfl) trivial ?_
    refine ge_nil fun a hF => hK4 _ _ ?_ a hF
    refine we_block ?_
    rcases hq1 : iter (punctualsame_Still_api_Task.r0 f0 l1 x2) K 0 with _ | (_ | rr1)
    · rw [hq1] at h; cases h
    · rw [hq1] at h
      simp only [] at h
      refine we_iter (A := punctualsame_Still_api_Task.A0 K w0 f0 A0 n0 c0 l1 A1 c1 x2 hR0 hc0 hR1 hL1 b1 hc1) (B := punctualsame_Still_api_Task.B0 K w0 f0 A0 n0 c0 l1 A1 c1 x2 hR0 hc0 hR1 hL1 b1 hc1) hq1 (fun a hF => ⟨hS1, hF.weaken ⟨by kernel_rfl, by kernel_rfl, by kernel_rfl, by kernel_rfl, by kernel_rfl, trivial⟩⟩) (fun s o hf a w hA Q hQ => punctualsame_Still_api_Task_r0 K w0 f0 A0 n0 c0 l1 A1 c1 x2 hR0 hc0 hR1 hL1 b1 hc1 s o hf a w hA Q hQ) ?_
      rintro _ a w4 _ ⟨rfl, hS18, hF⟩
      replace hS18 : St w0 w4 [] := hS18
      refine hK3 [] w4 ?_ a hF
      refine we_seq fun K13 hK13 => ?_
      refine we_region [(0, 0)] rfl ?_
      refine ge_batch [0] (ans := []) (vs := [(6, .bool true)]) (l := []) (by kernel_rfl) trivial ?_
      refine ge_nil fun a hF => hK13 _ _ ?_ a hF
      obtain rfl := Option.some.inj h
      exact we_ret (post_ret (rs := [.tmp 6]) (ans := []) (vs := [.bool true]) (l := []) rfl (by kernel_rfl) trivial ⟨rfl, hS18⟩)
    · rw [hq1] at h
      simp only [] at h
      refine we_iter (A := punctualsame_Still_api_Task.A0 K w0 f0 A0 n0 c0 l1 A1 c1 x2 hR0 hc0 hR1 hL1 b1 hc1) (B := punctualsame_Still_api_Task.B0 K w0 f0 A0 n0 c0 l1 A1 c1 x2 hR0 hc0 hR1 hL1 b1 hc1) hq1 (fun a hF => ⟨hS1, hF.weaken ⟨by kernel_rfl, by kernel_rfl, by kernel_rfl, by kernel_rfl, by kernel_rfl, trivial⟩⟩) (fun s o hf a w hA Q hQ => punctualsame_Still_api_Task_r0 K w0 f0 A0 n0 c0 l1 A1 c1 x2 hR0 hc0 hR1 hL1 b1 hc1 s o hf a w hA Q hQ) ?_
      rintro _ a w1 _ ⟨rfl, hb⟩
      obtain rfl := Option.some.inj h
      exact hb
  · rw [if_neg hc1] at h
    cases h

/-! punctual/punctuallaw.TasksChecks -/
abbrev TasksChecks.Post (w0 : World) (r : Bool) (e : Ending) (w : World) : Prop := e = .returned (.bool r) ∧ St w0 w []
def TasksChecks.f (K : Nat) (l0 : List STask) : Option Bool :=
  match tasks_Check.f K three.f with
  | none => none
  | some r1 =>
    if r1.Code = 0 then
      match tasks_Check.f K ([] : List STask) with
      | none => none
      | some r2 =>
        if (SFault.eqb r2 (punctualref_F.f 2 0)) = true then
          if (few.f (l0.length : Int)) = true then
            match punctualsame_Lend_api_Task.f l0 (⟨⟨#[63]⟩, (-9), 0, 0, 0, 0, 0⟩ : STask) with
            | none => none
            | some _ =>
              match tasks_Check.f K l0 with
              | none => none
              | some r4 =>
                match punctualref_CheckSet.f K l0 with
                | none => none
                | some r5 =>
                  if (SFault.eqb r4 r5) = true then
                    match punctualsame_Still_api_Task.f K (l0 ++ [(⟨⟨#[63]⟩, (-9), 0, 0, 0, 0, 0⟩ : STask), (⟨⟨#[63]⟩, (-9), 0, 0, 0, 0, 0⟩ : STask), (⟨⟨#[63]⟩, (-9), 0, 0, 0, 0, 0⟩ : STask)]) l0 (⟨⟨#[63]⟩, (-9), 0, 0, 0, 0, 0⟩ : STask) with
                    | none => none
                    | some r6 =>
                      some r6
                  else
                    some false
          else
            some true
        else
          some false
    else
      some false
theorem TasksChecks_ok (K : Nat) (l0 : List STask) (A0 : Option Addr) (c0 : Nat) (w0 : World) (hR0 : RdL w0 A0 l0) (hL0 : l0.length ≤ c0) (hG1 : Glob w0 1 [.string (⟨#[63]⟩), .int .i64 (-9), .int .i64 0, .int .i64 0, .int .i64 0, .int .i64 0, .int .i64 0]) (r : Bool) (h : TasksChecks.f K l0 = some r) :
    Calls Tryd.prog 4 #[.slice A0 l0.length c0] w0 (TasksChecks.Post w0 r) := by
  have hS := St.start w0
  unfold TasksChecks.f at h
  refine calls_enter (n := 31) (args := [.slice A0 l0.length c0]) (fn := Tryd.f4) rfl rfl rfl rfl ?_
  show WE _ _ _ _ [(0, .slice A0 l0.length c0)] _
  refine we_seq fun K1 hK1 => ?_
  refine we_region [(0, 0)] rfl ?_
  refine ge_batch [0] (ans := []) (vs := [(2, .bool false)]) (l := []) (by kernel_rfl) trivial ?_
  refine ge_nil fun a hF => hK1 _ _ ?_ a hF
  refine we_seq fun K2 hK2 => ?_
  refine we_seq fun K3 hK3 => ?_
  refine we_region [(0, 1), (1, 1), (2, 0), (3, 0), (4, 0), (5, 1), (6, 1), (7, 0), (8, 0)] rfl ?_
  refine ge_call (d := some 4) (f := 20) (args := #[]) (by kernel_rfl) (three_ok _ _ rfl) ?_
  rintro _ w1 ⟨v1, rfl, hS1⟩
  refine ⟨_, rfl, hS1.below, ?_⟩
  have hS2 := hS.call hS1
  obtain ⟨Z1, cz1, rfl⟩ := hS2.open 0 rfl
  rcases hq2 : tasks_Check.f K three.f with _ | r1
  · rw [hq2] at h; cases h
  rw [hq2] at h
  simp only [] at h
  refine ge_call (d := some 5) (f := 19) (args := #[(.slice Z1 three.f.length cz1)]) (by kernel_rfl) (tasks_Check_ok K three.f Z1 cz1 _ (hS2.rdAt 0 rfl) (hS2.capAt 0 rfl) _ hq2) ?_
  rintro _ w2 ⟨rfl, hS3⟩
  refine ⟨_, rfl, hS3.below, ?_⟩
  have hS4 := hS2.call hS3
  refine ge_batch [2, 3, 4] (ans := []) (vs := [(8, .bool (r1.Code != 0)), (7, .bool (r1.Code != 0)), (6, .int .i64 r1.Code)]) (l := []) (by kernel_rfl) trivial ?_
  by_cases hc1 : r1.Code = 0
  · rw [if_pos hc1] at h
    refine ge_known (t := 8) (b := (r1.Code != 0)) (c := false) (by kernel_rfl) (bne_eq_false_iff_eq.2 hc1) ?_
    rcases hq3 : tasks_Check.f K ([] : List STask) with _ | r2
    · rw [hq3] at h; cases h
    rw [hq3] at h
    simp only [] at h
    refine ge_call (d := some 9) (f := 19) (args := #[.slice none 0 0]) (by kernel_rfl) (tasks_Check_ok K ([] : List STask) none 0 _ (RdL.nil _) (Nat.zero_le _) _ hq3) ?_
    rintro _ w3 ⟨rfl, hS5⟩
    refine ⟨_, rfl, hS5.below, ?_⟩
    have hS6 := hS4.call hS5
    refine ge_call (d := some 10) (f := 21) (args := #[.int .i64 2, .int .i64 0]) (by kernel_rfl) (punctualref_F_ok 2 0 _ _ rfl) ?_
    rintro _ w4 ⟨rfl, hS7⟩
    refine ⟨_, rfl, hS7.below, ?_⟩
    have hS8 := hS6.call hS7
    refine ge_eqs (d := 11) (ty := 4) (op := .neq) (x := (.tmp 9)) (y := (.tmp 10)) (t := 26) (t2 := 26) (xs := #[.int .i64 r2.Code, .int .i64 r2.At]) (ys := #[.int .i64 ((punctualref_F.f 2 0).Code), .int .i64 ((punctualref_F.f 2 0).At)]) (r := (SFault.eqb r2 (punctualref_F.f 2 0))) (v := !(SFault.eqb r2 (punctualref_F.f 2 0))) (by kernel_rfl) (by kernel_rfl) (by kernel_rfl) (by kernel_rfl) (by kernel_rfl) rfl ?_
    refine ge_batch [8] (ans := []) (vs := [(12, .bool (!(SFault.eqb r2 (punctualref_F.f 2 0))))]) (l := []) (by kernel_rfl) trivial ?_
    refine ge_nil fun a hF => hK3 _ _ ?_ a hF
    by_cases hc2 : (SFault.eqb r2 (punctualref_F.f 2 0)) = true
    · rw [if_pos hc2] at h
      refine we_known (t := 12) (b := !(SFault.eqb r2 (punctualref_F.f 2 0))) (v := false) (by kernel_rfl) (congrArg (fun z => !z) hc2) ?_
      refine we_false (by kernel_rfl) ?_
      refine we_skip fun a hF => hK2 _ _ ?_ a hF
      refine we_seq fun K4 hK4 => ?_
      refine we_seq fun K5 hK5 => ?_
      refine we_region [(0, 0), (1, 0), (2, 1), (3, 0)] rfl ?_
      refine ge_batch [0, 1] (ans := []) (vs := [(14, .int .i64 (l0.length : Int)), (13, .slice A0 l0.length c0)]) (l := []) (by kernel_rfl) trivial ?_
      refine ge_call (d := some 15) (f := 13) (args := #[.int .i64 (l0.length : Int)]) (by kernel_rfl) (few_ok (l0.length : Int) _ _ rfl) ?_
      rintro _ w5 ⟨rfl, hS9⟩
      refine ⟨_, rfl, hS9.below, ?_⟩
      have hS10 := hS8.call hS9
      refine ge_batch [3] (ans := []) (vs := [(16, .bool (!(few.f (l0.length : Int))))]) (l := []) (by kernel_rfl) trivial ?_
      refine ge_nil fun a hF => hK5 _ _ ?_ a hF
      by_cases hc3 : (few.f (l0.length : Int)) = true
      · rw [if_pos hc3] at h
        refine we_known (t := 16) (b := !(few.f (l0.length : Int))) (v := false) (by kernel_rfl) (congrArg (fun z => !z) hc3) ?_
        refine we_false (by kernel_rfl) ?_
        refine we_skip fun a hF => hK4 _ _ ?_ a hF
        refine we_seq fun K6 hK6 => ?_
        refine we_region [(0, 0), (1, 0), (2, 1), (3, 0)] rfl ?_
        refine ge_batch [0, 1] (ans := [.val (.string (⟨#[63]⟩)), .val (.int .i64 (-9)), .val (.int .i64 0), .val (.int .i64 0), .val (.int .i64 0), .val (.int .i64 0), .val (.int .i64 0)]) (vs := [(18, .agg #[.string (⟨#[63]⟩), .int .i64 (-9), .int .i64 0, .int .i64 0, .int .i64 0, .int .i64 0, .int .i64 0]), (17, .slice A0 l0.length c0)]) (l := [.loaded ⟨1, 0, none⟩ (.string (⟨#[63]⟩)), .loaded ⟨1, 1, none⟩ (.int .i64 (-9)), .loaded ⟨1, 2, none⟩ (.int .i64 0), .loaded ⟨1, 3, none⟩ (.int .i64 0), .loaded ⟨1, 4, none⟩ (.int .i64 0), .loaded ⟨1, 5, none⟩ (.int .i64 0), .loaded ⟨1, 6, none⟩ (.int .i64 0)]) (by kernel_rfl) ⟨hS10.glob hG1 rfl, hS10.glob hG1 rfl, hS10.glob hG1 rfl, hS10.glob hG1 rfl, hS10.glob hG1 rfl, hS10.glob hG1 rfl, hS10.glob hG1 rfl, trivial⟩ ?_
        rcases hq6 : punctualsame_Lend_api_Task.f l0 (⟨⟨#[63]⟩, (-9), 0, 0, 0, 0, 0⟩ : STask) with _ | r3
        · rw [hq6] at h; cases h
        rw [hq6] at h
        simp only [] at h
        obtain rfl := punctualsame_Lend_api_Task_full _ _ hq6
        refine ge_call (d := some 19) (f := 22) (args := #[.slice A0 l0.length c0, .agg #[.string (⟨#[63]⟩), .int .i64 (-9), .int .i64 0, .int .i64 0, .int .i64 0, .int .i64 0, .int .i64 0]]) (by kernel_rfl) (punctualsame_Lend_api_Task_ok l0 A0 c0 (⟨⟨#[63]⟩, (-9), 0, 0, 0, 0, 0⟩ : STask) _ (hS10.rd hR0) hL0 _ hq6) ?_
        rintro _ w6 ⟨Z2, cz2, rfl, hcp1, hS11⟩
        refine ⟨_, rfl, hS11.below, ?_⟩
        have hS12 := hS10.call hS11
        refine ge_batch [3] (ans := []) (vs := [(3, .slice Z2 l0.length cz2)]) (l := []) (by kernel_rfl) trivial ?_
        refine ge_nil fun a hF => hK6 _ _ ?_ a hF
        refine we_seq fun K7 hK7 => ?_
        refine we_region [(0, 0), (1, 1), (2, 0), (3, 1), (4, 0), (5, 0), (6, 0), (7, 0), (8, 0), (9, 1), (10, 0), (11, 0)] rfl ?_
        rcases hq7 : tasks_Check.f K l0 with _ | r4
        · rw [hq7] at h; cases h
        rw [hq7] at h
        simp only [] at h
        refine ge_batch [0] (ans := []) (vs := [(20, .slice Z2 l0.length cz2)]) (l := []) (by kernel_rfl) trivial ?_
        refine ge_call (d := some 21) (f := 19) (args := #[.slice Z2 l0.length cz2]) (by kernel_rfl) (tasks_Check_ok K l0 Z2 cz2 _ ((hS12.rdAt 0 rfl).pre) (by have h0 := hcp1; simp only [List.length_append, List.length_cons, List.length_nil] at h0; omega) _ hq7) ?_
        rintro _ w7 ⟨rfl, hS13⟩
        refine ⟨_, rfl, hS13.below, ?_⟩
        have hS14 := hS12.call hS13
        rcases hq8 : punctualref_CheckSet.f K l0 with _ | r5
        · rw [hq8] at h; cases h
        rw [hq8] at h
        simp only [] at h
        refine ge_batch [2] (ans := []) (vs := [(22, .slice A0 l0.length c0)]) (l := []) (by kernel_rfl) trivial ?_
        refine ge_call (d := some 23) (f := 23) (args := #[.slice A0 l0.length c0]) (by kernel_rfl) (punctualref_CheckSet_ok K l0 A0 c0 _ (hS14.rd hR0) hL0 _ hq8) ?_
        rintro _ w8 ⟨rfl, hS15⟩
        refine ⟨_, rfl, hS15.below, ?_⟩
        have hS16 := hS14.call hS15
        refine ge_eqs (d := 24) (ty := 4) (op := .eql) (x := (.tmp 21)) (y := (.tmp 23)) (t := 26) (t2 := 26) (xs := #[.int .i64 r4.Code, .int .i64 r4.At]) (ys := #[.int .i64 r5.Code, .int .i64 r5.At]) (r := (SFault.eqb r4 r5)) (v := (SFault.eqb r4 r5)) (by kernel_rfl) (by kernel_rfl) (by kernel_rfl) (by kernel_rfl) (by kernel_rfl) rfl ?_
        refine ge_batch [5] (ans := []) (vs := [(25, .bool (SFault.eqb r4 r5))]) (l := []) (by kernel_rfl) trivial ?_
        by_cases hc4 : (SFault.eqb r4 r5) = true
        · rw [if_pos hc4] at h
          refine ge_known (t := 25) (b := (SFault.eqb r4 r5)) (c := true) (by kernel_rfl) hc4 ?_
          refine ge_batch [6, 7, 8] (ans := [.val (.string (⟨#[63]⟩)), .val (.int .i64 (-9)), .val (.int .i64 0), .val (.int .i64 0), .val (.int .i64 0), .val (.int .i64 0), .val (.int .i64 0)]) (vs := [(28, .agg #[.string (⟨#[63]⟩), .int .i64 (-9), .int .i64 0, .int .i64 0, .int .i64 0, .int .i64 0, .int .i64 0]), (27, .slice A0 l0.length c0), (26, .slice Z2 l0.length cz2)]) (l := [.loaded ⟨1, 0, none⟩ (.string (⟨#[63]⟩)), .loaded ⟨1, 1, none⟩ (.int .i64 (-9)), .loaded ⟨1, 2, none⟩ (.int .i64 0), .loaded ⟨1, 3, none⟩ (.int .i64 0), .loaded ⟨1, 4, none⟩ (.int .i64 0), .loaded ⟨1, 5, none⟩ (.int .i64 0), .loaded ⟨1, 6, none⟩ (.int .i64 0)]) (by kernel_rfl) ⟨hS16.glob hG1 rfl, hS16.glob hG1 rfl, hS16.glob hG1 rfl, hS16.glob hG1 rfl, hS16.glob hG1 rfl, hS16.glob hG1 rfl, hS16.glob hG1 rfl, trivial⟩ ?_
          rcases hq9 : punctualsame_Still_api_Task.f K (l0 ++ [(⟨⟨#[63]⟩, (-9), 0, 0, 0, 0, 0⟩ : STask), (⟨⟨#[63]⟩, (-9), 0, 0, 0, 0, 0⟩ : STask), (⟨⟨#[63]⟩, (-9), 0, 0, 0, 0, 0⟩ : STask)]) l0 (⟨⟨#[63]⟩, (-9), 0, 0, 0, 0, 0⟩ : STask) with _ | r6
          · rw [hq9] at h; cases h
          rw [hq9] at h
          simp only [] at h
          refine ge_call (d := some 29) (f := 24) (args := #[.slice Z2 l0.length cz2, .slice A0 l0.length c0, .agg #[.string (⟨#[63]⟩), .int .i64 (-9), .int .i64 0, .int .i64 0, .int .i64 0, .int .i64 0, .int .i64 0]]) (by kernel_rfl) (punctualsame_Still_api_Task_ok K (l0 ++ [(⟨⟨#[63]⟩, (-9), 0, 0, 0, 0, 0⟩ : STask), (⟨⟨#[63]⟩, (-9), 0, 0, 0, 0, 0⟩ : STask), (⟨⟨#[63]⟩, (-9), 0, 0, 0, 0, 0⟩ : STask)]) Z2 l0.length cz2 l0 A0 c0 (⟨⟨#[63]⟩, (-9), 0, 0, 0, 0, 0⟩ : STask) _ (hS16.rdAt 0 rfl) hcp1 (hS16.rd hR0) hL0 _ hq9) ?_
          rintro _ w9 ⟨rfl, hS17⟩
          refine ⟨_, rfl, hS17.below, ?_⟩
          have hS18 := hS16.call hS17
          refine ge_batch [10, 11] (ans := []) (vs := [(2, .bool r6), (30, .bool r6)]) (l := []) (by kernel_rfl) trivial ?_
          refine ge_nil fun a hF => hK7 _ _ ?_ a hF
          have hS19 := hS18.takeN 0
          obtain rfl := Option.some.inj h
          exact we_ret (post_ret (rs := [.tmp 2]) (ans := []) (vs := [.bool r6]) (l := []) rfl (by kernel_rfl) trivial ⟨rfl, hS19⟩)
        · rw [if_neg hc4] at h
          refine ge_known (t := 25) (b := (SFault.eqb r4 r5)) (c := false) (by kernel_rfl) (Bool.eq_false_iff.2 hc4) ?_
          refine ge_batch [6, 7, 8] (ans := []) (vs := [(28, undef), (27, undef), (26, undef)]) (l := []) (by kernel_rfl) trivial ?_
          refine ge_off rfl rfl rfl (by kernel_rfl) ?_
          refine ge_batch [10, 11] (ans := []) (vs := [(2, .bool false), (30, .bool false)]) (l := []) (by kernel_rfl) trivial ?_
          refine ge_nil fun a hF => hK7 _ _ ?_ a hF
          have hS20 := hS16.takeN 0
          obtain rfl := Option.some.inj h
          exact we_ret (post_ret (rs := [.tmp 2]) (ans := []) (vs := [.bool false]) (l := []) rfl (by kernel_rfl) trivial ⟨rfl, hS20⟩)
      · rw [if_neg hc3] at h
        refine we_known (t := 16) (b := !(few.f (l0.length : Int))) (v := true) (by kernel_rfl) (congrArg (fun z => !z) (Bool.eq_false_iff.2 hc3)) ?_
        refine we_true (by kernel_rfl) ?_
        refine we_seq fun K8 hK8 => ?_
        refine we_region [(0, 0)] rfl ?_
        refine ge_batch [0] (ans := []) (vs := [(2, .bool true)]) (l := []) (by kernel_rfl) trivial ?_
        refine ge_nil fun a hF => hK8 _ _ ?_ a hF
        have hS21 := hS10.takeN 0
        obtain rfl := Option.some.inj h
        exact we_ret (post_ret (rs := [.tmp 2]) (ans := []) (vs := [.bool true]) (l := []) rfl (by kernel_rfl) trivial ⟨rfl, hS21⟩)
    · rw [if_neg hc2] at h
      refine we_known (t := 12) (b := !(SFault.eqb r2 (punctualref_F.f 2 0))) (v := true) (by kernel_rfl) (congrArg (fun z => !z) (Bool.eq_false_iff.2 hc2)) ?_
      refine we_true (by kernel_rfl) ?_
      refine we_seq fun K9 hK9 => ?_
      refine we_region [(0, 0)] rfl ?_
      refine ge_batch [0] (ans := []) (vs := [(2, .bool false)]) (l := []) (by kernel_rfl) trivial ?_
      refine ge_nil fun a hF => hK9 _ _ ?_ a hF
      have hS22 := hS8.takeN 0
      obtain rfl := Option.some.inj h
      exact we_ret (post_ret (rs := [.tmp 2]) (ans := []) (vs := [.bool false]) (l := []) rfl (by kernel_rfl) trivial ⟨rfl, hS22⟩)
  · rw [if_neg hc1] at h
    refine ge_known (t := 8) (b := (r1.Code != 0)) (c := true) (by kernel_rfl) (bne_iff_ne.2 hc1) ?_
    refine ge_off rfl rfl rfl (by kernel_rfl) ?_
    refine ge_off rfl rfl rfl (by kernel_rfl) ?_
    refine ge_batch [7, 8] (ans := []) (vs := [(12, .bool true), (11, undef)]) (l := []) (by kernel_rfl) trivial ?_
    refine ge_nil fun a hF => hK3 _ _ ?_ a hF
    refine we_true (by kernel_rfl) ?_
    refine we_seq fun K10 hK10 => ?_
    refine we_region [(0, 0)] rfl ?_
    refine ge_batch [0] (ans := []) (vs := [(2, .bool false)]) (l := []) (by kernel_rfl) trivial ?_
    refine ge_nil fun a hF => hK10 _ _ ?_ a hF
    have hS23 := hS4.takeN 0
    obtain rfl := Option.some.inj h
    exact we_ret (post_ret (rs := [.tmp 2]) (ans := []) (vs := [.bool false]) (l := []) rfl (by kernel_rfl) trivial ⟨rfl, hS23⟩)

end Go.Proofs.YtlipdmblinjjaaaDoor.GV
