/- Walks of single functions, written by a program of this work. -/
import Derived.Test.YtlipdmblinjjaaaGv26
import Derived.Test.YtlipdmblinjjaaaProg
namespace Go.Proofs.Ytlipdmblinjjaaa.GV
open Go Go.RowKit
set_option linter.unusedVariables false
set_option linter.unusedSimpArgs false
set_option maxRecDepth 100000

structure STask where
 Name : ByteArray
 C : Int
 T : Int
 D : Int
 J : Int
 O : Int
 P : Int
def STask.eqb (x y : STask) : Bool := ((x.Name.toList == y.Name.toList) && ((x.C == y.C) && ((x.T == y.T) && ((x.D == y.D) && ((x.J == y.J) && ((x.O == y.O) && ((x.P == y.P) && true)))))))
instance : Ok STask := ⟨fun x => Ok.ok x.Name ∧ Ok.ok x.C ∧ Ok.ok x.T ∧ Ok.ok x.D ∧ Ok.ok x.J ∧ Ok.ok x.O ∧ Ok.ok x.P ∧ True⟩
instance : Flat STask := ⟨7, fun x => [.string x.Name, vI x.C, vI x.T, vI x.D, vI x.J, vI x.O, vI x.P], fun _ => rfl, fun _ => rfl, by decide⟩

/-! punctual/punctuallaw.three -/
abbrev three.Post (w0 : World) (r : List STask) (e : Ending) (w : World) : Prop := ∃ (v0 : Value), e = .returned (v0) ∧ St w0 w [Own.of v0 46 r]
def three.f : List STask :=
 ([(⟨⟨#[97]⟩, 1, 4, 4, 0, 0, 3⟩ : STask), (⟨⟨#[98]⟩, 2, 6, 6, 0, 0, 2⟩ : STask), (⟨⟨#[99]⟩, 3, 12, 12, 0, 0, 1⟩ : STask)] : List STask)
theorem three_ok  (w0 : World) (r : List STask) (h : three.f = r) :
  Calls Try.prog 24 #[] w0 (three.Post w0 r) := by
 have hS := St.start w0
 unfold three.f at h
 refine calls_enter (n := 5) (args := []) (fn := Try.f24) rfl rfl rfl rfl ?_
 show WE _ _ _ _ [] _
 refine ws fun K1 hK1 => ?_
 refine wr [(0, 0)] ?_
 refine gb0 [0] [(0, .slice none 0 0)] ?_
 refine gn hK1 ?_
 refine ws fun K2 hK2 => ?_
 refine wr [(0, 0), (1, 0), (2, 0), (3, 1), (4, 0)] ?_
 refine gb0 [0, 1, 2] [(3, .agg #[.string (⟨#[99]⟩), vI 3, vI 12, vI 12, vI 0, vI 0, vI 1]), (2, .agg #[.string (⟨#[98]⟩), vI 2, vI 6, vI 6, vI 0, vI 0, vI 2]), (1, .agg #[.string (⟨#[97]⟩), vI 1, vI 4, vI 4, vI 0, vI 0, vI 3])] ?_
 refine gw (some 4) (.cells #[.string (⟨#[97]⟩), vI 1, vI 4, vI 4, vI 0, vI 0, vI 3, .string (⟨#[98]⟩), vI 2, vI 6, vI 6, vI 0, vI 0, vI 2, .string (⟨#[99]⟩), vI 3, vI 12, vI 12, vI 0, vI 0, vI 1] 46) (fun b => .slice (some ⟨b, 0, none⟩) 3 3) hS fun b1 w1 hx1 hS1 => ?_
 refine gb0 [4] [(0, .slice (some ⟨b1, 0, none⟩) 3 3)] ?_
 refine gn hK2 ?_
 have hS2 := hS1.asRow (α := STask) (c := 3) ([(⟨⟨#[97]⟩, 1, 4, 4, 0, 0, 3⟩ : STask), (⟨⟨#[98]⟩, 2, 6, 6, 0, 0, 2⟩ : STask), (⟨⟨#[99]⟩, 3, 12, 12, 0, 0, 1⟩ : STask)] : List STask) (Nat.le_refl _) (by decide) rfl rfl
 subst h
 exact we_ret (pr0 [.tmp 0] [(.slice (some ⟨b1, 0, none⟩) 3 3)] ⟨(.slice (some ⟨b1, 0, none⟩) 3 3), rfl, hS2⟩)

/-! punctual/tasks.isName -/
abbrev tasks_isName.Post (w0 : World) (r : Bool) (e : Ending) (w : World) : Prop := e = .returned (.bool r) ∧ St w0 w []
def tasks_isName.r0 (x0 : ByteArray) : Nat → Option (Nat ⊕ (Unit ⊕ Bool))
 | i1 =>
  if i1 < x0.size then
   if ((Utf8.decode x0 i1).1 : Int) < 97 then
    some (.inr (.inr false))
   else
    if ((Utf8.decode x0 i1).1 : Int) > 122 then
     some (.inr (.inr false))
    else
     some (.inl (i1 + (Utf8.decode x0 i1).2))
  else
   some (.inr (.inl ()))
def tasks_isName.f (K : Nat) (x0 : ByteArray) : Option Bool :=
 if (x0.size : Int) < 1 then
  some false
 else
  if (x0.size : Int) > 10 then
   some false
  else
   match iter (tasks_isName.r0 x0) K 0 with
   | none => none
   | some (.inl _) =>
    some true
   | some (.inr rr1) =>
    some rr1
abbrev tasks_isName.A0 (w0 : World) (x0 : ByteArray) (b1 : Nat) : Nat → Act → World → Prop := fun (s : Nat) a w => St w0 w [Own.blk b1 (.stringIter x0 s)] ∧ Frm 24 a [(14, pP b1 0)]
abbrev tasks_isName.B0 (w0 : World) : (Unit ⊕ Bool) → Exit → Act → World → Prop := Exits 0 (fun (s : Unit) a w => St w0 w [] ∧ Frm 24 a []) (Rets Try.prog Try.f53 (tasks_isName.Post w0))
theorem tasks_isName_r0 (K : Nat) (w0 : World) (x0 : ByteArray) (hc1 : ¬ ((x0.size : Int) < 1)) (hc2 : ¬ ((x0.size : Int) > 10)) (b1 : Nat) (s : Nat) (o : Nat ⊕ (Unit ⊕ Bool)) (h : tasks_isName.r0 x0 s = some o) (a : Act) (w : World) (hA : tasks_isName.A0 w0 x0 b1 s a w) (Q : Exit → Act → World → Prop) (hQ : ∀ x a w, Outs (tasks_isName.A0 w0 x0 b1) (tasks_isName.B0 w0) o x a w → Q x a w) : (subF Try.f53 [1, 1, 0, 1, 0, 0]).wp Try.prog Q a w := by
 obtain ⟨i1, hs⟩ : ∃ z, z = s := ⟨s, rfl⟩
 subst hs
 obtain ⟨hS, hF⟩ := hA
 replace hS : St w0 w [Own.blk b1 (.stringIter x0 i1)] := hS
 simp only [tasks_isName.r0] at h
 refine (?_ : WE Try.prog 24 (subF Try.f53 [1, 1, 0, 1, 0, 0]) Q [(14, pP b1 0)] w) a hF
 clear hF a
 refine ws fun K8 hK8 => ?_
 refine wr [(0, 2), (1, 0)] ?_
 by_cases hc3 : i1 < x0.size
 ·rw [if_pos hc3] at h
  refine ge_next (m := 0) (d := 15) (b := b1) (x := (.tmp 14)) (ty := 0) (s := x0) (pos := i1) (by kernel_rfl) (by kernel_rfl) hS (fun _ w2 hS2 => ?_) (fun hp => absurd hc3 hp)
  refine gb0 [1] [(16, .bool true)] ?_
  refine gn hK8 ?_
  refine ws fun K9 hK9 => ?_
  refine we_true (by kernel_rfl) ?_
  refine we_skip fun a hF => hK9 _ _ ?_ a hF
  refine we_block ?_
  refine ws fun K10 hK10 => ?_
  refine wr [(0, 0), (1, 0)] ?_
  refine gb0 [0, 1] [(4, .int .i32 ((Utf8.decode x0 i1).1 : Int)), (17, .int .i32 ((Utf8.decode x0 i1).1 : Int))] ?_
  refine gn hK10 ?_
  refine ws fun K11 hK11 => ?_
  refine wr [(0, 0), (1, 0), (2, 0), (3, 0), (4, 0), (5, 0)] ?_
  refine gb0 [0, 1, 2] [(20, .bool (decide (((Utf8.decode x0 i1).1 : Int) < 97))), (19, .bool (decide (((Utf8.decode x0 i1).1 : Int) < 97))), (18, .int .i32 ((Utf8.decode x0 i1).1 : Int))] ?_
  by_cases hc4 : ((Utf8.decode x0 i1).1 : Int) < 97
  ·rw [if_pos hc4] at h
   refine gk 20 (decide (((Utf8.decode x0 i1).1 : Int) < 97)) true (decide_eq_true hc4) ?_
   refine gb0 [3, 4, 5] [(23, .bool true), (22, undef), (21, undef)] ?_
   refine gn hK11 ?_
   refine we_true (by kernel_rfl) ?_
   refine ws fun K12 hK12 => ?_
   refine wr [(0, 0)] ?_
   refine gb0 [0] [(2, .bool false)] ?_
   refine gn hK12 ?_
   have hS3 := hS2.takeN 0
   obtain rfl := si h
   exact we_ret fun a hF => hQ _ _ _ (Outs.out nofun (Exits.on ⟨rfl, (pr0 [.tmp 2] [.bool false] ⟨rfl, hS3⟩) a hF⟩))
  ·rw [if_neg hc4] at h
   refine gk 20 (decide (((Utf8.decode x0 i1).1 : Int) < 97)) false (decide_eq_false hc4) ?_
   refine gb0 [3, 4, 5] [(23, .bool (decide (((Utf8.decode x0 i1).1 : Int) > 122))), (22, .bool (decide (((Utf8.decode x0 i1).1 : Int) > 122))), (21, .int .i32 ((Utf8.decode x0 i1).1 : Int))] ?_
   refine gn hK11 ?_
   by_cases hc5 : ((Utf8.decode x0 i1).1 : Int) > 122
   ·rw [if_pos hc5] at h
    refine wk 23 (decide (((Utf8.decode x0 i1).1 : Int) > 122)) true (decide_eq_true hc5) ?_
    refine we_true (by kernel_rfl) ?_
    refine ws fun K13 hK13 => ?_
    refine wr [(0, 0)] ?_
    refine gb0 [0] [(2, .bool false)] ?_
    refine gn hK13 ?_
    have hS4 := hS2.takeN 0
    obtain rfl := si h
    exact we_ret fun a hF => hQ _ _ _ (Outs.out nofun (Exits.on ⟨rfl, (pr0 [.tmp 2] [.bool false] ⟨rfl, hS4⟩) a hF⟩))
   ·rw [if_neg hc5] at h
    refine wk 23 (decide (((Utf8.decode x0 i1).1 : Int) > 122)) false (decide_eq_false hc5) ?_
    refine we_false (by kernel_rfl) ?_
    obtain rfl := si h
    exact we_skip fun a hF => hQ _ _ _ (Outs.again ⟨hS2, hF.weaken ea⟩)
 ·rw [if_neg hc3] at h
  refine ge_next (m := 0) (d := 15) (b := b1) (x := (.tmp 14)) (ty := 0) (s := x0) (pos := i1) (by kernel_rfl) (by kernel_rfl) hS (fun hp => absurd hp hc3) (fun _ => ?_)
  refine gb0 [1] [(16, .bool false)] ?_
  refine gn hK8 ?_
  refine ws fun K14 hK14 => ?_
  refine we_false (by kernel_rfl) ?_
  have hS5 := hS.takeN 0
  obtain rfl := si h
  exact we_exit fun a hF => hQ _ _ _ (Outs.out nofun (Exits.here ⟨hS5, hF.weaken trivial⟩))
theorem tasks_isName_ok (K : Nat) (x0 : ByteArray) (w0 : World) (r : Bool) (h : tasks_isName.f K x0 = some r) :
  Calls Try.prog 53 #[.string x0] w0 (tasks_isName.Post w0 r) := by
 have hS := St.start w0
 unfold tasks_isName.f at h
 refine calls_enter (n := 24) (args := [.string x0]) (fn := Try.f53) rfl rfl rfl rfl ?_
 show WE _ _ _ _ [(0, .string x0)] _
 refine ws fun K1 hK1 => ?_
 refine wr [(0, 0)] ?_
 refine gb0 [0] [(2, .bool false)] ?_
 refine gn hK1 ?_
 refine ws fun K2 hK2 => ?_
 refine ws fun K3 hK3 => ?_
 refine wr [(0, 0), (1, 0), (2, 0), (3, 0), (4, 0), (5, 0), (6, 0), (7, 0)] ?_
 refine gb0 [0, 1, 2, 3] [(8, .bool (decide ((x0.size : Int) < 1))), (7, .bool (decide ((x0.size : Int) < 1))), (6, vI (x0.size : Int)), (5, .string x0)] ?_
 by_cases hc1 : (x0.size : Int) < 1
 ·rw [if_pos hc1] at h
  refine gk 8 (decide ((x0.size : Int) < 1)) true (decide_eq_true hc1) ?_
  refine gb0 [4, 5, 6, 7] [(12, .bool true), (11, undef), (10, undef), (9, undef)] ?_
  refine gn hK3 ?_
  refine we_true (by kernel_rfl) ?_
  refine ws fun K4 hK4 => ?_
  refine wr [(0, 0)] ?_
  refine gb0 [0] [(2, .bool false)] ?_
  refine gn hK4 ?_
  obtain rfl := si h
  exact we_ret (pr0 [.tmp 2] [.bool false] ⟨rfl, hS⟩)
 ·rw [if_neg hc1] at h
  refine gk 8 (decide ((x0.size : Int) < 1)) false (decide_eq_false hc1) ?_
  refine gb0 [4, 5, 6, 7] [(12, .bool (decide ((x0.size : Int) > 10))), (11, .bool (decide ((x0.size : Int) > 10))), (10, vI (x0.size : Int)), (9, .string x0)] ?_
  refine gn hK3 ?_
  by_cases hc2 : (x0.size : Int) > 10
  ·rw [if_pos hc2] at h
   refine wk 12 (decide ((x0.size : Int) > 10)) true (decide_eq_true hc2) ?_
   refine we_true (by kernel_rfl) ?_
   refine ws fun K5 hK5 => ?_
   refine wr [(0, 0)] ?_
   refine gb0 [0] [(2, .bool false)] ?_
   refine gn hK5 ?_
   obtain rfl := si h
   exact we_ret (pr0 [.tmp 2] [.bool false] ⟨rfl, hS⟩)
  ·rw [if_neg hc2] at h
   refine wk 12 (decide ((x0.size : Int) > 10)) false (decide_eq_false hc2) ?_
   refine we_false (by kernel_rfl) ?_
   refine we_skip fun a hF => hK2 _ _ ?_ a hF
   refine ws fun K6 hK6 => ?_
   refine ws fun K7 hK7 => ?_
   refine wr [(0, 0), (1, 1)] ?_
   refine gb0 [0] [(13, .string x0)] ?_
   refine gw (some 14) (.stringIter x0 0) (fun b => pP b 0) hS fun b1 w1 hx1 hS1 => ?_
   refine gn hK7 ?_
   refine we_block ?_
   rcases hq1 : iter (tasks_isName.r0 x0) K 0 with _ | (_ | rr1)
   ·rw [hq1] at h; cases h
   ·rw [hq1] at h
    simp only [] at h
    refine we_iter (A := tasks_isName.A0 w0 x0 b1) (B := tasks_isName.B0 w0) hq1 (fun a hF => ⟨hS1, hF.weaken ea⟩) (fun s o hf a w hA Q hQ => tasks_isName_r0 K w0 x0 hc1 hc2 b1 s o hf a w hA Q hQ) ?_
    rintro _ a w3 _ ⟨rfl, hS6, hF⟩
    replace hS6 : St w0 w3 [] := hS6
    refine hK6 [] w3 ?_ a hF
    refine ws fun K15 hK15 => ?_
    refine wr [(0, 0)] ?_
    refine gb0 [0] [(2, .bool true)] ?_
    refine gn hK15 ?_
    obtain rfl := si h
    exact we_ret (pr0 [.tmp 2] [.bool true] ⟨rfl, hS6⟩)
   ·rw [hq1] at h
    simp only [] at h
    refine we_iter (A := tasks_isName.A0 w0 x0 b1) (B := tasks_isName.B0 w0) hq1 (fun a hF => ⟨hS1, hF.weaken ea⟩) (fun s o hf a w hA Q hQ => tasks_isName_r0 K w0 x0 hc1 hc2 b1 s o hf a w hA Q hQ) ?_
    rintro _ a w1 _ ⟨rfl, hb⟩
    obtain rfl := si h
    exact hb

/-! punctual/tasks.Check$1 -/
abbrev tasks_Check_1.Post (w0 : World) (r : Bool) (e : Ending) (w : World) : Prop := e = .returned (.bool r) ∧ St w0 w []
def tasks_Check_1.f (x0 : STask) (xf_0 : STask) : Bool :=
 (x0.Name.toList == xf_0.Name.toList)
theorem tasks_Check_1_ok (x0 : STask) (bf_0 : Nat) (xf_0 : STask) (w0 : World) (hBf_0 : Glob w0 bf_0 [.string xf_0.Name, vI xf_0.C, vI xf_0.T, vI xf_0.D, vI xf_0.J, vI xf_0.O, vI xf_0.P]) (r : Bool) (h : tasks_Check_1.f x0 xf_0 = r) :
  Calls Try.prog 55 #[.agg #[.string x0.Name, vI x0.C, vI x0.T, vI x0.D, vI x0.J, vI x0.O, vI x0.P], pP bf_0 0] w0 (tasks_Check_1.Post w0 r) := by
 have hS := St.start w0
 unfold tasks_Check_1.f at h
 refine calls_enter (n := 9) (args := [.agg #[.string x0.Name, vI x0.C, vI x0.T, vI x0.D, vI x0.J, vI x0.O, vI x0.P], pP bf_0 0]) (fn := Try.f55) rfl rfl rfl rfl ?_
 show WE _ _ _ _ [(0, .agg #[.string x0.Name, vI x0.C, vI x0.T, vI x0.D, vI x0.J, vI x0.O, vI x0.P]), (1, pP bf_0 0)] _
 refine ws fun K1 hK1 => ?_
 refine wr [(0, 1), (1, 0)] ?_
 refine gw (some 2) (.cells #[.string x0.Name, vI x0.C, vI x0.T, vI x0.D, vI x0.J, vI x0.O, vI x0.P] 46) (fun b => pP b 0) hS fun b1 w1 hx1 hS1 => ?_
 refine gb0 [1] [(3, .bool false)] ?_
 refine gn hK1 ?_
 refine ws fun K2 hK2 => ?_
 refine wr [(0, 0), (1, 0), (2, 0), (3, 0), (4, 0), (5, 0)] ?_
 refine gb [0, 1, 2, 3, 4, 5] [(3, .bool (x0.Name.toList == xf_0.Name.toList)), (8, .bool (x0.Name.toList == xf_0.Name.toList)), (7, .string xf_0.Name), (6, pP bf_0 0), (5, .string x0.Name), (4, pP b1 0)] [.loaded ⟨b1, 0, none⟩ (.string x0.Name), .loaded ⟨bf_0, 0, none⟩ (.string xf_0.Name)] ⟨hS1.c 0, hS1.glob hBf_0 rfl, trivial⟩ ?_
 refine gn hK2 ?_
 have hS2 := hS1.takeN 0
 subst h
 exact we_ret (pr0 [.tmp 3] [.bool (x0.Name.toList == xf_0.Name.toList)] ⟨rfl, hS2⟩)

/-! slices.IndexFunc[[]punctual/api.Task,punctual/api.Task] -/
abbrev slices_IndexFunc_api_Task_api_Task.Post (w0 : World) (r : Int) (e : Ending) (w : World) : Prop := e = .returned (vI r) ∧ St w0 w []
def slices_IndexFunc_api_Task_api_Task.r0 (l0 : List STask) (xg1_0 : STask) : Nat → Option (Nat ⊕ (Unit ⊕ Int))
 | i1 =>
  if (i1 : Int) < (l0.length : Int) then
   match l0[i1]? with
   | none => none
   | some e1 =>
    if (tasks_Check_1.f e1 xg1_0) = true then
     some (.inr (.inr (i1 : Int)))
    else
     some (.inl (i1 + 1))
  else
   some (.inr (.inl ()))
def slices_IndexFunc_api_Task_api_Task.f (K : Nat) (l0 : List STask) (xg1_0 : STask) : Option Int :=
 match iter (slices_IndexFunc_api_Task_api_Task.r0 l0 xg1_0) K 0 with
 | none => none
 | some (.inl _) =>
  some (-1)
 | some (.inr rr1) =>
  some rr1
abbrev slices_IndexFunc_api_Task_api_Task.A0 (w0 : World) (l0 : List STask) (A0 : Option Addr) (c0 : Nat) (bg1_0 : Nat) : Nat → Act → World → Prop := fun (s : Nat) a w => St w0 w [] ∧ Frm 19 a [(0, .slice A0 l0.length c0), (1, .func (.func 55) #[] #[pP bg1_0 0]), (7, vI (l0.length : Int)), (8, vI (s : Int))]
abbrev slices_IndexFunc_api_Task_api_Task.B0 (w0 : World) : (Unit ⊕ Int) → Exit → Act → World → Prop := Exits 0 (fun (s : Unit) a w => St w0 w [] ∧ Frm 19 a []) (Rets Try.prog Try.f65 (slices_IndexFunc_api_Task_api_Task.Post w0))
theorem slices_IndexFunc_api_Task_api_Task_r0 (K : Nat) (w0 : World) (l0 : List STask) (A0 : Option Addr) (c0 : Nat) (bg1_0 : Nat) (xg1_0 : STask) (hR0 : RdL w0 A0 l0) (hL0 : l0.length ≤ c0) (hBg1_0 : Glob w0 bg1_0 [.string xg1_0.Name, vI xg1_0.C, vI xg1_0.T, vI xg1_0.D, vI xg1_0.J, vI xg1_0.O, vI xg1_0.P]) (s : Nat) (o : Nat ⊕ (Unit ⊕ Int)) (h : slices_IndexFunc_api_Task_api_Task.r0 l0 xg1_0 s = some o) (a : Act) (w : World) (hA : slices_IndexFunc_api_Task_api_Task.A0 w0 l0 A0 c0 bg1_0 s a w) (Q : Exit → Act → World → Prop) (hQ : ∀ x a w, Outs (slices_IndexFunc_api_Task_api_Task.A0 w0 l0 A0 c0 bg1_0) (slices_IndexFunc_api_Task_api_Task.B0 w0) o x a w → Q x a w) : (subF Try.f65 [1, 0, 1, 0, 0]).wp Try.prog Q a w := by
 obtain ⟨i1, hs⟩ : ∃ z, z = s := ⟨s, rfl⟩
 subst hs
 obtain ⟨hS, hF⟩ := hA
 replace hS : St w0 w [] := hS
 simp only [slices_IndexFunc_api_Task_api_Task.r0] at h
 refine (?_ : WE Try.prog 19 (subF Try.f65 [1, 0, 1, 0, 0]) Q [(0, .slice A0 l0.length c0), (1, .func (.func 55) #[] #[pP bg1_0 0]), (7, vI (l0.length : Int)), (8, vI (i1 : Int))] w) a hF
 clear hF a
 refine ws fun K4 hK4 => ?_
 refine wr [(0, 0)] ?_
 refine gb0 [0] [(9, .bool (decide ((i1 : Int) < (l0.length : Int))))] ?_
 refine gn hK4 ?_
 refine ws fun K5 hK5 => ?_
 by_cases hc1 : (i1 : Int) < (l0.length : Int)
 ·rw [if_pos hc1] at h
  refine wk 9 (decide ((i1 : Int) < (l0.length : Int))) true (decide_eq_true hc1) ?_
  refine we_true (by kernel_rfl) ?_
  refine we_skip fun a hF => hK5 _ _ ?_ a hF
  refine ws fun K6 hK6 => ?_
  refine we_block ?_
  refine ws fun K7 hK7 => ?_
  refine wr [(0, 0), (1, 0)] ?_
  refine gb0 [0, 1] [(5, vI (i1 : Int)), (10, vI (i1 : Int))] ?_
  refine gn hK7 ?_
  refine ws fun K8 hK8 => ?_
  refine wr [(0, 0), (1, 0), (2, 0), (3, 0), (4, 0), (5, 1)] ?_
  refine gb0 [0, 1, 2] [(13, vI (i1 : Int)), (12, .slice A0 l0.length c0), (11, .func (.func 55) #[] #[pP bg1_0 0])] ?_
  rcases hx1 : l0[i1]? with _ | e1
  ·rw [hx1] at h; cases h
  rw [hx1] at h
  simp only [] at h
  refine gi 14 0 22 46 7 l0.length c0 (.tmp 12) (.tmp 13) A0 .i64 (i1 : Int) i1 ((hS.rd hR0).eqSome (pos_of_get hx1)) rfl (lt_of_get hx1) ?_
  refine gb [4] [(15, .agg #[.string e1.Name, vI e1.C, vI e1.T, vI e1.D, vI e1.J, vI e1.O, vI e1.P])] [.loaded ⟨blkOf A0, offOf A0 + i1 * 7, none⟩ (.string e1.Name), .loaded ⟨blkOf A0, offOf A0 + i1 * 7 + 1, none⟩ (vI e1.C), .loaded ⟨blkOf A0, offOf A0 + i1 * 7 + 2, none⟩ (vI e1.T), .loaded ⟨blkOf A0, offOf A0 + i1 * 7 + 3, none⟩ (vI e1.D), .loaded ⟨blkOf A0, offOf A0 + i1 * 7 + 4, none⟩ (vI e1.J), .loaded ⟨blkOf A0, offOf A0 + i1 * 7 + 5, none⟩ (vI e1.O), .loaded ⟨blkOf A0, offOf A0 + i1 * 7 + 6, none⟩ (vI e1.P)] ⟨RdL.cell (j := 0) (hS.rd hR0) hx1 rfl, RdL.cell (j := 1) (hS.rd hR0) hx1 rfl, RdL.cell (j := 2) (hS.rd hR0) hx1 rfl, RdL.cell (j := 3) (hS.rd hR0) hx1 rfl, RdL.cell (j := 4) (hS.rd hR0) hx1 rfl, RdL.cell (j := 5) (hS.rd hR0) hx1 rfl, RdL.cell (j := 6) (hS.rd hR0) hx1 rfl, trivial⟩ ?_
  refine ge_call (d := some 16) (f := 55) (args := #[.agg #[.string e1.Name, vI e1.C, vI e1.T, vI e1.D, vI e1.J, vI e1.O, vI e1.P], pP bg1_0 0]) (by kernel_rfl) (tasks_Check_1_ok e1 bg1_0 xg1_0 _ (Glob.ext hBg1_0 hS.below) _ rfl) ?_
  rintro _ w1 ⟨rfl, hS1⟩
  refine ⟨_, rfl, hS1.below, ?_⟩
  have hS2 := hS.call hS1
  refine gn hK8 ?_
  by_cases hc2 : (tasks_Check_1.f e1 xg1_0) = true
  ·rw [if_pos hc2] at h
   refine wk 16 (tasks_Check_1.f e1 xg1_0) true hc2 ?_
   refine we_true (by kernel_rfl) ?_
   refine ws fun K9 hK9 => ?_
   refine wr [(0, 0), (1, 0)] ?_
   refine gb0 [0, 1] [(4, vI (i1 : Int)), (17, vI (i1 : Int))] ?_
   refine gn hK9 ?_
   obtain rfl := si h
   exact we_ret fun a hF => hQ _ _ _ (Outs.out nofun (Exits.on ⟨rfl, (pr0 [.tmp 4] [vI (i1 : Int)] ⟨rfl, hS2⟩) a hF⟩))
  ·rw [if_neg hc2] at h
   refine wk 16 (tasks_Check_1.f e1 xg1_0) false (Bool.eq_false_iff.2 hc2) ?_
   refine we_false (by kernel_rfl) ?_
   refine we_skip fun a hF => hK6 _ _ ?_ a hF
   refine wr [(0, 0), (1, 0)] ?_
   refine ge_addn (d := 18) (ty := 3) (x := (.tmp 8)) (y := (.const (vI 1))) (t := 3) (t2 := 3) (k := .i64) (m := i1) (by kernel_rfl) (by kernel_rfl) (by kernel_rfl) (by have h0 := hR0.small; omega) ?_
   refine gb0 [1] [(8, vI ((i1 + 1 : Nat) : Int))] ?_
   obtain rfl := si h
   exact ge_nil fun a hF => hQ _ _ _ (Outs.again ⟨hS2, hF.weaken ea⟩)
 ·rw [if_neg hc1] at h
  refine wk 9 (decide ((i1 : Int) < (l0.length : Int))) false (decide_eq_false hc1) ?_
  refine we_false (by kernel_rfl) ?_
  obtain rfl := si h
  exact we_exit fun a hF => hQ _ _ _ (Outs.out nofun (Exits.here ⟨hS, hF.weaken trivial⟩))
theorem slices_IndexFunc_api_Task_api_Task_ok (K : Nat) (l0 : List STask) (A0 : Option Addr) (c0 : Nat) (bg1_0 : Nat) (xg1_0 : STask) (w0 : World) (hR0 : RdL w0 A0 l0) (hL0 : l0.length ≤ c0) (hBg1_0 : Glob w0 bg1_0 [.string xg1_0.Name, vI xg1_0.C, vI xg1_0.T, vI xg1_0.D, vI xg1_0.J, vI xg1_0.O, vI xg1_0.P]) (r : Int) (h : slices_IndexFunc_api_Task_api_Task.f K l0 xg1_0 = some r) :
  Calls Try.prog 65 #[.slice A0 l0.length c0, .func (.func 55) #[] #[pP bg1_0 0]] w0 (slices_IndexFunc_api_Task_api_Task.Post w0 r) := by
 have hS := St.start w0
 unfold slices_IndexFunc_api_Task_api_Task.f at h
 refine calls_enter (n := 19) (args := [.slice A0 l0.length c0, .func (.func 55) #[] #[pP bg1_0 0]]) (fn := Try.f65) rfl rfl rfl rfl ?_
 show WE _ _ _ _ [(0, .slice A0 l0.length c0), (1, .func (.func 55) #[] #[pP bg1_0 0])] _
 refine ws fun K1 hK1 => ?_
 refine wr [(0, 0)] ?_
 refine gb0 [0] [(4, vI 0)] ?_
 refine gn hK1 ?_
 refine ws fun K2 hK2 => ?_
 refine ws fun K3 hK3 => ?_
 refine wr [(0, 0), (1, 0), (2, 0)] ?_
 refine gb0 [0, 1, 2] [(8, vI 0), (7, vI (l0.length : Int)), (6, .slice A0 l0.length c0)] ?_
 refine gn hK3 ?_
 refine we_block ?_
 rcases hq2 : iter (slices_IndexFunc_api_Task_api_Task.r0 l0 xg1_0) K 0 with _ | (_ | rr1)
 ·rw [hq2] at h; cases h
 ·rw [hq2] at h
  simp only [] at h
  refine we_iter (A := slices_IndexFunc_api_Task_api_Task.A0 w0 l0 A0 c0 bg1_0) (B := slices_IndexFunc_api_Task_api_Task.B0 w0) hq2 (fun a hF => ⟨hS, hF.weaken ea⟩) (fun s o hf a w hA Q hQ => slices_IndexFunc_api_Task_api_Task_r0 K w0 l0 A0 c0 bg1_0 xg1_0 hR0 hL0 hBg1_0 s o hf a w hA Q hQ) ?_
  rintro _ a w2 _ ⟨rfl, hS3, hF⟩
  replace hS3 : St w0 w2 [] := hS3
  refine hK2 [] w2 ?_ a hF
  refine ws fun K10 hK10 => ?_
  refine wr [(0, 0)] ?_
  refine gb0 [0] [(4, vI (-1))] ?_
  refine gn hK10 ?_
  obtain rfl := si h
  exact we_ret (pr0 [.tmp 4] [vI (-1)] ⟨rfl, hS3⟩)
 ·rw [hq2] at h
  simp only [] at h
  refine we_iter (A := slices_IndexFunc_api_Task_api_Task.A0 w0 l0 A0 c0 bg1_0) (B := slices_IndexFunc_api_Task_api_Task.B0 w0) hq2 (fun a hF => ⟨hS, hF.weaken ea⟩) (fun s o hf a w hA Q hQ => slices_IndexFunc_api_Task_api_Task_r0 K w0 l0 A0 c0 bg1_0 xg1_0 hR0 hL0 hBg1_0 s o hf a w hA Q hQ) ?_
  rintro _ a w1 _ ⟨rfl, hb⟩
  obtain rfl := si h
  exact hb

/-! slices.ContainsFunc[[]punctual/api.Task,punctual/api.Task] -/
abbrev slices_ContainsFunc_api_Task_api_Task.Post (w0 : World) (r : Bool) (e : Ending) (w : World) : Prop := e = .returned (.bool r) ∧ St w0 w []
def slices_ContainsFunc_api_Task_api_Task.f (K : Nat) (l0 : List STask) (xg1_0 : STask) : Option Bool :=
 match slices_IndexFunc_api_Task_api_Task.f K l0 xg1_0 with
 | none => none
 | some r1 =>
  some (decide (r1 ≥ 0))
theorem slices_ContainsFunc_api_Task_api_Task_ok (K : Nat) (l0 : List STask) (A0 : Option Addr) (c0 : Nat) (bg1_0 : Nat) (xg1_0 : STask) (w0 : World) (hR0 : RdL w0 A0 l0) (hL0 : l0.length ≤ c0) (hBg1_0 : Glob w0 bg1_0 [.string xg1_0.Name, vI xg1_0.C, vI xg1_0.T, vI xg1_0.D, vI xg1_0.J, vI xg1_0.O, vI xg1_0.P]) (r : Bool) (h : slices_ContainsFunc_api_Task_api_Task.f K l0 xg1_0 = some r) :
  Calls Try.prog 54 #[.slice A0 l0.length c0, .func (.func 55) #[] #[pP bg1_0 0]] w0 (slices_ContainsFunc_api_Task_api_Task.Post w0 r) := by
 have hS := St.start w0
 unfold slices_ContainsFunc_api_Task_api_Task.f at h
 refine calls_enter (n := 9) (args := [.slice A0 l0.length c0, .func (.func 55) #[] #[pP bg1_0 0]]) (fn := Try.f54) rfl rfl rfl rfl ?_
 show WE _ _ _ _ [(0, .slice A0 l0.length c0), (1, .func (.func 55) #[] #[pP bg1_0 0])] _
 refine ws fun K1 hK1 => ?_
 refine wr [(0, 0)] ?_
 refine gb0 [0] [(4, .bool false)] ?_
 refine gn hK1 ?_
 refine ws fun K2 hK2 => ?_
 refine wr [(0, 0), (1, 0), (2, 1), (3, 0), (4, 0)] ?_
 rcases hq1 : slices_IndexFunc_api_Task_api_Task.f K l0 xg1_0 with _ | r1
 ·rw [hq1] at h; cases h
 rw [hq1] at h
 simp only [] at h
 refine gb0 [0, 1] [(6, .func (.func 55) #[] #[pP bg1_0 0]), (5, .slice A0 l0.length c0)] ?_
 refine ge_call (d := some 7) (f := 65) (args := #[.slice A0 l0.length c0, .func (.func 55) #[] #[pP bg1_0 0]]) (by kernel_rfl) (slices_IndexFunc_api_Task_api_Task_ok K l0 A0 c0 bg1_0 xg1_0 _ (hS.rd hR0) hL0 (Glob.ext hBg1_0 hS.below) _ hq1) ?_
 rintro _ w1 ⟨rfl, hS1⟩
 refine ⟨_, rfl, hS1.below, ?_⟩
 have hS2 := hS.call hS1
 refine gb0 [3, 4] [(4, .bool (decide (r1 ≥ 0))), (8, .bool (decide (r1 ≥ 0)))] ?_
 refine gn hK2 ?_
 obtain rfl := si h
 exact we_ret (pr0 [.tmp 4] [.bool (decide (r1 ≥ 0))] ⟨rfl, hS2⟩)

/-! punctual/tasks.numbers -/
abbrev tasks_numbers.Post (w0 : World) (r : List Int) (e : Ending) (w : World) : Prop := ∃ (v0 : Value), e = .returned (v0) ∧ St w0 w [Own.of v0 3 r]
def tasks_numbers.f (x0 : STask) : List Int :=
 ([x0.C, x0.T, x0.D, x0.J, x0.O, x0.P] : List Int)
theorem tasks_numbers_ok (x0 : STask) (w0 : World) (r : List Int) (h : tasks_numbers.f x0 = r) :
  Calls Try.prog 56 #[.agg #[.string x0.Name, vI x0.C, vI x0.T, vI x0.D, vI x0.J, vI x0.O, vI x0.P]] w0 (tasks_numbers.Post w0 r) := by
 have hS := St.start w0
 unfold tasks_numbers.f at h
 refine calls_enter (n := 16) (args := [.agg #[.string x0.Name, vI x0.C, vI x0.T, vI x0.D, vI x0.J, vI x0.O, vI x0.P]]) (fn := Try.f56) rfl rfl rfl rfl ?_
 show WE _ _ _ _ [(0, .agg #[.string x0.Name, vI x0.C, vI x0.T, vI x0.D, vI x0.J, vI x0.O, vI x0.P])] _
 refine ws fun K1 hK1 => ?_
 refine wr [(0, 1), (1, 0)] ?_
 refine gw (some 1) (.cells #[.string x0.Name, vI x0.C, vI x0.T, vI x0.D, vI x0.J, vI x0.O, vI x0.P] 46) (fun b => pP b 0) hS fun b1 w1 hx1 hS1 => ?_
 refine gb0 [1] [(2, .slice none 0 0)] ?_
 refine gn hK1 ?_
 refine ws fun K2 hK2 => ?_
 refine wr [(0, 0), (1, 0), (2, 0), (3, 0), (4, 0), (5, 0), (6, 0), (7, 0), (8, 0), (9, 0), (10, 0), (11, 0), (12, 1), (13, 0)] ?_
 refine gb [0, 1, 2, 3, 4, 5, 6, 7, 8, 9, 10, 11] [(14, vI x0.P), (13, pP b1 6), (12, vI x0.O), (11, pP b1 5), (10, vI x0.J), (9, pP b1 4), (8, vI x0.D), (7, pP b1 3), (6, vI x0.T), (5, pP b1 2), (4, vI x0.C), (3, pP b1 1)] [.loaded ⟨b1, 1, none⟩ (vI x0.C), .loaded ⟨b1, 2, none⟩ (vI x0.T), .loaded ⟨b1, 3, none⟩ (vI x0.D), .loaded ⟨b1, 4, none⟩ (vI x0.J), .loaded ⟨b1, 5, none⟩ (vI x0.O), .loaded ⟨b1, 6, none⟩ (vI x0.P)] ⟨hS1.c 0, hS1.c 0, hS1.c 0, hS1.c 0, hS1.c 0, hS1.c 0, trivial⟩ ?_
 refine gw (some 15) (.cells #[vI x0.C, vI x0.T, vI x0.D, vI x0.J, vI x0.O, vI x0.P] 3) (fun b => .slice (some ⟨b, 0, none⟩) 6 6) hS1 fun b2 w2 hx2 hS2 => ?_
 refine gb0 [13] [(2, .slice (some ⟨b2, 0, none⟩) 6 6)] ?_
 refine gn hK2 ?_
 have hS3 := hS2.asRow (α := Int) (c := 6) ([x0.C, x0.T, x0.D, x0.J, x0.O, x0.P] : List Int) (Nat.le_refl _) (by decide) rfl rfl
 have hS4 := hS3.takeN 1
 subst h
 exact we_ret (pr0 [.tmp 2] [(.slice (some ⟨b2, 0, none⟩) 6 6)] ⟨(.slice (some ⟨b2, 0, none⟩) 6 6), rfl, hS4⟩)

/-! punctual/tasks.bounds -/
abbrev tasks_bounds.Post (w0 : World) (r : Int × Int) (e : Ending) (w : World) : Prop := e = .returned (.tuple #[vI r.1, vI r.2]) ∧ St w0 w []
def tasks_bounds.f (x0 : Int) : Int × Int :=
 if x0 = 0 then
  (1, 10000)
 else
  if x0 = 1 then
   (1, 10000)
  else
   if x0 = 2 then
    (1, 10000)
   else
    if x0 = 5 then
     (0, 1000)
    else
     (0, 10000)
theorem tasks_bounds_ok (x0 : Int) (w0 : World) (r : Int × Int) (h : tasks_bounds.f x0 = r) :
  Calls Try.prog 57 #[vI x0] w0 (tasks_bounds.Post w0 r) := by
 have hS := St.start w0
 unfold tasks_bounds.f at h
 refine calls_enter (n := 11) (args := [vI x0]) (fn := Try.f57) rfl rfl rfl rfl ?_
 show WE _ _ _ _ [(0, vI x0)] _
 refine ws fun K1 hK1 => ?_
 refine wr [(0, 0), (1, 0)] ?_
 refine gb0 [0, 1] [(3, vI 0), (2, vI 0)] ?_
 refine gn hK1 ?_
 refine ws fun K2 hK2 => ?_
 refine ws fun K3 hK3 => ?_
 refine wr [(0, 0)] ?_
 refine gb0 [0] [(4, vI x0)] ?_
 refine gn hK3 ?_
 refine we_block ?_
 refine ws fun K4 hK4 => ?_
 refine ws fun K5 hK5 => ?_
 refine wr [(0, 0), (1, 0)] ?_
 refine gb0 [0, 1] [(5, .bool (x0 == 0)), (6, .bool (x0 == 0))] ?_
 refine gn hK5 ?_
 by_cases hc1 : x0 = 0
 ·rw [if_pos hc1] at h
  refine wk 5 (x0 == 0) true (beq_iff_eq.2 hc1) ?_
  refine we_true (by kernel_rfl) ?_
  refine we_skip fun a hF => hK4 _ _ ?_ a hF
  refine we_true (by kernel_rfl) ?_
  refine ws fun K6 hK6 => ?_
  refine wr [(0, 0), (1, 0)] ?_
  refine gb0 [0, 1] [(3, vI 10000), (2, vI 1)] ?_
  refine gn hK6 ?_
  subst h
  exact we_ret (pr0 [.tmp 2, .tmp 3] [vI 1, vI 10000] ⟨rfl, hS⟩)
 ·rw [if_neg hc1] at h
  refine wk 5 (x0 == 0) false (beq_eq_false_iff_ne.2 hc1) ?_
  refine we_false (by kernel_rfl) ?_
  refine ws fun K7 hK7 => ?_
  refine wr [(0, 0), (1, 0)] ?_
  refine gb0 [0, 1] [(5, .bool (x0 == 1)), (7, .bool (x0 == 1))] ?_
  refine gn hK7 ?_
  by_cases hc2 : x0 = 1
  ·rw [if_pos hc2] at h
   refine wk 5 (x0 == 1) true (beq_iff_eq.2 hc2) ?_
   refine we_true (by kernel_rfl) ?_
   refine we_skip fun a hF => hK4 _ _ ?_ a hF
   refine we_true (by kernel_rfl) ?_
   refine ws fun K8 hK8 => ?_
   refine wr [(0, 0), (1, 0)] ?_
   refine gb0 [0, 1] [(3, vI 10000), (2, vI 1)] ?_
   refine gn hK8 ?_
   subst h
   exact we_ret (pr0 [.tmp 2, .tmp 3] [vI 1, vI 10000] ⟨rfl, hS⟩)
  ·rw [if_neg hc2] at h
   refine wk 5 (x0 == 1) false (beq_eq_false_iff_ne.2 hc2) ?_
   refine we_false (by kernel_rfl) ?_
   refine wr [(0, 0), (1, 0)] ?_
   refine gb0 [0, 1] [(5, .bool (x0 == 2)), (8, .bool (x0 == 2))] ?_
   refine gn hK4 ?_
   by_cases hc3 : x0 = 2
   ·rw [if_pos hc3] at h
    refine wk 5 (x0 == 2) true (beq_iff_eq.2 hc3) ?_
    refine we_true (by kernel_rfl) ?_
    refine ws fun K9 hK9 => ?_
    refine wr [(0, 0), (1, 0)] ?_
    refine gb0 [0, 1] [(3, vI 10000), (2, vI 1)] ?_
    refine gn hK9 ?_
    subst h
    exact we_ret (pr0 [.tmp 2, .tmp 3] [vI 1, vI 10000] ⟨rfl, hS⟩)
   ·rw [if_neg hc3] at h
    refine wk 5 (x0 == 2) false (beq_eq_false_iff_ne.2 hc3) ?_
    refine we_false (by kernel_rfl) ?_
    refine ws fun K10 hK10 => ?_
    refine wr [(0, 0), (1, 0)] ?_
    refine gb0 [0, 1] [(9, .bool (x0 == 5)), (10, .bool (x0 == 5))] ?_
    refine gn hK10 ?_
    by_cases hc4 : x0 = 5
    ·rw [if_pos hc4] at h
     refine wk 9 (x0 == 5) true (beq_iff_eq.2 hc4) ?_
     refine we_true (by kernel_rfl) ?_
     refine ws fun K11 hK11 => ?_
     refine wr [(0, 0), (1, 0)] ?_
     refine gb0 [0, 1] [(3, vI 1000), (2, vI 0)] ?_
     refine gn hK11 ?_
     subst h
     exact we_ret (pr0 [.tmp 2, .tmp 3] [vI 0, vI 1000] ⟨rfl, hS⟩)
    ·rw [if_neg hc4] at h
     refine wk 9 (x0 == 5) false (beq_eq_false_iff_ne.2 hc4) ?_
     refine we_false (by kernel_rfl) ?_
     refine we_skip fun a hF => hK2 _ _ ?_ a hF
     refine ws fun K12 hK12 => ?_
     refine wr [(0, 0), (1, 0)] ?_
     refine gb0 [0, 1] [(3, vI 10000), (2, vI 0)] ?_
     refine gn hK12 ?_
     subst h
     exact we_ret (pr0 [.tmp 2, .tmp 3] [vI 0, vI 10000] ⟨rfl, hS⟩)

structure SFault where
 Code : Int
 At : Int
def SFault.eqb (x y : SFault) : Bool := ((x.Code == y.Code) && ((x.At == y.At) && true))
instance : Ok SFault := ⟨fun x => Ok.ok x.Code ∧ Ok.ok x.At ∧ True⟩
instance : Flat SFault := ⟨2, fun x => [vI x.Code, vI x.At], fun _ => rfl, fun _ => rfl, by decide⟩

/-! punctual/tasks.Check -/
abbrev tasks_Check.Post (w0 : World) (r : SFault) (e : Ending) (w : World) : Prop := e = .returned (.agg #[vI r.Code, vI r.At]) ∧ St w0 w []
def tasks_Check.p0 (l0 : List STask) : Option (Unit ⊕ SFault) :=
  if (l0.length : Int) < 1 then
   some (.inr (⟨2, 0⟩ : SFault))
  else
   if (l0.length : Int) > 8 then
    some (.inr (⟨2, 0⟩ : SFault))
   else
    some (.inl ())
def tasks_Check.r2 (i1 : Nat) (e1 : STask) : Nat → Option (Nat ⊕ (Unit ⊕ SFault))
 | i2 =>
  if (i2 : Int) < ((tasks_numbers.f e1).length : Int) then
   match (tasks_numbers.f e1)[i2]? with
   | none => none
   | some e2 =>
    if e2 < ((tasks_bounds.f (i2 : Int)).1) then
     some (.inr (.inr (⟨3, (i1 : Int)⟩ : SFault)))
    else
     if e2 > ((tasks_bounds.f (i2 : Int)).2) then
      some (.inr (.inr (⟨3, (i1 : Int)⟩ : SFault)))
     else
      some (.inl (i2 + 1))
  else
   some (.inr (.inl ()))
def tasks_Check.r1 (K : Nat) (l0 : List STask) : Nat → Option (Nat ⊕ (Unit ⊕ SFault))
 | i1 =>
  if (i1 : Int) < (l0.length : Int) then
   match l0[i1]? with
   | none => none
   | some e1 =>
    match tasks_isName.f K e1.Name with
    | none => none
    | some r1 =>
     if r1 = true then
      if i1 ≤ l0.length then
       match slices_ContainsFunc_api_Task_api_Task.f K ((l0.take i1).drop 0) e1 with
       | none => none
       | some r2 =>
        if r2 = true then
         some (.inr (.inr (⟨5, (i1 : Int)⟩ : SFault)))
        else
         match iter (tasks_Check.r2 i1 e1) K 0 with
         | none => none
         | some (.inl _) =>
          if e1.C > e1.D then
           some (.inr (.inr (⟨12, (i1 : Int)⟩ : SFault)))
          else
           some (.inl (i1 + 1))
         | some (.inr rr1) =>
          some (.inr (.inr rr1))
      else
       none
     else
      some (.inr (.inr (⟨4, (i1 : Int)⟩ : SFault)))
  else
   some (.inr (.inl ()))
def tasks_Check.f (K : Nat) (l0 : List STask) : Option SFault :=
 match tasks_Check.p0 l0 with
 | none => none
 | some (.inl _) =>
  match iter (tasks_Check.r1 K l0) K 0 with
  | none => none
  | some (.inl _) =>
   some (⟨0, 0⟩ : SFault)
  | some (.inr rr2) =>
   some rr2
 | some (.inr rr3) =>
  some rr3
abbrev tasks_Check.A0 (w0 : World) (l0 : List STask) (A0 : Option Addr) (c0 : Nat) (b1 : Nat) : Unit → Act → World → Prop := fun (s : Unit) a w => St w0 w [Own.blk b1 (.cells #[vI 0, vI 0] 29 (0, 0))] ∧ Frm 71 a [(0, .slice A0 l0.length c0), (2, pP b1 0)]
abbrev tasks_Check.B0 (w0 : World) : SFault → Exit → Act → World → Prop := Rets Try.prog Try.f35 (tasks_Check.Post w0)
theorem tasks_Check_p0 (K : Nat) (w0 : World) (l0 : List STask) (A0 : Option Addr) (c0 : Nat) (hR0 : RdL w0 A0 l0) (hL0 : l0.length ≤ c0) (b1 : Nat) (o : Unit ⊕ SFault) (h : tasks_Check.p0 l0 = some o) (w : World) (hS : St w0 w [Own.blk b1 (.cells #[vI 0, vI 0] 29 (0, 0))]) (Q : Exit → Act → World → Prop) (hQ : ∀ x a w, Outs (tasks_Check.A0 w0 l0 A0 c0 b1) (tasks_Check.B0 w0) o x a w → Q x a w) : WE Try.prog 71 (subF Try.f35 [1, 0]) Q [(0, .slice A0 l0.length c0), (2, pP b1 0)] w := by
 simp only [tasks_Check.p0] at h
 refine ws fun K3 hK3 => ?_
 refine wr [(0, 0), (1, 0), (2, 0), (3, 0), (4, 0), (5, 0), (6, 0), (7, 0)] ?_
 refine gb0 [0, 1, 2, 3] [(12, .bool (decide ((l0.length : Int) < 1))), (11, .bool (decide ((l0.length : Int) < 1))), (10, vI (l0.length : Int)), (9, .slice A0 l0.length c0)] ?_
 by_cases hc1 : (l0.length : Int) < 1
 ·rw [if_pos hc1] at h
  refine gk 12 (decide ((l0.length : Int) < 1)) true (decide_eq_true hc1) ?_
  refine gb0 [4, 5, 6, 7] [(16, .bool true), (15, undef), (14, undef), (13, undef)] ?_
  refine gn hK3 ?_
  refine we_true (by kernel_rfl) ?_
  refine ws fun K4 hK4 => ?_
  refine wr [(0, 0), (1, 2)] ?_
  refine gb0 [0] [(17, .agg #[vI 2, vI 0])] ?_
  refine gs b1 0 #[vI 0, vI 0] 29 [vI 2, vI 0] hS fun w2 hS2 => ?_
  have hS3 : St w0 w2 [Own.blk b1 (.cells #[vI 2, vI 0] 29 (0, 0))] := hS2
  refine gn hK4 ?_
  have hS4 := hS3.takeN 0
  obtain rfl := si h
  exact we_ret fun a hF => hQ _ _ _ (Outs.out nofun ⟨rfl, (pr [.cell 2 29] [.agg #[vI 2, vI 0]] [.loaded ⟨b1, 0, none⟩ (vI 2), .loaded ⟨b1, 1, none⟩ (vI 0)] ⟨hS3.c 0, hS3.c 0, trivial⟩ ⟨rfl, hS4⟩) a hF⟩)
 ·rw [if_neg hc1] at h
  refine gk 12 (decide ((l0.length : Int) < 1)) false (decide_eq_false hc1) ?_
  refine gb0 [4, 5, 6, 7] [(16, .bool (decide ((l0.length : Int) > 8))), (15, .bool (decide ((l0.length : Int) > 8))), (14, vI (l0.length : Int)), (13, .slice A0 l0.length c0)] ?_
  refine gn hK3 ?_
  by_cases hc2 : (l0.length : Int) > 8
  ·rw [if_pos hc2] at h
   refine wk 16 (decide ((l0.length : Int) > 8)) true (decide_eq_true hc2) ?_
   refine we_true (by kernel_rfl) ?_
   refine ws fun K5 hK5 => ?_
   refine wr [(0, 0), (1, 2)] ?_
   refine gb0 [0] [(17, .agg #[vI 2, vI 0])] ?_
   refine gs b1 0 #[vI 0, vI 0] 29 [vI 2, vI 0] hS fun w3 hS5 => ?_
   have hS6 : St w0 w3 [Own.blk b1 (.cells #[vI 2, vI 0] 29 (0, 0))] := hS5
   refine gn hK5 ?_
   have hS7 := hS6.takeN 0
   obtain rfl := si h
   exact we_ret fun a hF => hQ _ _ _ (Outs.out nofun ⟨rfl, (pr [.cell 2 29] [.agg #[vI 2, vI 0]] [.loaded ⟨b1, 0, none⟩ (vI 2), .loaded ⟨b1, 1, none⟩ (vI 0)] ⟨hS6.c 0, hS6.c 0, trivial⟩ ⟨rfl, hS7⟩) a hF⟩)
  ·rw [if_neg hc2] at h
   refine wk 16 (decide ((l0.length : Int) > 8)) false (decide_eq_false hc2) ?_
   refine we_false (by kernel_rfl) ?_
   obtain rfl := si h
   exact we_skip fun a hF => hQ _ _ _ (Outs.again ⟨hS, hF.weaken ea⟩)
abbrev tasks_Check.A2 (w0 : World) (l0 : List STask) (A0 : Option Addr) (c0 : Nat) (b1 : Nat) (i1 : Nat) (e1 : STask) (b2 : Nat) (Z1 : Option Addr) (cz1 : Nat) : Nat → Act → World → Prop := fun (s : Nat) a w => St w0 w [Own.blk b2 (.cells #[.string e1.Name, vI e1.C, vI e1.T, vI e1.D, vI e1.J, vI e1.O, vI e1.P] 46 (0, 0)), Own.blk b1 (.cells #[vI 0, vI 0] 29 (0, 0)), Own.of (.slice Z1 (tasks_numbers.f e1).length cz1) 3 (tasks_numbers.f e1)] ∧ Frm 71 a [(0, .slice A0 l0.length c0), (2, pP b1 0), (3, vI (i1 : Int)), (4, pP b2 0), (18, .slice A0 l0.length c0), (19, vI (l0.length : Int)), (20, vI (i1 : Int)), (39, (.slice Z1 (tasks_numbers.f e1).length cz1)), (40, vI ((tasks_numbers.f e1).length : Int)), (41, vI (s : Int))]
abbrev tasks_Check.B2 (w0 : World) (l0 : List STask) (A0 : Option Addr) (c0 : Nat) (b1 : Nat) (i1 : Nat) (e1 : STask) (b2 : Nat) : (Unit ⊕ SFault) → Exit → Act → World → Prop := Exits 2 (fun (s : Unit) a w => St w0 w [Own.blk b2 (.cells #[.string e1.Name, vI e1.C, vI e1.T, vI e1.D, vI e1.J, vI e1.O, vI e1.P] 46 (0, 0)), Own.blk b1 (.cells #[vI 0, vI 0] 29 (0, 0))] ∧ Frm 71 a [(0, .slice A0 l0.length c0), (2, pP b1 0), (3, vI (i1 : Int)), (4, pP b2 0), (18, .slice A0 l0.length c0), (19, vI (l0.length : Int)), (20, vI (i1 : Int))]) (Rets Try.prog Try.f35 (tasks_Check.Post w0))
theorem tasks_Check_r2 (K : Nat) (w0 : World) (l0 : List STask) (A0 : Option Addr) (c0 : Nat) (hR0 : RdL w0 A0 l0) (hL0 : l0.length ≤ c0) (b1 : Nat) (i1 : Nat) (hc3 : (i1 : Int) < (l0.length : Int)) (e1 : STask) (hx2 : l0[i1]? = some e1) (b2 : Nat) (r1 : Bool) (hc4 : r1 = true) (hc5 : i1 ≤ l0.length) (r2 : Bool) (hc6 : ¬ (r2 = true)) (Z1 : Option Addr) (cz1 : Nat) (s : Nat) (o : Nat ⊕ (Unit ⊕ SFault)) (h : tasks_Check.r2 i1 e1 s = some o) (a : Act) (w : World) (hA : tasks_Check.A2 w0 l0 A0 c0 b1 i1 e1 b2 Z1 cz1 s a w) (Q : Exit → Act → World → Prop) (hQ : ∀ x a w, Outs (tasks_Check.A2 w0 l0 A0 c0 b1 i1 e1 b2 Z1 cz1) (tasks_Check.B2 w0 l0 A0 c0 b1 i1 e1 b2) o x a w → Q x a w) : (subF Try.f35 [1, 1, 0, 1, 0, 0, 1, 1, 0, 0, 1, 1, 1, 0, 1, 0, 0]).wp Try.prog Q a w := by
 obtain ⟨i2, hs⟩ : ∃ z, z = s := ⟨s, rfl⟩
 subst hs
 obtain ⟨hS, hF⟩ := hA
 replace hS : St w0 w [Own.blk b2 (.cells #[.string e1.Name, vI e1.C, vI e1.T, vI e1.D, vI e1.J, vI e1.O, vI e1.P] 46 (0, 0)), Own.blk b1 (.cells #[vI 0, vI 0] 29 (0, 0)), Own.of (.slice Z1 (tasks_numbers.f e1).length cz1) 3 (tasks_numbers.f e1)] := hS
 simp only [tasks_Check.r2] at h
 refine (?_ : WE Try.prog 71 (subF Try.f35 [1, 1, 0, 1, 0, 0, 1, 1, 0, 0, 1, 1, 1, 0, 1, 0, 0]) Q [(0, .slice A0 l0.length c0), (2, pP b1 0), (3, vI (i1 : Int)), (4, pP b2 0), (18, .slice A0 l0.length c0), (19, vI (l0.length : Int)), (20, vI (i1 : Int)), (39, (.slice Z1 (tasks_numbers.f e1).length cz1)), (40, vI ((tasks_numbers.f e1).length : Int)), (41, vI (i2 : Int))] w) a hF
 clear hF a
 refine ws fun K19 hK19 => ?_
 refine wr [(0, 0)] ?_
 refine gb0 [0] [(42, .bool (decide ((i2 : Int) < ((tasks_numbers.f e1).length : Int))))] ?_
 refine gn hK19 ?_
 refine ws fun K20 hK20 => ?_
 by_cases hc7 : (i2 : Int) < ((tasks_numbers.f e1).length : Int)
 ·rw [if_pos hc7] at h
  refine wk 42 (decide ((i2 : Int) < ((tasks_numbers.f e1).length : Int))) true (decide_eq_true hc7) ?_
  refine we_true (by kernel_rfl) ?_
  refine we_skip fun a hF => hK20 _ _ ?_ a hF
  refine ws fun K21 hK21 => ?_
  refine we_block ?_
  refine ws fun K22 hK22 => ?_
  refine wr [(0, 0), (1, 0), (2, 0), (3, 0), (4, 0)] ?_
  refine gb0 [0] [(43, vI (i2 : Int))] ?_
  rcases hx4 : (tasks_numbers.f e1)[i2]? with _ | e2
  ·rw [hx4] at h; cases h
  rw [hx4] at h
  simp only [] at h
  refine gi 44 0 24 3 1 ((tasks_numbers.f e1).length) cz1 (.tmp 39) (.tmp 41) Z1 .i64 (i2 : Int) i2 ((hS.rdAt 2 rfl).eqSome (pos_of_get hx4)) rfl (lt_of_get hx4) ?_
  refine gb [2, 3, 4] [(6, vI e2), (5, vI (i2 : Int)), (45, vI e2)] [.loaded ⟨blkOf Z1, offOf Z1 + i2 * 1, none⟩ (vI e2)] ⟨RdL.cell (j := 0) (hS.rdAt 2 rfl) hx4 rfl, trivial⟩ ?_
  refine gn hK22 ?_
  refine ws fun K23 hK23 => ?_
  refine wr [(0, 0), (1, 1), (2, 0), (3, 0), (4, 0), (5, 0), (6, 0)] ?_
  refine gb0 [0] [(47, vI (i2 : Int))] ?_
  refine ge_call (d := some 48) (f := 57) (args := #[vI (i2 : Int)]) (by kernel_rfl) (tasks_bounds_ok (i2 : Int) _ _ rfl) ?_
  rintro _ w11 ⟨rfl, hS24⟩
  refine ⟨_, rfl, hS24.below, ?_⟩
  have hS25 := hS.call hS24
  refine gb0 [2, 3, 4, 5, 6] [(8, vI ((tasks_bounds.f (i2 : Int)).2)), (7, vI ((tasks_bounds.f (i2 : Int)).1)), (50, vI ((tasks_bounds.f (i2 : Int)).2)), (49, vI ((tasks_bounds.f (i2 : Int)).1)), (46, .tuple #[vI ((tasks_bounds.f (i2 : Int)).1), vI ((tasks_bounds.f (i2 : Int)).2)])] ?_
  refine gn hK23 ?_
  refine ws fun K24 hK24 => ?_
  refine wr [(0, 0), (1, 0), (2, 0), (3, 0), (4, 0), (5, 0), (6, 0), (7, 0)] ?_
  refine gb0 [0, 1, 2, 3] [(54, .bool (decide (e2 < ((tasks_bounds.f (i2 : Int)).1)))), (53, .bool (decide (e2 < ((tasks_bounds.f (i2 : Int)).1)))), (52, vI ((tasks_bounds.f (i2 : Int)).1)), (51, vI e2)] ?_
  by_cases hc8 : e2 < ((tasks_bounds.f (i2 : Int)).1)
  ·rw [if_pos hc8] at h
   refine gk 54 (decide (e2 < ((tasks_bounds.f (i2 : Int)).1))) true (decide_eq_true hc8) ?_
   refine gb0 [4, 5, 6, 7] [(58, .bool true), (57, undef), (56, undef), (55, undef)] ?_
   refine gn hK24 ?_
   refine we_true (by kernel_rfl) ?_
   refine ws fun K25 hK25 => ?_
   refine wr [(0, 0), (1, 0), (2, 2)] ?_
   refine gb0 [0, 1] [(60, .agg #[vI 3, vI (i1 : Int)]), (59, vI (i1 : Int))] ?_
   have hS26 := hS25.bring 1 rfl
   refine gs b1 0 #[vI 0, vI 0] 29 [vI 3, vI (i1 : Int)] hS26 fun w12 hS27 => ?_
   have hS28 : St w0 w12 [Own.blk b1 (.cells #[vI 3, vI (i1 : Int)] 29 (0, 0)), Own.blk b2 (.cells #[.string e1.Name, vI e1.C, vI e1.T, vI e1.D, vI e1.J, vI e1.O, vI e1.P] 46 (0, 0)), Own.of (.slice Z1 (tasks_numbers.f e1).length cz1) 3 (tasks_numbers.f e1)] := hS27
   refine gn hK25 ?_
   have hS29 := hS28.takeN 0
   obtain rfl := si h
   exact we_ret fun a hF => hQ _ _ _ (Outs.out nofun (Exits.on ⟨rfl, (pr [.cell 2 29] [.agg #[vI 3, vI (i1 : Int)]] [.loaded ⟨b1, 0, none⟩ (vI 3), .loaded ⟨b1, 1, none⟩ (vI (i1 : Int))] ⟨hS28.c 0, hS28.c 0, trivial⟩ ⟨rfl, hS29⟩) a hF⟩))
  ·rw [if_neg hc8] at h
   refine gk 54 (decide (e2 < ((tasks_bounds.f (i2 : Int)).1))) false (decide_eq_false hc8) ?_
   refine gb0 [4, 5, 6, 7] [(58, .bool (decide (e2 > ((tasks_bounds.f (i2 : Int)).2)))), (57, .bool (decide (e2 > ((tasks_bounds.f (i2 : Int)).2)))), (56, vI ((tasks_bounds.f (i2 : Int)).2)), (55, vI e2)] ?_
   refine gn hK24 ?_
   by_cases hc9 : e2 > ((tasks_bounds.f (i2 : Int)).2)
   ·rw [if_pos hc9] at h
    refine wk 58 (decide (e2 > ((tasks_bounds.f (i2 : Int)).2))) true (decide_eq_true hc9) ?_
    refine we_true (by kernel_rfl) ?_
    refine ws fun K26 hK26 => ?_
    refine wr [(0, 0), (1, 0), (2, 2)] ?_
    refine gb0 [0, 1] [(60, .agg #[vI 3, vI (i1 : Int)]), (59, vI (i1 : Int))] ?_
    have hS30 := hS25.bring 1 rfl
    refine gs b1 0 #[vI 0, vI 0] 29 [vI 3, vI (i1 : Int)] hS30 fun w13 hS31 => ?_
    have hS32 : St w0 w13 [Own.blk b1 (.cells #[vI 3, vI (i1 : Int)] 29 (0, 0)), Own.blk b2 (.cells #[.string e1.Name, vI e1.C, vI e1.T, vI e1.D, vI e1.J, vI e1.O, vI e1.P] 46 (0, 0)), Own.of (.slice Z1 (tasks_numbers.f e1).length cz1) 3 (tasks_numbers.f e1)] := hS31
    refine gn hK26 ?_
    have hS33 := hS32.takeN 0
    obtain rfl := si h
    exact we_ret fun a hF => hQ _ _ _ (Outs.out nofun (Exits.on ⟨rfl, (pr [.cell 2 29] [.agg #[vI 3, vI (i1 : Int)]] [.loaded ⟨b1, 0, none⟩ (vI 3), .loaded ⟨b1, 1, none⟩ (vI (i1 : Int))] ⟨hS32.c 0, hS32.c 0, trivial⟩ ⟨rfl, hS33⟩) a hF⟩))
   ·rw [if_neg hc9] at h
    refine wk 58 (decide (e2 > ((tasks_bounds.f (i2 : Int)).2))) false (decide_eq_false hc9) ?_
    refine we_false (by kernel_rfl) ?_
    refine we_skip fun a hF => hK21 _ _ ?_ a hF
    refine wr [(0, 0), (1, 0)] ?_
    refine ge_addn (d := 61) (ty := 3) (x := (.tmp 41)) (y := (.const (vI 1))) (t := 3) (t2 := 3) (k := .i64) (m := i2) (by kernel_rfl) (by kernel_rfl) (by kernel_rfl) (by have h0 := hS25.ofSmall 2 rfl; omega) ?_
    refine gb0 [1] [(41, vI ((i2 + 1 : Nat) : Int))] ?_
    have hS34 := hS25.bring 2 rfl
    have hS35 := hS34.bring 2 rfl
    have hS36 := hS35.bring 2 rfl
    obtain rfl := si h
    exact ge_nil fun a hF => hQ _ _ _ (Outs.again ⟨hS36, hF.weaken ea⟩)
 ·rw [if_neg hc7] at h
  refine wk 42 (decide ((i2 : Int) < ((tasks_numbers.f e1).length : Int))) false (decide_eq_false hc7) ?_
  refine we_false (by kernel_rfl) ?_
  have hS37 := hS.bring 1 rfl
  have hS38 := hS37.bring 1 rfl
  have hS39 := hS38.takeN 2
  obtain rfl := si h
  exact we_exit fun a hF => hQ _ _ _ (Outs.out nofun (Exits.here ⟨hS39, hF.weaken ea⟩))
abbrev tasks_Check.A1 (w0 : World) (l0 : List STask) (A0 : Option Addr) (c0 : Nat) (b1 : Nat) : Nat → Act → World → Prop := fun (s : Nat) a w => St w0 w [Own.blk b1 (.cells #[vI 0, vI 0] 29 (0, 0))] ∧ Frm 71 a [(0, .slice A0 l0.length c0), (2, pP b1 0), (18, .slice A0 l0.length c0), (19, vI (l0.length : Int)), (20, vI (s : Int))]
abbrev tasks_Check.B1 (w0 : World) (b1 : Nat) : (Unit ⊕ SFault) → Exit → Act → World → Prop := Exits 0 (fun (s : Unit) a w => St w0 w [Own.blk b1 (.cells #[vI 0, vI 0] 29 (0, 0))] ∧ Frm 71 a [(2, pP b1 0)]) (Rets Try.prog Try.f35 (tasks_Check.Post w0))
theorem tasks_Check_r1 (K : Nat) (w0 : World) (l0 : List STask) (A0 : Option Addr) (c0 : Nat) (hR0 : RdL w0 A0 l0) (hL0 : l0.length ≤ c0) (b1 : Nat) (s : Nat) (o : Nat ⊕ (Unit ⊕ SFault)) (h : tasks_Check.r1 K l0 s = some o) (a : Act) (w : World) (hA : tasks_Check.A1 w0 l0 A0 c0 b1 s a w) (Q : Exit → Act → World → Prop) (hQ : ∀ x a w, Outs (tasks_Check.A1 w0 l0 A0 c0 b1) (tasks_Check.B1 w0 b1) o x a w → Q x a w) : (subF Try.f35 [1, 1, 0, 1, 0, 0]).wp Try.prog Q a w := by
 obtain ⟨i1, hs⟩ : ∃ z, z = s := ⟨s, rfl⟩
 subst hs
 obtain ⟨hS, hF⟩ := hA
 replace hS : St w0 w [Own.blk b1 (.cells #[vI 0, vI 0] 29 (0, 0))] := hS
 simp only [tasks_Check.r1] at h
 refine (?_ : WE Try.prog 71 (subF Try.f35 [1, 1, 0, 1, 0, 0]) Q [(0, .slice A0 l0.length c0), (2, pP b1 0), (18, .slice A0 l0.length c0), (19, vI (l0.length : Int)), (20, vI (i1 : Int))] w) a hF
 clear hF a
 refine ws fun K8 hK8 => ?_
 refine wr [(0, 0)] ?_
 refine gb0 [0] [(21, .bool (decide ((i1 : Int) < (l0.length : Int))))] ?_
 refine gn hK8 ?_
 refine ws fun K9 hK9 => ?_
 by_cases hc3 : (i1 : Int) < (l0.length : Int)
 ·rw [if_pos hc3] at h
  refine wk 21 (decide ((i1 : Int) < (l0.length : Int))) true (decide_eq_true hc3) ?_
  refine we_true (by kernel_rfl) ?_
  refine we_skip fun a hF => hK9 _ _ ?_ a hF
  refine ws fun K10 hK10 => ?_
  refine we_block ?_
  refine ws fun K11 hK11 => ?_
  refine wr [(0, 0), (1, 0), (2, 0), (3, 1), (4, 0), (5, 2)] ?_
  refine gb0 [0] [(22, vI (i1 : Int))] ?_
  rcases hx2 : l0[i1]? with _ | e1
  ·rw [hx2] at h; cases h
  rw [hx2] at h
  simp only [] at h
  refine gi 23 0 22 46 7 l0.length c0 (.tmp 18) (.tmp 20) A0 .i64 (i1 : Int) i1 ((hS.rd hR0).eqSome (pos_of_get hx2)) rfl (lt_of_get hx2) ?_
  refine gb [2] [(24, .agg #[.string e1.Name, vI e1.C, vI e1.T, vI e1.D, vI e1.J, vI e1.O, vI e1.P])] [.loaded ⟨blkOf A0, offOf A0 + i1 * 7, none⟩ (.string e1.Name), .loaded ⟨blkOf A0, offOf A0 + i1 * 7 + 1, none⟩ (vI e1.C), .loaded ⟨blkOf A0, offOf A0 + i1 * 7 + 2, none⟩ (vI e1.T), .loaded ⟨blkOf A0, offOf A0 + i1 * 7 + 3, none⟩ (vI e1.D), .loaded ⟨blkOf A0, offOf A0 + i1 * 7 + 4, none⟩ (vI e1.J), .loaded ⟨blkOf A0, offOf A0 + i1 * 7 + 5, none⟩ (vI e1.O), .loaded ⟨blkOf A0, offOf A0 + i1 * 7 + 6, none⟩ (vI e1.P)] ⟨RdL.cell (j := 0) (hS.rd hR0) hx2 rfl, RdL.cell (j := 1) (hS.rd hR0) hx2 rfl, RdL.cell (j := 2) (hS.rd hR0) hx2 rfl, RdL.cell (j := 3) (hS.rd hR0) hx2 rfl, RdL.cell (j := 4) (hS.rd hR0) hx2 rfl, RdL.cell (j := 5) (hS.rd hR0) hx2 rfl, RdL.cell (j := 6) (hS.rd hR0) hx2 rfl, trivial⟩ ?_
  refine gw (some 4) (.cells #[.string (⟨#[]⟩), vI 0, vI 0, vI 0, vI 0, vI 0, vI 0] 46) (fun b => pP b 0) hS fun b2 w5 hx3 hS9 => ?_
  refine gb0 [4] [(3, vI (i1 : Int))] ?_
  refine gs b2 0 #[.string (⟨#[]⟩), vI 0, vI 0, vI 0, vI 0, vI 0, vI 0] 46 [.string e1.Name, vI e1.C, vI e1.T, vI e1.D, vI e1.J, vI e1.O, vI e1.P] hS9 fun w6 hS10 => ?_
  have hS11 : St w0 w6 [Own.blk b2 (.cells #[.string e1.Name, vI e1.C, vI e1.T, vI e1.D, vI e1.J, vI e1.O, vI e1.P] 46 (0, 0)), Own.blk b1 (.cells #[vI 0, vI 0] 29 (0, 0))] := hS10
  refine gn hK11 ?_
  refine ws fun K12 hK12 => ?_
  refine ws fun K13 hK13 => ?_
  refine wr [(0, 0), (1, 0), (2, 1), (3, 0)] ?_
  rcases hq2 : tasks_isName.f K e1.Name with _ | r1
  ·rw [hq2] at h; cases h
  rw [hq2] at h
  simp only [] at h
  refine gb [0, 1] [(26, .string e1.Name), (25, pP b2 0)] [.loaded ⟨b2, 0, none⟩ (.string e1.Name)] ⟨hS11.c 0, trivial⟩ ?_
  refine ge_call (d := some 27) (f := 53) (args := #[.string e1.Name]) (by kernel_rfl) (tasks_isName_ok K e1.Name _ _ hq2) ?_
  rintro _ w7 ⟨rfl, hS12⟩
  refine ⟨_, rfl, hS12.below, ?_⟩
  have hS13 := hS11.call hS12
  refine gb0 [3] [(28, .bool (!r1))] ?_
  refine gn hK13 ?_
  by_cases hc4 : r1 = true
  ·rw [if_pos hc4] at h
   refine wk 28 (!r1) false (congrArg (fun z => !z) hc4) ?_
   refine we_false (by kernel_rfl) ?_
   refine we_skip fun a hF => hK12 _ _ ?_ a hF
   refine ws fun K14 hK14 => ?_
   refine ws fun K15 hK15 => ?_
   refine wr [(0, 0), (1, 0), (2, 0), (3, 0), (4, 1)] ?_
   refine gb0 [0, 1] [(32, vI (i1 : Int)), (31, .slice A0 l0.length c0)] ?_
   by_cases hc5 : i1 ≤ l0.length
   ·rw [if_pos hc5] at h
    refine ge_part (d := 33) (ty := 22) (t := 22) (el := 46) (sz := 7) (m := l0.length) (c := c0) (lo := 0) (hi := i1) (x := (.tmp 31)) (xl := none) (xh := some (.tmp 32)) (A := A0) (by kernel_rfl) (by kernel_rfl) rfl ⟨.i64, (i1 : Int), by kernel_rfl, rfl⟩ (by kernel_rfl) (by kernel_rfl) (by have f0 := hc5; have f1 := hL0; omega) (by have f0 := hc5; have f1 := hL0; omega) ?_
    refine ge_same (t := 33) (v := .slice (subA A0 c0 0 7) (i1 - 0) (c0 - 0)) (v' := .slice (subA A0 c0 0 7) (((l0.take i1).drop 0).length) (c0 - 0)) (by kernel_rfl) (by have f0 := hc5; have f1 := hL0; rw [show i1 - 0 = ((l0.take i1).drop 0).length by simp only [List.length_drop, List.length_take]; omega]) ?_
    rcases hq3 : slices_ContainsFunc_api_Task_api_Task.f K ((l0.take i1).drop 0) e1 with _ | r2
    ·rw [hq3] at h; cases h
    rw [hq3] at h
    simp only [] at h
    refine gb0 [3] [(34, .func (.func 55) #[] #[pP b2 0])] ?_
    refine ge_call (d := some 35) (f := 54) (args := #[.slice (subA A0 c0 0 7) (((l0.take i1).drop 0).length) (c0 - 0), .func (.func 55) #[] #[pP b2 0]]) (by kernel_rfl) (slices_ContainsFunc_api_Task_api_Task_ok K ((l0.take i1).drop 0) (subA A0 c0 0 7) (c0 - 0) b2 e1 _ (hS13.rd (RdL.part hR0 hL0 0 i1)) (by have f0 := hc5; have f1 := hL0; simp only [List.length_drop, List.length_take]; omega) (hS13.globOf 0 rfl) _ hq3) ?_
    rintro _ w8 ⟨rfl, hS14⟩
    refine ⟨_, rfl, hS14.below, ?_⟩
    have hS15 := hS13.call hS14
    refine gn hK15 ?_
    by_cases hc6 : r2 = true
    ·rw [if_pos hc6] at h
     refine wk 35 r2 true hc6 ?_
     refine we_true (by kernel_rfl) ?_
     refine ws fun K16 hK16 => ?_
     refine wr [(0, 0), (1, 0), (2, 2)] ?_
     refine gb0 [0, 1] [(37, .agg #[vI 5, vI (i1 : Int)]), (36, vI (i1 : Int))] ?_
     have hS16 := hS15.bring 1 rfl
     refine gs b1 0 #[vI 0, vI 0] 29 [vI 5, vI (i1 : Int)] hS16 fun w9 hS17 => ?_
     have hS18 : St w0 w9 [Own.blk b1 (.cells #[vI 5, vI (i1 : Int)] 29 (0, 0)), Own.blk b2 (.cells #[.string e1.Name, vI e1.C, vI e1.T, vI e1.D, vI e1.J, vI e1.O, vI e1.P] 46 (0, 0))] := hS17
     refine gn hK16 ?_
     have hS19 := hS18.takeN 0
     obtain rfl := si h
     exact we_ret fun a hF => hQ _ _ _ (Outs.out nofun (Exits.on ⟨rfl, (pr [.cell 2 29] [.agg #[vI 5, vI (i1 : Int)]] [.loaded ⟨b1, 0, none⟩ (vI 5), .loaded ⟨b1, 1, none⟩ (vI (i1 : Int))] ⟨hS18.c 0, hS18.c 0, trivial⟩ ⟨rfl, hS19⟩) a hF⟩))
    ·rw [if_neg hc6] at h
     refine wk 35 r2 false (Bool.eq_false_iff.2 hc6) ?_
     refine we_false (by kernel_rfl) ?_
     refine we_skip fun a hF => hK14 _ _ ?_ a hF
     refine ws fun K17 hK17 => ?_
     refine ws fun K18 hK18 => ?_
     refine wr [(0, 0), (1, 1), (2, 0), (3, 0)] ?_
     refine gb [0] [(38, .agg #[.string e1.Name, vI e1.C, vI e1.T, vI e1.D, vI e1.J, vI e1.O, vI e1.P])] [.loaded ⟨b2, 0, none⟩ (.string e1.Name), .loaded ⟨b2, 1, none⟩ (vI e1.C), .loaded ⟨b2, 2, none⟩ (vI e1.T), .loaded ⟨b2, 3, none⟩ (vI e1.D), .loaded ⟨b2, 4, none⟩ (vI e1.J), .loaded ⟨b2, 5, none⟩ (vI e1.O), .loaded ⟨b2, 6, none⟩ (vI e1.P)] ⟨hS15.c 0, hS15.c 0, hS15.c 0, hS15.c 0, hS15.c 0, hS15.c 0, hS15.c 0, trivial⟩ ?_
     refine ge_call (d := some 39) (f := 56) (args := #[.agg #[.string e1.Name, vI e1.C, vI e1.T, vI e1.D, vI e1.J, vI e1.O, vI e1.P]]) (by kernel_rfl) (tasks_numbers_ok e1 _ _ rfl) ?_
     rintro _ w10 ⟨v1, rfl, hS20⟩
     refine ⟨_, rfl, hS20.below, ?_⟩
     have hS21 := hS15.call hS20
     obtain ⟨Z1, cz1, rfl⟩ := hS21.open 0 rfl
     refine gb0 [2, 3] [(41, vI 0), (40, vI ((tasks_numbers.f e1).length : Int))] ?_
     refine gn hK18 ?_
     refine we_block ?_
     have hS22 := hS21.bring 2 rfl
     have hS23 := hS22.bring 2 rfl
     rcases hq6 : iter (tasks_Check.r2 i1 e1) K 0 with _ | (_ | rr1)
     ·rw [hq6] at h; cases h
     ·rw [hq6] at h
      simp only [] at h
      refine we_iter (A := tasks_Check.A2 w0 l0 A0 c0 b1 i1 e1 b2 Z1 cz1) (B := tasks_Check.B2 w0 l0 A0 c0 b1 i1 e1 b2) hq6 (fun a hF => ⟨hS23, hF.weaken ea⟩) (fun s o hf a w hA Q hQ => tasks_Check_r2 K w0 l0 A0 c0 hR0 hL0 b1 i1 hc3 e1 hx2 b2 r1 hc4 hc5 r2 hc6 Z1 cz1 s o hf a w hA Q hQ) ?_
      rintro _ a w14 _ ⟨rfl, hS40, hF⟩
      replace hS40 : St w0 w14 [Own.blk b2 (.cells #[.string e1.Name, vI e1.C, vI e1.T, vI e1.D, vI e1.J, vI e1.O, vI e1.P] 46 (0, 0)), Own.blk b1 (.cells #[vI 0, vI 0] 29 (0, 0))] := hS40
      refine hK17 [(0, .slice A0 l0.length c0), (2, pP b1 0), (3, vI (i1 : Int)), (4, pP b2 0), (18, .slice A0 l0.length c0), (19, vI (l0.length : Int)), (20, vI (i1 : Int))] w14 ?_ a hF
      refine ws fun K27 hK27 => ?_
      refine wr [(0, 0), (1, 0), (2, 0), (3, 0), (4, 0)] ?_
      refine gb [0, 1, 2, 3, 4] [(66, .bool (decide (e1.C > e1.D))), (65, vI e1.D), (64, pP b2 3), (63, vI e1.C), (62, pP b2 1)] [.loaded ⟨b2, 1, none⟩ (vI e1.C), .loaded ⟨b2, 3, none⟩ (vI e1.D)] ⟨hS40.c 0, hS40.c 0, trivial⟩ ?_
      refine gn hK27 ?_
      by_cases hc10 : e1.C > e1.D
      ·rw [if_pos hc10] at h
       refine wk 66 (decide (e1.C > e1.D)) true (decide_eq_true hc10) ?_
       refine we_true (by kernel_rfl) ?_
       refine ws fun K28 hK28 => ?_
       refine wr [(0, 0), (1, 0), (2, 2)] ?_
       refine gb0 [0, 1] [(68, .agg #[vI 12, vI (i1 : Int)]), (67, vI (i1 : Int))] ?_
       have hS41 := hS40.bring 1 rfl
       refine gs b1 0 #[vI 0, vI 0] 29 [vI 12, vI (i1 : Int)] hS41 fun w15 hS42 => ?_
       have hS43 : St w0 w15 [Own.blk b1 (.cells #[vI 12, vI (i1 : Int)] 29 (0, 0)), Own.blk b2 (.cells #[.string e1.Name, vI e1.C, vI e1.T, vI e1.D, vI e1.J, vI e1.O, vI e1.P] 46 (0, 0))] := hS42
       refine gn hK28 ?_
       have hS44 := hS43.takeN 0
       obtain rfl := si h
       exact we_ret fun a hF => hQ _ _ _ (Outs.out nofun (Exits.on ⟨rfl, (pr [.cell 2 29] [.agg #[vI 12, vI (i1 : Int)]] [.loaded ⟨b1, 0, none⟩ (vI 12), .loaded ⟨b1, 1, none⟩ (vI (i1 : Int))] ⟨hS43.c 0, hS43.c 0, trivial⟩ ⟨rfl, hS44⟩) a hF⟩))
      ·rw [if_neg hc10] at h
       refine wk 66 (decide (e1.C > e1.D)) false (decide_eq_false hc10) ?_
       refine we_false (by kernel_rfl) ?_
       refine we_skip fun a hF => hK10 _ _ ?_ a hF
       refine wr [(0, 0), (1, 0)] ?_
       refine ge_addn (d := 69) (ty := 3) (x := (.tmp 20)) (y := (.const (vI 1))) (t := 3) (t2 := 3) (k := .i64) (m := i1) (by kernel_rfl) (by kernel_rfl) (by kernel_rfl) (by have h0 := hR0.small; omega) ?_
       refine gb0 [1] [(20, vI ((i1 + 1 : Nat) : Int))] ?_
       have hS45 := hS40.bring 1 rfl
       have hS46 := hS45.takeN 1
       obtain rfl := si h
       exact ge_nil fun a hF => hQ _ _ _ (Outs.again ⟨hS46, hF.weaken ea⟩)
     ·rw [hq6] at h
      simp only [] at h
      refine we_iter (A := tasks_Check.A2 w0 l0 A0 c0 b1 i1 e1 b2 Z1 cz1) (B := tasks_Check.B2 w0 l0 A0 c0 b1 i1 e1 b2) hq6 (fun a hF => ⟨hS23, hF.weaken ea⟩) (fun s o hf a w hA Q hQ => tasks_Check_r2 K w0 l0 A0 c0 hR0 hL0 b1 i1 hc3 e1 hx2 b2 r1 hc4 hc5 r2 hc6 Z1 cz1 s o hf a w hA Q hQ) ?_
      rintro _ a w1 _ ⟨rfl, hb⟩
      obtain rfl := si h
      exact hQ _ _ _ (Outs.out nofun (Exits.on ⟨rfl, hb⟩))
   ·rw [if_neg hc5] at h
    cases h
  ·rw [if_neg hc4] at h
   refine wk 28 (!r1) true (congrArg (fun z => !z) (Bool.eq_false_iff.2 hc4)) ?_
   refine we_true (by kernel_rfl) ?_
   refine ws fun K29 hK29 => ?_
   refine wr [(0, 0), (1, 0), (2, 2)] ?_
   refine gb0 [0, 1] [(30, .agg #[vI 4, vI (i1 : Int)]), (29, vI (i1 : Int))] ?_
   have hS47 := hS13.bring 1 rfl
   refine gs b1 0 #[vI 0, vI 0] 29 [vI 4, vI (i1 : Int)] hS47 fun w16 hS48 => ?_
   have hS49 : St w0 w16 [Own.blk b1 (.cells #[vI 4, vI (i1 : Int)] 29 (0, 0)), Own.blk b2 (.cells #[.string e1.Name, vI e1.C, vI e1.T, vI e1.D, vI e1.J, vI e1.O, vI e1.P] 46 (0, 0))] := hS48
   refine gn hK29 ?_
   have hS50 := hS49.takeN 0
   obtain rfl := si h
   exact we_ret fun a hF => hQ _ _ _ (Outs.out nofun (Exits.on ⟨rfl, (pr [.cell 2 29] [.agg #[vI 4, vI (i1 : Int)]] [.loaded ⟨b1, 0, none⟩ (vI 4), .loaded ⟨b1, 1, none⟩ (vI (i1 : Int))] ⟨hS49.c 0, hS49.c 0, trivial⟩ ⟨rfl, hS50⟩) a hF⟩))
 ·rw [if_neg hc3] at h
  refine wk 21 (decide ((i1 : Int) < (l0.length : Int))) false (decide_eq_false hc3) ?_
  refine we_false (by kernel_rfl) ?_
  obtain rfl := si h
  exact we_exit fun a hF => hQ _ _ _ (Outs.out nofun (Exits.here ⟨hS, hF.weaken ea⟩))
theorem tasks_Check_ok (K : Nat) (l0 : List STask) (A0 : Option Addr) (c0 : Nat) (w0 : World) (hR0 : RdL w0 A0 l0) (hL0 : l0.length ≤ c0) (r : SFault) (h : tasks_Check.f K l0 = some r) :
  Calls Try.prog 35 #[.slice A0 l0.length c0] w0 (tasks_Check.Post w0 r) := by
 have hS := St.start w0
 unfold tasks_Check.f at h
 refine calls_enter (n := 71) (args := [.slice A0 l0.length c0]) (fn := Try.f35) rfl rfl rfl rfl ?_
 show WE _ _ _ _ [(0, .slice A0 l0.length c0)] _
 refine ws fun K1 hK1 => ?_
 refine wr [(0, 1)] ?_
 refine gw (some 2) (.cells #[vI 0, vI 0] 29) (fun b => pP b 0) hS fun b1 w1 hx1 hS1 => ?_
 refine gn hK1 ?_
 refine ws fun K2 hK2 => ?_
 rcases hq1 : tasks_Check.p0 l0 with _ | (_ | rr3)
 ·rw [hq1] at h; cases h
 ·rw [hq1] at h
  simp only [] at h
  refine we_keep (e' := [(0, .slice A0 l0.length c0), (2, pP b1 0)]) ea (tasks_Check_p0 K w0 l0 A0 c0 hR0 hL0 b1 _ hq1 _ hS1 _ ?_)
  rintro _ a w4 ⟨rfl, hS8, hF⟩
  replace hS8 : St w0 w4 [Own.blk b1 (.cells #[vI 0, vI 0] 29 (0, 0))] := hS8
  refine hK2 [(0, .slice A0 l0.length c0), (2, pP b1 0)] w4 ?_ a hF
  refine ws fun K6 hK6 => ?_
  refine ws fun K7 hK7 => ?_
  refine wr [(0, 0), (1, 0), (2, 0)] ?_
  refine gb0 [0, 1, 2] [(20, vI 0), (19, vI (l0.length : Int)), (18, .slice A0 l0.length c0)] ?_
  refine gn hK7 ?_
  refine we_block ?_
  rcases hq7 : iter (tasks_Check.r1 K l0) K 0 with _ | (_ | rr2)
  ·rw [hq7] at h; cases h
  ·rw [hq7] at h
   simp only [] at h
   refine we_iter (A := tasks_Check.A1 w0 l0 A0 c0 b1) (B := tasks_Check.B1 w0 b1) hq7 (fun a hF => ⟨hS8, hF.weaken ea⟩) (fun s o hf a w hA Q hQ => tasks_Check_r1 K w0 l0 A0 c0 hR0 hL0 b1 s o hf a w hA Q hQ) ?_
   rintro _ a w17 _ ⟨rfl, hS51, hF⟩
   replace hS51 : St w0 w17 [Own.blk b1 (.cells #[vI 0, vI 0] 29 (0, 0))] := hS51
   refine hK6 [(2, pP b1 0)] w17 ?_ a hF
   refine ws fun K30 hK30 => ?_
   refine wr [(0, 0), (1, 2)] ?_
   refine gb0 [0] [(70, .agg #[vI 0, vI 0])] ?_
   refine gs b1 0 #[vI 0, vI 0] 29 [vI 0, vI 0] hS51 fun w18 hS52 => ?_
   have hS53 : St w0 w18 [Own.blk b1 (.cells #[vI 0, vI 0] 29 (0, 0))] := hS52
   refine gn hK30 ?_
   have hS54 := hS53.takeN 0
   obtain rfl := si h
   exact we_ret (pr [.cell 2 29] [.agg #[vI 0, vI 0]] [.loaded ⟨b1, 0, none⟩ (vI 0), .loaded ⟨b1, 1, none⟩ (vI 0)] ⟨hS53.c 0, hS53.c 0, trivial⟩ ⟨rfl, hS54⟩)
  ·rw [hq7] at h
   simp only [] at h
   refine we_iter (A := tasks_Check.A1 w0 l0 A0 c0 b1) (B := tasks_Check.B1 w0 b1) hq7 (fun a hF => ⟨hS8, hF.weaken ea⟩) (fun s o hf a w hA Q hQ => tasks_Check_r1 K w0 l0 A0 c0 hR0 hL0 b1 s o hf a w hA Q hQ) ?_
   rintro _ a w1 _ ⟨rfl, hb⟩
   obtain rfl := si h
   exact hb
 ·rw [hq1] at h
  simp only [] at h
  refine we_keep (e' := [(0, .slice A0 l0.length c0), (2, pP b1 0)]) ea (tasks_Check_p0 K w0 l0 A0 c0 hR0 hL0 b1 _ hq1 _ hS1 _ ?_)
  rintro _ a w1 ⟨_, rfl, hb⟩
  obtain rfl := si h
  exact hb

/-! punctual/fixed.check -/
abbrev fixed_check.Post (w0 : World) (r : SFault) (e : Ending) (w : World) : Prop := e = .returned (.agg #[vI r.Code, vI r.At]) ∧ St w0 w []
def fixed_check.r0 (l0 : List STask) : Nat → Option (Nat ⊕ (Unit ⊕ SFault))
 | i1 =>
  if (i1 : Int) < (l0.length : Int) then
   match l0[i1]? with
   | none => none
   | some e1 =>
    if e1.D > e1.T then
     some (.inr (.inr (⟨12, (i1 : Int)⟩ : SFault)))
    else
     some (.inl (i1 + 1))
  else
   some (.inr (.inl ()))
def fixed_check.f (K : Nat) (l0 : List STask) : Option SFault :=
 match tasks_Check.f K l0 with
 | none => none
 | some r1 =>
  if r1.Code = 0 then
   match iter (fixed_check.r0 l0) K 0 with
   | none => none
   | some (.inl _) =>
    some (⟨0, 0⟩ : SFault)
   | some (.inr rr1) =>
    some rr1
  else
   some r1
abbrev fixed_check.A0 (w0 : World) (l0 : List STask) (A0 : Option Addr) (c0 : Nat) (b1 : Nat) : Nat → Act → World → Prop := fun (s : Nat) a w => St w0 w [Own.blk b1 (.cells #[vI 0, vI 0] 29 (0, 0))] ∧ Frm 28 a [(2, pP b1 0), (12, .slice A0 l0.length c0), (13, vI (l0.length : Int)), (14, vI (s : Int))]
abbrev fixed_check.B0 (w0 : World) (b1 : Nat) : (Unit ⊕ SFault) → Exit → Act → World → Prop := Exits 0 (fun (s : Unit) a w => St w0 w [Own.blk b1 (.cells #[vI 0, vI 0] 29 (0, 0))] ∧ Frm 28 a [(2, pP b1 0)]) (Rets Try.prog Try.f26 (fixed_check.Post w0))
theorem fixed_check_r0 (K : Nat) (w0 : World) (l0 : List STask) (A0 : Option Addr) (c0 : Nat) (hR0 : RdL w0 A0 l0) (hL0 : l0.length ≤ c0) (b1 : Nat) (r1 : SFault) (b2 : Nat) (hc1 : r1.Code = 0) (s : Nat) (o : Nat ⊕ (Unit ⊕ SFault)) (h : fixed_check.r0 l0 s = some o) (a : Act) (w : World) (hA : fixed_check.A0 w0 l0 A0 c0 b1 s a w) (Q : Exit → Act → World → Prop) (hQ : ∀ x a w, Outs (fixed_check.A0 w0 l0 A0 c0 b1) (fixed_check.B0 w0 b1) o x a w → Q x a w) : (subF Try.f26 [1, 1, 0, 1, 0, 0]).wp Try.prog Q a w := by
 obtain ⟨i1, hs⟩ : ∃ z, z = s := ⟨s, rfl⟩
 subst hs
 obtain ⟨hS, hF⟩ := hA
 replace hS : St w0 w [Own.blk b1 (.cells #[vI 0, vI 0] 29 (0, 0))] := hS
 simp only [fixed_check.r0] at h
 refine (?_ : WE Try.prog 28 (subF Try.f26 [1, 1, 0, 1, 0, 0]) Q [(2, pP b1 0), (12, .slice A0 l0.length c0), (13, vI (l0.length : Int)), (14, vI (i1 : Int))] w) a hF
 clear hF a
 refine ws fun K7 hK7 => ?_
 refine wr [(0, 0)] ?_
 refine gb0 [0] [(15, .bool (decide ((i1 : Int) < (l0.length : Int))))] ?_
 refine gn hK7 ?_
 refine ws fun K8 hK8 => ?_
 by_cases hc2 : (i1 : Int) < (l0.length : Int)
 ·rw [if_pos hc2] at h
  refine wk 15 (decide ((i1 : Int) < (l0.length : Int))) true (decide_eq_true hc2) ?_
  refine we_true (by kernel_rfl) ?_
  refine we_skip fun a hF => hK8 _ _ ?_ a hF
  refine ws fun K9 hK9 => ?_
  refine we_block ?_
  refine ws fun K10 hK10 => ?_
  refine wr [(0, 0), (1, 0), (2, 0), (3, 1), (4, 0), (5, 2)] ?_
  refine gb0 [0] [(16, vI (i1 : Int))] ?_
  rcases hx3 : l0[i1]? with _ | e1
  ·rw [hx3] at h; cases h
  rw [hx3] at h
  simp only [] at h
  refine gi 17 0 22 46 7 l0.length c0 (.tmp 12) (.tmp 14) A0 .i64 (i1 : Int) i1 ((hS.rd hR0).eqSome (pos_of_get hx3)) rfl (lt_of_get hx3) ?_
  refine gb [2] [(18, .agg #[.string e1.Name, vI e1.C, vI e1.T, vI e1.D, vI e1.J, vI e1.O, vI e1.P])] [.loaded ⟨blkOf A0, offOf A0 + i1 * 7, none⟩ (.string e1.Name), .loaded ⟨blkOf A0, offOf A0 + i1 * 7 + 1, none⟩ (vI e1.C), .loaded ⟨blkOf A0, offOf A0 + i1 * 7 + 2, none⟩ (vI e1.T), .loaded ⟨blkOf A0, offOf A0 + i1 * 7 + 3, none⟩ (vI e1.D), .loaded ⟨blkOf A0, offOf A0 + i1 * 7 + 4, none⟩ (vI e1.J), .loaded ⟨blkOf A0, offOf A0 + i1 * 7 + 5, none⟩ (vI e1.O), .loaded ⟨blkOf A0, offOf A0 + i1 * 7 + 6, none⟩ (vI e1.P)] ⟨RdL.cell (j := 0) (hS.rd hR0) hx3 rfl, RdL.cell (j := 1) (hS.rd hR0) hx3 rfl, RdL.cell (j := 2) (hS.rd hR0) hx3 rfl, RdL.cell (j := 3) (hS.rd hR0) hx3 rfl, RdL.cell (j := 4) (hS.rd hR0) hx3 rfl, RdL.cell (j := 5) (hS.rd hR0) hx3 rfl, RdL.cell (j := 6) (hS.rd hR0) hx3 rfl, trivial⟩ ?_
  refine gw (some 5) (.cells #[.string (⟨#[]⟩), vI 0, vI 0, vI 0, vI 0, vI 0, vI 0] 46) (fun b => pP b 0) hS fun b3 w5 hx4 hS9 => ?_
  refine gb0 [4] [(4, vI (i1 : Int))] ?_
  refine gs b3 0 #[.string (⟨#[]⟩), vI 0, vI 0, vI 0, vI 0, vI 0, vI 0] 46 [.string e1.Name, vI e1.C, vI e1.T, vI e1.D, vI e1.J, vI e1.O, vI e1.P] hS9 fun w6 hS10 => ?_
  have hS11 : St w0 w6 [Own.blk b3 (.cells #[.string e1.Name, vI e1.C, vI e1.T, vI e1.D, vI e1.J, vI e1.O, vI e1.P] 46 (0, 0)), Own.blk b1 (.cells #[vI 0, vI 0] 29 (0, 0))] := hS10
  refine gn hK10 ?_
  refine ws fun K11 hK11 => ?_
  refine wr [(0, 0), (1, 0), (2, 0), (3, 0), (4, 0)] ?_
  refine gb [0, 1, 2, 3, 4] [(23, .bool (decide (e1.D > e1.T))), (22, vI e1.T), (21, pP b3 2), (20, vI e1.D), (19, pP b3 3)] [.loaded ⟨b3, 3, none⟩ (vI e1.D), .loaded ⟨b3, 2, none⟩ (vI e1.T)] ⟨hS11.c 0, hS11.c 0, trivial⟩ ?_
  refine gn hK11 ?_
  by_cases hc3 : e1.D > e1.T
  ·rw [if_pos hc3] at h
   refine wk 23 (decide (e1.D > e1.T)) true (decide_eq_true hc3) ?_
   refine we_true (by kernel_rfl) ?_
   refine ws fun K12 hK12 => ?_
   refine wr [(0, 0), (1, 0), (2, 2)] ?_
   refine gb0 [0, 1] [(25, .agg #[vI 12, vI (i1 : Int)]), (24, vI (i1 : Int))] ?_
   have hS12 := hS11.bring 1 rfl
   refine gs b1 0 #[vI 0, vI 0] 29 [vI 12, vI (i1 : Int)] hS12 fun w7 hS13 => ?_
   have hS14 : St w0 w7 [Own.blk b1 (.cells #[vI 12, vI (i1 : Int)] 29 (0, 0)), Own.blk b3 (.cells #[.string e1.Name, vI e1.C, vI e1.T, vI e1.D, vI e1.J, vI e1.O, vI e1.P] 46 (0, 0))] := hS13
   refine gn hK12 ?_
   have hS15 := hS14.takeN 0
   obtain rfl := si h
   exact we_ret fun a hF => hQ _ _ _ (Outs.out nofun (Exits.on ⟨rfl, (pr [.cell 2 29] [.agg #[vI 12, vI (i1 : Int)]] [.loaded ⟨b1, 0, none⟩ (vI 12), .loaded ⟨b1, 1, none⟩ (vI (i1 : Int))] ⟨hS14.c 0, hS14.c 0, trivial⟩ ⟨rfl, hS15⟩) a hF⟩))
  ·rw [if_neg hc3] at h
   refine wk 23 (decide (e1.D > e1.T)) false (decide_eq_false hc3) ?_
   refine we_false (by kernel_rfl) ?_
   refine we_skip fun a hF => hK9 _ _ ?_ a hF
   refine wr [(0, 0), (1, 0)] ?_
   refine ge_addn (d := 26) (ty := 3) (x := (.tmp 14)) (y := (.const (vI 1))) (t := 3) (t2 := 3) (k := .i64) (m := i1) (by kernel_rfl) (by kernel_rfl) (by kernel_rfl) (by have h0 := hR0.small; omega) ?_
   refine gb0 [1] [(14, vI ((i1 + 1 : Nat) : Int))] ?_
   have hS16 := hS11.bring 1 rfl
   have hS17 := hS16.takeN 1
   obtain rfl := si h
   exact ge_nil fun a hF => hQ _ _ _ (Outs.again ⟨hS17, hF.weaken ea⟩)
 ·rw [if_neg hc2] at h
  refine wk 15 (decide ((i1 : Int) < (l0.length : Int))) false (decide_eq_false hc2) ?_
  refine we_false (by kernel_rfl) ?_
  obtain rfl := si h
  exact we_exit fun a hF => hQ _ _ _ (Outs.out nofun (Exits.here ⟨hS, hF.weaken ea⟩))
theorem fixed_check_ok (K : Nat) (l0 : List STask) (A0 : Option Addr) (c0 : Nat) (w0 : World) (hR0 : RdL w0 A0 l0) (hL0 : l0.length ≤ c0) (r : SFault) (h : fixed_check.f K l0 = some r) :
  Calls Try.prog 26 #[.slice A0 l0.length c0] w0 (fixed_check.Post w0 r) := by
 have hS := St.start w0
 unfold fixed_check.f at h
 refine calls_enter (n := 28) (args := [.slice A0 l0.length c0]) (fn := Try.f26) rfl rfl rfl rfl ?_
 show WE _ _ _ _ [(0, .slice A0 l0.length c0)] _
 refine ws fun K1 hK1 => ?_
 refine wr [(0, 1)] ?_
 refine gw (some 2) (.cells #[vI 0, vI 0] 29) (fun b => pP b 0) hS fun b1 w1 hx1 hS1 => ?_
 refine gn hK1 ?_
 refine ws fun K2 hK2 => ?_
 refine ws fun K3 hK3 => ?_
 refine wr [(0, 0), (1, 1), (2, 1), (3, 2)] ?_
 rcases hq1 : tasks_Check.f K l0 with _ | r1
 ·rw [hq1] at h; cases h
 rw [hq1] at h
 simp only [] at h
 refine gb0 [0] [(6, .slice A0 l0.length c0)] ?_
 refine ge_call (d := some 7) (f := 35) (args := #[.slice A0 l0.length c0]) (by kernel_rfl) (tasks_Check_ok K l0 A0 c0 _ (hS1.rd hR0) hL0 _ hq1) ?_
 rintro _ w2 ⟨rfl, hS2⟩
 refine ⟨_, rfl, hS2.below, ?_⟩
 have hS3 := hS1.call hS2
 refine gw (some 3) (.cells #[vI 0, vI 0] 29) (fun b => pP b 0) hS3 fun b2 w3 hx2 hS4 => ?_
 refine gs b2 0 #[vI 0, vI 0] 29 [vI r1.Code, vI r1.At] hS4 fun w4 hS5 => ?_
 have hS6 : St w0 w4 [Own.blk b2 (.cells #[vI r1.Code, vI r1.At] 29 (0, 0)), Own.blk b1 (.cells #[vI 0, vI 0] 29 (0, 0))] := hS5
 refine gn hK3 ?_
 refine ws fun K4 hK4 => ?_
 refine wr [(0, 0), (1, 0), (2, 0)] ?_
 refine gb [0, 1, 2] [(10, .bool (r1.Code != 0)), (9, vI r1.Code), (8, pP b2 0)] [.loaded ⟨b2, 0, none⟩ (vI r1.Code)] ⟨hS6.c 0, trivial⟩ ?_
 refine gn hK4 ?_
 by_cases hc1 : r1.Code = 0
 ·rw [if_pos hc1] at h
  refine wk 10 (r1.Code != 0) false (bne_eq_false_iff_eq.2 hc1) ?_
  refine we_false (by kernel_rfl) ?_
  refine we_skip fun a hF => hK2 _ _ ?_ a hF
  refine ws fun K5 hK5 => ?_
  refine ws fun K6 hK6 => ?_
  refine wr [(0, 0), (1, 0), (2, 0)] ?_
  refine gb0 [0, 1, 2] [(14, vI 0), (13, vI (l0.length : Int)), (12, .slice A0 l0.length c0)] ?_
  refine gn hK6 ?_
  refine we_block ?_
  have hS7 := hS6.bring 1 rfl
  have hS8 := hS7.takeN 1
  rcases hq2 : iter (fixed_check.r0 l0) K 0 with _ | (_ | rr1)
  ·rw [hq2] at h; cases h
  ·rw [hq2] at h
   simp only [] at h
   refine we_iter (A := fixed_check.A0 w0 l0 A0 c0 b1) (B := fixed_check.B0 w0 b1) hq2 (fun a hF => ⟨hS8, hF.weaken ea⟩) (fun s o hf a w hA Q hQ => fixed_check_r0 K w0 l0 A0 c0 hR0 hL0 b1 r1 b2 hc1 s o hf a w hA Q hQ) ?_
   rintro _ a w8 _ ⟨rfl, hS18, hF⟩
   replace hS18 : St w0 w8 [Own.blk b1 (.cells #[vI 0, vI 0] 29 (0, 0))] := hS18
   refine hK5 [(2, pP b1 0)] w8 ?_ a hF
   refine ws fun K13 hK13 => ?_
   refine wr [(0, 0), (1, 2)] ?_
   refine gb0 [0] [(27, .agg #[vI 0, vI 0])] ?_
   refine gs b1 0 #[vI 0, vI 0] 29 [vI 0, vI 0] hS18 fun w9 hS19 => ?_
   have hS20 : St w0 w9 [Own.blk b1 (.cells #[vI 0, vI 0] 29 (0, 0))] := hS19
   refine gn hK13 ?_
   have hS21 := hS20.takeN 0
   obtain rfl := si h
   exact we_ret (pr [.cell 2 29] [.agg #[vI 0, vI 0]] [.loaded ⟨b1, 0, none⟩ (vI 0), .loaded ⟨b1, 1, none⟩ (vI 0)] ⟨hS20.c 0, hS20.c 0, trivial⟩ ⟨rfl, hS21⟩)
  ·rw [hq2] at h
   simp only [] at h
   refine we_iter (A := fixed_check.A0 w0 l0 A0 c0 b1) (B := fixed_check.B0 w0 b1) hq2 (fun a hF => ⟨hS8, hF.weaken ea⟩) (fun s o hf a w hA Q hQ => fixed_check_r0 K w0 l0 A0 c0 hR0 hL0 b1 r1 b2 hc1 s o hf a w hA Q hQ) ?_
   rintro _ a w1 _ ⟨rfl, hb⟩
   obtain rfl := si h
   exact hb
 ·rw [if_neg hc1] at h
  refine wk 10 (r1.Code != 0) true (bne_iff_ne.2 hc1) ?_
  refine we_true (by kernel_rfl) ?_
  refine ws fun K14 hK14 => ?_
  refine wr [(0, 0), (1, 2)] ?_
  refine gb [0] [(11, .agg #[vI r1.Code, vI r1.At])] [.loaded ⟨b2, 0, none⟩ (vI r1.Code), .loaded ⟨b2, 1, none⟩ (vI r1.At)] ⟨hS6.c 0, hS6.c 0, trivial⟩ ?_
  have hS22 := hS6.bring 1 rfl
  refine gs b1 0 #[vI 0, vI 0] 29 [vI r1.Code, vI r1.At] hS22 fun w10 hS23 => ?_
  have hS24 : St w0 w10 [Own.blk b1 (.cells #[vI r1.Code, vI r1.At] 29 (0, 0)), Own.blk b2 (.cells #[vI r1.Code, vI r1.At] 29 (0, 0))] := hS23
  refine gn hK14 ?_
  have hS25 := hS24.takeN 0
  obtain rfl := si h
  exact we_ret (pr [.cell 2 29] [.agg #[vI r1.Code, vI r1.At]] [.loaded ⟨b1, 0, none⟩ (vI r1.Code), .loaded ⟨b1, 1, none⟩ (vI r1.At)] ⟨hS24.c 0, hS24.c 0, trivial⟩ ⟨rfl, hS25⟩)

/-! punctual/fixed.above -/
abbrev fixed_above.Post (w0 : World) (r : List STask) (e : Ending) (w : World) : Prop := ∃ (v0 : Value), e = .returned (v0) ∧ St w0 w [Own.of v0 46 r]
def fixed_above.r0 (l0 : List STask) (x1 : Int) : (List STask) × Nat → Option (((List STask) × Nat) ⊕ ((List STask) ⊕ (List STask)))
 | (m1, i1) =>
  if (i1 : Int) < (l0.length : Int) then
   match l0[i1]? with
   | none => none
   | some e1 =>
    if (i1 : Int) = x1 then
     some (.inl (m1, (i1 + 1)))
    else
     if 0 ≤ x1 then
      match l0[(x1).toNat]? with
      | none => none
      | some e2 =>
       if e1.P ≥ e2.P then
        if m1.length < 2199023255552 then
         some (.inl ((m1 ++ [e1]), (i1 + 1)))
        else
         none
       else
        some (.inl (m1, (i1 + 1)))
     else
      none
  else
   some (.inr (.inl m1))
def fixed_above.f (K : Nat) (l0 : List STask) (x1 : Int) : Option (List STask) :=
 match iter (fixed_above.r0 l0 x1) K (([] : List STask), 0) with
 | none => none
 | some (.inl m3) =>
  some m3
 | some (.inr rr1) =>
  some rr1
abbrev fixed_above.A0 (w0 : World) (l0 : List STask) (A0 : Option Addr) (c0 : Nat) (x1 : Int) : ((List STask) × Nat) → Act → World → Prop := fun (s : (List STask) × Nat) a w => ∃ (v1 : Value), St w0 w [Own.of v1 46 s.1] ∧ Frm 34 a [(0, .slice A0 l0.length c0), (1, vI x1), (5, v1), (8, .slice A0 l0.length c0), (9, vI (l0.length : Int)), (10, vI (s.2 : Int))]
abbrev fixed_above.B0 (w0 : World) : ((List STask) ⊕ (List STask)) → Exit → Act → World → Prop := Exits 0 (fun (s : (List STask)) a w => ∃ (v2 : Value), St w0 w [Own.of v2 46 s] ∧ Frm 34 a [(5, v2)]) (Rets Try.prog Try.f43 (fixed_above.Post w0))
theorem fixed_above_r0 (K : Nat) (w0 : World) (l0 : List STask) (A0 : Option Addr) (c0 : Nat) (x1 : Int) (hR0 : RdL w0 A0 l0) (hL0 : l0.length ≤ c0) (s : (List STask) × Nat) (o : ((List STask) × Nat) ⊕ ((List STask) ⊕ (List STask))) (h : fixed_above.r0 l0 x1 s = some o) (a : Act) (w : World) (hA : fixed_above.A0 w0 l0 A0 c0 x1 s a w) (Q : Exit → Act → World → Prop) (hQ : ∀ x a w, Outs (fixed_above.A0 w0 l0 A0 c0 x1) (fixed_above.B0 w0) o x a w → Q x a w) : (subF Try.f43 [1, 1, 0, 1, 0, 0]).wp Try.prog Q a w := by
 obtain ⟨m1, i1⟩ := s
 obtain ⟨v1, hS, hF⟩ := hA
 replace hS : St w0 w [Own.of v1 46 m1] := hS
 simp only [fixed_above.r0] at h
 refine (?_ : WE Try.prog 34 (subF Try.f43 [1, 1, 0, 1, 0, 0]) Q [(0, .slice A0 l0.length c0), (1, vI x1), (5, v1), (8, .slice A0 l0.length c0), (9, vI (l0.length : Int)), (10, vI (i1 : Int))] w) a hF
 clear hF a
 refine ws fun K5 hK5 => ?_
 refine wr [(0, 0)] ?_
 refine gb0 [0] [(11, .bool (decide ((i1 : Int) < (l0.length : Int))))] ?_
 refine gn hK5 ?_
 refine ws fun K6 hK6 => ?_
 by_cases hc1 : (i1 : Int) < (l0.length : Int)
 ·rw [if_pos hc1] at h
  refine wk 11 (decide ((i1 : Int) < (l0.length : Int))) true (decide_eq_true hc1) ?_
  refine we_true (by kernel_rfl) ?_
  refine we_skip fun a hF => hK6 _ _ ?_ a hF
  refine ws fun K7 hK7 => ?_
  refine we_block ?_
  refine ws fun K8 hK8 => ?_
  refine wr [(0, 0), (1, 0), (2, 0), (3, 1), (4, 0), (5, 2)] ?_
  refine gb0 [0] [(12, vI (i1 : Int))] ?_
  rcases hx1 : l0[i1]? with _ | e1
  ·rw [hx1] at h; cases h
  rw [hx1] at h
  simp only [] at h
  refine gi 13 0 22 46 7 l0.length c0 (.tmp 8) (.tmp 10) A0 .i64 (i1 : Int) i1 ((hS.rd hR0).eqSome (pos_of_get hx1)) rfl (lt_of_get hx1) ?_
  refine gb [2] [(14, .agg #[.string e1.Name, vI e1.C, vI e1.T, vI e1.D, vI e1.J, vI e1.O, vI e1.P])] [.loaded ⟨blkOf A0, offOf A0 + i1 * 7, none⟩ (.string e1.Name), .loaded ⟨blkOf A0, offOf A0 + i1 * 7 + 1, none⟩ (vI e1.C), .loaded ⟨blkOf A0, offOf A0 + i1 * 7 + 2, none⟩ (vI e1.T), .loaded ⟨blkOf A0, offOf A0 + i1 * 7 + 3, none⟩ (vI e1.D), .loaded ⟨blkOf A0, offOf A0 + i1 * 7 + 4, none⟩ (vI e1.J), .loaded ⟨blkOf A0, offOf A0 + i1 * 7 + 5, none⟩ (vI e1.O), .loaded ⟨blkOf A0, offOf A0 + i1 * 7 + 6, none⟩ (vI e1.P)] ⟨RdL.cell (j := 0) (hS.rd hR0) hx1 rfl, RdL.cell (j := 1) (hS.rd hR0) hx1 rfl, RdL.cell (j := 2) (hS.rd hR0) hx1 rfl, RdL.cell (j := 3) (hS.rd hR0) hx1 rfl, RdL.cell (j := 4) (hS.rd hR0) hx1 rfl, RdL.cell (j := 5) (hS.rd hR0) hx1 rfl, RdL.cell (j := 6) (hS.rd hR0) hx1 rfl, trivial⟩ ?_
  refine gw (some 7) (.cells #[.string (⟨#[]⟩), vI 0, vI 0, vI 0, vI 0, vI 0, vI 0] 46) (fun b => pP b 0) hS fun b1 w1 hx2 hS2 => ?_
  refine gb0 [4] [(6, vI (i1 : Int))] ?_
  refine gs b1 0 #[.string (⟨#[]⟩), vI 0, vI 0, vI 0, vI 0, vI 0, vI 0] 46 [.string e1.Name, vI e1.C, vI e1.T, vI e1.D, vI e1.J, vI e1.O, vI e1.P] hS2 fun w2 hS3 => ?_
  have hS4 : St w0 w2 [Own.blk b1 (.cells #[.string e1.Name, vI e1.C, vI e1.T, vI e1.D, vI e1.J, vI e1.O, vI e1.P] 46 (0, 0)), Own.of v1 46 m1] := hS3
  refine gn hK8 ?_
  refine ws fun K9 hK9 => ?_
  refine we_draws (by kernel_rfl) [(0, 0), (1, 0), (2, 0), (3, 0), (4, 0), (5, 0), (6, 0), (7, 0), (8, 0), (9, 0), (10, 0), (11, 0), (12, 0)] (by kernel_rfl) ?_
  have hS5 := hS4.drew
  refine gb0 [0, 1, 2, 3] [(18, .bool ((i1 : Int) != x1)), (17, .bool ((i1 : Int) != x1)), (16, vI x1), (15, vI (i1 : Int))] ?_
  by_cases hc2 : (i1 : Int) = x1
  ·rw [if_pos hc2] at h
   refine gk 18 ((i1 : Int) != x1) false (bne_eq_false_iff_eq.2 hc2) ?_
   refine gb0 [4, 5, 6, 7, 8, 9, 10, 11, 12] [(27, .bool false), (26, undef), (25, undef), (24, undef), (23, undef), (22, undef), (21, undef), (20, undef), (19, undef)] ?_
   refine gn hK9 ?_
   refine we_false (by kernel_rfl) ?_
   refine we_skip fun a hF => hK7 _ _ ?_ a hF
   refine wr [(0, 0), (1, 0)] ?_
   refine ge_addn (d := 32) (ty := 3) (x := (.tmp 10)) (y := (.const (vI 1))) (t := 3) (t2 := 3) (k := .i64) (m := i1) (by kernel_rfl) (by kernel_rfl) (by kernel_rfl) (by have h0 := hR0.small; omega) ?_
   refine gb0 [1] [(10, vI ((i1 + 1 : Nat) : Int))] ?_
   have hS6 := hS5.bring 1 rfl
   have hS7 := hS6.takeN 1
   obtain rfl := si h
   exact ge_nil fun a hF => hQ _ _ _ (Outs.again ⟨v1, hS7, hF.weaken ea⟩)
  ·rw [if_neg hc2] at h
   refine gk 18 ((i1 : Int) != x1) true (bne_iff_ne.2 hc2) ?_
   refine gb [4, 5, 6, 7] [(22, vI x1), (21, .slice A0 l0.length c0), (20, vI e1.P), (19, pP b1 6)] [.loaded ⟨b1, 6, none⟩ (vI e1.P)] ⟨hS5.c 0, trivial⟩ ?_
   by_cases hc3 : 0 ≤ x1
   ·rw [if_pos hc3] at h
    rcases hx3 : l0[(x1).toNat]? with _ | e2
    ·rw [hx3] at h; cases h
    rw [hx3] at h
    simp only [] at h
    refine gi 23 0 22 46 7 l0.length c0 (.tmp 21) (.tmp 22) A0 .i64 x1 ((x1).toNat) ((hS5.rd hR0).eqSome (pos_of_get hx3)) (Int.toNat_of_nonneg hc3).symm (lt_of_get hx3) ?_
    refine gb [9, 10, 11, 12] [(27, .bool (decide (e1.P ≥ e2.P))), (26, .bool (decide (e1.P ≥ e2.P))), (25, vI e2.P), (24, .pointer (some ⟨blkOf A0, offOf A0 + (x1).toNat * 7 + 6, none⟩))] [.loaded ⟨blkOf A0, offOf A0 + ((x1).toNat) * 7 + 6, none⟩ (vI e2.P)] ⟨RdL.cell (j := 6) (hS5.rd hR0) hx3 rfl, trivial⟩ ?_
    refine gn hK9 ?_
    by_cases hc4 : e1.P ≥ e2.P
    ·rw [if_pos hc4] at h
     refine wk 27 (decide (e1.P ≥ e2.P)) true (decide_eq_true hc4) ?_
     refine we_true (by kernel_rfl) ?_
     refine wr [(0, 0), (1, 0), (2, 1), (3, 2), (4, 0)] ?_
     refine gb [0, 1] [(29, .agg #[.string e1.Name, vI e1.C, vI e1.T, vI e1.D, vI e1.J, vI e1.O, vI e1.P]), (28, v1)] [.loaded ⟨b1, 0, none⟩ (.string e1.Name), .loaded ⟨b1, 1, none⟩ (vI e1.C), .loaded ⟨b1, 2, none⟩ (vI e1.T), .loaded ⟨b1, 3, none⟩ (vI e1.D), .loaded ⟨b1, 4, none⟩ (vI e1.J), .loaded ⟨b1, 5, none⟩ (vI e1.O), .loaded ⟨b1, 6, none⟩ (vI e1.P)] ⟨hS5.c 0, hS5.c 0, hS5.c 0, hS5.c 0, hS5.c 0, hS5.c 0, hS5.c 0, trivial⟩ ?_
     refine gw (some 30) (.cells #[.string e1.Name, vI e1.C, vI e1.T, vI e1.D, vI e1.J, vI e1.O, vI e1.P] 46) (fun b => .slice (some ⟨b, 0, none⟩) 1 1) hS5 fun b2 w3 hx4 hS8 => ?_
     have hS9 := hS8.bring 2 rfl
     by_cases hc5 : m1.length < 2199023255552
     ·rw [if_pos hc5] at h
      refine ge_append (α := STask) (m := 0) (d := 31) (t := 22) (el := 46) (bytes := 64) (c1 := 1) (b1 := b2) (x := (.tmp 28)) (y := (.tmp 30)) (ty := 22) (v := v1) (z := .agg #[.string (⟨#[]⟩), vI 0, vI 0, vI 0, vI 0, vI 0, vI 0]) (l := m1) (u := e1) (by kernel_rfl) (by kernel_rfl) (by kernel_rfl) (by kernel_rfl) (by kernel_rfl) rfl hS9 rfl (by omega) fun v3 w4 hS10 => ?_
      refine gb0 [4] [(5, v3)] ?_
      refine gn hK7 ?_
      refine wr [(0, 0), (1, 0)] ?_
      refine ge_addn (d := 32) (ty := 3) (x := (.tmp 10)) (y := (.const (vI 1))) (t := 3) (t2 := 3) (k := .i64) (m := i1) (by kernel_rfl) (by kernel_rfl) (by kernel_rfl) (by have h0 := hR0.small; omega) ?_
      refine gb0 [1] [(10, vI ((i1 + 1 : Nat) : Int))] ?_
      have hS11 := hS10.takeN 1
      obtain rfl := si h
      exact ge_nil fun a hF => hQ _ _ _ (Outs.again ⟨v3, hS11, hF.weaken ea⟩)
     ·rw [if_neg hc5] at h
      cases h
    ·rw [if_neg hc4] at h
     refine wk 27 (decide (e1.P ≥ e2.P)) false (decide_eq_false hc4) ?_
     refine we_false (by kernel_rfl) ?_
     refine we_skip fun a hF => hK7 _ _ ?_ a hF
     refine wr [(0, 0), (1, 0)] ?_
     refine ge_addn (d := 32) (ty := 3) (x := (.tmp 10)) (y := (.const (vI 1))) (t := 3) (t2 := 3) (k := .i64) (m := i1) (by kernel_rfl) (by kernel_rfl) (by kernel_rfl) (by have h0 := hR0.small; omega) ?_
     refine gb0 [1] [(10, vI ((i1 + 1 : Nat) : Int))] ?_
     have hS12 := hS5.bring 1 rfl
     have hS13 := hS12.takeN 1
     obtain rfl := si h
     exact ge_nil fun a hF => hQ _ _ _ (Outs.again ⟨v1, hS13, hF.weaken ea⟩)
   ·rw [if_neg hc3] at h
    cases h
 ·rw [if_neg hc1] at h
  refine wk 11 (decide ((i1 : Int) < (l0.length : Int))) false (decide_eq_false hc1) ?_
  refine we_false (by kernel_rfl) ?_
  obtain rfl := si h
  exact we_exit fun a hF => hQ _ _ _ (Outs.out nofun (Exits.here ⟨v1, hS, hF.weaken ea⟩))
theorem fixed_above_ok (K : Nat) (l0 : List STask) (A0 : Option Addr) (c0 : Nat) (x1 : Int) (w0 : World) (hR0 : RdL w0 A0 l0) (hL0 : l0.length ≤ c0) (r : List STask) (h : fixed_above.f K l0 x1 = some r) :
  Calls Try.prog 43 #[.slice A0 l0.length c0, vI x1] w0 (fixed_above.Post w0 r) := by
 have hS := St.start w0
 unfold fixed_above.f at h
 refine calls_enter (n := 34) (args := [.slice A0 l0.length c0, vI x1]) (fn := Try.f43) rfl rfl rfl rfl ?_
 show WE _ _ _ _ [(0, .slice A0 l0.length c0), (1, vI x1)] _
 refine ws fun K1 hK1 => ?_
 refine wr [(0, 0)] ?_
 refine gb0 [0] [(4, .slice none 0 0)] ?_
 refine gn hK1 ?_
 refine ws fun K2 hK2 => ?_
 refine wr [(0, 0)] ?_
 refine gb0 [0] [(5, .slice none 0 0)] ?_
 refine gn hK2 ?_
 refine ws fun K3 hK3 => ?_
 refine ws fun K4 hK4 => ?_
 refine wr [(0, 0), (1, 0), (2, 0)] ?_
 refine gb0 [0, 1, 2] [(10, vI 0), (9, vI (l0.length : Int)), (8, .slice A0 l0.length c0)] ?_
 refine gn hK4 ?_
 refine we_block ?_
 have hS1 := hS.nil (α := STask) 46
 rcases hq1 : iter (fixed_above.r0 l0 x1) K (([] : List STask), 0) with _ | (m3 | rr1)
 ·rw [hq1] at h; cases h
 ·rw [hq1] at h
  simp only [] at h
  refine we_iter (A := fixed_above.A0 w0 l0 A0 c0 x1) (B := fixed_above.B0 w0) hq1 (fun a hF => ⟨(.slice none 0 0), hS1, hF.weaken ea⟩) (fun s o hf a w hA Q hQ => fixed_above_r0 K w0 l0 A0 c0 x1 hR0 hL0 s o hf a w hA Q hQ) ?_
  rintro _ a w5 _ ⟨rfl, v4, hS14, hF⟩
  replace hS14 : St w0 w5 [Own.of v4 46 m3] := hS14
  refine hK3 [(5, v4)] w5 ?_ a hF
  refine ws fun K10 hK10 => ?_
  refine wr [(0, 0), (1, 0)] ?_
  refine gb0 [0, 1] [(4, v4), (33, v4)] ?_
  refine gn hK10 ?_
  obtain rfl := si h
  exact we_ret (pr0 [.tmp 4] [v4] ⟨v4, rfl, hS14⟩)
 ·rw [hq1] at h
  simp only [] at h
  refine we_iter (A := fixed_above.A0 w0 l0 A0 c0 x1) (B := fixed_above.B0 w0) hq1 (fun a hF => ⟨(.slice none 0 0), hS1, hF.weaken ea⟩) (fun s o hf a w hA Q hQ => fixed_above_r0 K w0 l0 A0 c0 x1 hR0 hL0 s o hf a w hA Q hQ) ?_
  rintro _ a w1 _ ⟨rfl, hb⟩
  obtain rfl := si h
  exact hb

/-! punctual/fixed.ceil -/
abbrev fixed_ceil.Post (w0 : World) (r : Int) (e : Ending) (w : World) : Prop := e = .returned (vI r) ∧ St w0 w []
def fixed_ceil.f (x0 : Int) (x1 : Int) : Option Int :=
 if x1 = 0 then
  none
 else
  some (IntKind.i64.wrap (Int.tdiv (IntKind.i64.wrap ((IntKind.i64.wrap (x0 + x1)) - 1)) x1))
theorem fixed_ceil_ok (x0 : Int) (x1 : Int) (w0 : World) (r : Int) (h : fixed_ceil.f x0 x1 = some r) :
  Calls Try.prog 52 #[vI x0, vI x1] w0 (fixed_ceil.Post w0 r) := by
 have hS := St.start w0
 unfold fixed_ceil.f at h
 refine calls_enter (n := 11) (args := [vI x0, vI x1]) (fn := Try.f52) rfl rfl rfl rfl ?_
 show WE _ _ _ _ [(0, vI x0), (1, vI x1)] _
 refine ws fun K1 hK1 => ?_
 refine wr [(0, 0)] ?_
 refine gb0 [0] [(4, vI 0)] ?_
 refine gn hK1 ?_
 refine ws fun K2 hK2 => ?_
 refine wr [(0, 0), (1, 0), (2, 0), (3, 0), (4, 0), (5, 0), (6, 0)] ?_
 refine gb0 [0, 1, 2, 3, 4] [(9, vI x1), (8, vI (IntKind.i64.wrap ((IntKind.i64.wrap (x0 + x1)) - 1))), (7, vI (IntKind.i64.wrap (x0 + x1))), (6, vI x1), (5, vI x0)] ?_
 by_cases hc1 : x1 = 0
 ·rw [if_pos hc1] at h
  cases h
 ·rw [if_neg hc1] at h
  refine ge_div (d := 10) (ty := 3) (op := .quo) (x := (.tmp 8)) (y := (.tmp 9)) (t := 3) (t2 := 3) (k := .i64) (p := (IntKind.i64.wrap ((IntKind.i64.wrap (x0 + x1)) - 1))) (q := x1) (v := vI (IntKind.i64.wrap (Int.tdiv (IntKind.i64.wrap ((IntKind.i64.wrap (x0 + x1)) - 1)) x1))) (by kernel_rfl) (by kernel_rfl) (by kernel_rfl) hc1 rfl ?_
  refine gb0 [6] [(4, vI (IntKind.i64.wrap (Int.tdiv (IntKind.i64.wrap ((IntKind.i64.wrap (x0 + x1)) - 1)) x1)))] ?_
  refine gn hK2 ?_
  obtain rfl := si h
  exact we_ret (pr0 [.tmp 4] [vI (IntKind.i64.wrap (Int.tdiv (IntKind.i64.wrap ((IntKind.i64.wrap (x0 + x1)) - 1)) x1))] ⟨rfl, hS⟩)

/-! punctual/fixed.response$1 -/
abbrev fixed_response_1.Post (w0 : World) (r : Int) (e : Ending) (w : World) : Prop := e = .returned (vI r) ∧ St w0 w []
def fixed_response_1.r0 (x0 : Int) (lf_2 : List STask) : Int × Nat → Option ((Int × Nat) ⊕ (Int ⊕ Int))
 | (z1, i1) =>
  if (i1 : Int) < (lf_2.length : Int) then
   match lf_2[i1]? with
   | none => none
   | some e1 =>
    match fixed_ceil.f (IntKind.i64.wrap (x0 + e1.J)) e1.T with
    | none => none
    | some r1 =>
     some (.inl (IntKind.i64.wrap (z1 + (IntKind.i64.wrap (r1 * e1.C))), (i1 + 1)))
  else
   some (.inr (.inl z1))
def fixed_response_1.f (K : Nat) (x0 : Int) (xf_0 : STask) (xf_1 : Int) (lf_2 : List STask) : Option Int :=
 match iter (fixed_response_1.r0 x0 lf_2) K (IntKind.i64.wrap (xf_0.C + xf_1), 0) with
 | none => none
 | some (.inl z3) =>
  some z3
 | some (.inr rr1) =>
  some rr1
abbrev fixed_response_1.A0 (w0 : World) (x0 : Int) (lf_2 : List STask) (Af_2 : Option Addr) (cf_2 : Nat) : (Int × Nat) → Act → World → Prop := fun (s : Int × Nat) a w => St w0 w [] ∧ Frm 33 a [(0, vI x0), (6, vI s.1), (13, .slice Af_2 lf_2.length cf_2), (14, vI (lf_2.length : Int)), (15, vI (s.2 : Int))]
abbrev fixed_response_1.B0 (w0 : World) : (Int ⊕ Int) → Exit → Act → World → Prop := Exits 0 (fun (s : Int) a w => St w0 w [] ∧ Frm 33 a [(6, vI s)]) (Rets Try.prog Try.f51 (fixed_response_1.Post w0))
theorem fixed_response_1_r0 (K : Nat) (w0 : World) (x0 : Int) (bf_0 : Nat) (xf_0 : STask) (bf_1 : Nat) (xf_1 : Int) (bf_2 : Nat) (lf_2 : List STask) (Af_2 : Option Addr) (cf_2 : Nat) (hBf_0 : Glob w0 bf_0 [.string xf_0.Name, vI xf_0.C, vI xf_0.T, vI xf_0.D, vI xf_0.J, vI xf_0.O, vI xf_0.P]) (hBf_1 : Glob w0 bf_1 [vI xf_1]) (hRf_2 : RdL w0 Af_2 lf_2) (hLf_2 : lf_2.length ≤ cf_2) (hBf_2 : Glob w0 bf_2 [.slice Af_2 lf_2.length cf_2]) (s : Int × Nat) (o : (Int × Nat) ⊕ (Int ⊕ Int)) (h : fixed_response_1.r0 x0 lf_2 s = some o) (a : Act) (w : World) (hA : fixed_response_1.A0 w0 x0 lf_2 Af_2 cf_2 s a w) (Q : Exit → Act → World → Prop) (hQ : ∀ x a w, Outs (fixed_response_1.A0 w0 x0 lf_2 Af_2 cf_2) (fixed_response_1.B0 w0) o x a w → Q x a w) : (subF Try.f51 [1, 1, 0, 1, 0, 0]).wp Try.prog Q a w := by
 obtain ⟨z1, i1⟩ := s
 obtain ⟨hS, hF⟩ := hA
 replace hS : St w0 w [] := hS
 simp only [fixed_response_1.r0] at h
 refine (?_ : WE Try.prog 33 (subF Try.f51 [1, 1, 0, 1, 0, 0]) Q [(0, vI x0), (6, vI z1), (13, .slice Af_2 lf_2.length cf_2), (14, vI (lf_2.length : Int)), (15, vI (i1 : Int))] w) a hF
 clear hF a
 refine ws fun K5 hK5 => ?_
 refine wr [(0, 0)] ?_
 refine gb0 [0] [(16, .bool (decide ((i1 : Int) < (lf_2.length : Int))))] ?_
 refine gn hK5 ?_
 refine ws fun K6 hK6 => ?_
 by_cases hc1 : (i1 : Int) < (lf_2.length : Int)
 ·rw [if_pos hc1] at h
  refine wk 16 (decide ((i1 : Int) < (lf_2.length : Int))) true (decide_eq_true hc1) ?_
  refine we_true (by kernel_rfl) ?_
  refine we_skip fun a hF => hK6 _ _ ?_ a hF
  refine ws fun K7 hK7 => ?_
  refine we_block ?_
  refine ws fun K8 hK8 => ?_
  refine wr [(0, 0), (1, 0), (2, 1), (3, 2)] ?_
  rcases hx1 : lf_2[i1]? with _ | e1
  ·rw [hx1] at h; cases h
  rw [hx1] at h
  simp only [] at h
  refine gi 17 0 22 46 7 lf_2.length cf_2 (.tmp 13) (.tmp 15) Af_2 .i64 (i1 : Int) i1 ((hS.rd hRf_2).eqSome (pos_of_get hx1)) rfl (lt_of_get hx1) ?_
  refine gb [1] [(18, .agg #[.string e1.Name, vI e1.C, vI e1.T, vI e1.D, vI e1.J, vI e1.O, vI e1.P])] [.loaded ⟨blkOf Af_2, offOf Af_2 + i1 * 7, none⟩ (.string e1.Name), .loaded ⟨blkOf Af_2, offOf Af_2 + i1 * 7 + 1, none⟩ (vI e1.C), .loaded ⟨blkOf Af_2, offOf Af_2 + i1 * 7 + 2, none⟩ (vI e1.T), .loaded ⟨blkOf Af_2, offOf Af_2 + i1 * 7 + 3, none⟩ (vI e1.D), .loaded ⟨blkOf Af_2, offOf Af_2 + i1 * 7 + 4, none⟩ (vI e1.J), .loaded ⟨blkOf Af_2, offOf Af_2 + i1 * 7 + 5, none⟩ (vI e1.O), .loaded ⟨blkOf Af_2, offOf Af_2 + i1 * 7 + 6, none⟩ (vI e1.P)] ⟨RdL.cell (j := 0) (hS.rd hRf_2) hx1 rfl, RdL.cell (j := 1) (hS.rd hRf_2) hx1 rfl, RdL.cell (j := 2) (hS.rd hRf_2) hx1 rfl, RdL.cell (j := 3) (hS.rd hRf_2) hx1 rfl, RdL.cell (j := 4) (hS.rd hRf_2) hx1 rfl, RdL.cell (j := 5) (hS.rd hRf_2) hx1 rfl, RdL.cell (j := 6) (hS.rd hRf_2) hx1 rfl, trivial⟩ ?_
  refine gw (some 8) (.cells #[.string (⟨#[]⟩), vI 0, vI 0, vI 0, vI 0, vI 0, vI 0] 46) (fun b => pP b 0) hS fun b1 w1 hx2 hS1 => ?_
  refine gs b1 0 #[.string (⟨#[]⟩), vI 0, vI 0, vI 0, vI 0, vI 0, vI 0] 46 [.string e1.Name, vI e1.C, vI e1.T, vI e1.D, vI e1.J, vI e1.O, vI e1.P] hS1 fun w2 hS2 => ?_
  have hS3 : St w0 w2 [Own.blk b1 (.cells #[.string e1.Name, vI e1.C, vI e1.T, vI e1.D, vI e1.J, vI e1.O, vI e1.P] 46 (0, 0))] := hS2
  refine gn hK8 ?_
  refine we_draws (by kernel_rfl) [(0, 0), (1, 0), (2, 0), (3, 0), (4, 0), (5, 0), (6, 0), (8, 0), (9, 0), (7, 1), (10, 0), (11, 0), (12, 0)] (by kernel_rfl) ?_
  have hS4 := hS3.drew
  rcases hq1 : fixed_ceil.f (IntKind.i64.wrap (x0 + e1.J)) e1.T with _ | r1
  ·rw [hq1] at h; cases h
  rw [hq1] at h
  simp only [] at h
  refine gb [0, 1, 2, 3, 4, 5, 6, 8, 9] [(28, vI e1.C), (27, pP b1 1), (25, vI e1.T), (24, pP b1 2), (23, vI (IntKind.i64.wrap (x0 + e1.J))), (22, vI e1.J), (21, pP b1 4), (20, vI x0), (19, vI z1)] [.loaded ⟨b1, 4, none⟩ (vI e1.J), .loaded ⟨b1, 2, none⟩ (vI e1.T), .loaded ⟨b1, 1, none⟩ (vI e1.C)] ⟨hS4.c 0, hS4.c 0, hS4.c 0, trivial⟩ ?_
  refine ge_call (d := some 26) (f := 52) (args := #[vI (IntKind.i64.wrap (x0 + e1.J)), vI e1.T]) (by kernel_rfl) (fixed_ceil_ok (IntKind.i64.wrap (x0 + e1.J)) e1.T _ _ hq1) ?_
  rintro _ w3 ⟨rfl, hS5⟩
  refine ⟨_, rfl, hS5.below, ?_⟩
  have hS6 := hS4.call hS5
  refine gb0 [10, 11, 12] [(6, vI (IntKind.i64.wrap (z1 + (IntKind.i64.wrap (r1 * e1.C))))), (30, vI (IntKind.i64.wrap (z1 + (IntKind.i64.wrap (r1 * e1.C))))), (29, vI (IntKind.i64.wrap (r1 * e1.C)))] ?_
  refine gn hK7 ?_
  refine wr [(0, 0), (1, 0)] ?_
  refine ge_addn (d := 31) (ty := 3) (x := (.tmp 15)) (y := (.const (vI 1))) (t := 3) (t2 := 3) (k := .i64) (m := i1) (by kernel_rfl) (by kernel_rfl) (by kernel_rfl) (by have h0 := hRf_2.small; omega) ?_
  refine gb0 [1] [(15, vI ((i1 + 1 : Nat) : Int))] ?_
  have hS7 := hS6.takeN 0
  obtain rfl := si h
  exact ge_nil fun a hF => hQ _ _ _ (Outs.again ⟨hS7, hF.weaken ea⟩)
 ·rw [if_neg hc1] at h
  refine wk 16 (decide ((i1 : Int) < (lf_2.length : Int))) false (decide_eq_false hc1) ?_
  refine we_false (by kernel_rfl) ?_
  obtain rfl := si h
  exact we_exit fun a hF => hQ _ _ _ (Outs.out nofun (Exits.here ⟨hS, hF.weaken ea⟩))
theorem fixed_response_1_ok (K : Nat) (x0 : Int) (bf_0 : Nat) (xf_0 : STask) (bf_1 : Nat) (xf_1 : Int) (bf_2 : Nat) (lf_2 : List STask) (Af_2 : Option Addr) (cf_2 : Nat) (w0 : World) (hBf_0 : Glob w0 bf_0 [.string xf_0.Name, vI xf_0.C, vI xf_0.T, vI xf_0.D, vI xf_0.J, vI xf_0.O, vI xf_0.P]) (hBf_1 : Glob w0 bf_1 [vI xf_1]) (hRf_2 : RdL w0 Af_2 lf_2) (hLf_2 : lf_2.length ≤ cf_2) (hBf_2 : Glob w0 bf_2 [.slice Af_2 lf_2.length cf_2]) (r : Int) (h : fixed_response_1.f K x0 xf_0 xf_1 lf_2 = some r) :
  Calls Try.prog 51 #[vI x0, pP bf_0 0, pP bf_1 0, pP bf_2 0] w0 (fixed_response_1.Post w0 r) := by
 have hS := St.start w0
 unfold fixed_response_1.f at h
 refine calls_enter (n := 33) (args := [vI x0, pP bf_0 0, pP bf_1 0, pP bf_2 0]) (fn := Try.f51) rfl rfl rfl rfl ?_
 show WE _ _ _ _ [(0, vI x0), (1, pP bf_0 0), (2, pP bf_1 0), (3, pP bf_2 0)] _
 refine ws fun K1 hK1 => ?_
 refine wr [(0, 0)] ?_
 refine gb0 [0] [(5, vI 0)] ?_
 refine gn hK1 ?_
 refine ws fun K2 hK2 => ?_
 refine wr [(0, 0), (1, 0), (2, 0), (3, 0), (4, 0)] ?_
 refine gb [0, 1, 2, 3, 4] [(6, vI (IntKind.i64.wrap (xf_0.C + xf_1))), (12, vI (IntKind.i64.wrap (xf_0.C + xf_1))), (11, vI xf_1), (10, vI xf_0.C), (9, pP bf_0 1)] [.loaded ⟨bf_0, 1, none⟩ (vI xf_0.C), .loaded ⟨bf_1, 0, none⟩ (vI xf_1)] ⟨hS.glob hBf_0 rfl, hS.glob hBf_1 rfl, trivial⟩ ?_
 refine gn hK2 ?_
 refine ws fun K3 hK3 => ?_
 refine ws fun K4 hK4 => ?_
 refine wr [(0, 0), (1, 0), (2, 0)] ?_
 refine gb [0, 1, 2] [(15, vI 0), (14, vI (lf_2.length : Int)), (13, .slice Af_2 lf_2.length cf_2)] [.loaded ⟨bf_2, 0, none⟩ (.slice Af_2 lf_2.length cf_2)] ⟨hS.glob hBf_2 rfl, trivial⟩ ?_
 refine gn hK4 ?_
 refine we_block ?_
 rcases hq2 : iter (fixed_response_1.r0 x0 lf_2) K (IntKind.i64.wrap (xf_0.C + xf_1), 0) with _ | (z3 | rr1)
 ·rw [hq2] at h; cases h
 ·rw [hq2] at h
  simp only [] at h
  refine we_iter (A := fixed_response_1.A0 w0 x0 lf_2 Af_2 cf_2) (B := fixed_response_1.B0 w0) hq2 (fun a hF => ⟨hS, hF.weaken ea⟩) (fun s o hf a w hA Q hQ => fixed_response_1_r0 K w0 x0 bf_0 xf_0 bf_1 xf_1 bf_2 lf_2 Af_2 cf_2 hBf_0 hBf_1 hRf_2 hLf_2 hBf_2 s o hf a w hA Q hQ) ?_
  rintro _ a w4 _ ⟨rfl, hS8, hF⟩
  replace hS8 : St w0 w4 [] := hS8
  refine hK3 [(6, vI z3)] w4 ?_ a hF
  refine ws fun K9 hK9 => ?_
  refine wr [(0, 0), (1, 0)] ?_
  refine gb0 [0, 1] [(5, vI z3), (32, vI z3)] ?_
  refine gn hK9 ?_
  obtain rfl := si h
  exact we_ret (pr0 [.tmp 5] [vI z3] ⟨rfl, hS8⟩)
 ·rw [hq2] at h
  simp only [] at h
  refine we_iter (A := fixed_response_1.A0 w0 x0 lf_2 Af_2 cf_2) (B := fixed_response_1.B0 w0) hq2 (fun a hF => ⟨hS, hF.weaken ea⟩) (fun s o hf a w hA Q hQ => fixed_response_1_r0 K w0 x0 bf_0 xf_0 bf_1 xf_1 bf_2 lf_2 Af_2 cf_2 hBf_0 hBf_1 hRf_2 hLf_2 hBf_2 s o hf a w hA Q hQ) ?_
  rintro _ a w1 _ ⟨rfl, hb⟩
  obtain rfl := si h
  exact hb

/-! punctual/fixed.Settle -/
abbrev fixed_Settle.Post (w0 : World) (r : Int) (e : Ending) (w : World) : Prop := e = .returned (vI r) ∧ St w0 w []
def fixed_Settle.r0 (K : Nat) (x1 : Int) (xg2_0 : STask) (xg2_1 : Int) (lg2_2 : List STask) : Int → Option (Int ⊕ (Unit ⊕ Int))
 | z1 =>
  if z1 ≤ x1 then
   match fixed_response_1.f K z1 xg2_0 xg2_1 lg2_2 with
   | none => none
   | some r1 =>
    if r1 ≤ z1 then
     some (.inr (.inr z1))
    else
     some (.inl r1)
  else
   some (.inr (.inl ()))
def fixed_Settle.f (K : Nat) (x0 : Int) (x1 : Int) (xg2_0 : STask) (xg2_1 : Int) (lg2_2 : List STask) : Option Int :=
 match iter (fixed_Settle.r0 K x1 xg2_0 xg2_1 lg2_2) K x0 with
 | none => none
 | some (.inl _) =>
  some 0
 | some (.inr rr1) =>
  some rr1
abbrev fixed_Settle.A0 (w0 : World) (x1 : Int) (bg2_0 : Nat) (bg2_1 : Nat) (bg2_2 : Nat) : Int → Act → World → Prop := fun (s : Int) a w => St w0 w [] ∧ Frm 21 a [(1, vI x1), (2, .func (.func 51) #[] #[pP bg2_0 0, pP bg2_1 0, pP bg2_2 0]), (7, vI s)]
abbrev fixed_Settle.B0 (w0 : World) : (Unit ⊕ Int) → Exit → Act → World → Prop := Exits 0 (fun (s : Unit) a w => St w0 w [] ∧ Frm 21 a []) (Rets Try.prog Try.f50 (fixed_Settle.Post w0))
theorem fixed_Settle_r0 (K : Nat) (w0 : World) (x0 : Int) (x1 : Int) (bg2_0 : Nat) (xg2_0 : STask) (bg2_1 : Nat) (xg2_1 : Int) (bg2_2 : Nat) (lg2_2 : List STask) (Ag2_2 : Option Addr) (cg2_2 : Nat) (hBg2_0 : Glob w0 bg2_0 [.string xg2_0.Name, vI xg2_0.C, vI xg2_0.T, vI xg2_0.D, vI xg2_0.J, vI xg2_0.O, vI xg2_0.P]) (hBg2_1 : Glob w0 bg2_1 [vI xg2_1]) (hRg2_2 : RdL w0 Ag2_2 lg2_2) (hLg2_2 : lg2_2.length ≤ cg2_2) (hBg2_2 : Glob w0 bg2_2 [.slice Ag2_2 lg2_2.length cg2_2]) (s : Int) (o : Int ⊕ (Unit ⊕ Int)) (h : fixed_Settle.r0 K x1 xg2_0 xg2_1 lg2_2 s = some o) (a : Act) (w : World) (hA : fixed_Settle.A0 w0 x1 bg2_0 bg2_1 bg2_2 s a w) (Q : Exit → Act → World → Prop) (hQ : ∀ x a w, Outs (fixed_Settle.A0 w0 x1 bg2_0 bg2_1 bg2_2) (fixed_Settle.B0 w0) o x a w → Q x a w) : (subF Try.f50 [1, 0, 1, 0, 0]).wp Try.prog Q a w := by
 obtain ⟨z1, hs⟩ : ∃ z, z = s := ⟨s, rfl⟩
 subst hs
 obtain ⟨hS, hF⟩ := hA
 replace hS : St w0 w [] := hS
 simp only [fixed_Settle.r0] at h
 refine (?_ : WE Try.prog 21 (subF Try.f50 [1, 0, 1, 0, 0]) Q [(1, vI x1), (2, .func (.func 51) #[] #[pP bg2_0 0, pP bg2_1 0, pP bg2_2 0]), (7, vI z1)] w) a hF
 clear hF a
 refine ws fun K4 hK4 => ?_
 refine ws fun K5 hK5 => ?_
 refine wr [(0, 0), (1, 0), (2, 0)] ?_
 refine gb0 [0, 1, 2] [(12, .bool (decide (z1 ≤ x1))), (11, vI x1), (10, vI z1)] ?_
 refine gn hK5 ?_
 by_cases hc1 : z1 ≤ x1
 ·rw [if_pos hc1] at h
  refine wk 12 (decide (z1 ≤ x1)) true (decide_eq_true hc1) ?_
  refine we_true (by kernel_rfl) ?_
  refine we_skip fun a hF => hK4 _ _ ?_ a hF
  refine we_block ?_
  refine ws fun K6 hK6 => ?_
  refine wr [(0, 0), (1, 0), (2, 1), (3, 0)] ?_
  rcases hq1 : fixed_response_1.f K z1 xg2_0 xg2_1 lg2_2 with _ | r1
  ·rw [hq1] at h; cases h
  rw [hq1] at h
  simp only [] at h
  refine gb0 [0, 1] [(14, vI z1), (13, .func (.func 51) #[] #[pP bg2_0 0, pP bg2_1 0, pP bg2_2 0])] ?_
  refine ge_call (d := some 15) (f := 51) (args := #[vI z1, pP bg2_0 0, pP bg2_1 0, pP bg2_2 0]) (by kernel_rfl) (fixed_response_1_ok K z1 bg2_0 xg2_0 bg2_1 xg2_1 bg2_2 lg2_2 Ag2_2 cg2_2 _ (Glob.ext hBg2_0 hS.below) (Glob.ext hBg2_1 hS.below) (hS.rd hRg2_2) hLg2_2 (Glob.ext hBg2_2 hS.below) _ hq1) ?_
  rintro _ w1 ⟨rfl, hS1⟩
  refine ⟨_, rfl, hS1.below, ?_⟩
  have hS2 := hS.call hS1
  refine gb0 [3] [(8, vI r1)] ?_
  refine gn hK6 ?_
  refine ws fun K7 hK7 => ?_
  refine ws fun K8 hK8 => ?_
  refine wr [(0, 0), (1, 0), (2, 0)] ?_
  refine gb0 [0, 1, 2] [(18, .bool (decide (r1 ≤ z1))), (17, vI z1), (16, vI r1)] ?_
  refine gn hK8 ?_
  by_cases hc2 : r1 ≤ z1
  ·rw [if_pos hc2] at h
   refine wk 18 (decide (r1 ≤ z1)) true (decide_eq_true hc2) ?_
   refine we_true (by kernel_rfl) ?_
   refine ws fun K9 hK9 => ?_
   refine wr [(0, 0), (1, 0)] ?_
   refine gb0 [0, 1] [(6, vI z1), (19, vI z1)] ?_
   refine gn hK9 ?_
   obtain rfl := si h
   exact we_ret fun a hF => hQ _ _ _ (Outs.out nofun (Exits.on ⟨rfl, (pr0 [.tmp 6] [vI z1] ⟨rfl, hS2⟩) a hF⟩))
  ·rw [if_neg hc2] at h
   refine wk 18 (decide (r1 ≤ z1)) false (decide_eq_false hc2) ?_
   refine we_false (by kernel_rfl) ?_
   refine we_skip fun a hF => hK7 _ _ ?_ a hF
   refine wr [(0, 0), (1, 0)] ?_
   refine gb0 [0, 1] [(7, vI r1), (20, vI r1)] ?_
   obtain rfl := si h
   exact ge_nil fun a hF => hQ _ _ _ (Outs.again ⟨hS2, hF.weaken ea⟩)
 ·rw [if_neg hc1] at h
  refine wk 12 (decide (z1 ≤ x1)) false (decide_eq_false hc1) ?_
  refine we_false (by kernel_rfl) ?_
  obtain rfl := si h
  exact we_exit fun a hF => hQ _ _ _ (Outs.out nofun (Exits.here ⟨hS, hF.weaken trivial⟩))
theorem fixed_Settle_ok (K : Nat) (x0 : Int) (x1 : Int) (bg2_0 : Nat) (xg2_0 : STask) (bg2_1 : Nat) (xg2_1 : Int) (bg2_2 : Nat) (lg2_2 : List STask) (Ag2_2 : Option Addr) (cg2_2 : Nat) (w0 : World) (hBg2_0 : Glob w0 bg2_0 [.string xg2_0.Name, vI xg2_0.C, vI xg2_0.T, vI xg2_0.D, vI xg2_0.J, vI xg2_0.O, vI xg2_0.P]) (hBg2_1 : Glob w0 bg2_1 [vI xg2_1]) (hRg2_2 : RdL w0 Ag2_2 lg2_2) (hLg2_2 : lg2_2.length ≤ cg2_2) (hBg2_2 : Glob w0 bg2_2 [.slice Ag2_2 lg2_2.length cg2_2]) (r : Int) (h : fixed_Settle.f K x0 x1 xg2_0 xg2_1 lg2_2 = some r) :
  Calls Try.prog 50 #[vI x0, vI x1, .func (.func 51) #[] #[pP bg2_0 0, pP bg2_1 0, pP bg2_2 0]] w0 (fixed_Settle.Post w0 r) := by
 have hS := St.start w0
 unfold fixed_Settle.f at h
 refine calls_enter (n := 21) (args := [vI x0, vI x1, .func (.func 51) #[] #[pP bg2_0 0, pP bg2_1 0, pP bg2_2 0]]) (fn := Try.f50) rfl rfl rfl rfl ?_
 show WE _ _ _ _ [(0, vI x0), (1, vI x1), (2, .func (.func 51) #[] #[pP bg2_0 0, pP bg2_1 0, pP bg2_2 0])] _
 refine ws fun K1 hK1 => ?_
 refine wr [(0, 0)] ?_
 refine gb0 [0] [(6, vI 0)] ?_
 refine gn hK1 ?_
 refine ws fun K2 hK2 => ?_
 refine ws fun K3 hK3 => ?_
 refine wr [(0, 0), (1, 0)] ?_
 refine gb0 [0, 1] [(7, vI x0), (9, vI x0)] ?_
 refine gn hK3 ?_
 refine we_block ?_
 rcases hq2 : iter (fixed_Settle.r0 K x1 xg2_0 xg2_1 lg2_2) K x0 with _ | (_ | rr1)
 ·rw [hq2] at h; cases h
 ·rw [hq2] at h
  simp only [] at h
  refine we_iter (A := fixed_Settle.A0 w0 x1 bg2_0 bg2_1 bg2_2) (B := fixed_Settle.B0 w0) hq2 (fun a hF => ⟨hS, hF.weaken ea⟩) (fun s o hf a w hA Q hQ => fixed_Settle_r0 K w0 x0 x1 bg2_0 xg2_0 bg2_1 xg2_1 bg2_2 lg2_2 Ag2_2 cg2_2 hBg2_0 hBg2_1 hRg2_2 hLg2_2 hBg2_2 s o hf a w hA Q hQ) ?_
  rintro _ a w2 _ ⟨rfl, hS3, hF⟩
  replace hS3 : St w0 w2 [] := hS3
  refine hK2 [] w2 ?_ a hF
  refine ws fun K10 hK10 => ?_
  refine wr [(0, 0)] ?_
  refine gb0 [0] [(6, vI 0)] ?_
  refine gn hK10 ?_
  obtain rfl := si h
  exact we_ret (pr0 [.tmp 6] [vI 0] ⟨rfl, hS3⟩)
 ·rw [hq2] at h
  simp only [] at h
  refine we_iter (A := fixed_Settle.A0 w0 x1 bg2_0 bg2_1 bg2_2) (B := fixed_Settle.B0 w0) hq2 (fun a hF => ⟨hS, hF.weaken ea⟩) (fun s o hf a w hA Q hQ => fixed_Settle_r0 K w0 x0 x1 bg2_0 xg2_0 bg2_1 xg2_1 bg2_2 lg2_2 Ag2_2 cg2_2 hBg2_0 hBg2_1 hRg2_2 hLg2_2 hBg2_2 s o hf a w hA Q hQ) ?_
  rintro _ a w1 _ ⟨rfl, hb⟩
  obtain rfl := si h
  exact hb

/-! punctual/fixed.response -/
abbrev fixed_response.Post (w0 : World) (r : Int) (e : Ending) (w : World) : Prop := e = .returned (vI r) ∧ St w0 w []
def fixed_response.f (K : Nat) (x0 : STask) (l1 : List STask) (x2 : Int) : Option Int :=
 match fixed_Settle.f K (IntKind.i64.wrap (x0.C + x2)) (IntKind.i64.wrap (x0.D - x0.J)) x0 x2 l1 with
 | none => none
 | some r1 =>
  if r1 = 0 then
   some 0
  else
   some (IntKind.i64.wrap (r1 + x0.J))
theorem fixed_response_ok (K : Nat) (x0 : STask) (l1 : List STask) (A1 : Option Addr) (c1 : Nat) (x2 : Int) (w0 : World) (hR1 : RdL w0 A1 l1) (hL1 : l1.length ≤ c1) (r : Int) (h : fixed_response.f K x0 l1 x2 = some r) :
  Calls Try.prog 34 #[.agg #[.string x0.Name, vI x0.C, vI x0.T, vI x0.D, vI x0.J, vI x0.O, vI x0.P], .slice A1 l1.length c1, vI x2] w0 (fixed_response.Post w0 r) := by
 have hS := St.start w0
 unfold fixed_response.f at h
 refine calls_enter (n := 25) (args := [.agg #[.string x0.Name, vI x0.C, vI x0.T, vI x0.D, vI x0.J, vI x0.O, vI x0.P], .slice A1 l1.length c1, vI x2]) (fn := Try.f34) rfl rfl rfl rfl ?_
 show WE _ _ _ _ [(0, .agg #[.string x0.Name, vI x0.C, vI x0.T, vI x0.D, vI x0.J, vI x0.O, vI x0.P]), (1, .slice A1 l1.length c1), (2, vI x2)] _
 refine ws fun K1 hK1 => ?_
 refine wr [(0, 1), (1, 1), (2, 1), (3, 0)] ?_
 refine gw (some 3) (.cells #[.string x0.Name, vI x0.C, vI x0.T, vI x0.D, vI x0.J, vI x0.O, vI x0.P] 46) (fun b => pP b 0) hS fun b1 w1 hx1 hS1 => ?_
 refine gw (some 4) (.cells #[.slice A1 l1.length c1] 22) (fun b => pP b 0) hS1 fun b2 w2 hx2 hS2 => ?_
 refine gw (some 5) (.cells #[vI x2] 3) (fun b => pP b 0) hS2 fun b3 w3 hx3 hS3 => ?_
 refine gb0 [3] [(6, vI 0)] ?_
 refine gn hK1 ?_
 refine ws fun K2 hK2 => ?_
 refine wr [(0, 0), (1, 0), (2, 0), (3, 0), (4, 0), (5, 0), (6, 0), (7, 0), (8, 0), (9, 0), (10, 1), (11, 0)] ?_
 rcases hq1 : fixed_Settle.f K (IntKind.i64.wrap (x0.C + x2)) (IntKind.i64.wrap (x0.D - x0.J)) x0 x2 l1 with _ | r1
 ·rw [hq1] at h; cases h
 rw [hq1] at h
 simp only [] at h
 refine gb [0, 1, 2, 3, 4, 5, 6, 7, 8, 9] [(17, .func (.func 51) #[] #[pP b1 0, pP b3 0, pP b2 0]), (16, vI (IntKind.i64.wrap (x0.D - x0.J))), (15, vI x0.J), (14, pP b1 4), (13, vI x0.D), (12, pP b1 3), (11, vI (IntKind.i64.wrap (x0.C + x2))), (10, vI x2), (9, vI x0.C), (8, pP b1 1)] [.loaded ⟨b1, 1, none⟩ (vI x0.C), .loaded ⟨b3, 0, none⟩ (vI x2), .loaded ⟨b1, 3, none⟩ (vI x0.D), .loaded ⟨b1, 4, none⟩ (vI x0.J)] ⟨hS3.c 2, hS3.c 0, hS3.c 2, hS3.c 2, trivial⟩ ?_
 refine ge_call (d := some 18) (f := 50) (args := #[vI (IntKind.i64.wrap (x0.C + x2)), vI (IntKind.i64.wrap (x0.D - x0.J)), .func (.func 51) #[] #[pP b1 0, pP b3 0, pP b2 0]]) (by kernel_rfl) (fixed_Settle_ok K (IntKind.i64.wrap (x0.C + x2)) (IntKind.i64.wrap (x0.D - x0.J)) b1 x0 b3 x2 b2 l1 A1 c1 _ (hS3.globOf 2 rfl) (hS3.globOf 0 rfl) (hS3.rd hR1) hL1 (hS3.globOf 1 rfl) _ hq1) ?_
 rintro _ w4 ⟨rfl, hS4⟩
 refine ⟨_, rfl, hS4.below, ?_⟩
 have hS5 := hS3.call hS4
 refine gb0 [11] [(7, vI r1)] ?_
 refine gn hK2 ?_
 refine ws fun K3 hK3 => ?_
 refine ws fun K4 hK4 => ?_
 refine wr [(0, 0), (1, 0)] ?_
 refine gb0 [0, 1] [(20, .bool (r1 == 0)), (19, vI r1)] ?_
 refine gn hK4 ?_
 by_cases hc1 : r1 = 0
 ·rw [if_pos hc1] at h
  refine wk 20 (r1 == 0) true (beq_iff_eq.2 hc1) ?_
  refine we_true (by kernel_rfl) ?_
  refine ws fun K5 hK5 => ?_
  refine wr [(0, 0)] ?_
  refine gb0 [0] [(6, vI 0)] ?_
  refine gn hK5 ?_
  have hS6 := hS5.takeN 0
  obtain rfl := si h
  exact we_ret (pr0 [.tmp 6] [vI 0] ⟨rfl, hS6⟩)
 ·rw [if_neg hc1] at h
  refine wk 20 (r1 == 0) false (beq_eq_false_iff_ne.2 hc1) ?_
  refine we_false (by kernel_rfl) ?_
  refine we_skip fun a hF => hK3 _ _ ?_ a hF
  refine ws fun K6 hK6 => ?_
  refine wr [(0, 0), (1, 0), (2, 0), (3, 0), (4, 0)] ?_
  refine gb [0, 1, 2, 3, 4] [(6, vI (IntKind.i64.wrap (r1 + x0.J))), (24, vI (IntKind.i64.wrap (r1 + x0.J))), (23, vI x0.J), (22, pP b1 4), (21, vI r1)] [.loaded ⟨b1, 4, none⟩ (vI x0.J)] ⟨hS5.c 2, trivial⟩ ?_
  refine gn hK6 ?_
  have hS7 := hS5.takeN 0
  obtain rfl := si h
  exact we_ret (pr0 [.tmp 6] [vI (IntKind.i64.wrap (r1 + x0.J))] ⟨rfl, hS7⟩)

/-! punctual/fixed.Response -/
abbrev fixed_Response.Post (w0 : World) (r : Int × SFault) (e : Ending) (w : World) : Prop := e = .returned (.tuple #[vI r.1, .agg #[vI r.2.Code, vI r.2.At]]) ∧ St w0 w []
def fixed_Response.p0 (l0 : List STask) (x1 : Int) (x2 : Int) : Option (Bool ⊕ (Int × SFault)) :=
  if x1 < 0 then
   some (.inl true)
  else
   if x1 ≥ (l0.length : Int) then
    some (.inl true)
   else
    if x2 < 0 then
     some (.inl true)
    else
     some (.inl (decide (x2 > 10000)))
def fixed_Response.f (K : Nat) (l0 : List STask) (x1 : Int) (x2 : Int) : Option (Int × SFault) :=
 match fixed_check.f K l0 with
 | none => none
 | some r1 =>
  if r1.Code = 0 then
   match fixed_Response.p0 l0 x1 x2 with
   | none => none
   | some (.inl q2) =>
    if q2 = true then
     some (0, (⟨3, 0⟩ : SFault))
    else
     if 0 ≤ x1 then
      match l0[(x1).toNat]? with
      | none => none
      | some e1 =>
       match fixed_above.f K l0 x1 with
       | none => none
       | some r2 =>
        match fixed_response.f K e1 r2 x2 with
        | none => none
        | some r3 =>
         if r3 = 0 then
          some (0, (⟨13, x1⟩ : SFault))
         else
          some (r3, (⟨0, 0⟩ : SFault))
     else
      none
   | some (.inr rr1) =>
    some rr1
  else
   some (0, r1)
abbrev fixed_Response.A0 (w0 : World) (l0 : List STask) (A0 : Option Addr) (c0 : Nat) (x1 : Int) (x2 : Int) (b1 : Nat) : Bool → Act → World → Prop := fun (s : Bool) a w => St w0 w [Own.blk b1 (.cells #[vI 0, vI 0] 29 (0, 0))] ∧ Frm 48 a [(0, .slice A0 l0.length c0), (1, vI x1), (2, vI x2), (7, pP b1 0), (31, .bool s)]
abbrev fixed_Response.B0 (w0 : World) : (Int × SFault) → Exit → Act → World → Prop := Rets Try.prog Try.f20 (fixed_Response.Post w0)
theorem fixed_Response_p0 (K : Nat) (w0 : World) (l0 : List STask) (A0 : Option Addr) (c0 : Nat) (x1 : Int) (x2 : Int) (hR0 : RdL w0 A0 l0) (hL0 : l0.length ≤ c0) (b1 : Nat) (r1 : SFault) (b2 : Nat) (hc1 : r1.Code = 0) (o : Bool ⊕ (Int × SFault)) (h : fixed_Response.p0 l0 x1 x2 = some o) (w : World) (hS : St w0 w [Own.blk b2 (.cells #[vI r1.Code, vI r1.At] 29 (0, 0)), Own.blk b1 (.cells #[vI 0, vI 0] 29 (0, 0))]) (Q : Exit → Act → World → Prop) (hQ : ∀ x a w, Outs (fixed_Response.A0 w0 l0 A0 c0 x1 x2 b1) (fixed_Response.B0 w0) o x a w → Q x a w) : WE Try.prog 48 (subF Try.f20 [1, 1, 0, 0]) Q [(0, .slice A0 l0.length c0), (1, vI x1), (2, vI x2), (6, vI 0), (7, pP b1 0), (8, pP b2 0), (10, .slice A0 l0.length c0), (11, .agg #[vI r1.Code, vI r1.At]), (12, pP b2 0), (13, vI r1.Code), (14, .bool false)] w := by
 simp only [fixed_Response.p0] at h
 refine wr [(0, 0), (1, 0), (2, 0), (3, 0), (4, 0), (5, 0), (6, 0), (7, 0), (8, 0), (9, 0), (10, 0), (11, 0), (12, 0), (13, 0), (14, 0), (15, 0)] ?_
 refine gb0 [0, 1, 2] [(18, .bool (decide (x1 < 0))), (17, .bool (decide (x1 < 0))), (16, vI x1)] ?_
 by_cases hc2 : x1 < 0
 ·rw [if_pos hc2] at h
  refine gk 18 (decide (x1 < 0)) true (decide_eq_true hc2) ?_
  refine gb0 [3, 4, 5, 6, 7, 8, 9, 10, 11, 12, 13, 14, 15] [(31, .bool true), (30, undef), (29, undef), (28, .bool true), (27, .bool true), (26, undef), (25, undef), (24, .bool true), (23, .bool true), (22, undef), (21, undef), (20, undef), (19, undef)] ?_
  have hS7 := hS.bring 1 rfl
  have hS8 := hS7.takeN 1
  obtain rfl := si h
  exact ge_nil fun a hF => hQ _ _ _ (Outs.again ⟨hS8, hF.weaken ea⟩)
 ·rw [if_neg hc2] at h
  refine gk 18 (decide (x1 < 0)) false (decide_eq_false hc2) ?_
  refine gb0 [3, 4, 5, 6, 7, 8] [(24, .bool (decide (x1 ≥ (l0.length : Int)))), (23, .bool (decide (x1 ≥ (l0.length : Int)))), (22, .bool (decide (x1 ≥ (l0.length : Int)))), (21, vI (l0.length : Int)), (20, .slice A0 l0.length c0), (19, vI x1)] ?_
  by_cases hc3 : x1 ≥ (l0.length : Int)
  ·rw [if_pos hc3] at h
   refine gk 24 (decide (x1 ≥ (l0.length : Int))) true (decide_eq_true hc3) ?_
   refine gb0 [9, 10, 11, 12, 13, 14, 15] [(31, .bool true), (30, undef), (29, undef), (28, .bool true), (27, .bool true), (26, undef), (25, undef)] ?_
   have hS9 := hS.bring 1 rfl
   have hS10 := hS9.takeN 1
   obtain rfl := si h
   exact ge_nil fun a hF => hQ _ _ _ (Outs.again ⟨hS10, hF.weaken ea⟩)
  ·rw [if_neg hc3] at h
   refine gk 24 (decide (x1 ≥ (l0.length : Int))) false (decide_eq_false hc3) ?_
   refine gb0 [9, 10, 11, 12] [(28, .bool (decide (x2 < 0))), (27, .bool (decide (x2 < 0))), (26, .bool (decide (x2 < 0))), (25, vI x2)] ?_
   by_cases hc4 : x2 < 0
   ·rw [if_pos hc4] at h
    refine gk 28 (decide (x2 < 0)) true (decide_eq_true hc4) ?_
    refine gb0 [13, 14, 15] [(31, .bool true), (30, undef), (29, undef)] ?_
    have hS11 := hS.bring 1 rfl
    have hS12 := hS11.takeN 1
    obtain rfl := si h
    exact ge_nil fun a hF => hQ _ _ _ (Outs.again ⟨hS12, hF.weaken ea⟩)
   ·rw [if_neg hc4] at h
    refine gk 28 (decide (x2 < 0)) false (decide_eq_false hc4) ?_
    refine gb0 [13, 14, 15] [(31, .bool (decide (x2 > 10000))), (30, .bool (decide (x2 > 10000))), (29, vI x2)] ?_
    have hS13 := hS.bring 1 rfl
    have hS14 := hS13.takeN 1
    obtain rfl := si h
    exact ge_nil fun a hF => hQ _ _ _ (Outs.again ⟨hS14, hF.weaken ea⟩)
theorem fixed_Response_ok (K : Nat) (l0 : List STask) (A0 : Option Addr) (c0 : Nat) (x1 : Int) (x2 : Int) (w0 : World) (hR0 : RdL w0 A0 l0) (hL0 : l0.length ≤ c0) (r : Int × SFault) (h : fixed_Response.f K l0 x1 x2 = some r) :
  Calls Try.prog 20 #[.slice A0 l0.length c0, vI x1, vI x2] w0 (fixed_Response.Post w0 r) := by
 have hS := St.start w0
 unfold fixed_Response.f at h
 refine calls_enter (n := 48) (args := [.slice A0 l0.length c0, vI x1, vI x2]) (fn := Try.f20) rfl rfl rfl rfl ?_
 show WE _ _ _ _ [(0, .slice A0 l0.length c0), (1, vI x1), (2, vI x2)] _
 refine ws fun K1 hK1 => ?_
 refine wr [(0, 0), (1, 1)] ?_
 refine gb0 [0] [(6, vI 0)] ?_
 refine gw (some 7) (.cells #[vI 0, vI 0] 29) (fun b => pP b 0) hS fun b1 w1 hx1 hS1 => ?_
 refine gn hK1 ?_
 refine ws fun K2 hK2 => ?_
 refine ws fun K3 hK3 => ?_
 refine wr [(0, 0), (1, 1), (2, 1), (3, 2)] ?_
 rcases hq1 : fixed_check.f K l0 with _ | r1
 ·rw [hq1] at h; cases h
 rw [hq1] at h
 simp only [] at h
 refine gb0 [0] [(10, .slice A0 l0.length c0)] ?_
 refine ge_call (d := some 11) (f := 26) (args := #[.slice A0 l0.length c0]) (by kernel_rfl) (fixed_check_ok K l0 A0 c0 _ (hS1.rd hR0) hL0 _ hq1) ?_
 rintro _ w2 ⟨rfl, hS2⟩
 refine ⟨_, rfl, hS2.below, ?_⟩
 have hS3 := hS1.call hS2
 refine gw (some 8) (.cells #[vI 0, vI 0] 29) (fun b => pP b 0) hS3 fun b2 w3 hx2 hS4 => ?_
 refine gs b2 0 #[vI 0, vI 0] 29 [vI r1.Code, vI r1.At] hS4 fun w4 hS5 => ?_
 have hS6 : St w0 w4 [Own.blk b2 (.cells #[vI r1.Code, vI r1.At] 29 (0, 0)), Own.blk b1 (.cells #[vI 0, vI 0] 29 (0, 0))] := hS5
 refine gn hK3 ?_
 refine ws fun K4 hK4 => ?_
 refine wr [(0, 0), (1, 0), (2, 0)] ?_
 refine gb [0, 1, 2] [(14, .bool (r1.Code != 0)), (13, vI r1.Code), (12, pP b2 0)] [.loaded ⟨b2, 0, none⟩ (vI r1.Code)] ⟨hS6.c 0, trivial⟩ ?_
 refine gn hK4 ?_
 by_cases hc1 : r1.Code = 0
 ·rw [if_pos hc1] at h
  refine wk 14 (r1.Code != 0) false (bne_eq_false_iff_eq.2 hc1) ?_
  refine we_false (by kernel_rfl) ?_
  refine we_skip fun a hF => hK2 _ _ ?_ a hF
  refine ws fun K5 hK5 => ?_
  refine ws fun K6 hK6 => ?_
  rcases hq2 : fixed_Response.p0 l0 x1 x2 with _ | (q2 | rr1)
  ·rw [hq2] at h; cases h
  ·rw [hq2] at h
   simp only [] at h
   refine we_keep (e' := [(0, .slice A0 l0.length c0), (1, vI x1), (2, vI x2), (6, vI 0), (7, pP b1 0), (8, pP b2 0), (10, .slice A0 l0.length c0), (11, .agg #[vI r1.Code, vI r1.At]), (12, pP b2 0), (13, vI r1.Code), (14, .bool false)]) ea (fixed_Response_p0 K w0 l0 A0 c0 x1 x2 hR0 hL0 b1 r1 b2 hc1 _ hq2 _ hS6 _ ?_)
   rintro _ a w5 ⟨rfl, hS15, hF⟩
   replace hS15 : St w0 w5 [Own.blk b1 (.cells #[vI 0, vI 0] 29 (0, 0))] := hS15
   refine hK6 [(0, .slice A0 l0.length c0), (1, vI x1), (2, vI x2), (7, pP b1 0), (31, .bool q2)] w5 ?_ a hF
   by_cases hc5 : q2 = true
   ·rw [if_pos hc5] at h
    refine wk 31 q2 true hc5 ?_
    refine we_true (by kernel_rfl) ?_
    refine ws fun K7 hK7 => ?_
    refine wr [(0, 0), (1, 0), (2, 2)] ?_
    refine gb0 [0, 1] [(6, vI 0), (32, .agg #[vI 3, vI 0])] ?_
    refine gs b1 0 #[vI 0, vI 0] 29 [vI 3, vI 0] hS15 fun w6 hS16 => ?_
    have hS17 : St w0 w6 [Own.blk b1 (.cells #[vI 3, vI 0] 29 (0, 0))] := hS16
    refine gn hK7 ?_
    have hS18 := hS17.takeN 0
    obtain rfl := si h
    exact we_ret (pr [.tmp 6, .cell 7 29] [vI 0, .agg #[vI 3, vI 0]] [.loaded ⟨b1, 0, none⟩ (vI 3), .loaded ⟨b1, 1, none⟩ (vI 0)] ⟨hS17.c 0, hS17.c 0, trivial⟩ ⟨rfl, hS18⟩)
   ·rw [if_neg hc5] at h
    refine wk 31 q2 false (Bool.eq_false_iff.2 hc5) ?_
    refine we_false (by kernel_rfl) ?_
    refine we_skip fun a hF => hK5 _ _ ?_ a hF
    refine ws fun K8 hK8 => ?_
    refine we_draws (by kernel_rfl) [(0, 0), (1, 0), (2, 0), (3, 0), (4, 0), (5, 0), (7, 0), (6, 1), (8, 1), (9, 0)] (by kernel_rfl) ?_
    have hS19 := hS15.drew
    refine gb0 [0, 1] [(34, vI x1), (33, .slice A0 l0.length c0)] ?_
    by_cases hc6 : 0 ≤ x1
    ·rw [if_pos hc6] at h
     rcases hx3 : l0[(x1).toNat]? with _ | e1
     ·rw [hx3] at h; cases h
     rw [hx3] at h
     simp only [] at h
     refine gi 35 0 22 46 7 l0.length c0 (.tmp 33) (.tmp 34) A0 .i64 x1 ((x1).toNat) ((hS19.rd hR0).eqSome (pos_of_get hx3)) (Int.toNat_of_nonneg hc6).symm (lt_of_get hx3) ?_
     rcases hq3 : fixed_above.f K l0 x1 with _ | r2
     ·rw [hq3] at h; cases h
     rw [hq3] at h
     simp only [] at h
     refine gb [3, 4, 5, 7] [(40, vI x2), (38, vI x1), (37, .slice A0 l0.length c0), (36, .agg #[.string e1.Name, vI e1.C, vI e1.T, vI e1.D, vI e1.J, vI e1.O, vI e1.P])] [.loaded ⟨blkOf A0, offOf A0 + ((x1).toNat) * 7, none⟩ (.string e1.Name), .loaded ⟨blkOf A0, offOf A0 + ((x1).toNat) * 7 + 1, none⟩ (vI e1.C), .loaded ⟨blkOf A0, offOf A0 + ((x1).toNat) * 7 + 2, none⟩ (vI e1.T), .loaded ⟨blkOf A0, offOf A0 + ((x1).toNat) * 7 + 3, none⟩ (vI e1.D), .loaded ⟨blkOf A0, offOf A0 + ((x1).toNat) * 7 + 4, none⟩ (vI e1.J), .loaded ⟨blkOf A0, offOf A0 + ((x1).toNat) * 7 + 5, none⟩ (vI e1.O), .loaded ⟨blkOf A0, offOf A0 + ((x1).toNat) * 7 + 6, none⟩ (vI e1.P)] ⟨RdL.cell (j := 0) (hS19.rd hR0) hx3 rfl, RdL.cell (j := 1) (hS19.rd hR0) hx3 rfl, RdL.cell (j := 2) (hS19.rd hR0) hx3 rfl, RdL.cell (j := 3) (hS19.rd hR0) hx3 rfl, RdL.cell (j := 4) (hS19.rd hR0) hx3 rfl, RdL.cell (j := 5) (hS19.rd hR0) hx3 rfl, RdL.cell (j := 6) (hS19.rd hR0) hx3 rfl, trivial⟩ ?_
     refine ge_call (d := some 39) (f := 43) (args := #[.slice A0 l0.length c0, vI x1]) (by kernel_rfl) (fixed_above_ok K l0 A0 c0 x1 _ (hS19.rd hR0) hL0 _ hq3) ?_
     rintro _ w7 ⟨v1, rfl, hS20⟩
     refine ⟨_, rfl, hS20.below, ?_⟩
     have hS21 := hS19.call hS20
     obtain ⟨Z1, cz1, rfl⟩ := hS21.open 0 rfl
     rcases hq4 : fixed_response.f K e1 r2 x2 with _ | r3
     ·rw [hq4] at h; cases h
     rw [hq4] at h
     simp only [] at h
     refine ge_call (d := some 41) (f := 34) (args := #[.agg #[.string e1.Name, vI e1.C, vI e1.T, vI e1.D, vI e1.J, vI e1.O, vI e1.P], (.slice Z1 r2.length cz1), vI x2]) (by kernel_rfl) (fixed_response_ok K e1 r2 Z1 cz1 x2 _ (hS21.rdAt 0 rfl) (hS21.capAt 0 rfl) _ hq4) ?_
     rintro _ w8 ⟨rfl, hS22⟩
     refine ⟨_, rfl, hS22.below, ?_⟩
     have hS23 := hS21.call hS22
     refine gb0 [9] [(9, vI r3)] ?_
     refine gn hK8 ?_
     refine ws fun K9 hK9 => ?_
     refine ws fun K10 hK10 => ?_
     refine wr [(0, 0), (1, 0)] ?_
     refine gb0 [0, 1] [(43, .bool (r3 == 0)), (42, vI r3)] ?_
     refine gn hK10 ?_
     by_cases hc7 : r3 = 0
     ·rw [if_pos hc7] at h
      refine wk 43 (r3 == 0) true (beq_iff_eq.2 hc7) ?_
      refine we_true (by kernel_rfl) ?_
      refine ws fun K11 hK11 => ?_
      refine wr [(0, 0), (1, 0), (2, 0), (3, 2)] ?_
      refine gb0 [0, 1, 2] [(6, vI 0), (45, .agg #[vI 13, vI x1]), (44, vI x1)] ?_
      have hS24 := hS23.bring 1 rfl
      refine gs b1 0 #[vI 0, vI 0] 29 [vI 13, vI x1] hS24 fun w9 hS25 => ?_
      have hS26 : St w0 w9 [Own.blk b1 (.cells #[vI 13, vI x1] 29 (0, 0)), Own.of (.slice Z1 r2.length cz1) 46 r2] := hS25
      refine gn hK11 ?_
      have hS27 := hS26.takeN 0
      obtain rfl := si h
      exact we_ret (pr [.tmp 6, .cell 7 29] [vI 0, .agg #[vI 13, vI x1]] [.loaded ⟨b1, 0, none⟩ (vI 13), .loaded ⟨b1, 1, none⟩ (vI x1)] ⟨hS26.c 0, hS26.c 0, trivial⟩ ⟨rfl, hS27⟩)
     ·rw [if_neg hc7] at h
      refine wk 43 (r3 == 0) false (beq_eq_false_iff_ne.2 hc7) ?_
      refine we_false (by kernel_rfl) ?_
      refine we_skip fun a hF => hK9 _ _ ?_ a hF
      refine ws fun K12 hK12 => ?_
      refine wr [(0, 0), (1, 0), (2, 0), (3, 2)] ?_
      refine gb0 [0, 1, 2] [(6, vI r3), (47, .agg #[vI 0, vI 0]), (46, vI r3)] ?_
      have hS28 := hS23.bring 1 rfl
      refine gs b1 0 #[vI 0, vI 0] 29 [vI 0, vI 0] hS28 fun w10 hS29 => ?_
      have hS30 : St w0 w10 [Own.blk b1 (.cells #[vI 0, vI 0] 29 (0, 0)), Own.of (.slice Z1 r2.length cz1) 46 r2] := hS29
      refine gn hK12 ?_
      have hS31 := hS30.takeN 0
      obtain rfl := si h
      exact we_ret (pr [.tmp 6, .cell 7 29] [vI r3, .agg #[vI 0, vI 0]] [.loaded ⟨b1, 0, none⟩ (vI 0), .loaded ⟨b1, 1, none⟩ (vI 0)] ⟨hS30.c 0, hS30.c 0, trivial⟩ ⟨rfl, hS31⟩)
    ·rw [if_neg hc6] at h
     cases h
  ·rw [hq2] at h
   simp only [] at h
   refine we_keep (e' := [(0, .slice A0 l0.length c0), (1, vI x1), (2, vI x2), (6, vI 0), (7, pP b1 0), (8, pP b2 0), (10, .slice A0 l0.length c0), (11, .agg #[vI r1.Code, vI r1.At]), (12, pP b2 0), (13, vI r1.Code), (14, .bool false)]) ea (fixed_Response_p0 K w0 l0 A0 c0 x1 x2 hR0 hL0 b1 r1 b2 hc1 _ hq2 _ hS6 _ ?_)
   rintro _ a w1 ⟨_, rfl, hb⟩
   obtain rfl := si h
   exact hb
 ·rw [if_neg hc1] at h
  refine wk 14 (r1.Code != 0) true (bne_iff_ne.2 hc1) ?_
  refine we_true (by kernel_rfl) ?_
  refine ws fun K13 hK13 => ?_
  refine we_draws (by kernel_rfl) [(0, 0), (1, 0), (2, 2)] (by kernel_rfl) ?_
  have hS32 := hS6.drew
  refine gb [0, 1] [(6, vI 0), (15, .agg #[vI r1.Code, vI r1.At])] [.loaded ⟨b2, 0, none⟩ (vI r1.Code), .loaded ⟨b2, 1, none⟩ (vI r1.At)] ⟨hS32.c 0, hS32.c 0, trivial⟩ ?_
  have hS33 := hS32.bring 1 rfl
  refine gs b1 0 #[vI 0, vI 0] 29 [vI r1.Code, vI r1.At] hS33 fun w11 hS34 => ?_
  have hS35 : St w0 w11 [Own.blk b1 (.cells #[vI r1.Code, vI r1.At] 29 (0, 0)), Own.blk b2 (.cells #[vI r1.Code, vI r1.At] 29 (0, 0))] := hS34
  refine gn hK13 ?_
  have hS36 := hS35.takeN 0
  obtain rfl := si h
  exact we_ret (pr [.tmp 6, .cell 7 29] [vI 0, .agg #[vI r1.Code, vI r1.At]] [.loaded ⟨b1, 0, none⟩ (vI r1.Code), .loaded ⟨b1, 1, none⟩ (vI r1.At)] ⟨hS35.c 0, hS35.c 0, trivial⟩ ⟨rfl, hS36⟩)

/-! punctual/fixed.Responses -/
abbrev fixed_Responses.Post (w0 : World) (r : (List Int) × SFault) (e : Ending) (w : World) : Prop := ∃ (v0 : Value), e = .returned (.tuple #[v0, .agg #[vI r.2.Code, vI r.2.At]]) ∧ St w0 w [Own.of v0 3 r.1]
def fixed_Responses.r0 (K : Nat) (l0 : List STask) (l1 : List Int) : (List Int) × Nat → Option (((List Int) × Nat) ⊕ ((List Int) ⊕ ((List Int) × SFault)))
 | (m1, i1) =>
  if (i1 : Int) < (l1.length : Int) then
   match l1[i1]? with
   | none => none
   | some e1 =>
    match fixed_Response.f K l0 (i1 : Int) e1 with
    | none => none
    | some r2 =>
     if r2.2.Code = 0 then
      if m1.length < 17592186044416 then
       some (.inl ((m1 ++ [r2.1]), (i1 + 1)))
      else
       none
     else
      some (.inr (.inr (([] : List Int), r2.2)))
  else
   some (.inr (.inl m1))
def fixed_Responses.f (K : Nat) (l0 : List STask) (l1 : List Int) : Option ((List Int) × SFault) :=
 match fixed_check.f K l0 with
 | none => none
 | some r1 =>
  if r1.Code = 0 then
   if (l1.length : Int) = (l0.length : Int) then
    match iter (fixed_Responses.r0 K l0 l1) K (([] : List Int), 0) with
    | none => none
    | some (.inl m3) =>
     some (m3, (⟨0, 0⟩ : SFault))
    | some (.inr rr1) =>
     some rr1
   else
    some (([] : List Int), (⟨2, 0⟩ : SFault))
  else
   some (([] : List Int), r1)
abbrev fixed_Responses.A0 (w0 : World) (l0 : List STask) (A0 : Option Addr) (c0 : Nat) (l1 : List Int) (A1 : Option Addr) (c1 : Nat) (b1 : Nat) : ((List Int) × Nat) → Act → World → Prop := fun (s : (List Int) × Nat) a w => ∃ (v1 : Value), St w0 w [Own.blk b1 (.cells #[vI 0, vI 0] 29 (0, 0)), Own.of v1 3 s.1] ∧ Frm 49 a [(0, .slice A0 l0.length c0), (5, pP b1 0), (7, v1), (24, .slice A1 l1.length c1), (25, vI (l1.length : Int)), (26, vI (s.2 : Int))]
abbrev fixed_Responses.B0 (w0 : World) (b1 : Nat) : ((List Int) ⊕ ((List Int) × SFault)) → Exit → Act → World → Prop := Exits 0 (fun (s : (List Int)) a w => ∃ (v2 : Value), St w0 w [Own.blk b1 (.cells #[vI 0, vI 0] 29 (0, 0)), Own.of v2 3 s] ∧ Frm 49 a [(5, pP b1 0), (7, v2)]) (Rets Try.prog Try.f10 (fixed_Responses.Post w0))
theorem fixed_Responses_r0 (K : Nat) (w0 : World) (l0 : List STask) (A0 : Option Addr) (c0 : Nat) (l1 : List Int) (A1 : Option Addr) (c1 : Nat) (hR0 : RdL w0 A0 l0) (hL0 : l0.length ≤ c0) (hR1 : RdL w0 A1 l1) (hL1 : l1.length ≤ c1) (b1 : Nat) (r1 : SFault) (b2 : Nat) (hc1 : r1.Code = 0) (hc2 : (l1.length : Int) = (l0.length : Int)) (s : (List Int) × Nat) (o : ((List Int) × Nat) ⊕ ((List Int) ⊕ ((List Int) × SFault))) (h : fixed_Responses.r0 K l0 l1 s = some o) (a : Act) (w : World) (hA : fixed_Responses.A0 w0 l0 A0 c0 l1 A1 c1 b1 s a w) (Q : Exit → Act → World → Prop) (hQ : ∀ x a w, Outs (fixed_Responses.A0 w0 l0 A0 c0 l1 A1 c1 b1) (fixed_Responses.B0 w0 b1) o x a w → Q x a w) : (subF Try.f10 [1, 1, 1, 1, 0, 1, 0, 0]).wp Try.prog Q a w := by
 obtain ⟨m1, i1⟩ := s
 obtain ⟨v1, hS, hF⟩ := hA
 replace hS : St w0 w [Own.blk b1 (.cells #[vI 0, vI 0] 29 (0, 0)), Own.of v1 3 m1] := hS
 simp only [fixed_Responses.r0] at h
 refine (?_ : WE Try.prog 49 (subF Try.f10 [1, 1, 1, 1, 0, 1, 0, 0]) Q [(0, .slice A0 l0.length c0), (5, pP b1 0), (7, v1), (24, .slice A1 l1.length c1), (25, vI (l1.length : Int)), (26, vI (i1 : Int))] w) a hF
 clear hF a
 refine ws fun K10 hK10 => ?_
 refine wr [(0, 0)] ?_
 refine gb0 [0] [(27, .bool (decide ((i1 : Int) < (l1.length : Int))))] ?_
 refine gn hK10 ?_
 refine ws fun K11 hK11 => ?_
 by_cases hc3 : (i1 : Int) < (l1.length : Int)
 ·rw [if_pos hc3] at h
  refine wk 27 (decide ((i1 : Int) < (l1.length : Int))) true (decide_eq_true hc3) ?_
  refine we_true (by kernel_rfl) ?_
  refine we_skip fun a hF => hK11 _ _ ?_ a hF
  refine ws fun K12 hK12 => ?_
  refine we_block ?_
  refine ws fun K13 hK13 => ?_
  refine wr [(0, 0), (1, 0), (2, 0), (3, 0), (4, 0)] ?_
  refine gb0 [0] [(28, vI (i1 : Int))] ?_
  rcases hx3 : l1[i1]? with _ | e1
  ·rw [hx3] at h; cases h
  rw [hx3] at h
  simp only [] at h
  refine gi 29 0 24 3 1 l1.length c1 (.tmp 24) (.tmp 26) A1 .i64 (i1 : Int) i1 ((hS.rd hR1).eqSome (pos_of_get hx3)) rfl (lt_of_get hx3) ?_
  refine gb [2, 3, 4] [(9, vI e1), (8, vI (i1 : Int)), (30, vI e1)] [.loaded ⟨blkOf A1, offOf A1 + i1 * 1, none⟩ (vI e1)] ⟨RdL.cell (j := 0) (hS.rd hR1) hx3 rfl, trivial⟩ ?_
  refine gn hK13 ?_
  refine ws fun K14 hK14 => ?_
  refine wr [(0, 0), (1, 0), (2, 0), (3, 1), (4, 0), (5, 0), (6, 0), (7, 1), (8, 0), (9, 2)] ?_
  rcases hq2 : fixed_Response.f K l0 (i1 : Int) e1 with _ | r2
  ·rw [hq2] at h; cases h
  rw [hq2] at h
  simp only [] at h
  refine gb0 [0, 1, 2] [(34, vI e1), (33, vI (i1 : Int)), (32, .slice A0 l0.length c0)] ?_
  refine ge_call (d := some 35) (f := 20) (args := #[.slice A0 l0.length c0, vI (i1 : Int), vI e1]) (by kernel_rfl) (fixed_Response_ok K l0 A0 c0 (i1 : Int) e1 _ (hS.rd hR0) hL0 _ hq2) ?_
  rintro _ w5 ⟨rfl, hS10⟩
  refine ⟨_, rfl, hS10.below, ?_⟩
  have hS11 := hS.call hS10
  refine gb0 [4, 5, 6] [(37, .agg #[vI r2.2.Code, vI r2.2.At]), (36, vI r2.1), (31, .tuple #[vI r2.1, .agg #[vI r2.2.Code, vI r2.2.At]])] ?_
  refine gw (some 11) (.cells #[vI 0, vI 0] 29) (fun b => pP b 0) hS11 fun b3 w6 hx4 hS12 => ?_
  refine gb0 [8] [(10, vI r2.1)] ?_
  refine gs b3 0 #[vI 0, vI 0] 29 [vI r2.2.Code, vI r2.2.At] hS12 fun w7 hS13 => ?_
  have hS14 : St w0 w7 [Own.blk b3 (.cells #[vI r2.2.Code, vI r2.2.At] 29 (0, 0)), Own.blk b1 (.cells #[vI 0, vI 0] 29 (0, 0)), Own.of v1 3 m1] := hS13
  refine gn hK14 ?_
  refine ws fun K15 hK15 => ?_
  refine ws fun K16 hK16 => ?_
  refine wr [(0, 0), (1, 0), (2, 0)] ?_
  refine gb [0, 1, 2] [(40, .bool (r2.2.Code != 0)), (39, vI r2.2.Code), (38, pP b3 0)] [.loaded ⟨b3, 0, none⟩ (vI r2.2.Code)] ⟨hS14.c 0, trivial⟩ ?_
  refine gn hK16 ?_
  by_cases hc4 : r2.2.Code = 0
  ·rw [if_pos hc4] at h
   refine wk 40 (r2.2.Code != 0) false (bne_eq_false_iff_eq.2 hc4) ?_
   refine we_false (by kernel_rfl) ?_
   refine we_skip fun a hF => hK15 _ _ ?_ a hF
   refine wr [(0, 0), (1, 0), (2, 1), (3, 2), (4, 0)] ?_
   refine gb0 [0, 1] [(43, vI r2.1), (42, v1)] ?_
   refine gw (some 44) (.cells #[vI r2.1] 3) (fun b => .slice (some ⟨b, 0, none⟩) 1 1) hS14 fun b4 w8 hx5 hS15 => ?_
   have hS16 := hS15.bring 3 rfl
   by_cases hc5 : m1.length < 17592186044416
   ·rw [if_pos hc5] at h
    refine ge_append (α := Int) (m := 0) (d := 45) (t := 24) (el := 3) (bytes := 8) (c1 := 1) (b1 := b4) (x := (.tmp 42)) (y := (.tmp 44)) (ty := 24) (v := v1) (z := vI 0) (l := m1) (u := r2.1) (by kernel_rfl) (by kernel_rfl) (by kernel_rfl) (by kernel_rfl) (by kernel_rfl) rfl hS16 rfl (by omega) fun v3 w9 hS17 => ?_
    refine gb0 [4] [(7, v3)] ?_
    refine gn hK12 ?_
    refine wr [(0, 0), (1, 0)] ?_
    refine ge_addn (d := 46) (ty := 3) (x := (.tmp 26)) (y := (.const (vI 1))) (t := 3) (t2 := 3) (k := .i64) (m := i1) (by kernel_rfl) (by kernel_rfl) (by kernel_rfl) (by have h0 := hR1.small; omega) ?_
    refine gb0 [1] [(26, vI ((i1 + 1 : Nat) : Int))] ?_
    have hS18 := hS17.bring 2 rfl
    have hS19 := hS18.takeN 2
    obtain rfl := si h
    exact ge_nil fun a hF => hQ _ _ _ (Outs.again ⟨v3, hS19, hF.weaken ea⟩)
   ·rw [if_neg hc5] at h
    cases h
  ·rw [if_neg hc4] at h
   refine wk 40 (r2.2.Code != 0) true (bne_iff_ne.2 hc4) ?_
   refine we_true (by kernel_rfl) ?_
   refine ws fun K17 hK17 => ?_
   refine we_draws (by kernel_rfl) [(0, 0), (1, 0), (2, 2)] (by kernel_rfl) ?_
   have hS20 := hS14.drew
   refine gb [0, 1] [(4, .slice none 0 0), (41, .agg #[vI r2.2.Code, vI r2.2.At])] [.loaded ⟨b3, 0, none⟩ (vI r2.2.Code), .loaded ⟨b3, 1, none⟩ (vI r2.2.At)] ⟨hS20.c 0, hS20.c 0, trivial⟩ ?_
   have hS21 := hS20.bring 1 rfl
   refine gs b1 0 #[vI 0, vI 0] 29 [vI r2.2.Code, vI r2.2.At] hS21 fun w10 hS22 => ?_
   have hS23 : St w0 w10 [Own.blk b1 (.cells #[vI r2.2.Code, vI r2.2.At] 29 (0, 0)), Own.blk b3 (.cells #[vI r2.2.Code, vI r2.2.At] 29 (0, 0)), Own.of v1 3 m1] := hS22
   refine gn hK17 ?_
   have hS24 := hS23.nil (α := Int) 3
   have hS25 := hS24.takeN 1
   obtain rfl := si h
   exact we_ret fun a hF => hQ _ _ _ (Outs.out nofun (Exits.on ⟨rfl, (pr [.tmp 4, .cell 5 29] [(.slice none 0 0), .agg #[vI r2.2.Code, vI r2.2.At]] [.loaded ⟨b1, 0, none⟩ (vI r2.2.Code), .loaded ⟨b1, 1, none⟩ (vI r2.2.At)] ⟨hS24.c 1, hS24.c 1, trivial⟩ ⟨(.slice none 0 0), rfl, hS25⟩) a hF⟩))
 ·rw [if_neg hc3] at h
  refine wk 27 (decide ((i1 : Int) < (l1.length : Int))) false (decide_eq_false hc3) ?_
  refine we_false (by kernel_rfl) ?_
  have hS26 := hS.bring 1 rfl
  have hS27 := hS26.bring 1 rfl
  obtain rfl := si h
  exact we_exit fun a hF => hQ _ _ _ (Outs.out nofun (Exits.here ⟨v1, hS27, hF.weaken ea⟩))
theorem fixed_Responses_ok (K : Nat) (l0 : List STask) (A0 : Option Addr) (c0 : Nat) (l1 : List Int) (A1 : Option Addr) (c1 : Nat) (w0 : World) (hR0 : RdL w0 A0 l0) (hL0 : l0.length ≤ c0) (hR1 : RdL w0 A1 l1) (hL1 : l1.length ≤ c1) (r : (List Int) × SFault) (h : fixed_Responses.f K l0 l1 = some r) :
  Calls Try.prog 10 #[.slice A0 l0.length c0, .slice A1 l1.length c1] w0 (fixed_Responses.Post w0 r) := by
 have hS := St.start w0
 unfold fixed_Responses.f at h
 refine calls_enter (n := 49) (args := [.slice A0 l0.length c0, .slice A1 l1.length c1]) (fn := Try.f10) rfl rfl rfl rfl ?_
 show WE _ _ _ _ [(0, .slice A0 l0.length c0), (1, .slice A1 l1.length c1)] _
 refine ws fun K1 hK1 => ?_
 refine wr [(0, 0), (1, 1)] ?_
 refine gb0 [0] [(4, .slice none 0 0)] ?_
 refine gw (some 5) (.cells #[vI 0, vI 0] 29) (fun b => pP b 0) hS fun b1 w1 hx1 hS1 => ?_
 refine gn hK1 ?_
 refine ws fun K2 hK2 => ?_
 refine ws fun K3 hK3 => ?_
 refine wr [(0, 0), (1, 1), (2, 1), (3, 2)] ?_
 rcases hq1 : fixed_check.f K l0 with _ | r1
 ·rw [hq1] at h; cases h
 rw [hq1] at h
 simp only [] at h
 refine gb0 [0] [(12, .slice A0 l0.length c0)] ?_
 refine ge_call (d := some 13) (f := 26) (args := #[.slice A0 l0.length c0]) (by kernel_rfl) (fixed_check_ok K l0 A0 c0 _ (hS1.rd hR0) hL0 _ hq1) ?_
 rintro _ w2 ⟨rfl, hS2⟩
 refine ⟨_, rfl, hS2.below, ?_⟩
 have hS3 := hS1.call hS2
 refine gw (some 6) (.cells #[vI 0, vI 0] 29) (fun b => pP b 0) hS3 fun b2 w3 hx2 hS4 => ?_
 refine gs b2 0 #[vI 0, vI 0] 29 [vI r1.Code, vI r1.At] hS4 fun w4 hS5 => ?_
 have hS6 : St w0 w4 [Own.blk b2 (.cells #[vI r1.Code, vI r1.At] 29 (0, 0)), Own.blk b1 (.cells #[vI 0, vI 0] 29 (0, 0))] := hS5
 refine gn hK3 ?_
 refine ws fun K4 hK4 => ?_
 refine wr [(0, 0), (1, 0), (2, 0)] ?_
 refine gb [0, 1, 2] [(16, .bool (r1.Code != 0)), (15, vI r1.Code), (14, pP b2 0)] [.loaded ⟨b2, 0, none⟩ (vI r1.Code)] ⟨hS6.c 0, trivial⟩ ?_
 refine gn hK4 ?_
 by_cases hc1 : r1.Code = 0
 ·rw [if_pos hc1] at h
  refine wk 16 (r1.Code != 0) false (bne_eq_false_iff_eq.2 hc1) ?_
  refine we_false (by kernel_rfl) ?_
  refine we_skip fun a hF => hK2 _ _ ?_ a hF
  refine ws fun K5 hK5 => ?_
  refine ws fun K6 hK6 => ?_
  refine wr [(0, 0), (1, 0), (2, 0), (3, 0), (4, 0)] ?_
  refine gb0 [0, 1, 2, 3, 4] [(22, .bool ((l1.length : Int) != (l0.length : Int))), (21, vI (l0.length : Int)), (20, .slice A0 l0.length c0), (19, vI (l1.length : Int)), (18, .slice A1 l1.length c1)] ?_
  refine gn hK6 ?_
  by_cases hc2 : (l1.length : Int) = (l0.length : Int)
  ·rw [if_pos hc2] at h
   refine wk 22 ((l1.length : Int) != (l0.length : Int)) false (bne_eq_false_iff_eq.2 hc2) ?_
   refine we_false (by kernel_rfl) ?_
   refine we_skip fun a hF => hK5 _ _ ?_ a hF
   refine ws fun K7 hK7 => ?_
   refine wr [(0, 0)] ?_
   refine gb0 [0] [(7, .slice none 0 0)] ?_
   refine gn hK7 ?_
   refine ws fun K8 hK8 => ?_
   refine ws fun K9 hK9 => ?_
   refine wr [(0, 0), (1, 0), (2, 0)] ?_
   refine gb0 [0, 1, 2] [(26, vI 0), (25, vI (l1.length : Int)), (24, .slice A1 l1.length c1)] ?_
   refine gn hK9 ?_
   refine we_block ?_
   have hS7 := hS6.nil (α := Int) 3
   have hS8 := hS7.bring 2 rfl
   have hS9 := hS8.takeN 2
   rcases hq3 : iter (fixed_Responses.r0 K l0 l1) K (([] : List Int), 0) with _ | (m3 | rr1)
   ·rw [hq3] at h; cases h
   ·rw [hq3] at h
    simp only [] at h
    refine we_iter (A := fixed_Responses.A0 w0 l0 A0 c0 l1 A1 c1 b1) (B := fixed_Responses.B0 w0 b1) hq3 (fun a hF => ⟨(.slice none 0 0), hS9, hF.weaken ea⟩) (fun s o hf a w hA Q hQ => fixed_Responses_r0 K w0 l0 A0 c0 l1 A1 c1 hR0 hL0 hR1 hL1 b1 r1 b2 hc1 hc2 s o hf a w hA Q hQ) ?_
    rintro _ a w11 _ ⟨rfl, v4, hS28, hF⟩
    replace hS28 : St w0 w11 [Own.blk b1 (.cells #[vI 0, vI 0] 29 (0, 0)), Own.of v4 3 m3] := hS28
    refine hK8 [(5, pP b1 0), (7, v4)] w11 ?_ a hF
    refine ws fun K18 hK18 => ?_
    refine wr [(0, 0), (1, 0), (2, 0), (3, 2)] ?_
    refine gb0 [0, 1, 2] [(4, v4), (48, .agg #[vI 0, vI 0]), (47, v4)] ?_
    refine gs b1 0 #[vI 0, vI 0] 29 [vI 0, vI 0] hS28 fun w12 hS29 => ?_
    have hS30 : St w0 w12 [Own.blk b1 (.cells #[vI 0, vI 0] 29 (0, 0)), Own.of v4 3 m3] := hS29
    refine gn hK18 ?_
    have hS31 := hS30.bring 1 rfl
    have hS32 := hS31.takeN 1
    obtain rfl := si h
    exact we_ret (pr [.tmp 4, .cell 5 29] [v4, .agg #[vI 0, vI 0]] [.loaded ⟨b1, 0, none⟩ (vI 0), .loaded ⟨b1, 1, none⟩ (vI 0)] ⟨hS30.c 0, hS30.c 0, trivial⟩ ⟨v4, rfl, hS32⟩)
   ·rw [hq3] at h
    simp only [] at h
    refine we_iter (A := fixed_Responses.A0 w0 l0 A0 c0 l1 A1 c1 b1) (B := fixed_Responses.B0 w0 b1) hq3 (fun a hF => ⟨(.slice none 0 0), hS9, hF.weaken ea⟩) (fun s o hf a w hA Q hQ => fixed_Responses_r0 K w0 l0 A0 c0 l1 A1 c1 hR0 hL0 hR1 hL1 b1 r1 b2 hc1 hc2 s o hf a w hA Q hQ) ?_
    rintro _ a w1 _ ⟨rfl, hb⟩
    obtain rfl := si h
    exact hb
  ·rw [if_neg hc2] at h
   refine wk 22 ((l1.length : Int) != (l0.length : Int)) true (bne_iff_ne.2 hc2) ?_
   refine we_true (by kernel_rfl) ?_
   refine ws fun K19 hK19 => ?_
   refine wr [(0, 0), (1, 0), (2, 2)] ?_
   refine gb0 [0, 1] [(4, .slice none 0 0), (23, .agg #[vI 2, vI 0])] ?_
   have hS33 := hS6.bring 1 rfl
   refine gs b1 0 #[vI 0, vI 0] 29 [vI 2, vI 0] hS33 fun w13 hS34 => ?_
   have hS35 : St w0 w13 [Own.blk b1 (.cells #[vI 2, vI 0] 29 (0, 0)), Own.blk b2 (.cells #[vI r1.Code, vI r1.At] 29 (0, 0))] := hS34
   refine gn hK19 ?_
   have hS36 := hS35.nil (α := Int) 3
   have hS37 := hS36.takeN 1
   obtain rfl := si h
   exact we_ret (pr [.tmp 4, .cell 5 29] [(.slice none 0 0), .agg #[vI 2, vI 0]] [.loaded ⟨b1, 0, none⟩ (vI 2), .loaded ⟨b1, 1, none⟩ (vI 0)] ⟨hS36.c 1, hS36.c 1, trivial⟩ ⟨(.slice none 0 0), rfl, hS37⟩)
 ·rw [if_neg hc1] at h
  refine wk 16 (r1.Code != 0) true (bne_iff_ne.2 hc1) ?_
  refine we_true (by kernel_rfl) ?_
  refine ws fun K20 hK20 => ?_
  refine we_draws (by kernel_rfl) [(0, 0), (1, 0), (2, 2)] (by kernel_rfl) ?_
  have hS38 := hS6.drew
  refine gb [0, 1] [(4, .slice none 0 0), (17, .agg #[vI r1.Code, vI r1.At])] [.loaded ⟨b2, 0, none⟩ (vI r1.Code), .loaded ⟨b2, 1, none⟩ (vI r1.At)] ⟨hS38.c 0, hS38.c 0, trivial⟩ ?_
  have hS39 := hS38.bring 1 rfl
  refine gs b1 0 #[vI 0, vI 0] 29 [vI r1.Code, vI r1.At] hS39 fun w14 hS40 => ?_
  have hS41 : St w0 w14 [Own.blk b1 (.cells #[vI r1.Code, vI r1.At] 29 (0, 0)), Own.blk b2 (.cells #[vI r1.Code, vI r1.At] 29 (0, 0))] := hS40
  refine gn hK20 ?_
  have hS42 := hS41.nil (α := Int) 3
  have hS43 := hS42.takeN 1
  obtain rfl := si h
  exact we_ret (pr [.tmp 4, .cell 5 29] [(.slice none 0 0), .agg #[vI r1.Code, vI r1.At]] [.loaded ⟨b1, 0, none⟩ (vI r1.Code), .loaded ⟨b1, 1, none⟩ (vI r1.At)] ⟨hS42.c 1, hS42.c 1, trivial⟩ ⟨(.slice none 0 0), rfl, hS43⟩)

/-! punctual/punctualsame.Same[int] -/
abbrev punctualsame_Same_int.Post (w0 : World) (r : Bool) (e : Ending) (w : World) : Prop := e = .returned (.bool r) ∧ St w0 w []
def punctualsame_Same_int.r0 (l0 : List Int) (l1 : List Int) : Nat → Option (Nat ⊕ (Unit ⊕ Bool))
 | i1 =>
  if (i1 : Int) < (l0.length : Int) then
   match l0[i1]? with
   | none => none
   | some e1 =>
    match l1[i1]? with
    | none => none
    | some e2 =>
     if e1 = e2 then
      some (.inl (i1 + 1))
     else
      some (.inr (.inr false))
  else
   some (.inr (.inl ()))
def punctualsame_Same_int.f (K : Nat) (l0 : List Int) (l1 : List Int) : Option Bool :=
 if (l0.length : Int) = (l1.length : Int) then
  match iter (punctualsame_Same_int.r0 l0 l1) K 0 with
  | none => none
  | some (.inl _) =>
   some true
  | some (.inr rr1) =>
   some rr1
 else
  some false
abbrev punctualsame_Same_int.A0 (w0 : World) (l0 : List Int) (A0 : Option Addr) (c0 : Nat) (l1 : List Int) (A1 : Option Addr) (c1 : Nat) : Nat → Act → World → Prop := fun (s : Nat) a w => St w0 w [] ∧ Frm 26 a [(0, .slice A0 l0.length c0), (1, .slice A1 l1.length c1), (12, vI (l0.length : Int)), (13, vI (s : Int))]
abbrev punctualsame_Same_int.B0 (w0 : World) : (Unit ⊕ Bool) → Exit → Act → World → Prop := Exits 0 (fun (s : Unit) a w => St w0 w [] ∧ Frm 26 a []) (Rets Try.prog Try.f25 (punctualsame_Same_int.Post w0))
theorem punctualsame_Same_int_r0 (K : Nat) (w0 : World) (l0 : List Int) (A0 : Option Addr) (c0 : Nat) (l1 : List Int) (A1 : Option Addr) (c1 : Nat) (hR0 : RdL w0 A0 l0) (hL0 : l0.length ≤ c0) (hR1 : RdL w0 A1 l1) (hL1 : l1.length ≤ c1) (hc1 : (l0.length : Int) = (l1.length : Int)) (s : Nat) (o : Nat ⊕ (Unit ⊕ Bool)) (h : punctualsame_Same_int.r0 l0 l1 s = some o) (a : Act) (w : World) (hA : punctualsame_Same_int.A0 w0 l0 A0 c0 l1 A1 c1 s a w) (Q : Exit → Act → World → Prop) (hQ : ∀ x a w, Outs (punctualsame_Same_int.A0 w0 l0 A0 c0 l1 A1 c1) (punctualsame_Same_int.B0 w0) o x a w → Q x a w) : (subF Try.f25 [1, 1, 0, 1, 0, 0]).wp Try.prog Q a w := by
 obtain ⟨i1, hs⟩ : ∃ z, z = s := ⟨s, rfl⟩
 subst hs
 obtain ⟨hS, hF⟩ := hA
 replace hS : St w0 w [] := hS
 simp only [punctualsame_Same_int.r0] at h
 refine (?_ : WE Try.prog 26 (subF Try.f25 [1, 1, 0, 1, 0, 0]) Q [(0, .slice A0 l0.length c0), (1, .slice A1 l1.length c1), (12, vI (l0.length : Int)), (13, vI (i1 : Int))] w) a hF
 clear hF a
 refine ws fun K6 hK6 => ?_
 refine wr [(0, 0)] ?_
 refine gb0 [0] [(14, .bool (decide ((i1 : Int) < (l0.length : Int))))] ?_
 refine gn hK6 ?_
 refine ws fun K7 hK7 => ?_
 by_cases hc2 : (i1 : Int) < (l0.length : Int)
 ·rw [if_pos hc2] at h
  refine wk 14 (decide ((i1 : Int) < (l0.length : Int))) true (decide_eq_true hc2) ?_
  refine we_true (by kernel_rfl) ?_
  refine we_skip fun a hF => hK7 _ _ ?_ a hF
  refine ws fun K8 hK8 => ?_
  refine we_block ?_
  refine ws fun K9 hK9 => ?_
  refine wr [(0, 0), (1, 0)] ?_
  refine gb0 [0, 1] [(5, vI (i1 : Int)), (15, vI (i1 : Int))] ?_
  refine gn hK9 ?_
  refine ws fun K10 hK10 => ?_
  refine we_draws (by kernel_rfl) [(0, 0), (1, 0), (2, 0), (3, 0), (4, 0), (5, 0), (6, 0), (7, 0), (8, 0)] (by kernel_rfl) ?_
  have hS1 := hS.drew
  refine gb0 [0, 1] [(17, vI (i1 : Int)), (16, .slice A0 l0.length c0)] ?_
  rcases hx1 : l0[i1]? with _ | e1
  ·rw [hx1] at h; cases h
  rw [hx1] at h
  simp only [] at h
  refine gi 18 0 24 3 1 l0.length c0 (.tmp 16) (.tmp 17) A0 .i64 (i1 : Int) i1 ((hS1.rd hR0).eqSome (pos_of_get hx1)) rfl (lt_of_get hx1) ?_
  refine gb [3, 4, 5] [(21, vI (i1 : Int)), (20, .slice A1 l1.length c1), (19, vI e1)] [.loaded ⟨blkOf A0, offOf A0 + i1 * 1, none⟩ (vI e1)] ⟨RdL.cell (j := 0) (hS1.rd hR0) hx1 rfl, trivial⟩ ?_
  rcases hx2 : l1[i1]? with _ | e2
  ·rw [hx2] at h; cases h
  rw [hx2] at h
  simp only [] at h
  refine gi 22 0 24 3 1 l1.length c1 (.tmp 20) (.tmp 21) A1 .i64 (i1 : Int) i1 ((hS1.rd hR1).eqSome (pos_of_get hx2)) rfl (lt_of_get hx2) ?_
  refine gb [7, 8] [(24, .bool (e1 != e2)), (23, vI e2)] [.loaded ⟨blkOf A1, offOf A1 + i1 * 1, none⟩ (vI e2)] ⟨RdL.cell (j := 0) (hS1.rd hR1) hx2 rfl, trivial⟩ ?_
  refine gn hK10 ?_
  by_cases hc3 : e1 = e2
  ·rw [if_pos hc3] at h
   refine wk 24 (e1 != e2) false (bne_eq_false_iff_eq.2 hc3) ?_
   refine we_false (by kernel_rfl) ?_
   refine we_skip fun a hF => hK8 _ _ ?_ a hF
   refine wr [(0, 0), (1, 0)] ?_
   refine ge_addn (d := 25) (ty := 3) (x := (.tmp 13)) (y := (.const (vI 1))) (t := 3) (t2 := 3) (k := .i64) (m := i1) (by kernel_rfl) (by kernel_rfl) (by kernel_rfl) (by have h0 := hR0.small; omega) ?_
   refine gb0 [1] [(13, vI ((i1 + 1 : Nat) : Int))] ?_
   obtain rfl := si h
   exact ge_nil fun a hF => hQ _ _ _ (Outs.again ⟨hS1, hF.weaken ea⟩)
  ·rw [if_neg hc3] at h
   refine wk 24 (e1 != e2) true (bne_iff_ne.2 hc3) ?_
   refine we_true (by kernel_rfl) ?_
   refine ws fun K11 hK11 => ?_
   refine wr [(0, 0)] ?_
   refine gb0 [0] [(4, .bool false)] ?_
   refine gn hK11 ?_
   obtain rfl := si h
   exact we_ret fun a hF => hQ _ _ _ (Outs.out nofun (Exits.on ⟨rfl, (pr0 [.tmp 4] [.bool false] ⟨rfl, hS1⟩) a hF⟩))
 ·rw [if_neg hc2] at h
  refine wk 14 (decide ((i1 : Int) < (l0.length : Int))) false (decide_eq_false hc2) ?_
  refine we_false (by kernel_rfl) ?_
  obtain rfl := si h
  exact we_exit fun a hF => hQ _ _ _ (Outs.out nofun (Exits.here ⟨hS, hF.weaken trivial⟩))
theorem punctualsame_Same_int_ok (K : Nat) (l0 : List Int) (A0 : Option Addr) (c0 : Nat) (l1 : List Int) (A1 : Option Addr) (c1 : Nat) (w0 : World) (hR0 : RdL w0 A0 l0) (hL0 : l0.length ≤ c0) (hR1 : RdL w0 A1 l1) (hL1 : l1.length ≤ c1) (r : Bool) (h : punctualsame_Same_int.f K l0 l1 = some r) :
  Calls Try.prog 25 #[.slice A0 l0.length c0, .slice A1 l1.length c1] w0 (punctualsame_Same_int.Post w0 r) := by
 have hS := St.start w0
 unfold punctualsame_Same_int.f at h
 refine calls_enter (n := 26) (args := [.slice A0 l0.length c0, .slice A1 l1.length c1]) (fn := Try.f25) rfl rfl rfl rfl ?_
 show WE _ _ _ _ [(0, .slice A0 l0.length c0), (1, .slice A1 l1.length c1)] _
 refine ws fun K1 hK1 => ?_
 refine wr [(0, 0)] ?_
 refine gb0 [0] [(4, .bool false)] ?_
 refine gn hK1 ?_
 refine ws fun K2 hK2 => ?_
 refine ws fun K3 hK3 => ?_
 refine wr [(0, 0), (1, 0), (2, 0), (3, 0), (4, 0)] ?_
 refine gb0 [0, 1, 2, 3, 4] [(10, .bool ((l0.length : Int) != (l1.length : Int))), (9, vI (l1.length : Int)), (8, .slice A1 l1.length c1), (7, vI (l0.length : Int)), (6, .slice A0 l0.length c0)] ?_
 refine gn hK3 ?_
 by_cases hc1 : (l0.length : Int) = (l1.length : Int)
 ·rw [if_pos hc1] at h
  refine wk 10 ((l0.length : Int) != (l1.length : Int)) false (bne_eq_false_iff_eq.2 hc1) ?_
  refine we_false (by kernel_rfl) ?_
  refine we_skip fun a hF => hK2 _ _ ?_ a hF
  refine ws fun K4 hK4 => ?_
  refine ws fun K5 hK5 => ?_
  refine wr [(0, 0), (1, 0), (2, 0)] ?_
  refine gb0 [0, 1, 2] [(13, vI 0), (12, vI (l0.length : Int)), (11, .slice A0 l0.length c0)] ?_
  refine gn hK5 ?_
  refine we_block ?_
  rcases hq1 : iter (punctualsame_Same_int.r0 l0 l1) K 0 with _ | (_ | rr1)
  ·rw [hq1] at h; cases h
  ·rw [hq1] at h
   simp only [] at h
   refine we_iter (A := punctualsame_Same_int.A0 w0 l0 A0 c0 l1 A1 c1) (B := punctualsame_Same_int.B0 w0) hq1 (fun a hF => ⟨hS, hF.weaken ea⟩) (fun s o hf a w hA Q hQ => punctualsame_Same_int_r0 K w0 l0 A0 c0 l1 A1 c1 hR0 hL0 hR1 hL1 hc1 s o hf a w hA Q hQ) ?_
   rintro _ a w1 _ ⟨rfl, hS2, hF⟩
   replace hS2 : St w0 w1 [] := hS2
   refine hK4 [] w1 ?_ a hF
   refine ws fun K12 hK12 => ?_
   refine wr [(0, 0)] ?_
   refine gb0 [0] [(4, .bool true)] ?_
   refine gn hK12 ?_
   obtain rfl := si h
   exact we_ret (pr0 [.tmp 4] [.bool true] ⟨rfl, hS2⟩)
  ·rw [hq1] at h
   simp only [] at h
   refine we_iter (A := punctualsame_Same_int.A0 w0 l0 A0 c0 l1 A1 c1) (B := punctualsame_Same_int.B0 w0) hq1 (fun a hF => ⟨hS, hF.weaken ea⟩) (fun s o hf a w hA Q hQ => punctualsame_Same_int_r0 K w0 l0 A0 c0 l1 A1 c1 hR0 hL0 hR1 hL1 hc1 s o hf a w hA Q hQ) ?_
   rintro _ a w1 _ ⟨rfl, hb⟩
   obtain rfl := si h
   exact hb
 ·rw [if_neg hc1] at h
  refine wk 10 ((l0.length : Int) != (l1.length : Int)) true (bne_iff_ne.2 hc1) ?_
  refine we_true (by kernel_rfl) ?_
  refine ws fun K13 hK13 => ?_
  refine wr [(0, 0)] ?_
  refine gb0 [0] [(4, .bool false)] ?_
  refine gn hK13 ?_
  obtain rfl := si h
  exact we_ret (pr0 [.tmp 4] [.bool false] ⟨rfl, hS⟩)

/-! punctual/punctuallaw.responds -/
abbrev responds.Post (w0 : World) (r : Bool) (e : Ending) (w : World) : Prop := e = .returned (.bool r) ∧ St w0 w []
def responds.f (K : Nat) : Option Bool :=
 match fixed_Responses.f K three.f ([0, 0, 0] : List Int) with
 | none => none
 | some r1 =>
  if r1.2.Code = 0 then
   match punctualsame_Same_int.f K r1.1 ([1, 3, 10] : List Int) with
   | none => none
   | some r2 =>
    some r2
  else
   some false
theorem responds_ok (K : Nat)  (w0 : World) (r : Bool) (h : responds.f K = some r) :
  Calls Try.prog 7 #[] w0 (responds.Post w0 r) := by
 have hS := St.start w0
 unfold responds.f at h
 refine calls_enter (n := 17) (args := []) (fn := Try.f7) rfl rfl rfl rfl ?_
 show WE _ _ _ _ [] _
 refine ws fun K1 hK1 => ?_
 refine wr [(0, 0)] ?_
 refine gb0 [0] [(0, .bool false)] ?_
 refine gn hK1 ?_
 refine ws fun K2 hK2 => ?_
 refine wr [(0, 1), (1, 1), (2, 1), (3, 0), (4, 0), (5, 0), (6, 1), (7, 0), (8, 2)] ?_
 refine ge_call (d := some 4) (f := 24) (args := #[]) (by kernel_rfl) (three_ok _ _ rfl) ?_
 rintro _ w1 ⟨v1, rfl, hS1⟩
 refine ⟨_, rfl, hS1.below, ?_⟩
 have hS2 := hS.call hS1
 refine gw (some 5) (.cells #[vI 0, vI 0, vI 0] 3) (fun b => .slice (some ⟨b, 0, none⟩) 3 3) hS2 fun b1 w2 hx1 hS3 => ?_
 obtain ⟨Z1, cz1, rfl⟩ := hS3.open 1 rfl
 rcases hq2 : fixed_Responses.f K three.f ([0, 0, 0] : List Int) with _ | r1
 ·rw [hq2] at h; cases h
 rw [hq2] at h
 simp only [] at h
 refine ge_call (d := some 6) (f := 10) (args := #[(.slice Z1 three.f.length cz1), .slice (some ⟨b1, 0, none⟩) 3 3]) (by kernel_rfl) (fixed_Responses_ok K three.f Z1 cz1 ([0, 0, 0] : List Int) (some ⟨b1, 0, none⟩) 3 _ (hS3.rdAt 1 rfl) (hS3.capAt 1 rfl) (hS3.rdBlk 0 ([0, 0, 0] : List Int) rfl rfl rfl) (Nat.le_refl _) _ hq2) ?_
 rintro _ w3 ⟨v2, rfl, hS4⟩
 refine ⟨_, rfl, hS4.below, ?_⟩
 have hS5 := hS3.call hS4
 refine gb0 [3, 4, 5] [(8, .agg #[vI r1.2.Code, vI r1.2.At]), (7, v2), (3, .tuple #[v2, .agg #[vI r1.2.Code, vI r1.2.At]])] ?_
 refine gw (some 2) (.cells #[vI 0, vI 0] 29) (fun b => pP b 0) hS5 fun b2 w4 hx2 hS6 => ?_
 refine gb0 [7] [(1, v2)] ?_
 refine gs b2 0 #[vI 0, vI 0] 29 [vI r1.2.Code, vI r1.2.At] hS6 fun w5 hS7 => ?_
 have hS8 : St w0 w5 [Own.blk b2 (.cells #[vI r1.2.Code, vI r1.2.At] 29 (0, 0)), Own.of v2 3 r1.1, Own.blk b1 (.cells #[vI 0, vI 0, vI 0] 3 (0, 0)), Own.of (.slice Z1 three.f.length cz1) 46 three.f] := hS7
 refine gn hK2 ?_
 refine ws fun K3 hK3 => ?_
 refine wr [(0, 0), (1, 0), (2, 0), (3, 0), (4, 0), (5, 1), (6, 1), (7, 0), (8, 0)] ?_
 refine gb [0, 1, 2, 3] [(12, .bool (r1.2.Code == 0)), (11, .bool (r1.2.Code == 0)), (10, vI r1.2.Code), (9, pP b2 0)] [.loaded ⟨b2, 0, none⟩ (vI r1.2.Code)] ⟨hS8.c 0, trivial⟩ ?_
 by_cases hc1 : r1.2.Code = 0
 ·rw [if_pos hc1] at h
  refine gk 12 (r1.2.Code == 0) true (beq_iff_eq.2 hc1) ?_
  refine gb0 [4] [(13, v2)] ?_
  refine gw (some 14) (.cells #[vI 1, vI 3, vI 10] 3) (fun b => .slice (some ⟨b, 0, none⟩) 3 3) hS8 fun b3 w6 hx3 hS9 => ?_
  obtain ⟨Z2, cz2, rfl⟩ := hS9.open 2 rfl
  rcases hq3 : punctualsame_Same_int.f K r1.1 ([1, 3, 10] : List Int) with _ | r2
  ·rw [hq3] at h; cases h
  rw [hq3] at h
  simp only [] at h
  refine ge_call (d := some 15) (f := 25) (args := #[(.slice Z2 r1.1.length cz2), .slice (some ⟨b3, 0, none⟩) 3 3]) (by kernel_rfl) (punctualsame_Same_int_ok K r1.1 Z2 cz2 ([1, 3, 10] : List Int) (some ⟨b3, 0, none⟩) 3 _ (hS9.rdAt 2 rfl) (hS9.capAt 2 rfl) (hS9.rdBlk 0 ([1, 3, 10] : List Int) rfl rfl rfl) (Nat.le_refl _) _ hq3) ?_
  rintro _ w7 ⟨rfl, hS10⟩
  refine ⟨_, rfl, hS10.below, ?_⟩
  have hS11 := hS9.call hS10
  refine gb0 [7, 8] [(0, .bool r2), (16, .bool r2)] ?_
  refine gn hK3 ?_
  have hS12 := hS11.takeN 0
  obtain rfl := si h
  exact we_ret (pr0 [.tmp 0] [.bool r2] ⟨rfl, hS12⟩)
 ·rw [if_neg hc1] at h
  refine gk 12 (r1.2.Code == 0) false (beq_eq_false_iff_ne.2 hc1) ?_
  refine gb0 [4] [(13, undef)] ?_
  refine ge_off rfl rfl rfl (by kernel_rfl) ?_
  refine ge_off rfl rfl rfl (by kernel_rfl) ?_
  refine gb0 [7, 8] [(0, .bool false), (16, .bool false)] ?_
  refine gn hK3 ?_
  have hS13 := hS8.takeN 0
  obtain rfl := si h
  exact we_ret (pr0 [.tmp 0] [.bool false] ⟨rfl, hS13⟩)

structure SJob where
 Task : Int
 At : Int
 C : Int
 Due : Int
 P : Int
def SJob.eqb (x y : SJob) : Bool := ((x.Task == y.Task) && ((x.At == y.At) && ((x.C == y.C) && ((x.Due == y.Due) && ((x.P == y.P) && true)))))
instance : Ok SJob := ⟨fun x => Ok.ok x.Task ∧ Ok.ok x.At ∧ Ok.ok x.C ∧ Ok.ok x.Due ∧ Ok.ok x.P ∧ True⟩
instance : Flat SJob := ⟨5, fun x => [vI x.Task, vI x.At, vI x.C, vI x.Due, vI x.P], fun _ => rfl, fun _ => rfl, by decide⟩

/-! punctual/sched.Check -/
abbrev sched_Check.Post (w0 : World) (r : SFault) (e : Ending) (w : World) : Prop := e = .returned (.agg #[vI r.Code, vI r.At]) ∧ St w0 w []
def sched_Check.r0 (l0 : List SJob) : Nat → Option (Nat ⊕ (Unit ⊕ SFault))
 | i1 =>
  if (i1 : Int) < (l0.length : Int) then
   match l0[i1]? with
   | none => none
   | some e1 =>
    if e1.At < 0 then
     some (.inr (.inr (⟨3, (i1 : Int)⟩ : SFault)))
    else
     if e1.At > 60000 then
      some (.inr (.inr (⟨3, (i1 : Int)⟩ : SFault)))
     else
      if e1.C < 1 then
       some (.inr (.inr (⟨3, (i1 : Int)⟩ : SFault)))
      else
       if e1.C > 10000 then
        some (.inr (.inr (⟨3, (i1 : Int)⟩ : SFault)))
       else
        if e1.Due < 0 then
         some (.inr (.inr (⟨3, (i1 : Int)⟩ : SFault)))
        else
         if e1.Due > 80000 then
          some (.inr (.inr (⟨3, (i1 : Int)⟩ : SFault)))
         else
          some (.inl (i1 + 1))
  else
   some (.inr (.inl ()))
def sched_Check.f (K : Nat) (l0 : List SJob) : Option SFault :=
 if (l0.length : Int) > 4000 then
  some (⟨2, 0⟩ : SFault)
 else
  match iter (sched_Check.r0 l0) K 0 with
  | none => none
  | some (.inl _) =>
   some (⟨0, 0⟩ : SFault)
  | some (.inr rr1) =>
   some rr1
abbrev sched_Check.A0 (w0 : World) (l0 : List SJob) (A0 : Option Addr) (c0 : Nat) (b1 : Nat) : Nat → Act → World → Prop := fun (s : Nat) a w => St w0 w [Own.blk b1 (.cells #[vI 0, vI 0] 29 (0, 0))] ∧ Frm 48 a [(2, pP b1 0), (9, .slice A0 l0.length c0), (10, vI (l0.length : Int)), (11, vI (s : Int))]
abbrev sched_Check.B0 (w0 : World) (b1 : Nat) : (Unit ⊕ SFault) → Exit → Act → World → Prop := Exits 0 (fun (s : Unit) a w => St w0 w [Own.blk b1 (.cells #[vI 0, vI 0] 29 (0, 0))] ∧ Frm 48 a [(2, pP b1 0)]) (Rets Try.prog Try.f21 (sched_Check.Post w0))
theorem sched_Check_r0 (K : Nat) (w0 : World) (l0 : List SJob) (A0 : Option Addr) (c0 : Nat) (hR0 : RdL w0 A0 l0) (hL0 : l0.length ≤ c0) (b1 : Nat) (hc1 : ¬ ((l0.length : Int) > 4000)) (s : Nat) (o : Nat ⊕ (Unit ⊕ SFault)) (h : sched_Check.r0 l0 s = some o) (a : Act) (w : World) (hA : sched_Check.A0 w0 l0 A0 c0 b1 s a w) (Q : Exit → Act → World → Prop) (hQ : ∀ x a w, Outs (sched_Check.A0 w0 l0 A0 c0 b1) (sched_Check.B0 w0 b1) o x a w → Q x a w) : (subF Try.f21 [1, 1, 0, 1, 0, 0]).wp Try.prog Q a w := by
 obtain ⟨i1, hs⟩ : ∃ z, z = s := ⟨s, rfl⟩
 subst hs
 obtain ⟨hS, hF⟩ := hA
 replace hS : St w0 w [Own.blk b1 (.cells #[vI 0, vI 0] 29 (0, 0))] := hS
 simp only [sched_Check.r0] at h
 refine (?_ : WE Try.prog 48 (subF Try.f21 [1, 1, 0, 1, 0, 0]) Q [(2, pP b1 0), (9, .slice A0 l0.length c0), (10, vI (l0.length : Int)), (11, vI (i1 : Int))] w) a hF
 clear hF a
 refine ws fun K7 hK7 => ?_
 refine wr [(0, 0)] ?_
 refine gb0 [0] [(12, .bool (decide ((i1 : Int) < (l0.length : Int))))] ?_
 refine gn hK7 ?_
 refine ws fun K8 hK8 => ?_
 by_cases hc2 : (i1 : Int) < (l0.length : Int)
 ·rw [if_pos hc2] at h
  refine wk 12 (decide ((i1 : Int) < (l0.length : Int))) true (decide_eq_true hc2) ?_
  refine we_true (by kernel_rfl) ?_
  refine we_skip fun a hF => hK8 _ _ ?_ a hF
  refine ws fun K9 hK9 => ?_
  refine we_block ?_
  refine ws fun K10 hK10 => ?_
  refine wr [(0, 0), (1, 0), (2, 0), (3, 1), (4, 0), (5, 2)] ?_
  refine gb0 [0] [(13, vI (i1 : Int))] ?_
  rcases hx2 : l0[i1]? with _ | e1
  ·rw [hx2] at h; cases h
  rw [hx2] at h
  simp only [] at h
  refine gi 14 0 32 59 5 l0.length c0 (.tmp 9) (.tmp 11) A0 .i64 (i1 : Int) i1 ((hS.rd hR0).eqSome (pos_of_get hx2)) rfl (lt_of_get hx2) ?_
  refine gb [2] [(15, .agg #[vI e1.Task, vI e1.At, vI e1.C, vI e1.Due, vI e1.P])] [.loaded ⟨blkOf A0, offOf A0 + i1 * 5, none⟩ (vI e1.Task), .loaded ⟨blkOf A0, offOf A0 + i1 * 5 + 1, none⟩ (vI e1.At), .loaded ⟨blkOf A0, offOf A0 + i1 * 5 + 2, none⟩ (vI e1.C), .loaded ⟨blkOf A0, offOf A0 + i1 * 5 + 3, none⟩ (vI e1.Due), .loaded ⟨blkOf A0, offOf A0 + i1 * 5 + 4, none⟩ (vI e1.P)] ⟨RdL.cell (j := 0) (hS.rd hR0) hx2 rfl, RdL.cell (j := 1) (hS.rd hR0) hx2 rfl, RdL.cell (j := 2) (hS.rd hR0) hx2 rfl, RdL.cell (j := 3) (hS.rd hR0) hx2 rfl, RdL.cell (j := 4) (hS.rd hR0) hx2 rfl, trivial⟩ ?_
  refine gw (some 4) (.cells #[vI 0, vI 0, vI 0, vI 0, vI 0] 59) (fun b => pP b 0) hS fun b2 w3 hx3 hS5 => ?_
  refine gb0 [4] [(3, vI (i1 : Int))] ?_
  refine gs b2 0 #[vI 0, vI 0, vI 0, vI 0, vI 0] 59 [vI e1.Task, vI e1.At, vI e1.C, vI e1.Due, vI e1.P] hS5 fun w4 hS6 => ?_
  have hS7 : St w0 w4 [Own.blk b2 (.cells #[vI e1.Task, vI e1.At, vI e1.C, vI e1.Due, vI e1.P] 59 (0, 0)), Own.blk b1 (.cells #[vI 0, vI 0] 29 (0, 0))] := hS6
  refine gn hK10 ?_
  refine ws fun K11 hK11 => ?_
  refine wr [(0, 0), (1, 0), (2, 0), (3, 0), (4, 0), (5, 0), (6, 0), (7, 0), (8, 0), (9, 0), (10, 0), (11, 0), (12, 0), (13, 0), (14, 0), (15, 0), (16, 0), (17, 0), (18, 0), (19, 0), (20, 0), (21, 0), (22, 0), (23, 0), (24, 0), (25, 0), (26, 0), (27, 0)] ?_
  refine gb [0, 1, 2, 3] [(19, .bool (decide (e1.At < 0))), (18, .bool (decide (e1.At < 0))), (17, vI e1.At), (16, pP b2 1)] [.loaded ⟨b2, 1, none⟩ (vI e1.At)] ⟨hS7.c 0, trivial⟩ ?_
  by_cases hc3 : e1.At < 0
  ·rw [if_pos hc3] at h
   refine gk 19 (decide (e1.At < 0)) true (decide_eq_true hc3) ?_
   refine gb0 [4, 5, 6, 7, 8, 9, 10, 11, 12, 13, 14, 15, 16, 17, 18, 19, 20, 21, 22, 23, 24, 25, 26, 27] [(43, .bool true), (42, undef), (41, undef), (40, undef), (39, .bool true), (38, .bool true), (37, undef), (36, undef), (35, undef), (34, .bool true), (33, .bool true), (32, undef), (31, undef), (30, undef), (29, .bool true), (28, .bool true), (27, undef), (26, undef), (25, undef), (24, .bool true), (23, .bool true), (22, undef), (21, undef), (20, undef)] ?_
   refine gn hK11 ?_
   refine we_true (by kernel_rfl) ?_
   refine ws fun K12 hK12 => ?_
   refine wr [(0, 0), (1, 0), (2, 2)] ?_
   refine gb0 [0, 1] [(45, .agg #[vI 3, vI (i1 : Int)]), (44, vI (i1 : Int))] ?_
   have hS8 := hS7.bring 1 rfl
   refine gs b1 0 #[vI 0, vI 0] 29 [vI 3, vI (i1 : Int)] hS8 fun w5 hS9 => ?_
   have hS10 : St w0 w5 [Own.blk b1 (.cells #[vI 3, vI (i1 : Int)] 29 (0, 0)), Own.blk b2 (.cells #[vI e1.Task, vI e1.At, vI e1.C, vI e1.Due, vI e1.P] 59 (0, 0))] := hS9
   refine gn hK12 ?_
   have hS11 := hS10.takeN 0
   obtain rfl := si h
   exact we_ret fun a hF => hQ _ _ _ (Outs.out nofun (Exits.on ⟨rfl, (pr [.cell 2 29] [.agg #[vI 3, vI (i1 : Int)]] [.loaded ⟨b1, 0, none⟩ (vI 3), .loaded ⟨b1, 1, none⟩ (vI (i1 : Int))] ⟨hS10.c 0, hS10.c 0, trivial⟩ ⟨rfl, hS11⟩) a hF⟩))
  ·rw [if_neg hc3] at h
   refine gk 19 (decide (e1.At < 0)) false (decide_eq_false hc3) ?_
   refine gb [4, 5, 6, 7, 8] [(24, .bool (decide (e1.At > 60000))), (23, .bool (decide (e1.At > 60000))), (22, .bool (decide (e1.At > 60000))), (21, vI e1.At), (20, pP b2 1)] [.loaded ⟨b2, 1, none⟩ (vI e1.At)] ⟨hS7.c 0, trivial⟩ ?_
   by_cases hc4 : e1.At > 60000
   ·rw [if_pos hc4] at h
    refine gk 24 (decide (e1.At > 60000)) true (decide_eq_true hc4) ?_
    refine gb0 [9, 10, 11, 12, 13, 14, 15, 16, 17, 18, 19, 20, 21, 22, 23, 24, 25, 26, 27] [(43, .bool true), (42, undef), (41, undef), (40, undef), (39, .bool true), (38, .bool true), (37, undef), (36, undef), (35, undef), (34, .bool true), (33, .bool true), (32, undef), (31, undef), (30, undef), (29, .bool true), (28, .bool true), (27, undef), (26, undef), (25, undef)] ?_
    refine gn hK11 ?_
    refine we_true (by kernel_rfl) ?_
    refine ws fun K13 hK13 => ?_
    refine wr [(0, 0), (1, 0), (2, 2)] ?_
    refine gb0 [0, 1] [(45, .agg #[vI 3, vI (i1 : Int)]), (44, vI (i1 : Int))] ?_
    have hS12 := hS7.bring 1 rfl
    refine gs b1 0 #[vI 0, vI 0] 29 [vI 3, vI (i1 : Int)] hS12 fun w6 hS13 => ?_
    have hS14 : St w0 w6 [Own.blk b1 (.cells #[vI 3, vI (i1 : Int)] 29 (0, 0)), Own.blk b2 (.cells #[vI e1.Task, vI e1.At, vI e1.C, vI e1.Due, vI e1.P] 59 (0, 0))] := hS13
    refine gn hK13 ?_
    have hS15 := hS14.takeN 0
    obtain rfl := si h
    exact we_ret fun a hF => hQ _ _ _ (Outs.out nofun (Exits.on ⟨rfl, (pr [.cell 2 29] [.agg #[vI 3, vI (i1 : Int)]] [.loaded ⟨b1, 0, none⟩ (vI 3), .loaded ⟨b1, 1, none⟩ (vI (i1 : Int))] ⟨hS14.c 0, hS14.c 0, trivial⟩ ⟨rfl, hS15⟩) a hF⟩))
   ·rw [if_neg hc4] at h
    refine gk 24 (decide (e1.At > 60000)) false (decide_eq_false hc4) ?_
    refine gb [9, 10, 11, 12, 13] [(29, .bool (decide (e1.C < 1))), (28, .bool (decide (e1.C < 1))), (27, .bool (decide (e1.C < 1))), (26, vI e1.C), (25, pP b2 2)] [.loaded ⟨b2, 2, none⟩ (vI e1.C)] ⟨hS7.c 0, trivial⟩ ?_
    by_cases hc5 : e1.C < 1
    ·rw [if_pos hc5] at h
     refine gk 29 (decide (e1.C < 1)) true (decide_eq_true hc5) ?_
     refine gb0 [14, 15, 16, 17, 18, 19, 20, 21, 22, 23, 24, 25, 26, 27] [(43, .bool true), (42, undef), (41, undef), (40, undef), (39, .bool true), (38, .bool true), (37, undef), (36, undef), (35, undef), (34, .bool true), (33, .bool true), (32, undef), (31, undef), (30, undef)] ?_
     refine gn hK11 ?_
     refine we_true (by kernel_rfl) ?_
     refine ws fun K14 hK14 => ?_
     refine wr [(0, 0), (1, 0), (2, 2)] ?_
     refine gb0 [0, 1] [(45, .agg #[vI 3, vI (i1 : Int)]), (44, vI (i1 : Int))] ?_
     have hS16 := hS7.bring 1 rfl
     refine gs b1 0 #[vI 0, vI 0] 29 [vI 3, vI (i1 : Int)] hS16 fun w7 hS17 => ?_
     have hS18 : St w0 w7 [Own.blk b1 (.cells #[vI 3, vI (i1 : Int)] 29 (0, 0)), Own.blk b2 (.cells #[vI e1.Task, vI e1.At, vI e1.C, vI e1.Due, vI e1.P] 59 (0, 0))] := hS17
     refine gn hK14 ?_
     have hS19 := hS18.takeN 0
     obtain rfl := si h
     exact we_ret fun a hF => hQ _ _ _ (Outs.out nofun (Exits.on ⟨rfl, (pr [.cell 2 29] [.agg #[vI 3, vI (i1 : Int)]] [.loaded ⟨b1, 0, none⟩ (vI 3), .loaded ⟨b1, 1, none⟩ (vI (i1 : Int))] ⟨hS18.c 0, hS18.c 0, trivial⟩ ⟨rfl, hS19⟩) a hF⟩))
    ·rw [if_neg hc5] at h
     refine gk 29 (decide (e1.C < 1)) false (decide_eq_false hc5) ?_
     refine gb [14, 15, 16, 17, 18] [(34, .bool (decide (e1.C > 10000))), (33, .bool (decide (e1.C > 10000))), (32, .bool (decide (e1.C > 10000))), (31, vI e1.C), (30, pP b2 2)] [.loaded ⟨b2, 2, none⟩ (vI e1.C)] ⟨hS7.c 0, trivial⟩ ?_
     by_cases hc6 : e1.C > 10000
     ·rw [if_pos hc6] at h
      refine gk 34 (decide (e1.C > 10000)) true (decide_eq_true hc6) ?_
      refine gb0 [19, 20, 21, 22, 23, 24, 25, 26, 27] [(43, .bool true), (42, undef), (41, undef), (40, undef), (39, .bool true), (38, .bool true), (37, undef), (36, undef), (35, undef)] ?_
      refine gn hK11 ?_
      refine we_true (by kernel_rfl) ?_
      refine ws fun K15 hK15 => ?_
      refine wr [(0, 0), (1, 0), (2, 2)] ?_
      refine gb0 [0, 1] [(45, .agg #[vI 3, vI (i1 : Int)]), (44, vI (i1 : Int))] ?_
      have hS20 := hS7.bring 1 rfl
      refine gs b1 0 #[vI 0, vI 0] 29 [vI 3, vI (i1 : Int)] hS20 fun w8 hS21 => ?_
      have hS22 : St w0 w8 [Own.blk b1 (.cells #[vI 3, vI (i1 : Int)] 29 (0, 0)), Own.blk b2 (.cells #[vI e1.Task, vI e1.At, vI e1.C, vI e1.Due, vI e1.P] 59 (0, 0))] := hS21
      refine gn hK15 ?_
      have hS23 := hS22.takeN 0
      obtain rfl := si h
      exact we_ret fun a hF => hQ _ _ _ (Outs.out nofun (Exits.on ⟨rfl, (pr [.cell 2 29] [.agg #[vI 3, vI (i1 : Int)]] [.loaded ⟨b1, 0, none⟩ (vI 3), .loaded ⟨b1, 1, none⟩ (vI (i1 : Int))] ⟨hS22.c 0, hS22.c 0, trivial⟩ ⟨rfl, hS23⟩) a hF⟩))
     ·rw [if_neg hc6] at h
      refine gk 34 (decide (e1.C > 10000)) false (decide_eq_false hc6) ?_
      refine gb [19, 20, 21, 22, 23] [(39, .bool (decide (e1.Due < 0))), (38, .bool (decide (e1.Due < 0))), (37, .bool (decide (e1.Due < 0))), (36, vI e1.Due), (35, pP b2 3)] [.loaded ⟨b2, 3, none⟩ (vI e1.Due)] ⟨hS7.c 0, trivial⟩ ?_
      by_cases hc7 : e1.Due < 0
      ·rw [if_pos hc7] at h
       refine gk 39 (decide (e1.Due < 0)) true (decide_eq_true hc7) ?_
       refine gb0 [24, 25, 26, 27] [(43, .bool true), (42, undef), (41, undef), (40, undef)] ?_
       refine gn hK11 ?_
       refine we_true (by kernel_rfl) ?_
       refine ws fun K16 hK16 => ?_
       refine wr [(0, 0), (1, 0), (2, 2)] ?_
       refine gb0 [0, 1] [(45, .agg #[vI 3, vI (i1 : Int)]), (44, vI (i1 : Int))] ?_
       have hS24 := hS7.bring 1 rfl
       refine gs b1 0 #[vI 0, vI 0] 29 [vI 3, vI (i1 : Int)] hS24 fun w9 hS25 => ?_
       have hS26 : St w0 w9 [Own.blk b1 (.cells #[vI 3, vI (i1 : Int)] 29 (0, 0)), Own.blk b2 (.cells #[vI e1.Task, vI e1.At, vI e1.C, vI e1.Due, vI e1.P] 59 (0, 0))] := hS25
       refine gn hK16 ?_
       have hS27 := hS26.takeN 0
       obtain rfl := si h
       exact we_ret fun a hF => hQ _ _ _ (Outs.out nofun (Exits.on ⟨rfl, (pr [.cell 2 29] [.agg #[vI 3, vI (i1 : Int)]] [.loaded ⟨b1, 0, none⟩ (vI 3), .loaded ⟨b1, 1, none⟩ (vI (i1 : Int))] ⟨hS26.c 0, hS26.c 0, trivial⟩ ⟨rfl, hS27⟩) a hF⟩))
      ·rw [if_neg hc7] at h
       refine gk 39 (decide (e1.Due < 0)) false (decide_eq_false hc7) ?_
       refine gb [24, 25, 26, 27] [(43, .bool (decide (e1.Due > 80000))), (42, .bool (decide (e1.Due > 80000))), (41, vI e1.Due), (40, pP b2 3)] [.loaded ⟨b2, 3, none⟩ (vI e1.Due)] ⟨hS7.c 0, trivial⟩ ?_
       refine gn hK11 ?_
       by_cases hc8 : e1.Due > 80000
       ·rw [if_pos hc8] at h
        refine wk 43 (decide (e1.Due > 80000)) true (decide_eq_true hc8) ?_
        refine we_true (by kernel_rfl) ?_
        refine ws fun K17 hK17 => ?_
        refine wr [(0, 0), (1, 0), (2, 2)] ?_
        refine gb0 [0, 1] [(45, .agg #[vI 3, vI (i1 : Int)]), (44, vI (i1 : Int))] ?_
        have hS28 := hS7.bring 1 rfl
        refine gs b1 0 #[vI 0, vI 0] 29 [vI 3, vI (i1 : Int)] hS28 fun w10 hS29 => ?_
        have hS30 : St w0 w10 [Own.blk b1 (.cells #[vI 3, vI (i1 : Int)] 29 (0, 0)), Own.blk b2 (.cells #[vI e1.Task, vI e1.At, vI e1.C, vI e1.Due, vI e1.P] 59 (0, 0))] := hS29
        refine gn hK17 ?_
        have hS31 := hS30.takeN 0
        obtain rfl := si h
        exact we_ret fun a hF => hQ _ _ _ (Outs.out nofun (Exits.on ⟨rfl, (pr [.cell 2 29] [.agg #[vI 3, vI (i1 : Int)]] [.loaded ⟨b1, 0, none⟩ (vI 3), .loaded ⟨b1, 1, none⟩ (vI (i1 : Int))] ⟨hS30.c 0, hS30.c 0, trivial⟩ ⟨rfl, hS31⟩) a hF⟩))
       ·rw [if_neg hc8] at h
        refine wk 43 (decide (e1.Due > 80000)) false (decide_eq_false hc8) ?_
        refine we_false (by kernel_rfl) ?_
        refine we_skip fun a hF => hK9 _ _ ?_ a hF
        refine wr [(0, 0), (1, 0)] ?_
        refine ge_addn (d := 46) (ty := 3) (x := (.tmp 11)) (y := (.const (vI 1))) (t := 3) (t2 := 3) (k := .i64) (m := i1) (by kernel_rfl) (by kernel_rfl) (by kernel_rfl) (by have h0 := hR0.small; omega) ?_
        refine gb0 [1] [(11, vI ((i1 + 1 : Nat) : Int))] ?_
        have hS32 := hS7.bring 1 rfl
        have hS33 := hS32.takeN 1
        obtain rfl := si h
        exact ge_nil fun a hF => hQ _ _ _ (Outs.again ⟨hS33, hF.weaken ea⟩)
 ·rw [if_neg hc2] at h
  refine wk 12 (decide ((i1 : Int) < (l0.length : Int))) false (decide_eq_false hc2) ?_
  refine we_false (by kernel_rfl) ?_
  obtain rfl := si h
  exact we_exit fun a hF => hQ _ _ _ (Outs.out nofun (Exits.here ⟨hS, hF.weaken ea⟩))
theorem sched_Check_ok (K : Nat) (l0 : List SJob) (A0 : Option Addr) (c0 : Nat) (w0 : World) (hR0 : RdL w0 A0 l0) (hL0 : l0.length ≤ c0) (r : SFault) (h : sched_Check.f K l0 = some r) :
  Calls Try.prog 21 #[.slice A0 l0.length c0] w0 (sched_Check.Post w0 r) := by
 have hS := St.start w0
 unfold sched_Check.f at h
 refine calls_enter (n := 48) (args := [.slice A0 l0.length c0]) (fn := Try.f21) rfl rfl rfl rfl ?_
 show WE _ _ _ _ [(0, .slice A0 l0.length c0)] _
 refine ws fun K1 hK1 => ?_
 refine wr [(0, 1)] ?_
 refine gw (some 2) (.cells #[vI 0, vI 0] 29) (fun b => pP b 0) hS fun b1 w1 hx1 hS1 => ?_
 refine gn hK1 ?_
 refine ws fun K2 hK2 => ?_
 refine ws fun K3 hK3 => ?_
 refine wr [(0, 0), (1, 0), (2, 0)] ?_
 refine gb0 [0, 1, 2] [(7, .bool (decide ((l0.length : Int) > 4000))), (6, vI (l0.length : Int)), (5, .slice A0 l0.length c0)] ?_
 refine gn hK3 ?_
 by_cases hc1 : (l0.length : Int) > 4000
 ·rw [if_pos hc1] at h
  refine wk 7 (decide ((l0.length : Int) > 4000)) true (decide_eq_true hc1) ?_
  refine we_true (by kernel_rfl) ?_
  refine ws fun K4 hK4 => ?_
  refine wr [(0, 0), (1, 2)] ?_
  refine gb0 [0] [(8, .agg #[vI 2, vI 0])] ?_
  refine gs b1 0 #[vI 0, vI 0] 29 [vI 2, vI 0] hS1 fun w2 hS2 => ?_
  have hS3 : St w0 w2 [Own.blk b1 (.cells #[vI 2, vI 0] 29 (0, 0))] := hS2
  refine gn hK4 ?_
  have hS4 := hS3.takeN 0
  obtain rfl := si h
  exact we_ret (pr [.cell 2 29] [.agg #[vI 2, vI 0]] [.loaded ⟨b1, 0, none⟩ (vI 2), .loaded ⟨b1, 1, none⟩ (vI 0)] ⟨hS3.c 0, hS3.c 0, trivial⟩ ⟨rfl, hS4⟩)
 ·rw [if_neg hc1] at h
  refine wk 7 (decide ((l0.length : Int) > 4000)) false (decide_eq_false hc1) ?_
  refine we_false (by kernel_rfl) ?_
  refine we_skip fun a hF => hK2 _ _ ?_ a hF
  refine ws fun K5 hK5 => ?_
  refine ws fun K6 hK6 => ?_
  refine wr [(0, 0), (1, 0), (2, 0)] ?_
  refine gb0 [0, 1, 2] [(11, vI 0), (10, vI (l0.length : Int)), (9, .slice A0 l0.length c0)] ?_
  refine gn hK6 ?_
  refine we_block ?_
  rcases hq1 : iter (sched_Check.r0 l0) K 0 with _ | (_ | rr1)
  ·rw [hq1] at h; cases h
  ·rw [hq1] at h
   simp only [] at h
   refine we_iter (A := sched_Check.A0 w0 l0 A0 c0 b1) (B := sched_Check.B0 w0 b1) hq1 (fun a hF => ⟨hS1, hF.weaken ea⟩) (fun s o hf a w hA Q hQ => sched_Check_r0 K w0 l0 A0 c0 hR0 hL0 b1 hc1 s o hf a w hA Q hQ) ?_
   rintro _ a w11 _ ⟨rfl, hS34, hF⟩
   replace hS34 : St w0 w11 [Own.blk b1 (.cells #[vI 0, vI 0] 29 (0, 0))] := hS34
   refine hK5 [(2, pP b1 0)] w11 ?_ a hF
   refine ws fun K18 hK18 => ?_
   refine wr [(0, 0), (1, 2)] ?_
   refine gb0 [0] [(47, .agg #[vI 0, vI 0])] ?_
   refine gs b1 0 #[vI 0, vI 0] 29 [vI 0, vI 0] hS34 fun w12 hS35 => ?_
   have hS36 : St w0 w12 [Own.blk b1 (.cells #[vI 0, vI 0] 29 (0, 0))] := hS35
   refine gn hK18 ?_
   have hS37 := hS36.takeN 0
   obtain rfl := si h
   exact we_ret (pr [.cell 2 29] [.agg #[vI 0, vI 0]] [.loaded ⟨b1, 0, none⟩ (vI 0), .loaded ⟨b1, 1, none⟩ (vI 0)] ⟨hS36.c 0, hS36.c 0, trivial⟩ ⟨rfl, hS37⟩)
  ·rw [hq1] at h
   simp only [] at h
   refine we_iter (A := sched_Check.A0 w0 l0 A0 c0 b1) (B := sched_Check.B0 w0 b1) hq1 (fun a hF => ⟨hS1, hF.weaken ea⟩) (fun s o hf a w hA Q hQ => sched_Check_r0 K w0 l0 A0 c0 hR0 hL0 b1 hc1 s o hf a w hA Q hQ) ?_
   rintro _ a w1 _ ⟨rfl, hb⟩
   obtain rfl := si h
   exact hb

/-! punctual/sched.rule -/
abbrev sched_rule.Post (w0 : World) (r : Nat) (e : Ending) (w : World) : Prop := e = .returned (fnVal r) ∧ St w0 w []
def sched_rule.f (x0 : Int) : Nat :=
 if x0 = 1 then
  48
 else
  if x0 = 2 then
   49
  else
   0
theorem sched_rule_ok (x0 : Int) (w0 : World) (r : Nat) (h : sched_rule.f x0 = r) :
  Calls Try.prog 28 #[vI x0] w0 (sched_rule.Post w0 r) := by
 have hS := St.start w0
 unfold sched_rule.f at h
 refine calls_enter (n := 8) (args := [vI x0]) (fn := Try.f28) rfl rfl rfl rfl ?_
 show WE _ _ _ _ [(0, vI x0)] _
 refine ws fun K1 hK1 => ?_
 refine wr [(0, 0)] ?_
 refine gb0 [0] [(2, .nilFunc)] ?_
 refine gn hK1 ?_
 refine ws fun K2 hK2 => ?_
 refine ws fun K3 hK3 => ?_
 refine wr [(0, 0)] ?_
 refine gb0 [0] [(3, vI x0)] ?_
 refine gn hK3 ?_
 refine we_block ?_
 refine ws fun K4 hK4 => ?_
 refine wr [(0, 0), (1, 0)] ?_
 refine gb0 [0, 1] [(4, .bool (x0 == 1)), (5, .bool (x0 == 1))] ?_
 refine gn hK4 ?_
 by_cases hc1 : x0 = 1
 ·rw [if_pos hc1] at h
  refine wk 4 (x0 == 1) true (beq_iff_eq.2 hc1) ?_
  refine we_true (by kernel_rfl) ?_
  refine ws fun K5 hK5 => ?_
  refine wr [(0, 0)] ?_
  refine gb0 [0] [(2, .func (.func 47) #[] #[])] ?_
  refine gn hK5 ?_
  subst h
  exact we_ret (pr0 [.tmp 2] [.func (.func 47) #[] #[]] ⟨rfl, hS⟩)
 ·rw [if_neg hc1] at h
  refine wk 4 (x0 == 1) false (beq_eq_false_iff_ne.2 hc1) ?_
  refine we_false (by kernel_rfl) ?_
  refine ws fun K6 hK6 => ?_
  refine wr [(0, 0), (1, 0)] ?_
  refine gb0 [0, 1] [(6, .bool (x0 == 2)), (7, .bool (x0 == 2))] ?_
  refine gn hK6 ?_
  by_cases hc2 : x0 = 2
  ·rw [if_pos hc2] at h
   refine wk 6 (x0 == 2) true (beq_iff_eq.2 hc2) ?_
   refine we_true (by kernel_rfl) ?_
   refine ws fun K7 hK7 => ?_
   refine wr [(0, 0)] ?_
   refine gb0 [0] [(2, .func (.func 48) #[] #[])] ?_
   refine gn hK7 ?_
   subst h
   exact we_ret (pr0 [.tmp 2] [.func (.func 48) #[] #[]] ⟨rfl, hS⟩)
  ·rw [if_neg hc2] at h
   refine wk 6 (x0 == 2) false (beq_eq_false_iff_ne.2 hc2) ?_
   refine we_false (by kernel_rfl) ?_
   refine we_skip fun a hF => hK2 _ _ ?_ a hF
   refine ws fun K8 hK8 => ?_
   refine wr [(0, 0)] ?_
   refine gb0 [0] [(2, .nilFunc)] ?_
   refine gn hK8 ?_
   subst h
   exact we_ret (pr0 [.tmp 2] [.nilFunc] ⟨rfl, hS⟩)

/-! punctual/sched.Play$1 -/
abbrev sched_Play_1.Post (w0 : World) (r : Bool) (e : Ending) (w : World) : Prop := e = .returned (.bool r) ∧ St w0 w []
def sched_Play_1.f (x0 : Int) (lf_0 : List SJob) (xf_1 : Int) (lf_2 : List Int) : Option Bool :=
 if 0 ≤ x0 then
  match lf_0[(x0).toNat]? with
  | none => none
  | some e1 =>
   if e1.At ≤ xf_1 then
    match lf_2[(x0).toNat]? with
    | none => none
    | some e2 =>
     some (decide (e2 > 0))
   else
    some false
 else
  none
theorem sched_Play_1_ok (x0 : Int) (bf_0 : Nat) (lf_0 : List SJob) (Af_0 : Option Addr) (cf_0 : Nat) (bf_1 : Nat) (xf_1 : Int) (bf_2 : Nat) (lf_2 : List Int) (Af_2 : Option Addr) (cf_2 : Nat) (w0 : World) (hRf_0 : RdL w0 Af_0 lf_0) (hLf_0 : lf_0.length ≤ cf_0) (hBf_0 : Glob w0 bf_0 [.slice Af_0 lf_0.length cf_0]) (hBf_1 : Glob w0 bf_1 [vI xf_1]) (hRf_2 : RdL w0 Af_2 lf_2) (hLf_2 : lf_2.length ≤ cf_2) (hBf_2 : Glob w0 bf_2 [.slice Af_2 lf_2.length cf_2]) (r : Bool) (h : sched_Play_1.f x0 lf_0 xf_1 lf_2 = some r) :
  Calls Try.prog 30 #[vI x0, pP bf_0 0, pP bf_1 0, pP bf_2 0] w0 (sched_Play_1.Post w0 r) := by
 have hS := St.start w0
 unfold sched_Play_1.f at h
 refine calls_enter (n := 20) (args := [vI x0, pP bf_0 0, pP bf_1 0, pP bf_2 0]) (fn := Try.f30) rfl rfl rfl rfl ?_
 show WE _ _ _ _ [(0, vI x0), (1, pP bf_0 0), (2, pP bf_1 0), (3, pP bf_2 0)] _
 refine ws fun K1 hK1 => ?_
 refine wr [(0, 0)] ?_
 refine gb0 [0] [(5, .bool false)] ?_
 refine gn hK1 ?_
 refine ws fun K2 hK2 => ?_
 refine we_draws (by kernel_rfl) [(0, 0), (1, 0), (2, 0), (3, 0), (4, 0), (5, 0), (6, 0), (7, 0), (8, 0), (9, 0), (10, 0), (11, 0), (12, 0), (13, 0), (14, 0)] (by kernel_rfl) ?_
 have hS1 := hS.drew
 refine gb [0, 1] [(7, vI x0), (6, .slice Af_0 lf_0.length cf_0)] [.loaded ⟨bf_0, 0, none⟩ (.slice Af_0 lf_0.length cf_0)] ⟨hS1.glob hBf_0 rfl, trivial⟩ ?_
 by_cases hc1 : 0 ≤ x0
 ·rw [if_pos hc1] at h
  rcases hx1 : lf_0[(x0).toNat]? with _ | e1
  ·rw [hx1] at h; cases h
  rw [hx1] at h
  simp only [] at h
  refine gi 8 0 32 59 5 lf_0.length cf_0 (.tmp 6) (.tmp 7) Af_0 .i64 x0 ((x0).toNat) ((hS1.rd hRf_0).eqSome (pos_of_get hx1)) (Int.toNat_of_nonneg hc1).symm (lt_of_get hx1) ?_
  refine gb [3, 4, 5, 6, 7] [(13, .bool (decide (e1.At ≤ xf_1))), (12, .bool (decide (e1.At ≤ xf_1))), (11, vI xf_1), (10, vI e1.At), (9, .pointer (some ⟨blkOf Af_0, offOf Af_0 + (x0).toNat * 5 + 1, none⟩))] [.loaded ⟨blkOf Af_0, offOf Af_0 + ((x0).toNat) * 5 + 1, none⟩ (vI e1.At), .loaded ⟨bf_1, 0, none⟩ (vI xf_1)] ⟨RdL.cell (j := 1) (hS1.rd hRf_0) hx1 rfl, hS1.glob hBf_1 rfl, trivial⟩ ?_
  by_cases hc2 : e1.At ≤ xf_1
  ·rw [if_pos hc2] at h
   refine gk 13 (decide (e1.At ≤ xf_1)) true (decide_eq_true hc2) ?_
   refine gb [8, 9] [(15, vI x0), (14, .slice Af_2 lf_2.length cf_2)] [.loaded ⟨bf_2, 0, none⟩ (.slice Af_2 lf_2.length cf_2)] ⟨hS1.glob hBf_2 rfl, trivial⟩ ?_
   rcases hx2 : lf_2[(x0).toNat]? with _ | e2
   ·rw [hx2] at h; cases h
   rw [hx2] at h
   simp only [] at h
   refine gi 16 0 24 3 1 lf_2.length cf_2 (.tmp 14) (.tmp 15) Af_2 .i64 x0 ((x0).toNat) ((hS1.rd hRf_2).eqSome (pos_of_get hx2)) (Int.toNat_of_nonneg hc1).symm (lt_of_get hx2) ?_
   refine gb [11, 12, 13, 14] [(5, .bool (decide (e2 > 0))), (19, .bool (decide (e2 > 0))), (18, .bool (decide (e2 > 0))), (17, vI e2)] [.loaded ⟨blkOf Af_2, offOf Af_2 + ((x0).toNat) * 1, none⟩ (vI e2)] ⟨RdL.cell (j := 0) (hS1.rd hRf_2) hx2 rfl, trivial⟩ ?_
   refine gn hK2 ?_
   obtain rfl := si h
   exact we_ret (pr0 [.tmp 5] [.bool (decide (e2 > 0))] ⟨rfl, hS1⟩)
  ·rw [if_neg hc2] at h
   refine gk 13 (decide (e1.At ≤ xf_1)) false (decide_eq_false hc2) ?_
   refine gb0 [8, 9, 10, 11, 12, 13, 14] [(5, .bool false), (19, .bool false), (18, undef), (17, undef), (16, undef), (15, undef), (14, undef)] ?_
   refine gn hK2 ?_
   obtain rfl := si h
   exact we_ret (pr0 [.tmp 5] [.bool false] ⟨rfl, hS1⟩)
 ·rw [if_neg hc1] at h
  cases h

/-! cmp.isNaN[int] -/
abbrev cmp_isNaN_int.Post (w0 : World) (r : Bool) (e : Ending) (w : World) : Prop := e = .returned (.bool r) ∧ St w0 w []
def cmp_isNaN_int.f (x0 : Int) : Bool :=
 false
theorem cmp_isNaN_int_ok (x0 : Int) (w0 : World) (r : Bool) (h : cmp_isNaN_int.f x0 = r) :
  Calls Try.prog 62 #[vI x0] w0 (cmp_isNaN_int.Post w0 r) := by
 have hS := St.start w0
 unfold cmp_isNaN_int.f at h
 refine calls_enter (n := 6) (args := [vI x0]) (fn := Try.f62) rfl rfl rfl rfl ?_
 show WE _ _ _ _ [(0, vI x0)] _
 refine ws fun K1 hK1 => ?_
 refine wr [(0, 0)] ?_
 refine gb0 [0] [(2, .bool false)] ?_
 refine gn hK1 ?_
 refine ws fun K2 hK2 => ?_
 refine wr [(0, 0), (1, 0), (2, 0), (3, 0)] ?_
 refine gb0 [0, 1, 2] [(5, .bool (x0 != x0)), (4, vI x0), (3, vI x0)] ?_
 refine gk 5 (x0 != x0) false (by simp) ?_
 refine gb0 [3] [(2, .bool false)] ?_
 refine gn hK2 ?_
 subst h
 exact we_ret (pr0 [.tmp 2] [.bool false] ⟨rfl, hS⟩)

/-! cmp.Compare[int] -/
abbrev cmp_Compare_int.Post (w0 : World) (r : Int) (e : Ending) (w : World) : Prop := e = .returned (vI r) ∧ St w0 w []
def cmp_Compare_int.f (x0 : Int) (x1 : Int) : Int :=
 if (cmp_isNaN_int.f x0) = true then
  if (cmp_isNaN_int.f x1) = true then
   0
  else
   (-1)
 else
  if (cmp_isNaN_int.f x1) = true then
   1
  else
   if x0 < x1 then
    (-1)
   else
    if x0 > x1 then
     1
    else
     0
theorem cmp_Compare_int_ok (x0 : Int) (x1 : Int) (w0 : World) (r : Int) (h : cmp_Compare_int.f x0 x1 = r) :
  Calls Try.prog 42 #[vI x0, vI x1] w0 (cmp_Compare_int.Post w0 r) := by
 have hS := St.start w0
 unfold cmp_Compare_int.f at h
 refine calls_enter (n := 20) (args := [vI x0, vI x1]) (fn := Try.f42) rfl rfl rfl rfl ?_
 show WE _ _ _ _ [(0, vI x0), (1, vI x1)] _
 refine ws fun K1 hK1 => ?_
 refine wr [(0, 0)] ?_
 refine gb0 [0] [(4, vI 0)] ?_
 refine gn hK1 ?_
 refine ws fun K2 hK2 => ?_
 refine wr [(0, 0), (1, 1), (2, 0)] ?_
 refine gb0 [0] [(7, vI x0)] ?_
 refine ge_call (d := some 8) (f := 62) (args := #[vI x0]) (by kernel_rfl) (cmp_isNaN_int_ok x0 _ _ rfl) ?_
 rintro _ w1 ⟨rfl, hS1⟩
 refine ⟨_, rfl, hS1.below, ?_⟩
 have hS2 := hS.call hS1
 refine gb0 [2] [(5, .bool (cmp_isNaN_int.f x0))] ?_
 refine gn hK2 ?_
 refine ws fun K3 hK3 => ?_
 refine wr [(0, 0), (1, 1), (2, 0)] ?_
 refine gb0 [0] [(9, vI x1)] ?_
 refine ge_call (d := some 10) (f := 62) (args := #[vI x1]) (by kernel_rfl) (cmp_isNaN_int_ok x1 _ _ rfl) ?_
 rintro _ w2 ⟨rfl, hS3⟩
 refine ⟨_, rfl, hS3.below, ?_⟩
 have hS4 := hS2.call hS3
 refine gb0 [2] [(6, .bool (cmp_isNaN_int.f x1))] ?_
 refine gn hK3 ?_
 refine ws fun K4 hK4 => ?_
 refine ws fun K5 hK5 => ?_
 refine wr [(0, 0)] ?_
 refine gb0 [0] [(11, .bool (cmp_isNaN_int.f x0))] ?_
 refine gn hK5 ?_
 by_cases hc1 : (cmp_isNaN_int.f x0) = true
 ·rw [if_pos hc1] at h
  refine wk 11 (cmp_isNaN_int.f x0) true hc1 ?_
  refine we_true (by kernel_rfl) ?_
  refine ws fun K6 hK6 => ?_
  refine ws fun K7 hK7 => ?_
  refine wr [(0, 0)] ?_
  refine gb0 [0] [(12, .bool (cmp_isNaN_int.f x1))] ?_
  refine gn hK7 ?_
  by_cases hc2 : (cmp_isNaN_int.f x1) = true
  ·rw [if_pos hc2] at h
   refine wk 12 (cmp_isNaN_int.f x1) true hc2 ?_
   refine we_true (by kernel_rfl) ?_
   refine ws fun K8 hK8 => ?_
   refine wr [(0, 0)] ?_
   refine gb0 [0] [(4, vI 0)] ?_
   refine gn hK8 ?_
   subst h
   exact we_ret (pr0 [.tmp 4] [vI 0] ⟨rfl, hS4⟩)
  ·rw [if_neg hc2] at h
   refine wk 12 (cmp_isNaN_int.f x1) false (Bool.eq_false_iff.2 hc2) ?_
   refine we_false (by kernel_rfl) ?_
   refine we_skip fun a hF => hK6 _ _ ?_ a hF
   refine ws fun K9 hK9 => ?_
   refine wr [(0, 0)] ?_
   refine gb0 [0] [(4, vI (-1))] ?_
   refine gn hK9 ?_
   subst h
   exact we_ret (pr0 [.tmp 4] [vI (-1)] ⟨rfl, hS4⟩)
 ·rw [if_neg hc1] at h
  refine wk 11 (cmp_isNaN_int.f x0) false (Bool.eq_false_iff.2 hc1) ?_
  refine we_false (by kernel_rfl) ?_
  refine we_skip fun a hF => hK4 _ _ ?_ a hF
  refine ws fun K10 hK10 => ?_
  refine ws fun K11 hK11 => ?_
  refine wr [(0, 0)] ?_
  refine gb0 [0] [(13, .bool (cmp_isNaN_int.f x1))] ?_
  refine gn hK11 ?_
  by_cases hc3 : (cmp_isNaN_int.f x1) = true
  ·rw [if_pos hc3] at h
   refine wk 13 (cmp_isNaN_int.f x1) true hc3 ?_
   refine we_true (by kernel_rfl) ?_
   refine ws fun K12 hK12 => ?_
   refine wr [(0, 0)] ?_
   refine gb0 [0] [(4, vI 1)] ?_
   refine gn hK12 ?_
   subst h
   exact we_ret (pr0 [.tmp 4] [vI 1] ⟨rfl, hS4⟩)
  ·rw [if_neg hc3] at h
   refine wk 13 (cmp_isNaN_int.f x1) false (Bool.eq_false_iff.2 hc3) ?_
   refine we_false (by kernel_rfl) ?_
   refine we_skip fun a hF => hK10 _ _ ?_ a hF
   refine ws fun K13 hK13 => ?_
   refine ws fun K14 hK14 => ?_
   refine wr [(0, 0), (1, 0), (2, 0)] ?_
   refine gb0 [0, 1, 2] [(16, .bool (decide (x0 < x1))), (15, vI x1), (14, vI x0)] ?_
   refine gn hK14 ?_
   by_cases hc4 : x0 < x1
   ·rw [if_pos hc4] at h
    refine wk 16 (decide (x0 < x1)) true (decide_eq_true hc4) ?_
    refine we_true (by kernel_rfl) ?_
    refine ws fun K15 hK15 => ?_
    refine wr [(0, 0)] ?_
    refine gb0 [0] [(4, vI (-1))] ?_
    refine gn hK15 ?_
    subst h
    exact we_ret (pr0 [.tmp 4] [vI (-1)] ⟨rfl, hS4⟩)
   ·rw [if_neg hc4] at h
    refine wk 16 (decide (x0 < x1)) false (decide_eq_false hc4) ?_
    refine we_false (by kernel_rfl) ?_
    refine we_skip fun a hF => hK13 _ _ ?_ a hF
    refine ws fun K16 hK16 => ?_
    refine ws fun K17 hK17 => ?_
    refine wr [(0, 0), (1, 0), (2, 0)] ?_
    refine gb0 [0, 1, 2] [(19, .bool (decide (x0 > x1))), (18, vI x1), (17, vI x0)] ?_
    refine gn hK17 ?_
    by_cases hc5 : x0 > x1
    ·rw [if_pos hc5] at h
     refine wk 19 (decide (x0 > x1)) true (decide_eq_true hc5) ?_
     refine we_true (by kernel_rfl) ?_
     refine ws fun K18 hK18 => ?_
     refine wr [(0, 0)] ?_
     refine gb0 [0] [(4, vI 1)] ?_
     refine gn hK18 ?_
     subst h
     exact we_ret (pr0 [.tmp 4] [vI 1] ⟨rfl, hS4⟩)
    ·rw [if_neg hc5] at h
     refine wk 19 (decide (x0 > x1)) false (decide_eq_false hc5) ?_
     refine we_false (by kernel_rfl) ?_
     refine we_skip fun a hF => hK16 _ _ ?_ a hF
     refine ws fun K19 hK19 => ?_
     refine wr [(0, 0)] ?_
     refine gb0 [0] [(4, vI 0)] ?_
     refine gn hK19 ?_
     subst h
     exact we_ret (pr0 [.tmp 4] [vI 0] ⟨rfl, hS4⟩)

/-! punctual/sched.byPriority -/
abbrev sched_byPriority.Post (w0 : World) (r : Int) (e : Ending) (w : World) : Prop := e = .returned (vI r) ∧ St w0 w []
def sched_byPriority.f (x0 : SJob) (x1 : SJob) : Int :=
 (cmp_Compare_int.f x1.P x0.P)
theorem sched_byPriority_ok (x0 : SJob) (x1 : SJob) (w0 : World) (r : Int) (h : sched_byPriority.f x0 x1 = r) :
  Calls Try.prog 47 #[.agg #[vI x0.Task, vI x0.At, vI x0.C, vI x0.Due, vI x0.P], .agg #[vI x1.Task, vI x1.At, vI x1.C, vI x1.Due, vI x1.P]] w0 (sched_byPriority.Post w0 r) := by
 have hS := St.start w0
 unfold sched_byPriority.f at h
 refine calls_enter (n := 10) (args := [.agg #[vI x0.Task, vI x0.At, vI x0.C, vI x0.Due, vI x0.P], .agg #[vI x1.Task, vI x1.At, vI x1.C, vI x1.Due, vI x1.P]]) (fn := Try.f47) rfl rfl rfl rfl ?_
 show WE _ _ _ _ [(0, .agg #[vI x0.Task, vI x0.At, vI x0.C, vI x0.Due, vI x0.P]), (1, .agg #[vI x1.Task, vI x1.At, vI x1.C, vI x1.Due, vI x1.P])] _
 refine ws fun K1 hK1 => ?_
 refine wr [(0, 1), (1, 1), (2, 0)] ?_
 refine gw (some 2) (.cells #[vI x0.Task, vI x0.At, vI x0.C, vI x0.Due, vI x0.P] 59) (fun b => pP b 0) hS fun b1 w1 hx1 hS1 => ?_
 refine gw (some 3) (.cells #[vI x1.Task, vI x1.At, vI x1.C, vI x1.Due, vI x1.P] 59) (fun b => pP b 0) hS1 fun b2 w2 hx2 hS2 => ?_
 refine gb0 [2] [(4, vI 0)] ?_
 refine gn hK1 ?_
 refine ws fun K2 hK2 => ?_
 refine wr [(0, 0), (1, 0), (2, 0), (3, 0), (4, 1), (5, 0)] ?_
 refine gb [0, 1, 2, 3] [(8, vI x0.P), (7, pP b1 4), (6, vI x1.P), (5, pP b2 4)] [.loaded ⟨b2, 4, none⟩ (vI x1.P), .loaded ⟨b1, 4, none⟩ (vI x0.P)] ⟨hS2.c 0, hS2.c 1, trivial⟩ ?_
 refine ge_call (d := some 9) (f := 42) (args := #[vI x1.P, vI x0.P]) (by kernel_rfl) (cmp_Compare_int_ok x1.P x0.P _ _ rfl) ?_
 rintro _ w3 ⟨rfl, hS3⟩
 refine ⟨_, rfl, hS3.below, ?_⟩
 have hS4 := hS2.call hS3
 refine gb0 [5] [(4, vI (cmp_Compare_int.f x1.P x0.P))] ?_
 refine gn hK2 ?_
 have hS5 := hS4.takeN 0
 subst h
 exact we_ret (pr0 [.tmp 4] [vI (cmp_Compare_int.f x1.P x0.P)] ⟨rfl, hS5⟩)

/-! cmp.Or[int] -/
abbrev cmp_Or_int.Post (w0 : World) (r : Int) (e : Ending) (w : World) : Prop := e = .returned (vI r) ∧ St w0 w []
def cmp_Or_int.r0 (l0 : List Int) : Nat → Option (Nat ⊕ (Unit ⊕ Int))
 | i1 =>
  if (i1 : Int) < (l0.length : Int) then
   match l0[i1]? with
   | none => none
   | some e1 =>
    if e1 = 0 then
     some (.inl (i1 + 1))
    else
     some (.inr (.inr e1))
  else
   some (.inr (.inl ()))
def cmp_Or_int.f (K : Nat) (l0 : List Int) : Option Int :=
 match iter (cmp_Or_int.r0 l0) K 0 with
 | none => none
 | some (.inl _) =>
  some 0
 | some (.inr rr1) =>
  some rr1
abbrev cmp_Or_int.A0 (w0 : World) (l0 : List Int) (A0 : Option Addr) (c0 : Nat) : Nat → Act → World → Prop := fun (s : Nat) a w => St w0 w [] ∧ Frm 18 a [(3, vI 0), (6, .slice A0 l0.length c0), (7, vI (l0.length : Int)), (8, vI (s : Int))]
abbrev cmp_Or_int.B0 (w0 : World) : (Unit ⊕ Int) → Exit → Act → World → Prop := Exits 0 (fun (s : Unit) a w => St w0 w [] ∧ Frm 18 a [(3, vI 0)]) (Rets Try.prog Try.f46 (cmp_Or_int.Post w0))
theorem cmp_Or_int_r0 (K : Nat) (w0 : World) (l0 : List Int) (A0 : Option Addr) (c0 : Nat) (hR0 : RdL w0 A0 l0) (hL0 : l0.length ≤ c0) (s : Nat) (o : Nat ⊕ (Unit ⊕ Int)) (h : cmp_Or_int.r0 l0 s = some o) (a : Act) (w : World) (hA : cmp_Or_int.A0 w0 l0 A0 c0 s a w) (Q : Exit → Act → World → Prop) (hQ : ∀ x a w, Outs (cmp_Or_int.A0 w0 l0 A0 c0) (cmp_Or_int.B0 w0) o x a w → Q x a w) : (subF Try.f46 [1, 1, 0, 1, 0, 0]).wp Try.prog Q a w := by
 obtain ⟨i1, hs⟩ : ∃ z, z = s := ⟨s, rfl⟩
 subst hs
 obtain ⟨hS, hF⟩ := hA
 replace hS : St w0 w [] := hS
 simp only [cmp_Or_int.r0] at h
 refine (?_ : WE Try.prog 18 (subF Try.f46 [1, 1, 0, 1, 0, 0]) Q [(3, vI 0), (6, .slice A0 l0.length c0), (7, vI (l0.length : Int)), (8, vI (i1 : Int))] w) a hF
 clear hF a
 refine ws fun K5 hK5 => ?_
 refine wr [(0, 0)] ?_
 refine gb0 [0] [(9, .bool (decide ((i1 : Int) < (l0.length : Int))))] ?_
 refine gn hK5 ?_
 refine ws fun K6 hK6 => ?_
 by_cases hc1 : (i1 : Int) < (l0.length : Int)
 ·rw [if_pos hc1] at h
  refine wk 9 (decide ((i1 : Int) < (l0.length : Int))) true (decide_eq_true hc1) ?_
  refine we_true (by kernel_rfl) ?_
  refine we_skip fun a hF => hK6 _ _ ?_ a hF
  refine ws fun K7 hK7 => ?_
  refine we_block ?_
  refine ws fun K8 hK8 => ?_
  refine wr [(0, 0), (1, 0), (2, 0)] ?_
  rcases hx1 : l0[i1]? with _ | e1
  ·rw [hx1] at h; cases h
  rw [hx1] at h
  simp only [] at h
  refine gi 10 0 24 3 1 l0.length c0 (.tmp 6) (.tmp 8) A0 .i64 (i1 : Int) i1 ((hS.rd hR0).eqSome (pos_of_get hx1)) rfl (lt_of_get hx1) ?_
  refine gb [1, 2] [(5, vI e1), (11, vI e1)] [.loaded ⟨blkOf A0, offOf A0 + i1 * 1, none⟩ (vI e1)] ⟨RdL.cell (j := 0) (hS.rd hR0) hx1 rfl, trivial⟩ ?_
  refine gn hK8 ?_
  refine ws fun K9 hK9 => ?_
  refine wr [(0, 0), (1, 0), (2, 0)] ?_
  refine gb0 [0, 1, 2] [(14, .bool (e1 != 0)), (13, vI 0), (12, vI e1)] ?_
  refine gn hK9 ?_
  by_cases hc2 : e1 = 0
  ·rw [if_pos hc2] at h
   refine wk 14 (e1 != 0) false (bne_eq_false_iff_eq.2 hc2) ?_
   refine we_false (by kernel_rfl) ?_
   refine we_skip fun a hF => hK7 _ _ ?_ a hF
   refine wr [(0, 0), (1, 0)] ?_
   refine ge_addn (d := 16) (ty := 3) (x := (.tmp 8)) (y := (.const (vI 1))) (t := 3) (t2 := 3) (k := .i64) (m := i1) (by kernel_rfl) (by kernel_rfl) (by kernel_rfl) (by have h0 := hR0.small; omega) ?_
   refine gb0 [1] [(8, vI ((i1 + 1 : Nat) : Int))] ?_
   obtain rfl := si h
   exact ge_nil fun a hF => hQ _ _ _ (Outs.again ⟨hS, hF.weaken ea⟩)
  ·rw [if_neg hc2] at h
   refine wk 14 (e1 != 0) true (bne_iff_ne.2 hc2) ?_
   refine we_true (by kernel_rfl) ?_
   refine ws fun K10 hK10 => ?_
   refine wr [(0, 0), (1, 0)] ?_
   refine gb0 [0, 1] [(2, vI e1), (15, vI e1)] ?_
   refine gn hK10 ?_
   obtain rfl := si h
   exact we_ret fun a hF => hQ _ _ _ (Outs.out nofun (Exits.on ⟨rfl, (pr0 [.tmp 2] [vI e1] ⟨rfl, hS⟩) a hF⟩))
 ·rw [if_neg hc1] at h
  refine wk 9 (decide ((i1 : Int) < (l0.length : Int))) false (decide_eq_false hc1) ?_
  refine we_false (by kernel_rfl) ?_
  obtain rfl := si h
  exact we_exit fun a hF => hQ _ _ _ (Outs.out nofun (Exits.here ⟨hS, hF.weaken ea⟩))
theorem cmp_Or_int_ok (K : Nat) (l0 : List Int) (A0 : Option Addr) (c0 : Nat) (w0 : World) (hR0 : RdL w0 A0 l0) (hL0 : l0.length ≤ c0) (r : Int) (h : cmp_Or_int.f K l0 = some r) :
  Calls Try.prog 46 #[.slice A0 l0.length c0] w0 (cmp_Or_int.Post w0 r) := by
 have hS := St.start w0
 unfold cmp_Or_int.f at h
 refine calls_enter (n := 18) (args := [.slice A0 l0.length c0]) (fn := Try.f46) rfl rfl rfl rfl ?_
 show WE _ _ _ _ [(0, .slice A0 l0.length c0)] _
 refine ws fun K1 hK1 => ?_
 refine wr [(0, 0)] ?_
 refine gb0 [0] [(2, vI 0)] ?_
 refine gn hK1 ?_
 refine ws fun K2 hK2 => ?_
 refine wr [(0, 0)] ?_
 refine gb0 [0] [(3, vI 0)] ?_
 refine gn hK2 ?_
 refine ws fun K3 hK3 => ?_
 refine ws fun K4 hK4 => ?_
 refine wr [(0, 0), (1, 0), (2, 0)] ?_
 refine gb0 [0, 1, 2] [(8, vI 0), (7, vI (l0.length : Int)), (6, .slice A0 l0.length c0)] ?_
 refine gn hK4 ?_
 refine we_block ?_
 rcases hq1 : iter (cmp_Or_int.r0 l0) K 0 with _ | (_ | rr1)
 ·rw [hq1] at h; cases h
 ·rw [hq1] at h
  simp only [] at h
  refine we_iter (A := cmp_Or_int.A0 w0 l0 A0 c0) (B := cmp_Or_int.B0 w0) hq1 (fun a hF => ⟨hS, hF.weaken ea⟩) (fun s o hf a w hA Q hQ => cmp_Or_int_r0 K w0 l0 A0 c0 hR0 hL0 s o hf a w hA Q hQ) ?_
  rintro _ a w1 _ ⟨rfl, hS1, hF⟩
  replace hS1 : St w0 w1 [] := hS1
  refine hK3 [(3, vI 0)] w1 ?_ a hF
  refine ws fun K11 hK11 => ?_
  refine wr [(0, 0), (1, 0)] ?_
  refine gb0 [0, 1] [(2, vI 0), (17, vI 0)] ?_
  refine gn hK11 ?_
  obtain rfl := si h
  exact we_ret (pr0 [.tmp 2] [vI 0] ⟨rfl, hS1⟩)
 ·rw [hq1] at h
  simp only [] at h
  refine we_iter (A := cmp_Or_int.A0 w0 l0 A0 c0) (B := cmp_Or_int.B0 w0) hq1 (fun a hF => ⟨hS, hF.weaken ea⟩) (fun s o hf a w hA Q hQ => cmp_Or_int_r0 K w0 l0 A0 c0 hR0 hL0 s o hf a w hA Q hQ) ?_
  rintro _ a w1 _ ⟨rfl, hb⟩
  obtain rfl := si h
  exact hb

/-! punctual/sched.byDue -/
abbrev sched_byDue.Post (w0 : World) (r : Int) (e : Ending) (w : World) : Prop := e = .returned (vI r) ∧ St w0 w []
def sched_byDue.f (x0 : SJob) (x1 : SJob) : Int :=
 (cmp_Compare_int.f x0.Due x1.Due)
theorem sched_byDue_ok (x0 : SJob) (x1 : SJob) (w0 : World) (r : Int) (h : sched_byDue.f x0 x1 = r) :
  Calls Try.prog 48 #[.agg #[vI x0.Task, vI x0.At, vI x0.C, vI x0.Due, vI x0.P], .agg #[vI x1.Task, vI x1.At, vI x1.C, vI x1.Due, vI x1.P]] w0 (sched_byDue.Post w0 r) := by
 have hS := St.start w0
 unfold sched_byDue.f at h
 refine calls_enter (n := 10) (args := [.agg #[vI x0.Task, vI x0.At, vI x0.C, vI x0.Due, vI x0.P], .agg #[vI x1.Task, vI x1.At, vI x1.C, vI x1.Due, vI x1.P]]) (fn := Try.f48) rfl rfl rfl rfl ?_
 show WE _ _ _ _ [(0, .agg #[vI x0.Task, vI x0.At, vI x0.C, vI x0.Due, vI x0.P]), (1, .agg #[vI x1.Task, vI x1.At, vI x1.C, vI x1.Due, vI x1.P])] _
 refine ws fun K1 hK1 => ?_
 refine wr [(0, 1), (1, 1), (2, 0)] ?_
 refine gw (some 2) (.cells #[vI x0.Task, vI x0.At, vI x0.C, vI x0.Due, vI x0.P] 59) (fun b => pP b 0) hS fun b1 w1 hx1 hS1 => ?_
 refine gw (some 3) (.cells #[vI x1.Task, vI x1.At, vI x1.C, vI x1.Due, vI x1.P] 59) (fun b => pP b 0) hS1 fun b2 w2 hx2 hS2 => ?_
 refine gb0 [2] [(4, vI 0)] ?_
 refine gn hK1 ?_
 refine ws fun K2 hK2 => ?_
 refine wr [(0, 0), (1, 0), (2, 0), (3, 0), (4, 1), (5, 0)] ?_
 refine gb [0, 1, 2, 3] [(8, vI x1.Due), (7, pP b2 3), (6, vI x0.Due), (5, pP b1 3)] [.loaded ⟨b1, 3, none⟩ (vI x0.Due), .loaded ⟨b2, 3, none⟩ (vI x1.Due)] ⟨hS2.c 1, hS2.c 0, trivial⟩ ?_
 refine ge_call (d := some 9) (f := 42) (args := #[vI x0.Due, vI x1.Due]) (by kernel_rfl) (cmp_Compare_int_ok x0.Due x1.Due _ _ rfl) ?_
 rintro _ w3 ⟨rfl, hS3⟩
 refine ⟨_, rfl, hS3.below, ?_⟩
 have hS4 := hS2.call hS3
 refine gb0 [5] [(4, vI (cmp_Compare_int.f x0.Due x1.Due))] ?_
 refine gn hK2 ?_
 have hS5 := hS4.takeN 0
 subst h
 exact we_ret (pr0 [.tmp 4] [vI (cmp_Compare_int.f x0.Due x1.Due)] ⟨rfl, hS5⟩)

/-! punctual/sched.First -/
abbrev sched_First.Post (w0 : World) (r : Int) (e : Ending) (w : World) : Prop := e = .returned (vI r) ∧ St w0 w []
def sched_First.r0 (K : Nat) (l0 : List SJob) (lg1_0 : List SJob) (xg1_1 : Int) (lg1_2 : List Int) (x2 : Int) : Int × Nat → Option ((Int × Nat) ⊕ (Int ⊕ Int))
 | (z1, i1) =>
  if (i1 : Int) < (l0.length : Int) then
   match l0[i1]? with
   | none => none
   | some e1 =>
    match sched_Play_1.f (i1 : Int) lg1_0 xg1_1 lg1_2 with
    | none => none
    | some r1 =>
     if r1 = true then
      if z1 < 0 then
       some (.inl ((i1 : Int), (i1 + 1)))
      else
       if 0 ≤ z1 then
        match l0[(z1).toNat]? with
        | none => none
        | some e2 =>
         if (sched_rule.f x2) = 0 then
          none
         else
          if (sched_rule.f x2) = 48 then
           match cmp_Or_int.f K ([(sched_byPriority.f e1 e2), (cmp_Compare_int.f e1.At e2.At)] : List Int) with
           | none => none
           | some r2 =>
            if r2 < 0 then
             some (.inl ((i1 : Int), (i1 + 1)))
            else
             some (.inl (z1, (i1 + 1)))
          else
           if (sched_rule.f x2) = 49 then
            match cmp_Or_int.f K ([(sched_byDue.f e1 e2), (cmp_Compare_int.f e1.At e2.At)] : List Int) with
            | none => none
            | some r3 =>
             if r3 < 0 then
              some (.inl ((i1 : Int), (i1 + 1)))
             else
              some (.inl (z1, (i1 + 1)))
           else
            none
       else
        none
     else
      some (.inl (z1, (i1 + 1)))
  else
   some (.inr (.inl z1))
def sched_First.f (K : Nat) (l0 : List SJob) (lg1_0 : List SJob) (xg1_1 : Int) (lg1_2 : List Int) (x2 : Int) : Option Int :=
 match iter (sched_First.r0 K l0 lg1_0 xg1_1 lg1_2 x2) K ((-1), 0) with
 | none => none
 | some (.inl z3) =>
  some z3
 | some (.inr rr1) =>
  some rr1
abbrev sched_First.A0 (w0 : World) (l0 : List SJob) (A0 : Option Addr) (c0 : Nat) (bg1_0 : Nat) (bg1_1 : Nat) (bg1_2 : Nat) (x2 : Int) : (Int × Nat) → Act → World → Prop := fun (s : Int × Nat) a w => St w0 w [] ∧ Frm 47 a [(0, .slice A0 l0.length c0), (1, .func (.func 30) #[] #[pP bg1_0 0, pP bg1_1 0, pP bg1_2 0]), (2, vI x2), (7, vI s.1), (10, .slice A0 l0.length c0), (11, vI (l0.length : Int)), (12, vI (s.2 : Int))]
abbrev sched_First.B0 (w0 : World) : (Int ⊕ Int) → Exit → Act → World → Prop := Exits 0 (fun (s : Int) a w => St w0 w [] ∧ Frm 47 a [(7, vI s)]) (Rets Try.prog Try.f29 (sched_First.Post w0))
theorem sched_First_r0 (K : Nat) (w0 : World) (l0 : List SJob) (A0 : Option Addr) (c0 : Nat) (bg1_0 : Nat) (lg1_0 : List SJob) (Ag1_0 : Option Addr) (cg1_0 : Nat) (bg1_1 : Nat) (xg1_1 : Int) (bg1_2 : Nat) (lg1_2 : List Int) (Ag1_2 : Option Addr) (cg1_2 : Nat) (x2 : Int) (hR0 : RdL w0 A0 l0) (hL0 : l0.length ≤ c0) (hRg1_0 : RdL w0 Ag1_0 lg1_0) (hLg1_0 : lg1_0.length ≤ cg1_0) (hBg1_0 : Glob w0 bg1_0 [.slice Ag1_0 lg1_0.length cg1_0]) (hBg1_1 : Glob w0 bg1_1 [vI xg1_1]) (hRg1_2 : RdL w0 Ag1_2 lg1_2) (hLg1_2 : lg1_2.length ≤ cg1_2) (hBg1_2 : Glob w0 bg1_2 [.slice Ag1_2 lg1_2.length cg1_2]) (s : Int × Nat) (o : (Int × Nat) ⊕ (Int ⊕ Int)) (h : sched_First.r0 K l0 lg1_0 xg1_1 lg1_2 x2 s = some o) (a : Act) (w : World) (hA : sched_First.A0 w0 l0 A0 c0 bg1_0 bg1_1 bg1_2 x2 s a w) (Q : Exit → Act → World → Prop) (hQ : ∀ x a w, Outs (sched_First.A0 w0 l0 A0 c0 bg1_0 bg1_1 bg1_2 x2) (sched_First.B0 w0) o x a w → Q x a w) : (subF Try.f29 [1, 1, 0, 1, 0, 0]).wp Try.prog Q a w := by
 obtain ⟨z1, i1⟩ := s
 obtain ⟨hS, hF⟩ := hA
 replace hS : St w0 w [] := hS
 simp only [sched_First.r0] at h
 refine (?_ : WE Try.prog 47 (subF Try.f29 [1, 1, 0, 1, 0, 0]) Q [(0, .slice A0 l0.length c0), (1, .func (.func 30) #[] #[pP bg1_0 0, pP bg1_1 0, pP bg1_2 0]), (2, vI x2), (7, vI z1), (10, .slice A0 l0.length c0), (11, vI (l0.length : Int)), (12, vI (i1 : Int))] w) a hF
 clear hF a
 refine ws fun K5 hK5 => ?_
 refine wr [(0, 0)] ?_
 refine gb0 [0] [(13, .bool (decide ((i1 : Int) < (l0.length : Int))))] ?_
 refine gn hK5 ?_
 refine ws fun K6 hK6 => ?_
 by_cases hc1 : (i1 : Int) < (l0.length : Int)
 ·rw [if_pos hc1] at h
  refine wk 13 (decide ((i1 : Int) < (l0.length : Int))) true (decide_eq_true hc1) ?_
  refine we_true (by kernel_rfl) ?_
  refine we_skip fun a hF => hK6 _ _ ?_ a hF
  refine ws fun K7 hK7 => ?_
  refine we_block ?_
  refine ws fun K8 hK8 => ?_
  refine wr [(0, 0), (1, 0), (2, 0), (3, 1), (4, 0), (5, 2)] ?_
  refine gb0 [0] [(14, vI (i1 : Int))] ?_
  rcases hx1 : l0[i1]? with _ | e1
  ·rw [hx1] at h; cases h
  rw [hx1] at h
  simp only [] at h
  refine gi 15 0 32 59 5 l0.length c0 (.tmp 10) (.tmp 12) A0 .i64 (i1 : Int) i1 ((hS.rd hR0).eqSome (pos_of_get hx1)) rfl (lt_of_get hx1) ?_
  refine gb [2] [(16, .agg #[vI e1.Task, vI e1.At, vI e1.C, vI e1.Due, vI e1.P])] [.loaded ⟨blkOf A0, offOf A0 + i1 * 5, none⟩ (vI e1.Task), .loaded ⟨blkOf A0, offOf A0 + i1 * 5 + 1, none⟩ (vI e1.At), .loaded ⟨blkOf A0, offOf A0 + i1 * 5 + 2, none⟩ (vI e1.C), .loaded ⟨blkOf A0, offOf A0 + i1 * 5 + 3, none⟩ (vI e1.Due), .loaded ⟨blkOf A0, offOf A0 + i1 * 5 + 4, none⟩ (vI e1.P)] ⟨RdL.cell (j := 0) (hS.rd hR0) hx1 rfl, RdL.cell (j := 1) (hS.rd hR0) hx1 rfl, RdL.cell (j := 2) (hS.rd hR0) hx1 rfl, RdL.cell (j := 3) (hS.rd hR0) hx1 rfl, RdL.cell (j := 4) (hS.rd hR0) hx1 rfl, trivial⟩ ?_
  refine gw (some 9) (.cells #[vI 0, vI 0, vI 0, vI 0, vI 0] 59) (fun b => pP b 0) hS fun b1 w1 hx2 hS1 => ?_
  refine gb0 [4] [(8, vI (i1 : Int))] ?_
  refine gs b1 0 #[vI 0, vI 0, vI 0, vI 0, vI 0] 59 [vI e1.Task, vI e1.At, vI e1.C, vI e1.Due, vI e1.P] hS1 fun w2 hS2 => ?_
  have hS3 : St w0 w2 [Own.blk b1 (.cells #[vI e1.Task, vI e1.At, vI e1.C, vI e1.Due, vI e1.P] 59 (0, 0))] := hS2
  refine gn hK8 ?_
  refine ws fun K9 hK9 => ?_
  refine ws fun K10 hK10 => ?_
  refine wr [(0, 0), (1, 0), (2, 1), (3, 0)] ?_
  rcases hq1 : sched_Play_1.f (i1 : Int) lg1_0 xg1_1 lg1_2 with _ | r1
  ·rw [hq1] at h; cases h
  rw [hq1] at h
  simp only [] at h
  refine gb0 [0, 1] [(18, vI (i1 : Int)), (17, .func (.func 30) #[] #[pP bg1_0 0, pP bg1_1 0, pP bg1_2 0])] ?_
  refine ge_call (d := some 19) (f := 30) (args := #[vI (i1 : Int), pP bg1_0 0, pP bg1_1 0, pP bg1_2 0]) (by kernel_rfl) (sched_Play_1_ok (i1 : Int) bg1_0 lg1_0 Ag1_0 cg1_0 bg1_1 xg1_1 bg1_2 lg1_2 Ag1_2 cg1_2 _ (hS3.rd hRg1_0) hLg1_0 (Glob.ext hBg1_0 hS3.below) (Glob.ext hBg1_1 hS3.below) (hS3.rd hRg1_2) hLg1_2 (Glob.ext hBg1_2 hS3.below) _ hq1) ?_
  rintro _ w3 ⟨rfl, hS4⟩
  refine ⟨_, rfl, hS4.below, ?_⟩
  have hS5 := hS3.call hS4
  refine gb0 [3] [(20, .bool (!r1))] ?_
  refine gn hK10 ?_
  by_cases hc2 : r1 = true
  ·rw [if_pos hc2] at h
   refine wk 20 (!r1) false (congrArg (fun z => !z) hc2) ?_
   refine we_false (by kernel_rfl) ?_
   refine we_skip fun a hF => hK9 _ _ ?_ a hF
   refine ws fun K11 hK11 => ?_
   refine we_draws (by kernel_rfl) [(0, 0), (1, 0), (2, 0), (3, 0), (5, 0), (6, 0), (7, 0), (8, 0), (9, 0), (11, 0), (12, 0), (13, 0), (14, 0), (15, 0), (16, 0), (17, 0), (4, 1), (10, 1), (18, 1), (19, 1), (20, 1), (21, 0), (22, 0)] (by kernel_rfl) ?_
   have hS6 := hS5.drew
   refine gb0 [0, 1, 2] [(23, .bool (decide (z1 < 0))), (22, .bool (decide (z1 < 0))), (21, vI z1)] ?_
   by_cases hc3 : z1 < 0
   ·rw [if_pos hc3] at h
    refine gk 23 (decide (z1 < 0)) true (decide_eq_true hc3) ?_
    refine gb0 [3, 5, 6, 7, 8, 9, 11, 12, 13, 14, 15, 16, 17] [(38, undef), (37, undef), (36, undef), (35, undef), (34, undef), (33, undef), (32, undef), (30, undef), (29, undef), (28, undef), (27, undef), (26, undef), (24, undef)] ?_
    refine ge_off rfl rfl rfl (by kernel_rfl) ?_
    refine ge_off rfl rfl rfl (by kernel_rfl) ?_
    refine ge_off rfl rfl rfl (by kernel_rfl) ?_
    refine ge_off rfl rfl rfl (by kernel_rfl) ?_
    refine ge_off rfl rfl rfl (by kernel_rfl) ?_
    refine gb0 [21, 22] [(43, .bool true), (42, undef)] ?_
    refine gn hK11 ?_
    refine we_true (by kernel_rfl) ?_
    refine wr [(0, 0), (1, 0)] ?_
    refine gb0 [0, 1] [(7, vI (i1 : Int)), (44, vI (i1 : Int))] ?_
    refine gn hK7 ?_
    refine wr [(0, 0), (1, 0)] ?_
    refine ge_addn (d := 45) (ty := 3) (x := (.tmp 12)) (y := (.const (vI 1))) (t := 3) (t2 := 3) (k := .i64) (m := i1) (by kernel_rfl) (by kernel_rfl) (by kernel_rfl) (by have h0 := hR0.small; omega) ?_
    refine gb0 [1] [(12, vI ((i1 + 1 : Nat) : Int))] ?_
    have hS7 := hS6.takeN 0
    obtain rfl := si h
    exact ge_nil fun a hF => hQ _ _ _ (Outs.again ⟨hS7, hF.weaken ea⟩)
   ·rw [if_neg hc3] at h
    refine gk 23 (decide (z1 < 0)) false (decide_eq_false hc3) ?_
    refine gb [3, 5, 6, 7] [(28, vI z1), (27, .slice A0 l0.length c0), (26, .agg #[vI e1.Task, vI e1.At, vI e1.C, vI e1.Due, vI e1.P]), (24, vI x2)] [.loaded ⟨b1, 0, none⟩ (vI e1.Task), .loaded ⟨b1, 1, none⟩ (vI e1.At), .loaded ⟨b1, 2, none⟩ (vI e1.C), .loaded ⟨b1, 3, none⟩ (vI e1.Due), .loaded ⟨b1, 4, none⟩ (vI e1.P)] ⟨hS6.c 0, hS6.c 0, hS6.c 0, hS6.c 0, hS6.c 0, trivial⟩ ?_
    by_cases hc4 : 0 ≤ z1
    ·rw [if_pos hc4] at h
     rcases hx3 : l0[(z1).toNat]? with _ | e2
     ·rw [hx3] at h; cases h
     rw [hx3] at h
     simp only [] at h
     refine gi 29 0 32 59 5 l0.length c0 (.tmp 27) (.tmp 28) A0 .i64 z1 ((z1).toNat) ((hS6.rd hR0).eqSome (pos_of_get hx3)) (Int.toNat_of_nonneg hc4).symm (lt_of_get hx3) ?_
     refine gb [9, 11, 12, 13, 14] [(35, vI z1), (34, .slice A0 l0.length c0), (33, vI e1.At), (32, pP b1 1), (30, .agg #[vI e2.Task, vI e2.At, vI e2.C, vI e2.Due, vI e2.P])] [.loaded ⟨blkOf A0, offOf A0 + ((z1).toNat) * 5, none⟩ (vI e2.Task), .loaded ⟨blkOf A0, offOf A0 + ((z1).toNat) * 5 + 1, none⟩ (vI e2.At), .loaded ⟨blkOf A0, offOf A0 + ((z1).toNat) * 5 + 2, none⟩ (vI e2.C), .loaded ⟨blkOf A0, offOf A0 + ((z1).toNat) * 5 + 3, none⟩ (vI e2.Due), .loaded ⟨blkOf A0, offOf A0 + ((z1).toNat) * 5 + 4, none⟩ (vI e2.P), .loaded ⟨b1, 1, none⟩ (vI e1.At)] ⟨RdL.cell (j := 0) (hS6.rd hR0) hx3 rfl, RdL.cell (j := 1) (hS6.rd hR0) hx3 rfl, RdL.cell (j := 2) (hS6.rd hR0) hx3 rfl, RdL.cell (j := 3) (hS6.rd hR0) hx3 rfl, RdL.cell (j := 4) (hS6.rd hR0) hx3 rfl, hS6.c 0, trivial⟩ ?_
     refine gi 36 0 32 59 5 l0.length c0 (.tmp 34) (.tmp 35) A0 .i64 z1 ((z1).toNat) ((hS6.rd hR0).eqSome (pos_of_get hx3)) (Int.toNat_of_nonneg hc4).symm (lt_of_get hx3) ?_
     refine gb [16, 17] [(38, vI e2.At), (37, .pointer (some ⟨blkOf A0, offOf A0 + (z1).toNat * 5 + 1, none⟩))] [.loaded ⟨blkOf A0, offOf A0 + ((z1).toNat) * 5 + 1, none⟩ (vI e2.At)] ⟨RdL.cell (j := 1) (hS6.rd hR0) hx3 rfl, trivial⟩ ?_
     refine ge_call (d := some 25) (f := 28) (args := #[vI x2]) (by kernel_rfl) (sched_rule_ok x2 _ _ rfl) ?_
     rintro _ w4 ⟨rfl, hS8⟩
     refine ⟨_, rfl, hS8.below, ?_⟩
     have hS9 := hS6.call hS8
     by_cases hc5 : (sched_rule.f x2) = 0
     ·rw [if_pos hc5] at h
      refine ge_same (t := 25) (v := fnVal (sched_rule.f x2)) (v' := .nilFunc) (by kernel_rfl) (by rw [hc5]; rfl) ?_
      cases h
     ·rw [if_neg hc5] at h
      by_cases hc6 : (sched_rule.f x2) = 48
      ·rw [if_pos hc6] at h
       refine ge_same (t := 25) (v := fnVal (sched_rule.f x2)) (v' := .func (.func 47) #[] #[]) (by kernel_rfl) (by rw [hc6]; rfl) ?_
       refine ge_call (d := some 31) (f := 47) (args := #[.agg #[vI e1.Task, vI e1.At, vI e1.C, vI e1.Due, vI e1.P], .agg #[vI e2.Task, vI e2.At, vI e2.C, vI e2.Due, vI e2.P]]) (by kernel_rfl) (sched_byPriority_ok e1 e2 _ _ rfl) ?_
       rintro _ w5 ⟨rfl, hS10⟩
       refine ⟨_, rfl, hS10.below, ?_⟩
       have hS11 := hS9.call hS10
       refine ge_call (d := some 39) (f := 42) (args := #[vI e1.At, vI e2.At]) (by kernel_rfl) (cmp_Compare_int_ok e1.At e2.At _ _ rfl) ?_
       rintro _ w6 ⟨rfl, hS12⟩
       refine ⟨_, rfl, hS12.below, ?_⟩
       have hS13 := hS11.call hS12
       refine gw (some 40) (.cells #[vI (sched_byPriority.f e1 e2), vI (cmp_Compare_int.f e1.At e2.At)] 3) (fun b => .slice (some ⟨b, 0, none⟩) 2 2) hS13 fun b2 w7 hx4 hS14 => ?_
       rcases hq5 : cmp_Or_int.f K ([(sched_byPriority.f e1 e2), (cmp_Compare_int.f e1.At e2.At)] : List Int) with _ | r2
       ·rw [hq5] at h; cases h
       rw [hq5] at h
       simp only [] at h
       refine ge_call (d := some 41) (f := 46) (args := #[.slice (some ⟨b2, 0, none⟩) 2 2]) (by kernel_rfl) (cmp_Or_int_ok K ([(sched_byPriority.f e1 e2), (cmp_Compare_int.f e1.At e2.At)] : List Int) (some ⟨b2, 0, none⟩) 2 _ (hS14.rdBlk 0 ([(sched_byPriority.f e1 e2), (cmp_Compare_int.f e1.At e2.At)] : List Int) rfl rfl rfl) (Nat.le_refl _) _ hq5) ?_
       rintro _ w8 ⟨rfl, hS15⟩
       refine ⟨_, rfl, hS15.below, ?_⟩
       have hS16 := hS14.call hS15
       refine gb0 [21, 22] [(43, .bool (decide (r2 < 0))), (42, .bool (decide (r2 < 0)))] ?_
       refine gn hK11 ?_
       by_cases hc7 : r2 < 0
       ·rw [if_pos hc7] at h
        refine wk 43 (decide (r2 < 0)) true (decide_eq_true hc7) ?_
        refine we_true (by kernel_rfl) ?_
        refine wr [(0, 0), (1, 0)] ?_
        refine gb0 [0, 1] [(7, vI (i1 : Int)), (44, vI (i1 : Int))] ?_
        refine gn hK7 ?_
        refine wr [(0, 0), (1, 0)] ?_
        refine ge_addn (d := 45) (ty := 3) (x := (.tmp 12)) (y := (.const (vI 1))) (t := 3) (t2 := 3) (k := .i64) (m := i1) (by kernel_rfl) (by kernel_rfl) (by kernel_rfl) (by have h0 := hR0.small; omega) ?_
        refine gb0 [1] [(12, vI ((i1 + 1 : Nat) : Int))] ?_
        have hS17 := hS16.takeN 0
        obtain rfl := si h
        exact ge_nil fun a hF => hQ _ _ _ (Outs.again ⟨hS17, hF.weaken ea⟩)
       ·rw [if_neg hc7] at h
        refine wk 43 (decide (r2 < 0)) false (decide_eq_false hc7) ?_
        refine we_false (by kernel_rfl) ?_
        refine we_skip fun a hF => hK7 _ _ ?_ a hF
        refine wr [(0, 0), (1, 0)] ?_
        refine ge_addn (d := 45) (ty := 3) (x := (.tmp 12)) (y := (.const (vI 1))) (t := 3) (t2 := 3) (k := .i64) (m := i1) (by kernel_rfl) (by kernel_rfl) (by kernel_rfl) (by have h0 := hR0.small; omega) ?_
        refine gb0 [1] [(12, vI ((i1 + 1 : Nat) : Int))] ?_
        have hS18 := hS16.takeN 0
        obtain rfl := si h
        exact ge_nil fun a hF => hQ _ _ _ (Outs.again ⟨hS18, hF.weaken ea⟩)
      ·rw [if_neg hc6] at h
       by_cases hc8 : (sched_rule.f x2) = 49
       ·rw [if_pos hc8] at h
        refine ge_same (t := 25) (v := fnVal (sched_rule.f x2)) (v' := .func (.func 48) #[] #[]) (by kernel_rfl) (by rw [hc8]; rfl) ?_
        refine ge_call (d := some 31) (f := 48) (args := #[.agg #[vI e1.Task, vI e1.At, vI e1.C, vI e1.Due, vI e1.P], .agg #[vI e2.Task, vI e2.At, vI e2.C, vI e2.Due, vI e2.P]]) (by kernel_rfl) (sched_byDue_ok e1 e2 _ _ rfl) ?_
        rintro _ w9 ⟨rfl, hS19⟩
        refine ⟨_, rfl, hS19.below, ?_⟩
        have hS20 := hS9.call hS19
        refine ge_call (d := some 39) (f := 42) (args := #[vI e1.At, vI e2.At]) (by kernel_rfl) (cmp_Compare_int_ok e1.At e2.At _ _ rfl) ?_
        rintro _ w10 ⟨rfl, hS21⟩
        refine ⟨_, rfl, hS21.below, ?_⟩
        have hS22 := hS20.call hS21
        refine gw (some 40) (.cells #[vI (sched_byDue.f e1 e2), vI (cmp_Compare_int.f e1.At e2.At)] 3) (fun b => .slice (some ⟨b, 0, none⟩) 2 2) hS22 fun b3 w11 hx5 hS23 => ?_
        rcases hq8 : cmp_Or_int.f K ([(sched_byDue.f e1 e2), (cmp_Compare_int.f e1.At e2.At)] : List Int) with _ | r3
        ·rw [hq8] at h; cases h
        rw [hq8] at h
        simp only [] at h
        refine ge_call (d := some 41) (f := 46) (args := #[.slice (some ⟨b3, 0, none⟩) 2 2]) (by kernel_rfl) (cmp_Or_int_ok K ([(sched_byDue.f e1 e2), (cmp_Compare_int.f e1.At e2.At)] : List Int) (some ⟨b3, 0, none⟩) 2 _ (hS23.rdBlk 0 ([(sched_byDue.f e1 e2), (cmp_Compare_int.f e1.At e2.At)] : List Int) rfl rfl rfl) (Nat.le_refl _) _ hq8) ?_
        rintro _ w12 ⟨rfl, hS24⟩
        refine ⟨_, rfl, hS24.below, ?_⟩
        have hS25 := hS23.call hS24
        refine gb0 [21, 22] [(43, .bool (decide (r3 < 0))), (42, .bool (decide (r3 < 0)))] ?_
        refine gn hK11 ?_
        by_cases hc9 : r3 < 0
        ·rw [if_pos hc9] at h
         refine wk 43 (decide (r3 < 0)) true (decide_eq_true hc9) ?_
         refine we_true (by kernel_rfl) ?_
         refine wr [(0, 0), (1, 0)] ?_
         refine gb0 [0, 1] [(7, vI (i1 : Int)), (44, vI (i1 : Int))] ?_
         refine gn hK7 ?_
         refine wr [(0, 0), (1, 0)] ?_
         refine ge_addn (d := 45) (ty := 3) (x := (.tmp 12)) (y := (.const (vI 1))) (t := 3) (t2 := 3) (k := .i64) (m := i1) (by kernel_rfl) (by kernel_rfl) (by kernel_rfl) (by have h0 := hR0.small; omega) ?_
         refine gb0 [1] [(12, vI ((i1 + 1 : Nat) : Int))] ?_
         have hS26 := hS25.takeN 0
         obtain rfl := si h
         exact ge_nil fun a hF => hQ _ _ _ (Outs.again ⟨hS26, hF.weaken ea⟩)
        ·rw [if_neg hc9] at h
         refine wk 43 (decide (r3 < 0)) false (decide_eq_false hc9) ?_
         refine we_false (by kernel_rfl) ?_
         refine we_skip fun a hF => hK7 _ _ ?_ a hF
         refine wr [(0, 0), (1, 0)] ?_
         refine ge_addn (d := 45) (ty := 3) (x := (.tmp 12)) (y := (.const (vI 1))) (t := 3) (t2 := 3) (k := .i64) (m := i1) (by kernel_rfl) (by kernel_rfl) (by kernel_rfl) (by have h0 := hR0.small; omega) ?_
         refine gb0 [1] [(12, vI ((i1 + 1 : Nat) : Int))] ?_
         have hS27 := hS25.takeN 0
         obtain rfl := si h
         exact ge_nil fun a hF => hQ _ _ _ (Outs.again ⟨hS27, hF.weaken ea⟩)
       ·rw [if_neg hc8] at h
        cases h
    ·rw [if_neg hc4] at h
     cases h
  ·rw [if_neg hc2] at h
   refine wk 20 (!r1) true (congrArg (fun z => !z) (Bool.eq_false_iff.2 hc2)) ?_
   refine we_true (by kernel_rfl) ?_
   refine we_exit fun a hF => hK7 _ _ ?_ a hF
   refine wr [(0, 0), (1, 0)] ?_
   refine ge_addn (d := 45) (ty := 3) (x := (.tmp 12)) (y := (.const (vI 1))) (t := 3) (t2 := 3) (k := .i64) (m := i1) (by kernel_rfl) (by kernel_rfl) (by kernel_rfl) (by have h0 := hR0.small; omega) ?_
   refine gb0 [1] [(12, vI ((i1 + 1 : Nat) : Int))] ?_
   have hS28 := hS5.takeN 0
   obtain rfl := si h
   exact ge_nil fun a hF => hQ _ _ _ (Outs.again ⟨hS28, hF.weaken ea⟩)
 ·rw [if_neg hc1] at h
  refine wk 13 (decide ((i1 : Int) < (l0.length : Int))) false (decide_eq_false hc1) ?_
  refine we_false (by kernel_rfl) ?_
  obtain rfl := si h
  exact we_exit fun a hF => hQ _ _ _ (Outs.out nofun (Exits.here ⟨hS, hF.weaken ea⟩))
theorem sched_First_ok (K : Nat) (l0 : List SJob) (A0 : Option Addr) (c0 : Nat) (bg1_0 : Nat) (lg1_0 : List SJob) (Ag1_0 : Option Addr) (cg1_0 : Nat) (bg1_1 : Nat) (xg1_1 : Int) (bg1_2 : Nat) (lg1_2 : List Int) (Ag1_2 : Option Addr) (cg1_2 : Nat) (x2 : Int) (w0 : World) (hR0 : RdL w0 A0 l0) (hL0 : l0.length ≤ c0) (hRg1_0 : RdL w0 Ag1_0 lg1_0) (hLg1_0 : lg1_0.length ≤ cg1_0) (hBg1_0 : Glob w0 bg1_0 [.slice Ag1_0 lg1_0.length cg1_0]) (hBg1_1 : Glob w0 bg1_1 [vI xg1_1]) (hRg1_2 : RdL w0 Ag1_2 lg1_2) (hLg1_2 : lg1_2.length ≤ cg1_2) (hBg1_2 : Glob w0 bg1_2 [.slice Ag1_2 lg1_2.length cg1_2]) (r : Int) (h : sched_First.f K l0 lg1_0 xg1_1 lg1_2 x2 = some r) :
  Calls Try.prog 29 #[.slice A0 l0.length c0, .func (.func 30) #[] #[pP bg1_0 0, pP bg1_1 0, pP bg1_2 0], vI x2] w0 (sched_First.Post w0 r) := by
 have hS := St.start w0
 unfold sched_First.f at h
 refine calls_enter (n := 47) (args := [.slice A0 l0.length c0, .func (.func 30) #[] #[pP bg1_0 0, pP bg1_1 0, pP bg1_2 0], vI x2]) (fn := Try.f29) rfl rfl rfl rfl ?_
 show WE _ _ _ _ [(0, .slice A0 l0.length c0), (1, .func (.func 30) #[] #[pP bg1_0 0, pP bg1_1 0, pP bg1_2 0]), (2, vI x2)] _
 refine ws fun K1 hK1 => ?_
 refine wr [(0, 0)] ?_
 refine gb0 [0] [(6, vI 0)] ?_
 refine gn hK1 ?_
 refine ws fun K2 hK2 => ?_
 refine wr [(0, 0)] ?_
 refine gb0 [0] [(7, vI (-1))] ?_
 refine gn hK2 ?_
 refine ws fun K3 hK3 => ?_
 refine ws fun K4 hK4 => ?_
 refine wr [(0, 0), (1, 0), (2, 0)] ?_
 refine gb0 [0, 1, 2] [(12, vI 0), (11, vI (l0.length : Int)), (10, .slice A0 l0.length c0)] ?_
 refine gn hK4 ?_
 refine we_block ?_
 rcases hq9 : iter (sched_First.r0 K l0 lg1_0 xg1_1 lg1_2 x2) K ((-1), 0) with _ | (z3 | rr1)
 ·rw [hq9] at h; cases h
 ·rw [hq9] at h
  simp only [] at h
  refine we_iter (A := sched_First.A0 w0 l0 A0 c0 bg1_0 bg1_1 bg1_2 x2) (B := sched_First.B0 w0) hq9 (fun a hF => ⟨hS, hF.weaken ea⟩) (fun s o hf a w hA Q hQ => sched_First_r0 K w0 l0 A0 c0 bg1_0 lg1_0 Ag1_0 cg1_0 bg1_1 xg1_1 bg1_2 lg1_2 Ag1_2 cg1_2 x2 hR0 hL0 hRg1_0 hLg1_0 hBg1_0 hBg1_1 hRg1_2 hLg1_2 hBg1_2 s o hf a w hA Q hQ) ?_
  rintro _ a w13 _ ⟨rfl, hS29, hF⟩
  replace hS29 : St w0 w13 [] := hS29
  refine hK3 [(7, vI z3)] w13 ?_ a hF
  refine ws fun K12 hK12 => ?_
  refine wr [(0, 0), (1, 0)] ?_
  refine gb0 [0, 1] [(6, vI z3), (46, vI z3)] ?_
  refine gn hK12 ?_
  obtain rfl := si h
  exact we_ret (pr0 [.tmp 6] [vI z3] ⟨rfl, hS29⟩)
 ·rw [hq9] at h
  simp only [] at h
  refine we_iter (A := sched_First.A0 w0 l0 A0 c0 bg1_0 bg1_1 bg1_2 x2) (B := sched_First.B0 w0) hq9 (fun a hF => ⟨hS, hF.weaken ea⟩) (fun s o hf a w hA Q hQ => sched_First_r0 K w0 l0 A0 c0 bg1_0 lg1_0 Ag1_0 cg1_0 bg1_1 xg1_1 bg1_2 lg1_2 Ag1_2 cg1_2 x2 hR0 hL0 hRg1_0 hLg1_0 hBg1_0 hBg1_1 hRg1_2 hLg1_2 hBg1_2 s o hf a w hA Q hQ) ?_
  rintro _ a w1 _ ⟨rfl, hb⟩
  obtain rfl := si h
  exact hb

structure SPlayed where
 Runs : List Int
 Ends : List Int
end Go.Proofs.Ytlipdmblinjjaaa.GV
