/- Walks of single functions, written by a program of this work. -/
import Derived.Test.YtlipdmblinjjaaaDoorGv26
import Derived.Test.YtlipdmblinjjaaaDoorProg
namespace Go.Proofs.YtlipdmblinjjaaaDoor.GV
open Go Go.RowKit
set_option linter.unusedVariables false
set_option linter.unusedSimpArgs false
set_option maxRecDepth 100000

/-! punctual/tasks.isName -/
abbrev tasks_isName.Post (w0 : World) (r : Bool) (e : Ending) (w : World) : Prop := e = .returned (.bool r) ∧ St w0 w []
def tasks_isName.r0 (x0 : ByteArray) : Nat → Option (Nat ⊕ (Unit ⊕ Bool))
 | i1 =>
  if i1 < x0.size then
   if ((Utf8.decode x0 i1).1 : Int) < 97 then
    some (.inr (.inr false))
   else
    if ((Utf8.decode x0 i1).1 : Int) > 122 then
     some (.inr (.inr false))
    else
     some (.inl (i1 + (Utf8.decode x0 i1).2))
  else
   some (.inr (.inl ()))
def tasks_isName.f (K : Nat) (x0 : ByteArray) : Option Bool :=
 if (x0.size : Int) < 1 then
  some false
 else
  if (x0.size : Int) > 10 then
   some false
  else
   match iter (tasks_isName.r0 x0) K 0 with
   | none => none
   | some (.inl _) =>
    some true
   | some (.inr rr1) =>
    some rr1
abbrev tasks_isName.A0 (w0 : World) (x0 : ByteArray) (b1 : Nat) : Nat → Act → World → Prop := fun (s : Nat) a w => St w0 w [Own.blk b1 (.stringIter x0 s)] ∧ Frm 24 a [(14, pP b1 0)]
abbrev tasks_isName.B0 (w0 : World) : (Unit ⊕ Bool) → Exit → Act → World → Prop := Exits 0 (fun (s : Unit) a w => St w0 w [] ∧ Frm 24 a []) (Rets Tryd.prog Tryd.f61 (tasks_isName.Post w0))
theorem tasks_isName_r0 (K : Nat) (w0 : World) (x0 : ByteArray) (hc1 : ¬ ((x0.size : Int) < 1)) (hc2 : ¬ ((x0.size : Int) > 10)) (b1 : Nat) (s : Nat) (o : Nat ⊕ (Unit ⊕ Bool)) (h : tasks_isName.r0 x0 s = some o) (a : Act) (w : World) (hA : tasks_isName.A0 w0 x0 b1 s a w) (Q : Exit → Act → World → Prop) (hQ : ∀ x a w, Outs (tasks_isName.A0 w0 x0 b1) (tasks_isName.B0 w0) o x a w → Q x a w) : (subF Tryd.f61 [1, 1, 0, 1, 0, 0]).wp Tryd.prog Q a w := by
 obtain ⟨i1, hs⟩ : ∃ z, z = s := ⟨s, rfl⟩
 subst hs
 obtain ⟨hS, hF⟩ := hA
 replace hS : St w0 w [Own.blk b1 (.stringIter x0 i1)] := hS
 simp only [tasks_isName.r0] at h
 refine (?_ : WE Tryd.prog 24 (subF Tryd.f61 [1, 1, 0, 1, 0, 0]) Q [(14, pP b1 0)] w) a hF
 clear hF a
 refine ws fun K8 hK8 => ?_
 refine wr [(0, 2), (1, 0)] ?_
 by_cases hc3 : i1 < x0.size
 ·rw [if_pos hc3] at h
  refine ge_next (m := 0) (d := 15) (b := b1) (x := (.tmp 14)) (ty := 0) (s := x0) (pos := i1) (by kernel_rfl) (by kernel_rfl) hS (fun _ w2 hS2 => ?_) (fun hp => absurd hc3 hp)
  refine gb0 [1] [(16, .bool true)] ?_
  refine gn hK8 ?_
  refine ws fun K9 hK9 => ?_
  refine we_true (by kernel_rfl) ?_
  refine we_skip fun a hF => hK9 _ _ ?_ a hF
  refine we_block ?_
  refine ws fun K10 hK10 => ?_
  refine wr [(0, 0), (1, 0)] ?_
  refine gb0 [0, 1] [(4, .int .i32 ((Utf8.decode x0 i1).1 : Int)), (17, .int .i32 ((Utf8.decode x0 i1).1 : Int))] ?_
  refine gn hK10 ?_
  refine ws fun K11 hK11 => ?_
  refine wr [(0, 0), (1, 0), (2, 0), (3, 0), (4, 0), (5, 0)] ?_
  refine gb0 [0, 1, 2] [(20, .bool (decide (((Utf8.decode x0 i1).1 : Int) < 97))), (19, .bool (decide (((Utf8.decode x0 i1).1 : Int) < 97))), (18, .int .i32 ((Utf8.decode x0 i1).1 : Int))] ?_
  by_cases hc4 : ((Utf8.decode x0 i1).1 : Int) < 97
  ·rw [if_pos hc4] at h
   refine gk 20 (decide (((Utf8.decode x0 i1).1 : Int) < 97)) true (decide_eq_true hc4) ?_
   refine gb0 [3, 4, 5] [(23, .bool true), (22, undef), (21, undef)] ?_
   refine gn hK11 ?_
   refine we_true (by kernel_rfl) ?_
   refine ws fun K12 hK12 => ?_
   refine wr [(0, 0)] ?_
   refine gb0 [0] [(2, .bool false)] ?_
   refine gn hK12 ?_
   have hS3 := hS2.takeN 0
   obtain rfl := si h
   exact we_ret fun a hF => hQ _ _ _ (Outs.out nofun (Exits.on ⟨rfl, (pr0 [.tmp 2] [.bool false] ⟨rfl, hS3⟩) a hF⟩))
  ·rw [if_neg hc4] at h
   refine gk 20 (decide (((Utf8.decode x0 i1).1 : Int) < 97)) false (decide_eq_false hc4) ?_
   refine gb0 [3, 4, 5] [(23, .bool (decide (((Utf8.decode x0 i1).1 : Int) > 122))), (22, .bool (decide (((Utf8.decode x0 i1).1 : Int) > 122))), (21, .int .i32 ((Utf8.decode x0 i1).1 : Int))] ?_
   refine gn hK11 ?_
   by_cases hc5 : ((Utf8.decode x0 i1).1 : Int) > 122
   ·rw [if_pos hc5] at h
    refine wk 23 (decide (((Utf8.decode x0 i1).1 : Int) > 122)) true (decide_eq_true hc5) ?_
    refine we_true (by kernel_rfl) ?_
    refine ws fun K13 hK13 => ?_
    refine wr [(0, 0)] ?_
    refine gb0 [0] [(2, .bool false)] ?_
    refine gn hK13 ?_
    have hS4 := hS2.takeN 0
    obtain rfl := si h
    exact we_ret fun a hF => hQ _ _ _ (Outs.out nofun (Exits.on ⟨rfl, (pr0 [.tmp 2] [.bool false] ⟨rfl, hS4⟩) a hF⟩))
   ·rw [if_neg hc5] at h
    refine wk 23 (decide (((Utf8.decode x0 i1).1 : Int) > 122)) false (decide_eq_false hc5) ?_
    refine we_false (by kernel_rfl) ?_
    obtain rfl := si h
    exact we_skip fun a hF => hQ _ _ _ (Outs.again ⟨hS2, hF.weaken ea⟩)
 ·rw [if_neg hc3] at h
  refine ge_next (m := 0) (d := 15) (b := b1) (x := (.tmp 14)) (ty := 0) (s := x0) (pos := i1) (by kernel_rfl) (by kernel_rfl) hS (fun hp => absurd hp hc3) (fun _ => ?_)
  refine gb0 [1] [(16, .bool false)] ?_
  refine gn hK8 ?_
  refine ws fun K14 hK14 => ?_
  refine we_false (by kernel_rfl) ?_
  have hS5 := hS.takeN 0
  obtain rfl := si h
  exact we_exit fun a hF => hQ _ _ _ (Outs.out nofun (Exits.here ⟨hS5, hF.weaken trivial⟩))
theorem tasks_isName_ok (K : Nat) (x0 : ByteArray) (w0 : World) (r : Bool) (h : tasks_isName.f K x0 = some r) :
  Calls Tryd.prog 61 #[.string x0] w0 (tasks_isName.Post w0 r) := by
 have hS := St.start w0
 unfold tasks_isName.f at h
 refine calls_enter (n := 24) (args := [.string x0]) (fn := Tryd.f61) rfl rfl rfl rfl ?_
 show WE _ _ _ _ [(0, .string x0)] _
 refine ws fun K1 hK1 => ?_
 refine wr [(0, 0)] ?_
 refine gb0 [0] [(2, .bool false)] ?_
 refine gn hK1 ?_
 refine ws fun K2 hK2 => ?_
 refine ws fun K3 hK3 => ?_
 refine wr [(0, 0), (1, 0), (2, 0), (3, 0), (4, 0), (5, 0), (6, 0), (7, 0)] ?_
 refine gb0 [0, 1, 2, 3] [(8, .bool (decide ((x0.size : Int) < 1))), (7, .bool (decide ((x0.size : Int) < 1))), (6, vI (x0.size : Int)), (5, .string x0)] ?_
 by_cases hc1 : (x0.size : Int) < 1
 ·rw [if_pos hc1] at h
  refine gk 8 (decide ((x0.size : Int) < 1)) true (decide_eq_true hc1) ?_
  refine gb0 [4, 5, 6, 7] [(12, .bool true), (11, undef), (10, undef), (9, undef)] ?_
  refine gn hK3 ?_
  refine we_true (by kernel_rfl) ?_
  refine ws fun K4 hK4 => ?_
  refine wr [(0, 0)] ?_
  refine gb0 [0] [(2, .bool false)] ?_
  refine gn hK4 ?_
  obtain rfl := si h
  exact we_ret (pr0 [.tmp 2] [.bool false] ⟨rfl, hS⟩)
 ·rw [if_neg hc1] at h
  refine gk 8 (decide ((x0.size : Int) < 1)) false (decide_eq_false hc1) ?_
  refine gb0 [4, 5, 6, 7] [(12, .bool (decide ((x0.size : Int) > 10))), (11, .bool (decide ((x0.size : Int) > 10))), (10, vI (x0.size : Int)), (9, .string x0)] ?_
  refine gn hK3 ?_
  by_cases hc2 : (x0.size : Int) > 10
  ·rw [if_pos hc2] at h
   refine wk 12 (decide ((x0.size : Int) > 10)) true (decide_eq_true hc2) ?_
   refine we_true (by kernel_rfl) ?_
   refine ws fun K5 hK5 => ?_
   refine wr [(0, 0)] ?_
   refine gb0 [0] [(2, .bool false)] ?_
   refine gn hK5 ?_
   obtain rfl := si h
   exact we_ret (pr0 [.tmp 2] [.bool false] ⟨rfl, hS⟩)
  ·rw [if_neg hc2] at h
   refine wk 12 (decide ((x0.size : Int) > 10)) false (decide_eq_false hc2) ?_
   refine we_false (by kernel_rfl) ?_
   refine we_skip fun a hF => hK2 _ _ ?_ a hF
   refine ws fun K6 hK6 => ?_
   refine ws fun K7 hK7 => ?_
   refine wr [(0, 0), (1, 1)] ?_
   refine gb0 [0] [(13, .string x0)] ?_
   refine gw (some 14) (.stringIter x0 0) (fun b => pP b 0) hS fun b1 w1 hx1 hS1 => ?_
   refine gn hK7 ?_
   refine we_block ?_
   rcases hq1 : iter (tasks_isName.r0 x0) K 0 with _ | (_ | rr1)
   ·rw [hq1] at h; cases h
   ·rw [hq1] at h
    simp only [] at h
    refine we_iter (A := tasks_isName.A0 w0 x0 b1) (B := tasks_isName.B0 w0) hq1 (fun a hF => ⟨hS1, hF.weaken ea⟩) (fun s o hf a w hA Q hQ => tasks_isName_r0 K w0 x0 hc1 hc2 b1 s o hf a w hA Q hQ) ?_
    rintro _ a w3 _ ⟨rfl, hS6, hF⟩
    replace hS6 : St w0 w3 [] := hS6
    refine hK6 [] w3 ?_ a hF
    refine ws fun K15 hK15 => ?_
    refine wr [(0, 0)] ?_
    refine gb0 [0] [(2, .bool true)] ?_
    refine gn hK15 ?_
    obtain rfl := si h
    exact we_ret (pr0 [.tmp 2] [.bool true] ⟨rfl, hS6⟩)
   ·rw [hq1] at h
    simp only [] at h
    refine we_iter (A := tasks_isName.A0 w0 x0 b1) (B := tasks_isName.B0 w0) hq1 (fun a hF => ⟨hS1, hF.weaken ea⟩) (fun s o hf a w hA Q hQ => tasks_isName_r0 K w0 x0 hc1 hc2 b1 s o hf a w hA Q hQ) ?_
    rintro _ a w1 _ ⟨rfl, hb⟩
    obtain rfl := si h
    exact hb

structure STask where
 Name : ByteArray
 C : Int
 T : Int
 D : Int
 J : Int
 O : Int
 P : Int
def STask.eqb (x y : STask) : Bool := ((x.Name.toList == y.Name.toList) && ((x.C == y.C) && ((x.T == y.T) && ((x.D == y.D) && ((x.J == y.J) && ((x.O == y.O) && ((x.P == y.P) && true)))))))
instance : Ok STask := ⟨fun x => Ok.ok x.Name ∧ Ok.ok x.C ∧ Ok.ok x.T ∧ Ok.ok x.D ∧ Ok.ok x.J ∧ Ok.ok x.O ∧ Ok.ok x.P ∧ True⟩
instance : Flat STask := ⟨7, fun x => [.string x.Name, vI x.C, vI x.T, vI x.D, vI x.J, vI x.O, vI x.P], fun _ => rfl, fun _ => rfl, by decide⟩

/-! punctual/tasks.Check$1 -/
abbrev tasks_Check_1.Post (w0 : World) (r : Bool) (e : Ending) (w : World) : Prop := e = .returned (.bool r) ∧ St w0 w []
def tasks_Check_1.f (x0 : STask) (xf_0 : STask) : Bool :=
 (x0.Name.toList == xf_0.Name.toList)
theorem tasks_Check_1_ok (x0 : STask) (bf_0 : Nat) (xf_0 : STask) (w0 : World) (hBf_0 : Glob w0 bf_0 [.string xf_0.Name, vI xf_0.C, vI xf_0.T, vI xf_0.D, vI xf_0.J, vI xf_0.O, vI xf_0.P]) (r : Bool) (h : tasks_Check_1.f x0 xf_0 = r) :
  Calls Tryd.prog 63 #[.agg #[.string x0.Name, vI x0.C, vI x0.T, vI x0.D, vI x0.J, vI x0.O, vI x0.P], pP bf_0 0] w0 (tasks_Check_1.Post w0 r) := by
 have hS := St.start w0
 unfold tasks_Check_1.f at h
 refine calls_enter (n := 9) (args := [.agg #[.string x0.Name, vI x0.C, vI x0.T, vI x0.D, vI x0.J, vI x0.O, vI x0.P], pP bf_0 0]) (fn := Tryd.f63) rfl rfl rfl rfl ?_
 show WE _ _ _ _ [(0, .agg #[.string x0.Name, vI x0.C, vI x0.T, vI x0.D, vI x0.J, vI x0.O, vI x0.P]), (1, pP bf_0 0)] _
 refine ws fun K1 hK1 => ?_
 refine wr [(0, 1), (1, 0)] ?_
 refine gw (some 2) (.cells #[.string x0.Name, vI x0.C, vI x0.T, vI x0.D, vI x0.J, vI x0.O, vI x0.P] 46) (fun b => pP b 0) hS fun b1 w1 hx1 hS1 => ?_
 refine gb0 [1] [(3, .bool false)] ?_
 refine gn hK1 ?_
 refine ws fun K2 hK2 => ?_
 refine wr [(0, 0), (1, 0), (2, 0), (3, 0), (4, 0), (5, 0)] ?_
 refine gb [0, 1, 2, 3, 4, 5] [(3, .bool (x0.Name.toList == xf_0.Name.toList)), (8, .bool (x0.Name.toList == xf_0.Name.toList)), (7, .string xf_0.Name), (6, pP bf_0 0), (5, .string x0.Name), (4, pP b1 0)] [.loaded ⟨b1, 0, none⟩ (.string x0.Name), .loaded ⟨bf_0, 0, none⟩ (.string xf_0.Name)] ⟨hS1.c 0, hS1.glob hBf_0 rfl, trivial⟩ ?_
 refine gn hK2 ?_
 have hS2 := hS1.takeN 0
 subst h
 exact we_ret (pr0 [.tmp 3] [.bool (x0.Name.toList == xf_0.Name.toList)] ⟨rfl, hS2⟩)

/-! slices.IndexFunc[[]punctual/api.Task,punctual/api.Task] -/
abbrev slices_IndexFunc_api_Task_api_Task.Post (w0 : World) (r : Int) (e : Ending) (w : World) : Prop := e = .returned (vI r) ∧ St w0 w []
def slices_IndexFunc_api_Task_api_Task.r0 (l0 : List STask) (xg1_0 : STask) : Nat → Option (Nat ⊕ (Unit ⊕ Int))
 | i1 =>
  if (i1 : Int) < (l0.length : Int) then
   match l0[i1]? with
   | none => none
   | some e1 =>
    if (tasks_Check_1.f e1 xg1_0) = true then
     some (.inr (.inr (i1 : Int)))
    else
     some (.inl (i1 + 1))
  else
   some (.inr (.inl ()))
def slices_IndexFunc_api_Task_api_Task.f (K : Nat) (l0 : List STask) (xg1_0 : STask) : Option Int :=
 match iter (slices_IndexFunc_api_Task_api_Task.r0 l0 xg1_0) K 0 with
 | none => none
 | some (.inl _) =>
  some (-1)
 | some (.inr rr1) =>
  some rr1
abbrev slices_IndexFunc_api_Task_api_Task.A0 (w0 : World) (l0 : List STask) (A0 : Option Addr) (c0 : Nat) (bg1_0 : Nat) : Nat → Act → World → Prop := fun (s : Nat) a w => St w0 w [] ∧ Frm 19 a [(0, .slice A0 l0.length c0), (1, .func (.func 63) #[] #[pP bg1_0 0]), (7, vI (l0.length : Int)), (8, vI (s : Int))]
abbrev slices_IndexFunc_api_Task_api_Task.B0 (w0 : World) : (Unit ⊕ Int) → Exit → Act → World → Prop := Exits 0 (fun (s : Unit) a w => St w0 w [] ∧ Frm 19 a []) (Rets Tryd.prog Tryd.f90 (slices_IndexFunc_api_Task_api_Task.Post w0))
theorem slices_IndexFunc_api_Task_api_Task_r0 (K : Nat) (w0 : World) (l0 : List STask) (A0 : Option Addr) (c0 : Nat) (bg1_0 : Nat) (xg1_0 : STask) (hR0 : RdL w0 A0 l0) (hL0 : l0.length ≤ c0) (hBg1_0 : Glob w0 bg1_0 [.string xg1_0.Name, vI xg1_0.C, vI xg1_0.T, vI xg1_0.D, vI xg1_0.J, vI xg1_0.O, vI xg1_0.P]) (s : Nat) (o : Nat ⊕ (Unit ⊕ Int)) (h : slices_IndexFunc_api_Task_api_Task.r0 l0 xg1_0 s = some o) (a : Act) (w : World) (hA : slices_IndexFunc_api_Task_api_Task.A0 w0 l0 A0 c0 bg1_0 s a w) (Q : Exit → Act → World → Prop) (hQ : ∀ x a w, Outs (slices_IndexFunc_api_Task_api_Task.A0 w0 l0 A0 c0 bg1_0) (slices_IndexFunc_api_Task_api_Task.B0 w0) o x a w → Q x a w) : (subF Tryd.f90 [1, 0, 1, 0, 0]).wp Tryd.prog Q a w := by
 obtain ⟨i1, hs⟩ : ∃ z, z = s := ⟨s, rfl⟩
 subst hs
 obtain ⟨hS, hF⟩ := hA
 replace hS : St w0 w [] := hS
 simp only [slices_IndexFunc_api_Task_api_Task.r0] at h
 refine (?_ : WE Tryd.prog 19 (subF Tryd.f90 [1, 0, 1, 0, 0]) Q [(0, .slice A0 l0.length c0), (1, .func (.func 63) #[] #[pP bg1_0 0]), (7, vI (l0.length : Int)), (8, vI (i1 : Int))] w) a hF
 clear hF a
 refine ws fun K4 hK4 => ?_
 refine wr [(0, 0)] ?_
 refine gb0 [0] [(9, .bool (decide ((i1 : Int) < (l0.length : Int))))] ?_
 refine gn hK4 ?_
 refine ws fun K5 hK5 => ?_
 by_cases hc1 : (i1 : Int) < (l0.length : Int)
 ·rw [if_pos hc1] at h
  refine wk 9 (decide ((i1 : Int) < (l0.length : Int))) true (decide_eq_true hc1) ?_
  refine we_true (by kernel_rfl) ?_
  refine we_skip fun a hF => hK5 _ _ ?_ a hF
  refine ws fun K6 hK6 => ?_
  refine we_block ?_
  refine ws fun K7 hK7 => ?_
  refine wr [(0, 0), (1, 0)] ?_
  refine gb0 [0, 1] [(5, vI (i1 : Int)), (10, vI (i1 : Int))] ?_
  refine gn hK7 ?_
  refine ws fun K8 hK8 => ?_
  refine wr [(0, 0), (1, 0), (2, 0), (3, 0), (4, 0), (5, 1)] ?_
  refine gb0 [0, 1, 2] [(13, vI (i1 : Int)), (12, .slice A0 l0.length c0), (11, .func (.func 63) #[] #[pP bg1_0 0])] ?_
  rcases hx1 : l0[i1]? with _ | e1
  ·rw [hx1] at h; cases h
  rw [hx1] at h
  simp only [] at h
  refine gi 14 0 40 46 7 l0.length c0 (.tmp 12) (.tmp 13) A0 .i64 (i1 : Int) i1 ((hS.rd hR0).eqSome (pos_of_get hx1)) rfl (lt_of_get hx1) ?_
  refine gb [4] [(15, .agg #[.string e1.Name, vI e1.C, vI e1.T, vI e1.D, vI e1.J, vI e1.O, vI e1.P])] [.loaded ⟨blkOf A0, offOf A0 + i1 * 7, none⟩ (.string e1.Name), .loaded ⟨blkOf A0, offOf A0 + i1 * 7 + 1, none⟩ (vI e1.C), .loaded ⟨blkOf A0, offOf A0 + i1 * 7 + 2, none⟩ (vI e1.T), .loaded ⟨blkOf A0, offOf A0 + i1 * 7 + 3, none⟩ (vI e1.D), .loaded ⟨blkOf A0, offOf A0 + i1 * 7 + 4, none⟩ (vI e1.J), .loaded ⟨blkOf A0, offOf A0 + i1 * 7 + 5, none⟩ (vI e1.O), .loaded ⟨blkOf A0, offOf A0 + i1 * 7 + 6, none⟩ (vI e1.P)] ⟨RdL.cell (j := 0) (hS.rd hR0) hx1 rfl, RdL.cell (j := 1) (hS.rd hR0) hx1 rfl, RdL.cell (j := 2) (hS.rd hR0) hx1 rfl, RdL.cell (j := 3) (hS.rd hR0) hx1 rfl, RdL.cell (j := 4) (hS.rd hR0) hx1 rfl, RdL.cell (j := 5) (hS.rd hR0) hx1 rfl, RdL.cell (j := 6) (hS.rd hR0) hx1 rfl, trivial⟩ ?_
  refine ge_call (d := some 16) (f := 63) (args := #[.agg #[.string e1.Name, vI e1.C, vI e1.T, vI e1.D, vI e1.J, vI e1.O, vI e1.P], pP bg1_0 0]) (by kernel_rfl) (tasks_Check_1_ok e1 bg1_0 xg1_0 _ (Glob.ext hBg1_0 hS.below) _ rfl) ?_
  rintro _ w1 ⟨rfl, hS1⟩
  refine ⟨_, rfl, hS1.below, ?_⟩
  have hS2 := hS.call hS1
  refine gn hK8 ?_
  by_cases hc2 : (tasks_Check_1.f e1 xg1_0) = true
  ·rw [if_pos hc2] at h
   refine wk 16 (tasks_Check_1.f e1 xg1_0) true hc2 ?_
   refine we_true (by kernel_rfl) ?_
   refine ws fun K9 hK9 => ?_
   refine wr [(0, 0), (1, 0)] ?_
   refine gb0 [0, 1] [(4, vI (i1 : Int)), (17, vI (i1 : Int))] ?_
   refine gn hK9 ?_
   obtain rfl := si h
   exact we_ret fun a hF => hQ _ _ _ (Outs.out nofun (Exits.on ⟨rfl, (pr0 [.tmp 4] [vI (i1 : Int)] ⟨rfl, hS2⟩) a hF⟩))
  ·rw [if_neg hc2] at h
   refine wk 16 (tasks_Check_1.f e1 xg1_0) false (Bool.eq_false_iff.2 hc2) ?_
   refine we_false (by kernel_rfl) ?_
   refine we_skip fun a hF => hK6 _ _ ?_ a hF
   refine wr [(0, 0), (1, 0)] ?_
   refine ge_addn (d := 18) (ty := 3) (x := (.tmp 8)) (y := (.const (vI 1))) (t := 3) (t2 := 3) (k := .i64) (m := i1) (by kernel_rfl) (by kernel_rfl) (by kernel_rfl) (by have h0 := hR0.small; omega) ?_
   refine gb0 [1] [(8, vI ((i1 + 1 : Nat) : Int))] ?_
   obtain rfl := si h
   exact ge_nil fun a hF => hQ _ _ _ (Outs.again ⟨hS2, hF.weaken ea⟩)
 ·rw [if_neg hc1] at h
  refine wk 9 (decide ((i1 : Int) < (l0.length : Int))) false (decide_eq_false hc1) ?_
  refine we_false (by kernel_rfl) ?_
  obtain rfl := si h
  exact we_exit fun a hF => hQ _ _ _ (Outs.out nofun (Exits.here ⟨hS, hF.weaken trivial⟩))
theorem slices_IndexFunc_api_Task_api_Task_ok (K : Nat) (l0 : List STask) (A0 : Option Addr) (c0 : Nat) (bg1_0 : Nat) (xg1_0 : STask) (w0 : World) (hR0 : RdL w0 A0 l0) (hL0 : l0.length ≤ c0) (hBg1_0 : Glob w0 bg1_0 [.string xg1_0.Name, vI xg1_0.C, vI xg1_0.T, vI xg1_0.D, vI xg1_0.J, vI xg1_0.O, vI xg1_0.P]) (r : Int) (h : slices_IndexFunc_api_Task_api_Task.f K l0 xg1_0 = some r) :
  Calls Tryd.prog 90 #[.slice A0 l0.length c0, .func (.func 63) #[] #[pP bg1_0 0]] w0 (slices_IndexFunc_api_Task_api_Task.Post w0 r) := by
 have hS := St.start w0
 unfold slices_IndexFunc_api_Task_api_Task.f at h
 refine calls_enter (n := 19) (args := [.slice A0 l0.length c0, .func (.func 63) #[] #[pP bg1_0 0]]) (fn := Tryd.f90) rfl rfl rfl rfl ?_
 show WE _ _ _ _ [(0, .slice A0 l0.length c0), (1, .func (.func 63) #[] #[pP bg1_0 0])] _
 refine ws fun K1 hK1 => ?_
 refine wr [(0, 0)] ?_
 refine gb0 [0] [(4, vI 0)] ?_
 refine gn hK1 ?_
 refine ws fun K2 hK2 => ?_
 refine ws fun K3 hK3 => ?_
 refine wr [(0, 0), (1, 0), (2, 0)] ?_
 refine gb0 [0, 1, 2] [(8, vI 0), (7, vI (l0.length : Int)), (6, .slice A0 l0.length c0)] ?_
 refine gn hK3 ?_
 refine we_block ?_
 rcases hq2 : iter (slices_IndexFunc_api_Task_api_Task.r0 l0 xg1_0) K 0 with _ | (_ | rr1)
 ·rw [hq2] at h; cases h
 ·rw [hq2] at h
  simp only [] at h
  refine we_iter (A := slices_IndexFunc_api_Task_api_Task.A0 w0 l0 A0 c0 bg1_0) (B := slices_IndexFunc_api_Task_api_Task.B0 w0) hq2 (fun a hF => ⟨hS, hF.weaken ea⟩) (fun s o hf a w hA Q hQ => slices_IndexFunc_api_Task_api_Task_r0 K w0 l0 A0 c0 bg1_0 xg1_0 hR0 hL0 hBg1_0 s o hf a w hA Q hQ) ?_
  rintro _ a w2 _ ⟨rfl, hS3, hF⟩
  replace hS3 : St w0 w2 [] := hS3
  refine hK2 [] w2 ?_ a hF
  refine ws fun K10 hK10 => ?_
  refine wr [(0, 0)] ?_
  refine gb0 [0] [(4, vI (-1))] ?_
  refine gn hK10 ?_
  obtain rfl := si h
  exact we_ret (pr0 [.tmp 4] [vI (-1)] ⟨rfl, hS3⟩)
 ·rw [hq2] at h
  simp only [] at h
  refine we_iter (A := slices_IndexFunc_api_Task_api_Task.A0 w0 l0 A0 c0 bg1_0) (B := slices_IndexFunc_api_Task_api_Task.B0 w0) hq2 (fun a hF => ⟨hS, hF.weaken ea⟩) (fun s o hf a w hA Q hQ => slices_IndexFunc_api_Task_api_Task_r0 K w0 l0 A0 c0 bg1_0 xg1_0 hR0 hL0 hBg1_0 s o hf a w hA Q hQ) ?_
  rintro _ a w1 _ ⟨rfl, hb⟩
  obtain rfl := si h
  exact hb

/-! slices.ContainsFunc[[]punctual/api.Task,punctual/api.Task] -/
abbrev slices_ContainsFunc_api_Task_api_Task.Post (w0 : World) (r : Bool) (e : Ending) (w : World) : Prop := e = .returned (.bool r) ∧ St w0 w []
def slices_ContainsFunc_api_Task_api_Task.f (K : Nat) (l0 : List STask) (xg1_0 : STask) : Option Bool :=
 match slices_IndexFunc_api_Task_api_Task.f K l0 xg1_0 with
 | none => none
 | some r1 =>
  some (decide (r1 ≥ 0))
theorem slices_ContainsFunc_api_Task_api_Task_ok (K : Nat) (l0 : List STask) (A0 : Option Addr) (c0 : Nat) (bg1_0 : Nat) (xg1_0 : STask) (w0 : World) (hR0 : RdL w0 A0 l0) (hL0 : l0.length ≤ c0) (hBg1_0 : Glob w0 bg1_0 [.string xg1_0.Name, vI xg1_0.C, vI xg1_0.T, vI xg1_0.D, vI xg1_0.J, vI xg1_0.O, vI xg1_0.P]) (r : Bool) (h : slices_ContainsFunc_api_Task_api_Task.f K l0 xg1_0 = some r) :
  Calls Tryd.prog 62 #[.slice A0 l0.length c0, .func (.func 63) #[] #[pP bg1_0 0]] w0 (slices_ContainsFunc_api_Task_api_Task.Post w0 r) := by
 have hS := St.start w0
 unfold slices_ContainsFunc_api_Task_api_Task.f at h
 refine calls_enter (n := 9) (args := [.slice A0 l0.length c0, .func (.func 63) #[] #[pP bg1_0 0]]) (fn := Tryd.f62) rfl rfl rfl rfl ?_
 show WE _ _ _ _ [(0, .slice A0 l0.length c0), (1, .func (.func 63) #[] #[pP bg1_0 0])] _
 refine ws fun K1 hK1 => ?_
 refine wr [(0, 0)] ?_
 refine gb0 [0] [(4, .bool false)] ?_
 refine gn hK1 ?_
 refine ws fun K2 hK2 => ?_
 refine wr [(0, 0), (1, 0), (2, 1), (3, 0), (4, 0)] ?_
 rcases hq1 : slices_IndexFunc_api_Task_api_Task.f K l0 xg1_0 with _ | r1
 ·rw [hq1] at h; cases h
 rw [hq1] at h
 simp only [] at h
 refine gb0 [0, 1] [(6, .func (.func 63) #[] #[pP bg1_0 0]), (5, .slice A0 l0.length c0)] ?_
 refine ge_call (d := some 7) (f := 90) (args := #[.slice A0 l0.length c0, .func (.func 63) #[] #[pP bg1_0 0]]) (by kernel_rfl) (slices_IndexFunc_api_Task_api_Task_ok K l0 A0 c0 bg1_0 xg1_0 _ (hS.rd hR0) hL0 (Glob.ext hBg1_0 hS.below) _ hq1) ?_
 rintro _ w1 ⟨rfl, hS1⟩
 refine ⟨_, rfl, hS1.below, ?_⟩
 have hS2 := hS.call hS1
 refine gb0 [3, 4] [(4, .bool (decide (r1 ≥ 0))), (8, .bool (decide (r1 ≥ 0)))] ?_
 refine gn hK2 ?_
 obtain rfl := si h
 exact we_ret (pr0 [.tmp 4] [.bool (decide (r1 ≥ 0))] ⟨rfl, hS2⟩)

/-! punctual/tasks.numbers -/
abbrev tasks_numbers.Post (w0 : World) (r : List Int) (e : Ending) (w : World) : Prop := ∃ (v0 : Value), e = .returned (v0) ∧ St w0 w [Own.of v0 3 r]
def tasks_numbers.f (x0 : STask) : List Int :=
 ([x0.C, x0.T, x0.D, x0.J, x0.O, x0.P] : List Int)
theorem tasks_numbers_ok (x0 : STask) (w0 : World) (r : List Int) (h : tasks_numbers.f x0 = r) :
  Calls Tryd.prog 64 #[.agg #[.string x0.Name, vI x0.C, vI x0.T, vI x0.D, vI x0.J, vI x0.O, vI x0.P]] w0 (tasks_numbers.Post w0 r) := by
 have hS := St.start w0
 unfold tasks_numbers.f at h
 refine calls_enter (n := 16) (args := [.agg #[.string x0.Name, vI x0.C, vI x0.T, vI x0.D, vI x0.J, vI x0.O, vI x0.P]]) (fn := Tryd.f64) rfl rfl rfl rfl ?_
 show WE _ _ _ _ [(0, .agg #[.string x0.Name, vI x0.C, vI x0.T, vI x0.D, vI x0.J, vI x0.O, vI x0.P])] _
 refine ws fun K1 hK1 => ?_
 refine wr [(0, 1), (1, 0)] ?_
 refine gw (some 1) (.cells #[.string x0.Name, vI x0.C, vI x0.T, vI x0.D, vI x0.J, vI x0.O, vI x0.P] 46) (fun b => pP b 0) hS fun b1 w1 hx1 hS1 => ?_
 refine gb0 [1] [(2, .slice none 0 0)] ?_
 refine gn hK1 ?_
 refine ws fun K2 hK2 => ?_
 refine wr [(0, 0), (1, 0), (2, 0), (3, 0), (4, 0), (5, 0), (6, 0), (7, 0), (8, 0), (9, 0), (10, 0), (11, 0), (12, 1), (13, 0)] ?_
 refine gb [0, 1, 2, 3, 4, 5, 6, 7, 8, 9, 10, 11] [(14, vI x0.P), (13, pP b1 6), (12, vI x0.O), (11, pP b1 5), (10, vI x0.J), (9, pP b1 4), (8, vI x0.D), (7, pP b1 3), (6, vI x0.T), (5, pP b1 2), (4, vI x0.C), (3, pP b1 1)] [.loaded ⟨b1, 1, none⟩ (vI x0.C), .loaded ⟨b1, 2, none⟩ (vI x0.T), .loaded ⟨b1, 3, none⟩ (vI x0.D), .loaded ⟨b1, 4, none⟩ (vI x0.J), .loaded ⟨b1, 5, none⟩ (vI x0.O), .loaded ⟨b1, 6, none⟩ (vI x0.P)] ⟨hS1.c 0, hS1.c 0, hS1.c 0, hS1.c 0, hS1.c 0, hS1.c 0, trivial⟩ ?_
 refine gw (some 15) (.cells #[vI x0.C, vI x0.T, vI x0.D, vI x0.J, vI x0.O, vI x0.P] 3) (fun b => .slice (some ⟨b, 0, none⟩) 6 6) hS1 fun b2 w2 hx2 hS2 => ?_
 refine gb0 [13] [(2, .slice (some ⟨b2, 0, none⟩) 6 6)] ?_
 refine gn hK2 ?_
 have hS3 := hS2.asRow (α := Int) (c := 6) ([x0.C, x0.T, x0.D, x0.J, x0.O, x0.P] : List Int) (Nat.le_refl _) (by decide) rfl rfl
 have hS4 := hS3.takeN 1
 subst h
 exact we_ret (pr0 [.tmp 2] [(.slice (some ⟨b2, 0, none⟩) 6 6)] ⟨(.slice (some ⟨b2, 0, none⟩) 6 6), rfl, hS4⟩)

/-! punctual/tasks.bounds -/
abbrev tasks_bounds.Post (w0 : World) (r : Int × Int) (e : Ending) (w : World) : Prop := e = .returned (.tuple #[vI r.1, vI r.2]) ∧ St w0 w []
def tasks_bounds.f (x0 : Int) : Int × Int :=
 if x0 = 0 then
  (1, 10000)
 else
  if x0 = 1 then
   (1, 10000)
  else
   if x0 = 2 then
    (1, 10000)
   else
    if x0 = 5 then
     (0, 1000)
    else
     (0, 10000)
theorem tasks_bounds_ok (x0 : Int) (w0 : World) (r : Int × Int) (h : tasks_bounds.f x0 = r) :
  Calls Tryd.prog 65 #[vI x0] w0 (tasks_bounds.Post w0 r) := by
 have hS := St.start w0
 unfold tasks_bounds.f at h
 refine calls_enter (n := 11) (args := [vI x0]) (fn := Tryd.f65) rfl rfl rfl rfl ?_
 show WE _ _ _ _ [(0, vI x0)] _
 refine ws fun K1 hK1 => ?_
 refine wr [(0, 0), (1, 0)] ?_
 refine gb0 [0, 1] [(3, vI 0), (2, vI 0)] ?_
 refine gn hK1 ?_
 refine ws fun K2 hK2 => ?_
 refine ws fun K3 hK3 => ?_
 refine wr [(0, 0)] ?_
 refine gb0 [0] [(4, vI x0)] ?_
 refine gn hK3 ?_
 refine we_block ?_
 refine ws fun K4 hK4 => ?_
 refine ws fun K5 hK5 => ?_
 refine wr [(0, 0), (1, 0)] ?_
 refine gb0 [0, 1] [(5, .bool (x0 == 0)), (6, .bool (x0 == 0))] ?_
 refine gn hK5 ?_
 by_cases hc1 : x0 = 0
 ·rw [if_pos hc1] at h
  refine wk 5 (x0 == 0) true (beq_iff_eq.2 hc1) ?_
  refine we_true (by kernel_rfl) ?_
  refine we_skip fun a hF => hK4 _ _ ?_ a hF
  refine we_true (by kernel_rfl) ?_
  refine ws fun K6 hK6 => ?_
  refine wr [(0, 0), (1, 0)] ?_
  refine gb0 [0, 1] [(3, vI 10000), (2, vI 1)] ?_
  refine gn hK6 ?_
  subst h
  exact we_ret (pr0 [.tmp 2, .tmp 3] [vI 1, vI 10000] ⟨rfl, hS⟩)
 ·rw [if_neg hc1] at h
  refine wk 5 (x0 == 0) false (beq_eq_false_iff_ne.2 hc1) ?_
  refine we_false (by kernel_rfl) ?_
  refine ws fun K7 hK7 => ?_
  refine wr [(0, 0), (1, 0)] ?_
  refine gb0 [0, 1] [(5, .bool (x0 == 1)), (7, .bool (x0 == 1))] ?_
  refine gn hK7 ?_
  by_cases hc2 : x0 = 1
  ·rw [if_pos hc2] at h
   refine wk 5 (x0 == 1) true (beq_iff_eq.2 hc2) ?_
   refine we_true (by kernel_rfl) ?_
   refine we_skip fun a hF => hK4 _ _ ?_ a hF
   refine we_true (by kernel_rfl) ?_
   refine ws fun K8 hK8 => ?_
   refine wr [(0, 0), (1, 0)] ?_
   refine gb0 [0, 1] [(3, vI 10000), (2, vI 1)] ?_
   refine gn hK8 ?_
   subst h
   exact we_ret (pr0 [.tmp 2, .tmp 3] [vI 1, vI 10000] ⟨rfl, hS⟩)
  ·rw [if_neg hc2] at h
   refine wk 5 (x0 == 1) false (beq_eq_false_iff_ne.2 hc2) ?_
   refine we_false (by kernel_rfl) ?_
   refine wr [(0, 0), (1, 0)] ?_
   refine gb0 [0, 1] [(5, .bool (x0 == 2)), (8, .bool (x0 == 2))] ?_
   refine gn hK4 ?_
   by_cases hc3 : x0 = 2
   ·rw [if_pos hc3] at h
    refine wk 5 (x0 == 2) true (beq_iff_eq.2 hc3) ?_
    refine we_true (by kernel_rfl) ?_
    refine ws fun K9 hK9 => ?_
    refine wr [(0, 0), (1, 0)] ?_
    refine gb0 [0, 1] [(3, vI 10000), (2, vI 1)] ?_
    refine gn hK9 ?_
    subst h
    exact we_ret (pr0 [.tmp 2, .tmp 3] [vI 1, vI 10000] ⟨rfl, hS⟩)
   ·rw [if_neg hc3] at h
    refine wk 5 (x0 == 2) false (beq_eq_false_iff_ne.2 hc3) ?_
    refine we_false (by kernel_rfl) ?_
    refine ws fun K10 hK10 => ?_
    refine wr [(0, 0), (1, 0)] ?_
    refine gb0 [0, 1] [(9, .bool (x0 == 5)), (10, .bool (x0 == 5))] ?_
    refine gn hK10 ?_
    by_cases hc4 : x0 = 5
    ·rw [if_pos hc4] at h
     refine wk 9 (x0 == 5) true (beq_iff_eq.2 hc4) ?_
     refine we_true (by kernel_rfl) ?_
     refine ws fun K11 hK11 => ?_
     refine wr [(0, 0), (1, 0)] ?_
     refine gb0 [0, 1] [(3, vI 1000), (2, vI 0)] ?_
     refine gn hK11 ?_
     subst h
     exact we_ret (pr0 [.tmp 2, .tmp 3] [vI 0, vI 1000] ⟨rfl, hS⟩)
    ·rw [if_neg hc4] at h
     refine wk 9 (x0 == 5) false (beq_eq_false_iff_ne.2 hc4) ?_
     refine we_false (by kernel_rfl) ?_
     refine we_skip fun a hF => hK2 _ _ ?_ a hF
     refine ws fun K12 hK12 => ?_
     refine wr [(0, 0), (1, 0)] ?_
     refine gb0 [0, 1] [(3, vI 10000), (2, vI 0)] ?_
     refine gn hK12 ?_
     subst h
     exact we_ret (pr0 [.tmp 2, .tmp 3] [vI 0, vI 10000] ⟨rfl, hS⟩)

structure SFault where
 Code : Int
 At : Int
def SFault.eqb (x y : SFault) : Bool := ((x.Code == y.Code) && ((x.At == y.At) && true))
instance : Ok SFault := ⟨fun x => Ok.ok x.Code ∧ Ok.ok x.At ∧ True⟩
instance : Flat SFault := ⟨2, fun x => [vI x.Code, vI x.At], fun _ => rfl, fun _ => rfl, by decide⟩

/-! punctual/tasks.Check -/
abbrev tasks_Check.Post (w0 : World) (r : SFault) (e : Ending) (w : World) : Prop := e = .returned (.agg #[vI r.Code, vI r.At]) ∧ St w0 w []
def tasks_Check.p0 (l0 : List STask) : Option (Unit ⊕ SFault) :=
  if (l0.length : Int) < 1 then
   some (.inr (⟨2, 0⟩ : SFault))
  else
   if (l0.length : Int) > 8 then
    some (.inr (⟨2, 0⟩ : SFault))
   else
    some (.inl ())
def tasks_Check.r2 (i1 : Nat) (e1 : STask) : Nat → Option (Nat ⊕ (Unit ⊕ SFault))
 | i2 =>
  if (i2 : Int) < ((tasks_numbers.f e1).length : Int) then
   match (tasks_numbers.f e1)[i2]? with
   | none => none
   | some e2 =>
    if e2 < ((tasks_bounds.f (i2 : Int)).1) then
     some (.inr (.inr (⟨3, (i1 : Int)⟩ : SFault)))
    else
     if e2 > ((tasks_bounds.f (i2 : Int)).2) then
      some (.inr (.inr (⟨3, (i1 : Int)⟩ : SFault)))
     else
      some (.inl (i2 + 1))
  else
   some (.inr (.inl ()))
def tasks_Check.r1 (K : Nat) (l0 : List STask) : Nat → Option (Nat ⊕ (Unit ⊕ SFault))
 | i1 =>
  if (i1 : Int) < (l0.length : Int) then
   match l0[i1]? with
   | none => none
   | some e1 =>
    match tasks_isName.f K e1.Name with
    | none => none
    | some r1 =>
     if r1 = true then
      if i1 ≤ l0.length then
       match slices_ContainsFunc_api_Task_api_Task.f K ((l0.take i1).drop 0) e1 with
       | none => none
       | some r2 =>
        if r2 = true then
         some (.inr (.inr (⟨5, (i1 : Int)⟩ : SFault)))
        else
         match iter (tasks_Check.r2 i1 e1) K 0 with
         | none => none
         | some (.inl _) =>
          if e1.C > e1.D then
           some (.inr (.inr (⟨12, (i1 : Int)⟩ : SFault)))
          else
           some (.inl (i1 + 1))
         | some (.inr rr1) =>
          some (.inr (.inr rr1))
      else
       none
     else
      some (.inr (.inr (⟨4, (i1 : Int)⟩ : SFault)))
  else
   some (.inr (.inl ()))
def tasks_Check.f (K : Nat) (l0 : List STask) : Option SFault :=
 match tasks_Check.p0 l0 with
 | none => none
 | some (.inl _) =>
  match iter (tasks_Check.r1 K l0) K 0 with
  | none => none
  | some (.inl _) =>
   some (⟨0, 0⟩ : SFault)
  | some (.inr rr2) =>
   some rr2
 | some (.inr rr3) =>
  some rr3
abbrev tasks_Check.A0 (w0 : World) (l0 : List STask) (A0 : Option Addr) (c0 : Nat) (b1 : Nat) : Unit → Act → World → Prop := fun (s : Unit) a w => St w0 w [Own.blk b1 (.cells #[vI 0, vI 0] 26 (0, 0))] ∧ Frm 71 a [(0, .slice A0 l0.length c0), (2, pP b1 0)]
abbrev tasks_Check.B0 (w0 : World) : SFault → Exit → Act → World → Prop := Rets Tryd.prog Tryd.f19 (tasks_Check.Post w0)
theorem tasks_Check_p0 (K : Nat) (w0 : World) (l0 : List STask) (A0 : Option Addr) (c0 : Nat) (hR0 : RdL w0 A0 l0) (hL0 : l0.length ≤ c0) (b1 : Nat) (o : Unit ⊕ SFault) (h : tasks_Check.p0 l0 = some o) (w : World) (hS : St w0 w [Own.blk b1 (.cells #[vI 0, vI 0] 26 (0, 0))]) (Q : Exit → Act → World → Prop) (hQ : ∀ x a w, Outs (tasks_Check.A0 w0 l0 A0 c0 b1) (tasks_Check.B0 w0) o x a w → Q x a w) : WE Tryd.prog 71 (subF Tryd.f19 [1, 0]) Q [(0, .slice A0 l0.length c0), (2, pP b1 0)] w := by
 simp only [tasks_Check.p0] at h
 refine ws fun K3 hK3 => ?_
 refine wr [(0, 0), (1, 0), (2, 0), (3, 0), (4, 0), (5, 0), (6, 0), (7, 0)] ?_
 refine gb0 [0, 1, 2, 3] [(12, .bool (decide ((l0.length : Int) < 1))), (11, .bool (decide ((l0.length : Int) < 1))), (10, vI (l0.length : Int)), (9, .slice A0 l0.length c0)] ?_
 by_cases hc1 : (l0.length : Int) < 1
 ·rw [if_pos hc1] at h
  refine gk 12 (decide ((l0.length : Int) < 1)) true (decide_eq_true hc1) ?_
  refine gb0 [4, 5, 6, 7] [(16, .bool true), (15, undef), (14, undef), (13, undef)] ?_
  refine gn hK3 ?_
  refine we_true (by kernel_rfl) ?_
  refine ws fun K4 hK4 => ?_
  refine wr [(0, 0), (1, 2)] ?_
  refine gb0 [0] [(17, .agg #[vI 2, vI 0])] ?_
  refine gs b1 0 #[vI 0, vI 0] 26 [vI 2, vI 0] hS fun w2 hS2 => ?_
  have hS3 : St w0 w2 [Own.blk b1 (.cells #[vI 2, vI 0] 26 (0, 0))] := hS2
  refine gn hK4 ?_
  have hS4 := hS3.takeN 0
  obtain rfl := si h
  exact we_ret fun a hF => hQ _ _ _ (Outs.out nofun ⟨rfl, (pr [.cell 2 26] [.agg #[vI 2, vI 0]] [.loaded ⟨b1, 0, none⟩ (vI 2), .loaded ⟨b1, 1, none⟩ (vI 0)] ⟨hS3.c 0, hS3.c 0, trivial⟩ ⟨rfl, hS4⟩) a hF⟩)
 ·rw [if_neg hc1] at h
  refine gk 12 (decide ((l0.length : Int) < 1)) false (decide_eq_false hc1) ?_
  refine gb0 [4, 5, 6, 7] [(16, .bool (decide ((l0.length : Int) > 8))), (15, .bool (decide ((l0.length : Int) > 8))), (14, vI (l0.length : Int)), (13, .slice A0 l0.length c0)] ?_
  refine gn hK3 ?_
  by_cases hc2 : (l0.length : Int) > 8
  ·rw [if_pos hc2] at h
   refine wk 16 (decide ((l0.length : Int) > 8)) true (decide_eq_true hc2) ?_
   refine we_true (by kernel_rfl) ?_
   refine ws fun K5 hK5 => ?_
   refine wr [(0, 0), (1, 2)] ?_
   refine gb0 [0] [(17, .agg #[vI 2, vI 0])] ?_
   refine gs b1 0 #[vI 0, vI 0] 26 [vI 2, vI 0] hS fun w3 hS5 => ?_
   have hS6 : St w0 w3 [Own.blk b1 (.cells #[vI 2, vI 0] 26 (0, 0))] := hS5
   refine gn hK5 ?_
   have hS7 := hS6.takeN 0
   obtain rfl := si h
   exact we_ret fun a hF => hQ _ _ _ (Outs.out nofun ⟨rfl, (pr [.cell 2 26] [.agg #[vI 2, vI 0]] [.loaded ⟨b1, 0, none⟩ (vI 2), .loaded ⟨b1, 1, none⟩ (vI 0)] ⟨hS6.c 0, hS6.c 0, trivial⟩ ⟨rfl, hS7⟩) a hF⟩)
  ·rw [if_neg hc2] at h
   refine wk 16 (decide ((l0.length : Int) > 8)) false (decide_eq_false hc2) ?_
   refine we_false (by kernel_rfl) ?_
   obtain rfl := si h
   exact we_skip fun a hF => hQ _ _ _ (Outs.again ⟨hS, hF.weaken ea⟩)
abbrev tasks_Check.A2 (w0 : World) (l0 : List STask) (A0 : Option Addr) (c0 : Nat) (b1 : Nat) (i1 : Nat) (e1 : STask) (b2 : Nat) (Z1 : Option Addr) (cz1 : Nat) : Nat → Act → World → Prop := fun (s : Nat) a w => St w0 w [Own.blk b2 (.cells #[.string e1.Name, vI e1.C, vI e1.T, vI e1.D, vI e1.J, vI e1.O, vI e1.P] 46 (0, 0)), Own.blk b1 (.cells #[vI 0, vI 0] 26 (0, 0)), Own.of (.slice Z1 (tasks_numbers.f e1).length cz1) 3 (tasks_numbers.f e1)] ∧ Frm 71 a [(0, .slice A0 l0.length c0), (2, pP b1 0), (3, vI (i1 : Int)), (4, pP b2 0), (18, .slice A0 l0.length c0), (19, vI (l0.length : Int)), (20, vI (i1 : Int)), (39, (.slice Z1 (tasks_numbers.f e1).length cz1)), (40, vI ((tasks_numbers.f e1).length : Int)), (41, vI (s : Int))]
abbrev tasks_Check.B2 (w0 : World) (l0 : List STask) (A0 : Option Addr) (c0 : Nat) (b1 : Nat) (i1 : Nat) (e1 : STask) (b2 : Nat) : (Unit ⊕ SFault) → Exit → Act → World → Prop := Exits 2 (fun (s : Unit) a w => St w0 w [Own.blk b2 (.cells #[.string e1.Name, vI e1.C, vI e1.T, vI e1.D, vI e1.J, vI e1.O, vI e1.P] 46 (0, 0)), Own.blk b1 (.cells #[vI 0, vI 0] 26 (0, 0))] ∧ Frm 71 a [(0, .slice A0 l0.length c0), (2, pP b1 0), (3, vI (i1 : Int)), (4, pP b2 0), (18, .slice A0 l0.length c0), (19, vI (l0.length : Int)), (20, vI (i1 : Int))]) (Rets Tryd.prog Tryd.f19 (tasks_Check.Post w0))
theorem tasks_Check_r2 (K : Nat) (w0 : World) (l0 : List STask) (A0 : Option Addr) (c0 : Nat) (hR0 : RdL w0 A0 l0) (hL0 : l0.length ≤ c0) (b1 : Nat) (i1 : Nat) (hc3 : (i1 : Int) < (l0.length : Int)) (e1 : STask) (hx2 : l0[i1]? = some e1) (b2 : Nat) (r1 : Bool) (hc4 : r1 = true) (hc5 : i1 ≤ l0.length) (r2 : Bool) (hc6 : ¬ (r2 = true)) (Z1 : Option Addr) (cz1 : Nat) (s : Nat) (o : Nat ⊕ (Unit ⊕ SFault)) (h : tasks_Check.r2 i1 e1 s = some o) (a : Act) (w : World) (hA : tasks_Check.A2 w0 l0 A0 c0 b1 i1 e1 b2 Z1 cz1 s a w) (Q : Exit → Act → World → Prop) (hQ : ∀ x a w, Outs (tasks_Check.A2 w0 l0 A0 c0 b1 i1 e1 b2 Z1 cz1) (tasks_Check.B2 w0 l0 A0 c0 b1 i1 e1 b2) o x a w → Q x a w) : (subF Tryd.f19 [1, 1, 0, 1, 0, 0, 1, 1, 0, 0, 1, 1, 1, 0, 1, 0, 0]).wp Tryd.prog Q a w := by
 obtain ⟨i2, hs⟩ : ∃ z, z = s := ⟨s, rfl⟩
 subst hs
 obtain ⟨hS, hF⟩ := hA
 replace hS : St w0 w [Own.blk b2 (.cells #[.string e1.Name, vI e1.C, vI e1.T, vI e1.D, vI e1.J, vI e1.O, vI e1.P] 46 (0, 0)), Own.blk b1 (.cells #[vI 0, vI 0] 26 (0, 0)), Own.of (.slice Z1 (tasks_numbers.f e1).length cz1) 3 (tasks_numbers.f e1)] := hS
 simp only [tasks_Check.r2] at h
 refine (?_ : WE Tryd.prog 71 (subF Tryd.f19 [1, 1, 0, 1, 0, 0, 1, 1, 0, 0, 1, 1, 1, 0, 1, 0, 0]) Q [(0, .slice A0 l0.length c0), (2, pP b1 0), (3, vI (i1 : Int)), (4, pP b2 0), (18, .slice A0 l0.length c0), (19, vI (l0.length : Int)), (20, vI (i1 : Int)), (39, (.slice Z1 (tasks_numbers.f e1).length cz1)), (40, vI ((tasks_numbers.f e1).length : Int)), (41, vI (i2 : Int))] w) a hF
 clear hF a
 refine ws fun K19 hK19 => ?_
 refine wr [(0, 0)] ?_
 refine gb0 [0] [(42, .bool (decide ((i2 : Int) < ((tasks_numbers.f e1).length : Int))))] ?_
 refine gn hK19 ?_
 refine ws fun K20 hK20 => ?_
 by_cases hc7 : (i2 : Int) < ((tasks_numbers.f e1).length : Int)
 ·rw [if_pos hc7] at h
  refine wk 42 (decide ((i2 : Int) < ((tasks_numbers.f e1).length : Int))) true (decide_eq_true hc7) ?_
  refine we_true (by kernel_rfl) ?_
  refine we_skip fun a hF => hK20 _ _ ?_ a hF
  refine ws fun K21 hK21 => ?_
  refine we_block ?_
  refine ws fun K22 hK22 => ?_
  refine wr [(0, 0), (1, 0), (2, 0), (3, 0), (4, 0)] ?_
  refine gb0 [0] [(43, vI (i2 : Int))] ?_
  rcases hx4 : (tasks_numbers.f e1)[i2]? with _ | e2
  ·rw [hx4] at h; cases h
  rw [hx4] at h
  simp only [] at h
  refine gi 44 0 23 3 1 ((tasks_numbers.f e1).length) cz1 (.tmp 39) (.tmp 41) Z1 .i64 (i2 : Int) i2 ((hS.rdAt 2 rfl).eqSome (pos_of_get hx4)) rfl (lt_of_get hx4) ?_
  refine gb [2, 3, 4] [(6, vI e2), (5, vI (i2 : Int)), (45, vI e2)] [.loaded ⟨blkOf Z1, offOf Z1 + i2 * 1, none⟩ (vI e2)] ⟨RdL.cell (j := 0) (hS.rdAt 2 rfl) hx4 rfl, trivial⟩ ?_
  refine gn hK22 ?_
  refine ws fun K23 hK23 => ?_
  refine wr [(0, 0), (1, 1), (2, 0), (3, 0), (4, 0), (5, 0), (6, 0)] ?_
  refine gb0 [0] [(47, vI (i2 : Int))] ?_
  refine ge_call (d := some 48) (f := 65) (args := #[vI (i2 : Int)]) (by kernel_rfl) (tasks_bounds_ok (i2 : Int) _ _ rfl) ?_
  rintro _ w11 ⟨rfl, hS24⟩
  refine ⟨_, rfl, hS24.below, ?_⟩
  have hS25 := hS.call hS24
  refine gb0 [2, 3, 4, 5, 6] [(8, vI ((tasks_bounds.f (i2 : Int)).2)), (7, vI ((tasks_bounds.f (i2 : Int)).1)), (50, vI ((tasks_bounds.f (i2 : Int)).2)), (49, vI ((tasks_bounds.f (i2 : Int)).1)), (46, .tuple #[vI ((tasks_bounds.f (i2 : Int)).1), vI ((tasks_bounds.f (i2 : Int)).2)])] ?_
  refine gn hK23 ?_
  refine ws fun K24 hK24 => ?_
  refine wr [(0, 0), (1, 0), (2, 0), (3, 0), (4, 0), (5, 0), (6, 0), (7, 0)] ?_
  refine gb0 [0, 1, 2, 3] [(54, .bool (decide (e2 < ((tasks_bounds.f (i2 : Int)).1)))), (53, .bool (decide (e2 < ((tasks_bounds.f (i2 : Int)).1)))), (52, vI ((tasks_bounds.f (i2 : Int)).1)), (51, vI e2)] ?_
  by_cases hc8 : e2 < ((tasks_bounds.f (i2 : Int)).1)
  ·rw [if_pos hc8] at h
   refine gk 54 (decide (e2 < ((tasks_bounds.f (i2 : Int)).1))) true (decide_eq_true hc8) ?_
   refine gb0 [4, 5, 6, 7] [(58, .bool true), (57, undef), (56, undef), (55, undef)] ?_
   refine gn hK24 ?_
   refine we_true (by kernel_rfl) ?_
   refine ws fun K25 hK25 => ?_
   refine wr [(0, 0), (1, 0), (2, 2)] ?_
   refine gb0 [0, 1] [(60, .agg #[vI 3, vI (i1 : Int)]), (59, vI (i1 : Int))] ?_
   have hS26 := hS25.bring 1 rfl
   refine gs b1 0 #[vI 0, vI 0] 26 [vI 3, vI (i1 : Int)] hS26 fun w12 hS27 => ?_
   have hS28 : St w0 w12 [Own.blk b1 (.cells #[vI 3, vI (i1 : Int)] 26 (0, 0)), Own.blk b2 (.cells #[.string e1.Name, vI e1.C, vI e1.T, vI e1.D, vI e1.J, vI e1.O, vI e1.P] 46 (0, 0)), Own.of (.slice Z1 (tasks_numbers.f e1).length cz1) 3 (tasks_numbers.f e1)] := hS27
   refine gn hK25 ?_
   have hS29 := hS28.takeN 0
   obtain rfl := si h
   exact we_ret fun a hF => hQ _ _ _ (Outs.out nofun (Exits.on ⟨rfl, (pr [.cell 2 26] [.agg #[vI 3, vI (i1 : Int)]] [.loaded ⟨b1, 0, none⟩ (vI 3), .loaded ⟨b1, 1, none⟩ (vI (i1 : Int))] ⟨hS28.c 0, hS28.c 0, trivial⟩ ⟨rfl, hS29⟩) a hF⟩))
  ·rw [if_neg hc8] at h
   refine gk 54 (decide (e2 < ((tasks_bounds.f (i2 : Int)).1))) false (decide_eq_false hc8) ?_
   refine gb0 [4, 5, 6, 7] [(58, .bool (decide (e2 > ((tasks_bounds.f (i2 : Int)).2)))), (57, .bool (decide (e2 > ((tasks_bounds.f (i2 : Int)).2)))), (56, vI ((tasks_bounds.f (i2 : Int)).2)), (55, vI e2)] ?_
   refine gn hK24 ?_
   by_cases hc9 : e2 > ((tasks_bounds.f (i2 : Int)).2)
   ·rw [if_pos hc9] at h
    refine wk 58 (decide (e2 > ((tasks_bounds.f (i2 : Int)).2))) true (decide_eq_true hc9) ?_
    refine we_true (by kernel_rfl) ?_
    refine ws fun K26 hK26 => ?_
    refine wr [(0, 0), (1, 0), (2, 2)] ?_
    refine gb0 [0, 1] [(60, .agg #[vI 3, vI (i1 : Int)]), (59, vI (i1 : Int))] ?_
    have hS30 := hS25.bring 1 rfl
    refine gs b1 0 #[vI 0, vI 0] 26 [vI 3, vI (i1 : Int)] hS30 fun w13 hS31 => ?_
    have hS32 : St w0 w13 [Own.blk b1 (.cells #[vI 3, vI (i1 : Int)] 26 (0, 0)), Own.blk b2 (.cells #[.string e1.Name, vI e1.C, vI e1.T, vI e1.D, vI e1.J, vI e1.O, vI e1.P] 46 (0, 0)), Own.of (.slice Z1 (tasks_numbers.f e1).length cz1) 3 (tasks_numbers.f e1)] := hS31
    refine gn hK26 ?_
    have hS33 := hS32.takeN 0
    obtain rfl := si h
    exact we_ret fun a hF => hQ _ _ _ (Outs.out nofun (Exits.on ⟨rfl, (pr [.cell 2 26] [.agg #[vI 3, vI (i1 : Int)]] [.loaded ⟨b1, 0, none⟩ (vI 3), .loaded ⟨b1, 1, none⟩ (vI (i1 : Int))] ⟨hS32.c 0, hS32.c 0, trivial⟩ ⟨rfl, hS33⟩) a hF⟩))
   ·rw [if_neg hc9] at h
    refine wk 58 (decide (e2 > ((tasks_bounds.f (i2 : Int)).2))) false (decide_eq_false hc9) ?_
    refine we_false (by kernel_rfl) ?_
    refine we_skip fun a hF => hK21 _ _ ?_ a hF
    refine wr [(0, 0), (1, 0)] ?_
    refine ge_addn (d := 61) (ty := 3) (x := (.tmp 41)) (y := (.const (vI 1))) (t := 3) (t2 := 3) (k := .i64) (m := i2) (by kernel_rfl) (by kernel_rfl) (by kernel_rfl) (by have h0 := hS25.ofSmall 2 rfl; omega) ?_
    refine gb0 [1] [(41, vI ((i2 + 1 : Nat) : Int))] ?_
    have hS34 := hS25.bring 2 rfl
    have hS35 := hS34.bring 2 rfl
    have hS36 := hS35.bring 2 rfl
    obtain rfl := si h
    exact ge_nil fun a hF => hQ _ _ _ (Outs.again ⟨hS36, hF.weaken ea⟩)
 ·rw [if_neg hc7] at h
  refine wk 42 (decide ((i2 : Int) < ((tasks_numbers.f e1).length : Int))) false (decide_eq_false hc7) ?_
  refine we_false (by kernel_rfl) ?_
  have hS37 := hS.bring 1 rfl
  have hS38 := hS37.bring 1 rfl
  have hS39 := hS38.takeN 2
  obtain rfl := si h
  exact we_exit fun a hF => hQ _ _ _ (Outs.out nofun (Exits.here ⟨hS39, hF.weaken ea⟩))
abbrev tasks_Check.A1 (w0 : World) (l0 : List STask) (A0 : Option Addr) (c0 : Nat) (b1 : Nat) : Nat → Act → World → Prop := fun (s : Nat) a w => St w0 w [Own.blk b1 (.cells #[vI 0, vI 0] 26 (0, 0))] ∧ Frm 71 a [(0, .slice A0 l0.length c0), (2, pP b1 0), (18, .slice A0 l0.length c0), (19, vI (l0.length : Int)), (20, vI (s : Int))]
abbrev tasks_Check.B1 (w0 : World) (b1 : Nat) : (Unit ⊕ SFault) → Exit → Act → World → Prop := Exits 0 (fun (s : Unit) a w => St w0 w [Own.blk b1 (.cells #[vI 0, vI 0] 26 (0, 0))] ∧ Frm 71 a [(2, pP b1 0)]) (Rets Tryd.prog Tryd.f19 (tasks_Check.Post w0))
theorem tasks_Check_r1 (K : Nat) (w0 : World) (l0 : List STask) (A0 : Option Addr) (c0 : Nat) (hR0 : RdL w0 A0 l0) (hL0 : l0.length ≤ c0) (b1 : Nat) (s : Nat) (o : Nat ⊕ (Unit ⊕ SFault)) (h : tasks_Check.r1 K l0 s = some o) (a : Act) (w : World) (hA : tasks_Check.A1 w0 l0 A0 c0 b1 s a w) (Q : Exit → Act → World → Prop) (hQ : ∀ x a w, Outs (tasks_Check.A1 w0 l0 A0 c0 b1) (tasks_Check.B1 w0 b1) o x a w → Q x a w) : (subF Tryd.f19 [1, 1, 0, 1, 0, 0]).wp Tryd.prog Q a w := by
 obtain ⟨i1, hs⟩ : ∃ z, z = s := ⟨s, rfl⟩
 subst hs
 obtain ⟨hS, hF⟩ := hA
 replace hS : St w0 w [Own.blk b1 (.cells #[vI 0, vI 0] 26 (0, 0))] := hS
 simp only [tasks_Check.r1] at h
 refine (?_ : WE Tryd.prog 71 (subF Tryd.f19 [1, 1, 0, 1, 0, 0]) Q [(0, .slice A0 l0.length c0), (2, pP b1 0), (18, .slice A0 l0.length c0), (19, vI (l0.length : Int)), (20, vI (i1 : Int))] w) a hF
 clear hF a
 refine ws fun K8 hK8 => ?_
 refine wr [(0, 0)] ?_
 refine gb0 [0] [(21, .bool (decide ((i1 : Int) < (l0.length : Int))))] ?_
 refine gn hK8 ?_
 refine ws fun K9 hK9 => ?_
 by_cases hc3 : (i1 : Int) < (l0.length : Int)
 ·rw [if_pos hc3] at h
  refine wk 21 (decide ((i1 : Int) < (l0.length : Int))) true (decide_eq_true hc3) ?_
  refine we_true (by kernel_rfl) ?_
  refine we_skip fun a hF => hK9 _ _ ?_ a hF
  refine ws fun K10 hK10 => ?_
  refine we_block ?_
  refine ws fun K11 hK11 => ?_
  refine wr [(0, 0), (1, 0), (2, 0), (3, 1), (4, 0), (5, 2)] ?_
  refine gb0 [0] [(22, vI (i1 : Int))] ?_
  rcases hx2 : l0[i1]? with _ | e1
  ·rw [hx2] at h; cases h
  rw [hx2] at h
  simp only [] at h
  refine gi 23 0 40 46 7 l0.length c0 (.tmp 18) (.tmp 20) A0 .i64 (i1 : Int) i1 ((hS.rd hR0).eqSome (pos_of_get hx2)) rfl (lt_of_get hx2) ?_
  refine gb [2] [(24, .agg #[.string e1.Name, vI e1.C, vI e1.T, vI e1.D, vI e1.J, vI e1.O, vI e1.P])] [.loaded ⟨blkOf A0, offOf A0 + i1 * 7, none⟩ (.string e1.Name), .loaded ⟨blkOf A0, offOf A0 + i1 * 7 + 1, none⟩ (vI e1.C), .loaded ⟨blkOf A0, offOf A0 + i1 * 7 + 2, none⟩ (vI e1.T), .loaded ⟨blkOf A0, offOf A0 + i1 * 7 + 3, none⟩ (vI e1.D), .loaded ⟨blkOf A0, offOf A0 + i1 * 7 + 4, none⟩ (vI e1.J), .loaded ⟨blkOf A0, offOf A0 + i1 * 7 + 5, none⟩ (vI e1.O), .loaded ⟨blkOf A0, offOf A0 + i1 * 7 + 6, none⟩ (vI e1.P)] ⟨RdL.cell (j := 0) (hS.rd hR0) hx2 rfl, RdL.cell (j := 1) (hS.rd hR0) hx2 rfl, RdL.cell (j := 2) (hS.rd hR0) hx2 rfl, RdL.cell (j := 3) (hS.rd hR0) hx2 rfl, RdL.cell (j := 4) (hS.rd hR0) hx2 rfl, RdL.cell (j := 5) (hS.rd hR0) hx2 rfl, RdL.cell (j := 6) (hS.rd hR0) hx2 rfl, trivial⟩ ?_
  refine gw (some 4) (.cells #[.string (⟨#[]⟩), vI 0, vI 0, vI 0, vI 0, vI 0, vI 0] 46) (fun b => pP b 0) hS fun b2 w5 hx3 hS9 => ?_
  refine gb0 [4] [(3, vI (i1 : Int))] ?_
  refine gs b2 0 #[.string (⟨#[]⟩), vI 0, vI 0, vI 0, vI 0, vI 0, vI 0] 46 [.string e1.Name, vI e1.C, vI e1.T, vI e1.D, vI e1.J, vI e1.O, vI e1.P] hS9 fun w6 hS10 => ?_
  have hS11 : St w0 w6 [Own.blk b2 (.cells #[.string e1.Name, vI e1.C, vI e1.T, vI e1.D, vI e1.J, vI e1.O, vI e1.P] 46 (0, 0)), Own.blk b1 (.cells #[vI 0, vI 0] 26 (0, 0))] := hS10
  refine gn hK11 ?_
  refine ws fun K12 hK12 => ?_
  refine ws fun K13 hK13 => ?_
  refine wr [(0, 0), (1, 0), (2, 1), (3, 0)] ?_
  rcases hq2 : tasks_isName.f K e1.Name with _ | r1
  ·rw [hq2] at h; cases h
  rw [hq2] at h
  simp only [] at h
  refine gb [0, 1] [(26, .string e1.Name), (25, pP b2 0)] [.loaded ⟨b2, 0, none⟩ (.string e1.Name)] ⟨hS11.c 0, trivial⟩ ?_
  refine ge_call (d := some 27) (f := 61) (args := #[.string e1.Name]) (by kernel_rfl) (tasks_isName_ok K e1.Name _ _ hq2) ?_
  rintro _ w7 ⟨rfl, hS12⟩
  refine ⟨_, rfl, hS12.below, ?_⟩
  have hS13 := hS11.call hS12
  refine gb0 [3] [(28, .bool (!r1))] ?_
  refine gn hK13 ?_
  by_cases hc4 : r1 = true
  ·rw [if_pos hc4] at h
   refine wk 28 (!r1) false (congrArg (fun z => !z) hc4) ?_
   refine we_false (by kernel_rfl) ?_
   refine we_skip fun a hF => hK12 _ _ ?_ a hF
   refine ws fun K14 hK14 => ?_
   refine ws fun K15 hK15 => ?_
   refine wr [(0, 0), (1, 0), (2, 0), (3, 0), (4, 1)] ?_
   refine gb0 [0, 1] [(32, vI (i1 : Int)), (31, .slice A0 l0.length c0)] ?_
   by_cases hc5 : i1 ≤ l0.length
   ·rw [if_pos hc5] at h
    refine ge_part (d := 33) (ty := 40) (t := 40) (el := 46) (sz := 7) (m := l0.length) (c := c0) (lo := 0) (hi := i1) (x := (.tmp 31)) (xl := none) (xh := some (.tmp 32)) (A := A0) (by kernel_rfl) (by kernel_rfl) rfl ⟨.i64, (i1 : Int), by kernel_rfl, rfl⟩ (by kernel_rfl) (by kernel_rfl) (by have f0 := hc5; have f1 := hL0; omega) (by have f0 := hc5; have f1 := hL0; omega) ?_
    refine ge_same (t := 33) (v := .slice (subA A0 c0 0 7) (i1 - 0) (c0 - 0)) (v' := .slice (subA A0 c0 0 7) (((l0.take i1).drop 0).length) (c0 - 0)) (by kernel_rfl) (by have f0 := hc5; have f1 := hL0; rw [show i1 - 0 = ((l0.take i1).drop 0).length by simp only [List.length_drop, List.length_take]; omega]) ?_
    rcases hq3 : slices_ContainsFunc_api_Task_api_Task.f K ((l0.take i1).drop 0) e1 with _ | r2
    ·rw [hq3] at h; cases h
    rw [hq3] at h
    simp only [] at h
    refine gb0 [3] [(34, .func (.func 63) #[] #[pP b2 0])] ?_
    refine ge_call (d := some 35) (f := 62) (args := #[.slice (subA A0 c0 0 7) (((l0.take i1).drop 0).length) (c0 - 0), .func (.func 63) #[] #[pP b2 0]]) (by kernel_rfl) (slices_ContainsFunc_api_Task_api_Task_ok K ((l0.take i1).drop 0) (subA A0 c0 0 7) (c0 - 0) b2 e1 _ (hS13.rd (RdL.part hR0 hL0 0 i1)) (by have f0 := hc5; have f1 := hL0; simp only [List.length_drop, List.length_take]; omega) (hS13.globOf 0 rfl) _ hq3) ?_
    rintro _ w8 ⟨rfl, hS14⟩
    refine ⟨_, rfl, hS14.below, ?_⟩
    have hS15 := hS13.call hS14
    refine gn hK15 ?_
    by_cases hc6 : r2 = true
    ·rw [if_pos hc6] at h
     refine wk 35 r2 true hc6 ?_
     refine we_true (by kernel_rfl) ?_
     refine ws fun K16 hK16 => ?_
     refine wr [(0, 0), (1, 0), (2, 2)] ?_
     refine gb0 [0, 1] [(37, .agg #[vI 5, vI (i1 : Int)]), (36, vI (i1 : Int))] ?_
     have hS16 := hS15.bring 1 rfl
     refine gs b1 0 #[vI 0, vI 0] 26 [vI 5, vI (i1 : Int)] hS16 fun w9 hS17 => ?_
     have hS18 : St w0 w9 [Own.blk b1 (.cells #[vI 5, vI (i1 : Int)] 26 (0, 0)), Own.blk b2 (.cells #[.string e1.Name, vI e1.C, vI e1.T, vI e1.D, vI e1.J, vI e1.O, vI e1.P] 46 (0, 0))] := hS17
     refine gn hK16 ?_
     have hS19 := hS18.takeN 0
     obtain rfl := si h
     exact we_ret fun a hF => hQ _ _ _ (Outs.out nofun (Exits.on ⟨rfl, (pr [.cell 2 26] [.agg #[vI 5, vI (i1 : Int)]] [.loaded ⟨b1, 0, none⟩ (vI 5), .loaded ⟨b1, 1, none⟩ (vI (i1 : Int))] ⟨hS18.c 0, hS18.c 0, trivial⟩ ⟨rfl, hS19⟩) a hF⟩))
    ·rw [if_neg hc6] at h
     refine wk 35 r2 false (Bool.eq_false_iff.2 hc6) ?_
     refine we_false (by kernel_rfl) ?_
     refine we_skip fun a hF => hK14 _ _ ?_ a hF
     refine ws fun K17 hK17 => ?_
     refine ws fun K18 hK18 => ?_
     refine wr [(0, 0), (1, 1), (2, 0), (3, 0)] ?_
     refine gb [0] [(38, .agg #[.string e1.Name, vI e1.C, vI e1.T, vI e1.D, vI e1.J, vI e1.O, vI e1.P])] [.loaded ⟨b2, 0, none⟩ (.string e1.Name), .loaded ⟨b2, 1, none⟩ (vI e1.C), .loaded ⟨b2, 2, none⟩ (vI e1.T), .loaded ⟨b2, 3, none⟩ (vI e1.D), .loaded ⟨b2, 4, none⟩ (vI e1.J), .loaded ⟨b2, 5, none⟩ (vI e1.O), .loaded ⟨b2, 6, none⟩ (vI e1.P)] ⟨hS15.c 0, hS15.c 0, hS15.c 0, hS15.c 0, hS15.c 0, hS15.c 0, hS15.c 0, trivial⟩ ?_
     refine ge_call (d := some 39) (f := 64) (args := #[.agg #[.string e1.Name, vI e1.C, vI e1.T, vI e1.D, vI e1.J, vI e1.O, vI e1.P]]) (by kernel_rfl) (tasks_numbers_ok e1 _ _ rfl) ?_
     rintro _ w10 ⟨v1, rfl, hS20⟩
     refine ⟨_, rfl, hS20.below, ?_⟩
     have hS21 := hS15.call hS20
     obtain ⟨Z1, cz1, rfl⟩ := hS21.open 0 rfl
     refine gb0 [2, 3] [(41, vI 0), (40, vI ((tasks_numbers.f e1).length : Int))] ?_
     refine gn hK18 ?_
     refine we_block ?_
     have hS22 := hS21.bring 2 rfl
     have hS23 := hS22.bring 2 rfl
     rcases hq6 : iter (tasks_Check.r2 i1 e1) K 0 with _ | (_ | rr1)
     ·rw [hq6] at h; cases h
     ·rw [hq6] at h
      simp only [] at h
      refine we_iter (A := tasks_Check.A2 w0 l0 A0 c0 b1 i1 e1 b2 Z1 cz1) (B := tasks_Check.B2 w0 l0 A0 c0 b1 i1 e1 b2) hq6 (fun a hF => ⟨hS23, hF.weaken ea⟩) (fun s o hf a w hA Q hQ => tasks_Check_r2 K w0 l0 A0 c0 hR0 hL0 b1 i1 hc3 e1 hx2 b2 r1 hc4 hc5 r2 hc6 Z1 cz1 s o hf a w hA Q hQ) ?_
      rintro _ a w14 _ ⟨rfl, hS40, hF⟩
      replace hS40 : St w0 w14 [Own.blk b2 (.cells #[.string e1.Name, vI e1.C, vI e1.T, vI e1.D, vI e1.J, vI e1.O, vI e1.P] 46 (0, 0)), Own.blk b1 (.cells #[vI 0, vI 0] 26 (0, 0))] := hS40
      refine hK17 [(0, .slice A0 l0.length c0), (2, pP b1 0), (3, vI (i1 : Int)), (4, pP b2 0), (18, .slice A0 l0.length c0), (19, vI (l0.length : Int)), (20, vI (i1 : Int))] w14 ?_ a hF
      refine ws fun K27 hK27 => ?_
      refine wr [(0, 0), (1, 0), (2, 0), (3, 0), (4, 0)] ?_
      refine gb [0, 1, 2, 3, 4] [(66, .bool (decide (e1.C > e1.D))), (65, vI e1.D), (64, pP b2 3), (63, vI e1.C), (62, pP b2 1)] [.loaded ⟨b2, 1, none⟩ (vI e1.C), .loaded ⟨b2, 3, none⟩ (vI e1.D)] ⟨hS40.c 0, hS40.c 0, trivial⟩ ?_
      refine gn hK27 ?_
      by_cases hc10 : e1.C > e1.D
      ·rw [if_pos hc10] at h
       refine wk 66 (decide (e1.C > e1.D)) true (decide_eq_true hc10) ?_
       refine we_true (by kernel_rfl) ?_
       refine ws fun K28 hK28 => ?_
       refine wr [(0, 0), (1, 0), (2, 2)] ?_
       refine gb0 [0, 1] [(68, .agg #[vI 12, vI (i1 : Int)]), (67, vI (i1 : Int))] ?_
       have hS41 := hS40.bring 1 rfl
       refine gs b1 0 #[vI 0, vI 0] 26 [vI 12, vI (i1 : Int)] hS41 fun w15 hS42 => ?_
       have hS43 : St w0 w15 [Own.blk b1 (.cells #[vI 12, vI (i1 : Int)] 26 (0, 0)), Own.blk b2 (.cells #[.string e1.Name, vI e1.C, vI e1.T, vI e1.D, vI e1.J, vI e1.O, vI e1.P] 46 (0, 0))] := hS42
       refine gn hK28 ?_
       have hS44 := hS43.takeN 0
       obtain rfl := si h
       exact we_ret fun a hF => hQ _ _ _ (Outs.out nofun (Exits.on ⟨rfl, (pr [.cell 2 26] [.agg #[vI 12, vI (i1 : Int)]] [.loaded ⟨b1, 0, none⟩ (vI 12), .loaded ⟨b1, 1, none⟩ (vI (i1 : Int))] ⟨hS43.c 0, hS43.c 0, trivial⟩ ⟨rfl, hS44⟩) a hF⟩))
      ·rw [if_neg hc10] at h
       refine wk 66 (decide (e1.C > e1.D)) false (decide_eq_false hc10) ?_
       refine we_false (by kernel_rfl) ?_
       refine we_skip fun a hF => hK10 _ _ ?_ a hF
       refine wr [(0, 0), (1, 0)] ?_
       refine ge_addn (d := 69) (ty := 3) (x := (.tmp 20)) (y := (.const (vI 1))) (t := 3) (t2 := 3) (k := .i64) (m := i1) (by kernel_rfl) (by kernel_rfl) (by kernel_rfl) (by have h0 := hR0.small; omega) ?_
       refine gb0 [1] [(20, vI ((i1 + 1 : Nat) : Int))] ?_
       have hS45 := hS40.bring 1 rfl
       have hS46 := hS45.takeN 1
       obtain rfl := si h
       exact ge_nil fun a hF => hQ _ _ _ (Outs.again ⟨hS46, hF.weaken ea⟩)
     ·rw [hq6] at h
      simp only [] at h
      refine we_iter (A := tasks_Check.A2 w0 l0 A0 c0 b1 i1 e1 b2 Z1 cz1) (B := tasks_Check.B2 w0 l0 A0 c0 b1 i1 e1 b2) hq6 (fun a hF => ⟨hS23, hF.weaken ea⟩) (fun s o hf a w hA Q hQ => tasks_Check_r2 K w0 l0 A0 c0 hR0 hL0 b1 i1 hc3 e1 hx2 b2 r1 hc4 hc5 r2 hc6 Z1 cz1 s o hf a w hA Q hQ) ?_
      rintro _ a w1 _ ⟨rfl, hb⟩
      obtain rfl := si h
      exact hQ _ _ _ (Outs.out nofun (Exits.on ⟨rfl, hb⟩))
   ·rw [if_neg hc5] at h
    cases h
  ·rw [if_neg hc4] at h
   refine wk 28 (!r1) true (congrArg (fun z => !z) (Bool.eq_false_iff.2 hc4)) ?_
   refine we_true (by kernel_rfl) ?_
   refine ws fun K29 hK29 => ?_
   refine wr [(0, 0), (1, 0), (2, 2)] ?_
   refine gb0 [0, 1] [(30, .agg #[vI 4, vI (i1 : Int)]), (29, vI (i1 : Int))] ?_
   have hS47 := hS13.bring 1 rfl
   refine gs b1 0 #[vI 0, vI 0] 26 [vI 4, vI (i1 : Int)] hS47 fun w16 hS48 => ?_
   have hS49 : St w0 w16 [Own.blk b1 (.cells #[vI 4, vI (i1 : Int)] 26 (0, 0)), Own.blk b2 (.cells #[.string e1.Name, vI e1.C, vI e1.T, vI e1.D, vI e1.J, vI e1.O, vI e1.P] 46 (0, 0))] := hS48
   refine gn hK29 ?_
   have hS50 := hS49.takeN 0
   obtain rfl := si h
   exact we_ret fun a hF => hQ _ _ _ (Outs.out nofun (Exits.on ⟨rfl, (pr [.cell 2 26] [.agg #[vI 4, vI (i1 : Int)]] [.loaded ⟨b1, 0, none⟩ (vI 4), .loaded ⟨b1, 1, none⟩ (vI (i1 : Int))] ⟨hS49.c 0, hS49.c 0, trivial⟩ ⟨rfl, hS50⟩) a hF⟩))
 ·rw [if_neg hc3] at h
  refine wk 21 (decide ((i1 : Int) < (l0.length : Int))) false (decide_eq_false hc3) ?_
  refine we_false (by kernel_rfl) ?_
  obtain rfl := si h
  exact we_exit fun a hF => hQ _ _ _ (Outs.out nofun (Exits.here ⟨hS, hF.weaken ea⟩))
theorem tasks_Check_ok (K : Nat) (l0 : List STask) (A0 : Option Addr) (c0 : Nat) (w0 : World) (hR0 : RdL w0 A0 l0) (hL0 : l0.length ≤ c0) (r : SFault) (h : tasks_Check.f K l0 = some r) :
  Calls Tryd.prog 19 #[.slice A0 l0.length c0] w0 (tasks_Check.Post w0 r) := by
 have hS := St.start w0
 unfold tasks_Check.f at h
 refine calls_enter (n := 71) (args := [.slice A0 l0.length c0]) (fn := Tryd.f19) rfl rfl rfl rfl ?_
 show WE _ _ _ _ [(0, .slice A0 l0.length c0)] _
 refine ws fun K1 hK1 => ?_
 refine wr [(0, 1)] ?_
 refine gw (some 2) (.cells #[vI 0, vI 0] 26) (fun b => pP b 0) hS fun b1 w1 hx1 hS1 => ?_
 refine gn hK1 ?_
 refine ws fun K2 hK2 => ?_
 rcases hq1 : tasks_Check.p0 l0 with _ | (_ | rr3)
 ·rw [hq1] at h; cases h
 ·rw [hq1] at h
  simp only [] at h
  refine we_keep (e' := [(0, .slice A0 l0.length c0), (2, pP b1 0)]) ea (tasks_Check_p0 K w0 l0 A0 c0 hR0 hL0 b1 _ hq1 _ hS1 _ ?_)
  rintro _ a w4 ⟨rfl, hS8, hF⟩
  replace hS8 : St w0 w4 [Own.blk b1 (.cells #[vI 0, vI 0] 26 (0, 0))] := hS8
  refine hK2 [(0, .slice A0 l0.length c0), (2, pP b1 0)] w4 ?_ a hF
  refine ws fun K6 hK6 => ?_
  refine ws fun K7 hK7 => ?_
  refine wr [(0, 0), (1, 0), (2, 0)] ?_
  refine gb0 [0, 1, 2] [(20, vI 0), (19, vI (l0.length : Int)), (18, .slice A0 l0.length c0)] ?_
  refine gn hK7 ?_
  refine we_block ?_
  rcases hq7 : iter (tasks_Check.r1 K l0) K 0 with _ | (_ | rr2)
  ·rw [hq7] at h; cases h
  ·rw [hq7] at h
   simp only [] at h
   refine we_iter (A := tasks_Check.A1 w0 l0 A0 c0 b1) (B := tasks_Check.B1 w0 b1) hq7 (fun a hF => ⟨hS8, hF.weaken ea⟩) (fun s o hf a w hA Q hQ => tasks_Check_r1 K w0 l0 A0 c0 hR0 hL0 b1 s o hf a w hA Q hQ) ?_
   rintro _ a w17 _ ⟨rfl, hS51, hF⟩
   replace hS51 : St w0 w17 [Own.blk b1 (.cells #[vI 0, vI 0] 26 (0, 0))] := hS51
   refine hK6 [(2, pP b1 0)] w17 ?_ a hF
   refine ws fun K30 hK30 => ?_
   refine wr [(0, 0), (1, 2)] ?_
   refine gb0 [0] [(70, .agg #[vI 0, vI 0])] ?_
   refine gs b1 0 #[vI 0, vI 0] 26 [vI 0, vI 0] hS51 fun w18 hS52 => ?_
   have hS53 : St w0 w18 [Own.blk b1 (.cells #[vI 0, vI 0] 26 (0, 0))] := hS52
   refine gn hK30 ?_
   have hS54 := hS53.takeN 0
   obtain rfl := si h
   exact we_ret (pr [.cell 2 26] [.agg #[vI 0, vI 0]] [.loaded ⟨b1, 0, none⟩ (vI 0), .loaded ⟨b1, 1, none⟩ (vI 0)] ⟨hS53.c 0, hS53.c 0, trivial⟩ ⟨rfl, hS54⟩)
  ·rw [hq7] at h
   simp only [] at h
   refine we_iter (A := tasks_Check.A1 w0 l0 A0 c0 b1) (B := tasks_Check.B1 w0 b1) hq7 (fun a hF => ⟨hS8, hF.weaken ea⟩) (fun s o hf a w hA Q hQ => tasks_Check_r1 K w0 l0 A0 c0 hR0 hL0 b1 s o hf a w hA Q hQ) ?_
   rintro _ a w1 _ ⟨rfl, hb⟩
   obtain rfl := si h
   exact hb
 ·rw [hq1] at h
  simp only [] at h
  refine we_keep (e' := [(0, .slice A0 l0.length c0), (2, pP b1 0)]) ea (tasks_Check_p0 K w0 l0 A0 c0 hR0 hL0 b1 _ hq1 _ hS1 _ ?_)
  rintro _ a w1 ⟨_, rfl, hb⟩
  obtain rfl := si h
  exact hb

/-! punctual/fixed.Rates$1 -/
abbrev fixed_Rates_1.Post (w0 : World) (r : Int) (e : Ending) (w : World) : Prop := e = .returned (vI r) ∧ St w0 w []
def fixed_Rates_1.f (x0 : STask) : Int :=
 x0.T
theorem fixed_Rates_1_ok (x0 : STask) (w0 : World) (r : Int) (h : fixed_Rates_1.f x0 = r) :
  Calls Tryd.prog 82 #[.agg #[.string x0.Name, vI x0.C, vI x0.T, vI x0.D, vI x0.J, vI x0.O, vI x0.P]] w0 (fixed_Rates_1.Post w0 r) := by
 have hS := St.start w0
 unfold fixed_Rates_1.f at h
 refine calls_enter (n := 5) (args := [.agg #[.string x0.Name, vI x0.C, vI x0.T, vI x0.D, vI x0.J, vI x0.O, vI x0.P]]) (fn := Tryd.f82) rfl rfl rfl rfl ?_
 show WE _ _ _ _ [(0, .agg #[.string x0.Name, vI x0.C, vI x0.T, vI x0.D, vI x0.J, vI x0.O, vI x0.P])] _
 refine ws fun K1 hK1 => ?_
 refine wr [(0, 1), (1, 0)] ?_
 refine gw (some 1) (.cells #[.string x0.Name, vI x0.C, vI x0.T, vI x0.D, vI x0.J, vI x0.O, vI x0.P] 46) (fun b => pP b 0) hS fun b1 w1 hx1 hS1 => ?_
 refine gb0 [1] [(2, vI 0)] ?_
 refine gn hK1 ?_
 refine ws fun K2 hK2 => ?_
 refine wr [(0, 0), (1, 0), (2, 0)] ?_
 refine gb [0, 1, 2] [(2, vI x0.T), (4, vI x0.T), (3, pP b1 2)] [.loaded ⟨b1, 2, none⟩ (vI x0.T)] ⟨hS1.c 0, trivial⟩ ?_
 refine gn hK2 ?_
 have hS2 := hS1.takeN 0
 subst h
 exact we_ret (pr0 [.tmp 2] [vI x0.T] ⟨rfl, hS2⟩)

/-! cmp.isNaN[int] -/
abbrev cmp_isNaN_int.Post (w0 : World) (r : Bool) (e : Ending) (w : World) : Prop := e = .returned (.bool r) ∧ St w0 w []
def cmp_isNaN_int.f (x0 : Int) : Bool :=
 false
theorem cmp_isNaN_int_ok (x0 : Int) (w0 : World) (r : Bool) (h : cmp_isNaN_int.f x0 = r) :
  Calls Tryd.prog 99 #[vI x0] w0 (cmp_isNaN_int.Post w0 r) := by
 have hS := St.start w0
 unfold cmp_isNaN_int.f at h
 refine calls_enter (n := 6) (args := [vI x0]) (fn := Tryd.f99) rfl rfl rfl rfl ?_
 show WE _ _ _ _ [(0, vI x0)] _
 refine ws fun K1 hK1 => ?_
 refine wr [(0, 0)] ?_
 refine gb0 [0] [(2, .bool false)] ?_
 refine gn hK1 ?_
 refine ws fun K2 hK2 => ?_
 refine wr [(0, 0), (1, 0), (2, 0), (3, 0)] ?_
 refine gb0 [0, 1, 2] [(5, .bool (x0 != x0)), (4, vI x0), (3, vI x0)] ?_
 refine gk 5 (x0 != x0) false (by simp) ?_
 refine gb0 [3] [(2, .bool false)] ?_
 refine gn hK2 ?_
 subst h
 exact we_ret (pr0 [.tmp 2] [.bool false] ⟨rfl, hS⟩)

/-! cmp.Compare[int] -/
abbrev cmp_Compare_int.Post (w0 : World) (r : Int) (e : Ending) (w : World) : Prop := e = .returned (vI r) ∧ St w0 w []
def cmp_Compare_int.f (x0 : Int) (x1 : Int) : Int :=
 if (cmp_isNaN_int.f x0) = true then
  if (cmp_isNaN_int.f x1) = true then
   0
  else
   (-1)
 else
  if (cmp_isNaN_int.f x1) = true then
   1
  else
   if x0 < x1 then
    (-1)
   else
    if x0 > x1 then
     1
    else
     0
theorem cmp_Compare_int_ok (x0 : Int) (x1 : Int) (w0 : World) (r : Int) (h : cmp_Compare_int.f x0 x1 = r) :
  Calls Tryd.prog 80 #[vI x0, vI x1] w0 (cmp_Compare_int.Post w0 r) := by
 have hS := St.start w0
 unfold cmp_Compare_int.f at h
 refine calls_enter (n := 20) (args := [vI x0, vI x1]) (fn := Tryd.f80) rfl rfl rfl rfl ?_
 show WE _ _ _ _ [(0, vI x0), (1, vI x1)] _
 refine ws fun K1 hK1 => ?_
 refine wr [(0, 0)] ?_
 refine gb0 [0] [(4, vI 0)] ?_
 refine gn hK1 ?_
 refine ws fun K2 hK2 => ?_
 refine wr [(0, 0), (1, 1), (2, 0)] ?_
 refine gb0 [0] [(7, vI x0)] ?_
 refine ge_call (d := some 8) (f := 99) (args := #[vI x0]) (by kernel_rfl) (cmp_isNaN_int_ok x0 _ _ rfl) ?_
 rintro _ w1 ⟨rfl, hS1⟩
 refine ⟨_, rfl, hS1.below, ?_⟩
 have hS2 := hS.call hS1
 refine gb0 [2] [(5, .bool (cmp_isNaN_int.f x0))] ?_
 refine gn hK2 ?_
 refine ws fun K3 hK3 => ?_
 refine wr [(0, 0), (1, 1), (2, 0)] ?_
 refine gb0 [0] [(9, vI x1)] ?_
 refine ge_call (d := some 10) (f := 99) (args := #[vI x1]) (by kernel_rfl) (cmp_isNaN_int_ok x1 _ _ rfl) ?_
 rintro _ w2 ⟨rfl, hS3⟩
 refine ⟨_, rfl, hS3.below, ?_⟩
 have hS4 := hS2.call hS3
 refine gb0 [2] [(6, .bool (cmp_isNaN_int.f x1))] ?_
 refine gn hK3 ?_
 refine ws fun K4 hK4 => ?_
 refine ws fun K5 hK5 => ?_
 refine wr [(0, 0)] ?_
 refine gb0 [0] [(11, .bool (cmp_isNaN_int.f x0))] ?_
 refine gn hK5 ?_
 by_cases hc1 : (cmp_isNaN_int.f x0) = true
 ·rw [if_pos hc1] at h
  refine wk 11 (cmp_isNaN_int.f x0) true hc1 ?_
  refine we_true (by kernel_rfl) ?_
  refine ws fun K6 hK6 => ?_
  refine ws fun K7 hK7 => ?_
  refine wr [(0, 0)] ?_
  refine gb0 [0] [(12, .bool (cmp_isNaN_int.f x1))] ?_
  refine gn hK7 ?_
  by_cases hc2 : (cmp_isNaN_int.f x1) = true
  ·rw [if_pos hc2] at h
   refine wk 12 (cmp_isNaN_int.f x1) true hc2 ?_
   refine we_true (by kernel_rfl) ?_
   refine ws fun K8 hK8 => ?_
   refine wr [(0, 0)] ?_
   refine gb0 [0] [(4, vI 0)] ?_
   refine gn hK8 ?_
   subst h
   exact we_ret (pr0 [.tmp 4] [vI 0] ⟨rfl, hS4⟩)
  ·rw [if_neg hc2] at h
   refine wk 12 (cmp_isNaN_int.f x1) false (Bool.eq_false_iff.2 hc2) ?_
   refine we_false (by kernel_rfl) ?_
   refine we_skip fun a hF => hK6 _ _ ?_ a hF
   refine ws fun K9 hK9 => ?_
   refine wr [(0, 0)] ?_
   refine gb0 [0] [(4, vI (-1))] ?_
   refine gn hK9 ?_
   subst h
   exact we_ret (pr0 [.tmp 4] [vI (-1)] ⟨rfl, hS4⟩)
 ·rw [if_neg hc1] at h
  refine wk 11 (cmp_isNaN_int.f x0) false (Bool.eq_false_iff.2 hc1) ?_
  refine we_false (by kernel_rfl) ?_
  refine we_skip fun a hF => hK4 _ _ ?_ a hF
  refine ws fun K10 hK10 => ?_
  refine ws fun K11 hK11 => ?_
  refine wr [(0, 0)] ?_
  refine gb0 [0] [(13, .bool (cmp_isNaN_int.f x1))] ?_
  refine gn hK11 ?_
  by_cases hc3 : (cmp_isNaN_int.f x1) = true
  ·rw [if_pos hc3] at h
   refine wk 13 (cmp_isNaN_int.f x1) true hc3 ?_
   refine we_true (by kernel_rfl) ?_
   refine ws fun K12 hK12 => ?_
   refine wr [(0, 0)] ?_
   refine gb0 [0] [(4, vI 1)] ?_
   refine gn hK12 ?_
   subst h
   exact we_ret (pr0 [.tmp 4] [vI 1] ⟨rfl, hS4⟩)
  ·rw [if_neg hc3] at h
   refine wk 13 (cmp_isNaN_int.f x1) false (Bool.eq_false_iff.2 hc3) ?_
   refine we_false (by kernel_rfl) ?_
   refine we_skip fun a hF => hK10 _ _ ?_ a hF
   refine ws fun K13 hK13 => ?_
   refine ws fun K14 hK14 => ?_
   refine wr [(0, 0), (1, 0), (2, 0)] ?_
   refine gb0 [0, 1, 2] [(16, .bool (decide (x0 < x1))), (15, vI x1), (14, vI x0)] ?_
   refine gn hK14 ?_
   by_cases hc4 : x0 < x1
   ·rw [if_pos hc4] at h
    refine wk 16 (decide (x0 < x1)) true (decide_eq_true hc4) ?_
    refine we_true (by kernel_rfl) ?_
    refine ws fun K15 hK15 => ?_
    refine wr [(0, 0)] ?_
    refine gb0 [0] [(4, vI (-1))] ?_
    refine gn hK15 ?_
    subst h
    exact we_ret (pr0 [.tmp 4] [vI (-1)] ⟨rfl, hS4⟩)
   ·rw [if_neg hc4] at h
    refine wk 16 (decide (x0 < x1)) false (decide_eq_false hc4) ?_
    refine we_false (by kernel_rfl) ?_
    refine we_skip fun a hF => hK13 _ _ ?_ a hF
    refine ws fun K16 hK16 => ?_
    refine ws fun K17 hK17 => ?_
    refine wr [(0, 0), (1, 0), (2, 0)] ?_
    refine gb0 [0, 1, 2] [(19, .bool (decide (x0 > x1))), (18, vI x1), (17, vI x0)] ?_
    refine gn hK17 ?_
    by_cases hc5 : x0 > x1
    ·rw [if_pos hc5] at h
     refine wk 19 (decide (x0 > x1)) true (decide_eq_true hc5) ?_
     refine we_true (by kernel_rfl) ?_
     refine ws fun K18 hK18 => ?_
     refine wr [(0, 0)] ?_
     refine gb0 [0] [(4, vI 1)] ?_
     refine gn hK18 ?_
     subst h
     exact we_ret (pr0 [.tmp 4] [vI 1] ⟨rfl, hS4⟩)
    ·rw [if_neg hc5] at h
     refine wk 19 (decide (x0 > x1)) false (decide_eq_false hc5) ?_
     refine we_false (by kernel_rfl) ?_
     refine we_skip fun a hF => hK16 _ _ ?_ a hF
     refine ws fun K19 hK19 => ?_
     refine wr [(0, 0)] ?_
     refine gb0 [0] [(4, vI 0)] ?_
     refine gn hK19 ?_
     subst h
     exact we_ret (pr0 [.tmp 4] [vI 0] ⟨rfl, hS4⟩)

/-! punctual/fixed.ranked$1 -/
abbrev fixed_ranked_1.Post (w0 : World) (r : Int) (e : Ending) (w : World) : Prop := e = .returned (vI r) ∧ St w0 w []
def fixed_ranked_1.f (x0 : Int) (x1 : Int) (lf_1 : List STask) : Option Int :=
 if 0 ≤ x0 then
  match lf_1[(x0).toNat]? with
  | none => none
  | some e1 =>
   if 0 ≤ x1 then
    match lf_1[(x1).toNat]? with
    | none => none
    | some e2 =>
     some (cmp_Compare_int.f (fixed_Rates_1.f e1) (fixed_Rates_1.f e2))
   else
    none
 else
  none
theorem fixed_ranked_1_ok (x0 : Int) (x1 : Int) (bf_0 : Nat) (bf_1 : Nat) (lf_1 : List STask) (Af_1 : Option Addr) (cf_1 : Nat) (w0 : World) (hBf_0 : Glob w0 bf_0 [.func (.func 82) #[] #[]]) (hRf_1 : RdL w0 Af_1 lf_1) (hLf_1 : lf_1.length ≤ cf_1) (hBf_1 : Glob w0 bf_1 [.slice Af_1 lf_1.length cf_1]) (r : Int) (h : fixed_ranked_1.f x0 x1 lf_1 = some r) :
  Calls Tryd.prog 101 #[vI x0, vI x1, pP bf_0 0, pP bf_1 0] w0 (fixed_ranked_1.Post w0 r) := by
 have hS := St.start w0
 unfold fixed_ranked_1.f at h
 refine calls_enter (n := 20) (args := [vI x0, vI x1, pP bf_0 0, pP bf_1 0]) (fn := Tryd.f101) rfl rfl rfl rfl ?_
 show WE _ _ _ _ [(0, vI x0), (1, vI x1), (2, pP bf_0 0), (3, pP bf_1 0)] _
 refine ws fun K1 hK1 => ?_
 refine wr [(0, 0)] ?_
 refine gb0 [0] [(6, vI 0)] ?_
 refine gn hK1 ?_
 refine ws fun K2 hK2 => ?_
 refine we_draws (by kernel_rfl) [(0, 0), (1, 0), (2, 0), (3, 0), (4, 0), (6, 0), (7, 0), (8, 0), (9, 0), (10, 0), (5, 1), (11, 1), (12, 1), (13, 0)] (by kernel_rfl) ?_
 have hS1 := hS.drew
 refine gb [0, 1, 2] [(9, vI x0), (8, .slice Af_1 lf_1.length cf_1), (7, .func (.func 82) #[] #[])] [.loaded ⟨bf_0, 0, none⟩ (.func (.func 82) #[] #[]), .loaded ⟨bf_1, 0, none⟩ (.slice Af_1 lf_1.length cf_1)] ⟨hS1.glob hBf_0 rfl, hS1.glob hBf_1 rfl, trivial⟩ ?_
 by_cases hc1 : 0 ≤ x0
 ·rw [if_pos hc1] at h
  rcases hx1 : lf_1[(x0).toNat]? with _ | e1
  ·rw [hx1] at h; cases h
  rw [hx1] at h
  simp only [] at h
  refine gi 10 0 40 46 7 lf_1.length cf_1 (.tmp 8) (.tmp 9) Af_1 .i64 x0 ((x0).toNat) ((hS1.rd hRf_1).eqSome (pos_of_get hx1)) (Int.toNat_of_nonneg hc1).symm (lt_of_get hx1) ?_
  refine gb [4, 6, 7, 8] [(15, vI x1), (14, .slice Af_1 lf_1.length cf_1), (13, .func (.func 82) #[] #[]), (11, .agg #[.string e1.Name, vI e1.C, vI e1.T, vI e1.D, vI e1.J, vI e1.O, vI e1.P])] [.loaded ⟨blkOf Af_1, offOf Af_1 + ((x0).toNat) * 7, none⟩ (.string e1.Name), .loaded ⟨blkOf Af_1, offOf Af_1 + ((x0).toNat) * 7 + 1, none⟩ (vI e1.C), .loaded ⟨blkOf Af_1, offOf Af_1 + ((x0).toNat) * 7 + 2, none⟩ (vI e1.T), .loaded ⟨blkOf Af_1, offOf Af_1 + ((x0).toNat) * 7 + 3, none⟩ (vI e1.D), .loaded ⟨blkOf Af_1, offOf Af_1 + ((x0).toNat) * 7 + 4, none⟩ (vI e1.J), .loaded ⟨blkOf Af_1, offOf Af_1 + ((x0).toNat) * 7 + 5, none⟩ (vI e1.O), .loaded ⟨blkOf Af_1, offOf Af_1 + ((x0).toNat) * 7 + 6, none⟩ (vI e1.P), .loaded ⟨bf_0, 0, none⟩ (.func (.func 82) #[] #[]), .loaded ⟨bf_1, 0, none⟩ (.slice Af_1 lf_1.length cf_1)] ⟨RdL.cell (j := 0) (hS1.rd hRf_1) hx1 rfl, RdL.cell (j := 1) (hS1.rd hRf_1) hx1 rfl, RdL.cell (j := 2) (hS1.rd hRf_1) hx1 rfl, RdL.cell (j := 3) (hS1.rd hRf_1) hx1 rfl, RdL.cell (j := 4) (hS1.rd hRf_1) hx1 rfl, RdL.cell (j := 5) (hS1.rd hRf_1) hx1 rfl, RdL.cell (j := 6) (hS1.rd hRf_1) hx1 rfl, hS1.glob hBf_0 rfl, hS1.glob hBf_1 rfl, trivial⟩ ?_
  by_cases hc2 : 0 ≤ x1
  ·rw [if_pos hc2] at h
   rcases hx2 : lf_1[(x1).toNat]? with _ | e2
   ·rw [hx2] at h; cases h
   rw [hx2] at h
   simp only [] at h
   refine gi 16 0 40 46 7 lf_1.length cf_1 (.tmp 14) (.tmp 15) Af_1 .i64 x1 ((x1).toNat) ((hS1.rd hRf_1).eqSome (pos_of_get hx2)) (Int.toNat_of_nonneg hc2).symm (lt_of_get hx2) ?_
   refine gb [10] [(17, .agg #[.string e2.Name, vI e2.C, vI e2.T, vI e2.D, vI e2.J, vI e2.O, vI e2.P])] [.loaded ⟨blkOf Af_1, offOf Af_1 + ((x1).toNat) * 7, none⟩ (.string e2.Name), .loaded ⟨blkOf Af_1, offOf Af_1 + ((x1).toNat) * 7 + 1, none⟩ (vI e2.C), .loaded ⟨blkOf Af_1, offOf Af_1 + ((x1).toNat) * 7 + 2, none⟩ (vI e2.T), .loaded ⟨blkOf Af_1, offOf Af_1 + ((x1).toNat) * 7 + 3, none⟩ (vI e2.D), .loaded ⟨blkOf Af_1, offOf Af_1 + ((x1).toNat) * 7 + 4, none⟩ (vI e2.J), .loaded ⟨blkOf Af_1, offOf Af_1 + ((x1).toNat) * 7 + 5, none⟩ (vI e2.O), .loaded ⟨blkOf Af_1, offOf Af_1 + ((x1).toNat) * 7 + 6, none⟩ (vI e2.P)] ⟨RdL.cell (j := 0) (hS1.rd hRf_1) hx2 rfl, RdL.cell (j := 1) (hS1.rd hRf_1) hx2 rfl, RdL.cell (j := 2) (hS1.rd hRf_1) hx2 rfl, RdL.cell (j := 3) (hS1.rd hRf_1) hx2 rfl, RdL.cell (j := 4) (hS1.rd hRf_1) hx2 rfl, RdL.cell (j := 5) (hS1.rd hRf_1) hx2 rfl, RdL.cell (j := 6) (hS1.rd hRf_1) hx2 rfl, trivial⟩ ?_
   refine ge_call (d := some 12) (f := 82) (args := #[.agg #[.string e1.Name, vI e1.C, vI e1.T, vI e1.D, vI e1.J, vI e1.O, vI e1.P]]) (by kernel_rfl) (fixed_Rates_1_ok e1 _ _ rfl) ?_
   rintro _ w1 ⟨rfl, hS2⟩
   refine ⟨_, rfl, hS2.below, ?_⟩
   have hS3 := hS1.call hS2
   refine ge_call (d := some 18) (f := 82) (args := #[.agg #[.string e2.Name, vI e2.C, vI e2.T, vI e2.D, vI e2.J, vI e2.O, vI e2.P]]) (by kernel_rfl) (fixed_Rates_1_ok e2 _ _ rfl) ?_
   rintro _ w2 ⟨rfl, hS4⟩
   refine ⟨_, rfl, hS4.below, ?_⟩
   have hS5 := hS3.call hS4
   refine ge_call (d := some 19) (f := 80) (args := #[vI (fixed_Rates_1.f e1), vI (fixed_Rates_1.f e2)]) (by kernel_rfl) (cmp_Compare_int_ok (fixed_Rates_1.f e1) (fixed_Rates_1.f e2) _ _ rfl) ?_
   rintro _ w3 ⟨rfl, hS6⟩
   refine ⟨_, rfl, hS6.below, ?_⟩
   have hS7 := hS5.call hS6
   refine gb0 [13] [(6, vI (cmp_Compare_int.f (fixed_Rates_1.f e1) (fixed_Rates_1.f e2)))] ?_
   refine gn hK2 ?_
   obtain rfl := si h
   exact we_ret (pr0 [.tmp 6] [vI (cmp_Compare_int.f (fixed_Rates_1.f e1) (fixed_Rates_1.f e2))] ⟨rfl, hS7⟩)
  ·rw [if_neg hc2] at h
   cases h
 ·rw [if_neg hc1] at h
  cases h

/-! slices.insertionSortCmpFunc[int] -/
abbrev slices_insertionSortCmpFunc_int.Post (w0 : World) (l0 : List Int) (A0 : Option Addr) (c0 : Nat) (x1 : Int) (x2 : Int) (bg3_0 : Nat) (bg3_1 : Nat) (lg3_1 : List STask) (Ag3_1 : Option Addr) (cg3_1 : Nat) (LT : List Own) (r : List Int) (e : Ending) (w : World) : Prop := e = .returned (.tuple #[]) ∧ l0.length = r.length ∧ St w0 w [Own.of (.slice A0 r.length c0) 3 r, Own.blk bg3_0 (.cells #[.func (.func 82) #[] #[]] 80 (0, 0)), Own.blk bg3_1 (.cells #[.slice Ag3_1 lg3_1.length cg3_1] 40 (0, 0)), Own.all LT]
def slices_insertionSortCmpFunc_int.r1 (x1 : Int) (lg3_1 : List STask) : Int × (List Int) → Option ((Int × (List Int)) ⊕ ((List Int) ⊕ (List Int)))
 | (z2, m3) =>
  if z2 > x1 then
   if 0 ≤ z2 then
    match m3[(z2).toNat]? with
    | none => none
    | some e1 =>
     if 0 ≤ (IntKind.i64.wrap (z2 - 1)) then
      match m3[(IntKind.i64.wrap (z2 - 1)).toNat]? with
      | none => none
      | some e2 =>
       match fixed_ranked_1.f e1 e2 lg3_1 with
       | none => none
       | some r1 =>
        if r1 < 0 then
         match (m3.set ((z2).toNat) e2)[(IntKind.i64.wrap (z2 - 1)).toNat]? with
         | none => none
         | some e3 =>
          some (.inl (IntKind.i64.wrap (z2 - 1), ((m3.set ((z2).toNat) e2).set ((IntKind.i64.wrap (z2 - 1)).toNat) e1)))
        else
         some (.inr (.inl m3))
     else
      none
   else
    none
  else
   some (.inr (.inl m3))
def slices_insertionSortCmpFunc_int.r0 (K : Nat) (x1 : Int) (x2 : Int) (lg3_1 : List STask) : Int × (List Int) → Option ((Int × (List Int)) ⊕ ((List Int) ⊕ (List Int)))
 | (z1, m1) =>
  if z1 < x2 then
   match iter (slices_insertionSortCmpFunc_int.r1 x1 lg3_1) K (z1, m1) with
   | none => none
   | some (.inl m5) =>
    some (.inl (IntKind.i64.wrap (z1 + 1), m5))
   | some (.inr rr1) =>
    some (.inr (.inr rr1))
  else
   some (.inr (.inl m1))
def slices_insertionSortCmpFunc_int.f (K : Nat) (l0 : List Int) (x1 : Int) (x2 : Int) (lg3_1 : List STask) : Option (List Int) :=
 match iter (slices_insertionSortCmpFunc_int.r0 K x1 x2 lg3_1) K (IntKind.i64.wrap (x1 + 1), l0) with
 | none => none
 | some (.inl m6) =>
  some m6
 | some (.inr rr2) =>
  some rr2
abbrev slices_insertionSortCmpFunc_int.A1 (w0 : World) (l0 : List Int) (A0 : Option Addr) (c0 : Nat) (x1 : Int) (x2 : Int) (bg3_0 : Nat) (bg3_1 : Nat) (lg3_1 : List STask) (Ag3_1 : Option Addr) (cg3_1 : Nat) (LT : List Own) (z1 : Int) : (Int × (List Int)) → Act → World → Prop := fun (s : Int × (List Int)) a w => l0.length = s.2.length ∧ St w0 w [Own.blk bg3_0 (.cells #[.func (.func 82) #[] #[]] 80 (0, 0)), Own.blk bg3_1 (.cells #[.slice Ag3_1 lg3_1.length cg3_1] 40 (0, 0)), Own.of (.slice A0 s.2.length c0) 3 s.2, Own.all LT] ∧ Frm 53 a [(0, (.slice A0 s.2.length c0)), (1, vI x1), (2, vI x2), (3, .func (.func 101) #[] #[pP bg3_0 0, pP bg3_1 0]), (8, vI z1), (9, vI s.1)]
abbrev slices_insertionSortCmpFunc_int.B1 (w0 : World) (l0 : List Int) (A0 : Option Addr) (c0 : Nat) (x1 : Int) (x2 : Int) (bg3_0 : Nat) (bg3_1 : Nat) (lg3_1 : List STask) (Ag3_1 : Option Addr) (cg3_1 : Nat) (LT : List Own) (z1 : Int) : ((List Int) ⊕ (List Int)) → Exit → Act → World → Prop := Exits 2 (fun (s : (List Int)) a w => l0.length = s.length ∧ St w0 w [Own.blk bg3_0 (.cells #[.func (.func 82) #[] #[]] 80 (0, 0)), Own.blk bg3_1 (.cells #[.slice Ag3_1 lg3_1.length cg3_1] 40 (0, 0)), Own.of (.slice A0 s.length c0) 3 s, Own.all LT] ∧ Frm 53 a [(0, (.slice A0 s.length c0)), (1, vI x1), (2, vI x2), (3, .func (.func 101) #[] #[pP bg3_0 0, pP bg3_1 0]), (8, vI z1)]) (Rets Tryd.prog Tryd.f108 (slices_insertionSortCmpFunc_int.Post w0 l0 A0 c0 x1 x2 bg3_0 bg3_1 lg3_1 Ag3_1 cg3_1 LT))
theorem slices_insertionSortCmpFunc_int_r1 (K : Nat) (w0 : World) (l0 : List Int) (A0 : Option Addr) (c0 : Nat) (x1 : Int) (x2 : Int) (bg3_0 : Nat) (bg3_1 : Nat) (lg3_1 : List STask) (Ag3_1 : Option Addr) (cg3_1 : Nat) (LT : List Own) (hRg3_1 : RdL w0 Ag3_1 lg3_1) (hLg3_1 : lg3_1.length ≤ cg3_1) (z1 : Int) (m1 : List Int) (hLio1 : l0.length = m1.length) (hc1 : z1 < x2) (s : Int × (List Int)) (o : (Int × (List Int)) ⊕ ((List Int) ⊕ (List Int))) (h : slices_insertionSortCmpFunc_int.r1 x1 lg3_1 s = some o) (a : Act) (w : World) (hA : slices_insertionSortCmpFunc_int.A1 w0 l0 A0 c0 x1 x2 bg3_0 bg3_1 lg3_1 Ag3_1 cg3_1 LT z1 s a w) (Q : Exit → Act → World → Prop) (hQ : ∀ x a w, Outs (slices_insertionSortCmpFunc_int.A1 w0 l0 A0 c0 x1 x2 bg3_0 bg3_1 lg3_1 Ag3_1 cg3_1 LT z1) (slices_insertionSortCmpFunc_int.B1 w0 l0 A0 c0 x1 x2 bg3_0 bg3_1 lg3_1 Ag3_1 cg3_1 LT z1) o x a w → Q x a w) : (subF Tryd.f108 [1, 0, 0, 1, 0, 0, 1, 0, 0]).wp Tryd.prog Q a w := by
 obtain ⟨z2, m3⟩ := s
 obtain ⟨hLio3, hS, hF⟩ := hA
 replace hS : St w0 w [Own.blk bg3_0 (.cells #[.func (.func 82) #[] #[]] 80 (0, 0)), Own.blk bg3_1 (.cells #[.slice Ag3_1 lg3_1.length cg3_1] 40 (0, 0)), Own.of (.slice A0 m3.length c0) 3 m3, Own.all LT] := hS
 simp only [slices_insertionSortCmpFunc_int.r1] at h
 refine (?_ : WE Tryd.prog 53 (subF Tryd.f108 [1, 0, 0, 1, 0, 0, 1, 0, 0]) Q [(0, (.slice A0 m3.length c0)), (1, vI x1), (2, vI x2), (3, .func (.func 101) #[] #[pP bg3_0 0, pP bg3_1 0]), (8, vI z1), (9, vI z2)] w) a hF
 clear hF a
 refine ws fun K6 hK6 => ?_
 refine ws fun K7 hK7 => ?_
 refine we_draws (by kernel_rfl) [(0, 0), (1, 0), (2, 0), (3, 0), (4, 0), (5, 0), (6, 0), (7, 0), (8, 0), (9, 0), (10, 0), (11, 0), (12, 0), (13, 0), (14, 1), (15, 0), (16, 0)] (by kernel_rfl) ?_
 have hS9 := hS.drew
 refine gb0 [0, 1, 2, 3] [(21, .bool (decide (z2 > x1))), (20, .bool (decide (z2 > x1))), (19, vI x1), (18, vI z2)] ?_
 by_cases hc2 : z2 > x1
 ·rw [if_pos hc2] at h
  refine gk 21 (decide (z2 > x1)) true (decide_eq_true hc2) ?_
  refine gb0 [4, 5, 6] [(24, vI z2), (23, (.slice A0 m3.length c0)), (22, .func (.func 101) #[] #[pP bg3_0 0, pP bg3_1 0])] ?_
  by_cases hc3 : 0 ≤ z2
  ·rw [if_pos hc3] at h
   rcases hx1 : m3[(z2).toNat]? with _ | e1
   ·rw [hx1] at h; cases h
   rw [hx1] at h
   simp only [] at h
   refine gi 25 0 23 3 1 m3.length c0 (.tmp 23) (.tmp 24) A0 .i64 z2 ((z2).toNat) ((hS9.rdAt 2 rfl).eqSome (pos_of_get hx1)) (Int.toNat_of_nonneg hc3).symm (lt_of_get hx1) ?_
   refine gb [8, 9, 10, 11] [(29, vI (IntKind.i64.wrap (z2 - 1))), (28, vI z2), (27, (.slice A0 m3.length c0)), (26, vI e1)] [.loaded ⟨blkOf A0, offOf A0 + ((z2).toNat) * 1, none⟩ (vI e1)] ⟨RdL.cell (j := 0) (hS9.rdAt 2 rfl) hx1 rfl, trivial⟩ ?_
   by_cases hc4 : 0 ≤ (IntKind.i64.wrap (z2 - 1))
   ·rw [if_pos hc4] at h
    rcases hx2 : m3[(IntKind.i64.wrap (z2 - 1)).toNat]? with _ | e2
    ·rw [hx2] at h; cases h
    rw [hx2] at h
    simp only [] at h
    refine gi 30 0 23 3 1 m3.length c0 (.tmp 27) (.tmp 29) A0 .i64 (IntKind.i64.wrap (z2 - 1)) ((IntKind.i64.wrap (z2 - 1)).toNat) ((hS9.rdAt 2 rfl).eqSome (pos_of_get hx2)) (Int.toNat_of_nonneg hc4).symm (lt_of_get hx2) ?_
    rcases hq1 : fixed_ranked_1.f e1 e2 lg3_1 with _ | r1
    ·rw [hq1] at h; cases h
    rw [hq1] at h
    simp only [] at h
    refine gb [13] [(31, vI e2)] [.loaded ⟨blkOf A0, offOf A0 + ((IntKind.i64.wrap (z2 - 1)).toNat) * 1, none⟩ (vI e2)] ⟨RdL.cell (j := 0) (hS9.rdAt 2 rfl) hx2 rfl, trivial⟩ ?_
    refine ge_call (d := some 32) (f := 101) (args := #[vI e1, vI e2, pP bg3_0 0, pP bg3_1 0]) (by kernel_rfl) (fixed_ranked_1_ok e1 e2 bg3_0 bg3_1 lg3_1 Ag3_1 cg3_1 _ (hS9.globOf 0 rfl) (hS9.rd hRg3_1) hLg3_1 (hS9.globOf 1 rfl) _ hq1) ?_
    rintro _ w1 ⟨rfl, hS10⟩
    refine ⟨_, rfl, hS10.below, ?_⟩
    have hS11 := hS9.call hS10
    refine gb0 [15, 16] [(34, .bool (decide (r1 < 0))), (33, .bool (decide (r1 < 0)))] ?_
    refine gn hK7 ?_
    by_cases hc5 : r1 < 0
    ·rw [if_pos hc5] at h
     refine wk 34 (decide (r1 < 0)) true (decide_eq_true hc5) ?_
     refine we_true (by kernel_rfl) ?_
     refine we_skip fun a hF => hK6 _ _ ?_ a hF
     refine ws fun K8 hK8 => ?_
     refine we_block ?_
     refine we_orders2 (by kernel_rfl) [(9, [⟨blkOf A0, offOf A0 + ((IntKind.i64.wrap (z2 - 1)).toNat) * 1, none⟩]), (13, [⟨blkOf A0, offOf A0 + ((z2).toNat) * 1, none⟩])] (.vals [0] (.vals [1] (.vals [2] (.vals [3] (.vals [4] (.vals [5] (.vals [6] (.vals [7] (.vals [8] (.vals [9] (.vals [10] (.vals [11] (.vals [12] (.vals [13] (.vals [14] (.alt 15 2 (.vals [16] (.alt 17 2 .fin .nomore)) .nomore)))))))))))))))) (by kernel_rfl) ?_
     have hS12 := hS11.drew
     refine go2_batch [0, 1, 2, 3, 4, 5, 6, 7] (ans := []) (vs := [(44, vI (IntKind.i64.wrap (z2 - 1))), (43, vI z2), (42, (.slice A0 m3.length c0)), (41, vI (IntKind.i64.wrap (z2 - 1))), (40, vI z2), (39, (.slice A0 m3.length c0)), (38, vI z2), (37, (.slice A0 m3.length c0))]) (l := []) (by kernel_rfl) trivial mem_nil ?_
     refine go2_index (d := 45) (ty := 0) (t := 23) (el := 3) (sz := 1) (m := m3.length) (c := c0) (x := (.tmp 42)) (y := (.tmp 44)) (A := A0) (k' := .i64) (j := (IntKind.i64.wrap (z2 - 1))) (jn := ((IntKind.i64.wrap (z2 - 1)).toNat)) (b0 := blkOf A0) (o0 := offOf A0) (by kernel_rfl) (by kernel_rfl) (by kernel_rfl) (by kernel_rfl) (by kernel_rfl) ((hS12.rdAt 2 rfl).eqSome (pos_of_get hx2)) (Int.toNat_of_nonneg hc4).symm (lt_of_get hx2) ?_
     refine go2_batch [9] (ans := [.val (vI e2)]) (vs := [(46, vI e2)]) (l := [.loaded ⟨blkOf A0, offOf A0 + ((IntKind.i64.wrap (z2 - 1)).toNat) * 1, none⟩ (vI e2)]) (by kernel_rfl) ⟨RdL.cell (j := 0) (hS12.rdAt 2 rfl) hx2 rfl, trivial⟩ (mem_one (by kernel_rfl)) ?_
     refine go2_batch [10, 11] (ans := []) (vs := [(48, vI z2), (47, (.slice A0 m3.length c0))]) (l := []) (by kernel_rfl) trivial mem_nil ?_
     refine go2_index (d := 49) (ty := 0) (t := 23) (el := 3) (sz := 1) (m := m3.length) (c := c0) (x := (.tmp 47)) (y := (.tmp 48)) (A := A0) (k' := .i64) (j := z2) (jn := ((z2).toNat)) (b0 := blkOf A0) (o0 := offOf A0) (by kernel_rfl) (by kernel_rfl) (by kernel_rfl) (by kernel_rfl) (by kernel_rfl) ((hS12.rdAt 2 rfl).eqSome (pos_of_get hx1)) (Int.toNat_of_nonneg hc3).symm (lt_of_get hx1) ?_
     refine go2_batch [13] (ans := [.val (vI e1)]) (vs := [(50, vI e1)]) (l := [.loaded ⟨blkOf A0, offOf A0 + ((z2).toNat) * 1, none⟩ (vI e1)]) (by kernel_rfl) ⟨RdL.cell (j := 0) (hS12.rdAt 2 rfl) hx1 rfl, trivial⟩ (mem_one (by kernel_rfl)) ?_
     refine go2_index (d := 51) (ty := 0) (t := 23) (el := 3) (sz := 1) (m := m3.length) (c := c0) (x := (.tmp 37)) (y := (.tmp 38)) (A := A0) (k' := .i64) (j := z2) (jn := ((z2).toNat)) (b0 := blkOf A0) (o0 := offOf A0) (by kernel_rfl) (by kernel_rfl) (by kernel_rfl) (by kernel_rfl) (by kernel_rfl) ((hS12.rdAt 2 rfl).eqSome (pos_of_get hx1)) (Int.toNat_of_nonneg hc3).symm (lt_of_get hx1) ?_
     refine go_alt2 (fun KK hKK => ?_) ?_
     ·have hS13 := hS12.bring 2 rfl
      refine ge_seti (α := Int) (A := A0) (nn := m3.length) (c := c0) (t := 3) (l := m3) (x := e1) (x' := e2) (jn := ((z2).toNat)) (j := 0) (vs := [vI e2]) (l' := [.stored ⟨blkOf A0, offOf A0 + ((z2).toNat) * 1, none⟩ (vI e2)]) hS13 (by kernel_rfl) (by kernel_rfl) hx1 rfl rfl rfl fun w2 hS14 => ?_
      have hS15 : St w0 w2 [Own.of (.slice A0 m3.length c0) 3 (m3.set ((z2).toNat) e2), Own.blk bg3_0 (.cells #[.func (.func 82) #[] #[]] 80 (0, 0)), Own.blk bg3_1 (.cells #[.slice Ag3_1 lg3_1.length cg3_1] 40 (0, 0)), Own.all LT] := hS14
      have hE1 : m3.length = (m3.set ((z2).toNat) e2).length := hS15.lenAt 0 rfl
      have hS16 : St w0 w2 [Own.of (.slice A0 (m3.set ((z2).toNat) e2).length c0) 3 (m3.set ((z2).toNat) e2), Own.blk bg3_0 (.cells #[.func (.func 82) #[] #[]] 80 (0, 0)), Own.blk bg3_1 (.cells #[.slice Ag3_1 lg3_1.length cg3_1] 40 (0, 0)), Own.all LT] := by rw [← hE1]; exact hS15
      refine ge_same (t := 0) (v := (.slice A0 m3.length c0)) (v' := (.slice A0 (m3.set ((z2).toNat) e2).length c0)) (by kernel_rfl) (by rw [hE1]) ?_
      refine ge_same (t := 23) (v := (.slice A0 m3.length c0)) (v' := (.slice A0 (m3.set ((z2).toNat) e2).length c0)) (by kernel_rfl) (by rw [hE1]) ?_
      refine ge_same (t := 27) (v := (.slice A0 m3.length c0)) (v' := (.slice A0 (m3.set ((z2).toNat) e2).length c0)) (by kernel_rfl) (by rw [hE1]) ?_
      refine ge_same (t := 37) (v := (.slice A0 m3.length c0)) (v' := (.slice A0 (m3.set ((z2).toNat) e2).length c0)) (by kernel_rfl) (by rw [hE1]) ?_
      refine ge_same (t := 39) (v := (.slice A0 m3.length c0)) (v' := (.slice A0 (m3.set ((z2).toNat) e2).length c0)) (by kernel_rfl) (by rw [hE1]) ?_
      refine ge_same (t := 42) (v := (.slice A0 m3.length c0)) (v' := (.slice A0 (m3.set ((z2).toNat) e2).length c0)) (by kernel_rfl) (by rw [hE1]) ?_
      refine ge_same (t := 47) (v := (.slice A0 m3.length c0)) (v' := (.slice A0 (m3.set ((z2).toNat) e2).length c0)) (by kernel_rfl) (by rw [hE1]) ?_
      refine ge_nil fun a hF => hKK _ _ (RS.of2 (l := []) (by kernel_rfl) trivial trivial) ?_ a hF
      rcases hx3 : (m3.set ((z2).toNat) e2)[(IntKind.i64.wrap (z2 - 1)).toNat]? with _ | e3
      ·rw [hx3] at h; cases h
      rw [hx3] at h
      simp only [] at h
      refine go2_index (d := 52) (ty := 0) (t := 23) (el := 3) (sz := 1) (m := (m3.set ((z2).toNat) e2).length) (c := c0) (x := (.tmp 39)) (y := (.tmp 41)) (A := A0) (k' := .i64) (j := (IntKind.i64.wrap (z2 - 1))) (jn := ((IntKind.i64.wrap (z2 - 1)).toNat)) (b0 := blkOf A0) (o0 := offOf A0) (by kernel_rfl) (by kernel_rfl) (by kernel_rfl) (by kernel_rfl) (by kernel_rfl) ((hS16.rdAt 0 rfl).eqSome (pos_of_get hx3)) (Int.toNat_of_nonneg hc4).symm (lt_of_get hx3) ?_
      refine go_alt2 (fun KK hKK => ?_) ?_
      ·refine ge_seti (α := Int) (A := A0) (nn := ((m3.set ((z2).toNat) e2).length)) (c := c0) (t := 3) (l := (m3.set ((z2).toNat) e2)) (x := e3) (x' := e1) (jn := ((IntKind.i64.wrap (z2 - 1)).toNat)) (j := 0) (vs := [vI e1]) (l' := [.stored ⟨blkOf A0, offOf A0 + ((IntKind.i64.wrap (z2 - 1)).toNat) * 1, none⟩ (vI e1)]) hS16 (by kernel_rfl) (by kernel_rfl) hx3 rfl rfl rfl fun w3 hS17 => ?_
       have hS18 : St w0 w3 [Own.of (.slice A0 (m3.set ((z2).toNat) e2).length c0) 3 ((m3.set ((z2).toNat) e2).set ((IntKind.i64.wrap (z2 - 1)).toNat) e1), Own.blk bg3_0 (.cells #[.func (.func 82) #[] #[]] 80 (0, 0)), Own.blk bg3_1 (.cells #[.slice Ag3_1 lg3_1.length cg3_1] 40 (0, 0)), Own.all LT] := hS17
       have hE2 : (m3.set ((z2).toNat) e2).length = ((m3.set ((z2).toNat) e2).set ((IntKind.i64.wrap (z2 - 1)).toNat) e1).length := hS18.lenAt 0 rfl
       have hS19 : St w0 w3 [Own.of (.slice A0 ((m3.set ((z2).toNat) e2).set ((IntKind.i64.wrap (z2 - 1)).toNat) e1).length c0) 3 ((m3.set ((z2).toNat) e2).set ((IntKind.i64.wrap (z2 - 1)).toNat) e1), Own.blk bg3_0 (.cells #[.func (.func 82) #[] #[]] 80 (0, 0)), Own.blk bg3_1 (.cells #[.slice Ag3_1 lg3_1.length cg3_1] 40 (0, 0)), Own.all LT] := by rw [← hE2]; exact hS18
       refine ge_same (t := 0) (v := (.slice A0 (m3.set ((z2).toNat) e2).length c0)) (v' := (.slice A0 ((m3.set ((z2).toNat) e2).set ((IntKind.i64.wrap (z2 - 1)).toNat) e1).length c0)) (by kernel_rfl) (by rw [hE2]) ?_
       refine ge_same (t := 23) (v := (.slice A0 (m3.set ((z2).toNat) e2).length c0)) (v' := (.slice A0 ((m3.set ((z2).toNat) e2).set ((IntKind.i64.wrap (z2 - 1)).toNat) e1).length c0)) (by kernel_rfl) (by rw [hE2]) ?_
       refine ge_same (t := 27) (v := (.slice A0 (m3.set ((z2).toNat) e2).length c0)) (v' := (.slice A0 ((m3.set ((z2).toNat) e2).set ((IntKind.i64.wrap (z2 - 1)).toNat) e1).length c0)) (by kernel_rfl) (by rw [hE2]) ?_
       refine ge_same (t := 37) (v := (.slice A0 (m3.set ((z2).toNat) e2).length c0)) (v' := (.slice A0 ((m3.set ((z2).toNat) e2).set ((IntKind.i64.wrap (z2 - 1)).toNat) e1).length c0)) (by kernel_rfl) (by rw [hE2]) ?_
       refine ge_same (t := 39) (v := (.slice A0 (m3.set ((z2).toNat) e2).length c0)) (v' := (.slice A0 ((m3.set ((z2).toNat) e2).set ((IntKind.i64.wrap (z2 - 1)).toNat) e1).length c0)) (by kernel_rfl) (by rw [hE2]) ?_
       refine ge_same (t := 42) (v := (.slice A0 (m3.set ((z2).toNat) e2).length c0)) (v' := (.slice A0 ((m3.set ((z2).toNat) e2).set ((IntKind.i64.wrap (z2 - 1)).toNat) e1).length c0)) (by kernel_rfl) (by rw [hE2]) ?_
       refine ge_same (t := 47) (v := (.slice A0 (m3.set ((z2).toNat) e2).length c0)) (v' := (.slice A0 ((m3.set ((z2).toNat) e2).set ((IntKind.i64.wrap (z2 - 1)).toNat) e1).length c0)) (by kernel_rfl) (by rw [hE2]) ?_
       refine ge_nil fun a hF => hKK _ _ (RS.of2 (l := []) (by kernel_rfl) trivial trivial) ?_ a hF
       refine go_fin2 fun a hF => hK8 _ _ ?_ a hF
       refine wr [(0, 0), (1, 0), (2, 0)] ?_
       refine gb0 [0, 1, 2] [(9, vI (IntKind.i64.wrap (z2 - 1))), (36, vI (IntKind.i64.wrap (z2 - 1))), (35, vI z2)] ?_
       have hS20 := hS19.bring 3 rfl
       have hS21 := hS20.bring 1 rfl
       have hS22 := hS21.bring 3 rfl
       have hS23 := hS22.bring 3 rfl
       obtain rfl := si h
       exact ge_nil fun a hF => hQ _ _ _ (Outs.again ⟨(Eq.trans hLio3 (by simp only [List.length_set])), hS23, hF.weaken ea⟩)
      exact go_nomore2
     exact go_nomore2
    ·rw [if_neg hc5] at h
     refine wk 34 (decide (r1 < 0)) false (decide_eq_false hc5) ?_
     refine we_false (by kernel_rfl) ?_
     have hS24 := hS11.bring 3 rfl
     have hS25 := hS24.bring 3 rfl
     have hS26 := hS25.bring 3 rfl
     have hS27 := hS26.bring 3 rfl
     obtain rfl := si h
     exact we_exit fun a hF => hQ _ _ _ (Outs.out nofun (Exits.here ⟨hLio3, hS27, hF.weaken ea⟩))
   ·rw [if_neg hc4] at h
    cases h
  ·rw [if_neg hc3] at h
   cases h
 ·rw [if_neg hc2] at h
  refine gk 21 (decide (z2 > x1)) false (decide_eq_false hc2) ?_
  refine gb0 [4, 5, 6, 7, 8, 9, 10, 11, 12, 13] [(31, undef), (30, undef), (29, undef), (28, undef), (27, undef), (26, undef), (25, undef), (24, undef), (23, undef), (22, undef)] ?_
  refine ge_off rfl rfl rfl (by kernel_rfl) ?_
  refine gb0 [15, 16] [(34, .bool false), (33, undef)] ?_
  refine gn hK7 ?_
  refine we_false (by kernel_rfl) ?_
  have hS28 := hS9.bring 3 rfl
  have hS29 := hS28.bring 3 rfl
  have hS30 := hS29.bring 3 rfl
  have hS31 := hS30.bring 3 rfl
  obtain rfl := si h
  exact we_exit fun a hF => hQ _ _ _ (Outs.out nofun (Exits.here ⟨hLio3, hS31, hF.weaken ea⟩))
abbrev slices_insertionSortCmpFunc_int.A0 (w0 : World) (l0 : List Int) (A0 : Option Addr) (c0 : Nat) (x1 : Int) (x2 : Int) (bg3_0 : Nat) (bg3_1 : Nat) (lg3_1 : List STask) (Ag3_1 : Option Addr) (cg3_1 : Nat) (LT : List Own) : (Int × (List Int)) → Act → World → Prop := fun (s : Int × (List Int)) a w => l0.length = s.2.length ∧ St w0 w [Own.blk bg3_0 (.cells #[.func (.func 82) #[] #[]] 80 (0, 0)), Own.blk bg3_1 (.cells #[.slice Ag3_1 lg3_1.length cg3_1] 40 (0, 0)), Own.of (.slice A0 s.2.length c0) 3 s.2, Own.all LT] ∧ Frm 53 a [(0, (.slice A0 s.2.length c0)), (1, vI x1), (2, vI x2), (3, .func (.func 101) #[] #[pP bg3_0 0, pP bg3_1 0]), (8, vI s.1)]
abbrev slices_insertionSortCmpFunc_int.B0 (w0 : World) (l0 : List Int) (A0 : Option Addr) (c0 : Nat) (x1 : Int) (x2 : Int) (bg3_0 : Nat) (bg3_1 : Nat) (lg3_1 : List STask) (Ag3_1 : Option Addr) (cg3_1 : Nat) (LT : List Own) : ((List Int) ⊕ (List Int)) → Exit → Act → World → Prop := Exits 0 (fun (s : (List Int)) a w => l0.length = s.length ∧ St w0 w [Own.blk bg3_0 (.cells #[.func (.func 82) #[] #[]] 80 (0, 0)), Own.blk bg3_1 (.cells #[.slice Ag3_1 lg3_1.length cg3_1] 40 (0, 0)), Own.of (.slice A0 s.length c0) 3 s, Own.all LT] ∧ Frm 53 a [(0, (.slice A0 s.length c0)), (3, .func (.func 101) #[] #[pP bg3_0 0, pP bg3_1 0])]) (Rets Tryd.prog Tryd.f108 (slices_insertionSortCmpFunc_int.Post w0 l0 A0 c0 x1 x2 bg3_0 bg3_1 lg3_1 Ag3_1 cg3_1 LT))
theorem slices_insertionSortCmpFunc_int_r0 (K : Nat) (w0 : World) (l0 : List Int) (A0 : Option Addr) (c0 : Nat) (x1 : Int) (x2 : Int) (bg3_0 : Nat) (bg3_1 : Nat) (lg3_1 : List STask) (Ag3_1 : Option Addr) (cg3_1 : Nat) (LT : List Own) (hRg3_1 : RdL w0 Ag3_1 lg3_1) (hLg3_1 : lg3_1.length ≤ cg3_1) (s : Int × (List Int)) (o : (Int × (List Int)) ⊕ ((List Int) ⊕ (List Int))) (h : slices_insertionSortCmpFunc_int.r0 K x1 x2 lg3_1 s = some o) (a : Act) (w : World) (hA : slices_insertionSortCmpFunc_int.A0 w0 l0 A0 c0 x1 x2 bg3_0 bg3_1 lg3_1 Ag3_1 cg3_1 LT s a w) (Q : Exit → Act → World → Prop) (hQ : ∀ x a w, Outs (slices_insertionSortCmpFunc_int.A0 w0 l0 A0 c0 x1 x2 bg3_0 bg3_1 lg3_1 Ag3_1 cg3_1 LT) (slices_insertionSortCmpFunc_int.B0 w0 l0 A0 c0 x1 x2 bg3_0 bg3_1 lg3_1 Ag3_1 cg3_1 LT) o x a w → Q x a w) : (subF Tryd.f108 [1, 0, 0]).wp Tryd.prog Q a w := by
 obtain ⟨z1, m1⟩ := s
 obtain ⟨hLio1, hS, hF⟩ := hA
 replace hS : St w0 w [Own.blk bg3_0 (.cells #[.func (.func 82) #[] #[]] 80 (0, 0)), Own.blk bg3_1 (.cells #[.slice Ag3_1 lg3_1.length cg3_1] 40 (0, 0)), Own.of (.slice A0 m1.length c0) 3 m1, Own.all LT] := hS
 simp only [slices_insertionSortCmpFunc_int.r0] at h
 refine (?_ : WE Tryd.prog 53 (subF Tryd.f108 [1, 0, 0]) Q [(0, (.slice A0 m1.length c0)), (1, vI x1), (2, vI x2), (3, .func (.func 101) #[] #[pP bg3_0 0, pP bg3_1 0]), (8, vI z1)] w) a hF
 clear hF a
 refine ws fun K2 hK2 => ?_
 refine ws fun K3 hK3 => ?_
 refine wr [(0, 0), (1, 0), (2, 0)] ?_
 refine gb0 [0, 1, 2] [(14, .bool (decide (z1 < x2))), (13, vI x2), (12, vI z1)] ?_
 refine gn hK3 ?_
 by_cases hc1 : z1 < x2
 ·rw [if_pos hc1] at h
  refine wk 14 (decide (z1 < x2)) true (decide_eq_true hc1) ?_
  refine we_true (by kernel_rfl) ?_
  refine we_skip fun a hF => hK2 _ _ ?_ a hF
  refine ws fun K4 hK4 => ?_
  refine we_block ?_
  refine ws fun K5 hK5 => ?_
  refine wr [(0, 0), (1, 0)] ?_
  refine gb0 [0, 1] [(9, vI z1), (17, vI z1)] ?_
  refine gn hK5 ?_
  refine we_block ?_
  have hS5 := hS.bring 3 rfl
  have hS6 := hS5.bring 3 rfl
  have hS7 := hS6.bring 3 rfl
  have hS8 := hS7.bring 3 rfl
  rcases hq2 : iter (slices_insertionSortCmpFunc_int.r1 x1 lg3_1) K (z1, m1) with _ | (m5 | rr1)
  ·rw [hq2] at h; cases h
  ·rw [hq2] at h
   simp only [] at h
   refine we_iter (A := slices_insertionSortCmpFunc_int.A1 w0 l0 A0 c0 x1 x2 bg3_0 bg3_1 lg3_1 Ag3_1 cg3_1 LT z1) (B := slices_insertionSortCmpFunc_int.B1 w0 l0 A0 c0 x1 x2 bg3_0 bg3_1 lg3_1 Ag3_1 cg3_1 LT z1) hq2 (fun a hF => ⟨hLio1, hS8, hF.weaken ea⟩) (fun s o hf a w hA Q hQ => slices_insertionSortCmpFunc_int_r1 K w0 l0 A0 c0 x1 x2 bg3_0 bg3_1 lg3_1 Ag3_1 cg3_1 LT hRg3_1 hLg3_1 z1 m1 hLio1 hc1 s o hf a w hA Q hQ) ?_
   rintro _ a w4 _ ⟨rfl, hRz1, hS32, hF⟩
   replace hS32 : St w0 w4 [Own.blk bg3_0 (.cells #[.func (.func 82) #[] #[]] 80 (0, 0)), Own.blk bg3_1 (.cells #[.slice Ag3_1 lg3_1.length cg3_1] 40 (0, 0)), Own.of (.slice A0 m5.length c0) 3 m5, Own.all LT] := hS32
   refine hK4 [(0, (.slice A0 m5.length c0)), (1, vI x1), (2, vI x2), (3, .func (.func 101) #[] #[pP bg3_0 0, pP bg3_1 0]), (8, vI z1)] w4 ?_ a hF
   refine wr [(0, 0), (1, 0), (2, 0)] ?_
   refine gb0 [0, 1, 2] [(8, vI (IntKind.i64.wrap (z1 + 1))), (16, vI (IntKind.i64.wrap (z1 + 1))), (15, vI z1)] ?_
   have hS33 := hS32.bring 3 rfl
   have hS34 := hS33.bring 3 rfl
   have hS35 := hS34.bring 3 rfl
   have hS36 := hS35.bring 3 rfl
   obtain rfl := si h
   exact ge_nil fun a hF => hQ _ _ _ (Outs.again ⟨hRz1, hS36, hF.weaken ea⟩)
  ·rw [hq2] at h
   simp only [] at h
   refine we_iter (A := slices_insertionSortCmpFunc_int.A1 w0 l0 A0 c0 x1 x2 bg3_0 bg3_1 lg3_1 Ag3_1 cg3_1 LT z1) (B := slices_insertionSortCmpFunc_int.B1 w0 l0 A0 c0 x1 x2 bg3_0 bg3_1 lg3_1 Ag3_1 cg3_1 LT z1) hq2 (fun a hF => ⟨hLio1, hS8, hF.weaken ea⟩) (fun s o hf a w hA Q hQ => slices_insertionSortCmpFunc_int_r1 K w0 l0 A0 c0 x1 x2 bg3_0 bg3_1 lg3_1 Ag3_1 cg3_1 LT hRg3_1 hLg3_1 z1 m1 hLio1 hc1 s o hf a w hA Q hQ) ?_
   rintro _ a w1 _ ⟨rfl, hb⟩
   obtain rfl := si h
   exact hQ _ _ _ (Outs.out nofun (Exits.on ⟨rfl, hb⟩))
 ·rw [if_neg hc1] at h
  refine wk 14 (decide (z1 < x2)) false (decide_eq_false hc1) ?_
  refine we_false (by kernel_rfl) ?_
  have hS37 := hS.bring 3 rfl
  have hS38 := hS37.bring 3 rfl
  have hS39 := hS38.bring 3 rfl
  have hS40 := hS39.bring 3 rfl
  obtain rfl := si h
  exact we_exit fun a hF => hQ _ _ _ (Outs.out nofun (Exits.here ⟨hLio1, hS40, hF.weaken ea⟩))
theorem slices_insertionSortCmpFunc_int_ok (K : Nat) (l0 : List Int) (A0 : Option Addr) (c0 : Nat) (x1 : Int) (x2 : Int) (bg3_0 : Nat) (bg3_1 : Nat) (lg3_1 : List STask) (Ag3_1 : Option Addr) (cg3_1 : Nat) (w0 wE : World) (LT : List Own) (hS : St w0 wE [Own.of (.slice A0 l0.length c0) 3 l0, Own.blk bg3_0 (.cells #[.func (.func 82) #[] #[]] 80 (0, 0)), Own.blk bg3_1 (.cells #[.slice Ag3_1 lg3_1.length cg3_1] 40 (0, 0)), Own.all LT]) (hRg3_1 : RdL w0 Ag3_1 lg3_1) (hLg3_1 : lg3_1.length ≤ cg3_1) (r : List Int) (h : slices_insertionSortCmpFunc_int.f K l0 x1 x2 lg3_1 = some r) :
  Calls Tryd.prog 108 #[(.slice A0 l0.length c0), vI x1, vI x2, .func (.func 101) #[] #[pP bg3_0 0, pP bg3_1 0]] wE (slices_insertionSortCmpFunc_int.Post w0 l0 A0 c0 x1 x2 bg3_0 bg3_1 lg3_1 Ag3_1 cg3_1 LT r) := by
 unfold slices_insertionSortCmpFunc_int.f at h
 refine calls_enter (n := 53) (args := [(.slice A0 l0.length c0), vI x1, vI x2, .func (.func 101) #[] #[pP bg3_0 0, pP bg3_1 0]]) (fn := Tryd.f108) rfl rfl rfl rfl ?_
 show WE _ _ _ _ [(0, (.slice A0 l0.length c0)), (1, vI x1), (2, vI x2), (3, .func (.func 101) #[] #[pP bg3_0 0, pP bg3_1 0])] _
 refine ws fun K1 hK1 => ?_
 refine wr [(0, 0), (1, 0), (2, 0)] ?_
 refine gb0 [0, 1, 2] [(8, vI (IntKind.i64.wrap (x1 + 1))), (11, vI (IntKind.i64.wrap (x1 + 1))), (10, vI x1)] ?_
 refine gn hK1 ?_
 refine we_block ?_
 have hS1 := hS.bring 3 rfl
 have hS2 := hS1.bring 1 rfl
 have hS3 := hS2.bring 3 rfl
 have hS4 := hS3.bring 3 rfl
 rcases hq3 : iter (slices_insertionSortCmpFunc_int.r0 K x1 x2 lg3_1) K (IntKind.i64.wrap (x1 + 1), l0) with _ | (m6 | rr2)
 ·rw [hq3] at h; cases h
 ·rw [hq3] at h
  simp only [] at h
  refine we_iter (A := slices_insertionSortCmpFunc_int.A0 w0 l0 A0 c0 x1 x2 bg3_0 bg3_1 lg3_1 Ag3_1 cg3_1 LT) (B := slices_insertionSortCmpFunc_int.B0 w0 l0 A0 c0 x1 x2 bg3_0 bg3_1 lg3_1 Ag3_1 cg3_1 LT) hq3 (fun a hF => ⟨rfl, hS4, hF.weaken ea⟩) (fun s o hf a w hA Q hQ => slices_insertionSortCmpFunc_int_r0 K w0 l0 A0 c0 x1 x2 bg3_0 bg3_1 lg3_1 Ag3_1 cg3_1 LT hRg3_1 hLg3_1 s o hf a w hA Q hQ) ?_
  rintro _ a w5 _ ⟨rfl, hRz2, hS41, hF⟩
  replace hS41 : St w0 w5 [Own.blk bg3_0 (.cells #[.func (.func 82) #[] #[]] 80 (0, 0)), Own.blk bg3_1 (.cells #[.slice Ag3_1 lg3_1.length cg3_1] 40 (0, 0)), Own.of (.slice A0 m6.length c0) 3 m6, Own.all LT] := hS41
  have hS42 := hS41.bring 3 rfl
  have hS43 := hS42.bring 2 rfl
  have hS44 := hS43.bring 2 rfl
  have hS45 := hS44.bring 3 rfl
  obtain rfl := si h
  exact (pe0 [] [] ⟨rfl, hRz2, hS45⟩) a hF
 ·rw [hq3] at h
  simp only [] at h
  refine we_iter (A := slices_insertionSortCmpFunc_int.A0 w0 l0 A0 c0 x1 x2 bg3_0 bg3_1 lg3_1 Ag3_1 cg3_1 LT) (B := slices_insertionSortCmpFunc_int.B0 w0 l0 A0 c0 x1 x2 bg3_0 bg3_1 lg3_1 Ag3_1 cg3_1 LT) hq3 (fun a hF => ⟨rfl, hS4, hF.weaken ea⟩) (fun s o hf a w hA Q hQ => slices_insertionSortCmpFunc_int_r0 K w0 l0 A0 c0 x1 x2 bg3_0 bg3_1 lg3_1 Ag3_1 cg3_1 LT hRg3_1 hLg3_1 s o hf a w hA Q hQ) ?_
  rintro _ a w1 _ ⟨rfl, hb⟩
  obtain rfl := si h
  exact hb

/-! slices.swapRangeCmpFunc[int] -/
abbrev slices_swapRangeCmpFunc_int.Post (w0 : World) (l0 : List Int) (A0 : Option Addr) (c0 : Nat) (x1 : Int) (x2 : Int) (x3 : Int) (bg4_0 : Nat) (bg4_1 : Nat) (lg4_1 : List STask) (Ag4_1 : Option Addr) (cg4_1 : Nat) (LT : List Own) (r : List Int) (e : Ending) (w : World) : Prop := e = .returned (.tuple #[]) ∧ l0.length = r.length ∧ St w0 w [Own.of (.slice A0 r.length c0) 3 r, Own.blk bg4_0 (.cells #[.func (.func 82) #[] #[]] 80 (0, 0)), Own.blk bg4_1 (.cells #[.slice Ag4_1 lg4_1.length cg4_1] 40 (0, 0)), Own.all LT]
def slices_swapRangeCmpFunc_int.r0 (x1 : Int) (x2 : Int) (x3 : Int) : Int × (List Int) → Option ((Int × (List Int)) ⊕ ((List Int) ⊕ (List Int)))
 | (z1, m1) =>
  if z1 < x3 then
   if 0 ≤ (IntKind.i64.wrap (x2 + z1)) then
    match m1[(IntKind.i64.wrap (x2 + z1)).toNat]? with
    | none => none
    | some e1 =>
     if 0 ≤ (IntKind.i64.wrap (x1 + z1)) then
      match m1[(IntKind.i64.wrap (x1 + z1)).toNat]? with
      | none => none
      | some e2 =>
       match (m1.set ((IntKind.i64.wrap (x1 + z1)).toNat) e1)[(IntKind.i64.wrap (x2 + z1)).toNat]? with
       | none => none
       | some e3 =>
        some (.inl (IntKind.i64.wrap (z1 + 1), ((m1.set ((IntKind.i64.wrap (x1 + z1)).toNat) e1).set ((IntKind.i64.wrap (x2 + z1)).toNat) e2)))
     else
      none
   else
    none
  else
   some (.inr (.inl m1))
def slices_swapRangeCmpFunc_int.f (K : Nat) (l0 : List Int) (x1 : Int) (x2 : Int) (x3 : Int) (lg4_1 : List STask) : Option (List Int) :=
 match iter (slices_swapRangeCmpFunc_int.r0 x1 x2 x3) K (0, l0) with
 | none => none
 | some (.inl m3) =>
  some m3
 | some (.inr rr1) =>
  some rr1
abbrev slices_swapRangeCmpFunc_int.A0 (w0 : World) (l0 : List Int) (A0 : Option Addr) (c0 : Nat) (x1 : Int) (x2 : Int) (x3 : Int) (bg4_0 : Nat) (bg4_1 : Nat) (lg4_1 : List STask) (Ag4_1 : Option Addr) (cg4_1 : Nat) (LT : List Own) : (Int × (List Int)) → Act → World → Prop := fun (s : Int × (List Int)) a w => l0.length = s.2.length ∧ St w0 w [Own.blk bg4_0 (.cells #[.func (.func 82) #[] #[]] 80 (0, 0)), Own.blk bg4_1 (.cells #[.slice Ag4_1 lg4_1.length cg4_1] 40 (0, 0)), Own.of (.slice A0 s.2.length c0) 3 s.2, Own.all LT] ∧ Frm 38 a [(0, (.slice A0 s.2.length c0)), (1, vI x1), (2, vI x2), (3, vI x3), (4, .func (.func 101) #[] #[pP bg4_0 0, pP bg4_1 0]), (10, vI s.1)]
abbrev slices_swapRangeCmpFunc_int.B0 (w0 : World) (l0 : List Int) (A0 : Option Addr) (c0 : Nat) (x1 : Int) (x2 : Int) (x3 : Int) (bg4_0 : Nat) (bg4_1 : Nat) (lg4_1 : List STask) (Ag4_1 : Option Addr) (cg4_1 : Nat) (LT : List Own) : ((List Int) ⊕ (List Int)) → Exit → Act → World → Prop := Exits 0 (fun (s : (List Int)) a w => l0.length = s.length ∧ St w0 w [Own.blk bg4_0 (.cells #[.func (.func 82) #[] #[]] 80 (0, 0)), Own.blk bg4_1 (.cells #[.slice Ag4_1 lg4_1.length cg4_1] 40 (0, 0)), Own.of (.slice A0 s.length c0) 3 s, Own.all LT] ∧ Frm 38 a [(0, (.slice A0 s.length c0)), (4, .func (.func 101) #[] #[pP bg4_0 0, pP bg4_1 0])]) (Rets Tryd.prog Tryd.f128 (slices_swapRangeCmpFunc_int.Post w0 l0 A0 c0 x1 x2 x3 bg4_0 bg4_1 lg4_1 Ag4_1 cg4_1 LT))
theorem slices_swapRangeCmpFunc_int_r0 (K : Nat) (w0 : World) (l0 : List Int) (A0 : Option Addr) (c0 : Nat) (x1 : Int) (x2 : Int) (x3 : Int) (bg4_0 : Nat) (bg4_1 : Nat) (lg4_1 : List STask) (Ag4_1 : Option Addr) (cg4_1 : Nat) (LT : List Own) (hRg4_1 : RdL w0 Ag4_1 lg4_1) (hLg4_1 : lg4_1.length ≤ cg4_1) (s : Int × (List Int)) (o : (Int × (List Int)) ⊕ ((List Int) ⊕ (List Int))) (h : slices_swapRangeCmpFunc_int.r0 x1 x2 x3 s = some o) (a : Act) (w : World) (hA : slices_swapRangeCmpFunc_int.A0 w0 l0 A0 c0 x1 x2 x3 bg4_0 bg4_1 lg4_1 Ag4_1 cg4_1 LT s a w) (Q : Exit → Act → World → Prop) (hQ : ∀ x a w, Outs (slices_swapRangeCmpFunc_int.A0 w0 l0 A0 c0 x1 x2 x3 bg4_0 bg4_1 lg4_1 Ag4_1 cg4_1 LT) (slices_swapRangeCmpFunc_int.B0 w0 l0 A0 c0 x1 x2 x3 bg4_0 bg4_1 lg4_1 Ag4_1 cg4_1 LT) o x a w → Q x a w) : (subF Tryd.f128 [1, 0, 0]).wp Tryd.prog Q a w := by
 obtain ⟨z1, m1⟩ := s
 obtain ⟨hLio1, hS, hF⟩ := hA
 replace hS : St w0 w [Own.blk bg4_0 (.cells #[.func (.func 82) #[] #[]] 80 (0, 0)), Own.blk bg4_1 (.cells #[.slice Ag4_1 lg4_1.length cg4_1] 40 (0, 0)), Own.of (.slice A0 m1.length c0) 3 m1, Own.all LT] := hS
 simp only [slices_swapRangeCmpFunc_int.r0] at h
 refine (?_ : WE Tryd.prog 38 (subF Tryd.f128 [1, 0, 0]) Q [(0, (.slice A0 m1.length c0)), (1, vI x1), (2, vI x2), (3, vI x3), (4, .func (.func 101) #[] #[pP bg4_0 0, pP bg4_1 0]), (10, vI z1)] w) a hF
 clear hF a
 refine ws fun K2 hK2 => ?_
 refine ws fun K3 hK3 => ?_
 refine wr [(0, 0), (1, 0), (2, 0)] ?_
 refine gb0 [0, 1, 2] [(13, .bool (decide (z1 < x3))), (12, vI x3), (11, vI z1)] ?_
 refine gn hK3 ?_
 by_cases hc1 : z1 < x3
 ·rw [if_pos hc1] at h
  refine wk 13 (decide (z1 < x3)) true (decide_eq_true hc1) ?_
  refine we_true (by kernel_rfl) ?_
  refine we_skip fun a hF => hK2 _ _ ?_ a hF
  refine ws fun K4 hK4 => ?_
  refine we_block ?_
  refine we_orders2 (by kernel_rfl) [(13, [⟨blkOf A0, offOf A0 + ((IntKind.i64.wrap (x2 + z1)).toNat) * 1, none⟩]), (19, [⟨blkOf A0, offOf A0 + ((IntKind.i64.wrap (x1 + z1)).toNat) * 1, none⟩])] (.vals [0] (.vals [1] (.vals [2] (.vals [3] (.vals [4] (.vals [5] (.vals [6] (.vals [7] (.vals [8] (.vals [9] (.vals [10] (.vals [11] (.vals [12] (.vals [13] (.vals [14] (.vals [15] (.vals [16] (.vals [17] (.vals [18] (.vals [19] (.vals [20] (.alt 21 2 (.vals [22] (.alt 23 2 .fin .nomore)) .nomore)))))))))))))))))))))) (by kernel_rfl) ?_
  have hS5 := hS.drew
  refine go2_batch [0, 1, 2, 3, 4, 5, 6, 7, 8, 9, 10, 11] (ans := []) (vs := [(27, vI (IntKind.i64.wrap (x2 + z1))), (26, vI z1), (25, vI x2), (24, (.slice A0 m1.length c0)), (23, vI (IntKind.i64.wrap (x2 + z1))), (22, vI z1), (21, vI x2), (20, (.slice A0 m1.length c0)), (19, vI (IntKind.i64.wrap (x1 + z1))), (18, vI z1), (17, vI x1), (16, (.slice A0 m1.length c0))]) (l := []) (by kernel_rfl) trivial mem_nil ?_
  by_cases hc2 : 0 ≤ (IntKind.i64.wrap (x2 + z1))
  ·rw [if_pos hc2] at h
   rcases hx1 : m1[(IntKind.i64.wrap (x2 + z1)).toNat]? with _ | e1
   ·rw [hx1] at h; cases h
   rw [hx1] at h
   simp only [] at h
   refine go2_index (d := 28) (ty := 0) (t := 23) (el := 3) (sz := 1) (m := m1.length) (c := c0) (x := (.tmp 24)) (y := (.tmp 27)) (A := A0) (k' := .i64) (j := (IntKind.i64.wrap (x2 + z1))) (jn := ((IntKind.i64.wrap (x2 + z1)).toNat)) (b0 := blkOf A0) (o0 := offOf A0) (by kernel_rfl) (by kernel_rfl) (by kernel_rfl) (by kernel_rfl) (by kernel_rfl) ((hS5.rdAt 2 rfl).eqSome (pos_of_get hx1)) (Int.toNat_of_nonneg hc2).symm (lt_of_get hx1) ?_
   refine go2_batch [13] (ans := [.val (vI e1)]) (vs := [(29, vI e1)]) (l := [.loaded ⟨blkOf A0, offOf A0 + ((IntKind.i64.wrap (x2 + z1)).toNat) * 1, none⟩ (vI e1)]) (by kernel_rfl) ⟨RdL.cell (j := 0) (hS5.rdAt 2 rfl) hx1 rfl, trivial⟩ (mem_one (by kernel_rfl)) ?_
   refine go2_batch [14, 15, 16, 17] (ans := []) (vs := [(33, vI (IntKind.i64.wrap (x1 + z1))), (32, vI z1), (31, vI x1), (30, (.slice A0 m1.length c0))]) (l := []) (by kernel_rfl) trivial mem_nil ?_
   by_cases hc3 : 0 ≤ (IntKind.i64.wrap (x1 + z1))
   ·rw [if_pos hc3] at h
    rcases hx2 : m1[(IntKind.i64.wrap (x1 + z1)).toNat]? with _ | e2
    ·rw [hx2] at h; cases h
    rw [hx2] at h
    simp only [] at h
    refine go2_index (d := 34) (ty := 0) (t := 23) (el := 3) (sz := 1) (m := m1.length) (c := c0) (x := (.tmp 30)) (y := (.tmp 33)) (A := A0) (k' := .i64) (j := (IntKind.i64.wrap (x1 + z1))) (jn := ((IntKind.i64.wrap (x1 + z1)).toNat)) (b0 := blkOf A0) (o0 := offOf A0) (by kernel_rfl) (by kernel_rfl) (by kernel_rfl) (by kernel_rfl) (by kernel_rfl) ((hS5.rdAt 2 rfl).eqSome (pos_of_get hx2)) (Int.toNat_of_nonneg hc3).symm (lt_of_get hx2) ?_
    refine go2_batch [19] (ans := [.val (vI e2)]) (vs := [(35, vI e2)]) (l := [.loaded ⟨blkOf A0, offOf A0 + ((IntKind.i64.wrap (x1 + z1)).toNat) * 1, none⟩ (vI e2)]) (by kernel_rfl) ⟨RdL.cell (j := 0) (hS5.rdAt 2 rfl) hx2 rfl, trivial⟩ (mem_one (by kernel_rfl)) ?_
    refine go2_index (d := 36) (ty := 0) (t := 23) (el := 3) (sz := 1) (m := m1.length) (c := c0) (x := (.tmp 16)) (y := (.tmp 19)) (A := A0) (k' := .i64) (j := (IntKind.i64.wrap (x1 + z1))) (jn := ((IntKind.i64.wrap (x1 + z1)).toNat)) (b0 := blkOf A0) (o0 := offOf A0) (by kernel_rfl) (by kernel_rfl) (by kernel_rfl) (by kernel_rfl) (by kernel_rfl) ((hS5.rdAt 2 rfl).eqSome (pos_of_get hx2)) (Int.toNat_of_nonneg hc3).symm (lt_of_get hx2) ?_
    refine go_alt2 (fun KK hKK => ?_) ?_
    ·have hS6 := hS5.bring 2 rfl
     refine ge_seti (α := Int) (A := A0) (nn := m1.length) (c := c0) (t := 3) (l := m1) (x := e2) (x' := e1) (jn := ((IntKind.i64.wrap (x1 + z1)).toNat)) (j := 0) (vs := [vI e1]) (l' := [.stored ⟨blkOf A0, offOf A0 + ((IntKind.i64.wrap (x1 + z1)).toNat) * 1, none⟩ (vI e1)]) hS6 (by kernel_rfl) (by kernel_rfl) hx2 rfl rfl rfl fun w1 hS7 => ?_
     have hS8 : St w0 w1 [Own.of (.slice A0 m1.length c0) 3 (m1.set ((IntKind.i64.wrap (x1 + z1)).toNat) e1), Own.blk bg4_0 (.cells #[.func (.func 82) #[] #[]] 80 (0, 0)), Own.blk bg4_1 (.cells #[.slice Ag4_1 lg4_1.length cg4_1] 40 (0, 0)), Own.all LT] := hS7
     have hE1 : m1.length = (m1.set ((IntKind.i64.wrap (x1 + z1)).toNat) e1).length := hS8.lenAt 0 rfl
     have hS9 : St w0 w1 [Own.of (.slice A0 (m1.set ((IntKind.i64.wrap (x1 + z1)).toNat) e1).length c0) 3 (m1.set ((IntKind.i64.wrap (x1 + z1)).toNat) e1), Own.blk bg4_0 (.cells #[.func (.func 82) #[] #[]] 80 (0, 0)), Own.blk bg4_1 (.cells #[.slice Ag4_1 lg4_1.length cg4_1] 40 (0, 0)), Own.all LT] := by rw [← hE1]; exact hS8
     refine ge_same (t := 0) (v := (.slice A0 m1.length c0)) (v' := (.slice A0 (m1.set ((IntKind.i64.wrap (x1 + z1)).toNat) e1).length c0)) (by kernel_rfl) (by rw [hE1]) ?_
     refine ge_same (t := 16) (v := (.slice A0 m1.length c0)) (v' := (.slice A0 (m1.set ((IntKind.i64.wrap (x1 + z1)).toNat) e1).length c0)) (by kernel_rfl) (by rw [hE1]) ?_
     refine ge_same (t := 20) (v := (.slice A0 m1.length c0)) (v' := (.slice A0 (m1.set ((IntKind.i64.wrap (x1 + z1)).toNat) e1).length c0)) (by kernel_rfl) (by rw [hE1]) ?_
     refine ge_same (t := 24) (v := (.slice A0 m1.length c0)) (v' := (.slice A0 (m1.set ((IntKind.i64.wrap (x1 + z1)).toNat) e1).length c0)) (by kernel_rfl) (by rw [hE1]) ?_
     refine ge_same (t := 30) (v := (.slice A0 m1.length c0)) (v' := (.slice A0 (m1.set ((IntKind.i64.wrap (x1 + z1)).toNat) e1).length c0)) (by kernel_rfl) (by rw [hE1]) ?_
     refine ge_nil fun a hF => hKK _ _ (RS.of2 (l := []) (by kernel_rfl) trivial trivial) ?_ a hF
     rcases hx3 : (m1.set ((IntKind.i64.wrap (x1 + z1)).toNat) e1)[(IntKind.i64.wrap (x2 + z1)).toNat]? with _ | e3
     ·rw [hx3] at h; cases h
     rw [hx3] at h
     simp only [] at h
     refine go2_index (d := 37) (ty := 0) (t := 23) (el := 3) (sz := 1) (m := (m1.set ((IntKind.i64.wrap (x1 + z1)).toNat) e1).length) (c := c0) (x := (.tmp 20)) (y := (.tmp 23)) (A := A0) (k' := .i64) (j := (IntKind.i64.wrap (x2 + z1))) (jn := ((IntKind.i64.wrap (x2 + z1)).toNat)) (b0 := blkOf A0) (o0 := offOf A0) (by kernel_rfl) (by kernel_rfl) (by kernel_rfl) (by kernel_rfl) (by kernel_rfl) ((hS9.rdAt 0 rfl).eqSome (pos_of_get hx3)) (Int.toNat_of_nonneg hc2).symm (lt_of_get hx3) ?_
     refine go_alt2 (fun KK hKK => ?_) ?_
     ·refine ge_seti (α := Int) (A := A0) (nn := ((m1.set ((IntKind.i64.wrap (x1 + z1)).toNat) e1).length)) (c := c0) (t := 3) (l := (m1.set ((IntKind.i64.wrap (x1 + z1)).toNat) e1)) (x := e3) (x' := e2) (jn := ((IntKind.i64.wrap (x2 + z1)).toNat)) (j := 0) (vs := [vI e2]) (l' := [.stored ⟨blkOf A0, offOf A0 + ((IntKind.i64.wrap (x2 + z1)).toNat) * 1, none⟩ (vI e2)]) hS9 (by kernel_rfl) (by kernel_rfl) hx3 rfl rfl rfl fun w2 hS10 => ?_
      have hS11 : St w0 w2 [Own.of (.slice A0 (m1.set ((IntKind.i64.wrap (x1 + z1)).toNat) e1).length c0) 3 ((m1.set ((IntKind.i64.wrap (x1 + z1)).toNat) e1).set ((IntKind.i64.wrap (x2 + z1)).toNat) e2), Own.blk bg4_0 (.cells #[.func (.func 82) #[] #[]] 80 (0, 0)), Own.blk bg4_1 (.cells #[.slice Ag4_1 lg4_1.length cg4_1] 40 (0, 0)), Own.all LT] := hS10
      have hE2 : (m1.set ((IntKind.i64.wrap (x1 + z1)).toNat) e1).length = ((m1.set ((IntKind.i64.wrap (x1 + z1)).toNat) e1).set ((IntKind.i64.wrap (x2 + z1)).toNat) e2).length := hS11.lenAt 0 rfl
      have hS12 : St w0 w2 [Own.of (.slice A0 ((m1.set ((IntKind.i64.wrap (x1 + z1)).toNat) e1).set ((IntKind.i64.wrap (x2 + z1)).toNat) e2).length c0) 3 ((m1.set ((IntKind.i64.wrap (x1 + z1)).toNat) e1).set ((IntKind.i64.wrap (x2 + z1)).toNat) e2), Own.blk bg4_0 (.cells #[.func (.func 82) #[] #[]] 80 (0, 0)), Own.blk bg4_1 (.cells #[.slice Ag4_1 lg4_1.length cg4_1] 40 (0, 0)), Own.all LT] := by rw [← hE2]; exact hS11
      refine ge_same (t := 0) (v := (.slice A0 (m1.set ((IntKind.i64.wrap (x1 + z1)).toNat) e1).length c0)) (v' := (.slice A0 ((m1.set ((IntKind.i64.wrap (x1 + z1)).toNat) e1).set ((IntKind.i64.wrap (x2 + z1)).toNat) e2).length c0)) (by kernel_rfl) (by rw [hE2]) ?_
      refine ge_same (t := 16) (v := (.slice A0 (m1.set ((IntKind.i64.wrap (x1 + z1)).toNat) e1).length c0)) (v' := (.slice A0 ((m1.set ((IntKind.i64.wrap (x1 + z1)).toNat) e1).set ((IntKind.i64.wrap (x2 + z1)).toNat) e2).length c0)) (by kernel_rfl) (by rw [hE2]) ?_
      refine ge_same (t := 20) (v := (.slice A0 (m1.set ((IntKind.i64.wrap (x1 + z1)).toNat) e1).length c0)) (v' := (.slice A0 ((m1.set ((IntKind.i64.wrap (x1 + z1)).toNat) e1).set ((IntKind.i64.wrap (x2 + z1)).toNat) e2).length c0)) (by kernel_rfl) (by rw [hE2]) ?_
      refine ge_same (t := 24) (v := (.slice A0 (m1.set ((IntKind.i64.wrap (x1 + z1)).toNat) e1).length c0)) (v' := (.slice A0 ((m1.set ((IntKind.i64.wrap (x1 + z1)).toNat) e1).set ((IntKind.i64.wrap (x2 + z1)).toNat) e2).length c0)) (by kernel_rfl) (by rw [hE2]) ?_
      refine ge_same (t := 30) (v := (.slice A0 (m1.set ((IntKind.i64.wrap (x1 + z1)).toNat) e1).length c0)) (v' := (.slice A0 ((m1.set ((IntKind.i64.wrap (x1 + z1)).toNat) e1).set ((IntKind.i64.wrap (x2 + z1)).toNat) e2).length c0)) (by kernel_rfl) (by rw [hE2]) ?_
      refine ge_nil fun a hF => hKK _ _ (RS.of2 (l := []) (by kernel_rfl) trivial trivial) ?_ a hF
      refine go_fin2 fun a hF => hK4 _ _ ?_ a hF
      refine wr [(0, 0), (1, 0), (2, 0)] ?_
      refine gb0 [0, 1, 2] [(10, vI (IntKind.i64.wrap (z1 + 1))), (15, vI (IntKind.i64.wrap (z1 + 1))), (14, vI z1)] ?_
      have hS13 := hS12.bring 3 rfl
      have hS14 := hS13.bring 1 rfl
      have hS15 := hS14.bring 3 rfl
      have hS16 := hS15.bring 3 rfl
      obtain rfl := si h
      exact ge_nil fun a hF => hQ _ _ _ (Outs.again ⟨(Eq.trans hLio1 (by simp only [List.length_set])), hS16, hF.weaken ea⟩)
     exact go_nomore2
    exact go_nomore2
   ·rw [if_neg hc3] at h
    cases h
  ·rw [if_neg hc2] at h
   cases h
 ·rw [if_neg hc1] at h
  refine wk 13 (decide (z1 < x3)) false (decide_eq_false hc1) ?_
  refine we_false (by kernel_rfl) ?_
  have hS17 := hS.bring 3 rfl
  have hS18 := hS17.bring 3 rfl
  have hS19 := hS18.bring 3 rfl
  have hS20 := hS19.bring 3 rfl
  obtain rfl := si h
  exact we_exit fun a hF => hQ _ _ _ (Outs.out nofun (Exits.here ⟨hLio1, hS20, hF.weaken ea⟩))
theorem slices_swapRangeCmpFunc_int_ok (K : Nat) (l0 : List Int) (A0 : Option Addr) (c0 : Nat) (x1 : Int) (x2 : Int) (x3 : Int) (bg4_0 : Nat) (bg4_1 : Nat) (lg4_1 : List STask) (Ag4_1 : Option Addr) (cg4_1 : Nat) (w0 wE : World) (LT : List Own) (hS : St w0 wE [Own.of (.slice A0 l0.length c0) 3 l0, Own.blk bg4_0 (.cells #[.func (.func 82) #[] #[]] 80 (0, 0)), Own.blk bg4_1 (.cells #[.slice Ag4_1 lg4_1.length cg4_1] 40 (0, 0)), Own.all LT]) (hRg4_1 : RdL w0 Ag4_1 lg4_1) (hLg4_1 : lg4_1.length ≤ cg4_1) (r : List Int) (h : slices_swapRangeCmpFunc_int.f K l0 x1 x2 x3 lg4_1 = some r) :
  Calls Tryd.prog 128 #[(.slice A0 l0.length c0), vI x1, vI x2, vI x3, .func (.func 101) #[] #[pP bg4_0 0, pP bg4_1 0]] wE (slices_swapRangeCmpFunc_int.Post w0 l0 A0 c0 x1 x2 x3 bg4_0 bg4_1 lg4_1 Ag4_1 cg4_1 LT r) := by
 unfold slices_swapRangeCmpFunc_int.f at h
 refine calls_enter (n := 38) (args := [(.slice A0 l0.length c0), vI x1, vI x2, vI x3, .func (.func 101) #[] #[pP bg4_0 0, pP bg4_1 0]]) (fn := Tryd.f128) rfl rfl rfl rfl ?_
 show WE _ _ _ _ [(0, (.slice A0 l0.length c0)), (1, vI x1), (2, vI x2), (3, vI x3), (4, .func (.func 101) #[] #[pP bg4_0 0, pP bg4_1 0])] _
 refine ws fun K1 hK1 => ?_
 refine wr [(0, 0)] ?_
 refine gb0 [0] [(10, vI 0)] ?_
 refine gn hK1 ?_
 refine we_block ?_
 have hS1 := hS.bring 3 rfl
 have hS2 := hS1.bring 1 rfl
 have hS3 := hS2.bring 3 rfl
 have hS4 := hS3.bring 3 rfl
 rcases hq1 : iter (slices_swapRangeCmpFunc_int.r0 x1 x2 x3) K (0, l0) with _ | (m3 | rr1)
 ·rw [hq1] at h; cases h
 ·rw [hq1] at h
  simp only [] at h
  refine we_iter (A := slices_swapRangeCmpFunc_int.A0 w0 l0 A0 c0 x1 x2 x3 bg4_0 bg4_1 lg4_1 Ag4_1 cg4_1 LT) (B := slices_swapRangeCmpFunc_int.B0 w0 l0 A0 c0 x1 x2 x3 bg4_0 bg4_1 lg4_1 Ag4_1 cg4_1 LT) hq1 (fun a hF => ⟨rfl, hS4, hF.weaken ea⟩) (fun s o hf a w hA Q hQ => slices_swapRangeCmpFunc_int_r0 K w0 l0 A0 c0 x1 x2 x3 bg4_0 bg4_1 lg4_1 Ag4_1 cg4_1 LT hRg4_1 hLg4_1 s o hf a w hA Q hQ) ?_
  rintro _ a w3 _ ⟨rfl, hRz1, hS21, hF⟩
  replace hS21 : St w0 w3 [Own.blk bg4_0 (.cells #[.func (.func 82) #[] #[]] 80 (0, 0)), Own.blk bg4_1 (.cells #[.slice Ag4_1 lg4_1.length cg4_1] 40 (0, 0)), Own.of (.slice A0 m3.length c0) 3 m3, Own.all LT] := hS21
  have hS22 := hS21.bring 3 rfl
  have hS23 := hS22.bring 2 rfl
  have hS24 := hS23.bring 2 rfl
  have hS25 := hS24.bring 3 rfl
  obtain rfl := si h
  exact (pe0 [] [] ⟨rfl, hRz1, hS25⟩) a hF
 ·rw [hq1] at h
  simp only [] at h
  refine we_iter (A := slices_swapRangeCmpFunc_int.A0 w0 l0 A0 c0 x1 x2 x3 bg4_0 bg4_1 lg4_1 Ag4_1 cg4_1 LT) (B := slices_swapRangeCmpFunc_int.B0 w0 l0 A0 c0 x1 x2 x3 bg4_0 bg4_1 lg4_1 Ag4_1 cg4_1 LT) hq1 (fun a hF => ⟨rfl, hS4, hF.weaken ea⟩) (fun s o hf a w hA Q hQ => slices_swapRangeCmpFunc_int_r0 K w0 l0 A0 c0 x1 x2 x3 bg4_0 bg4_1 lg4_1 Ag4_1 cg4_1 LT hRg4_1 hLg4_1 s o hf a w hA Q hQ) ?_
  rintro _ a w1 _ ⟨rfl, hb⟩
  obtain rfl := si h
  exact hb

/-! slices.rotateCmpFunc[int] -/
abbrev slices_rotateCmpFunc_int.Post (w0 : World) (l0 : List Int) (A0 : Option Addr) (c0 : Nat) (x1 : Int) (x2 : Int) (x3 : Int) (bg4_0 : Nat) (bg4_1 : Nat) (lg4_1 : List STask) (Ag4_1 : Option Addr) (cg4_1 : Nat) (LT : List Own) (r : List Int) (e : Ending) (w : World) : Prop := e = .returned (.tuple #[]) ∧ l0.length = r.length ∧ St w0 w [Own.of (.slice A0 r.length c0) 3 r, Own.blk bg4_0 (.cells #[.func (.func 82) #[] #[]] 80 (0, 0)), Own.blk bg4_1 (.cells #[.slice Ag4_1 lg4_1.length cg4_1] 40 (0, 0)), Own.all LT]
def slices_rotateCmpFunc_int.r0 (K : Nat) (x2 : Int) (lg4_1 : List STask) : Int × Int × (List Int) → Option ((Int × Int × (List Int)) ⊕ ((Int × (List Int)) ⊕ (List Int)))
 | (z1, z2, m1) =>
  if z1 = z2 then
   some (.inr (.inl (z1, m1)))
  else
   if z1 > z2 then
    match slices_swapRangeCmpFunc_int.f K m1 (IntKind.i64.wrap (x2 - z1)) x2 z2 lg4_1 with
    | none => none
    | some r1 =>
     some (.inl (IntKind.i64.wrap (z1 - z2), z2, r1))
   else
    match slices_swapRangeCmpFunc_int.f K m1 (IntKind.i64.wrap (x2 - z1)) (IntKind.i64.wrap ((IntKind.i64.wrap (x2 + z2)) - z1)) z1 lg4_1 with
    | none => none
    | some r2 =>
     some (.inl (z1, IntKind.i64.wrap (z2 - z1), r2))
def slices_rotateCmpFunc_int.f (K : Nat) (l0 : List Int) (x1 : Int) (x2 : Int) (x3 : Int) (lg4_1 : List STask) : Option (List Int) :=
 match iter (slices_rotateCmpFunc_int.r0 K x2 lg4_1) K (IntKind.i64.wrap (x2 - x1), IntKind.i64.wrap (x3 - x2), l0) with
 | none => none
 | some (.inl (z4, m3)) =>
  match slices_swapRangeCmpFunc_int.f K m3 (IntKind.i64.wrap (x2 - z4)) x2 z4 lg4_1 with
  | none => none
  | some r3 =>
   some r3
 | some (.inr rr1) =>
  some rr1
abbrev slices_rotateCmpFunc_int.A0 (w0 : World) (l0 : List Int) (A0 : Option Addr) (c0 : Nat) (x2 : Int) (bg4_0 : Nat) (bg4_1 : Nat) (lg4_1 : List STask) (Ag4_1 : Option Addr) (cg4_1 : Nat) (LT : List Own) : (Int × Int × (List Int)) → Act → World → Prop := fun (s : Int × Int × (List Int)) a w => l0.length = s.2.2.length ∧ St w0 w [Own.blk bg4_0 (.cells #[.func (.func 82) #[] #[]] 80 (0, 0)), Own.blk bg4_1 (.cells #[.slice Ag4_1 lg4_1.length cg4_1] 40 (0, 0)), Own.of (.slice A0 s.2.2.length c0) 3 s.2.2, Own.all LT] ∧ Frm 58 a [(0, (.slice A0 s.2.2.length c0)), (2, vI x2), (4, .func (.func 101) #[] #[pP bg4_0 0, pP bg4_1 0]), (10, vI s.1), (11, vI s.2.1)]
abbrev slices_rotateCmpFunc_int.B0 (w0 : World) (l0 : List Int) (A0 : Option Addr) (c0 : Nat) (x1 : Int) (x2 : Int) (x3 : Int) (bg4_0 : Nat) (bg4_1 : Nat) (lg4_1 : List STask) (Ag4_1 : Option Addr) (cg4_1 : Nat) (LT : List Own) : ((Int × (List Int)) ⊕ (List Int)) → Exit → Act → World → Prop := Exits 0 (fun (s : Int × (List Int)) a w => l0.length = s.2.length ∧ St w0 w [Own.blk bg4_0 (.cells #[.func (.func 82) #[] #[]] 80 (0, 0)), Own.blk bg4_1 (.cells #[.slice Ag4_1 lg4_1.length cg4_1] 40 (0, 0)), Own.of (.slice A0 s.2.length c0) 3 s.2, Own.all LT] ∧ Frm 58 a [(0, (.slice A0 s.2.length c0)), (2, vI x2), (4, .func (.func 101) #[] #[pP bg4_0 0, pP bg4_1 0]), (10, vI s.1)]) (Rets Tryd.prog Tryd.f126 (slices_rotateCmpFunc_int.Post w0 l0 A0 c0 x1 x2 x3 bg4_0 bg4_1 lg4_1 Ag4_1 cg4_1 LT))
theorem slices_rotateCmpFunc_int_r0 (K : Nat) (w0 : World) (l0 : List Int) (A0 : Option Addr) (c0 : Nat) (x1 : Int) (x2 : Int) (x3 : Int) (bg4_0 : Nat) (bg4_1 : Nat) (lg4_1 : List STask) (Ag4_1 : Option Addr) (cg4_1 : Nat) (LT : List Own) (hRg4_1 : RdL w0 Ag4_1 lg4_1) (hLg4_1 : lg4_1.length ≤ cg4_1) (s : Int × Int × (List Int)) (o : (Int × Int × (List Int)) ⊕ ((Int × (List Int)) ⊕ (List Int))) (h : slices_rotateCmpFunc_int.r0 K x2 lg4_1 s = some o) (a : Act) (w : World) (hA : slices_rotateCmpFunc_int.A0 w0 l0 A0 c0 x2 bg4_0 bg4_1 lg4_1 Ag4_1 cg4_1 LT s a w) (Q : Exit → Act → World → Prop) (hQ : ∀ x a w, Outs (slices_rotateCmpFunc_int.A0 w0 l0 A0 c0 x2 bg4_0 bg4_1 lg4_1 Ag4_1 cg4_1 LT) (slices_rotateCmpFunc_int.B0 w0 l0 A0 c0 x1 x2 x3 bg4_0 bg4_1 lg4_1 Ag4_1 cg4_1 LT) o x a w → Q x a w) : (subF Tryd.f126 [1, 1, 0, 0, 0]).wp Tryd.prog Q a w := by
 obtain ⟨z1, z2, m1⟩ := s
 obtain ⟨hLio1, hS, hF⟩ := hA
 replace hS : St w0 w [Own.blk bg4_0 (.cells #[.func (.func 82) #[] #[]] 80 (0, 0)), Own.blk bg4_1 (.cells #[.slice Ag4_1 lg4_1.length cg4_1] 40 (0, 0)), Own.of (.slice A0 m1.length c0) 3 m1, Own.all LT] := hS
 simp only [slices_rotateCmpFunc_int.r0] at h
 refine (?_ : WE Tryd.prog 58 (subF Tryd.f126 [1, 1, 0, 0, 0]) Q [(0, (.slice A0 m1.length c0)), (2, vI x2), (4, .func (.func 101) #[] #[pP bg4_0 0, pP bg4_1 0]), (10, vI z1), (11, vI z2)] w) a hF
 clear hF a
 refine ws fun K4 hK4 => ?_
 refine ws fun K5 hK5 => ?_
 refine wr [(0, 0), (1, 0), (2, 0)] ?_
 refine gb0 [0, 1, 2] [(20, .bool (z1 != z2)), (19, vI z2), (18, vI z1)] ?_
 refine gn hK5 ?_
 by_cases hc1 : z1 = z2
 ·rw [if_pos hc1] at h
  refine wk 20 (z1 != z2) false (bne_eq_false_iff_eq.2 hc1) ?_
  refine we_false (by kernel_rfl) ?_
  have hS5 := hS.bring 3 rfl
  have hS6 := hS5.bring 3 rfl
  have hS7 := hS6.bring 3 rfl
  have hS8 := hS7.bring 3 rfl
  obtain rfl := si h
  exact we_exit fun a hF => hQ _ _ _ (Outs.out nofun (Exits.here ⟨hLio1, hS8, hF.weaken ea⟩))
 ·rw [if_neg hc1] at h
  refine wk 20 (z1 != z2) true (bne_iff_ne.2 hc1) ?_
  refine we_true (by kernel_rfl) ?_
  refine we_skip fun a hF => hK4 _ _ ?_ a hF
  refine we_block ?_
  refine ws fun K6 hK6 => ?_
  refine wr [(0, 0), (1, 0), (2, 0)] ?_
  refine gb0 [0, 1, 2] [(23, .bool (decide (z1 > z2))), (22, vI z2), (21, vI z1)] ?_
  refine gn hK6 ?_
  by_cases hc2 : z1 > z2
  ·rw [if_pos hc2] at h
   refine wk 23 (decide (z1 > z2)) true (decide_eq_true hc2) ?_
   refine we_true (by kernel_rfl) ?_
   refine ws fun K7 hK7 => ?_
   refine wr [(0, 0), (1, 0), (2, 0), (3, 0), (4, 0), (5, 0), (6, 0), (7, 2)] ?_
   refine gb0 [0, 1, 2, 3, 4, 5, 6] [(30, .func (.func 101) #[] #[pP bg4_0 0, pP bg4_1 0]), (29, vI z2), (28, vI x2), (27, vI (IntKind.i64.wrap (x2 - z1))), (26, vI z1), (25, vI x2), (24, (.slice A0 m1.length c0))] ?_
   rcases hq1 : slices_swapRangeCmpFunc_int.f K m1 (IntKind.i64.wrap (x2 - z1)) x2 z2 lg4_1 with _ | r1
   ·rw [hq1] at h; cases h
   rw [hq1] at h
   simp only [] at h
   have hS9 := hS.bring 1 rfl
   have hS10 := hS9.bring 1 rfl
   have hS11 := hS10.bring 2 rfl
   have hS13 : St w0 w [Own.of (.slice A0 m1.length c0) 3 m1, Own.blk bg4_0 (.cells #[.func (.func 82) #[] #[]] 80 (0, 0)), Own.blk bg4_1 (.cells #[.slice Ag4_1 lg4_1.length cg4_1] 40 (0, 0)), Own.all [Own.all LT]] := hS11.packN 3
   refine ge_call2 (m := 0) (d := some 31) (f := 128) (args := #[.slice A0 m1.length c0, vI (IntKind.i64.wrap (x2 - z1)), vI x2, vI z2, .func (.func 101) #[] #[pP bg4_0 0, pP bg4_1 0]]) (by kernel_rfl) (slices_swapRangeCmpFunc_int_ok K m1 A0 c0 (IntKind.i64.wrap (x2 - z1)) x2 z2 bg4_0 bg4_1 lg4_1 Ag4_1 cg4_1 _ _ _ hS13 hRg4_1 hLg4_1 _ hq1) ?_
   rintro _ w1 ⟨rfl, hE1, hS12⟩
   refine ⟨_, rfl, ?_⟩
   have hS14 : St w0 w1 [Own.of (.slice A0 r1.length c0) 3 r1, Own.blk bg4_0 (.cells #[.func (.func 82) #[] #[]] 80 (0, 0)), Own.blk bg4_1 (.cells #[.slice Ag4_1 lg4_1.length cg4_1] 40 (0, 0)), Own.all LT] := hS12.unpack [Own.of (.slice A0 r1.length c0) 3 r1, Own.blk bg4_0 (.cells #[.func (.func 82) #[] #[]] 80 (0, 0)), Own.blk bg4_1 (.cells #[.slice Ag4_1 lg4_1.length cg4_1] 40 (0, 0))]
   refine ge_same (t := 0) (v := (.slice A0 m1.length c0)) (v' := (.slice A0 r1.length c0)) (by kernel_rfl) (by rw [show m1.length = r1.length from hE1]) ?_
   refine ge_same (t := 24) (v := (.slice A0 m1.length c0)) (v' := (.slice A0 r1.length c0)) (by kernel_rfl) (by rw [show m1.length = r1.length from hE1]) ?_
   have hLio3 : l0.length = r1.length := Eq.trans hLio1 hE1
   refine gn hK7 ?_
   refine wr [(0, 0), (1, 0), (2, 0), (3, 0)] ?_
   refine gb0 [0, 1, 2, 3] [(10, vI (IntKind.i64.wrap (z1 - z2))), (34, vI (IntKind.i64.wrap (z1 - z2))), (33, vI z2), (32, vI z1)] ?_
   have hS15 := hS14.bring 3 rfl
   have hS16 := hS15.bring 1 rfl
   have hS17 := hS16.bring 3 rfl
   have hS18 := hS17.bring 3 rfl
   obtain rfl := si h
   exact ge_nil fun a hF => hQ _ _ _ (Outs.again ⟨hLio3, hS18, hF.weaken ea⟩)
  ·rw [if_neg hc2] at h
   refine wk 23 (decide (z1 > z2)) false (decide_eq_false hc2) ?_
   refine we_false (by kernel_rfl) ?_
   refine ws fun K8 hK8 => ?_
   refine wr [(0, 0), (1, 0), (2, 0), (3, 0), (4, 0), (5, 0), (6, 0), (7, 0), (8, 0), (9, 0), (10, 0), (11, 2)] ?_
   refine gb0 [0, 1, 2, 3, 4, 5, 6, 7, 8, 9, 10] [(45, .func (.func 101) #[] #[pP bg4_0 0, pP bg4_1 0]), (44, vI z1), (43, vI (IntKind.i64.wrap ((IntKind.i64.wrap (x2 + z2)) - z1))), (42, vI z1), (41, vI (IntKind.i64.wrap (x2 + z2))), (40, vI z2), (39, vI x2), (38, vI (IntKind.i64.wrap (x2 - z1))), (37, vI z1), (36, vI x2), (35, (.slice A0 m1.length c0))] ?_
   rcases hq2 : slices_swapRangeCmpFunc_int.f K m1 (IntKind.i64.wrap (x2 - z1)) (IntKind.i64.wrap ((IntKind.i64.wrap (x2 + z2)) - z1)) z1 lg4_1 with _ | r2
   ·rw [hq2] at h; cases h
   rw [hq2] at h
   simp only [] at h
   have hS19 := hS.bring 1 rfl
   have hS20 := hS19.bring 1 rfl
   have hS21 := hS20.bring 2 rfl
   have hS23 : St w0 w [Own.of (.slice A0 m1.length c0) 3 m1, Own.blk bg4_0 (.cells #[.func (.func 82) #[] #[]] 80 (0, 0)), Own.blk bg4_1 (.cells #[.slice Ag4_1 lg4_1.length cg4_1] 40 (0, 0)), Own.all [Own.all LT]] := hS21.packN 3
   refine ge_call2 (m := 0) (d := some 46) (f := 128) (args := #[.slice A0 m1.length c0, vI (IntKind.i64.wrap (x2 - z1)), vI (IntKind.i64.wrap ((IntKind.i64.wrap (x2 + z2)) - z1)), vI z1, .func (.func 101) #[] #[pP bg4_0 0, pP bg4_1 0]]) (by kernel_rfl) (slices_swapRangeCmpFunc_int_ok K m1 A0 c0 (IntKind.i64.wrap (x2 - z1)) (IntKind.i64.wrap ((IntKind.i64.wrap (x2 + z2)) - z1)) z1 bg4_0 bg4_1 lg4_1 Ag4_1 cg4_1 _ _ _ hS23 hRg4_1 hLg4_1 _ hq2) ?_
   rintro _ w2 ⟨rfl, hE2, hS22⟩
   refine ⟨_, rfl, ?_⟩
   have hS24 : St w0 w2 [Own.of (.slice A0 r2.length c0) 3 r2, Own.blk bg4_0 (.cells #[.func (.func 82) #[] #[]] 80 (0, 0)), Own.blk bg4_1 (.cells #[.slice Ag4_1 lg4_1.length cg4_1] 40 (0, 0)), Own.all LT] := hS22.unpack [Own.of (.slice A0 r2.length c0) 3 r2, Own.blk bg4_0 (.cells #[.func (.func 82) #[] #[]] 80 (0, 0)), Own.blk bg4_1 (.cells #[.slice Ag4_1 lg4_1.length cg4_1] 40 (0, 0))]
   refine ge_same (t := 0) (v := (.slice A0 m1.length c0)) (v' := (.slice A0 r2.length c0)) (by kernel_rfl) (by rw [show m1.length = r2.length from hE2]) ?_
   refine ge_same (t := 35) (v := (.slice A0 m1.length c0)) (v' := (.slice A0 r2.length c0)) (by kernel_rfl) (by rw [show m1.length = r2.length from hE2]) ?_
   have hLio4 : l0.length = r2.length := Eq.trans hLio1 hE2
   refine gn hK8 ?_
   refine wr [(0, 0), (1, 0), (2, 0), (3, 0)] ?_
   refine gb0 [0, 1, 2, 3] [(11, vI (IntKind.i64.wrap (z2 - z1))), (49, vI (IntKind.i64.wrap (z2 - z1))), (48, vI z1), (47, vI z2)] ?_
   have hS25 := hS24.bring 3 rfl
   have hS26 := hS25.bring 1 rfl
   have hS27 := hS26.bring 3 rfl
   have hS28 := hS27.bring 3 rfl
   obtain rfl := si h
   exact ge_nil fun a hF => hQ _ _ _ (Outs.again ⟨hLio4, hS28, hF.weaken ea⟩)
theorem slices_rotateCmpFunc_int_ok (K : Nat) (l0 : List Int) (A0 : Option Addr) (c0 : Nat) (x1 : Int) (x2 : Int) (x3 : Int) (bg4_0 : Nat) (bg4_1 : Nat) (lg4_1 : List STask) (Ag4_1 : Option Addr) (cg4_1 : Nat) (w0 wE : World) (LT : List Own) (hS : St w0 wE [Own.of (.slice A0 l0.length c0) 3 l0, Own.blk bg4_0 (.cells #[.func (.func 82) #[] #[]] 80 (0, 0)), Own.blk bg4_1 (.cells #[.slice Ag4_1 lg4_1.length cg4_1] 40 (0, 0)), Own.all LT]) (hRg4_1 : RdL w0 Ag4_1 lg4_1) (hLg4_1 : lg4_1.length ≤ cg4_1) (r : List Int) (h : slices_rotateCmpFunc_int.f K l0 x1 x2 x3 lg4_1 = some r) :
  Calls Tryd.prog 126 #[(.slice A0 l0.length c0), vI x1, vI x2, vI x3, .func (.func 101) #[] #[pP bg4_0 0, pP bg4_1 0]] wE (slices_rotateCmpFunc_int.Post w0 l0 A0 c0 x1 x2 x3 bg4_0 bg4_1 lg4_1 Ag4_1 cg4_1 LT r) := by
 unfold slices_rotateCmpFunc_int.f at h
 refine calls_enter (n := 58) (args := [(.slice A0 l0.length c0), vI x1, vI x2, vI x3, .func (.func 101) #[] #[pP bg4_0 0, pP bg4_1 0]]) (fn := Tryd.f126) rfl rfl rfl rfl ?_
 show WE _ _ _ _ [(0, (.slice A0 l0.length c0)), (1, vI x1), (2, vI x2), (3, vI x3), (4, .func (.func 101) #[] #[pP bg4_0 0, pP bg4_1 0])] _
 refine ws fun K1 hK1 => ?_
 refine wr [(0, 0), (1, 0), (2, 0), (3, 0)] ?_
 refine gb0 [0, 1, 2, 3] [(10, vI (IntKind.i64.wrap (x2 - x1))), (14, vI (IntKind.i64.wrap (x2 - x1))), (13, vI x1), (12, vI x2)] ?_
 refine gn hK1 ?_
 refine ws fun K2 hK2 => ?_
 refine wr [(0, 0), (1, 0), (2, 0), (3, 0)] ?_
 refine gb0 [0, 1, 2, 3] [(11, vI (IntKind.i64.wrap (x3 - x2))), (17, vI (IntKind.i64.wrap (x3 - x2))), (16, vI x2), (15, vI x3)] ?_
 refine gn hK2 ?_
 refine ws fun K3 hK3 => ?_
 refine we_block ?_
 have hS1 := hS.bring 3 rfl
 have hS2 := hS1.bring 1 rfl
 have hS3 := hS2.bring 3 rfl
 have hS4 := hS3.bring 3 rfl
 rcases hq3 : iter (slices_rotateCmpFunc_int.r0 K x2 lg4_1) K (IntKind.i64.wrap (x2 - x1), IntKind.i64.wrap (x3 - x2), l0) with _ | (⟨z4, m3⟩ | rr1)
 ·rw [hq3] at h; cases h
 ·rw [hq3] at h
  simp only [] at h
  refine we_iter (A := slices_rotateCmpFunc_int.A0 w0 l0 A0 c0 x2 bg4_0 bg4_1 lg4_1 Ag4_1 cg4_1 LT) (B := slices_rotateCmpFunc_int.B0 w0 l0 A0 c0 x1 x2 x3 bg4_0 bg4_1 lg4_1 Ag4_1 cg4_1 LT) hq3 (fun a hF => ⟨rfl, hS4, hF.weaken ea⟩) (fun s o hf a w hA Q hQ => slices_rotateCmpFunc_int_r0 K w0 l0 A0 c0 x1 x2 x3 bg4_0 bg4_1 lg4_1 Ag4_1 cg4_1 LT hRg4_1 hLg4_1 s o hf a w hA Q hQ) ?_
  rintro _ a w3 _ ⟨rfl, hRz1, hS29, hF⟩
  replace hS29 : St w0 w3 [Own.blk bg4_0 (.cells #[.func (.func 82) #[] #[]] 80 (0, 0)), Own.blk bg4_1 (.cells #[.slice Ag4_1 lg4_1.length cg4_1] 40 (0, 0)), Own.of (.slice A0 m3.length c0) 3 m3, Own.all LT] := hS29
  refine hK3 [(0, (.slice A0 m3.length c0)), (2, vI x2), (4, .func (.func 101) #[] #[pP bg4_0 0, pP bg4_1 0]), (10, vI z4)] w3 ?_ a hF
  refine wr [(0, 0), (1, 0), (2, 0), (3, 0), (4, 0), (5, 0), (6, 0), (7, 2)] ?_
  refine gb0 [0, 1, 2, 3, 4, 5, 6] [(56, .func (.func 101) #[] #[pP bg4_0 0, pP bg4_1 0]), (55, vI z4), (54, vI x2), (53, vI (IntKind.i64.wrap (x2 - z4))), (52, vI z4), (51, vI x2), (50, (.slice A0 m3.length c0))] ?_
  rcases hq4 : slices_swapRangeCmpFunc_int.f K m3 (IntKind.i64.wrap (x2 - z4)) x2 z4 lg4_1 with _ | r3
  ·rw [hq4] at h; cases h
  rw [hq4] at h
  simp only [] at h
  have hS30 := hS29.bring 1 rfl
  have hS31 := hS30.bring 1 rfl
  have hS32 := hS31.bring 2 rfl
  have hS34 : St w0 w3 [Own.of (.slice A0 m3.length c0) 3 m3, Own.blk bg4_0 (.cells #[.func (.func 82) #[] #[]] 80 (0, 0)), Own.blk bg4_1 (.cells #[.slice Ag4_1 lg4_1.length cg4_1] 40 (0, 0)), Own.all [Own.all LT]] := hS32.packN 3
  refine ge_call2 (m := 0) (d := some 57) (f := 128) (args := #[.slice A0 m3.length c0, vI (IntKind.i64.wrap (x2 - z4)), vI x2, vI z4, .func (.func 101) #[] #[pP bg4_0 0, pP bg4_1 0]]) (by kernel_rfl) (slices_swapRangeCmpFunc_int_ok K m3 A0 c0 (IntKind.i64.wrap (x2 - z4)) x2 z4 bg4_0 bg4_1 lg4_1 Ag4_1 cg4_1 _ _ _ hS34 hRg4_1 hLg4_1 _ hq4) ?_
  rintro _ w4 ⟨rfl, hE3, hS33⟩
  refine ⟨_, rfl, ?_⟩
  have hS35 : St w0 w4 [Own.of (.slice A0 r3.length c0) 3 r3, Own.blk bg4_0 (.cells #[.func (.func 82) #[] #[]] 80 (0, 0)), Own.blk bg4_1 (.cells #[.slice Ag4_1 lg4_1.length cg4_1] 40 (0, 0)), Own.all LT] := hS33.unpack [Own.of (.slice A0 r3.length c0) 3 r3, Own.blk bg4_0 (.cells #[.func (.func 82) #[] #[]] 80 (0, 0)), Own.blk bg4_1 (.cells #[.slice Ag4_1 lg4_1.length cg4_1] 40 (0, 0))]
  refine ge_same (t := 0) (v := (.slice A0 m3.length c0)) (v' := (.slice A0 r3.length c0)) (by kernel_rfl) (by rw [show m3.length = r3.length from hE3]) ?_
  refine ge_same (t := 50) (v := (.slice A0 m3.length c0)) (v' := (.slice A0 r3.length c0)) (by kernel_rfl) (by rw [show m3.length = r3.length from hE3]) ?_
  have hLio5 : l0.length = r3.length := Eq.trans hRz1 hE3
  have hS36 := hS35.bring 3 rfl
  have hS37 := hS36.bring 3 rfl
  have hS38 := hS37.bring 3 rfl
  have hS39 := hS38.bring 3 rfl
  obtain rfl := si h
  exact ge_nil (pe0 [] [] ⟨rfl, hLio5, hS39⟩)
 ·rw [hq3] at h
  simp only [] at h
  refine we_iter (A := slices_rotateCmpFunc_int.A0 w0 l0 A0 c0 x2 bg4_0 bg4_1 lg4_1 Ag4_1 cg4_1 LT) (B := slices_rotateCmpFunc_int.B0 w0 l0 A0 c0 x1 x2 x3 bg4_0 bg4_1 lg4_1 Ag4_1 cg4_1 LT) hq3 (fun a hF => ⟨rfl, hS4, hF.weaken ea⟩) (fun s o hf a w hA Q hQ => slices_rotateCmpFunc_int_r0 K w0 l0 A0 c0 x1 x2 x3 bg4_0 bg4_1 lg4_1 Ag4_1 cg4_1 LT hRg4_1 hLg4_1 s o hf a w hA Q hQ) ?_
  rintro _ a w1 _ ⟨rfl, hb⟩
  obtain rfl := si h
  exact hb
end Go.Proofs.YtlipdmblinjjaaaDoor.GV
