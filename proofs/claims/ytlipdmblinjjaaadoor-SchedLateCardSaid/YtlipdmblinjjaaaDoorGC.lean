/- Walks of single functions, written by a program of this work. -/
import Derived.Test.YtlipdmblinjjaaaDoorGv7
import Derived.Test.YtlipdmblinjjaaaDoorProg
namespace Go.Proofs.YtlipdmblinjjaaaDoor.GV
open Go Go.RowKit
set_option linter.unusedVariables false
set_option linter.unusedSimpArgs false
set_option maxRecDepth 100000

/-! punctual/punctuallaw.few -/
abbrev few.Post (w0 : World) (r : Bool) (e : Ending) (w : World) : Prop := e = .returned (.bool r) ∧ St w0 w []
def few.f (x0 : Int) : Bool :=
  decide (x0 ≤ 5000)
theorem few_ok (x0 : Int) (w0 : World) (r : Bool) (h : few.f x0 = r) :
    Calls Tryd.prog 13 #[.int .i64 x0] w0 (few.Post w0 r) := by
  have hS := St.start w0
  unfold few.f at h
  refine calls_enter (n := 5) (args := [.int .i64 x0]) (fn := Tryd.f13) rfl rfl rfl rfl ?_
  show WE _ _ _ _ [(0, .int .i64 x0)] _
  refine we_seq fun K1 hK1 => ?_
  refine we_region [(0, 0)] rfl ?_
  refine ge_batch [0] (ans := []) (vs := [(2, .bool false)]) (l := []) (by kernel_rfl) trivial ?_
  refine ge_nil fun a hF => hK1 _ _ ?_ a hF
  refine we_seq fun K2 hK2 => ?_
  refine we_region [(0, 0), (1, 0), (2, 0)] rfl ?_
  refine ge_batch [0, 1, 2] (ans := []) (vs := [(2, .bool (decide (x0 ≤ 5000))), (4, .bool (decide (x0 ≤ 5000))), (3, .int .i64 x0)]) (l := []) (by kernel_rfl) trivial ?_
  refine ge_nil fun a hF => hK2 _ _ ?_ a hF
  subst h
  exact we_ret (post_ret (rs := [.tmp 2]) (ans := []) (vs := [.bool (decide (x0 ≤ 5000))]) (l := []) rfl (by kernel_rfl) trivial ⟨rfl, hS⟩)

/-! punctual/punctualsame.Same[int] -/
abbrev SameInt.Post (w0 : World) (r : Bool) (e : Ending) (w : World) : Prop := e = .returned (.bool r) ∧ St w0 w []
def SameInt.r0 (l0 : List Int) (l1 : List Int) : Nat → Option (Nat ⊕ (Unit ⊕ Bool))
  | i1 =>
    if (i1 : Int) < (l0.length : Int) then
      match l0[i1]? with
      | none => none
      | some e1 =>
        match l1[i1]? with
        | none => none
        | some e2 =>
          if e1 = e2 then
            some (.inl (i1 + 1))
          else
            some (.inr (.inr false))
    else
      some (.inr (.inl ()))
def SameInt.f (K : Nat) (l0 : List Int) (l1 : List Int) : Option Bool :=
  if (l0.length : Int) = (l1.length : Int) then
    match iter (SameInt.r0 l0 l1) K 0 with
    | none => none
    | some (.inl _) =>
      some true
    | some (.inr rr1) =>
      some rr1
  else
    some false
abbrev SameInt.A0 (K : Nat) (w0 : World) (l0 : List Int) (A0 : Option Addr) (c0 : Nat) (l1 : List Int) (A1 : Option Addr) (c1 : Nat) (hR0 : RdL w0 A0 l0) (hR1 : RdL w0 A1 l1) (hc1 : (l0.length : Int) = (l1.length : Int)) : Nat → Act → World → Prop := fun (s : Nat) a w => St w0 w [] ∧ Frm 26 a [(0, .slice A0 l0.length c0), (1, .slice A1 l1.length c1), (12, .int .i64 (l0.length : Int)), (13, .int .i64 (s : Int))]
abbrev SameInt.B0 (K : Nat) (w0 : World) (l0 : List Int) (A0 : Option Addr) (c0 : Nat) (l1 : List Int) (A1 : Option Addr) (c1 : Nat) (hR0 : RdL w0 A0 l0) (hR1 : RdL w0 A1 l1) (hc1 : (l0.length : Int) = (l1.length : Int)) : (Unit ⊕ Bool) → Exit → Act → World → Prop := Exits 0 (fun (s : Unit) a w => St w0 w [] ∧ Frm 26 a []) (Rets Tryd.prog Tryd.f12 (SameInt.Post w0))
theorem SameInt_r0 (K : Nat) (w0 : World) (l0 : List Int) (A0 : Option Addr) (c0 : Nat) (l1 : List Int) (A1 : Option Addr) (c1 : Nat) (hR0 : RdL w0 A0 l0) (hR1 : RdL w0 A1 l1) (hc1 : (l0.length : Int) = (l1.length : Int)) (s : Nat) (o : Nat ⊕ (Unit ⊕ Bool)) (h : SameInt.r0 l0 l1 s = some o) (a : Act) (w : World) (hA : SameInt.A0 K w0 l0 A0 c0 l1 A1 c1 hR0 hR1 hc1 s a w) (Q : Exit → Act → World → Prop) (hQ : ∀ x a w, Outs (SameInt.A0 K w0 l0 A0 c0 l1 A1 c1 hR0 hR1 hc1) (SameInt.B0 K w0 l0 A0 c0 l1 A1 c1 hR0 hR1 hc1) o x a w → Q x a w) : (subF Tryd.f12 [1, 1, 0, 1, 0, 0]).wp Tryd.prog Q a w := by
  obtain ⟨i1, hs⟩ : ∃ z, z = s := ⟨s, rfl⟩
  subst hs
  obtain ⟨hS, hF⟩ := hA
  replace hS : St w0 w [] := hS
  simp only [SameInt.r0] at h
  refine (?_ : WE Tryd.prog 26 (subF Tryd.f12 [1, 1, 0, 1, 0, 0]) Q [(0, .slice A0 l0.length c0), (1, .slice A1 l1.length c1), (12, .int .i64 (l0.length : Int)), (13, .int .i64 (i1 : Int))] w) a hF
  clear hF a
  refine we_seq fun K6 hK6 => ?_
  refine we_region [(0, 0)] rfl ?_
  refine ge_batch [0] (ans := []) (vs := [(14, .bool (decide ((i1 : Int) < (l0.length : Int))))]) (l := []) (by kernel_rfl) trivial ?_
  refine ge_nil fun a hF => hK6 _ _ ?_ a hF
  refine we_seq fun K7 hK7 => ?_
  by_cases hc2 : (i1 : Int) < (l0.length : Int)
  · rw [if_pos hc2] at h
    refine we_known (t := 14) (b := decide ((i1 : Int) < (l0.length : Int))) (v := true) (by kernel_rfl) (decide_eq_true hc2) ?_
    refine we_true (by kernel_rfl) ?_
    refine we_skip fun a hF => hK7 _ _ ?_ a hF
    refine we_seq fun K8 hK8 => ?_
    refine we_block ?_
    refine we_seq fun K9 hK9 => ?_
    refine we_region [(0, 0), (1, 0)] rfl ?_
    refine ge_batch [0, 1] (ans := []) (vs := [(5, .int .i64 (i1 : Int)), (15, .int .i64 (i1 : Int))]) (l := []) (by kernel_rfl) trivial ?_
    refine ge_nil fun a hF => hK9 _ _ ?_ a hF
    refine we_seq fun K10 hK10 => ?_
    refine we_draws (by kernel_rfl) [(0, 0), (1, 0), (2, 0), (3, 0), (4, 0), (5, 0), (6, 0), (7, 0), (8, 0)] (by kernel_rfl) ?_
    have hS1 : St w0 w.drew [] := hS.drew
    refine ge_batch [0, 1] (ans := []) (vs := [(17, .int .i64 (i1 : Int)), (16, .slice A0 l0.length c0)]) (l := []) (by kernel_rfl) trivial ?_
    rcases hx1 : l0[i1]? with _ | e1
    · rw [hx1] at h; cases h
    rw [hx1] at h
    simp only [] at h
    refine ge_index (d := 18) (ty := 0) (t := 23) (el := 3) (sz := 1) (m := l0.length) (c := c0) (x := (.tmp 16)) (y := (.tmp 17)) (A := A0) (k' := .i64) (j := (i1 : Int)) (jn := i1) (b0 := blkOf A0) (o0 := offOf A0) (by kernel_rfl) (by kernel_rfl) (by kernel_rfl) (by kernel_rfl) (by kernel_rfl) ((hS1.rd hR0).eqSome (pos_of_get hx1)) rfl (lt_of_get hx1) ?_
    refine ge_batch [3, 4, 5] (ans := [.val (.int .i64 e1)]) (vs := [(21, .int .i64 (i1 : Int)), (20, .slice A1 l1.length c1), (19, .int .i64 e1)]) (l := [.loaded ⟨blkOf A0, offOf A0 + i1 * 1, none⟩ (.int .i64 e1)]) (by kernel_rfl) ⟨RdL.cell (j := 0) (hS1.rd hR0) hx1 rfl, trivial⟩ ?_
    rcases hx2 : l1[i1]? with _ | e2
    · rw [hx2] at h; cases h
    rw [hx2] at h
    simp only [] at h
    refine ge_index (d := 22) (ty := 0) (t := 23) (el := 3) (sz := 1) (m := l1.length) (c := c1) (x := (.tmp 20)) (y := (.tmp 21)) (A := A1) (k' := .i64) (j := (i1 : Int)) (jn := i1) (b0 := blkOf A1) (o0 := offOf A1) (by kernel_rfl) (by kernel_rfl) (by kernel_rfl) (by kernel_rfl) (by kernel_rfl) ((hS1.rd hR1).eqSome (pos_of_get hx2)) rfl (lt_of_get hx2) ?_
    refine ge_batch [7, 8] (ans := [.val (.int .i64 e2)]) (vs := [(24, .bool (e1 != e2)), (23, .int .i64 e2)]) (l := [.loaded ⟨blkOf A1, offOf A1 + i1 * 1, none⟩ (.int .i64 e2)]) (by kernel_rfl) ⟨RdL.cell (j := 0) (hS1.rd hR1) hx2 rfl, trivial⟩ ?_
    refine ge_nil fun a hF => hK10 _ _ ?_ a hF
    by_cases hc3 : e1 = e2
    · rw [if_pos hc3] at h
      refine we_known (t := 24) (b := (e1 != e2)) (v := false) (by kernel_rfl) (bne_eq_false_iff_eq.2 hc3) ?_
      refine we_false (by kernel_rfl) ?_
      refine we_skip fun a hF => hK8 _ _ ?_ a hF
      refine we_region [(0, 0), (1, 0)] rfl ?_
      refine ge_addn (d := 25) (ty := 3) (x := (.tmp 13)) (y := (.const (.int .i64 1))) (t := 3) (t2 := 3) (k := .i64) (m := i1) (by kernel_rfl) (by kernel_rfl) (by kernel_rfl) (by have h0 := hR0.small; omega) ?_
      refine ge_batch [1] (ans := []) (vs := [(13, .int .i64 ((i1 + 1 : Nat) : Int))]) (l := []) (by kernel_rfl) trivial ?_
      obtain rfl := Option.some.inj h
      exact ge_nil fun a hF => hQ _ _ _ (Outs.again ⟨hS1, hF.weaken ⟨by kernel_rfl, by kernel_rfl, by kernel_rfl, by kernel_rfl, trivial⟩⟩)
    · rw [if_neg hc3] at h
      refine we_known (t := 24) (b := (e1 != e2)) (v := true) (by kernel_rfl) (bne_iff_ne.2 hc3) ?_
      refine we_true (by kernel_rfl) ?_
      refine we_seq fun K11 hK11 => ?_
      refine we_region [(0, 0)] rfl ?_
      refine ge_batch [0] (ans := []) (vs := [(4, .bool false)]) (l := []) (by kernel_rfl) trivial ?_
      refine ge_nil fun a hF => hK11 _ _ ?_ a hF
      obtain rfl := Option.some.inj h
      exact we_ret fun a hF => hQ _ _ _ (Outs.out nofun (Exits.on ⟨rfl, (post_ret (rs := [.tmp 4]) (ans := []) (vs := [.bool false]) (l := []) rfl (by kernel_rfl) trivial ⟨rfl, hS1⟩) a hF⟩))
  · rw [if_neg hc2] at h
    refine we_known (t := 14) (b := decide ((i1 : Int) < (l0.length : Int))) (v := false) (by kernel_rfl) (decide_eq_false hc2) ?_
    refine we_false (by kernel_rfl) ?_
    obtain rfl := Option.some.inj h
    exact we_exit fun a hF => hQ _ _ _ (Outs.out nofun (Exits.here ⟨hS, hF.weaken trivial⟩))
theorem SameInt_ok (K : Nat) (l0 : List Int) (A0 : Option Addr) (c0 : Nat) (l1 : List Int) (A1 : Option Addr) (c1 : Nat) (w0 : World) (hR0 : RdL w0 A0 l0) (hR1 : RdL w0 A1 l1) (r : Bool) (h : SameInt.f K l0 l1 = some r) :
    Calls Tryd.prog 12 #[.slice A0 l0.length c0, .slice A1 l1.length c1] w0 (SameInt.Post w0 r) := by
  have hS := St.start w0
  unfold SameInt.f at h
  refine calls_enter (n := 26) (args := [.slice A0 l0.length c0, .slice A1 l1.length c1]) (fn := Tryd.f12) rfl rfl rfl rfl ?_
  show WE _ _ _ _ [(0, .slice A0 l0.length c0), (1, .slice A1 l1.length c1)] _
  refine we_seq fun K1 hK1 => ?_
  refine we_region [(0, 0)] rfl ?_
  refine ge_batch [0] (ans := []) (vs := [(4, .bool false)]) (l := []) (by kernel_rfl) trivial ?_
  refine ge_nil fun a hF => hK1 _ _ ?_ a hF
  refine we_seq fun K2 hK2 => ?_
  refine we_seq fun K3 hK3 => ?_
  refine we_region [(0, 0), (1, 0), (2, 0), (3, 0), (4, 0)] rfl ?_
  refine ge_batch [0, 1, 2, 3, 4] (ans := []) (vs := [(10, .bool ((l0.length : Int) != (l1.length : Int))), (9, .int .i64 (l1.length : Int)), (8, .slice A1 l1.length c1), (7, .int .i64 (l0.length : Int)), (6, .slice A0 l0.length c0)]) (l := []) (by kernel_rfl) trivial ?_
  refine ge_nil fun a hF => hK3 _ _ ?_ a hF
  by_cases hc1 : (l0.length : Int) = (l1.length : Int)
  · rw [if_pos hc1] at h
    refine we_known (t := 10) (b := ((l0.length : Int) != (l1.length : Int))) (v := false) (by kernel_rfl) (bne_eq_false_iff_eq.2 hc1) ?_
    refine we_false (by kernel_rfl) ?_
    refine we_skip fun a hF => hK2 _ _ ?_ a hF
    refine we_seq fun K4 hK4 => ?_
    refine we_seq fun K5 hK5 => ?_
    refine we_region [(0, 0), (1, 0), (2, 0)] rfl ?_
    refine ge_batch [0, 1, 2] (ans := []) (vs := [(13, .int .i64 0), (12, .int .i64 (l0.length : Int)), (11, .slice A0 l0.length c0)]) (l := []) (by kernel_rfl) trivial ?_
    refine ge_nil fun a hF => hK5 _ _ ?_ a hF
    refine we_block ?_
    rcases hq1 : iter (SameInt.r0 l0 l1) K 0 with _ | (_ | rr1)
    · rw [hq1] at h; cases h
    · rw [hq1] at h
      simp only [] at h
      refine we_iter (A := SameInt.A0 K w0 l0 A0 c0 l1 A1 c1 hR0 hR1 hc1) (B := SameInt.B0 K w0 l0 A0 c0 l1 A1 c1 hR0 hR1 hc1) hq1 (fun a hF => ⟨hS, hF.weaken ⟨by kernel_rfl, by kernel_rfl, by kernel_rfl, by kernel_rfl, trivial⟩⟩) (fun s o hf a w hA Q hQ => SameInt_r0 K w0 l0 A0 c0 l1 A1 c1 hR0 hR1 hc1 s o hf a w hA Q hQ) ?_
      rintro _ a w1 _ ⟨rfl, hS2, hF⟩
      replace hS2 : St w0 w1 [] := hS2
      refine hK4 [] w1 ?_ a hF
      refine we_seq fun K12 hK12 => ?_
      refine we_region [(0, 0)] rfl ?_
      refine ge_batch [0] (ans := []) (vs := [(4, .bool true)]) (l := []) (by kernel_rfl) trivial ?_
      refine ge_nil fun a hF => hK12 _ _ ?_ a hF
      obtain rfl := Option.some.inj h
      exact we_ret (post_ret (rs := [.tmp 4]) (ans := []) (vs := [.bool true]) (l := []) rfl (by kernel_rfl) trivial ⟨rfl, hS2⟩)
    · rw [hq1] at h
      simp only [] at h
      refine we_iter (A := SameInt.A0 K w0 l0 A0 c0 l1 A1 c1 hR0 hR1 hc1) (B := SameInt.B0 K w0 l0 A0 c0 l1 A1 c1 hR0 hR1 hc1) hq1 (fun a hF => ⟨hS, hF.weaken ⟨by kernel_rfl, by kernel_rfl, by kernel_rfl, by kernel_rfl, trivial⟩⟩) (fun s o hf a w hA Q hQ => SameInt_r0 K w0 l0 A0 c0 l1 A1 c1 hR0 hR1 hc1 s o hf a w hA Q hQ) ?_
      rintro _ a w1 _ ⟨rfl, hb⟩
      obtain rfl := Option.some.inj h
      exact hb
  · rw [if_neg hc1] at h
    refine we_known (t := 10) (b := ((l0.length : Int) != (l1.length : Int))) (v := true) (by kernel_rfl) (bne_iff_ne.2 hc1) ?_
    refine we_true (by kernel_rfl) ?_
    refine we_seq fun K13 hK13 => ?_
    refine we_region [(0, 0)] rfl ?_
    refine ge_batch [0] (ans := []) (vs := [(4, .bool false)]) (l := []) (by kernel_rfl) trivial ?_
    refine ge_nil fun a hF => hK13 _ _ ?_ a hF
    obtain rfl := Option.some.inj h
    exact we_ret (post_ret (rs := [.tmp 4]) (ans := []) (vs := [.bool false]) (l := []) rfl (by kernel_rfl) trivial ⟨rfl, hS⟩)

structure SFault where
  Code : Int
  At : Int
def SFault.eqb (x y : SFault) : Bool := ((x.Code == y.Code) && ((x.At == y.At) && true))
instance : Flat SFault := ⟨2, fun x => [.int .i64 x.Code, .int .i64 x.At], fun _ => rfl, fun _ => rfl, by decide⟩

structure SJob where
  Task : Int
  At : Int
  C : Int
  Due : Int
  P : Int
def SJob.eqb (x y : SJob) : Bool := ((x.Task == y.Task) && ((x.At == y.At) && ((x.C == y.C) && ((x.Due == y.Due) && ((x.P == y.P) && true)))))
instance : Flat SJob := ⟨5, fun x => [.int .i64 x.Task, .int .i64 x.At, .int .i64 x.C, .int .i64 x.Due, .int .i64 x.P], fun _ => rfl, fun _ => rfl, by decide⟩

structure SPlayed where
  Runs : List Int
  Ends : List Int

/-! punctual/sched.Late -/
abbrev Late.Post (w0 : World) (r : (List Int) × SFault) (e : Ending) (w : World) : Prop := ∃ (v0 : Value), e = .returned (.tuple #[v0, .agg #[.int .i64 r.2.Code, .int .i64 r.2.At]]) ∧ St w0 w [Own.of v0 3 r.1]
def Late.r0 (l0 : List SJob) (l1_0 : List Int) (l1_1 : List Int) : (List Int) × Nat → Option (((List Int) × Nat) ⊕ ((List Int) ⊕ ((List Int) × SFault)))
  | (m1, i1) =>
    if (i1 : Int) < (l0.length : Int) then
      match l0[i1]? with
      | none => none
      | some e1 =>
        match l1_1[i1]? with
        | none => none
        | some e2 =>
          if e2 > e1.Due then
            if m1.length < 17592186044416 then
              some (.inl ((m1 ++ [(i1 : Int)]), (i1 + 1)))
            else
              none
          else
            if e2 < 0 then
              if e1.Due ≤ (l1_0.length : Int) then
                if m1.length < 17592186044416 then
                  some (.inl ((m1 ++ [(i1 : Int)]), (i1 + 1)))
                else
                  none
              else
                some (.inl (m1, (i1 + 1)))
            else
              some (.inl (m1, (i1 + 1)))
    else
      some (.inr (.inl m1))
def Late.f (K : Nat) (l0 : List SJob) (l1_0 : List Int) (l1_1 : List Int) : Option ((List Int) × SFault) :=
  if (l1_1.length : Int) = (l0.length : Int) then
    match iter (Late.r0 l0 l1_0 l1_1) K (([] : List Int), 0) with
    | none => none
    | some (.inl m3) =>
      some (m3, (⟨0, 0⟩ : SFault))
    | some (.inr rr1) =>
      some rr1
  else
    some (([] : List Int), (⟨2, 0⟩ : SFault))
abbrev Late.A0 (K : Nat) (w0 : World) (l0 : List SJob) (A0 : Option Addr) (c0 : Nat) (l1_0 : List Int) (A1_0 : Option Addr) (c1_0 : Nat) (l1_1 : List Int) (A1_1 : Option Addr) (c1_1 : Nat) (hR0 : RdL w0 A0 l0) (hR1_0 : RdL w0 A1_0 l1_0) (hR1_1 : RdL w0 A1_1 l1_1) (b1 : Nat) (b2 : Nat) (hc1 : (l1_1.length : Int) = (l0.length : Int)) : ((List Int) × Nat) → Act → World → Prop := fun (s : (List Int) × Nat) a w => ∃ (v1 : Value), St w0 w [Own.blk b2 (.cells #[.int .i64 0, .int .i64 0] 26 (0, 0)), Own.blk b1 (.cells #[.slice A1_0 l1_0.length c1_0, .slice A1_1 l1_1.length c1_1] 32 (0, 0)), Own.of v1 3 s.1] ∧ Frm 52 a [(3, .pointer (some ⟨b1, 0, none⟩)), (5, .pointer (some ⟨b2, 0, none⟩)), (6, v1), (17, .slice A0 l0.length c0), (18, .int .i64 (l0.length : Int)), (19, .int .i64 (s.2 : Int))]
abbrev Late.B0 (K : Nat) (w0 : World) (l0 : List SJob) (A0 : Option Addr) (c0 : Nat) (l1_0 : List Int) (A1_0 : Option Addr) (c1_0 : Nat) (l1_1 : List Int) (A1_1 : Option Addr) (c1_1 : Nat) (hR0 : RdL w0 A0 l0) (hR1_0 : RdL w0 A1_0 l1_0) (hR1_1 : RdL w0 A1_1 l1_1) (b1 : Nat) (b2 : Nat) (hc1 : (l1_1.length : Int) = (l0.length : Int)) : ((List Int) ⊕ ((List Int) × SFault)) → Exit → Act → World → Prop := Exits 0 (fun (s : (List Int)) a w => ∃ (v2 : Value), St w0 w [Own.blk b2 (.cells #[.int .i64 0, .int .i64 0] 26 (0, 0)), Own.of v2 3 s] ∧ Frm 52 a [(5, .pointer (some ⟨b2, 0, none⟩)), (6, v2)]) (Rets Tryd.prog Tryd.f11 (Late.Post w0))
theorem Late_r0 (K : Nat) (w0 : World) (l0 : List SJob) (A0 : Option Addr) (c0 : Nat) (l1_0 : List Int) (A1_0 : Option Addr) (c1_0 : Nat) (l1_1 : List Int) (A1_1 : Option Addr) (c1_1 : Nat) (hR0 : RdL w0 A0 l0) (hR1_0 : RdL w0 A1_0 l1_0) (hR1_1 : RdL w0 A1_1 l1_1) (b1 : Nat) (b2 : Nat) (hc1 : (l1_1.length : Int) = (l0.length : Int)) (s : (List Int) × Nat) (o : ((List Int) × Nat) ⊕ ((List Int) ⊕ ((List Int) × SFault))) (h : Late.r0 l0 l1_0 l1_1 s = some o) (a : Act) (w : World) (hA : Late.A0 K w0 l0 A0 c0 l1_0 A1_0 c1_0 l1_1 A1_1 c1_1 hR0 hR1_0 hR1_1 b1 b2 hc1 s a w) (Q : Exit → Act → World → Prop) (hQ : ∀ x a w, Outs (Late.A0 K w0 l0 A0 c0 l1_0 A1_0 c1_0 l1_1 A1_1 c1_1 hR0 hR1_0 hR1_1 b1 b2 hc1) (Late.B0 K w0 l0 A0 c0 l1_0 A1_0 c1_0 l1_1 A1_1 c1_1 hR0 hR1_0 hR1_1 b1 b2 hc1) o x a w → Q x a w) : (subF Tryd.f11 [1, 1, 1, 0, 1, 0, 0]).wp Tryd.prog Q a w := by
  obtain ⟨m1, i1⟩ := s
  obtain ⟨v1, hS, hF⟩ := hA
  replace hS : St w0 w [Own.blk b2 (.cells #[.int .i64 0, .int .i64 0] 26 (0, 0)), Own.blk b1 (.cells #[.slice A1_0 l1_0.length c1_0, .slice A1_1 l1_1.length c1_1] 32 (0, 0)), Own.of v1 3 m1] := hS
  simp only [Late.r0] at h
  refine (?_ : WE Tryd.prog 52 (subF Tryd.f11 [1, 1, 1, 0, 1, 0, 0]) Q [(3, .pointer (some ⟨b1, 0, none⟩)), (5, .pointer (some ⟨b2, 0, none⟩)), (6, v1), (17, .slice A0 l0.length c0), (18, .int .i64 (l0.length : Int)), (19, .int .i64 (i1 : Int))] w) a hF
  clear hF a
  refine we_seq fun K7 hK7 => ?_
  refine we_region [(0, 0)] rfl ?_
  refine ge_batch [0] (ans := []) (vs := [(20, .bool (decide ((i1 : Int) < (l0.length : Int))))]) (l := []) (by kernel_rfl) trivial ?_
  refine ge_nil fun a hF => hK7 _ _ ?_ a hF
  refine we_seq fun K8 hK8 => ?_
  by_cases hc2 : (i1 : Int) < (l0.length : Int)
  · rw [if_pos hc2] at h
    refine we_known (t := 20) (b := decide ((i1 : Int) < (l0.length : Int))) (v := true) (by kernel_rfl) (decide_eq_true hc2) ?_
    refine we_true (by kernel_rfl) ?_
    refine we_skip fun a hF => hK8 _ _ ?_ a hF
    refine we_seq fun K9 hK9 => ?_
    refine we_block ?_
    refine we_seq fun K10 hK10 => ?_
    refine we_region [(0, 0), (1, 0), (2, 0), (3, 1), (4, 0), (5, 2)] rfl ?_
    refine ge_batch [0] (ans := []) (vs := [(21, .int .i64 (i1 : Int))]) (l := []) (by kernel_rfl) trivial ?_
    rcases hx3 : l0[i1]? with _ | e1
    · rw [hx3] at h; cases h
    rw [hx3] at h
    simp only [] at h
    refine ge_index (d := 22) (ty := 0) (t := 22) (el := 30) (sz := 5) (m := l0.length) (c := c0) (x := (.tmp 17)) (y := (.tmp 19)) (A := A0) (k' := .i64) (j := (i1 : Int)) (jn := i1) (b0 := blkOf A0) (o0 := offOf A0) (by kernel_rfl) (by kernel_rfl) (by kernel_rfl) (by kernel_rfl) (by kernel_rfl) ((hS.rd hR0).eqSome (pos_of_get hx3)) rfl (lt_of_get hx3) ?_
    refine ge_batch [2] (ans := [.val (.int .i64 e1.Task), .val (.int .i64 e1.At), .val (.int .i64 e1.C), .val (.int .i64 e1.Due), .val (.int .i64 e1.P)]) (vs := [(23, .agg #[.int .i64 e1.Task, .int .i64 e1.At, .int .i64 e1.C, .int .i64 e1.Due, .int .i64 e1.P])]) (l := [.loaded ⟨blkOf A0, offOf A0 + i1 * 5, none⟩ (.int .i64 e1.Task), .loaded ⟨blkOf A0, offOf A0 + i1 * 5 + 1, none⟩ (.int .i64 e1.At), .loaded ⟨blkOf A0, offOf A0 + i1 * 5 + 2, none⟩ (.int .i64 e1.C), .loaded ⟨blkOf A0, offOf A0 + i1 * 5 + 3, none⟩ (.int .i64 e1.Due), .loaded ⟨blkOf A0, offOf A0 + i1 * 5 + 4, none⟩ (.int .i64 e1.P)]) (by kernel_rfl) ⟨RdL.cell (j := 0) (hS.rd hR0) hx3 rfl, RdL.cell (j := 1) (hS.rd hR0) hx3 rfl, RdL.cell (j := 2) (hS.rd hR0) hx3 rfl, RdL.cell (j := 3) (hS.rd hR0) hx3 rfl, RdL.cell (j := 4) (hS.rd hR0) hx3 rfl, trivial⟩ ?_
    refine ge_new (d := some 8) (o := .cells #[.int .i64 0, .int .i64 0, .int .i64 0, .int .i64 0, .int .i64 0] 30) (v := fun b => .pointer (some ⟨b, 0, none⟩)) hS (fun b => by kernel_rfl) fun b3 w3 hx4 hS6 => ?_
    refine ge_batch [4] (ans := []) (vs := [(7, .int .i64 (i1 : Int))]) (l := []) (by kernel_rfl) trivial ?_
    refine ge_set (b := b3) (j := 0) (cs := #[.int .i64 0, .int .i64 0, .int .i64 0, .int .i64 0, .int .i64 0]) (t := 30) (vs := [.int .i64 e1.Task, .int .i64 e1.At, .int .i64 e1.C, .int .i64 e1.Due, .int .i64 e1.P]) hS6 (by kernel_rfl) rfl rfl fun w4 hS7 => ?_
    have hS8 : St w0 w4 [Own.blk b3 (.cells #[.int .i64 e1.Task, .int .i64 e1.At, .int .i64 e1.C, .int .i64 e1.Due, .int .i64 e1.P] 30 (0, 0)), Own.blk b2 (.cells #[.int .i64 0, .int .i64 0] 26 (0, 0)), Own.blk b1 (.cells #[.slice A1_0 l1_0.length c1_0, .slice A1_1 l1_1.length c1_1] 32 (0, 0)), Own.of v1 3 m1] := hS7
    refine ge_nil fun a hF => hK10 _ _ ?_ a hF
    refine we_seq fun K11 hK11 => ?_
    refine we_region [(0, 0), (1, 0), (2, 0), (3, 0), (4, 0), (5, 0)] rfl ?_
    refine ge_batch [0, 1, 2] (ans := [.val (.slice A1_1 l1_1.length c1_1)]) (vs := [(26, .int .i64 (i1 : Int)), (25, .slice A1_1 l1_1.length c1_1), (24, .pointer (some ⟨b1, 1, none⟩))]) (l := [.loaded ⟨b1, 1, none⟩ (.slice A1_1 l1_1.length c1_1)]) (by kernel_rfl) ⟨hS8.cell 2 rfl rfl, trivial⟩ ?_
    rcases hx5 : l1_1[i1]? with _ | e2
    · rw [hx5] at h; cases h
    rw [hx5] at h
    simp only [] at h
    refine ge_index (d := 27) (ty := 0) (t := 23) (el := 3) (sz := 1) (m := l1_1.length) (c := c1_1) (x := (.tmp 25)) (y := (.tmp 26)) (A := A1_1) (k' := .i64) (j := (i1 : Int)) (jn := i1) (b0 := blkOf A1_1) (o0 := offOf A1_1) (by kernel_rfl) (by kernel_rfl) (by kernel_rfl) (by kernel_rfl) (by kernel_rfl) ((hS8.rd hR1_1).eqSome (pos_of_get hx5)) rfl (lt_of_get hx5) ?_
    refine ge_batch [4, 5] (ans := [.val (.int .i64 e2)]) (vs := [(9, .int .i64 e2), (28, .int .i64 e2)]) (l := [.loaded ⟨blkOf A1_1, offOf A1_1 + i1 * 1, none⟩ (.int .i64 e2)]) (by kernel_rfl) ⟨RdL.cell (j := 0) (hS8.rd hR1_1) hx5 rfl, trivial⟩ ?_
    refine ge_nil fun a hF => hK11 _ _ ?_ a hF
    refine we_seq fun K12 hK12 => ?_
    refine we_region [(0, 0), (1, 0), (2, 0), (3, 0), (4, 0), (5, 0), (6, 0), (7, 0), (8, 0), (9, 0), (10, 0), (11, 0), (12, 0), (13, 0), (14, 0), (15, 0)] rfl ?_
    refine ge_batch [0, 1, 2, 3, 4] (ans := [.val (.int .i64 e1.Due)]) (vs := [(33, .bool (decide (e2 > e1.Due))), (32, .bool (decide (e2 > e1.Due))), (31, .int .i64 e1.Due), (30, .pointer (some ⟨b3, 3, none⟩)), (29, .int .i64 e2)]) (l := [.loaded ⟨b3, 3, none⟩ (.int .i64 e1.Due)]) (by kernel_rfl) ⟨hS8.cell 0 rfl rfl, trivial⟩ ?_
    by_cases hc3 : e2 > e1.Due
    · rw [if_pos hc3] at h
      refine ge_known (t := 33) (b := decide (e2 > e1.Due)) (c := true) (by kernel_rfl) (decide_eq_true hc3) ?_
      refine ge_batch [5, 6, 7, 8, 9, 10, 11, 12, 13, 14, 15] (ans := []) (vs := [(44, .bool true), (43, undef), (42, undef), (41, undef), (40, undef), (39, undef), (38, undef), (37, undef), (36, undef), (35, undef), (34, undef)]) (l := []) (by kernel_rfl) trivial ?_
      refine ge_nil fun a hF => hK12 _ _ ?_ a hF
      refine we_true (by kernel_rfl) ?_
      refine we_region [(0, 0), (1, 0), (2, 1), (3, 2), (4, 0)] rfl ?_
      refine ge_batch [0, 1] (ans := []) (vs := [(46, .int .i64 (i1 : Int)), (45, v1)]) (l := []) (by kernel_rfl) trivial ?_
      refine ge_new (d := some 47) (o := .cells #[.int .i64 (i1 : Int)] 3) (v := fun b => .slice (some ⟨b, 0, none⟩) 1 1) hS8 (fun b => by kernel_rfl) fun b4 w5 hx6 hS9 => ?_
      have hS10 : St w0 w5 [Own.of v1 3 m1, Own.blk b4 (.cells #[.int .i64 (i1 : Int)] 3 (0, 0)), Own.blk b3 (.cells #[.int .i64 e1.Task, .int .i64 e1.At, .int .i64 e1.C, .int .i64 e1.Due, .int .i64 e1.P] 30 (0, 0)), Own.blk b2 (.cells #[.int .i64 0, .int .i64 0] 26 (0, 0)), Own.blk b1 (.cells #[.slice A1_0 l1_0.length c1_0, .slice A1_1 l1_1.length c1_1] 32 (0, 0))] := hS9.bring 4 rfl
      by_cases hc4 : m1.length < 17592186044416
      · rw [if_pos hc4] at h
        refine ge_append (α := Int) (m := 0) (d := 48) (t := 23) (el := 3) (bytes := 8) (c1 := 1) (b1 := b4) (x := (.tmp 45)) (y := (.tmp 47)) (ty := 23) (v := v1) (z := .int .i64 0) (l := m1) (u := (i1 : Int)) (by kernel_rfl) (by kernel_rfl) (by kernel_rfl) (by kernel_rfl) (by kernel_rfl) rfl hS10 rfl (by omega) fun v3 w6 hS11 => ?_
        refine ge_batch [4] (ans := []) (vs := [(6, v3)]) (l := []) (by kernel_rfl) trivial ?_
        refine ge_nil fun a hF => hK9 _ _ ?_ a hF
        refine we_region [(0, 0), (1, 0)] rfl ?_
        refine ge_addn (d := 49) (ty := 3) (x := (.tmp 19)) (y := (.const (.int .i64 1))) (t := 3) (t2 := 3) (k := .i64) (m := i1) (by kernel_rfl) (by kernel_rfl) (by kernel_rfl) (by have h0 := hR0.small; omega) ?_
        refine ge_batch [1] (ans := []) (vs := [(19, .int .i64 ((i1 + 1 : Nat) : Int))]) (l := []) (by kernel_rfl) trivial ?_
        have hS12 : St w0 w6 [Own.blk b1 (.cells #[.slice A1_0 l1_0.length c1_0, .slice A1_1 l1_1.length c1_1] 32 (0, 0)), Own.of v3 3 (m1 ++ [(i1 : Int)]), Own.blk b3 (.cells #[.int .i64 e1.Task, .int .i64 e1.At, .int .i64 e1.C, .int .i64 e1.Due, .int .i64 e1.P] 30 (0, 0)), Own.blk b2 (.cells #[.int .i64 0, .int .i64 0] 26 (0, 0))] := hS11.bring 3 rfl
        have hS13 : St w0 w6 [Own.blk b2 (.cells #[.int .i64 0, .int .i64 0] 26 (0, 0)), Own.blk b1 (.cells #[.slice A1_0 l1_0.length c1_0, .slice A1_1 l1_1.length c1_1] 32 (0, 0)), Own.of v3 3 (m1 ++ [(i1 : Int)]), Own.blk b3 (.cells #[.int .i64 e1.Task, .int .i64 e1.At, .int .i64 e1.C, .int .i64 e1.Due, .int .i64 e1.P] 30 (0, 0))] := hS12.bring 3 rfl
        have hS14 : St w0 w6 [Own.blk b2 (.cells #[.int .i64 0, .int .i64 0] 26 (0, 0)), Own.blk b1 (.cells #[.slice A1_0 l1_0.length c1_0, .slice A1_1 l1_1.length c1_1] 32 (0, 0)), Own.of v3 3 (m1 ++ [(i1 : Int)])] := hS13.takeN 3
        obtain rfl := Option.some.inj h
        exact ge_nil fun a hF => hQ _ _ _ (Outs.again ⟨v3, hS14, hF.weaken ⟨by kernel_rfl, by kernel_rfl, by kernel_rfl, by kernel_rfl, by kernel_rfl, by kernel_rfl, trivial⟩⟩)
      · rw [if_neg hc4] at h
        cases h
    · rw [if_neg hc3] at h
      refine ge_known (t := 33) (b := decide (e2 > e1.Due)) (c := false) (by kernel_rfl) (decide_eq_false hc3) ?_
      refine ge_batch [5, 6, 7] (ans := []) (vs := [(36, .bool (decide (e2 < 0))), (35, .bool (decide (e2 < 0))), (34, .int .i64 e2)]) (l := []) (by kernel_rfl) trivial ?_
      by_cases hc5 : e2 < 0
      · rw [if_pos hc5] at h
        refine ge_known (t := 36) (b := decide (e2 < 0)) (c := true) (by kernel_rfl) (decide_eq_true hc5) ?_
        refine ge_batch [8, 9, 10, 11, 12, 13, 14, 15] (ans := [.val (.int .i64 e1.Due), .val (.slice A1_0 l1_0.length c1_0)]) (vs := [(44, .bool (decide (e1.Due ≤ (l1_0.length : Int)))), (43, .bool (decide (e1.Due ≤ (l1_0.length : Int)))), (42, .bool (decide (e1.Due ≤ (l1_0.length : Int)))), (41, .int .i64 (l1_0.length : Int)), (40, .slice A1_0 l1_0.length c1_0), (39, .pointer (some ⟨b1, 0, none⟩)), (38, .int .i64 e1.Due), (37, .pointer (some ⟨b3, 3, none⟩))]) (l := [.loaded ⟨b3, 3, none⟩ (.int .i64 e1.Due), .loaded ⟨b1, 0, none⟩ (.slice A1_0 l1_0.length c1_0)]) (by kernel_rfl) ⟨hS8.cell 0 rfl rfl, hS8.cell 2 rfl rfl, trivial⟩ ?_
        refine ge_nil fun a hF => hK12 _ _ ?_ a hF
        by_cases hc6 : e1.Due ≤ (l1_0.length : Int)
        · rw [if_pos hc6] at h
          refine we_known (t := 44) (b := decide (e1.Due ≤ (l1_0.length : Int))) (v := true) (by kernel_rfl) (decide_eq_true hc6) ?_
          refine we_true (by kernel_rfl) ?_
          refine we_region [(0, 0), (1, 0), (2, 1), (3, 2), (4, 0)] rfl ?_
          refine ge_batch [0, 1] (ans := []) (vs := [(46, .int .i64 (i1 : Int)), (45, v1)]) (l := []) (by kernel_rfl) trivial ?_
          refine ge_new (d := some 47) (o := .cells #[.int .i64 (i1 : Int)] 3) (v := fun b => .slice (some ⟨b, 0, none⟩) 1 1) hS8 (fun b => by kernel_rfl) fun b5 w7 hx7 hS15 => ?_
          have hS16 : St w0 w7 [Own.of v1 3 m1, Own.blk b5 (.cells #[.int .i64 (i1 : Int)] 3 (0, 0)), Own.blk b3 (.cells #[.int .i64 e1.Task, .int .i64 e1.At, .int .i64 e1.C, .int .i64 e1.Due, .int .i64 e1.P] 30 (0, 0)), Own.blk b2 (.cells #[.int .i64 0, .int .i64 0] 26 (0, 0)), Own.blk b1 (.cells #[.slice A1_0 l1_0.length c1_0, .slice A1_1 l1_1.length c1_1] 32 (0, 0))] := hS15.bring 4 rfl
          by_cases hc7 : m1.length < 17592186044416
          · rw [if_pos hc7] at h
            refine ge_append (α := Int) (m := 0) (d := 48) (t := 23) (el := 3) (bytes := 8) (c1 := 1) (b1 := b5) (x := (.tmp 45)) (y := (.tmp 47)) (ty := 23) (v := v1) (z := .int .i64 0) (l := m1) (u := (i1 : Int)) (by kernel_rfl) (by kernel_rfl) (by kernel_rfl) (by kernel_rfl) (by kernel_rfl) rfl hS16 rfl (by omega) fun v4 w8 hS17 => ?_
            refine ge_batch [4] (ans := []) (vs := [(6, v4)]) (l := []) (by kernel_rfl) trivial ?_
            refine ge_nil fun a hF => hK9 _ _ ?_ a hF
            refine we_region [(0, 0), (1, 0)] rfl ?_
            refine ge_addn (d := 49) (ty := 3) (x := (.tmp 19)) (y := (.const (.int .i64 1))) (t := 3) (t2 := 3) (k := .i64) (m := i1) (by kernel_rfl) (by kernel_rfl) (by kernel_rfl) (by have h0 := hR0.small; omega) ?_
            refine ge_batch [1] (ans := []) (vs := [(19, .int .i64 ((i1 + 1 : Nat) : Int))]) (l := []) (by kernel_rfl) trivial ?_
            have hS18 : St w0 w8 [Own.blk b1 (.cells #[.slice A1_0 l1_0.length c1_0, .slice A1_1 l1_1.length c1_1] 32 (0, 0)), Own.of v4 3 (m1 ++ [(i1 : Int)]), Own.blk b3 (.cells #[.int .i64 e1.Task, .int .i64 e1.At, .int .i64 e1.C, .int .i64 e1.Due, .int .i64 e1.P] 30 (0, 0)), Own.blk b2 (.cells #[.int .i64 0, .int .i64 0] 26 (0, 0))] := hS17.bring 3 rfl
            have hS19 : St w0 w8 [Own.blk b2 (.cells #[.int .i64 0, .int .i64 0] 26 (0, 0)), Own.blk b1 (.cells #[.slice A1_0 l1_0.length c1_0, .slice A1_1 l1_1.length c1_1] 32 (0, 0)), Own.of v4 3 (m1 ++ [(i1 : Int)]), Own.blk b3 (.cells #[.int .i64 e1.Task, .int .i64 e1.At, .int .i64 e1.C, .int .i64 e1.Due, .int .i64 e1.P] 30 (0, 0))] := hS18.bring 3 rfl
            have hS20 : St w0 w8 [Own.blk b2 (.cells #[.int .i64 0, .int .i64 0] 26 (0, 0)), Own.blk b1 (.cells #[.slice A1_0 l1_0.length c1_0, .slice A1_1 l1_1.length c1_1] 32 (0, 0)), Own.of v4 3 (m1 ++ [(i1 : Int)])] := hS19.takeN 3
            obtain rfl := Option.some.inj h
            exact ge_nil fun a hF => hQ _ _ _ (Outs.again ⟨v4, hS20, hF.weaken ⟨by kernel_rfl, by kernel_rfl, by kernel_rfl, by kernel_rfl, by kernel_rfl, by kernel_rfl, trivial⟩⟩)
          · rw [if_neg hc7] at h
            cases h
        · rw [if_neg hc6] at h
          refine we_known (t := 44) (b := decide (e1.Due ≤ (l1_0.length : Int))) (v := false) (by kernel_rfl) (decide_eq_false hc6) ?_
          refine we_false (by kernel_rfl) ?_
          refine we_skip fun a hF => hK9 _ _ ?_ a hF
          refine we_region [(0, 0), (1, 0)] rfl ?_
          refine ge_addn (d := 49) (ty := 3) (x := (.tmp 19)) (y := (.const (.int .i64 1))) (t := 3) (t2 := 3) (k := .i64) (m := i1) (by kernel_rfl) (by kernel_rfl) (by kernel_rfl) (by have h0 := hR0.small; omega) ?_
          refine ge_batch [1] (ans := []) (vs := [(19, .int .i64 ((i1 + 1 : Nat) : Int))]) (l := []) (by kernel_rfl) trivial ?_
          have hS21 : St w0 w4 [Own.of v1 3 m1, Own.blk b3 (.cells #[.int .i64 e1.Task, .int .i64 e1.At, .int .i64 e1.C, .int .i64 e1.Due, .int .i64 e1.P] 30 (0, 0)), Own.blk b2 (.cells #[.int .i64 0, .int .i64 0] 26 (0, 0)), Own.blk b1 (.cells #[.slice A1_0 l1_0.length c1_0, .slice A1_1 l1_1.length c1_1] 32 (0, 0))] := hS8.bring 3 rfl
          have hS22 : St w0 w4 [Own.blk b1 (.cells #[.slice A1_0 l1_0.length c1_0, .slice A1_1 l1_1.length c1_1] 32 (0, 0)), Own.of v1 3 m1, Own.blk b3 (.cells #[.int .i64 e1.Task, .int .i64 e1.At, .int .i64 e1.C, .int .i64 e1.Due, .int .i64 e1.P] 30 (0, 0)), Own.blk b2 (.cells #[.int .i64 0, .int .i64 0] 26 (0, 0))] := hS21.bring 3 rfl
          have hS23 : St w0 w4 [Own.blk b2 (.cells #[.int .i64 0, .int .i64 0] 26 (0, 0)), Own.blk b1 (.cells #[.slice A1_0 l1_0.length c1_0, .slice A1_1 l1_1.length c1_1] 32 (0, 0)), Own.of v1 3 m1, Own.blk b3 (.cells #[.int .i64 e1.Task, .int .i64 e1.At, .int .i64 e1.C, .int .i64 e1.Due, .int .i64 e1.P] 30 (0, 0))] := hS22.bring 3 rfl
          have hS24 : St w0 w4 [Own.blk b2 (.cells #[.int .i64 0, .int .i64 0] 26 (0, 0)), Own.blk b1 (.cells #[.slice A1_0 l1_0.length c1_0, .slice A1_1 l1_1.length c1_1] 32 (0, 0)), Own.of v1 3 m1] := hS23.takeN 3
          obtain rfl := Option.some.inj h
          exact ge_nil fun a hF => hQ _ _ _ (Outs.again ⟨v1, hS24, hF.weaken ⟨by kernel_rfl, by kernel_rfl, by kernel_rfl, by kernel_rfl, by kernel_rfl, by kernel_rfl, trivial⟩⟩)
      · rw [if_neg hc5] at h
        refine ge_known (t := 36) (b := decide (e2 < 0)) (c := false) (by kernel_rfl) (decide_eq_false hc5) ?_
        refine ge_batch [8, 9, 10, 11, 12, 13, 14, 15] (ans := []) (vs := [(44, .bool false), (43, .bool false), (42, undef), (41, undef), (40, undef), (39, undef), (38, undef), (37, undef)]) (l := []) (by kernel_rfl) trivial ?_
        refine ge_nil fun a hF => hK12 _ _ ?_ a hF
        refine we_false (by kernel_rfl) ?_
        refine we_skip fun a hF => hK9 _ _ ?_ a hF
        refine we_region [(0, 0), (1, 0)] rfl ?_
        refine ge_addn (d := 49) (ty := 3) (x := (.tmp 19)) (y := (.const (.int .i64 1))) (t := 3) (t2 := 3) (k := .i64) (m := i1) (by kernel_rfl) (by kernel_rfl) (by kernel_rfl) (by have h0 := hR0.small; omega) ?_
        refine ge_batch [1] (ans := []) (vs := [(19, .int .i64 ((i1 + 1 : Nat) : Int))]) (l := []) (by kernel_rfl) trivial ?_
        have hS25 : St w0 w4 [Own.of v1 3 m1, Own.blk b3 (.cells #[.int .i64 e1.Task, .int .i64 e1.At, .int .i64 e1.C, .int .i64 e1.Due, .int .i64 e1.P] 30 (0, 0)), Own.blk b2 (.cells #[.int .i64 0, .int .i64 0] 26 (0, 0)), Own.blk b1 (.cells #[.slice A1_0 l1_0.length c1_0, .slice A1_1 l1_1.length c1_1] 32 (0, 0))] := hS8.bring 3 rfl
        have hS26 : St w0 w4 [Own.blk b1 (.cells #[.slice A1_0 l1_0.length c1_0, .slice A1_1 l1_1.length c1_1] 32 (0, 0)), Own.of v1 3 m1, Own.blk b3 (.cells #[.int .i64 e1.Task, .int .i64 e1.At, .int .i64 e1.C, .int .i64 e1.Due, .int .i64 e1.P] 30 (0, 0)), Own.blk b2 (.cells #[.int .i64 0, .int .i64 0] 26 (0, 0))] := hS25.bring 3 rfl
        have hS27 : St w0 w4 [Own.blk b2 (.cells #[.int .i64 0, .int .i64 0] 26 (0, 0)), Own.blk b1 (.cells #[.slice A1_0 l1_0.length c1_0, .slice A1_1 l1_1.length c1_1] 32 (0, 0)), Own.of v1 3 m1, Own.blk b3 (.cells #[.int .i64 e1.Task, .int .i64 e1.At, .int .i64 e1.C, .int .i64 e1.Due, .int .i64 e1.P] 30 (0, 0))] := hS26.bring 3 rfl
        have hS28 : St w0 w4 [Own.blk b2 (.cells #[.int .i64 0, .int .i64 0] 26 (0, 0)), Own.blk b1 (.cells #[.slice A1_0 l1_0.length c1_0, .slice A1_1 l1_1.length c1_1] 32 (0, 0)), Own.of v1 3 m1] := hS27.takeN 3
        obtain rfl := Option.some.inj h
        exact ge_nil fun a hF => hQ _ _ _ (Outs.again ⟨v1, hS28, hF.weaken ⟨by kernel_rfl, by kernel_rfl, by kernel_rfl, by kernel_rfl, by kernel_rfl, by kernel_rfl, trivial⟩⟩)
  · rw [if_neg hc2] at h
    refine we_known (t := 20) (b := decide ((i1 : Int) < (l0.length : Int))) (v := false) (by kernel_rfl) (decide_eq_false hc2) ?_
    refine we_false (by kernel_rfl) ?_
    have hS29 : St w0 w [Own.of v1 3 m1, Own.blk b2 (.cells #[.int .i64 0, .int .i64 0] 26 (0, 0)), Own.blk b1 (.cells #[.slice A1_0 l1_0.length c1_0, .slice A1_1 l1_1.length c1_1] 32 (0, 0))] := hS.bring 2 rfl
    have hS30 : St w0 w [Own.blk b2 (.cells #[.int .i64 0, .int .i64 0] 26 (0, 0)), Own.of v1 3 m1, Own.blk b1 (.cells #[.slice A1_0 l1_0.length c1_0, .slice A1_1 l1_1.length c1_1] 32 (0, 0))] := hS29.bring 1 rfl
    have hS31 : St w0 w [Own.blk b2 (.cells #[.int .i64 0, .int .i64 0] 26 (0, 0)), Own.of v1 3 m1] := hS30.takeN 2
    obtain rfl := Option.some.inj h
    exact we_exit fun a hF => hQ _ _ _ (Outs.out nofun (Exits.here ⟨v1, hS31, hF.weaken ⟨by kernel_rfl, by kernel_rfl, trivial⟩⟩))
theorem Late_ok (K : Nat) (l0 : List SJob) (A0 : Option Addr) (c0 : Nat) (l1_0 : List Int) (A1_0 : Option Addr) (c1_0 : Nat) (l1_1 : List Int) (A1_1 : Option Addr) (c1_1 : Nat) (w0 : World) (hR0 : RdL w0 A0 l0) (hR1_0 : RdL w0 A1_0 l1_0) (hR1_1 : RdL w0 A1_1 l1_1) (r : (List Int) × SFault) (h : Late.f K l0 l1_0 l1_1 = some r) :
    Calls Tryd.prog 11 #[.slice A0 l0.length c0, .agg #[.slice A1_0 l1_0.length c1_0, .slice A1_1 l1_1.length c1_1]] w0 (Late.Post w0 r) := by
  have hS := St.start w0
  unfold Late.f at h
  refine calls_enter (n := 52) (args := [.slice A0 l0.length c0, .agg #[.slice A1_0 l1_0.length c1_0, .slice A1_1 l1_1.length c1_1]]) (fn := Tryd.f11) rfl rfl rfl rfl ?_
  show WE _ _ _ _ [(0, .slice A0 l0.length c0), (1, .agg #[.slice A1_0 l1_0.length c1_0, .slice A1_1 l1_1.length c1_1])] _
  refine we_seq fun K1 hK1 => ?_
  refine we_region [(0, 1), (1, 0), (2, 1)] rfl ?_
  refine ge_new (d := some 3) (o := .cells #[.slice A1_0 l1_0.length c1_0, .slice A1_1 l1_1.length c1_1] 32) (v := fun b => .pointer (some ⟨b, 0, none⟩)) hS (fun b => by kernel_rfl) fun b1 w1 hx1 hS1 => ?_
  refine ge_batch [1] (ans := []) (vs := [(4, .slice none 0 0)]) (l := []) (by kernel_rfl) trivial ?_
  refine ge_new (d := some 5) (o := .cells #[.int .i64 0, .int .i64 0] 26) (v := fun b => .pointer (some ⟨b, 0, none⟩)) hS1 (fun b => by kernel_rfl) fun b2 w2 hx2 hS2 => ?_
  refine ge_nil fun a hF => hK1 _ _ ?_ a hF
  refine we_seq fun K2 hK2 => ?_
  refine we_seq fun K3 hK3 => ?_
  refine we_region [(0, 0), (1, 0), (2, 0), (3, 0), (4, 0), (5, 0)] rfl ?_
  refine ge_batch [0, 1, 2, 3, 4, 5] (ans := [.val (.slice A1_1 l1_1.length c1_1)]) (vs := [(15, .bool ((l1_1.length : Int) != (l0.length : Int))), (14, .int .i64 (l0.length : Int)), (13, .slice A0 l0.length c0), (12, .int .i64 (l1_1.length : Int)), (11, .slice A1_1 l1_1.length c1_1), (10, .pointer (some ⟨b1, 1, none⟩))]) (l := [.loaded ⟨b1, 1, none⟩ (.slice A1_1 l1_1.length c1_1)]) (by kernel_rfl) ⟨hS2.cell 1 rfl rfl, trivial⟩ ?_
  refine ge_nil fun a hF => hK3 _ _ ?_ a hF
  by_cases hc1 : (l1_1.length : Int) = (l0.length : Int)
  · rw [if_pos hc1] at h
    refine we_known (t := 15) (b := ((l1_1.length : Int) != (l0.length : Int))) (v := false) (by kernel_rfl) (bne_eq_false_iff_eq.2 hc1) ?_
    refine we_false (by kernel_rfl) ?_
    refine we_skip fun a hF => hK2 _ _ ?_ a hF
    refine we_seq fun K4 hK4 => ?_
    refine we_region [(0, 0)] rfl ?_
    refine ge_batch [0] (ans := []) (vs := [(6, .slice none 0 0)]) (l := []) (by kernel_rfl) trivial ?_
    refine ge_nil fun a hF => hK4 _ _ ?_ a hF
    refine we_seq fun K5 hK5 => ?_
    refine we_seq fun K6 hK6 => ?_
    refine we_region [(0, 0), (1, 0), (2, 0)] rfl ?_
    refine ge_batch [0, 1, 2] (ans := []) (vs := [(19, .int .i64 0), (18, .int .i64 (l0.length : Int)), (17, .slice A0 l0.length c0)]) (l := []) (by kernel_rfl) trivial ?_
    refine ge_nil fun a hF => hK6 _ _ ?_ a hF
    refine we_block ?_
    have hS3 : St w0 w2 [Own.of (.slice none 0 0) 3 ([] : List Int), Own.blk b2 (.cells #[.int .i64 0, .int .i64 0] 26 (0, 0)), Own.blk b1 (.cells #[.slice A1_0 l1_0.length c1_0, .slice A1_1 l1_1.length c1_1] 32 (0, 0))] := hS2.nil (α := Int) 3
    have hS4 : St w0 w2 [Own.blk b1 (.cells #[.slice A1_0 l1_0.length c1_0, .slice A1_1 l1_1.length c1_1] 32 (0, 0)), Own.of (.slice none 0 0) 3 ([] : List Int), Own.blk b2 (.cells #[.int .i64 0, .int .i64 0] 26 (0, 0))] := hS3.bring 2 rfl
    have hS5 : St w0 w2 [Own.blk b2 (.cells #[.int .i64 0, .int .i64 0] 26 (0, 0)), Own.blk b1 (.cells #[.slice A1_0 l1_0.length c1_0, .slice A1_1 l1_1.length c1_1] 32 (0, 0)), Own.of (.slice none 0 0) 3 ([] : List Int)] := hS4.bring 2 rfl
    rcases hq1 : iter (Late.r0 l0 l1_0 l1_1) K (([] : List Int), 0) with _ | (m3 | rr1)
    · rw [hq1] at h; cases h
    · rw [hq1] at h
      simp only [] at h
      refine we_iter (A := Late.A0 K w0 l0 A0 c0 l1_0 A1_0 c1_0 l1_1 A1_1 c1_1 hR0 hR1_0 hR1_1 b1 b2 hc1) (B := Late.B0 K w0 l0 A0 c0 l1_0 A1_0 c1_0 l1_1 A1_1 c1_1 hR0 hR1_0 hR1_1 b1 b2 hc1) hq1 (fun a hF => ⟨(.slice none 0 0), hS5, hF.weaken ⟨by kernel_rfl, by kernel_rfl, by kernel_rfl, by kernel_rfl, by kernel_rfl, by kernel_rfl, trivial⟩⟩) (fun s o hf a w hA Q hQ => Late_r0 K w0 l0 A0 c0 l1_0 A1_0 c1_0 l1_1 A1_1 c1_1 hR0 hR1_0 hR1_1 b1 b2 hc1 s o hf a w hA Q hQ) ?_
      rintro _ a w9 _ ⟨rfl, v5, hS32, hF⟩
      replace hS32 : St w0 w9 [Own.blk b2 (.cells #[.int .i64 0, .int .i64 0] 26 (0, 0)), Own.of v5 3 m3] := hS32
      refine hK5 [(5, .pointer (some ⟨b2, 0, none⟩)), (6, v5)] w9 ?_ a hF
      refine we_seq fun K13 hK13 => ?_
      refine we_region [(0, 0), (1, 0), (2, 0), (3, 2)] rfl ?_
      refine ge_batch [0, 1, 2] (ans := []) (vs := [(4, v5), (51, .agg #[.int .i64 0, .int .i64 0]), (50, v5)]) (l := []) (by kernel_rfl) trivial ?_
      refine ge_set (b := b2) (j := 0) (cs := #[.int .i64 0, .int .i64 0]) (t := 26) (vs := [.int .i64 0, .int .i64 0]) hS32 (by kernel_rfl) rfl rfl fun w10 hS33 => ?_
      have hS34 : St w0 w10 [Own.blk b2 (.cells #[.int .i64 0, .int .i64 0] 26 (0, 0)), Own.of v5 3 m3] := hS33
      refine ge_nil fun a hF => hK13 _ _ ?_ a hF
      have hS35 : St w0 w10 [Own.of v5 3 m3, Own.blk b2 (.cells #[.int .i64 0, .int .i64 0] 26 (0, 0))] := hS34.bring 1 rfl
      have hS36 : St w0 w10 [Own.of v5 3 m3] := hS35.takeN 1
      obtain rfl := Option.some.inj h
      exact we_ret (post_ret (rs := [.tmp 4, .cell 5 26]) (ans := [.val (.int .i64 0), .val (.int .i64 0)]) (vs := [v5, .agg #[.int .i64 0, .int .i64 0]]) (l := [.loaded ⟨b2, 0, none⟩ (.int .i64 0), .loaded ⟨b2, 1, none⟩ (.int .i64 0)]) rfl (by kernel_rfl) ⟨hS34.cell 0 rfl rfl, hS34.cell 0 rfl rfl, trivial⟩ ⟨v5, rfl, hS36⟩)
    · rw [hq1] at h
      simp only [] at h
      refine we_iter (A := Late.A0 K w0 l0 A0 c0 l1_0 A1_0 c1_0 l1_1 A1_1 c1_1 hR0 hR1_0 hR1_1 b1 b2 hc1) (B := Late.B0 K w0 l0 A0 c0 l1_0 A1_0 c1_0 l1_1 A1_1 c1_1 hR0 hR1_0 hR1_1 b1 b2 hc1) hq1 (fun a hF => ⟨(.slice none 0 0), hS5, hF.weaken ⟨by kernel_rfl, by kernel_rfl, by kernel_rfl, by kernel_rfl, by kernel_rfl, by kernel_rfl, trivial⟩⟩) (fun s o hf a w hA Q hQ => Late_r0 K w0 l0 A0 c0 l1_0 A1_0 c1_0 l1_1 A1_1 c1_1 hR0 hR1_0 hR1_1 b1 b2 hc1 s o hf a w hA Q hQ) ?_
      rintro _ a w1 _ ⟨rfl, hb⟩
      obtain rfl := Option.some.inj h
      exact hb
  · rw [if_neg hc1] at h
    refine we_known (t := 15) (b := ((l1_1.length : Int) != (l0.length : Int))) (v := true) (by kernel_rfl) (bne_iff_ne.2 hc1) ?_
    refine we_true (by kernel_rfl) ?_
    refine we_seq fun K14 hK14 => ?_
    refine we_region [(0, 0), (1, 0), (2, 2)] rfl ?_
    refine ge_batch [0, 1] (ans := []) (vs := [(4, .slice none 0 0), (16, .agg #[.int .i64 2, .int .i64 0])]) (l := []) (by kernel_rfl) trivial ?_
    refine ge_set (b := b2) (j := 0) (cs := #[.int .i64 0, .int .i64 0]) (t := 26) (vs := [.int .i64 2, .int .i64 0]) hS2 (by kernel_rfl) rfl rfl fun w11 hS37 => ?_
    have hS38 : St w0 w11 [Own.blk b2 (.cells #[.int .i64 2, .int .i64 0] 26 (0, 0)), Own.blk b1 (.cells #[.slice A1_0 l1_0.length c1_0, .slice A1_1 l1_1.length c1_1] 32 (0, 0))] := hS37
    refine ge_nil fun a hF => hK14 _ _ ?_ a hF
    have hS39 : St w0 w11 [Own.of (.slice none 0 0) 3 ([] : List Int), Own.blk b2 (.cells #[.int .i64 2, .int .i64 0] 26 (0, 0)), Own.blk b1 (.cells #[.slice A1_0 l1_0.length c1_0, .slice A1_1 l1_1.length c1_1] 32 (0, 0))] := hS38.nil (α := Int) 3
    have hS40 : St w0 w11 [Own.of (.slice none 0 0) 3 ([] : List Int)] := hS39.takeN 1
    obtain rfl := Option.some.inj h
    exact we_ret (post_ret (rs := [.tmp 4, .cell 5 26]) (ans := [.val (.int .i64 2), .val (.int .i64 0)]) (vs := [(.slice none 0 0), .agg #[.int .i64 2, .int .i64 0]]) (l := [.loaded ⟨b2, 0, none⟩ (.int .i64 2), .loaded ⟨b2, 1, none⟩ (.int .i64 0)]) rfl (by kernel_rfl) ⟨hS39.cell 1 rfl rfl, hS39.cell 1 rfl rfl, trivial⟩ ⟨(.slice none 0 0), rfl, hS40⟩)

/-! punctual/punctualref.F -/
abbrev F.Post (w0 : World) (r : SFault) (e : Ending) (w : World) : Prop := e = .returned (.agg #[.int .i64 r.Code, .int .i64 r.At]) ∧ St w0 w []
def F.f (x0 : Int) (x1 : Int) : SFault :=
  (⟨x0, x1⟩ : SFault)
theorem F_ok (x0 : Int) (x1 : Int) (w0 : World) (r : SFault) (h : F.f x0 x1 = r) :
    Calls Tryd.prog 21 #[.int .i64 x0, .int .i64 x1] w0 (F.Post w0 r) := by
  have hS := St.start w0
  unfold F.f at h
  refine calls_enter (n := 8) (args := [.int .i64 x0, .int .i64 x1]) (fn := Tryd.f21) rfl rfl rfl rfl ?_
  show WE _ _ _ _ [(0, .int .i64 x0), (1, .int .i64 x1)] _
  refine we_seq fun K1 hK1 => ?_
  refine we_region [(0, 1)] rfl ?_
  refine ge_new (d := some 4) (o := .cells #[.int .i64 0, .int .i64 0] 26) (v := fun b => .pointer (some ⟨b, 0, none⟩)) hS (fun b => by kernel_rfl) fun b1 w1 hx1 hS1 => ?_
  refine ge_nil fun a hF => hK1 _ _ ?_ a hF
  refine we_seq fun K2 hK2 => ?_
  refine we_region [(0, 0), (1, 0), (2, 0), (3, 2)] rfl ?_
  refine ge_batch [0, 1, 2] (ans := []) (vs := [(7, .agg #[.int .i64 x0, .int .i64 x1]), (6, .int .i64 x1), (5, .int .i64 x0)]) (l := []) (by kernel_rfl) trivial ?_
  refine ge_set (b := b1) (j := 0) (cs := #[.int .i64 0, .int .i64 0]) (t := 26) (vs := [.int .i64 x0, .int .i64 x1]) hS1 (by kernel_rfl) rfl rfl fun w2 hS2 => ?_
  have hS3 : St w0 w2 [Own.blk b1 (.cells #[.int .i64 x0, .int .i64 x1] 26 (0, 0))] := hS2
  refine ge_nil fun a hF => hK2 _ _ ?_ a hF
  have hS4 : St w0 w2 [] := hS3.takeN 0
  subst h
  exact we_ret (post_ret (rs := [.cell 4 26]) (ans := [.val (.int .i64 x0), .val (.int .i64 x1)]) (vs := [.agg #[.int .i64 x0, .int .i64 x1]]) (l := [.loaded ⟨b1, 0, none⟩ (.int .i64 x0), .loaded ⟨b1, 1, none⟩ (.int .i64 x1)]) rfl (by kernel_rfl) ⟨hS3.cell 0 rfl rfl, hS3.cell 0 rfl rfl, trivial⟩ ⟨rfl, hS4⟩)

/-! punctual/punctualref.Tardy -/
abbrev Tardy.Post (w0 : World) (r : (List Int) × SFault) (e : Ending) (w : World) : Prop := ∃ (v0 : Value), e = .returned (.tuple #[v0, .agg #[.int .i64 r.2.Code, .int .i64 r.2.At]]) ∧ St w0 w [Own.of v0 3 r.1]
def Tardy.r0 (l0 : List SJob) (l1_0 : List Int) (l1_1 : List Int) : (List Int) × Nat → Option (((List Int) × Nat) ⊕ ((List Int) ⊕ ((List Int) × SFault)))
  | (m1, i1) =>
    if (i1 : Int) < (l0.length : Int) then
      match l0[i1]? with
      | none => none
      | some e1 =>
        match l1_1[i1]? with
        | none => none
        | some e2 =>
          if e2 > e1.Due then
            if m1.length < 17592186044416 then
              some (.inl ((m1 ++ [(i1 : Int)]), (i1 + 1)))
            else
              none
          else
            if e2 < 0 then
              if e1.Due ≤ (l1_0.length : Int) then
                if m1.length < 17592186044416 then
                  some (.inl ((m1 ++ [(i1 : Int)]), (i1 + 1)))
                else
                  none
              else
                some (.inl (m1, (i1 + 1)))
            else
              some (.inl (m1, (i1 + 1)))
    else
      some (.inr (.inl m1))
def Tardy.f (K : Nat) (l0 : List SJob) (l1_0 : List Int) (l1_1 : List Int) : Option ((List Int) × SFault) :=
  if (l1_1.length : Int) = (l0.length : Int) then
    match iter (Tardy.r0 l0 l1_0 l1_1) K (([] : List Int), 0) with
    | none => none
    | some (.inl m3) =>
      some (m3, (⟨0, 0⟩ : SFault))
    | some (.inr rr1) =>
      some rr1
  else
    some (([] : List Int), (F.f 2 0))
abbrev Tardy.A0 (K : Nat) (w0 : World) (l0 : List SJob) (A0 : Option Addr) (c0 : Nat) (l1_0 : List Int) (A1_0 : Option Addr) (c1_0 : Nat) (l1_1 : List Int) (A1_1 : Option Addr) (c1_1 : Nat) (hR0 : RdL w0 A0 l0) (hR1_0 : RdL w0 A1_0 l1_0) (hR1_1 : RdL w0 A1_1 l1_1) (b1 : Nat) (b2 : Nat) (hc1 : (l1_1.length : Int) = (l0.length : Int)) : ((List Int) × Nat) → Act → World → Prop := fun (s : (List Int) × Nat) a w => ∃ (v1 : Value), St w0 w [Own.blk b2 (.cells #[.int .i64 0, .int .i64 0] 26 (0, 0)), Own.blk b1 (.cells #[.slice A1_0 l1_0.length c1_0, .slice A1_1 l1_1.length c1_1] 32 (0, 0)), Own.of v1 3 s.1] ∧ Frm 54 a [(3, .pointer (some ⟨b1, 0, none⟩)), (5, .pointer (some ⟨b2, 0, none⟩)), (6, v1), (16, .slice A0 l0.length c0), (17, .int .i64 (l0.length : Int)), (18, .int .i64 (s.2 : Int))]
abbrev Tardy.B0 (K : Nat) (w0 : World) (l0 : List SJob) (A0 : Option Addr) (c0 : Nat) (l1_0 : List Int) (A1_0 : Option Addr) (c1_0 : Nat) (l1_1 : List Int) (A1_1 : Option Addr) (c1_1 : Nat) (hR0 : RdL w0 A0 l0) (hR1_0 : RdL w0 A1_0 l1_0) (hR1_1 : RdL w0 A1_1 l1_1) (b1 : Nat) (b2 : Nat) (hc1 : (l1_1.length : Int) = (l0.length : Int)) : ((List Int) ⊕ ((List Int) × SFault)) → Exit → Act → World → Prop := Exits 0 (fun (s : (List Int)) a w => ∃ (v2 : Value), St w0 w [Own.blk b2 (.cells #[.int .i64 0, .int .i64 0] 26 (0, 0)), Own.of v2 3 s] ∧ Frm 54 a [(5, .pointer (some ⟨b2, 0, none⟩)), (6, v2)]) (Rets Tryd.prog Tryd.f16 (Tardy.Post w0))
theorem Tardy_r0 (K : Nat) (w0 : World) (l0 : List SJob) (A0 : Option Addr) (c0 : Nat) (l1_0 : List Int) (A1_0 : Option Addr) (c1_0 : Nat) (l1_1 : List Int) (A1_1 : Option Addr) (c1_1 : Nat) (hR0 : RdL w0 A0 l0) (hR1_0 : RdL w0 A1_0 l1_0) (hR1_1 : RdL w0 A1_1 l1_1) (b1 : Nat) (b2 : Nat) (hc1 : (l1_1.length : Int) = (l0.length : Int)) (s : (List Int) × Nat) (o : ((List Int) × Nat) ⊕ ((List Int) ⊕ ((List Int) × SFault))) (h : Tardy.r0 l0 l1_0 l1_1 s = some o) (a : Act) (w : World) (hA : Tardy.A0 K w0 l0 A0 c0 l1_0 A1_0 c1_0 l1_1 A1_1 c1_1 hR0 hR1_0 hR1_1 b1 b2 hc1 s a w) (Q : Exit → Act → World → Prop) (hQ : ∀ x a w, Outs (Tardy.A0 K w0 l0 A0 c0 l1_0 A1_0 c1_0 l1_1 A1_1 c1_1 hR0 hR1_0 hR1_1 b1 b2 hc1) (Tardy.B0 K w0 l0 A0 c0 l1_0 A1_0 c1_0 l1_1 A1_1 c1_1 hR0 hR1_0 hR1_1 b1 b2 hc1) o x a w → Q x a w) : (subF Tryd.f16 [1, 1, 1, 0, 1, 0, 0]).wp Tryd.prog Q a w := by
  obtain ⟨m1, i1⟩ := s
  obtain ⟨v1, hS, hF⟩ := hA
  replace hS : St w0 w [Own.blk b2 (.cells #[.int .i64 0, .int .i64 0] 26 (0, 0)), Own.blk b1 (.cells #[.slice A1_0 l1_0.length c1_0, .slice A1_1 l1_1.length c1_1] 32 (0, 0)), Own.of v1 3 m1] := hS
  simp only [Tardy.r0] at h
  refine (?_ : WE Tryd.prog 54 (subF Tryd.f16 [1, 1, 1, 0, 1, 0, 0]) Q [(3, .pointer (some ⟨b1, 0, none⟩)), (5, .pointer (some ⟨b2, 0, none⟩)), (6, v1), (16, .slice A0 l0.length c0), (17, .int .i64 (l0.length : Int)), (18, .int .i64 (i1 : Int))] w) a hF
  clear hF a
  refine we_seq fun K7 hK7 => ?_
  refine we_region [(0, 0)] rfl ?_
  refine ge_batch [0] (ans := []) (vs := [(19, .bool (decide ((i1 : Int) < (l0.length : Int))))]) (l := []) (by kernel_rfl) trivial ?_
  refine ge_nil fun a hF => hK7 _ _ ?_ a hF
  refine we_seq fun K8 hK8 => ?_
  by_cases hc2 : (i1 : Int) < (l0.length : Int)
  · rw [if_pos hc2] at h
    refine we_known (t := 19) (b := decide ((i1 : Int) < (l0.length : Int))) (v := true) (by kernel_rfl) (decide_eq_true hc2) ?_
    refine we_true (by kernel_rfl) ?_
    refine we_skip fun a hF => hK8 _ _ ?_ a hF
    refine we_seq fun K9 hK9 => ?_
    refine we_block ?_
    refine we_seq fun K10 hK10 => ?_
    refine we_region [(0, 0), (1, 0), (2, 0), (3, 1), (4, 0), (5, 2)] rfl ?_
    refine ge_batch [0] (ans := []) (vs := [(20, .int .i64 (i1 : Int))]) (l := []) (by kernel_rfl) trivial ?_
    rcases hx3 : l0[i1]? with _ | e1
    · rw [hx3] at h; cases h
    rw [hx3] at h
    simp only [] at h
    refine ge_index (d := 21) (ty := 0) (t := 22) (el := 30) (sz := 5) (m := l0.length) (c := c0) (x := (.tmp 16)) (y := (.tmp 18)) (A := A0) (k' := .i64) (j := (i1 : Int)) (jn := i1) (b0 := blkOf A0) (o0 := offOf A0) (by kernel_rfl) (by kernel_rfl) (by kernel_rfl) (by kernel_rfl) (by kernel_rfl) ((hS.rd hR0).eqSome (pos_of_get hx3)) rfl (lt_of_get hx3) ?_
    refine ge_batch [2] (ans := [.val (.int .i64 e1.Task), .val (.int .i64 e1.At), .val (.int .i64 e1.C), .val (.int .i64 e1.Due), .val (.int .i64 e1.P)]) (vs := [(22, .agg #[.int .i64 e1.Task, .int .i64 e1.At, .int .i64 e1.C, .int .i64 e1.Due, .int .i64 e1.P])]) (l := [.loaded ⟨blkOf A0, offOf A0 + i1 * 5, none⟩ (.int .i64 e1.Task), .loaded ⟨blkOf A0, offOf A0 + i1 * 5 + 1, none⟩ (.int .i64 e1.At), .loaded ⟨blkOf A0, offOf A0 + i1 * 5 + 2, none⟩ (.int .i64 e1.C), .loaded ⟨blkOf A0, offOf A0 + i1 * 5 + 3, none⟩ (.int .i64 e1.Due), .loaded ⟨blkOf A0, offOf A0 + i1 * 5 + 4, none⟩ (.int .i64 e1.P)]) (by kernel_rfl) ⟨RdL.cell (j := 0) (hS.rd hR0) hx3 rfl, RdL.cell (j := 1) (hS.rd hR0) hx3 rfl, RdL.cell (j := 2) (hS.rd hR0) hx3 rfl, RdL.cell (j := 3) (hS.rd hR0) hx3 rfl, RdL.cell (j := 4) (hS.rd hR0) hx3 rfl, trivial⟩ ?_
    refine ge_new (d := some 8) (o := .cells #[.int .i64 0, .int .i64 0, .int .i64 0, .int .i64 0, .int .i64 0] 30) (v := fun b => .pointer (some ⟨b, 0, none⟩)) hS (fun b => by kernel_rfl) fun b3 w3 hx4 hS6 => ?_
    refine ge_batch [4] (ans := []) (vs := [(7, .int .i64 (i1 : Int))]) (l := []) (by kernel_rfl) trivial ?_
    refine ge_set (b := b3) (j := 0) (cs := #[.int .i64 0, .int .i64 0, .int .i64 0, .int .i64 0, .int .i64 0]) (t := 30) (vs := [.int .i64 e1.Task, .int .i64 e1.At, .int .i64 e1.C, .int .i64 e1.Due, .int .i64 e1.P]) hS6 (by kernel_rfl) rfl rfl fun w4 hS7 => ?_
    have hS8 : St w0 w4 [Own.blk b3 (.cells #[.int .i64 e1.Task, .int .i64 e1.At, .int .i64 e1.C, .int .i64 e1.Due, .int .i64 e1.P] 30 (0, 0)), Own.blk b2 (.cells #[.int .i64 0, .int .i64 0] 26 (0, 0)), Own.blk b1 (.cells #[.slice A1_0 l1_0.length c1_0, .slice A1_1 l1_1.length c1_1] 32 (0, 0)), Own.of v1 3 m1] := hS7
    refine ge_nil fun a hF => hK10 _ _ ?_ a hF
    refine we_seq fun K11 hK11 => ?_
    refine we_draws (by kernel_rfl) [(0, 0), (1, 0), (2, 0), (3, 0), (4, 0), (5, 0), (6, 0), (7, 0), (8, 0), (9, 0), (10, 0), (11, 0), (12, 0), (13, 0), (14, 0), (15, 0), (16, 0), (17, 0), (18, 0), (19, 0), (20, 0), (21, 0), (22, 0), (23, 0)] (by kernel_rfl) ?_
    have hS9 : St w0 w4.drew [Own.blk b3 (.cells #[.int .i64 e1.Task, .int .i64 e1.At, .int .i64 e1.C, .int .i64 e1.Due, .int .i64 e1.P] 30 (0, 0)), Own.blk b2 (.cells #[.int .i64 0, .int .i64 0] 26 (0, 0)), Own.blk b1 (.cells #[.slice A1_0 l1_0.length c1_0, .slice A1_1 l1_1.length c1_1] 32 (0, 0)), Own.of v1 3 m1] := hS8.drew
    refine ge_batch [0, 1, 2] (ans := [.val (.slice A1_1 l1_1.length c1_1)]) (vs := [(25, .int .i64 (i1 : Int)), (24, .slice A1_1 l1_1.length c1_1), (23, .pointer (some ⟨b1, 1, none⟩))]) (l := [.loaded ⟨b1, 1, none⟩ (.slice A1_1 l1_1.length c1_1)]) (by kernel_rfl) ⟨hS9.cell 2 rfl rfl, trivial⟩ ?_
    rcases hx5 : l1_1[i1]? with _ | e2
    · rw [hx5] at h; cases h
    rw [hx5] at h
    simp only [] at h
    refine ge_index (d := 26) (ty := 0) (t := 23) (el := 3) (sz := 1) (m := l1_1.length) (c := c1_1) (x := (.tmp 24)) (y := (.tmp 25)) (A := A1_1) (k' := .i64) (j := (i1 : Int)) (jn := i1) (b0 := blkOf A1_1) (o0 := offOf A1_1) (by kernel_rfl) (by kernel_rfl) (by kernel_rfl) (by kernel_rfl) (by kernel_rfl) ((hS9.rd hR1_1).eqSome (pos_of_get hx5)) rfl (lt_of_get hx5) ?_
    refine ge_batch [4, 5, 6, 7, 8] (ans := [.val (.int .i64 e2), .val (.int .i64 e1.Due)]) (vs := [(31, .bool (decide (e2 > e1.Due))), (30, .bool (decide (e2 > e1.Due))), (29, .int .i64 e1.Due), (28, .pointer (some ⟨b3, 3, none⟩)), (27, .int .i64 e2)]) (l := [.loaded ⟨blkOf A1_1, offOf A1_1 + i1 * 1, none⟩ (.int .i64 e2), .loaded ⟨b3, 3, none⟩ (.int .i64 e1.Due)]) (by kernel_rfl) ⟨RdL.cell (j := 0) (hS9.rd hR1_1) hx5 rfl, hS9.cell 0 rfl rfl, trivial⟩ ?_
    by_cases hc3 : e2 > e1.Due
    · rw [if_pos hc3] at h
      refine ge_known (t := 31) (b := decide (e2 > e1.Due)) (c := true) (by kernel_rfl) (decide_eq_true hc3) ?_
      refine ge_batch [9, 10, 11, 12, 13, 14, 15, 16, 17, 18, 19, 20, 21, 22, 23] (ans := []) (vs := [(46, .bool true), (45, undef), (44, undef), (43, undef), (42, undef), (41, undef), (40, undef), (39, undef), (38, undef), (37, undef), (36, undef), (35, undef), (34, undef), (33, undef), (32, undef)]) (l := []) (by kernel_rfl) trivial ?_
      refine ge_nil fun a hF => hK11 _ _ ?_ a hF
      refine we_true (by kernel_rfl) ?_
      refine we_region [(0, 0), (1, 0), (2, 1), (3, 2), (4, 0)] rfl ?_
      refine ge_batch [0, 1] (ans := []) (vs := [(48, .int .i64 (i1 : Int)), (47, v1)]) (l := []) (by kernel_rfl) trivial ?_
      refine ge_new (d := some 49) (o := .cells #[.int .i64 (i1 : Int)] 3) (v := fun b => .slice (some ⟨b, 0, none⟩) 1 1) hS9 (fun b => by kernel_rfl) fun b4 w5 hx6 hS10 => ?_
      have hS11 : St w0 w5 [Own.of v1 3 m1, Own.blk b4 (.cells #[.int .i64 (i1 : Int)] 3 (0, 0)), Own.blk b3 (.cells #[.int .i64 e1.Task, .int .i64 e1.At, .int .i64 e1.C, .int .i64 e1.Due, .int .i64 e1.P] 30 (0, 0)), Own.blk b2 (.cells #[.int .i64 0, .int .i64 0] 26 (0, 0)), Own.blk b1 (.cells #[.slice A1_0 l1_0.length c1_0, .slice A1_1 l1_1.length c1_1] 32 (0, 0))] := hS10.bring 4 rfl
      by_cases hc4 : m1.length < 17592186044416
      · rw [if_pos hc4] at h
        refine ge_append (α := Int) (m := 0) (d := 50) (t := 23) (el := 3) (bytes := 8) (c1 := 1) (b1 := b4) (x := (.tmp 47)) (y := (.tmp 49)) (ty := 23) (v := v1) (z := .int .i64 0) (l := m1) (u := (i1 : Int)) (by kernel_rfl) (by kernel_rfl) (by kernel_rfl) (by kernel_rfl) (by kernel_rfl) rfl hS11 rfl (by omega) fun v3 w6 hS12 => ?_
        refine ge_batch [4] (ans := []) (vs := [(6, v3)]) (l := []) (by kernel_rfl) trivial ?_
        refine ge_nil fun a hF => hK9 _ _ ?_ a hF
        refine we_region [(0, 0), (1, 0)] rfl ?_
        refine ge_addn (d := 51) (ty := 3) (x := (.tmp 18)) (y := (.const (.int .i64 1))) (t := 3) (t2 := 3) (k := .i64) (m := i1) (by kernel_rfl) (by kernel_rfl) (by kernel_rfl) (by have h0 := hR0.small; omega) ?_
        refine ge_batch [1] (ans := []) (vs := [(18, .int .i64 ((i1 + 1 : Nat) : Int))]) (l := []) (by kernel_rfl) trivial ?_
        have hS13 : St w0 w6 [Own.blk b1 (.cells #[.slice A1_0 l1_0.length c1_0, .slice A1_1 l1_1.length c1_1] 32 (0, 0)), Own.of v3 3 (m1 ++ [(i1 : Int)]), Own.blk b3 (.cells #[.int .i64 e1.Task, .int .i64 e1.At, .int .i64 e1.C, .int .i64 e1.Due, .int .i64 e1.P] 30 (0, 0)), Own.blk b2 (.cells #[.int .i64 0, .int .i64 0] 26 (0, 0))] := hS12.bring 3 rfl
        have hS14 : St w0 w6 [Own.blk b2 (.cells #[.int .i64 0, .int .i64 0] 26 (0, 0)), Own.blk b1 (.cells #[.slice A1_0 l1_0.length c1_0, .slice A1_1 l1_1.length c1_1] 32 (0, 0)), Own.of v3 3 (m1 ++ [(i1 : Int)]), Own.blk b3 (.cells #[.int .i64 e1.Task, .int .i64 e1.At, .int .i64 e1.C, .int .i64 e1.Due, .int .i64 e1.P] 30 (0, 0))] := hS13.bring 3 rfl
        have hS15 : St w0 w6 [Own.blk b2 (.cells #[.int .i64 0, .int .i64 0] 26 (0, 0)), Own.blk b1 (.cells #[.slice A1_0 l1_0.length c1_0, .slice A1_1 l1_1.length c1_1] 32 (0, 0)), Own.of v3 3 (m1 ++ [(i1 : Int)])] := hS14.takeN 3
        obtain rfl := Option.some.inj h
        exact ge_nil fun a hF => hQ _ _ _ (Outs.again ⟨v3, hS15, hF.weaken ⟨by kernel_rfl, by kernel_rfl, by kernel_rfl, by kernel_rfl, by kernel_rfl, by kernel_rfl, trivial⟩⟩)
      · rw [if_neg hc4] at h
        cases h
    · rw [if_neg hc3] at h
      refine ge_known (t := 31) (b := decide (e2 > e1.Due)) (c := false) (by kernel_rfl) (decide_eq_false hc3) ?_
      refine ge_batch [9, 10, 11] (ans := [.val (.slice A1_1 l1_1.length c1_1)]) (vs := [(34, .int .i64 (i1 : Int)), (33, .slice A1_1 l1_1.length c1_1), (32, .pointer (some ⟨b1, 1, none⟩))]) (l := [.loaded ⟨b1, 1, none⟩ (.slice A1_1 l1_1.length c1_1)]) (by kernel_rfl) ⟨hS9.cell 2 rfl rfl, trivial⟩ ?_
      refine ge_index (d := 35) (ty := 0) (t := 23) (el := 3) (sz := 1) (m := l1_1.length) (c := c1_1) (x := (.tmp 33)) (y := (.tmp 34)) (A := A1_1) (k' := .i64) (j := (i1 : Int)) (jn := i1) (b0 := blkOf A1_1) (o0 := offOf A1_1) (by kernel_rfl) (by kernel_rfl) (by kernel_rfl) (by kernel_rfl) (by kernel_rfl) ((hS9.rd hR1_1).eqSome (pos_of_get hx5)) rfl (lt_of_get hx5) ?_
      refine ge_batch [13, 14, 15] (ans := [.val (.int .i64 e2)]) (vs := [(38, .bool (decide (e2 < 0))), (37, .bool (decide (e2 < 0))), (36, .int .i64 e2)]) (l := [.loaded ⟨blkOf A1_1, offOf A1_1 + i1 * 1, none⟩ (.int .i64 e2)]) (by kernel_rfl) ⟨RdL.cell (j := 0) (hS9.rd hR1_1) hx5 rfl, trivial⟩ ?_
      by_cases hc5 : e2 < 0
      · rw [if_pos hc5] at h
        refine ge_known (t := 38) (b := decide (e2 < 0)) (c := true) (by kernel_rfl) (decide_eq_true hc5) ?_
        refine ge_batch [16, 17, 18, 19, 20, 21, 22, 23] (ans := [.val (.int .i64 e1.Due), .val (.slice A1_0 l1_0.length c1_0)]) (vs := [(46, .bool (decide (e1.Due ≤ (l1_0.length : Int)))), (45, .bool (decide (e1.Due ≤ (l1_0.length : Int)))), (44, .bool (decide (e1.Due ≤ (l1_0.length : Int)))), (43, .int .i64 (l1_0.length : Int)), (42, .slice A1_0 l1_0.length c1_0), (41, .pointer (some ⟨b1, 0, none⟩)), (40, .int .i64 e1.Due), (39, .pointer (some ⟨b3, 3, none⟩))]) (l := [.loaded ⟨b3, 3, none⟩ (.int .i64 e1.Due), .loaded ⟨b1, 0, none⟩ (.slice A1_0 l1_0.length c1_0)]) (by kernel_rfl) ⟨hS9.cell 0 rfl rfl, hS9.cell 2 rfl rfl, trivial⟩ ?_
        refine ge_nil fun a hF => hK11 _ _ ?_ a hF
        by_cases hc6 : e1.Due ≤ (l1_0.length : Int)
        · rw [if_pos hc6] at h
          refine we_known (t := 46) (b := decide (e1.Due ≤ (l1_0.length : Int))) (v := true) (by kernel_rfl) (decide_eq_true hc6) ?_
          refine we_true (by kernel_rfl) ?_
          refine we_region [(0, 0), (1, 0), (2, 1), (3, 2), (4, 0)] rfl ?_
          refine ge_batch [0, 1] (ans := []) (vs := [(48, .int .i64 (i1 : Int)), (47, v1)]) (l := []) (by kernel_rfl) trivial ?_
          refine ge_new (d := some 49) (o := .cells #[.int .i64 (i1 : Int)] 3) (v := fun b => .slice (some ⟨b, 0, none⟩) 1 1) hS9 (fun b => by kernel_rfl) fun b5 w7 hx7 hS16 => ?_
          have hS17 : St w0 w7 [Own.of v1 3 m1, Own.blk b5 (.cells #[.int .i64 (i1 : Int)] 3 (0, 0)), Own.blk b3 (.cells #[.int .i64 e1.Task, .int .i64 e1.At, .int .i64 e1.C, .int .i64 e1.Due, .int .i64 e1.P] 30 (0, 0)), Own.blk b2 (.cells #[.int .i64 0, .int .i64 0] 26 (0, 0)), Own.blk b1 (.cells #[.slice A1_0 l1_0.length c1_0, .slice A1_1 l1_1.length c1_1] 32 (0, 0))] := hS16.bring 4 rfl
          by_cases hc7 : m1.length < 17592186044416
          · rw [if_pos hc7] at h
            refine ge_append (α := Int) (m := 0) (d := 50) (t := 23) (el := 3) (bytes := 8) (c1 := 1) (b1 := b5) (x := (.tmp 47)) (y := (.tmp 49)) (ty := 23) (v := v1) (z := .int .i64 0) (l := m1) (u := (i1 : Int)) (by kernel_rfl) (by kernel_rfl) (by kernel_rfl) (by kernel_rfl) (by kernel_rfl) rfl hS17 rfl (by omega) fun v4 w8 hS18 => ?_
            refine ge_batch [4] (ans := []) (vs := [(6, v4)]) (l := []) (by kernel_rfl) trivial ?_
            refine ge_nil fun a hF => hK9 _ _ ?_ a hF
            refine we_region [(0, 0), (1, 0)] rfl ?_
            refine ge_addn (d := 51) (ty := 3) (x := (.tmp 18)) (y := (.const (.int .i64 1))) (t := 3) (t2 := 3) (k := .i64) (m := i1) (by kernel_rfl) (by kernel_rfl) (by kernel_rfl) (by have h0 := hR0.small; omega) ?_
            refine ge_batch [1] (ans := []) (vs := [(18, .int .i64 ((i1 + 1 : Nat) : Int))]) (l := []) (by kernel_rfl) trivial ?_
            have hS19 : St w0 w8 [Own.blk b1 (.cells #[.slice A1_0 l1_0.length c1_0, .slice A1_1 l1_1.length c1_1] 32 (0, 0)), Own.of v4 3 (m1 ++ [(i1 : Int)]), Own.blk b3 (.cells #[.int .i64 e1.Task, .int .i64 e1.At, .int .i64 e1.C, .int .i64 e1.Due, .int .i64 e1.P] 30 (0, 0)), Own.blk b2 (.cells #[.int .i64 0, .int .i64 0] 26 (0, 0))] := hS18.bring 3 rfl
            have hS20 : St w0 w8 [Own.blk b2 (.cells #[.int .i64 0, .int .i64 0] 26 (0, 0)), Own.blk b1 (.cells #[.slice A1_0 l1_0.length c1_0, .slice A1_1 l1_1.length c1_1] 32 (0, 0)), Own.of v4 3 (m1 ++ [(i1 : Int)]), Own.blk b3 (.cells #[.int .i64 e1.Task, .int .i64 e1.At, .int .i64 e1.C, .int .i64 e1.Due, .int .i64 e1.P] 30 (0, 0))] := hS19.bring 3 rfl
            have hS21 : St w0 w8 [Own.blk b2 (.cells #[.int .i64 0, .int .i64 0] 26 (0, 0)), Own.blk b1 (.cells #[.slice A1_0 l1_0.length c1_0, .slice A1_1 l1_1.length c1_1] 32 (0, 0)), Own.of v4 3 (m1 ++ [(i1 : Int)])] := hS20.takeN 3
            obtain rfl := Option.some.inj h
            exact ge_nil fun a hF => hQ _ _ _ (Outs.again ⟨v4, hS21, hF.weaken ⟨by kernel_rfl, by kernel_rfl, by kernel_rfl, by kernel_rfl, by kernel_rfl, by kernel_rfl, trivial⟩⟩)
          · rw [if_neg hc7] at h
            cases h
        · rw [if_neg hc6] at h
          refine we_known (t := 46) (b := decide (e1.Due ≤ (l1_0.length : Int))) (v := false) (by kernel_rfl) (decide_eq_false hc6) ?_
          refine we_false (by kernel_rfl) ?_
          refine we_skip fun a hF => hK9 _ _ ?_ a hF
          refine we_region [(0, 0), (1, 0)] rfl ?_
          refine ge_addn (d := 51) (ty := 3) (x := (.tmp 18)) (y := (.const (.int .i64 1))) (t := 3) (t2 := 3) (k := .i64) (m := i1) (by kernel_rfl) (by kernel_rfl) (by kernel_rfl) (by have h0 := hR0.small; omega) ?_
          refine ge_batch [1] (ans := []) (vs := [(18, .int .i64 ((i1 + 1 : Nat) : Int))]) (l := []) (by kernel_rfl) trivial ?_
          have hS22 : St w0 w4.drew [Own.of v1 3 m1, Own.blk b3 (.cells #[.int .i64 e1.Task, .int .i64 e1.At, .int .i64 e1.C, .int .i64 e1.Due, .int .i64 e1.P] 30 (0, 0)), Own.blk b2 (.cells #[.int .i64 0, .int .i64 0] 26 (0, 0)), Own.blk b1 (.cells #[.slice A1_0 l1_0.length c1_0, .slice A1_1 l1_1.length c1_1] 32 (0, 0))] := hS9.bring 3 rfl
          have hS23 : St w0 w4.drew [Own.blk b1 (.cells #[.slice A1_0 l1_0.length c1_0, .slice A1_1 l1_1.length c1_1] 32 (0, 0)), Own.of v1 3 m1, Own.blk b3 (.cells #[.int .i64 e1.Task, .int .i64 e1.At, .int .i64 e1.C, .int .i64 e1.Due, .int .i64 e1.P] 30 (0, 0)), Own.blk b2 (.cells #[.int .i64 0, .int .i64 0] 26 (0, 0))] := hS22.bring 3 rfl
          have hS24 : St w0 w4.drew [Own.blk b2 (.cells #[.int .i64 0, .int .i64 0] 26 (0, 0)), Own.blk b1 (.cells #[.slice A1_0 l1_0.length c1_0, .slice A1_1 l1_1.length c1_1] 32 (0, 0)), Own.of v1 3 m1, Own.blk b3 (.cells #[.int .i64 e1.Task, .int .i64 e1.At, .int .i64 e1.C, .int .i64 e1.Due, .int .i64 e1.P] 30 (0, 0))] := hS23.bring 3 rfl
          have hS25 : St w0 w4.drew [Own.blk b2 (.cells #[.int .i64 0, .int .i64 0] 26 (0, 0)), Own.blk b1 (.cells #[.slice A1_0 l1_0.length c1_0, .slice A1_1 l1_1.length c1_1] 32 (0, 0)), Own.of v1 3 m1] := hS24.takeN 3
          obtain rfl := Option.some.inj h
          exact ge_nil fun a hF => hQ _ _ _ (Outs.again ⟨v1, hS25, hF.weaken ⟨by kernel_rfl, by kernel_rfl, by kernel_rfl, by kernel_rfl, by kernel_rfl, by kernel_rfl, trivial⟩⟩)
      · rw [if_neg hc5] at h
        refine ge_known (t := 38) (b := decide (e2 < 0)) (c := false) (by kernel_rfl) (decide_eq_false hc5) ?_
        refine ge_batch [16, 17, 18, 19, 20, 21, 22, 23] (ans := []) (vs := [(46, .bool false), (45, .bool false), (44, undef), (43, undef), (42, undef), (41, undef), (40, undef), (39, undef)]) (l := []) (by kernel_rfl) trivial ?_
        refine ge_nil fun a hF => hK11 _ _ ?_ a hF
        refine we_false (by kernel_rfl) ?_
        refine we_skip fun a hF => hK9 _ _ ?_ a hF
        refine we_region [(0, 0), (1, 0)] rfl ?_
        refine ge_addn (d := 51) (ty := 3) (x := (.tmp 18)) (y := (.const (.int .i64 1))) (t := 3) (t2 := 3) (k := .i64) (m := i1) (by kernel_rfl) (by kernel_rfl) (by kernel_rfl) (by have h0 := hR0.small; omega) ?_
        refine ge_batch [1] (ans := []) (vs := [(18, .int .i64 ((i1 + 1 : Nat) : Int))]) (l := []) (by kernel_rfl) trivial ?_
        have hS26 : St w0 w4.drew [Own.of v1 3 m1, Own.blk b3 (.cells #[.int .i64 e1.Task, .int .i64 e1.At, .int .i64 e1.C, .int .i64 e1.Due, .int .i64 e1.P] 30 (0, 0)), Own.blk b2 (.cells #[.int .i64 0, .int .i64 0] 26 (0, 0)), Own.blk b1 (.cells #[.slice A1_0 l1_0.length c1_0, .slice A1_1 l1_1.length c1_1] 32 (0, 0))] := hS9.bring 3 rfl
        have hS27 : St w0 w4.drew [Own.blk b1 (.cells #[.slice A1_0 l1_0.length c1_0, .slice A1_1 l1_1.length c1_1] 32 (0, 0)), Own.of v1 3 m1, Own.blk b3 (.cells #[.int .i64 e1.Task, .int .i64 e1.At, .int .i64 e1.C, .int .i64 e1.Due, .int .i64 e1.P] 30 (0, 0)), Own.blk b2 (.cells #[.int .i64 0, .int .i64 0] 26 (0, 0))] := hS26.bring 3 rfl
        have hS28 : St w0 w4.drew [Own.blk b2 (.cells #[.int .i64 0, .int .i64 0] 26 (0, 0)), Own.blk b1 (.cells #[.slice A1_0 l1_0.length c1_0, .slice A1_1 l1_1.length c1_1] 32 (0, 0)), Own.of v1 3 m1, Own.blk b3 (.cells #[.int .i64 e1.Task, .int .i64 e1.At, .int .i64 e1.C, .int .i64 e1.Due, .int .i64 e1.P] 30 (0, 0))] := hS27.bring 3 rfl
        have hS29 : St w0 w4.drew [Own.blk b2 (.cells #[.int .i64 0, .int .i64 0] 26 (0, 0)), Own.blk b1 (.cells #[.slice A1_0 l1_0.length c1_0, .slice A1_1 l1_1.length c1_1] 32 (0, 0)), Own.of v1 3 m1] := hS28.takeN 3
        obtain rfl := Option.some.inj h
        exact ge_nil fun a hF => hQ _ _ _ (Outs.again ⟨v1, hS29, hF.weaken ⟨by kernel_rfl, by kernel_rfl, by kernel_rfl, by kernel_rfl, by kernel_rfl, by kernel_rfl, trivial⟩⟩)
  · rw [if_neg hc2] at h
    refine we_known (t := 19) (b := decide ((i1 : Int) < (l0.length : Int))) (v := false) (by kernel_rfl) (decide_eq_false hc2) ?_
    refine we_false (by kernel_rfl) ?_
    have hS30 : St w0 w [Own.of v1 3 m1, Own.blk b2 (.cells #[.int .i64 0, .int .i64 0] 26 (0, 0)), Own.blk b1 (.cells #[.slice A1_0 l1_0.length c1_0, .slice A1_1 l1_1.length c1_1] 32 (0, 0))] := hS.bring 2 rfl
    have hS31 : St w0 w [Own.blk b2 (.cells #[.int .i64 0, .int .i64 0] 26 (0, 0)), Own.of v1 3 m1, Own.blk b1 (.cells #[.slice A1_0 l1_0.length c1_0, .slice A1_1 l1_1.length c1_1] 32 (0, 0))] := hS30.bring 1 rfl
    have hS32 : St w0 w [Own.blk b2 (.cells #[.int .i64 0, .int .i64 0] 26 (0, 0)), Own.of v1 3 m1] := hS31.takeN 2
    obtain rfl := Option.some.inj h
    exact we_exit fun a hF => hQ _ _ _ (Outs.out nofun (Exits.here ⟨v1, hS32, hF.weaken ⟨by kernel_rfl, by kernel_rfl, trivial⟩⟩))
theorem Tardy_ok (K : Nat) (l0 : List SJob) (A0 : Option Addr) (c0 : Nat) (l1_0 : List Int) (A1_0 : Option Addr) (c1_0 : Nat) (l1_1 : List Int) (A1_1 : Option Addr) (c1_1 : Nat) (w0 : World) (hR0 : RdL w0 A0 l0) (hR1_0 : RdL w0 A1_0 l1_0) (hR1_1 : RdL w0 A1_1 l1_1) (r : (List Int) × SFault) (h : Tardy.f K l0 l1_0 l1_1 = some r) :
    Calls Tryd.prog 16 #[.slice A0 l0.length c0, .agg #[.slice A1_0 l1_0.length c1_0, .slice A1_1 l1_1.length c1_1]] w0 (Tardy.Post w0 r) := by
  have hS := St.start w0
  unfold Tardy.f at h
  refine calls_enter (n := 54) (args := [.slice A0 l0.length c0, .agg #[.slice A1_0 l1_0.length c1_0, .slice A1_1 l1_1.length c1_1]]) (fn := Tryd.f16) rfl rfl rfl rfl ?_
  show WE _ _ _ _ [(0, .slice A0 l0.length c0), (1, .agg #[.slice A1_0 l1_0.length c1_0, .slice A1_1 l1_1.length c1_1])] _
  refine we_seq fun K1 hK1 => ?_
  refine we_region [(0, 1), (1, 0), (2, 1)] rfl ?_
  refine ge_new (d := some 3) (o := .cells #[.slice A1_0 l1_0.length c1_0, .slice A1_1 l1_1.length c1_1] 32) (v := fun b => .pointer (some ⟨b, 0, none⟩)) hS (fun b => by kernel_rfl) fun b1 w1 hx1 hS1 => ?_
  refine ge_batch [1] (ans := []) (vs := [(4, .slice none 0 0)]) (l := []) (by kernel_rfl) trivial ?_
  refine ge_new (d := some 5) (o := .cells #[.int .i64 0, .int .i64 0] 26) (v := fun b => .pointer (some ⟨b, 0, none⟩)) hS1 (fun b => by kernel_rfl) fun b2 w2 hx2 hS2 => ?_
  refine ge_nil fun a hF => hK1 _ _ ?_ a hF
  refine we_seq fun K2 hK2 => ?_
  refine we_seq fun K3 hK3 => ?_
  refine we_region [(0, 0), (1, 0), (2, 0), (3, 0), (4, 0), (5, 0)] rfl ?_
  refine ge_batch [0, 1, 2, 3, 4, 5] (ans := [.val (.slice A1_1 l1_1.length c1_1)]) (vs := [(14, .bool ((l1_1.length : Int) != (l0.length : Int))), (13, .int .i64 (l0.length : Int)), (12, .slice A0 l0.length c0), (11, .int .i64 (l1_1.length : Int)), (10, .slice A1_1 l1_1.length c1_1), (9, .pointer (some ⟨b1, 1, none⟩))]) (l := [.loaded ⟨b1, 1, none⟩ (.slice A1_1 l1_1.length c1_1)]) (by kernel_rfl) ⟨hS2.cell 1 rfl rfl, trivial⟩ ?_
  refine ge_nil fun a hF => hK3 _ _ ?_ a hF
  by_cases hc1 : (l1_1.length : Int) = (l0.length : Int)
  · rw [if_pos hc1] at h
    refine we_known (t := 14) (b := ((l1_1.length : Int) != (l0.length : Int))) (v := false) (by kernel_rfl) (bne_eq_false_iff_eq.2 hc1) ?_
    refine we_false (by kernel_rfl) ?_
    refine we_skip fun a hF => hK2 _ _ ?_ a hF
    refine we_seq fun K4 hK4 => ?_
    refine we_region [(0, 0)] rfl ?_
    refine ge_batch [0] (ans := []) (vs := [(6, .slice none 0 0)]) (l := []) (by kernel_rfl) trivial ?_
    refine ge_nil fun a hF => hK4 _ _ ?_ a hF
    refine we_seq fun K5 hK5 => ?_
    refine we_seq fun K6 hK6 => ?_
    refine we_region [(0, 0), (1, 0), (2, 0)] rfl ?_
    refine ge_batch [0, 1, 2] (ans := []) (vs := [(18, .int .i64 0), (17, .int .i64 (l0.length : Int)), (16, .slice A0 l0.length c0)]) (l := []) (by kernel_rfl) trivial ?_
    refine ge_nil fun a hF => hK6 _ _ ?_ a hF
    refine we_block ?_
    have hS3 : St w0 w2 [Own.of (.slice none 0 0) 3 ([] : List Int), Own.blk b2 (.cells #[.int .i64 0, .int .i64 0] 26 (0, 0)), Own.blk b1 (.cells #[.slice A1_0 l1_0.length c1_0, .slice A1_1 l1_1.length c1_1] 32 (0, 0))] := hS2.nil (α := Int) 3
    have hS4 : St w0 w2 [Own.blk b1 (.cells #[.slice A1_0 l1_0.length c1_0, .slice A1_1 l1_1.length c1_1] 32 (0, 0)), Own.of (.slice none 0 0) 3 ([] : List Int), Own.blk b2 (.cells #[.int .i64 0, .int .i64 0] 26 (0, 0))] := hS3.bring 2 rfl
    have hS5 : St w0 w2 [Own.blk b2 (.cells #[.int .i64 0, .int .i64 0] 26 (0, 0)), Own.blk b1 (.cells #[.slice A1_0 l1_0.length c1_0, .slice A1_1 l1_1.length c1_1] 32 (0, 0)), Own.of (.slice none 0 0) 3 ([] : List Int)] := hS4.bring 2 rfl
    rcases hq1 : iter (Tardy.r0 l0 l1_0 l1_1) K (([] : List Int), 0) with _ | (m3 | rr1)
    · rw [hq1] at h; cases h
    · rw [hq1] at h
      simp only [] at h
      refine we_iter (A := Tardy.A0 K w0 l0 A0 c0 l1_0 A1_0 c1_0 l1_1 A1_1 c1_1 hR0 hR1_0 hR1_1 b1 b2 hc1) (B := Tardy.B0 K w0 l0 A0 c0 l1_0 A1_0 c1_0 l1_1 A1_1 c1_1 hR0 hR1_0 hR1_1 b1 b2 hc1) hq1 (fun a hF => ⟨(.slice none 0 0), hS5, hF.weaken ⟨by kernel_rfl, by kernel_rfl, by kernel_rfl, by kernel_rfl, by kernel_rfl, by kernel_rfl, trivial⟩⟩) (fun s o hf a w hA Q hQ => Tardy_r0 K w0 l0 A0 c0 l1_0 A1_0 c1_0 l1_1 A1_1 c1_1 hR0 hR1_0 hR1_1 b1 b2 hc1 s o hf a w hA Q hQ) ?_
      rintro _ a w9 _ ⟨rfl, v5, hS33, hF⟩
      replace hS33 : St w0 w9 [Own.blk b2 (.cells #[.int .i64 0, .int .i64 0] 26 (0, 0)), Own.of v5 3 m3] := hS33
      refine hK5 [(5, .pointer (some ⟨b2, 0, none⟩)), (6, v5)] w9 ?_ a hF
      refine we_seq fun K12 hK12 => ?_
      refine we_region [(0, 0), (1, 0), (2, 0), (3, 2)] rfl ?_
      refine ge_batch [0, 1, 2] (ans := []) (vs := [(4, v5), (53, .agg #[.int .i64 0, .int .i64 0]), (52, v5)]) (l := []) (by kernel_rfl) trivial ?_
      refine ge_set (b := b2) (j := 0) (cs := #[.int .i64 0, .int .i64 0]) (t := 26) (vs := [.int .i64 0, .int .i64 0]) hS33 (by kernel_rfl) rfl rfl fun w10 hS34 => ?_
      have hS35 : St w0 w10 [Own.blk b2 (.cells #[.int .i64 0, .int .i64 0] 26 (0, 0)), Own.of v5 3 m3] := hS34
      refine ge_nil fun a hF => hK12 _ _ ?_ a hF
      have hS36 : St w0 w10 [Own.of v5 3 m3, Own.blk b2 (.cells #[.int .i64 0, .int .i64 0] 26 (0, 0))] := hS35.bring 1 rfl
      have hS37 : St w0 w10 [Own.of v5 3 m3] := hS36.takeN 1
      obtain rfl := Option.some.inj h
      exact we_ret (post_ret (rs := [.tmp 4, .cell 5 26]) (ans := [.val (.int .i64 0), .val (.int .i64 0)]) (vs := [v5, .agg #[.int .i64 0, .int .i64 0]]) (l := [.loaded ⟨b2, 0, none⟩ (.int .i64 0), .loaded ⟨b2, 1, none⟩ (.int .i64 0)]) rfl (by kernel_rfl) ⟨hS35.cell 0 rfl rfl, hS35.cell 0 rfl rfl, trivial⟩ ⟨v5, rfl, hS37⟩)
    · rw [hq1] at h
      simp only [] at h
      refine we_iter (A := Tardy.A0 K w0 l0 A0 c0 l1_0 A1_0 c1_0 l1_1 A1_1 c1_1 hR0 hR1_0 hR1_1 b1 b2 hc1) (B := Tardy.B0 K w0 l0 A0 c0 l1_0 A1_0 c1_0 l1_1 A1_1 c1_1 hR0 hR1_0 hR1_1 b1 b2 hc1) hq1 (fun a hF => ⟨(.slice none 0 0), hS5, hF.weaken ⟨by kernel_rfl, by kernel_rfl, by kernel_rfl, by kernel_rfl, by kernel_rfl, by kernel_rfl, trivial⟩⟩) (fun s o hf a w hA Q hQ => Tardy_r0 K w0 l0 A0 c0 l1_0 A1_0 c1_0 l1_1 A1_1 c1_1 hR0 hR1_0 hR1_1 b1 b2 hc1 s o hf a w hA Q hQ) ?_
      rintro _ a w1 _ ⟨rfl, hb⟩
      obtain rfl := Option.some.inj h
      exact hb
  · rw [if_neg hc1] at h
    refine we_known (t := 14) (b := ((l1_1.length : Int) != (l0.length : Int))) (v := true) (by kernel_rfl) (bne_iff_ne.2 hc1) ?_
    refine we_true (by kernel_rfl) ?_
    refine we_seq fun K13 hK13 => ?_
    refine we_region [(0, 1), (1, 0), (2, 2)] rfl ?_
    refine ge_call (d := some 15) (f := 21) (args := #[.int .i64 2, .int .i64 0]) (by kernel_rfl) (F_ok 2 0 _ _ rfl) ?_
    rintro _ w11 ⟨rfl, hS38⟩
    refine ⟨_, rfl, hS38.below, ?_⟩
    have hS39 : St w0 w11 [Own.blk b2 (.cells #[.int .i64 0, .int .i64 0] 26 (0, 0)), Own.blk b1 (.cells #[.slice A1_0 l1_0.length c1_0, .slice A1_1 l1_1.length c1_1] 32 (0, 0))] := hS2.call hS38
    refine ge_batch [1] (ans := []) (vs := [(4, .slice none 0 0)]) (l := []) (by kernel_rfl) trivial ?_
    refine ge_set (b := b2) (j := 0) (cs := #[.int .i64 0, .int .i64 0]) (t := 26) (vs := [.int .i64 ((F.f 2 0).Code), .int .i64 ((F.f 2 0).At)]) hS39 (by kernel_rfl) rfl rfl fun w12 hS40 => ?_
    have hS41 : St w0 w12 [Own.blk b2 (.cells #[.int .i64 ((F.f 2 0).Code), .int .i64 ((F.f 2 0).At)] 26 (0, 0)), Own.blk b1 (.cells #[.slice A1_0 l1_0.length c1_0, .slice A1_1 l1_1.length c1_1] 32 (0, 0))] := hS40
    refine ge_nil fun a hF => hK13 _ _ ?_ a hF
    have hS42 : St w0 w12 [Own.of (.slice none 0 0) 3 ([] : List Int), Own.blk b2 (.cells #[.int .i64 ((F.f 2 0).Code), .int .i64 ((F.f 2 0).At)] 26 (0, 0)), Own.blk b1 (.cells #[.slice A1_0 l1_0.length c1_0, .slice A1_1 l1_1.length c1_1] 32 (0, 0))] := hS41.nil (α := Int) 3
    have hS43 : St w0 w12 [Own.of (.slice none 0 0) 3 ([] : List Int)] := hS42.takeN 1
    obtain rfl := Option.some.inj h
    exact we_ret (post_ret (rs := [.tmp 4, .cell 5 26]) (ans := [.val (.int .i64 ((F.f 2 0).Code)), .val (.int .i64 ((F.f 2 0).At))]) (vs := [(.slice none 0 0), .agg #[.int .i64 ((F.f 2 0).Code), .int .i64 ((F.f 2 0).At)]]) (l := [.loaded ⟨b2, 0, none⟩ (.int .i64 ((F.f 2 0).Code)), .loaded ⟨b2, 1, none⟩ (.int .i64 ((F.f 2 0).At))]) rfl (by kernel_rfl) ⟨hS42.cell 1 rfl rfl, hS42.cell 1 rfl rfl, trivial⟩ ⟨(.slice none 0 0), rfl, hS43⟩)

/-! punctual/punctualsame.Lend[punctual/api.Job] -/
abbrev LendJob.Post (w0 : World) (n : Nat) (r : List SJob) (e : Ending) (w : World) : Prop := ∃ (A : Option Addr) (c : Nat), e = .returned (.slice A n c) ∧ r.length ≤ c ∧ St w0 w [Own.of (.slice A r.length c) 30 r]
def LendJob.f (l0 : List SJob) (x1_0 : Int) (x1_1 : Int) (x1_2 : Int) (x1_3 : Int) (x1_4 : Int) : Option (List SJob) :=
  if 0 ≤ (IntKind.i64.wrap ((l0.length : Int) + 3)) then
    if ((IntKind.i64.wrap ((l0.length : Int) + 3)).toNat) ≤ 3518437208883 then
      if (List.replicate 0 (⟨0, 0, 0, 0, 0⟩ : SJob)).length + l0.length ≤ 3518437208883 then
        if ((List.replicate 0 (⟨0, 0, 0, 0, 0⟩ : SJob)) ++ l0).length + 3 ≤ 3518437208883 then
          some (((List.replicate 0 (⟨0, 0, 0, 0, 0⟩ : SJob)) ++ l0) ++ ([(⟨x1_0, x1_1, x1_2, x1_3, x1_4⟩ : SJob), (⟨x1_0, x1_1, x1_2, x1_3, x1_4⟩ : SJob), (⟨x1_0, x1_1, x1_2, x1_3, x1_4⟩ : SJob)] : List SJob))
        else
          none
      else
        none
    else
      none
  else
    none
theorem LendJob_ok (l0 : List SJob) (A0 : Option Addr) (c0 : Nat) (x1_0 : Int) (x1_1 : Int) (x1_2 : Int) (x1_3 : Int) (x1_4 : Int) (w0 : World) (hR0 : RdL w0 A0 l0) (r : List SJob) (h : LendJob.f l0 x1_0 x1_1 x1_2 x1_3 x1_4 = some r) :
    Calls Tryd.prog 14 #[.slice A0 l0.length c0, .agg #[.int .i64 x1_0, .int .i64 x1_1, .int .i64 x1_2, .int .i64 x1_3, .int .i64 x1_4]] w0 (LendJob.Post w0 l0.length r) := by
  have hS := St.start w0
  unfold LendJob.f at h
  refine calls_enter (n := 21) (args := [.slice A0 l0.length c0, .agg #[.int .i64 x1_0, .int .i64 x1_1, .int .i64 x1_2, .int .i64 x1_3, .int .i64 x1_4]]) (fn := Tryd.f14) rfl rfl rfl rfl ?_
  show WE _ _ _ _ [(0, .slice A0 l0.length c0), (1, .agg #[.int .i64 x1_0, .int .i64 x1_1, .int .i64 x1_2, .int .i64 x1_3, .int .i64 x1_4])] _
  refine we_seq fun K1 hK1 => ?_
  refine we_region [(0, 1), (1, 0)] rfl ?_
  refine ge_new (d := some 3) (o := .cells #[.int .i64 x1_0, .int .i64 x1_1, .int .i64 x1_2, .int .i64 x1_3, .int .i64 x1_4] 30) (v := fun b => .pointer (some ⟨b, 0, none⟩)) hS (fun b => by kernel_rfl) fun b1 w1 hx1 hS1 => ?_
  refine ge_batch [1] (ans := []) (vs := [(4, .slice none 0 0)]) (l := []) (by kernel_rfl) trivial ?_
  refine ge_nil fun a hF => hK1 _ _ ?_ a hF
  refine we_seq fun K2 hK2 => ?_
  refine we_orders (by kernel_rfl) [⟨b1, 0, none⟩, ⟨b1, 1, none⟩, ⟨b1, 2, none⟩, ⟨b1, 3, none⟩, ⟨b1, 4, none⟩, ⟨b1, 0, none⟩, ⟨b1, 1, none⟩, ⟨b1, 2, none⟩, ⟨b1, 3, none⟩, ⟨b1, 4, none⟩, ⟨b1, 0, none⟩, ⟨b1, 1, none⟩, ⟨b1, 2, none⟩, ⟨b1, 3, none⟩, ⟨b1, 4, none⟩] (.vals [0, 1, 2, 4, 6, 7, 8] (.alt 3 1 (.alt 5 2 (.alt 9 1 (.alt 10 2 (.vals [11] .fin) .nomore) .nomore) (.alt 9 1 (.alt 5 2 (.alt 10 2 (.vals [11] .fin) .nomore) .nomore) .nomore)) (.alt 9 1 (.alt 3 1 (.alt 5 2 (.alt 10 2 (.vals [11] .fin) .nomore) .nomore) .nomore) .nomore))) (by kernel_rfl) ?_
  have hS2 : St w0 w1.drew [Own.blk b1 (.cells #[.int .i64 x1_0, .int .i64 x1_1, .int .i64 x1_2, .int .i64 x1_3, .int .i64 x1_4] 30 (0, 0))] := hS1.drew
  refine go_vals [0, 1, 2, 4, 6, 7, 8] (ans := [.val (.int .i64 x1_0), .val (.int .i64 x1_1), .val (.int .i64 x1_2), .val (.int .i64 x1_3), .val (.int .i64 x1_4), .val (.int .i64 x1_0), .val (.int .i64 x1_1), .val (.int .i64 x1_2), .val (.int .i64 x1_3), .val (.int .i64 x1_4), .val (.int .i64 x1_0), .val (.int .i64 x1_1), .val (.int .i64 x1_2), .val (.int .i64 x1_3), .val (.int .i64 x1_4)]) (vs := [(14, .agg #[.int .i64 x1_0, .int .i64 x1_1, .int .i64 x1_2, .int .i64 x1_3, .int .i64 x1_4]), (13, .agg #[.int .i64 x1_0, .int .i64 x1_1, .int .i64 x1_2, .int .i64 x1_3, .int .i64 x1_4]), (12, .agg #[.int .i64 x1_0, .int .i64 x1_1, .int .i64 x1_2, .int .i64 x1_3, .int .i64 x1_4]), (10, .slice A0 l0.length c0), (8, .int .i64 (IntKind.i64.wrap ((l0.length : Int) + 3))), (7, .int .i64 (l0.length : Int)), (6, .slice A0 l0.length c0)]) (l := [.loaded ⟨b1, 0, none⟩ (.int .i64 x1_0), .loaded ⟨b1, 1, none⟩ (.int .i64 x1_1), .loaded ⟨b1, 2, none⟩ (.int .i64 x1_2), .loaded ⟨b1, 3, none⟩ (.int .i64 x1_3), .loaded ⟨b1, 4, none⟩ (.int .i64 x1_4), .loaded ⟨b1, 0, none⟩ (.int .i64 x1_0), .loaded ⟨b1, 1, none⟩ (.int .i64 x1_1), .loaded ⟨b1, 2, none⟩ (.int .i64 x1_2), .loaded ⟨b1, 3, none⟩ (.int .i64 x1_3), .loaded ⟨b1, 4, none⟩ (.int .i64 x1_4), .loaded ⟨b1, 0, none⟩ (.int .i64 x1_0), .loaded ⟨b1, 1, none⟩ (.int .i64 x1_1), .loaded ⟨b1, 2, none⟩ (.int .i64 x1_2), .loaded ⟨b1, 3, none⟩ (.int .i64 x1_3), .loaded ⟨b1, 4, none⟩ (.int .i64 x1_4)]) (by kernel_rfl) ⟨hS2.cell 0 rfl rfl, hS2.cell 0 rfl rfl, hS2.cell 0 rfl rfl, hS2.cell 0 rfl rfl, hS2.cell 0 rfl rfl, hS2.cell 0 rfl rfl, hS2.cell 0 rfl rfl, hS2.cell 0 rfl rfl, hS2.cell 0 rfl rfl, hS2.cell 0 rfl rfl, hS2.cell 0 rfl rfl, hS2.cell 0 rfl rfl, hS2.cell 0 rfl rfl, hS2.cell 0 rfl rfl, hS2.cell 0 rfl rfl, trivial⟩ (by simp [didAddrs]) ?_
  refine go_alt (fun K hK => ?_) ?_
  · refine ge_one2 ?_
    by_cases hc1 : 0 ≤ (IntKind.i64.wrap ((l0.length : Int) + 3))
    · rw [if_pos hc1] at h
      by_cases hc2 : ((IntKind.i64.wrap ((l0.length : Int) + 3)).toNat) ≤ 3518437208883
      · rw [if_pos hc2] at h
        refine ge_make (α := SJob) (d := 9) (t := 22) (el := 30) (bytes := 40) (l := 0) (c := ((IntKind.i64.wrap ((l0.length : Int) + 3)).toNat)) (x := (.const (.int .i64 0))) (y := (.tmp 8)) (ty := 22) (k1 := .i64) (k2 := .i64) (li := 0) (ci := (IntKind.i64.wrap ((l0.length : Int) + 3))) (z := .agg #[.int .i64 0, .int .i64 0, .int .i64 0, .int .i64 0, .int .i64 0]) (z' := (⟨0, 0, 0, 0, 0⟩ : SJob)) (by kernel_rfl) (by kernel_rfl) (by kernel_rfl) rfl (Int.toNat_of_nonneg hc1).symm (by kernel_rfl) (by kernel_rfl) rfl hS2 (Nat.zero_le _) rfl (by omega) fun v1 w2 _ hS3 => ?_
        refine ge_nil fun a hF => hK _ _ (RS.of (l := [.loaded ⟨b1, 0, none⟩ (.int .i64 x1_0), .loaded ⟨b1, 1, none⟩ (.int .i64 x1_1), .loaded ⟨b1, 2, none⟩ (.int .i64 x1_2), .loaded ⟨b1, 3, none⟩ (.int .i64 x1_3), .loaded ⟨b1, 4, none⟩ (.int .i64 x1_4), .loaded ⟨b1, 0, none⟩ (.int .i64 x1_0), .loaded ⟨b1, 1, none⟩ (.int .i64 x1_1), .loaded ⟨b1, 2, none⟩ (.int .i64 x1_2), .loaded ⟨b1, 3, none⟩ (.int .i64 x1_3), .loaded ⟨b1, 4, none⟩ (.int .i64 x1_4), .loaded ⟨b1, 0, none⟩ (.int .i64 x1_0), .loaded ⟨b1, 1, none⟩ (.int .i64 x1_1), .loaded ⟨b1, 2, none⟩ (.int .i64 x1_2), .loaded ⟨b1, 3, none⟩ (.int .i64 x1_3), .loaded ⟨b1, 4, none⟩ (.int .i64 x1_4)]) ⟨hS2.cell 0 rfl rfl, hS2.cell 0 rfl rfl, hS2.cell 0 rfl rfl, hS2.cell 0 rfl rfl, hS2.cell 0 rfl rfl, hS2.cell 0 rfl rfl, hS2.cell 0 rfl rfl, hS2.cell 0 rfl rfl, hS2.cell 0 rfl rfl, hS2.cell 0 rfl rfl, hS2.cell 0 rfl rfl, hS2.cell 0 rfl rfl, hS2.cell 0 rfl rfl, hS2.cell 0 rfl rfl, hS2.cell 0 rfl rfl, trivial⟩ ⟨hS3.cell 1 rfl rfl, hS3.cell 1 rfl rfl, hS3.cell 1 rfl rfl, hS3.cell 1 rfl rfl, hS3.cell 1 rfl rfl, hS3.cell 1 rfl rfl, hS3.cell 1 rfl rfl, hS3.cell 1 rfl rfl, hS3.cell 1 rfl rfl, hS3.cell 1 rfl rfl, hS3.cell 1 rfl rfl, hS3.cell 1 rfl rfl, hS3.cell 1 rfl rfl, hS3.cell 1 rfl rfl, hS3.cell 1 rfl rfl, trivial⟩) ?_ a hF
        refine go_alt (fun K hK => ?_) ?_
        · by_cases hc3 : (List.replicate 0 (⟨0, 0, 0, 0, 0⟩ : SJob)).length + l0.length ≤ 3518437208883
          · rw [if_pos hc3] at h
            refine ge_appendL (α := SJob) (m := 0) (d := 11) (t := 22) (el := 30) (bytes := 40) (c1 := c0) (A1 := A0) (x := (.tmp 9)) (y := (.tmp 10)) (ty := 22) (v := v1) (z := .agg #[.int .i64 0, .int .i64 0, .int .i64 0, .int .i64 0, .int .i64 0]) (l := (List.replicate 0 (⟨0, 0, 0, 0, 0⟩ : SJob))) (us := l0) (by kernel_rfl) (by kernel_rfl) (by kernel_rfl) (by kernel_rfl) (by kernel_rfl) rfl hS3 (hS3.rd hR0) rfl (Nat.mul_le_of_le_div _ _ _ hc3) fun v2 w3 hS4 => ?_
            have hS5 : St w0 w3 [Own.of v2 30 ((List.replicate 0 (⟨0, 0, 0, 0, 0⟩ : SJob)) ++ l0), Own.blk b1 (.cells #[.int .i64 x1_0, .int .i64 x1_1, .int .i64 x1_2, .int .i64 x1_3, .int .i64 x1_4] 30 (0, 0))] := hS4
            refine ge_nil fun a hF => hK _ _ (RS.of (l := [.loaded ⟨b1, 0, none⟩ (.int .i64 x1_0), .loaded ⟨b1, 1, none⟩ (.int .i64 x1_1), .loaded ⟨b1, 2, none⟩ (.int .i64 x1_2), .loaded ⟨b1, 3, none⟩ (.int .i64 x1_3), .loaded ⟨b1, 4, none⟩ (.int .i64 x1_4), .loaded ⟨b1, 0, none⟩ (.int .i64 x1_0), .loaded ⟨b1, 1, none⟩ (.int .i64 x1_1), .loaded ⟨b1, 2, none⟩ (.int .i64 x1_2), .loaded ⟨b1, 3, none⟩ (.int .i64 x1_3), .loaded ⟨b1, 4, none⟩ (.int .i64 x1_4), .loaded ⟨b1, 0, none⟩ (.int .i64 x1_0), .loaded ⟨b1, 1, none⟩ (.int .i64 x1_1), .loaded ⟨b1, 2, none⟩ (.int .i64 x1_2), .loaded ⟨b1, 3, none⟩ (.int .i64 x1_3), .loaded ⟨b1, 4, none⟩ (.int .i64 x1_4)]) ⟨hS3.cell 1 rfl rfl, hS3.cell 1 rfl rfl, hS3.cell 1 rfl rfl, hS3.cell 1 rfl rfl, hS3.cell 1 rfl rfl, hS3.cell 1 rfl rfl, hS3.cell 1 rfl rfl, hS3.cell 1 rfl rfl, hS3.cell 1 rfl rfl, hS3.cell 1 rfl rfl, hS3.cell 1 rfl rfl, hS3.cell 1 rfl rfl, hS3.cell 1 rfl rfl, hS3.cell 1 rfl rfl, hS3.cell 1 rfl rfl, trivial⟩ ⟨hS5.cell 1 rfl rfl, hS5.cell 1 rfl rfl, hS5.cell 1 rfl rfl, hS5.cell 1 rfl rfl, hS5.cell 1 rfl rfl, hS5.cell 1 rfl rfl, hS5.cell 1 rfl rfl, hS5.cell 1 rfl rfl, hS5.cell 1 rfl rfl, hS5.cell 1 rfl rfl, hS5.cell 1 rfl rfl, hS5.cell 1 rfl rfl, hS5.cell 1 rfl rfl, hS5.cell 1 rfl rfl, hS5.cell 1 rfl rfl, trivial⟩) ?_ a hF
            refine go_alt (fun K hK => ?_) ?_
            · refine ge_one2 ?_
              refine ge_new (d := some 15) (o := .cells #[.int .i64 x1_0, .int .i64 x1_1, .int .i64 x1_2, .int .i64 x1_3, .int .i64 x1_4, .int .i64 x1_0, .int .i64 x1_1, .int .i64 x1_2, .int .i64 x1_3, .int .i64 x1_4, .int .i64 x1_0, .int .i64 x1_1, .int .i64 x1_2, .int .i64 x1_3, .int .i64 x1_4] 30) (v := fun b => .slice (some ⟨b, 0, none⟩) 3 3) hS5 (fun b => by kernel_rfl) fun b2 w4 hx2 hS6 => ?_
              refine ge_nil fun a hF => hK _ _ (RS.of (l := [.loaded ⟨b1, 0, none⟩ (.int .i64 x1_0), .loaded ⟨b1, 1, none⟩ (.int .i64 x1_1), .loaded ⟨b1, 2, none⟩ (.int .i64 x1_2), .loaded ⟨b1, 3, none⟩ (.int .i64 x1_3), .loaded ⟨b1, 4, none⟩ (.int .i64 x1_4), .loaded ⟨b1, 0, none⟩ (.int .i64 x1_0), .loaded ⟨b1, 1, none⟩ (.int .i64 x1_1), .loaded ⟨b1, 2, none⟩ (.int .i64 x1_2), .loaded ⟨b1, 3, none⟩ (.int .i64 x1_3), .loaded ⟨b1, 4, none⟩ (.int .i64 x1_4), .loaded ⟨b1, 0, none⟩ (.int .i64 x1_0), .loaded ⟨b1, 1, none⟩ (.int .i64 x1_1), .loaded ⟨b1, 2, none⟩ (.int .i64 x1_2), .loaded ⟨b1, 3, none⟩ (.int .i64 x1_3), .loaded ⟨b1, 4, none⟩ (.int .i64 x1_4)]) ⟨hS5.cell 1 rfl rfl, hS5.cell 1 rfl rfl, hS5.cell 1 rfl rfl, hS5.cell 1 rfl rfl, hS5.cell 1 rfl rfl, hS5.cell 1 rfl rfl, hS5.cell 1 rfl rfl, hS5.cell 1 rfl rfl, hS5.cell 1 rfl rfl, hS5.cell 1 rfl rfl, hS5.cell 1 rfl rfl, hS5.cell 1 rfl rfl, hS5.cell 1 rfl rfl, hS5.cell 1 rfl rfl, hS5.cell 1 rfl rfl, trivial⟩ ⟨hS6.cell 2 rfl rfl, hS6.cell 2 rfl rfl, hS6.cell 2 rfl rfl, hS6.cell 2 rfl rfl, hS6.cell 2 rfl rfl, hS6.cell 2 rfl rfl, hS6.cell 2 rfl rfl, hS6.cell 2 rfl rfl, hS6.cell 2 rfl rfl, hS6.cell 2 rfl rfl, hS6.cell 2 rfl rfl, hS6.cell 2 rfl rfl, hS6.cell 2 rfl rfl, hS6.cell 2 rfl rfl, hS6.cell 2 rfl rfl, trivial⟩) ?_ a hF
              refine go_alt (fun K hK => ?_) ?_
              · have hS7 : St w0 w4 [Own.of v2 30 ((List.replicate 0 (⟨0, 0, 0, 0, 0⟩ : SJob)) ++ l0), Own.blk b2 (.cells #[.int .i64 x1_0, .int .i64 x1_1, .int .i64 x1_2, .int .i64 x1_3, .int .i64 x1_4, .int .i64 x1_0, .int .i64 x1_1, .int .i64 x1_2, .int .i64 x1_3, .int .i64 x1_4, .int .i64 x1_0, .int .i64 x1_1, .int .i64 x1_2, .int .i64 x1_3, .int .i64 x1_4] 30 (0, 0)), Own.blk b1 (.cells #[.int .i64 x1_0, .int .i64 x1_1, .int .i64 x1_2, .int .i64 x1_3, .int .i64 x1_4] 30 (0, 0))] := hS6.bring 1 rfl
                by_cases hc4 : ((List.replicate 0 (⟨0, 0, 0, 0, 0⟩ : SJob)) ++ l0).length + 3 ≤ 3518437208883
                · rw [if_pos hc4] at h
                  refine ge_appendL (α := SJob) (m := 0) (d := 16) (t := 22) (el := 30) (bytes := 40) (c1 := 3) (A1 := (some ⟨b2, 0, none⟩)) (x := (.tmp 11)) (y := (.tmp 15)) (ty := 22) (v := v2) (z := .agg #[.int .i64 0, .int .i64 0, .int .i64 0, .int .i64 0, .int .i64 0]) (l := ((List.replicate 0 (⟨0, 0, 0, 0, 0⟩ : SJob)) ++ l0)) (us := ([(⟨x1_0, x1_1, x1_2, x1_3, x1_4⟩ : SJob), (⟨x1_0, x1_1, x1_2, x1_3, x1_4⟩ : SJob), (⟨x1_0, x1_1, x1_2, x1_3, x1_4⟩ : SJob)] : List SJob)) (by kernel_rfl) (by kernel_rfl) (by kernel_rfl) (by kernel_rfl) (by kernel_rfl) rfl hS7 (hS7.rdBlk 1 ([(⟨x1_0, x1_1, x1_2, x1_3, x1_4⟩ : SJob), (⟨x1_0, x1_1, x1_2, x1_3, x1_4⟩ : SJob), (⟨x1_0, x1_1, x1_2, x1_3, x1_4⟩ : SJob)] : List SJob) rfl rfl rfl) rfl (Nat.mul_le_of_le_div _ _ _ hc4) fun v3 w5 hS8 => ?_
                  have hS9 : St w0 w5 [Own.of v3 30 (((List.replicate 0 (⟨0, 0, 0, 0, 0⟩ : SJob)) ++ l0) ++ ([(⟨x1_0, x1_1, x1_2, x1_3, x1_4⟩ : SJob), (⟨x1_0, x1_1, x1_2, x1_3, x1_4⟩ : SJob), (⟨x1_0, x1_1, x1_2, x1_3, x1_4⟩ : SJob)] : List SJob)), Own.blk b2 (.cells #[.int .i64 x1_0, .int .i64 x1_1, .int .i64 x1_2, .int .i64 x1_3, .int .i64 x1_4, .int .i64 x1_0, .int .i64 x1_1, .int .i64 x1_2, .int .i64 x1_3, .int .i64 x1_4, .int .i64 x1_0, .int .i64 x1_1, .int .i64 x1_2, .int .i64 x1_3, .int .i64 x1_4] 30 (0, 0)), Own.blk b1 (.cells #[.int .i64 x1_0, .int .i64 x1_1, .int .i64 x1_2, .int .i64 x1_3, .int .i64 x1_4] 30 (0, 0))] := hS8
                  refine ge_nil fun a hF => hK _ _ (RS.of (l := [.loaded ⟨b1, 0, none⟩ (.int .i64 x1_0), .loaded ⟨b1, 1, none⟩ (.int .i64 x1_1), .loaded ⟨b1, 2, none⟩ (.int .i64 x1_2), .loaded ⟨b1, 3, none⟩ (.int .i64 x1_3), .loaded ⟨b1, 4, none⟩ (.int .i64 x1_4), .loaded ⟨b1, 0, none⟩ (.int .i64 x1_0), .loaded ⟨b1, 1, none⟩ (.int .i64 x1_1), .loaded ⟨b1, 2, none⟩ (.int .i64 x1_2), .loaded ⟨b1, 3, none⟩ (.int .i64 x1_3), .loaded ⟨b1, 4, none⟩ (.int .i64 x1_4), .loaded ⟨b1, 0, none⟩ (.int .i64 x1_0), .loaded ⟨b1, 1, none⟩ (.int .i64 x1_1), .loaded ⟨b1, 2, none⟩ (.int .i64 x1_2), .loaded ⟨b1, 3, none⟩ (.int .i64 x1_3), .loaded ⟨b1, 4, none⟩ (.int .i64 x1_4)]) ⟨hS6.cell 2 rfl rfl, hS6.cell 2 rfl rfl, hS6.cell 2 rfl rfl, hS6.cell 2 rfl rfl, hS6.cell 2 rfl rfl, hS6.cell 2 rfl rfl, hS6.cell 2 rfl rfl, hS6.cell 2 rfl rfl, hS6.cell 2 rfl rfl, hS6.cell 2 rfl rfl, hS6.cell 2 rfl rfl, hS6.cell 2 rfl rfl, hS6.cell 2 rfl rfl, hS6.cell 2 rfl rfl, hS6.cell 2 rfl rfl, trivial⟩ ⟨hS9.cell 2 rfl rfl, hS9.cell 2 rfl rfl, hS9.cell 2 rfl rfl, hS9.cell 2 rfl rfl, hS9.cell 2 rfl rfl, hS9.cell 2 rfl rfl, hS9.cell 2 rfl rfl, hS9.cell 2 rfl rfl, hS9.cell 2 rfl rfl, hS9.cell 2 rfl rfl, hS9.cell 2 rfl rfl, hS9.cell 2 rfl rfl, hS9.cell 2 rfl rfl, hS9.cell 2 rfl rfl, hS9.cell 2 rfl rfl, trivial⟩) ?_ a hF
                  refine go_vals [11] (ans := []) (vs := [(5, v3)]) (l := []) (by kernel_rfl) trivial (by simp [didAddrs]) ?_
                  refine go_fin fun a hF => hK2 _ _ ?_ a hF
                  refine we_seq fun K3 hK3 => ?_
                  refine we_region [(0, 0), (1, 0), (2, 0), (3, 0), (4, 0)] rfl ?_
                  refine ge_batch [0, 1, 2] (ans := []) (vs := [(19, .int .i64 (l0.length : Int)), (18, .slice A0 l0.length c0), (17, v3)]) (l := []) (by kernel_rfl) trivial ?_
                  obtain ⟨Z1, cz1, rfl, hcp1⟩ := hS9.open2 0 rfl
                  refine ge_sliceHi (d := 20) (ty := 22) (t := 22) (el := 30) (sz := 5) (m := ((((List.replicate 0 (⟨0, 0, 0, 0, 0⟩ : SJob)) ++ l0) ++ ([(⟨x1_0, x1_1, x1_2, x1_3, x1_4⟩ : SJob), (⟨x1_0, x1_1, x1_2, x1_3, x1_4⟩ : SJob), (⟨x1_0, x1_1, x1_2, x1_3, x1_4⟩ : SJob)] : List SJob)).length)) (c := cz1) (hn := l0.length) (x := (.tmp 17)) (y := (.tmp 19)) (A := Z1) (k' := .i64) (hi := (l0.length : Int)) (by kernel_rfl) (by kernel_rfl) (by kernel_rfl) rfl (by kernel_rfl) (by kernel_rfl) (by have h0 := hcp1; simp only [List.length_append, List.length_cons, List.length_nil] at h0; omega) ?_
                  refine ge_batch [4] (ans := []) (vs := [(4, .slice Z1 l0.length cz1)]) (l := []) (by kernel_rfl) trivial ?_
                  refine ge_nil fun a hF => hK3 _ _ ?_ a hF
                  have hS10 : St w0 w5 [Own.of (.slice Z1 (((List.replicate 0 (⟨0, 0, 0, 0, 0⟩ : SJob)) ++ l0) ++ ([(⟨x1_0, x1_1, x1_2, x1_3, x1_4⟩ : SJob), (⟨x1_0, x1_1, x1_2, x1_3, x1_4⟩ : SJob), (⟨x1_0, x1_1, x1_2, x1_3, x1_4⟩ : SJob)] : List SJob)).length cz1) 30 (((List.replicate 0 (⟨0, 0, 0, 0, 0⟩ : SJob)) ++ l0) ++ ([(⟨x1_0, x1_1, x1_2, x1_3, x1_4⟩ : SJob), (⟨x1_0, x1_1, x1_2, x1_3, x1_4⟩ : SJob), (⟨x1_0, x1_1, x1_2, x1_3, x1_4⟩ : SJob)] : List SJob))] := hS9.takeN 1
                  obtain rfl := Option.some.inj h
                  exact we_ret (post_ret (rs := [.tmp 4]) (ans := []) (vs := [.slice Z1 l0.length cz1]) (l := []) rfl (by kernel_rfl) trivial ⟨Z1, cz1, rfl, hcp1, hS10⟩)
                · rw [if_neg hc4] at h
                  cases h
              exact go_nomore
            exact go_nomore
          · rw [if_neg hc3] at h
            cases h
        refine go_alt (fun K hK => ?_) ?_
        · refine ge_one2 ?_
          refine ge_new (d := some 15) (o := .cells #[.int .i64 x1_0, .int .i64 x1_1, .int .i64 x1_2, .int .i64 x1_3, .int .i64 x1_4, .int .i64 x1_0, .int .i64 x1_1, .int .i64 x1_2, .int .i64 x1_3, .int .i64 x1_4, .int .i64 x1_0, .int .i64 x1_1, .int .i64 x1_2, .int .i64 x1_3, .int .i64 x1_4] 30) (v := fun b => .slice (some ⟨b, 0, none⟩) 3 3) hS3 (fun b => by kernel_rfl) fun b2 w3 hx2 hS4 => ?_
          refine ge_nil fun a hF => hK _ _ (RS.of (l := [.loaded ⟨b1, 0, none⟩ (.int .i64 x1_0), .loaded ⟨b1, 1, none⟩ (.int .i64 x1_1), .loaded ⟨b1, 2, none⟩ (.int .i64 x1_2), .loaded ⟨b1, 3, none⟩ (.int .i64 x1_3), .loaded ⟨b1, 4, none⟩ (.int .i64 x1_4), .loaded ⟨b1, 0, none⟩ (.int .i64 x1_0), .loaded ⟨b1, 1, none⟩ (.int .i64 x1_1), .loaded ⟨b1, 2, none⟩ (.int .i64 x1_2), .loaded ⟨b1, 3, none⟩ (.int .i64 x1_3), .loaded ⟨b1, 4, none⟩ (.int .i64 x1_4), .loaded ⟨b1, 0, none⟩ (.int .i64 x1_0), .loaded ⟨b1, 1, none⟩ (.int .i64 x1_1), .loaded ⟨b1, 2, none⟩ (.int .i64 x1_2), .loaded ⟨b1, 3, none⟩ (.int .i64 x1_3), .loaded ⟨b1, 4, none⟩ (.int .i64 x1_4)]) ⟨hS3.cell 1 rfl rfl, hS3.cell 1 rfl rfl, hS3.cell 1 rfl rfl, hS3.cell 1 rfl rfl, hS3.cell 1 rfl rfl, hS3.cell 1 rfl rfl, hS3.cell 1 rfl rfl, hS3.cell 1 rfl rfl, hS3.cell 1 rfl rfl, hS3.cell 1 rfl rfl, hS3.cell 1 rfl rfl, hS3.cell 1 rfl rfl, hS3.cell 1 rfl rfl, hS3.cell 1 rfl rfl, hS3.cell 1 rfl rfl, trivial⟩ ⟨hS4.cell 2 rfl rfl, hS4.cell 2 rfl rfl, hS4.cell 2 rfl rfl, hS4.cell 2 rfl rfl, hS4.cell 2 rfl rfl, hS4.cell 2 rfl rfl, hS4.cell 2 rfl rfl, hS4.cell 2 rfl rfl, hS4.cell 2 rfl rfl, hS4.cell 2 rfl rfl, hS4.cell 2 rfl rfl, hS4.cell 2 rfl rfl, hS4.cell 2 rfl rfl, hS4.cell 2 rfl rfl, hS4.cell 2 rfl rfl, trivial⟩) ?_ a hF
          refine go_alt (fun K hK => ?_) ?_
          · have hS5 : St w0 w3 [Own.of v1 30 (List.replicate 0 (⟨0, 0, 0, 0, 0⟩ : SJob)), Own.blk b2 (.cells #[.int .i64 x1_0, .int .i64 x1_1, .int .i64 x1_2, .int .i64 x1_3, .int .i64 x1_4, .int .i64 x1_0, .int .i64 x1_1, .int .i64 x1_2, .int .i64 x1_3, .int .i64 x1_4, .int .i64 x1_0, .int .i64 x1_1, .int .i64 x1_2, .int .i64 x1_3, .int .i64 x1_4] 30 (0, 0)), Own.blk b1 (.cells #[.int .i64 x1_0, .int .i64 x1_1, .int .i64 x1_2, .int .i64 x1_3, .int .i64 x1_4] 30 (0, 0))] := hS4.bring 1 rfl
            by_cases hc3 : (List.replicate 0 (⟨0, 0, 0, 0, 0⟩ : SJob)).length + l0.length ≤ 3518437208883
            · rw [if_pos hc3] at h
              refine ge_appendL (α := SJob) (m := 0) (d := 11) (t := 22) (el := 30) (bytes := 40) (c1 := c0) (A1 := A0) (x := (.tmp 9)) (y := (.tmp 10)) (ty := 22) (v := v1) (z := .agg #[.int .i64 0, .int .i64 0, .int .i64 0, .int .i64 0, .int .i64 0]) (l := (List.replicate 0 (⟨0, 0, 0, 0, 0⟩ : SJob))) (us := l0) (by kernel_rfl) (by kernel_rfl) (by kernel_rfl) (by kernel_rfl) (by kernel_rfl) rfl hS5 (hS5.rd hR0) rfl (Nat.mul_le_of_le_div _ _ _ hc3) fun v2 w4 hS6 => ?_
              have hS7 : St w0 w4 [Own.of v2 30 ((List.replicate 0 (⟨0, 0, 0, 0, 0⟩ : SJob)) ++ l0), Own.blk b2 (.cells #[.int .i64 x1_0, .int .i64 x1_1, .int .i64 x1_2, .int .i64 x1_3, .int .i64 x1_4, .int .i64 x1_0, .int .i64 x1_1, .int .i64 x1_2, .int .i64 x1_3, .int .i64 x1_4, .int .i64 x1_0, .int .i64 x1_1, .int .i64 x1_2, .int .i64 x1_3, .int .i64 x1_4] 30 (0, 0)), Own.blk b1 (.cells #[.int .i64 x1_0, .int .i64 x1_1, .int .i64 x1_2, .int .i64 x1_3, .int .i64 x1_4] 30 (0, 0))] := hS6
              refine ge_nil fun a hF => hK _ _ (RS.of (l := [.loaded ⟨b1, 0, none⟩ (.int .i64 x1_0), .loaded ⟨b1, 1, none⟩ (.int .i64 x1_1), .loaded ⟨b1, 2, none⟩ (.int .i64 x1_2), .loaded ⟨b1, 3, none⟩ (.int .i64 x1_3), .loaded ⟨b1, 4, none⟩ (.int .i64 x1_4), .loaded ⟨b1, 0, none⟩ (.int .i64 x1_0), .loaded ⟨b1, 1, none⟩ (.int .i64 x1_1), .loaded ⟨b1, 2, none⟩ (.int .i64 x1_2), .loaded ⟨b1, 3, none⟩ (.int .i64 x1_3), .loaded ⟨b1, 4, none⟩ (.int .i64 x1_4), .loaded ⟨b1, 0, none⟩ (.int .i64 x1_0), .loaded ⟨b1, 1, none⟩ (.int .i64 x1_1), .loaded ⟨b1, 2, none⟩ (.int .i64 x1_2), .loaded ⟨b1, 3, none⟩ (.int .i64 x1_3), .loaded ⟨b1, 4, none⟩ (.int .i64 x1_4)]) ⟨hS4.cell 2 rfl rfl, hS4.cell 2 rfl rfl, hS4.cell 2 rfl rfl, hS4.cell 2 rfl rfl, hS4.cell 2 rfl rfl, hS4.cell 2 rfl rfl, hS4.cell 2 rfl rfl, hS4.cell 2 rfl rfl, hS4.cell 2 rfl rfl, hS4.cell 2 rfl rfl, hS4.cell 2 rfl rfl, hS4.cell 2 rfl rfl, hS4.cell 2 rfl rfl, hS4.cell 2 rfl rfl, hS4.cell 2 rfl rfl, trivial⟩ ⟨hS7.cell 2 rfl rfl, hS7.cell 2 rfl rfl, hS7.cell 2 rfl rfl, hS7.cell 2 rfl rfl, hS7.cell 2 rfl rfl, hS7.cell 2 rfl rfl, hS7.cell 2 rfl rfl, hS7.cell 2 rfl rfl, hS7.cell 2 rfl rfl, hS7.cell 2 rfl rfl, hS7.cell 2 rfl rfl, hS7.cell 2 rfl rfl, hS7.cell 2 rfl rfl, hS7.cell 2 rfl rfl, hS7.cell 2 rfl rfl, trivial⟩) ?_ a hF
              refine go_alt (fun K hK => ?_) ?_
              · by_cases hc4 : ((List.replicate 0 (⟨0, 0, 0, 0, 0⟩ : SJob)) ++ l0).length + 3 ≤ 3518437208883
                · rw [if_pos hc4] at h
                  refine ge_appendL (α := SJob) (m := 0) (d := 16) (t := 22) (el := 30) (bytes := 40) (c1 := 3) (A1 := (some ⟨b2, 0, none⟩)) (x := (.tmp 11)) (y := (.tmp 15)) (ty := 22) (v := v2) (z := .agg #[.int .i64 0, .int .i64 0, .int .i64 0, .int .i64 0, .int .i64 0]) (l := ((List.replicate 0 (⟨0, 0, 0, 0, 0⟩ : SJob)) ++ l0)) (us := ([(⟨x1_0, x1_1, x1_2, x1_3, x1_4⟩ : SJob), (⟨x1_0, x1_1, x1_2, x1_3, x1_4⟩ : SJob), (⟨x1_0, x1_1, x1_2, x1_3, x1_4⟩ : SJob)] : List SJob)) (by kernel_rfl) (by kernel_rfl) (by kernel_rfl) (by kernel_rfl) (by kernel_rfl) rfl hS7 (hS7.rdBlk 1 ([(⟨x1_0, x1_1, x1_2, x1_3, x1_4⟩ : SJob), (⟨x1_0, x1_1, x1_2, x1_3, x1_4⟩ : SJob), (⟨x1_0, x1_1, x1_2, x1_3, x1_4⟩ : SJob)] : List SJob) rfl rfl rfl) rfl (Nat.mul_le_of_le_div _ _ _ hc4) fun v3 w5 hS8 => ?_
                  have hS9 : St w0 w5 [Own.of v3 30 (((List.replicate 0 (⟨0, 0, 0, 0, 0⟩ : SJob)) ++ l0) ++ ([(⟨x1_0, x1_1, x1_2, x1_3, x1_4⟩ : SJob), (⟨x1_0, x1_1, x1_2, x1_3, x1_4⟩ : SJob), (⟨x1_0, x1_1, x1_2, x1_3, x1_4⟩ : SJob)] : List SJob)), Own.blk b2 (.cells #[.int .i64 x1_0, .int .i64 x1_1, .int .i64 x1_2, .int .i64 x1_3, .int .i64 x1_4, .int .i64 x1_0, .int .i64 x1_1, .int .i64 x1_2, .int .i64 x1_3, .int .i64 x1_4, .int .i64 x1_0, .int .i64 x1_1, .int .i64 x1_2, .int .i64 x1_3, .int .i64 x1_4] 30 (0, 0)), Own.blk b1 (.cells #[.int .i64 x1_0, .int .i64 x1_1, .int .i64 x1_2, .int .i64 x1_3, .int .i64 x1_4] 30 (0, 0))] := hS8
                  refine ge_nil fun a hF => hK _ _ (RS.of (l := [.loaded ⟨b1, 0, none⟩ (.int .i64 x1_0), .loaded ⟨b1, 1, none⟩ (.int .i64 x1_1), .loaded ⟨b1, 2, none⟩ (.int .i64 x1_2), .loaded ⟨b1, 3, none⟩ (.int .i64 x1_3), .loaded ⟨b1, 4, none⟩ (.int .i64 x1_4), .loaded ⟨b1, 0, none⟩ (.int .i64 x1_0), .loaded ⟨b1, 1, none⟩ (.int .i64 x1_1), .loaded ⟨b1, 2, none⟩ (.int .i64 x1_2), .loaded ⟨b1, 3, none⟩ (.int .i64 x1_3), .loaded ⟨b1, 4, none⟩ (.int .i64 x1_4), .loaded ⟨b1, 0, none⟩ (.int .i64 x1_0), .loaded ⟨b1, 1, none⟩ (.int .i64 x1_1), .loaded ⟨b1, 2, none⟩ (.int .i64 x1_2), .loaded ⟨b1, 3, none⟩ (.int .i64 x1_3), .loaded ⟨b1, 4, none⟩ (.int .i64 x1_4)]) ⟨hS7.cell 2 rfl rfl, hS7.cell 2 rfl rfl, hS7.cell 2 rfl rfl, hS7.cell 2 rfl rfl, hS7.cell 2 rfl rfl, hS7.cell 2 rfl rfl, hS7.cell 2 rfl rfl, hS7.cell 2 rfl rfl, hS7.cell 2 rfl rfl, hS7.cell 2 rfl rfl, hS7.cell 2 rfl rfl, hS7.cell 2 rfl rfl, hS7.cell 2 rfl rfl, hS7.cell 2 rfl rfl, hS7.cell 2 rfl rfl, trivial⟩ ⟨hS9.cell 2 rfl rfl, hS9.cell 2 rfl rfl, hS9.cell 2 rfl rfl, hS9.cell 2 rfl rfl, hS9.cell 2 rfl rfl, hS9.cell 2 rfl rfl, hS9.cell 2 rfl rfl, hS9.cell 2 rfl rfl, hS9.cell 2 rfl rfl, hS9.cell 2 rfl rfl, hS9.cell 2 rfl rfl, hS9.cell 2 rfl rfl, hS9.cell 2 rfl rfl, hS9.cell 2 rfl rfl, hS9.cell 2 rfl rfl, trivial⟩) ?_ a hF
                  refine go_vals [11] (ans := []) (vs := [(5, v3)]) (l := []) (by kernel_rfl) trivial (by simp [didAddrs]) ?_
                  refine go_fin fun a hF => hK2 _ _ ?_ a hF
                  refine we_seq fun K3 hK3 => ?_
                  refine we_region [(0, 0), (1, 0), (2, 0), (3, 0), (4, 0)] rfl ?_
                  refine ge_batch [0, 1, 2] (ans := []) (vs := [(19, .int .i64 (l0.length : Int)), (18, .slice A0 l0.length c0), (17, v3)]) (l := []) (by kernel_rfl) trivial ?_
                  obtain ⟨Z1, cz1, rfl, hcp1⟩ := hS9.open2 0 rfl
                  refine ge_sliceHi (d := 20) (ty := 22) (t := 22) (el := 30) (sz := 5) (m := ((((List.replicate 0 (⟨0, 0, 0, 0, 0⟩ : SJob)) ++ l0) ++ ([(⟨x1_0, x1_1, x1_2, x1_3, x1_4⟩ : SJob), (⟨x1_0, x1_1, x1_2, x1_3, x1_4⟩ : SJob), (⟨x1_0, x1_1, x1_2, x1_3, x1_4⟩ : SJob)] : List SJob)).length)) (c := cz1) (hn := l0.length) (x := (.tmp 17)) (y := (.tmp 19)) (A := Z1) (k' := .i64) (hi := (l0.length : Int)) (by kernel_rfl) (by kernel_rfl) (by kernel_rfl) rfl (by kernel_rfl) (by kernel_rfl) (by have h0 := hcp1; simp only [List.length_append, List.length_cons, List.length_nil] at h0; omega) ?_
                  refine ge_batch [4] (ans := []) (vs := [(4, .slice Z1 l0.length cz1)]) (l := []) (by kernel_rfl) trivial ?_
                  refine ge_nil fun a hF => hK3 _ _ ?_ a hF
                  have hS10 : St w0 w5 [Own.of (.slice Z1 (((List.replicate 0 (⟨0, 0, 0, 0, 0⟩ : SJob)) ++ l0) ++ ([(⟨x1_0, x1_1, x1_2, x1_3, x1_4⟩ : SJob), (⟨x1_0, x1_1, x1_2, x1_3, x1_4⟩ : SJob), (⟨x1_0, x1_1, x1_2, x1_3, x1_4⟩ : SJob)] : List SJob)).length cz1) 30 (((List.replicate 0 (⟨0, 0, 0, 0, 0⟩ : SJob)) ++ l0) ++ ([(⟨x1_0, x1_1, x1_2, x1_3, x1_4⟩ : SJob), (⟨x1_0, x1_1, x1_2, x1_3, x1_4⟩ : SJob), (⟨x1_0, x1_1, x1_2, x1_3, x1_4⟩ : SJob)] : List SJob))] := hS9.takeN 1
                  obtain rfl := Option.some.inj h
                  exact we_ret (post_ret (rs := [.tmp 4]) (ans := []) (vs := [.slice Z1 l0.length cz1]) (l := []) rfl (by kernel_rfl) trivial ⟨Z1, cz1, rfl, hcp1, hS10⟩)
                · rw [if_neg hc4] at h
                  cases h
              exact go_nomore
            · rw [if_neg hc3] at h
              cases h
          exact go_nomore
        exact go_nomore
      · rw [if_neg hc2] at h
        cases h
    · rw [if_neg hc1] at h
      cases h
  refine go_alt (fun K hK => ?_) ?_
  · refine ge_one2 ?_
    refine ge_new (d := some 15) (o := .cells #[.int .i64 x1_0, .int .i64 x1_1, .int .i64 x1_2, .int .i64 x1_3, .int .i64 x1_4, .int .i64 x1_0, .int .i64 x1_1, .int .i64 x1_2, .int .i64 x1_3, .int .i64 x1_4, .int .i64 x1_0, .int .i64 x1_1, .int .i64 x1_2, .int .i64 x1_3, .int .i64 x1_4] 30) (v := fun b => .slice (some ⟨b, 0, none⟩) 3 3) hS2 (fun b => by kernel_rfl) fun b2 w2 hx2 hS3 => ?_
    refine ge_nil fun a hF => hK _ _ (RS.of (l := [.loaded ⟨b1, 0, none⟩ (.int .i64 x1_0), .loaded ⟨b1, 1, none⟩ (.int .i64 x1_1), .loaded ⟨b1, 2, none⟩ (.int .i64 x1_2), .loaded ⟨b1, 3, none⟩ (.int .i64 x1_3), .loaded ⟨b1, 4, none⟩ (.int .i64 x1_4), .loaded ⟨b1, 0, none⟩ (.int .i64 x1_0), .loaded ⟨b1, 1, none⟩ (.int .i64 x1_1), .loaded ⟨b1, 2, none⟩ (.int .i64 x1_2), .loaded ⟨b1, 3, none⟩ (.int .i64 x1_3), .loaded ⟨b1, 4, none⟩ (.int .i64 x1_4), .loaded ⟨b1, 0, none⟩ (.int .i64 x1_0), .loaded ⟨b1, 1, none⟩ (.int .i64 x1_1), .loaded ⟨b1, 2, none⟩ (.int .i64 x1_2), .loaded ⟨b1, 3, none⟩ (.int .i64 x1_3), .loaded ⟨b1, 4, none⟩ (.int .i64 x1_4)]) ⟨hS2.cell 0 rfl rfl, hS2.cell 0 rfl rfl, hS2.cell 0 rfl rfl, hS2.cell 0 rfl rfl, hS2.cell 0 rfl rfl, hS2.cell 0 rfl rfl, hS2.cell 0 rfl rfl, hS2.cell 0 rfl rfl, hS2.cell 0 rfl rfl, hS2.cell 0 rfl rfl, hS2.cell 0 rfl rfl, hS2.cell 0 rfl rfl, hS2.cell 0 rfl rfl, hS2.cell 0 rfl rfl, hS2.cell 0 rfl rfl, trivial⟩ ⟨hS3.cell 1 rfl rfl, hS3.cell 1 rfl rfl, hS3.cell 1 rfl rfl, hS3.cell 1 rfl rfl, hS3.cell 1 rfl rfl, hS3.cell 1 rfl rfl, hS3.cell 1 rfl rfl, hS3.cell 1 rfl rfl, hS3.cell 1 rfl rfl, hS3.cell 1 rfl rfl, hS3.cell 1 rfl rfl, hS3.cell 1 rfl rfl, hS3.cell 1 rfl rfl, hS3.cell 1 rfl rfl, hS3.cell 1 rfl rfl, trivial⟩) ?_ a hF
    refine go_alt (fun K hK => ?_) ?_
    · refine ge_one2 ?_
      by_cases hc1 : 0 ≤ (IntKind.i64.wrap ((l0.length : Int) + 3))
      · rw [if_pos hc1] at h
        by_cases hc2 : ((IntKind.i64.wrap ((l0.length : Int) + 3)).toNat) ≤ 3518437208883
        · rw [if_pos hc2] at h
          refine ge_make (α := SJob) (d := 9) (t := 22) (el := 30) (bytes := 40) (l := 0) (c := ((IntKind.i64.wrap ((l0.length : Int) + 3)).toNat)) (x := (.const (.int .i64 0))) (y := (.tmp 8)) (ty := 22) (k1 := .i64) (k2 := .i64) (li := 0) (ci := (IntKind.i64.wrap ((l0.length : Int) + 3))) (z := .agg #[.int .i64 0, .int .i64 0, .int .i64 0, .int .i64 0, .int .i64 0]) (z' := (⟨0, 0, 0, 0, 0⟩ : SJob)) (by kernel_rfl) (by kernel_rfl) (by kernel_rfl) rfl (Int.toNat_of_nonneg hc1).symm (by kernel_rfl) (by kernel_rfl) rfl hS3 (Nat.zero_le _) rfl (by omega) fun v1 w3 _ hS4 => ?_
          refine ge_nil fun a hF => hK _ _ (RS.of (l := [.loaded ⟨b1, 0, none⟩ (.int .i64 x1_0), .loaded ⟨b1, 1, none⟩ (.int .i64 x1_1), .loaded ⟨b1, 2, none⟩ (.int .i64 x1_2), .loaded ⟨b1, 3, none⟩ (.int .i64 x1_3), .loaded ⟨b1, 4, none⟩ (.int .i64 x1_4), .loaded ⟨b1, 0, none⟩ (.int .i64 x1_0), .loaded ⟨b1, 1, none⟩ (.int .i64 x1_1), .loaded ⟨b1, 2, none⟩ (.int .i64 x1_2), .loaded ⟨b1, 3, none⟩ (.int .i64 x1_3), .loaded ⟨b1, 4, none⟩ (.int .i64 x1_4), .loaded ⟨b1, 0, none⟩ (.int .i64 x1_0), .loaded ⟨b1, 1, none⟩ (.int .i64 x1_1), .loaded ⟨b1, 2, none⟩ (.int .i64 x1_2), .loaded ⟨b1, 3, none⟩ (.int .i64 x1_3), .loaded ⟨b1, 4, none⟩ (.int .i64 x1_4)]) ⟨hS3.cell 1 rfl rfl, hS3.cell 1 rfl rfl, hS3.cell 1 rfl rfl, hS3.cell 1 rfl rfl, hS3.cell 1 rfl rfl, hS3.cell 1 rfl rfl, hS3.cell 1 rfl rfl, hS3.cell 1 rfl rfl, hS3.cell 1 rfl rfl, hS3.cell 1 rfl rfl, hS3.cell 1 rfl rfl, hS3.cell 1 rfl rfl, hS3.cell 1 rfl rfl, hS3.cell 1 rfl rfl, hS3.cell 1 rfl rfl, trivial⟩ ⟨hS4.cell 2 rfl rfl, hS4.cell 2 rfl rfl, hS4.cell 2 rfl rfl, hS4.cell 2 rfl rfl, hS4.cell 2 rfl rfl, hS4.cell 2 rfl rfl, hS4.cell 2 rfl rfl, hS4.cell 2 rfl rfl, hS4.cell 2 rfl rfl, hS4.cell 2 rfl rfl, hS4.cell 2 rfl rfl, hS4.cell 2 rfl rfl, hS4.cell 2 rfl rfl, hS4.cell 2 rfl rfl, hS4.cell 2 rfl rfl, trivial⟩) ?_ a hF
          refine go_alt (fun K hK => ?_) ?_
          · by_cases hc3 : (List.replicate 0 (⟨0, 0, 0, 0, 0⟩ : SJob)).length + l0.length ≤ 3518437208883
            · rw [if_pos hc3] at h
              refine ge_appendL (α := SJob) (m := 0) (d := 11) (t := 22) (el := 30) (bytes := 40) (c1 := c0) (A1 := A0) (x := (.tmp 9)) (y := (.tmp 10)) (ty := 22) (v := v1) (z := .agg #[.int .i64 0, .int .i64 0, .int .i64 0, .int .i64 0, .int .i64 0]) (l := (List.replicate 0 (⟨0, 0, 0, 0, 0⟩ : SJob))) (us := l0) (by kernel_rfl) (by kernel_rfl) (by kernel_rfl) (by kernel_rfl) (by kernel_rfl) rfl hS4 (hS4.rd hR0) rfl (Nat.mul_le_of_le_div _ _ _ hc3) fun v2 w4 hS5 => ?_
              have hS6 : St w0 w4 [Own.of v2 30 ((List.replicate 0 (⟨0, 0, 0, 0, 0⟩ : SJob)) ++ l0), Own.blk b2 (.cells #[.int .i64 x1_0, .int .i64 x1_1, .int .i64 x1_2, .int .i64 x1_3, .int .i64 x1_4, .int .i64 x1_0, .int .i64 x1_1, .int .i64 x1_2, .int .i64 x1_3, .int .i64 x1_4, .int .i64 x1_0, .int .i64 x1_1, .int .i64 x1_2, .int .i64 x1_3, .int .i64 x1_4] 30 (0, 0)), Own.blk b1 (.cells #[.int .i64 x1_0, .int .i64 x1_1, .int .i64 x1_2, .int .i64 x1_3, .int .i64 x1_4] 30 (0, 0))] := hS5
              refine ge_nil fun a hF => hK _ _ (RS.of (l := [.loaded ⟨b1, 0, none⟩ (.int .i64 x1_0), .loaded ⟨b1, 1, none⟩ (.int .i64 x1_1), .loaded ⟨b1, 2, none⟩ (.int .i64 x1_2), .loaded ⟨b1, 3, none⟩ (.int .i64 x1_3), .loaded ⟨b1, 4, none⟩ (.int .i64 x1_4), .loaded ⟨b1, 0, none⟩ (.int .i64 x1_0), .loaded ⟨b1, 1, none⟩ (.int .i64 x1_1), .loaded ⟨b1, 2, none⟩ (.int .i64 x1_2), .loaded ⟨b1, 3, none⟩ (.int .i64 x1_3), .loaded ⟨b1, 4, none⟩ (.int .i64 x1_4), .loaded ⟨b1, 0, none⟩ (.int .i64 x1_0), .loaded ⟨b1, 1, none⟩ (.int .i64 x1_1), .loaded ⟨b1, 2, none⟩ (.int .i64 x1_2), .loaded ⟨b1, 3, none⟩ (.int .i64 x1_3), .loaded ⟨b1, 4, none⟩ (.int .i64 x1_4)]) ⟨hS4.cell 2 rfl rfl, hS4.cell 2 rfl rfl, hS4.cell 2 rfl rfl, hS4.cell 2 rfl rfl, hS4.cell 2 rfl rfl, hS4.cell 2 rfl rfl, hS4.cell 2 rfl rfl, hS4.cell 2 rfl rfl, hS4.cell 2 rfl rfl, hS4.cell 2 rfl rfl, hS4.cell 2 rfl rfl, hS4.cell 2 rfl rfl, hS4.cell 2 rfl rfl, hS4.cell 2 rfl rfl, hS4.cell 2 rfl rfl, trivial⟩ ⟨hS6.cell 2 rfl rfl, hS6.cell 2 rfl rfl, hS6.cell 2 rfl rfl, hS6.cell 2 rfl rfl, hS6.cell 2 rfl rfl, hS6.cell 2 rfl rfl, hS6.cell 2 rfl rfl, hS6.cell 2 rfl rfl, hS6.cell 2 rfl rfl, hS6.cell 2 rfl rfl, hS6.cell 2 rfl rfl, hS6.cell 2 rfl rfl, hS6.cell 2 rfl rfl, hS6.cell 2 rfl rfl, hS6.cell 2 rfl rfl, trivial⟩) ?_ a hF
              refine go_alt (fun K hK => ?_) ?_
              · by_cases hc4 : ((List.replicate 0 (⟨0, 0, 0, 0, 0⟩ : SJob)) ++ l0).length + 3 ≤ 3518437208883
                · rw [if_pos hc4] at h
                  refine ge_appendL (α := SJob) (m := 0) (d := 16) (t := 22) (el := 30) (bytes := 40) (c1 := 3) (A1 := (some ⟨b2, 0, none⟩)) (x := (.tmp 11)) (y := (.tmp 15)) (ty := 22) (v := v2) (z := .agg #[.int .i64 0, .int .i64 0, .int .i64 0, .int .i64 0, .int .i64 0]) (l := ((List.replicate 0 (⟨0, 0, 0, 0, 0⟩ : SJob)) ++ l0)) (us := ([(⟨x1_0, x1_1, x1_2, x1_3, x1_4⟩ : SJob), (⟨x1_0, x1_1, x1_2, x1_3, x1_4⟩ : SJob), (⟨x1_0, x1_1, x1_2, x1_3, x1_4⟩ : SJob)] : List SJob)) (by kernel_rfl) (by kernel_rfl) (by kernel_rfl) (by kernel_rfl) (by kernel_rfl) rfl hS6 (hS6.rdBlk 1 ([(⟨x1_0, x1_1, x1_2, x1_3, x1_4⟩ : SJob), (⟨x1_0, x1_1, x1_2, x1_3, x1_4⟩ : SJob), (⟨x1_0, x1_1, x1_2, x1_3, x1_4⟩ : SJob)] : List SJob) rfl rfl rfl) rfl (Nat.mul_le_of_le_div _ _ _ hc4) fun v3 w5 hS7 => ?_
                  have hS8 : St w0 w5 [Own.of v3 30 (((List.replicate 0 (⟨0, 0, 0, 0, 0⟩ : SJob)) ++ l0) ++ ([(⟨x1_0, x1_1, x1_2, x1_3, x1_4⟩ : SJob), (⟨x1_0, x1_1, x1_2, x1_3, x1_4⟩ : SJob), (⟨x1_0, x1_1, x1_2, x1_3, x1_4⟩ : SJob)] : List SJob)), Own.blk b2 (.cells #[.int .i64 x1_0, .int .i64 x1_1, .int .i64 x1_2, .int .i64 x1_3, .int .i64 x1_4, .int .i64 x1_0, .int .i64 x1_1, .int .i64 x1_2, .int .i64 x1_3, .int .i64 x1_4, .int .i64 x1_0, .int .i64 x1_1, .int .i64 x1_2, .int .i64 x1_3, .int .i64 x1_4] 30 (0, 0)), Own.blk b1 (.cells #[.int .i64 x1_0, .int .i64 x1_1, .int .i64 x1_2, .int .i64 x1_3, .int .i64 x1_4] 30 (0, 0))] := hS7
                  refine ge_nil fun a hF => hK _ _ (RS.of (l := [.loaded ⟨b1, 0, none⟩ (.int .i64 x1_0), .loaded ⟨b1, 1, none⟩ (.int .i64 x1_1), .loaded ⟨b1, 2, none⟩ (.int .i64 x1_2), .loaded ⟨b1, 3, none⟩ (.int .i64 x1_3), .loaded ⟨b1, 4, none⟩ (.int .i64 x1_4), .loaded ⟨b1, 0, none⟩ (.int .i64 x1_0), .loaded ⟨b1, 1, none⟩ (.int .i64 x1_1), .loaded ⟨b1, 2, none⟩ (.int .i64 x1_2), .loaded ⟨b1, 3, none⟩ (.int .i64 x1_3), .loaded ⟨b1, 4, none⟩ (.int .i64 x1_4), .loaded ⟨b1, 0, none⟩ (.int .i64 x1_0), .loaded ⟨b1, 1, none⟩ (.int .i64 x1_1), .loaded ⟨b1, 2, none⟩ (.int .i64 x1_2), .loaded ⟨b1, 3, none⟩ (.int .i64 x1_3), .loaded ⟨b1, 4, none⟩ (.int .i64 x1_4)]) ⟨hS6.cell 2 rfl rfl, hS6.cell 2 rfl rfl, hS6.cell 2 rfl rfl, hS6.cell 2 rfl rfl, hS6.cell 2 rfl rfl, hS6.cell 2 rfl rfl, hS6.cell 2 rfl rfl, hS6.cell 2 rfl rfl, hS6.cell 2 rfl rfl, hS6.cell 2 rfl rfl, hS6.cell 2 rfl rfl, hS6.cell 2 rfl rfl, hS6.cell 2 rfl rfl, hS6.cell 2 rfl rfl, hS6.cell 2 rfl rfl, trivial⟩ ⟨hS8.cell 2 rfl rfl, hS8.cell 2 rfl rfl, hS8.cell 2 rfl rfl, hS8.cell 2 rfl rfl, hS8.cell 2 rfl rfl, hS8.cell 2 rfl rfl, hS8.cell 2 rfl rfl, hS8.cell 2 rfl rfl, hS8.cell 2 rfl rfl, hS8.cell 2 rfl rfl, hS8.cell 2 rfl rfl, hS8.cell 2 rfl rfl, hS8.cell 2 rfl rfl, hS8.cell 2 rfl rfl, hS8.cell 2 rfl rfl, trivial⟩) ?_ a hF
                  refine go_vals [11] (ans := []) (vs := [(5, v3)]) (l := []) (by kernel_rfl) trivial (by simp [didAddrs]) ?_
                  refine go_fin fun a hF => hK2 _ _ ?_ a hF
                  refine we_seq fun K3 hK3 => ?_
                  refine we_region [(0, 0), (1, 0), (2, 0), (3, 0), (4, 0)] rfl ?_
                  refine ge_batch [0, 1, 2] (ans := []) (vs := [(19, .int .i64 (l0.length : Int)), (18, .slice A0 l0.length c0), (17, v3)]) (l := []) (by kernel_rfl) trivial ?_
                  obtain ⟨Z1, cz1, rfl, hcp1⟩ := hS8.open2 0 rfl
                  refine ge_sliceHi (d := 20) (ty := 22) (t := 22) (el := 30) (sz := 5) (m := ((((List.replicate 0 (⟨0, 0, 0, 0, 0⟩ : SJob)) ++ l0) ++ ([(⟨x1_0, x1_1, x1_2, x1_3, x1_4⟩ : SJob), (⟨x1_0, x1_1, x1_2, x1_3, x1_4⟩ : SJob), (⟨x1_0, x1_1, x1_2, x1_3, x1_4⟩ : SJob)] : List SJob)).length)) (c := cz1) (hn := l0.length) (x := (.tmp 17)) (y := (.tmp 19)) (A := Z1) (k' := .i64) (hi := (l0.length : Int)) (by kernel_rfl) (by kernel_rfl) (by kernel_rfl) rfl (by kernel_rfl) (by kernel_rfl) (by have h0 := hcp1; simp only [List.length_append, List.length_cons, List.length_nil] at h0; omega) ?_
                  refine ge_batch [4] (ans := []) (vs := [(4, .slice Z1 l0.length cz1)]) (l := []) (by kernel_rfl) trivial ?_
                  refine ge_nil fun a hF => hK3 _ _ ?_ a hF
                  have hS9 : St w0 w5 [Own.of (.slice Z1 (((List.replicate 0 (⟨0, 0, 0, 0, 0⟩ : SJob)) ++ l0) ++ ([(⟨x1_0, x1_1, x1_2, x1_3, x1_4⟩ : SJob), (⟨x1_0, x1_1, x1_2, x1_3, x1_4⟩ : SJob), (⟨x1_0, x1_1, x1_2, x1_3, x1_4⟩ : SJob)] : List SJob)).length cz1) 30 (((List.replicate 0 (⟨0, 0, 0, 0, 0⟩ : SJob)) ++ l0) ++ ([(⟨x1_0, x1_1, x1_2, x1_3, x1_4⟩ : SJob), (⟨x1_0, x1_1, x1_2, x1_3, x1_4⟩ : SJob), (⟨x1_0, x1_1, x1_2, x1_3, x1_4⟩ : SJob)] : List SJob))] := hS8.takeN 1
                  obtain rfl := Option.some.inj h
                  exact we_ret (post_ret (rs := [.tmp 4]) (ans := []) (vs := [.slice Z1 l0.length cz1]) (l := []) rfl (by kernel_rfl) trivial ⟨Z1, cz1, rfl, hcp1, hS9⟩)
                · rw [if_neg hc4] at h
                  cases h
              exact go_nomore
            · rw [if_neg hc3] at h
              cases h
          exact go_nomore
        · rw [if_neg hc2] at h
          cases h
      · rw [if_neg hc1] at h
        cases h
    exact go_nomore
  exact go_nomore
theorem LendJob_full (l0 : List SJob) (x1_0 : Int) (x1_1 : Int) (x1_2 : Int) (x1_3 : Int) (x1_4 : Int) {r : List SJob} (h : LendJob.f l0 x1_0 x1_1 x1_2 x1_3 x1_4 = some r) : r = l0 ++ [(⟨x1_0, x1_1, x1_2, x1_3, x1_4⟩ : SJob), (⟨x1_0, x1_1, x1_2, x1_3, x1_4⟩ : SJob), (⟨x1_0, x1_1, x1_2, x1_3, x1_4⟩ : SJob)] := by
  unfold LendJob.f at h
  repeat' split at h
  all_goals first | (exact (Option.some.inj h).symm) | cases h

/-! punctual/punctualsame.Lend[int] -/
abbrev LendInt.Post (w0 : World) (n : Nat) (r : List Int) (e : Ending) (w : World) : Prop := ∃ (A : Option Addr) (c : Nat), e = .returned (.slice A n c) ∧ r.length ≤ c ∧ St w0 w [Own.of (.slice A r.length c) 3 r]
def LendInt.f (l0 : List Int) (x1 : Int) : Option (List Int) :=
  if 0 ≤ (IntKind.i64.wrap ((l0.length : Int) + 3)) then
    if ((IntKind.i64.wrap ((l0.length : Int) + 3)).toNat) ≤ 17592186044416 then
      if (List.replicate 0 (0 : Int)).length + l0.length ≤ 17592186044416 then
        if ((List.replicate 0 (0 : Int)) ++ l0).length + 3 ≤ 17592186044416 then
          some (((List.replicate 0 (0 : Int)) ++ l0) ++ ([x1, x1, x1] : List Int))
        else
          none
      else
        none
    else
      none
  else
    none
theorem LendInt_ok (l0 : List Int) (A0 : Option Addr) (c0 : Nat) (x1 : Int) (w0 : World) (hR0 : RdL w0 A0 l0) (r : List Int) (h : LendInt.f l0 x1 = some r) :
    Calls Tryd.prog 15 #[.slice A0 l0.length c0, .int .i64 x1] w0 (LendInt.Post w0 l0.length r) := by
  have hS := St.start w0
  unfold LendInt.f at h
  refine calls_enter (n := 21) (args := [.slice A0 l0.length c0, .int .i64 x1]) (fn := Tryd.f15) rfl rfl rfl rfl ?_
  show WE _ _ _ _ [(0, .slice A0 l0.length c0), (1, .int .i64 x1)] _
  refine we_seq fun K1 hK1 => ?_
  refine we_region [(0, 0)] rfl ?_
  refine ge_batch [0] (ans := []) (vs := [(4, .slice none 0 0)]) (l := []) (by kernel_rfl) trivial ?_
  refine ge_nil fun a hF => hK1 _ _ ?_ a hF
  refine we_seq fun K2 hK2 => ?_
  refine we_region [(0, 0), (1, 0), (2, 0), (3, 1), (4, 0), (5, 2), (6, 0), (7, 0), (8, 0), (9, 1), (10, 2), (11, 0)] rfl ?_
  refine ge_batch [0, 1, 2] (ans := []) (vs := [(8, .int .i64 (IntKind.i64.wrap ((l0.length : Int) + 3))), (7, .int .i64 (l0.length : Int)), (6, .slice A0 l0.length c0)]) (l := []) (by kernel_rfl) trivial ?_
  by_cases hc1 : 0 ≤ (IntKind.i64.wrap ((l0.length : Int) + 3))
  · rw [if_pos hc1] at h
    by_cases hc2 : ((IntKind.i64.wrap ((l0.length : Int) + 3)).toNat) ≤ 17592186044416
    · rw [if_pos hc2] at h
      refine ge_make (α := Int) (d := 9) (t := 23) (el := 3) (bytes := 8) (l := 0) (c := ((IntKind.i64.wrap ((l0.length : Int) + 3)).toNat)) (x := (.const (.int .i64 0))) (y := (.tmp 8)) (ty := 23) (k1 := .i64) (k2 := .i64) (li := 0) (ci := (IntKind.i64.wrap ((l0.length : Int) + 3))) (z := .int .i64 0) (z' := (0 : Int)) (by kernel_rfl) (by kernel_rfl) (by kernel_rfl) rfl (Int.toNat_of_nonneg hc1).symm (by kernel_rfl) (by kernel_rfl) rfl hS (Nat.zero_le _) rfl (by omega) fun v1 w1 _ hS1 => ?_
      refine ge_batch [4] (ans := []) (vs := [(10, .slice A0 l0.length c0)]) (l := []) (by kernel_rfl) trivial ?_
      by_cases hc3 : (List.replicate 0 (0 : Int)).length + l0.length ≤ 17592186044416
      · rw [if_pos hc3] at h
        refine ge_appendL (α := Int) (m := 0) (d := 11) (t := 23) (el := 3) (bytes := 8) (c1 := c0) (A1 := A0) (x := (.tmp 9)) (y := (.tmp 10)) (ty := 23) (v := v1) (z := .int .i64 0) (l := (List.replicate 0 (0 : Int))) (us := l0) (by kernel_rfl) (by kernel_rfl) (by kernel_rfl) (by kernel_rfl) (by kernel_rfl) rfl hS1 (hS1.rd hR0) rfl (Nat.mul_le_of_le_div _ _ _ hc3) fun v2 w2 hS2 => ?_
        have hS3 : St w0 w2 [Own.of v2 3 ((List.replicate 0 (0 : Int)) ++ l0)] := hS2
        refine ge_batch [6, 7, 8] (ans := []) (vs := [(14, .int .i64 x1), (13, .int .i64 x1), (12, .int .i64 x1)]) (l := []) (by kernel_rfl) trivial ?_
        refine ge_new (d := some 15) (o := .cells #[.int .i64 x1, .int .i64 x1, .int .i64 x1] 3) (v := fun b => .slice (some ⟨b, 0, none⟩) 3 3) hS3 (fun b => by kernel_rfl) fun b1 w3 hx1 hS4 => ?_
        have hS5 : St w0 w3 [Own.of v2 3 ((List.replicate 0 (0 : Int)) ++ l0), Own.blk b1 (.cells #[.int .i64 x1, .int .i64 x1, .int .i64 x1] 3 (0, 0))] := hS4.bring 1 rfl
        by_cases hc4 : ((List.replicate 0 (0 : Int)) ++ l0).length + 3 ≤ 17592186044416
        · rw [if_pos hc4] at h
          refine ge_appendL (α := Int) (m := 0) (d := 16) (t := 23) (el := 3) (bytes := 8) (c1 := 3) (A1 := (some ⟨b1, 0, none⟩)) (x := (.tmp 11)) (y := (.tmp 15)) (ty := 23) (v := v2) (z := .int .i64 0) (l := ((List.replicate 0 (0 : Int)) ++ l0)) (us := ([x1, x1, x1] : List Int)) (by kernel_rfl) (by kernel_rfl) (by kernel_rfl) (by kernel_rfl) (by kernel_rfl) rfl hS5 (hS5.rdBlk 1 ([x1, x1, x1] : List Int) rfl rfl rfl) rfl (Nat.mul_le_of_le_div _ _ _ hc4) fun v3 w4 hS6 => ?_
          have hS7 : St w0 w4 [Own.of v3 3 (((List.replicate 0 (0 : Int)) ++ l0) ++ ([x1, x1, x1] : List Int)), Own.blk b1 (.cells #[.int .i64 x1, .int .i64 x1, .int .i64 x1] 3 (0, 0))] := hS6
          refine ge_batch [11] (ans := []) (vs := [(5, v3)]) (l := []) (by kernel_rfl) trivial ?_
          refine ge_nil fun a hF => hK2 _ _ ?_ a hF
          refine we_seq fun K3 hK3 => ?_
          refine we_region [(0, 0), (1, 0), (2, 0), (3, 0), (4, 0)] rfl ?_
          refine ge_batch [0, 1, 2] (ans := []) (vs := [(19, .int .i64 (l0.length : Int)), (18, .slice A0 l0.length c0), (17, v3)]) (l := []) (by kernel_rfl) trivial ?_
          obtain ⟨Z1, cz1, rfl, hcp1⟩ := hS7.open2 0 rfl
          refine ge_sliceHi (d := 20) (ty := 23) (t := 23) (el := 3) (sz := 1) (m := ((((List.replicate 0 (0 : Int)) ++ l0) ++ ([x1, x1, x1] : List Int)).length)) (c := cz1) (hn := l0.length) (x := (.tmp 17)) (y := (.tmp 19)) (A := Z1) (k' := .i64) (hi := (l0.length : Int)) (by kernel_rfl) (by kernel_rfl) (by kernel_rfl) rfl (by kernel_rfl) (by kernel_rfl) (by have h0 := hcp1; simp only [List.length_append, List.length_cons, List.length_nil] at h0; omega) ?_
          refine ge_batch [4] (ans := []) (vs := [(4, .slice Z1 l0.length cz1)]) (l := []) (by kernel_rfl) trivial ?_
          refine ge_nil fun a hF => hK3 _ _ ?_ a hF
          have hS8 : St w0 w4 [Own.of (.slice Z1 (((List.replicate 0 (0 : Int)) ++ l0) ++ ([x1, x1, x1] : List Int)).length cz1) 3 (((List.replicate 0 (0 : Int)) ++ l0) ++ ([x1, x1, x1] : List Int))] := hS7.takeN 1
          obtain rfl := Option.some.inj h
          exact we_ret (post_ret (rs := [.tmp 4]) (ans := []) (vs := [.slice Z1 l0.length cz1]) (l := []) rfl (by kernel_rfl) trivial ⟨Z1, cz1, rfl, hcp1, hS8⟩)
        · rw [if_neg hc4] at h
          cases h
      · rw [if_neg hc3] at h
        cases h
    · rw [if_neg hc2] at h
      cases h
  · rw [if_neg hc1] at h
    cases h
theorem LendInt_full (l0 : List Int) (x1 : Int) {r : List Int} (h : LendInt.f l0 x1 = some r) : r = l0 ++ [x1, x1, x1] := by
  unfold LendInt.f at h
  repeat' split at h
  all_goals first | (exact (Option.some.inj h).symm) | cases h

/-! punctual/punctualsame.Still[punctual/api.Job] -/
abbrev StillJob.Post (w0 : World) (r : Bool) (e : Ending) (w : World) : Prop := e = .returned (.bool r) ∧ St w0 w []
def StillJob.r0 (f0 : List SJob) (l1 : List SJob) (x2_0 : Int) (x2_1 : Int) (x2_2 : Int) (x2_3 : Int) (x2_4 : Int) : Nat → Option (Nat ⊕ (Unit ⊕ Bool))
  | i1 =>
    if (i1 : Int) < (f0.length : Int) then
      match f0[i1]? with
      | none => none
      | some e1 =>
        if (i1 : Int) < (l1.length : Int) then
          match l1[i1]? with
          | none => none
          | some e2 =>
            if (SJob.eqb e1 e2) = true then
              if (i1 : Int) ≥ (l1.length : Int) then
                if (SJob.eqb e1 (⟨x2_0, x2_1, x2_2, x2_3, x2_4⟩ : SJob)) = true then
                  some (.inl (i1 + 1))
                else
                  some (.inr (.inr false))
              else
                some (.inl (i1 + 1))
            else
              some (.inr (.inr false))
        else
          if (i1 : Int) ≥ (l1.length : Int) then
            if (SJob.eqb e1 (⟨x2_0, x2_1, x2_2, x2_3, x2_4⟩ : SJob)) = true then
              some (.inl (i1 + 1))
            else
              some (.inr (.inr false))
          else
            some (.inl (i1 + 1))
    else
      some (.inr (.inl ()))
def StillJob.f (K : Nat) (f0 : List SJob) (l1 : List SJob) (x2_0 : Int) (x2_1 : Int) (x2_2 : Int) (x2_3 : Int) (x2_4 : Int) : Option Bool :=
  if (IntKind.i64.wrap ((l1.length : Int) + 3)) = (f0.length : Int) then
    match iter (StillJob.r0 f0 l1 x2_0 x2_1 x2_2 x2_3 x2_4) K 0 with
    | none => none
    | some (.inl _) =>
      some true
    | some (.inr rr1) =>
      some rr1
  else
    none
abbrev StillJob.A0 (K : Nat) (w0 : World) (f0 : List SJob) (A0 : Option Addr) (n0 : Nat) (c0 : Nat) (l1 : List SJob) (A1 : Option Addr) (c1 : Nat) (x2_0 : Int) (x2_1 : Int) (x2_2 : Int) (x2_3 : Int) (x2_4 : Int) (hR0 : RdL w0 A0 f0) (hc0 : f0.length ≤ c0) (hR1 : RdL w0 A1 l1) (b1 : Nat) (hc1 : (IntKind.i64.wrap ((l1.length : Int) + 3)) = (f0.length : Int)) : Nat → Act → World → Prop := fun (s : Nat) a w => St w0 w [Own.blk b1 (.cells #[.int .i64 x2_0, .int .i64 x2_1, .int .i64 x2_2, .int .i64 x2_3, .int .i64 x2_4] 30 (0, 0))] ∧ Frm 46 a [(1, .slice A1 l1.length c1), (5, .pointer (some ⟨b1, 0, none⟩)), (15, .slice A0 f0.length c0), (16, .int .i64 (f0.length : Int)), (17, .int .i64 (s : Int))]
abbrev StillJob.B0 (K : Nat) (w0 : World) (f0 : List SJob) (A0 : Option Addr) (n0 : Nat) (c0 : Nat) (l1 : List SJob) (A1 : Option Addr) (c1 : Nat) (x2_0 : Int) (x2_1 : Int) (x2_2 : Int) (x2_3 : Int) (x2_4 : Int) (hR0 : RdL w0 A0 f0) (hc0 : f0.length ≤ c0) (hR1 : RdL w0 A1 l1) (b1 : Nat) (hc1 : (IntKind.i64.wrap ((l1.length : Int) + 3)) = (f0.length : Int)) : (Unit ⊕ Bool) → Exit → Act → World → Prop := Exits 0 (fun (s : Unit) a w => St w0 w [] ∧ Frm 46 a []) (Rets Tryd.prog Tryd.f17 (StillJob.Post w0))
theorem StillJob_r0 (K : Nat) (w0 : World) (f0 : List SJob) (A0 : Option Addr) (n0 : Nat) (c0 : Nat) (l1 : List SJob) (A1 : Option Addr) (c1 : Nat) (x2_0 : Int) (x2_1 : Int) (x2_2 : Int) (x2_3 : Int) (x2_4 : Int) (hR0 : RdL w0 A0 f0) (hc0 : f0.length ≤ c0) (hR1 : RdL w0 A1 l1) (b1 : Nat) (hc1 : (IntKind.i64.wrap ((l1.length : Int) + 3)) = (f0.length : Int)) (s : Nat) (o : Nat ⊕ (Unit ⊕ Bool)) (h : StillJob.r0 f0 l1 x2_0 x2_1 x2_2 x2_3 x2_4 s = some o) (a : Act) (w : World) (hA : StillJob.A0 K w0 f0 A0 n0 c0 l1 A1 c1 x2_0 x2_1 x2_2 x2_3 x2_4 hR0 hc0 hR1 b1 hc1 s a w) (Q : Exit → Act → World → Prop) (hQ : ∀ x a w, Outs (StillJob.A0 K w0 f0 A0 n0 c0 l1 A1 c1 x2_0 x2_1 x2_2 x2_3 x2_4 hR0 hc0 hR1 b1 hc1) (StillJob.B0 K w0 f0 A0 n0 c0 l1 A1 c1 x2_0 x2_1 x2_2 x2_3 x2_4 hR0 hc0 hR1 b1 hc1) o x a w → Q x a w) : (subF Tryd.f17 [1, 1, 0, 1, 0, 0]).wp Tryd.prog Q a w := by
  obtain ⟨i1, hs⟩ : ∃ z, z = s := ⟨s, rfl⟩
  subst hs
  obtain ⟨hS, hF⟩ := hA
  replace hS : St w0 w [Own.blk b1 (.cells #[.int .i64 x2_0, .int .i64 x2_1, .int .i64 x2_2, .int .i64 x2_3, .int .i64 x2_4] 30 (0, 0))] := hS
  simp only [StillJob.r0] at h
  refine (?_ : WE Tryd.prog 46 (subF Tryd.f17 [1, 1, 0, 1, 0, 0]) Q [(1, .slice A1 l1.length c1), (5, .pointer (some ⟨b1, 0, none⟩)), (15, .slice A0 f0.length c0), (16, .int .i64 (f0.length : Int)), (17, .int .i64 (i1 : Int))] w) a hF
  clear hF a
  refine we_seq fun K5 hK5 => ?_
  refine we_region [(0, 0)] rfl ?_
  refine ge_batch [0] (ans := []) (vs := [(18, .bool (decide ((i1 : Int) < (f0.length : Int))))]) (l := []) (by kernel_rfl) trivial ?_
  refine ge_nil fun a hF => hK5 _ _ ?_ a hF
  refine we_seq fun K6 hK6 => ?_
  by_cases hc2 : (i1 : Int) < (f0.length : Int)
  · rw [if_pos hc2] at h
    refine we_known (t := 18) (b := decide ((i1 : Int) < (f0.length : Int))) (v := true) (by kernel_rfl) (decide_eq_true hc2) ?_
    refine we_true (by kernel_rfl) ?_
    refine we_skip fun a hF => hK6 _ _ ?_ a hF
    refine we_seq fun K7 hK7 => ?_
    refine we_block ?_
    refine we_seq fun K8 hK8 => ?_
    refine we_region [(0, 0), (1, 0), (2, 0), (3, 1), (4, 0), (5, 2)] rfl ?_
    refine ge_batch [0] (ans := []) (vs := [(19, .int .i64 (i1 : Int))]) (l := []) (by kernel_rfl) trivial ?_
    rcases hx2 : f0[i1]? with _ | e1
    · rw [hx2] at h; cases h
    rw [hx2] at h
    simp only [] at h
    refine ge_index (d := 20) (ty := 0) (t := 22) (el := 30) (sz := 5) (m := f0.length) (c := c0) (x := (.tmp 15)) (y := (.tmp 17)) (A := A0) (k' := .i64) (j := (i1 : Int)) (jn := i1) (b0 := blkOf A0) (o0 := offOf A0) (by kernel_rfl) (by kernel_rfl) (by kernel_rfl) (by kernel_rfl) (by kernel_rfl) ((hS.rd hR0).eqSome (pos_of_get hx2)) rfl (lt_of_get hx2) ?_
    refine ge_batch [2] (ans := [.val (.int .i64 e1.Task), .val (.int .i64 e1.At), .val (.int .i64 e1.C), .val (.int .i64 e1.Due), .val (.int .i64 e1.P)]) (vs := [(21, .agg #[.int .i64 e1.Task, .int .i64 e1.At, .int .i64 e1.C, .int .i64 e1.Due, .int .i64 e1.P])]) (l := [.loaded ⟨blkOf A0, offOf A0 + i1 * 5, none⟩ (.int .i64 e1.Task), .loaded ⟨blkOf A0, offOf A0 + i1 * 5 + 1, none⟩ (.int .i64 e1.At), .loaded ⟨blkOf A0, offOf A0 + i1 * 5 + 2, none⟩ (.int .i64 e1.C), .loaded ⟨blkOf A0, offOf A0 + i1 * 5 + 3, none⟩ (.int .i64 e1.Due), .loaded ⟨blkOf A0, offOf A0 + i1 * 5 + 4, none⟩ (.int .i64 e1.P)]) (by kernel_rfl) ⟨RdL.cell (j := 0) (hS.rd hR0) hx2 rfl, RdL.cell (j := 1) (hS.rd hR0) hx2 rfl, RdL.cell (j := 2) (hS.rd hR0) hx2 rfl, RdL.cell (j := 3) (hS.rd hR0) hx2 rfl, RdL.cell (j := 4) (hS.rd hR0) hx2 rfl, trivial⟩ ?_
    refine ge_new (d := some 9) (o := .cells #[.int .i64 0, .int .i64 0, .int .i64 0, .int .i64 0, .int .i64 0] 30) (v := fun b => .pointer (some ⟨b, 0, none⟩)) hS (fun b => by kernel_rfl) fun b2 w2 hx3 hS2 => ?_
    refine ge_batch [4] (ans := []) (vs := [(8, .int .i64 (i1 : Int))]) (l := []) (by kernel_rfl) trivial ?_
    refine ge_set (b := b2) (j := 0) (cs := #[.int .i64 0, .int .i64 0, .int .i64 0, .int .i64 0, .int .i64 0]) (t := 30) (vs := [.int .i64 e1.Task, .int .i64 e1.At, .int .i64 e1.C, .int .i64 e1.Due, .int .i64 e1.P]) hS2 (by kernel_rfl) rfl rfl fun w3 hS3 => ?_
    have hS4 : St w0 w3 [Own.blk b2 (.cells #[.int .i64 e1.Task, .int .i64 e1.At, .int .i64 e1.C, .int .i64 e1.Due, .int .i64 e1.P] 30 (0, 0)), Own.blk b1 (.cells #[.int .i64 x2_0, .int .i64 x2_1, .int .i64 x2_2, .int .i64 x2_3, .int .i64 x2_4] 30 (0, 0))] := hS3
    refine ge_nil fun a hF => hK8 _ _ ?_ a hF
    refine we_seq fun K9 hK9 => ?_
    refine we_draws (by kernel_rfl) [(0, 0), (1, 0), (2, 0), (3, 0), (4, 0), (5, 0), (6, 0), (7, 0), (8, 0), (9, 0), (10, 0), (11, 0), (12, 0), (13, 0), (14, 0), (15, 0), (16, 0), (17, 0), (18, 0), (19, 0), (20, 0), (21, 0), (22, 0)] (by kernel_rfl) ?_
    have hS5 : St w0 w3.drew [Own.blk b2 (.cells #[.int .i64 e1.Task, .int .i64 e1.At, .int .i64 e1.C, .int .i64 e1.Due, .int .i64 e1.P] 30 (0, 0)), Own.blk b1 (.cells #[.int .i64 x2_0, .int .i64 x2_1, .int .i64 x2_2, .int .i64 x2_3, .int .i64 x2_4] 30 (0, 0))] := hS4.drew
    refine ge_batch [0, 1, 2, 3, 4] (ans := []) (vs := [(26, .bool (decide ((i1 : Int) < (l1.length : Int)))), (25, .bool (decide ((i1 : Int) < (l1.length : Int)))), (24, .int .i64 (l1.length : Int)), (23, .slice A1 l1.length c1), (22, .int .i64 (i1 : Int))]) (l := []) (by kernel_rfl) trivial ?_
    by_cases hc3 : (i1 : Int) < (l1.length : Int)
    · rw [if_pos hc3] at h
      refine ge_known (t := 26) (b := decide ((i1 : Int) < (l1.length : Int))) (c := true) (by kernel_rfl) (decide_eq_true hc3) ?_
      refine ge_batch [5, 6, 7] (ans := [.val (.int .i64 e1.Task), .val (.int .i64 e1.At), .val (.int .i64 e1.C), .val (.int .i64 e1.Due), .val (.int .i64 e1.P)]) (vs := [(29, .int .i64 (i1 : Int)), (28, .slice A1 l1.length c1), (27, .agg #[.int .i64 e1.Task, .int .i64 e1.At, .int .i64 e1.C, .int .i64 e1.Due, .int .i64 e1.P])]) (l := [.loaded ⟨b2, 0, none⟩ (.int .i64 e1.Task), .loaded ⟨b2, 1, none⟩ (.int .i64 e1.At), .loaded ⟨b2, 2, none⟩ (.int .i64 e1.C), .loaded ⟨b2, 3, none⟩ (.int .i64 e1.Due), .loaded ⟨b2, 4, none⟩ (.int .i64 e1.P)]) (by kernel_rfl) ⟨hS5.cell 0 rfl rfl, hS5.cell 0 rfl rfl, hS5.cell 0 rfl rfl, hS5.cell 0 rfl rfl, hS5.cell 0 rfl rfl, trivial⟩ ?_
      rcases hx4 : l1[i1]? with _ | e2
      · rw [hx4] at h; cases h
      rw [hx4] at h
      simp only [] at h
      refine ge_index (d := 30) (ty := 0) (t := 22) (el := 30) (sz := 5) (m := l1.length) (c := c1) (x := (.tmp 28)) (y := (.tmp 29)) (A := A1) (k' := .i64) (j := (i1 : Int)) (jn := i1) (b0 := blkOf A1) (o0 := offOf A1) (by kernel_rfl) (by kernel_rfl) (by kernel_rfl) (by kernel_rfl) (by kernel_rfl) ((hS5.rd hR1).eqSome (pos_of_get hx4)) rfl (lt_of_get hx4) ?_
      refine ge_batch [9] (ans := [.val (.int .i64 e2.Task), .val (.int .i64 e2.At), .val (.int .i64 e2.C), .val (.int .i64 e2.Due), .val (.int .i64 e2.P)]) (vs := [(31, .agg #[.int .i64 e2.Task, .int .i64 e2.At, .int .i64 e2.C, .int .i64 e2.Due, .int .i64 e2.P])]) (l := [.loaded ⟨blkOf A1, offOf A1 + i1 * 5, none⟩ (.int .i64 e2.Task), .loaded ⟨blkOf A1, offOf A1 + i1 * 5 + 1, none⟩ (.int .i64 e2.At), .loaded ⟨blkOf A1, offOf A1 + i1 * 5 + 2, none⟩ (.int .i64 e2.C), .loaded ⟨blkOf A1, offOf A1 + i1 * 5 + 3, none⟩ (.int .i64 e2.Due), .loaded ⟨blkOf A1, offOf A1 + i1 * 5 + 4, none⟩ (.int .i64 e2.P)]) (by kernel_rfl) ⟨RdL.cell (j := 0) (hS5.rd hR1) hx4 rfl, RdL.cell (j := 1) (hS5.rd hR1) hx4 rfl, RdL.cell (j := 2) (hS5.rd hR1) hx4 rfl, RdL.cell (j := 3) (hS5.rd hR1) hx4 rfl, RdL.cell (j := 4) (hS5.rd hR1) hx4 rfl, trivial⟩ ?_
      refine ge_eqs (d := 32) (ty := 4) (op := .neq) (x := (.tmp 27)) (y := (.tmp 31)) (t := 30) (t2 := 30) (xs := #[.int .i64 e1.Task, .int .i64 e1.At, .int .i64 e1.C, .int .i64 e1.Due, .int .i64 e1.P]) (ys := #[.int .i64 e2.Task, .int .i64 e2.At, .int .i64 e2.C, .int .i64 e2.Due, .int .i64 e2.P]) (r := (SJob.eqb e1 e2)) (v := !(SJob.eqb e1 e2)) (by kernel_rfl) (by kernel_rfl) (by kernel_rfl) (by kernel_rfl) (by kernel_rfl) rfl ?_
      refine ge_batch [11, 12] (ans := []) (vs := [(34, .bool (!(SJob.eqb e1 e2))), (33, .bool (!(SJob.eqb e1 e2)))]) (l := []) (by kernel_rfl) trivial ?_
      by_cases hc4 : (SJob.eqb e1 e2) = true
      · rw [if_pos hc4] at h
        refine ge_known (t := 34) (b := !(SJob.eqb e1 e2)) (c := false) (by kernel_rfl) (congrArg (fun z => !z) hc4) ?_
        refine ge_batch [13, 14, 15, 16, 17] (ans := []) (vs := [(39, .bool (decide ((i1 : Int) ≥ (l1.length : Int)))), (38, .bool (decide ((i1 : Int) ≥ (l1.length : Int)))), (37, .int .i64 (l1.length : Int)), (36, .slice A1 l1.length c1), (35, .int .i64 (i1 : Int))]) (l := []) (by kernel_rfl) trivial ?_
        by_cases hc5 : (i1 : Int) ≥ (l1.length : Int)
        · rw [if_pos hc5] at h
          refine ge_known (t := 39) (b := decide ((i1 : Int) ≥ (l1.length : Int))) (c := true) (by kernel_rfl) (decide_eq_true hc5) ?_
          refine ge_batch [18, 19] (ans := [.val (.int .i64 e1.Task), .val (.int .i64 e1.At), .val (.int .i64 e1.C), .val (.int .i64 e1.Due), .val (.int .i64 e1.P), .val (.int .i64 x2_0), .val (.int .i64 x2_1), .val (.int .i64 x2_2), .val (.int .i64 x2_3), .val (.int .i64 x2_4)]) (vs := [(41, .agg #[.int .i64 x2_0, .int .i64 x2_1, .int .i64 x2_2, .int .i64 x2_3, .int .i64 x2_4]), (40, .agg #[.int .i64 e1.Task, .int .i64 e1.At, .int .i64 e1.C, .int .i64 e1.Due, .int .i64 e1.P])]) (l := [.loaded ⟨b2, 0, none⟩ (.int .i64 e1.Task), .loaded ⟨b2, 1, none⟩ (.int .i64 e1.At), .loaded ⟨b2, 2, none⟩ (.int .i64 e1.C), .loaded ⟨b2, 3, none⟩ (.int .i64 e1.Due), .loaded ⟨b2, 4, none⟩ (.int .i64 e1.P), .loaded ⟨b1, 0, none⟩ (.int .i64 x2_0), .loaded ⟨b1, 1, none⟩ (.int .i64 x2_1), .loaded ⟨b1, 2, none⟩ (.int .i64 x2_2), .loaded ⟨b1, 3, none⟩ (.int .i64 x2_3), .loaded ⟨b1, 4, none⟩ (.int .i64 x2_4)]) (by kernel_rfl) ⟨hS5.cell 0 rfl rfl, hS5.cell 0 rfl rfl, hS5.cell 0 rfl rfl, hS5.cell 0 rfl rfl, hS5.cell 0 rfl rfl, hS5.cell 1 rfl rfl, hS5.cell 1 rfl rfl, hS5.cell 1 rfl rfl, hS5.cell 1 rfl rfl, hS5.cell 1 rfl rfl, trivial⟩ ?_
          refine ge_eqs (d := 42) (ty := 4) (op := .neq) (x := (.tmp 40)) (y := (.tmp 41)) (t := 30) (t2 := 30) (xs := #[.int .i64 e1.Task, .int .i64 e1.At, .int .i64 e1.C, .int .i64 e1.Due, .int .i64 e1.P]) (ys := #[.int .i64 x2_0, .int .i64 x2_1, .int .i64 x2_2, .int .i64 x2_3, .int .i64 x2_4]) (r := (SJob.eqb e1 (⟨x2_0, x2_1, x2_2, x2_3, x2_4⟩ : SJob))) (v := !(SJob.eqb e1 (⟨x2_0, x2_1, x2_2, x2_3, x2_4⟩ : SJob))) (by kernel_rfl) (by kernel_rfl) (by kernel_rfl) (by kernel_rfl) (by kernel_rfl) rfl ?_
          refine ge_batch [21, 22] (ans := []) (vs := [(44, .bool (!(SJob.eqb e1 (⟨x2_0, x2_1, x2_2, x2_3, x2_4⟩ : SJob)))), (43, .bool (!(SJob.eqb e1 (⟨x2_0, x2_1, x2_2, x2_3, x2_4⟩ : SJob))))]) (l := []) (by kernel_rfl) trivial ?_
          refine ge_nil fun a hF => hK9 _ _ ?_ a hF
          by_cases hc6 : (SJob.eqb e1 (⟨x2_0, x2_1, x2_2, x2_3, x2_4⟩ : SJob)) = true
          · rw [if_pos hc6] at h
            refine we_known (t := 44) (b := !(SJob.eqb e1 (⟨x2_0, x2_1, x2_2, x2_3, x2_4⟩ : SJob))) (v := false) (by kernel_rfl) (congrArg (fun z => !z) hc6) ?_
            refine we_false (by kernel_rfl) ?_
            refine we_skip fun a hF => hK7 _ _ ?_ a hF
            refine we_region [(0, 0), (1, 0)] rfl ?_
            refine ge_addn (d := 45) (ty := 3) (x := (.tmp 17)) (y := (.const (.int .i64 1))) (t := 3) (t2 := 3) (k := .i64) (m := i1) (by kernel_rfl) (by kernel_rfl) (by kernel_rfl) (by have h0 := hR0.small; omega) ?_
            refine ge_batch [1] (ans := []) (vs := [(17, .int .i64 ((i1 + 1 : Nat) : Int))]) (l := []) (by kernel_rfl) trivial ?_
            have hS6 : St w0 w3.drew [Own.blk b1 (.cells #[.int .i64 x2_0, .int .i64 x2_1, .int .i64 x2_2, .int .i64 x2_3, .int .i64 x2_4] 30 (0, 0)), Own.blk b2 (.cells #[.int .i64 e1.Task, .int .i64 e1.At, .int .i64 e1.C, .int .i64 e1.Due, .int .i64 e1.P] 30 (0, 0))] := hS5.bring 1 rfl
            have hS7 : St w0 w3.drew [Own.blk b1 (.cells #[.int .i64 x2_0, .int .i64 x2_1, .int .i64 x2_2, .int .i64 x2_3, .int .i64 x2_4] 30 (0, 0))] := hS6.takeN 1
            obtain rfl := Option.some.inj h
            exact ge_nil fun a hF => hQ _ _ _ (Outs.again ⟨hS7, hF.weaken ⟨by kernel_rfl, by kernel_rfl, by kernel_rfl, by kernel_rfl, by kernel_rfl, trivial⟩⟩)
          · rw [if_neg hc6] at h
            refine we_known (t := 44) (b := !(SJob.eqb e1 (⟨x2_0, x2_1, x2_2, x2_3, x2_4⟩ : SJob))) (v := true) (by kernel_rfl) (congrArg (fun z => !z) (Bool.eq_false_iff.2 hc6)) ?_
            refine we_true (by kernel_rfl) ?_
            refine we_seq fun K10 hK10 => ?_
            refine we_region [(0, 0)] rfl ?_
            refine ge_batch [0] (ans := []) (vs := [(6, .bool false)]) (l := []) (by kernel_rfl) trivial ?_
            refine ge_nil fun a hF => hK10 _ _ ?_ a hF
            have hS8 : St w0 w3.drew [] := hS5.takeN 0
            obtain rfl := Option.some.inj h
            exact we_ret fun a hF => hQ _ _ _ (Outs.out nofun (Exits.on ⟨rfl, (post_ret (rs := [.tmp 6]) (ans := []) (vs := [.bool false]) (l := []) rfl (by kernel_rfl) trivial ⟨rfl, hS8⟩) a hF⟩))
        · rw [if_neg hc5] at h
          refine ge_known (t := 39) (b := decide ((i1 : Int) ≥ (l1.length : Int))) (c := false) (by kernel_rfl) (decide_eq_false hc5) ?_
          refine ge_batch [18, 19, 20, 21, 22] (ans := []) (vs := [(44, .bool false), (43, .bool false), (42, undef), (41, undef), (40, undef)]) (l := []) (by kernel_rfl) trivial ?_
          refine ge_nil fun a hF => hK9 _ _ ?_ a hF
          refine we_false (by kernel_rfl) ?_
          refine we_skip fun a hF => hK7 _ _ ?_ a hF
          refine we_region [(0, 0), (1, 0)] rfl ?_
          refine ge_addn (d := 45) (ty := 3) (x := (.tmp 17)) (y := (.const (.int .i64 1))) (t := 3) (t2 := 3) (k := .i64) (m := i1) (by kernel_rfl) (by kernel_rfl) (by kernel_rfl) (by have h0 := hR0.small; omega) ?_
          refine ge_batch [1] (ans := []) (vs := [(17, .int .i64 ((i1 + 1 : Nat) : Int))]) (l := []) (by kernel_rfl) trivial ?_
          have hS9 : St w0 w3.drew [Own.blk b1 (.cells #[.int .i64 x2_0, .int .i64 x2_1, .int .i64 x2_2, .int .i64 x2_3, .int .i64 x2_4] 30 (0, 0)), Own.blk b2 (.cells #[.int .i64 e1.Task, .int .i64 e1.At, .int .i64 e1.C, .int .i64 e1.Due, .int .i64 e1.P] 30 (0, 0))] := hS5.bring 1 rfl
          have hS10 : St w0 w3.drew [Own.blk b1 (.cells #[.int .i64 x2_0, .int .i64 x2_1, .int .i64 x2_2, .int .i64 x2_3, .int .i64 x2_4] 30 (0, 0))] := hS9.takeN 1
          obtain rfl := Option.some.inj h
          exact ge_nil fun a hF => hQ _ _ _ (Outs.again ⟨hS10, hF.weaken ⟨by kernel_rfl, by kernel_rfl, by kernel_rfl, by kernel_rfl, by kernel_rfl, trivial⟩⟩)
      · rw [if_neg hc4] at h
        refine ge_known (t := 34) (b := !(SJob.eqb e1 e2)) (c := true) (by kernel_rfl) (congrArg (fun z => !z) (Bool.eq_false_iff.2 hc4)) ?_
        refine ge_batch [13, 14, 15, 16, 17, 18, 19, 20, 21, 22] (ans := []) (vs := [(44, .bool true), (43, undef), (42, undef), (41, undef), (40, undef), (39, undef), (38, undef), (37, undef), (36, undef), (35, undef)]) (l := []) (by kernel_rfl) trivial ?_
        refine ge_nil fun a hF => hK9 _ _ ?_ a hF
        refine we_true (by kernel_rfl) ?_
        refine we_seq fun K11 hK11 => ?_
        refine we_region [(0, 0)] rfl ?_
        refine ge_batch [0] (ans := []) (vs := [(6, .bool false)]) (l := []) (by kernel_rfl) trivial ?_
        refine ge_nil fun a hF => hK11 _ _ ?_ a hF
        have hS11 : St w0 w3.drew [] := hS5.takeN 0
        obtain rfl := Option.some.inj h
        exact we_ret fun a hF => hQ _ _ _ (Outs.out nofun (Exits.on ⟨rfl, (post_ret (rs := [.tmp 6]) (ans := []) (vs := [.bool false]) (l := []) rfl (by kernel_rfl) trivial ⟨rfl, hS11⟩) a hF⟩))
    · rw [if_neg hc3] at h
      refine ge_known (t := 26) (b := decide ((i1 : Int) < (l1.length : Int))) (c := false) (by kernel_rfl) (decide_eq_false hc3) ?_
      refine ge_batch [5, 6, 7, 8, 9, 10, 11, 12, 13, 14, 15, 16, 17] (ans := []) (vs := [(39, .bool (decide ((i1 : Int) ≥ (l1.length : Int)))), (38, .bool (decide ((i1 : Int) ≥ (l1.length : Int)))), (37, .int .i64 (l1.length : Int)), (36, .slice A1 l1.length c1), (35, .int .i64 (i1 : Int)), (34, .bool false), (33, .bool false), (32, undef), (31, undef), (30, undef), (29, undef), (28, undef), (27, undef)]) (l := []) (by kernel_rfl) trivial ?_
      by_cases hc7 : (i1 : Int) ≥ (l1.length : Int)
      · rw [if_pos hc7] at h
        refine ge_known (t := 39) (b := decide ((i1 : Int) ≥ (l1.length : Int))) (c := true) (by kernel_rfl) (decide_eq_true hc7) ?_
        refine ge_batch [18, 19] (ans := [.val (.int .i64 e1.Task), .val (.int .i64 e1.At), .val (.int .i64 e1.C), .val (.int .i64 e1.Due), .val (.int .i64 e1.P), .val (.int .i64 x2_0), .val (.int .i64 x2_1), .val (.int .i64 x2_2), .val (.int .i64 x2_3), .val (.int .i64 x2_4)]) (vs := [(41, .agg #[.int .i64 x2_0, .int .i64 x2_1, .int .i64 x2_2, .int .i64 x2_3, .int .i64 x2_4]), (40, .agg #[.int .i64 e1.Task, .int .i64 e1.At, .int .i64 e1.C, .int .i64 e1.Due, .int .i64 e1.P])]) (l := [.loaded ⟨b2, 0, none⟩ (.int .i64 e1.Task), .loaded ⟨b2, 1, none⟩ (.int .i64 e1.At), .loaded ⟨b2, 2, none⟩ (.int .i64 e1.C), .loaded ⟨b2, 3, none⟩ (.int .i64 e1.Due), .loaded ⟨b2, 4, none⟩ (.int .i64 e1.P), .loaded ⟨b1, 0, none⟩ (.int .i64 x2_0), .loaded ⟨b1, 1, none⟩ (.int .i64 x2_1), .loaded ⟨b1, 2, none⟩ (.int .i64 x2_2), .loaded ⟨b1, 3, none⟩ (.int .i64 x2_3), .loaded ⟨b1, 4, none⟩ (.int .i64 x2_4)]) (by kernel_rfl) ⟨hS5.cell 0 rfl rfl, hS5.cell 0 rfl rfl, hS5.cell 0 rfl rfl, hS5.cell 0 rfl rfl, hS5.cell 0 rfl rfl, hS5.cell 1 rfl rfl, hS5.cell 1 rfl rfl, hS5.cell 1 rfl rfl, hS5.cell 1 rfl rfl, hS5.cell 1 rfl rfl, trivial⟩ ?_
        refine ge_eqs (d := 42) (ty := 4) (op := .neq) (x := (.tmp 40)) (y := (.tmp 41)) (t := 30) (t2 := 30) (xs := #[.int .i64 e1.Task, .int .i64 e1.At, .int .i64 e1.C, .int .i64 e1.Due, .int .i64 e1.P]) (ys := #[.int .i64 x2_0, .int .i64 x2_1, .int .i64 x2_2, .int .i64 x2_3, .int .i64 x2_4]) (r := (SJob.eqb e1 (⟨x2_0, x2_1, x2_2, x2_3, x2_4⟩ : SJob))) (v := !(SJob.eqb e1 (⟨x2_0, x2_1, x2_2, x2_3, x2_4⟩ : SJob))) (by kernel_rfl) (by kernel_rfl) (by kernel_rfl) (by kernel_rfl) (by kernel_rfl) rfl ?_
        refine ge_batch [21, 22] (ans := []) (vs := [(44, .bool (!(SJob.eqb e1 (⟨x2_0, x2_1, x2_2, x2_3, x2_4⟩ : SJob)))), (43, .bool (!(SJob.eqb e1 (⟨x2_0, x2_1, x2_2, x2_3, x2_4⟩ : SJob))))]) (l := []) (by kernel_rfl) trivial ?_
        refine ge_nil fun a hF => hK9 _ _ ?_ a hF
        by_cases hc8 : (SJob.eqb e1 (⟨x2_0, x2_1, x2_2, x2_3, x2_4⟩ : SJob)) = true
        · rw [if_pos hc8] at h
          refine we_known (t := 44) (b := !(SJob.eqb e1 (⟨x2_0, x2_1, x2_2, x2_3, x2_4⟩ : SJob))) (v := false) (by kernel_rfl) (congrArg (fun z => !z) hc8) ?_
          refine we_false (by kernel_rfl) ?_
          refine we_skip fun a hF => hK7 _ _ ?_ a hF
          refine we_region [(0, 0), (1, 0)] rfl ?_
          refine ge_addn (d := 45) (ty := 3) (x := (.tmp 17)) (y := (.const (.int .i64 1))) (t := 3) (t2 := 3) (k := .i64) (m := i1) (by kernel_rfl) (by kernel_rfl) (by kernel_rfl) (by have h0 := hR0.small; omega) ?_
          refine ge_batch [1] (ans := []) (vs := [(17, .int .i64 ((i1 + 1 : Nat) : Int))]) (l := []) (by kernel_rfl) trivial ?_
          have hS12 : St w0 w3.drew [Own.blk b1 (.cells #[.int .i64 x2_0, .int .i64 x2_1, .int .i64 x2_2, .int .i64 x2_3, .int .i64 x2_4] 30 (0, 0)), Own.blk b2 (.cells #[.int .i64 e1.Task, .int .i64 e1.At, .int .i64 e1.C, .int .i64 e1.Due, .int .i64 e1.P] 30 (0, 0))] := hS5.bring 1 rfl
          have hS13 : St w0 w3.drew [Own.blk b1 (.cells #[.int .i64 x2_0, .int .i64 x2_1, .int .i64 x2_2, .int .i64 x2_3, .int .i64 x2_4] 30 (0, 0))] := hS12.takeN 1
          obtain rfl := Option.some.inj h
          exact ge_nil fun a hF => hQ _ _ _ (Outs.again ⟨hS13, hF.weaken ⟨by kernel_rfl, by kernel_rfl, by kernel_rfl, by kernel_rfl, by kernel_rfl, trivial⟩⟩)
        · rw [if_neg hc8] at h
          refine we_known (t := 44) (b := !(SJob.eqb e1 (⟨x2_0, x2_1, x2_2, x2_3, x2_4⟩ : SJob))) (v := true) (by kernel_rfl) (congrArg (fun z => !z) (Bool.eq_false_iff.2 hc8)) ?_
          refine we_true (by kernel_rfl) ?_
          refine we_seq fun K12 hK12 => ?_
          refine we_region [(0, 0)] rfl ?_
          refine ge_batch [0] (ans := []) (vs := [(6, .bool false)]) (l := []) (by kernel_rfl) trivial ?_
          refine ge_nil fun a hF => hK12 _ _ ?_ a hF
          have hS14 : St w0 w3.drew [] := hS5.takeN 0
          obtain rfl := Option.some.inj h
          exact we_ret fun a hF => hQ _ _ _ (Outs.out nofun (Exits.on ⟨rfl, (post_ret (rs := [.tmp 6]) (ans := []) (vs := [.bool false]) (l := []) rfl (by kernel_rfl) trivial ⟨rfl, hS14⟩) a hF⟩))
      · rw [if_neg hc7] at h
        refine ge_known (t := 39) (b := decide ((i1 : Int) ≥ (l1.length : Int))) (c := false) (by kernel_rfl) (decide_eq_false hc7) ?_
        refine ge_batch [18, 19, 20, 21, 22] (ans := []) (vs := [(44, .bool false), (43, .bool false), (42, undef), (41, undef), (40, undef)]) (l := []) (by kernel_rfl) trivial ?_
        refine ge_nil fun a hF => hK9 _ _ ?_ a hF
        refine we_false (by kernel_rfl) ?_
        refine we_skip fun a hF => hK7 _ _ ?_ a hF
        refine we_region [(0, 0), (1, 0)] rfl ?_
        refine ge_addn (d := 45) (ty := 3) (x := (.tmp 17)) (y := (.const (.int .i64 1))) (t := 3) (t2 := 3) (k := .i64) (m := i1) (by kernel_rfl) (by kernel_rfl) (by kernel_rfl) (by have h0 := hR0.small; omega) ?_
        refine ge_batch [1] (ans := []) (vs := [(17, .int .i64 ((i1 + 1 : Nat) : Int))]) (l := []) (by kernel_rfl) trivial ?_
        have hS15 : St w0 w3.drew [Own.blk b1 (.cells #[.int .i64 x2_0, .int .i64 x2_1, .int .i64 x2_2, .int .i64 x2_3, .int .i64 x2_4] 30 (0, 0)), Own.blk b2 (.cells #[.int .i64 e1.Task, .int .i64 e1.At, .int .i64 e1.C, .int .i64 e1.Due, .int .i64 e1.P] 30 (0, 0))] := hS5.bring 1 rfl
        have hS16 : St w0 w3.drew [Own.blk b1 (.cells #[.int .i64 x2_0, .int .i64 x2_1, .int .i64 x2_2, .int .i64 x2_3, .int .i64 x2_4] 30 (0, 0))] := hS15.takeN 1
        obtain rfl := Option.some.inj h
        exact ge_nil fun a hF => hQ _ _ _ (Outs.again ⟨hS16, hF.weaken ⟨by kernel_rfl, by kernel_rfl, by kernel_rfl, by kernel_rfl, by kernel_rfl, trivial⟩⟩)
  · rw [if_neg hc2] at h
    refine we_known (t := 18) (b := decide ((i1 : Int) < (f0.length : Int))) (v := false) (by kernel_rfl) (decide_eq_false hc2) ?_
    refine we_false (by kernel_rfl) ?_
    have hS17 : St w0 w [] := hS.takeN 0
    obtain rfl := Option.some.inj h
    exact we_exit fun a hF => hQ _ _ _ (Outs.out nofun (Exits.here ⟨hS17, hF.weaken trivial⟩))
theorem StillJob_ok (K : Nat) (f0 : List SJob) (A0 : Option Addr) (n0 : Nat) (c0 : Nat) (l1 : List SJob) (A1 : Option Addr) (c1 : Nat) (x2_0 : Int) (x2_1 : Int) (x2_2 : Int) (x2_3 : Int) (x2_4 : Int) (w0 : World) (hR0 : RdL w0 A0 f0) (hc0 : f0.length ≤ c0) (hR1 : RdL w0 A1 l1) (r : Bool) (h : StillJob.f K f0 l1 x2_0 x2_1 x2_2 x2_3 x2_4 = some r) :
    Calls Tryd.prog 17 #[.slice A0 n0 c0, .slice A1 l1.length c1, .agg #[.int .i64 x2_0, .int .i64 x2_1, .int .i64 x2_2, .int .i64 x2_3, .int .i64 x2_4]] w0 (StillJob.Post w0 r) := by
  have hS := St.start w0
  unfold StillJob.f at h
  refine calls_enter (n := 46) (args := [.slice A0 n0 c0, .slice A1 l1.length c1, .agg #[.int .i64 x2_0, .int .i64 x2_1, .int .i64 x2_2, .int .i64 x2_3, .int .i64 x2_4]]) (fn := Tryd.f17) rfl rfl rfl rfl ?_
  show WE _ _ _ _ [(0, .slice A0 n0 c0), (1, .slice A1 l1.length c1), (2, .agg #[.int .i64 x2_0, .int .i64 x2_1, .int .i64 x2_2, .int .i64 x2_3, .int .i64 x2_4])] _
  refine we_seq fun K1 hK1 => ?_
  refine we_region [(0, 1), (1, 0)] rfl ?_
  refine ge_new (d := some 5) (o := .cells #[.int .i64 x2_0, .int .i64 x2_1, .int .i64 x2_2, .int .i64 x2_3, .int .i64 x2_4] 30) (v := fun b => .pointer (some ⟨b, 0, none⟩)) hS (fun b => by kernel_rfl) fun b1 w1 hx1 hS1 => ?_
  refine ge_batch [1] (ans := []) (vs := [(6, .bool false)]) (l := []) (by kernel_rfl) trivial ?_
  refine ge_nil fun a hF => hK1 _ _ ?_ a hF
  refine we_seq fun K2 hK2 => ?_
  refine we_region [(0, 0), (1, 0), (2, 0), (3, 0), (4, 0), (5, 0)] rfl ?_
  refine ge_batch [0, 1, 2, 3] (ans := []) (vs := [(13, .int .i64 (IntKind.i64.wrap ((l1.length : Int) + 3))), (12, .int .i64 (l1.length : Int)), (11, .slice A1 l1.length c1), (10, .slice A0 n0 c0)]) (l := []) (by kernel_rfl) trivial ?_
  by_cases hc1 : (IntKind.i64.wrap ((l1.length : Int) + 3)) = (f0.length : Int)
  · rw [if_pos hc1] at h
    refine ge_sliceHi (d := 14) (ty := 22) (t := 22) (el := 30) (sz := 5) (m := n0) (c := c0) (hn := f0.length) (x := (.tmp 10)) (y := (.tmp 13)) (A := A0) (k' := .i64) (hi := (IntKind.i64.wrap ((l1.length : Int) + 3))) (by kernel_rfl) (by kernel_rfl) (by kernel_rfl) hc1 (by kernel_rfl) (by kernel_rfl) hc0 ?_
    refine ge_batch [5] (ans := []) (vs := [(7, .slice A0 f0.length c0)]) (l := []) (by kernel_rfl) trivial ?_
    refine ge_nil fun a hF => hK2 _ _ ?_ a hF
    refine we_seq fun K3 hK3 => ?_
    refine we_seq fun K4 hK4 => ?_
    refine we_region [(0, 0), (1, 0), (2, 0)] rfl ?_
    refine ge_batch [0, 1, 2] (ans := []) (vs := [(17, .int .i64 0), (16, .int .i64 (f0.length : Int)), (15, .slice A0 f0.length c0)]) (l := []) (by kernel_rfl) trivial ?_
    refine ge_nil fun a hF => hK4 _ _ ?_ a hF
    refine we_block ?_
    rcases hq1 : iter (StillJob.r0 f0 l1 x2_0 x2_1 x2_2 x2_3 x2_4) K 0 with _ | (_ | rr1)
    · rw [hq1] at h; cases h
    · rw [hq1] at h
      simp only [] at h
      refine we_iter (A := StillJob.A0 K w0 f0 A0 n0 c0 l1 A1 c1 x2_0 x2_1 x2_2 x2_3 x2_4 hR0 hc0 hR1 b1 hc1) (B := StillJob.B0 K w0 f0 A0 n0 c0 l1 A1 c1 x2_0 x2_1 x2_2 x2_3 x2_4 hR0 hc0 hR1 b1 hc1) hq1 (fun a hF => ⟨hS1, hF.weaken ⟨by kernel_rfl, by kernel_rfl, by kernel_rfl, by kernel_rfl, by kernel_rfl, trivial⟩⟩) (fun s o hf a w hA Q hQ => StillJob_r0 K w0 f0 A0 n0 c0 l1 A1 c1 x2_0 x2_1 x2_2 x2_3 x2_4 hR0 hc0 hR1 b1 hc1 s o hf a w hA Q hQ) ?_
      rintro _ a w4 _ ⟨rfl, hS18, hF⟩
      replace hS18 : St w0 w4 [] := hS18
      refine hK3 [] w4 ?_ a hF
      refine we_seq fun K13 hK13 => ?_
      refine we_region [(0, 0)] rfl ?_
      refine ge_batch [0] (ans := []) (vs := [(6, .bool true)]) (l := []) (by kernel_rfl) trivial ?_
      refine ge_nil fun a hF => hK13 _ _ ?_ a hF
      obtain rfl := Option.some.inj h
      exact we_ret (post_ret (rs := [.tmp 6]) (ans := []) (vs := [.bool true]) (l := []) rfl (by kernel_rfl) trivial ⟨rfl, hS18⟩)
    · rw [hq1] at h
      simp only [] at h
      refine we_iter (A := StillJob.A0 K w0 f0 A0 n0 c0 l1 A1 c1 x2_0 x2_1 x2_2 x2_3 x2_4 hR0 hc0 hR1 b1 hc1) (B := StillJob.B0 K w0 f0 A0 n0 c0 l1 A1 c1 x2_0 x2_1 x2_2 x2_3 x2_4 hR0 hc0 hR1 b1 hc1) hq1 (fun a hF => ⟨hS1, hF.weaken ⟨by kernel_rfl, by kernel_rfl, by kernel_rfl, by kernel_rfl, by kernel_rfl, trivial⟩⟩) (fun s o hf a w hA Q hQ => StillJob_r0 K w0 f0 A0 n0 c0 l1 A1 c1 x2_0 x2_1 x2_2 x2_3 x2_4 hR0 hc0 hR1 b1 hc1 s o hf a w hA Q hQ) ?_
      rintro _ a w1 _ ⟨rfl, hb⟩
      obtain rfl := Option.some.inj h
      exact hb
  · rw [if_neg hc1] at h
    cases h

/-! punctual/punctualsame.Still[int] -/
abbrev StillInt.Post (w0 : World) (r : Bool) (e : Ending) (w : World) : Prop := e = .returned (.bool r) ∧ St w0 w []
def StillInt.r0 (f0 : List Int) (l1 : List Int) (x2 : Int) : Nat → Option (Nat ⊕ (Unit ⊕ Bool))
  | i1 =>
    if (i1 : Int) < (f0.length : Int) then
      match f0[i1]? with
      | none => none
      | some e1 =>
        if (i1 : Int) < (l1.length : Int) then
          match l1[i1]? with
          | none => none
          | some e2 =>
            if e1 = e2 then
              if (i1 : Int) ≥ (l1.length : Int) then
                if e1 = x2 then
                  some (.inl (i1 + 1))
                else
                  some (.inr (.inr false))
              else
                some (.inl (i1 + 1))
            else
              some (.inr (.inr false))
        else
          if (i1 : Int) ≥ (l1.length : Int) then
            if e1 = x2 then
              some (.inl (i1 + 1))
            else
              some (.inr (.inr false))
          else
            some (.inl (i1 + 1))
    else
      some (.inr (.inl ()))
def StillInt.f (K : Nat) (f0 : List Int) (l1 : List Int) (x2 : Int) : Option Bool :=
  if (IntKind.i64.wrap ((l1.length : Int) + 3)) = (f0.length : Int) then
    match iter (StillInt.r0 f0 l1 x2) K 0 with
    | none => none
    | some (.inl _) =>
      some true
    | some (.inr rr1) =>
      some rr1
  else
    none
abbrev StillInt.A0 (K : Nat) (w0 : World) (f0 : List Int) (A0 : Option Addr) (n0 : Nat) (c0 : Nat) (l1 : List Int) (A1 : Option Addr) (c1 : Nat) (x2 : Int) (hR0 : RdL w0 A0 f0) (hc0 : f0.length ≤ c0) (hR1 : RdL w0 A1 l1) (hc1 : (IntKind.i64.wrap ((l1.length : Int) + 3)) = (f0.length : Int)) : Nat → Act → World → Prop := fun (s : Nat) a w => St w0 w [] ∧ Frm 46 a [(1, .slice A1 l1.length c1), (2, .int .i64 x2), (15, .slice A0 f0.length c0), (16, .int .i64 (f0.length : Int)), (17, .int .i64 (s : Int))]
abbrev StillInt.B0 (K : Nat) (w0 : World) (f0 : List Int) (A0 : Option Addr) (n0 : Nat) (c0 : Nat) (l1 : List Int) (A1 : Option Addr) (c1 : Nat) (x2 : Int) (hR0 : RdL w0 A0 f0) (hc0 : f0.length ≤ c0) (hR1 : RdL w0 A1 l1) (hc1 : (IntKind.i64.wrap ((l1.length : Int) + 3)) = (f0.length : Int)) : (Unit ⊕ Bool) → Exit → Act → World → Prop := Exits 0 (fun (s : Unit) a w => St w0 w [] ∧ Frm 46 a []) (Rets Tryd.prog Tryd.f18 (StillInt.Post w0))
theorem StillInt_r0 (K : Nat) (w0 : World) (f0 : List Int) (A0 : Option Addr) (n0 : Nat) (c0 : Nat) (l1 : List Int) (A1 : Option Addr) (c1 : Nat) (x2 : Int) (hR0 : RdL w0 A0 f0) (hc0 : f0.length ≤ c0) (hR1 : RdL w0 A1 l1) (hc1 : (IntKind.i64.wrap ((l1.length : Int) + 3)) = (f0.length : Int)) (s : Nat) (o : Nat ⊕ (Unit ⊕ Bool)) (h : StillInt.r0 f0 l1 x2 s = some o) (a : Act) (w : World) (hA : StillInt.A0 K w0 f0 A0 n0 c0 l1 A1 c1 x2 hR0 hc0 hR1 hc1 s a w) (Q : Exit → Act → World → Prop) (hQ : ∀ x a w, Outs (StillInt.A0 K w0 f0 A0 n0 c0 l1 A1 c1 x2 hR0 hc0 hR1 hc1) (StillInt.B0 K w0 f0 A0 n0 c0 l1 A1 c1 x2 hR0 hc0 hR1 hc1) o x a w → Q x a w) : (subF Tryd.f18 [1, 1, 0, 1, 0, 0]).wp Tryd.prog Q a w := by
  obtain ⟨i1, hs⟩ : ∃ z, z = s := ⟨s, rfl⟩
  subst hs
  obtain ⟨hS, hF⟩ := hA
  replace hS : St w0 w [] := hS
  simp only [StillInt.r0] at h
  refine (?_ : WE Tryd.prog 46 (subF Tryd.f18 [1, 1, 0, 1, 0, 0]) Q [(1, .slice A1 l1.length c1), (2, .int .i64 x2), (15, .slice A0 f0.length c0), (16, .int .i64 (f0.length : Int)), (17, .int .i64 (i1 : Int))] w) a hF
  clear hF a
  refine we_seq fun K5 hK5 => ?_
  refine we_region [(0, 0)] rfl ?_
  refine ge_batch [0] (ans := []) (vs := [(18, .bool (decide ((i1 : Int) < (f0.length : Int))))]) (l := []) (by kernel_rfl) trivial ?_
  refine ge_nil fun a hF => hK5 _ _ ?_ a hF
  refine we_seq fun K6 hK6 => ?_
  by_cases hc2 : (i1 : Int) < (f0.length : Int)
  · rw [if_pos hc2] at h
    refine we_known (t := 18) (b := decide ((i1 : Int) < (f0.length : Int))) (v := true) (by kernel_rfl) (decide_eq_true hc2) ?_
    refine we_true (by kernel_rfl) ?_
    refine we_skip fun a hF => hK6 _ _ ?_ a hF
    refine we_seq fun K7 hK7 => ?_
    refine we_block ?_
    refine we_seq fun K8 hK8 => ?_
    refine we_region [(0, 0), (1, 0), (2, 0), (3, 0), (4, 0)] rfl ?_
    refine ge_batch [0] (ans := []) (vs := [(19, .int .i64 (i1 : Int))]) (l := []) (by kernel_rfl) trivial ?_
    rcases hx1 : f0[i1]? with _ | e1
    · rw [hx1] at h; cases h
    rw [hx1] at h
    simp only [] at h
    refine ge_index (d := 20) (ty := 0) (t := 23) (el := 3) (sz := 1) (m := f0.length) (c := c0) (x := (.tmp 15)) (y := (.tmp 17)) (A := A0) (k' := .i64) (j := (i1 : Int)) (jn := i1) (b0 := blkOf A0) (o0 := offOf A0) (by kernel_rfl) (by kernel_rfl) (by kernel_rfl) (by kernel_rfl) (by kernel_rfl) ((hS.rd hR0).eqSome (pos_of_get hx1)) rfl (lt_of_get hx1) ?_
    refine ge_batch [2, 3, 4] (ans := [.val (.int .i64 e1)]) (vs := [(9, .int .i64 e1), (8, .int .i64 (i1 : Int)), (21, .int .i64 e1)]) (l := [.loaded ⟨blkOf A0, offOf A0 + i1 * 1, none⟩ (.int .i64 e1)]) (by kernel_rfl) ⟨RdL.cell (j := 0) (hS.rd hR0) hx1 rfl, trivial⟩ ?_
    refine ge_nil fun a hF => hK8 _ _ ?_ a hF
    refine we_seq fun K9 hK9 => ?_
    refine we_region [(0, 0), (1, 0), (2, 0), (3, 0), (4, 0), (5, 0), (6, 0), (7, 0), (8, 0), (9, 0), (10, 0), (11, 0), (12, 0), (13, 0), (14, 0), (15, 0), (16, 0), (17, 0), (18, 0), (19, 0), (20, 0), (21, 0), (22, 0)] rfl ?_
    refine ge_batch [0, 1, 2, 3, 4] (ans := []) (vs := [(26, .bool (decide ((i1 : Int) < (l1.length : Int)))), (25, .bool (decide ((i1 : Int) < (l1.length : Int)))), (24, .int .i64 (l1.length : Int)), (23, .slice A1 l1.length c1), (22, .int .i64 (i1 : Int))]) (l := []) (by kernel_rfl) trivial ?_
    by_cases hc3 : (i1 : Int) < (l1.length : Int)
    · rw [if_pos hc3] at h
      refine ge_known (t := 26) (b := decide ((i1 : Int) < (l1.length : Int))) (c := true) (by kernel_rfl) (decide_eq_true hc3) ?_
      refine ge_batch [5, 6, 7] (ans := []) (vs := [(29, .int .i64 (i1 : Int)), (28, .slice A1 l1.length c1), (27, .int .i64 e1)]) (l := []) (by kernel_rfl) trivial ?_
      rcases hx2 : l1[i1]? with _ | e2
      · rw [hx2] at h; cases h
      rw [hx2] at h
      simp only [] at h
      refine ge_index (d := 30) (ty := 0) (t := 23) (el := 3) (sz := 1) (m := l1.length) (c := c1) (x := (.tmp 28)) (y := (.tmp 29)) (A := A1) (k' := .i64) (j := (i1 : Int)) (jn := i1) (b0 := blkOf A1) (o0 := offOf A1) (by kernel_rfl) (by kernel_rfl) (by kernel_rfl) (by kernel_rfl) (by kernel_rfl) ((hS.rd hR1).eqSome (pos_of_get hx2)) rfl (lt_of_get hx2) ?_
      refine ge_batch [9, 10, 11, 12] (ans := [.val (.int .i64 e2)]) (vs := [(34, .bool (e1 != e2)), (33, .bool (e1 != e2)), (32, .bool (e1 != e2)), (31, .int .i64 e2)]) (l := [.loaded ⟨blkOf A1, offOf A1 + i1 * 1, none⟩ (.int .i64 e2)]) (by kernel_rfl) ⟨RdL.cell (j := 0) (hS.rd hR1) hx2 rfl, trivial⟩ ?_
      by_cases hc4 : e1 = e2
      · rw [if_pos hc4] at h
        refine ge_known (t := 34) (b := (e1 != e2)) (c := false) (by kernel_rfl) (bne_eq_false_iff_eq.2 hc4) ?_
        refine ge_batch [13, 14, 15, 16, 17] (ans := []) (vs := [(39, .bool (decide ((i1 : Int) ≥ (l1.length : Int)))), (38, .bool (decide ((i1 : Int) ≥ (l1.length : Int)))), (37, .int .i64 (l1.length : Int)), (36, .slice A1 l1.length c1), (35, .int .i64 (i1 : Int))]) (l := []) (by kernel_rfl) trivial ?_
        by_cases hc5 : (i1 : Int) ≥ (l1.length : Int)
        · rw [if_pos hc5] at h
          refine ge_known (t := 39) (b := decide ((i1 : Int) ≥ (l1.length : Int))) (c := true) (by kernel_rfl) (decide_eq_true hc5) ?_
          refine ge_batch [18, 19, 20, 21, 22] (ans := []) (vs := [(44, .bool (e1 != x2)), (43, .bool (e1 != x2)), (42, .bool (e1 != x2)), (41, .int .i64 x2), (40, .int .i64 e1)]) (l := []) (by kernel_rfl) trivial ?_
          refine ge_nil fun a hF => hK9 _ _ ?_ a hF
          by_cases hc6 : e1 = x2
          · rw [if_pos hc6] at h
            refine we_known (t := 44) (b := (e1 != x2)) (v := false) (by kernel_rfl) (bne_eq_false_iff_eq.2 hc6) ?_
            refine we_false (by kernel_rfl) ?_
            refine we_skip fun a hF => hK7 _ _ ?_ a hF
            refine we_region [(0, 0), (1, 0)] rfl ?_
            refine ge_addn (d := 45) (ty := 3) (x := (.tmp 17)) (y := (.const (.int .i64 1))) (t := 3) (t2 := 3) (k := .i64) (m := i1) (by kernel_rfl) (by kernel_rfl) (by kernel_rfl) (by have h0 := hR0.small; omega) ?_
            refine ge_batch [1] (ans := []) (vs := [(17, .int .i64 ((i1 + 1 : Nat) : Int))]) (l := []) (by kernel_rfl) trivial ?_
            obtain rfl := Option.some.inj h
            exact ge_nil fun a hF => hQ _ _ _ (Outs.again ⟨hS, hF.weaken ⟨by kernel_rfl, by kernel_rfl, by kernel_rfl, by kernel_rfl, by kernel_rfl, trivial⟩⟩)
          · rw [if_neg hc6] at h
            refine we_known (t := 44) (b := (e1 != x2)) (v := true) (by kernel_rfl) (bne_iff_ne.2 hc6) ?_
            refine we_true (by kernel_rfl) ?_
            refine we_seq fun K10 hK10 => ?_
            refine we_region [(0, 0)] rfl ?_
            refine ge_batch [0] (ans := []) (vs := [(6, .bool false)]) (l := []) (by kernel_rfl) trivial ?_
            refine ge_nil fun a hF => hK10 _ _ ?_ a hF
            obtain rfl := Option.some.inj h
            exact we_ret fun a hF => hQ _ _ _ (Outs.out nofun (Exits.on ⟨rfl, (post_ret (rs := [.tmp 6]) (ans := []) (vs := [.bool false]) (l := []) rfl (by kernel_rfl) trivial ⟨rfl, hS⟩) a hF⟩))
        · rw [if_neg hc5] at h
          refine ge_known (t := 39) (b := decide ((i1 : Int) ≥ (l1.length : Int))) (c := false) (by kernel_rfl) (decide_eq_false hc5) ?_
          refine ge_batch [18, 19, 20, 21, 22] (ans := []) (vs := [(44, .bool false), (43, .bool false), (42, undef), (41, undef), (40, undef)]) (l := []) (by kernel_rfl) trivial ?_
          refine ge_nil fun a hF => hK9 _ _ ?_ a hF
          refine we_false (by kernel_rfl) ?_
          refine we_skip fun a hF => hK7 _ _ ?_ a hF
          refine we_region [(0, 0), (1, 0)] rfl ?_
          refine ge_addn (d := 45) (ty := 3) (x := (.tmp 17)) (y := (.const (.int .i64 1))) (t := 3) (t2 := 3) (k := .i64) (m := i1) (by kernel_rfl) (by kernel_rfl) (by kernel_rfl) (by have h0 := hR0.small; omega) ?_
          refine ge_batch [1] (ans := []) (vs := [(17, .int .i64 ((i1 + 1 : Nat) : Int))]) (l := []) (by kernel_rfl) trivial ?_
          obtain rfl := Option.some.inj h
          exact ge_nil fun a hF => hQ _ _ _ (Outs.again ⟨hS, hF.weaken ⟨by kernel_rfl, by kernel_rfl, by kernel_rfl, by kernel_rfl, by kernel_rfl, trivial⟩⟩)
      · rw [if_neg hc4] at h
        refine ge_known (t := 34) (b := (e1 != e2)) (c := true) (by kernel_rfl) (bne_iff_ne.2 hc4) ?_
        refine ge_batch [13, 14, 15, 16, 17, 18, 19, 20, 21, 22] (ans := []) (vs := [(44, .bool true), (43, undef), (42, undef), (41, undef), (40, undef), (39, undef), (38, undef), (37, undef), (36, undef), (35, undef)]) (l := []) (by kernel_rfl) trivial ?_
        refine ge_nil fun a hF => hK9 _ _ ?_ a hF
        refine we_true (by kernel_rfl) ?_
        refine we_seq fun K11 hK11 => ?_
        refine we_region [(0, 0)] rfl ?_
        refine ge_batch [0] (ans := []) (vs := [(6, .bool false)]) (l := []) (by kernel_rfl) trivial ?_
        refine ge_nil fun a hF => hK11 _ _ ?_ a hF
        obtain rfl := Option.some.inj h
        exact we_ret fun a hF => hQ _ _ _ (Outs.out nofun (Exits.on ⟨rfl, (post_ret (rs := [.tmp 6]) (ans := []) (vs := [.bool false]) (l := []) rfl (by kernel_rfl) trivial ⟨rfl, hS⟩) a hF⟩))
    · rw [if_neg hc3] at h
      refine ge_known (t := 26) (b := decide ((i1 : Int) < (l1.length : Int))) (c := false) (by kernel_rfl) (decide_eq_false hc3) ?_
      refine ge_batch [5, 6, 7, 8, 9, 10, 11, 12, 13, 14, 15, 16, 17] (ans := []) (vs := [(39, .bool (decide ((i1 : Int) ≥ (l1.length : Int)))), (38, .bool (decide ((i1 : Int) ≥ (l1.length : Int)))), (37, .int .i64 (l1.length : Int)), (36, .slice A1 l1.length c1), (35, .int .i64 (i1 : Int)), (34, .bool false), (33, .bool false), (32, undef), (31, undef), (30, undef), (29, undef), (28, undef), (27, undef)]) (l := []) (by kernel_rfl) trivial ?_
      by_cases hc7 : (i1 : Int) ≥ (l1.length : Int)
      · rw [if_pos hc7] at h
        refine ge_known (t := 39) (b := decide ((i1 : Int) ≥ (l1.length : Int))) (c := true) (by kernel_rfl) (decide_eq_true hc7) ?_
        refine ge_batch [18, 19, 20, 21, 22] (ans := []) (vs := [(44, .bool (e1 != x2)), (43, .bool (e1 != x2)), (42, .bool (e1 != x2)), (41, .int .i64 x2), (40, .int .i64 e1)]) (l := []) (by kernel_rfl) trivial ?_
        refine ge_nil fun a hF => hK9 _ _ ?_ a hF
        by_cases hc8 : e1 = x2
        · rw [if_pos hc8] at h
          refine we_known (t := 44) (b := (e1 != x2)) (v := false) (by kernel_rfl) (bne_eq_false_iff_eq.2 hc8) ?_
          refine we_false (by kernel_rfl) ?_
          refine we_skip fun a hF => hK7 _ _ ?_ a hF
          refine we_region [(0, 0), (1, 0)] rfl ?_
          refine ge_addn (d := 45) (ty := 3) (x := (.tmp 17)) (y := (.const (.int .i64 1))) (t := 3) (t2 := 3) (k := .i64) (m := i1) (by kernel_rfl) (by kernel_rfl) (by kernel_rfl) (by have h0 := hR0.small; omega) ?_
          refine ge_batch [1] (ans := []) (vs := [(17, .int .i64 ((i1 + 1 : Nat) : Int))]) (l := []) (by kernel_rfl) trivial ?_
          obtain rfl := Option.some.inj h
          exact ge_nil fun a hF => hQ _ _ _ (Outs.again ⟨hS, hF.weaken ⟨by kernel_rfl, by kernel_rfl, by kernel_rfl, by kernel_rfl, by kernel_rfl, trivial⟩⟩)
        · rw [if_neg hc8] at h
          refine we_known (t := 44) (b := (e1 != x2)) (v := true) (by kernel_rfl) (bne_iff_ne.2 hc8) ?_
          refine we_true (by kernel_rfl) ?_
          refine we_seq fun K12 hK12 => ?_
          refine we_region [(0, 0)] rfl ?_
          refine ge_batch [0] (ans := []) (vs := [(6, .bool false)]) (l := []) (by kernel_rfl) trivial ?_
          refine ge_nil fun a hF => hK12 _ _ ?_ a hF
          obtain rfl := Option.some.inj h
          exact we_ret fun a hF => hQ _ _ _ (Outs.out nofun (Exits.on ⟨rfl, (post_ret (rs := [.tmp 6]) (ans := []) (vs := [.bool false]) (l := []) rfl (by kernel_rfl) trivial ⟨rfl, hS⟩) a hF⟩))
      · rw [if_neg hc7] at h
        refine ge_known (t := 39) (b := decide ((i1 : Int) ≥ (l1.length : Int))) (c := false) (by kernel_rfl) (decide_eq_false hc7) ?_
        refine ge_batch [18, 19, 20, 21, 22] (ans := []) (vs := [(44, .bool false), (43, .bool false), (42, undef), (41, undef), (40, undef)]) (l := []) (by kernel_rfl) trivial ?_
        refine ge_nil fun a hF => hK9 _ _ ?_ a hF
        refine we_false (by kernel_rfl) ?_
        refine we_skip fun a hF => hK7 _ _ ?_ a hF
        refine we_region [(0, 0), (1, 0)] rfl ?_
        refine ge_addn (d := 45) (ty := 3) (x := (.tmp 17)) (y := (.const (.int .i64 1))) (t := 3) (t2 := 3) (k := .i64) (m := i1) (by kernel_rfl) (by kernel_rfl) (by kernel_rfl) (by have h0 := hR0.small; omega) ?_
        refine ge_batch [1] (ans := []) (vs := [(17, .int .i64 ((i1 + 1 : Nat) : Int))]) (l := []) (by kernel_rfl) trivial ?_
        obtain rfl := Option.some.inj h
        exact ge_nil fun a hF => hQ _ _ _ (Outs.again ⟨hS, hF.weaken ⟨by kernel_rfl, by kernel_rfl, by kernel_rfl, by kernel_rfl, by kernel_rfl, trivial⟩⟩)
  · rw [if_neg hc2] at h
    refine we_known (t := 18) (b := decide ((i1 : Int) < (f0.length : Int))) (v := false) (by kernel_rfl) (decide_eq_false hc2) ?_
    refine we_false (by kernel_rfl) ?_
    obtain rfl := Option.some.inj h
    exact we_exit fun a hF => hQ _ _ _ (Outs.out nofun (Exits.here ⟨hS, hF.weaken trivial⟩))
theorem StillInt_ok (K : Nat) (f0 : List Int) (A0 : Option Addr) (n0 : Nat) (c0 : Nat) (l1 : List Int) (A1 : Option Addr) (c1 : Nat) (x2 : Int) (w0 : World) (hR0 : RdL w0 A0 f0) (hc0 : f0.length ≤ c0) (hR1 : RdL w0 A1 l1) (r : Bool) (h : StillInt.f K f0 l1 x2 = some r) :
    Calls Tryd.prog 18 #[.slice A0 n0 c0, .slice A1 l1.length c1, .int .i64 x2] w0 (StillInt.Post w0 r) := by
  have hS := St.start w0
  unfold StillInt.f at h
  refine calls_enter (n := 46) (args := [.slice A0 n0 c0, .slice A1 l1.length c1, .int .i64 x2]) (fn := Tryd.f18) rfl rfl rfl rfl ?_
  show WE _ _ _ _ [(0, .slice A0 n0 c0), (1, .slice A1 l1.length c1), (2, .int .i64 x2)] _
  refine we_seq fun K1 hK1 => ?_
  refine we_region [(0, 0)] rfl ?_
  refine ge_batch [0] (ans := []) (vs := [(6, .bool false)]) (l := []) (by kernel_rfl) trivial ?_
  refine ge_nil fun a hF => hK1 _ _ ?_ a hF
  refine we_seq fun K2 hK2 => ?_
  refine we_region [(0, 0), (1, 0), (2, 0), (3, 0), (4, 0), (5, 0)] rfl ?_
  refine ge_batch [0, 1, 2, 3] (ans := []) (vs := [(13, .int .i64 (IntKind.i64.wrap ((l1.length : Int) + 3))), (12, .int .i64 (l1.length : Int)), (11, .slice A1 l1.length c1), (10, .slice A0 n0 c0)]) (l := []) (by kernel_rfl) trivial ?_
  by_cases hc1 : (IntKind.i64.wrap ((l1.length : Int) + 3)) = (f0.length : Int)
  · rw [if_pos hc1] at h
    refine ge_sliceHi (d := 14) (ty := 23) (t := 23) (el := 3) (sz := 1) (m := n0) (c := c0) (hn := f0.length) (x := (.tmp 10)) (y := (.tmp 13)) (A := A0) (k' := .i64) (hi := (IntKind.i64.wrap ((l1.length : Int) + 3))) (by kernel_rfl) (by kernel_rfl) (by kernel_rfl) hc1 (by kernel_rfl) (by kernel_rfl) hc0 ?_
    refine ge_batch [5] (ans := []) (vs := [(7, .slice A0 f0.length c0)]) (l := []) (by kernel_rfl) trivial ?_
    refine ge_nil fun a hF => hK2 _ _ ?_ a hF
    refine we_seq fun K3 hK3 => ?_
    refine we_seq fun K4 hK4 => ?_
    refine we_region [(0, 0), (1, 0), (2, 0)] rfl ?_
    refine ge_batch [0, 1, 2] (ans := []) (vs := [(17, .int .i64 0), (16, .int .i64 (f0.length : Int)), (15, .slice A0 f0.length c0)]) (l := []) (by kernel_rfl) trivial ?_
    refine ge_nil fun a hF => hK4 _ _ ?_ a hF
    refine we_block ?_
    rcases hq1 : iter (StillInt.r0 f0 l1 x2) K 0 with _ | (_ | rr1)
    · rw [hq1] at h; cases h
    · rw [hq1] at h
      simp only [] at h
      refine we_iter (A := StillInt.A0 K w0 f0 A0 n0 c0 l1 A1 c1 x2 hR0 hc0 hR1 hc1) (B := StillInt.B0 K w0 f0 A0 n0 c0 l1 A1 c1 x2 hR0 hc0 hR1 hc1) hq1 (fun a hF => ⟨hS, hF.weaken ⟨by kernel_rfl, by kernel_rfl, by kernel_rfl, by kernel_rfl, by kernel_rfl, trivial⟩⟩) (fun s o hf a w hA Q hQ => StillInt_r0 K w0 f0 A0 n0 c0 l1 A1 c1 x2 hR0 hc0 hR1 hc1 s o hf a w hA Q hQ) ?_
      rintro _ a w1 _ ⟨rfl, hS1, hF⟩
      replace hS1 : St w0 w1 [] := hS1
      refine hK3 [] w1 ?_ a hF
      refine we_seq fun K13 hK13 => ?_
      refine we_region [(0, 0)] rfl ?_
      refine ge_batch [0] (ans := []) (vs := [(6, .bool true)]) (l := []) (by kernel_rfl) trivial ?_
      refine ge_nil fun a hF => hK13 _ _ ?_ a hF
      obtain rfl := Option.some.inj h
      exact we_ret (post_ret (rs := [.tmp 6]) (ans := []) (vs := [.bool true]) (l := []) rfl (by kernel_rfl) trivial ⟨rfl, hS1⟩)
    · rw [hq1] at h
      simp only [] at h
      refine we_iter (A := StillInt.A0 K w0 f0 A0 n0 c0 l1 A1 c1 x2 hR0 hc0 hR1 hc1) (B := StillInt.B0 K w0 f0 A0 n0 c0 l1 A1 c1 x2 hR0 hc0 hR1 hc1) hq1 (fun a hF => ⟨hS, hF.weaken ⟨by kernel_rfl, by kernel_rfl, by kernel_rfl, by kernel_rfl, by kernel_rfl, trivial⟩⟩) (fun s o hf a w hA Q hQ => StillInt_r0 K w0 f0 A0 n0 c0 l1 A1 c1 x2 hR0 hc0 hR1 hc1 s o hf a w hA Q hQ) ?_
      rintro _ a w1 _ ⟨rfl, hb⟩
      obtain rfl := Option.some.inj h
      exact hb
  · rw [if_neg hc1] at h
    cases h

/-! punctual/punctuallaw.SchedLate -/
abbrev SchedLate.Post (w0 : World) (r : Bool) (e : Ending) (w : World) : Prop := e = .returned (.bool r) ∧ St w0 w []
def SchedLate.p0 (K : Nat) : Option (Unit ⊕ Bool) :=
    match Late.f K ([(⟨0, 0, 0, 3, 0⟩ : SJob), (⟨0, 0, 0, 5, 0⟩ : SJob)] : List SJob) (List.replicate 4 (0 : Int)) ([4, (-1)] : List Int) with
    | none => none
    | some r1 =>
      if r1.2.Code = 0 then
        match SameInt.f K r1.1 ([0] : List Int) with
        | none => none
        | some r2 =>
          if r2 = true then
            some (.inl ())
          else
            some (.inr false)
      else
        some (.inr false)
def SchedLate.p1 (l0 : List SJob) (l1 : List Int) (l2 : List Int) : Option (Unit ⊕ Bool) :=
    if (few.f (l0.length : Int)) = true then
      if (few.f (l1.length : Int)) = true then
        if (few.f (l2.length : Int)) = true then
          some (.inl ())
        else
          some (.inr true)
      else
        some (.inr true)
    else
      some (.inr true)
def SchedLate.f (K : Nat) (l0 : List SJob) (l1 : List Int) (l2 : List Int) : Option Bool :=
  match SchedLate.p0 K with
  | none => none
  | some (.inl _) =>
    match SchedLate.p1 l0 l1 l2 with
    | none => none
    | some (.inl _) =>
      match LendJob.f l0 (-9) 0 0 0 0 with
      | none => none
      | some _ =>
        match LendInt.f l1 (-9) with
        | none => none
        | some _ =>
          match LendInt.f l2 (-9) with
          | none => none
          | some _ =>
            match Late.f K l0 l1 l2 with
            | none => none
            | some r6 =>
              match Tardy.f K l0 l1 l2 with
              | none => none
              | some r7 =>
                if (SFault.eqb r6.2 r7.2) = true then
                  match SameInt.f K r6.1 r7.1 with
                  | none => none
                  | some r8 =>
                    if r8 = true then
                      match StillJob.f K (l0 ++ [(⟨(-9), 0, 0, 0, 0⟩ : SJob), (⟨(-9), 0, 0, 0, 0⟩ : SJob), (⟨(-9), 0, 0, 0, 0⟩ : SJob)]) l0 (-9) 0 0 0 0 with
                      | none => none
                      | some r9 =>
                        if r9 = true then
                          match StillInt.f K (l1 ++ [(-9), (-9), (-9)]) l1 (-9) with
                          | none => none
                          | some r10 =>
                            if r10 = true then
                              match StillInt.f K (l2 ++ [(-9), (-9), (-9)]) l2 (-9) with
                              | none => none
                              | some r11 =>
                                some r11
                            else
                              some false
                        else
                          some false
                    else
                      some false
                else
                  some false
    | some (.inr rr1) =>
      some rr1
  | some (.inr rr2) =>
    some rr2
abbrev SchedLate.A0 (K : Nat) (w0 : World) (l0 : List SJob) (A0 : Option Addr) (c0 : Nat) (l1 : List Int) (A1 : Option Addr) (c1 : Nat) (l2 : List Int) (A2 : Option Addr) (c2 : Nat) (hR0 : RdL w0 A0 l0) (hR1 : RdL w0 A1 l1) (hR2 : RdL w0 A2 l2) (hG0 : Glob w0 0 [.int .i64 (-9), .int .i64 0, .int .i64 0, .int .i64 0, .int .i64 0]) : Unit → Act → World → Prop := fun (s : Unit) a w => St w0 w [] ∧ Frm 98 a [(0, .slice A0 l0.length c0), (1, .slice A1 l1.length c1), (2, .slice A2 l2.length c2)]
abbrev SchedLate.B0 (K : Nat) (w0 : World) (l0 : List SJob) (A0 : Option Addr) (c0 : Nat) (l1 : List Int) (A1 : Option Addr) (c1 : Nat) (l2 : List Int) (A2 : Option Addr) (c2 : Nat) (hR0 : RdL w0 A0 l0) (hR1 : RdL w0 A1 l1) (hR2 : RdL w0 A2 l2) (hG0 : Glob w0 0 [.int .i64 (-9), .int .i64 0, .int .i64 0, .int .i64 0, .int .i64 0]) : Bool → Exit → Act → World → Prop := Rets Tryd.prog Tryd.f3 (SchedLate.Post w0)
theorem SchedLate_p0 (K : Nat) (w0 : World) (l0 : List SJob) (A0 : Option Addr) (c0 : Nat) (l1 : List Int) (A1 : Option Addr) (c1 : Nat) (l2 : List Int) (A2 : Option Addr) (c2 : Nat) (hR0 : RdL w0 A0 l0) (hR1 : RdL w0 A1 l1) (hR2 : RdL w0 A2 l2) (hG0 : Glob w0 0 [.int .i64 (-9), .int .i64 0, .int .i64 0, .int .i64 0, .int .i64 0]) (o : Unit ⊕ Bool) (h : SchedLate.p0 K = some o) (w : World) (hS : St w0 w []) (Q : Exit → Act → World → Prop) (hQ : ∀ x a w, Outs (SchedLate.A0 K w0 l0 A0 c0 l1 A1 c1 l2 A2 c2 hR0 hR1 hR2 hG0) (SchedLate.B0 K w0 l0 A0 c0 l1 A1 c1 l2 A2 c2 hR0 hR1 hR2 hG0) o x a w → Q x a w) : WE Tryd.prog 98 (subF Tryd.f3 [1, 0]) Q [(0, .slice A0 l0.length c0), (1, .slice A1 l1.length c1), (2, .slice A2 l2.length c2), (6, .bool false)] w := by
  simp only [SchedLate.p0] at h
  refine we_seq fun K3 hK3 => ?_
  refine we_region [(0, 0), (1, 0), (2, 1), (3, 1), (4, 1), (5, 0), (6, 1), (7, 0), (8, 0), (9, 0), (10, 1), (11, 0), (12, 2)] rfl ?_
  refine ge_batch [0, 1] (ans := []) (vs := [(18, .agg #[.int .i64 0, .int .i64 0, .int .i64 0, .int .i64 5, .int .i64 0]), (17, .agg #[.int .i64 0, .int .i64 0, .int .i64 0, .int .i64 3, .int .i64 0])]) (l := []) (by kernel_rfl) trivial ?_
  refine ge_new (d := some 19) (o := .cells #[.int .i64 0, .int .i64 0, .int .i64 0, .int .i64 3, .int .i64 0, .int .i64 0, .int .i64 0, .int .i64 0, .int .i64 5, .int .i64 0] 30) (v := fun b => .slice (some ⟨b, 0, none⟩) 2 2) hS (fun b => by kernel_rfl) fun b1 w1 hx1 hS1 => ?_
  refine ge_make (α := Int) (d := 20) (t := 23) (el := 3) (bytes := 8) (l := 4) (c := 4) (x := (.const (.int .i64 4))) (y := (.const (.int .i64 4))) (ty := 23) (k1 := .i64) (k2 := .i64) (li := 4) (ci := 4) (z := .int .i64 0) (z' := (0 : Int)) (by kernel_rfl) (by kernel_rfl) (by kernel_rfl) rfl rfl (by kernel_rfl) (by kernel_rfl) rfl hS1 (Nat.le_refl _) rfl (by omega) fun v1 w2 _ hS2 => ?_
  refine ge_new (d := some 21) (o := .cells #[.int .i64 4, .int .i64 (-1)] 3) (v := fun b => .slice (some ⟨b, 0, none⟩) 2 2) hS2 (fun b => by kernel_rfl) fun b2 w3 hx2 hS3 => ?_
  obtain ⟨Z1, cz1, rfl⟩ := hS3.open 1 rfl
  rcases hq1 : Late.f K ([(⟨0, 0, 0, 3, 0⟩ : SJob), (⟨0, 0, 0, 5, 0⟩ : SJob)] : List SJob) (List.replicate 4 (0 : Int)) ([4, (-1)] : List Int) with _ | r1
  · rw [hq1] at h; cases h
  rw [hq1] at h
  simp only [] at h
  refine ge_batch [5] (ans := []) (vs := [(22, .agg #[(.slice Z1 (List.replicate 4 (0 : Int)).length cz1), .slice (some ⟨b2, 0, none⟩) 2 2])]) (l := []) (by kernel_rfl) trivial ?_
  refine ge_call (d := some 23) (f := 11) (args := #[.slice (some ⟨b1, 0, none⟩) 2 2, .agg #[(.slice Z1 (List.replicate 4 (0 : Int)).length cz1), .slice (some ⟨b2, 0, none⟩) 2 2]]) (by kernel_rfl) (Late_ok K ([(⟨0, 0, 0, 3, 0⟩ : SJob), (⟨0, 0, 0, 5, 0⟩ : SJob)] : List SJob) (some ⟨b1, 0, none⟩) 2 (List.replicate 4 (0 : Int)) Z1 cz1 ([4, (-1)] : List Int) (some ⟨b2, 0, none⟩) 2 _ (hS3.rdBlk 2 ([(⟨0, 0, 0, 3, 0⟩ : SJob), (⟨0, 0, 0, 5, 0⟩ : SJob)] : List SJob) rfl rfl rfl) (hS3.rdAt 1 rfl) (hS3.rdBlk 0 ([4, (-1)] : List Int) rfl rfl rfl) _ hq1) ?_
  rintro _ w4 ⟨v2, rfl, hS4⟩
  refine ⟨_, rfl, hS4.below, ?_⟩
  have hS5 : St w0 w4 [Own.of v2 3 r1.1, Own.blk b2 (.cells #[.int .i64 4, .int .i64 (-1)] 3 (0, 0)), Own.of (.slice Z1 (List.replicate 4 (0 : Int)).length cz1) 3 (List.replicate 4 (0 : Int)), Own.blk b1 (.cells #[.int .i64 0, .int .i64 0, .int .i64 0, .int .i64 3, .int .i64 0, .int .i64 0, .int .i64 0, .int .i64 0, .int .i64 5, .int .i64 0] 30 (0, 0))] := hS3.call hS4
  refine ge_batch [7, 8, 9] (ans := []) (vs := [(25, .agg #[.int .i64 r1.2.Code, .int .i64 r1.2.At]), (24, v2), (16, .tuple #[v2, .agg #[.int .i64 r1.2.Code, .int .i64 r1.2.At]])]) (l := []) (by kernel_rfl) trivial ?_
  refine ge_new (d := some 8) (o := .cells #[.int .i64 0, .int .i64 0] 26) (v := fun b => .pointer (some ⟨b, 0, none⟩)) hS5 (fun b => by kernel_rfl) fun b3 w5 hx3 hS6 => ?_
  refine ge_batch [11] (ans := []) (vs := [(7, v2)]) (l := []) (by kernel_rfl) trivial ?_
  refine ge_set (b := b3) (j := 0) (cs := #[.int .i64 0, .int .i64 0]) (t := 26) (vs := [.int .i64 r1.2.Code, .int .i64 r1.2.At]) hS6 (by kernel_rfl) rfl rfl fun w6 hS7 => ?_
  have hS8 : St w0 w6 [Own.blk b3 (.cells #[.int .i64 r1.2.Code, .int .i64 r1.2.At] 26 (0, 0)), Own.of v2 3 r1.1, Own.blk b2 (.cells #[.int .i64 4, .int .i64 (-1)] 3 (0, 0)), Own.of (.slice Z1 (List.replicate 4 (0 : Int)).length cz1) 3 (List.replicate 4 (0 : Int)), Own.blk b1 (.cells #[.int .i64 0, .int .i64 0, .int .i64 0, .int .i64 3, .int .i64 0, .int .i64 0, .int .i64 0, .int .i64 0, .int .i64 5, .int .i64 0] 30 (0, 0))] := hS7
  refine ge_nil fun a hF => hK3 _ _ ?_ a hF
  refine we_seq fun K4 hK4 => ?_
  refine we_region [(0, 0), (1, 0), (2, 0), (3, 0), (4, 0), (5, 1), (6, 1), (7, 0), (8, 0)] rfl ?_
  refine ge_batch [0, 1, 2, 3] (ans := [.val (.int .i64 r1.2.Code)]) (vs := [(29, .bool (r1.2.Code != 0)), (28, .bool (r1.2.Code != 0)), (27, .int .i64 r1.2.Code), (26, .pointer (some ⟨b3, 0, none⟩))]) (l := [.loaded ⟨b3, 0, none⟩ (.int .i64 r1.2.Code)]) (by kernel_rfl) ⟨hS8.cell 0 rfl rfl, trivial⟩ ?_
  by_cases hc1 : r1.2.Code = 0
  · rw [if_pos hc1] at h
    refine ge_known (t := 29) (b := (r1.2.Code != 0)) (c := false) (by kernel_rfl) (bne_eq_false_iff_eq.2 hc1) ?_
    refine ge_batch [4] (ans := []) (vs := [(30, v2)]) (l := []) (by kernel_rfl) trivial ?_
    refine ge_new (d := some 31) (o := .cells #[.int .i64 0] 3) (v := fun b => .slice (some ⟨b, 0, none⟩) 1 1) hS8 (fun b => by kernel_rfl) fun b4 w7 hx4 hS9 => ?_
    obtain ⟨Z2, cz2, rfl⟩ := hS9.open 2 rfl
    rcases hq2 : SameInt.f K r1.1 ([0] : List Int) with _ | r2
    · rw [hq2] at h; cases h
    rw [hq2] at h
    simp only [] at h
    refine ge_call (d := some 32) (f := 12) (args := #[(.slice Z2 r1.1.length cz2), .slice (some ⟨b4, 0, none⟩) 1 1]) (by kernel_rfl) (SameInt_ok K r1.1 Z2 cz2 ([0] : List Int) (some ⟨b4, 0, none⟩) 1 _ (hS9.rdAt 2 rfl) (hS9.rdBlk 0 ([0] : List Int) rfl rfl rfl) _ hq2) ?_
    rintro _ w8 ⟨rfl, hS10⟩
    refine ⟨_, rfl, hS10.below, ?_⟩
    have hS11 : St w0 w8 [Own.blk b4 (.cells #[.int .i64 0] 3 (0, 0)), Own.blk b3 (.cells #[.int .i64 r1.2.Code, .int .i64 r1.2.At] 26 (0, 0)), Own.of (.slice Z2 r1.1.length cz2) 3 r1.1, Own.blk b2 (.cells #[.int .i64 4, .int .i64 (-1)] 3 (0, 0)), Own.of (.slice Z1 (List.replicate 4 (0 : Int)).length cz1) 3 (List.replicate 4 (0 : Int)), Own.blk b1 (.cells #[.int .i64 0, .int .i64 0, .int .i64 0, .int .i64 3, .int .i64 0, .int .i64 0, .int .i64 0, .int .i64 0, .int .i64 5, .int .i64 0] 30 (0, 0))] := hS9.call hS10
    refine ge_batch [7, 8] (ans := []) (vs := [(34, .bool (!r2)), (33, .bool (!r2))]) (l := []) (by kernel_rfl) trivial ?_
    refine ge_nil fun a hF => hK4 _ _ ?_ a hF
    by_cases hc2 : r2 = true
    · rw [if_pos hc2] at h
      refine we_known (t := 34) (b := !r2) (v := false) (by kernel_rfl) (congrArg (fun z => !z) hc2) ?_
      refine we_false (by kernel_rfl) ?_
      have hS12 : St w0 w8 [] := hS11.takeN 0
      obtain rfl := Option.some.inj h
      exact we_skip fun a hF => hQ _ _ _ (Outs.again ⟨hS12, hF.weaken ⟨by kernel_rfl, by kernel_rfl, by kernel_rfl, trivial⟩⟩)
    · rw [if_neg hc2] at h
      refine we_known (t := 34) (b := !r2) (v := true) (by kernel_rfl) (congrArg (fun z => !z) (Bool.eq_false_iff.2 hc2)) ?_
      refine we_true (by kernel_rfl) ?_
      refine we_seq fun K5 hK5 => ?_
      refine we_region [(0, 0)] rfl ?_
      refine ge_batch [0] (ans := []) (vs := [(6, .bool false)]) (l := []) (by kernel_rfl) trivial ?_
      refine ge_nil fun a hF => hK5 _ _ ?_ a hF
      have hS13 : St w0 w8 [] := hS11.takeN 0
      obtain rfl := Option.some.inj h
      exact we_ret fun a hF => hQ _ _ _ (Outs.out nofun ⟨rfl, (post_ret (rs := [.tmp 6]) (ans := []) (vs := [.bool false]) (l := []) rfl (by kernel_rfl) trivial ⟨rfl, hS13⟩) a hF⟩)
  · rw [if_neg hc1] at h
    refine ge_known (t := 29) (b := (r1.2.Code != 0)) (c := true) (by kernel_rfl) (bne_iff_ne.2 hc1) ?_
    refine ge_batch [4] (ans := []) (vs := [(30, undef)]) (l := []) (by kernel_rfl) trivial ?_
    refine ge_off rfl rfl rfl (by kernel_rfl) ?_
    refine ge_off rfl rfl rfl (by kernel_rfl) ?_
    refine ge_batch [7, 8] (ans := []) (vs := [(34, .bool true), (33, undef)]) (l := []) (by kernel_rfl) trivial ?_
    refine ge_nil fun a hF => hK4 _ _ ?_ a hF
    refine we_true (by kernel_rfl) ?_
    refine we_seq fun K6 hK6 => ?_
    refine we_region [(0, 0)] rfl ?_
    refine ge_batch [0] (ans := []) (vs := [(6, .bool false)]) (l := []) (by kernel_rfl) trivial ?_
    refine ge_nil fun a hF => hK6 _ _ ?_ a hF
    have hS14 : St w0 w6 [] := hS8.takeN 0
    obtain rfl := Option.some.inj h
    exact we_ret fun a hF => hQ _ _ _ (Outs.out nofun ⟨rfl, (post_ret (rs := [.tmp 6]) (ans := []) (vs := [.bool false]) (l := []) rfl (by kernel_rfl) trivial ⟨rfl, hS14⟩) a hF⟩)
abbrev SchedLate.A1 (K : Nat) (w0 : World) (l0 : List SJob) (A0 : Option Addr) (c0 : Nat) (l1 : List Int) (A1 : Option Addr) (c1 : Nat) (l2 : List Int) (A2 : Option Addr) (c2 : Nat) (hR0 : RdL w0 A0 l0) (hR1 : RdL w0 A1 l1) (hR2 : RdL w0 A2 l2) (hG0 : Glob w0 0 [.int .i64 (-9), .int .i64 0, .int .i64 0, .int .i64 0, .int .i64 0]) : Unit → Act → World → Prop := fun (s : Unit) a w => St w0 w [] ∧ Frm 98 a [(0, .slice A0 l0.length c0), (1, .slice A1 l1.length c1), (2, .slice A2 l2.length c2)]
abbrev SchedLate.B1 (K : Nat) (w0 : World) (l0 : List SJob) (A0 : Option Addr) (c0 : Nat) (l1 : List Int) (A1 : Option Addr) (c1 : Nat) (l2 : List Int) (A2 : Option Addr) (c2 : Nat) (hR0 : RdL w0 A0 l0) (hR1 : RdL w0 A1 l1) (hR2 : RdL w0 A2 l2) (hG0 : Glob w0 0 [.int .i64 (-9), .int .i64 0, .int .i64 0, .int .i64 0, .int .i64 0]) : Bool → Exit → Act → World → Prop := Rets Tryd.prog Tryd.f3 (SchedLate.Post w0)
theorem SchedLate_p1 (K : Nat) (w0 : World) (l0 : List SJob) (A0 : Option Addr) (c0 : Nat) (l1 : List Int) (A1 : Option Addr) (c1 : Nat) (l2 : List Int) (A2 : Option Addr) (c2 : Nat) (hR0 : RdL w0 A0 l0) (hR1 : RdL w0 A1 l1) (hR2 : RdL w0 A2 l2) (hG0 : Glob w0 0 [.int .i64 (-9), .int .i64 0, .int .i64 0, .int .i64 0, .int .i64 0]) (o : Unit ⊕ Bool) (h : SchedLate.p1 l0 l1 l2 = some o) (w : World) (hS : St w0 w []) (Q : Exit → Act → World → Prop) (hQ : ∀ x a w, Outs (SchedLate.A1 K w0 l0 A0 c0 l1 A1 c1 l2 A2 c2 hR0 hR1 hR2 hG0) (SchedLate.B1 K w0 l0 A0 c0 l1 A1 c1 l2 A2 c2 hR0 hR1 hR2 hG0) o x a w → Q x a w) : WE Tryd.prog 98 (subF Tryd.f3 [1, 1, 0]) Q [(0, .slice A0 l0.length c0), (1, .slice A1 l1.length c1), (2, .slice A2 l2.length c2)] w := by
  simp only [SchedLate.p1] at h
  refine we_seq fun K8 hK8 => ?_
  refine we_region [(0, 0), (1, 0), (2, 1), (3, 0), (4, 0), (5, 0), (6, 0), (7, 1), (8, 0), (9, 0), (10, 0), (11, 0), (12, 0), (13, 1), (14, 0), (15, 0)] rfl ?_
  refine ge_batch [0, 1] (ans := []) (vs := [(36, .int .i64 (l0.length : Int)), (35, .slice A0 l0.length c0)]) (l := []) (by kernel_rfl) trivial ?_
  refine ge_call (d := some 37) (f := 13) (args := #[.int .i64 (l0.length : Int)]) (by kernel_rfl) (few_ok (l0.length : Int) _ _ rfl) ?_
  rintro _ w10 ⟨rfl, hS16⟩
  refine ⟨_, rfl, hS16.below, ?_⟩
  have hS17 : St w0 w10 [] := hS.call hS16
  refine ge_batch [3, 4] (ans := []) (vs := [(39, .bool (!(few.f (l0.length : Int)))), (38, .bool (!(few.f (l0.length : Int))))]) (l := []) (by kernel_rfl) trivial ?_
  by_cases hc3 : (few.f (l0.length : Int)) = true
  · rw [if_pos hc3] at h
    refine ge_known (t := 39) (b := !(few.f (l0.length : Int))) (c := false) (by kernel_rfl) (congrArg (fun z => !z) hc3) ?_
    refine ge_batch [5, 6] (ans := []) (vs := [(41, .int .i64 (l1.length : Int)), (40, .slice A1 l1.length c1)]) (l := []) (by kernel_rfl) trivial ?_
    refine ge_call (d := some 42) (f := 13) (args := #[.int .i64 (l1.length : Int)]) (by kernel_rfl) (few_ok (l1.length : Int) _ _ rfl) ?_
    rintro _ w11 ⟨rfl, hS18⟩
    refine ⟨_, rfl, hS18.below, ?_⟩
    have hS19 : St w0 w11 [] := hS17.call hS18
    refine ge_batch [8, 9, 10] (ans := []) (vs := [(45, .bool (!(few.f (l1.length : Int)))), (44, .bool (!(few.f (l1.length : Int)))), (43, .bool (!(few.f (l1.length : Int))))]) (l := []) (by kernel_rfl) trivial ?_
    by_cases hc4 : (few.f (l1.length : Int)) = true
    · rw [if_pos hc4] at h
      refine ge_known (t := 45) (b := !(few.f (l1.length : Int))) (c := false) (by kernel_rfl) (congrArg (fun z => !z) hc4) ?_
      refine ge_batch [11, 12] (ans := []) (vs := [(47, .int .i64 (l2.length : Int)), (46, .slice A2 l2.length c2)]) (l := []) (by kernel_rfl) trivial ?_
      refine ge_call (d := some 48) (f := 13) (args := #[.int .i64 (l2.length : Int)]) (by kernel_rfl) (few_ok (l2.length : Int) _ _ rfl) ?_
      rintro _ w12 ⟨rfl, hS20⟩
      refine ⟨_, rfl, hS20.below, ?_⟩
      have hS21 : St w0 w12 [] := hS19.call hS20
      refine ge_batch [14, 15] (ans := []) (vs := [(50, .bool (!(few.f (l2.length : Int)))), (49, .bool (!(few.f (l2.length : Int))))]) (l := []) (by kernel_rfl) trivial ?_
      refine ge_nil fun a hF => hK8 _ _ ?_ a hF
      by_cases hc5 : (few.f (l2.length : Int)) = true
      · rw [if_pos hc5] at h
        refine we_known (t := 50) (b := !(few.f (l2.length : Int))) (v := false) (by kernel_rfl) (congrArg (fun z => !z) hc5) ?_
        refine we_false (by kernel_rfl) ?_
        obtain rfl := Option.some.inj h
        exact we_skip fun a hF => hQ _ _ _ (Outs.again ⟨hS21, hF.weaken ⟨by kernel_rfl, by kernel_rfl, by kernel_rfl, trivial⟩⟩)
      · rw [if_neg hc5] at h
        refine we_known (t := 50) (b := !(few.f (l2.length : Int))) (v := true) (by kernel_rfl) (congrArg (fun z => !z) (Bool.eq_false_iff.2 hc5)) ?_
        refine we_true (by kernel_rfl) ?_
        refine we_seq fun K9 hK9 => ?_
        refine we_region [(0, 0)] rfl ?_
        refine ge_batch [0] (ans := []) (vs := [(6, .bool true)]) (l := []) (by kernel_rfl) trivial ?_
        refine ge_nil fun a hF => hK9 _ _ ?_ a hF
        obtain rfl := Option.some.inj h
        exact we_ret fun a hF => hQ _ _ _ (Outs.out nofun ⟨rfl, (post_ret (rs := [.tmp 6]) (ans := []) (vs := [.bool true]) (l := []) rfl (by kernel_rfl) trivial ⟨rfl, hS21⟩) a hF⟩)
    · rw [if_neg hc4] at h
      refine ge_known (t := 45) (b := !(few.f (l1.length : Int))) (c := true) (by kernel_rfl) (congrArg (fun z => !z) (Bool.eq_false_iff.2 hc4)) ?_
      refine ge_batch [11, 12] (ans := []) (vs := [(47, undef), (46, undef)]) (l := []) (by kernel_rfl) trivial ?_
      refine ge_off rfl rfl rfl (by kernel_rfl) ?_
      refine ge_batch [14, 15] (ans := []) (vs := [(50, .bool true), (49, undef)]) (l := []) (by kernel_rfl) trivial ?_
      refine ge_nil fun a hF => hK8 _ _ ?_ a hF
      refine we_true (by kernel_rfl) ?_
      refine we_seq fun K10 hK10 => ?_
      refine we_region [(0, 0)] rfl ?_
      refine ge_batch [0] (ans := []) (vs := [(6, .bool true)]) (l := []) (by kernel_rfl) trivial ?_
      refine ge_nil fun a hF => hK10 _ _ ?_ a hF
      obtain rfl := Option.some.inj h
      exact we_ret fun a hF => hQ _ _ _ (Outs.out nofun ⟨rfl, (post_ret (rs := [.tmp 6]) (ans := []) (vs := [.bool true]) (l := []) rfl (by kernel_rfl) trivial ⟨rfl, hS19⟩) a hF⟩)
  · rw [if_neg hc3] at h
    refine ge_known (t := 39) (b := !(few.f (l0.length : Int))) (c := true) (by kernel_rfl) (congrArg (fun z => !z) (Bool.eq_false_iff.2 hc3)) ?_
    refine ge_batch [5, 6] (ans := []) (vs := [(41, undef), (40, undef)]) (l := []) (by kernel_rfl) trivial ?_
    refine ge_off rfl rfl rfl (by kernel_rfl) ?_
    refine ge_batch [8, 9, 10, 11, 12] (ans := []) (vs := [(47, undef), (46, undef), (45, .bool true), (44, .bool true), (43, undef)]) (l := []) (by kernel_rfl) trivial ?_
    refine ge_off rfl rfl rfl (by kernel_rfl) ?_
    refine ge_batch [14, 15] (ans := []) (vs := [(50, .bool true), (49, undef)]) (l := []) (by kernel_rfl) trivial ?_
    refine ge_nil fun a hF => hK8 _ _ ?_ a hF
    refine we_true (by kernel_rfl) ?_
    refine we_seq fun K11 hK11 => ?_
    refine we_region [(0, 0)] rfl ?_
    refine ge_batch [0] (ans := []) (vs := [(6, .bool true)]) (l := []) (by kernel_rfl) trivial ?_
    refine ge_nil fun a hF => hK11 _ _ ?_ a hF
    obtain rfl := Option.some.inj h
    exact we_ret fun a hF => hQ _ _ _ (Outs.out nofun ⟨rfl, (post_ret (rs := [.tmp 6]) (ans := []) (vs := [.bool true]) (l := []) rfl (by kernel_rfl) trivial ⟨rfl, hS17⟩) a hF⟩)
theorem SchedLate_ok (K : Nat) (l0 : List SJob) (A0 : Option Addr) (c0 : Nat) (l1 : List Int) (A1 : Option Addr) (c1 : Nat) (l2 : List Int) (A2 : Option Addr) (c2 : Nat) (w0 : World) (hR0 : RdL w0 A0 l0) (hR1 : RdL w0 A1 l1) (hR2 : RdL w0 A2 l2) (hG0 : Glob w0 0 [.int .i64 (-9), .int .i64 0, .int .i64 0, .int .i64 0, .int .i64 0]) (r : Bool) (h : SchedLate.f K l0 l1 l2 = some r) :
    Calls Tryd.prog 3 #[.slice A0 l0.length c0, .slice A1 l1.length c1, .slice A2 l2.length c2] w0 (SchedLate.Post w0 r) := by
  have hS := St.start w0
  unfold SchedLate.f at h
  refine calls_enter (n := 98) (args := [.slice A0 l0.length c0, .slice A1 l1.length c1, .slice A2 l2.length c2]) (fn := Tryd.f3) rfl rfl rfl rfl ?_
  show WE _ _ _ _ [(0, .slice A0 l0.length c0), (1, .slice A1 l1.length c1), (2, .slice A2 l2.length c2)] _
  refine we_seq fun K1 hK1 => ?_
  refine we_region [(0, 0)] rfl ?_
  refine ge_batch [0] (ans := []) (vs := [(6, .bool false)]) (l := []) (by kernel_rfl) trivial ?_
  refine ge_nil fun a hF => hK1 _ _ ?_ a hF
  refine we_seq fun K2 hK2 => ?_
  rcases hq3 : SchedLate.p0 K with _ | (_ | rr2)
  · rw [hq3] at h; cases h
  · rw [hq3] at h
    simp only [] at h
    refine we_keep (e' := [(0, .slice A0 l0.length c0), (1, .slice A1 l1.length c1), (2, .slice A2 l2.length c2), (6, .bool false)]) ⟨by kernel_rfl, by kernel_rfl, by kernel_rfl, by kernel_rfl, trivial⟩ (SchedLate_p0 K w0 l0 A0 c0 l1 A1 c1 l2 A2 c2 hR0 hR1 hR2 hG0 _ hq3 _ hS _ ?_)
    rintro _ a w9 ⟨rfl, hS15, hF⟩
    replace hS15 : St w0 w9 [] := hS15
    refine hK2 [(0, .slice A0 l0.length c0), (1, .slice A1 l1.length c1), (2, .slice A2 l2.length c2)] w9 ?_ a hF
    refine we_seq fun K7 hK7 => ?_
    rcases hq7 : SchedLate.p1 l0 l1 l2 with _ | (_ | rr1)
    · rw [hq7] at h; cases h
    · rw [hq7] at h
      simp only [] at h
      refine we_keep (e' := [(0, .slice A0 l0.length c0), (1, .slice A1 l1.length c1), (2, .slice A2 l2.length c2)]) ⟨by kernel_rfl, by kernel_rfl, by kernel_rfl, trivial⟩ (SchedLate_p1 K w0 l0 A0 c0 l1 A1 c1 l2 A2 c2 hR0 hR1 hR2 hG0 _ hq7 _ hS15 _ ?_)
      rintro _ a w13 ⟨rfl, hS22, hF⟩
      replace hS22 : St w0 w13 [] := hS22
      refine hK7 [(0, .slice A0 l0.length c0), (1, .slice A1 l1.length c1), (2, .slice A2 l2.length c2)] w13 ?_ a hF
      refine we_seq fun K12 hK12 => ?_
      refine we_region [(0, 0), (1, 0), (2, 1), (3, 0), (4, 1), (5, 0), (6, 1), (7, 0), (8, 0), (9, 0)] rfl ?_
      refine ge_batch [0, 1] (ans := [.val (.int .i64 (-9)), .val (.int .i64 0), .val (.int .i64 0), .val (.int .i64 0), .val (.int .i64 0)]) (vs := [(52, .agg #[.int .i64 (-9), .int .i64 0, .int .i64 0, .int .i64 0, .int .i64 0]), (51, .slice A0 l0.length c0)]) (l := [.loaded ⟨0, 0, none⟩ (.int .i64 (-9)), .loaded ⟨0, 1, none⟩ (.int .i64 0), .loaded ⟨0, 2, none⟩ (.int .i64 0), .loaded ⟨0, 3, none⟩ (.int .i64 0), .loaded ⟨0, 4, none⟩ (.int .i64 0)]) (by kernel_rfl) ⟨hS22.glob hG0 rfl, hS22.glob hG0 rfl, hS22.glob hG0 rfl, hS22.glob hG0 rfl, hS22.glob hG0 rfl, trivial⟩ ?_
      rcases hq8 : LendJob.f l0 (-9) 0 0 0 0 with _ | r3
      · rw [hq8] at h; cases h
      rw [hq8] at h
      simp only [] at h
      obtain rfl := LendJob_full _ _ _ _ _ _ hq8
      refine ge_call (d := some 53) (f := 14) (args := #[.slice A0 l0.length c0, .agg #[.int .i64 (-9), .int .i64 0, .int .i64 0, .int .i64 0, .int .i64 0]]) (by kernel_rfl) (LendJob_ok l0 A0 c0 (-9) 0 0 0 0 _ (hS22.rd hR0) _ hq8) ?_
      rintro _ w14 ⟨Z3, cz3, rfl, hcp1, hS23⟩
      refine ⟨_, rfl, hS23.below, ?_⟩
      have hS24 : St w0 w14 [Own.of (.slice Z3 (l0 ++ [(⟨(-9), 0, 0, 0, 0⟩ : SJob), (⟨(-9), 0, 0, 0, 0⟩ : SJob), (⟨(-9), 0, 0, 0, 0⟩ : SJob)]).length cz3) 30 (l0 ++ [(⟨(-9), 0, 0, 0, 0⟩ : SJob), (⟨(-9), 0, 0, 0, 0⟩ : SJob), (⟨(-9), 0, 0, 0, 0⟩ : SJob)])] := hS22.call hS23
      refine ge_batch [3] (ans := []) (vs := [(54, .slice A1 l1.length c1)]) (l := []) (by kernel_rfl) trivial ?_
      rcases hq9 : LendInt.f l1 (-9) with _ | r4
      · rw [hq9] at h; cases h
      rw [hq9] at h
      simp only [] at h
      obtain rfl := LendInt_full _ _ hq9
      refine ge_call (d := some 55) (f := 15) (args := #[.slice A1 l1.length c1, .int .i64 (-9)]) (by kernel_rfl) (LendInt_ok l1 A1 c1 (-9) _ (hS24.rd hR1) _ hq9) ?_
      rintro _ w15 ⟨Z4, cz4, rfl, hcp2, hS25⟩
      refine ⟨_, rfl, hS25.below, ?_⟩
      have hS26 : St w0 w15 [Own.of (.slice Z4 (l1 ++ [(-9), (-9), (-9)]).length cz4) 3 (l1 ++ [(-9), (-9), (-9)]), Own.of (.slice Z3 (l0 ++ [(⟨(-9), 0, 0, 0, 0⟩ : SJob), (⟨(-9), 0, 0, 0, 0⟩ : SJob), (⟨(-9), 0, 0, 0, 0⟩ : SJob)]).length cz3) 30 (l0 ++ [(⟨(-9), 0, 0, 0, 0⟩ : SJob), (⟨(-9), 0, 0, 0, 0⟩ : SJob), (⟨(-9), 0, 0, 0, 0⟩ : SJob)])] := hS24.call hS25
      refine ge_batch [5] (ans := []) (vs := [(56, .slice A2 l2.length c2)]) (l := []) (by kernel_rfl) trivial ?_
      rcases hq10 : LendInt.f l2 (-9) with _ | r5
      · rw [hq10] at h; cases h
      rw [hq10] at h
      simp only [] at h
      obtain rfl := LendInt_full _ _ hq10
      refine ge_call (d := some 57) (f := 15) (args := #[.slice A2 l2.length c2, .int .i64 (-9)]) (by kernel_rfl) (LendInt_ok l2 A2 c2 (-9) _ (hS26.rd hR2) _ hq10) ?_
      rintro _ w16 ⟨Z5, cz5, rfl, hcp3, hS27⟩
      refine ⟨_, rfl, hS27.below, ?_⟩
      have hS28 : St w0 w16 [Own.of (.slice Z5 (l2 ++ [(-9), (-9), (-9)]).length cz5) 3 (l2 ++ [(-9), (-9), (-9)]), Own.of (.slice Z4 (l1 ++ [(-9), (-9), (-9)]).length cz4) 3 (l1 ++ [(-9), (-9), (-9)]), Own.of (.slice Z3 (l0 ++ [(⟨(-9), 0, 0, 0, 0⟩ : SJob), (⟨(-9), 0, 0, 0, 0⟩ : SJob), (⟨(-9), 0, 0, 0, 0⟩ : SJob)]).length cz3) 30 (l0 ++ [(⟨(-9), 0, 0, 0, 0⟩ : SJob), (⟨(-9), 0, 0, 0, 0⟩ : SJob), (⟨(-9), 0, 0, 0, 0⟩ : SJob)])] := hS26.call hS27
      refine ge_batch [7, 8, 9] (ans := []) (vs := [(11, .slice Z5 l2.length cz5), (10, .slice Z4 l1.length cz4), (9, .slice Z3 l0.length cz3)]) (l := []) (by kernel_rfl) trivial ?_
      refine ge_nil fun a hF => hK12 _ _ ?_ a hF
      refine we_seq fun K13 hK13 => ?_
      refine we_region [(0, 0), (1, 0), (2, 0), (3, 0), (4, 1), (5, 0), (6, 0), (7, 0), (8, 1), (9, 0), (10, 2)] rfl ?_
      rcases hq11 : Late.f K l0 l1 l2 with _ | r6
      · rw [hq11] at h; cases h
      rw [hq11] at h
      simp only [] at h
      refine ge_batch [0, 1, 2, 3] (ans := []) (vs := [(62, .agg #[.slice Z4 l1.length cz4, .slice Z5 l2.length cz5]), (61, .slice Z5 l2.length cz5), (60, .slice Z4 l1.length cz4), (59, .slice Z3 l0.length cz3)]) (l := []) (by kernel_rfl) trivial ?_
      refine ge_call (d := some 63) (f := 11) (args := #[.slice Z3 l0.length cz3, .agg #[.slice Z4 l1.length cz4, .slice Z5 l2.length cz5]]) (by kernel_rfl) (Late_ok K l0 Z3 cz3 l1 Z4 cz4 l2 Z5 cz5 _ ((hS28.rdAt 2 rfl).pre) ((hS28.rdAt 1 rfl).pre) ((hS28.rdAt 0 rfl).pre) _ hq11) ?_
      rintro _ w17 ⟨v3, rfl, hS29⟩
      refine ⟨_, rfl, hS29.below, ?_⟩
      have hS30 : St w0 w17 [Own.of v3 3 r6.1, Own.of (.slice Z5 (l2 ++ [(-9), (-9), (-9)]).length cz5) 3 (l2 ++ [(-9), (-9), (-9)]), Own.of (.slice Z4 (l1 ++ [(-9), (-9), (-9)]).length cz4) 3 (l1 ++ [(-9), (-9), (-9)]), Own.of (.slice Z3 (l0 ++ [(⟨(-9), 0, 0, 0, 0⟩ : SJob), (⟨(-9), 0, 0, 0, 0⟩ : SJob), (⟨(-9), 0, 0, 0, 0⟩ : SJob)]).length cz3) 30 (l0 ++ [(⟨(-9), 0, 0, 0, 0⟩ : SJob), (⟨(-9), 0, 0, 0, 0⟩ : SJob), (⟨(-9), 0, 0, 0, 0⟩ : SJob)])] := hS28.call hS29
      refine ge_batch [5, 6, 7] (ans := []) (vs := [(65, .agg #[.int .i64 r6.2.Code, .int .i64 r6.2.At]), (64, v3), (58, .tuple #[v3, .agg #[.int .i64 r6.2.Code, .int .i64 r6.2.At]])]) (l := []) (by kernel_rfl) trivial ?_
      refine ge_new (d := some 13) (o := .cells #[.int .i64 0, .int .i64 0] 26) (v := fun b => .pointer (some ⟨b, 0, none⟩)) hS30 (fun b => by kernel_rfl) fun b5 w18 hx5 hS31 => ?_
      refine ge_batch [9] (ans := []) (vs := [(12, v3)]) (l := []) (by kernel_rfl) trivial ?_
      refine ge_set (b := b5) (j := 0) (cs := #[.int .i64 0, .int .i64 0]) (t := 26) (vs := [.int .i64 r6.2.Code, .int .i64 r6.2.At]) hS31 (by kernel_rfl) rfl rfl fun w19 hS32 => ?_
      have hS33 : St w0 w19 [Own.blk b5 (.cells #[.int .i64 r6.2.Code, .int .i64 r6.2.At] 26 (0, 0)), Own.of v3 3 r6.1, Own.of (.slice Z5 (l2 ++ [(-9), (-9), (-9)]).length cz5) 3 (l2 ++ [(-9), (-9), (-9)]), Own.of (.slice Z4 (l1 ++ [(-9), (-9), (-9)]).length cz4) 3 (l1 ++ [(-9), (-9), (-9)]), Own.of (.slice Z3 (l0 ++ [(⟨(-9), 0, 0, 0, 0⟩ : SJob), (⟨(-9), 0, 0, 0, 0⟩ : SJob), (⟨(-9), 0, 0, 0, 0⟩ : SJob)]).length cz3) 30 (l0 ++ [(⟨(-9), 0, 0, 0, 0⟩ : SJob), (⟨(-9), 0, 0, 0, 0⟩ : SJob), (⟨(-9), 0, 0, 0, 0⟩ : SJob)])] := hS32
      refine ge_nil fun a hF => hK13 _ _ ?_ a hF
      refine we_seq fun K14 hK14 => ?_
      refine we_region [(0, 0), (1, 0), (2, 0), (3, 0), (4, 1), (5, 0), (6, 0), (7, 0), (8, 1), (9, 0), (10, 2)] rfl ?_
      rcases hq12 : Tardy.f K l0 l1 l2 with _ | r7
      · rw [hq12] at h; cases h
      rw [hq12] at h
      simp only [] at h
      refine ge_batch [0, 1, 2, 3] (ans := []) (vs := [(70, .agg #[.slice A1 l1.length c1, .slice A2 l2.length c2]), (69, .slice A2 l2.length c2), (68, .slice A1 l1.length c1), (67, .slice A0 l0.length c0)]) (l := []) (by kernel_rfl) trivial ?_
      refine ge_call (d := some 71) (f := 16) (args := #[.slice A0 l0.length c0, .agg #[.slice A1 l1.length c1, .slice A2 l2.length c2]]) (by kernel_rfl) (Tardy_ok K l0 A0 c0 l1 A1 c1 l2 A2 c2 _ (hS33.rd hR0) (hS33.rd hR1) (hS33.rd hR2) _ hq12) ?_
      rintro _ w20 ⟨v4, rfl, hS34⟩
      refine ⟨_, rfl, hS34.below, ?_⟩
      have hS35 : St w0 w20 [Own.of v4 3 r7.1, Own.blk b5 (.cells #[.int .i64 r6.2.Code, .int .i64 r6.2.At] 26 (0, 0)), Own.of v3 3 r6.1, Own.of (.slice Z5 (l2 ++ [(-9), (-9), (-9)]).length cz5) 3 (l2 ++ [(-9), (-9), (-9)]), Own.of (.slice Z4 (l1 ++ [(-9), (-9), (-9)]).length cz4) 3 (l1 ++ [(-9), (-9), (-9)]), Own.of (.slice Z3 (l0 ++ [(⟨(-9), 0, 0, 0, 0⟩ : SJob), (⟨(-9), 0, 0, 0, 0⟩ : SJob), (⟨(-9), 0, 0, 0, 0⟩ : SJob)]).length cz3) 30 (l0 ++ [(⟨(-9), 0, 0, 0, 0⟩ : SJob), (⟨(-9), 0, 0, 0, 0⟩ : SJob), (⟨(-9), 0, 0, 0, 0⟩ : SJob)])] := hS33.call hS34
      refine ge_batch [5, 6, 7] (ans := []) (vs := [(73, .agg #[.int .i64 r7.2.Code, .int .i64 r7.2.At]), (72, v4), (66, .tuple #[v4, .agg #[.int .i64 r7.2.Code, .int .i64 r7.2.At]])]) (l := []) (by kernel_rfl) trivial ?_
      refine ge_new (d := some 15) (o := .cells #[.int .i64 0, .int .i64 0] 26) (v := fun b => .pointer (some ⟨b, 0, none⟩)) hS35 (fun b => by kernel_rfl) fun b6 w21 hx6 hS36 => ?_
      refine ge_batch [9] (ans := []) (vs := [(14, v4)]) (l := []) (by kernel_rfl) trivial ?_
      refine ge_set (b := b6) (j := 0) (cs := #[.int .i64 0, .int .i64 0]) (t := 26) (vs := [.int .i64 r7.2.Code, .int .i64 r7.2.At]) hS36 (by kernel_rfl) rfl rfl fun w22 hS37 => ?_
      have hS38 : St w0 w22 [Own.blk b6 (.cells #[.int .i64 r7.2.Code, .int .i64 r7.2.At] 26 (0, 0)), Own.of v4 3 r7.1, Own.blk b5 (.cells #[.int .i64 r6.2.Code, .int .i64 r6.2.At] 26 (0, 0)), Own.of v3 3 r6.1, Own.of (.slice Z5 (l2 ++ [(-9), (-9), (-9)]).length cz5) 3 (l2 ++ [(-9), (-9), (-9)]), Own.of (.slice Z4 (l1 ++ [(-9), (-9), (-9)]).length cz4) 3 (l1 ++ [(-9), (-9), (-9)]), Own.of (.slice Z3 (l0 ++ [(⟨(-9), 0, 0, 0, 0⟩ : SJob), (⟨(-9), 0, 0, 0, 0⟩ : SJob), (⟨(-9), 0, 0, 0, 0⟩ : SJob)]).length cz3) 30 (l0 ++ [(⟨(-9), 0, 0, 0, 0⟩ : SJob), (⟨(-9), 0, 0, 0, 0⟩ : SJob), (⟨(-9), 0, 0, 0, 0⟩ : SJob)])] := hS37
      refine ge_nil fun a hF => hK14 _ _ ?_ a hF
      refine we_seq fun K15 hK15 => ?_
      refine we_region [(0, 0), (1, 0), (2, 0), (3, 0), (4, 0), (5, 0), (6, 1), (7, 0), (8, 0), (9, 0), (10, 0), (11, 0), (12, 1), (13, 0), (14, 0), (15, 0), (16, 0), (17, 1), (18, 0), (19, 0), (20, 0), (21, 0), (22, 1), (23, 0), (24, 0)] rfl ?_
      refine ge_batch [0, 1] (ans := [.val (.int .i64 r6.2.Code), .val (.int .i64 r6.2.At), .val (.int .i64 r7.2.Code), .val (.int .i64 r7.2.At)]) (vs := [(75, .agg #[.int .i64 r7.2.Code, .int .i64 r7.2.At]), (74, .agg #[.int .i64 r6.2.Code, .int .i64 r6.2.At])]) (l := [.loaded ⟨b5, 0, none⟩ (.int .i64 r6.2.Code), .loaded ⟨b5, 1, none⟩ (.int .i64 r6.2.At), .loaded ⟨b6, 0, none⟩ (.int .i64 r7.2.Code), .loaded ⟨b6, 1, none⟩ (.int .i64 r7.2.At)]) (by kernel_rfl) ⟨hS38.cell 2 rfl rfl, hS38.cell 2 rfl rfl, hS38.cell 0 rfl rfl, hS38.cell 0 rfl rfl, trivial⟩ ?_
      refine ge_eqs (d := 76) (ty := 4) (op := .eql) (x := (.tmp 74)) (y := (.tmp 75)) (t := 26) (t2 := 26) (xs := #[.int .i64 r6.2.Code, .int .i64 r6.2.At]) (ys := #[.int .i64 r7.2.Code, .int .i64 r7.2.At]) (r := (SFault.eqb r6.2 r7.2)) (v := (SFault.eqb r6.2 r7.2)) (by kernel_rfl) (by kernel_rfl) (by kernel_rfl) (by kernel_rfl) (by kernel_rfl) rfl ?_
      refine ge_batch [3] (ans := []) (vs := [(77, .bool (SFault.eqb r6.2 r7.2))]) (l := []) (by kernel_rfl) trivial ?_
      by_cases hc6 : (SFault.eqb r6.2 r7.2) = true
      · rw [if_pos hc6] at h
        refine ge_known (t := 77) (b := (SFault.eqb r6.2 r7.2)) (c := true) (by kernel_rfl) hc6 ?_
        refine ge_batch [4, 5] (ans := []) (vs := [(79, v4), (78, v3)]) (l := []) (by kernel_rfl) trivial ?_
        obtain ⟨Z6, cz6, rfl⟩ := hS38.open 3 rfl
        obtain ⟨Z7, cz7, rfl⟩ := hS38.open 1 rfl
        rcases hq13 : SameInt.f K r6.1 r7.1 with _ | r8
        · rw [hq13] at h; cases h
        rw [hq13] at h
        simp only [] at h
        refine ge_call (d := some 80) (f := 12) (args := #[(.slice Z6 r6.1.length cz6), (.slice Z7 r7.1.length cz7)]) (by kernel_rfl) (SameInt_ok K r6.1 Z6 cz6 r7.1 Z7 cz7 _ (hS38.rdAt 3 rfl) (hS38.rdAt 1 rfl) _ hq13) ?_
        rintro _ w23 ⟨rfl, hS39⟩
        refine ⟨_, rfl, hS39.below, ?_⟩
        have hS40 : St w0 w23 [Own.blk b6 (.cells #[.int .i64 r7.2.Code, .int .i64 r7.2.At] 26 (0, 0)), Own.of (.slice Z7 r7.1.length cz7) 3 r7.1, Own.blk b5 (.cells #[.int .i64 r6.2.Code, .int .i64 r6.2.At] 26 (0, 0)), Own.of (.slice Z6 r6.1.length cz6) 3 r6.1, Own.of (.slice Z5 (l2 ++ [(-9), (-9), (-9)]).length cz5) 3 (l2 ++ [(-9), (-9), (-9)]), Own.of (.slice Z4 (l1 ++ [(-9), (-9), (-9)]).length cz4) 3 (l1 ++ [(-9), (-9), (-9)]), Own.of (.slice Z3 (l0 ++ [(⟨(-9), 0, 0, 0, 0⟩ : SJob), (⟨(-9), 0, 0, 0, 0⟩ : SJob), (⟨(-9), 0, 0, 0, 0⟩ : SJob)]).length cz3) 30 (l0 ++ [(⟨(-9), 0, 0, 0, 0⟩ : SJob), (⟨(-9), 0, 0, 0, 0⟩ : SJob), (⟨(-9), 0, 0, 0, 0⟩ : SJob)])] := hS38.call hS39
        refine ge_batch [7, 8] (ans := []) (vs := [(82, .bool r8), (81, .bool r8)]) (l := []) (by kernel_rfl) trivial ?_
        by_cases hc7 : r8 = true
        · rw [if_pos hc7] at h
          refine ge_known (t := 82) (b := r8) (c := true) (by kernel_rfl) hc7 ?_
          refine ge_batch [9, 10, 11] (ans := [.val (.int .i64 (-9)), .val (.int .i64 0), .val (.int .i64 0), .val (.int .i64 0), .val (.int .i64 0)]) (vs := [(85, .agg #[.int .i64 (-9), .int .i64 0, .int .i64 0, .int .i64 0, .int .i64 0]), (84, .slice A0 l0.length c0), (83, .slice Z3 l0.length cz3)]) (l := [.loaded ⟨0, 0, none⟩ (.int .i64 (-9)), .loaded ⟨0, 1, none⟩ (.int .i64 0), .loaded ⟨0, 2, none⟩ (.int .i64 0), .loaded ⟨0, 3, none⟩ (.int .i64 0), .loaded ⟨0, 4, none⟩ (.int .i64 0)]) (by kernel_rfl) ⟨hS40.glob hG0 rfl, hS40.glob hG0 rfl, hS40.glob hG0 rfl, hS40.glob hG0 rfl, hS40.glob hG0 rfl, trivial⟩ ?_
          rcases hq14 : StillJob.f K (l0 ++ [(⟨(-9), 0, 0, 0, 0⟩ : SJob), (⟨(-9), 0, 0, 0, 0⟩ : SJob), (⟨(-9), 0, 0, 0, 0⟩ : SJob)]) l0 (-9) 0 0 0 0 with _ | r9
          · rw [hq14] at h; cases h
          rw [hq14] at h
          simp only [] at h
          refine ge_call (d := some 86) (f := 17) (args := #[.slice Z3 l0.length cz3, .slice A0 l0.length c0, .agg #[.int .i64 (-9), .int .i64 0, .int .i64 0, .int .i64 0, .int .i64 0]]) (by kernel_rfl) (StillJob_ok K (l0 ++ [(⟨(-9), 0, 0, 0, 0⟩ : SJob), (⟨(-9), 0, 0, 0, 0⟩ : SJob), (⟨(-9), 0, 0, 0, 0⟩ : SJob)]) Z3 l0.length cz3 l0 A0 c0 (-9) 0 0 0 0 _ (hS40.rdAt 6 rfl) hcp1 (hS40.rd hR0) _ hq14) ?_
          rintro _ w24 ⟨rfl, hS41⟩
          refine ⟨_, rfl, hS41.below, ?_⟩
          have hS42 : St w0 w24 [Own.blk b6 (.cells #[.int .i64 r7.2.Code, .int .i64 r7.2.At] 26 (0, 0)), Own.of (.slice Z7 r7.1.length cz7) 3 r7.1, Own.blk b5 (.cells #[.int .i64 r6.2.Code, .int .i64 r6.2.At] 26 (0, 0)), Own.of (.slice Z6 r6.1.length cz6) 3 r6.1, Own.of (.slice Z5 (l2 ++ [(-9), (-9), (-9)]).length cz5) 3 (l2 ++ [(-9), (-9), (-9)]), Own.of (.slice Z4 (l1 ++ [(-9), (-9), (-9)]).length cz4) 3 (l1 ++ [(-9), (-9), (-9)]), Own.of (.slice Z3 (l0 ++ [(⟨(-9), 0, 0, 0, 0⟩ : SJob), (⟨(-9), 0, 0, 0, 0⟩ : SJob), (⟨(-9), 0, 0, 0, 0⟩ : SJob)]).length cz3) 30 (l0 ++ [(⟨(-9), 0, 0, 0, 0⟩ : SJob), (⟨(-9), 0, 0, 0, 0⟩ : SJob), (⟨(-9), 0, 0, 0, 0⟩ : SJob)])] := hS40.call hS41
          refine ge_batch [13, 14] (ans := []) (vs := [(88, .bool r9), (87, .bool r9)]) (l := []) (by kernel_rfl) trivial ?_
          by_cases hc8 : r9 = true
          · rw [if_pos hc8] at h
            refine ge_known (t := 88) (b := r9) (c := true) (by kernel_rfl) hc8 ?_
            refine ge_batch [15, 16] (ans := []) (vs := [(90, .slice A1 l1.length c1), (89, .slice Z4 l1.length cz4)]) (l := []) (by kernel_rfl) trivial ?_
            rcases hq15 : StillInt.f K (l1 ++ [(-9), (-9), (-9)]) l1 (-9) with _ | r10
            · rw [hq15] at h; cases h
            rw [hq15] at h
            simp only [] at h
            refine ge_call (d := some 91) (f := 18) (args := #[.slice Z4 l1.length cz4, .slice A1 l1.length c1, .int .i64 (-9)]) (by kernel_rfl) (StillInt_ok K (l1 ++ [(-9), (-9), (-9)]) Z4 l1.length cz4 l1 A1 c1 (-9) _ (hS42.rdAt 5 rfl) hcp2 (hS42.rd hR1) _ hq15) ?_
            rintro _ w25 ⟨rfl, hS43⟩
            refine ⟨_, rfl, hS43.below, ?_⟩
            have hS44 : St w0 w25 [Own.blk b6 (.cells #[.int .i64 r7.2.Code, .int .i64 r7.2.At] 26 (0, 0)), Own.of (.slice Z7 r7.1.length cz7) 3 r7.1, Own.blk b5 (.cells #[.int .i64 r6.2.Code, .int .i64 r6.2.At] 26 (0, 0)), Own.of (.slice Z6 r6.1.length cz6) 3 r6.1, Own.of (.slice Z5 (l2 ++ [(-9), (-9), (-9)]).length cz5) 3 (l2 ++ [(-9), (-9), (-9)]), Own.of (.slice Z4 (l1 ++ [(-9), (-9), (-9)]).length cz4) 3 (l1 ++ [(-9), (-9), (-9)]), Own.of (.slice Z3 (l0 ++ [(⟨(-9), 0, 0, 0, 0⟩ : SJob), (⟨(-9), 0, 0, 0, 0⟩ : SJob), (⟨(-9), 0, 0, 0, 0⟩ : SJob)]).length cz3) 30 (l0 ++ [(⟨(-9), 0, 0, 0, 0⟩ : SJob), (⟨(-9), 0, 0, 0, 0⟩ : SJob), (⟨(-9), 0, 0, 0, 0⟩ : SJob)])] := hS42.call hS43
            refine ge_batch [18, 19] (ans := []) (vs := [(93, .bool r10), (92, .bool r10)]) (l := []) (by kernel_rfl) trivial ?_
            by_cases hc9 : r10 = true
            · rw [if_pos hc9] at h
              refine ge_known (t := 93) (b := r10) (c := true) (by kernel_rfl) hc9 ?_
              refine ge_batch [20, 21] (ans := []) (vs := [(95, .slice A2 l2.length c2), (94, .slice Z5 l2.length cz5)]) (l := []) (by kernel_rfl) trivial ?_
              rcases hq16 : StillInt.f K (l2 ++ [(-9), (-9), (-9)]) l2 (-9) with _ | r11
              · rw [hq16] at h; cases h
              rw [hq16] at h
              simp only [] at h
              refine ge_call (d := some 96) (f := 18) (args := #[.slice Z5 l2.length cz5, .slice A2 l2.length c2, .int .i64 (-9)]) (by kernel_rfl) (StillInt_ok K (l2 ++ [(-9), (-9), (-9)]) Z5 l2.length cz5 l2 A2 c2 (-9) _ (hS44.rdAt 4 rfl) hcp3 (hS44.rd hR2) _ hq16) ?_
              rintro _ w26 ⟨rfl, hS45⟩
              refine ⟨_, rfl, hS45.below, ?_⟩
              have hS46 : St w0 w26 [Own.blk b6 (.cells #[.int .i64 r7.2.Code, .int .i64 r7.2.At] 26 (0, 0)), Own.of (.slice Z7 r7.1.length cz7) 3 r7.1, Own.blk b5 (.cells #[.int .i64 r6.2.Code, .int .i64 r6.2.At] 26 (0, 0)), Own.of (.slice Z6 r6.1.length cz6) 3 r6.1, Own.of (.slice Z5 (l2 ++ [(-9), (-9), (-9)]).length cz5) 3 (l2 ++ [(-9), (-9), (-9)]), Own.of (.slice Z4 (l1 ++ [(-9), (-9), (-9)]).length cz4) 3 (l1 ++ [(-9), (-9), (-9)]), Own.of (.slice Z3 (l0 ++ [(⟨(-9), 0, 0, 0, 0⟩ : SJob), (⟨(-9), 0, 0, 0, 0⟩ : SJob), (⟨(-9), 0, 0, 0, 0⟩ : SJob)]).length cz3) 30 (l0 ++ [(⟨(-9), 0, 0, 0, 0⟩ : SJob), (⟨(-9), 0, 0, 0, 0⟩ : SJob), (⟨(-9), 0, 0, 0, 0⟩ : SJob)])] := hS44.call hS45
              refine ge_batch [23, 24] (ans := []) (vs := [(6, .bool r11), (97, .bool r11)]) (l := []) (by kernel_rfl) trivial ?_
              refine ge_nil fun a hF => hK15 _ _ ?_ a hF
              have hS47 : St w0 w26 [] := hS46.takeN 0
              obtain rfl := Option.some.inj h
              exact we_ret (post_ret (rs := [.tmp 6]) (ans := []) (vs := [.bool r11]) (l := []) rfl (by kernel_rfl) trivial ⟨rfl, hS47⟩)
            · rw [if_neg hc9] at h
              refine ge_known (t := 93) (b := r10) (c := false) (by kernel_rfl) (Bool.eq_false_iff.2 hc9) ?_
              refine ge_batch [20, 21] (ans := []) (vs := [(95, undef), (94, undef)]) (l := []) (by kernel_rfl) trivial ?_
              refine ge_off rfl rfl rfl (by kernel_rfl) ?_
              refine ge_batch [23, 24] (ans := []) (vs := [(6, .bool false), (97, .bool false)]) (l := []) (by kernel_rfl) trivial ?_
              refine ge_nil fun a hF => hK15 _ _ ?_ a hF
              have hS48 : St w0 w25 [] := hS44.takeN 0
              obtain rfl := Option.some.inj h
              exact we_ret (post_ret (rs := [.tmp 6]) (ans := []) (vs := [.bool false]) (l := []) rfl (by kernel_rfl) trivial ⟨rfl, hS48⟩)
          · rw [if_neg hc8] at h
            refine ge_known (t := 88) (b := r9) (c := false) (by kernel_rfl) (Bool.eq_false_iff.2 hc8) ?_
            refine ge_batch [15, 16] (ans := []) (vs := [(90, undef), (89, undef)]) (l := []) (by kernel_rfl) trivial ?_
            refine ge_off rfl rfl rfl (by kernel_rfl) ?_
            refine ge_batch [18, 19, 20, 21] (ans := []) (vs := [(95, undef), (94, undef), (93, .bool false), (92, .bool false)]) (l := []) (by kernel_rfl) trivial ?_
            refine ge_off rfl rfl rfl (by kernel_rfl) ?_
            refine ge_batch [23, 24] (ans := []) (vs := [(6, .bool false), (97, .bool false)]) (l := []) (by kernel_rfl) trivial ?_
            refine ge_nil fun a hF => hK15 _ _ ?_ a hF
            have hS49 : St w0 w24 [] := hS42.takeN 0
            obtain rfl := Option.some.inj h
            exact we_ret (post_ret (rs := [.tmp 6]) (ans := []) (vs := [.bool false]) (l := []) rfl (by kernel_rfl) trivial ⟨rfl, hS49⟩)
        · rw [if_neg hc7] at h
          refine ge_known (t := 82) (b := r8) (c := false) (by kernel_rfl) (Bool.eq_false_iff.2 hc7) ?_
          refine ge_batch [9, 10, 11] (ans := []) (vs := [(85, undef), (84, undef), (83, undef)]) (l := []) (by kernel_rfl) trivial ?_
          refine ge_off rfl rfl rfl (by kernel_rfl) ?_
          refine ge_batch [13, 14, 15, 16] (ans := []) (vs := [(90, undef), (89, undef), (88, .bool false), (87, .bool false)]) (l := []) (by kernel_rfl) trivial ?_
          refine ge_off rfl rfl rfl (by kernel_rfl) ?_
          refine ge_batch [18, 19, 20, 21] (ans := []) (vs := [(95, undef), (94, undef), (93, .bool false), (92, .bool false)]) (l := []) (by kernel_rfl) trivial ?_
          refine ge_off rfl rfl rfl (by kernel_rfl) ?_
          refine ge_batch [23, 24] (ans := []) (vs := [(6, .bool false), (97, .bool false)]) (l := []) (by kernel_rfl) trivial ?_
          refine ge_nil fun a hF => hK15 _ _ ?_ a hF
          have hS50 : St w0 w23 [] := hS40.takeN 0
          obtain rfl := Option.some.inj h
          exact we_ret (post_ret (rs := [.tmp 6]) (ans := []) (vs := [.bool false]) (l := []) rfl (by kernel_rfl) trivial ⟨rfl, hS50⟩)
      · rw [if_neg hc6] at h
        refine ge_known (t := 77) (b := (SFault.eqb r6.2 r7.2)) (c := false) (by kernel_rfl) (Bool.eq_false_iff.2 hc6) ?_
        refine ge_batch [4, 5] (ans := []) (vs := [(79, undef), (78, undef)]) (l := []) (by kernel_rfl) trivial ?_
        refine ge_off rfl rfl rfl (by kernel_rfl) ?_
        refine ge_batch [7, 8, 9, 10, 11] (ans := []) (vs := [(85, undef), (84, undef), (83, undef), (82, .bool false), (81, .bool false)]) (l := []) (by kernel_rfl) trivial ?_
        refine ge_off rfl rfl rfl (by kernel_rfl) ?_
        refine ge_batch [13, 14, 15, 16] (ans := []) (vs := [(90, undef), (89, undef), (88, .bool false), (87, .bool false)]) (l := []) (by kernel_rfl) trivial ?_
        refine ge_off rfl rfl rfl (by kernel_rfl) ?_
        refine ge_batch [18, 19, 20, 21] (ans := []) (vs := [(95, undef), (94, undef), (93, .bool false), (92, .bool false)]) (l := []) (by kernel_rfl) trivial ?_
        refine ge_off rfl rfl rfl (by kernel_rfl) ?_
        refine ge_batch [23, 24] (ans := []) (vs := [(6, .bool false), (97, .bool false)]) (l := []) (by kernel_rfl) trivial ?_
        refine ge_nil fun a hF => hK15 _ _ ?_ a hF
        have hS51 : St w0 w22 [] := hS38.takeN 0
        obtain rfl := Option.some.inj h
        exact we_ret (post_ret (rs := [.tmp 6]) (ans := []) (vs := [.bool false]) (l := []) rfl (by kernel_rfl) trivial ⟨rfl, hS51⟩)
    · rw [hq7] at h
      simp only [] at h
      refine we_keep (e' := [(0, .slice A0 l0.length c0), (1, .slice A1 l1.length c1), (2, .slice A2 l2.length c2)]) ⟨by kernel_rfl, by kernel_rfl, by kernel_rfl, trivial⟩ (SchedLate_p1 K w0 l0 A0 c0 l1 A1 c1 l2 A2 c2 hR0 hR1 hR2 hG0 _ hq7 _ hS15 _ ?_)
      rintro _ a w1 ⟨_, rfl, hb⟩
      obtain rfl := Option.some.inj h
      exact hb
  · rw [hq3] at h
    simp only [] at h
    refine we_keep (e' := [(0, .slice A0 l0.length c0), (1, .slice A1 l1.length c1), (2, .slice A2 l2.length c2), (6, .bool false)]) ⟨by kernel_rfl, by kernel_rfl, by kernel_rfl, by kernel_rfl, trivial⟩ (SchedLate_p0 K w0 l0 A0 c0 l1 A1 c1 l2 A2 c2 hR0 hR1 hR2 hG0 _ hq3 _ hS _ ?_)
    rintro _ a w1 ⟨_, rfl, hb⟩
    obtain rfl := Option.some.inj h
    exact hb

end Go.Proofs.YtlipdmblinjjaaaDoor.GV
