/- Walks of single functions, written by a program of this work. -/
import Derived.Test.YtnckikjcjgmdlaaGv7
import Derived.Test.YtnckikjcjgmdlaaGv9
import Derived.Test.YtnckikjcjgmdlaaProg
namespace Go.Proofs.Ytnckikjcjgmdlaa.GV
open Go Go.RowKit
set_option linter.unusedVariables false
set_option linter.unusedSimpArgs false
set_option maxRecDepth 100000

/-! punctual/punctualsame.Same[int] -/
abbrev SameInt.Post (w0 : World) (r : Bool) (e : Ending) (w : World) : Prop := e = .returned (.bool r) ∧ St w0 w []
def SameInt.r0 (l0 : List Int) (l1 : List Int) : Nat → Option (Nat ⊕ (Unit ⊕ Bool))
  | i1 =>
    if (i1 : Int) < (l0.length : Int) then
      match l0[i1]? with
      | none => none
      | some e1 =>
        match l1[i1]? with
        | none => none
        | some e2 =>
          if e1 = e2 then
            some (.inl (i1 + 1))
          else
            some (.inr (.inr false))
    else
      some (.inr (.inl ()))
def SameInt.f (K : Nat) (l0 : List Int) (l1 : List Int) : Option Bool :=
  if (l0.length : Int) = (l1.length : Int) then
    match iter (SameInt.r0 l0 l1) K 0 with
    | none => none
    | some (.inl _) =>
      some true
    | some (.inr rr1) =>
      some rr1
  else
    some false
abbrev SameInt.A0 (K : Nat) (w0 : World) (l0 : List Int) (A0 : Option Addr) (c0 : Nat) (l1 : List Int) (A1 : Option Addr) (c1 : Nat) (hR0 : RdL w0 A0 l0) (hR1 : RdL w0 A1 l1) (hc1 : (l0.length : Int) = (l1.length : Int)) : Nat → Act → World → Prop := fun (s : Nat) a w => St w0 w [] ∧ Frm 26 a [(0, .slice A0 l0.length c0), (1, .slice A1 l1.length c1), (12, .int .i64 (l0.length : Int)), (13, .int .i64 (s : Int))]
abbrev SameInt.B0 (K : Nat) (w0 : World) (l0 : List Int) (A0 : Option Addr) (c0 : Nat) (l1 : List Int) (A1 : Option Addr) (c1 : Nat) (hR0 : RdL w0 A0 l0) (hR1 : RdL w0 A1 l1) (hc1 : (l0.length : Int) = (l1.length : Int)) : (Unit ⊕ Bool) → Exit → Act → World → Prop := Exits 0 (fun (s : Unit) a w => St w0 w [] ∧ Frm 26 a []) (Rets Try.prog Try.f11 (SameInt.Post w0))
theorem SameInt_r0 (K : Nat) (w0 : World) (l0 : List Int) (A0 : Option Addr) (c0 : Nat) (l1 : List Int) (A1 : Option Addr) (c1 : Nat) (hR0 : RdL w0 A0 l0) (hR1 : RdL w0 A1 l1) (hc1 : (l0.length : Int) = (l1.length : Int)) (s : Nat) (o : Nat ⊕ (Unit ⊕ Bool)) (h : SameInt.r0 l0 l1 s = some o) (a : Act) (w : World) (hA : SameInt.A0 K w0 l0 A0 c0 l1 A1 c1 hR0 hR1 hc1 s a w) (Q : Exit → Act → World → Prop) (hQ : ∀ x a w, Outs (SameInt.A0 K w0 l0 A0 c0 l1 A1 c1 hR0 hR1 hc1) (SameInt.B0 K w0 l0 A0 c0 l1 A1 c1 hR0 hR1 hc1) o x a w → Q x a w) : (subF Try.f11 [1, 1, 0, 1, 0, 0]).wp Try.prog Q a w := by
  obtain ⟨i1, hs⟩ : ∃ z, z = s := ⟨s, rfl⟩
  subst hs
  obtain ⟨hS, hF⟩ := hA
  replace hS : St w0 w [] := hS
  simp only [SameInt.r0] at h
  refine (?_ : WE Try.prog 26 (subF Try.f11 [1, 1, 0, 1, 0, 0]) Q [(0, .slice A0 l0.length c0), (1, .slice A1 l1.length c1), (12, .int .i64 (l0.length : Int)), (13, .int .i64 (i1 : Int))] w) a hF
  clear hF a
  refine we_seq fun K6 hK6 => ?_
  refine we_region [(0, 0)] rfl ?_
  refine ge_batch [0] (ans := []) (vs := [(14, .bool (decide ((i1 : Int) < (l0.length : Int))))]) (l := []) (by kernel_rfl) trivial ?_
  refine ge_nil fun a hF => hK6 _ _ ?_ a hF
  refine we_seq fun K7 hK7 => ?_
  by_cases hc2 : (i1 : Int) < (l0.length : Int)
  · rw [if_pos hc2] at h
    refine we_known (t := 14) (b := decide ((i1 : Int) < (l0.length : Int))) (v := true) (by kernel_rfl) (decide_eq_true hc2) ?_
    refine we_true (by kernel_rfl) ?_
    refine we_skip fun a hF => hK7 _ _ ?_ a hF
    refine we_seq fun K8 hK8 => ?_
    refine we_block ?_
    refine we_seq fun K9 hK9 => ?_
    refine we_region [(0, 0), (1, 0)] rfl ?_
    refine ge_batch [0, 1] (ans := []) (vs := [(5, .int .i64 (i1 : Int)), (15, .int .i64 (i1 : Int))]) (l := []) (by kernel_rfl) trivial ?_
    refine ge_nil fun a hF => hK9 _ _ ?_ a hF
    refine we_seq fun K10 hK10 => ?_
    refine we_draws (by kernel_rfl) [(0, 0), (1, 0), (2, 0), (3, 0), (4, 0), (5, 0), (6, 0), (7, 0), (8, 0)] (by kernel_rfl) ?_
    have hS1 : St w0 w.drew [] := hS.drew
    refine ge_batch [0, 1] (ans := []) (vs := [(17, .int .i64 (i1 : Int)), (16, .slice A0 l0.length c0)]) (l := []) (by kernel_rfl) trivial ?_
    rcases hx1 : l0[i1]? with _ | e1
    · rw [hx1] at h; cases h
    rw [hx1] at h
    simp only [] at h
    refine ge_index (d := 18) (ty := 0) (t := 24) (el := 3) (sz := 1) (m := l0.length) (c := c0) (x := (.tmp 16)) (y := (.tmp 17)) (A := A0) (k' := .i64) (j := (i1 : Int)) (jn := i1) (b0 := blkOf A0) (o0 := offOf A0) (by kernel_rfl) (by kernel_rfl) (by kernel_rfl) (by kernel_rfl) (by kernel_rfl) ((hS1.rd hR0).eqSome (pos_of_get hx1)) rfl (lt_of_get hx1) ?_
    refine ge_batch [3, 4, 5] (ans := [.val (.int .i64 e1)]) (vs := [(21, .int .i64 (i1 : Int)), (20, .slice A1 l1.length c1), (19, .int .i64 e1)]) (l := [.loaded ⟨blkOf A0, offOf A0 + i1 * 1, none⟩ (.int .i64 e1)]) (by kernel_rfl) ⟨RdL.cell (j := 0) (hS1.rd hR0) hx1 rfl, trivial⟩ ?_
    rcases hx2 : l1[i1]? with _ | e2
    · rw [hx2] at h; cases h
    rw [hx2] at h
    simp only [] at h
    refine ge_index (d := 22) (ty := 0) (t := 24) (el := 3) (sz := 1) (m := l1.length) (c := c1) (x := (.tmp 20)) (y := (.tmp 21)) (A := A1) (k' := .i64) (j := (i1 : Int)) (jn := i1) (b0 := blkOf A1) (o0 := offOf A1) (by kernel_rfl) (by kernel_rfl) (by kernel_rfl) (by kernel_rfl) (by kernel_rfl) ((hS1.rd hR1).eqSome (pos_of_get hx2)) rfl (lt_of_get hx2) ?_
    refine ge_batch [7, 8] (ans := [.val (.int .i64 e2)]) (vs := [(24, .bool (e1 != e2)), (23, .int .i64 e2)]) (l := [.loaded ⟨blkOf A1, offOf A1 + i1 * 1, none⟩ (.int .i64 e2)]) (by kernel_rfl) ⟨RdL.cell (j := 0) (hS1.rd hR1) hx2 rfl, trivial⟩ ?_
    refine ge_nil fun a hF => hK10 _ _ ?_ a hF
    by_cases hc3 : e1 = e2
    · rw [if_pos hc3] at h
      refine we_known (t := 24) (b := (e1 != e2)) (v := false) (by kernel_rfl) (bne_eq_false_iff_eq.2 hc3) ?_
      refine we_false (by kernel_rfl) ?_
      refine we_skip fun a hF => hK8 _ _ ?_ a hF
      refine we_region [(0, 0), (1, 0)] rfl ?_
      refine ge_addn (d := 25) (ty := 3) (x := (.tmp 13)) (y := (.const (.int .i64 1))) (t := 3) (t2 := 3) (k := .i64) (m := i1) (by kernel_rfl) (by kernel_rfl) (by kernel_rfl) (by have h0 := hR0.small; omega) ?_
      refine ge_batch [1] (ans := []) (vs := [(13, .int .i64 ((i1 + 1 : Nat) : Int))]) (l := []) (by kernel_rfl) trivial ?_
      obtain rfl := Option.some.inj h
      exact ge_nil fun a hF => hQ _ _ _ (Outs.again ⟨hS1, hF.weaken ⟨by kernel_rfl, by kernel_rfl, by kernel_rfl, by kernel_rfl, trivial⟩⟩)
    · rw [if_neg hc3] at h
      refine we_known (t := 24) (b := (e1 != e2)) (v := true) (by kernel_rfl) (bne_iff_ne.2 hc3) ?_
      refine we_true (by kernel_rfl) ?_
      refine we_seq fun K11 hK11 => ?_
      refine we_region [(0, 0)] rfl ?_
      refine ge_batch [0] (ans := []) (vs := [(4, .bool false)]) (l := []) (by kernel_rfl) trivial ?_
      refine ge_nil fun a hF => hK11 _ _ ?_ a hF
      obtain rfl := Option.some.inj h
      exact we_ret fun a hF => hQ _ _ _ (Outs.out nofun (Exits.on ⟨rfl, (post_ret (rs := [.tmp 4]) (ans := []) (vs := [.bool false]) (l := []) rfl (by kernel_rfl) trivial ⟨rfl, hS1⟩) a hF⟩))
  · rw [if_neg hc2] at h
    refine we_known (t := 14) (b := decide ((i1 : Int) < (l0.length : Int))) (v := false) (by kernel_rfl) (decide_eq_false hc2) ?_
    refine we_false (by kernel_rfl) ?_
    obtain rfl := Option.some.inj h
    exact we_exit fun a hF => hQ _ _ _ (Outs.out nofun (Exits.here ⟨hS, hF.weaken trivial⟩))
theorem SameInt_ok (K : Nat) (l0 : List Int) (A0 : Option Addr) (c0 : Nat) (l1 : List Int) (A1 : Option Addr) (c1 : Nat) (w0 : World) (hR0 : RdL w0 A0 l0) (hR1 : RdL w0 A1 l1) (r : Bool) (h : SameInt.f K l0 l1 = some r) :
    Calls Try.prog 11 #[.slice A0 l0.length c0, .slice A1 l1.length c1] w0 (SameInt.Post w0 r) := by
  have hS := St.start w0
  unfold SameInt.f at h
  refine calls_enter (n := 26) (args := [.slice A0 l0.length c0, .slice A1 l1.length c1]) (fn := Try.f11) rfl rfl rfl rfl ?_
  show WE _ _ _ _ [(0, .slice A0 l0.length c0), (1, .slice A1 l1.length c1)] _
  refine we_seq fun K1 hK1 => ?_
  refine we_region [(0, 0)] rfl ?_
  refine ge_batch [0] (ans := []) (vs := [(4, .bool false)]) (l := []) (by kernel_rfl) trivial ?_
  refine ge_nil fun a hF => hK1 _ _ ?_ a hF
  refine we_seq fun K2 hK2 => ?_
  refine we_seq fun K3 hK3 => ?_
  refine we_region [(0, 0), (1, 0), (2, 0), (3, 0), (4, 0)] rfl ?_
  refine ge_batch [0, 1, 2, 3, 4] (ans := []) (vs := [(10, .bool ((l0.length : Int) != (l1.length : Int))), (9, .int .i64 (l1.length : Int)), (8, .slice A1 l1.length c1), (7, .int .i64 (l0.length : Int)), (6, .slice A0 l0.length c0)]) (l := []) (by kernel_rfl) trivial ?_
  refine ge_nil fun a hF => hK3 _ _ ?_ a hF
  by_cases hc1 : (l0.length : Int) = (l1.length : Int)
  · rw [if_pos hc1] at h
    refine we_known (t := 10) (b := ((l0.length : Int) != (l1.length : Int))) (v := false) (by kernel_rfl) (bne_eq_false_iff_eq.2 hc1) ?_
    refine we_false (by kernel_rfl) ?_
    refine we_skip fun a hF => hK2 _ _ ?_ a hF
    refine we_seq fun K4 hK4 => ?_
    refine we_seq fun K5 hK5 => ?_
    refine we_region [(0, 0), (1, 0), (2, 0)] rfl ?_
    refine ge_batch [0, 1, 2] (ans := []) (vs := [(13, .int .i64 0), (12, .int .i64 (l0.length : Int)), (11, .slice A0 l0.length c0)]) (l := []) (by kernel_rfl) trivial ?_
    refine ge_nil fun a hF => hK5 _ _ ?_ a hF
    refine we_block ?_
    rcases hq1 : iter (SameInt.r0 l0 l1) K 0 with _ | (_ | rr1)
    · rw [hq1] at h; cases h
    · rw [hq1] at h
      simp only [] at h
      refine we_iter (A := SameInt.A0 K w0 l0 A0 c0 l1 A1 c1 hR0 hR1 hc1) (B := SameInt.B0 K w0 l0 A0 c0 l1 A1 c1 hR0 hR1 hc1) hq1 (fun a hF => ⟨hS, hF.weaken ⟨by kernel_rfl, by kernel_rfl, by kernel_rfl, by kernel_rfl, trivial⟩⟩) (fun s o hf a w hA Q hQ => SameInt_r0 K w0 l0 A0 c0 l1 A1 c1 hR0 hR1 hc1 s o hf a w hA Q hQ) ?_
      rintro _ a w1 _ ⟨rfl, hS2, hF⟩
      replace hS2 : St w0 w1 [] := hS2
      refine hK4 [] w1 ?_ a hF
      refine we_seq fun K12 hK12 => ?_
      refine we_region [(0, 0)] rfl ?_
      refine ge_batch [0] (ans := []) (vs := [(4, .bool true)]) (l := []) (by kernel_rfl) trivial ?_
      refine ge_nil fun a hF => hK12 _ _ ?_ a hF
      obtain rfl := Option.some.inj h
      exact we_ret (post_ret (rs := [.tmp 4]) (ans := []) (vs := [.bool true]) (l := []) rfl (by kernel_rfl) trivial ⟨rfl, hS2⟩)
    · rw [hq1] at h
      simp only [] at h
      refine we_iter (A := SameInt.A0 K w0 l0 A0 c0 l1 A1 c1 hR0 hR1 hc1) (B := SameInt.B0 K w0 l0 A0 c0 l1 A1 c1 hR0 hR1 hc1) hq1 (fun a hF => ⟨hS, hF.weaken ⟨by kernel_rfl, by kernel_rfl, by kernel_rfl, by kernel_rfl, trivial⟩⟩) (fun s o hf a w hA Q hQ => SameInt_r0 K w0 l0 A0 c0 l1 A1 c1 hR0 hR1 hc1 s o hf a w hA Q hQ) ?_
      rintro _ a w1 _ ⟨rfl, hb⟩
      obtain rfl := Option.some.inj h
      exact hb
  · rw [if_neg hc1] at h
    refine we_known (t := 10) (b := ((l0.length : Int) != (l1.length : Int))) (v := true) (by kernel_rfl) (bne_iff_ne.2 hc1) ?_
    refine we_true (by kernel_rfl) ?_
    refine we_seq fun K13 hK13 => ?_
    refine we_region [(0, 0)] rfl ?_
    refine ge_batch [0] (ans := []) (vs := [(4, .bool false)]) (l := []) (by kernel_rfl) trivial ?_
    refine ge_nil fun a hF => hK13 _ _ ?_ a hF
    obtain rfl := Option.some.inj h
    exact we_ret (post_ret (rs := [.tmp 4]) (ans := []) (vs := [.bool false]) (l := []) rfl (by kernel_rfl) trivial ⟨rfl, hS⟩)

/-! punctual/punctuallaw.Names -/
abbrev Names.Post (w0 : World) (r : Bool) (e : Ending) (w : World) : Prop := e = .returned (.bool r) ∧ St w0 w []
def Names.f (K : Nat) : Option Bool :=
  match SameInt.f K ([20000, 200, 6, 1000, 1000, 2000, 20, 20000, 8, 10000, 20000, 4000, 1000000, 4, 20, 10] : List Int) ([20000, 200, 6, 1000, 1000, 2000, 20, 20000, 8, 10000, 20000, 4000, 1000000, 4, 20, 10] : List Int) with
  | none => none
  | some r1 =>
    if r1 = true then
      some true
    else
      some false
theorem Names_ok (K : Nat)  (w0 : World) (r : Bool) (h : Names.f K = some r) :
    Calls Try.prog 3 #[] w0 (Names.Post w0 r) := by
  have hS := St.start w0
  unfold Names.f at h
  refine calls_enter (n := 56) (args := []) (fn := Try.f3) rfl rfl rfl rfl ?_
  show WE _ _ _ _ [] _
  refine we_seq fun K1 hK1 => ?_
  refine we_region [(0, 0)] rfl ?_
  refine ge_batch [0] (ans := []) (vs := [(0, .bool false)]) (l := []) (by kernel_rfl) trivial ?_
  refine ge_nil fun a hF => hK1 _ _ ?_ a hF
  refine we_seq fun K2 hK2 => ?_
  refine we_region [(0, 1), (1, 0)] rfl ?_
  refine ge_new (d := some 10) (o := .cells #[.int .i64 0, .int .i64 1, .int .i64 2, .int .i64 3, .int .i64 4, .int .i64 5, .int .i64 6, .int .i64 7, .int .i64 8, .int .i64 9, .int .i64 10, .int .i64 11, .int .i64 12, .int .i64 13] 22) (v := fun b => .slice (some ⟨b, 0, none⟩) 14 14) hS (fun b => by kernel_rfl) fun b1 w1 hx1 hS1 => ?_
  refine ge_batch [1] (ans := []) (vs := [(1, .slice (some ⟨b1, 0, none⟩) 14 14)]) (l := []) (by kernel_rfl) trivial ?_
  refine ge_nil fun a hF => hK2 _ _ ?_ a hF
  refine we_seq fun K3 hK3 => ?_
  refine we_seq fun K4 hK4 => ?_
  refine we_region [(0, 0), (1, 0), (2, 0)] rfl ?_
  refine ge_batch [0, 1, 2] (ans := []) (vs := [(13, .int .i64 0), (12, .int .i64 14), (11, .slice (some ⟨b1, 0, none⟩) 14 14)]) (l := []) (by kernel_rfl) trivial ?_
  refine ge_nil fun a hF => hK4 _ _ ?_ a hF
  refine we_block ?_
  refine we_unroll 15 ?_
  refine ue_succ fun K5 hK5 => ?_
  refine we_seq fun K6 hK6 => ?_
  refine we_region [(0, 0)] rfl ?_
  refine ge_batch [0] (ans := []) (vs := [(14, .bool true)]) (l := []) (by kernel_rfl) trivial ?_
  refine ge_nil fun a hF => hK6 _ _ ?_ a hF
  refine we_seq fun K7 hK7 => ?_
  refine we_true (by kernel_rfl) ?_
  refine we_skip fun a hF => hK7 _ _ ?_ a hF
  refine we_seq fun K8 hK8 => ?_
  refine we_block ?_
  refine we_seq fun K9 hK9 => ?_
  refine we_region [(0, 0), (1, 0), (2, 0), (3, 0), (4, 0)] rfl ?_
  refine ge_batch [0, 1, 2, 3, 4] (ans := [.val (.int .i64 0)]) (vs := [(3, .int .i64 0), (2, .int .i64 0), (17, .int .i64 0), (16, .pointer (some ⟨b1, 0, none⟩)), (15, .int .i64 0)]) (l := [.loaded ⟨b1, 0, none⟩ (.int .i64 0)]) (by kernel_rfl) ⟨hS1.cell 0 rfl rfl, trivial⟩ ?_
  refine ge_nil fun a hF => hK9 _ _ ?_ a hF
  refine we_seq fun K10 hK10 => ?_
  refine we_region [(0, 0), (1, 0), (2, 0)] rfl ?_
  refine ge_batch [0, 1, 2] (ans := []) (vs := [(20, .bool false), (19, .int .i64 0), (18, .int .i64 0)]) (l := []) (by kernel_rfl) trivial ?_
  refine ge_nil fun a hF => hK10 _ _ ?_ a hF
  refine we_false (by kernel_rfl) ?_
  refine we_skip fun a hF => hK8 _ _ ?_ a hF
  refine we_region [(0, 0), (1, 0)] rfl ?_
  refine ge_batch [0, 1] (ans := []) (vs := [(13, .int .i64 1), (21, .int .i64 1)]) (l := []) (by kernel_rfl) trivial ?_
  refine ge_nil fun a hF => hK5 _ _ ?_ a hF
  refine ue_succ fun K11 hK11 => ?_
  refine we_seq fun K12 hK12 => ?_
  refine we_region [(0, 0)] rfl ?_
  refine ge_batch [0] (ans := []) (vs := [(14, .bool true)]) (l := []) (by kernel_rfl) trivial ?_
  refine ge_nil fun a hF => hK12 _ _ ?_ a hF
  refine we_seq fun K13 hK13 => ?_
  refine we_true (by kernel_rfl) ?_
  refine we_skip fun a hF => hK13 _ _ ?_ a hF
  refine we_seq fun K14 hK14 => ?_
  refine we_block ?_
  refine we_seq fun K15 hK15 => ?_
  refine we_region [(0, 0), (1, 0), (2, 0), (3, 0), (4, 0)] rfl ?_
  refine ge_batch [0, 1, 2, 3, 4] (ans := [.val (.int .i64 1)]) (vs := [(3, .int .i64 1), (2, .int .i64 1), (17, .int .i64 1), (16, .pointer (some ⟨b1, 1, none⟩)), (15, .int .i64 1)]) (l := [.loaded ⟨b1, 1, none⟩ (.int .i64 1)]) (by kernel_rfl) ⟨hS1.cell 0 rfl rfl, trivial⟩ ?_
  refine ge_nil fun a hF => hK15 _ _ ?_ a hF
  refine we_seq fun K16 hK16 => ?_
  refine we_region [(0, 0), (1, 0), (2, 0)] rfl ?_
  refine ge_batch [0, 1, 2] (ans := []) (vs := [(20, .bool false), (19, .int .i64 1), (18, .int .i64 1)]) (l := []) (by kernel_rfl) trivial ?_
  refine ge_nil fun a hF => hK16 _ _ ?_ a hF
  refine we_false (by kernel_rfl) ?_
  refine we_skip fun a hF => hK14 _ _ ?_ a hF
  refine we_region [(0, 0), (1, 0)] rfl ?_
  refine ge_batch [0, 1] (ans := []) (vs := [(13, .int .i64 2), (21, .int .i64 2)]) (l := []) (by kernel_rfl) trivial ?_
  refine ge_nil fun a hF => hK11 _ _ ?_ a hF
  refine ue_succ fun K17 hK17 => ?_
  refine we_seq fun K18 hK18 => ?_
  refine we_region [(0, 0)] rfl ?_
  refine ge_batch [0] (ans := []) (vs := [(14, .bool true)]) (l := []) (by kernel_rfl) trivial ?_
  refine ge_nil fun a hF => hK18 _ _ ?_ a hF
  refine we_seq fun K19 hK19 => ?_
  refine we_true (by kernel_rfl) ?_
  refine we_skip fun a hF => hK19 _ _ ?_ a hF
  refine we_seq fun K20 hK20 => ?_
  refine we_block ?_
  refine we_seq fun K21 hK21 => ?_
  refine we_region [(0, 0), (1, 0), (2, 0), (3, 0), (4, 0)] rfl ?_
  refine ge_batch [0, 1, 2, 3, 4] (ans := [.val (.int .i64 2)]) (vs := [(3, .int .i64 2), (2, .int .i64 2), (17, .int .i64 2), (16, .pointer (some ⟨b1, 2, none⟩)), (15, .int .i64 2)]) (l := [.loaded ⟨b1, 2, none⟩ (.int .i64 2)]) (by kernel_rfl) ⟨hS1.cell 0 rfl rfl, trivial⟩ ?_
  refine ge_nil fun a hF => hK21 _ _ ?_ a hF
  refine we_seq fun K22 hK22 => ?_
  refine we_region [(0, 0), (1, 0), (2, 0)] rfl ?_
  refine ge_batch [0, 1, 2] (ans := []) (vs := [(20, .bool false), (19, .int .i64 2), (18, .int .i64 2)]) (l := []) (by kernel_rfl) trivial ?_
  refine ge_nil fun a hF => hK22 _ _ ?_ a hF
  refine we_false (by kernel_rfl) ?_
  refine we_skip fun a hF => hK20 _ _ ?_ a hF
  refine we_region [(0, 0), (1, 0)] rfl ?_
  refine ge_batch [0, 1] (ans := []) (vs := [(13, .int .i64 3), (21, .int .i64 3)]) (l := []) (by kernel_rfl) trivial ?_
  refine ge_nil fun a hF => hK17 _ _ ?_ a hF
  refine ue_succ fun K23 hK23 => ?_
  refine we_seq fun K24 hK24 => ?_
  refine we_region [(0, 0)] rfl ?_
  refine ge_batch [0] (ans := []) (vs := [(14, .bool true)]) (l := []) (by kernel_rfl) trivial ?_
  refine ge_nil fun a hF => hK24 _ _ ?_ a hF
  refine we_seq fun K25 hK25 => ?_
  refine we_true (by kernel_rfl) ?_
  refine we_skip fun a hF => hK25 _ _ ?_ a hF
  refine we_seq fun K26 hK26 => ?_
  refine we_block ?_
  refine we_seq fun K27 hK27 => ?_
  refine we_region [(0, 0), (1, 0), (2, 0), (3, 0), (4, 0)] rfl ?_
  refine ge_batch [0, 1, 2, 3, 4] (ans := [.val (.int .i64 3)]) (vs := [(3, .int .i64 3), (2, .int .i64 3), (17, .int .i64 3), (16, .pointer (some ⟨b1, 3, none⟩)), (15, .int .i64 3)]) (l := [.loaded ⟨b1, 3, none⟩ (.int .i64 3)]) (by kernel_rfl) ⟨hS1.cell 0 rfl rfl, trivial⟩ ?_
  refine ge_nil fun a hF => hK27 _ _ ?_ a hF
  refine we_seq fun K28 hK28 => ?_
  refine we_region [(0, 0), (1, 0), (2, 0)] rfl ?_
  refine ge_batch [0, 1, 2] (ans := []) (vs := [(20, .bool false), (19, .int .i64 3), (18, .int .i64 3)]) (l := []) (by kernel_rfl) trivial ?_
  refine ge_nil fun a hF => hK28 _ _ ?_ a hF
  refine we_false (by kernel_rfl) ?_
  refine we_skip fun a hF => hK26 _ _ ?_ a hF
  refine we_region [(0, 0), (1, 0)] rfl ?_
  refine ge_batch [0, 1] (ans := []) (vs := [(13, .int .i64 4), (21, .int .i64 4)]) (l := []) (by kernel_rfl) trivial ?_
  refine ge_nil fun a hF => hK23 _ _ ?_ a hF
  refine ue_succ fun K29 hK29 => ?_
  refine we_seq fun K30 hK30 => ?_
  refine we_region [(0, 0)] rfl ?_
  refine ge_batch [0] (ans := []) (vs := [(14, .bool true)]) (l := []) (by kernel_rfl) trivial ?_
  refine ge_nil fun a hF => hK30 _ _ ?_ a hF
  refine we_seq fun K31 hK31 => ?_
  refine we_true (by kernel_rfl) ?_
  refine we_skip fun a hF => hK31 _ _ ?_ a hF
  refine we_seq fun K32 hK32 => ?_
  refine we_block ?_
  refine we_seq fun K33 hK33 => ?_
  refine we_region [(0, 0), (1, 0), (2, 0), (3, 0), (4, 0)] rfl ?_
  refine ge_batch [0, 1, 2, 3, 4] (ans := [.val (.int .i64 4)]) (vs := [(3, .int .i64 4), (2, .int .i64 4), (17, .int .i64 4), (16, .pointer (some ⟨b1, 4, none⟩)), (15, .int .i64 4)]) (l := [.loaded ⟨b1, 4, none⟩ (.int .i64 4)]) (by kernel_rfl) ⟨hS1.cell 0 rfl rfl, trivial⟩ ?_
  refine ge_nil fun a hF => hK33 _ _ ?_ a hF
  refine we_seq fun K34 hK34 => ?_
  refine we_region [(0, 0), (1, 0), (2, 0)] rfl ?_
  refine ge_batch [0, 1, 2] (ans := []) (vs := [(20, .bool false), (19, .int .i64 4), (18, .int .i64 4)]) (l := []) (by kernel_rfl) trivial ?_
  refine ge_nil fun a hF => hK34 _ _ ?_ a hF
  refine we_false (by kernel_rfl) ?_
  refine we_skip fun a hF => hK32 _ _ ?_ a hF
  refine we_region [(0, 0), (1, 0)] rfl ?_
  refine ge_batch [0, 1] (ans := []) (vs := [(13, .int .i64 5), (21, .int .i64 5)]) (l := []) (by kernel_rfl) trivial ?_
  refine ge_nil fun a hF => hK29 _ _ ?_ a hF
  refine ue_succ fun K35 hK35 => ?_
  refine we_seq fun K36 hK36 => ?_
  refine we_region [(0, 0)] rfl ?_
  refine ge_batch [0] (ans := []) (vs := [(14, .bool true)]) (l := []) (by kernel_rfl) trivial ?_
  refine ge_nil fun a hF => hK36 _ _ ?_ a hF
  refine we_seq fun K37 hK37 => ?_
  refine we_true (by kernel_rfl) ?_
  refine we_skip fun a hF => hK37 _ _ ?_ a hF
  refine we_seq fun K38 hK38 => ?_
  refine we_block ?_
  refine we_seq fun K39 hK39 => ?_
  refine we_region [(0, 0), (1, 0), (2, 0), (3, 0), (4, 0)] rfl ?_
  refine ge_batch [0, 1, 2, 3, 4] (ans := [.val (.int .i64 5)]) (vs := [(3, .int .i64 5), (2, .int .i64 5), (17, .int .i64 5), (16, .pointer (some ⟨b1, 5, none⟩)), (15, .int .i64 5)]) (l := [.loaded ⟨b1, 5, none⟩ (.int .i64 5)]) (by kernel_rfl) ⟨hS1.cell 0 rfl rfl, trivial⟩ ?_
  refine ge_nil fun a hF => hK39 _ _ ?_ a hF
  refine we_seq fun K40 hK40 => ?_
  refine we_region [(0, 0), (1, 0), (2, 0)] rfl ?_
  refine ge_batch [0, 1, 2] (ans := []) (vs := [(20, .bool false), (19, .int .i64 5), (18, .int .i64 5)]) (l := []) (by kernel_rfl) trivial ?_
  refine ge_nil fun a hF => hK40 _ _ ?_ a hF
  refine we_false (by kernel_rfl) ?_
  refine we_skip fun a hF => hK38 _ _ ?_ a hF
  refine we_region [(0, 0), (1, 0)] rfl ?_
  refine ge_batch [0, 1] (ans := []) (vs := [(13, .int .i64 6), (21, .int .i64 6)]) (l := []) (by kernel_rfl) trivial ?_
  refine ge_nil fun a hF => hK35 _ _ ?_ a hF
  refine ue_succ fun K41 hK41 => ?_
  refine we_seq fun K42 hK42 => ?_
  refine we_region [(0, 0)] rfl ?_
  refine ge_batch [0] (ans := []) (vs := [(14, .bool true)]) (l := []) (by kernel_rfl) trivial ?_
  refine ge_nil fun a hF => hK42 _ _ ?_ a hF
  refine we_seq fun K43 hK43 => ?_
  refine we_true (by kernel_rfl) ?_
  refine we_skip fun a hF => hK43 _ _ ?_ a hF
  refine we_seq fun K44 hK44 => ?_
  refine we_block ?_
  refine we_seq fun K45 hK45 => ?_
  refine we_region [(0, 0), (1, 0), (2, 0), (3, 0), (4, 0)] rfl ?_
  refine ge_batch [0, 1, 2, 3, 4] (ans := [.val (.int .i64 6)]) (vs := [(3, .int .i64 6), (2, .int .i64 6), (17, .int .i64 6), (16, .pointer (some ⟨b1, 6, none⟩)), (15, .int .i64 6)]) (l := [.loaded ⟨b1, 6, none⟩ (.int .i64 6)]) (by kernel_rfl) ⟨hS1.cell 0 rfl rfl, trivial⟩ ?_
  refine ge_nil fun a hF => hK45 _ _ ?_ a hF
  refine we_seq fun K46 hK46 => ?_
  refine we_region [(0, 0), (1, 0), (2, 0)] rfl ?_
  refine ge_batch [0, 1, 2] (ans := []) (vs := [(20, .bool false), (19, .int .i64 6), (18, .int .i64 6)]) (l := []) (by kernel_rfl) trivial ?_
  refine ge_nil fun a hF => hK46 _ _ ?_ a hF
  refine we_false (by kernel_rfl) ?_
  refine we_skip fun a hF => hK44 _ _ ?_ a hF
  refine we_region [(0, 0), (1, 0)] rfl ?_
  refine ge_batch [0, 1] (ans := []) (vs := [(13, .int .i64 7), (21, .int .i64 7)]) (l := []) (by kernel_rfl) trivial ?_
  refine ge_nil fun a hF => hK41 _ _ ?_ a hF
  refine ue_succ fun K47 hK47 => ?_
  refine we_seq fun K48 hK48 => ?_
  refine we_region [(0, 0)] rfl ?_
  refine ge_batch [0] (ans := []) (vs := [(14, .bool true)]) (l := []) (by kernel_rfl) trivial ?_
  refine ge_nil fun a hF => hK48 _ _ ?_ a hF
  refine we_seq fun K49 hK49 => ?_
  refine we_true (by kernel_rfl) ?_
  refine we_skip fun a hF => hK49 _ _ ?_ a hF
  refine we_seq fun K50 hK50 => ?_
  refine we_block ?_
  refine we_seq fun K51 hK51 => ?_
  refine we_region [(0, 0), (1, 0), (2, 0), (3, 0), (4, 0)] rfl ?_
  refine ge_batch [0, 1, 2, 3, 4] (ans := [.val (.int .i64 7)]) (vs := [(3, .int .i64 7), (2, .int .i64 7), (17, .int .i64 7), (16, .pointer (some ⟨b1, 7, none⟩)), (15, .int .i64 7)]) (l := [.loaded ⟨b1, 7, none⟩ (.int .i64 7)]) (by kernel_rfl) ⟨hS1.cell 0 rfl rfl, trivial⟩ ?_
  refine ge_nil fun a hF => hK51 _ _ ?_ a hF
  refine we_seq fun K52 hK52 => ?_
  refine we_region [(0, 0), (1, 0), (2, 0)] rfl ?_
  refine ge_batch [0, 1, 2] (ans := []) (vs := [(20, .bool false), (19, .int .i64 7), (18, .int .i64 7)]) (l := []) (by kernel_rfl) trivial ?_
  refine ge_nil fun a hF => hK52 _ _ ?_ a hF
  refine we_false (by kernel_rfl) ?_
  refine we_skip fun a hF => hK50 _ _ ?_ a hF
  refine we_region [(0, 0), (1, 0)] rfl ?_
  refine ge_batch [0, 1] (ans := []) (vs := [(13, .int .i64 8), (21, .int .i64 8)]) (l := []) (by kernel_rfl) trivial ?_
  refine ge_nil fun a hF => hK47 _ _ ?_ a hF
  refine ue_succ fun K53 hK53 => ?_
  refine we_seq fun K54 hK54 => ?_
  refine we_region [(0, 0)] rfl ?_
  refine ge_batch [0] (ans := []) (vs := [(14, .bool true)]) (l := []) (by kernel_rfl) trivial ?_
  refine ge_nil fun a hF => hK54 _ _ ?_ a hF
  refine we_seq fun K55 hK55 => ?_
  refine we_true (by kernel_rfl) ?_
  refine we_skip fun a hF => hK55 _ _ ?_ a hF
  refine we_seq fun K56 hK56 => ?_
  refine we_block ?_
  refine we_seq fun K57 hK57 => ?_
  refine we_region [(0, 0), (1, 0), (2, 0), (3, 0), (4, 0)] rfl ?_
  refine ge_batch [0, 1, 2, 3, 4] (ans := [.val (.int .i64 8)]) (vs := [(3, .int .i64 8), (2, .int .i64 8), (17, .int .i64 8), (16, .pointer (some ⟨b1, 8, none⟩)), (15, .int .i64 8)]) (l := [.loaded ⟨b1, 8, none⟩ (.int .i64 8)]) (by kernel_rfl) ⟨hS1.cell 0 rfl rfl, trivial⟩ ?_
  refine ge_nil fun a hF => hK57 _ _ ?_ a hF
  refine we_seq fun K58 hK58 => ?_
  refine we_region [(0, 0), (1, 0), (2, 0)] rfl ?_
  refine ge_batch [0, 1, 2] (ans := []) (vs := [(20, .bool false), (19, .int .i64 8), (18, .int .i64 8)]) (l := []) (by kernel_rfl) trivial ?_
  refine ge_nil fun a hF => hK58 _ _ ?_ a hF
  refine we_false (by kernel_rfl) ?_
  refine we_skip fun a hF => hK56 _ _ ?_ a hF
  refine we_region [(0, 0), (1, 0)] rfl ?_
  refine ge_batch [0, 1] (ans := []) (vs := [(13, .int .i64 9), (21, .int .i64 9)]) (l := []) (by kernel_rfl) trivial ?_
  refine ge_nil fun a hF => hK53 _ _ ?_ a hF
  refine ue_succ fun K59 hK59 => ?_
  refine we_seq fun K60 hK60 => ?_
  refine we_region [(0, 0)] rfl ?_
  refine ge_batch [0] (ans := []) (vs := [(14, .bool true)]) (l := []) (by kernel_rfl) trivial ?_
  refine ge_nil fun a hF => hK60 _ _ ?_ a hF
  refine we_seq fun K61 hK61 => ?_
  refine we_true (by kernel_rfl) ?_
  refine we_skip fun a hF => hK61 _ _ ?_ a hF
  refine we_seq fun K62 hK62 => ?_
  refine we_block ?_
  refine we_seq fun K63 hK63 => ?_
  refine we_region [(0, 0), (1, 0), (2, 0), (3, 0), (4, 0)] rfl ?_
  refine ge_batch [0, 1, 2, 3, 4] (ans := [.val (.int .i64 9)]) (vs := [(3, .int .i64 9), (2, .int .i64 9), (17, .int .i64 9), (16, .pointer (some ⟨b1, 9, none⟩)), (15, .int .i64 9)]) (l := [.loaded ⟨b1, 9, none⟩ (.int .i64 9)]) (by kernel_rfl) ⟨hS1.cell 0 rfl rfl, trivial⟩ ?_
  refine ge_nil fun a hF => hK63 _ _ ?_ a hF
  refine we_seq fun K64 hK64 => ?_
  refine we_region [(0, 0), (1, 0), (2, 0)] rfl ?_
  refine ge_batch [0, 1, 2] (ans := []) (vs := [(20, .bool false), (19, .int .i64 9), (18, .int .i64 9)]) (l := []) (by kernel_rfl) trivial ?_
  refine ge_nil fun a hF => hK64 _ _ ?_ a hF
  refine we_false (by kernel_rfl) ?_
  refine we_skip fun a hF => hK62 _ _ ?_ a hF
  refine we_region [(0, 0), (1, 0)] rfl ?_
  refine ge_batch [0, 1] (ans := []) (vs := [(13, .int .i64 10), (21, .int .i64 10)]) (l := []) (by kernel_rfl) trivial ?_
  refine ge_nil fun a hF => hK59 _ _ ?_ a hF
  refine ue_succ fun K65 hK65 => ?_
  refine we_seq fun K66 hK66 => ?_
  refine we_region [(0, 0)] rfl ?_
  refine ge_batch [0] (ans := []) (vs := [(14, .bool true)]) (l := []) (by kernel_rfl) trivial ?_
  refine ge_nil fun a hF => hK66 _ _ ?_ a hF
  refine we_seq fun K67 hK67 => ?_
  refine we_true (by kernel_rfl) ?_
  refine we_skip fun a hF => hK67 _ _ ?_ a hF
  refine we_seq fun K68 hK68 => ?_
  refine we_block ?_
  refine we_seq fun K69 hK69 => ?_
  refine we_region [(0, 0), (1, 0), (2, 0), (3, 0), (4, 0)] rfl ?_
  refine ge_batch [0, 1, 2, 3, 4] (ans := [.val (.int .i64 10)]) (vs := [(3, .int .i64 10), (2, .int .i64 10), (17, .int .i64 10), (16, .pointer (some ⟨b1, 10, none⟩)), (15, .int .i64 10)]) (l := [.loaded ⟨b1, 10, none⟩ (.int .i64 10)]) (by kernel_rfl) ⟨hS1.cell 0 rfl rfl, trivial⟩ ?_
  refine ge_nil fun a hF => hK69 _ _ ?_ a hF
  refine we_seq fun K70 hK70 => ?_
  refine we_region [(0, 0), (1, 0), (2, 0)] rfl ?_
  refine ge_batch [0, 1, 2] (ans := []) (vs := [(20, .bool false), (19, .int .i64 10), (18, .int .i64 10)]) (l := []) (by kernel_rfl) trivial ?_
  refine ge_nil fun a hF => hK70 _ _ ?_ a hF
  refine we_false (by kernel_rfl) ?_
  refine we_skip fun a hF => hK68 _ _ ?_ a hF
  refine we_region [(0, 0), (1, 0)] rfl ?_
  refine ge_batch [0, 1] (ans := []) (vs := [(13, .int .i64 11), (21, .int .i64 11)]) (l := []) (by kernel_rfl) trivial ?_
  refine ge_nil fun a hF => hK65 _ _ ?_ a hF
  refine ue_succ fun K71 hK71 => ?_
  refine we_seq fun K72 hK72 => ?_
  refine we_region [(0, 0)] rfl ?_
  refine ge_batch [0] (ans := []) (vs := [(14, .bool true)]) (l := []) (by kernel_rfl) trivial ?_
  refine ge_nil fun a hF => hK72 _ _ ?_ a hF
  refine we_seq fun K73 hK73 => ?_
  refine we_true (by kernel_rfl) ?_
  refine we_skip fun a hF => hK73 _ _ ?_ a hF
  refine we_seq fun K74 hK74 => ?_
  refine we_block ?_
  refine we_seq fun K75 hK75 => ?_
  refine we_region [(0, 0), (1, 0), (2, 0), (3, 0), (4, 0)] rfl ?_
  refine ge_batch [0, 1, 2, 3, 4] (ans := [.val (.int .i64 11)]) (vs := [(3, .int .i64 11), (2, .int .i64 11), (17, .int .i64 11), (16, .pointer (some ⟨b1, 11, none⟩)), (15, .int .i64 11)]) (l := [.loaded ⟨b1, 11, none⟩ (.int .i64 11)]) (by kernel_rfl) ⟨hS1.cell 0 rfl rfl, trivial⟩ ?_
  refine ge_nil fun a hF => hK75 _ _ ?_ a hF
  refine we_seq fun K76 hK76 => ?_
  refine we_region [(0, 0), (1, 0), (2, 0)] rfl ?_
  refine ge_batch [0, 1, 2] (ans := []) (vs := [(20, .bool false), (19, .int .i64 11), (18, .int .i64 11)]) (l := []) (by kernel_rfl) trivial ?_
  refine ge_nil fun a hF => hK76 _ _ ?_ a hF
  refine we_false (by kernel_rfl) ?_
  refine we_skip fun a hF => hK74 _ _ ?_ a hF
  refine we_region [(0, 0), (1, 0)] rfl ?_
  refine ge_batch [0, 1] (ans := []) (vs := [(13, .int .i64 12), (21, .int .i64 12)]) (l := []) (by kernel_rfl) trivial ?_
  refine ge_nil fun a hF => hK71 _ _ ?_ a hF
  refine ue_succ fun K77 hK77 => ?_
  refine we_seq fun K78 hK78 => ?_
  refine we_region [(0, 0)] rfl ?_
  refine ge_batch [0] (ans := []) (vs := [(14, .bool true)]) (l := []) (by kernel_rfl) trivial ?_
  refine ge_nil fun a hF => hK78 _ _ ?_ a hF
  refine we_seq fun K79 hK79 => ?_
  refine we_true (by kernel_rfl) ?_
  refine we_skip fun a hF => hK79 _ _ ?_ a hF
  refine we_seq fun K80 hK80 => ?_
  refine we_block ?_
  refine we_seq fun K81 hK81 => ?_
  refine we_region [(0, 0), (1, 0), (2, 0), (3, 0), (4, 0)] rfl ?_
  refine ge_batch [0, 1, 2, 3, 4] (ans := [.val (.int .i64 12)]) (vs := [(3, .int .i64 12), (2, .int .i64 12), (17, .int .i64 12), (16, .pointer (some ⟨b1, 12, none⟩)), (15, .int .i64 12)]) (l := [.loaded ⟨b1, 12, none⟩ (.int .i64 12)]) (by kernel_rfl) ⟨hS1.cell 0 rfl rfl, trivial⟩ ?_
  refine ge_nil fun a hF => hK81 _ _ ?_ a hF
  refine we_seq fun K82 hK82 => ?_
  refine we_region [(0, 0), (1, 0), (2, 0)] rfl ?_
  refine ge_batch [0, 1, 2] (ans := []) (vs := [(20, .bool false), (19, .int .i64 12), (18, .int .i64 12)]) (l := []) (by kernel_rfl) trivial ?_
  refine ge_nil fun a hF => hK82 _ _ ?_ a hF
  refine we_false (by kernel_rfl) ?_
  refine we_skip fun a hF => hK80 _ _ ?_ a hF
  refine we_region [(0, 0), (1, 0)] rfl ?_
  refine ge_batch [0, 1] (ans := []) (vs := [(13, .int .i64 13), (21, .int .i64 13)]) (l := []) (by kernel_rfl) trivial ?_
  refine ge_nil fun a hF => hK77 _ _ ?_ a hF
  refine ue_succ fun K83 hK83 => ?_
  refine we_seq fun K84 hK84 => ?_
  refine we_region [(0, 0)] rfl ?_
  refine ge_batch [0] (ans := []) (vs := [(14, .bool true)]) (l := []) (by kernel_rfl) trivial ?_
  refine ge_nil fun a hF => hK84 _ _ ?_ a hF
  refine we_seq fun K85 hK85 => ?_
  refine we_true (by kernel_rfl) ?_
  refine we_skip fun a hF => hK85 _ _ ?_ a hF
  refine we_seq fun K86 hK86 => ?_
  refine we_block ?_
  refine we_seq fun K87 hK87 => ?_
  refine we_region [(0, 0), (1, 0), (2, 0), (3, 0), (4, 0)] rfl ?_
  refine ge_batch [0, 1, 2, 3, 4] (ans := [.val (.int .i64 13)]) (vs := [(3, .int .i64 13), (2, .int .i64 13), (17, .int .i64 13), (16, .pointer (some ⟨b1, 13, none⟩)), (15, .int .i64 13)]) (l := [.loaded ⟨b1, 13, none⟩ (.int .i64 13)]) (by kernel_rfl) ⟨hS1.cell 0 rfl rfl, trivial⟩ ?_
  refine ge_nil fun a hF => hK87 _ _ ?_ a hF
  refine we_seq fun K88 hK88 => ?_
  refine we_region [(0, 0), (1, 0), (2, 0)] rfl ?_
  refine ge_batch [0, 1, 2] (ans := []) (vs := [(20, .bool false), (19, .int .i64 13), (18, .int .i64 13)]) (l := []) (by kernel_rfl) trivial ?_
  refine ge_nil fun a hF => hK88 _ _ ?_ a hF
  refine we_false (by kernel_rfl) ?_
  refine we_skip fun a hF => hK86 _ _ ?_ a hF
  refine we_region [(0, 0), (1, 0)] rfl ?_
  refine ge_batch [0, 1] (ans := []) (vs := [(13, .int .i64 14), (21, .int .i64 14)]) (l := []) (by kernel_rfl) trivial ?_
  refine ge_nil fun a hF => hK83 _ _ ?_ a hF
  refine ue_succ fun K89 hK89 => ?_
  refine we_seq fun K90 hK90 => ?_
  refine we_region [(0, 0)] rfl ?_
  refine ge_batch [0] (ans := []) (vs := [(14, .bool false)]) (l := []) (by kernel_rfl) trivial ?_
  refine ge_nil fun a hF => hK90 _ _ ?_ a hF
  refine we_seq fun K91 hK91 => ?_
  refine we_false (by kernel_rfl) ?_
  refine we_exit fun a hF => hK3 _ _ ?_ a hF
  refine we_seq fun K92 hK92 => ?_
  refine we_region [(0, 1), (1, 0)] rfl ?_
  refine ge_new (d := some 22) (o := .cells #[.int .i64 20000, .int .i64 200, .int .i64 6, .int .i64 1000, .int .i64 1000, .int .i64 2000, .int .i64 20, .int .i64 20000, .int .i64 8, .int .i64 10000, .int .i64 20000, .int .i64 4000, .int .i64 1000000, .int .i64 4, .int .i64 20, .int .i64 10] 3) (v := fun b => .slice (some ⟨b, 0, none⟩) 16 16) hS1 (fun b => by kernel_rfl) fun b2 w2 hx2 hS2 => ?_
  refine ge_batch [1] (ans := []) (vs := [(4, .slice (some ⟨b2, 0, none⟩) 16 16)]) (l := []) (by kernel_rfl) trivial ?_
  refine ge_nil fun a hF => hK92 _ _ ?_ a hF
  refine we_seq fun K93 hK93 => ?_
  refine we_seq fun K94 hK94 => ?_
  refine we_region [(0, 0), (1, 1), (2, 1), (3, 0)] rfl ?_
  refine ge_batch [0] (ans := []) (vs := [(23, .slice (some ⟨b2, 0, none⟩) 16 16)]) (l := []) (by kernel_rfl) trivial ?_
  refine ge_new (d := some 24) (o := .cells #[.int .i64 20000, .int .i64 200, .int .i64 6, .int .i64 1000, .int .i64 1000, .int .i64 2000, .int .i64 20, .int .i64 20000, .int .i64 8, .int .i64 10000, .int .i64 20000, .int .i64 4000, .int .i64 1000000, .int .i64 4, .int .i64 20, .int .i64 10] 3) (v := fun b => .slice (some ⟨b, 0, none⟩) 16 16) hS2 (fun b => by kernel_rfl) fun b3 w3 hx3 hS3 => ?_
  rcases hq1 : SameInt.f K ([20000, 200, 6, 1000, 1000, 2000, 20, 20000, 8, 10000, 20000, 4000, 1000000, 4, 20, 10] : List Int) ([20000, 200, 6, 1000, 1000, 2000, 20, 20000, 8, 10000, 20000, 4000, 1000000, 4, 20, 10] : List Int) with _ | r1
  · rw [hq1] at h; cases h
  rw [hq1] at h
  simp only [] at h
  refine ge_call (d := some 25) (f := 11) (args := #[.slice (some ⟨b2, 0, none⟩) 16 16, .slice (some ⟨b3, 0, none⟩) 16 16]) (by kernel_rfl) (SameInt_ok K ([20000, 200, 6, 1000, 1000, 2000, 20, 20000, 8, 10000, 20000, 4000, 1000000, 4, 20, 10] : List Int) (some ⟨b2, 0, none⟩) 16 ([20000, 200, 6, 1000, 1000, 2000, 20, 20000, 8, 10000, 20000, 4000, 1000000, 4, 20, 10] : List Int) (some ⟨b3, 0, none⟩) 16 _ (hS3.rdBlk 1 ([20000, 200, 6, 1000, 1000, 2000, 20, 20000, 8, 10000, 20000, 4000, 1000000, 4, 20, 10] : List Int) rfl rfl rfl) (hS3.rdBlk 0 ([20000, 200, 6, 1000, 1000, 2000, 20, 20000, 8, 10000, 20000, 4000, 1000000, 4, 20, 10] : List Int) rfl rfl rfl) _ hq1) ?_
  rintro _ w4 ⟨rfl, hS4⟩
  refine ⟨_, rfl, hS4.below, ?_⟩
  have hS5 : St w0 w4 [Own.blk b3 (.cells #[.int .i64 20000, .int .i64 200, .int .i64 6, .int .i64 1000, .int .i64 1000, .int .i64 2000, .int .i64 20, .int .i64 20000, .int .i64 8, .int .i64 10000, .int .i64 20000, .int .i64 4000, .int .i64 1000000, .int .i64 4, .int .i64 20, .int .i64 10] 3 (0, 0)), Own.blk b2 (.cells #[.int .i64 20000, .int .i64 200, .int .i64 6, .int .i64 1000, .int .i64 1000, .int .i64 2000, .int .i64 20, .int .i64 20000, .int .i64 8, .int .i64 10000, .int .i64 20000, .int .i64 4000, .int .i64 1000000, .int .i64 4, .int .i64 20, .int .i64 10] 3 (0, 0)), Own.blk b1 (.cells #[.int .i64 0, .int .i64 1, .int .i64 2, .int .i64 3, .int .i64 4, .int .i64 5, .int .i64 6, .int .i64 7, .int .i64 8, .int .i64 9, .int .i64 10, .int .i64 11, .int .i64 12, .int .i64 13] 22 (0, 0))] := hS3.call hS4
  refine ge_batch [3] (ans := []) (vs := [(26, .bool (!r1))]) (l := []) (by kernel_rfl) trivial ?_
  refine ge_nil fun a hF => hK94 _ _ ?_ a hF
  by_cases hc1 : r1 = true
  · rw [if_pos hc1] at h
    refine we_known (t := 26) (b := !r1) (v := false) (by kernel_rfl) (congrArg (fun z => !z) hc1) ?_
    refine we_false (by kernel_rfl) ?_
    refine we_skip fun a hF => hK93 _ _ ?_ a hF
    refine we_seq fun K95 hK95 => ?_
    refine we_region [(0, 1), (1, 1), (2, 1), (3, 1), (4, 1), (5, 1), (6, 1), (7, 1), (8, 1), (9, 1), (10, 0)] rfl ?_
    refine ge_new (d := some 27) (o := .cells #[.int .i64 1, .int .i64 2, .int .i64 3, .int .i64 4, .int .i64 5, .int .i64 6, .int .i64 7] 3) (v := fun b => .slice (some ⟨b, 0, none⟩) 7 7) hS5 (fun b => by kernel_rfl) fun b4 w5 hx4 hS6 => ?_
    refine ge_new (d := some 28) (o := .cells #[.int .i64 1, .int .i64 2, .int .i64 3, .int .i64 4] 3) (v := fun b => .slice (some ⟨b, 0, none⟩) 4 4) hS6 (fun b => by kernel_rfl) fun b5 w6 hx5 hS7 => ?_
    refine ge_new (d := some 29) (o := .cells #[.int .i64 1, .int .i64 2, .int .i64 3, .int .i64 4, .int .i64 5, .int .i64 6, .int .i64 7] 3) (v := fun b => .slice (some ⟨b, 0, none⟩) 7 7) hS7 (fun b => by kernel_rfl) fun b6 w7 hx6 hS8 => ?_
    refine ge_new (d := some 30) (o := .cells #[.int .i64 1, .int .i64 2, .int .i64 3, .int .i64 4, .int .i64 5, .int .i64 6, .int .i64 7, .int .i64 8, .int .i64 9, .int .i64 10, .int .i64 11, .int .i64 12, .int .i64 13, .int .i64 14, .int .i64 15, .int .i64 16, .int .i64 17, .int .i64 18] 3) (v := fun b => .slice (some ⟨b, 0, none⟩) 18 18) hS8 (fun b => by kernel_rfl) fun b7 w8 hx7 hS9 => ?_
    refine ge_new (d := some 31) (o := .cells #[.int .i64 1, .int .i64 2] 3) (v := fun b => .slice (some ⟨b, 0, none⟩) 2 2) hS9 (fun b => by kernel_rfl) fun b8 w9 hx8 hS10 => ?_
    refine ge_new (d := some 32) (o := .cells #[.int .i64 1, .int .i64 2, .int .i64 3] 3) (v := fun b => .slice (some ⟨b, 0, none⟩) 3 3) hS10 (fun b => by kernel_rfl) fun b9 w10 hx9 hS11 => ?_
    refine ge_new (d := some 33) (o := .cells #[.int .i64 1, .int .i64 2, .int .i64 3] 3) (v := fun b => .slice (some ⟨b, 0, none⟩) 3 3) hS11 (fun b => by kernel_rfl) fun b10 w11 hx10 hS12 => ?_
    refine ge_new (d := some 34) (o := .cells #[.int .i64 1, .int .i64 2, .int .i64 3] 3) (v := fun b => .slice (some ⟨b, 0, none⟩) 3 3) hS12 (fun b => by kernel_rfl) fun b11 w12 hx11 hS13 => ?_
    refine ge_new (d := some 35) (o := .cells #[.int .i64 1, .int .i64 2, .int .i64 3, .int .i64 4, .int .i64 5, .int .i64 6] 3) (v := fun b => .slice (some ⟨b, 0, none⟩) 6 6) hS13 (fun b => by kernel_rfl) fun b12 w13 hx12 hS14 => ?_
    refine ge_new (d := some 36) (o := .cells #[.slice (some ⟨b4, 0, none⟩) 7 7, .slice (some ⟨b5, 0, none⟩) 4 4, .slice (some ⟨b6, 0, none⟩) 7 7, .slice (some ⟨b7, 0, none⟩) 18 18, .slice (some ⟨b8, 0, none⟩) 2 2, .slice (some ⟨b9, 0, none⟩) 3 3, .slice (some ⟨b10, 0, none⟩) 3 3, .slice (some ⟨b11, 0, none⟩) 3 3, .slice (some ⟨b12, 0, none⟩) 6 6] 24) (v := fun b => .slice (some ⟨b, 0, none⟩) 9 9) hS14 (fun b => by kernel_rfl) fun b13 w14 hx13 hS15 => ?_
    refine ge_batch [10] (ans := []) (vs := [(5, .slice (some ⟨b13, 0, none⟩) 9 9)]) (l := []) (by kernel_rfl) trivial ?_
    refine ge_nil fun a hF => hK95 _ _ ?_ a hF
    refine we_seq fun K96 hK96 => ?_
    refine we_seq fun K97 hK97 => ?_
    refine we_region [(0, 0), (1, 0), (2, 0)] rfl ?_
    refine ge_batch [0, 1, 2] (ans := []) (vs := [(39, .int .i64 0), (38, .int .i64 9), (37, .slice (some ⟨b13, 0, none⟩) 9 9)]) (l := []) (by kernel_rfl) trivial ?_
    refine ge_nil fun a hF => hK97 _ _ ?_ a hF
    refine we_block ?_
    refine we_unroll 10 ?_
    refine ue_succ fun K98 hK98 => ?_
    refine we_seq fun K99 hK99 => ?_
    refine we_region [(0, 0)] rfl ?_
    refine ge_batch [0] (ans := []) (vs := [(40, .bool true)]) (l := []) (by kernel_rfl) trivial ?_
    refine ge_nil fun a hF => hK99 _ _ ?_ a hF
    refine we_seq fun K100 hK100 => ?_
    refine we_true (by kernel_rfl) ?_
    refine we_skip fun a hF => hK100 _ _ ?_ a hF
    refine we_seq fun K101 hK101 => ?_
    refine we_block ?_
    refine we_seq fun K102 hK102 => ?_
    refine we_region [(0, 0), (1, 0), (2, 0)] rfl ?_
    refine ge_batch [0, 1, 2] (ans := [.val (.slice (some ⟨b4, 0, none⟩) 7 7)]) (vs := [(7, .slice (some ⟨b4, 0, none⟩) 7 7), (42, .slice (some ⟨b4, 0, none⟩) 7 7), (41, .pointer (some ⟨b13, 0, none⟩))]) (l := [.loaded ⟨b13, 0, none⟩ (.slice (some ⟨b4, 0, none⟩) 7 7)]) (by kernel_rfl) ⟨hS15.cell 0 rfl rfl, trivial⟩ ?_
    refine ge_nil fun a hF => hK102 _ _ ?_ a hF
    refine we_seq fun K103 hK103 => ?_
    refine we_region [(0, 0), (1, 0), (2, 0)] rfl ?_
    refine ge_batch [0, 1, 2] (ans := []) (vs := [(45, .int .i64 0), (44, .int .i64 7), (43, .slice (some ⟨b4, 0, none⟩) 7 7)]) (l := []) (by kernel_rfl) trivial ?_
    refine ge_nil fun a hF => hK103 _ _ ?_ a hF
    refine we_block ?_
    refine we_unroll 8 ?_
    refine ue_succ fun K104 hK104 => ?_
    refine we_seq fun K105 hK105 => ?_
    refine we_region [(0, 0)] rfl ?_
    refine ge_batch [0] (ans := []) (vs := [(46, .bool true)]) (l := []) (by kernel_rfl) trivial ?_
    refine ge_nil fun a hF => hK105 _ _ ?_ a hF
    refine we_seq fun K106 hK106 => ?_
    refine we_true (by kernel_rfl) ?_
    refine we_skip fun a hF => hK106 _ _ ?_ a hF
    refine we_seq fun K107 hK107 => ?_
    refine we_block ?_
    refine we_seq fun K108 hK108 => ?_
    refine we_region [(0, 0), (1, 0), (2, 0), (3, 0), (4, 0)] rfl ?_
    refine ge_batch [0, 1, 2, 3, 4] (ans := [.val (.int .i64 1)]) (vs := [(9, .int .i64 1), (8, .int .i64 0), (49, .int .i64 1), (48, .pointer (some ⟨b4, 0, none⟩)), (47, .int .i64 0)]) (l := [.loaded ⟨b4, 0, none⟩ (.int .i64 1)]) (by kernel_rfl) ⟨hS15.cell 9 rfl rfl, trivial⟩ ?_
    refine ge_nil fun a hF => hK108 _ _ ?_ a hF
    refine we_seq fun K109 hK109 => ?_
    refine we_region [(0, 0), (1, 0), (2, 0), (3, 0)] rfl ?_
    refine ge_batch [0, 1, 2, 3] (ans := []) (vs := [(53, .bool false), (52, .int .i64 1), (51, .int .i64 0), (50, .int .i64 1)]) (l := []) (by kernel_rfl) trivial ?_
    refine ge_nil fun a hF => hK109 _ _ ?_ a hF
    refine we_false (by kernel_rfl) ?_
    refine we_skip fun a hF => hK107 _ _ ?_ a hF
    refine we_region [(0, 0), (1, 0)] rfl ?_
    refine ge_batch [0, 1] (ans := []) (vs := [(45, .int .i64 1), (54, .int .i64 1)]) (l := []) (by kernel_rfl) trivial ?_
    refine ge_nil fun a hF => hK104 _ _ ?_ a hF
    refine ue_succ fun K110 hK110 => ?_
    refine we_seq fun K111 hK111 => ?_
    refine we_region [(0, 0)] rfl ?_
    refine ge_batch [0] (ans := []) (vs := [(46, .bool true)]) (l := []) (by kernel_rfl) trivial ?_
    refine ge_nil fun a hF => hK111 _ _ ?_ a hF
    refine we_seq fun K112 hK112 => ?_
    refine we_true (by kernel_rfl) ?_
    refine we_skip fun a hF => hK112 _ _ ?_ a hF
    refine we_seq fun K113 hK113 => ?_
    refine we_block ?_
    refine we_seq fun K114 hK114 => ?_
    refine we_region [(0, 0), (1, 0), (2, 0), (3, 0), (4, 0)] rfl ?_
    refine ge_batch [0, 1, 2, 3, 4] (ans := [.val (.int .i64 2)]) (vs := [(9, .int .i64 2), (8, .int .i64 1), (49, .int .i64 2), (48, .pointer (some ⟨b4, 1, none⟩)), (47, .int .i64 1)]) (l := [.loaded ⟨b4, 1, none⟩ (.int .i64 2)]) (by kernel_rfl) ⟨hS15.cell 9 rfl rfl, trivial⟩ ?_
    refine ge_nil fun a hF => hK114 _ _ ?_ a hF
    refine we_seq fun K115 hK115 => ?_
    refine we_region [(0, 0), (1, 0), (2, 0), (3, 0)] rfl ?_
    refine ge_batch [0, 1, 2, 3] (ans := []) (vs := [(53, .bool false), (52, .int .i64 2), (51, .int .i64 1), (50, .int .i64 2)]) (l := []) (by kernel_rfl) trivial ?_
    refine ge_nil fun a hF => hK115 _ _ ?_ a hF
    refine we_false (by kernel_rfl) ?_
    refine we_skip fun a hF => hK113 _ _ ?_ a hF
    refine we_region [(0, 0), (1, 0)] rfl ?_
    refine ge_batch [0, 1] (ans := []) (vs := [(45, .int .i64 2), (54, .int .i64 2)]) (l := []) (by kernel_rfl) trivial ?_
    refine ge_nil fun a hF => hK110 _ _ ?_ a hF
    refine ue_succ fun K116 hK116 => ?_
    refine we_seq fun K117 hK117 => ?_
    refine we_region [(0, 0)] rfl ?_
    refine ge_batch [0] (ans := []) (vs := [(46, .bool true)]) (l := []) (by kernel_rfl) trivial ?_
    refine ge_nil fun a hF => hK117 _ _ ?_ a hF
    refine we_seq fun K118 hK118 => ?_
    refine we_true (by kernel_rfl) ?_
    refine we_skip fun a hF => hK118 _ _ ?_ a hF
    refine we_seq fun K119 hK119 => ?_
    refine we_block ?_
    refine we_seq fun K120 hK120 => ?_
    refine we_region [(0, 0), (1, 0), (2, 0), (3, 0), (4, 0)] rfl ?_
    refine ge_batch [0, 1, 2, 3, 4] (ans := [.val (.int .i64 3)]) (vs := [(9, .int .i64 3), (8, .int .i64 2), (49, .int .i64 3), (48, .pointer (some ⟨b4, 2, none⟩)), (47, .int .i64 2)]) (l := [.loaded ⟨b4, 2, none⟩ (.int .i64 3)]) (by kernel_rfl) ⟨hS15.cell 9 rfl rfl, trivial⟩ ?_
    refine ge_nil fun a hF => hK120 _ _ ?_ a hF
    refine we_seq fun K121 hK121 => ?_
    refine we_region [(0, 0), (1, 0), (2, 0), (3, 0)] rfl ?_
    refine ge_batch [0, 1, 2, 3] (ans := []) (vs := [(53, .bool false), (52, .int .i64 3), (51, .int .i64 2), (50, .int .i64 3)]) (l := []) (by kernel_rfl) trivial ?_
    refine ge_nil fun a hF => hK121 _ _ ?_ a hF
    refine we_false (by kernel_rfl) ?_
    refine we_skip fun a hF => hK119 _ _ ?_ a hF
    refine we_region [(0, 0), (1, 0)] rfl ?_
    refine ge_batch [0, 1] (ans := []) (vs := [(45, .int .i64 3), (54, .int .i64 3)]) (l := []) (by kernel_rfl) trivial ?_
    refine ge_nil fun a hF => hK116 _ _ ?_ a hF
    refine ue_succ fun K122 hK122 => ?_
    refine we_seq fun K123 hK123 => ?_
    refine we_region [(0, 0)] rfl ?_
    refine ge_batch [0] (ans := []) (vs := [(46, .bool true)]) (l := []) (by kernel_rfl) trivial ?_
    refine ge_nil fun a hF => hK123 _ _ ?_ a hF
    refine we_seq fun K124 hK124 => ?_
    refine we_true (by kernel_rfl) ?_
    refine we_skip fun a hF => hK124 _ _ ?_ a hF
    refine we_seq fun K125 hK125 => ?_
    refine we_block ?_
    refine we_seq fun K126 hK126 => ?_
    refine we_region [(0, 0), (1, 0), (2, 0), (3, 0), (4, 0)] rfl ?_
    refine ge_batch [0, 1, 2, 3, 4] (ans := [.val (.int .i64 4)]) (vs := [(9, .int .i64 4), (8, .int .i64 3), (49, .int .i64 4), (48, .pointer (some ⟨b4, 3, none⟩)), (47, .int .i64 3)]) (l := [.loaded ⟨b4, 3, none⟩ (.int .i64 4)]) (by kernel_rfl) ⟨hS15.cell 9 rfl rfl, trivial⟩ ?_
    refine ge_nil fun a hF => hK126 _ _ ?_ a hF
    refine we_seq fun K127 hK127 => ?_
    refine we_region [(0, 0), (1, 0), (2, 0), (3, 0)] rfl ?_
    refine ge_batch [0, 1, 2, 3] (ans := []) (vs := [(53, .bool false), (52, .int .i64 4), (51, .int .i64 3), (50, .int .i64 4)]) (l := []) (by kernel_rfl) trivial ?_
    refine ge_nil fun a hF => hK127 _ _ ?_ a hF
    refine we_false (by kernel_rfl) ?_
    refine we_skip fun a hF => hK125 _ _ ?_ a hF
    refine we_region [(0, 0), (1, 0)] rfl ?_
    refine ge_batch [0, 1] (ans := []) (vs := [(45, .int .i64 4), (54, .int .i64 4)]) (l := []) (by kernel_rfl) trivial ?_
    refine ge_nil fun a hF => hK122 _ _ ?_ a hF
    refine ue_succ fun K128 hK128 => ?_
    refine we_seq fun K129 hK129 => ?_
    refine we_region [(0, 0)] rfl ?_
    refine ge_batch [0] (ans := []) (vs := [(46, .bool true)]) (l := []) (by kernel_rfl) trivial ?_
    refine ge_nil fun a hF => hK129 _ _ ?_ a hF
    refine we_seq fun K130 hK130 => ?_
    refine we_true (by kernel_rfl) ?_
    refine we_skip fun a hF => hK130 _ _ ?_ a hF
    refine we_seq fun K131 hK131 => ?_
    refine we_block ?_
    refine we_seq fun K132 hK132 => ?_
    refine we_region [(0, 0), (1, 0), (2, 0), (3, 0), (4, 0)] rfl ?_
    refine ge_batch [0, 1, 2, 3, 4] (ans := [.val (.int .i64 5)]) (vs := [(9, .int .i64 5), (8, .int .i64 4), (49, .int .i64 5), (48, .pointer (some ⟨b4, 4, none⟩)), (47, .int .i64 4)]) (l := [.loaded ⟨b4, 4, none⟩ (.int .i64 5)]) (by kernel_rfl) ⟨hS15.cell 9 rfl rfl, trivial⟩ ?_
    refine ge_nil fun a hF => hK132 _ _ ?_ a hF
    refine we_seq fun K133 hK133 => ?_
    refine we_region [(0, 0), (1, 0), (2, 0), (3, 0)] rfl ?_
    refine ge_batch [0, 1, 2, 3] (ans := []) (vs := [(53, .bool false), (52, .int .i64 5), (51, .int .i64 4), (50, .int .i64 5)]) (l := []) (by kernel_rfl) trivial ?_
    refine ge_nil fun a hF => hK133 _ _ ?_ a hF
    refine we_false (by kernel_rfl) ?_
    refine we_skip fun a hF => hK131 _ _ ?_ a hF
    refine we_region [(0, 0), (1, 0)] rfl ?_
    refine ge_batch [0, 1] (ans := []) (vs := [(45, .int .i64 5), (54, .int .i64 5)]) (l := []) (by kernel_rfl) trivial ?_
    refine ge_nil fun a hF => hK128 _ _ ?_ a hF
    refine ue_succ fun K134 hK134 => ?_
    refine we_seq fun K135 hK135 => ?_
    refine we_region [(0, 0)] rfl ?_
    refine ge_batch [0] (ans := []) (vs := [(46, .bool true)]) (l := []) (by kernel_rfl) trivial ?_
    refine ge_nil fun a hF => hK135 _ _ ?_ a hF
    refine we_seq fun K136 hK136 => ?_
    refine we_true (by kernel_rfl) ?_
    refine we_skip fun a hF => hK136 _ _ ?_ a hF
    refine we_seq fun K137 hK137 => ?_
    refine we_block ?_
    refine we_seq fun K138 hK138 => ?_
    refine we_region [(0, 0), (1, 0), (2, 0), (3, 0), (4, 0)] rfl ?_
    refine ge_batch [0, 1, 2, 3, 4] (ans := [.val (.int .i64 6)]) (vs := [(9, .int .i64 6), (8, .int .i64 5), (49, .int .i64 6), (48, .pointer (some ⟨b4, 5, none⟩)), (47, .int .i64 5)]) (l := [.loaded ⟨b4, 5, none⟩ (.int .i64 6)]) (by kernel_rfl) ⟨hS15.cell 9 rfl rfl, trivial⟩ ?_
    refine ge_nil fun a hF => hK138 _ _ ?_ a hF
    refine we_seq fun K139 hK139 => ?_
    refine we_region [(0, 0), (1, 0), (2, 0), (3, 0)] rfl ?_
    refine ge_batch [0, 1, 2, 3] (ans := []) (vs := [(53, .bool false), (52, .int .i64 6), (51, .int .i64 5), (50, .int .i64 6)]) (l := []) (by kernel_rfl) trivial ?_
    refine ge_nil fun a hF => hK139 _ _ ?_ a hF
    refine we_false (by kernel_rfl) ?_
    refine we_skip fun a hF => hK137 _ _ ?_ a hF
    refine we_region [(0, 0), (1, 0)] rfl ?_
    refine ge_batch [0, 1] (ans := []) (vs := [(45, .int .i64 6), (54, .int .i64 6)]) (l := []) (by kernel_rfl) trivial ?_
    refine ge_nil fun a hF => hK134 _ _ ?_ a hF
    refine ue_succ fun K140 hK140 => ?_
    refine we_seq fun K141 hK141 => ?_
    refine we_region [(0, 0)] rfl ?_
    refine ge_batch [0] (ans := []) (vs := [(46, .bool true)]) (l := []) (by kernel_rfl) trivial ?_
    refine ge_nil fun a hF => hK141 _ _ ?_ a hF
    refine we_seq fun K142 hK142 => ?_
    refine we_true (by kernel_rfl) ?_
    refine we_skip fun a hF => hK142 _ _ ?_ a hF
    refine we_seq fun K143 hK143 => ?_
    refine we_block ?_
    refine we_seq fun K144 hK144 => ?_
    refine we_region [(0, 0), (1, 0), (2, 0), (3, 0), (4, 0)] rfl ?_
    refine ge_batch [0, 1, 2, 3, 4] (ans := [.val (.int .i64 7)]) (vs := [(9, .int .i64 7), (8, .int .i64 6), (49, .int .i64 7), (48, .pointer (some ⟨b4, 6, none⟩)), (47, .int .i64 6)]) (l := [.loaded ⟨b4, 6, none⟩ (.int .i64 7)]) (by kernel_rfl) ⟨hS15.cell 9 rfl rfl, trivial⟩ ?_
    refine ge_nil fun a hF => hK144 _ _ ?_ a hF
    refine we_seq fun K145 hK145 => ?_
    refine we_region [(0, 0), (1, 0), (2, 0), (3, 0)] rfl ?_
    refine ge_batch [0, 1, 2, 3] (ans := []) (vs := [(53, .bool false), (52, .int .i64 7), (51, .int .i64 6), (50, .int .i64 7)]) (l := []) (by kernel_rfl) trivial ?_
    refine ge_nil fun a hF => hK145 _ _ ?_ a hF
    refine we_false (by kernel_rfl) ?_
    refine we_skip fun a hF => hK143 _ _ ?_ a hF
    refine we_region [(0, 0), (1, 0)] rfl ?_
    refine ge_batch [0, 1] (ans := []) (vs := [(45, .int .i64 7), (54, .int .i64 7)]) (l := []) (by kernel_rfl) trivial ?_
    refine ge_nil fun a hF => hK140 _ _ ?_ a hF
    refine ue_succ fun K146 hK146 => ?_
    refine we_seq fun K147 hK147 => ?_
    refine we_region [(0, 0)] rfl ?_
    refine ge_batch [0] (ans := []) (vs := [(46, .bool false)]) (l := []) (by kernel_rfl) trivial ?_
    refine ge_nil fun a hF => hK147 _ _ ?_ a hF
    refine we_seq fun K148 hK148 => ?_
    refine we_false (by kernel_rfl) ?_
    refine we_exit fun a hF => hK101 _ _ ?_ a hF
    refine we_region [(0, 0), (1, 0)] rfl ?_
    refine ge_batch [0, 1] (ans := []) (vs := [(39, .int .i64 1), (55, .int .i64 1)]) (l := []) (by kernel_rfl) trivial ?_
    refine ge_nil fun a hF => hK98 _ _ ?_ a hF
    refine ue_succ fun K149 hK149 => ?_
    refine we_seq fun K150 hK150 => ?_
    refine we_region [(0, 0)] rfl ?_
    refine ge_batch [0] (ans := []) (vs := [(40, .bool true)]) (l := []) (by kernel_rfl) trivial ?_
    refine ge_nil fun a hF => hK150 _ _ ?_ a hF
    refine we_seq fun K151 hK151 => ?_
    refine we_true (by kernel_rfl) ?_
    refine we_skip fun a hF => hK151 _ _ ?_ a hF
    refine we_seq fun K152 hK152 => ?_
    refine we_block ?_
    refine we_seq fun K153 hK153 => ?_
    refine we_region [(0, 0), (1, 0), (2, 0)] rfl ?_
    refine ge_batch [0, 1, 2] (ans := [.val (.slice (some ⟨b5, 0, none⟩) 4 4)]) (vs := [(7, .slice (some ⟨b5, 0, none⟩) 4 4), (42, .slice (some ⟨b5, 0, none⟩) 4 4), (41, .pointer (some ⟨b13, 1, none⟩))]) (l := [.loaded ⟨b13, 1, none⟩ (.slice (some ⟨b5, 0, none⟩) 4 4)]) (by kernel_rfl) ⟨hS15.cell 0 rfl rfl, trivial⟩ ?_
    refine ge_nil fun a hF => hK153 _ _ ?_ a hF
    refine we_seq fun K154 hK154 => ?_
    refine we_region [(0, 0), (1, 0), (2, 0)] rfl ?_
    refine ge_batch [0, 1, 2] (ans := []) (vs := [(45, .int .i64 0), (44, .int .i64 4), (43, .slice (some ⟨b5, 0, none⟩) 4 4)]) (l := []) (by kernel_rfl) trivial ?_
    refine ge_nil fun a hF => hK154 _ _ ?_ a hF
    refine we_block ?_
    refine we_unroll 5 ?_
    refine ue_succ fun K155 hK155 => ?_
    refine we_seq fun K156 hK156 => ?_
    refine we_region [(0, 0)] rfl ?_
    refine ge_batch [0] (ans := []) (vs := [(46, .bool true)]) (l := []) (by kernel_rfl) trivial ?_
    refine ge_nil fun a hF => hK156 _ _ ?_ a hF
    refine we_seq fun K157 hK157 => ?_
    refine we_true (by kernel_rfl) ?_
    refine we_skip fun a hF => hK157 _ _ ?_ a hF
    refine we_seq fun K158 hK158 => ?_
    refine we_block ?_
    refine we_seq fun K159 hK159 => ?_
    refine we_region [(0, 0), (1, 0), (2, 0), (3, 0), (4, 0)] rfl ?_
    refine ge_batch [0, 1, 2, 3, 4] (ans := [.val (.int .i64 1)]) (vs := [(9, .int .i64 1), (8, .int .i64 0), (49, .int .i64 1), (48, .pointer (some ⟨b5, 0, none⟩)), (47, .int .i64 0)]) (l := [.loaded ⟨b5, 0, none⟩ (.int .i64 1)]) (by kernel_rfl) ⟨hS15.cell 8 rfl rfl, trivial⟩ ?_
    refine ge_nil fun a hF => hK159 _ _ ?_ a hF
    refine we_seq fun K160 hK160 => ?_
    refine we_region [(0, 0), (1, 0), (2, 0), (3, 0)] rfl ?_
    refine ge_batch [0, 1, 2, 3] (ans := []) (vs := [(53, .bool false), (52, .int .i64 1), (51, .int .i64 0), (50, .int .i64 1)]) (l := []) (by kernel_rfl) trivial ?_
    refine ge_nil fun a hF => hK160 _ _ ?_ a hF
    refine we_false (by kernel_rfl) ?_
    refine we_skip fun a hF => hK158 _ _ ?_ a hF
    refine we_region [(0, 0), (1, 0)] rfl ?_
    refine ge_batch [0, 1] (ans := []) (vs := [(45, .int .i64 1), (54, .int .i64 1)]) (l := []) (by kernel_rfl) trivial ?_
    refine ge_nil fun a hF => hK155 _ _ ?_ a hF
    refine ue_succ fun K161 hK161 => ?_
    refine we_seq fun K162 hK162 => ?_
    refine we_region [(0, 0)] rfl ?_
    refine ge_batch [0] (ans := []) (vs := [(46, .bool true)]) (l := []) (by kernel_rfl) trivial ?_
    refine ge_nil fun a hF => hK162 _ _ ?_ a hF
    refine we_seq fun K163 hK163 => ?_
    refine we_true (by kernel_rfl) ?_
    refine we_skip fun a hF => hK163 _ _ ?_ a hF
    refine we_seq fun K164 hK164 => ?_
    refine we_block ?_
    refine we_seq fun K165 hK165 => ?_
    refine we_region [(0, 0), (1, 0), (2, 0), (3, 0), (4, 0)] rfl ?_
    refine ge_batch [0, 1, 2, 3, 4] (ans := [.val (.int .i64 2)]) (vs := [(9, .int .i64 2), (8, .int .i64 1), (49, .int .i64 2), (48, .pointer (some ⟨b5, 1, none⟩)), (47, .int .i64 1)]) (l := [.loaded ⟨b5, 1, none⟩ (.int .i64 2)]) (by kernel_rfl) ⟨hS15.cell 8 rfl rfl, trivial⟩ ?_
    refine ge_nil fun a hF => hK165 _ _ ?_ a hF
    refine we_seq fun K166 hK166 => ?_
    refine we_region [(0, 0), (1, 0), (2, 0), (3, 0)] rfl ?_
    refine ge_batch [0, 1, 2, 3] (ans := []) (vs := [(53, .bool false), (52, .int .i64 2), (51, .int .i64 1), (50, .int .i64 2)]) (l := []) (by kernel_rfl) trivial ?_
    refine ge_nil fun a hF => hK166 _ _ ?_ a hF
    refine we_false (by kernel_rfl) ?_
    refine we_skip fun a hF => hK164 _ _ ?_ a hF
    refine we_region [(0, 0), (1, 0)] rfl ?_
    refine ge_batch [0, 1] (ans := []) (vs := [(45, .int .i64 2), (54, .int .i64 2)]) (l := []) (by kernel_rfl) trivial ?_
    refine ge_nil fun a hF => hK161 _ _ ?_ a hF
    refine ue_succ fun K167 hK167 => ?_
    refine we_seq fun K168 hK168 => ?_
    refine we_region [(0, 0)] rfl ?_
    refine ge_batch [0] (ans := []) (vs := [(46, .bool true)]) (l := []) (by kernel_rfl) trivial ?_
    refine ge_nil fun a hF => hK168 _ _ ?_ a hF
    refine we_seq fun K169 hK169 => ?_
    refine we_true (by kernel_rfl) ?_
    refine we_skip fun a hF => hK169 _ _ ?_ a hF
    refine we_seq fun K170 hK170 => ?_
    refine we_block ?_
    refine we_seq fun K171 hK171 => ?_
    refine we_region [(0, 0), (1, 0), (2, 0), (3, 0), (4, 0)] rfl ?_
    refine ge_batch [0, 1, 2, 3, 4] (ans := [.val (.int .i64 3)]) (vs := [(9, .int .i64 3), (8, .int .i64 2), (49, .int .i64 3), (48, .pointer (some ⟨b5, 2, none⟩)), (47, .int .i64 2)]) (l := [.loaded ⟨b5, 2, none⟩ (.int .i64 3)]) (by kernel_rfl) ⟨hS15.cell 8 rfl rfl, trivial⟩ ?_
    refine ge_nil fun a hF => hK171 _ _ ?_ a hF
    refine we_seq fun K172 hK172 => ?_
    refine we_region [(0, 0), (1, 0), (2, 0), (3, 0)] rfl ?_
    refine ge_batch [0, 1, 2, 3] (ans := []) (vs := [(53, .bool false), (52, .int .i64 3), (51, .int .i64 2), (50, .int .i64 3)]) (l := []) (by kernel_rfl) trivial ?_
    refine ge_nil fun a hF => hK172 _ _ ?_ a hF
    refine we_false (by kernel_rfl) ?_
    refine we_skip fun a hF => hK170 _ _ ?_ a hF
    refine we_region [(0, 0), (1, 0)] rfl ?_
    refine ge_batch [0, 1] (ans := []) (vs := [(45, .int .i64 3), (54, .int .i64 3)]) (l := []) (by kernel_rfl) trivial ?_
    refine ge_nil fun a hF => hK167 _ _ ?_ a hF
    refine ue_succ fun K173 hK173 => ?_
    refine we_seq fun K174 hK174 => ?_
    refine we_region [(0, 0)] rfl ?_
    refine ge_batch [0] (ans := []) (vs := [(46, .bool true)]) (l := []) (by kernel_rfl) trivial ?_
    refine ge_nil fun a hF => hK174 _ _ ?_ a hF
    refine we_seq fun K175 hK175 => ?_
    refine we_true (by kernel_rfl) ?_
    refine we_skip fun a hF => hK175 _ _ ?_ a hF
    refine we_seq fun K176 hK176 => ?_
    refine we_block ?_
    refine we_seq fun K177 hK177 => ?_
    refine we_region [(0, 0), (1, 0), (2, 0), (3, 0), (4, 0)] rfl ?_
    refine ge_batch [0, 1, 2, 3, 4] (ans := [.val (.int .i64 4)]) (vs := [(9, .int .i64 4), (8, .int .i64 3), (49, .int .i64 4), (48, .pointer (some ⟨b5, 3, none⟩)), (47, .int .i64 3)]) (l := [.loaded ⟨b5, 3, none⟩ (.int .i64 4)]) (by kernel_rfl) ⟨hS15.cell 8 rfl rfl, trivial⟩ ?_
    refine ge_nil fun a hF => hK177 _ _ ?_ a hF
    refine we_seq fun K178 hK178 => ?_
    refine we_region [(0, 0), (1, 0), (2, 0), (3, 0)] rfl ?_
    refine ge_batch [0, 1, 2, 3] (ans := []) (vs := [(53, .bool false), (52, .int .i64 4), (51, .int .i64 3), (50, .int .i64 4)]) (l := []) (by kernel_rfl) trivial ?_
    refine ge_nil fun a hF => hK178 _ _ ?_ a hF
    refine we_false (by kernel_rfl) ?_
    refine we_skip fun a hF => hK176 _ _ ?_ a hF
    refine we_region [(0, 0), (1, 0)] rfl ?_
    refine ge_batch [0, 1] (ans := []) (vs := [(45, .int .i64 4), (54, .int .i64 4)]) (l := []) (by kernel_rfl) trivial ?_
    refine ge_nil fun a hF => hK173 _ _ ?_ a hF
    refine ue_succ fun K179 hK179 => ?_
    refine we_seq fun K180 hK180 => ?_
    refine we_region [(0, 0)] rfl ?_
    refine ge_batch [0] (ans := []) (vs := [(46, .bool false)]) (l := []) (by kernel_rfl) trivial ?_
    refine ge_nil fun a hF => hK180 _ _ ?_ a hF
    refine we_seq fun K181 hK181 => ?_
    refine we_false (by kernel_rfl) ?_
    refine we_exit fun a hF => hK152 _ _ ?_ a hF
    refine we_region [(0, 0), (1, 0)] rfl ?_
    refine ge_batch [0, 1] (ans := []) (vs := [(39, .int .i64 2), (55, .int .i64 2)]) (l := []) (by kernel_rfl) trivial ?_
    refine ge_nil fun a hF => hK149 _ _ ?_ a hF
    refine ue_succ fun K182 hK182 => ?_
    refine we_seq fun K183 hK183 => ?_
    refine we_region [(0, 0)] rfl ?_
    refine ge_batch [0] (ans := []) (vs := [(40, .bool true)]) (l := []) (by kernel_rfl) trivial ?_
    refine ge_nil fun a hF => hK183 _ _ ?_ a hF
    refine we_seq fun K184 hK184 => ?_
    refine we_true (by kernel_rfl) ?_
    refine we_skip fun a hF => hK184 _ _ ?_ a hF
    refine we_seq fun K185 hK185 => ?_
    refine we_block ?_
    refine we_seq fun K186 hK186 => ?_
    refine we_region [(0, 0), (1, 0), (2, 0)] rfl ?_
    refine ge_batch [0, 1, 2] (ans := [.val (.slice (some ⟨b6, 0, none⟩) 7 7)]) (vs := [(7, .slice (some ⟨b6, 0, none⟩) 7 7), (42, .slice (some ⟨b6, 0, none⟩) 7 7), (41, .pointer (some ⟨b13, 2, none⟩))]) (l := [.loaded ⟨b13, 2, none⟩ (.slice (some ⟨b6, 0, none⟩) 7 7)]) (by kernel_rfl) ⟨hS15.cell 0 rfl rfl, trivial⟩ ?_
    refine ge_nil fun a hF => hK186 _ _ ?_ a hF
    refine we_seq fun K187 hK187 => ?_
    refine we_region [(0, 0), (1, 0), (2, 0)] rfl ?_
    refine ge_batch [0, 1, 2] (ans := []) (vs := [(45, .int .i64 0), (44, .int .i64 7), (43, .slice (some ⟨b6, 0, none⟩) 7 7)]) (l := []) (by kernel_rfl) trivial ?_
    refine ge_nil fun a hF => hK187 _ _ ?_ a hF
    refine we_block ?_
    refine we_unroll 8 ?_
    refine ue_succ fun K188 hK188 => ?_
    refine we_seq fun K189 hK189 => ?_
    refine we_region [(0, 0)] rfl ?_
    refine ge_batch [0] (ans := []) (vs := [(46, .bool true)]) (l := []) (by kernel_rfl) trivial ?_
    refine ge_nil fun a hF => hK189 _ _ ?_ a hF
    refine we_seq fun K190 hK190 => ?_
    refine we_true (by kernel_rfl) ?_
    refine we_skip fun a hF => hK190 _ _ ?_ a hF
    refine we_seq fun K191 hK191 => ?_
    refine we_block ?_
    refine we_seq fun K192 hK192 => ?_
    refine we_region [(0, 0), (1, 0), (2, 0), (3, 0), (4, 0)] rfl ?_
    refine ge_batch [0, 1, 2, 3, 4] (ans := [.val (.int .i64 1)]) (vs := [(9, .int .i64 1), (8, .int .i64 0), (49, .int .i64 1), (48, .pointer (some ⟨b6, 0, none⟩)), (47, .int .i64 0)]) (l := [.loaded ⟨b6, 0, none⟩ (.int .i64 1)]) (by kernel_rfl) ⟨hS15.cell 7 rfl rfl, trivial⟩ ?_
    refine ge_nil fun a hF => hK192 _ _ ?_ a hF
    refine we_seq fun K193 hK193 => ?_
    refine we_region [(0, 0), (1, 0), (2, 0), (3, 0)] rfl ?_
    refine ge_batch [0, 1, 2, 3] (ans := []) (vs := [(53, .bool false), (52, .int .i64 1), (51, .int .i64 0), (50, .int .i64 1)]) (l := []) (by kernel_rfl) trivial ?_
    refine ge_nil fun a hF => hK193 _ _ ?_ a hF
    refine we_false (by kernel_rfl) ?_
    refine we_skip fun a hF => hK191 _ _ ?_ a hF
    refine we_region [(0, 0), (1, 0)] rfl ?_
    refine ge_batch [0, 1] (ans := []) (vs := [(45, .int .i64 1), (54, .int .i64 1)]) (l := []) (by kernel_rfl) trivial ?_
    refine ge_nil fun a hF => hK188 _ _ ?_ a hF
    refine ue_succ fun K194 hK194 => ?_
    refine we_seq fun K195 hK195 => ?_
    refine we_region [(0, 0)] rfl ?_
    refine ge_batch [0] (ans := []) (vs := [(46, .bool true)]) (l := []) (by kernel_rfl) trivial ?_
    refine ge_nil fun a hF => hK195 _ _ ?_ a hF
    refine we_seq fun K196 hK196 => ?_
    refine we_true (by kernel_rfl) ?_
    refine we_skip fun a hF => hK196 _ _ ?_ a hF
    refine we_seq fun K197 hK197 => ?_
    refine we_block ?_
    refine we_seq fun K198 hK198 => ?_
    refine we_region [(0, 0), (1, 0), (2, 0), (3, 0), (4, 0)] rfl ?_
    refine ge_batch [0, 1, 2, 3, 4] (ans := [.val (.int .i64 2)]) (vs := [(9, .int .i64 2), (8, .int .i64 1), (49, .int .i64 2), (48, .pointer (some ⟨b6, 1, none⟩)), (47, .int .i64 1)]) (l := [.loaded ⟨b6, 1, none⟩ (.int .i64 2)]) (by kernel_rfl) ⟨hS15.cell 7 rfl rfl, trivial⟩ ?_
    refine ge_nil fun a hF => hK198 _ _ ?_ a hF
    refine we_seq fun K199 hK199 => ?_
    refine we_region [(0, 0), (1, 0), (2, 0), (3, 0)] rfl ?_
    refine ge_batch [0, 1, 2, 3] (ans := []) (vs := [(53, .bool false), (52, .int .i64 2), (51, .int .i64 1), (50, .int .i64 2)]) (l := []) (by kernel_rfl) trivial ?_
    refine ge_nil fun a hF => hK199 _ _ ?_ a hF
    refine we_false (by kernel_rfl) ?_
    refine we_skip fun a hF => hK197 _ _ ?_ a hF
    refine we_region [(0, 0), (1, 0)] rfl ?_
    refine ge_batch [0, 1] (ans := []) (vs := [(45, .int .i64 2), (54, .int .i64 2)]) (l := []) (by kernel_rfl) trivial ?_
    refine ge_nil fun a hF => hK194 _ _ ?_ a hF
    refine ue_succ fun K200 hK200 => ?_
    refine we_seq fun K201 hK201 => ?_
    refine we_region [(0, 0)] rfl ?_
    refine ge_batch [0] (ans := []) (vs := [(46, .bool true)]) (l := []) (by kernel_rfl) trivial ?_
    refine ge_nil fun a hF => hK201 _ _ ?_ a hF
    refine we_seq fun K202 hK202 => ?_
    refine we_true (by kernel_rfl) ?_
    refine we_skip fun a hF => hK202 _ _ ?_ a hF
    refine we_seq fun K203 hK203 => ?_
    refine we_block ?_
    refine we_seq fun K204 hK204 => ?_
    refine we_region [(0, 0), (1, 0), (2, 0), (3, 0), (4, 0)] rfl ?_
    refine ge_batch [0, 1, 2, 3, 4] (ans := [.val (.int .i64 3)]) (vs := [(9, .int .i64 3), (8, .int .i64 2), (49, .int .i64 3), (48, .pointer (some ⟨b6, 2, none⟩)), (47, .int .i64 2)]) (l := [.loaded ⟨b6, 2, none⟩ (.int .i64 3)]) (by kernel_rfl) ⟨hS15.cell 7 rfl rfl, trivial⟩ ?_
    refine ge_nil fun a hF => hK204 _ _ ?_ a hF
    refine we_seq fun K205 hK205 => ?_
    refine we_region [(0, 0), (1, 0), (2, 0), (3, 0)] rfl ?_
    refine ge_batch [0, 1, 2, 3] (ans := []) (vs := [(53, .bool false), (52, .int .i64 3), (51, .int .i64 2), (50, .int .i64 3)]) (l := []) (by kernel_rfl) trivial ?_
    refine ge_nil fun a hF => hK205 _ _ ?_ a hF
    refine we_false (by kernel_rfl) ?_
    refine we_skip fun a hF => hK203 _ _ ?_ a hF
    refine we_region [(0, 0), (1, 0)] rfl ?_
    refine ge_batch [0, 1] (ans := []) (vs := [(45, .int .i64 3), (54, .int .i64 3)]) (l := []) (by kernel_rfl) trivial ?_
    refine ge_nil fun a hF => hK200 _ _ ?_ a hF
    refine ue_succ fun K206 hK206 => ?_
    refine we_seq fun K207 hK207 => ?_
    refine we_region [(0, 0)] rfl ?_
    refine ge_batch [0] (ans := []) (vs := [(46, .bool true)]) (l := []) (by kernel_rfl) trivial ?_
    refine ge_nil fun a hF => hK207 _ _ ?_ a hF
    refine we_seq fun K208 hK208 => ?_
    refine we_true (by kernel_rfl) ?_
    refine we_skip fun a hF => hK208 _ _ ?_ a hF
    refine we_seq fun K209 hK209 => ?_
    refine we_block ?_
    refine we_seq fun K210 hK210 => ?_
    refine we_region [(0, 0), (1, 0), (2, 0), (3, 0), (4, 0)] rfl ?_
    refine ge_batch [0, 1, 2, 3, 4] (ans := [.val (.int .i64 4)]) (vs := [(9, .int .i64 4), (8, .int .i64 3), (49, .int .i64 4), (48, .pointer (some ⟨b6, 3, none⟩)), (47, .int .i64 3)]) (l := [.loaded ⟨b6, 3, none⟩ (.int .i64 4)]) (by kernel_rfl) ⟨hS15.cell 7 rfl rfl, trivial⟩ ?_
    refine ge_nil fun a hF => hK210 _ _ ?_ a hF
    refine we_seq fun K211 hK211 => ?_
    refine we_region [(0, 0), (1, 0), (2, 0), (3, 0)] rfl ?_
    refine ge_batch [0, 1, 2, 3] (ans := []) (vs := [(53, .bool false), (52, .int .i64 4), (51, .int .i64 3), (50, .int .i64 4)]) (l := []) (by kernel_rfl) trivial ?_
    refine ge_nil fun a hF => hK211 _ _ ?_ a hF
    refine we_false (by kernel_rfl) ?_
    refine we_skip fun a hF => hK209 _ _ ?_ a hF
    refine we_region [(0, 0), (1, 0)] rfl ?_
    refine ge_batch [0, 1] (ans := []) (vs := [(45, .int .i64 4), (54, .int .i64 4)]) (l := []) (by kernel_rfl) trivial ?_
    refine ge_nil fun a hF => hK206 _ _ ?_ a hF
    refine ue_succ fun K212 hK212 => ?_
    refine we_seq fun K213 hK213 => ?_
    refine we_region [(0, 0)] rfl ?_
    refine ge_batch [0] (ans := []) (vs := [(46, .bool true)]) (l := []) (by kernel_rfl) trivial ?_
    refine ge_nil fun a hF => hK213 _ _ ?_ a hF
    refine we_seq fun K214 hK214 => ?_
    refine we_true (by kernel_rfl) ?_
    refine we_skip fun a hF => hK214 _ _ ?_ a hF
    refine we_seq fun K215 hK215 => ?_
    refine we_block ?_
    refine we_seq fun K216 hK216 => ?_
    refine we_region [(0, 0), (1, 0), (2, 0), (3, 0), (4, 0)] rfl ?_
    refine ge_batch [0, 1, 2, 3, 4] (ans := [.val (.int .i64 5)]) (vs := [(9, .int .i64 5), (8, .int .i64 4), (49, .int .i64 5), (48, .pointer (some ⟨b6, 4, none⟩)), (47, .int .i64 4)]) (l := [.loaded ⟨b6, 4, none⟩ (.int .i64 5)]) (by kernel_rfl) ⟨hS15.cell 7 rfl rfl, trivial⟩ ?_
    refine ge_nil fun a hF => hK216 _ _ ?_ a hF
    refine we_seq fun K217 hK217 => ?_
    refine we_region [(0, 0), (1, 0), (2, 0), (3, 0)] rfl ?_
    refine ge_batch [0, 1, 2, 3] (ans := []) (vs := [(53, .bool false), (52, .int .i64 5), (51, .int .i64 4), (50, .int .i64 5)]) (l := []) (by kernel_rfl) trivial ?_
    refine ge_nil fun a hF => hK217 _ _ ?_ a hF
    refine we_false (by kernel_rfl) ?_
    refine we_skip fun a hF => hK215 _ _ ?_ a hF
    refine we_region [(0, 0), (1, 0)] rfl ?_
    refine ge_batch [0, 1] (ans := []) (vs := [(45, .int .i64 5), (54, .int .i64 5)]) (l := []) (by kernel_rfl) trivial ?_
    refine ge_nil fun a hF => hK212 _ _ ?_ a hF
    refine ue_succ fun K218 hK218 => ?_
    refine we_seq fun K219 hK219 => ?_
    refine we_region [(0, 0)] rfl ?_
    refine ge_batch [0] (ans := []) (vs := [(46, .bool true)]) (l := []) (by kernel_rfl) trivial ?_
    refine ge_nil fun a hF => hK219 _ _ ?_ a hF
    refine we_seq fun K220 hK220 => ?_
    refine we_true (by kernel_rfl) ?_
    refine we_skip fun a hF => hK220 _ _ ?_ a hF
    refine we_seq fun K221 hK221 => ?_
    refine we_block ?_
    refine we_seq fun K222 hK222 => ?_
    refine we_region [(0, 0), (1, 0), (2, 0), (3, 0), (4, 0)] rfl ?_
    refine ge_batch [0, 1, 2, 3, 4] (ans := [.val (.int .i64 6)]) (vs := [(9, .int .i64 6), (8, .int .i64 5), (49, .int .i64 6), (48, .pointer (some ⟨b6, 5, none⟩)), (47, .int .i64 5)]) (l := [.loaded ⟨b6, 5, none⟩ (.int .i64 6)]) (by kernel_rfl) ⟨hS15.cell 7 rfl rfl, trivial⟩ ?_
    refine ge_nil fun a hF => hK222 _ _ ?_ a hF
    refine we_seq fun K223 hK223 => ?_
    refine we_region [(0, 0), (1, 0), (2, 0), (3, 0)] rfl ?_
    refine ge_batch [0, 1, 2, 3] (ans := []) (vs := [(53, .bool false), (52, .int .i64 6), (51, .int .i64 5), (50, .int .i64 6)]) (l := []) (by kernel_rfl) trivial ?_
    refine ge_nil fun a hF => hK223 _ _ ?_ a hF
    refine we_false (by kernel_rfl) ?_
    refine we_skip fun a hF => hK221 _ _ ?_ a hF
    refine we_region [(0, 0), (1, 0)] rfl ?_
    refine ge_batch [0, 1] (ans := []) (vs := [(45, .int .i64 6), (54, .int .i64 6)]) (l := []) (by kernel_rfl) trivial ?_
    refine ge_nil fun a hF => hK218 _ _ ?_ a hF
    refine ue_succ fun K224 hK224 => ?_
    refine we_seq fun K225 hK225 => ?_
    refine we_region [(0, 0)] rfl ?_
    refine ge_batch [0] (ans := []) (vs := [(46, .bool true)]) (l := []) (by kernel_rfl) trivial ?_
    refine ge_nil fun a hF => hK225 _ _ ?_ a hF
    refine we_seq fun K226 hK226 => ?_
    refine we_true (by kernel_rfl) ?_
    refine we_skip fun a hF => hK226 _ _ ?_ a hF
    refine we_seq fun K227 hK227 => ?_
    refine we_block ?_
    refine we_seq fun K228 hK228 => ?_
    refine we_region [(0, 0), (1, 0), (2, 0), (3, 0), (4, 0)] rfl ?_
    refine ge_batch [0, 1, 2, 3, 4] (ans := [.val (.int .i64 7)]) (vs := [(9, .int .i64 7), (8, .int .i64 6), (49, .int .i64 7), (48, .pointer (some ⟨b6, 6, none⟩)), (47, .int .i64 6)]) (l := [.loaded ⟨b6, 6, none⟩ (.int .i64 7)]) (by kernel_rfl) ⟨hS15.cell 7 rfl rfl, trivial⟩ ?_
    refine ge_nil fun a hF => hK228 _ _ ?_ a hF
    refine we_seq fun K229 hK229 => ?_
    refine we_region [(0, 0), (1, 0), (2, 0), (3, 0)] rfl ?_
    refine ge_batch [0, 1, 2, 3] (ans := []) (vs := [(53, .bool false), (52, .int .i64 7), (51, .int .i64 6), (50, .int .i64 7)]) (l := []) (by kernel_rfl) trivial ?_
    refine ge_nil fun a hF => hK229 _ _ ?_ a hF
    refine we_false (by kernel_rfl) ?_
    refine we_skip fun a hF => hK227 _ _ ?_ a hF
    refine we_region [(0, 0), (1, 0)] rfl ?_
    refine ge_batch [0, 1] (ans := []) (vs := [(45, .int .i64 7), (54, .int .i64 7)]) (l := []) (by kernel_rfl) trivial ?_
    refine ge_nil fun a hF => hK224 _ _ ?_ a hF
    refine ue_succ fun K230 hK230 => ?_
    refine we_seq fun K231 hK231 => ?_
    refine we_region [(0, 0)] rfl ?_
    refine ge_batch [0] (ans := []) (vs := [(46, .bool false)]) (l := []) (by kernel_rfl) trivial ?_
    refine ge_nil fun a hF => hK231 _ _ ?_ a hF
    refine we_seq fun K232 hK232 => ?_
    refine we_false (by kernel_rfl) ?_
    refine we_exit fun a hF => hK185 _ _ ?_ a hF
    refine we_region [(0, 0), (1, 0)] rfl ?_
    refine ge_batch [0, 1] (ans := []) (vs := [(39, .int .i64 3), (55, .int .i64 3)]) (l := []) (by kernel_rfl) trivial ?_
    refine ge_nil fun a hF => hK182 _ _ ?_ a hF
    refine ue_succ fun K233 hK233 => ?_
    refine we_seq fun K234 hK234 => ?_
    refine we_region [(0, 0)] rfl ?_
    refine ge_batch [0] (ans := []) (vs := [(40, .bool true)]) (l := []) (by kernel_rfl) trivial ?_
    refine ge_nil fun a hF => hK234 _ _ ?_ a hF
    refine we_seq fun K235 hK235 => ?_
    refine we_true (by kernel_rfl) ?_
    refine we_skip fun a hF => hK235 _ _ ?_ a hF
    refine we_seq fun K236 hK236 => ?_
    refine we_block ?_
    refine we_seq fun K237 hK237 => ?_
    refine we_region [(0, 0), (1, 0), (2, 0)] rfl ?_
    refine ge_batch [0, 1, 2] (ans := [.val (.slice (some ⟨b7, 0, none⟩) 18 18)]) (vs := [(7, .slice (some ⟨b7, 0, none⟩) 18 18), (42, .slice (some ⟨b7, 0, none⟩) 18 18), (41, .pointer (some ⟨b13, 3, none⟩))]) (l := [.loaded ⟨b13, 3, none⟩ (.slice (some ⟨b7, 0, none⟩) 18 18)]) (by kernel_rfl) ⟨hS15.cell 0 rfl rfl, trivial⟩ ?_
    refine ge_nil fun a hF => hK237 _ _ ?_ a hF
    refine we_seq fun K238 hK238 => ?_
    refine we_region [(0, 0), (1, 0), (2, 0)] rfl ?_
    refine ge_batch [0, 1, 2] (ans := []) (vs := [(45, .int .i64 0), (44, .int .i64 18), (43, .slice (some ⟨b7, 0, none⟩) 18 18)]) (l := []) (by kernel_rfl) trivial ?_
    refine ge_nil fun a hF => hK238 _ _ ?_ a hF
    refine we_block ?_
    refine we_unroll 19 ?_
    refine ue_succ fun K239 hK239 => ?_
    refine we_seq fun K240 hK240 => ?_
    refine we_region [(0, 0)] rfl ?_
    refine ge_batch [0] (ans := []) (vs := [(46, .bool true)]) (l := []) (by kernel_rfl) trivial ?_
    refine ge_nil fun a hF => hK240 _ _ ?_ a hF
    refine we_seq fun K241 hK241 => ?_
    refine we_true (by kernel_rfl) ?_
    refine we_skip fun a hF => hK241 _ _ ?_ a hF
    refine we_seq fun K242 hK242 => ?_
    refine we_block ?_
    refine we_seq fun K243 hK243 => ?_
    refine we_region [(0, 0), (1, 0), (2, 0), (3, 0), (4, 0)] rfl ?_
    refine ge_batch [0, 1, 2, 3, 4] (ans := [.val (.int .i64 1)]) (vs := [(9, .int .i64 1), (8, .int .i64 0), (49, .int .i64 1), (48, .pointer (some ⟨b7, 0, none⟩)), (47, .int .i64 0)]) (l := [.loaded ⟨b7, 0, none⟩ (.int .i64 1)]) (by kernel_rfl) ⟨hS15.cell 6 rfl rfl, trivial⟩ ?_
    refine ge_nil fun a hF => hK243 _ _ ?_ a hF
    refine we_seq fun K244 hK244 => ?_
    refine we_region [(0, 0), (1, 0), (2, 0), (3, 0)] rfl ?_
    refine ge_batch [0, 1, 2, 3] (ans := []) (vs := [(53, .bool false), (52, .int .i64 1), (51, .int .i64 0), (50, .int .i64 1)]) (l := []) (by kernel_rfl) trivial ?_
    refine ge_nil fun a hF => hK244 _ _ ?_ a hF
    refine we_false (by kernel_rfl) ?_
    refine we_skip fun a hF => hK242 _ _ ?_ a hF
    refine we_region [(0, 0), (1, 0)] rfl ?_
    refine ge_batch [0, 1] (ans := []) (vs := [(45, .int .i64 1), (54, .int .i64 1)]) (l := []) (by kernel_rfl) trivial ?_
    refine ge_nil fun a hF => hK239 _ _ ?_ a hF
    refine ue_succ fun K245 hK245 => ?_
    refine we_seq fun K246 hK246 => ?_
    refine we_region [(0, 0)] rfl ?_
    refine ge_batch [0] (ans := []) (vs := [(46, .bool true)]) (l := []) (by kernel_rfl) trivial ?_
    refine ge_nil fun a hF => hK246 _ _ ?_ a hF
    refine we_seq fun K247 hK247 => ?_
    refine we_true (by kernel_rfl) ?_
    refine we_skip fun a hF => hK247 _ _ ?_ a hF
    refine we_seq fun K248 hK248 => ?_
    refine we_block ?_
    refine we_seq fun K249 hK249 => ?_
    refine we_region [(0, 0), (1, 0), (2, 0), (3, 0), (4, 0)] rfl ?_
    refine ge_batch [0, 1, 2, 3, 4] (ans := [.val (.int .i64 2)]) (vs := [(9, .int .i64 2), (8, .int .i64 1), (49, .int .i64 2), (48, .pointer (some ⟨b7, 1, none⟩)), (47, .int .i64 1)]) (l := [.loaded ⟨b7, 1, none⟩ (.int .i64 2)]) (by kernel_rfl) ⟨hS15.cell 6 rfl rfl, trivial⟩ ?_
    refine ge_nil fun a hF => hK249 _ _ ?_ a hF
    refine we_seq fun K250 hK250 => ?_
    refine we_region [(0, 0), (1, 0), (2, 0), (3, 0)] rfl ?_
    refine ge_batch [0, 1, 2, 3] (ans := []) (vs := [(53, .bool false), (52, .int .i64 2), (51, .int .i64 1), (50, .int .i64 2)]) (l := []) (by kernel_rfl) trivial ?_
    refine ge_nil fun a hF => hK250 _ _ ?_ a hF
    refine we_false (by kernel_rfl) ?_
    refine we_skip fun a hF => hK248 _ _ ?_ a hF
    refine we_region [(0, 0), (1, 0)] rfl ?_
    refine ge_batch [0, 1] (ans := []) (vs := [(45, .int .i64 2), (54, .int .i64 2)]) (l := []) (by kernel_rfl) trivial ?_
    refine ge_nil fun a hF => hK245 _ _ ?_ a hF
    refine ue_succ fun K251 hK251 => ?_
    refine we_seq fun K252 hK252 => ?_
    refine we_region [(0, 0)] rfl ?_
    refine ge_batch [0] (ans := []) (vs := [(46, .bool true)]) (l := []) (by kernel_rfl) trivial ?_
    refine ge_nil fun a hF => hK252 _ _ ?_ a hF
    refine we_seq fun K253 hK253 => ?_
    refine we_true (by kernel_rfl) ?_
    refine we_skip fun a hF => hK253 _ _ ?_ a hF
    refine we_seq fun K254 hK254 => ?_
    refine we_block ?_
    refine we_seq fun K255 hK255 => ?_
    refine we_region [(0, 0), (1, 0), (2, 0), (3, 0), (4, 0)] rfl ?_
    refine ge_batch [0, 1, 2, 3, 4] (ans := [.val (.int .i64 3)]) (vs := [(9, .int .i64 3), (8, .int .i64 2), (49, .int .i64 3), (48, .pointer (some ⟨b7, 2, none⟩)), (47, .int .i64 2)]) (l := [.loaded ⟨b7, 2, none⟩ (.int .i64 3)]) (by kernel_rfl) ⟨hS15.cell 6 rfl rfl, trivial⟩ ?_
    refine ge_nil fun a hF => hK255 _ _ ?_ a hF
    refine we_seq fun K256 hK256 => ?_
    refine we_region [(0, 0), (1, 0), (2, 0), (3, 0)] rfl ?_
    refine ge_batch [0, 1, 2, 3] (ans := []) (vs := [(53, .bool false), (52, .int .i64 3), (51, .int .i64 2), (50, .int .i64 3)]) (l := []) (by kernel_rfl) trivial ?_
    refine ge_nil fun a hF => hK256 _ _ ?_ a hF
    refine we_false (by kernel_rfl) ?_
    refine we_skip fun a hF => hK254 _ _ ?_ a hF
    refine we_region [(0, 0), (1, 0)] rfl ?_
    refine ge_batch [0, 1] (ans := []) (vs := [(45, .int .i64 3), (54, .int .i64 3)]) (l := []) (by kernel_rfl) trivial ?_
    refine ge_nil fun a hF => hK251 _ _ ?_ a hF
    refine ue_succ fun K257 hK257 => ?_
    refine we_seq fun K258 hK258 => ?_
    refine we_region [(0, 0)] rfl ?_
    refine ge_batch [0] (ans := []) (vs := [(46, .bool true)]) (l := []) (by kernel_rfl) trivial ?_
    refine ge_nil fun a hF => hK258 _ _ ?_ a hF
    refine we_seq fun K259 hK259 => ?_
    refine we_true (by kernel_rfl) ?_
    refine we_skip fun a hF => hK259 _ _ ?_ a hF
    refine we_seq fun K260 hK260 => ?_
    refine we_block ?_
    refine we_seq fun K261 hK261 => ?_
    refine we_region [(0, 0), (1, 0), (2, 0), (3, 0), (4, 0)] rfl ?_
    refine ge_batch [0, 1, 2, 3, 4] (ans := [.val (.int .i64 4)]) (vs := [(9, .int .i64 4), (8, .int .i64 3), (49, .int .i64 4), (48, .pointer (some ⟨b7, 3, none⟩)), (47, .int .i64 3)]) (l := [.loaded ⟨b7, 3, none⟩ (.int .i64 4)]) (by kernel_rfl) ⟨hS15.cell 6 rfl rfl, trivial⟩ ?_
    refine ge_nil fun a hF => hK261 _ _ ?_ a hF
    refine we_seq fun K262 hK262 => ?_
    refine we_region [(0, 0), (1, 0), (2, 0), (3, 0)] rfl ?_
    refine ge_batch [0, 1, 2, 3] (ans := []) (vs := [(53, .bool false), (52, .int .i64 4), (51, .int .i64 3), (50, .int .i64 4)]) (l := []) (by kernel_rfl) trivial ?_
    refine ge_nil fun a hF => hK262 _ _ ?_ a hF
    refine we_false (by kernel_rfl) ?_
    refine we_skip fun a hF => hK260 _ _ ?_ a hF
    refine we_region [(0, 0), (1, 0)] rfl ?_
    refine ge_batch [0, 1] (ans := []) (vs := [(45, .int .i64 4), (54, .int .i64 4)]) (l := []) (by kernel_rfl) trivial ?_
    refine ge_nil fun a hF => hK257 _ _ ?_ a hF
    refine ue_succ fun K263 hK263 => ?_
    refine we_seq fun K264 hK264 => ?_
    refine we_region [(0, 0)] rfl ?_
    refine ge_batch [0] (ans := []) (vs := [(46, .bool true)]) (l := []) (by kernel_rfl) trivial ?_
    refine ge_nil fun a hF => hK264 _ _ ?_ a hF
    refine we_seq fun K265 hK265 => ?_
    refine we_true (by kernel_rfl) ?_
    refine we_skip fun a hF => hK265 _ _ ?_ a hF
    refine we_seq fun K266 hK266 => ?_
    refine we_block ?_
    refine we_seq fun K267 hK267 => ?_
    refine we_region [(0, 0), (1, 0), (2, 0), (3, 0), (4, 0)] rfl ?_
    refine ge_batch [0, 1, 2, 3, 4] (ans := [.val (.int .i64 5)]) (vs := [(9, .int .i64 5), (8, .int .i64 4), (49, .int .i64 5), (48, .pointer (some ⟨b7, 4, none⟩)), (47, .int .i64 4)]) (l := [.loaded ⟨b7, 4, none⟩ (.int .i64 5)]) (by kernel_rfl) ⟨hS15.cell 6 rfl rfl, trivial⟩ ?_
    refine ge_nil fun a hF => hK267 _ _ ?_ a hF
    refine we_seq fun K268 hK268 => ?_
    refine we_region [(0, 0), (1, 0), (2, 0), (3, 0)] rfl ?_
    refine ge_batch [0, 1, 2, 3] (ans := []) (vs := [(53, .bool false), (52, .int .i64 5), (51, .int .i64 4), (50, .int .i64 5)]) (l := []) (by kernel_rfl) trivial ?_
    refine ge_nil fun a hF => hK268 _ _ ?_ a hF
    refine we_false (by kernel_rfl) ?_
    refine we_skip fun a hF => hK266 _ _ ?_ a hF
    refine we_region [(0, 0), (1, 0)] rfl ?_
    refine ge_batch [0, 1] (ans := []) (vs := [(45, .int .i64 5), (54, .int .i64 5)]) (l := []) (by kernel_rfl) trivial ?_
    refine ge_nil fun a hF => hK263 _ _ ?_ a hF
    refine ue_succ fun K269 hK269 => ?_
    refine we_seq fun K270 hK270 => ?_
    refine we_region [(0, 0)] rfl ?_
    refine ge_batch [0] (ans := []) (vs := [(46, .bool true)]) (l := []) (by kernel_rfl) trivial ?_
    refine ge_nil fun a hF => hK270 _ _ ?_ a hF
    refine we_seq fun K271 hK271 => ?_
    refine we_true (by kernel_rfl) ?_
    refine we_skip fun a hF => hK271 _ _ ?_ a hF
    refine we_seq fun K272 hK272 => ?_
    refine we_block ?_
    refine we_seq fun K273 hK273 => ?_
    refine we_region [(0, 0), (1, 0), (2, 0), (3, 0), (4, 0)] rfl ?_
    refine ge_batch [0, 1, 2, 3, 4] (ans := [.val (.int .i64 6)]) (vs := [(9, .int .i64 6), (8, .int .i64 5), (49, .int .i64 6), (48, .pointer (some ⟨b7, 5, none⟩)), (47, .int .i64 5)]) (l := [.loaded ⟨b7, 5, none⟩ (.int .i64 6)]) (by kernel_rfl) ⟨hS15.cell 6 rfl rfl, trivial⟩ ?_
    refine ge_nil fun a hF => hK273 _ _ ?_ a hF
    refine we_seq fun K274 hK274 => ?_
    refine we_region [(0, 0), (1, 0), (2, 0), (3, 0)] rfl ?_
    refine ge_batch [0, 1, 2, 3] (ans := []) (vs := [(53, .bool false), (52, .int .i64 6), (51, .int .i64 5), (50, .int .i64 6)]) (l := []) (by kernel_rfl) trivial ?_
    refine ge_nil fun a hF => hK274 _ _ ?_ a hF
    refine we_false (by kernel_rfl) ?_
    refine we_skip fun a hF => hK272 _ _ ?_ a hF
    refine we_region [(0, 0), (1, 0)] rfl ?_
    refine ge_batch [0, 1] (ans := []) (vs := [(45, .int .i64 6), (54, .int .i64 6)]) (l := []) (by kernel_rfl) trivial ?_
    refine ge_nil fun a hF => hK269 _ _ ?_ a hF
    refine ue_succ fun K275 hK275 => ?_
    refine we_seq fun K276 hK276 => ?_
    refine we_region [(0, 0)] rfl ?_
    refine ge_batch [0] (ans := []) (vs := [(46, .bool true)]) (l := []) (by kernel_rfl) trivial ?_
    refine ge_nil fun a hF => hK276 _ _ ?_ a hF
    refine we_seq fun K277 hK277 => ?_
    refine we_true (by kernel_rfl) ?_
    refine we_skip fun a hF => hK277 _ _ ?_ a hF
    refine we_seq fun K278 hK278 => ?_
    refine we_block ?_
    refine we_seq fun K279 hK279 => ?_
    refine we_region [(0, 0), (1, 0), (2, 0), (3, 0), (4, 0)] rfl ?_
    refine ge_batch [0, 1, 2, 3, 4] (ans := [.val (.int .i64 7)]) (vs := [(9, .int .i64 7), (8, .int .i64 6), (49, .int .i64 7), (48, .pointer (some ⟨b7, 6, none⟩)), (47, .int .i64 6)]) (l := [.loaded ⟨b7, 6, none⟩ (.int .i64 7)]) (by kernel_rfl) ⟨hS15.cell 6 rfl rfl, trivial⟩ ?_
    refine ge_nil fun a hF => hK279 _ _ ?_ a hF
    refine we_seq fun K280 hK280 => ?_
    refine we_region [(0, 0), (1, 0), (2, 0), (3, 0)] rfl ?_
    refine ge_batch [0, 1, 2, 3] (ans := []) (vs := [(53, .bool false), (52, .int .i64 7), (51, .int .i64 6), (50, .int .i64 7)]) (l := []) (by kernel_rfl) trivial ?_
    refine ge_nil fun a hF => hK280 _ _ ?_ a hF
    refine we_false (by kernel_rfl) ?_
    refine we_skip fun a hF => hK278 _ _ ?_ a hF
    refine we_region [(0, 0), (1, 0)] rfl ?_
    refine ge_batch [0, 1] (ans := []) (vs := [(45, .int .i64 7), (54, .int .i64 7)]) (l := []) (by kernel_rfl) trivial ?_
    refine ge_nil fun a hF => hK275 _ _ ?_ a hF
    refine ue_succ fun K281 hK281 => ?_
    refine we_seq fun K282 hK282 => ?_
    refine we_region [(0, 0)] rfl ?_
    refine ge_batch [0] (ans := []) (vs := [(46, .bool true)]) (l := []) (by kernel_rfl) trivial ?_
    refine ge_nil fun a hF => hK282 _ _ ?_ a hF
    refine we_seq fun K283 hK283 => ?_
    refine we_true (by kernel_rfl) ?_
    refine we_skip fun a hF => hK283 _ _ ?_ a hF
    refine we_seq fun K284 hK284 => ?_
    refine we_block ?_
    refine we_seq fun K285 hK285 => ?_
    refine we_region [(0, 0), (1, 0), (2, 0), (3, 0), (4, 0)] rfl ?_
    refine ge_batch [0, 1, 2, 3, 4] (ans := [.val (.int .i64 8)]) (vs := [(9, .int .i64 8), (8, .int .i64 7), (49, .int .i64 8), (48, .pointer (some ⟨b7, 7, none⟩)), (47, .int .i64 7)]) (l := [.loaded ⟨b7, 7, none⟩ (.int .i64 8)]) (by kernel_rfl) ⟨hS15.cell 6 rfl rfl, trivial⟩ ?_
    refine ge_nil fun a hF => hK285 _ _ ?_ a hF
    refine we_seq fun K286 hK286 => ?_
    refine we_region [(0, 0), (1, 0), (2, 0), (3, 0)] rfl ?_
    refine ge_batch [0, 1, 2, 3] (ans := []) (vs := [(53, .bool false), (52, .int .i64 8), (51, .int .i64 7), (50, .int .i64 8)]) (l := []) (by kernel_rfl) trivial ?_
    refine ge_nil fun a hF => hK286 _ _ ?_ a hF
    refine we_false (by kernel_rfl) ?_
    refine we_skip fun a hF => hK284 _ _ ?_ a hF
    refine we_region [(0, 0), (1, 0)] rfl ?_
    refine ge_batch [0, 1] (ans := []) (vs := [(45, .int .i64 8), (54, .int .i64 8)]) (l := []) (by kernel_rfl) trivial ?_
    refine ge_nil fun a hF => hK281 _ _ ?_ a hF
    refine ue_succ fun K287 hK287 => ?_
    refine we_seq fun K288 hK288 => ?_
    refine we_region [(0, 0)] rfl ?_
    refine ge_batch [0] (ans := []) (vs := [(46, .bool true)]) (l := []) (by kernel_rfl) trivial ?_
    refine ge_nil fun a hF => hK288 _ _ ?_ a hF
    refine we_seq fun K289 hK289 => ?_
    refine we_true (by kernel_rfl) ?_
    refine we_skip fun a hF => hK289 _ _ ?_ a hF
    refine we_seq fun K290 hK290 => ?_
    refine we_block ?_
    refine we_seq fun K291 hK291 => ?_
    refine we_region [(0, 0), (1, 0), (2, 0), (3, 0), (4, 0)] rfl ?_
    refine ge_batch [0, 1, 2, 3, 4] (ans := [.val (.int .i64 9)]) (vs := [(9, .int .i64 9), (8, .int .i64 8), (49, .int .i64 9), (48, .pointer (some ⟨b7, 8, none⟩)), (47, .int .i64 8)]) (l := [.loaded ⟨b7, 8, none⟩ (.int .i64 9)]) (by kernel_rfl) ⟨hS15.cell 6 rfl rfl, trivial⟩ ?_
    refine ge_nil fun a hF => hK291 _ _ ?_ a hF
    refine we_seq fun K292 hK292 => ?_
    refine we_region [(0, 0), (1, 0), (2, 0), (3, 0)] rfl ?_
    refine ge_batch [0, 1, 2, 3] (ans := []) (vs := [(53, .bool false), (52, .int .i64 9), (51, .int .i64 8), (50, .int .i64 9)]) (l := []) (by kernel_rfl) trivial ?_
    refine ge_nil fun a hF => hK292 _ _ ?_ a hF
    refine we_false (by kernel_rfl) ?_
    refine we_skip fun a hF => hK290 _ _ ?_ a hF
    refine we_region [(0, 0), (1, 0)] rfl ?_
    refine ge_batch [0, 1] (ans := []) (vs := [(45, .int .i64 9), (54, .int .i64 9)]) (l := []) (by kernel_rfl) trivial ?_
    refine ge_nil fun a hF => hK287 _ _ ?_ a hF
    refine ue_succ fun K293 hK293 => ?_
    refine we_seq fun K294 hK294 => ?_
    refine we_region [(0, 0)] rfl ?_
    refine ge_batch [0] (ans := []) (vs := [(46, .bool true)]) (l := []) (by kernel_rfl) trivial ?_
    refine ge_nil fun a hF => hK294 _ _ ?_ a hF
    refine we_seq fun K295 hK295 => ?_
    refine we_true (by kernel_rfl) ?_
    refine we_skip fun a hF => hK295 _ _ ?_ a hF
    refine we_seq fun K296 hK296 => ?_
    refine we_block ?_
    refine we_seq fun K297 hK297 => ?_
    refine we_region [(0, 0), (1, 0), (2, 0), (3, 0), (4, 0)] rfl ?_
    refine ge_batch [0, 1, 2, 3, 4] (ans := [.val (.int .i64 10)]) (vs := [(9, .int .i64 10), (8, .int .i64 9), (49, .int .i64 10), (48, .pointer (some ⟨b7, 9, none⟩)), (47, .int .i64 9)]) (l := [.loaded ⟨b7, 9, none⟩ (.int .i64 10)]) (by kernel_rfl) ⟨hS15.cell 6 rfl rfl, trivial⟩ ?_
    refine ge_nil fun a hF => hK297 _ _ ?_ a hF
    refine we_seq fun K298 hK298 => ?_
    refine we_region [(0, 0), (1, 0), (2, 0), (3, 0)] rfl ?_
    refine ge_batch [0, 1, 2, 3] (ans := []) (vs := [(53, .bool false), (52, .int .i64 10), (51, .int .i64 9), (50, .int .i64 10)]) (l := []) (by kernel_rfl) trivial ?_
    refine ge_nil fun a hF => hK298 _ _ ?_ a hF
    refine we_false (by kernel_rfl) ?_
    refine we_skip fun a hF => hK296 _ _ ?_ a hF
    refine we_region [(0, 0), (1, 0)] rfl ?_
    refine ge_batch [0, 1] (ans := []) (vs := [(45, .int .i64 10), (54, .int .i64 10)]) (l := []) (by kernel_rfl) trivial ?_
    refine ge_nil fun a hF => hK293 _ _ ?_ a hF
    refine ue_succ fun K299 hK299 => ?_
    refine we_seq fun K300 hK300 => ?_
    refine we_region [(0, 0)] rfl ?_
    refine ge_batch [0] (ans := []) (vs := [(46, .bool true)]) (l := []) (by kernel_rfl) trivial ?_
    refine ge_nil fun a hF => hK300 _ _ ?_ a hF
    refine we_seq fun K301 hK301 => ?_
    refine we_true (by kernel_rfl) ?_
    refine we_skip fun a hF => hK301 _ _ ?_ a hF
    refine we_seq fun K302 hK302 => ?_
    refine we_block ?_
    refine we_seq fun K303 hK303 => ?_
    refine we_region [(0, 0), (1, 0), (2, 0), (3, 0), (4, 0)] rfl ?_
    refine ge_batch [0, 1, 2, 3, 4] (ans := [.val (.int .i64 11)]) (vs := [(9, .int .i64 11), (8, .int .i64 10), (49, .int .i64 11), (48, .pointer (some ⟨b7, 10, none⟩)), (47, .int .i64 10)]) (l := [.loaded ⟨b7, 10, none⟩ (.int .i64 11)]) (by kernel_rfl) ⟨hS15.cell 6 rfl rfl, trivial⟩ ?_
    refine ge_nil fun a hF => hK303 _ _ ?_ a hF
    refine we_seq fun K304 hK304 => ?_
    refine we_region [(0, 0), (1, 0), (2, 0), (3, 0)] rfl ?_
    refine ge_batch [0, 1, 2, 3] (ans := []) (vs := [(53, .bool false), (52, .int .i64 11), (51, .int .i64 10), (50, .int .i64 11)]) (l := []) (by kernel_rfl) trivial ?_
    refine ge_nil fun a hF => hK304 _ _ ?_ a hF
    refine we_false (by kernel_rfl) ?_
    refine we_skip fun a hF => hK302 _ _ ?_ a hF
    refine we_region [(0, 0), (1, 0)] rfl ?_
    refine ge_batch [0, 1] (ans := []) (vs := [(45, .int .i64 11), (54, .int .i64 11)]) (l := []) (by kernel_rfl) trivial ?_
    refine ge_nil fun a hF => hK299 _ _ ?_ a hF
    refine ue_succ fun K305 hK305 => ?_
    refine we_seq fun K306 hK306 => ?_
    refine we_region [(0, 0)] rfl ?_
    refine ge_batch [0] (ans := []) (vs := [(46, .bool true)]) (l := []) (by kernel_rfl) trivial ?_
    refine ge_nil fun a hF => hK306 _ _ ?_ a hF
    refine we_seq fun K307 hK307 => ?_
    refine we_true (by kernel_rfl) ?_
    refine we_skip fun a hF => hK307 _ _ ?_ a hF
    refine we_seq fun K308 hK308 => ?_
    refine we_block ?_
    refine we_seq fun K309 hK309 => ?_
    refine we_region [(0, 0), (1, 0), (2, 0), (3, 0), (4, 0)] rfl ?_
    refine ge_batch [0, 1, 2, 3, 4] (ans := [.val (.int .i64 12)]) (vs := [(9, .int .i64 12), (8, .int .i64 11), (49, .int .i64 12), (48, .pointer (some ⟨b7, 11, none⟩)), (47, .int .i64 11)]) (l := [.loaded ⟨b7, 11, none⟩ (.int .i64 12)]) (by kernel_rfl) ⟨hS15.cell 6 rfl rfl, trivial⟩ ?_
    refine ge_nil fun a hF => hK309 _ _ ?_ a hF
    refine we_seq fun K310 hK310 => ?_
    refine we_region [(0, 0), (1, 0), (2, 0), (3, 0)] rfl ?_
    refine ge_batch [0, 1, 2, 3] (ans := []) (vs := [(53, .bool false), (52, .int .i64 12), (51, .int .i64 11), (50, .int .i64 12)]) (l := []) (by kernel_rfl) trivial ?_
    refine ge_nil fun a hF => hK310 _ _ ?_ a hF
    refine we_false (by kernel_rfl) ?_
    refine we_skip fun a hF => hK308 _ _ ?_ a hF
    refine we_region [(0, 0), (1, 0)] rfl ?_
    refine ge_batch [0, 1] (ans := []) (vs := [(45, .int .i64 12), (54, .int .i64 12)]) (l := []) (by kernel_rfl) trivial ?_
    refine ge_nil fun a hF => hK305 _ _ ?_ a hF
    refine ue_succ fun K311 hK311 => ?_
    refine we_seq fun K312 hK312 => ?_
    refine we_region [(0, 0)] rfl ?_
    refine ge_batch [0] (ans := []) (vs := [(46, .bool true)]) (l := []) (by kernel_rfl) trivial ?_
    refine ge_nil fun a hF => hK312 _ _ ?_ a hF
    refine we_seq fun K313 hK313 => ?_
    refine we_true (by kernel_rfl) ?_
    refine we_skip fun a hF => hK313 _ _ ?_ a hF
    refine we_seq fun K314 hK314 => ?_
    refine we_block ?_
    refine we_seq fun K315 hK315 => ?_
    refine we_region [(0, 0), (1, 0), (2, 0), (3, 0), (4, 0)] rfl ?_
    refine ge_batch [0, 1, 2, 3, 4] (ans := [.val (.int .i64 13)]) (vs := [(9, .int .i64 13), (8, .int .i64 12), (49, .int .i64 13), (48, .pointer (some ⟨b7, 12, none⟩)), (47, .int .i64 12)]) (l := [.loaded ⟨b7, 12, none⟩ (.int .i64 13)]) (by kernel_rfl) ⟨hS15.cell 6 rfl rfl, trivial⟩ ?_
    refine ge_nil fun a hF => hK315 _ _ ?_ a hF
    refine we_seq fun K316 hK316 => ?_
    refine we_region [(0, 0), (1, 0), (2, 0), (3, 0)] rfl ?_
    refine ge_batch [0, 1, 2, 3] (ans := []) (vs := [(53, .bool false), (52, .int .i64 13), (51, .int .i64 12), (50, .int .i64 13)]) (l := []) (by kernel_rfl) trivial ?_
    refine ge_nil fun a hF => hK316 _ _ ?_ a hF
    refine we_false (by kernel_rfl) ?_
    refine we_skip fun a hF => hK314 _ _ ?_ a hF
    refine we_region [(0, 0), (1, 0)] rfl ?_
    refine ge_batch [0, 1] (ans := []) (vs := [(45, .int .i64 13), (54, .int .i64 13)]) (l := []) (by kernel_rfl) trivial ?_
    refine ge_nil fun a hF => hK311 _ _ ?_ a hF
    refine ue_succ fun K317 hK317 => ?_
    refine we_seq fun K318 hK318 => ?_
    refine we_region [(0, 0)] rfl ?_
    refine ge_batch [0] (ans := []) (vs := [(46, .bool true)]) (l := []) (by kernel_rfl) trivial ?_
    refine ge_nil fun a hF => hK318 _ _ ?_ a hF
    refine we_seq fun K319 hK319 => ?_
    refine we_true (by kernel_rfl) ?_
    refine we_skip fun a hF => hK319 _ _ ?_ a hF
    refine we_seq fun K320 hK320 => ?_
    refine we_block ?_
    refine we_seq fun K321 hK321 => ?_
    refine we_region [(0, 0), (1, 0), (2, 0), (3, 0), (4, 0)] rfl ?_
    refine ge_batch [0, 1, 2, 3, 4] (ans := [.val (.int .i64 14)]) (vs := [(9, .int .i64 14), (8, .int .i64 13), (49, .int .i64 14), (48, .pointer (some ⟨b7, 13, none⟩)), (47, .int .i64 13)]) (l := [.loaded ⟨b7, 13, none⟩ (.int .i64 14)]) (by kernel_rfl) ⟨hS15.cell 6 rfl rfl, trivial⟩ ?_
    refine ge_nil fun a hF => hK321 _ _ ?_ a hF
    refine we_seq fun K322 hK322 => ?_
    refine we_region [(0, 0), (1, 0), (2, 0), (3, 0)] rfl ?_
    refine ge_batch [0, 1, 2, 3] (ans := []) (vs := [(53, .bool false), (52, .int .i64 14), (51, .int .i64 13), (50, .int .i64 14)]) (l := []) (by kernel_rfl) trivial ?_
    refine ge_nil fun a hF => hK322 _ _ ?_ a hF
    refine we_false (by kernel_rfl) ?_
    refine we_skip fun a hF => hK320 _ _ ?_ a hF
    refine we_region [(0, 0), (1, 0)] rfl ?_
    refine ge_batch [0, 1] (ans := []) (vs := [(45, .int .i64 14), (54, .int .i64 14)]) (l := []) (by kernel_rfl) trivial ?_
    refine ge_nil fun a hF => hK317 _ _ ?_ a hF
    refine ue_succ fun K323 hK323 => ?_
    refine we_seq fun K324 hK324 => ?_
    refine we_region [(0, 0)] rfl ?_
    refine ge_batch [0] (ans := []) (vs := [(46, .bool true)]) (l := []) (by kernel_rfl) trivial ?_
    refine ge_nil fun a hF => hK324 _ _ ?_ a hF
    refine we_seq fun K325 hK325 => ?_
    refine we_true (by kernel_rfl) ?_
    refine we_skip fun a hF => hK325 _ _ ?_ a hF
    refine we_seq fun K326 hK326 => ?_
    refine we_block ?_
    refine we_seq fun K327 hK327 => ?_
    refine we_region [(0, 0), (1, 0), (2, 0), (3, 0), (4, 0)] rfl ?_
    refine ge_batch [0, 1, 2, 3, 4] (ans := [.val (.int .i64 15)]) (vs := [(9, .int .i64 15), (8, .int .i64 14), (49, .int .i64 15), (48, .pointer (some ⟨b7, 14, none⟩)), (47, .int .i64 14)]) (l := [.loaded ⟨b7, 14, none⟩ (.int .i64 15)]) (by kernel_rfl) ⟨hS15.cell 6 rfl rfl, trivial⟩ ?_
    refine ge_nil fun a hF => hK327 _ _ ?_ a hF
    refine we_seq fun K328 hK328 => ?_
    refine we_region [(0, 0), (1, 0), (2, 0), (3, 0)] rfl ?_
    refine ge_batch [0, 1, 2, 3] (ans := []) (vs := [(53, .bool false), (52, .int .i64 15), (51, .int .i64 14), (50, .int .i64 15)]) (l := []) (by kernel_rfl) trivial ?_
    refine ge_nil fun a hF => hK328 _ _ ?_ a hF
    refine we_false (by kernel_rfl) ?_
    refine we_skip fun a hF => hK326 _ _ ?_ a hF
    refine we_region [(0, 0), (1, 0)] rfl ?_
    refine ge_batch [0, 1] (ans := []) (vs := [(45, .int .i64 15), (54, .int .i64 15)]) (l := []) (by kernel_rfl) trivial ?_
    refine ge_nil fun a hF => hK323 _ _ ?_ a hF
    refine ue_succ fun K329 hK329 => ?_
    refine we_seq fun K330 hK330 => ?_
    refine we_region [(0, 0)] rfl ?_
    refine ge_batch [0] (ans := []) (vs := [(46, .bool true)]) (l := []) (by kernel_rfl) trivial ?_
    refine ge_nil fun a hF => hK330 _ _ ?_ a hF
    refine we_seq fun K331 hK331 => ?_
    refine we_true (by kernel_rfl) ?_
    refine we_skip fun a hF => hK331 _ _ ?_ a hF
    refine we_seq fun K332 hK332 => ?_
    refine we_block ?_
    refine we_seq fun K333 hK333 => ?_
    refine we_region [(0, 0), (1, 0), (2, 0), (3, 0), (4, 0)] rfl ?_
    refine ge_batch [0, 1, 2, 3, 4] (ans := [.val (.int .i64 16)]) (vs := [(9, .int .i64 16), (8, .int .i64 15), (49, .int .i64 16), (48, .pointer (some ⟨b7, 15, none⟩)), (47, .int .i64 15)]) (l := [.loaded ⟨b7, 15, none⟩ (.int .i64 16)]) (by kernel_rfl) ⟨hS15.cell 6 rfl rfl, trivial⟩ ?_
    refine ge_nil fun a hF => hK333 _ _ ?_ a hF
    refine we_seq fun K334 hK334 => ?_
    refine we_region [(0, 0), (1, 0), (2, 0), (3, 0)] rfl ?_
    refine ge_batch [0, 1, 2, 3] (ans := []) (vs := [(53, .bool false), (52, .int .i64 16), (51, .int .i64 15), (50, .int .i64 16)]) (l := []) (by kernel_rfl) trivial ?_
    refine ge_nil fun a hF => hK334 _ _ ?_ a hF
    refine we_false (by kernel_rfl) ?_
    refine we_skip fun a hF => hK332 _ _ ?_ a hF
    refine we_region [(0, 0), (1, 0)] rfl ?_
    refine ge_batch [0, 1] (ans := []) (vs := [(45, .int .i64 16), (54, .int .i64 16)]) (l := []) (by kernel_rfl) trivial ?_
    refine ge_nil fun a hF => hK329 _ _ ?_ a hF
    refine ue_succ fun K335 hK335 => ?_
    refine we_seq fun K336 hK336 => ?_
    refine we_region [(0, 0)] rfl ?_
    refine ge_batch [0] (ans := []) (vs := [(46, .bool true)]) (l := []) (by kernel_rfl) trivial ?_
    refine ge_nil fun a hF => hK336 _ _ ?_ a hF
    refine we_seq fun K337 hK337 => ?_
    refine we_true (by kernel_rfl) ?_
    refine we_skip fun a hF => hK337 _ _ ?_ a hF
    refine we_seq fun K338 hK338 => ?_
    refine we_block ?_
    refine we_seq fun K339 hK339 => ?_
    refine we_region [(0, 0), (1, 0), (2, 0), (3, 0), (4, 0)] rfl ?_
    refine ge_batch [0, 1, 2, 3, 4] (ans := [.val (.int .i64 17)]) (vs := [(9, .int .i64 17), (8, .int .i64 16), (49, .int .i64 17), (48, .pointer (some ⟨b7, 16, none⟩)), (47, .int .i64 16)]) (l := [.loaded ⟨b7, 16, none⟩ (.int .i64 17)]) (by kernel_rfl) ⟨hS15.cell 6 rfl rfl, trivial⟩ ?_
    refine ge_nil fun a hF => hK339 _ _ ?_ a hF
    refine we_seq fun K340 hK340 => ?_
    refine we_region [(0, 0), (1, 0), (2, 0), (3, 0)] rfl ?_
    refine ge_batch [0, 1, 2, 3] (ans := []) (vs := [(53, .bool false), (52, .int .i64 17), (51, .int .i64 16), (50, .int .i64 17)]) (l := []) (by kernel_rfl) trivial ?_
    refine ge_nil fun a hF => hK340 _ _ ?_ a hF
    refine we_false (by kernel_rfl) ?_
    refine we_skip fun a hF => hK338 _ _ ?_ a hF
    refine we_region [(0, 0), (1, 0)] rfl ?_
    refine ge_batch [0, 1] (ans := []) (vs := [(45, .int .i64 17), (54, .int .i64 17)]) (l := []) (by kernel_rfl) trivial ?_
    refine ge_nil fun a hF => hK335 _ _ ?_ a hF
    refine ue_succ fun K341 hK341 => ?_
    refine we_seq fun K342 hK342 => ?_
    refine we_region [(0, 0)] rfl ?_
    refine ge_batch [0] (ans := []) (vs := [(46, .bool true)]) (l := []) (by kernel_rfl) trivial ?_
    refine ge_nil fun a hF => hK342 _ _ ?_ a hF
    refine we_seq fun K343 hK343 => ?_
    refine we_true (by kernel_rfl) ?_
    refine we_skip fun a hF => hK343 _ _ ?_ a hF
    refine we_seq fun K344 hK344 => ?_
    refine we_block ?_
    refine we_seq fun K345 hK345 => ?_
    refine we_region [(0, 0), (1, 0), (2, 0), (3, 0), (4, 0)] rfl ?_
    refine ge_batch [0, 1, 2, 3, 4] (ans := [.val (.int .i64 18)]) (vs := [(9, .int .i64 18), (8, .int .i64 17), (49, .int .i64 18), (48, .pointer (some ⟨b7, 17, none⟩)), (47, .int .i64 17)]) (l := [.loaded ⟨b7, 17, none⟩ (.int .i64 18)]) (by kernel_rfl) ⟨hS15.cell 6 rfl rfl, trivial⟩ ?_
    refine ge_nil fun a hF => hK345 _ _ ?_ a hF
    refine we_seq fun K346 hK346 => ?_
    refine we_region [(0, 0), (1, 0), (2, 0), (3, 0)] rfl ?_
    refine ge_batch [0, 1, 2, 3] (ans := []) (vs := [(53, .bool false), (52, .int .i64 18), (51, .int .i64 17), (50, .int .i64 18)]) (l := []) (by kernel_rfl) trivial ?_
    refine ge_nil fun a hF => hK346 _ _ ?_ a hF
    refine we_false (by kernel_rfl) ?_
    refine we_skip fun a hF => hK344 _ _ ?_ a hF
    refine we_region [(0, 0), (1, 0)] rfl ?_
    refine ge_batch [0, 1] (ans := []) (vs := [(45, .int .i64 18), (54, .int .i64 18)]) (l := []) (by kernel_rfl) trivial ?_
    refine ge_nil fun a hF => hK341 _ _ ?_ a hF
    refine ue_succ fun K347 hK347 => ?_
    refine we_seq fun K348 hK348 => ?_
    refine we_region [(0, 0)] rfl ?_
    refine ge_batch [0] (ans := []) (vs := [(46, .bool false)]) (l := []) (by kernel_rfl) trivial ?_
    refine ge_nil fun a hF => hK348 _ _ ?_ a hF
    refine we_seq fun K349 hK349 => ?_
    refine we_false (by kernel_rfl) ?_
    refine we_exit fun a hF => hK236 _ _ ?_ a hF
    refine we_region [(0, 0), (1, 0)] rfl ?_
    refine ge_batch [0, 1] (ans := []) (vs := [(39, .int .i64 4), (55, .int .i64 4)]) (l := []) (by kernel_rfl) trivial ?_
    refine ge_nil fun a hF => hK233 _ _ ?_ a hF
    refine ue_succ fun K350 hK350 => ?_
    refine we_seq fun K351 hK351 => ?_
    refine we_region [(0, 0)] rfl ?_
    refine ge_batch [0] (ans := []) (vs := [(40, .bool true)]) (l := []) (by kernel_rfl) trivial ?_
    refine ge_nil fun a hF => hK351 _ _ ?_ a hF
    refine we_seq fun K352 hK352 => ?_
    refine we_true (by kernel_rfl) ?_
    refine we_skip fun a hF => hK352 _ _ ?_ a hF
    refine we_seq fun K353 hK353 => ?_
    refine we_block ?_
    refine we_seq fun K354 hK354 => ?_
    refine we_region [(0, 0), (1, 0), (2, 0)] rfl ?_
    refine ge_batch [0, 1, 2] (ans := [.val (.slice (some ⟨b8, 0, none⟩) 2 2)]) (vs := [(7, .slice (some ⟨b8, 0, none⟩) 2 2), (42, .slice (some ⟨b8, 0, none⟩) 2 2), (41, .pointer (some ⟨b13, 4, none⟩))]) (l := [.loaded ⟨b13, 4, none⟩ (.slice (some ⟨b8, 0, none⟩) 2 2)]) (by kernel_rfl) ⟨hS15.cell 0 rfl rfl, trivial⟩ ?_
    refine ge_nil fun a hF => hK354 _ _ ?_ a hF
    refine we_seq fun K355 hK355 => ?_
    refine we_region [(0, 0), (1, 0), (2, 0)] rfl ?_
    refine ge_batch [0, 1, 2] (ans := []) (vs := [(45, .int .i64 0), (44, .int .i64 2), (43, .slice (some ⟨b8, 0, none⟩) 2 2)]) (l := []) (by kernel_rfl) trivial ?_
    refine ge_nil fun a hF => hK355 _ _ ?_ a hF
    refine we_block ?_
    refine we_unroll 3 ?_
    refine ue_succ fun K356 hK356 => ?_
    refine we_seq fun K357 hK357 => ?_
    refine we_region [(0, 0)] rfl ?_
    refine ge_batch [0] (ans := []) (vs := [(46, .bool true)]) (l := []) (by kernel_rfl) trivial ?_
    refine ge_nil fun a hF => hK357 _ _ ?_ a hF
    refine we_seq fun K358 hK358 => ?_
    refine we_true (by kernel_rfl) ?_
    refine we_skip fun a hF => hK358 _ _ ?_ a hF
    refine we_seq fun K359 hK359 => ?_
    refine we_block ?_
    refine we_seq fun K360 hK360 => ?_
    refine we_region [(0, 0), (1, 0), (2, 0), (3, 0), (4, 0)] rfl ?_
    refine ge_batch [0, 1, 2, 3, 4] (ans := [.val (.int .i64 1)]) (vs := [(9, .int .i64 1), (8, .int .i64 0), (49, .int .i64 1), (48, .pointer (some ⟨b8, 0, none⟩)), (47, .int .i64 0)]) (l := [.loaded ⟨b8, 0, none⟩ (.int .i64 1)]) (by kernel_rfl) ⟨hS15.cell 5 rfl rfl, trivial⟩ ?_
    refine ge_nil fun a hF => hK360 _ _ ?_ a hF
    refine we_seq fun K361 hK361 => ?_
    refine we_region [(0, 0), (1, 0), (2, 0), (3, 0)] rfl ?_
    refine ge_batch [0, 1, 2, 3] (ans := []) (vs := [(53, .bool false), (52, .int .i64 1), (51, .int .i64 0), (50, .int .i64 1)]) (l := []) (by kernel_rfl) trivial ?_
    refine ge_nil fun a hF => hK361 _ _ ?_ a hF
    refine we_false (by kernel_rfl) ?_
    refine we_skip fun a hF => hK359 _ _ ?_ a hF
    refine we_region [(0, 0), (1, 0)] rfl ?_
    refine ge_batch [0, 1] (ans := []) (vs := [(45, .int .i64 1), (54, .int .i64 1)]) (l := []) (by kernel_rfl) trivial ?_
    refine ge_nil fun a hF => hK356 _ _ ?_ a hF
    refine ue_succ fun K362 hK362 => ?_
    refine we_seq fun K363 hK363 => ?_
    refine we_region [(0, 0)] rfl ?_
    refine ge_batch [0] (ans := []) (vs := [(46, .bool true)]) (l := []) (by kernel_rfl) trivial ?_
    refine ge_nil fun a hF => hK363 _ _ ?_ a hF
    refine we_seq fun K364 hK364 => ?_
    refine we_true (by kernel_rfl) ?_
    refine we_skip fun a hF => hK364 _ _ ?_ a hF
    refine we_seq fun K365 hK365 => ?_
    refine we_block ?_
    refine we_seq fun K366 hK366 => ?_
    refine we_region [(0, 0), (1, 0), (2, 0), (3, 0), (4, 0)] rfl ?_
    refine ge_batch [0, 1, 2, 3, 4] (ans := [.val (.int .i64 2)]) (vs := [(9, .int .i64 2), (8, .int .i64 1), (49, .int .i64 2), (48, .pointer (some ⟨b8, 1, none⟩)), (47, .int .i64 1)]) (l := [.loaded ⟨b8, 1, none⟩ (.int .i64 2)]) (by kernel_rfl) ⟨hS15.cell 5 rfl rfl, trivial⟩ ?_
    refine ge_nil fun a hF => hK366 _ _ ?_ a hF
    refine we_seq fun K367 hK367 => ?_
    refine we_region [(0, 0), (1, 0), (2, 0), (3, 0)] rfl ?_
    refine ge_batch [0, 1, 2, 3] (ans := []) (vs := [(53, .bool false), (52, .int .i64 2), (51, .int .i64 1), (50, .int .i64 2)]) (l := []) (by kernel_rfl) trivial ?_
    refine ge_nil fun a hF => hK367 _ _ ?_ a hF
    refine we_false (by kernel_rfl) ?_
    refine we_skip fun a hF => hK365 _ _ ?_ a hF
    refine we_region [(0, 0), (1, 0)] rfl ?_
    refine ge_batch [0, 1] (ans := []) (vs := [(45, .int .i64 2), (54, .int .i64 2)]) (l := []) (by kernel_rfl) trivial ?_
    refine ge_nil fun a hF => hK362 _ _ ?_ a hF
    refine ue_succ fun K368 hK368 => ?_
    refine we_seq fun K369 hK369 => ?_
    refine we_region [(0, 0)] rfl ?_
    refine ge_batch [0] (ans := []) (vs := [(46, .bool false)]) (l := []) (by kernel_rfl) trivial ?_
    refine ge_nil fun a hF => hK369 _ _ ?_ a hF
    refine we_seq fun K370 hK370 => ?_
    refine we_false (by kernel_rfl) ?_
    refine we_exit fun a hF => hK353 _ _ ?_ a hF
    refine we_region [(0, 0), (1, 0)] rfl ?_
    refine ge_batch [0, 1] (ans := []) (vs := [(39, .int .i64 5), (55, .int .i64 5)]) (l := []) (by kernel_rfl) trivial ?_
    refine ge_nil fun a hF => hK350 _ _ ?_ a hF
    refine ue_succ fun K371 hK371 => ?_
    refine we_seq fun K372 hK372 => ?_
    refine we_region [(0, 0)] rfl ?_
    refine ge_batch [0] (ans := []) (vs := [(40, .bool true)]) (l := []) (by kernel_rfl) trivial ?_
    refine ge_nil fun a hF => hK372 _ _ ?_ a hF
    refine we_seq fun K373 hK373 => ?_
    refine we_true (by kernel_rfl) ?_
    refine we_skip fun a hF => hK373 _ _ ?_ a hF
    refine we_seq fun K374 hK374 => ?_
    refine we_block ?_
    refine we_seq fun K375 hK375 => ?_
    refine we_region [(0, 0), (1, 0), (2, 0)] rfl ?_
    refine ge_batch [0, 1, 2] (ans := [.val (.slice (some ⟨b9, 0, none⟩) 3 3)]) (vs := [(7, .slice (some ⟨b9, 0, none⟩) 3 3), (42, .slice (some ⟨b9, 0, none⟩) 3 3), (41, .pointer (some ⟨b13, 5, none⟩))]) (l := [.loaded ⟨b13, 5, none⟩ (.slice (some ⟨b9, 0, none⟩) 3 3)]) (by kernel_rfl) ⟨hS15.cell 0 rfl rfl, trivial⟩ ?_
    refine ge_nil fun a hF => hK375 _ _ ?_ a hF
    refine we_seq fun K376 hK376 => ?_
    refine we_region [(0, 0), (1, 0), (2, 0)] rfl ?_
    refine ge_batch [0, 1, 2] (ans := []) (vs := [(45, .int .i64 0), (44, .int .i64 3), (43, .slice (some ⟨b9, 0, none⟩) 3 3)]) (l := []) (by kernel_rfl) trivial ?_
    refine ge_nil fun a hF => hK376 _ _ ?_ a hF
    refine we_block ?_
    refine we_unroll 4 ?_
    refine ue_succ fun K377 hK377 => ?_
    refine we_seq fun K378 hK378 => ?_
    refine we_region [(0, 0)] rfl ?_
    refine ge_batch [0] (ans := []) (vs := [(46, .bool true)]) (l := []) (by kernel_rfl) trivial ?_
    refine ge_nil fun a hF => hK378 _ _ ?_ a hF
    refine we_seq fun K379 hK379 => ?_
    refine we_true (by kernel_rfl) ?_
    refine we_skip fun a hF => hK379 _ _ ?_ a hF
    refine we_seq fun K380 hK380 => ?_
    refine we_block ?_
    refine we_seq fun K381 hK381 => ?_
    refine we_region [(0, 0), (1, 0), (2, 0), (3, 0), (4, 0)] rfl ?_
    refine ge_batch [0, 1, 2, 3, 4] (ans := [.val (.int .i64 1)]) (vs := [(9, .int .i64 1), (8, .int .i64 0), (49, .int .i64 1), (48, .pointer (some ⟨b9, 0, none⟩)), (47, .int .i64 0)]) (l := [.loaded ⟨b9, 0, none⟩ (.int .i64 1)]) (by kernel_rfl) ⟨hS15.cell 4 rfl rfl, trivial⟩ ?_
    refine ge_nil fun a hF => hK381 _ _ ?_ a hF
    refine we_seq fun K382 hK382 => ?_
    refine we_region [(0, 0), (1, 0), (2, 0), (3, 0)] rfl ?_
    refine ge_batch [0, 1, 2, 3] (ans := []) (vs := [(53, .bool false), (52, .int .i64 1), (51, .int .i64 0), (50, .int .i64 1)]) (l := []) (by kernel_rfl) trivial ?_
    refine ge_nil fun a hF => hK382 _ _ ?_ a hF
    refine we_false (by kernel_rfl) ?_
    refine we_skip fun a hF => hK380 _ _ ?_ a hF
    refine we_region [(0, 0), (1, 0)] rfl ?_
    refine ge_batch [0, 1] (ans := []) (vs := [(45, .int .i64 1), (54, .int .i64 1)]) (l := []) (by kernel_rfl) trivial ?_
    refine ge_nil fun a hF => hK377 _ _ ?_ a hF
    refine ue_succ fun K383 hK383 => ?_
    refine we_seq fun K384 hK384 => ?_
    refine we_region [(0, 0)] rfl ?_
    refine ge_batch [0] (ans := []) (vs := [(46, .bool true)]) (l := []) (by kernel_rfl) trivial ?_
    refine ge_nil fun a hF => hK384 _ _ ?_ a hF
    refine we_seq fun K385 hK385 => ?_
    refine we_true (by kernel_rfl) ?_
    refine we_skip fun a hF => hK385 _ _ ?_ a hF
    refine we_seq fun K386 hK386 => ?_
    refine we_block ?_
    refine we_seq fun K387 hK387 => ?_
    refine we_region [(0, 0), (1, 0), (2, 0), (3, 0), (4, 0)] rfl ?_
    refine ge_batch [0, 1, 2, 3, 4] (ans := [.val (.int .i64 2)]) (vs := [(9, .int .i64 2), (8, .int .i64 1), (49, .int .i64 2), (48, .pointer (some ⟨b9, 1, none⟩)), (47, .int .i64 1)]) (l := [.loaded ⟨b9, 1, none⟩ (.int .i64 2)]) (by kernel_rfl) ⟨hS15.cell 4 rfl rfl, trivial⟩ ?_
    refine ge_nil fun a hF => hK387 _ _ ?_ a hF
    refine we_seq fun K388 hK388 => ?_
    refine we_region [(0, 0), (1, 0), (2, 0), (3, 0)] rfl ?_
    refine ge_batch [0, 1, 2, 3] (ans := []) (vs := [(53, .bool false), (52, .int .i64 2), (51, .int .i64 1), (50, .int .i64 2)]) (l := []) (by kernel_rfl) trivial ?_
    refine ge_nil fun a hF => hK388 _ _ ?_ a hF
    refine we_false (by kernel_rfl) ?_
    refine we_skip fun a hF => hK386 _ _ ?_ a hF
    refine we_region [(0, 0), (1, 0)] rfl ?_
    refine ge_batch [0, 1] (ans := []) (vs := [(45, .int .i64 2), (54, .int .i64 2)]) (l := []) (by kernel_rfl) trivial ?_
    refine ge_nil fun a hF => hK383 _ _ ?_ a hF
    refine ue_succ fun K389 hK389 => ?_
    refine we_seq fun K390 hK390 => ?_
    refine we_region [(0, 0)] rfl ?_
    refine ge_batch [0] (ans := []) (vs := [(46, .bool true)]) (l := []) (by kernel_rfl) trivial ?_
    refine ge_nil fun a hF => hK390 _ _ ?_ a hF
    refine we_seq fun K391 hK391 => ?_
    refine we_true (by kernel_rfl) ?_
    refine we_skip fun a hF => hK391 _ _ ?_ a hF
    refine we_seq fun K392 hK392 => ?_
    refine we_block ?_
    refine we_seq fun K393 hK393 => ?_
    refine we_region [(0, 0), (1, 0), (2, 0), (3, 0), (4, 0)] rfl ?_
    refine ge_batch [0, 1, 2, 3, 4] (ans := [.val (.int .i64 3)]) (vs := [(9, .int .i64 3), (8, .int .i64 2), (49, .int .i64 3), (48, .pointer (some ⟨b9, 2, none⟩)), (47, .int .i64 2)]) (l := [.loaded ⟨b9, 2, none⟩ (.int .i64 3)]) (by kernel_rfl) ⟨hS15.cell 4 rfl rfl, trivial⟩ ?_
    refine ge_nil fun a hF => hK393 _ _ ?_ a hF
    refine we_seq fun K394 hK394 => ?_
    refine we_region [(0, 0), (1, 0), (2, 0), (3, 0)] rfl ?_
    refine ge_batch [0, 1, 2, 3] (ans := []) (vs := [(53, .bool false), (52, .int .i64 3), (51, .int .i64 2), (50, .int .i64 3)]) (l := []) (by kernel_rfl) trivial ?_
    refine ge_nil fun a hF => hK394 _ _ ?_ a hF
    refine we_false (by kernel_rfl) ?_
    refine we_skip fun a hF => hK392 _ _ ?_ a hF
    refine we_region [(0, 0), (1, 0)] rfl ?_
    refine ge_batch [0, 1] (ans := []) (vs := [(45, .int .i64 3), (54, .int .i64 3)]) (l := []) (by kernel_rfl) trivial ?_
    refine ge_nil fun a hF => hK389 _ _ ?_ a hF
    refine ue_succ fun K395 hK395 => ?_
    refine we_seq fun K396 hK396 => ?_
    refine we_region [(0, 0)] rfl ?_
    refine ge_batch [0] (ans := []) (vs := [(46, .bool false)]) (l := []) (by kernel_rfl) trivial ?_
    refine ge_nil fun a hF => hK396 _ _ ?_ a hF
    refine we_seq fun K397 hK397 => ?_
    refine we_false (by kernel_rfl) ?_
    refine we_exit fun a hF => hK374 _ _ ?_ a hF
    refine we_region [(0, 0), (1, 0)] rfl ?_
    refine ge_batch [0, 1] (ans := []) (vs := [(39, .int .i64 6), (55, .int .i64 6)]) (l := []) (by kernel_rfl) trivial ?_
    refine ge_nil fun a hF => hK371 _ _ ?_ a hF
    refine ue_succ fun K398 hK398 => ?_
    refine we_seq fun K399 hK399 => ?_
    refine we_region [(0, 0)] rfl ?_
    refine ge_batch [0] (ans := []) (vs := [(40, .bool true)]) (l := []) (by kernel_rfl) trivial ?_
    refine ge_nil fun a hF => hK399 _ _ ?_ a hF
    refine we_seq fun K400 hK400 => ?_
    refine we_true (by kernel_rfl) ?_
    refine we_skip fun a hF => hK400 _ _ ?_ a hF
    refine we_seq fun K401 hK401 => ?_
    refine we_block ?_
    refine we_seq fun K402 hK402 => ?_
    refine we_region [(0, 0), (1, 0), (2, 0)] rfl ?_
    refine ge_batch [0, 1, 2] (ans := [.val (.slice (some ⟨b10, 0, none⟩) 3 3)]) (vs := [(7, .slice (some ⟨b10, 0, none⟩) 3 3), (42, .slice (some ⟨b10, 0, none⟩) 3 3), (41, .pointer (some ⟨b13, 6, none⟩))]) (l := [.loaded ⟨b13, 6, none⟩ (.slice (some ⟨b10, 0, none⟩) 3 3)]) (by kernel_rfl) ⟨hS15.cell 0 rfl rfl, trivial⟩ ?_
    refine ge_nil fun a hF => hK402 _ _ ?_ a hF
    refine we_seq fun K403 hK403 => ?_
    refine we_region [(0, 0), (1, 0), (2, 0)] rfl ?_
    refine ge_batch [0, 1, 2] (ans := []) (vs := [(45, .int .i64 0), (44, .int .i64 3), (43, .slice (some ⟨b10, 0, none⟩) 3 3)]) (l := []) (by kernel_rfl) trivial ?_
    refine ge_nil fun a hF => hK403 _ _ ?_ a hF
    refine we_block ?_
    refine we_unroll 4 ?_
    refine ue_succ fun K404 hK404 => ?_
    refine we_seq fun K405 hK405 => ?_
    refine we_region [(0, 0)] rfl ?_
    refine ge_batch [0] (ans := []) (vs := [(46, .bool true)]) (l := []) (by kernel_rfl) trivial ?_
    refine ge_nil fun a hF => hK405 _ _ ?_ a hF
    refine we_seq fun K406 hK406 => ?_
    refine we_true (by kernel_rfl) ?_
    refine we_skip fun a hF => hK406 _ _ ?_ a hF
    refine we_seq fun K407 hK407 => ?_
    refine we_block ?_
    refine we_seq fun K408 hK408 => ?_
    refine we_region [(0, 0), (1, 0), (2, 0), (3, 0), (4, 0)] rfl ?_
    refine ge_batch [0, 1, 2, 3, 4] (ans := [.val (.int .i64 1)]) (vs := [(9, .int .i64 1), (8, .int .i64 0), (49, .int .i64 1), (48, .pointer (some ⟨b10, 0, none⟩)), (47, .int .i64 0)]) (l := [.loaded ⟨b10, 0, none⟩ (.int .i64 1)]) (by kernel_rfl) ⟨hS15.cell 3 rfl rfl, trivial⟩ ?_
    refine ge_nil fun a hF => hK408 _ _ ?_ a hF
    refine we_seq fun K409 hK409 => ?_
    refine we_region [(0, 0), (1, 0), (2, 0), (3, 0)] rfl ?_
    refine ge_batch [0, 1, 2, 3] (ans := []) (vs := [(53, .bool false), (52, .int .i64 1), (51, .int .i64 0), (50, .int .i64 1)]) (l := []) (by kernel_rfl) trivial ?_
    refine ge_nil fun a hF => hK409 _ _ ?_ a hF
    refine we_false (by kernel_rfl) ?_
    refine we_skip fun a hF => hK407 _ _ ?_ a hF
    refine we_region [(0, 0), (1, 0)] rfl ?_
    refine ge_batch [0, 1] (ans := []) (vs := [(45, .int .i64 1), (54, .int .i64 1)]) (l := []) (by kernel_rfl) trivial ?_
    refine ge_nil fun a hF => hK404 _ _ ?_ a hF
    refine ue_succ fun K410 hK410 => ?_
    refine we_seq fun K411 hK411 => ?_
    refine we_region [(0, 0)] rfl ?_
    refine ge_batch [0] (ans := []) (vs := [(46, .bool true)]) (l := []) (by kernel_rfl) trivial ?_
    refine ge_nil fun a hF => hK411 _ _ ?_ a hF
    refine we_seq fun K412 hK412 => ?_
    refine we_true (by kernel_rfl) ?_
    refine we_skip fun a hF => hK412 _ _ ?_ a hF
    refine we_seq fun K413 hK413 => ?_
    refine we_block ?_
    refine we_seq fun K414 hK414 => ?_
    refine we_region [(0, 0), (1, 0), (2, 0), (3, 0), (4, 0)] rfl ?_
    refine ge_batch [0, 1, 2, 3, 4] (ans := [.val (.int .i64 2)]) (vs := [(9, .int .i64 2), (8, .int .i64 1), (49, .int .i64 2), (48, .pointer (some ⟨b10, 1, none⟩)), (47, .int .i64 1)]) (l := [.loaded ⟨b10, 1, none⟩ (.int .i64 2)]) (by kernel_rfl) ⟨hS15.cell 3 rfl rfl, trivial⟩ ?_
    refine ge_nil fun a hF => hK414 _ _ ?_ a hF
    refine we_seq fun K415 hK415 => ?_
    refine we_region [(0, 0), (1, 0), (2, 0), (3, 0)] rfl ?_
    refine ge_batch [0, 1, 2, 3] (ans := []) (vs := [(53, .bool false), (52, .int .i64 2), (51, .int .i64 1), (50, .int .i64 2)]) (l := []) (by kernel_rfl) trivial ?_
    refine ge_nil fun a hF => hK415 _ _ ?_ a hF
    refine we_false (by kernel_rfl) ?_
    refine we_skip fun a hF => hK413 _ _ ?_ a hF
    refine we_region [(0, 0), (1, 0)] rfl ?_
    refine ge_batch [0, 1] (ans := []) (vs := [(45, .int .i64 2), (54, .int .i64 2)]) (l := []) (by kernel_rfl) trivial ?_
    refine ge_nil fun a hF => hK410 _ _ ?_ a hF
    refine ue_succ fun K416 hK416 => ?_
    refine we_seq fun K417 hK417 => ?_
    refine we_region [(0, 0)] rfl ?_
    refine ge_batch [0] (ans := []) (vs := [(46, .bool true)]) (l := []) (by kernel_rfl) trivial ?_
    refine ge_nil fun a hF => hK417 _ _ ?_ a hF
    refine we_seq fun K418 hK418 => ?_
    refine we_true (by kernel_rfl) ?_
    refine we_skip fun a hF => hK418 _ _ ?_ a hF
    refine we_seq fun K419 hK419 => ?_
    refine we_block ?_
    refine we_seq fun K420 hK420 => ?_
    refine we_region [(0, 0), (1, 0), (2, 0), (3, 0), (4, 0)] rfl ?_
    refine ge_batch [0, 1, 2, 3, 4] (ans := [.val (.int .i64 3)]) (vs := [(9, .int .i64 3), (8, .int .i64 2), (49, .int .i64 3), (48, .pointer (some ⟨b10, 2, none⟩)), (47, .int .i64 2)]) (l := [.loaded ⟨b10, 2, none⟩ (.int .i64 3)]) (by kernel_rfl) ⟨hS15.cell 3 rfl rfl, trivial⟩ ?_
    refine ge_nil fun a hF => hK420 _ _ ?_ a hF
    refine we_seq fun K421 hK421 => ?_
    refine we_region [(0, 0), (1, 0), (2, 0), (3, 0)] rfl ?_
    refine ge_batch [0, 1, 2, 3] (ans := []) (vs := [(53, .bool false), (52, .int .i64 3), (51, .int .i64 2), (50, .int .i64 3)]) (l := []) (by kernel_rfl) trivial ?_
    refine ge_nil fun a hF => hK421 _ _ ?_ a hF
    refine we_false (by kernel_rfl) ?_
    refine we_skip fun a hF => hK419 _ _ ?_ a hF
    refine we_region [(0, 0), (1, 0)] rfl ?_
    refine ge_batch [0, 1] (ans := []) (vs := [(45, .int .i64 3), (54, .int .i64 3)]) (l := []) (by kernel_rfl) trivial ?_
    refine ge_nil fun a hF => hK416 _ _ ?_ a hF
    refine ue_succ fun K422 hK422 => ?_
    refine we_seq fun K423 hK423 => ?_
    refine we_region [(0, 0)] rfl ?_
    refine ge_batch [0] (ans := []) (vs := [(46, .bool false)]) (l := []) (by kernel_rfl) trivial ?_
    refine ge_nil fun a hF => hK423 _ _ ?_ a hF
    refine we_seq fun K424 hK424 => ?_
    refine we_false (by kernel_rfl) ?_
    refine we_exit fun a hF => hK401 _ _ ?_ a hF
    refine we_region [(0, 0), (1, 0)] rfl ?_
    refine ge_batch [0, 1] (ans := []) (vs := [(39, .int .i64 7), (55, .int .i64 7)]) (l := []) (by kernel_rfl) trivial ?_
    refine ge_nil fun a hF => hK398 _ _ ?_ a hF
    refine ue_succ fun K425 hK425 => ?_
    refine we_seq fun K426 hK426 => ?_
    refine we_region [(0, 0)] rfl ?_
    refine ge_batch [0] (ans := []) (vs := [(40, .bool true)]) (l := []) (by kernel_rfl) trivial ?_
    refine ge_nil fun a hF => hK426 _ _ ?_ a hF
    refine we_seq fun K427 hK427 => ?_
    refine we_true (by kernel_rfl) ?_
    refine we_skip fun a hF => hK427 _ _ ?_ a hF
    refine we_seq fun K428 hK428 => ?_
    refine we_block ?_
    refine we_seq fun K429 hK429 => ?_
    refine we_region [(0, 0), (1, 0), (2, 0)] rfl ?_
    refine ge_batch [0, 1, 2] (ans := [.val (.slice (some ⟨b11, 0, none⟩) 3 3)]) (vs := [(7, .slice (some ⟨b11, 0, none⟩) 3 3), (42, .slice (some ⟨b11, 0, none⟩) 3 3), (41, .pointer (some ⟨b13, 7, none⟩))]) (l := [.loaded ⟨b13, 7, none⟩ (.slice (some ⟨b11, 0, none⟩) 3 3)]) (by kernel_rfl) ⟨hS15.cell 0 rfl rfl, trivial⟩ ?_
    refine ge_nil fun a hF => hK429 _ _ ?_ a hF
    refine we_seq fun K430 hK430 => ?_
    refine we_region [(0, 0), (1, 0), (2, 0)] rfl ?_
    refine ge_batch [0, 1, 2] (ans := []) (vs := [(45, .int .i64 0), (44, .int .i64 3), (43, .slice (some ⟨b11, 0, none⟩) 3 3)]) (l := []) (by kernel_rfl) trivial ?_
    refine ge_nil fun a hF => hK430 _ _ ?_ a hF
    refine we_block ?_
    refine we_unroll 4 ?_
    refine ue_succ fun K431 hK431 => ?_
    refine we_seq fun K432 hK432 => ?_
    refine we_region [(0, 0)] rfl ?_
    refine ge_batch [0] (ans := []) (vs := [(46, .bool true)]) (l := []) (by kernel_rfl) trivial ?_
    refine ge_nil fun a hF => hK432 _ _ ?_ a hF
    refine we_seq fun K433 hK433 => ?_
    refine we_true (by kernel_rfl) ?_
    refine we_skip fun a hF => hK433 _ _ ?_ a hF
    refine we_seq fun K434 hK434 => ?_
    refine we_block ?_
    refine we_seq fun K435 hK435 => ?_
    refine we_region [(0, 0), (1, 0), (2, 0), (3, 0), (4, 0)] rfl ?_
    refine ge_batch [0, 1, 2, 3, 4] (ans := [.val (.int .i64 1)]) (vs := [(9, .int .i64 1), (8, .int .i64 0), (49, .int .i64 1), (48, .pointer (some ⟨b11, 0, none⟩)), (47, .int .i64 0)]) (l := [.loaded ⟨b11, 0, none⟩ (.int .i64 1)]) (by kernel_rfl) ⟨hS15.cell 2 rfl rfl, trivial⟩ ?_
    refine ge_nil fun a hF => hK435 _ _ ?_ a hF
    refine we_seq fun K436 hK436 => ?_
    refine we_region [(0, 0), (1, 0), (2, 0), (3, 0)] rfl ?_
    refine ge_batch [0, 1, 2, 3] (ans := []) (vs := [(53, .bool false), (52, .int .i64 1), (51, .int .i64 0), (50, .int .i64 1)]) (l := []) (by kernel_rfl) trivial ?_
    refine ge_nil fun a hF => hK436 _ _ ?_ a hF
    refine we_false (by kernel_rfl) ?_
    refine we_skip fun a hF => hK434 _ _ ?_ a hF
    refine we_region [(0, 0), (1, 0)] rfl ?_
    refine ge_batch [0, 1] (ans := []) (vs := [(45, .int .i64 1), (54, .int .i64 1)]) (l := []) (by kernel_rfl) trivial ?_
    refine ge_nil fun a hF => hK431 _ _ ?_ a hF
    refine ue_succ fun K437 hK437 => ?_
    refine we_seq fun K438 hK438 => ?_
    refine we_region [(0, 0)] rfl ?_
    refine ge_batch [0] (ans := []) (vs := [(46, .bool true)]) (l := []) (by kernel_rfl) trivial ?_
    refine ge_nil fun a hF => hK438 _ _ ?_ a hF
    refine we_seq fun K439 hK439 => ?_
    refine we_true (by kernel_rfl) ?_
    refine we_skip fun a hF => hK439 _ _ ?_ a hF
    refine we_seq fun K440 hK440 => ?_
    refine we_block ?_
    refine we_seq fun K441 hK441 => ?_
    refine we_region [(0, 0), (1, 0), (2, 0), (3, 0), (4, 0)] rfl ?_
    refine ge_batch [0, 1, 2, 3, 4] (ans := [.val (.int .i64 2)]) (vs := [(9, .int .i64 2), (8, .int .i64 1), (49, .int .i64 2), (48, .pointer (some ⟨b11, 1, none⟩)), (47, .int .i64 1)]) (l := [.loaded ⟨b11, 1, none⟩ (.int .i64 2)]) (by kernel_rfl) ⟨hS15.cell 2 rfl rfl, trivial⟩ ?_
    refine ge_nil fun a hF => hK441 _ _ ?_ a hF
    refine we_seq fun K442 hK442 => ?_
    refine we_region [(0, 0), (1, 0), (2, 0), (3, 0)] rfl ?_
    refine ge_batch [0, 1, 2, 3] (ans := []) (vs := [(53, .bool false), (52, .int .i64 2), (51, .int .i64 1), (50, .int .i64 2)]) (l := []) (by kernel_rfl) trivial ?_
    refine ge_nil fun a hF => hK442 _ _ ?_ a hF
    refine we_false (by kernel_rfl) ?_
    refine we_skip fun a hF => hK440 _ _ ?_ a hF
    refine we_region [(0, 0), (1, 0)] rfl ?_
    refine ge_batch [0, 1] (ans := []) (vs := [(45, .int .i64 2), (54, .int .i64 2)]) (l := []) (by kernel_rfl) trivial ?_
    refine ge_nil fun a hF => hK437 _ _ ?_ a hF
    refine ue_succ fun K443 hK443 => ?_
    refine we_seq fun K444 hK444 => ?_
    refine we_region [(0, 0)] rfl ?_
    refine ge_batch [0] (ans := []) (vs := [(46, .bool true)]) (l := []) (by kernel_rfl) trivial ?_
    refine ge_nil fun a hF => hK444 _ _ ?_ a hF
    refine we_seq fun K445 hK445 => ?_
    refine we_true (by kernel_rfl) ?_
    refine we_skip fun a hF => hK445 _ _ ?_ a hF
    refine we_seq fun K446 hK446 => ?_
    refine we_block ?_
    refine we_seq fun K447 hK447 => ?_
    refine we_region [(0, 0), (1, 0), (2, 0), (3, 0), (4, 0)] rfl ?_
    refine ge_batch [0, 1, 2, 3, 4] (ans := [.val (.int .i64 3)]) (vs := [(9, .int .i64 3), (8, .int .i64 2), (49, .int .i64 3), (48, .pointer (some ⟨b11, 2, none⟩)), (47, .int .i64 2)]) (l := [.loaded ⟨b11, 2, none⟩ (.int .i64 3)]) (by kernel_rfl) ⟨hS15.cell 2 rfl rfl, trivial⟩ ?_
    refine ge_nil fun a hF => hK447 _ _ ?_ a hF
    refine we_seq fun K448 hK448 => ?_
    refine we_region [(0, 0), (1, 0), (2, 0), (3, 0)] rfl ?_
    refine ge_batch [0, 1, 2, 3] (ans := []) (vs := [(53, .bool false), (52, .int .i64 3), (51, .int .i64 2), (50, .int .i64 3)]) (l := []) (by kernel_rfl) trivial ?_
    refine ge_nil fun a hF => hK448 _ _ ?_ a hF
    refine we_false (by kernel_rfl) ?_
    refine we_skip fun a hF => hK446 _ _ ?_ a hF
    refine we_region [(0, 0), (1, 0)] rfl ?_
    refine ge_batch [0, 1] (ans := []) (vs := [(45, .int .i64 3), (54, .int .i64 3)]) (l := []) (by kernel_rfl) trivial ?_
    refine ge_nil fun a hF => hK443 _ _ ?_ a hF
    refine ue_succ fun K449 hK449 => ?_
    refine we_seq fun K450 hK450 => ?_
    refine we_region [(0, 0)] rfl ?_
    refine ge_batch [0] (ans := []) (vs := [(46, .bool false)]) (l := []) (by kernel_rfl) trivial ?_
    refine ge_nil fun a hF => hK450 _ _ ?_ a hF
    refine we_seq fun K451 hK451 => ?_
    refine we_false (by kernel_rfl) ?_
    refine we_exit fun a hF => hK428 _ _ ?_ a hF
    refine we_region [(0, 0), (1, 0)] rfl ?_
    refine ge_batch [0, 1] (ans := []) (vs := [(39, .int .i64 8), (55, .int .i64 8)]) (l := []) (by kernel_rfl) trivial ?_
    refine ge_nil fun a hF => hK425 _ _ ?_ a hF
    refine ue_succ fun K452 hK452 => ?_
    refine we_seq fun K453 hK453 => ?_
    refine we_region [(0, 0)] rfl ?_
    refine ge_batch [0] (ans := []) (vs := [(40, .bool true)]) (l := []) (by kernel_rfl) trivial ?_
    refine ge_nil fun a hF => hK453 _ _ ?_ a hF
    refine we_seq fun K454 hK454 => ?_
    refine we_true (by kernel_rfl) ?_
    refine we_skip fun a hF => hK454 _ _ ?_ a hF
    refine we_seq fun K455 hK455 => ?_
    refine we_block ?_
    refine we_seq fun K456 hK456 => ?_
    refine we_region [(0, 0), (1, 0), (2, 0)] rfl ?_
    refine ge_batch [0, 1, 2] (ans := [.val (.slice (some ⟨b12, 0, none⟩) 6 6)]) (vs := [(7, .slice (some ⟨b12, 0, none⟩) 6 6), (42, .slice (some ⟨b12, 0, none⟩) 6 6), (41, .pointer (some ⟨b13, 8, none⟩))]) (l := [.loaded ⟨b13, 8, none⟩ (.slice (some ⟨b12, 0, none⟩) 6 6)]) (by kernel_rfl) ⟨hS15.cell 0 rfl rfl, trivial⟩ ?_
    refine ge_nil fun a hF => hK456 _ _ ?_ a hF
    refine we_seq fun K457 hK457 => ?_
    refine we_region [(0, 0), (1, 0), (2, 0)] rfl ?_
    refine ge_batch [0, 1, 2] (ans := []) (vs := [(45, .int .i64 0), (44, .int .i64 6), (43, .slice (some ⟨b12, 0, none⟩) 6 6)]) (l := []) (by kernel_rfl) trivial ?_
    refine ge_nil fun a hF => hK457 _ _ ?_ a hF
    refine we_block ?_
    refine we_unroll 7 ?_
    refine ue_succ fun K458 hK458 => ?_
    refine we_seq fun K459 hK459 => ?_
    refine we_region [(0, 0)] rfl ?_
    refine ge_batch [0] (ans := []) (vs := [(46, .bool true)]) (l := []) (by kernel_rfl) trivial ?_
    refine ge_nil fun a hF => hK459 _ _ ?_ a hF
    refine we_seq fun K460 hK460 => ?_
    refine we_true (by kernel_rfl) ?_
    refine we_skip fun a hF => hK460 _ _ ?_ a hF
    refine we_seq fun K461 hK461 => ?_
    refine we_block ?_
    refine we_seq fun K462 hK462 => ?_
    refine we_region [(0, 0), (1, 0), (2, 0), (3, 0), (4, 0)] rfl ?_
    refine ge_batch [0, 1, 2, 3, 4] (ans := [.val (.int .i64 1)]) (vs := [(9, .int .i64 1), (8, .int .i64 0), (49, .int .i64 1), (48, .pointer (some ⟨b12, 0, none⟩)), (47, .int .i64 0)]) (l := [.loaded ⟨b12, 0, none⟩ (.int .i64 1)]) (by kernel_rfl) ⟨hS15.cell 1 rfl rfl, trivial⟩ ?_
    refine ge_nil fun a hF => hK462 _ _ ?_ a hF
    refine we_seq fun K463 hK463 => ?_
    refine we_region [(0, 0), (1, 0), (2, 0), (3, 0)] rfl ?_
    refine ge_batch [0, 1, 2, 3] (ans := []) (vs := [(53, .bool false), (52, .int .i64 1), (51, .int .i64 0), (50, .int .i64 1)]) (l := []) (by kernel_rfl) trivial ?_
    refine ge_nil fun a hF => hK463 _ _ ?_ a hF
    refine we_false (by kernel_rfl) ?_
    refine we_skip fun a hF => hK461 _ _ ?_ a hF
    refine we_region [(0, 0), (1, 0)] rfl ?_
    refine ge_batch [0, 1] (ans := []) (vs := [(45, .int .i64 1), (54, .int .i64 1)]) (l := []) (by kernel_rfl) trivial ?_
    refine ge_nil fun a hF => hK458 _ _ ?_ a hF
    refine ue_succ fun K464 hK464 => ?_
    refine we_seq fun K465 hK465 => ?_
    refine we_region [(0, 0)] rfl ?_
    refine ge_batch [0] (ans := []) (vs := [(46, .bool true)]) (l := []) (by kernel_rfl) trivial ?_
    refine ge_nil fun a hF => hK465 _ _ ?_ a hF
    refine we_seq fun K466 hK466 => ?_
    refine we_true (by kernel_rfl) ?_
    refine we_skip fun a hF => hK466 _ _ ?_ a hF
    refine we_seq fun K467 hK467 => ?_
    refine we_block ?_
    refine we_seq fun K468 hK468 => ?_
    refine we_region [(0, 0), (1, 0), (2, 0), (3, 0), (4, 0)] rfl ?_
    refine ge_batch [0, 1, 2, 3, 4] (ans := [.val (.int .i64 2)]) (vs := [(9, .int .i64 2), (8, .int .i64 1), (49, .int .i64 2), (48, .pointer (some ⟨b12, 1, none⟩)), (47, .int .i64 1)]) (l := [.loaded ⟨b12, 1, none⟩ (.int .i64 2)]) (by kernel_rfl) ⟨hS15.cell 1 rfl rfl, trivial⟩ ?_
    refine ge_nil fun a hF => hK468 _ _ ?_ a hF
    refine we_seq fun K469 hK469 => ?_
    refine we_region [(0, 0), (1, 0), (2, 0), (3, 0)] rfl ?_
    refine ge_batch [0, 1, 2, 3] (ans := []) (vs := [(53, .bool false), (52, .int .i64 2), (51, .int .i64 1), (50, .int .i64 2)]) (l := []) (by kernel_rfl) trivial ?_
    refine ge_nil fun a hF => hK469 _ _ ?_ a hF
    refine we_false (by kernel_rfl) ?_
    refine we_skip fun a hF => hK467 _ _ ?_ a hF
    refine we_region [(0, 0), (1, 0)] rfl ?_
    refine ge_batch [0, 1] (ans := []) (vs := [(45, .int .i64 2), (54, .int .i64 2)]) (l := []) (by kernel_rfl) trivial ?_
    refine ge_nil fun a hF => hK464 _ _ ?_ a hF
    refine ue_succ fun K470 hK470 => ?_
    refine we_seq fun K471 hK471 => ?_
    refine we_region [(0, 0)] rfl ?_
    refine ge_batch [0] (ans := []) (vs := [(46, .bool true)]) (l := []) (by kernel_rfl) trivial ?_
    refine ge_nil fun a hF => hK471 _ _ ?_ a hF
    refine we_seq fun K472 hK472 => ?_
    refine we_true (by kernel_rfl) ?_
    refine we_skip fun a hF => hK472 _ _ ?_ a hF
    refine we_seq fun K473 hK473 => ?_
    refine we_block ?_
    refine we_seq fun K474 hK474 => ?_
    refine we_region [(0, 0), (1, 0), (2, 0), (3, 0), (4, 0)] rfl ?_
    refine ge_batch [0, 1, 2, 3, 4] (ans := [.val (.int .i64 3)]) (vs := [(9, .int .i64 3), (8, .int .i64 2), (49, .int .i64 3), (48, .pointer (some ⟨b12, 2, none⟩)), (47, .int .i64 2)]) (l := [.loaded ⟨b12, 2, none⟩ (.int .i64 3)]) (by kernel_rfl) ⟨hS15.cell 1 rfl rfl, trivial⟩ ?_
    refine ge_nil fun a hF => hK474 _ _ ?_ a hF
    refine we_seq fun K475 hK475 => ?_
    refine we_region [(0, 0), (1, 0), (2, 0), (3, 0)] rfl ?_
    refine ge_batch [0, 1, 2, 3] (ans := []) (vs := [(53, .bool false), (52, .int .i64 3), (51, .int .i64 2), (50, .int .i64 3)]) (l := []) (by kernel_rfl) trivial ?_
    refine ge_nil fun a hF => hK475 _ _ ?_ a hF
    refine we_false (by kernel_rfl) ?_
    refine we_skip fun a hF => hK473 _ _ ?_ a hF
    refine we_region [(0, 0), (1, 0)] rfl ?_
    refine ge_batch [0, 1] (ans := []) (vs := [(45, .int .i64 3), (54, .int .i64 3)]) (l := []) (by kernel_rfl) trivial ?_
    refine ge_nil fun a hF => hK470 _ _ ?_ a hF
    refine ue_succ fun K476 hK476 => ?_
    refine we_seq fun K477 hK477 => ?_
    refine we_region [(0, 0)] rfl ?_
    refine ge_batch [0] (ans := []) (vs := [(46, .bool true)]) (l := []) (by kernel_rfl) trivial ?_
    refine ge_nil fun a hF => hK477 _ _ ?_ a hF
    refine we_seq fun K478 hK478 => ?_
    refine we_true (by kernel_rfl) ?_
    refine we_skip fun a hF => hK478 _ _ ?_ a hF
    refine we_seq fun K479 hK479 => ?_
    refine we_block ?_
    refine we_seq fun K480 hK480 => ?_
    refine we_region [(0, 0), (1, 0), (2, 0), (3, 0), (4, 0)] rfl ?_
    refine ge_batch [0, 1, 2, 3, 4] (ans := [.val (.int .i64 4)]) (vs := [(9, .int .i64 4), (8, .int .i64 3), (49, .int .i64 4), (48, .pointer (some ⟨b12, 3, none⟩)), (47, .int .i64 3)]) (l := [.loaded ⟨b12, 3, none⟩ (.int .i64 4)]) (by kernel_rfl) ⟨hS15.cell 1 rfl rfl, trivial⟩ ?_
    refine ge_nil fun a hF => hK480 _ _ ?_ a hF
    refine we_seq fun K481 hK481 => ?_
    refine we_region [(0, 0), (1, 0), (2, 0), (3, 0)] rfl ?_
    refine ge_batch [0, 1, 2, 3] (ans := []) (vs := [(53, .bool false), (52, .int .i64 4), (51, .int .i64 3), (50, .int .i64 4)]) (l := []) (by kernel_rfl) trivial ?_
    refine ge_nil fun a hF => hK481 _ _ ?_ a hF
    refine we_false (by kernel_rfl) ?_
    refine we_skip fun a hF => hK479 _ _ ?_ a hF
    refine we_region [(0, 0), (1, 0)] rfl ?_
    refine ge_batch [0, 1] (ans := []) (vs := [(45, .int .i64 4), (54, .int .i64 4)]) (l := []) (by kernel_rfl) trivial ?_
    refine ge_nil fun a hF => hK476 _ _ ?_ a hF
    refine ue_succ fun K482 hK482 => ?_
    refine we_seq fun K483 hK483 => ?_
    refine we_region [(0, 0)] rfl ?_
    refine ge_batch [0] (ans := []) (vs := [(46, .bool true)]) (l := []) (by kernel_rfl) trivial ?_
    refine ge_nil fun a hF => hK483 _ _ ?_ a hF
    refine we_seq fun K484 hK484 => ?_
    refine we_true (by kernel_rfl) ?_
    refine we_skip fun a hF => hK484 _ _ ?_ a hF
    refine we_seq fun K485 hK485 => ?_
    refine we_block ?_
    refine we_seq fun K486 hK486 => ?_
    refine we_region [(0, 0), (1, 0), (2, 0), (3, 0), (4, 0)] rfl ?_
    refine ge_batch [0, 1, 2, 3, 4] (ans := [.val (.int .i64 5)]) (vs := [(9, .int .i64 5), (8, .int .i64 4), (49, .int .i64 5), (48, .pointer (some ⟨b12, 4, none⟩)), (47, .int .i64 4)]) (l := [.loaded ⟨b12, 4, none⟩ (.int .i64 5)]) (by kernel_rfl) ⟨hS15.cell 1 rfl rfl, trivial⟩ ?_
    refine ge_nil fun a hF => hK486 _ _ ?_ a hF
    refine we_seq fun K487 hK487 => ?_
    refine we_region [(0, 0), (1, 0), (2, 0), (3, 0)] rfl ?_
    refine ge_batch [0, 1, 2, 3] (ans := []) (vs := [(53, .bool false), (52, .int .i64 5), (51, .int .i64 4), (50, .int .i64 5)]) (l := []) (by kernel_rfl) trivial ?_
    refine ge_nil fun a hF => hK487 _ _ ?_ a hF
    refine we_false (by kernel_rfl) ?_
    refine we_skip fun a hF => hK485 _ _ ?_ a hF
    refine we_region [(0, 0), (1, 0)] rfl ?_
    refine ge_batch [0, 1] (ans := []) (vs := [(45, .int .i64 5), (54, .int .i64 5)]) (l := []) (by kernel_rfl) trivial ?_
    refine ge_nil fun a hF => hK482 _ _ ?_ a hF
    refine ue_succ fun K488 hK488 => ?_
    refine we_seq fun K489 hK489 => ?_
    refine we_region [(0, 0)] rfl ?_
    refine ge_batch [0] (ans := []) (vs := [(46, .bool true)]) (l := []) (by kernel_rfl) trivial ?_
    refine ge_nil fun a hF => hK489 _ _ ?_ a hF
    refine we_seq fun K490 hK490 => ?_
    refine we_true (by kernel_rfl) ?_
    refine we_skip fun a hF => hK490 _ _ ?_ a hF
    refine we_seq fun K491 hK491 => ?_
    refine we_block ?_
    refine we_seq fun K492 hK492 => ?_
    refine we_region [(0, 0), (1, 0), (2, 0), (3, 0), (4, 0)] rfl ?_
    refine ge_batch [0, 1, 2, 3, 4] (ans := [.val (.int .i64 6)]) (vs := [(9, .int .i64 6), (8, .int .i64 5), (49, .int .i64 6), (48, .pointer (some ⟨b12, 5, none⟩)), (47, .int .i64 5)]) (l := [.loaded ⟨b12, 5, none⟩ (.int .i64 6)]) (by kernel_rfl) ⟨hS15.cell 1 rfl rfl, trivial⟩ ?_
    refine ge_nil fun a hF => hK492 _ _ ?_ a hF
    refine we_seq fun K493 hK493 => ?_
    refine we_region [(0, 0), (1, 0), (2, 0), (3, 0)] rfl ?_
    refine ge_batch [0, 1, 2, 3] (ans := []) (vs := [(53, .bool false), (52, .int .i64 6), (51, .int .i64 5), (50, .int .i64 6)]) (l := []) (by kernel_rfl) trivial ?_
    refine ge_nil fun a hF => hK493 _ _ ?_ a hF
    refine we_false (by kernel_rfl) ?_
    refine we_skip fun a hF => hK491 _ _ ?_ a hF
    refine we_region [(0, 0), (1, 0)] rfl ?_
    refine ge_batch [0, 1] (ans := []) (vs := [(45, .int .i64 6), (54, .int .i64 6)]) (l := []) (by kernel_rfl) trivial ?_
    refine ge_nil fun a hF => hK488 _ _ ?_ a hF
    refine ue_succ fun K494 hK494 => ?_
    refine we_seq fun K495 hK495 => ?_
    refine we_region [(0, 0)] rfl ?_
    refine ge_batch [0] (ans := []) (vs := [(46, .bool false)]) (l := []) (by kernel_rfl) trivial ?_
    refine ge_nil fun a hF => hK495 _ _ ?_ a hF
    refine we_seq fun K496 hK496 => ?_
    refine we_false (by kernel_rfl) ?_
    refine we_exit fun a hF => hK455 _ _ ?_ a hF
    refine we_region [(0, 0), (1, 0)] rfl ?_
    refine ge_batch [0, 1] (ans := []) (vs := [(39, .int .i64 9), (55, .int .i64 9)]) (l := []) (by kernel_rfl) trivial ?_
    refine ge_nil fun a hF => hK452 _ _ ?_ a hF
    refine ue_succ fun K497 hK497 => ?_
    refine we_seq fun K498 hK498 => ?_
    refine we_region [(0, 0)] rfl ?_
    refine ge_batch [0] (ans := []) (vs := [(40, .bool false)]) (l := []) (by kernel_rfl) trivial ?_
    refine ge_nil fun a hF => hK498 _ _ ?_ a hF
    refine we_seq fun K499 hK499 => ?_
    refine we_false (by kernel_rfl) ?_
    refine we_exit fun a hF => hK96 _ _ ?_ a hF
    refine we_seq fun K500 hK500 => ?_
    refine we_region [(0, 0)] rfl ?_
    refine ge_batch [0] (ans := []) (vs := [(0, .bool true)]) (l := []) (by kernel_rfl) trivial ?_
    refine ge_nil fun a hF => hK500 _ _ ?_ a hF
    have hS16 : St w0 w14 [] := hS15.takeN 0
    obtain rfl := Option.some.inj h
    exact we_ret (post_ret (rs := [.tmp 0]) (ans := []) (vs := [.bool true]) (l := []) rfl (by kernel_rfl) trivial ⟨rfl, hS16⟩)
  · rw [if_neg hc1] at h
    refine we_known (t := 26) (b := !r1) (v := true) (by kernel_rfl) (congrArg (fun z => !z) (Bool.eq_false_iff.2 hc1)) ?_
    refine we_true (by kernel_rfl) ?_
    refine we_seq fun K501 hK501 => ?_
    refine we_region [(0, 0)] rfl ?_
    refine ge_batch [0] (ans := []) (vs := [(0, .bool false)]) (l := []) (by kernel_rfl) trivial ?_
    refine ge_nil fun a hF => hK501 _ _ ?_ a hF
    have hS17 : St w0 w4 [] := hS5.takeN 0
    obtain rfl := Option.some.inj h
    exact we_ret (post_ret (rs := [.tmp 0]) (ans := []) (vs := [.bool false]) (l := []) rfl (by kernel_rfl) trivial ⟨rfl, hS17⟩)

end Go.Proofs.Ytnckikjcjgmdlaa.GV
