/- Walks of single functions, written by a program of this work. -/
import Derived.Test.YtchcdadpahakfaaDoorGv33
import Derived.Test.YtchcdadpahakfaaDoorProg
import Derived.Test.YtchcdadpahakfaaDoorGv43
namespace Go.Proofs.YtchcdadpahakfaaDoor.GV
open Go Go.RowKit
set_option linter.unusedVariables false
set_option linter.unusedSimpArgs false
set_option maxRecDepth 100000

structure SCrit where
  C : Int
  H : Int
  T : Int
  D : Int
  High : Bool
  P : Int
def SCrit.eqb (x y : SCrit) : Bool := ((x.C == y.C) && ((x.H == y.H) && ((x.T == y.T) && ((x.D == y.D) && ((x.High == y.High) && ((x.P == y.P) && true))))))
instance : Ok SCrit := ⟨fun x => Ok.ok x.C ∧ Ok.ok x.H ∧ Ok.ok x.T ∧ Ok.ok x.D ∧ Ok.ok x.High ∧ Ok.ok x.P ∧ True⟩
instance : Flat SCrit := ⟨6, fun x => [.int .i64 x.C, .int .i64 x.H, .int .i64 x.T, .int .i64 x.D, .bool x.High, .int .i64 x.P], fun _ => rfl, fun _ => rfl, by decide⟩

/-! punctual/punctuallaw.two -/
abbrev two.Post (w0 : World) (r : List SCrit) (e : Ending) (w : World) : Prop := ∃ (v0 : Value), e = .returned (v0) ∧ St w0 w [Own.of v0 27 r]
def two.f : List SCrit :=
  ([(⟨1, 2, 5, 5, true, 2⟩ : SCrit), (⟨2, 2, 6, 6, false, 3⟩ : SCrit)] : List SCrit)
theorem two_ok  (w0 : World) (r : List SCrit) (h : two.f = r) :
    Calls Tryd.prog 37 #[] w0 (two.Post w0 r) := by
  have hS := St.start w0
  unfold two.f at h
  refine calls_enter (n := 4) (args := []) (fn := Tryd.f37) rfl rfl rfl rfl ?_
  show WE _ _ _ _ [] _
  refine we_seq fun K1 hK1 => ?_
  refine we_region [(0, 0)] rfl ?_
  refine ge_batch [0] (ans := []) (vs := [(0, .slice none 0 0)]) (l := []) (by kernel_rfl) trivial ?_
  refine ge_nil fun a hF => hK1 _ _ ?_ a hF
  refine we_seq fun K2 hK2 => ?_
  refine we_region [(0, 0), (1, 0), (2, 1), (3, 0)] rfl ?_
  refine ge_batch [0, 1] (ans := []) (vs := [(2, .agg #[.int .i64 2, .int .i64 2, .int .i64 6, .int .i64 6, .bool false, .int .i64 3]), (1, .agg #[.int .i64 1, .int .i64 2, .int .i64 5, .int .i64 5, .bool true, .int .i64 2])]) (l := []) (by kernel_rfl) trivial ?_
  refine ge_new (d := some 3) (o := .cells #[.int .i64 1, .int .i64 2, .int .i64 5, .int .i64 5, .bool true, .int .i64 2, .int .i64 2, .int .i64 2, .int .i64 6, .int .i64 6, .bool false, .int .i64 3] 27) (v := fun b => .slice (some ⟨b, 0, none⟩) 2 2) hS (fun b => by kernel_rfl) fun b1 w1 hx1 hS1 => ?_
  refine ge_batch [3] (ans := []) (vs := [(0, .slice (some ⟨b1, 0, none⟩) 2 2)]) (l := []) (by kernel_rfl) trivial ?_
  refine ge_nil fun a hF => hK2 _ _ ?_ a hF
  have hS2 := hS1.asRow (α := SCrit) (c := 2) ([(⟨1, 2, 5, 5, true, 2⟩ : SCrit), (⟨2, 2, 6, 6, false, 3⟩ : SCrit)] : List SCrit) (Nat.le_refl _) (by decide) rfl rfl
  subst h
  exact we_ret (post_ret (rs := [.tmp 0]) (ans := []) (vs := [(.slice (some ⟨b1, 0, none⟩) 2 2)]) (l := []) rfl (by kernel_rfl) trivial ⟨(.slice (some ⟨b1, 0, none⟩) 2 2), rfl, hS2⟩)

/-! punctual/modes.Check$1 -/
abbrev modes_Check_1.Post (w0 : World) (r : Bool) (e : Ending) (w : World) : Prop := e = .returned (.bool r) ∧ St w0 w []
def modes_Check_1.f (x0 : SCrit) (xf_0 : SCrit) : Bool :=
  (x0.P == xf_0.P)
theorem modes_Check_1_ok (x0 : SCrit) (bf_0 : Nat) (xf_0 : SCrit) (w0 : World) (hBf_0 : Glob w0 bf_0 [.int .i64 xf_0.C, .int .i64 xf_0.H, .int .i64 xf_0.T, .int .i64 xf_0.D, .bool xf_0.High, .int .i64 xf_0.P]) (r : Bool) (h : modes_Check_1.f x0 xf_0 = r) :
    Calls Tryd.prog 46 #[.agg #[.int .i64 x0.C, .int .i64 x0.H, .int .i64 x0.T, .int .i64 x0.D, .bool x0.High, .int .i64 x0.P], .pointer (some ⟨bf_0, 0, none⟩)] w0 (modes_Check_1.Post w0 r) := by
  have hS := St.start w0
  unfold modes_Check_1.f at h
  refine calls_enter (n := 9) (args := [.agg #[.int .i64 x0.C, .int .i64 x0.H, .int .i64 x0.T, .int .i64 x0.D, .bool x0.High, .int .i64 x0.P], .pointer (some ⟨bf_0, 0, none⟩)]) (fn := Tryd.f46) rfl rfl rfl rfl ?_
  show WE _ _ _ _ [(0, .agg #[.int .i64 x0.C, .int .i64 x0.H, .int .i64 x0.T, .int .i64 x0.D, .bool x0.High, .int .i64 x0.P]), (1, .pointer (some ⟨bf_0, 0, none⟩))] _
  refine we_seq fun K1 hK1 => ?_
  refine we_region [(0, 1), (1, 0)] rfl ?_
  refine ge_new (d := some 2) (o := .cells #[.int .i64 x0.C, .int .i64 x0.H, .int .i64 x0.T, .int .i64 x0.D, .bool x0.High, .int .i64 x0.P] 27) (v := fun b => .pointer (some ⟨b, 0, none⟩)) hS (fun b => by kernel_rfl) fun b1 w1 hx1 hS1 => ?_
  refine ge_batch [1] (ans := []) (vs := [(3, .bool false)]) (l := []) (by kernel_rfl) trivial ?_
  refine ge_nil fun a hF => hK1 _ _ ?_ a hF
  refine we_seq fun K2 hK2 => ?_
  refine we_region [(0, 0), (1, 0), (2, 0), (3, 0), (4, 0), (5, 0)] rfl ?_
  refine ge_batch [0, 1, 2, 3, 4, 5] (ans := [.val (.int .i64 x0.P), .val (.int .i64 xf_0.P)]) (vs := [(3, .bool (x0.P == xf_0.P)), (8, .bool (x0.P == xf_0.P)), (7, .int .i64 xf_0.P), (6, .pointer (some ⟨bf_0, 5, none⟩)), (5, .int .i64 x0.P), (4, .pointer (some ⟨b1, 5, none⟩))]) (l := [.loaded ⟨b1, 5, none⟩ (.int .i64 x0.P), .loaded ⟨bf_0, 5, none⟩ (.int .i64 xf_0.P)]) (by kernel_rfl) ⟨hS1.cell 0 rfl rfl, hS1.glob hBf_0 rfl, trivial⟩ ?_
  refine ge_nil fun a hF => hK2 _ _ ?_ a hF
  have hS2 := hS1.takeN 0
  subst h
  exact we_ret (post_ret (rs := [.tmp 3]) (ans := []) (vs := [.bool (x0.P == xf_0.P)]) (l := []) rfl (by kernel_rfl) trivial ⟨rfl, hS2⟩)

/-! slices.IndexFunc[[]punctual/api.Crit,punctual/api.Crit] -/
abbrev slices_IndexFunc_api_Crit_api_Crit.Post (w0 : World) (r : Int) (e : Ending) (w : World) : Prop := e = .returned (.int .i64 r) ∧ St w0 w []
def slices_IndexFunc_api_Crit_api_Crit.r0 (l0 : List SCrit) (xg1_0 : SCrit) : Nat → Option (Nat ⊕ (Unit ⊕ Int))
  | i1 =>
    if (i1 : Int) < (l0.length : Int) then
      match l0[i1]? with
      | none => none
      | some e1 =>
        if (modes_Check_1.f e1 xg1_0) = true then
          some (.inr (.inr (i1 : Int)))
        else
          some (.inl (i1 + 1))
    else
      some (.inr (.inl ()))
def slices_IndexFunc_api_Crit_api_Crit.f (K : Nat) (l0 : List SCrit) (xg1_0 : SCrit) : Option Int :=
  match iter (slices_IndexFunc_api_Crit_api_Crit.r0 l0 xg1_0) K 0 with
  | none => none
  | some (.inl _) =>
    some (-1)
  | some (.inr rr1) =>
    some rr1
abbrev slices_IndexFunc_api_Crit_api_Crit.A0 (K : Nat) (w0 : World) (l0 : List SCrit) (A0 : Option Addr) (c0 : Nat) (bg1_0 : Nat) (xg1_0 : SCrit) (hR0 : RdL w0 A0 l0) (hL0 : l0.length ≤ c0) (hBg1_0 : Glob w0 bg1_0 [.int .i64 xg1_0.C, .int .i64 xg1_0.H, .int .i64 xg1_0.T, .int .i64 xg1_0.D, .bool xg1_0.High, .int .i64 xg1_0.P]) : Nat → Act → World → Prop := fun (s : Nat) a w => St w0 w [] ∧ Frm 19 a [(0, .slice A0 l0.length c0), (1, .func (.func 46) #[] #[.pointer (some ⟨bg1_0, 0, none⟩)]), (7, .int .i64 (l0.length : Int)), (8, .int .i64 (s : Int))]
abbrev slices_IndexFunc_api_Crit_api_Crit.B0 (K : Nat) (w0 : World) (l0 : List SCrit) (A0 : Option Addr) (c0 : Nat) (bg1_0 : Nat) (xg1_0 : SCrit) (hR0 : RdL w0 A0 l0) (hL0 : l0.length ≤ c0) (hBg1_0 : Glob w0 bg1_0 [.int .i64 xg1_0.C, .int .i64 xg1_0.H, .int .i64 xg1_0.T, .int .i64 xg1_0.D, .bool xg1_0.High, .int .i64 xg1_0.P]) : (Unit ⊕ Int) → Exit → Act → World → Prop := Exits 0 (fun (s : Unit) a w => St w0 w [] ∧ Frm 19 a []) (Rets Tryd.prog Tryd.f70 (slices_IndexFunc_api_Crit_api_Crit.Post w0))
theorem slices_IndexFunc_api_Crit_api_Crit_r0 (K : Nat) (w0 : World) (l0 : List SCrit) (A0 : Option Addr) (c0 : Nat) (bg1_0 : Nat) (xg1_0 : SCrit) (hR0 : RdL w0 A0 l0) (hL0 : l0.length ≤ c0) (hBg1_0 : Glob w0 bg1_0 [.int .i64 xg1_0.C, .int .i64 xg1_0.H, .int .i64 xg1_0.T, .int .i64 xg1_0.D, .bool xg1_0.High, .int .i64 xg1_0.P]) (s : Nat) (o : Nat ⊕ (Unit ⊕ Int)) (h : slices_IndexFunc_api_Crit_api_Crit.r0 l0 xg1_0 s = some o) (a : Act) (w : World) (hA : slices_IndexFunc_api_Crit_api_Crit.A0 K w0 l0 A0 c0 bg1_0 xg1_0 hR0 hL0 hBg1_0 s a w) (Q : Exit → Act → World → Prop) (hQ : ∀ x a w, Outs (slices_IndexFunc_api_Crit_api_Crit.A0 K w0 l0 A0 c0 bg1_0 xg1_0 hR0 hL0 hBg1_0) (slices_IndexFunc_api_Crit_api_Crit.B0 K w0 l0 A0 c0 bg1_0 xg1_0 hR0 hL0 hBg1_0) o x a w → Q x a w) : (subF Tryd.f70 [1, 0, 1, 0, 0]).wp Tryd.prog Q a w := by
  obtain ⟨i1, hs⟩ : ∃ z, z = s := ⟨s, rfl⟩
  subst hs
  obtain ⟨hS, hF⟩ := hA
  replace hS : St w0 w [] := hS
  simp only [slices_IndexFunc_api_Crit_api_Crit.r0] at h
  refine (?_ : WE Tryd.prog 19 (subF Tryd.f70 [1, 0, 1, 0, 0]) Q [(0, .slice A0 l0.length c0), (1, .func (.func 46) #[] #[.pointer (some ⟨bg1_0, 0, none⟩)]), (7, .int .i64 (l0.length : Int)), (8, .int .i64 (i1 : Int))] w) a hF
  clear hF a
  refine we_seq fun K4 hK4 => ?_
  refine we_region [(0, 0)] rfl ?_
  refine ge_batch [0] (ans := []) (vs := [(9, .bool (decide ((i1 : Int) < (l0.length : Int))))]) (l := []) (by kernel_rfl) trivial ?_
  refine ge_nil fun a hF => hK4 _ _ ?_ a hF
  refine we_seq fun K5 hK5 => ?_
  by_cases hc1 : (i1 : Int) < (l0.length : Int)
  · rw [if_pos hc1] at h
    refine we_known (t := 9) (b := decide ((i1 : Int) < (l0.length : Int))) (v := true) (by kernel_rfl) (decide_eq_true hc1) ?_
    refine we_true (by kernel_rfl) ?_
    refine we_skip fun a hF => hK5 _ _ ?_ a hF
    refine we_seq fun K6 hK6 => ?_
    refine we_block ?_
    refine we_seq fun K7 hK7 => ?_
    refine we_region [(0, 0), (1, 0)] rfl ?_
    refine ge_batch [0, 1] (ans := []) (vs := [(5, .int .i64 (i1 : Int)), (10, .int .i64 (i1 : Int))]) (l := []) (by kernel_rfl) trivial ?_
    refine ge_nil fun a hF => hK7 _ _ ?_ a hF
    refine we_seq fun K8 hK8 => ?_
    refine we_region [(0, 0), (1, 0), (2, 0), (3, 0), (4, 0), (5, 1)] rfl ?_
    refine ge_batch [0, 1, 2] (ans := []) (vs := [(13, .int .i64 (i1 : Int)), (12, .slice A0 l0.length c0), (11, .func (.func 46) #[] #[.pointer (some ⟨bg1_0, 0, none⟩)])]) (l := []) (by kernel_rfl) trivial ?_
    rcases hx1 : l0[i1]? with _ | e1
    · rw [hx1] at h; cases h
    rw [hx1] at h
    simp only [] at h
    refine ge_index (d := 14) (ty := 0) (t := 22) (el := 27) (sz := 6) (m := l0.length) (c := c0) (x := (.tmp 12)) (y := (.tmp 13)) (A := A0) (k' := .i64) (j := (i1 : Int)) (jn := i1) (b0 := blkOf A0) (o0 := offOf A0) (by kernel_rfl) (by kernel_rfl) (by kernel_rfl) (by kernel_rfl) (by kernel_rfl) ((hS.rd hR0).eqSome (pos_of_get hx1)) rfl (lt_of_get hx1) ?_
    refine ge_batch [4] (ans := [.val (.int .i64 e1.C), .val (.int .i64 e1.H), .val (.int .i64 e1.T), .val (.int .i64 e1.D), .val (.bool e1.High), .val (.int .i64 e1.P)]) (vs := [(15, .agg #[.int .i64 e1.C, .int .i64 e1.H, .int .i64 e1.T, .int .i64 e1.D, .bool e1.High, .int .i64 e1.P])]) (l := [.loaded ⟨blkOf A0, offOf A0 + i1 * 6, none⟩ (.int .i64 e1.C), .loaded ⟨blkOf A0, offOf A0 + i1 * 6 + 1, none⟩ (.int .i64 e1.H), .loaded ⟨blkOf A0, offOf A0 + i1 * 6 + 2, none⟩ (.int .i64 e1.T), .loaded ⟨blkOf A0, offOf A0 + i1 * 6 + 3, none⟩ (.int .i64 e1.D), .loaded ⟨blkOf A0, offOf A0 + i1 * 6 + 4, none⟩ (.bool e1.High), .loaded ⟨blkOf A0, offOf A0 + i1 * 6 + 5, none⟩ (.int .i64 e1.P)]) (by kernel_rfl) ⟨RdL.cell (j := 0) (hS.rd hR0) hx1 rfl, RdL.cell (j := 1) (hS.rd hR0) hx1 rfl, RdL.cell (j := 2) (hS.rd hR0) hx1 rfl, RdL.cell (j := 3) (hS.rd hR0) hx1 rfl, RdL.cell (j := 4) (hS.rd hR0) hx1 rfl, RdL.cell (j := 5) (hS.rd hR0) hx1 rfl, trivial⟩ ?_
    refine ge_call (d := some 16) (f := 46) (args := #[.agg #[.int .i64 e1.C, .int .i64 e1.H, .int .i64 e1.T, .int .i64 e1.D, .bool e1.High, .int .i64 e1.P], .pointer (some ⟨bg1_0, 0, none⟩)]) (by kernel_rfl) (modes_Check_1_ok e1 bg1_0 xg1_0 _ (Glob.ext hBg1_0 hS.below) _ rfl) ?_
    rintro _ w1 ⟨rfl, hS1⟩
    refine ⟨_, rfl, hS1.below, ?_⟩
    have hS2 := hS.call hS1
    refine ge_nil fun a hF => hK8 _ _ ?_ a hF
    by_cases hc2 : (modes_Check_1.f e1 xg1_0) = true
    · rw [if_pos hc2] at h
      refine we_known (t := 16) (b := (modes_Check_1.f e1 xg1_0)) (v := true) (by kernel_rfl) hc2 ?_
      refine we_true (by kernel_rfl) ?_
      refine we_seq fun K9 hK9 => ?_
      refine we_region [(0, 0), (1, 0)] rfl ?_
      refine ge_batch [0, 1] (ans := []) (vs := [(4, .int .i64 (i1 : Int)), (17, .int .i64 (i1 : Int))]) (l := []) (by kernel_rfl) trivial ?_
      refine ge_nil fun a hF => hK9 _ _ ?_ a hF
      obtain rfl := Option.some.inj h
      exact we_ret fun a hF => hQ _ _ _ (Outs.out nofun (Exits.on ⟨rfl, (post_ret (rs := [.tmp 4]) (ans := []) (vs := [.int .i64 (i1 : Int)]) (l := []) rfl (by kernel_rfl) trivial ⟨rfl, hS2⟩) a hF⟩))
    · rw [if_neg hc2] at h
      refine we_known (t := 16) (b := (modes_Check_1.f e1 xg1_0)) (v := false) (by kernel_rfl) (Bool.eq_false_iff.2 hc2) ?_
      refine we_false (by kernel_rfl) ?_
      refine we_skip fun a hF => hK6 _ _ ?_ a hF
      refine we_region [(0, 0), (1, 0)] rfl ?_
      refine ge_addn (d := 18) (ty := 3) (x := (.tmp 8)) (y := (.const (.int .i64 1))) (t := 3) (t2 := 3) (k := .i64) (m := i1) (by kernel_rfl) (by kernel_rfl) (by kernel_rfl) (by have h0 := hR0.small; omega) ?_
      refine ge_batch [1] (ans := []) (vs := [(8, .int .i64 ((i1 + 1 : Nat) : Int))]) (l := []) (by kernel_rfl) trivial ?_
      obtain rfl := Option.some.inj h
      exact ge_nil fun a hF => hQ _ _ _ (Outs.again ⟨hS2, hF.weaken ⟨by kernel_rfl, by kernel_rfl, by kernel_rfl, by kernel_rfl, trivial⟩⟩)
  · rw [if_neg hc1] at h
    refine we_known (t := 9) (b := decide ((i1 : Int) < (l0.length : Int))) (v := false) (by kernel_rfl) (decide_eq_false hc1) ?_
    refine we_false (by kernel_rfl) ?_
    obtain rfl := Option.some.inj h
    exact we_exit fun a hF => hQ _ _ _ (Outs.out nofun (Exits.here ⟨hS, hF.weaken trivial⟩))
theorem slices_IndexFunc_api_Crit_api_Crit_ok (K : Nat) (l0 : List SCrit) (A0 : Option Addr) (c0 : Nat) (bg1_0 : Nat) (xg1_0 : SCrit) (w0 : World) (hR0 : RdL w0 A0 l0) (hL0 : l0.length ≤ c0) (hBg1_0 : Glob w0 bg1_0 [.int .i64 xg1_0.C, .int .i64 xg1_0.H, .int .i64 xg1_0.T, .int .i64 xg1_0.D, .bool xg1_0.High, .int .i64 xg1_0.P]) (r : Int) (h : slices_IndexFunc_api_Crit_api_Crit.f K l0 xg1_0 = some r) :
    Calls Tryd.prog 70 #[.slice A0 l0.length c0, .func (.func 46) #[] #[.pointer (some ⟨bg1_0, 0, none⟩)]] w0 (slices_IndexFunc_api_Crit_api_Crit.Post w0 r) := by
  have hS := St.start w0
  unfold slices_IndexFunc_api_Crit_api_Crit.f at h
  refine calls_enter (n := 19) (args := [.slice A0 l0.length c0, .func (.func 46) #[] #[.pointer (some ⟨bg1_0, 0, none⟩)]]) (fn := Tryd.f70) rfl rfl rfl rfl ?_
  show WE _ _ _ _ [(0, .slice A0 l0.length c0), (1, .func (.func 46) #[] #[.pointer (some ⟨bg1_0, 0, none⟩)])] _
  refine we_seq fun K1 hK1 => ?_
  refine we_region [(0, 0)] rfl ?_
  refine ge_batch [0] (ans := []) (vs := [(4, .int .i64 0)]) (l := []) (by kernel_rfl) trivial ?_
  refine ge_nil fun a hF => hK1 _ _ ?_ a hF
  refine we_seq fun K2 hK2 => ?_
  refine we_seq fun K3 hK3 => ?_
  refine we_region [(0, 0), (1, 0), (2, 0)] rfl ?_
  refine ge_batch [0, 1, 2] (ans := []) (vs := [(8, .int .i64 0), (7, .int .i64 (l0.length : Int)), (6, .slice A0 l0.length c0)]) (l := []) (by kernel_rfl) trivial ?_
  refine ge_nil fun a hF => hK3 _ _ ?_ a hF
  refine we_block ?_
  rcases hq2 : iter (slices_IndexFunc_api_Crit_api_Crit.r0 l0 xg1_0) K 0 with _ | (_ | rr1)
  · rw [hq2] at h; cases h
  · rw [hq2] at h
    simp only [] at h
    refine we_iter (A := slices_IndexFunc_api_Crit_api_Crit.A0 K w0 l0 A0 c0 bg1_0 xg1_0 hR0 hL0 hBg1_0) (B := slices_IndexFunc_api_Crit_api_Crit.B0 K w0 l0 A0 c0 bg1_0 xg1_0 hR0 hL0 hBg1_0) hq2 (fun a hF => ⟨hS, hF.weaken ⟨by kernel_rfl, by kernel_rfl, by kernel_rfl, by kernel_rfl, trivial⟩⟩) (fun s o hf a w hA Q hQ => slices_IndexFunc_api_Crit_api_Crit_r0 K w0 l0 A0 c0 bg1_0 xg1_0 hR0 hL0 hBg1_0 s o hf a w hA Q hQ) ?_
    rintro _ a w2 _ ⟨rfl, hS3, hF⟩
    replace hS3 : St w0 w2 [] := hS3
    refine hK2 [] w2 ?_ a hF
    refine we_seq fun K10 hK10 => ?_
    refine we_region [(0, 0)] rfl ?_
    refine ge_batch [0] (ans := []) (vs := [(4, .int .i64 (-1))]) (l := []) (by kernel_rfl) trivial ?_
    refine ge_nil fun a hF => hK10 _ _ ?_ a hF
    obtain rfl := Option.some.inj h
    exact we_ret (post_ret (rs := [.tmp 4]) (ans := []) (vs := [.int .i64 (-1)]) (l := []) rfl (by kernel_rfl) trivial ⟨rfl, hS3⟩)
  · rw [hq2] at h
    simp only [] at h
    refine we_iter (A := slices_IndexFunc_api_Crit_api_Crit.A0 K w0 l0 A0 c0 bg1_0 xg1_0 hR0 hL0 hBg1_0) (B := slices_IndexFunc_api_Crit_api_Crit.B0 K w0 l0 A0 c0 bg1_0 xg1_0 hR0 hL0 hBg1_0) hq2 (fun a hF => ⟨hS, hF.weaken ⟨by kernel_rfl, by kernel_rfl, by kernel_rfl, by kernel_rfl, trivial⟩⟩) (fun s o hf a w hA Q hQ => slices_IndexFunc_api_Crit_api_Crit_r0 K w0 l0 A0 c0 bg1_0 xg1_0 hR0 hL0 hBg1_0 s o hf a w hA Q hQ) ?_
    rintro _ a w1 _ ⟨rfl, hb⟩
    obtain rfl := Option.some.inj h
    exact hb

/-! slices.ContainsFunc[[]punctual/api.Crit,punctual/api.Crit] -/
abbrev slices_ContainsFunc_api_Crit_api_Crit.Post (w0 : World) (r : Bool) (e : Ending) (w : World) : Prop := e = .returned (.bool r) ∧ St w0 w []
def slices_ContainsFunc_api_Crit_api_Crit.f (K : Nat) (l0 : List SCrit) (xg1_0 : SCrit) : Option Bool :=
  match slices_IndexFunc_api_Crit_api_Crit.f K l0 xg1_0 with
  | none => none
  | some r1 =>
    some (decide (r1 ≥ 0))
theorem slices_ContainsFunc_api_Crit_api_Crit_ok (K : Nat) (l0 : List SCrit) (A0 : Option Addr) (c0 : Nat) (bg1_0 : Nat) (xg1_0 : SCrit) (w0 : World) (hR0 : RdL w0 A0 l0) (hL0 : l0.length ≤ c0) (hBg1_0 : Glob w0 bg1_0 [.int .i64 xg1_0.C, .int .i64 xg1_0.H, .int .i64 xg1_0.T, .int .i64 xg1_0.D, .bool xg1_0.High, .int .i64 xg1_0.P]) (r : Bool) (h : slices_ContainsFunc_api_Crit_api_Crit.f K l0 xg1_0 = some r) :
    Calls Tryd.prog 45 #[.slice A0 l0.length c0, .func (.func 46) #[] #[.pointer (some ⟨bg1_0, 0, none⟩)]] w0 (slices_ContainsFunc_api_Crit_api_Crit.Post w0 r) := by
  have hS := St.start w0
  unfold slices_ContainsFunc_api_Crit_api_Crit.f at h
  refine calls_enter (n := 9) (args := [.slice A0 l0.length c0, .func (.func 46) #[] #[.pointer (some ⟨bg1_0, 0, none⟩)]]) (fn := Tryd.f45) rfl rfl rfl rfl ?_
  show WE _ _ _ _ [(0, .slice A0 l0.length c0), (1, .func (.func 46) #[] #[.pointer (some ⟨bg1_0, 0, none⟩)])] _
  refine we_seq fun K1 hK1 => ?_
  refine we_region [(0, 0)] rfl ?_
  refine ge_batch [0] (ans := []) (vs := [(4, .bool false)]) (l := []) (by kernel_rfl) trivial ?_
  refine ge_nil fun a hF => hK1 _ _ ?_ a hF
  refine we_seq fun K2 hK2 => ?_
  refine we_region [(0, 0), (1, 0), (2, 1), (3, 0), (4, 0)] rfl ?_
  rcases hq1 : slices_IndexFunc_api_Crit_api_Crit.f K l0 xg1_0 with _ | r1
  · rw [hq1] at h; cases h
  rw [hq1] at h
  simp only [] at h
  refine ge_batch [0, 1] (ans := []) (vs := [(6, .func (.func 46) #[] #[.pointer (some ⟨bg1_0, 0, none⟩)]), (5, .slice A0 l0.length c0)]) (l := []) (by kernel_rfl) trivial ?_
  refine ge_call (d := some 7) (f := 70) (args := #[.slice A0 l0.length c0, .func (.func 46) #[] #[.pointer (some ⟨bg1_0, 0, none⟩)]]) (by kernel_rfl) (slices_IndexFunc_api_Crit_api_Crit_ok K l0 A0 c0 bg1_0 xg1_0 _ (hS.rd hR0) hL0 (Glob.ext hBg1_0 hS.below) _ hq1) ?_
  rintro _ w1 ⟨rfl, hS1⟩
  refine ⟨_, rfl, hS1.below, ?_⟩
  have hS2 := hS.call hS1
  refine ge_batch [3, 4] (ans := []) (vs := [(4, .bool (decide (r1 ≥ 0))), (8, .bool (decide (r1 ≥ 0)))]) (l := []) (by kernel_rfl) trivial ?_
  refine ge_nil fun a hF => hK2 _ _ ?_ a hF
  obtain rfl := Option.some.inj h
  exact we_ret (post_ret (rs := [.tmp 4]) (ans := []) (vs := [.bool (decide (r1 ≥ 0))]) (l := []) rfl (by kernel_rfl) trivial ⟨rfl, hS2⟩)

structure SFault where
  Code : Int
  At : Int
def SFault.eqb (x y : SFault) : Bool := ((x.Code == y.Code) && ((x.At == y.At) && true))
instance : Ok SFault := ⟨fun x => Ok.ok x.Code ∧ Ok.ok x.At ∧ True⟩
instance : Flat SFault := ⟨2, fun x => [.int .i64 x.Code, .int .i64 x.At], fun _ => rfl, fun _ => rfl, by decide⟩

/-! punctual/modes.Check -/
abbrev modes_Check.Post (w0 : World) (r : SFault) (e : Ending) (w : World) : Prop := e = .returned (.agg #[.int .i64 r.Code, .int .i64 r.At]) ∧ St w0 w []
def modes_Check.p0 (l0 : List SCrit) : Option (Unit ⊕ SFault) :=
    if (l0.length : Int) < 1 then
      some (.inr (⟨2, 0⟩ : SFault))
    else
      if (l0.length : Int) > 8 then
        some (.inr (⟨2, 0⟩ : SFault))
      else
        some (.inl ())
def modes_Check.p2 (i1 : Nat) (e1 : SCrit) : Option (Unit ⊕ SFault) :=
    if e1.C < 1 then
      some (.inr (⟨3, (i1 : Int)⟩ : SFault))
    else
      if e1.H < e1.C then
        some (.inr (⟨3, (i1 : Int)⟩ : SFault))
      else
        if e1.T < 1 then
          some (.inr (⟨3, (i1 : Int)⟩ : SFault))
        else
          if e1.T > 10000 then
            some (.inr (⟨3, (i1 : Int)⟩ : SFault))
          else
            if e1.D < e1.C then
              some (.inr (⟨3, (i1 : Int)⟩ : SFault))
            else
              if e1.P < 0 then
                some (.inr (⟨3, (i1 : Int)⟩ : SFault))
              else
                if e1.P > 1000 then
                  some (.inr (⟨3, (i1 : Int)⟩ : SFault))
                else
                  some (.inl ())
def modes_Check.r1 (K : Nat) (l0 : List SCrit) : Nat → Option (Nat ⊕ (Unit ⊕ SFault))
  | i1 =>
    if (i1 : Int) < (l0.length : Int) then
      match l0[i1]? with
      | none => none
      | some e1 =>
        match modes_Check.p2 i1 e1 with
        | none => none
        | some (.inl _) =>
          if e1.D > e1.T then
            some (.inr (.inr (⟨12, (i1 : Int)⟩ : SFault)))
          else
            if e1.H > e1.D then
              some (.inr (.inr (⟨12, (i1 : Int)⟩ : SFault)))
            else
              if e1.High = true then
                if i1 ≤ l0.length then
                  match slices_ContainsFunc_api_Crit_api_Crit.f K ((l0.take i1).drop 0) e1 with
                  | none => none
                  | some r1 =>
                    if r1 = true then
                      some (.inr (.inr (⟨5, (i1 : Int)⟩ : SFault)))
                    else
                      some (.inl (i1 + 1))
                else
                  none
              else
                if e1.H = e1.C then
                  if i1 ≤ l0.length then
                    match slices_ContainsFunc_api_Crit_api_Crit.f K ((l0.take i1).drop 0) e1 with
                    | none => none
                    | some r2 =>
                      if r2 = true then
                        some (.inr (.inr (⟨5, (i1 : Int)⟩ : SFault)))
                      else
                        some (.inl (i1 + 1))
                  else
                    none
                else
                  some (.inr (.inr (⟨12, (i1 : Int)⟩ : SFault)))
        | some (.inr rr1) =>
          some (.inr (.inr rr1))
    else
      some (.inr (.inl ()))
def modes_Check.f (K : Nat) (l0 : List SCrit) : Option SFault :=
  match modes_Check.p0 l0 with
  | none => none
  | some (.inl _) =>
    match iter (modes_Check.r1 K l0) K 0 with
    | none => none
    | some (.inl _) =>
      some (⟨0, 0⟩ : SFault)
    | some (.inr rr2) =>
      some rr2
  | some (.inr rr3) =>
    some rr3
abbrev modes_Check.A0 (K : Nat) (w0 : World) (l0 : List SCrit) (A0 : Option Addr) (c0 : Nat) (hR0 : RdL w0 A0 l0) (hL0 : l0.length ≤ c0) (b1 : Nat) : Unit → Act → World → Prop := fun (s : Unit) a w => St w0 w [Own.blk b1 (.cells #[.int .i64 0, .int .i64 0] 31 (0, 0))] ∧ Frm 95 a [(0, .slice A0 l0.length c0), (2, .pointer (some ⟨b1, 0, none⟩))]
abbrev modes_Check.B0 (K : Nat) (w0 : World) (l0 : List SCrit) (A0 : Option Addr) (c0 : Nat) (hR0 : RdL w0 A0 l0) (hL0 : l0.length ≤ c0) (b1 : Nat) : SFault → Exit → Act → World → Prop := Rets Tryd.prog Tryd.f12 (modes_Check.Post w0)
theorem modes_Check_p0 (K : Nat) (w0 : World) (l0 : List SCrit) (A0 : Option Addr) (c0 : Nat) (hR0 : RdL w0 A0 l0) (hL0 : l0.length ≤ c0) (b1 : Nat) (o : Unit ⊕ SFault) (h : modes_Check.p0 l0 = some o) (w : World) (hS : St w0 w [Own.blk b1 (.cells #[.int .i64 0, .int .i64 0] 31 (0, 0))]) (Q : Exit → Act → World → Prop) (hQ : ∀ x a w, Outs (modes_Check.A0 K w0 l0 A0 c0 hR0 hL0 b1) (modes_Check.B0 K w0 l0 A0 c0 hR0 hL0 b1) o x a w → Q x a w) : WE Tryd.prog 95 (subF Tryd.f12 [1, 0]) Q [(0, .slice A0 l0.length c0), (2, .pointer (some ⟨b1, 0, none⟩))] w := by
  simp only [modes_Check.p0] at h
  refine we_seq fun K3 hK3 => ?_
  refine we_region [(0, 0), (1, 0), (2, 0), (3, 0), (4, 0), (5, 0), (6, 0), (7, 0)] rfl ?_
  refine ge_batch [0, 1, 2, 3] (ans := []) (vs := [(8, .bool (decide ((l0.length : Int) < 1))), (7, .bool (decide ((l0.length : Int) < 1))), (6, .int .i64 (l0.length : Int)), (5, .slice A0 l0.length c0)]) (l := []) (by kernel_rfl) trivial ?_
  by_cases hc1 : (l0.length : Int) < 1
  · rw [if_pos hc1] at h
    refine ge_known (t := 8) (b := decide ((l0.length : Int) < 1)) (c := true) (by kernel_rfl) (decide_eq_true hc1) ?_
    refine ge_batch [4, 5, 6, 7] (ans := []) (vs := [(12, .bool true), (11, undef), (10, undef), (9, undef)]) (l := []) (by kernel_rfl) trivial ?_
    refine ge_nil fun a hF => hK3 _ _ ?_ a hF
    refine we_true (by kernel_rfl) ?_
    refine we_seq fun K4 hK4 => ?_
    refine we_region [(0, 0), (1, 2)] rfl ?_
    refine ge_batch [0] (ans := []) (vs := [(13, .agg #[.int .i64 2, .int .i64 0])]) (l := []) (by kernel_rfl) trivial ?_
    refine ge_set (b := b1) (j := 0) (cs := #[.int .i64 0, .int .i64 0]) (t := 31) (vs := [.int .i64 2, .int .i64 0]) hS (by kernel_rfl) rfl rfl fun w2 hS2 => ?_
    have hS3 := hS2.nc #[.int .i64 2, .int .i64 0] (by kernel_rfl)
    refine ge_nil fun a hF => hK4 _ _ ?_ a hF
    have hS4 := hS3.takeN 0
    obtain rfl := Option.some.inj h
    exact we_ret fun a hF => hQ _ _ _ (Outs.out nofun ⟨rfl, (post_ret (rs := [.cell 2 31]) (ans := [.val (.int .i64 2), .val (.int .i64 0)]) (vs := [.agg #[.int .i64 2, .int .i64 0]]) (l := [.loaded ⟨b1, 0, none⟩ (.int .i64 2), .loaded ⟨b1, 1, none⟩ (.int .i64 0)]) rfl (by kernel_rfl) ⟨hS3.cell 0 rfl rfl, hS3.cell 0 rfl rfl, trivial⟩ ⟨rfl, hS4⟩) a hF⟩)
  · rw [if_neg hc1] at h
    refine ge_known (t := 8) (b := decide ((l0.length : Int) < 1)) (c := false) (by kernel_rfl) (decide_eq_false hc1) ?_
    refine ge_batch [4, 5, 6, 7] (ans := []) (vs := [(12, .bool (decide ((l0.length : Int) > 8))), (11, .bool (decide ((l0.length : Int) > 8))), (10, .int .i64 (l0.length : Int)), (9, .slice A0 l0.length c0)]) (l := []) (by kernel_rfl) trivial ?_
    refine ge_nil fun a hF => hK3 _ _ ?_ a hF
    by_cases hc2 : (l0.length : Int) > 8
    · rw [if_pos hc2] at h
      refine we_known (t := 12) (b := decide ((l0.length : Int) > 8)) (v := true) (by kernel_rfl) (decide_eq_true hc2) ?_
      refine we_true (by kernel_rfl) ?_
      refine we_seq fun K5 hK5 => ?_
      refine we_region [(0, 0), (1, 2)] rfl ?_
      refine ge_batch [0] (ans := []) (vs := [(13, .agg #[.int .i64 2, .int .i64 0])]) (l := []) (by kernel_rfl) trivial ?_
      refine ge_set (b := b1) (j := 0) (cs := #[.int .i64 0, .int .i64 0]) (t := 31) (vs := [.int .i64 2, .int .i64 0]) hS (by kernel_rfl) rfl rfl fun w3 hS5 => ?_
      have hS6 := hS5.nc #[.int .i64 2, .int .i64 0] (by kernel_rfl)
      refine ge_nil fun a hF => hK5 _ _ ?_ a hF
      have hS7 := hS6.takeN 0
      obtain rfl := Option.some.inj h
      exact we_ret fun a hF => hQ _ _ _ (Outs.out nofun ⟨rfl, (post_ret (rs := [.cell 2 31]) (ans := [.val (.int .i64 2), .val (.int .i64 0)]) (vs := [.agg #[.int .i64 2, .int .i64 0]]) (l := [.loaded ⟨b1, 0, none⟩ (.int .i64 2), .loaded ⟨b1, 1, none⟩ (.int .i64 0)]) rfl (by kernel_rfl) ⟨hS6.cell 0 rfl rfl, hS6.cell 0 rfl rfl, trivial⟩ ⟨rfl, hS7⟩) a hF⟩)
    · rw [if_neg hc2] at h
      refine we_known (t := 12) (b := decide ((l0.length : Int) > 8)) (v := false) (by kernel_rfl) (decide_eq_false hc2) ?_
      refine we_false (by kernel_rfl) ?_
      obtain rfl := Option.some.inj h
      exact we_skip fun a hF => hQ _ _ _ (Outs.again ⟨hS, hF.weaken ⟨by kernel_rfl, by kernel_rfl, trivial⟩⟩)
abbrev modes_Check.A2 (K : Nat) (w0 : World) (l0 : List SCrit) (A0 : Option Addr) (c0 : Nat) (hR0 : RdL w0 A0 l0) (hL0 : l0.length ≤ c0) (b1 : Nat) (i1 : Nat) (hc3 : (i1 : Int) < (l0.length : Int)) (e1 : SCrit) (hx2 : l0[i1]? = some e1) (b2 : Nat) : Unit → Act → World → Prop := fun (s : Unit) a w => St w0 w [Own.blk b2 (.cells #[.int .i64 e1.C, .int .i64 e1.H, .int .i64 e1.T, .int .i64 e1.D, .bool e1.High, .int .i64 e1.P] 27 (0, 0)), Own.blk b1 (.cells #[.int .i64 0, .int .i64 0] 31 (0, 0))] ∧ Frm 95 a [(0, .slice A0 l0.length c0), (2, .pointer (some ⟨b1, 0, none⟩)), (3, .int .i64 (i1 : Int)), (4, .pointer (some ⟨b2, 0, none⟩)), (14, .slice A0 l0.length c0), (15, .int .i64 (l0.length : Int)), (16, .int .i64 (i1 : Int))]
abbrev modes_Check.B2 (K : Nat) (w0 : World) (l0 : List SCrit) (A0 : Option Addr) (c0 : Nat) (hR0 : RdL w0 A0 l0) (hL0 : l0.length ≤ c0) (b1 : Nat) (i1 : Nat) (hc3 : (i1 : Int) < (l0.length : Int)) (e1 : SCrit) (hx2 : l0[i1]? = some e1) (b2 : Nat) : SFault → Exit → Act → World → Prop := Rets Tryd.prog Tryd.f12 (modes_Check.Post w0)
theorem modes_Check_p2 (K : Nat) (w0 : World) (l0 : List SCrit) (A0 : Option Addr) (c0 : Nat) (hR0 : RdL w0 A0 l0) (hL0 : l0.length ≤ c0) (b1 : Nat) (i1 : Nat) (hc3 : (i1 : Int) < (l0.length : Int)) (e1 : SCrit) (hx2 : l0[i1]? = some e1) (b2 : Nat) (o : Unit ⊕ SFault) (h : modes_Check.p2 i1 e1 = some o) (w : World) (hS : St w0 w [Own.blk b2 (.cells #[.int .i64 e1.C, .int .i64 e1.H, .int .i64 e1.T, .int .i64 e1.D, .bool e1.High, .int .i64 e1.P] 27 (0, 0)), Own.blk b1 (.cells #[.int .i64 0, .int .i64 0] 31 (0, 0))]) (Q : Exit → Act → World → Prop) (hQ : ∀ x a w, Outs (modes_Check.A2 K w0 l0 A0 c0 hR0 hL0 b1 i1 hc3 e1 hx2 b2) (modes_Check.B2 K w0 l0 A0 c0 hR0 hL0 b1 i1 hc3 e1 hx2 b2) o x a w → Q x a w) : WE Tryd.prog 95 (subF Tryd.f12 [1, 1, 0, 1, 0, 0, 1, 1, 0, 0, 1, 0]) Q [(0, .slice A0 l0.length c0), (2, .pointer (some ⟨b1, 0, none⟩)), (3, .int .i64 (i1 : Int)), (4, .pointer (some ⟨b2, 0, none⟩)), (14, .slice A0 l0.length c0), (15, .int .i64 (l0.length : Int)), (16, .int .i64 (i1 : Int)), (17, .bool true), (18, .int .i64 (i1 : Int)), (19, .pointer (some ⟨blkOf A0, offOf A0 + i1 * 6, none⟩)), (20, .agg #[.int .i64 e1.C, .int .i64 e1.H, .int .i64 e1.T, .int .i64 e1.D, .bool e1.High, .int .i64 e1.P])] w := by
  simp only [modes_Check.p2] at h
  refine we_seq fun K13 hK13 => ?_
  refine we_region [(0, 0), (1, 0), (2, 0), (3, 0), (4, 0), (5, 0), (6, 0), (7, 0), (8, 0), (9, 0), (10, 0), (11, 0), (12, 0), (13, 0), (14, 0), (15, 0), (16, 0), (17, 0), (18, 0), (19, 0), (20, 0), (21, 0), (22, 0), (23, 0), (24, 0), (25, 0), (26, 0), (27, 0), (28, 0), (29, 0), (30, 0), (31, 0), (32, 0), (33, 0), (34, 0), (35, 0), (36, 0)] rfl ?_
  refine ge_batch [0, 1, 2, 3] (ans := [.val (.int .i64 e1.C)]) (vs := [(24, .bool (decide (e1.C < 1))), (23, .bool (decide (e1.C < 1))), (22, .int .i64 e1.C), (21, .pointer (some ⟨b2, 0, none⟩))]) (l := [.loaded ⟨b2, 0, none⟩ (.int .i64 e1.C)]) (by kernel_rfl) ⟨hS.cell 0 rfl rfl, trivial⟩ ?_
  by_cases hc4 : e1.C < 1
  · rw [if_pos hc4] at h
    refine ge_known (t := 24) (b := decide (e1.C < 1)) (c := true) (by kernel_rfl) (decide_eq_true hc4) ?_
    refine ge_batch [4, 5, 6, 7, 8, 9, 10, 11, 12, 13, 14, 15, 16, 17, 18, 19, 20, 21, 22, 23, 24, 25, 26, 27, 28, 29, 30, 31, 32, 33, 34, 35, 36] (ans := []) (vs := [(57, .bool true), (56, undef), (55, undef), (54, undef), (53, .bool true), (52, .bool true), (51, undef), (50, undef), (49, undef), (48, .bool true), (47, .bool true), (46, undef), (45, undef), (44, undef), (43, undef), (42, undef), (41, .bool true), (40, .bool true), (39, undef), (38, undef), (37, undef), (36, .bool true), (35, .bool true), (34, undef), (33, undef), (32, undef), (31, .bool true), (30, .bool true), (29, undef), (28, undef), (27, undef), (26, undef), (25, undef)]) (l := []) (by kernel_rfl) trivial ?_
    refine ge_nil fun a hF => hK13 _ _ ?_ a hF
    refine we_true (by kernel_rfl) ?_
    refine we_seq fun K14 hK14 => ?_
    refine we_region [(0, 0), (1, 0), (2, 2)] rfl ?_
    refine ge_batch [0, 1] (ans := []) (vs := [(59, .agg #[.int .i64 3, .int .i64 (i1 : Int)]), (58, .int .i64 (i1 : Int))]) (l := []) (by kernel_rfl) trivial ?_
    have hS12 := hS.bring 1 rfl
    refine ge_set (b := b1) (j := 0) (cs := #[.int .i64 0, .int .i64 0]) (t := 31) (vs := [.int .i64 3, .int .i64 (i1 : Int)]) hS12 (by kernel_rfl) rfl rfl fun w7 hS13 => ?_
    have hS14 := hS13.nc #[.int .i64 3, .int .i64 (i1 : Int)] (by kernel_rfl)
    refine ge_nil fun a hF => hK14 _ _ ?_ a hF
    have hS15 := hS14.takeN 0
    obtain rfl := Option.some.inj h
    exact we_ret fun a hF => hQ _ _ _ (Outs.out nofun ⟨rfl, (post_ret (rs := [.cell 2 31]) (ans := [.val (.int .i64 3), .val (.int .i64 (i1 : Int))]) (vs := [.agg #[.int .i64 3, .int .i64 (i1 : Int)]]) (l := [.loaded ⟨b1, 0, none⟩ (.int .i64 3), .loaded ⟨b1, 1, none⟩ (.int .i64 (i1 : Int))]) rfl (by kernel_rfl) ⟨hS14.cell 0 rfl rfl, hS14.cell 0 rfl rfl, trivial⟩ ⟨rfl, hS15⟩) a hF⟩)
  · rw [if_neg hc4] at h
    refine ge_known (t := 24) (b := decide (e1.C < 1)) (c := false) (by kernel_rfl) (decide_eq_false hc4) ?_
    refine ge_batch [4, 5, 6, 7, 8, 9, 10] (ans := [.val (.int .i64 e1.H), .val (.int .i64 e1.C)]) (vs := [(31, .bool (decide (e1.H < e1.C))), (30, .bool (decide (e1.H < e1.C))), (29, .bool (decide (e1.H < e1.C))), (28, .int .i64 e1.C), (27, .pointer (some ⟨b2, 0, none⟩)), (26, .int .i64 e1.H), (25, .pointer (some ⟨b2, 1, none⟩))]) (l := [.loaded ⟨b2, 1, none⟩ (.int .i64 e1.H), .loaded ⟨b2, 0, none⟩ (.int .i64 e1.C)]) (by kernel_rfl) ⟨hS.cell 0 rfl rfl, hS.cell 0 rfl rfl, trivial⟩ ?_
    by_cases hc5 : e1.H < e1.C
    · rw [if_pos hc5] at h
      refine ge_known (t := 31) (b := decide (e1.H < e1.C)) (c := true) (by kernel_rfl) (decide_eq_true hc5) ?_
      refine ge_batch [11, 12, 13, 14, 15, 16, 17, 18, 19, 20, 21, 22, 23, 24, 25, 26, 27, 28, 29, 30, 31, 32, 33, 34, 35, 36] (ans := []) (vs := [(57, .bool true), (56, undef), (55, undef), (54, undef), (53, .bool true), (52, .bool true), (51, undef), (50, undef), (49, undef), (48, .bool true), (47, .bool true), (46, undef), (45, undef), (44, undef), (43, undef), (42, undef), (41, .bool true), (40, .bool true), (39, undef), (38, undef), (37, undef), (36, .bool true), (35, .bool true), (34, undef), (33, undef), (32, undef)]) (l := []) (by kernel_rfl) trivial ?_
      refine ge_nil fun a hF => hK13 _ _ ?_ a hF
      refine we_true (by kernel_rfl) ?_
      refine we_seq fun K15 hK15 => ?_
      refine we_region [(0, 0), (1, 0), (2, 2)] rfl ?_
      refine ge_batch [0, 1] (ans := []) (vs := [(59, .agg #[.int .i64 3, .int .i64 (i1 : Int)]), (58, .int .i64 (i1 : Int))]) (l := []) (by kernel_rfl) trivial ?_
      have hS16 := hS.bring 1 rfl
      refine ge_set (b := b1) (j := 0) (cs := #[.int .i64 0, .int .i64 0]) (t := 31) (vs := [.int .i64 3, .int .i64 (i1 : Int)]) hS16 (by kernel_rfl) rfl rfl fun w8 hS17 => ?_
      have hS18 := hS17.nc #[.int .i64 3, .int .i64 (i1 : Int)] (by kernel_rfl)
      refine ge_nil fun a hF => hK15 _ _ ?_ a hF
      have hS19 := hS18.takeN 0
      obtain rfl := Option.some.inj h
      exact we_ret fun a hF => hQ _ _ _ (Outs.out nofun ⟨rfl, (post_ret (rs := [.cell 2 31]) (ans := [.val (.int .i64 3), .val (.int .i64 (i1 : Int))]) (vs := [.agg #[.int .i64 3, .int .i64 (i1 : Int)]]) (l := [.loaded ⟨b1, 0, none⟩ (.int .i64 3), .loaded ⟨b1, 1, none⟩ (.int .i64 (i1 : Int))]) rfl (by kernel_rfl) ⟨hS18.cell 0 rfl rfl, hS18.cell 0 rfl rfl, trivial⟩ ⟨rfl, hS19⟩) a hF⟩)
    · rw [if_neg hc5] at h
      refine ge_known (t := 31) (b := decide (e1.H < e1.C)) (c := false) (by kernel_rfl) (decide_eq_false hc5) ?_
      refine ge_batch [11, 12, 13, 14, 15] (ans := [.val (.int .i64 e1.T)]) (vs := [(36, .bool (decide (e1.T < 1))), (35, .bool (decide (e1.T < 1))), (34, .bool (decide (e1.T < 1))), (33, .int .i64 e1.T), (32, .pointer (some ⟨b2, 2, none⟩))]) (l := [.loaded ⟨b2, 2, none⟩ (.int .i64 e1.T)]) (by kernel_rfl) ⟨hS.cell 0 rfl rfl, trivial⟩ ?_
      by_cases hc6 : e1.T < 1
      · rw [if_pos hc6] at h
        refine ge_known (t := 36) (b := decide (e1.T < 1)) (c := true) (by kernel_rfl) (decide_eq_true hc6) ?_
        refine ge_batch [16, 17, 18, 19, 20, 21, 22, 23, 24, 25, 26, 27, 28, 29, 30, 31, 32, 33, 34, 35, 36] (ans := []) (vs := [(57, .bool true), (56, undef), (55, undef), (54, undef), (53, .bool true), (52, .bool true), (51, undef), (50, undef), (49, undef), (48, .bool true), (47, .bool true), (46, undef), (45, undef), (44, undef), (43, undef), (42, undef), (41, .bool true), (40, .bool true), (39, undef), (38, undef), (37, undef)]) (l := []) (by kernel_rfl) trivial ?_
        refine ge_nil fun a hF => hK13 _ _ ?_ a hF
        refine we_true (by kernel_rfl) ?_
        refine we_seq fun K16 hK16 => ?_
        refine we_region [(0, 0), (1, 0), (2, 2)] rfl ?_
        refine ge_batch [0, 1] (ans := []) (vs := [(59, .agg #[.int .i64 3, .int .i64 (i1 : Int)]), (58, .int .i64 (i1 : Int))]) (l := []) (by kernel_rfl) trivial ?_
        have hS20 := hS.bring 1 rfl
        refine ge_set (b := b1) (j := 0) (cs := #[.int .i64 0, .int .i64 0]) (t := 31) (vs := [.int .i64 3, .int .i64 (i1 : Int)]) hS20 (by kernel_rfl) rfl rfl fun w9 hS21 => ?_
        have hS22 := hS21.nc #[.int .i64 3, .int .i64 (i1 : Int)] (by kernel_rfl)
        refine ge_nil fun a hF => hK16 _ _ ?_ a hF
        have hS23 := hS22.takeN 0
        obtain rfl := Option.some.inj h
        exact we_ret fun a hF => hQ _ _ _ (Outs.out nofun ⟨rfl, (post_ret (rs := [.cell 2 31]) (ans := [.val (.int .i64 3), .val (.int .i64 (i1 : Int))]) (vs := [.agg #[.int .i64 3, .int .i64 (i1 : Int)]]) (l := [.loaded ⟨b1, 0, none⟩ (.int .i64 3), .loaded ⟨b1, 1, none⟩ (.int .i64 (i1 : Int))]) rfl (by kernel_rfl) ⟨hS22.cell 0 rfl rfl, hS22.cell 0 rfl rfl, trivial⟩ ⟨rfl, hS23⟩) a hF⟩)
      · rw [if_neg hc6] at h
        refine ge_known (t := 36) (b := decide (e1.T < 1)) (c := false) (by kernel_rfl) (decide_eq_false hc6) ?_
        refine ge_batch [16, 17, 18, 19, 20] (ans := [.val (.int .i64 e1.T)]) (vs := [(41, .bool (decide (e1.T > 10000))), (40, .bool (decide (e1.T > 10000))), (39, .bool (decide (e1.T > 10000))), (38, .int .i64 e1.T), (37, .pointer (some ⟨b2, 2, none⟩))]) (l := [.loaded ⟨b2, 2, none⟩ (.int .i64 e1.T)]) (by kernel_rfl) ⟨hS.cell 0 rfl rfl, trivial⟩ ?_
        by_cases hc7 : e1.T > 10000
        · rw [if_pos hc7] at h
          refine ge_known (t := 41) (b := decide (e1.T > 10000)) (c := true) (by kernel_rfl) (decide_eq_true hc7) ?_
          refine ge_batch [21, 22, 23, 24, 25, 26, 27, 28, 29, 30, 31, 32, 33, 34, 35, 36] (ans := []) (vs := [(57, .bool true), (56, undef), (55, undef), (54, undef), (53, .bool true), (52, .bool true), (51, undef), (50, undef), (49, undef), (48, .bool true), (47, .bool true), (46, undef), (45, undef), (44, undef), (43, undef), (42, undef)]) (l := []) (by kernel_rfl) trivial ?_
          refine ge_nil fun a hF => hK13 _ _ ?_ a hF
          refine we_true (by kernel_rfl) ?_
          refine we_seq fun K17 hK17 => ?_
          refine we_region [(0, 0), (1, 0), (2, 2)] rfl ?_
          refine ge_batch [0, 1] (ans := []) (vs := [(59, .agg #[.int .i64 3, .int .i64 (i1 : Int)]), (58, .int .i64 (i1 : Int))]) (l := []) (by kernel_rfl) trivial ?_
          have hS24 := hS.bring 1 rfl
          refine ge_set (b := b1) (j := 0) (cs := #[.int .i64 0, .int .i64 0]) (t := 31) (vs := [.int .i64 3, .int .i64 (i1 : Int)]) hS24 (by kernel_rfl) rfl rfl fun w10 hS25 => ?_
          have hS26 := hS25.nc #[.int .i64 3, .int .i64 (i1 : Int)] (by kernel_rfl)
          refine ge_nil fun a hF => hK17 _ _ ?_ a hF
          have hS27 := hS26.takeN 0
          obtain rfl := Option.some.inj h
          exact we_ret fun a hF => hQ _ _ _ (Outs.out nofun ⟨rfl, (post_ret (rs := [.cell 2 31]) (ans := [.val (.int .i64 3), .val (.int .i64 (i1 : Int))]) (vs := [.agg #[.int .i64 3, .int .i64 (i1 : Int)]]) (l := [.loaded ⟨b1, 0, none⟩ (.int .i64 3), .loaded ⟨b1, 1, none⟩ (.int .i64 (i1 : Int))]) rfl (by kernel_rfl) ⟨hS26.cell 0 rfl rfl, hS26.cell 0 rfl rfl, trivial⟩ ⟨rfl, hS27⟩) a hF⟩)
        · rw [if_neg hc7] at h
          refine ge_known (t := 41) (b := decide (e1.T > 10000)) (c := false) (by kernel_rfl) (decide_eq_false hc7) ?_
          refine ge_batch [21, 22, 23, 24, 25, 26, 27] (ans := [.val (.int .i64 e1.D), .val (.int .i64 e1.C)]) (vs := [(48, .bool (decide (e1.D < e1.C))), (47, .bool (decide (e1.D < e1.C))), (46, .bool (decide (e1.D < e1.C))), (45, .int .i64 e1.C), (44, .pointer (some ⟨b2, 0, none⟩)), (43, .int .i64 e1.D), (42, .pointer (some ⟨b2, 3, none⟩))]) (l := [.loaded ⟨b2, 3, none⟩ (.int .i64 e1.D), .loaded ⟨b2, 0, none⟩ (.int .i64 e1.C)]) (by kernel_rfl) ⟨hS.cell 0 rfl rfl, hS.cell 0 rfl rfl, trivial⟩ ?_
          by_cases hc8 : e1.D < e1.C
          · rw [if_pos hc8] at h
            refine ge_known (t := 48) (b := decide (e1.D < e1.C)) (c := true) (by kernel_rfl) (decide_eq_true hc8) ?_
            refine ge_batch [28, 29, 30, 31, 32, 33, 34, 35, 36] (ans := []) (vs := [(57, .bool true), (56, undef), (55, undef), (54, undef), (53, .bool true), (52, .bool true), (51, undef), (50, undef), (49, undef)]) (l := []) (by kernel_rfl) trivial ?_
            refine ge_nil fun a hF => hK13 _ _ ?_ a hF
            refine we_true (by kernel_rfl) ?_
            refine we_seq fun K18 hK18 => ?_
            refine we_region [(0, 0), (1, 0), (2, 2)] rfl ?_
            refine ge_batch [0, 1] (ans := []) (vs := [(59, .agg #[.int .i64 3, .int .i64 (i1 : Int)]), (58, .int .i64 (i1 : Int))]) (l := []) (by kernel_rfl) trivial ?_
            have hS28 := hS.bring 1 rfl
            refine ge_set (b := b1) (j := 0) (cs := #[.int .i64 0, .int .i64 0]) (t := 31) (vs := [.int .i64 3, .int .i64 (i1 : Int)]) hS28 (by kernel_rfl) rfl rfl fun w11 hS29 => ?_
            have hS30 := hS29.nc #[.int .i64 3, .int .i64 (i1 : Int)] (by kernel_rfl)
            refine ge_nil fun a hF => hK18 _ _ ?_ a hF
            have hS31 := hS30.takeN 0
            obtain rfl := Option.some.inj h
            exact we_ret fun a hF => hQ _ _ _ (Outs.out nofun ⟨rfl, (post_ret (rs := [.cell 2 31]) (ans := [.val (.int .i64 3), .val (.int .i64 (i1 : Int))]) (vs := [.agg #[.int .i64 3, .int .i64 (i1 : Int)]]) (l := [.loaded ⟨b1, 0, none⟩ (.int .i64 3), .loaded ⟨b1, 1, none⟩ (.int .i64 (i1 : Int))]) rfl (by kernel_rfl) ⟨hS30.cell 0 rfl rfl, hS30.cell 0 rfl rfl, trivial⟩ ⟨rfl, hS31⟩) a hF⟩)
          · rw [if_neg hc8] at h
            refine ge_known (t := 48) (b := decide (e1.D < e1.C)) (c := false) (by kernel_rfl) (decide_eq_false hc8) ?_
            refine ge_batch [28, 29, 30, 31, 32] (ans := [.val (.int .i64 e1.P)]) (vs := [(53, .bool (decide (e1.P < 0))), (52, .bool (decide (e1.P < 0))), (51, .bool (decide (e1.P < 0))), (50, .int .i64 e1.P), (49, .pointer (some ⟨b2, 5, none⟩))]) (l := [.loaded ⟨b2, 5, none⟩ (.int .i64 e1.P)]) (by kernel_rfl) ⟨hS.cell 0 rfl rfl, trivial⟩ ?_
            by_cases hc9 : e1.P < 0
            · rw [if_pos hc9] at h
              refine ge_known (t := 53) (b := decide (e1.P < 0)) (c := true) (by kernel_rfl) (decide_eq_true hc9) ?_
              refine ge_batch [33, 34, 35, 36] (ans := []) (vs := [(57, .bool true), (56, undef), (55, undef), (54, undef)]) (l := []) (by kernel_rfl) trivial ?_
              refine ge_nil fun a hF => hK13 _ _ ?_ a hF
              refine we_true (by kernel_rfl) ?_
              refine we_seq fun K19 hK19 => ?_
              refine we_region [(0, 0), (1, 0), (2, 2)] rfl ?_
              refine ge_batch [0, 1] (ans := []) (vs := [(59, .agg #[.int .i64 3, .int .i64 (i1 : Int)]), (58, .int .i64 (i1 : Int))]) (l := []) (by kernel_rfl) trivial ?_
              have hS32 := hS.bring 1 rfl
              refine ge_set (b := b1) (j := 0) (cs := #[.int .i64 0, .int .i64 0]) (t := 31) (vs := [.int .i64 3, .int .i64 (i1 : Int)]) hS32 (by kernel_rfl) rfl rfl fun w12 hS33 => ?_
              have hS34 := hS33.nc #[.int .i64 3, .int .i64 (i1 : Int)] (by kernel_rfl)
              refine ge_nil fun a hF => hK19 _ _ ?_ a hF
              have hS35 := hS34.takeN 0
              obtain rfl := Option.some.inj h
              exact we_ret fun a hF => hQ _ _ _ (Outs.out nofun ⟨rfl, (post_ret (rs := [.cell 2 31]) (ans := [.val (.int .i64 3), .val (.int .i64 (i1 : Int))]) (vs := [.agg #[.int .i64 3, .int .i64 (i1 : Int)]]) (l := [.loaded ⟨b1, 0, none⟩ (.int .i64 3), .loaded ⟨b1, 1, none⟩ (.int .i64 (i1 : Int))]) rfl (by kernel_rfl) ⟨hS34.cell 0 rfl rfl, hS34.cell 0 rfl rfl, trivial⟩ ⟨rfl, hS35⟩) a hF⟩)
            · rw [if_neg hc9] at h
              refine ge_known (t := 53) (b := decide (e1.P < 0)) (c := false) (by kernel_rfl) (decide_eq_false hc9) ?_
              refine ge_batch [33, 34, 35, 36] (ans := [.val (.int .i64 e1.P)]) (vs := [(57, .bool (decide (e1.P > 1000))), (56, .bool (decide (e1.P > 1000))), (55, .int .i64 e1.P), (54, .pointer (some ⟨b2, 5, none⟩))]) (l := [.loaded ⟨b2, 5, none⟩ (.int .i64 e1.P)]) (by kernel_rfl) ⟨hS.cell 0 rfl rfl, trivial⟩ ?_
              refine ge_nil fun a hF => hK13 _ _ ?_ a hF
              by_cases hc10 : e1.P > 1000
              · rw [if_pos hc10] at h
                refine we_known (t := 57) (b := decide (e1.P > 1000)) (v := true) (by kernel_rfl) (decide_eq_true hc10) ?_
                refine we_true (by kernel_rfl) ?_
                refine we_seq fun K20 hK20 => ?_
                refine we_region [(0, 0), (1, 0), (2, 2)] rfl ?_
                refine ge_batch [0, 1] (ans := []) (vs := [(59, .agg #[.int .i64 3, .int .i64 (i1 : Int)]), (58, .int .i64 (i1 : Int))]) (l := []) (by kernel_rfl) trivial ?_
                have hS36 := hS.bring 1 rfl
                refine ge_set (b := b1) (j := 0) (cs := #[.int .i64 0, .int .i64 0]) (t := 31) (vs := [.int .i64 3, .int .i64 (i1 : Int)]) hS36 (by kernel_rfl) rfl rfl fun w13 hS37 => ?_
                have hS38 := hS37.nc #[.int .i64 3, .int .i64 (i1 : Int)] (by kernel_rfl)
                refine ge_nil fun a hF => hK20 _ _ ?_ a hF
                have hS39 := hS38.takeN 0
                obtain rfl := Option.some.inj h
                exact we_ret fun a hF => hQ _ _ _ (Outs.out nofun ⟨rfl, (post_ret (rs := [.cell 2 31]) (ans := [.val (.int .i64 3), .val (.int .i64 (i1 : Int))]) (vs := [.agg #[.int .i64 3, .int .i64 (i1 : Int)]]) (l := [.loaded ⟨b1, 0, none⟩ (.int .i64 3), .loaded ⟨b1, 1, none⟩ (.int .i64 (i1 : Int))]) rfl (by kernel_rfl) ⟨hS38.cell 0 rfl rfl, hS38.cell 0 rfl rfl, trivial⟩ ⟨rfl, hS39⟩) a hF⟩)
              · rw [if_neg hc10] at h
                refine we_known (t := 57) (b := decide (e1.P > 1000)) (v := false) (by kernel_rfl) (decide_eq_false hc10) ?_
                refine we_false (by kernel_rfl) ?_
                have hS40 := hS.bring 1 rfl
                have hS41 := hS40.bring 1 rfl
                obtain rfl := Option.some.inj h
                exact we_skip fun a hF => hQ _ _ _ (Outs.again ⟨hS41, hF.weaken ⟨by kernel_rfl, by kernel_rfl, by kernel_rfl, by kernel_rfl, by kernel_rfl, by kernel_rfl, by kernel_rfl, trivial⟩⟩)
abbrev modes_Check.A1 (K : Nat) (w0 : World) (l0 : List SCrit) (A0 : Option Addr) (c0 : Nat) (hR0 : RdL w0 A0 l0) (hL0 : l0.length ≤ c0) (b1 : Nat) : Nat → Act → World → Prop := fun (s : Nat) a w => St w0 w [Own.blk b1 (.cells #[.int .i64 0, .int .i64 0] 31 (0, 0))] ∧ Frm 95 a [(0, .slice A0 l0.length c0), (2, .pointer (some ⟨b1, 0, none⟩)), (14, .slice A0 l0.length c0), (15, .int .i64 (l0.length : Int)), (16, .int .i64 (s : Int))]
abbrev modes_Check.B1 (K : Nat) (w0 : World) (l0 : List SCrit) (A0 : Option Addr) (c0 : Nat) (hR0 : RdL w0 A0 l0) (hL0 : l0.length ≤ c0) (b1 : Nat) : (Unit ⊕ SFault) → Exit → Act → World → Prop := Exits 0 (fun (s : Unit) a w => St w0 w [Own.blk b1 (.cells #[.int .i64 0, .int .i64 0] 31 (0, 0))] ∧ Frm 95 a [(2, .pointer (some ⟨b1, 0, none⟩))]) (Rets Tryd.prog Tryd.f12 (modes_Check.Post w0))
theorem modes_Check_r1 (K : Nat) (w0 : World) (l0 : List SCrit) (A0 : Option Addr) (c0 : Nat) (hR0 : RdL w0 A0 l0) (hL0 : l0.length ≤ c0) (b1 : Nat) (s : Nat) (o : Nat ⊕ (Unit ⊕ SFault)) (h : modes_Check.r1 K l0 s = some o) (a : Act) (w : World) (hA : modes_Check.A1 K w0 l0 A0 c0 hR0 hL0 b1 s a w) (Q : Exit → Act → World → Prop) (hQ : ∀ x a w, Outs (modes_Check.A1 K w0 l0 A0 c0 hR0 hL0 b1) (modes_Check.B1 K w0 l0 A0 c0 hR0 hL0 b1) o x a w → Q x a w) : (subF Tryd.f12 [1, 1, 0, 1, 0, 0]).wp Tryd.prog Q a w := by
  obtain ⟨i1, hs⟩ : ∃ z, z = s := ⟨s, rfl⟩
  subst hs
  obtain ⟨hS, hF⟩ := hA
  replace hS : St w0 w [Own.blk b1 (.cells #[.int .i64 0, .int .i64 0] 31 (0, 0))] := hS
  simp only [modes_Check.r1] at h
  refine (?_ : WE Tryd.prog 95 (subF Tryd.f12 [1, 1, 0, 1, 0, 0]) Q [(0, .slice A0 l0.length c0), (2, .pointer (some ⟨b1, 0, none⟩)), (14, .slice A0 l0.length c0), (15, .int .i64 (l0.length : Int)), (16, .int .i64 (i1 : Int))] w) a hF
  clear hF a
  refine we_seq fun K8 hK8 => ?_
  refine we_region [(0, 0)] rfl ?_
  refine ge_batch [0] (ans := []) (vs := [(17, .bool (decide ((i1 : Int) < (l0.length : Int))))]) (l := []) (by kernel_rfl) trivial ?_
  refine ge_nil fun a hF => hK8 _ _ ?_ a hF
  refine we_seq fun K9 hK9 => ?_
  by_cases hc3 : (i1 : Int) < (l0.length : Int)
  · rw [if_pos hc3] at h
    refine we_known (t := 17) (b := decide ((i1 : Int) < (l0.length : Int))) (v := true) (by kernel_rfl) (decide_eq_true hc3) ?_
    refine we_true (by kernel_rfl) ?_
    refine we_skip fun a hF => hK9 _ _ ?_ a hF
    refine we_seq fun K10 hK10 => ?_
    refine we_block ?_
    refine we_seq fun K11 hK11 => ?_
    refine we_region [(0, 0), (1, 0), (2, 0), (3, 1), (4, 0), (5, 2)] rfl ?_
    refine ge_batch [0] (ans := []) (vs := [(18, .int .i64 (i1 : Int))]) (l := []) (by kernel_rfl) trivial ?_
    rcases hx2 : l0[i1]? with _ | e1
    · rw [hx2] at h; cases h
    rw [hx2] at h
    simp only [] at h
    refine ge_index (d := 19) (ty := 0) (t := 22) (el := 27) (sz := 6) (m := l0.length) (c := c0) (x := (.tmp 14)) (y := (.tmp 16)) (A := A0) (k' := .i64) (j := (i1 : Int)) (jn := i1) (b0 := blkOf A0) (o0 := offOf A0) (by kernel_rfl) (by kernel_rfl) (by kernel_rfl) (by kernel_rfl) (by kernel_rfl) ((hS.rd hR0).eqSome (pos_of_get hx2)) rfl (lt_of_get hx2) ?_
    refine ge_batch [2] (ans := [.val (.int .i64 e1.C), .val (.int .i64 e1.H), .val (.int .i64 e1.T), .val (.int .i64 e1.D), .val (.bool e1.High), .val (.int .i64 e1.P)]) (vs := [(20, .agg #[.int .i64 e1.C, .int .i64 e1.H, .int .i64 e1.T, .int .i64 e1.D, .bool e1.High, .int .i64 e1.P])]) (l := [.loaded ⟨blkOf A0, offOf A0 + i1 * 6, none⟩ (.int .i64 e1.C), .loaded ⟨blkOf A0, offOf A0 + i1 * 6 + 1, none⟩ (.int .i64 e1.H), .loaded ⟨blkOf A0, offOf A0 + i1 * 6 + 2, none⟩ (.int .i64 e1.T), .loaded ⟨blkOf A0, offOf A0 + i1 * 6 + 3, none⟩ (.int .i64 e1.D), .loaded ⟨blkOf A0, offOf A0 + i1 * 6 + 4, none⟩ (.bool e1.High), .loaded ⟨blkOf A0, offOf A0 + i1 * 6 + 5, none⟩ (.int .i64 e1.P)]) (by kernel_rfl) ⟨RdL.cell (j := 0) (hS.rd hR0) hx2 rfl, RdL.cell (j := 1) (hS.rd hR0) hx2 rfl, RdL.cell (j := 2) (hS.rd hR0) hx2 rfl, RdL.cell (j := 3) (hS.rd hR0) hx2 rfl, RdL.cell (j := 4) (hS.rd hR0) hx2 rfl, RdL.cell (j := 5) (hS.rd hR0) hx2 rfl, trivial⟩ ?_
    refine ge_new (d := some 4) (o := .cells #[.int .i64 0, .int .i64 0, .int .i64 0, .int .i64 0, .bool false, .int .i64 0] 27) (v := fun b => .pointer (some ⟨b, 0, none⟩)) hS (fun b => by kernel_rfl) fun b2 w5 hx3 hS9 => ?_
    refine ge_batch [4] (ans := []) (vs := [(3, .int .i64 (i1 : Int))]) (l := []) (by kernel_rfl) trivial ?_
    refine ge_set (b := b2) (j := 0) (cs := #[.int .i64 0, .int .i64 0, .int .i64 0, .int .i64 0, .bool false, .int .i64 0]) (t := 27) (vs := [.int .i64 e1.C, .int .i64 e1.H, .int .i64 e1.T, .int .i64 e1.D, .bool e1.High, .int .i64 e1.P]) hS9 (by kernel_rfl) rfl rfl fun w6 hS10 => ?_
    have hS11 := hS10.nc #[.int .i64 e1.C, .int .i64 e1.H, .int .i64 e1.T, .int .i64 e1.D, .bool e1.High, .int .i64 e1.P] (by kernel_rfl)
    refine ge_nil fun a hF => hK11 _ _ ?_ a hF
    refine we_seq fun K12 hK12 => ?_
    rcases hq2 : modes_Check.p2 i1 e1 with _ | (_ | rr1)
    · rw [hq2] at h; cases h
    · rw [hq2] at h
      simp only [] at h
      refine we_keep (e' := [(0, .slice A0 l0.length c0), (2, .pointer (some ⟨b1, 0, none⟩)), (3, .int .i64 (i1 : Int)), (4, .pointer (some ⟨b2, 0, none⟩)), (14, .slice A0 l0.length c0), (15, .int .i64 (l0.length : Int)), (16, .int .i64 (i1 : Int)), (17, .bool true), (18, .int .i64 (i1 : Int)), (19, .pointer (some ⟨blkOf A0, offOf A0 + i1 * 6, none⟩)), (20, .agg #[.int .i64 e1.C, .int .i64 e1.H, .int .i64 e1.T, .int .i64 e1.D, .bool e1.High, .int .i64 e1.P])]) ⟨by kernel_rfl, by kernel_rfl, by kernel_rfl, by kernel_rfl, by kernel_rfl, by kernel_rfl, by kernel_rfl, by kernel_rfl, by kernel_rfl, by kernel_rfl, by kernel_rfl, trivial⟩ (modes_Check_p2 K w0 l0 A0 c0 hR0 hL0 b1 i1 hc3 e1 hx2 b2 _ hq2 _ hS11 _ ?_)
      rintro _ a w14 ⟨rfl, hS42, hF⟩
      replace hS42 : St w0 w14 [Own.blk b2 (.cells #[.int .i64 e1.C, .int .i64 e1.H, .int .i64 e1.T, .int .i64 e1.D, .bool e1.High, .int .i64 e1.P] 27 (0, 0)), Own.blk b1 (.cells #[.int .i64 0, .int .i64 0] 31 (0, 0))] := hS42
      refine hK12 [(0, .slice A0 l0.length c0), (2, .pointer (some ⟨b1, 0, none⟩)), (3, .int .i64 (i1 : Int)), (4, .pointer (some ⟨b2, 0, none⟩)), (14, .slice A0 l0.length c0), (15, .int .i64 (l0.length : Int)), (16, .int .i64 (i1 : Int))] w14 ?_ a hF
      refine we_seq fun K21 hK21 => ?_
      refine we_seq fun K22 hK22 => ?_
      refine we_region [(0, 0), (1, 0), (2, 0), (3, 0), (4, 0), (5, 0), (6, 0), (7, 0), (8, 0), (9, 0), (10, 0), (11, 0), (12, 0), (13, 0), (14, 0), (15, 0), (16, 0), (17, 0), (18, 0), (19, 0), (20, 0), (21, 0), (22, 0), (23, 0)] rfl ?_
      refine ge_batch [0, 1, 2, 3, 4, 5] (ans := [.val (.int .i64 e1.D), .val (.int .i64 e1.T)]) (vs := [(65, .bool (decide (e1.D > e1.T))), (64, .bool (decide (e1.D > e1.T))), (63, .int .i64 e1.T), (62, .pointer (some ⟨b2, 2, none⟩)), (61, .int .i64 e1.D), (60, .pointer (some ⟨b2, 3, none⟩))]) (l := [.loaded ⟨b2, 3, none⟩ (.int .i64 e1.D), .loaded ⟨b2, 2, none⟩ (.int .i64 e1.T)]) (by kernel_rfl) ⟨hS42.cell 0 rfl rfl, hS42.cell 0 rfl rfl, trivial⟩ ?_
      by_cases hc11 : e1.D > e1.T
      · rw [if_pos hc11] at h
        refine ge_known (t := 65) (b := decide (e1.D > e1.T)) (c := true) (by kernel_rfl) (decide_eq_true hc11) ?_
        refine ge_batch [6, 7, 8, 9, 10, 11, 12, 13, 14, 15, 16, 17, 18, 19, 20, 21, 22, 23] (ans := []) (vs := [(83, .bool true), (82, undef), (81, undef), (80, undef), (79, undef), (78, undef), (77, undef), (76, undef), (75, undef), (74, undef), (73, undef), (72, .bool true), (71, .bool true), (70, undef), (69, undef), (68, undef), (67, undef), (66, undef)]) (l := []) (by kernel_rfl) trivial ?_
        refine ge_nil fun a hF => hK22 _ _ ?_ a hF
        refine we_true (by kernel_rfl) ?_
        refine we_seq fun K23 hK23 => ?_
        refine we_region [(0, 0), (1, 0), (2, 2)] rfl ?_
        refine ge_batch [0, 1] (ans := []) (vs := [(85, .agg #[.int .i64 12, .int .i64 (i1 : Int)]), (84, .int .i64 (i1 : Int))]) (l := []) (by kernel_rfl) trivial ?_
        have hS43 := hS42.bring 1 rfl
        refine ge_set (b := b1) (j := 0) (cs := #[.int .i64 0, .int .i64 0]) (t := 31) (vs := [.int .i64 12, .int .i64 (i1 : Int)]) hS43 (by kernel_rfl) rfl rfl fun w15 hS44 => ?_
        have hS45 := hS44.nc #[.int .i64 12, .int .i64 (i1 : Int)] (by kernel_rfl)
        refine ge_nil fun a hF => hK23 _ _ ?_ a hF
        have hS46 := hS45.takeN 0
        obtain rfl := Option.some.inj h
        exact we_ret fun a hF => hQ _ _ _ (Outs.out nofun (Exits.on ⟨rfl, (post_ret (rs := [.cell 2 31]) (ans := [.val (.int .i64 12), .val (.int .i64 (i1 : Int))]) (vs := [.agg #[.int .i64 12, .int .i64 (i1 : Int)]]) (l := [.loaded ⟨b1, 0, none⟩ (.int .i64 12), .loaded ⟨b1, 1, none⟩ (.int .i64 (i1 : Int))]) rfl (by kernel_rfl) ⟨hS45.cell 0 rfl rfl, hS45.cell 0 rfl rfl, trivial⟩ ⟨rfl, hS46⟩) a hF⟩))
      · rw [if_neg hc11] at h
        refine ge_known (t := 65) (b := decide (e1.D > e1.T)) (c := false) (by kernel_rfl) (decide_eq_false hc11) ?_
        refine ge_batch [6, 7, 8, 9, 10, 11, 12] (ans := [.val (.int .i64 e1.H), .val (.int .i64 e1.D)]) (vs := [(72, .bool (decide (e1.H > e1.D))), (71, .bool (decide (e1.H > e1.D))), (70, .bool (decide (e1.H > e1.D))), (69, .int .i64 e1.D), (68, .pointer (some ⟨b2, 3, none⟩)), (67, .int .i64 e1.H), (66, .pointer (some ⟨b2, 1, none⟩))]) (l := [.loaded ⟨b2, 1, none⟩ (.int .i64 e1.H), .loaded ⟨b2, 3, none⟩ (.int .i64 e1.D)]) (by kernel_rfl) ⟨hS42.cell 0 rfl rfl, hS42.cell 0 rfl rfl, trivial⟩ ?_
        by_cases hc12 : e1.H > e1.D
        · rw [if_pos hc12] at h
          refine ge_known (t := 72) (b := decide (e1.H > e1.D)) (c := true) (by kernel_rfl) (decide_eq_true hc12) ?_
          refine ge_batch [13, 14, 15, 16, 17, 18, 19, 20, 21, 22, 23] (ans := []) (vs := [(83, .bool true), (82, undef), (81, undef), (80, undef), (79, undef), (78, undef), (77, undef), (76, undef), (75, undef), (74, undef), (73, undef)]) (l := []) (by kernel_rfl) trivial ?_
          refine ge_nil fun a hF => hK22 _ _ ?_ a hF
          refine we_true (by kernel_rfl) ?_
          refine we_seq fun K24 hK24 => ?_
          refine we_region [(0, 0), (1, 0), (2, 2)] rfl ?_
          refine ge_batch [0, 1] (ans := []) (vs := [(85, .agg #[.int .i64 12, .int .i64 (i1 : Int)]), (84, .int .i64 (i1 : Int))]) (l := []) (by kernel_rfl) trivial ?_
          have hS47 := hS42.bring 1 rfl
          refine ge_set (b := b1) (j := 0) (cs := #[.int .i64 0, .int .i64 0]) (t := 31) (vs := [.int .i64 12, .int .i64 (i1 : Int)]) hS47 (by kernel_rfl) rfl rfl fun w16 hS48 => ?_
          have hS49 := hS48.nc #[.int .i64 12, .int .i64 (i1 : Int)] (by kernel_rfl)
          refine ge_nil fun a hF => hK24 _ _ ?_ a hF
          have hS50 := hS49.takeN 0
          obtain rfl := Option.some.inj h
          exact we_ret fun a hF => hQ _ _ _ (Outs.out nofun (Exits.on ⟨rfl, (post_ret (rs := [.cell 2 31]) (ans := [.val (.int .i64 12), .val (.int .i64 (i1 : Int))]) (vs := [.agg #[.int .i64 12, .int .i64 (i1 : Int)]]) (l := [.loaded ⟨b1, 0, none⟩ (.int .i64 12), .loaded ⟨b1, 1, none⟩ (.int .i64 (i1 : Int))]) rfl (by kernel_rfl) ⟨hS49.cell 0 rfl rfl, hS49.cell 0 rfl rfl, trivial⟩ ⟨rfl, hS50⟩) a hF⟩))
        · rw [if_neg hc12] at h
          refine ge_known (t := 72) (b := decide (e1.H > e1.D)) (c := false) (by kernel_rfl) (decide_eq_false hc12) ?_
          refine ge_batch [13, 14, 15, 16] (ans := [.val (.bool e1.High)]) (vs := [(76, .bool (!e1.High)), (75, .bool (!e1.High)), (74, .bool e1.High), (73, .pointer (some ⟨b2, 4, none⟩))]) (l := [.loaded ⟨b2, 4, none⟩ (.bool e1.High)]) (by kernel_rfl) ⟨hS42.cell 0 rfl rfl, trivial⟩ ?_
          by_cases hc13 : e1.High = true
          · rw [if_pos hc13] at h
            refine ge_known (t := 76) (b := !e1.High) (c := false) (by kernel_rfl) (congrArg (fun z => !z) hc13) ?_
            refine ge_batch [17, 18, 19, 20, 21, 22, 23] (ans := []) (vs := [(83, .bool false), (82, .bool false), (81, undef), (80, undef), (79, undef), (78, undef), (77, undef)]) (l := []) (by kernel_rfl) trivial ?_
            refine ge_nil fun a hF => hK22 _ _ ?_ a hF
            refine we_false (by kernel_rfl) ?_
            refine we_skip fun a hF => hK21 _ _ ?_ a hF
            refine we_seq fun K25 hK25 => ?_
            refine we_region [(0, 0), (1, 0), (2, 0), (3, 0), (4, 1)] rfl ?_
            refine ge_batch [0, 1] (ans := []) (vs := [(87, .int .i64 (i1 : Int)), (86, .slice A0 l0.length c0)]) (l := []) (by kernel_rfl) trivial ?_
            by_cases hc14 : i1 ≤ l0.length
            · rw [if_pos hc14] at h
              refine ge_part (d := 88) (ty := 22) (t := 22) (el := 27) (sz := 6) (m := l0.length) (c := c0) (lo := 0) (hi := i1) (x := (.tmp 86)) (xl := none) (xh := some (.tmp 87)) (A := A0) (by kernel_rfl) (by kernel_rfl) rfl ⟨.i64, (i1 : Int), by kernel_rfl, rfl⟩ (by kernel_rfl) (by kernel_rfl) (by have f0 := hc14; have f1 := hL0; omega) (by have f0 := hc14; have f1 := hL0; omega) ?_
              refine ge_same (t := 88) (v := .slice (subA A0 c0 0 6) (i1 - 0) (c0 - 0)) (v' := .slice (subA A0 c0 0 6) (((l0.take i1).drop 0).length) (c0 - 0)) (by kernel_rfl) (by have f0 := hc14; have f1 := hL0; rw [show i1 - 0 = ((l0.take i1).drop 0).length by simp only [List.length_drop, List.length_take]; omega]) ?_
              rcases hq3 : slices_ContainsFunc_api_Crit_api_Crit.f K ((l0.take i1).drop 0) e1 with _ | r1
              · rw [hq3] at h; cases h
              rw [hq3] at h
              simp only [] at h
              refine ge_batch [3] (ans := []) (vs := [(89, .func (.func 46) #[] #[.pointer (some ⟨b2, 0, none⟩)])]) (l := []) (by kernel_rfl) trivial ?_
              refine ge_call (d := some 90) (f := 45) (args := #[.slice (subA A0 c0 0 6) (((l0.take i1).drop 0).length) (c0 - 0), .func (.func 46) #[] #[.pointer (some ⟨b2, 0, none⟩)]]) (by kernel_rfl) (slices_ContainsFunc_api_Crit_api_Crit_ok K ((l0.take i1).drop 0) (subA A0 c0 0 6) (c0 - 0) b2 e1 _ (hS42.rd (RdL.part hR0 hL0 0 i1)) (by have f0 := hc14; have f1 := hL0; simp only [List.length_drop, List.length_take]; omega) (hS42.globOf 0 rfl) _ hq3) ?_
              rintro _ w17 ⟨rfl, hS51⟩
              refine ⟨_, rfl, hS51.below, ?_⟩
              have hS52 := hS42.call hS51
              refine ge_nil fun a hF => hK25 _ _ ?_ a hF
              by_cases hc15 : r1 = true
              · rw [if_pos hc15] at h
                refine we_known (t := 90) (b := r1) (v := true) (by kernel_rfl) hc15 ?_
                refine we_true (by kernel_rfl) ?_
                refine we_seq fun K26 hK26 => ?_
                refine we_region [(0, 0), (1, 0), (2, 2)] rfl ?_
                refine ge_batch [0, 1] (ans := []) (vs := [(92, .agg #[.int .i64 5, .int .i64 (i1 : Int)]), (91, .int .i64 (i1 : Int))]) (l := []) (by kernel_rfl) trivial ?_
                have hS53 := hS52.bring 1 rfl
                refine ge_set (b := b1) (j := 0) (cs := #[.int .i64 0, .int .i64 0]) (t := 31) (vs := [.int .i64 5, .int .i64 (i1 : Int)]) hS53 (by kernel_rfl) rfl rfl fun w18 hS54 => ?_
                have hS55 := hS54.nc #[.int .i64 5, .int .i64 (i1 : Int)] (by kernel_rfl)
                refine ge_nil fun a hF => hK26 _ _ ?_ a hF
                have hS56 := hS55.takeN 0
                obtain rfl := Option.some.inj h
                exact we_ret fun a hF => hQ _ _ _ (Outs.out nofun (Exits.on ⟨rfl, (post_ret (rs := [.cell 2 31]) (ans := [.val (.int .i64 5), .val (.int .i64 (i1 : Int))]) (vs := [.agg #[.int .i64 5, .int .i64 (i1 : Int)]]) (l := [.loaded ⟨b1, 0, none⟩ (.int .i64 5), .loaded ⟨b1, 1, none⟩ (.int .i64 (i1 : Int))]) rfl (by kernel_rfl) ⟨hS55.cell 0 rfl rfl, hS55.cell 0 rfl rfl, trivial⟩ ⟨rfl, hS56⟩) a hF⟩))
              · rw [if_neg hc15] at h
                refine we_known (t := 90) (b := r1) (v := false) (by kernel_rfl) (Bool.eq_false_iff.2 hc15) ?_
                refine we_false (by kernel_rfl) ?_
                refine we_skip fun a hF => hK10 _ _ ?_ a hF
                refine we_region [(0, 0), (1, 0)] rfl ?_
                refine ge_addn (d := 93) (ty := 3) (x := (.tmp 16)) (y := (.const (.int .i64 1))) (t := 3) (t2 := 3) (k := .i64) (m := i1) (by kernel_rfl) (by kernel_rfl) (by kernel_rfl) (by have h0 := hR0.small; omega) ?_
                refine ge_batch [1] (ans := []) (vs := [(16, .int .i64 ((i1 + 1 : Nat) : Int))]) (l := []) (by kernel_rfl) trivial ?_
                have hS57 := hS52.bring 1 rfl
                have hS58 := hS57.takeN 1
                obtain rfl := Option.some.inj h
                exact ge_nil fun a hF => hQ _ _ _ (Outs.again ⟨hS58, hF.weaken ⟨by kernel_rfl, by kernel_rfl, by kernel_rfl, by kernel_rfl, by kernel_rfl, trivial⟩⟩)
            · rw [if_neg hc14] at h
              cases h
          · rw [if_neg hc13] at h
            refine ge_known (t := 76) (b := !e1.High) (c := true) (by kernel_rfl) (congrArg (fun z => !z) (Bool.eq_false_iff.2 hc13)) ?_
            refine ge_batch [17, 18, 19, 20, 21, 22, 23] (ans := [.val (.int .i64 e1.H), .val (.int .i64 e1.C)]) (vs := [(83, .bool (e1.H != e1.C)), (82, .bool (e1.H != e1.C)), (81, .bool (e1.H != e1.C)), (80, .int .i64 e1.C), (79, .pointer (some ⟨b2, 0, none⟩)), (78, .int .i64 e1.H), (77, .pointer (some ⟨b2, 1, none⟩))]) (l := [.loaded ⟨b2, 1, none⟩ (.int .i64 e1.H), .loaded ⟨b2, 0, none⟩ (.int .i64 e1.C)]) (by kernel_rfl) ⟨hS42.cell 0 rfl rfl, hS42.cell 0 rfl rfl, trivial⟩ ?_
            refine ge_nil fun a hF => hK22 _ _ ?_ a hF
            by_cases hc16 : e1.H = e1.C
            · rw [if_pos hc16] at h
              refine we_known (t := 83) (b := (e1.H != e1.C)) (v := false) (by kernel_rfl) (bne_eq_false_iff_eq.2 hc16) ?_
              refine we_false (by kernel_rfl) ?_
              refine we_skip fun a hF => hK21 _ _ ?_ a hF
              refine we_seq fun K27 hK27 => ?_
              refine we_region [(0, 0), (1, 0), (2, 0), (3, 0), (4, 1)] rfl ?_
              refine ge_batch [0, 1] (ans := []) (vs := [(87, .int .i64 (i1 : Int)), (86, .slice A0 l0.length c0)]) (l := []) (by kernel_rfl) trivial ?_
              by_cases hc17 : i1 ≤ l0.length
              · rw [if_pos hc17] at h
                refine ge_part (d := 88) (ty := 22) (t := 22) (el := 27) (sz := 6) (m := l0.length) (c := c0) (lo := 0) (hi := i1) (x := (.tmp 86)) (xl := none) (xh := some (.tmp 87)) (A := A0) (by kernel_rfl) (by kernel_rfl) rfl ⟨.i64, (i1 : Int), by kernel_rfl, rfl⟩ (by kernel_rfl) (by kernel_rfl) (by have f0 := hc17; have f1 := hL0; omega) (by have f0 := hc17; have f1 := hL0; omega) ?_
                refine ge_same (t := 88) (v := .slice (subA A0 c0 0 6) (i1 - 0) (c0 - 0)) (v' := .slice (subA A0 c0 0 6) (((l0.take i1).drop 0).length) (c0 - 0)) (by kernel_rfl) (by have f0 := hc17; have f1 := hL0; rw [show i1 - 0 = ((l0.take i1).drop 0).length by simp only [List.length_drop, List.length_take]; omega]) ?_
                rcases hq4 : slices_ContainsFunc_api_Crit_api_Crit.f K ((l0.take i1).drop 0) e1 with _ | r2
                · rw [hq4] at h; cases h
                rw [hq4] at h
                simp only [] at h
                refine ge_batch [3] (ans := []) (vs := [(89, .func (.func 46) #[] #[.pointer (some ⟨b2, 0, none⟩)])]) (l := []) (by kernel_rfl) trivial ?_
                refine ge_call (d := some 90) (f := 45) (args := #[.slice (subA A0 c0 0 6) (((l0.take i1).drop 0).length) (c0 - 0), .func (.func 46) #[] #[.pointer (some ⟨b2, 0, none⟩)]]) (by kernel_rfl) (slices_ContainsFunc_api_Crit_api_Crit_ok K ((l0.take i1).drop 0) (subA A0 c0 0 6) (c0 - 0) b2 e1 _ (hS42.rd (RdL.part hR0 hL0 0 i1)) (by have f0 := hc17; have f1 := hL0; simp only [List.length_drop, List.length_take]; omega) (hS42.globOf 0 rfl) _ hq4) ?_
                rintro _ w19 ⟨rfl, hS59⟩
                refine ⟨_, rfl, hS59.below, ?_⟩
                have hS60 := hS42.call hS59
                refine ge_nil fun a hF => hK27 _ _ ?_ a hF
                by_cases hc18 : r2 = true
                · rw [if_pos hc18] at h
                  refine we_known (t := 90) (b := r2) (v := true) (by kernel_rfl) hc18 ?_
                  refine we_true (by kernel_rfl) ?_
                  refine we_seq fun K28 hK28 => ?_
                  refine we_region [(0, 0), (1, 0), (2, 2)] rfl ?_
                  refine ge_batch [0, 1] (ans := []) (vs := [(92, .agg #[.int .i64 5, .int .i64 (i1 : Int)]), (91, .int .i64 (i1 : Int))]) (l := []) (by kernel_rfl) trivial ?_
                  have hS61 := hS60.bring 1 rfl
                  refine ge_set (b := b1) (j := 0) (cs := #[.int .i64 0, .int .i64 0]) (t := 31) (vs := [.int .i64 5, .int .i64 (i1 : Int)]) hS61 (by kernel_rfl) rfl rfl fun w20 hS62 => ?_
                  have hS63 := hS62.nc #[.int .i64 5, .int .i64 (i1 : Int)] (by kernel_rfl)
                  refine ge_nil fun a hF => hK28 _ _ ?_ a hF
                  have hS64 := hS63.takeN 0
                  obtain rfl := Option.some.inj h
                  exact we_ret fun a hF => hQ _ _ _ (Outs.out nofun (Exits.on ⟨rfl, (post_ret (rs := [.cell 2 31]) (ans := [.val (.int .i64 5), .val (.int .i64 (i1 : Int))]) (vs := [.agg #[.int .i64 5, .int .i64 (i1 : Int)]]) (l := [.loaded ⟨b1, 0, none⟩ (.int .i64 5), .loaded ⟨b1, 1, none⟩ (.int .i64 (i1 : Int))]) rfl (by kernel_rfl) ⟨hS63.cell 0 rfl rfl, hS63.cell 0 rfl rfl, trivial⟩ ⟨rfl, hS64⟩) a hF⟩))
                · rw [if_neg hc18] at h
                  refine we_known (t := 90) (b := r2) (v := false) (by kernel_rfl) (Bool.eq_false_iff.2 hc18) ?_
                  refine we_false (by kernel_rfl) ?_
                  refine we_skip fun a hF => hK10 _ _ ?_ a hF
                  refine we_region [(0, 0), (1, 0)] rfl ?_
                  refine ge_addn (d := 93) (ty := 3) (x := (.tmp 16)) (y := (.const (.int .i64 1))) (t := 3) (t2 := 3) (k := .i64) (m := i1) (by kernel_rfl) (by kernel_rfl) (by kernel_rfl) (by have h0 := hR0.small; omega) ?_
                  refine ge_batch [1] (ans := []) (vs := [(16, .int .i64 ((i1 + 1 : Nat) : Int))]) (l := []) (by kernel_rfl) trivial ?_
                  have hS65 := hS60.bring 1 rfl
                  have hS66 := hS65.takeN 1
                  obtain rfl := Option.some.inj h
                  exact ge_nil fun a hF => hQ _ _ _ (Outs.again ⟨hS66, hF.weaken ⟨by kernel_rfl, by kernel_rfl, by kernel_rfl, by kernel_rfl, by kernel_rfl, trivial⟩⟩)
              · rw [if_neg hc17] at h
                cases h
            · rw [if_neg hc16] at h
              refine we_known (t := 83) (b := (e1.H != e1.C)) (v := true) (by kernel_rfl) (bne_iff_ne.2 hc16) ?_
              refine we_true (by kernel_rfl) ?_
              refine we_seq fun K29 hK29 => ?_
              refine we_region [(0, 0), (1, 0), (2, 2)] rfl ?_
              refine ge_batch [0, 1] (ans := []) (vs := [(85, .agg #[.int .i64 12, .int .i64 (i1 : Int)]), (84, .int .i64 (i1 : Int))]) (l := []) (by kernel_rfl) trivial ?_
              have hS67 := hS42.bring 1 rfl
              refine ge_set (b := b1) (j := 0) (cs := #[.int .i64 0, .int .i64 0]) (t := 31) (vs := [.int .i64 12, .int .i64 (i1 : Int)]) hS67 (by kernel_rfl) rfl rfl fun w21 hS68 => ?_
              have hS69 := hS68.nc #[.int .i64 12, .int .i64 (i1 : Int)] (by kernel_rfl)
              refine ge_nil fun a hF => hK29 _ _ ?_ a hF
              have hS70 := hS69.takeN 0
              obtain rfl := Option.some.inj h
              exact we_ret fun a hF => hQ _ _ _ (Outs.out nofun (Exits.on ⟨rfl, (post_ret (rs := [.cell 2 31]) (ans := [.val (.int .i64 12), .val (.int .i64 (i1 : Int))]) (vs := [.agg #[.int .i64 12, .int .i64 (i1 : Int)]]) (l := [.loaded ⟨b1, 0, none⟩ (.int .i64 12), .loaded ⟨b1, 1, none⟩ (.int .i64 (i1 : Int))]) rfl (by kernel_rfl) ⟨hS69.cell 0 rfl rfl, hS69.cell 0 rfl rfl, trivial⟩ ⟨rfl, hS70⟩) a hF⟩))
    · rw [hq2] at h
      simp only [] at h
      refine we_keep (e' := [(0, .slice A0 l0.length c0), (2, .pointer (some ⟨b1, 0, none⟩)), (3, .int .i64 (i1 : Int)), (4, .pointer (some ⟨b2, 0, none⟩)), (14, .slice A0 l0.length c0), (15, .int .i64 (l0.length : Int)), (16, .int .i64 (i1 : Int)), (17, .bool true), (18, .int .i64 (i1 : Int)), (19, .pointer (some ⟨blkOf A0, offOf A0 + i1 * 6, none⟩)), (20, .agg #[.int .i64 e1.C, .int .i64 e1.H, .int .i64 e1.T, .int .i64 e1.D, .bool e1.High, .int .i64 e1.P])]) ⟨by kernel_rfl, by kernel_rfl, by kernel_rfl, by kernel_rfl, by kernel_rfl, by kernel_rfl, by kernel_rfl, by kernel_rfl, by kernel_rfl, by kernel_rfl, by kernel_rfl, trivial⟩ (modes_Check_p2 K w0 l0 A0 c0 hR0 hL0 b1 i1 hc3 e1 hx2 b2 _ hq2 _ hS11 _ ?_)
      rintro _ a w1 ⟨_, rfl, hb⟩
      obtain rfl := Option.some.inj h
      exact hQ _ _ _ (Outs.out nofun (Exits.on ⟨rfl, hb⟩))
  · rw [if_neg hc3] at h
    refine we_known (t := 17) (b := decide ((i1 : Int) < (l0.length : Int))) (v := false) (by kernel_rfl) (decide_eq_false hc3) ?_
    refine we_false (by kernel_rfl) ?_
    obtain rfl := Option.some.inj h
    exact we_exit fun a hF => hQ _ _ _ (Outs.out nofun (Exits.here ⟨hS, hF.weaken ⟨by kernel_rfl, trivial⟩⟩))
theorem modes_Check_ok (K : Nat) (l0 : List SCrit) (A0 : Option Addr) (c0 : Nat) (w0 : World) (hR0 : RdL w0 A0 l0) (hL0 : l0.length ≤ c0) (r : SFault) (h : modes_Check.f K l0 = some r) :
    Calls Tryd.prog 12 #[.slice A0 l0.length c0] w0 (modes_Check.Post w0 r) := by
  have hS := St.start w0
  unfold modes_Check.f at h
  refine calls_enter (n := 95) (args := [.slice A0 l0.length c0]) (fn := Tryd.f12) rfl rfl rfl rfl ?_
  show WE _ _ _ _ [(0, .slice A0 l0.length c0)] _
  refine we_seq fun K1 hK1 => ?_
  refine we_region [(0, 1)] rfl ?_
  refine ge_new (d := some 2) (o := .cells #[.int .i64 0, .int .i64 0] 31) (v := fun b => .pointer (some ⟨b, 0, none⟩)) hS (fun b => by kernel_rfl) fun b1 w1 hx1 hS1 => ?_
  refine ge_nil fun a hF => hK1 _ _ ?_ a hF
  refine we_seq fun K2 hK2 => ?_
  rcases hq1 : modes_Check.p0 l0 with _ | (_ | rr3)
  · rw [hq1] at h; cases h
  · rw [hq1] at h
    simp only [] at h
    refine we_keep (e' := [(0, .slice A0 l0.length c0), (2, .pointer (some ⟨b1, 0, none⟩))]) ⟨by kernel_rfl, by kernel_rfl, trivial⟩ (modes_Check_p0 K w0 l0 A0 c0 hR0 hL0 b1 _ hq1 _ hS1 _ ?_)
    rintro _ a w4 ⟨rfl, hS8, hF⟩
    replace hS8 : St w0 w4 [Own.blk b1 (.cells #[.int .i64 0, .int .i64 0] 31 (0, 0))] := hS8
    refine hK2 [(0, .slice A0 l0.length c0), (2, .pointer (some ⟨b1, 0, none⟩))] w4 ?_ a hF
    refine we_seq fun K6 hK6 => ?_
    refine we_seq fun K7 hK7 => ?_
    refine we_region [(0, 0), (1, 0), (2, 0)] rfl ?_
    refine ge_batch [0, 1, 2] (ans := []) (vs := [(16, .int .i64 0), (15, .int .i64 (l0.length : Int)), (14, .slice A0 l0.length c0)]) (l := []) (by kernel_rfl) trivial ?_
    refine ge_nil fun a hF => hK7 _ _ ?_ a hF
    refine we_block ?_
    rcases hq5 : iter (modes_Check.r1 K l0) K 0 with _ | (_ | rr2)
    · rw [hq5] at h; cases h
    · rw [hq5] at h
      simp only [] at h
      refine we_iter (A := modes_Check.A1 K w0 l0 A0 c0 hR0 hL0 b1) (B := modes_Check.B1 K w0 l0 A0 c0 hR0 hL0 b1) hq5 (fun a hF => ⟨hS8, hF.weaken ⟨by kernel_rfl, by kernel_rfl, by kernel_rfl, by kernel_rfl, by kernel_rfl, trivial⟩⟩) (fun s o hf a w hA Q hQ => modes_Check_r1 K w0 l0 A0 c0 hR0 hL0 b1 s o hf a w hA Q hQ) ?_
      rintro _ a w22 _ ⟨rfl, hS71, hF⟩
      replace hS71 : St w0 w22 [Own.blk b1 (.cells #[.int .i64 0, .int .i64 0] 31 (0, 0))] := hS71
      refine hK6 [(2, .pointer (some ⟨b1, 0, none⟩))] w22 ?_ a hF
      refine we_seq fun K30 hK30 => ?_
      refine we_region [(0, 0), (1, 2)] rfl ?_
      refine ge_batch [0] (ans := []) (vs := [(94, .agg #[.int .i64 0, .int .i64 0])]) (l := []) (by kernel_rfl) trivial ?_
      refine ge_set (b := b1) (j := 0) (cs := #[.int .i64 0, .int .i64 0]) (t := 31) (vs := [.int .i64 0, .int .i64 0]) hS71 (by kernel_rfl) rfl rfl fun w23 hS72 => ?_
      have hS73 := hS72.nc #[.int .i64 0, .int .i64 0] (by kernel_rfl)
      refine ge_nil fun a hF => hK30 _ _ ?_ a hF
      have hS74 := hS73.takeN 0
      obtain rfl := Option.some.inj h
      exact we_ret (post_ret (rs := [.cell 2 31]) (ans := [.val (.int .i64 0), .val (.int .i64 0)]) (vs := [.agg #[.int .i64 0, .int .i64 0]]) (l := [.loaded ⟨b1, 0, none⟩ (.int .i64 0), .loaded ⟨b1, 1, none⟩ (.int .i64 0)]) rfl (by kernel_rfl) ⟨hS73.cell 0 rfl rfl, hS73.cell 0 rfl rfl, trivial⟩ ⟨rfl, hS74⟩)
    · rw [hq5] at h
      simp only [] at h
      refine we_iter (A := modes_Check.A1 K w0 l0 A0 c0 hR0 hL0 b1) (B := modes_Check.B1 K w0 l0 A0 c0 hR0 hL0 b1) hq5 (fun a hF => ⟨hS8, hF.weaken ⟨by kernel_rfl, by kernel_rfl, by kernel_rfl, by kernel_rfl, by kernel_rfl, trivial⟩⟩) (fun s o hf a w hA Q hQ => modes_Check_r1 K w0 l0 A0 c0 hR0 hL0 b1 s o hf a w hA Q hQ) ?_
      rintro _ a w1 _ ⟨rfl, hb⟩
      obtain rfl := Option.some.inj h
      exact hb
  · rw [hq1] at h
    simp only [] at h
    refine we_keep (e' := [(0, .slice A0 l0.length c0), (2, .pointer (some ⟨b1, 0, none⟩))]) ⟨by kernel_rfl, by kernel_rfl, trivial⟩ (modes_Check_p0 K w0 l0 A0 c0 hR0 hL0 b1 _ hq1 _ hS1 _ ?_)
    rintro _ a w1 ⟨_, rfl, hb⟩
    obtain rfl := Option.some.inj h
    exact hb

/-! punctual/modes.ceil -/
abbrev modes_ceil.Post (w0 : World) (r : Int) (e : Ending) (w : World) : Prop := e = .returned (.int .i64 r) ∧ St w0 w []
def modes_ceil.f (x0 : Int) (x1 : Int) : Option Int :=
  if x1 = 0 then
    none
  else
    some (IntKind.i64.wrap (Int.tdiv (IntKind.i64.wrap ((IntKind.i64.wrap (x0 + x1)) - 1)) x1))
theorem modes_ceil_ok (x0 : Int) (x1 : Int) (w0 : World) (r : Int) (h : modes_ceil.f x0 x1 = some r) :
    Calls Tryd.prog 68 #[.int .i64 x0, .int .i64 x1] w0 (modes_ceil.Post w0 r) := by
  have hS := St.start w0
  unfold modes_ceil.f at h
  refine calls_enter (n := 11) (args := [.int .i64 x0, .int .i64 x1]) (fn := Tryd.f68) rfl rfl rfl rfl ?_
  show WE _ _ _ _ [(0, .int .i64 x0), (1, .int .i64 x1)] _
  refine we_seq fun K1 hK1 => ?_
  refine we_region [(0, 0)] rfl ?_
  refine ge_batch [0] (ans := []) (vs := [(4, .int .i64 0)]) (l := []) (by kernel_rfl) trivial ?_
  refine ge_nil fun a hF => hK1 _ _ ?_ a hF
  refine we_seq fun K2 hK2 => ?_
  refine we_region [(0, 0), (1, 0), (2, 0), (3, 0), (4, 0), (5, 0), (6, 0)] rfl ?_
  refine ge_batch [0, 1, 2, 3, 4] (ans := []) (vs := [(9, .int .i64 x1), (8, .int .i64 (IntKind.i64.wrap ((IntKind.i64.wrap (x0 + x1)) - 1))), (7, .int .i64 (IntKind.i64.wrap (x0 + x1))), (6, .int .i64 x1), (5, .int .i64 x0)]) (l := []) (by kernel_rfl) trivial ?_
  by_cases hc1 : x1 = 0
  · rw [if_pos hc1] at h
    cases h
  · rw [if_neg hc1] at h
    refine ge_div (d := 10) (ty := 3) (op := .quo) (x := (.tmp 8)) (y := (.tmp 9)) (t := 3) (t2 := 3) (k := .i64) (p := (IntKind.i64.wrap ((IntKind.i64.wrap (x0 + x1)) - 1))) (q := x1) (v := .int .i64 (IntKind.i64.wrap (Int.tdiv (IntKind.i64.wrap ((IntKind.i64.wrap (x0 + x1)) - 1)) x1))) (by kernel_rfl) (by kernel_rfl) (by kernel_rfl) hc1 rfl ?_
    refine ge_batch [6] (ans := []) (vs := [(4, .int .i64 (IntKind.i64.wrap (Int.tdiv (IntKind.i64.wrap ((IntKind.i64.wrap (x0 + x1)) - 1)) x1)))]) (l := []) (by kernel_rfl) trivial ?_
    refine ge_nil fun a hF => hK2 _ _ ?_ a hF
    obtain rfl := Option.some.inj h
    exact we_ret (post_ret (rs := [.tmp 4]) (ans := []) (vs := [.int .i64 (IntKind.i64.wrap (Int.tdiv (IntKind.i64.wrap ((IntKind.i64.wrap (x0 + x1)) - 1)) x1))]) (l := []) rfl (by kernel_rfl) trivial ⟨rfl, hS⟩)

/-! punctual/modes.low$1 -/
abbrev modes_low_1.Post (w0 : World) (r : Int) (e : Ending) (w : World) : Prop := e = .returned (.int .i64 r) ∧ St w0 w []
def modes_low_1.r0 (x0 : Int) (xf_0 : SCrit) (lf_1 : List SCrit) : Int × Nat → Option ((Int × Nat) ⊕ (Int ⊕ Int))
  | (z1, i1) =>
    if (i1 : Int) < (lf_1.length : Int) then
      match lf_1[i1]? with
      | none => none
      | some e1 =>
        if e1.P > xf_0.P then
          match modes_ceil.f x0 e1.T with
          | none => none
          | some r1 =>
            some (.inl (IntKind.i64.wrap (z1 + (IntKind.i64.wrap (r1 * e1.C))), (i1 + 1)))
        else
          some (.inl (z1, (i1 + 1)))
    else
      some (.inr (.inl z1))
def modes_low_1.f (K : Nat) (x0 : Int) (xf_0 : SCrit) (lf_1 : List SCrit) : Option Int :=
  match iter (modes_low_1.r0 x0 xf_0 lf_1) K (xf_0.C, 0) with
  | none => none
  | some (.inl z3) =>
    some z3
  | some (.inr rr1) =>
    some rr1
abbrev modes_low_1.A0 (K : Nat) (w0 : World) (x0 : Int) (bf_0 : Nat) (xf_0 : SCrit) (bf_1 : Nat) (lf_1 : List SCrit) (Af_1 : Option Addr) (cf_1 : Nat) (hBf_0 : Glob w0 bf_0 [.int .i64 xf_0.C, .int .i64 xf_0.H, .int .i64 xf_0.T, .int .i64 xf_0.D, .bool xf_0.High, .int .i64 xf_0.P]) (hRf_1 : RdL w0 Af_1 lf_1) (hLf_1 : lf_1.length ≤ cf_1) (hBf_1 : Glob w0 bf_1 [.slice Af_1 lf_1.length cf_1]) : (Int × Nat) → Act → World → Prop := fun (s : Int × Nat) a w => St w0 w [] ∧ Frm 32 a [(0, .int .i64 x0), (1, .pointer (some ⟨bf_0, 0, none⟩)), (5, .int .i64 s.1), (10, .slice Af_1 lf_1.length cf_1), (11, .int .i64 (lf_1.length : Int)), (12, .int .i64 (s.2 : Int))]
abbrev modes_low_1.B0 (K : Nat) (w0 : World) (x0 : Int) (bf_0 : Nat) (xf_0 : SCrit) (bf_1 : Nat) (lf_1 : List SCrit) (Af_1 : Option Addr) (cf_1 : Nat) (hBf_0 : Glob w0 bf_0 [.int .i64 xf_0.C, .int .i64 xf_0.H, .int .i64 xf_0.T, .int .i64 xf_0.D, .bool xf_0.High, .int .i64 xf_0.P]) (hRf_1 : RdL w0 Af_1 lf_1) (hLf_1 : lf_1.length ≤ cf_1) (hBf_1 : Glob w0 bf_1 [.slice Af_1 lf_1.length cf_1]) : (Int ⊕ Int) → Exit → Act → World → Prop := Exits 0 (fun (s : Int) a w => St w0 w [] ∧ Frm 32 a [(5, .int .i64 s)]) (Rets Tryd.prog Tryd.f67 (modes_low_1.Post w0))
theorem modes_low_1_r0 (K : Nat) (w0 : World) (x0 : Int) (bf_0 : Nat) (xf_0 : SCrit) (bf_1 : Nat) (lf_1 : List SCrit) (Af_1 : Option Addr) (cf_1 : Nat) (hBf_0 : Glob w0 bf_0 [.int .i64 xf_0.C, .int .i64 xf_0.H, .int .i64 xf_0.T, .int .i64 xf_0.D, .bool xf_0.High, .int .i64 xf_0.P]) (hRf_1 : RdL w0 Af_1 lf_1) (hLf_1 : lf_1.length ≤ cf_1) (hBf_1 : Glob w0 bf_1 [.slice Af_1 lf_1.length cf_1]) (s : Int × Nat) (o : (Int × Nat) ⊕ (Int ⊕ Int)) (h : modes_low_1.r0 x0 xf_0 lf_1 s = some o) (a : Act) (w : World) (hA : modes_low_1.A0 K w0 x0 bf_0 xf_0 bf_1 lf_1 Af_1 cf_1 hBf_0 hRf_1 hLf_1 hBf_1 s a w) (Q : Exit → Act → World → Prop) (hQ : ∀ x a w, Outs (modes_low_1.A0 K w0 x0 bf_0 xf_0 bf_1 lf_1 Af_1 cf_1 hBf_0 hRf_1 hLf_1 hBf_1) (modes_low_1.B0 K w0 x0 bf_0 xf_0 bf_1 lf_1 Af_1 cf_1 hBf_0 hRf_1 hLf_1 hBf_1) o x a w → Q x a w) : (subF Tryd.f67 [1, 1, 0, 1, 0, 0]).wp Tryd.prog Q a w := by
  obtain ⟨z1, i1⟩ := s
  obtain ⟨hS, hF⟩ := hA
  replace hS : St w0 w [] := hS
  simp only [modes_low_1.r0] at h
  refine (?_ : WE Tryd.prog 32 (subF Tryd.f67 [1, 1, 0, 1, 0, 0]) Q [(0, .int .i64 x0), (1, .pointer (some ⟨bf_0, 0, none⟩)), (5, .int .i64 z1), (10, .slice Af_1 lf_1.length cf_1), (11, .int .i64 (lf_1.length : Int)), (12, .int .i64 (i1 : Int))] w) a hF
  clear hF a
  refine we_seq fun K5 hK5 => ?_
  refine we_region [(0, 0)] rfl ?_
  refine ge_batch [0] (ans := []) (vs := [(13, .bool (decide ((i1 : Int) < (lf_1.length : Int))))]) (l := []) (by kernel_rfl) trivial ?_
  refine ge_nil fun a hF => hK5 _ _ ?_ a hF
  refine we_seq fun K6 hK6 => ?_
  by_cases hc1 : (i1 : Int) < (lf_1.length : Int)
  · rw [if_pos hc1] at h
    refine we_known (t := 13) (b := decide ((i1 : Int) < (lf_1.length : Int))) (v := true) (by kernel_rfl) (decide_eq_true hc1) ?_
    refine we_true (by kernel_rfl) ?_
    refine we_skip fun a hF => hK6 _ _ ?_ a hF
    refine we_seq fun K7 hK7 => ?_
    refine we_block ?_
    refine we_seq fun K8 hK8 => ?_
    refine we_region [(0, 0), (1, 0), (2, 1), (3, 2)] rfl ?_
    rcases hx1 : lf_1[i1]? with _ | e1
    · rw [hx1] at h; cases h
    rw [hx1] at h
    simp only [] at h
    refine ge_index (d := 14) (ty := 0) (t := 22) (el := 27) (sz := 6) (m := lf_1.length) (c := cf_1) (x := (.tmp 10)) (y := (.tmp 12)) (A := Af_1) (k' := .i64) (j := (i1 : Int)) (jn := i1) (b0 := blkOf Af_1) (o0 := offOf Af_1) (by kernel_rfl) (by kernel_rfl) (by kernel_rfl) (by kernel_rfl) (by kernel_rfl) ((hS.rd hRf_1).eqSome (pos_of_get hx1)) rfl (lt_of_get hx1) ?_
    refine ge_batch [1] (ans := [.val (.int .i64 e1.C), .val (.int .i64 e1.H), .val (.int .i64 e1.T), .val (.int .i64 e1.D), .val (.bool e1.High), .val (.int .i64 e1.P)]) (vs := [(15, .agg #[.int .i64 e1.C, .int .i64 e1.H, .int .i64 e1.T, .int .i64 e1.D, .bool e1.High, .int .i64 e1.P])]) (l := [.loaded ⟨blkOf Af_1, offOf Af_1 + i1 * 6, none⟩ (.int .i64 e1.C), .loaded ⟨blkOf Af_1, offOf Af_1 + i1 * 6 + 1, none⟩ (.int .i64 e1.H), .loaded ⟨blkOf Af_1, offOf Af_1 + i1 * 6 + 2, none⟩ (.int .i64 e1.T), .loaded ⟨blkOf Af_1, offOf Af_1 + i1 * 6 + 3, none⟩ (.int .i64 e1.D), .loaded ⟨blkOf Af_1, offOf Af_1 + i1 * 6 + 4, none⟩ (.bool e1.High), .loaded ⟨blkOf Af_1, offOf Af_1 + i1 * 6 + 5, none⟩ (.int .i64 e1.P)]) (by kernel_rfl) ⟨RdL.cell (j := 0) (hS.rd hRf_1) hx1 rfl, RdL.cell (j := 1) (hS.rd hRf_1) hx1 rfl, RdL.cell (j := 2) (hS.rd hRf_1) hx1 rfl, RdL.cell (j := 3) (hS.rd hRf_1) hx1 rfl, RdL.cell (j := 4) (hS.rd hRf_1) hx1 rfl, RdL.cell (j := 5) (hS.rd hRf_1) hx1 rfl, trivial⟩ ?_
    refine ge_new (d := some 7) (o := .cells #[.int .i64 0, .int .i64 0, .int .i64 0, .int .i64 0, .bool false, .int .i64 0] 27) (v := fun b => .pointer (some ⟨b, 0, none⟩)) hS (fun b => by kernel_rfl) fun b1 w1 hx2 hS1 => ?_
    refine ge_set (b := b1) (j := 0) (cs := #[.int .i64 0, .int .i64 0, .int .i64 0, .int .i64 0, .bool false, .int .i64 0]) (t := 27) (vs := [.int .i64 e1.C, .int .i64 e1.H, .int .i64 e1.T, .int .i64 e1.D, .bool e1.High, .int .i64 e1.P]) hS1 (by kernel_rfl) rfl rfl fun w2 hS2 => ?_
    have hS3 := hS2.nc #[.int .i64 e1.C, .int .i64 e1.H, .int .i64 e1.T, .int .i64 e1.D, .bool e1.High, .int .i64 e1.P] (by kernel_rfl)
    refine ge_nil fun a hF => hK8 _ _ ?_ a hF
    refine we_seq fun K9 hK9 => ?_
    refine we_region [(0, 0), (1, 0), (2, 0), (3, 0), (4, 0)] rfl ?_
    refine ge_batch [0, 1, 2, 3, 4] (ans := [.val (.int .i64 e1.P), .val (.int .i64 xf_0.P)]) (vs := [(20, .bool (decide (e1.P > xf_0.P))), (19, .int .i64 xf_0.P), (18, .pointer (some ⟨bf_0, 5, none⟩)), (17, .int .i64 e1.P), (16, .pointer (some ⟨b1, 5, none⟩))]) (l := [.loaded ⟨b1, 5, none⟩ (.int .i64 e1.P), .loaded ⟨bf_0, 5, none⟩ (.int .i64 xf_0.P)]) (by kernel_rfl) ⟨hS3.cell 0 rfl rfl, hS3.glob hBf_0 rfl, trivial⟩ ?_
    refine ge_nil fun a hF => hK9 _ _ ?_ a hF
    by_cases hc2 : e1.P > xf_0.P
    · rw [if_pos hc2] at h
      refine we_known (t := 20) (b := decide (e1.P > xf_0.P)) (v := true) (by kernel_rfl) (decide_eq_true hc2) ?_
      refine we_true (by kernel_rfl) ?_
      refine we_draws (by kernel_rfl) [(0, 0), (1, 0), (2, 0), (3, 0), (5, 0), (6, 0), (4, 1), (7, 0), (8, 0), (9, 0)] (by kernel_rfl) ?_
      have hS4 := hS3.drew
      rcases hq1 : modes_ceil.f x0 e1.T with _ | r1
      · rw [hq1] at h; cases h
      rw [hq1] at h
      simp only [] at h
      refine ge_batch [0, 1, 2, 3, 5, 6] (ans := [.val (.int .i64 e1.T), .val (.int .i64 e1.C)]) (vs := [(27, .int .i64 e1.C), (26, .pointer (some ⟨b1, 0, none⟩)), (24, .int .i64 e1.T), (23, .pointer (some ⟨b1, 2, none⟩)), (22, .int .i64 x0), (21, .int .i64 z1)]) (l := [.loaded ⟨b1, 2, none⟩ (.int .i64 e1.T), .loaded ⟨b1, 0, none⟩ (.int .i64 e1.C)]) (by kernel_rfl) ⟨hS4.cell 0 rfl rfl, hS4.cell 0 rfl rfl, trivial⟩ ?_
      refine ge_call (d := some 25) (f := 68) (args := #[.int .i64 x0, .int .i64 e1.T]) (by kernel_rfl) (modes_ceil_ok x0 e1.T _ _ hq1) ?_
      rintro _ w3 ⟨rfl, hS5⟩
      refine ⟨_, rfl, hS5.below, ?_⟩
      have hS6 := hS4.call hS5
      refine ge_batch [7, 8, 9] (ans := []) (vs := [(5, .int .i64 (IntKind.i64.wrap (z1 + (IntKind.i64.wrap (r1 * e1.C))))), (29, .int .i64 (IntKind.i64.wrap (z1 + (IntKind.i64.wrap (r1 * e1.C))))), (28, .int .i64 (IntKind.i64.wrap (r1 * e1.C)))]) (l := []) (by kernel_rfl) trivial ?_
      refine ge_nil fun a hF => hK7 _ _ ?_ a hF
      refine we_region [(0, 0), (1, 0)] rfl ?_
      refine ge_addn (d := 30) (ty := 3) (x := (.tmp 12)) (y := (.const (.int .i64 1))) (t := 3) (t2 := 3) (k := .i64) (m := i1) (by kernel_rfl) (by kernel_rfl) (by kernel_rfl) (by have h0 := hRf_1.small; omega) ?_
      refine ge_batch [1] (ans := []) (vs := [(12, .int .i64 ((i1 + 1 : Nat) : Int))]) (l := []) (by kernel_rfl) trivial ?_
      have hS7 := hS6.takeN 0
      obtain rfl := Option.some.inj h
      exact ge_nil fun a hF => hQ _ _ _ (Outs.again ⟨hS7, hF.weaken ⟨by kernel_rfl, by kernel_rfl, by kernel_rfl, by kernel_rfl, by kernel_rfl, by kernel_rfl, trivial⟩⟩)
    · rw [if_neg hc2] at h
      refine we_known (t := 20) (b := decide (e1.P > xf_0.P)) (v := false) (by kernel_rfl) (decide_eq_false hc2) ?_
      refine we_false (by kernel_rfl) ?_
      refine we_skip fun a hF => hK7 _ _ ?_ a hF
      refine we_region [(0, 0), (1, 0)] rfl ?_
      refine ge_addn (d := 30) (ty := 3) (x := (.tmp 12)) (y := (.const (.int .i64 1))) (t := 3) (t2 := 3) (k := .i64) (m := i1) (by kernel_rfl) (by kernel_rfl) (by kernel_rfl) (by have h0 := hRf_1.small; omega) ?_
      refine ge_batch [1] (ans := []) (vs := [(12, .int .i64 ((i1 + 1 : Nat) : Int))]) (l := []) (by kernel_rfl) trivial ?_
      have hS8 := hS3.takeN 0
      obtain rfl := Option.some.inj h
      exact ge_nil fun a hF => hQ _ _ _ (Outs.again ⟨hS8, hF.weaken ⟨by kernel_rfl, by kernel_rfl, by kernel_rfl, by kernel_rfl, by kernel_rfl, by kernel_rfl, trivial⟩⟩)
  · rw [if_neg hc1] at h
    refine we_known (t := 13) (b := decide ((i1 : Int) < (lf_1.length : Int))) (v := false) (by kernel_rfl) (decide_eq_false hc1) ?_
    refine we_false (by kernel_rfl) ?_
    obtain rfl := Option.some.inj h
    exact we_exit fun a hF => hQ _ _ _ (Outs.out nofun (Exits.here ⟨hS, hF.weaken ⟨by kernel_rfl, trivial⟩⟩))
theorem modes_low_1_ok (K : Nat) (x0 : Int) (bf_0 : Nat) (xf_0 : SCrit) (bf_1 : Nat) (lf_1 : List SCrit) (Af_1 : Option Addr) (cf_1 : Nat) (w0 : World) (hBf_0 : Glob w0 bf_0 [.int .i64 xf_0.C, .int .i64 xf_0.H, .int .i64 xf_0.T, .int .i64 xf_0.D, .bool xf_0.High, .int .i64 xf_0.P]) (hRf_1 : RdL w0 Af_1 lf_1) (hLf_1 : lf_1.length ≤ cf_1) (hBf_1 : Glob w0 bf_1 [.slice Af_1 lf_1.length cf_1]) (r : Int) (h : modes_low_1.f K x0 xf_0 lf_1 = some r) :
    Calls Tryd.prog 67 #[.int .i64 x0, .pointer (some ⟨bf_0, 0, none⟩), .pointer (some ⟨bf_1, 0, none⟩)] w0 (modes_low_1.Post w0 r) := by
  have hS := St.start w0
  unfold modes_low_1.f at h
  refine calls_enter (n := 32) (args := [.int .i64 x0, .pointer (some ⟨bf_0, 0, none⟩), .pointer (some ⟨bf_1, 0, none⟩)]) (fn := Tryd.f67) rfl rfl rfl rfl ?_
  show WE _ _ _ _ [(0, .int .i64 x0), (1, .pointer (some ⟨bf_0, 0, none⟩)), (2, .pointer (some ⟨bf_1, 0, none⟩))] _
  refine we_seq fun K1 hK1 => ?_
  refine we_region [(0, 0)] rfl ?_
  refine ge_batch [0] (ans := []) (vs := [(4, .int .i64 0)]) (l := []) (by kernel_rfl) trivial ?_
  refine ge_nil fun a hF => hK1 _ _ ?_ a hF
  refine we_seq fun K2 hK2 => ?_
  refine we_region [(0, 0), (1, 0), (2, 0)] rfl ?_
  refine ge_batch [0, 1, 2] (ans := [.val (.int .i64 xf_0.C)]) (vs := [(5, .int .i64 xf_0.C), (9, .int .i64 xf_0.C), (8, .pointer (some ⟨bf_0, 0, none⟩))]) (l := [.loaded ⟨bf_0, 0, none⟩ (.int .i64 xf_0.C)]) (by kernel_rfl) ⟨hS.glob hBf_0 rfl, trivial⟩ ?_
  refine ge_nil fun a hF => hK2 _ _ ?_ a hF
  refine we_seq fun K3 hK3 => ?_
  refine we_seq fun K4 hK4 => ?_
  refine we_region [(0, 0), (1, 0), (2, 0)] rfl ?_
  refine ge_batch [0, 1, 2] (ans := [.val (.slice Af_1 lf_1.length cf_1)]) (vs := [(12, .int .i64 0), (11, .int .i64 (lf_1.length : Int)), (10, .slice Af_1 lf_1.length cf_1)]) (l := [.loaded ⟨bf_1, 0, none⟩ (.slice Af_1 lf_1.length cf_1)]) (by kernel_rfl) ⟨hS.glob hBf_1 rfl, trivial⟩ ?_
  refine ge_nil fun a hF => hK4 _ _ ?_ a hF
  refine we_block ?_
  rcases hq2 : iter (modes_low_1.r0 x0 xf_0 lf_1) K (xf_0.C, 0) with _ | (z3 | rr1)
  · rw [hq2] at h; cases h
  · rw [hq2] at h
    simp only [] at h
    refine we_iter (A := modes_low_1.A0 K w0 x0 bf_0 xf_0 bf_1 lf_1 Af_1 cf_1 hBf_0 hRf_1 hLf_1 hBf_1) (B := modes_low_1.B0 K w0 x0 bf_0 xf_0 bf_1 lf_1 Af_1 cf_1 hBf_0 hRf_1 hLf_1 hBf_1) hq2 (fun a hF => ⟨hS, hF.weaken ⟨by kernel_rfl, by kernel_rfl, by kernel_rfl, by kernel_rfl, by kernel_rfl, by kernel_rfl, trivial⟩⟩) (fun s o hf a w hA Q hQ => modes_low_1_r0 K w0 x0 bf_0 xf_0 bf_1 lf_1 Af_1 cf_1 hBf_0 hRf_1 hLf_1 hBf_1 s o hf a w hA Q hQ) ?_
    rintro _ a w4 _ ⟨rfl, hS9, hF⟩
    replace hS9 : St w0 w4 [] := hS9
    refine hK3 [(5, .int .i64 z3)] w4 ?_ a hF
    refine we_seq fun K10 hK10 => ?_
    refine we_region [(0, 0), (1, 0)] rfl ?_
    refine ge_batch [0, 1] (ans := []) (vs := [(4, .int .i64 z3), (31, .int .i64 z3)]) (l := []) (by kernel_rfl) trivial ?_
    refine ge_nil fun a hF => hK10 _ _ ?_ a hF
    obtain rfl := Option.some.inj h
    exact we_ret (post_ret (rs := [.tmp 4]) (ans := []) (vs := [.int .i64 z3]) (l := []) rfl (by kernel_rfl) trivial ⟨rfl, hS9⟩)
  · rw [hq2] at h
    simp only [] at h
    refine we_iter (A := modes_low_1.A0 K w0 x0 bf_0 xf_0 bf_1 lf_1 Af_1 cf_1 hBf_0 hRf_1 hLf_1 hBf_1) (B := modes_low_1.B0 K w0 x0 bf_0 xf_0 bf_1 lf_1 Af_1 cf_1 hBf_0 hRf_1 hLf_1 hBf_1) hq2 (fun a hF => ⟨hS, hF.weaken ⟨by kernel_rfl, by kernel_rfl, by kernel_rfl, by kernel_rfl, by kernel_rfl, by kernel_rfl, trivial⟩⟩) (fun s o hf a w hA Q hQ => modes_low_1_r0 K w0 x0 bf_0 xf_0 bf_1 lf_1 Af_1 cf_1 hBf_0 hRf_1 hLf_1 hBf_1 s o hf a w hA Q hQ) ?_
    rintro _ a w1 _ ⟨rfl, hb⟩
    obtain rfl := Option.some.inj h
    exact hb

/-! punctual/fixed.Settle -/
abbrev fixed_Settle.Post (w0 : World) (r : Int) (e : Ending) (w : World) : Prop := e = .returned (.int .i64 r) ∧ St w0 w []
def fixed_Settle.r0 (K : Nat) (x1 : Int) (xg2_0 : SCrit) (lg2_1 : List SCrit) : Int → Option (Int ⊕ (Unit ⊕ Int))
  | z1 =>
    if z1 ≤ x1 then
      match modes_low_1.f K z1 xg2_0 lg2_1 with
      | none => none
      | some r1 =>
        if r1 ≤ z1 then
          some (.inr (.inr z1))
        else
          some (.inl r1)
    else
      some (.inr (.inl ()))
def fixed_Settle.f (K : Nat) (x0 : Int) (x1 : Int) (xg2_0 : SCrit) (lg2_1 : List SCrit) : Option Int :=
  match iter (fixed_Settle.r0 K x1 xg2_0 lg2_1) K x0 with
  | none => none
  | some (.inl _) =>
    some 0
  | some (.inr rr1) =>
    some rr1
abbrev fixed_Settle.A0 (K : Nat) (w0 : World) (x0 : Int) (x1 : Int) (bg2_0 : Nat) (xg2_0 : SCrit) (bg2_1 : Nat) (lg2_1 : List SCrit) (Ag2_1 : Option Addr) (cg2_1 : Nat) (hBg2_0 : Glob w0 bg2_0 [.int .i64 xg2_0.C, .int .i64 xg2_0.H, .int .i64 xg2_0.T, .int .i64 xg2_0.D, .bool xg2_0.High, .int .i64 xg2_0.P]) (hRg2_1 : RdL w0 Ag2_1 lg2_1) (hLg2_1 : lg2_1.length ≤ cg2_1) (hBg2_1 : Glob w0 bg2_1 [.slice Ag2_1 lg2_1.length cg2_1]) : Int → Act → World → Prop := fun (s : Int) a w => St w0 w [] ∧ Frm 21 a [(1, .int .i64 x1), (2, .func (.func 67) #[] #[.pointer (some ⟨bg2_0, 0, none⟩), .pointer (some ⟨bg2_1, 0, none⟩)]), (7, .int .i64 s)]
abbrev fixed_Settle.B0 (K : Nat) (w0 : World) (x0 : Int) (x1 : Int) (bg2_0 : Nat) (xg2_0 : SCrit) (bg2_1 : Nat) (lg2_1 : List SCrit) (Ag2_1 : Option Addr) (cg2_1 : Nat) (hBg2_0 : Glob w0 bg2_0 [.int .i64 xg2_0.C, .int .i64 xg2_0.H, .int .i64 xg2_0.T, .int .i64 xg2_0.D, .bool xg2_0.High, .int .i64 xg2_0.P]) (hRg2_1 : RdL w0 Ag2_1 lg2_1) (hLg2_1 : lg2_1.length ≤ cg2_1) (hBg2_1 : Glob w0 bg2_1 [.slice Ag2_1 lg2_1.length cg2_1]) : (Unit ⊕ Int) → Exit → Act → World → Prop := Exits 0 (fun (s : Unit) a w => St w0 w [] ∧ Frm 21 a []) (Rets Tryd.prog Tryd.f66 (fixed_Settle.Post w0))
theorem fixed_Settle_r0 (K : Nat) (w0 : World) (x0 : Int) (x1 : Int) (bg2_0 : Nat) (xg2_0 : SCrit) (bg2_1 : Nat) (lg2_1 : List SCrit) (Ag2_1 : Option Addr) (cg2_1 : Nat) (hBg2_0 : Glob w0 bg2_0 [.int .i64 xg2_0.C, .int .i64 xg2_0.H, .int .i64 xg2_0.T, .int .i64 xg2_0.D, .bool xg2_0.High, .int .i64 xg2_0.P]) (hRg2_1 : RdL w0 Ag2_1 lg2_1) (hLg2_1 : lg2_1.length ≤ cg2_1) (hBg2_1 : Glob w0 bg2_1 [.slice Ag2_1 lg2_1.length cg2_1]) (s : Int) (o : Int ⊕ (Unit ⊕ Int)) (h : fixed_Settle.r0 K x1 xg2_0 lg2_1 s = some o) (a : Act) (w : World) (hA : fixed_Settle.A0 K w0 x0 x1 bg2_0 xg2_0 bg2_1 lg2_1 Ag2_1 cg2_1 hBg2_0 hRg2_1 hLg2_1 hBg2_1 s a w) (Q : Exit → Act → World → Prop) (hQ : ∀ x a w, Outs (fixed_Settle.A0 K w0 x0 x1 bg2_0 xg2_0 bg2_1 lg2_1 Ag2_1 cg2_1 hBg2_0 hRg2_1 hLg2_1 hBg2_1) (fixed_Settle.B0 K w0 x0 x1 bg2_0 xg2_0 bg2_1 lg2_1 Ag2_1 cg2_1 hBg2_0 hRg2_1 hLg2_1 hBg2_1) o x a w → Q x a w) : (subF Tryd.f66 [1, 0, 1, 0, 0]).wp Tryd.prog Q a w := by
  obtain ⟨z1, hs⟩ : ∃ z, z = s := ⟨s, rfl⟩
  subst hs
  obtain ⟨hS, hF⟩ := hA
  replace hS : St w0 w [] := hS
  simp only [fixed_Settle.r0] at h
  refine (?_ : WE Tryd.prog 21 (subF Tryd.f66 [1, 0, 1, 0, 0]) Q [(1, .int .i64 x1), (2, .func (.func 67) #[] #[.pointer (some ⟨bg2_0, 0, none⟩), .pointer (some ⟨bg2_1, 0, none⟩)]), (7, .int .i64 z1)] w) a hF
  clear hF a
  refine we_seq fun K4 hK4 => ?_
  refine we_seq fun K5 hK5 => ?_
  refine we_region [(0, 0), (1, 0), (2, 0)] rfl ?_
  refine ge_batch [0, 1, 2] (ans := []) (vs := [(12, .bool (decide (z1 ≤ x1))), (11, .int .i64 x1), (10, .int .i64 z1)]) (l := []) (by kernel_rfl) trivial ?_
  refine ge_nil fun a hF => hK5 _ _ ?_ a hF
  by_cases hc1 : z1 ≤ x1
  · rw [if_pos hc1] at h
    refine we_known (t := 12) (b := decide (z1 ≤ x1)) (v := true) (by kernel_rfl) (decide_eq_true hc1) ?_
    refine we_true (by kernel_rfl) ?_
    refine we_skip fun a hF => hK4 _ _ ?_ a hF
    refine we_block ?_
    refine we_seq fun K6 hK6 => ?_
    refine we_region [(0, 0), (1, 0), (2, 1), (3, 0)] rfl ?_
    rcases hq1 : modes_low_1.f K z1 xg2_0 lg2_1 with _ | r1
    · rw [hq1] at h; cases h
    rw [hq1] at h
    simp only [] at h
    refine ge_batch [0, 1] (ans := []) (vs := [(14, .int .i64 z1), (13, .func (.func 67) #[] #[.pointer (some ⟨bg2_0, 0, none⟩), .pointer (some ⟨bg2_1, 0, none⟩)])]) (l := []) (by kernel_rfl) trivial ?_
    refine ge_call (d := some 15) (f := 67) (args := #[.int .i64 z1, .pointer (some ⟨bg2_0, 0, none⟩), .pointer (some ⟨bg2_1, 0, none⟩)]) (by kernel_rfl) (modes_low_1_ok K z1 bg2_0 xg2_0 bg2_1 lg2_1 Ag2_1 cg2_1 _ (Glob.ext hBg2_0 hS.below) (hS.rd hRg2_1) hLg2_1 (Glob.ext hBg2_1 hS.below) _ hq1) ?_
    rintro _ w1 ⟨rfl, hS1⟩
    refine ⟨_, rfl, hS1.below, ?_⟩
    have hS2 := hS.call hS1
    refine ge_batch [3] (ans := []) (vs := [(8, .int .i64 r1)]) (l := []) (by kernel_rfl) trivial ?_
    refine ge_nil fun a hF => hK6 _ _ ?_ a hF
    refine we_seq fun K7 hK7 => ?_
    refine we_seq fun K8 hK8 => ?_
    refine we_region [(0, 0), (1, 0), (2, 0)] rfl ?_
    refine ge_batch [0, 1, 2] (ans := []) (vs := [(18, .bool (decide (r1 ≤ z1))), (17, .int .i64 z1), (16, .int .i64 r1)]) (l := []) (by kernel_rfl) trivial ?_
    refine ge_nil fun a hF => hK8 _ _ ?_ a hF
    by_cases hc2 : r1 ≤ z1
    · rw [if_pos hc2] at h
      refine we_known (t := 18) (b := decide (r1 ≤ z1)) (v := true) (by kernel_rfl) (decide_eq_true hc2) ?_
      refine we_true (by kernel_rfl) ?_
      refine we_seq fun K9 hK9 => ?_
      refine we_region [(0, 0), (1, 0)] rfl ?_
      refine ge_batch [0, 1] (ans := []) (vs := [(6, .int .i64 z1), (19, .int .i64 z1)]) (l := []) (by kernel_rfl) trivial ?_
      refine ge_nil fun a hF => hK9 _ _ ?_ a hF
      obtain rfl := Option.some.inj h
      exact we_ret fun a hF => hQ _ _ _ (Outs.out nofun (Exits.on ⟨rfl, (post_ret (rs := [.tmp 6]) (ans := []) (vs := [.int .i64 z1]) (l := []) rfl (by kernel_rfl) trivial ⟨rfl, hS2⟩) a hF⟩))
    · rw [if_neg hc2] at h
      refine we_known (t := 18) (b := decide (r1 ≤ z1)) (v := false) (by kernel_rfl) (decide_eq_false hc2) ?_
      refine we_false (by kernel_rfl) ?_
      refine we_skip fun a hF => hK7 _ _ ?_ a hF
      refine we_region [(0, 0), (1, 0)] rfl ?_
      refine ge_batch [0, 1] (ans := []) (vs := [(7, .int .i64 r1), (20, .int .i64 r1)]) (l := []) (by kernel_rfl) trivial ?_
      obtain rfl := Option.some.inj h
      exact ge_nil fun a hF => hQ _ _ _ (Outs.again ⟨hS2, hF.weaken ⟨by kernel_rfl, by kernel_rfl, by kernel_rfl, trivial⟩⟩)
  · rw [if_neg hc1] at h
    refine we_known (t := 12) (b := decide (z1 ≤ x1)) (v := false) (by kernel_rfl) (decide_eq_false hc1) ?_
    refine we_false (by kernel_rfl) ?_
    obtain rfl := Option.some.inj h
    exact we_exit fun a hF => hQ _ _ _ (Outs.out nofun (Exits.here ⟨hS, hF.weaken trivial⟩))
theorem fixed_Settle_ok (K : Nat) (x0 : Int) (x1 : Int) (bg2_0 : Nat) (xg2_0 : SCrit) (bg2_1 : Nat) (lg2_1 : List SCrit) (Ag2_1 : Option Addr) (cg2_1 : Nat) (w0 : World) (hBg2_0 : Glob w0 bg2_0 [.int .i64 xg2_0.C, .int .i64 xg2_0.H, .int .i64 xg2_0.T, .int .i64 xg2_0.D, .bool xg2_0.High, .int .i64 xg2_0.P]) (hRg2_1 : RdL w0 Ag2_1 lg2_1) (hLg2_1 : lg2_1.length ≤ cg2_1) (hBg2_1 : Glob w0 bg2_1 [.slice Ag2_1 lg2_1.length cg2_1]) (r : Int) (h : fixed_Settle.f K x0 x1 xg2_0 lg2_1 = some r) :
    Calls Tryd.prog 66 #[.int .i64 x0, .int .i64 x1, .func (.func 67) #[] #[.pointer (some ⟨bg2_0, 0, none⟩), .pointer (some ⟨bg2_1, 0, none⟩)]] w0 (fixed_Settle.Post w0 r) := by
  have hS := St.start w0
  unfold fixed_Settle.f at h
  refine calls_enter (n := 21) (args := [.int .i64 x0, .int .i64 x1, .func (.func 67) #[] #[.pointer (some ⟨bg2_0, 0, none⟩), .pointer (some ⟨bg2_1, 0, none⟩)]]) (fn := Tryd.f66) rfl rfl rfl rfl ?_
  show WE _ _ _ _ [(0, .int .i64 x0), (1, .int .i64 x1), (2, .func (.func 67) #[] #[.pointer (some ⟨bg2_0, 0, none⟩), .pointer (some ⟨bg2_1, 0, none⟩)])] _
  refine we_seq fun K1 hK1 => ?_
  refine we_region [(0, 0)] rfl ?_
  refine ge_batch [0] (ans := []) (vs := [(6, .int .i64 0)]) (l := []) (by kernel_rfl) trivial ?_
  refine ge_nil fun a hF => hK1 _ _ ?_ a hF
  refine we_seq fun K2 hK2 => ?_
  refine we_seq fun K3 hK3 => ?_
  refine we_region [(0, 0), (1, 0)] rfl ?_
  refine ge_batch [0, 1] (ans := []) (vs := [(7, .int .i64 x0), (9, .int .i64 x0)]) (l := []) (by kernel_rfl) trivial ?_
  refine ge_nil fun a hF => hK3 _ _ ?_ a hF
  refine we_block ?_
  rcases hq2 : iter (fixed_Settle.r0 K x1 xg2_0 lg2_1) K x0 with _ | (_ | rr1)
  · rw [hq2] at h; cases h
  · rw [hq2] at h
    simp only [] at h
    refine we_iter (A := fixed_Settle.A0 K w0 x0 x1 bg2_0 xg2_0 bg2_1 lg2_1 Ag2_1 cg2_1 hBg2_0 hRg2_1 hLg2_1 hBg2_1) (B := fixed_Settle.B0 K w0 x0 x1 bg2_0 xg2_0 bg2_1 lg2_1 Ag2_1 cg2_1 hBg2_0 hRg2_1 hLg2_1 hBg2_1) hq2 (fun a hF => ⟨hS, hF.weaken ⟨by kernel_rfl, by kernel_rfl, by kernel_rfl, trivial⟩⟩) (fun s o hf a w hA Q hQ => fixed_Settle_r0 K w0 x0 x1 bg2_0 xg2_0 bg2_1 lg2_1 Ag2_1 cg2_1 hBg2_0 hRg2_1 hLg2_1 hBg2_1 s o hf a w hA Q hQ) ?_
    rintro _ a w2 _ ⟨rfl, hS3, hF⟩
    replace hS3 : St w0 w2 [] := hS3
    refine hK2 [] w2 ?_ a hF
    refine we_seq fun K10 hK10 => ?_
    refine we_region [(0, 0)] rfl ?_
    refine ge_batch [0] (ans := []) (vs := [(6, .int .i64 0)]) (l := []) (by kernel_rfl) trivial ?_
    refine ge_nil fun a hF => hK10 _ _ ?_ a hF
    obtain rfl := Option.some.inj h
    exact we_ret (post_ret (rs := [.tmp 6]) (ans := []) (vs := [.int .i64 0]) (l := []) rfl (by kernel_rfl) trivial ⟨rfl, hS3⟩)
  · rw [hq2] at h
    simp only [] at h
    refine we_iter (A := fixed_Settle.A0 K w0 x0 x1 bg2_0 xg2_0 bg2_1 lg2_1 Ag2_1 cg2_1 hBg2_0 hRg2_1 hLg2_1 hBg2_1) (B := fixed_Settle.B0 K w0 x0 x1 bg2_0 xg2_0 bg2_1 lg2_1 Ag2_1 cg2_1 hBg2_0 hRg2_1 hLg2_1 hBg2_1) hq2 (fun a hF => ⟨hS, hF.weaken ⟨by kernel_rfl, by kernel_rfl, by kernel_rfl, trivial⟩⟩) (fun s o hf a w hA Q hQ => fixed_Settle_r0 K w0 x0 x1 bg2_0 xg2_0 bg2_1 lg2_1 Ag2_1 cg2_1 hBg2_0 hRg2_1 hLg2_1 hBg2_1 s o hf a w hA Q hQ) ?_
    rintro _ a w1 _ ⟨rfl, hb⟩
    obtain rfl := Option.some.inj h
    exact hb

/-! punctual/modes.low -/
abbrev modes_low.Post (w0 : World) (r : Int) (e : Ending) (w : World) : Prop := e = .returned (.int .i64 r) ∧ St w0 w []
def modes_low.f (K : Nat) (l0 : List SCrit) (x1 : Int) : Option Int :=
  if 0 ≤ x1 then
    match l0[(x1).toNat]? with
    | none => none
    | some e1 =>
      match fixed_Settle.f K e1.C e1.D e1 l0 with
      | none => none
      | some r1 =>
        some r1
  else
    none
theorem modes_low_ok (K : Nat) (l0 : List SCrit) (A0 : Option Addr) (c0 : Nat) (x1 : Int) (w0 : World) (hR0 : RdL w0 A0 l0) (hL0 : l0.length ≤ c0) (r : Int) (h : modes_low.f K l0 x1 = some r) :
    Calls Tryd.prog 38 #[.slice A0 l0.length c0, .int .i64 x1] w0 (modes_low.Post w0 r) := by
  have hS := St.start w0
  unfold modes_low.f at h
  refine calls_enter (n := 16) (args := [.slice A0 l0.length c0, .int .i64 x1]) (fn := Tryd.f38) rfl rfl rfl rfl ?_
  show WE _ _ _ _ [(0, .slice A0 l0.length c0), (1, .int .i64 x1)] _
  refine we_seq fun K1 hK1 => ?_
  refine we_region [(0, 1), (1, 0)] rfl ?_
  refine ge_new (d := some 2) (o := .cells #[.slice A0 l0.length c0] 22) (v := fun b => .pointer (some ⟨b, 0, none⟩)) hS (fun b => by kernel_rfl) fun b1 w1 hx1 hS1 => ?_
  refine ge_batch [1] (ans := []) (vs := [(4, .int .i64 0)]) (l := []) (by kernel_rfl) trivial ?_
  refine ge_nil fun a hF => hK1 _ _ ?_ a hF
  refine we_seq fun K2 hK2 => ?_
  refine we_region [(0, 0), (1, 0), (2, 0), (3, 0), (4, 1), (5, 2)] rfl ?_
  refine ge_batch [0, 1] (ans := [.val (.slice A0 l0.length c0)]) (vs := [(7, .int .i64 x1), (6, .slice A0 l0.length c0)]) (l := [.loaded ⟨b1, 0, none⟩ (.slice A0 l0.length c0)]) (by kernel_rfl) ⟨hS1.cell 0 rfl rfl, trivial⟩ ?_
  by_cases hc1 : 0 ≤ x1
  · rw [if_pos hc1] at h
    rcases hx2 : l0[(x1).toNat]? with _ | e1
    · rw [hx2] at h; cases h
    rw [hx2] at h
    simp only [] at h
    refine ge_index (d := 8) (ty := 0) (t := 22) (el := 27) (sz := 6) (m := l0.length) (c := c0) (x := (.tmp 6)) (y := (.tmp 7)) (A := A0) (k' := .i64) (j := x1) (jn := ((x1).toNat)) (b0 := blkOf A0) (o0 := offOf A0) (by kernel_rfl) (by kernel_rfl) (by kernel_rfl) (by kernel_rfl) (by kernel_rfl) ((hS1.rd hR0).eqSome (pos_of_get hx2)) (Int.toNat_of_nonneg hc1).symm (lt_of_get hx2) ?_
    refine ge_batch [3] (ans := [.val (.int .i64 e1.C), .val (.int .i64 e1.H), .val (.int .i64 e1.T), .val (.int .i64 e1.D), .val (.bool e1.High), .val (.int .i64 e1.P)]) (vs := [(9, .agg #[.int .i64 e1.C, .int .i64 e1.H, .int .i64 e1.T, .int .i64 e1.D, .bool e1.High, .int .i64 e1.P])]) (l := [.loaded ⟨blkOf A0, offOf A0 + ((x1).toNat) * 6, none⟩ (.int .i64 e1.C), .loaded ⟨blkOf A0, offOf A0 + ((x1).toNat) * 6 + 1, none⟩ (.int .i64 e1.H), .loaded ⟨blkOf A0, offOf A0 + ((x1).toNat) * 6 + 2, none⟩ (.int .i64 e1.T), .loaded ⟨blkOf A0, offOf A0 + ((x1).toNat) * 6 + 3, none⟩ (.int .i64 e1.D), .loaded ⟨blkOf A0, offOf A0 + ((x1).toNat) * 6 + 4, none⟩ (.bool e1.High), .loaded ⟨blkOf A0, offOf A0 + ((x1).toNat) * 6 + 5, none⟩ (.int .i64 e1.P)]) (by kernel_rfl) ⟨RdL.cell (j := 0) (hS1.rd hR0) hx2 rfl, RdL.cell (j := 1) (hS1.rd hR0) hx2 rfl, RdL.cell (j := 2) (hS1.rd hR0) hx2 rfl, RdL.cell (j := 3) (hS1.rd hR0) hx2 rfl, RdL.cell (j := 4) (hS1.rd hR0) hx2 rfl, RdL.cell (j := 5) (hS1.rd hR0) hx2 rfl, trivial⟩ ?_
    refine ge_new (d := some 5) (o := .cells #[.int .i64 0, .int .i64 0, .int .i64 0, .int .i64 0, .bool false, .int .i64 0] 27) (v := fun b => .pointer (some ⟨b, 0, none⟩)) hS1 (fun b => by kernel_rfl) fun b2 w2 hx3 hS2 => ?_
    refine ge_set (b := b2) (j := 0) (cs := #[.int .i64 0, .int .i64 0, .int .i64 0, .int .i64 0, .bool false, .int .i64 0]) (t := 27) (vs := [.int .i64 e1.C, .int .i64 e1.H, .int .i64 e1.T, .int .i64 e1.D, .bool e1.High, .int .i64 e1.P]) hS2 (by kernel_rfl) rfl rfl fun w3 hS3 => ?_
    have hS4 := hS3.nc #[.int .i64 e1.C, .int .i64 e1.H, .int .i64 e1.T, .int .i64 e1.D, .bool e1.High, .int .i64 e1.P] (by kernel_rfl)
    refine ge_nil fun a hF => hK2 _ _ ?_ a hF
    refine we_seq fun K3 hK3 => ?_
    refine we_region [(0, 0), (1, 0), (2, 0), (3, 0), (4, 0), (5, 1), (6, 0)] rfl ?_
    rcases hq1 : fixed_Settle.f K e1.C e1.D e1 l0 with _ | r1
    · rw [hq1] at h; cases h
    rw [hq1] at h
    simp only [] at h
    refine ge_batch [0, 1, 2, 3, 4] (ans := [.val (.int .i64 e1.C), .val (.int .i64 e1.D)]) (vs := [(14, .func (.func 67) #[] #[.pointer (some ⟨b2, 0, none⟩), .pointer (some ⟨b1, 0, none⟩)]), (13, .int .i64 e1.D), (12, .pointer (some ⟨b2, 3, none⟩)), (11, .int .i64 e1.C), (10, .pointer (some ⟨b2, 0, none⟩))]) (l := [.loaded ⟨b2, 0, none⟩ (.int .i64 e1.C), .loaded ⟨b2, 3, none⟩ (.int .i64 e1.D)]) (by kernel_rfl) ⟨hS4.cell 0 rfl rfl, hS4.cell 0 rfl rfl, trivial⟩ ?_
    refine ge_call (d := some 15) (f := 66) (args := #[.int .i64 e1.C, .int .i64 e1.D, .func (.func 67) #[] #[.pointer (some ⟨b2, 0, none⟩), .pointer (some ⟨b1, 0, none⟩)]]) (by kernel_rfl) (fixed_Settle_ok K e1.C e1.D b2 e1 b1 l0 A0 c0 _ (hS4.globOf 0 rfl) (hS4.rd hR0) hL0 (hS4.globOf 1 rfl) _ hq1) ?_
    rintro _ w4 ⟨rfl, hS5⟩
    refine ⟨_, rfl, hS5.below, ?_⟩
    have hS6 := hS4.call hS5
    refine ge_batch [6] (ans := []) (vs := [(4, .int .i64 r1)]) (l := []) (by kernel_rfl) trivial ?_
    refine ge_nil fun a hF => hK3 _ _ ?_ a hF
    have hS7 := hS6.takeN 0
    obtain rfl := Option.some.inj h
    exact we_ret (post_ret (rs := [.tmp 4]) (ans := []) (vs := [.int .i64 r1]) (l := []) rfl (by kernel_rfl) trivial ⟨rfl, hS7⟩)
  · rw [if_neg hc1] at h
    cases h

/-! punctual/modes.high$1 -/
abbrev modes_high_1.Post (w0 : World) (r : Int) (e : Ending) (w : World) : Prop := e = .returned (.int .i64 r) ∧ St w0 w []
def modes_high_1.r0 (x0 : Int) (xf_0 : SCrit) (lf_1 : List SCrit) (xf_2 : Int) : Int × Nat → Option ((Int × Nat) ⊕ (Int ⊕ Int))
  | (z1, i1) =>
    if (i1 : Int) < (lf_1.length : Int) then
      match lf_1[i1]? with
      | none => none
      | some e1 =>
        if e1.P ≤ xf_0.P then
          some (.inl (z1, (i1 + 1)))
        else
          if e1.High = true then
            match modes_ceil.f x0 e1.T with
            | none => none
            | some r1 =>
              some (.inl (IntKind.i64.wrap (z1 + (IntKind.i64.wrap (r1 * e1.H))), (i1 + 1)))
          else
            match modes_ceil.f xf_2 e1.T with
            | none => none
            | some r2 =>
              some (.inl (IntKind.i64.wrap (z1 + (IntKind.i64.wrap (r2 * e1.C))), (i1 + 1)))
    else
      some (.inr (.inl z1))
def modes_high_1.f (K : Nat) (x0 : Int) (xf_0 : SCrit) (lf_1 : List SCrit) (xf_2 : Int) : Option Int :=
  match iter (modes_high_1.r0 x0 xf_0 lf_1 xf_2) K (xf_0.H, 0) with
  | none => none
  | some (.inl z3) =>
    some z3
  | some (.inr rr1) =>
    some rr1
abbrev modes_high_1.A0 (K : Nat) (w0 : World) (x0 : Int) (bf_0 : Nat) (xf_0 : SCrit) (bf_1 : Nat) (lf_1 : List SCrit) (Af_1 : Option Addr) (cf_1 : Nat) (bf_2 : Nat) (xf_2 : Int) (hBf_0 : Glob w0 bf_0 [.int .i64 xf_0.C, .int .i64 xf_0.H, .int .i64 xf_0.T, .int .i64 xf_0.D, .bool xf_0.High, .int .i64 xf_0.P]) (hRf_1 : RdL w0 Af_1 lf_1) (hLf_1 : lf_1.length ≤ cf_1) (hBf_1 : Glob w0 bf_1 [.slice Af_1 lf_1.length cf_1]) (hBf_2 : Glob w0 bf_2 [.int .i64 xf_2]) : (Int × Nat) → Act → World → Prop := fun (s : Int × Nat) a w => St w0 w [] ∧ Frm 46 a [(0, .int .i64 x0), (1, .pointer (some ⟨bf_0, 0, none⟩)), (3, .pointer (some ⟨bf_2, 0, none⟩)), (6, .int .i64 s.1), (11, .slice Af_1 lf_1.length cf_1), (12, .int .i64 (lf_1.length : Int)), (13, .int .i64 (s.2 : Int))]
abbrev modes_high_1.B0 (K : Nat) (w0 : World) (x0 : Int) (bf_0 : Nat) (xf_0 : SCrit) (bf_1 : Nat) (lf_1 : List SCrit) (Af_1 : Option Addr) (cf_1 : Nat) (bf_2 : Nat) (xf_2 : Int) (hBf_0 : Glob w0 bf_0 [.int .i64 xf_0.C, .int .i64 xf_0.H, .int .i64 xf_0.T, .int .i64 xf_0.D, .bool xf_0.High, .int .i64 xf_0.P]) (hRf_1 : RdL w0 Af_1 lf_1) (hLf_1 : lf_1.length ≤ cf_1) (hBf_1 : Glob w0 bf_1 [.slice Af_1 lf_1.length cf_1]) (hBf_2 : Glob w0 bf_2 [.int .i64 xf_2]) : (Int ⊕ Int) → Exit → Act → World → Prop := Exits 0 (fun (s : Int) a w => St w0 w [] ∧ Frm 46 a [(6, .int .i64 s)]) (Rets Tryd.prog Tryd.f69 (modes_high_1.Post w0))
theorem modes_high_1_r0 (K : Nat) (w0 : World) (x0 : Int) (bf_0 : Nat) (xf_0 : SCrit) (bf_1 : Nat) (lf_1 : List SCrit) (Af_1 : Option Addr) (cf_1 : Nat) (bf_2 : Nat) (xf_2 : Int) (hBf_0 : Glob w0 bf_0 [.int .i64 xf_0.C, .int .i64 xf_0.H, .int .i64 xf_0.T, .int .i64 xf_0.D, .bool xf_0.High, .int .i64 xf_0.P]) (hRf_1 : RdL w0 Af_1 lf_1) (hLf_1 : lf_1.length ≤ cf_1) (hBf_1 : Glob w0 bf_1 [.slice Af_1 lf_1.length cf_1]) (hBf_2 : Glob w0 bf_2 [.int .i64 xf_2]) (s : Int × Nat) (o : (Int × Nat) ⊕ (Int ⊕ Int)) (h : modes_high_1.r0 x0 xf_0 lf_1 xf_2 s = some o) (a : Act) (w : World) (hA : modes_high_1.A0 K w0 x0 bf_0 xf_0 bf_1 lf_1 Af_1 cf_1 bf_2 xf_2 hBf_0 hRf_1 hLf_1 hBf_1 hBf_2 s a w) (Q : Exit → Act → World → Prop) (hQ : ∀ x a w, Outs (modes_high_1.A0 K w0 x0 bf_0 xf_0 bf_1 lf_1 Af_1 cf_1 bf_2 xf_2 hBf_0 hRf_1 hLf_1 hBf_1 hBf_2) (modes_high_1.B0 K w0 x0 bf_0 xf_0 bf_1 lf_1 Af_1 cf_1 bf_2 xf_2 hBf_0 hRf_1 hLf_1 hBf_1 hBf_2) o x a w → Q x a w) : (subF Tryd.f69 [1, 1, 0, 1, 0, 0]).wp Tryd.prog Q a w := by
  obtain ⟨z1, i1⟩ := s
  obtain ⟨hS, hF⟩ := hA
  replace hS : St w0 w [] := hS
  simp only [modes_high_1.r0] at h
  refine (?_ : WE Tryd.prog 46 (subF Tryd.f69 [1, 1, 0, 1, 0, 0]) Q [(0, .int .i64 x0), (1, .pointer (some ⟨bf_0, 0, none⟩)), (3, .pointer (some ⟨bf_2, 0, none⟩)), (6, .int .i64 z1), (11, .slice Af_1 lf_1.length cf_1), (12, .int .i64 (lf_1.length : Int)), (13, .int .i64 (i1 : Int))] w) a hF
  clear hF a
  refine we_seq fun K5 hK5 => ?_
  refine we_region [(0, 0)] rfl ?_
  refine ge_batch [0] (ans := []) (vs := [(14, .bool (decide ((i1 : Int) < (lf_1.length : Int))))]) (l := []) (by kernel_rfl) trivial ?_
  refine ge_nil fun a hF => hK5 _ _ ?_ a hF
  refine we_seq fun K6 hK6 => ?_
  by_cases hc1 : (i1 : Int) < (lf_1.length : Int)
  · rw [if_pos hc1] at h
    refine we_known (t := 14) (b := decide ((i1 : Int) < (lf_1.length : Int))) (v := true) (by kernel_rfl) (decide_eq_true hc1) ?_
    refine we_true (by kernel_rfl) ?_
    refine we_skip fun a hF => hK6 _ _ ?_ a hF
    refine we_seq fun K7 hK7 => ?_
    refine we_block ?_
    refine we_seq fun K8 hK8 => ?_
    refine we_region [(0, 0), (1, 0), (2, 1), (3, 2)] rfl ?_
    rcases hx1 : lf_1[i1]? with _ | e1
    · rw [hx1] at h; cases h
    rw [hx1] at h
    simp only [] at h
    refine ge_index (d := 15) (ty := 0) (t := 22) (el := 27) (sz := 6) (m := lf_1.length) (c := cf_1) (x := (.tmp 11)) (y := (.tmp 13)) (A := Af_1) (k' := .i64) (j := (i1 : Int)) (jn := i1) (b0 := blkOf Af_1) (o0 := offOf Af_1) (by kernel_rfl) (by kernel_rfl) (by kernel_rfl) (by kernel_rfl) (by kernel_rfl) ((hS.rd hRf_1).eqSome (pos_of_get hx1)) rfl (lt_of_get hx1) ?_
    refine ge_batch [1] (ans := [.val (.int .i64 e1.C), .val (.int .i64 e1.H), .val (.int .i64 e1.T), .val (.int .i64 e1.D), .val (.bool e1.High), .val (.int .i64 e1.P)]) (vs := [(16, .agg #[.int .i64 e1.C, .int .i64 e1.H, .int .i64 e1.T, .int .i64 e1.D, .bool e1.High, .int .i64 e1.P])]) (l := [.loaded ⟨blkOf Af_1, offOf Af_1 + i1 * 6, none⟩ (.int .i64 e1.C), .loaded ⟨blkOf Af_1, offOf Af_1 + i1 * 6 + 1, none⟩ (.int .i64 e1.H), .loaded ⟨blkOf Af_1, offOf Af_1 + i1 * 6 + 2, none⟩ (.int .i64 e1.T), .loaded ⟨blkOf Af_1, offOf Af_1 + i1 * 6 + 3, none⟩ (.int .i64 e1.D), .loaded ⟨blkOf Af_1, offOf Af_1 + i1 * 6 + 4, none⟩ (.bool e1.High), .loaded ⟨blkOf Af_1, offOf Af_1 + i1 * 6 + 5, none⟩ (.int .i64 e1.P)]) (by kernel_rfl) ⟨RdL.cell (j := 0) (hS.rd hRf_1) hx1 rfl, RdL.cell (j := 1) (hS.rd hRf_1) hx1 rfl, RdL.cell (j := 2) (hS.rd hRf_1) hx1 rfl, RdL.cell (j := 3) (hS.rd hRf_1) hx1 rfl, RdL.cell (j := 4) (hS.rd hRf_1) hx1 rfl, RdL.cell (j := 5) (hS.rd hRf_1) hx1 rfl, trivial⟩ ?_
    refine ge_new (d := some 8) (o := .cells #[.int .i64 0, .int .i64 0, .int .i64 0, .int .i64 0, .bool false, .int .i64 0] 27) (v := fun b => .pointer (some ⟨b, 0, none⟩)) hS (fun b => by kernel_rfl) fun b1 w1 hx2 hS1 => ?_
    refine ge_set (b := b1) (j := 0) (cs := #[.int .i64 0, .int .i64 0, .int .i64 0, .int .i64 0, .bool false, .int .i64 0]) (t := 27) (vs := [.int .i64 e1.C, .int .i64 e1.H, .int .i64 e1.T, .int .i64 e1.D, .bool e1.High, .int .i64 e1.P]) hS1 (by kernel_rfl) rfl rfl fun w2 hS2 => ?_
    have hS3 := hS2.nc #[.int .i64 e1.C, .int .i64 e1.H, .int .i64 e1.T, .int .i64 e1.D, .bool e1.High, .int .i64 e1.P] (by kernel_rfl)
    refine ge_nil fun a hF => hK8 _ _ ?_ a hF
    refine we_block ?_
    refine we_seq fun K9 hK9 => ?_
    refine we_region [(0, 0), (1, 0), (2, 0), (3, 0), (4, 0), (5, 0)] rfl ?_
    refine ge_batch [0, 1, 2, 3, 4, 5] (ans := [.val (.int .i64 e1.P), .val (.int .i64 xf_0.P)]) (vs := [(26, .bool (decide (e1.P ≤ xf_0.P))), (31, .bool (decide (e1.P ≤ xf_0.P))), (30, .int .i64 xf_0.P), (29, .pointer (some ⟨bf_0, 5, none⟩)), (28, .int .i64 e1.P), (27, .pointer (some ⟨b1, 5, none⟩))]) (l := [.loaded ⟨b1, 5, none⟩ (.int .i64 e1.P), .loaded ⟨bf_0, 5, none⟩ (.int .i64 xf_0.P)]) (by kernel_rfl) ⟨hS3.cell 0 rfl rfl, hS3.glob hBf_0 rfl, trivial⟩ ?_
    refine ge_nil fun a hF => hK9 _ _ ?_ a hF
    by_cases hc2 : e1.P ≤ xf_0.P
    · rw [if_pos hc2] at h
      refine we_known (t := 26) (b := decide (e1.P ≤ xf_0.P)) (v := true) (by kernel_rfl) (decide_eq_true hc2) ?_
      refine we_true (by kernel_rfl) ?_
      refine we_skip fun a hF => hK7 _ _ ?_ a hF
      refine we_region [(0, 0), (1, 0)] rfl ?_
      refine ge_addn (d := 44) (ty := 3) (x := (.tmp 13)) (y := (.const (.int .i64 1))) (t := 3) (t2 := 3) (k := .i64) (m := i1) (by kernel_rfl) (by kernel_rfl) (by kernel_rfl) (by have h0 := hRf_1.small; omega) ?_
      refine ge_batch [1] (ans := []) (vs := [(13, .int .i64 ((i1 + 1 : Nat) : Int))]) (l := []) (by kernel_rfl) trivial ?_
      have hS4 := hS3.takeN 0
      obtain rfl := Option.some.inj h
      exact ge_nil fun a hF => hQ _ _ _ (Outs.again ⟨hS4, hF.weaken ⟨by kernel_rfl, by kernel_rfl, by kernel_rfl, by kernel_rfl, by kernel_rfl, by kernel_rfl, by kernel_rfl, trivial⟩⟩)
    · rw [if_neg hc2] at h
      refine we_known (t := 26) (b := decide (e1.P ≤ xf_0.P)) (v := false) (by kernel_rfl) (decide_eq_false hc2) ?_
      refine we_false (by kernel_rfl) ?_
      refine we_seq fun K10 hK10 => ?_
      refine we_region [(0, 0), (1, 0), (2, 0)] rfl ?_
      refine ge_batch [0, 1, 2] (ans := [.val (.bool e1.High)]) (vs := [(32, .bool e1.High), (34, .bool e1.High), (33, .pointer (some ⟨b1, 4, none⟩))]) (l := [.loaded ⟨b1, 4, none⟩ (.bool e1.High)]) (by kernel_rfl) ⟨hS3.cell 0 rfl rfl, trivial⟩ ?_
      refine ge_nil fun a hF => hK10 _ _ ?_ a hF
      by_cases hc3 : e1.High = true
      · rw [if_pos hc3] at h
        refine we_known (t := 32) (b := e1.High) (v := true) (by kernel_rfl) hc3 ?_
        refine we_true (by kernel_rfl) ?_
        refine we_draws (by kernel_rfl) [(0, 0), (1, 0), (2, 0), (3, 0), (5, 0), (6, 0), (4, 1), (7, 0), (8, 0), (9, 0)] (by kernel_rfl) ?_
        have hS5 := hS3.drew
        rcases hq1 : modes_ceil.f x0 e1.T with _ | r1
        · rw [hq1] at h; cases h
        rw [hq1] at h
        simp only [] at h
        refine ge_batch [0, 1, 2, 3, 5, 6] (ans := [.val (.int .i64 e1.T), .val (.int .i64 e1.H)]) (vs := [(41, .int .i64 e1.H), (40, .pointer (some ⟨b1, 1, none⟩)), (38, .int .i64 e1.T), (37, .pointer (some ⟨b1, 2, none⟩)), (36, .int .i64 x0), (35, .int .i64 z1)]) (l := [.loaded ⟨b1, 2, none⟩ (.int .i64 e1.T), .loaded ⟨b1, 1, none⟩ (.int .i64 e1.H)]) (by kernel_rfl) ⟨hS5.cell 0 rfl rfl, hS5.cell 0 rfl rfl, trivial⟩ ?_
        refine ge_call (d := some 39) (f := 68) (args := #[.int .i64 x0, .int .i64 e1.T]) (by kernel_rfl) (modes_ceil_ok x0 e1.T _ _ hq1) ?_
        rintro _ w3 ⟨rfl, hS6⟩
        refine ⟨_, rfl, hS6.below, ?_⟩
        have hS7 := hS5.call hS6
        refine ge_batch [7, 8, 9] (ans := []) (vs := [(6, .int .i64 (IntKind.i64.wrap (z1 + (IntKind.i64.wrap (r1 * e1.H))))), (43, .int .i64 (IntKind.i64.wrap (z1 + (IntKind.i64.wrap (r1 * e1.H))))), (42, .int .i64 (IntKind.i64.wrap (r1 * e1.H)))]) (l := []) (by kernel_rfl) trivial ?_
        refine ge_nil fun a hF => hK7 _ _ ?_ a hF
        refine we_region [(0, 0), (1, 0)] rfl ?_
        refine ge_addn (d := 44) (ty := 3) (x := (.tmp 13)) (y := (.const (.int .i64 1))) (t := 3) (t2 := 3) (k := .i64) (m := i1) (by kernel_rfl) (by kernel_rfl) (by kernel_rfl) (by have h0 := hRf_1.small; omega) ?_
        refine ge_batch [1] (ans := []) (vs := [(13, .int .i64 ((i1 + 1 : Nat) : Int))]) (l := []) (by kernel_rfl) trivial ?_
        have hS8 := hS7.takeN 0
        obtain rfl := Option.some.inj h
        exact ge_nil fun a hF => hQ _ _ _ (Outs.again ⟨hS8, hF.weaken ⟨by kernel_rfl, by kernel_rfl, by kernel_rfl, by kernel_rfl, by kernel_rfl, by kernel_rfl, by kernel_rfl, trivial⟩⟩)
      · rw [if_neg hc3] at h
        refine we_known (t := 32) (b := e1.High) (v := false) (by kernel_rfl) (Bool.eq_false_iff.2 hc3) ?_
        refine we_false (by kernel_rfl) ?_
        refine we_draws (by kernel_rfl) [(0, 0), (1, 0), (2, 0), (3, 0), (5, 0), (6, 0), (4, 1), (7, 0), (8, 0), (9, 0)] (by kernel_rfl) ?_
        have hS9 := hS3.drew
        rcases hq2 : modes_ceil.f xf_2 e1.T with _ | r2
        · rw [hq2] at h; cases h
        rw [hq2] at h
        simp only [] at h
        refine ge_batch [0, 1, 2, 3, 5, 6] (ans := [.val (.int .i64 xf_2), .val (.int .i64 e1.T), .val (.int .i64 e1.C)]) (vs := [(23, .int .i64 e1.C), (22, .pointer (some ⟨b1, 0, none⟩)), (20, .int .i64 e1.T), (19, .pointer (some ⟨b1, 2, none⟩)), (18, .int .i64 xf_2), (17, .int .i64 z1)]) (l := [.loaded ⟨bf_2, 0, none⟩ (.int .i64 xf_2), .loaded ⟨b1, 2, none⟩ (.int .i64 e1.T), .loaded ⟨b1, 0, none⟩ (.int .i64 e1.C)]) (by kernel_rfl) ⟨hS9.glob hBf_2 rfl, hS9.cell 0 rfl rfl, hS9.cell 0 rfl rfl, trivial⟩ ?_
        refine ge_call (d := some 21) (f := 68) (args := #[.int .i64 xf_2, .int .i64 e1.T]) (by kernel_rfl) (modes_ceil_ok xf_2 e1.T _ _ hq2) ?_
        rintro _ w4 ⟨rfl, hS10⟩
        refine ⟨_, rfl, hS10.below, ?_⟩
        have hS11 := hS9.call hS10
        refine ge_batch [7, 8, 9] (ans := []) (vs := [(6, .int .i64 (IntKind.i64.wrap (z1 + (IntKind.i64.wrap (r2 * e1.C))))), (25, .int .i64 (IntKind.i64.wrap (z1 + (IntKind.i64.wrap (r2 * e1.C))))), (24, .int .i64 (IntKind.i64.wrap (r2 * e1.C)))]) (l := []) (by kernel_rfl) trivial ?_
        refine ge_nil fun a hF => hK7 _ _ ?_ a hF
        refine we_region [(0, 0), (1, 0)] rfl ?_
        refine ge_addn (d := 44) (ty := 3) (x := (.tmp 13)) (y := (.const (.int .i64 1))) (t := 3) (t2 := 3) (k := .i64) (m := i1) (by kernel_rfl) (by kernel_rfl) (by kernel_rfl) (by have h0 := hRf_1.small; omega) ?_
        refine ge_batch [1] (ans := []) (vs := [(13, .int .i64 ((i1 + 1 : Nat) : Int))]) (l := []) (by kernel_rfl) trivial ?_
        have hS12 := hS11.takeN 0
        obtain rfl := Option.some.inj h
        exact ge_nil fun a hF => hQ _ _ _ (Outs.again ⟨hS12, hF.weaken ⟨by kernel_rfl, by kernel_rfl, by kernel_rfl, by kernel_rfl, by kernel_rfl, by kernel_rfl, by kernel_rfl, trivial⟩⟩)
  · rw [if_neg hc1] at h
    refine we_known (t := 14) (b := decide ((i1 : Int) < (lf_1.length : Int))) (v := false) (by kernel_rfl) (decide_eq_false hc1) ?_
    refine we_false (by kernel_rfl) ?_
    obtain rfl := Option.some.inj h
    exact we_exit fun a hF => hQ _ _ _ (Outs.out nofun (Exits.here ⟨hS, hF.weaken ⟨by kernel_rfl, trivial⟩⟩))
theorem modes_high_1_ok (K : Nat) (x0 : Int) (bf_0 : Nat) (xf_0 : SCrit) (bf_1 : Nat) (lf_1 : List SCrit) (Af_1 : Option Addr) (cf_1 : Nat) (bf_2 : Nat) (xf_2 : Int) (w0 : World) (hBf_0 : Glob w0 bf_0 [.int .i64 xf_0.C, .int .i64 xf_0.H, .int .i64 xf_0.T, .int .i64 xf_0.D, .bool xf_0.High, .int .i64 xf_0.P]) (hRf_1 : RdL w0 Af_1 lf_1) (hLf_1 : lf_1.length ≤ cf_1) (hBf_1 : Glob w0 bf_1 [.slice Af_1 lf_1.length cf_1]) (hBf_2 : Glob w0 bf_2 [.int .i64 xf_2]) (r : Int) (h : modes_high_1.f K x0 xf_0 lf_1 xf_2 = some r) :
    Calls Tryd.prog 69 #[.int .i64 x0, .pointer (some ⟨bf_0, 0, none⟩), .pointer (some ⟨bf_1, 0, none⟩), .pointer (some ⟨bf_2, 0, none⟩)] w0 (modes_high_1.Post w0 r) := by
  have hS := St.start w0
  unfold modes_high_1.f at h
  refine calls_enter (n := 46) (args := [.int .i64 x0, .pointer (some ⟨bf_0, 0, none⟩), .pointer (some ⟨bf_1, 0, none⟩), .pointer (some ⟨bf_2, 0, none⟩)]) (fn := Tryd.f69) rfl rfl rfl rfl ?_
  show WE _ _ _ _ [(0, .int .i64 x0), (1, .pointer (some ⟨bf_0, 0, none⟩)), (2, .pointer (some ⟨bf_1, 0, none⟩)), (3, .pointer (some ⟨bf_2, 0, none⟩))] _
  refine we_seq fun K1 hK1 => ?_
  refine we_region [(0, 0)] rfl ?_
  refine ge_batch [0] (ans := []) (vs := [(5, .int .i64 0)]) (l := []) (by kernel_rfl) trivial ?_
  refine ge_nil fun a hF => hK1 _ _ ?_ a hF
  refine we_seq fun K2 hK2 => ?_
  refine we_region [(0, 0), (1, 0), (2, 0)] rfl ?_
  refine ge_batch [0, 1, 2] (ans := [.val (.int .i64 xf_0.H)]) (vs := [(6, .int .i64 xf_0.H), (10, .int .i64 xf_0.H), (9, .pointer (some ⟨bf_0, 1, none⟩))]) (l := [.loaded ⟨bf_0, 1, none⟩ (.int .i64 xf_0.H)]) (by kernel_rfl) ⟨hS.glob hBf_0 rfl, trivial⟩ ?_
  refine ge_nil fun a hF => hK2 _ _ ?_ a hF
  refine we_seq fun K3 hK3 => ?_
  refine we_seq fun K4 hK4 => ?_
  refine we_region [(0, 0), (1, 0), (2, 0)] rfl ?_
  refine ge_batch [0, 1, 2] (ans := [.val (.slice Af_1 lf_1.length cf_1)]) (vs := [(13, .int .i64 0), (12, .int .i64 (lf_1.length : Int)), (11, .slice Af_1 lf_1.length cf_1)]) (l := [.loaded ⟨bf_1, 0, none⟩ (.slice Af_1 lf_1.length cf_1)]) (by kernel_rfl) ⟨hS.glob hBf_1 rfl, trivial⟩ ?_
  refine ge_nil fun a hF => hK4 _ _ ?_ a hF
  refine we_block ?_
  rcases hq3 : iter (modes_high_1.r0 x0 xf_0 lf_1 xf_2) K (xf_0.H, 0) with _ | (z3 | rr1)
  · rw [hq3] at h; cases h
  · rw [hq3] at h
    simp only [] at h
    refine we_iter (A := modes_high_1.A0 K w0 x0 bf_0 xf_0 bf_1 lf_1 Af_1 cf_1 bf_2 xf_2 hBf_0 hRf_1 hLf_1 hBf_1 hBf_2) (B := modes_high_1.B0 K w0 x0 bf_0 xf_0 bf_1 lf_1 Af_1 cf_1 bf_2 xf_2 hBf_0 hRf_1 hLf_1 hBf_1 hBf_2) hq3 (fun a hF => ⟨hS, hF.weaken ⟨by kernel_rfl, by kernel_rfl, by kernel_rfl, by kernel_rfl, by kernel_rfl, by kernel_rfl, by kernel_rfl, trivial⟩⟩) (fun s o hf a w hA Q hQ => modes_high_1_r0 K w0 x0 bf_0 xf_0 bf_1 lf_1 Af_1 cf_1 bf_2 xf_2 hBf_0 hRf_1 hLf_1 hBf_1 hBf_2 s o hf a w hA Q hQ) ?_
    rintro _ a w5 _ ⟨rfl, hS13, hF⟩
    replace hS13 : St w0 w5 [] := hS13
    refine hK3 [(6, .int .i64 z3)] w5 ?_ a hF
    refine we_seq fun K11 hK11 => ?_
    refine we_region [(0, 0), (1, 0)] rfl ?_
    refine ge_batch [0, 1] (ans := []) (vs := [(5, .int .i64 z3), (45, .int .i64 z3)]) (l := []) (by kernel_rfl) trivial ?_
    refine ge_nil fun a hF => hK11 _ _ ?_ a hF
    obtain rfl := Option.some.inj h
    exact we_ret (post_ret (rs := [.tmp 5]) (ans := []) (vs := [.int .i64 z3]) (l := []) rfl (by kernel_rfl) trivial ⟨rfl, hS13⟩)
  · rw [hq3] at h
    simp only [] at h
    refine we_iter (A := modes_high_1.A0 K w0 x0 bf_0 xf_0 bf_1 lf_1 Af_1 cf_1 bf_2 xf_2 hBf_0 hRf_1 hLf_1 hBf_1 hBf_2) (B := modes_high_1.B0 K w0 x0 bf_0 xf_0 bf_1 lf_1 Af_1 cf_1 bf_2 xf_2 hBf_0 hRf_1 hLf_1 hBf_1 hBf_2) hq3 (fun a hF => ⟨hS, hF.weaken ⟨by kernel_rfl, by kernel_rfl, by kernel_rfl, by kernel_rfl, by kernel_rfl, by kernel_rfl, by kernel_rfl, trivial⟩⟩) (fun s o hf a w hA Q hQ => modes_high_1_r0 K w0 x0 bf_0 xf_0 bf_1 lf_1 Af_1 cf_1 bf_2 xf_2 hBf_0 hRf_1 hLf_1 hBf_1 hBf_2 s o hf a w hA Q hQ) ?_
    rintro _ a w1 _ ⟨rfl, hb⟩
    obtain rfl := Option.some.inj h
    exact hb

/-! punctual/fixed.Settle -/
abbrev fixed_Settle_1.Post (w0 : World) (r : Int) (e : Ending) (w : World) : Prop := e = .returned (.int .i64 r) ∧ St w0 w []
def fixed_Settle_1.r0 (K : Nat) (x1 : Int) (xg2_0 : SCrit) (lg2_1 : List SCrit) (xg2_2 : Int) : Int → Option (Int ⊕ (Unit ⊕ Int))
  | z1 =>
    if z1 ≤ x1 then
      match modes_high_1.f K z1 xg2_0 lg2_1 xg2_2 with
      | none => none
      | some r1 =>
        if r1 ≤ z1 then
          some (.inr (.inr z1))
        else
          some (.inl r1)
    else
      some (.inr (.inl ()))
def fixed_Settle_1.f (K : Nat) (x0 : Int) (x1 : Int) (xg2_0 : SCrit) (lg2_1 : List SCrit) (xg2_2 : Int) : Option Int :=
  match iter (fixed_Settle_1.r0 K x1 xg2_0 lg2_1 xg2_2) K x0 with
  | none => none
  | some (.inl _) =>
    some 0
  | some (.inr rr1) =>
    some rr1
abbrev fixed_Settle_1.A0 (K : Nat) (w0 : World) (x0 : Int) (x1 : Int) (bg2_0 : Nat) (xg2_0 : SCrit) (bg2_1 : Nat) (lg2_1 : List SCrit) (Ag2_1 : Option Addr) (cg2_1 : Nat) (bg2_2 : Nat) (xg2_2 : Int) (hBg2_0 : Glob w0 bg2_0 [.int .i64 xg2_0.C, .int .i64 xg2_0.H, .int .i64 xg2_0.T, .int .i64 xg2_0.D, .bool xg2_0.High, .int .i64 xg2_0.P]) (hRg2_1 : RdL w0 Ag2_1 lg2_1) (hLg2_1 : lg2_1.length ≤ cg2_1) (hBg2_1 : Glob w0 bg2_1 [.slice Ag2_1 lg2_1.length cg2_1]) (hBg2_2 : Glob w0 bg2_2 [.int .i64 xg2_2]) : Int → Act → World → Prop := fun (s : Int) a w => St w0 w [] ∧ Frm 21 a [(1, .int .i64 x1), (2, .func (.func 69) #[] #[.pointer (some ⟨bg2_0, 0, none⟩), .pointer (some ⟨bg2_1, 0, none⟩), .pointer (some ⟨bg2_2, 0, none⟩)]), (7, .int .i64 s)]
abbrev fixed_Settle_1.B0 (K : Nat) (w0 : World) (x0 : Int) (x1 : Int) (bg2_0 : Nat) (xg2_0 : SCrit) (bg2_1 : Nat) (lg2_1 : List SCrit) (Ag2_1 : Option Addr) (cg2_1 : Nat) (bg2_2 : Nat) (xg2_2 : Int) (hBg2_0 : Glob w0 bg2_0 [.int .i64 xg2_0.C, .int .i64 xg2_0.H, .int .i64 xg2_0.T, .int .i64 xg2_0.D, .bool xg2_0.High, .int .i64 xg2_0.P]) (hRg2_1 : RdL w0 Ag2_1 lg2_1) (hLg2_1 : lg2_1.length ≤ cg2_1) (hBg2_1 : Glob w0 bg2_1 [.slice Ag2_1 lg2_1.length cg2_1]) (hBg2_2 : Glob w0 bg2_2 [.int .i64 xg2_2]) : (Unit ⊕ Int) → Exit → Act → World → Prop := Exits 0 (fun (s : Unit) a w => St w0 w [] ∧ Frm 21 a []) (Rets Tryd.prog Tryd.f66 (fixed_Settle_1.Post w0))
theorem fixed_Settle_1_r0 (K : Nat) (w0 : World) (x0 : Int) (x1 : Int) (bg2_0 : Nat) (xg2_0 : SCrit) (bg2_1 : Nat) (lg2_1 : List SCrit) (Ag2_1 : Option Addr) (cg2_1 : Nat) (bg2_2 : Nat) (xg2_2 : Int) (hBg2_0 : Glob w0 bg2_0 [.int .i64 xg2_0.C, .int .i64 xg2_0.H, .int .i64 xg2_0.T, .int .i64 xg2_0.D, .bool xg2_0.High, .int .i64 xg2_0.P]) (hRg2_1 : RdL w0 Ag2_1 lg2_1) (hLg2_1 : lg2_1.length ≤ cg2_1) (hBg2_1 : Glob w0 bg2_1 [.slice Ag2_1 lg2_1.length cg2_1]) (hBg2_2 : Glob w0 bg2_2 [.int .i64 xg2_2]) (s : Int) (o : Int ⊕ (Unit ⊕ Int)) (h : fixed_Settle_1.r0 K x1 xg2_0 lg2_1 xg2_2 s = some o) (a : Act) (w : World) (hA : fixed_Settle_1.A0 K w0 x0 x1 bg2_0 xg2_0 bg2_1 lg2_1 Ag2_1 cg2_1 bg2_2 xg2_2 hBg2_0 hRg2_1 hLg2_1 hBg2_1 hBg2_2 s a w) (Q : Exit → Act → World → Prop) (hQ : ∀ x a w, Outs (fixed_Settle_1.A0 K w0 x0 x1 bg2_0 xg2_0 bg2_1 lg2_1 Ag2_1 cg2_1 bg2_2 xg2_2 hBg2_0 hRg2_1 hLg2_1 hBg2_1 hBg2_2) (fixed_Settle_1.B0 K w0 x0 x1 bg2_0 xg2_0 bg2_1 lg2_1 Ag2_1 cg2_1 bg2_2 xg2_2 hBg2_0 hRg2_1 hLg2_1 hBg2_1 hBg2_2) o x a w → Q x a w) : (subF Tryd.f66 [1, 0, 1, 0, 0]).wp Tryd.prog Q a w := by
  obtain ⟨z1, hs⟩ : ∃ z, z = s := ⟨s, rfl⟩
  subst hs
  obtain ⟨hS, hF⟩ := hA
  replace hS : St w0 w [] := hS
  simp only [fixed_Settle_1.r0] at h
  refine (?_ : WE Tryd.prog 21 (subF Tryd.f66 [1, 0, 1, 0, 0]) Q [(1, .int .i64 x1), (2, .func (.func 69) #[] #[.pointer (some ⟨bg2_0, 0, none⟩), .pointer (some ⟨bg2_1, 0, none⟩), .pointer (some ⟨bg2_2, 0, none⟩)]), (7, .int .i64 z1)] w) a hF
  clear hF a
  refine we_seq fun K4 hK4 => ?_
  refine we_seq fun K5 hK5 => ?_
  refine we_region [(0, 0), (1, 0), (2, 0)] rfl ?_
  refine ge_batch [0, 1, 2] (ans := []) (vs := [(12, .bool (decide (z1 ≤ x1))), (11, .int .i64 x1), (10, .int .i64 z1)]) (l := []) (by kernel_rfl) trivial ?_
  refine ge_nil fun a hF => hK5 _ _ ?_ a hF
  by_cases hc1 : z1 ≤ x1
  · rw [if_pos hc1] at h
    refine we_known (t := 12) (b := decide (z1 ≤ x1)) (v := true) (by kernel_rfl) (decide_eq_true hc1) ?_
    refine we_true (by kernel_rfl) ?_
    refine we_skip fun a hF => hK4 _ _ ?_ a hF
    refine we_block ?_
    refine we_seq fun K6 hK6 => ?_
    refine we_region [(0, 0), (1, 0), (2, 1), (3, 0)] rfl ?_
    rcases hq1 : modes_high_1.f K z1 xg2_0 lg2_1 xg2_2 with _ | r1
    · rw [hq1] at h; cases h
    rw [hq1] at h
    simp only [] at h
    refine ge_batch [0, 1] (ans := []) (vs := [(14, .int .i64 z1), (13, .func (.func 69) #[] #[.pointer (some ⟨bg2_0, 0, none⟩), .pointer (some ⟨bg2_1, 0, none⟩), .pointer (some ⟨bg2_2, 0, none⟩)])]) (l := []) (by kernel_rfl) trivial ?_
    refine ge_call (d := some 15) (f := 69) (args := #[.int .i64 z1, .pointer (some ⟨bg2_0, 0, none⟩), .pointer (some ⟨bg2_1, 0, none⟩), .pointer (some ⟨bg2_2, 0, none⟩)]) (by kernel_rfl) (modes_high_1_ok K z1 bg2_0 xg2_0 bg2_1 lg2_1 Ag2_1 cg2_1 bg2_2 xg2_2 _ (Glob.ext hBg2_0 hS.below) (hS.rd hRg2_1) hLg2_1 (Glob.ext hBg2_1 hS.below) (Glob.ext hBg2_2 hS.below) _ hq1) ?_
    rintro _ w1 ⟨rfl, hS1⟩
    refine ⟨_, rfl, hS1.below, ?_⟩
    have hS2 := hS.call hS1
    refine ge_batch [3] (ans := []) (vs := [(8, .int .i64 r1)]) (l := []) (by kernel_rfl) trivial ?_
    refine ge_nil fun a hF => hK6 _ _ ?_ a hF
    refine we_seq fun K7 hK7 => ?_
    refine we_seq fun K8 hK8 => ?_
    refine we_region [(0, 0), (1, 0), (2, 0)] rfl ?_
    refine ge_batch [0, 1, 2] (ans := []) (vs := [(18, .bool (decide (r1 ≤ z1))), (17, .int .i64 z1), (16, .int .i64 r1)]) (l := []) (by kernel_rfl) trivial ?_
    refine ge_nil fun a hF => hK8 _ _ ?_ a hF
    by_cases hc2 : r1 ≤ z1
    · rw [if_pos hc2] at h
      refine we_known (t := 18) (b := decide (r1 ≤ z1)) (v := true) (by kernel_rfl) (decide_eq_true hc2) ?_
      refine we_true (by kernel_rfl) ?_
      refine we_seq fun K9 hK9 => ?_
      refine we_region [(0, 0), (1, 0)] rfl ?_
      refine ge_batch [0, 1] (ans := []) (vs := [(6, .int .i64 z1), (19, .int .i64 z1)]) (l := []) (by kernel_rfl) trivial ?_
      refine ge_nil fun a hF => hK9 _ _ ?_ a hF
      obtain rfl := Option.some.inj h
      exact we_ret fun a hF => hQ _ _ _ (Outs.out nofun (Exits.on ⟨rfl, (post_ret (rs := [.tmp 6]) (ans := []) (vs := [.int .i64 z1]) (l := []) rfl (by kernel_rfl) trivial ⟨rfl, hS2⟩) a hF⟩))
    · rw [if_neg hc2] at h
      refine we_known (t := 18) (b := decide (r1 ≤ z1)) (v := false) (by kernel_rfl) (decide_eq_false hc2) ?_
      refine we_false (by kernel_rfl) ?_
      refine we_skip fun a hF => hK7 _ _ ?_ a hF
      refine we_region [(0, 0), (1, 0)] rfl ?_
      refine ge_batch [0, 1] (ans := []) (vs := [(7, .int .i64 r1), (20, .int .i64 r1)]) (l := []) (by kernel_rfl) trivial ?_
      obtain rfl := Option.some.inj h
      exact ge_nil fun a hF => hQ _ _ _ (Outs.again ⟨hS2, hF.weaken ⟨by kernel_rfl, by kernel_rfl, by kernel_rfl, trivial⟩⟩)
  · rw [if_neg hc1] at h
    refine we_known (t := 12) (b := decide (z1 ≤ x1)) (v := false) (by kernel_rfl) (decide_eq_false hc1) ?_
    refine we_false (by kernel_rfl) ?_
    obtain rfl := Option.some.inj h
    exact we_exit fun a hF => hQ _ _ _ (Outs.out nofun (Exits.here ⟨hS, hF.weaken trivial⟩))
theorem fixed_Settle_1_ok (K : Nat) (x0 : Int) (x1 : Int) (bg2_0 : Nat) (xg2_0 : SCrit) (bg2_1 : Nat) (lg2_1 : List SCrit) (Ag2_1 : Option Addr) (cg2_1 : Nat) (bg2_2 : Nat) (xg2_2 : Int) (w0 : World) (hBg2_0 : Glob w0 bg2_0 [.int .i64 xg2_0.C, .int .i64 xg2_0.H, .int .i64 xg2_0.T, .int .i64 xg2_0.D, .bool xg2_0.High, .int .i64 xg2_0.P]) (hRg2_1 : RdL w0 Ag2_1 lg2_1) (hLg2_1 : lg2_1.length ≤ cg2_1) (hBg2_1 : Glob w0 bg2_1 [.slice Ag2_1 lg2_1.length cg2_1]) (hBg2_2 : Glob w0 bg2_2 [.int .i64 xg2_2]) (r : Int) (h : fixed_Settle_1.f K x0 x1 xg2_0 lg2_1 xg2_2 = some r) :
    Calls Tryd.prog 66 #[.int .i64 x0, .int .i64 x1, .func (.func 69) #[] #[.pointer (some ⟨bg2_0, 0, none⟩), .pointer (some ⟨bg2_1, 0, none⟩), .pointer (some ⟨bg2_2, 0, none⟩)]] w0 (fixed_Settle_1.Post w0 r) := by
  have hS := St.start w0
  unfold fixed_Settle_1.f at h
  refine calls_enter (n := 21) (args := [.int .i64 x0, .int .i64 x1, .func (.func 69) #[] #[.pointer (some ⟨bg2_0, 0, none⟩), .pointer (some ⟨bg2_1, 0, none⟩), .pointer (some ⟨bg2_2, 0, none⟩)]]) (fn := Tryd.f66) rfl rfl rfl rfl ?_
  show WE _ _ _ _ [(0, .int .i64 x0), (1, .int .i64 x1), (2, .func (.func 69) #[] #[.pointer (some ⟨bg2_0, 0, none⟩), .pointer (some ⟨bg2_1, 0, none⟩), .pointer (some ⟨bg2_2, 0, none⟩)])] _
  refine we_seq fun K1 hK1 => ?_
  refine we_region [(0, 0)] rfl ?_
  refine ge_batch [0] (ans := []) (vs := [(6, .int .i64 0)]) (l := []) (by kernel_rfl) trivial ?_
  refine ge_nil fun a hF => hK1 _ _ ?_ a hF
  refine we_seq fun K2 hK2 => ?_
  refine we_seq fun K3 hK3 => ?_
  refine we_region [(0, 0), (1, 0)] rfl ?_
  refine ge_batch [0, 1] (ans := []) (vs := [(7, .int .i64 x0), (9, .int .i64 x0)]) (l := []) (by kernel_rfl) trivial ?_
  refine ge_nil fun a hF => hK3 _ _ ?_ a hF
  refine we_block ?_
  rcases hq2 : iter (fixed_Settle_1.r0 K x1 xg2_0 lg2_1 xg2_2) K x0 with _ | (_ | rr1)
  · rw [hq2] at h; cases h
  · rw [hq2] at h
    simp only [] at h
    refine we_iter (A := fixed_Settle_1.A0 K w0 x0 x1 bg2_0 xg2_0 bg2_1 lg2_1 Ag2_1 cg2_1 bg2_2 xg2_2 hBg2_0 hRg2_1 hLg2_1 hBg2_1 hBg2_2) (B := fixed_Settle_1.B0 K w0 x0 x1 bg2_0 xg2_0 bg2_1 lg2_1 Ag2_1 cg2_1 bg2_2 xg2_2 hBg2_0 hRg2_1 hLg2_1 hBg2_1 hBg2_2) hq2 (fun a hF => ⟨hS, hF.weaken ⟨by kernel_rfl, by kernel_rfl, by kernel_rfl, trivial⟩⟩) (fun s o hf a w hA Q hQ => fixed_Settle_1_r0 K w0 x0 x1 bg2_0 xg2_0 bg2_1 lg2_1 Ag2_1 cg2_1 bg2_2 xg2_2 hBg2_0 hRg2_1 hLg2_1 hBg2_1 hBg2_2 s o hf a w hA Q hQ) ?_
    rintro _ a w2 _ ⟨rfl, hS3, hF⟩
    replace hS3 : St w0 w2 [] := hS3
    refine hK2 [] w2 ?_ a hF
    refine we_seq fun K10 hK10 => ?_
    refine we_region [(0, 0)] rfl ?_
    refine ge_batch [0] (ans := []) (vs := [(6, .int .i64 0)]) (l := []) (by kernel_rfl) trivial ?_
    refine ge_nil fun a hF => hK10 _ _ ?_ a hF
    obtain rfl := Option.some.inj h
    exact we_ret (post_ret (rs := [.tmp 6]) (ans := []) (vs := [.int .i64 0]) (l := []) rfl (by kernel_rfl) trivial ⟨rfl, hS3⟩)
  · rw [hq2] at h
    simp only [] at h
    refine we_iter (A := fixed_Settle_1.A0 K w0 x0 x1 bg2_0 xg2_0 bg2_1 lg2_1 Ag2_1 cg2_1 bg2_2 xg2_2 hBg2_0 hRg2_1 hLg2_1 hBg2_1 hBg2_2) (B := fixed_Settle_1.B0 K w0 x0 x1 bg2_0 xg2_0 bg2_1 lg2_1 Ag2_1 cg2_1 bg2_2 xg2_2 hBg2_0 hRg2_1 hLg2_1 hBg2_1 hBg2_2) hq2 (fun a hF => ⟨hS, hF.weaken ⟨by kernel_rfl, by kernel_rfl, by kernel_rfl, trivial⟩⟩) (fun s o hf a w hA Q hQ => fixed_Settle_1_r0 K w0 x0 x1 bg2_0 xg2_0 bg2_1 lg2_1 Ag2_1 cg2_1 bg2_2 xg2_2 hBg2_0 hRg2_1 hLg2_1 hBg2_1 hBg2_2 s o hf a w hA Q hQ) ?_
    rintro _ a w1 _ ⟨rfl, hb⟩
    obtain rfl := Option.some.inj h
    exact hb

/-! punctual/modes.high -/
abbrev modes_high.Post (w0 : World) (r : Int) (e : Ending) (w : World) : Prop := e = .returned (.int .i64 r) ∧ St w0 w []
def modes_high.f (K : Nat) (l0 : List SCrit) (x1 : Int) (x2 : Int) : Option Int :=
  if 0 ≤ x1 then
    match l0[(x1).toNat]? with
    | none => none
    | some e1 =>
      match fixed_Settle_1.f K e1.H e1.D e1 l0 x2 with
      | none => none
      | some r1 =>
        some r1
  else
    none
theorem modes_high_ok (K : Nat) (l0 : List SCrit) (A0 : Option Addr) (c0 : Nat) (x1 : Int) (x2 : Int) (w0 : World) (hR0 : RdL w0 A0 l0) (hL0 : l0.length ≤ c0) (r : Int) (h : modes_high.f K l0 x1 x2 = some r) :
    Calls Tryd.prog 39 #[.slice A0 l0.length c0, .int .i64 x1, .int .i64 x2] w0 (modes_high.Post w0 r) := by
  have hS := St.start w0
  unfold modes_high.f at h
  refine calls_enter (n := 18) (args := [.slice A0 l0.length c0, .int .i64 x1, .int .i64 x2]) (fn := Tryd.f39) rfl rfl rfl rfl ?_
  show WE _ _ _ _ [(0, .slice A0 l0.length c0), (1, .int .i64 x1), (2, .int .i64 x2)] _
  refine we_seq fun K1 hK1 => ?_
  refine we_region [(0, 1), (1, 1), (2, 0)] rfl ?_
  refine ge_new (d := some 3) (o := .cells #[.slice A0 l0.length c0] 22) (v := fun b => .pointer (some ⟨b, 0, none⟩)) hS (fun b => by kernel_rfl) fun b1 w1 hx1 hS1 => ?_
  refine ge_new (d := some 5) (o := .cells #[.int .i64 x2] 3) (v := fun b => .pointer (some ⟨b, 0, none⟩)) hS1 (fun b => by kernel_rfl) fun b2 w2 hx2 hS2 => ?_
  refine ge_batch [2] (ans := []) (vs := [(6, .int .i64 0)]) (l := []) (by kernel_rfl) trivial ?_
  refine ge_nil fun a hF => hK1 _ _ ?_ a hF
  refine we_seq fun K2 hK2 => ?_
  refine we_region [(0, 0), (1, 0), (2, 0), (3, 0), (4, 1), (5, 2)] rfl ?_
  refine ge_batch [0, 1] (ans := [.val (.slice A0 l0.length c0)]) (vs := [(9, .int .i64 x1), (8, .slice A0 l0.length c0)]) (l := [.loaded ⟨b1, 0, none⟩ (.slice A0 l0.length c0)]) (by kernel_rfl) ⟨hS2.cell 1 rfl rfl, trivial⟩ ?_
  by_cases hc1 : 0 ≤ x1
  · rw [if_pos hc1] at h
    rcases hx3 : l0[(x1).toNat]? with _ | e1
    · rw [hx3] at h; cases h
    rw [hx3] at h
    simp only [] at h
    refine ge_index (d := 10) (ty := 0) (t := 22) (el := 27) (sz := 6) (m := l0.length) (c := c0) (x := (.tmp 8)) (y := (.tmp 9)) (A := A0) (k' := .i64) (j := x1) (jn := ((x1).toNat)) (b0 := blkOf A0) (o0 := offOf A0) (by kernel_rfl) (by kernel_rfl) (by kernel_rfl) (by kernel_rfl) (by kernel_rfl) ((hS2.rd hR0).eqSome (pos_of_get hx3)) (Int.toNat_of_nonneg hc1).symm (lt_of_get hx3) ?_
    refine ge_batch [3] (ans := [.val (.int .i64 e1.C), .val (.int .i64 e1.H), .val (.int .i64 e1.T), .val (.int .i64 e1.D), .val (.bool e1.High), .val (.int .i64 e1.P)]) (vs := [(11, .agg #[.int .i64 e1.C, .int .i64 e1.H, .int .i64 e1.T, .int .i64 e1.D, .bool e1.High, .int .i64 e1.P])]) (l := [.loaded ⟨blkOf A0, offOf A0 + ((x1).toNat) * 6, none⟩ (.int .i64 e1.C), .loaded ⟨blkOf A0, offOf A0 + ((x1).toNat) * 6 + 1, none⟩ (.int .i64 e1.H), .loaded ⟨blkOf A0, offOf A0 + ((x1).toNat) * 6 + 2, none⟩ (.int .i64 e1.T), .loaded ⟨blkOf A0, offOf A0 + ((x1).toNat) * 6 + 3, none⟩ (.int .i64 e1.D), .loaded ⟨blkOf A0, offOf A0 + ((x1).toNat) * 6 + 4, none⟩ (.bool e1.High), .loaded ⟨blkOf A0, offOf A0 + ((x1).toNat) * 6 + 5, none⟩ (.int .i64 e1.P)]) (by kernel_rfl) ⟨RdL.cell (j := 0) (hS2.rd hR0) hx3 rfl, RdL.cell (j := 1) (hS2.rd hR0) hx3 rfl, RdL.cell (j := 2) (hS2.rd hR0) hx3 rfl, RdL.cell (j := 3) (hS2.rd hR0) hx3 rfl, RdL.cell (j := 4) (hS2.rd hR0) hx3 rfl, RdL.cell (j := 5) (hS2.rd hR0) hx3 rfl, trivial⟩ ?_
    refine ge_new (d := some 7) (o := .cells #[.int .i64 0, .int .i64 0, .int .i64 0, .int .i64 0, .bool false, .int .i64 0] 27) (v := fun b => .pointer (some ⟨b, 0, none⟩)) hS2 (fun b => by kernel_rfl) fun b3 w3 hx4 hS3 => ?_
    refine ge_set (b := b3) (j := 0) (cs := #[.int .i64 0, .int .i64 0, .int .i64 0, .int .i64 0, .bool false, .int .i64 0]) (t := 27) (vs := [.int .i64 e1.C, .int .i64 e1.H, .int .i64 e1.T, .int .i64 e1.D, .bool e1.High, .int .i64 e1.P]) hS3 (by kernel_rfl) rfl rfl fun w4 hS4 => ?_
    have hS5 := hS4.nc #[.int .i64 e1.C, .int .i64 e1.H, .int .i64 e1.T, .int .i64 e1.D, .bool e1.High, .int .i64 e1.P] (by kernel_rfl)
    refine ge_nil fun a hF => hK2 _ _ ?_ a hF
    refine we_seq fun K3 hK3 => ?_
    refine we_region [(0, 0), (1, 0), (2, 0), (3, 0), (4, 0), (5, 1), (6, 0)] rfl ?_
    rcases hq1 : fixed_Settle_1.f K e1.H e1.D e1 l0 x2 with _ | r1
    · rw [hq1] at h; cases h
    rw [hq1] at h
    simp only [] at h
    refine ge_batch [0, 1, 2, 3, 4] (ans := [.val (.int .i64 e1.H), .val (.int .i64 e1.D)]) (vs := [(16, .func (.func 69) #[] #[.pointer (some ⟨b3, 0, none⟩), .pointer (some ⟨b1, 0, none⟩), .pointer (some ⟨b2, 0, none⟩)]), (15, .int .i64 e1.D), (14, .pointer (some ⟨b3, 3, none⟩)), (13, .int .i64 e1.H), (12, .pointer (some ⟨b3, 1, none⟩))]) (l := [.loaded ⟨b3, 1, none⟩ (.int .i64 e1.H), .loaded ⟨b3, 3, none⟩ (.int .i64 e1.D)]) (by kernel_rfl) ⟨hS5.cell 0 rfl rfl, hS5.cell 0 rfl rfl, trivial⟩ ?_
    refine ge_call (d := some 17) (f := 66) (args := #[.int .i64 e1.H, .int .i64 e1.D, .func (.func 69) #[] #[.pointer (some ⟨b3, 0, none⟩), .pointer (some ⟨b1, 0, none⟩), .pointer (some ⟨b2, 0, none⟩)]]) (by kernel_rfl) (fixed_Settle_1_ok K e1.H e1.D b3 e1 b1 l0 A0 c0 b2 x2 _ (hS5.globOf 0 rfl) (hS5.rd hR0) hL0 (hS5.globOf 2 rfl) (hS5.globOf 1 rfl) _ hq1) ?_
    rintro _ w5 ⟨rfl, hS6⟩
    refine ⟨_, rfl, hS6.below, ?_⟩
    have hS7 := hS5.call hS6
    refine ge_batch [6] (ans := []) (vs := [(6, .int .i64 r1)]) (l := []) (by kernel_rfl) trivial ?_
    refine ge_nil fun a hF => hK3 _ _ ?_ a hF
    have hS8 := hS7.takeN 0
    obtain rfl := Option.some.inj h
    exact we_ret (post_ret (rs := [.tmp 6]) (ans := []) (vs := [.int .i64 r1]) (l := []) rfl (by kernel_rfl) trivial ⟨rfl, hS8⟩)
  · rw [if_neg hc1] at h
    cases h

/-! punctual/modes.Responses -/
abbrev modes_Responses.Post (w0 : World) (r : (List Int) × (List Int) × SFault) (e : Ending) (w : World) : Prop := ∃ (v0 : Value) (v1 : Value), e = .returned (.tuple #[v0, v1, .agg #[.int .i64 r.2.2.Code, .int .i64 r.2.2.At]]) ∧ St w0 w [Own.of v0 3 r.1, Own.of v1 3 r.2.1]
def modes_Responses.p1 (K : Nat) (l0 : List SCrit) (i1 : Nat) (e1 : SCrit) (r2 : Int) : Option (Int ⊕ ((List Int) × (List Int) × SFault)) :=
    if e1.High = true then
      if r2 > 0 then
        match modes_high.f K l0 (i1 : Int) r2 with
        | none => none
        | some r3 =>
          some (.inl r3)
      else
        some (.inl 0)
    else
      some (.inl 0)
def modes_Responses.r0 (K : Nat) (l0 : List SCrit) : (List Int) × (List Int) × Nat → Option (((List Int) × (List Int) × Nat) ⊕ (((List Int) × (List Int)) ⊕ ((List Int) × (List Int) × SFault)))
  | (m1, m2, i1) =>
    if (i1 : Int) < (l0.length : Int) then
      match l0[i1]? with
      | none => none
      | some e1 =>
        match modes_low.f K l0 (i1 : Int) with
        | none => none
        | some r2 =>
          match modes_Responses.p1 K l0 i1 e1 r2 with
          | none => none
          | some (.inl z2) =>
            if r2 = 0 then
              some (.inr (.inr (([] : List Int), ([] : List Int), (⟨13, (i1 : Int)⟩ : SFault))))
            else
              if e1.High = true then
                if z2 = 0 then
                  some (.inr (.inr (([] : List Int), ([] : List Int), (⟨13, (i1 : Int)⟩ : SFault))))
                else
                  if m1.length < 17592186044416 then
                    if m2.length < 17592186044416 then
                      some (.inl ((m1 ++ [r2]), (m2 ++ [z2]), (i1 + 1)))
                    else
                      none
                  else
                    none
              else
                if m1.length < 17592186044416 then
                  if m2.length < 17592186044416 then
                    some (.inl ((m1 ++ [r2]), (m2 ++ [z2]), (i1 + 1)))
                  else
                    none
                else
                  none
          | some (.inr rr1) =>
            some (.inr (.inr rr1))
    else
      some (.inr (.inl (m1, m2)))
def modes_Responses.f (K : Nat) (l0 : List SCrit) : Option ((List Int) × (List Int) × SFault) :=
  match modes_Check.f K l0 with
  | none => none
  | some r1 =>
    if r1.Code = 0 then
      match iter (modes_Responses.r0 K l0) K (([] : List Int), ([] : List Int), 0) with
      | none => none
      | some (.inl (m5, m6)) =>
        some (m5, m6, (⟨0, 0⟩ : SFault))
      | some (.inr rr2) =>
        some rr2
    else
      some (([] : List Int), ([] : List Int), r1)
abbrev modes_Responses.A1 (K : Nat) (w0 : World) (l0 : List SCrit) (A0 : Option Addr) (c0 : Nat) (hR0 : RdL w0 A0 l0) (hL0 : l0.length ≤ c0) (b1 : Nat) (r1 : SFault) (b2 : Nat) (hc1 : r1.Code = 0) (m1 : List Int) (m2 : List Int) (i1 : Nat) (hc2 : (i1 : Int) < (l0.length : Int)) (e1 : SCrit) (hx3 : l0[i1]? = some e1) (b3 : Nat) (r2 : Int) (Z1 : Option Addr) (cz1 : Nat) (Z2 : Option Addr) (cz2 : Nat) : Int → Act → World → Prop := fun (s : Int) a w => St w0 w [Own.blk b3 (.cells #[.int .i64 e1.C, .int .i64 e1.H, .int .i64 e1.T, .int .i64 e1.D, .bool e1.High, .int .i64 e1.P] 27 (0, 0)), Own.blk b1 (.cells #[.int .i64 0, .int .i64 0] 31 (0, 0)), Own.of (.slice Z1 m1.length cz1) 3 m1, Own.of (.slice Z2 m2.length cz2) 3 m2] ∧ Frm 60 a [(0, .slice A0 l0.length c0), (2, (.slice Z1 m1.length cz1)), (3, (.slice Z2 m2.length cz2)), (4, .pointer (some ⟨b1, 0, none⟩)), (6, .int .i64 (i1 : Int)), (7, .pointer (some ⟨b3, 0, none⟩)), (8, .int .i64 r2), (9, .int .i64 s), (16, .slice A0 l0.length c0), (17, .int .i64 (l0.length : Int)), (18, .int .i64 (i1 : Int))]
abbrev modes_Responses.B1 (K : Nat) (w0 : World) (l0 : List SCrit) (A0 : Option Addr) (c0 : Nat) (hR0 : RdL w0 A0 l0) (hL0 : l0.length ≤ c0) (b1 : Nat) (r1 : SFault) (b2 : Nat) (hc1 : r1.Code = 0) (m1 : List Int) (m2 : List Int) (i1 : Nat) (hc2 : (i1 : Int) < (l0.length : Int)) (e1 : SCrit) (hx3 : l0[i1]? = some e1) (b3 : Nat) (r2 : Int) (Z1 : Option Addr) (cz1 : Nat) (Z2 : Option Addr) (cz2 : Nat) : ((List Int) × (List Int) × SFault) → Exit → Act → World → Prop := Rets Tryd.prog Tryd.f10 (modes_Responses.Post w0)
theorem modes_Responses_p1 (K : Nat) (w0 : World) (l0 : List SCrit) (A0 : Option Addr) (c0 : Nat) (hR0 : RdL w0 A0 l0) (hL0 : l0.length ≤ c0) (b1 : Nat) (r1 : SFault) (b2 : Nat) (hc1 : r1.Code = 0) (m1 : List Int) (m2 : List Int) (i1 : Nat) (hc2 : (i1 : Int) < (l0.length : Int)) (e1 : SCrit) (hx3 : l0[i1]? = some e1) (b3 : Nat) (r2 : Int) (Z1 : Option Addr) (cz1 : Nat) (Z2 : Option Addr) (cz2 : Nat) (o : Int ⊕ ((List Int) × (List Int) × SFault)) (h : modes_Responses.p1 K l0 i1 e1 r2 = some o) (w : World) (hS : St w0 w [Own.blk b3 (.cells #[.int .i64 e1.C, .int .i64 e1.H, .int .i64 e1.T, .int .i64 e1.D, .bool e1.High, .int .i64 e1.P] 27 (0, 0)), Own.blk b1 (.cells #[.int .i64 0, .int .i64 0] 31 (0, 0)), Own.of (.slice Z1 m1.length cz1) 3 m1, Own.of (.slice Z2 m2.length cz2) 3 m2]) (Q : Exit → Act → World → Prop) (hQ : ∀ x a w, Outs (modes_Responses.A1 K w0 l0 A0 c0 hR0 hL0 b1 r1 b2 hc1 m1 m2 i1 hc2 e1 hx3 b3 r2 Z1 cz1 Z2 cz2) (modes_Responses.B1 K w0 l0 A0 c0 hR0 hL0 b1 r1 b2 hc1 m1 m2 i1 hc2 e1 hx3 b3 r2 Z1 cz1 Z2 cz2) o x a w → Q x a w) : WE Tryd.prog 60 (subF Tryd.f10 [1, 1, 0, 1, 0, 0, 1, 1, 0, 0, 1, 1, 1, 0]) Q [(0, .slice A0 l0.length c0), (2, (.slice Z1 m1.length cz1)), (3, (.slice Z2 m2.length cz2)), (4, .pointer (some ⟨b1, 0, none⟩)), (6, .int .i64 (i1 : Int)), (7, .pointer (some ⟨b3, 0, none⟩)), (8, .int .i64 r2), (9, .int .i64 0), (16, .slice A0 l0.length c0), (17, .int .i64 (l0.length : Int)), (18, .int .i64 (i1 : Int)), (19, .bool true), (20, .int .i64 (i1 : Int)), (21, .pointer (some ⟨blkOf A0, offOf A0 + i1 * 6, none⟩)), (22, .agg #[.int .i64 e1.C, .int .i64 e1.H, .int .i64 e1.T, .int .i64 e1.D, .bool e1.High, .int .i64 e1.P]), (23, .slice A0 l0.length c0), (24, .int .i64 (i1 : Int)), (25, .int .i64 r2)] w := by
  simp only [modes_Responses.p1] at h
  refine we_seq fun K14 hK14 => ?_
  refine we_region [(0, 0), (1, 0), (2, 0), (3, 0), (4, 0), (5, 0)] rfl ?_
  refine ge_batch [0, 1, 2] (ans := [.val (.bool e1.High)]) (vs := [(28, .bool e1.High), (27, .bool e1.High), (26, .pointer (some ⟨b3, 4, none⟩))]) (l := [.loaded ⟨b3, 4, none⟩ (.bool e1.High)]) (by kernel_rfl) ⟨hS.cell 0 rfl rfl, trivial⟩ ?_
  by_cases hc3 : e1.High = true
  · rw [if_pos hc3] at h
    refine ge_known (t := 28) (b := e1.High) (c := true) (by kernel_rfl) hc3 ?_
    refine ge_batch [3, 4, 5] (ans := []) (vs := [(31, .bool (decide (r2 > 0))), (30, .bool (decide (r2 > 0))), (29, .int .i64 r2)]) (l := []) (by kernel_rfl) trivial ?_
    refine ge_nil fun a hF => hK14 _ _ ?_ a hF
    by_cases hc4 : r2 > 0
    · rw [if_pos hc4] at h
      refine we_known (t := 31) (b := decide (r2 > 0)) (v := true) (by kernel_rfl) (decide_eq_true hc4) ?_
      refine we_true (by kernel_rfl) ?_
      refine we_region [(0, 0), (1, 0), (2, 0), (3, 1), (4, 0)] rfl ?_
      rcases hq3 : modes_high.f K l0 (i1 : Int) r2 with _ | r3
      · rw [hq3] at h; cases h
      rw [hq3] at h
      simp only [] at h
      refine ge_batch [0, 1, 2] (ans := []) (vs := [(34, .int .i64 r2), (33, .int .i64 (i1 : Int)), (32, .slice A0 l0.length c0)]) (l := []) (by kernel_rfl) trivial ?_
      refine ge_call (d := some 35) (f := 39) (args := #[.slice A0 l0.length c0, .int .i64 (i1 : Int), .int .i64 r2]) (by kernel_rfl) (modes_high_ok K l0 A0 c0 (i1 : Int) r2 _ (hS.rd hR0) hL0 _ hq3) ?_
      rintro _ w8 ⟨rfl, hS18⟩
      refine ⟨_, rfl, hS18.below, ?_⟩
      have hS19 := hS.call hS18
      refine ge_batch [4] (ans := []) (vs := [(9, .int .i64 r3)]) (l := []) (by kernel_rfl) trivial ?_
      have hS20 := hS19.bring 3 rfl
      have hS21 := hS20.bring 3 rfl
      have hS22 := hS21.bring 3 rfl
      have hS23 := hS22.bring 3 rfl
      obtain rfl := Option.some.inj h
      exact ge_nil fun a hF => hQ _ _ _ (Outs.again ⟨hS23, hF.weaken ⟨by kernel_rfl, by kernel_rfl, by kernel_rfl, by kernel_rfl, by kernel_rfl, by kernel_rfl, by kernel_rfl, by kernel_rfl, by kernel_rfl, by kernel_rfl, by kernel_rfl, trivial⟩⟩)
    · rw [if_neg hc4] at h
      refine we_known (t := 31) (b := decide (r2 > 0)) (v := false) (by kernel_rfl) (decide_eq_false hc4) ?_
      refine we_false (by kernel_rfl) ?_
      have hS24 := hS.bring 3 rfl
      have hS25 := hS24.bring 3 rfl
      have hS26 := hS25.bring 3 rfl
      have hS27 := hS26.bring 3 rfl
      obtain rfl := Option.some.inj h
      exact we_skip fun a hF => hQ _ _ _ (Outs.again ⟨hS27, hF.weaken ⟨by kernel_rfl, by kernel_rfl, by kernel_rfl, by kernel_rfl, by kernel_rfl, by kernel_rfl, by kernel_rfl, by kernel_rfl, by kernel_rfl, by kernel_rfl, by kernel_rfl, trivial⟩⟩)
  · rw [if_neg hc3] at h
    refine ge_known (t := 28) (b := e1.High) (c := false) (by kernel_rfl) (Bool.eq_false_iff.2 hc3) ?_
    refine ge_batch [3, 4, 5] (ans := []) (vs := [(31, .bool false), (30, undef), (29, undef)]) (l := []) (by kernel_rfl) trivial ?_
    refine ge_nil fun a hF => hK14 _ _ ?_ a hF
    refine we_false (by kernel_rfl) ?_
    have hS28 := hS.bring 3 rfl
    have hS29 := hS28.bring 3 rfl
    have hS30 := hS29.bring 3 rfl
    have hS31 := hS30.bring 3 rfl
    obtain rfl := Option.some.inj h
    exact we_skip fun a hF => hQ _ _ _ (Outs.again ⟨hS31, hF.weaken ⟨by kernel_rfl, by kernel_rfl, by kernel_rfl, by kernel_rfl, by kernel_rfl, by kernel_rfl, by kernel_rfl, by kernel_rfl, by kernel_rfl, by kernel_rfl, by kernel_rfl, trivial⟩⟩)
abbrev modes_Responses.A0 (K : Nat) (w0 : World) (l0 : List SCrit) (A0 : Option Addr) (c0 : Nat) (hR0 : RdL w0 A0 l0) (hL0 : l0.length ≤ c0) (b1 : Nat) (r1 : SFault) (b2 : Nat) (hc1 : r1.Code = 0) : ((List Int) × (List Int) × Nat) → Act → World → Prop := fun (s : (List Int) × (List Int) × Nat) a w => ∃ (v1 : Value) (v2 : Value), St w0 w [Own.blk b1 (.cells #[.int .i64 0, .int .i64 0] 31 (0, 0)), Own.of v1 3 s.1, Own.of v2 3 s.2.1] ∧ Frm 60 a [(0, .slice A0 l0.length c0), (2, v1), (3, v2), (4, .pointer (some ⟨b1, 0, none⟩)), (16, .slice A0 l0.length c0), (17, .int .i64 (l0.length : Int)), (18, .int .i64 (s.2.2 : Int))]
abbrev modes_Responses.B0 (K : Nat) (w0 : World) (l0 : List SCrit) (A0 : Option Addr) (c0 : Nat) (hR0 : RdL w0 A0 l0) (hL0 : l0.length ≤ c0) (b1 : Nat) (r1 : SFault) (b2 : Nat) (hc1 : r1.Code = 0) : (((List Int) × (List Int)) ⊕ ((List Int) × (List Int) × SFault)) → Exit → Act → World → Prop := Exits 0 (fun (s : (List Int) × (List Int)) a w => ∃ (v3 : Value) (v4 : Value), St w0 w [Own.blk b1 (.cells #[.int .i64 0, .int .i64 0] 31 (0, 0)), Own.of v3 3 s.1, Own.of v4 3 s.2] ∧ Frm 60 a [(2, v3), (3, v4), (4, .pointer (some ⟨b1, 0, none⟩))]) (Rets Tryd.prog Tryd.f10 (modes_Responses.Post w0))
theorem modes_Responses_r0 (K : Nat) (w0 : World) (l0 : List SCrit) (A0 : Option Addr) (c0 : Nat) (hR0 : RdL w0 A0 l0) (hL0 : l0.length ≤ c0) (b1 : Nat) (r1 : SFault) (b2 : Nat) (hc1 : r1.Code = 0) (s : (List Int) × (List Int) × Nat) (o : ((List Int) × (List Int) × Nat) ⊕ (((List Int) × (List Int)) ⊕ ((List Int) × (List Int) × SFault))) (h : modes_Responses.r0 K l0 s = some o) (a : Act) (w : World) (hA : modes_Responses.A0 K w0 l0 A0 c0 hR0 hL0 b1 r1 b2 hc1 s a w) (Q : Exit → Act → World → Prop) (hQ : ∀ x a w, Outs (modes_Responses.A0 K w0 l0 A0 c0 hR0 hL0 b1 r1 b2 hc1) (modes_Responses.B0 K w0 l0 A0 c0 hR0 hL0 b1 r1 b2 hc1) o x a w → Q x a w) : (subF Tryd.f10 [1, 1, 0, 1, 0, 0]).wp Tryd.prog Q a w := by
  obtain ⟨m1, m2, i1⟩ := s
  obtain ⟨v1, v2, hS, hF⟩ := hA
  replace hS : St w0 w [Own.blk b1 (.cells #[.int .i64 0, .int .i64 0] 31 (0, 0)), Own.of v1 3 m1, Own.of v2 3 m2] := hS
  simp only [modes_Responses.r0] at h
  refine (?_ : WE Tryd.prog 60 (subF Tryd.f10 [1, 1, 0, 1, 0, 0]) Q [(0, .slice A0 l0.length c0), (2, v1), (3, v2), (4, .pointer (some ⟨b1, 0, none⟩)), (16, .slice A0 l0.length c0), (17, .int .i64 (l0.length : Int)), (18, .int .i64 (i1 : Int))] w) a hF
  clear hF a
  refine we_seq fun K7 hK7 => ?_
  refine we_region [(0, 0)] rfl ?_
  refine ge_batch [0] (ans := []) (vs := [(19, .bool (decide ((i1 : Int) < (l0.length : Int))))]) (l := []) (by kernel_rfl) trivial ?_
  refine ge_nil fun a hF => hK7 _ _ ?_ a hF
  refine we_seq fun K8 hK8 => ?_
  by_cases hc2 : (i1 : Int) < (l0.length : Int)
  · rw [if_pos hc2] at h
    refine we_known (t := 19) (b := decide ((i1 : Int) < (l0.length : Int))) (v := true) (by kernel_rfl) (decide_eq_true hc2) ?_
    refine we_true (by kernel_rfl) ?_
    refine we_skip fun a hF => hK8 _ _ ?_ a hF
    refine we_seq fun K9 hK9 => ?_
    refine we_block ?_
    refine we_seq fun K10 hK10 => ?_
    refine we_region [(0, 0), (1, 0), (2, 0), (3, 1), (4, 0), (5, 2)] rfl ?_
    refine ge_batch [0] (ans := []) (vs := [(20, .int .i64 (i1 : Int))]) (l := []) (by kernel_rfl) trivial ?_
    rcases hx3 : l0[i1]? with _ | e1
    · rw [hx3] at h; cases h
    rw [hx3] at h
    simp only [] at h
    refine ge_index (d := 21) (ty := 0) (t := 22) (el := 27) (sz := 6) (m := l0.length) (c := c0) (x := (.tmp 16)) (y := (.tmp 18)) (A := A0) (k' := .i64) (j := (i1 : Int)) (jn := i1) (b0 := blkOf A0) (o0 := offOf A0) (by kernel_rfl) (by kernel_rfl) (by kernel_rfl) (by kernel_rfl) (by kernel_rfl) ((hS.rd hR0).eqSome (pos_of_get hx3)) rfl (lt_of_get hx3) ?_
    refine ge_batch [2] (ans := [.val (.int .i64 e1.C), .val (.int .i64 e1.H), .val (.int .i64 e1.T), .val (.int .i64 e1.D), .val (.bool e1.High), .val (.int .i64 e1.P)]) (vs := [(22, .agg #[.int .i64 e1.C, .int .i64 e1.H, .int .i64 e1.T, .int .i64 e1.D, .bool e1.High, .int .i64 e1.P])]) (l := [.loaded ⟨blkOf A0, offOf A0 + i1 * 6, none⟩ (.int .i64 e1.C), .loaded ⟨blkOf A0, offOf A0 + i1 * 6 + 1, none⟩ (.int .i64 e1.H), .loaded ⟨blkOf A0, offOf A0 + i1 * 6 + 2, none⟩ (.int .i64 e1.T), .loaded ⟨blkOf A0, offOf A0 + i1 * 6 + 3, none⟩ (.int .i64 e1.D), .loaded ⟨blkOf A0, offOf A0 + i1 * 6 + 4, none⟩ (.bool e1.High), .loaded ⟨blkOf A0, offOf A0 + i1 * 6 + 5, none⟩ (.int .i64 e1.P)]) (by kernel_rfl) ⟨RdL.cell (j := 0) (hS.rd hR0) hx3 rfl, RdL.cell (j := 1) (hS.rd hR0) hx3 rfl, RdL.cell (j := 2) (hS.rd hR0) hx3 rfl, RdL.cell (j := 3) (hS.rd hR0) hx3 rfl, RdL.cell (j := 4) (hS.rd hR0) hx3 rfl, RdL.cell (j := 5) (hS.rd hR0) hx3 rfl, trivial⟩ ?_
    refine ge_new (d := some 7) (o := .cells #[.int .i64 0, .int .i64 0, .int .i64 0, .int .i64 0, .bool false, .int .i64 0] 27) (v := fun b => .pointer (some ⟨b, 0, none⟩)) hS (fun b => by kernel_rfl) fun b3 w5 hx4 hS13 => ?_
    refine ge_batch [4] (ans := []) (vs := [(6, .int .i64 (i1 : Int))]) (l := []) (by kernel_rfl) trivial ?_
    refine ge_set (b := b3) (j := 0) (cs := #[.int .i64 0, .int .i64 0, .int .i64 0, .int .i64 0, .bool false, .int .i64 0]) (t := 27) (vs := [.int .i64 e1.C, .int .i64 e1.H, .int .i64 e1.T, .int .i64 e1.D, .bool e1.High, .int .i64 e1.P]) hS13 (by kernel_rfl) rfl rfl fun w6 hS14 => ?_
    have hS15 := hS14.nc #[.int .i64 e1.C, .int .i64 e1.H, .int .i64 e1.T, .int .i64 e1.D, .bool e1.High, .int .i64 e1.P] (by kernel_rfl)
    refine ge_nil fun a hF => hK10 _ _ ?_ a hF
    refine we_seq fun K11 hK11 => ?_
    refine we_region [(0, 0), (1, 0), (2, 1), (3, 0)] rfl ?_
    rcases hq2 : modes_low.f K l0 (i1 : Int) with _ | r2
    · rw [hq2] at h; cases h
    rw [hq2] at h
    simp only [] at h
    refine ge_batch [0, 1] (ans := []) (vs := [(24, .int .i64 (i1 : Int)), (23, .slice A0 l0.length c0)]) (l := []) (by kernel_rfl) trivial ?_
    refine ge_call (d := some 25) (f := 38) (args := #[.slice A0 l0.length c0, .int .i64 (i1 : Int)]) (by kernel_rfl) (modes_low_ok K l0 A0 c0 (i1 : Int) _ (hS15.rd hR0) hL0 _ hq2) ?_
    rintro _ w7 ⟨rfl, hS16⟩
    refine ⟨_, rfl, hS16.below, ?_⟩
    have hS17 := hS15.call hS16
    refine ge_batch [3] (ans := []) (vs := [(8, .int .i64 r2)]) (l := []) (by kernel_rfl) trivial ?_
    refine ge_nil fun a hF => hK11 _ _ ?_ a hF
    refine we_seq fun K12 hK12 => ?_
    refine we_region [(0, 0)] rfl ?_
    refine ge_batch [0] (ans := []) (vs := [(9, .int .i64 0)]) (l := []) (by kernel_rfl) trivial ?_
    refine ge_nil fun a hF => hK12 _ _ ?_ a hF
    refine we_seq fun K13 hK13 => ?_
    obtain ⟨Z1, cz1, rfl⟩ := hS17.open 2 rfl
    obtain ⟨Z2, cz2, rfl⟩ := hS17.open 3 rfl
    rcases hq4 : modes_Responses.p1 K l0 i1 e1 r2 with _ | (z2 | rr1)
    · rw [hq4] at h; cases h
    · rw [hq4] at h
      simp only [] at h
      refine we_keep (e' := [(0, .slice A0 l0.length c0), (2, (.slice Z1 m1.length cz1)), (3, (.slice Z2 m2.length cz2)), (4, .pointer (some ⟨b1, 0, none⟩)), (6, .int .i64 (i1 : Int)), (7, .pointer (some ⟨b3, 0, none⟩)), (8, .int .i64 r2), (9, .int .i64 0), (16, .slice A0 l0.length c0), (17, .int .i64 (l0.length : Int)), (18, .int .i64 (i1 : Int)), (19, .bool true), (20, .int .i64 (i1 : Int)), (21, .pointer (some ⟨blkOf A0, offOf A0 + i1 * 6, none⟩)), (22, .agg #[.int .i64 e1.C, .int .i64 e1.H, .int .i64 e1.T, .int .i64 e1.D, .bool e1.High, .int .i64 e1.P]), (23, .slice A0 l0.length c0), (24, .int .i64 (i1 : Int)), (25, .int .i64 r2)]) ⟨by kernel_rfl, by kernel_rfl, by kernel_rfl, by kernel_rfl, by kernel_rfl, by kernel_rfl, by kernel_rfl, by kernel_rfl, by kernel_rfl, by kernel_rfl, by kernel_rfl, by kernel_rfl, by kernel_rfl, by kernel_rfl, by kernel_rfl, by kernel_rfl, by kernel_rfl, by kernel_rfl, trivial⟩ (modes_Responses_p1 K w0 l0 A0 c0 hR0 hL0 b1 r1 b2 hc1 m1 m2 i1 hc2 e1 hx3 b3 r2 Z1 cz1 Z2 cz2 _ hq4 _ hS17 _ ?_)
      rintro _ a w9 ⟨rfl, hS32, hF⟩
      replace hS32 : St w0 w9 [Own.blk b3 (.cells #[.int .i64 e1.C, .int .i64 e1.H, .int .i64 e1.T, .int .i64 e1.D, .bool e1.High, .int .i64 e1.P] 27 (0, 0)), Own.blk b1 (.cells #[.int .i64 0, .int .i64 0] 31 (0, 0)), Own.of (.slice Z1 m1.length cz1) 3 m1, Own.of (.slice Z2 m2.length cz2) 3 m2] := hS32
      refine hK13 [(0, .slice A0 l0.length c0), (2, (.slice Z1 m1.length cz1)), (3, (.slice Z2 m2.length cz2)), (4, .pointer (some ⟨b1, 0, none⟩)), (6, .int .i64 (i1 : Int)), (7, .pointer (some ⟨b3, 0, none⟩)), (8, .int .i64 r2), (9, .int .i64 z2), (16, .slice A0 l0.length c0), (17, .int .i64 (l0.length : Int)), (18, .int .i64 (i1 : Int))] w9 ?_ a hF
      refine we_seq fun K15 hK15 => ?_
      refine we_seq fun K16 hK16 => ?_
      refine we_region [(0, 0), (1, 0), (2, 0), (3, 0), (4, 0), (5, 0), (6, 0), (7, 0), (8, 0), (9, 0)] rfl ?_
      refine ge_batch [0, 1, 2] (ans := []) (vs := [(38, .bool (r2 == 0)), (37, .bool (r2 == 0)), (36, .int .i64 r2)]) (l := []) (by kernel_rfl) trivial ?_
      by_cases hc5 : r2 = 0
      · rw [if_pos hc5] at h
        refine ge_known (t := 38) (b := (r2 == 0)) (c := true) (by kernel_rfl) (beq_iff_eq.2 hc5) ?_
        refine ge_batch [3, 4, 5, 6, 7, 8, 9] (ans := []) (vs := [(45, .bool true), (44, undef), (43, undef), (42, undef), (41, undef), (40, undef), (39, undef)]) (l := []) (by kernel_rfl) trivial ?_
        refine ge_nil fun a hF => hK16 _ _ ?_ a hF
        refine we_true (by kernel_rfl) ?_
        refine we_seq fun K17 hK17 => ?_
        refine we_region [(0, 0), (1, 0), (2, 0), (3, 0), (4, 2)] rfl ?_
        refine ge_batch [0, 1, 2, 3] (ans := []) (vs := [(3, .slice none 0 0), (2, .slice none 0 0), (47, .agg #[.int .i64 13, .int .i64 (i1 : Int)]), (46, .int .i64 (i1 : Int))]) (l := []) (by kernel_rfl) trivial ?_
        have hS33 := hS32.bring 1 rfl
        refine ge_set (b := b1) (j := 0) (cs := #[.int .i64 0, .int .i64 0]) (t := 31) (vs := [.int .i64 13, .int .i64 (i1 : Int)]) hS33 (by kernel_rfl) rfl rfl fun w10 hS34 => ?_
        have hS35 := hS34.nc #[.int .i64 13, .int .i64 (i1 : Int)] (by kernel_rfl)
        refine ge_nil fun a hF => hK17 _ _ ?_ a hF
        have hS36 := hS35.nil (α := Int) 3
        have hS37 := hS36.nil (α := Int) 3
        have hS38 := hS37.bring 1 rfl
        have hS39 := hS38.bring 1 rfl
        have hS40 := hS39.takeN 2
        obtain rfl := Option.some.inj h
        exact we_ret fun a hF => hQ _ _ _ (Outs.out nofun (Exits.on ⟨rfl, (post_ret (rs := [.tmp 2, .tmp 3, .cell 4 31]) (ans := [.val (.int .i64 13), .val (.int .i64 (i1 : Int))]) (vs := [(.slice none 0 0), (.slice none 0 0), .agg #[.int .i64 13, .int .i64 (i1 : Int)]]) (l := [.loaded ⟨b1, 0, none⟩ (.int .i64 13), .loaded ⟨b1, 1, none⟩ (.int .i64 (i1 : Int))]) rfl (by kernel_rfl) ⟨hS37.cell 2 rfl rfl, hS37.cell 2 rfl rfl, trivial⟩ ⟨(.slice none 0 0), (.slice none 0 0), rfl, hS40⟩) a hF⟩))
      · rw [if_neg hc5] at h
        refine ge_known (t := 38) (b := (r2 == 0)) (c := false) (by kernel_rfl) (beq_eq_false_iff_ne.2 hc5) ?_
        refine ge_batch [3, 4, 5] (ans := [.val (.bool e1.High)]) (vs := [(41, .bool e1.High), (40, .bool e1.High), (39, .pointer (some ⟨b3, 4, none⟩))]) (l := [.loaded ⟨b3, 4, none⟩ (.bool e1.High)]) (by kernel_rfl) ⟨hS32.cell 0 rfl rfl, trivial⟩ ?_
        by_cases hc6 : e1.High = true
        · rw [if_pos hc6] at h
          refine ge_known (t := 41) (b := e1.High) (c := true) (by kernel_rfl) hc6 ?_
          refine ge_batch [6, 7, 8, 9] (ans := []) (vs := [(45, .bool (z2 == 0)), (44, .bool (z2 == 0)), (43, .bool (z2 == 0)), (42, .int .i64 z2)]) (l := []) (by kernel_rfl) trivial ?_
          refine ge_nil fun a hF => hK16 _ _ ?_ a hF
          by_cases hc7 : z2 = 0
          · rw [if_pos hc7] at h
            refine we_known (t := 45) (b := (z2 == 0)) (v := true) (by kernel_rfl) (beq_iff_eq.2 hc7) ?_
            refine we_true (by kernel_rfl) ?_
            refine we_seq fun K18 hK18 => ?_
            refine we_region [(0, 0), (1, 0), (2, 0), (3, 0), (4, 2)] rfl ?_
            refine ge_batch [0, 1, 2, 3] (ans := []) (vs := [(3, .slice none 0 0), (2, .slice none 0 0), (47, .agg #[.int .i64 13, .int .i64 (i1 : Int)]), (46, .int .i64 (i1 : Int))]) (l := []) (by kernel_rfl) trivial ?_
            have hS41 := hS32.bring 1 rfl
            refine ge_set (b := b1) (j := 0) (cs := #[.int .i64 0, .int .i64 0]) (t := 31) (vs := [.int .i64 13, .int .i64 (i1 : Int)]) hS41 (by kernel_rfl) rfl rfl fun w11 hS42 => ?_
            have hS43 := hS42.nc #[.int .i64 13, .int .i64 (i1 : Int)] (by kernel_rfl)
            refine ge_nil fun a hF => hK18 _ _ ?_ a hF
            have hS44 := hS43.nil (α := Int) 3
            have hS45 := hS44.nil (α := Int) 3
            have hS46 := hS45.bring 1 rfl
            have hS47 := hS46.bring 1 rfl
            have hS48 := hS47.takeN 2
            obtain rfl := Option.some.inj h
            exact we_ret fun a hF => hQ _ _ _ (Outs.out nofun (Exits.on ⟨rfl, (post_ret (rs := [.tmp 2, .tmp 3, .cell 4 31]) (ans := [.val (.int .i64 13), .val (.int .i64 (i1 : Int))]) (vs := [(.slice none 0 0), (.slice none 0 0), .agg #[.int .i64 13, .int .i64 (i1 : Int)]]) (l := [.loaded ⟨b1, 0, none⟩ (.int .i64 13), .loaded ⟨b1, 1, none⟩ (.int .i64 (i1 : Int))]) rfl (by kernel_rfl) ⟨hS45.cell 2 rfl rfl, hS45.cell 2 rfl rfl, trivial⟩ ⟨(.slice none 0 0), (.slice none 0 0), rfl, hS48⟩) a hF⟩))
          · rw [if_neg hc7] at h
            refine we_known (t := 45) (b := (z2 == 0)) (v := false) (by kernel_rfl) (beq_eq_false_iff_ne.2 hc7) ?_
            refine we_false (by kernel_rfl) ?_
            refine we_skip fun a hF => hK15 _ _ ?_ a hF
            refine we_region [(0, 0), (1, 0), (2, 1), (3, 2), (4, 0), (5, 0), (6, 1), (7, 2), (8, 0), (9, 0)] rfl ?_
            refine ge_batch [0, 1] (ans := []) (vs := [(49, .int .i64 r2), (48, (.slice Z1 m1.length cz1))]) (l := []) (by kernel_rfl) trivial ?_
            refine ge_new (d := some 50) (o := .cells #[.int .i64 r2] 3) (v := fun b => .slice (some ⟨b, 0, none⟩) 1 1) hS32 (fun b => by kernel_rfl) fun b4 w12 hx5 hS49 => ?_
            have hS50 := hS49.bring 3 rfl
            by_cases hc8 : m1.length < 17592186044416
            · rw [if_pos hc8] at h
              refine ge_append (α := Int) (m := 0) (d := 51) (t := 28) (el := 3) (bytes := 8) (c1 := 1) (b1 := b4) (x := (.tmp 48)) (y := (.tmp 50)) (ty := 28) (v := (.slice Z1 m1.length cz1)) (z := .int .i64 0) (l := m1) (u := r2) (by kernel_rfl) (by kernel_rfl) (by kernel_rfl) (by kernel_rfl) (by kernel_rfl) rfl hS50 rfl (by omega) fun v5 w13 hS51 => ?_
              refine ge_batch [4, 5] (ans := []) (vs := [(53, .int .i64 z2), (52, (.slice Z2 m2.length cz2))]) (l := []) (by kernel_rfl) trivial ?_
              refine ge_new (d := some 54) (o := .cells #[.int .i64 z2] 3) (v := fun b => .slice (some ⟨b, 0, none⟩) 1 1) hS51 (fun b => by kernel_rfl) fun b5 w14 hx6 hS52 => ?_
              have hS53 := hS52.bring 4 rfl
              by_cases hc9 : m2.length < 17592186044416
              · rw [if_pos hc9] at h
                refine ge_append (α := Int) (m := 0) (d := 55) (t := 28) (el := 3) (bytes := 8) (c1 := 1) (b1 := b5) (x := (.tmp 52)) (y := (.tmp 54)) (ty := 28) (v := (.slice Z2 m2.length cz2)) (z := .int .i64 0) (l := m2) (u := z2) (by kernel_rfl) (by kernel_rfl) (by kernel_rfl) (by kernel_rfl) (by kernel_rfl) rfl hS53 rfl (by omega) fun v6 w15 hS54 => ?_
                refine ge_batch [8, 9] (ans := []) (vs := [(3, v6), (2, v5)]) (l := []) (by kernel_rfl) trivial ?_
                refine ge_nil fun a hF => hK9 _ _ ?_ a hF
                refine we_region [(0, 0), (1, 0)] rfl ?_
                refine ge_addn (d := 56) (ty := 3) (x := (.tmp 18)) (y := (.const (.int .i64 1))) (t := 3) (t2 := 3) (k := .i64) (m := i1) (by kernel_rfl) (by kernel_rfl) (by kernel_rfl) (by have h0 := hR0.small; omega) ?_
                refine ge_batch [1] (ans := []) (vs := [(18, .int .i64 ((i1 + 1 : Nat) : Int))]) (l := []) (by kernel_rfl) trivial ?_
                have hS55 := hS54.bring 1 rfl
                have hS56 := hS55.bring 3 rfl
                have hS57 := hS56.takeN 3
                obtain rfl := Option.some.inj h
                exact ge_nil fun a hF => hQ _ _ _ (Outs.again ⟨v5, v6, hS57, hF.weaken ⟨by kernel_rfl, by kernel_rfl, by kernel_rfl, by kernel_rfl, by kernel_rfl, by kernel_rfl, by kernel_rfl, trivial⟩⟩)
              · rw [if_neg hc9] at h
                cases h
            · rw [if_neg hc8] at h
              cases h
        · rw [if_neg hc6] at h
          refine ge_known (t := 41) (b := e1.High) (c := false) (by kernel_rfl) (Bool.eq_false_iff.2 hc6) ?_
          refine ge_batch [6, 7, 8, 9] (ans := []) (vs := [(45, .bool false), (44, .bool false), (43, undef), (42, undef)]) (l := []) (by kernel_rfl) trivial ?_
          refine ge_nil fun a hF => hK16 _ _ ?_ a hF
          refine we_false (by kernel_rfl) ?_
          refine we_skip fun a hF => hK15 _ _ ?_ a hF
          refine we_region [(0, 0), (1, 0), (2, 1), (3, 2), (4, 0), (5, 0), (6, 1), (7, 2), (8, 0), (9, 0)] rfl ?_
          refine ge_batch [0, 1] (ans := []) (vs := [(49, .int .i64 r2), (48, (.slice Z1 m1.length cz1))]) (l := []) (by kernel_rfl) trivial ?_
          refine ge_new (d := some 50) (o := .cells #[.int .i64 r2] 3) (v := fun b => .slice (some ⟨b, 0, none⟩) 1 1) hS32 (fun b => by kernel_rfl) fun b6 w16 hx7 hS58 => ?_
          have hS59 := hS58.bring 3 rfl
          by_cases hc10 : m1.length < 17592186044416
          · rw [if_pos hc10] at h
            refine ge_append (α := Int) (m := 0) (d := 51) (t := 28) (el := 3) (bytes := 8) (c1 := 1) (b1 := b6) (x := (.tmp 48)) (y := (.tmp 50)) (ty := 28) (v := (.slice Z1 m1.length cz1)) (z := .int .i64 0) (l := m1) (u := r2) (by kernel_rfl) (by kernel_rfl) (by kernel_rfl) (by kernel_rfl) (by kernel_rfl) rfl hS59 rfl (by omega) fun v7 w17 hS60 => ?_
            refine ge_batch [4, 5] (ans := []) (vs := [(53, .int .i64 z2), (52, (.slice Z2 m2.length cz2))]) (l := []) (by kernel_rfl) trivial ?_
            refine ge_new (d := some 54) (o := .cells #[.int .i64 z2] 3) (v := fun b => .slice (some ⟨b, 0, none⟩) 1 1) hS60 (fun b => by kernel_rfl) fun b7 w18 hx8 hS61 => ?_
            have hS62 := hS61.bring 4 rfl
            by_cases hc11 : m2.length < 17592186044416
            · rw [if_pos hc11] at h
              refine ge_append (α := Int) (m := 0) (d := 55) (t := 28) (el := 3) (bytes := 8) (c1 := 1) (b1 := b7) (x := (.tmp 52)) (y := (.tmp 54)) (ty := 28) (v := (.slice Z2 m2.length cz2)) (z := .int .i64 0) (l := m2) (u := z2) (by kernel_rfl) (by kernel_rfl) (by kernel_rfl) (by kernel_rfl) (by kernel_rfl) rfl hS62 rfl (by omega) fun v8 w19 hS63 => ?_
              refine ge_batch [8, 9] (ans := []) (vs := [(3, v8), (2, v7)]) (l := []) (by kernel_rfl) trivial ?_
              refine ge_nil fun a hF => hK9 _ _ ?_ a hF
              refine we_region [(0, 0), (1, 0)] rfl ?_
              refine ge_addn (d := 56) (ty := 3) (x := (.tmp 18)) (y := (.const (.int .i64 1))) (t := 3) (t2 := 3) (k := .i64) (m := i1) (by kernel_rfl) (by kernel_rfl) (by kernel_rfl) (by have h0 := hR0.small; omega) ?_
              refine ge_batch [1] (ans := []) (vs := [(18, .int .i64 ((i1 + 1 : Nat) : Int))]) (l := []) (by kernel_rfl) trivial ?_
              have hS64 := hS63.bring 1 rfl
              have hS65 := hS64.bring 3 rfl
              have hS66 := hS65.takeN 3
              obtain rfl := Option.some.inj h
              exact ge_nil fun a hF => hQ _ _ _ (Outs.again ⟨v7, v8, hS66, hF.weaken ⟨by kernel_rfl, by kernel_rfl, by kernel_rfl, by kernel_rfl, by kernel_rfl, by kernel_rfl, by kernel_rfl, trivial⟩⟩)
            · rw [if_neg hc11] at h
              cases h
          · rw [if_neg hc10] at h
            cases h
    · rw [hq4] at h
      simp only [] at h
      refine we_keep (e' := [(0, .slice A0 l0.length c0), (2, (.slice Z1 m1.length cz1)), (3, (.slice Z2 m2.length cz2)), (4, .pointer (some ⟨b1, 0, none⟩)), (6, .int .i64 (i1 : Int)), (7, .pointer (some ⟨b3, 0, none⟩)), (8, .int .i64 r2), (9, .int .i64 0), (16, .slice A0 l0.length c0), (17, .int .i64 (l0.length : Int)), (18, .int .i64 (i1 : Int)), (19, .bool true), (20, .int .i64 (i1 : Int)), (21, .pointer (some ⟨blkOf A0, offOf A0 + i1 * 6, none⟩)), (22, .agg #[.int .i64 e1.C, .int .i64 e1.H, .int .i64 e1.T, .int .i64 e1.D, .bool e1.High, .int .i64 e1.P]), (23, .slice A0 l0.length c0), (24, .int .i64 (i1 : Int)), (25, .int .i64 r2)]) ⟨by kernel_rfl, by kernel_rfl, by kernel_rfl, by kernel_rfl, by kernel_rfl, by kernel_rfl, by kernel_rfl, by kernel_rfl, by kernel_rfl, by kernel_rfl, by kernel_rfl, by kernel_rfl, by kernel_rfl, by kernel_rfl, by kernel_rfl, by kernel_rfl, by kernel_rfl, by kernel_rfl, trivial⟩ (modes_Responses_p1 K w0 l0 A0 c0 hR0 hL0 b1 r1 b2 hc1 m1 m2 i1 hc2 e1 hx3 b3 r2 Z1 cz1 Z2 cz2 _ hq4 _ hS17 _ ?_)
      rintro _ a w1 ⟨_, rfl, hb⟩
      obtain rfl := Option.some.inj h
      exact hQ _ _ _ (Outs.out nofun (Exits.on ⟨rfl, hb⟩))
  · rw [if_neg hc2] at h
    refine we_known (t := 19) (b := decide ((i1 : Int) < (l0.length : Int))) (v := false) (by kernel_rfl) (decide_eq_false hc2) ?_
    refine we_false (by kernel_rfl) ?_
    have hS67 := hS.bring 2 rfl
    have hS68 := hS67.bring 2 rfl
    have hS69 := hS68.bring 2 rfl
    obtain rfl := Option.some.inj h
    exact we_exit fun a hF => hQ _ _ _ (Outs.out nofun (Exits.here ⟨v1, v2, hS69, hF.weaken ⟨by kernel_rfl, by kernel_rfl, by kernel_rfl, trivial⟩⟩))
theorem modes_Responses_ok (K : Nat) (l0 : List SCrit) (A0 : Option Addr) (c0 : Nat) (w0 : World) (hR0 : RdL w0 A0 l0) (hL0 : l0.length ≤ c0) (r : (List Int) × (List Int) × SFault) (h : modes_Responses.f K l0 = some r) :
    Calls Tryd.prog 10 #[.slice A0 l0.length c0] w0 (modes_Responses.Post w0 r) := by
  have hS := St.start w0
  unfold modes_Responses.f at h
  refine calls_enter (n := 60) (args := [.slice A0 l0.length c0]) (fn := Tryd.f10) rfl rfl rfl rfl ?_
  show WE _ _ _ _ [(0, .slice A0 l0.length c0)] _
  refine we_seq fun K1 hK1 => ?_
  refine we_region [(0, 0), (1, 0), (2, 1)] rfl ?_
  refine ge_batch [0, 1] (ans := []) (vs := [(3, .slice none 0 0), (2, .slice none 0 0)]) (l := []) (by kernel_rfl) trivial ?_
  refine ge_new (d := some 4) (o := .cells #[.int .i64 0, .int .i64 0] 31) (v := fun b => .pointer (some ⟨b, 0, none⟩)) hS (fun b => by kernel_rfl) fun b1 w1 hx1 hS1 => ?_
  refine ge_nil fun a hF => hK1 _ _ ?_ a hF
  refine we_seq fun K2 hK2 => ?_
  refine we_seq fun K3 hK3 => ?_
  refine we_region [(0, 0), (1, 1), (2, 1), (3, 2)] rfl ?_
  rcases hq1 : modes_Check.f K l0 with _ | r1
  · rw [hq1] at h; cases h
  rw [hq1] at h
  simp only [] at h
  refine ge_batch [0] (ans := []) (vs := [(10, .slice A0 l0.length c0)]) (l := []) (by kernel_rfl) trivial ?_
  refine ge_call (d := some 11) (f := 12) (args := #[.slice A0 l0.length c0]) (by kernel_rfl) (modes_Check_ok K l0 A0 c0 _ (hS1.rd hR0) hL0 _ hq1) ?_
  rintro _ w2 ⟨rfl, hS2⟩
  refine ⟨_, rfl, hS2.below, ?_⟩
  have hS3 := hS1.call hS2
  refine ge_new (d := some 5) (o := .cells #[.int .i64 0, .int .i64 0] 31) (v := fun b => .pointer (some ⟨b, 0, none⟩)) hS3 (fun b => by kernel_rfl) fun b2 w3 hx2 hS4 => ?_
  refine ge_set (b := b2) (j := 0) (cs := #[.int .i64 0, .int .i64 0]) (t := 31) (vs := [.int .i64 r1.Code, .int .i64 r1.At]) hS4 (by kernel_rfl) rfl rfl fun w4 hS5 => ?_
  have hS6 := hS5.nc #[.int .i64 r1.Code, .int .i64 r1.At] (by kernel_rfl)
  refine ge_nil fun a hF => hK3 _ _ ?_ a hF
  refine we_seq fun K4 hK4 => ?_
  refine we_region [(0, 0), (1, 0), (2, 0)] rfl ?_
  refine ge_batch [0, 1, 2] (ans := [.val (.int .i64 r1.Code)]) (vs := [(14, .bool (r1.Code != 0)), (13, .int .i64 r1.Code), (12, .pointer (some ⟨b2, 0, none⟩))]) (l := [.loaded ⟨b2, 0, none⟩ (.int .i64 r1.Code)]) (by kernel_rfl) ⟨hS6.cell 0 rfl rfl, trivial⟩ ?_
  refine ge_nil fun a hF => hK4 _ _ ?_ a hF
  by_cases hc1 : r1.Code = 0
  · rw [if_pos hc1] at h
    refine we_known (t := 14) (b := (r1.Code != 0)) (v := false) (by kernel_rfl) (bne_eq_false_iff_eq.2 hc1) ?_
    refine we_false (by kernel_rfl) ?_
    refine we_skip fun a hF => hK2 _ _ ?_ a hF
    refine we_seq fun K5 hK5 => ?_
    refine we_seq fun K6 hK6 => ?_
    refine we_region [(0, 0), (1, 0), (2, 0)] rfl ?_
    refine ge_batch [0, 1, 2] (ans := []) (vs := [(18, .int .i64 0), (17, .int .i64 (l0.length : Int)), (16, .slice A0 l0.length c0)]) (l := []) (by kernel_rfl) trivial ?_
    refine ge_nil fun a hF => hK6 _ _ ?_ a hF
    refine we_block ?_
    have hS7 := hS6.nil (α := Int) 3
    have hS8 := hS7.nil (α := Int) 3
    have hS9 := hS8.bring 1 rfl
    have hS10 := hS9.bring 1 rfl
    have hS11 := hS10.bring 3 rfl
    have hS12 := hS11.takeN 3
    rcases hq5 : iter (modes_Responses.r0 K l0) K (([] : List Int), ([] : List Int), 0) with _ | (⟨m5, m6⟩ | rr2)
    · rw [hq5] at h; cases h
    · rw [hq5] at h
      simp only [] at h
      refine we_iter (A := modes_Responses.A0 K w0 l0 A0 c0 hR0 hL0 b1 r1 b2 hc1) (B := modes_Responses.B0 K w0 l0 A0 c0 hR0 hL0 b1 r1 b2 hc1) hq5 (fun a hF => ⟨(.slice none 0 0), (.slice none 0 0), hS12, hF.weaken ⟨by kernel_rfl, by kernel_rfl, by kernel_rfl, by kernel_rfl, by kernel_rfl, by kernel_rfl, by kernel_rfl, trivial⟩⟩) (fun s o hf a w hA Q hQ => modes_Responses_r0 K w0 l0 A0 c0 hR0 hL0 b1 r1 b2 hc1 s o hf a w hA Q hQ) ?_
      rintro _ a w20 _ ⟨rfl, v9, v10, hS70, hF⟩
      replace hS70 : St w0 w20 [Own.blk b1 (.cells #[.int .i64 0, .int .i64 0] 31 (0, 0)), Own.of v9 3 m5, Own.of v10 3 m6] := hS70
      refine hK5 [(2, v9), (3, v10), (4, .pointer (some ⟨b1, 0, none⟩))] w20 ?_ a hF
      refine we_seq fun K19 hK19 => ?_
      refine we_region [(0, 0), (1, 0), (2, 0), (3, 0), (4, 0), (5, 2)] rfl ?_
      refine ge_batch [0, 1, 2, 3, 4] (ans := []) (vs := [(3, v10), (2, v9), (59, .agg #[.int .i64 0, .int .i64 0]), (58, v10), (57, v9)]) (l := []) (by kernel_rfl) trivial ?_
      refine ge_set (b := b1) (j := 0) (cs := #[.int .i64 0, .int .i64 0]) (t := 31) (vs := [.int .i64 0, .int .i64 0]) hS70 (by kernel_rfl) rfl rfl fun w21 hS71 => ?_
      have hS72 := hS71.nc #[.int .i64 0, .int .i64 0] (by kernel_rfl)
      refine ge_nil fun a hF => hK19 _ _ ?_ a hF
      have hS73 := hS72.bring 2 rfl
      have hS74 := hS73.bring 2 rfl
      have hS75 := hS74.takeN 2
      obtain rfl := Option.some.inj h
      exact we_ret (post_ret (rs := [.tmp 2, .tmp 3, .cell 4 31]) (ans := [.val (.int .i64 0), .val (.int .i64 0)]) (vs := [v9, v10, .agg #[.int .i64 0, .int .i64 0]]) (l := [.loaded ⟨b1, 0, none⟩ (.int .i64 0), .loaded ⟨b1, 1, none⟩ (.int .i64 0)]) rfl (by kernel_rfl) ⟨hS72.cell 0 rfl rfl, hS72.cell 0 rfl rfl, trivial⟩ ⟨v9, v10, rfl, hS75⟩)
    · rw [hq5] at h
      simp only [] at h
      refine we_iter (A := modes_Responses.A0 K w0 l0 A0 c0 hR0 hL0 b1 r1 b2 hc1) (B := modes_Responses.B0 K w0 l0 A0 c0 hR0 hL0 b1 r1 b2 hc1) hq5 (fun a hF => ⟨(.slice none 0 0), (.slice none 0 0), hS12, hF.weaken ⟨by kernel_rfl, by kernel_rfl, by kernel_rfl, by kernel_rfl, by kernel_rfl, by kernel_rfl, by kernel_rfl, trivial⟩⟩) (fun s o hf a w hA Q hQ => modes_Responses_r0 K w0 l0 A0 c0 hR0 hL0 b1 r1 b2 hc1 s o hf a w hA Q hQ) ?_
      rintro _ a w1 _ ⟨rfl, hb⟩
      obtain rfl := Option.some.inj h
      exact hb
  · rw [if_neg hc1] at h
    refine we_known (t := 14) (b := (r1.Code != 0)) (v := true) (by kernel_rfl) (bne_iff_ne.2 hc1) ?_
    refine we_true (by kernel_rfl) ?_
    refine we_seq fun K20 hK20 => ?_
    refine we_draws (by kernel_rfl) [(0, 0), (1, 0), (2, 0), (3, 2)] (by kernel_rfl) ?_
    have hS76 := hS6.drew
    refine ge_batch [0, 1, 2] (ans := [.val (.int .i64 r1.Code), .val (.int .i64 r1.At)]) (vs := [(3, .slice none 0 0), (2, .slice none 0 0), (15, .agg #[.int .i64 r1.Code, .int .i64 r1.At])]) (l := [.loaded ⟨b2, 0, none⟩ (.int .i64 r1.Code), .loaded ⟨b2, 1, none⟩ (.int .i64 r1.At)]) (by kernel_rfl) ⟨hS76.cell 0 rfl rfl, hS76.cell 0 rfl rfl, trivial⟩ ?_
    have hS77 := hS76.bring 1 rfl
    refine ge_set (b := b1) (j := 0) (cs := #[.int .i64 0, .int .i64 0]) (t := 31) (vs := [.int .i64 r1.Code, .int .i64 r1.At]) hS77 (by kernel_rfl) rfl rfl fun w22 hS78 => ?_
    have hS79 := hS78.nc #[.int .i64 r1.Code, .int .i64 r1.At] (by kernel_rfl)
    refine ge_nil fun a hF => hK20 _ _ ?_ a hF
    have hS80 := hS79.nil (α := Int) 3
    have hS81 := hS80.nil (α := Int) 3
    have hS82 := hS81.bring 1 rfl
    have hS83 := hS82.bring 1 rfl
    have hS84 := hS83.takeN 2
    obtain rfl := Option.some.inj h
    exact we_ret (post_ret (rs := [.tmp 2, .tmp 3, .cell 4 31]) (ans := [.val (.int .i64 r1.Code), .val (.int .i64 r1.At)]) (vs := [(.slice none 0 0), (.slice none 0 0), .agg #[.int .i64 r1.Code, .int .i64 r1.At]]) (l := [.loaded ⟨b1, 0, none⟩ (.int .i64 r1.Code), .loaded ⟨b1, 1, none⟩ (.int .i64 r1.At)]) rfl (by kernel_rfl) ⟨hS81.cell 2 rfl rfl, hS81.cell 2 rfl rfl, trivial⟩ ⟨(.slice none 0 0), (.slice none 0 0), rfl, hS84⟩)

structure SPlayed where
  Runs : List Int
  Ends : List Int

structure SModal where
  Played : SPlayed
  Turned : Int

structure SCome where
  Task : Int
  At : Int
def SCome.eqb (x y : SCome) : Bool := ((x.Task == y.Task) && ((x.At == y.At) && true))
instance : Ok SCome := ⟨fun x => Ok.ok x.Task ∧ Ok.ok x.At ∧ True⟩
instance : Flat SCome := ⟨2, fun x => [.int .i64 x.Task, .int .i64 x.At], fun _ => rfl, fun _ => rfl, by decide⟩
end Go.Proofs.YtchcdadpahakfaaDoor.GV
