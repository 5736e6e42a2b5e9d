/- Walks of single functions, written by a program of this work. -/
import Derived.Test.YtcogbnkioobmkaaDoorGWRedoPlays5
namespace Go.Proofs.YtcogbnkioobmkaaDoor.GV
open Go Go.RowKit
set_option linter.unusedVariables false
set_option linter.unusedSimpArgs false
set_option maxRecDepth 100000

/-! punctual/punctualsame.Still[int] -/
abbrev punctualsame_Still_int.Post (w0 : World) (r : Bool) (e : Ending) (w : World) : Prop := e = .returned (.bool r) ∧ St w0 w []
def punctualsame_Still_int.r0 (f0 : List Int) (l1 : List Int) (x2 : Int) : Nat → Option (Nat ⊕ (Unit ⊕ Bool))
  | i1 =>
    if (i1 : Int) < (f0.length : Int) then
      match f0[i1]? with
      | none => none
      | some e1 =>
        if (i1 : Int) < (l1.length : Int) then
          match l1[i1]? with
          | none => none
          | some e2 =>
            if e1 = e2 then
              if (i1 : Int) ≥ (l1.length : Int) then
                if e1 = x2 then
                  some (.inl (i1 + 1))
                else
                  some (.inr (.inr false))
              else
                some (.inl (i1 + 1))
            else
              some (.inr (.inr false))
        else
          if (i1 : Int) ≥ (l1.length : Int) then
            if e1 = x2 then
              some (.inl (i1 + 1))
            else
              some (.inr (.inr false))
          else
            some (.inl (i1 + 1))
    else
      some (.inr (.inl ()))
def punctualsame_Still_int.f (K : Nat) (f0 : List Int) (l1 : List Int) (x2 : Int) : Option Bool :=
  if (IntKind.i64.wrap ((l1.length : Int) + 3)) = (f0.length : Int) then
    match iter (punctualsame_Still_int.r0 f0 l1 x2) K 0 with
    | none => none
    | some (.inl _) =>
      some true
    | some (.inr rr1) =>
      some rr1
  else
    none
abbrev punctualsame_Still_int.A0 (K : Nat) (w0 : World) (f0 : List Int) (A0 : Option Addr) (n0 : Nat) (c0 : Nat) (l1 : List Int) (A1 : Option Addr) (c1 : Nat) (x2 : Int) (hR0 : RdL w0 A0 f0) (hc0 : f0.length ≤ c0) (hR1 : RdL w0 A1 l1) (hL1 : l1.length ≤ c1) (hc1 : (IntKind.i64.wrap ((l1.length : Int) + 3)) = (f0.length : Int)) : Nat → Act → World → Prop := fun (s : Nat) a w => St w0 w [] ∧ Frm 46 a [(1, .slice A1 l1.length c1), (2, .int .i64 x2), (15, .slice A0 f0.length c0), (16, .int .i64 (f0.length : Int)), (17, .int .i64 (s : Int))]
abbrev punctualsame_Still_int.B0 (K : Nat) (w0 : World) (f0 : List Int) (A0 : Option Addr) (n0 : Nat) (c0 : Nat) (l1 : List Int) (A1 : Option Addr) (c1 : Nat) (x2 : Int) (hR0 : RdL w0 A0 f0) (hc0 : f0.length ≤ c0) (hR1 : RdL w0 A1 l1) (hL1 : l1.length ≤ c1) (hc1 : (IntKind.i64.wrap ((l1.length : Int) + 3)) = (f0.length : Int)) : (Unit ⊕ Bool) → Exit → Act → World → Prop := Exits 0 (fun (s : Unit) a w => St w0 w [] ∧ Frm 46 a []) (Rets Tryd.prog Tryd.f21 (punctualsame_Still_int.Post w0))
theorem punctualsame_Still_int_r0 (K : Nat) (w0 : World) (f0 : List Int) (A0 : Option Addr) (n0 : Nat) (c0 : Nat) (l1 : List Int) (A1 : Option Addr) (c1 : Nat) (x2 : Int) (hR0 : RdL w0 A0 f0) (hc0 : f0.length ≤ c0) (hR1 : RdL w0 A1 l1) (hL1 : l1.length ≤ c1) (hc1 : (IntKind.i64.wrap ((l1.length : Int) + 3)) = (f0.length : Int)) (s : Nat) (o : Nat ⊕ (Unit ⊕ Bool)) (h : punctualsame_Still_int.r0 f0 l1 x2 s = some o) (a : Act) (w : World) (hA : punctualsame_Still_int.A0 K w0 f0 A0 n0 c0 l1 A1 c1 x2 hR0 hc0 hR1 hL1 hc1 s a w) (Q : Exit → Act → World → Prop) (hQ : ∀ x a w, Outs (punctualsame_Still_int.A0 K w0 f0 A0 n0 c0 l1 A1 c1 x2 hR0 hc0 hR1 hL1 hc1) (punctualsame_Still_int.B0 K w0 f0 A0 n0 c0 l1 A1 c1 x2 hR0 hc0 hR1 hL1 hc1) o x a w → Q x a w) : (subF Tryd.f21 [1, 1, 0, 1, 0, 0]).wp Tryd.prog Q a w := by
  obtain ⟨i1, hs⟩ : ∃ z, z = s := ⟨s, rfl⟩
  subst hs
  obtain ⟨hS, hF⟩ := hA
  replace hS : St w0 w [] := hS
  simp only [punctualsame_Still_int.r0] at h
  refine (?_ : WE Tryd.prog 46 (subF Tryd.f21 [1, 1, 0, 1, 0, 0]) Q [(1, .slice A1 l1.length c1), (2, .int .i64 x2), (15, .slice A0 f0.length c0), (16, .int .i64 (f0.length : Int)), (17, .int .i64 (i1 : Int))] w) a hF
  clear hF a
  refine we_seq fun K5 hK5 => ?_
  refine we_region [(0, 0)] rfl ?_
  refine ge_batch [0] (ans := []) (vs := [(18, .bool (decide ((i1 : Int) < (f0.length : Int))))]) (l := []) (by kernel_rfl) trivial ?_
  refine ge_nil fun a hF => hK5 _ _ ?_ a hF
  refine we_seq fun K6 hK6 => ?_
  by_cases hc2 : (i1 : Int) < (f0.length : Int)
  · rw [if_pos hc2] at h
    refine we_known (t := 18) (b := decide ((i1 : Int) < (f0.length : Int))) (v := true) (by kernel_rfl) (decide_eq_true hc2) ?_
    refine we_true (by kernel_rfl) ?_
    refine we_skip fun a hF => hK6 _ _ ?_ a hF
    refine we_seq fun K7 hK7 => ?_
    refine we_block ?_
    refine we_seq fun K8 hK8 => ?_
    refine we_region [(0, 0), (1, 0), (2, 0), (3, 0), (4, 0)] rfl ?_
    refine ge_batch [0] (ans := []) (vs := [(19, .int .i64 (i1 : Int))]) (l := []) (by kernel_rfl) trivial ?_
    rcases hx1 : f0[i1]? with _ | e1
    · rw [hx1] at h; cases h
    rw [hx1] at h
    simp only [] at h
    refine ge_index (d := 20) (ty := 0) (t := 24) (el := 3) (sz := 1) (m := f0.length) (c := c0) (x := (.tmp 15)) (y := (.tmp 17)) (A := A0) (k' := .i64) (j := (i1 : Int)) (jn := i1) (b0 := blkOf A0) (o0 := offOf A0) (by kernel_rfl) (by kernel_rfl) (by kernel_rfl) (by kernel_rfl) (by kernel_rfl) ((hS.rd hR0).eqSome (pos_of_get hx1)) rfl (lt_of_get hx1) ?_
    refine ge_batch [2, 3, 4] (ans := [.val (.int .i64 e1)]) (vs := [(9, .int .i64 e1), (8, .int .i64 (i1 : Int)), (21, .int .i64 e1)]) (l := [.loaded ⟨blkOf A0, offOf A0 + i1 * 1, none⟩ (.int .i64 e1)]) (by kernel_rfl) ⟨RdL.cell (j := 0) (hS.rd hR0) hx1 rfl, trivial⟩ ?_
    refine ge_nil fun a hF => hK8 _ _ ?_ a hF
    refine we_seq fun K9 hK9 => ?_
    refine we_region [(0, 0), (1, 0), (2, 0), (3, 0), (4, 0), (5, 0), (6, 0), (7, 0), (8, 0), (9, 0), (10, 0), (11, 0), (12, 0), (13, 0), (14, 0), (15, 0), (16, 0), (17, 0), (18, 0), (19, 0), (20, 0), (21, 0), (22, 0)] rfl ?_
    refine ge_batch [0, 1, 2, 3, 4] (ans := []) (vs := [(26, .bool (decide ((i1 : Int) < (l1.length : Int)))), (25, .bool (decide ((i1 : Int) < (l1.length : Int)))), (24, .int .i64 (l1.length : Int)), (23, .slice A1 l1.length c1), (22, .int .i64 (i1 : Int))]) (l := []) (by kernel_rfl) trivial ?_
    by_cases hc3 : (i1 : Int) < (l1.length : Int)
    · rw [if_pos hc3] at h
      refine ge_known (t := 26) (b := decide ((i1 : Int) < (l1.length : Int))) (c := true) (by kernel_rfl) (decide_eq_true hc3) ?_
      refine ge_batch [5, 6, 7] (ans := []) (vs := [(29, .int .i64 (i1 : Int)), (28, .slice A1 l1.length c1), (27, .int .i64 e1)]) (l := []) (by kernel_rfl) trivial ?_
      rcases hx2 : l1[i1]? with _ | e2
      · rw [hx2] at h; cases h
      rw [hx2] at h
      simp only [] at h
      refine ge_index (d := 30) (ty := 0) (t := 24) (el := 3) (sz := 1) (m := l1.length) (c := c1) (x := (.tmp 28)) (y := (.tmp 29)) (A := A1) (k' := .i64) (j := (i1 : Int)) (jn := i1) (b0 := blkOf A1) (o0 := offOf A1) (by kernel_rfl) (by kernel_rfl) (by kernel_rfl) (by kernel_rfl) (by kernel_rfl) ((hS.rd hR1).eqSome (pos_of_get hx2)) rfl (lt_of_get hx2) ?_
      refine ge_batch [9, 10, 11, 12] (ans := [.val (.int .i64 e2)]) (vs := [(34, .bool (e1 != e2)), (33, .bool (e1 != e2)), (32, .bool (e1 != e2)), (31, .int .i64 e2)]) (l := [.loaded ⟨blkOf A1, offOf A1 + i1 * 1, none⟩ (.int .i64 e2)]) (by kernel_rfl) ⟨RdL.cell (j := 0) (hS.rd hR1) hx2 rfl, trivial⟩ ?_
      by_cases hc4 : e1 = e2
      · rw [if_pos hc4] at h
        refine ge_known (t := 34) (b := (e1 != e2)) (c := false) (by kernel_rfl) (bne_eq_false_iff_eq.2 hc4) ?_
        refine ge_batch [13, 14, 15, 16, 17] (ans := []) (vs := [(39, .bool (decide ((i1 : Int) ≥ (l1.length : Int)))), (38, .bool (decide ((i1 : Int) ≥ (l1.length : Int)))), (37, .int .i64 (l1.length : Int)), (36, .slice A1 l1.length c1), (35, .int .i64 (i1 : Int))]) (l := []) (by kernel_rfl) trivial ?_
        by_cases hc5 : (i1 : Int) ≥ (l1.length : Int)
        · rw [if_pos hc5] at h
          refine ge_known (t := 39) (b := decide ((i1 : Int) ≥ (l1.length : Int))) (c := true) (by kernel_rfl) (decide_eq_true hc5) ?_
          refine ge_batch [18, 19, 20, 21, 22] (ans := []) (vs := [(44, .bool (e1 != x2)), (43, .bool (e1 != x2)), (42, .bool (e1 != x2)), (41, .int .i64 x2), (40, .int .i64 e1)]) (l := []) (by kernel_rfl) trivial ?_
          refine ge_nil fun a hF => hK9 _ _ ?_ a hF
          by_cases hc6 : e1 = x2
          · rw [if_pos hc6] at h
            refine we_known (t := 44) (b := (e1 != x2)) (v := false) (by kernel_rfl) (bne_eq_false_iff_eq.2 hc6) ?_
            refine we_false (by kernel_rfl) ?_
            refine we_skip fun a hF => hK7 _ _ ?_ a hF
            refine we_region [(0, 0), (1, 0)] rfl ?_
            refine ge_addn (d := 45) (ty := 3) (x := (.tmp 17)) (y := (.const (.int .i64 1))) (t := 3) (t2 := 3) (k := .i64) (m := i1) (by kernel_rfl) (by kernel_rfl) (by kernel_rfl) (by have h0 := hR0.small; omega) ?_
            refine ge_batch [1] (ans := []) (vs := [(17, .int .i64 ((i1 + 1 : Nat) : Int))]) (l := []) (by kernel_rfl) trivial ?_
            obtain rfl := Option.some.inj h
            exact ge_nil fun a hF => hQ _ _ _ (Outs.again ⟨hS, hF.weaken ⟨by kernel_rfl, by kernel_rfl, by kernel_rfl, by kernel_rfl, by kernel_rfl, trivial⟩⟩)
          · rw [if_neg hc6] at h
            refine we_known (t := 44) (b := (e1 != x2)) (v := true) (by kernel_rfl) (bne_iff_ne.2 hc6) ?_
            refine we_true (by kernel_rfl) ?_
            refine we_seq fun K10 hK10 => ?_
            refine we_region [(0, 0)] rfl ?_
            refine ge_batch [0] (ans := []) (vs := [(6, .bool false)]) (l := []) (by kernel_rfl) trivial ?_
            refine ge_nil fun a hF => hK10 _ _ ?_ a hF
            obtain rfl := Option.some.inj h
            exact we_ret fun a hF => hQ _ _ _ (Outs.out nofun (Exits.on ⟨rfl, (post_ret (rs := [.tmp 6]) (ans := []) (vs := [.bool false]) (l := []) rfl (by kernel_rfl) trivial ⟨rfl, hS⟩) a hF⟩))
        · rw [if_neg hc5] at h
          refine ge_known (t := 39) (b := decide ((i1 : Int) ≥ (l1.length : Int))) (c := false) (by kernel_rfl) (decide_eq_false hc5) ?_
          refine ge_batch [18, 19, 20, 21, 22] (ans := []) (vs := [(44, .bool false), (43, .bool false), (42, undef), (41, undef), (40, undef)]) (l := []) (by kernel_rfl) trivial ?_
          refine ge_nil fun a hF => hK9 _ _ ?_ a hF
          refine we_false (by kernel_rfl) ?_
          refine we_skip fun a hF => hK7 _ _ ?_ a hF
          refine we_region [(0, 0), (1, 0)] rfl ?_
          refine ge_addn (d := 45) (ty := 3) (x := (.tmp 17)) (y := (.const (.int .i64 1))) (t := 3) (t2 := 3) (k := .i64) (m := i1) (by kernel_rfl) (by kernel_rfl) (by kernel_rfl) (by have h0 := hR0.small; omega) ?_
          refine ge_batch [1] (ans := []) (vs := [(17, .int .i64 ((i1 + 1 : Nat) : Int))]) (l := []) (by kernel_rfl) trivial ?_
          obtain rfl := Option.some.inj h
          exact ge_nil fun a hF => hQ _ _ _ (Outs.again ⟨hS, hF.weaken ⟨by kernel_rfl, by kernel_rfl, by kernel_rfl, by kernel_rfl, by kernel_rfl, trivial⟩⟩)
      · rw [if_neg hc4] at h
        refine ge_known (t := 34) (b := (e1 != e2)) (c := true) (by kernel_rfl) (bne_iff_ne.2 hc4) ?_
        refine ge_batch [13, 14, 15, 16, 17, 18, 19, 20, 21, 22] (ans := []) (vs := [(44, .bool true), (43, undef), (42, undef), (41, undef), (40, undef), (39, undef), (38, undef), (37, undef), (36, undef), (35, undef)]) (l := []) (by kernel_rfl) trivial ?_
        refine ge_nil fun a hF => hK9 _ _ ?_ a hF
        refine we_true (by kernel_rfl) ?_
        refine we_seq fun K11 hK11 => ?_
        refine we_region [(0, 0)] rfl ?_
        refine ge_batch [0] (ans := []) (vs := [(6, .bool false)]) (l := []) (by kernel_rfl) trivial ?_
        refine ge_nil fun a hF => hK11 _ _ ?_ a hF
        obtain rfl := Option.some.inj h
        exact we_ret fun a hF => hQ _ _ _ (Outs.out nofun (Exits.on ⟨rfl, (post_ret (rs := [.tmp 6]) (ans := []) (vs := [.bool false]) (l := []) rfl (by kernel_rfl) trivial ⟨rfl, hS⟩) a hF⟩))
    · rw [if_neg hc3] at h
      refine ge_known (t := 26) (b := decide ((i1 : Int) < (l1.length : Int))) (c := false) (by kernel_rfl) (decide_eq_false hc3) ?_
      refine ge_batch [5, 6, 7, 8, 9, 10, 11, 12, 13, 14, 15, 16, 17] (ans := []) (vs := [(39, .bool (decide ((i1 : Int) ≥ (l1.length : Int)))), (38, .bool (decide ((i1 : Int) ≥ (l1.length : Int)))), (37, .int .i64 (l1.length : Int)), (36, .slice A1 l1.length c1), (35, .int .i64 (i1 : Int)), (34, .bool false), (33, .bool false), (32, undef), (31, undef), (30, undef), (29, undef), (28, undef), (27, undef)]) (l := []) (by kernel_rfl) trivial ?_
      by_cases hc7 : (i1 : Int) ≥ (l1.length : Int)
      · rw [if_pos hc7] at h
        refine ge_known (t := 39) (b := decide ((i1 : Int) ≥ (l1.length : Int))) (c := true) (by kernel_rfl) (decide_eq_true hc7) ?_
        refine ge_batch [18, 19, 20, 21, 22] (ans := []) (vs := [(44, .bool (e1 != x2)), (43, .bool (e1 != x2)), (42, .bool (e1 != x2)), (41, .int .i64 x2), (40, .int .i64 e1)]) (l := []) (by kernel_rfl) trivial ?_
        refine ge_nil fun a hF => hK9 _ _ ?_ a hF
        by_cases hc8 : e1 = x2
        · rw [if_pos hc8] at h
          refine we_known (t := 44) (b := (e1 != x2)) (v := false) (by kernel_rfl) (bne_eq_false_iff_eq.2 hc8) ?_
          refine we_false (by kernel_rfl) ?_
          refine we_skip fun a hF => hK7 _ _ ?_ a hF
          refine we_region [(0, 0), (1, 0)] rfl ?_
          refine ge_addn (d := 45) (ty := 3) (x := (.tmp 17)) (y := (.const (.int .i64 1))) (t := 3) (t2 := 3) (k := .i64) (m := i1) (by kernel_rfl) (by kernel_rfl) (by kernel_rfl) (by have h0 := hR0.small; omega) ?_
          refine ge_batch [1] (ans := []) (vs := [(17, .int .i64 ((i1 + 1 : Nat) : Int))]) (l := []) (by kernel_rfl) trivial ?_
          obtain rfl := Option.some.inj h
          exact ge_nil fun a hF => hQ _ _ _ (Outs.again ⟨hS, hF.weaken ⟨by kernel_rfl, by kernel_rfl, by kernel_rfl, by kernel_rfl, by kernel_rfl, trivial⟩⟩)
        · rw [if_neg hc8] at h
          refine we_known (t := 44) (b := (e1 != x2)) (v := true) (by kernel_rfl) (bne_iff_ne.2 hc8) ?_
          refine we_true (by kernel_rfl) ?_
          refine we_seq fun K12 hK12 => ?_
          refine we_region [(0, 0)] rfl ?_
          refine ge_batch [0] (ans := []) (vs := [(6, .bool false)]) (l := []) (by kernel_rfl) trivial ?_
          refine ge_nil fun a hF => hK12 _ _ ?_ a hF
          obtain rfl := Option.some.inj h
          exact we_ret fun a hF => hQ _ _ _ (Outs.out nofun (Exits.on ⟨rfl, (post_ret (rs := [.tmp 6]) (ans := []) (vs := [.bool false]) (l := []) rfl (by kernel_rfl) trivial ⟨rfl, hS⟩) a hF⟩))
      · rw [if_neg hc7] at h
        refine ge_known (t := 39) (b := decide ((i1 : Int) ≥ (l1.length : Int))) (c := false) (by kernel_rfl) (decide_eq_false hc7) ?_
        refine ge_batch [18, 19, 20, 21, 22] (ans := []) (vs := [(44, .bool false), (43, .bool false), (42, undef), (41, undef), (40, undef)]) (l := []) (by kernel_rfl) trivial ?_
        refine ge_nil fun a hF => hK9 _ _ ?_ a hF
        refine we_false (by kernel_rfl) ?_
        refine we_skip fun a hF => hK7 _ _ ?_ a hF
        refine we_region [(0, 0), (1, 0)] rfl ?_
        refine ge_addn (d := 45) (ty := 3) (x := (.tmp 17)) (y := (.const (.int .i64 1))) (t := 3) (t2 := 3) (k := .i64) (m := i1) (by kernel_rfl) (by kernel_rfl) (by kernel_rfl) (by have h0 := hR0.small; omega) ?_
        refine ge_batch [1] (ans := []) (vs := [(17, .int .i64 ((i1 + 1 : Nat) : Int))]) (l := []) (by kernel_rfl) trivial ?_
        obtain rfl := Option.some.inj h
        exact ge_nil fun a hF => hQ _ _ _ (Outs.again ⟨hS, hF.weaken ⟨by kernel_rfl, by kernel_rfl, by kernel_rfl, by kernel_rfl, by kernel_rfl, trivial⟩⟩)
  · rw [if_neg hc2] at h
    refine we_known (t := 18) (b := decide ((i1 : Int) < (f0.length : Int))) (v := false) (by kernel_rfl) (decide_eq_false hc2) ?_
    refine we_false (by kernel_rfl) ?_
    obtain rfl := Option.some.inj h
    exact we_exit fun a hF => hQ _ _ _ (Outs.out nofun (Exits.here ⟨hS, hF.weaken trivial⟩))
theorem punctualsame_Still_int_ok (K : Nat) (f0 : List Int) (A0 : Option Addr) (n0 : Nat) (c0 : Nat) (l1 : List Int) (A1 : Option Addr) (c1 : Nat) (x2 : Int) (w0 : World) (hR0 : RdL w0 A0 f0) (hc0 : f0.length ≤ c0) (hR1 : RdL w0 A1 l1) (hL1 : l1.length ≤ c1) (r : Bool) (h : punctualsame_Still_int.f K f0 l1 x2 = some r) :
    Calls Tryd.prog 21 #[.slice A0 n0 c0, .slice A1 l1.length c1, .int .i64 x2] w0 (punctualsame_Still_int.Post w0 r) := by
  have hS := St.start w0
  unfold punctualsame_Still_int.f at h
  refine calls_enter (n := 46) (args := [.slice A0 n0 c0, .slice A1 l1.length c1, .int .i64 x2]) (fn := Tryd.f21) rfl rfl rfl rfl ?_
  show WE _ _ _ _ [(0, .slice A0 n0 c0), (1, .slice A1 l1.length c1), (2, .int .i64 x2)] _
  refine we_seq fun K1 hK1 => ?_
  refine we_region [(0, 0)] rfl ?_
  refine ge_batch [0] (ans := []) (vs := [(6, .bool false)]) (l := []) (by kernel_rfl) trivial ?_
  refine ge_nil fun a hF => hK1 _ _ ?_ a hF
  refine we_seq fun K2 hK2 => ?_
  refine we_region [(0, 0), (1, 0), (2, 0), (3, 0), (4, 0), (5, 0)] rfl ?_
  refine ge_batch [0, 1, 2, 3] (ans := []) (vs := [(13, .int .i64 (IntKind.i64.wrap ((l1.length : Int) + 3))), (12, .int .i64 (l1.length : Int)), (11, .slice A1 l1.length c1), (10, .slice A0 n0 c0)]) (l := []) (by kernel_rfl) trivial ?_
  by_cases hc1 : (IntKind.i64.wrap ((l1.length : Int) + 3)) = (f0.length : Int)
  · rw [if_pos hc1] at h
    refine ge_sliceHi (d := 14) (ty := 24) (t := 24) (el := 3) (sz := 1) (m := n0) (c := c0) (hn := f0.length) (x := (.tmp 10)) (y := (.tmp 13)) (A := A0) (k' := .i64) (hi := (IntKind.i64.wrap ((l1.length : Int) + 3))) (by kernel_rfl) (by kernel_rfl) (by kernel_rfl) hc1 (by kernel_rfl) (by kernel_rfl) hc0 ?_
    refine ge_batch [5] (ans := []) (vs := [(7, .slice A0 f0.length c0)]) (l := []) (by kernel_rfl) trivial ?_
    refine ge_nil fun a hF => hK2 _ _ ?_ a hF
    refine we_seq fun K3 hK3 => ?_
    refine we_seq fun K4 hK4 => ?_
    refine we_region [(0, 0), (1, 0), (2, 0)] rfl ?_
    refine ge_batch [0, 1, 2] (ans := []) (vs := [(17, .int .i64 0), (16, .int .i64 (f0.length : Int)), (15, .slice A0 f0.length c0)]) (l := []) (by kernel_rfl) trivial ?_
    refine ge_nil fun a hF => hK4 _ _ ?_ a hF
    refine we_block ?_
    rcases hq1 : iter (punctualsame_Still_int.r0 f0 l1 x2) K 0 with _ | (_ | rr1)
    · rw [hq1] at h; cases h
    · rw [hq1] at h
      simp only [] at h
      refine we_iter (A := punctualsame_Still_int.A0 K w0 f0 A0 n0 c0 l1 A1 c1 x2 hR0 hc0 hR1 hL1 hc1) (B := punctualsame_Still_int.B0 K w0 f0 A0 n0 c0 l1 A1 c1 x2 hR0 hc0 hR1 hL1 hc1) hq1 (fun a hF => ⟨hS, hF.weaken ⟨by kernel_rfl, by kernel_rfl, by kernel_rfl, by kernel_rfl, by kernel_rfl, trivial⟩⟩) (fun s o hf a w hA Q hQ => punctualsame_Still_int_r0 K w0 f0 A0 n0 c0 l1 A1 c1 x2 hR0 hc0 hR1 hL1 hc1 s o hf a w hA Q hQ) ?_
      rintro _ a w1 _ ⟨rfl, hS1, hF⟩
      replace hS1 : St w0 w1 [] := hS1
      refine hK3 [] w1 ?_ a hF
      refine we_seq fun K13 hK13 => ?_
      refine we_region [(0, 0)] rfl ?_
      refine ge_batch [0] (ans := []) (vs := [(6, .bool true)]) (l := []) (by kernel_rfl) trivial ?_
      refine ge_nil fun a hF => hK13 _ _ ?_ a hF
      obtain rfl := Option.some.inj h
      exact we_ret (post_ret (rs := [.tmp 6]) (ans := []) (vs := [.bool true]) (l := []) rfl (by kernel_rfl) trivial ⟨rfl, hS1⟩)
    · rw [hq1] at h
      simp only [] at h
      refine we_iter (A := punctualsame_Still_int.A0 K w0 f0 A0 n0 c0 l1 A1 c1 x2 hR0 hc0 hR1 hL1 hc1) (B := punctualsame_Still_int.B0 K w0 f0 A0 n0 c0 l1 A1 c1 x2 hR0 hc0 hR1 hL1 hc1) hq1 (fun a hF => ⟨hS, hF.weaken ⟨by kernel_rfl, by kernel_rfl, by kernel_rfl, by kernel_rfl, by kernel_rfl, trivial⟩⟩) (fun s o hf a w hA Q hQ => punctualsame_Still_int_r0 K w0 f0 A0 n0 c0 l1 A1 c1 x2 hR0 hc0 hR1 hL1 hc1 s o hf a w hA Q hQ) ?_
      rintro _ a w1 _ ⟨rfl, hb⟩
      obtain rfl := Option.some.inj h
      exact hb
  · rw [if_neg hc1] at h
    cases h

/-! punctual/punctualsame.Spoil[int] -/
theorem punctualsame_Spoil_int_ok (w0 w : World) {L : List Own} (A : Option Addr) (n c : Nat) (l : List Int) (hS : St w0 w (Own.of (.slice A n c) 3 l :: L)) : Calls Tryd.prog 30 #[.slice A n c] w (fun e w' => e = .returned (.tuple #[]) ∧ St w0 w' L) := by
  refine calls_enter (n := 6) (args := [.slice A n c]) (fn := Tryd.f30) rfl rfl rfl rfl ?_
  show WE _ _ _ _ [(0, .slice A n c)] _
  refine we_region [(0, 0), (1, 0), (2, 0), (3, 0), (4, 2)] rfl ?_
  refine ge_batch [0, 1, 2] (ans := []) (vs := [(4, .int .i64 (c : Int)), (3, .slice A n c), (2, .slice A n c)]) (l := []) (by kernel_rfl) trivial ?_
  refine ge_sliceHi (d := 5) (ty := 24) (t := 24) (el := 3) (sz := 1) (m := n) (c := c) (hn := c) (x := (.tmp 2)) (y := (.tmp 4)) (A := A) (k' := .i64) (hi := (c : Int)) (by kernel_rfl) (by kernel_rfl) (by kernel_rfl) rfl (by kernel_rfl) (by kernel_rfl) (Nat.le_refl _) ?_
  refine ge_clear (α := Int) (m := 0) (t := 24) (el := 3) (c := c) (k := n) (bytes := 8) (x := (.tmp 5)) (ty := 0) (A := A) (z := .int .i64 0) (l := l) (by kernel_rfl) (by kernel_rfl) (by kernel_rfl) (by kernel_rfl) rfl rfl hS fun w1 hS1 => ?_
  exact ge_nil (post_end (rs := []) (ans := []) (vs := []) (l := []) rfl (by kernel_rfl) trivial ⟨rfl, hS1⟩)

/-! punctual/punctuallaw.RedoPlays -/
abbrev RedoPlays.Post (w0 : World) (r : Bool) (e : Ending) (w : World) : Prop := e = .returned (.bool r) ∧ St w0 w []
def RedoPlays.p0 (l0 : List SJob) (l2 : List Int) (x3 : Int) : Option (Unit ⊕ Bool) :=
    if (few.f (l0.length : Int)) = true then
      if (few.f (l2.length : Int)) = true then
        if (small.f (l0.length : Int) x3) = true then
          some (.inl ())
        else
          some (.inr true)
      else
        some (.inr true)
    else
      some (.inr true)
def RedoPlays.r1 (K : Nat) (l0 : List SJob) (x1 : Int) (l2 : List Int) (x3 : Int) (r4 : SPlayed × SFault) : Nat → Option (Nat ⊕ (Unit ⊕ Bool))
  | i1 =>
    if (i1 : Int) < 2 then
      match redo_Play.f K l0 x1 l2 x3 with
      | none => none
      | some r5 =>
        if (SFault.eqb r5.2 r4.2) = true then
          match punctualsame_Played.f K r5.1.Runs r5.1.Ends r4.1.Runs r4.1.Ends with
          | none => none
          | some r6 =>
            if r6 = true then
              match punctualsame_Still_api_Job.f K (l0 ++ [(⟨(-9), 0, 0, 0, 0⟩ : SJob), (⟨(-9), 0, 0, 0, 0⟩ : SJob), (⟨(-9), 0, 0, 0, 0⟩ : SJob)]) l0 (⟨(-9), 0, 0, 0, 0⟩ : SJob) with
              | none => none
              | some r7 =>
                if r7 = true then
                  match punctualsame_Still_int.f K (l2 ++ [(-9), (-9), (-9)]) l2 (-9) with
                  | none => none
                  | some r8 =>
                    if r8 = true then
                      some (.inl (i1 + 1))
                    else
                      some (.inr (.inr false))
                else
                  some (.inr (.inr false))
            else
              some (.inr (.inr false))
        else
          some (.inr (.inr false))
    else
      some (.inr (.inl ()))
def RedoPlays.f (K : Nat) (l0 : List SJob) (x1 : Int) (l2 : List Int) (x3 : Int) : Option Bool :=
  match anew.f K with
  | none => none
  | some r1 =>
    if r1 = true then
      match RedoPlays.p0 l0 l2 x3 with
      | none => none
      | some (.inl _) =>
        match punctualsame_Lend_api_Job.f l0 (⟨(-9), 0, 0, 0, 0⟩ : SJob) with
        | none => none
        | some _ =>
          match punctualsame_Lend_int.f l2 (-9) with
          | none => none
          | some _ =>
            match punctualref_PlayAnew.f K l0 x1 l2 x3 with
            | none => none
            | some r4 =>
              match iter (RedoPlays.r1 K l0 x1 l2 x3 r4) K 0 with
              | none => none
              | some (.inl _) =>
                some true
              | some (.inr rr1) =>
                some rr1
      | some (.inr rr2) =>
        some rr2
    else
      some false
abbrev RedoPlays.A0 (K : Nat) (w0 : World) (l0 : List SJob) (A0 : Option Addr) (c0 : Nat) (x1 : Int) (l2 : List Int) (A2 : Option Addr) (c2 : Nat) (x3 : Int) (hR0 : RdL w0 A0 l0) (hL0 : l0.length ≤ c0) (hR2 : RdL w0 A2 l2) (hL2 : l2.length ≤ c2) (hG4 : Glob w0 4 [.int .i64 (-9), .int .i64 0, .int .i64 0, .int .i64 0, .int .i64 0]) (r1 : Bool) (hc1 : r1 = true) : Unit → Act → World → Prop := fun (s : Unit) a w => St w0 w [] ∧ Frm 86 a [(0, .slice A0 l0.length c0), (1, .int .i64 x1), (2, .slice A2 l2.length c2), (3, .int .i64 x3)]
abbrev RedoPlays.B0 (K : Nat) (w0 : World) (l0 : List SJob) (A0 : Option Addr) (c0 : Nat) (x1 : Int) (l2 : List Int) (A2 : Option Addr) (c2 : Nat) (x3 : Int) (hR0 : RdL w0 A0 l0) (hL0 : l0.length ≤ c0) (hR2 : RdL w0 A2 l2) (hL2 : l2.length ≤ c2) (hG4 : Glob w0 4 [.int .i64 (-9), .int .i64 0, .int .i64 0, .int .i64 0, .int .i64 0]) (r1 : Bool) (hc1 : r1 = true) : Bool → Exit → Act → World → Prop := Rets Tryd.prog Tryd.f9 (RedoPlays.Post w0)
theorem RedoPlays_p0 (K : Nat) (w0 : World) (l0 : List SJob) (A0 : Option Addr) (c0 : Nat) (x1 : Int) (l2 : List Int) (A2 : Option Addr) (c2 : Nat) (x3 : Int) (hR0 : RdL w0 A0 l0) (hL0 : l0.length ≤ c0) (hR2 : RdL w0 A2 l2) (hL2 : l2.length ≤ c2) (hG4 : Glob w0 4 [.int .i64 (-9), .int .i64 0, .int .i64 0, .int .i64 0, .int .i64 0]) (r1 : Bool) (hc1 : r1 = true) (o : Unit ⊕ Bool) (h : RedoPlays.p0 l0 l2 x3 = some o) (w : World) (hS : St w0 w []) (Q : Exit → Act → World → Prop) (hQ : ∀ x a w, Outs (RedoPlays.A0 K w0 l0 A0 c0 x1 l2 A2 c2 x3 hR0 hL0 hR2 hL2 hG4 r1 hc1) (RedoPlays.B0 K w0 l0 A0 c0 x1 l2 A2 c2 x3 hR0 hL0 hR2 hL2 hG4 r1 hc1) o x a w → Q x a w) : WE Tryd.prog 86 (subF Tryd.f9 [1, 1, 0]) Q [(0, .slice A0 l0.length c0), (1, .int .i64 x1), (2, .slice A2 l2.length c2), (3, .int .i64 x3), (8, .bool false), (15, .bool r1), (16, .bool false)] w := by
  simp only [RedoPlays.p0] at h
  refine we_seq fun K5 hK5 => ?_
  refine we_region [(0, 0), (1, 0), (2, 1), (3, 0), (4, 0), (5, 0), (6, 0), (7, 1), (8, 0), (9, 0), (10, 0), (11, 0), (12, 0), (13, 0), (14, 1), (15, 0), (16, 0)] rfl ?_
  refine ge_batch [0, 1] (ans := []) (vs := [(18, .int .i64 (l0.length : Int)), (17, .slice A0 l0.length c0)]) (l := []) (by kernel_rfl) trivial ?_
  refine ge_call (d := some 19) (f := 11) (args := #[.int .i64 (l0.length : Int)]) (by kernel_rfl) (few_ok (l0.length : Int) _ _ rfl) ?_
  rintro _ w2 ⟨rfl, hS3⟩
  refine ⟨_, rfl, hS3.below, ?_⟩
  have hS4 := hS.call hS3
  refine ge_batch [3, 4] (ans := []) (vs := [(21, .bool (!(few.f (l0.length : Int)))), (20, .bool (!(few.f (l0.length : Int))))]) (l := []) (by kernel_rfl) trivial ?_
  by_cases hc2 : (few.f (l0.length : Int)) = true
  · rw [if_pos hc2] at h
    refine ge_known (t := 21) (b := !(few.f (l0.length : Int))) (c := false) (by kernel_rfl) (congrArg (fun z => !z) hc2) ?_
    refine ge_batch [5, 6] (ans := []) (vs := [(23, .int .i64 (l2.length : Int)), (22, .slice A2 l2.length c2)]) (l := []) (by kernel_rfl) trivial ?_
    refine ge_call (d := some 24) (f := 11) (args := #[.int .i64 (l2.length : Int)]) (by kernel_rfl) (few_ok (l2.length : Int) _ _ rfl) ?_
    rintro _ w3 ⟨rfl, hS5⟩
    refine ⟨_, rfl, hS5.below, ?_⟩
    have hS6 := hS4.call hS5
    refine ge_batch [8, 9, 10] (ans := []) (vs := [(27, .bool (!(few.f (l2.length : Int)))), (26, .bool (!(few.f (l2.length : Int)))), (25, .bool (!(few.f (l2.length : Int))))]) (l := []) (by kernel_rfl) trivial ?_
    by_cases hc3 : (few.f (l2.length : Int)) = true
    · rw [if_pos hc3] at h
      refine ge_known (t := 27) (b := !(few.f (l2.length : Int))) (c := false) (by kernel_rfl) (congrArg (fun z => !z) hc3) ?_
      refine ge_batch [11, 12, 13] (ans := []) (vs := [(30, .int .i64 x3), (29, .int .i64 (l0.length : Int)), (28, .slice A0 l0.length c0)]) (l := []) (by kernel_rfl) trivial ?_
      refine ge_call (d := some 31) (f := 12) (args := #[.int .i64 (l0.length : Int), .int .i64 x3]) (by kernel_rfl) (small_ok (l0.length : Int) x3 _ _ rfl) ?_
      rintro _ w4 ⟨rfl, hS7⟩
      refine ⟨_, rfl, hS7.below, ?_⟩
      have hS8 := hS6.call hS7
      refine ge_batch [15, 16] (ans := []) (vs := [(33, .bool (!(small.f (l0.length : Int) x3))), (32, .bool (!(small.f (l0.length : Int) x3)))]) (l := []) (by kernel_rfl) trivial ?_
      refine ge_nil fun a hF => hK5 _ _ ?_ a hF
      by_cases hc4 : (small.f (l0.length : Int) x3) = true
      · rw [if_pos hc4] at h
        refine we_known (t := 33) (b := !(small.f (l0.length : Int) x3)) (v := false) (by kernel_rfl) (congrArg (fun z => !z) hc4) ?_
        refine we_false (by kernel_rfl) ?_
        obtain rfl := Option.some.inj h
        exact we_skip fun a hF => hQ _ _ _ (Outs.again ⟨hS8, hF.weaken ⟨by kernel_rfl, by kernel_rfl, by kernel_rfl, by kernel_rfl, trivial⟩⟩)
      · rw [if_neg hc4] at h
        refine we_known (t := 33) (b := !(small.f (l0.length : Int) x3)) (v := true) (by kernel_rfl) (congrArg (fun z => !z) (Bool.eq_false_iff.2 hc4)) ?_
        refine we_true (by kernel_rfl) ?_
        refine we_seq fun K6 hK6 => ?_
        refine we_region [(0, 0)] rfl ?_
        refine ge_batch [0] (ans := []) (vs := [(8, .bool true)]) (l := []) (by kernel_rfl) trivial ?_
        refine ge_nil fun a hF => hK6 _ _ ?_ a hF
        obtain rfl := Option.some.inj h
        exact we_ret fun a hF => hQ _ _ _ (Outs.out nofun ⟨rfl, (post_ret (rs := [.tmp 8]) (ans := []) (vs := [.bool true]) (l := []) rfl (by kernel_rfl) trivial ⟨rfl, hS8⟩) a hF⟩)
    · rw [if_neg hc3] at h
      refine ge_known (t := 27) (b := !(few.f (l2.length : Int))) (c := true) (by kernel_rfl) (congrArg (fun z => !z) (Bool.eq_false_iff.2 hc3)) ?_
      refine ge_batch [11, 12, 13] (ans := []) (vs := [(30, undef), (29, undef), (28, undef)]) (l := []) (by kernel_rfl) trivial ?_
      refine ge_off rfl rfl rfl (by kernel_rfl) ?_
      refine ge_batch [15, 16] (ans := []) (vs := [(33, .bool true), (32, undef)]) (l := []) (by kernel_rfl) trivial ?_
      refine ge_nil fun a hF => hK5 _ _ ?_ a hF
      refine we_true (by kernel_rfl) ?_
      refine we_seq fun K7 hK7 => ?_
      refine we_region [(0, 0)] rfl ?_
      refine ge_batch [0] (ans := []) (vs := [(8, .bool true)]) (l := []) (by kernel_rfl) trivial ?_
      refine ge_nil fun a hF => hK7 _ _ ?_ a hF
      obtain rfl := Option.some.inj h
      exact we_ret fun a hF => hQ _ _ _ (Outs.out nofun ⟨rfl, (post_ret (rs := [.tmp 8]) (ans := []) (vs := [.bool true]) (l := []) rfl (by kernel_rfl) trivial ⟨rfl, hS6⟩) a hF⟩)
  · rw [if_neg hc2] at h
    refine ge_known (t := 21) (b := !(few.f (l0.length : Int))) (c := true) (by kernel_rfl) (congrArg (fun z => !z) (Bool.eq_false_iff.2 hc2)) ?_
    refine ge_batch [5, 6] (ans := []) (vs := [(23, undef), (22, undef)]) (l := []) (by kernel_rfl) trivial ?_
    refine ge_off rfl rfl rfl (by kernel_rfl) ?_
    refine ge_batch [8, 9, 10, 11, 12, 13] (ans := []) (vs := [(30, undef), (29, undef), (28, undef), (27, .bool true), (26, .bool true), (25, undef)]) (l := []) (by kernel_rfl) trivial ?_
    refine ge_off rfl rfl rfl (by kernel_rfl) ?_
    refine ge_batch [15, 16] (ans := []) (vs := [(33, .bool true), (32, undef)]) (l := []) (by kernel_rfl) trivial ?_
    refine ge_nil fun a hF => hK5 _ _ ?_ a hF
    refine we_true (by kernel_rfl) ?_
    refine we_seq fun K8 hK8 => ?_
    refine we_region [(0, 0)] rfl ?_
    refine ge_batch [0] (ans := []) (vs := [(8, .bool true)]) (l := []) (by kernel_rfl) trivial ?_
    refine ge_nil fun a hF => hK8 _ _ ?_ a hF
    obtain rfl := Option.some.inj h
    exact we_ret fun a hF => hQ _ _ _ (Outs.out nofun ⟨rfl, (post_ret (rs := [.tmp 8]) (ans := []) (vs := [.bool true]) (l := []) rfl (by kernel_rfl) trivial ⟨rfl, hS4⟩) a hF⟩)
abbrev RedoPlays.A1 (K : Nat) (w0 : World) (l0 : List SJob) (A0 : Option Addr) (c0 : Nat) (x1 : Int) (l2 : List Int) (A2 : Option Addr) (c2 : Nat) (x3 : Int) (hR0 : RdL w0 A0 l0) (hL0 : l0.length ≤ c0) (hR2 : RdL w0 A2 l2) (hL2 : l2.length ≤ c2) (hG4 : Glob w0 4 [.int .i64 (-9), .int .i64 0, .int .i64 0, .int .i64 0, .int .i64 0]) (r1 : Bool) (hc1 : r1 = true) (Z1 : Option Addr) (cz1 : Nat) (hcp1 : (l0 ++ [(⟨(-9), 0, 0, 0, 0⟩ : SJob), (⟨(-9), 0, 0, 0, 0⟩ : SJob), (⟨(-9), 0, 0, 0, 0⟩ : SJob)]).length ≤ cz1) (Z2 : Option Addr) (cz2 : Nat) (hcp2 : (l2 ++ [(-9), (-9), (-9)]).length ≤ cz2) (r4 : SPlayed × SFault) (b1 : Nat) (b2 : Nat) (Z3 : Option Addr) (cz3 : Nat) (Z4 : Option Addr) (cz4 : Nat) : Nat → Act → World → Prop := fun (s : Nat) a w => St w0 w [Own.blk b2 (.cells #[.int .i64 r4.2.Code, .int .i64 r4.2.At] 39 (0, 0)), Own.blk b1 (.cells #[(.slice Z3 r4.1.Runs.length cz3), (.slice Z4 r4.1.Ends.length cz4)] 36 (0, 0)), Own.of (.slice Z1 (l0 ++ [(⟨(-9), 0, 0, 0, 0⟩ : SJob), (⟨(-9), 0, 0, 0, 0⟩ : SJob), (⟨(-9), 0, 0, 0, 0⟩ : SJob)]).length cz1) 58 (l0 ++ [(⟨(-9), 0, 0, 0, 0⟩ : SJob), (⟨(-9), 0, 0, 0, 0⟩ : SJob), (⟨(-9), 0, 0, 0, 0⟩ : SJob)]), Own.of (.slice Z2 (l2 ++ [(-9), (-9), (-9)]).length cz2) 3 (l2 ++ [(-9), (-9), (-9)]), Own.of (.slice Z3 r4.1.Runs.length cz3) 3 r4.1.Runs, Own.of (.slice Z4 r4.1.Ends.length cz4) 3 r4.1.Ends] ∧ Frm 86 a [(0, .slice A0 l0.length c0), (1, .int .i64 x1), (2, .slice A2 l2.length c2), (3, .int .i64 x3), (9, .slice Z1 l0.length cz1), (10, .slice Z2 l2.length cz2), (11, .pointer (some ⟨b1, 0, none⟩)), (12, .pointer (some ⟨b2, 0, none⟩)), (47, .int .i64 (s : Int))]
abbrev RedoPlays.B1 (K : Nat) (w0 : World) (l0 : List SJob) (A0 : Option Addr) (c0 : Nat) (x1 : Int) (l2 : List Int) (A2 : Option Addr) (c2 : Nat) (x3 : Int) (hR0 : RdL w0 A0 l0) (hL0 : l0.length ≤ c0) (hR2 : RdL w0 A2 l2) (hL2 : l2.length ≤ c2) (hG4 : Glob w0 4 [.int .i64 (-9), .int .i64 0, .int .i64 0, .int .i64 0, .int .i64 0]) (r1 : Bool) (hc1 : r1 = true) (Z1 : Option Addr) (cz1 : Nat) (hcp1 : (l0 ++ [(⟨(-9), 0, 0, 0, 0⟩ : SJob), (⟨(-9), 0, 0, 0, 0⟩ : SJob), (⟨(-9), 0, 0, 0, 0⟩ : SJob)]).length ≤ cz1) (Z2 : Option Addr) (cz2 : Nat) (hcp2 : (l2 ++ [(-9), (-9), (-9)]).length ≤ cz2) (r4 : SPlayed × SFault) (b1 : Nat) (b2 : Nat) (Z3 : Option Addr) (cz3 : Nat) (Z4 : Option Addr) (cz4 : Nat) : (Unit ⊕ Bool) → Exit → Act → World → Prop := Exits 0 (fun (s : Unit) a w => St w0 w [] ∧ Frm 86 a []) (Rets Tryd.prog Tryd.f9 (RedoPlays.Post w0))
theorem RedoPlays_r1 (K : Nat) (w0 : World) (l0 : List SJob) (A0 : Option Addr) (c0 : Nat) (x1 : Int) (l2 : List Int) (A2 : Option Addr) (c2 : Nat) (x3 : Int) (hR0 : RdL w0 A0 l0) (hL0 : l0.length ≤ c0) (hR2 : RdL w0 A2 l2) (hL2 : l2.length ≤ c2) (hG4 : Glob w0 4 [.int .i64 (-9), .int .i64 0, .int .i64 0, .int .i64 0, .int .i64 0]) (r1 : Bool) (hc1 : r1 = true) (Z1 : Option Addr) (cz1 : Nat) (hcp1 : (l0 ++ [(⟨(-9), 0, 0, 0, 0⟩ : SJob), (⟨(-9), 0, 0, 0, 0⟩ : SJob), (⟨(-9), 0, 0, 0, 0⟩ : SJob)]).length ≤ cz1) (Z2 : Option Addr) (cz2 : Nat) (hcp2 : (l2 ++ [(-9), (-9), (-9)]).length ≤ cz2) (r4 : SPlayed × SFault) (b1 : Nat) (b2 : Nat) (Z3 : Option Addr) (cz3 : Nat) (Z4 : Option Addr) (cz4 : Nat) (s : Nat) (o : Nat ⊕ (Unit ⊕ Bool)) (h : RedoPlays.r1 K l0 x1 l2 x3 r4 s = some o) (a : Act) (w : World) (hA : RedoPlays.A1 K w0 l0 A0 c0 x1 l2 A2 c2 x3 hR0 hL0 hR2 hL2 hG4 r1 hc1 Z1 cz1 hcp1 Z2 cz2 hcp2 r4 b1 b2 Z3 cz3 Z4 cz4 s a w) (Q : Exit → Act → World → Prop) (hQ : ∀ x a w, Outs (RedoPlays.A1 K w0 l0 A0 c0 x1 l2 A2 c2 x3 hR0 hL0 hR2 hL2 hG4 r1 hc1 Z1 cz1 hcp1 Z2 cz2 hcp2 r4 b1 b2 Z3 cz3 Z4 cz4) (RedoPlays.B1 K w0 l0 A0 c0 x1 l2 A2 c2 x3 hR0 hL0 hR2 hL2 hG4 r1 hc1 Z1 cz1 hcp1 Z2 cz2 hcp2 r4 b1 b2 Z3 cz3 Z4 cz4) o x a w → Q x a w) : (subF Tryd.f9 [1, 1, 1, 1, 1, 0, 1, 0, 0]).wp Tryd.prog Q a w := by
  obtain ⟨i1, hs⟩ : ∃ z, z = s := ⟨s, rfl⟩
  subst hs
  obtain ⟨hS, hF⟩ := hA
  replace hS : St w0 w [Own.blk b2 (.cells #[.int .i64 r4.2.Code, .int .i64 r4.2.At] 39 (0, 0)), Own.blk b1 (.cells #[(.slice Z3 r4.1.Runs.length cz3), (.slice Z4 r4.1.Ends.length cz4)] 36 (0, 0)), Own.of (.slice Z1 (l0 ++ [(⟨(-9), 0, 0, 0, 0⟩ : SJob), (⟨(-9), 0, 0, 0, 0⟩ : SJob), (⟨(-9), 0, 0, 0, 0⟩ : SJob)]).length cz1) 58 (l0 ++ [(⟨(-9), 0, 0, 0, 0⟩ : SJob), (⟨(-9), 0, 0, 0, 0⟩ : SJob), (⟨(-9), 0, 0, 0, 0⟩ : SJob)]), Own.of (.slice Z2 (l2 ++ [(-9), (-9), (-9)]).length cz2) 3 (l2 ++ [(-9), (-9), (-9)]), Own.of (.slice Z3 r4.1.Runs.length cz3) 3 r4.1.Runs, Own.of (.slice Z4 r4.1.Ends.length cz4) 3 r4.1.Ends] := hS
  simp only [RedoPlays.r1] at h
  refine (?_ : WE Tryd.prog 86 (subF Tryd.f9 [1, 1, 1, 1, 1, 0, 1, 0, 0]) Q [(0, .slice A0 l0.length c0), (1, .int .i64 x1), (2, .slice A2 l2.length c2), (3, .int .i64 x3), (9, .slice Z1 l0.length cz1), (10, .slice Z2 l2.length cz2), (11, .pointer (some ⟨b1, 0, none⟩)), (12, .pointer (some ⟨b2, 0, none⟩)), (47, .int .i64 (i1 : Int))] w) a hF
  clear hF a
  refine we_seq fun K13 hK13 => ?_
  refine we_region [(0, 0)] rfl ?_
  refine ge_batch [0] (ans := []) (vs := [(48, .bool (decide ((i1 : Int) < 2)))]) (l := []) (by kernel_rfl) trivial ?_
  refine ge_nil fun a hF => hK13 _ _ ?_ a hF
  refine we_seq fun K14 hK14 => ?_
  by_cases hc5 : (i1 : Int) < 2
  · rw [if_pos hc5] at h
    refine we_known (t := 48) (b := decide ((i1 : Int) < 2)) (v := true) (by kernel_rfl) (decide_eq_true hc5) ?_
    refine we_true (by kernel_rfl) ?_
    refine we_skip fun a hF => hK14 _ _ ?_ a hF
    refine we_seq fun K15 hK15 => ?_
    refine we_block ?_
    refine we_seq fun K16 hK16 => ?_
    refine we_region [(0, 0), (1, 0), (2, 0), (3, 0), (4, 1), (5, 0), (6, 0), (7, 0), (8, 1), (9, 1), (10, 2), (11, 2)] rfl ?_
    rcases hq9 : redo_Play.f K l0 x1 l2 x3 with _ | r5
    · rw [hq9] at h; cases h
    rw [hq9] at h
    simp only [] at h
    refine ge_batch [0, 1, 2, 3] (ans := []) (vs := [(53, .int .i64 x3), (52, .slice Z2 l2.length cz2), (51, .int .i64 x1), (50, .slice Z1 l0.length cz1)]) (l := []) (by kernel_rfl) trivial ?_
    refine ge_call (d := some 54) (f := 69) (args := #[.slice Z1 l0.length cz1, .int .i64 x1, .slice Z2 l2.length cz2, .int .i64 x3]) (by kernel_rfl) (redo_Play_ok K l0 Z1 cz1 x1 l2 Z2 cz2 x3 _ ((hS.rdAt 2 rfl).pre) (by have h0 := hcp1; simp only [List.length_append, List.length_cons, List.length_nil] at h0; omega) ((hS.rdAt 3 rfl).pre) (by have h0 := hcp2; simp only [List.length_append, List.length_cons, List.length_nil] at h0; omega) _ hq9) ?_
    rintro _ w13 ⟨v3, v4, rfl, hS30⟩
    refine ⟨_, rfl, hS30.below, ?_⟩
    have hS31 := hS.call hS30
    refine ge_batch [5, 6, 7] (ans := []) (vs := [(56, .agg #[.int .i64 r5.2.Code, .int .i64 r5.2.At]), (55, .agg #[v3, v4]), (49, .tuple #[.agg #[v3, v4], .agg #[.int .i64 r5.2.Code, .int .i64 r5.2.At]])]) (l := []) (by kernel_rfl) trivial ?_
    refine ge_new (d := some 13) (o := .cells #[.slice none 0 0, .slice none 0 0] 36) (v := fun b => .pointer (some ⟨b, 0, none⟩)) hS31 (fun b => by kernel_rfl) fun b3 w14 hx3 hS32 => ?_
    refine ge_new (d := some 14) (o := .cells #[.int .i64 0, .int .i64 0] 39) (v := fun b => .pointer (some ⟨b, 0, none⟩)) hS32 (fun b => by kernel_rfl) fun b4 w15 hx4 hS33 => ?_
    obtain ⟨Z5, cz5, rfl⟩ := hS33.open 2 rfl
    obtain ⟨Z6, cz6, rfl⟩ := hS33.open 3 rfl
    have hS34 := hS33.bring 1 rfl
    refine ge_set (b := b3) (j := 0) (cs := #[.slice none 0 0, .slice none 0 0]) (t := 36) (vs := [(.slice Z5 r5.1.Runs.length cz5), (.slice Z6 r5.1.Ends.length cz6)]) hS34 (by kernel_rfl) rfl rfl fun w16 hS35 => ?_
    have hS36 : St w0 w16 [Own.blk b3 (.cells #[(.slice Z5 r5.1.Runs.length cz5), (.slice Z6 r5.1.Ends.length cz6)] 36 (0, 0)), Own.blk b4 (.cells #[.int .i64 0, .int .i64 0] 39 (0, 0)), Own.of (.slice Z5 r5.1.Runs.length cz5) 3 r5.1.Runs, Own.of (.slice Z6 r5.1.Ends.length cz6) 3 r5.1.Ends, Own.blk b2 (.cells #[.int .i64 r4.2.Code, .int .i64 r4.2.At] 39 (0, 0)), Own.blk b1 (.cells #[(.slice Z3 r4.1.Runs.length cz3), (.slice Z4 r4.1.Ends.length cz4)] 36 (0, 0)), Own.of (.slice Z1 (l0 ++ [(⟨(-9), 0, 0, 0, 0⟩ : SJob), (⟨(-9), 0, 0, 0, 0⟩ : SJob), (⟨(-9), 0, 0, 0, 0⟩ : SJob)]).length cz1) 58 (l0 ++ [(⟨(-9), 0, 0, 0, 0⟩ : SJob), (⟨(-9), 0, 0, 0, 0⟩ : SJob), (⟨(-9), 0, 0, 0, 0⟩ : SJob)]), Own.of (.slice Z2 (l2 ++ [(-9), (-9), (-9)]).length cz2) 3 (l2 ++ [(-9), (-9), (-9)]), Own.of (.slice Z3 r4.1.Runs.length cz3) 3 r4.1.Runs, Own.of (.slice Z4 r4.1.Ends.length cz4) 3 r4.1.Ends] := hS35
    have hS37 := hS36.bring 1 rfl
    refine ge_set (b := b4) (j := 0) (cs := #[.int .i64 0, .int .i64 0]) (t := 39) (vs := [.int .i64 r5.2.Code, .int .i64 r5.2.At]) hS37 (by kernel_rfl) rfl rfl fun w17 hS38 => ?_
    have hS39 : St w0 w17 [Own.blk b4 (.cells #[.int .i64 r5.2.Code, .int .i64 r5.2.At] 39 (0, 0)), Own.blk b3 (.cells #[(.slice Z5 r5.1.Runs.length cz5), (.slice Z6 r5.1.Ends.length cz6)] 36 (0, 0)), Own.of (.slice Z5 r5.1.Runs.length cz5) 3 r5.1.Runs, Own.of (.slice Z6 r5.1.Ends.length cz6) 3 r5.1.Ends, Own.blk b2 (.cells #[.int .i64 r4.2.Code, .int .i64 r4.2.At] 39 (0, 0)), Own.blk b1 (.cells #[(.slice Z3 r4.1.Runs.length cz3), (.slice Z4 r4.1.Ends.length cz4)] 36 (0, 0)), Own.of (.slice Z1 (l0 ++ [(⟨(-9), 0, 0, 0, 0⟩ : SJob), (⟨(-9), 0, 0, 0, 0⟩ : SJob), (⟨(-9), 0, 0, 0, 0⟩ : SJob)]).length cz1) 58 (l0 ++ [(⟨(-9), 0, 0, 0, 0⟩ : SJob), (⟨(-9), 0, 0, 0, 0⟩ : SJob), (⟨(-9), 0, 0, 0, 0⟩ : SJob)]), Own.of (.slice Z2 (l2 ++ [(-9), (-9), (-9)]).length cz2) 3 (l2 ++ [(-9), (-9), (-9)]), Own.of (.slice Z3 r4.1.Runs.length cz3) 3 r4.1.Runs, Own.of (.slice Z4 r4.1.Ends.length cz4) 3 r4.1.Ends] := hS38
    refine ge_nil fun a hF => hK16 _ _ ?_ a hF
    refine we_seq fun K17 hK17 => ?_
    refine we_seq fun K18 hK18 => ?_
    refine we_region [(0, 0), (1, 0), (2, 0), (3, 0), (4, 0), (5, 0), (6, 1), (7, 0), (8, 0), (9, 0), (10, 0), (11, 0), (12, 0), (13, 1), (14, 0), (15, 0), (16, 0), (17, 0), (18, 0), (19, 1), (20, 0), (21, 0)] rfl ?_
    refine ge_batch [0, 1] (ans := [.val (.int .i64 r5.2.Code), .val (.int .i64 r5.2.At), .val (.int .i64 r4.2.Code), .val (.int .i64 r4.2.At)]) (vs := [(58, .agg #[.int .i64 r4.2.Code, .int .i64 r4.2.At]), (57, .agg #[.int .i64 r5.2.Code, .int .i64 r5.2.At])]) (l := [.loaded ⟨b4, 0, none⟩ (.int .i64 r5.2.Code), .loaded ⟨b4, 1, none⟩ (.int .i64 r5.2.At), .loaded ⟨b2, 0, none⟩ (.int .i64 r4.2.Code), .loaded ⟨b2, 1, none⟩ (.int .i64 r4.2.At)]) (by kernel_rfl) ⟨hS39.cell 0 rfl rfl, hS39.cell 0 rfl rfl, hS39.cell 4 rfl rfl, hS39.cell 4 rfl rfl, trivial⟩ ?_
    refine ge_eqs (d := 59) (ty := 4) (op := .neq) (x := (.tmp 57)) (y := (.tmp 58)) (t := 39) (t2 := 39) (xs := #[.int .i64 r5.2.Code, .int .i64 r5.2.At]) (ys := #[.int .i64 r4.2.Code, .int .i64 r4.2.At]) (r := (SFault.eqb r5.2 r4.2)) (v := !(SFault.eqb r5.2 r4.2)) (by kernel_rfl) (by kernel_rfl) (by kernel_rfl) (by kernel_rfl) (by kernel_rfl) rfl ?_
    refine ge_batch [3] (ans := []) (vs := [(60, .bool (!(SFault.eqb r5.2 r4.2)))]) (l := []) (by kernel_rfl) trivial ?_
    by_cases hc6 : (SFault.eqb r5.2 r4.2) = true
    · rw [if_pos hc6] at h
      refine ge_known (t := 60) (b := !(SFault.eqb r5.2 r4.2)) (c := false) (by kernel_rfl) (congrArg (fun z => !z) hc6) ?_
      rcases hq10 : punctualsame_Played.f K r5.1.Runs r5.1.Ends r4.1.Runs r4.1.Ends with _ | r6
      · rw [hq10] at h; cases h
      rw [hq10] at h
      simp only [] at h
      refine ge_batch [4, 5] (ans := [.val ((.slice Z5 r5.1.Runs.length cz5)), .val ((.slice Z6 r5.1.Ends.length cz6)), .val ((.slice Z3 r4.1.Runs.length cz3)), .val ((.slice Z4 r4.1.Ends.length cz4))]) (vs := [(62, .agg #[(.slice Z3 r4.1.Runs.length cz3), (.slice Z4 r4.1.Ends.length cz4)]), (61, .agg #[(.slice Z5 r5.1.Runs.length cz5), (.slice Z6 r5.1.Ends.length cz6)])]) (l := [.loaded ⟨b3, 0, none⟩ ((.slice Z5 r5.1.Runs.length cz5)), .loaded ⟨b3, 1, none⟩ ((.slice Z6 r5.1.Ends.length cz6)), .loaded ⟨b1, 0, none⟩ ((.slice Z3 r4.1.Runs.length cz3)), .loaded ⟨b1, 1, none⟩ ((.slice Z4 r4.1.Ends.length cz4))]) (by kernel_rfl) ⟨hS39.cell 1 rfl rfl, hS39.cell 1 rfl rfl, hS39.cell 5 rfl rfl, hS39.cell 5 rfl rfl, trivial⟩ ?_
      refine ge_call (d := some 63) (f := 18) (args := #[.agg #[(.slice Z5 r5.1.Runs.length cz5), (.slice Z6 r5.1.Ends.length cz6)], .agg #[(.slice Z3 r4.1.Runs.length cz3), (.slice Z4 r4.1.Ends.length cz4)]]) (by kernel_rfl) (punctualsame_Played_ok K r5.1.Runs Z5 cz5 r5.1.Ends Z6 cz6 r4.1.Runs Z3 cz3 r4.1.Ends Z4 cz4 _ (hS39.rdAt 2 rfl) (hS39.capAt 2 rfl) (hS39.rdAt 3 rfl) (hS39.capAt 3 rfl) (hS39.rdAt 8 rfl) (hS39.capAt 8 rfl) (hS39.rdAt 9 rfl) (hS39.capAt 9 rfl) _ hq10) ?_
      rintro _ w18 ⟨rfl, hS40⟩
      refine ⟨_, rfl, hS40.below, ?_⟩
      have hS41 := hS39.call hS40
      refine ge_batch [7, 8, 9] (ans := []) (vs := [(66, .bool (!r6)), (65, .bool (!r6)), (64, .bool (!r6))]) (l := []) (by kernel_rfl) trivial ?_
      by_cases hc7 : r6 = true
      · rw [if_pos hc7] at h
        refine ge_known (t := 66) (b := !r6) (c := false) (by kernel_rfl) (congrArg (fun z => !z) hc7) ?_
        refine ge_batch [10, 11, 12] (ans := [.val (.int .i64 (-9)), .val (.int .i64 0), .val (.int .i64 0), .val (.int .i64 0), .val (.int .i64 0)]) (vs := [(69, .agg #[.int .i64 (-9), .int .i64 0, .int .i64 0, .int .i64 0, .int .i64 0]), (68, .slice A0 l0.length c0), (67, .slice Z1 l0.length cz1)]) (l := [.loaded ⟨4, 0, none⟩ (.int .i64 (-9)), .loaded ⟨4, 1, none⟩ (.int .i64 0), .loaded ⟨4, 2, none⟩ (.int .i64 0), .loaded ⟨4, 3, none⟩ (.int .i64 0), .loaded ⟨4, 4, none⟩ (.int .i64 0)]) (by kernel_rfl) ⟨hS41.glob hG4 rfl, hS41.glob hG4 rfl, hS41.glob hG4 rfl, hS41.glob hG4 rfl, hS41.glob hG4 rfl, trivial⟩ ?_
        rcases hq11 : punctualsame_Still_api_Job.f K (l0 ++ [(⟨(-9), 0, 0, 0, 0⟩ : SJob), (⟨(-9), 0, 0, 0, 0⟩ : SJob), (⟨(-9), 0, 0, 0, 0⟩ : SJob)]) l0 (⟨(-9), 0, 0, 0, 0⟩ : SJob) with _ | r7
        · rw [hq11] at h; cases h
        rw [hq11] at h
        simp only [] at h
        refine ge_call (d := some 70) (f := 33) (args := #[.slice Z1 l0.length cz1, .slice A0 l0.length c0, .agg #[.int .i64 (-9), .int .i64 0, .int .i64 0, .int .i64 0, .int .i64 0]]) (by kernel_rfl) (punctualsame_Still_api_Job_ok K (l0 ++ [(⟨(-9), 0, 0, 0, 0⟩ : SJob), (⟨(-9), 0, 0, 0, 0⟩ : SJob), (⟨(-9), 0, 0, 0, 0⟩ : SJob)]) Z1 l0.length cz1 l0 A0 c0 (⟨(-9), 0, 0, 0, 0⟩ : SJob) _ (hS41.rdAt 6 rfl) hcp1 (hS41.rd hR0) hL0 _ hq11) ?_
        rintro _ w19 ⟨rfl, hS42⟩
        refine ⟨_, rfl, hS42.below, ?_⟩
        have hS43 := hS41.call hS42
        refine ge_batch [14, 15, 16] (ans := []) (vs := [(73, .bool (!r7)), (72, .bool (!r7)), (71, .bool (!r7))]) (l := []) (by kernel_rfl) trivial ?_
        by_cases hc8 : r7 = true
        · rw [if_pos hc8] at h
          refine ge_known (t := 73) (b := !r7) (c := false) (by kernel_rfl) (congrArg (fun z => !z) hc8) ?_
          refine ge_batch [17, 18] (ans := []) (vs := [(75, .slice A2 l2.length c2), (74, .slice Z2 l2.length cz2)]) (l := []) (by kernel_rfl) trivial ?_
          rcases hq12 : punctualsame_Still_int.f K (l2 ++ [(-9), (-9), (-9)]) l2 (-9) with _ | r8
          · rw [hq12] at h; cases h
          rw [hq12] at h
          simp only [] at h
          refine ge_call (d := some 76) (f := 21) (args := #[.slice Z2 l2.length cz2, .slice A2 l2.length c2, .int .i64 (-9)]) (by kernel_rfl) (punctualsame_Still_int_ok K (l2 ++ [(-9), (-9), (-9)]) Z2 l2.length cz2 l2 A2 c2 (-9) _ (hS43.rdAt 7 rfl) hcp2 (hS43.rd hR2) hL2 _ hq12) ?_
          rintro _ w20 ⟨rfl, hS44⟩
          refine ⟨_, rfl, hS44.below, ?_⟩
          have hS45 := hS43.call hS44
          refine ge_batch [20, 21] (ans := []) (vs := [(78, .bool (!r8)), (77, .bool (!r8))]) (l := []) (by kernel_rfl) trivial ?_
          refine ge_nil fun a hF => hK18 _ _ ?_ a hF
          by_cases hc9 : r8 = true
          · rw [if_pos hc9] at h
            refine we_known (t := 78) (b := !r8) (v := false) (by kernel_rfl) (congrArg (fun z => !z) hc9) ?_
            refine we_false (by kernel_rfl) ?_
            refine we_skip fun a hF => hK17 _ _ ?_ a hF
            refine we_seq fun K19 hK19 => ?_
            refine we_region [(0, 0), (1, 0), (2, 2)] rfl ?_
            refine ge_batch [0, 1] (ans := [.val ((.slice Z5 r5.1.Runs.length cz5))]) (vs := [(80, (.slice Z5 r5.1.Runs.length cz5)), (79, .pointer (some ⟨b3, 0, none⟩))]) (l := [.loaded ⟨b3, 0, none⟩ ((.slice Z5 r5.1.Runs.length cz5))]) (by kernel_rfl) ⟨hS45.cell 1 rfl rfl, trivial⟩ ?_
            have hS46 := hS45.bring 2 rfl
            refine ge_call2 (m := 0) (d := some 81) (f := 30) (args := #[.slice Z5 r5.1.Runs.length cz5]) (by kernel_rfl) (punctualsame_Spoil_int_ok _ _ Z5 r5.1.Runs.length cz5 _ hS46) ?_
            rintro _ w21 ⟨rfl, hS47⟩
            refine ⟨_, rfl, ?_⟩
            refine ge_nil fun a hF => hK19 _ _ ?_ a hF
            refine we_region [(0, 0), (1, 0), (2, 2)] rfl ?_
            refine ge_batch [0, 1] (ans := [.val ((.slice Z6 r5.1.Ends.length cz6))]) (vs := [(83, (.slice Z6 r5.1.Ends.length cz6)), (82, .pointer (some ⟨b3, 1, none⟩))]) (l := [.loaded ⟨b3, 1, none⟩ ((.slice Z6 r5.1.Ends.length cz6))]) (by kernel_rfl) ⟨hS47.cell 1 rfl rfl, trivial⟩ ?_
            have hS48 := hS47.bring 2 rfl
            refine ge_call2 (m := 0) (d := some 84) (f := 30) (args := #[.slice Z6 r5.1.Ends.length cz6]) (by kernel_rfl) (punctualsame_Spoil_int_ok _ _ Z6 r5.1.Ends.length cz6 _ hS48) ?_
            rintro _ w22 ⟨rfl, hS49⟩
            refine ⟨_, rfl, ?_⟩
            refine ge_nil fun a hF => hK15 _ _ ?_ a hF
            refine we_region [(0, 0), (1, 0)] rfl ?_
            refine ge_addn (d := 85) (ty := 3) (x := (.tmp 47)) (y := (.const (.int .i64 1))) (t := 3) (t2 := 3) (k := .i64) (m := i1) (by kernel_rfl) (by kernel_rfl) (by kernel_rfl) (by omega) ?_
            refine ge_batch [1] (ans := []) (vs := [(47, .int .i64 ((i1 + 1 : Nat) : Int))]) (l := []) (by kernel_rfl) trivial ?_
            have hS50 := hS49.bring 7 rfl
            have hS51 := hS50.bring 7 rfl
            have hS52 := hS51.bring 7 rfl
            have hS53 := hS52.bring 7 rfl
            have hS54 := hS53.bring 7 rfl
            have hS55 := hS54.bring 7 rfl
            have hS56 := hS55.takeN 6
            obtain rfl := Option.some.inj h
            exact ge_nil fun a hF => hQ _ _ _ (Outs.again ⟨hS56, hF.weaken ⟨by kernel_rfl, by kernel_rfl, by kernel_rfl, by kernel_rfl, by kernel_rfl, by kernel_rfl, by kernel_rfl, by kernel_rfl, by kernel_rfl, trivial⟩⟩)
          · rw [if_neg hc9] at h
            refine we_known (t := 78) (b := !r8) (v := true) (by kernel_rfl) (congrArg (fun z => !z) (Bool.eq_false_iff.2 hc9)) ?_
            refine we_true (by kernel_rfl) ?_
            refine we_seq fun K20 hK20 => ?_
            refine we_region [(0, 0)] rfl ?_
            refine ge_batch [0] (ans := []) (vs := [(8, .bool false)]) (l := []) (by kernel_rfl) trivial ?_
            refine ge_nil fun a hF => hK20 _ _ ?_ a hF
            have hS57 := hS45.takeN 0
            obtain rfl := Option.some.inj h
            exact we_ret fun a hF => hQ _ _ _ (Outs.out nofun (Exits.on ⟨rfl, (post_ret (rs := [.tmp 8]) (ans := []) (vs := [.bool false]) (l := []) rfl (by kernel_rfl) trivial ⟨rfl, hS57⟩) a hF⟩))
        · rw [if_neg hc8] at h
          refine ge_known (t := 73) (b := !r7) (c := true) (by kernel_rfl) (congrArg (fun z => !z) (Bool.eq_false_iff.2 hc8)) ?_
          refine ge_batch [17, 18] (ans := []) (vs := [(75, undef), (74, undef)]) (l := []) (by kernel_rfl) trivial ?_
          refine ge_off rfl rfl rfl (by kernel_rfl) ?_
          refine ge_batch [20, 21] (ans := []) (vs := [(78, .bool true), (77, undef)]) (l := []) (by kernel_rfl) trivial ?_
          refine ge_nil fun a hF => hK18 _ _ ?_ a hF
          refine we_true (by kernel_rfl) ?_
          refine we_seq fun K21 hK21 => ?_
          refine we_region [(0, 0)] rfl ?_
          refine ge_batch [0] (ans := []) (vs := [(8, .bool false)]) (l := []) (by kernel_rfl) trivial ?_
          refine ge_nil fun a hF => hK21 _ _ ?_ a hF
          have hS58 := hS43.takeN 0
          obtain rfl := Option.some.inj h
          exact we_ret fun a hF => hQ _ _ _ (Outs.out nofun (Exits.on ⟨rfl, (post_ret (rs := [.tmp 8]) (ans := []) (vs := [.bool false]) (l := []) rfl (by kernel_rfl) trivial ⟨rfl, hS58⟩) a hF⟩))
      · rw [if_neg hc7] at h
        refine ge_known (t := 66) (b := !r6) (c := true) (by kernel_rfl) (congrArg (fun z => !z) (Bool.eq_false_iff.2 hc7)) ?_
        refine ge_batch [10, 11, 12] (ans := []) (vs := [(69, undef), (68, undef), (67, undef)]) (l := []) (by kernel_rfl) trivial ?_
        refine ge_off rfl rfl rfl (by kernel_rfl) ?_
        refine ge_batch [14, 15, 16, 17, 18] (ans := []) (vs := [(75, undef), (74, undef), (73, .bool true), (72, .bool true), (71, undef)]) (l := []) (by kernel_rfl) trivial ?_
        refine ge_off rfl rfl rfl (by kernel_rfl) ?_
        refine ge_batch [20, 21] (ans := []) (vs := [(78, .bool true), (77, undef)]) (l := []) (by kernel_rfl) trivial ?_
        refine ge_nil fun a hF => hK18 _ _ ?_ a hF
        refine we_true (by kernel_rfl) ?_
        refine we_seq fun K22 hK22 => ?_
        refine we_region [(0, 0)] rfl ?_
        refine ge_batch [0] (ans := []) (vs := [(8, .bool false)]) (l := []) (by kernel_rfl) trivial ?_
        refine ge_nil fun a hF => hK22 _ _ ?_ a hF
        have hS59 := hS41.takeN 0
        obtain rfl := Option.some.inj h
        exact we_ret fun a hF => hQ _ _ _ (Outs.out nofun (Exits.on ⟨rfl, (post_ret (rs := [.tmp 8]) (ans := []) (vs := [.bool false]) (l := []) rfl (by kernel_rfl) trivial ⟨rfl, hS59⟩) a hF⟩))
    · rw [if_neg hc6] at h
      refine ge_known (t := 60) (b := !(SFault.eqb r5.2 r4.2)) (c := true) (by kernel_rfl) (congrArg (fun z => !z) (Bool.eq_false_iff.2 hc6)) ?_
      refine ge_batch [4, 5] (ans := []) (vs := [(62, undef), (61, undef)]) (l := []) (by kernel_rfl) trivial ?_
      refine ge_off rfl rfl rfl (by kernel_rfl) ?_
      refine ge_batch [7, 8, 9, 10, 11, 12] (ans := []) (vs := [(69, undef), (68, undef), (67, undef), (66, .bool true), (65, .bool true), (64, undef)]) (l := []) (by kernel_rfl) trivial ?_
      refine ge_off rfl rfl rfl (by kernel_rfl) ?_
      refine ge_batch [14, 15, 16, 17, 18] (ans := []) (vs := [(75, undef), (74, undef), (73, .bool true), (72, .bool true), (71, undef)]) (l := []) (by kernel_rfl) trivial ?_
      refine ge_off rfl rfl rfl (by kernel_rfl) ?_
      refine ge_batch [20, 21] (ans := []) (vs := [(78, .bool true), (77, undef)]) (l := []) (by kernel_rfl) trivial ?_
      refine ge_nil fun a hF => hK18 _ _ ?_ a hF
      refine we_true (by kernel_rfl) ?_
      refine we_seq fun K23 hK23 => ?_
      refine we_region [(0, 0)] rfl ?_
      refine ge_batch [0] (ans := []) (vs := [(8, .bool false)]) (l := []) (by kernel_rfl) trivial ?_
      refine ge_nil fun a hF => hK23 _ _ ?_ a hF
      have hS60 := hS39.takeN 0
      obtain rfl := Option.some.inj h
      exact we_ret fun a hF => hQ _ _ _ (Outs.out nofun (Exits.on ⟨rfl, (post_ret (rs := [.tmp 8]) (ans := []) (vs := [.bool false]) (l := []) rfl (by kernel_rfl) trivial ⟨rfl, hS60⟩) a hF⟩))
  · rw [if_neg hc5] at h
    refine we_known (t := 48) (b := decide ((i1 : Int) < 2)) (v := false) (by kernel_rfl) (decide_eq_false hc5) ?_
    refine we_false (by kernel_rfl) ?_
    have hS61 := hS.takeN 0
    obtain rfl := Option.some.inj h
    exact we_exit fun a hF => hQ _ _ _ (Outs.out nofun (Exits.here ⟨hS61, hF.weaken trivial⟩))
theorem RedoPlays_ok (K : Nat) (l0 : List SJob) (A0 : Option Addr) (c0 : Nat) (x1 : Int) (l2 : List Int) (A2 : Option Addr) (c2 : Nat) (x3 : Int) (w0 : World) (hR0 : RdL w0 A0 l0) (hL0 : l0.length ≤ c0) (hR2 : RdL w0 A2 l2) (hL2 : l2.length ≤ c2) (hG4 : Glob w0 4 [.int .i64 (-9), .int .i64 0, .int .i64 0, .int .i64 0, .int .i64 0]) (r : Bool) (h : RedoPlays.f K l0 x1 l2 x3 = some r) :
    Calls Tryd.prog 9 #[.slice A0 l0.length c0, .int .i64 x1, .slice A2 l2.length c2, .int .i64 x3] w0 (RedoPlays.Post w0 r) := by
  have hS := St.start w0
  unfold RedoPlays.f at h
  refine calls_enter (n := 86) (args := [.slice A0 l0.length c0, .int .i64 x1, .slice A2 l2.length c2, .int .i64 x3]) (fn := Tryd.f9) rfl rfl rfl rfl ?_
  show WE _ _ _ _ [(0, .slice A0 l0.length c0), (1, .int .i64 x1), (2, .slice A2 l2.length c2), (3, .int .i64 x3)] _
  refine we_seq fun K1 hK1 => ?_
  refine we_region [(0, 0)] rfl ?_
  refine ge_batch [0] (ans := []) (vs := [(8, .bool false)]) (l := []) (by kernel_rfl) trivial ?_
  refine ge_nil fun a hF => hK1 _ _ ?_ a hF
  refine we_seq fun K2 hK2 => ?_
  refine we_seq fun K3 hK3 => ?_
  refine we_region [(0, 1), (1, 0)] rfl ?_
  rcases hq1 : anew.f K with _ | r1
  · rw [hq1] at h; cases h
  rw [hq1] at h
  simp only [] at h
  refine ge_call (d := some 15) (f := 67) (args := #[]) (by kernel_rfl) (anew_ok K _ _ hq1) ?_
  rintro _ w1 ⟨rfl, hS1⟩
  refine ⟨_, rfl, hS1.below, ?_⟩
  have hS2 := hS.call hS1
  refine ge_batch [1] (ans := []) (vs := [(16, .bool (!r1))]) (l := []) (by kernel_rfl) trivial ?_
  refine ge_nil fun a hF => hK3 _ _ ?_ a hF
  by_cases hc1 : r1 = true
  · rw [if_pos hc1] at h
    refine we_known (t := 16) (b := !r1) (v := false) (by kernel_rfl) (congrArg (fun z => !z) hc1) ?_
    refine we_false (by kernel_rfl) ?_
    refine we_skip fun a hF => hK2 _ _ ?_ a hF
    refine we_seq fun K4 hK4 => ?_
    rcases hq5 : RedoPlays.p0 l0 l2 x3 with _ | (_ | rr2)
    · rw [hq5] at h; cases h
    · rw [hq5] at h
      simp only [] at h
      refine we_keep (e' := [(0, .slice A0 l0.length c0), (1, .int .i64 x1), (2, .slice A2 l2.length c2), (3, .int .i64 x3), (8, .bool false), (15, .bool r1), (16, .bool false)]) ⟨by kernel_rfl, by kernel_rfl, by kernel_rfl, by kernel_rfl, by kernel_rfl, by kernel_rfl, by kernel_rfl, trivial⟩ (RedoPlays_p0 K w0 l0 A0 c0 x1 l2 A2 c2 x3 hR0 hL0 hR2 hL2 hG4 r1 hc1 _ hq5 _ hS2 _ ?_)
      rintro _ a w5 ⟨rfl, hS9, hF⟩
      replace hS9 : St w0 w5 [] := hS9
      refine hK4 [(0, .slice A0 l0.length c0), (1, .int .i64 x1), (2, .slice A2 l2.length c2), (3, .int .i64 x3)] w5 ?_ a hF
      refine we_seq fun K9 hK9 => ?_
      refine we_region [(0, 0), (1, 0), (2, 1), (3, 0), (4, 1), (5, 0), (6, 0)] rfl ?_
      refine ge_batch [0, 1] (ans := [.val (.int .i64 (-9)), .val (.int .i64 0), .val (.int .i64 0), .val (.int .i64 0), .val (.int .i64 0)]) (vs := [(35, .agg #[.int .i64 (-9), .int .i64 0, .int .i64 0, .int .i64 0, .int .i64 0]), (34, .slice A0 l0.length c0)]) (l := [.loaded ⟨4, 0, none⟩ (.int .i64 (-9)), .loaded ⟨4, 1, none⟩ (.int .i64 0), .loaded ⟨4, 2, none⟩ (.int .i64 0), .loaded ⟨4, 3, none⟩ (.int .i64 0), .loaded ⟨4, 4, none⟩ (.int .i64 0)]) (by kernel_rfl) ⟨hS9.glob hG4 rfl, hS9.glob hG4 rfl, hS9.glob hG4 rfl, hS9.glob hG4 rfl, hS9.glob hG4 rfl, trivial⟩ ?_
      rcases hq6 : punctualsame_Lend_api_Job.f l0 (⟨(-9), 0, 0, 0, 0⟩ : SJob) with _ | r2
      · rw [hq6] at h; cases h
      rw [hq6] at h
      simp only [] at h
      obtain rfl := punctualsame_Lend_api_Job_full _ _ hq6
      refine ge_call (d := some 36) (f := 25) (args := #[.slice A0 l0.length c0, .agg #[.int .i64 (-9), .int .i64 0, .int .i64 0, .int .i64 0, .int .i64 0]]) (by kernel_rfl) (punctualsame_Lend_api_Job_ok l0 A0 c0 (⟨(-9), 0, 0, 0, 0⟩ : SJob) _ (hS9.rd hR0) hL0 _ hq6) ?_
      rintro _ w6 ⟨Z1, cz1, rfl, hcp1, hS10⟩
      refine ⟨_, rfl, hS10.below, ?_⟩
      have hS11 := hS9.call hS10
      refine ge_batch [3] (ans := []) (vs := [(37, .slice A2 l2.length c2)]) (l := []) (by kernel_rfl) trivial ?_
      rcases hq7 : punctualsame_Lend_int.f l2 (-9) with _ | r3
      · rw [hq7] at h; cases h
      rw [hq7] at h
      simp only [] at h
      obtain rfl := punctualsame_Lend_int_full _ _ hq7
      refine ge_call (d := some 38) (f := 15) (args := #[.slice A2 l2.length c2, .int .i64 (-9)]) (by kernel_rfl) (punctualsame_Lend_int_ok l2 A2 c2 (-9) _ (hS11.rd hR2) hL2 _ hq7) ?_
      rintro _ w7 ⟨Z2, cz2, rfl, hcp2, hS12⟩
      refine ⟨_, rfl, hS12.below, ?_⟩
      have hS13 := hS11.call hS12
      refine ge_batch [5, 6] (ans := []) (vs := [(10, .slice Z2 l2.length cz2), (9, .slice Z1 l0.length cz1)]) (l := []) (by kernel_rfl) trivial ?_
      refine ge_nil fun a hF => hK9 _ _ ?_ a hF
      refine we_seq fun K10 hK10 => ?_
      refine we_region [(0, 0), (1, 0), (2, 0), (3, 0), (4, 1), (5, 0), (6, 0), (7, 0), (8, 1), (9, 1), (10, 2), (11, 2)] rfl ?_
      rcases hq8 : punctualref_PlayAnew.f K l0 x1 l2 x3 with _ | r4
      · rw [hq8] at h; cases h
      rw [hq8] at h
      simp only [] at h
      refine ge_batch [0, 1, 2, 3] (ans := []) (vs := [(43, .int .i64 x3), (42, .slice A2 l2.length c2), (41, .int .i64 x1), (40, .slice A0 l0.length c0)]) (l := []) (by kernel_rfl) trivial ?_
      refine ge_call (d := some 44) (f := 68) (args := #[.slice A0 l0.length c0, .int .i64 x1, .slice A2 l2.length c2, .int .i64 x3]) (by kernel_rfl) (punctualref_PlayAnew_ok K l0 A0 c0 x1 l2 A2 c2 x3 _ (hS13.rd hR0) hL0 (hS13.rd hR2) hL2 _ hq8) ?_
      rintro _ w8 ⟨v1, v2, rfl, hS14⟩
      refine ⟨_, rfl, hS14.below, ?_⟩
      have hS15 := hS13.call hS14
      refine ge_batch [5, 6, 7] (ans := []) (vs := [(46, .agg #[.int .i64 r4.2.Code, .int .i64 r4.2.At]), (45, .agg #[v1, v2]), (39, .tuple #[.agg #[v1, v2], .agg #[.int .i64 r4.2.Code, .int .i64 r4.2.At]])]) (l := []) (by kernel_rfl) trivial ?_
      refine ge_new (d := some 11) (o := .cells #[.slice none 0 0, .slice none 0 0] 36) (v := fun b => .pointer (some ⟨b, 0, none⟩)) hS15 (fun b => by kernel_rfl) fun b1 w9 hx1 hS16 => ?_
      refine ge_new (d := some 12) (o := .cells #[.int .i64 0, .int .i64 0] 39) (v := fun b => .pointer (some ⟨b, 0, none⟩)) hS16 (fun b => by kernel_rfl) fun b2 w10 hx2 hS17 => ?_
      obtain ⟨Z3, cz3, rfl⟩ := hS17.open 2 rfl
      obtain ⟨Z4, cz4, rfl⟩ := hS17.open 3 rfl
      have hS18 := hS17.bring 1 rfl
      refine ge_set (b := b1) (j := 0) (cs := #[.slice none 0 0, .slice none 0 0]) (t := 36) (vs := [(.slice Z3 r4.1.Runs.length cz3), (.slice Z4 r4.1.Ends.length cz4)]) hS18 (by kernel_rfl) rfl rfl fun w11 hS19 => ?_
      have hS20 : St w0 w11 [Own.blk b1 (.cells #[(.slice Z3 r4.1.Runs.length cz3), (.slice Z4 r4.1.Ends.length cz4)] 36 (0, 0)), Own.blk b2 (.cells #[.int .i64 0, .int .i64 0] 39 (0, 0)), Own.of (.slice Z3 r4.1.Runs.length cz3) 3 r4.1.Runs, Own.of (.slice Z4 r4.1.Ends.length cz4) 3 r4.1.Ends, Own.of (.slice Z2 (l2 ++ [(-9), (-9), (-9)]).length cz2) 3 (l2 ++ [(-9), (-9), (-9)]), Own.of (.slice Z1 (l0 ++ [(⟨(-9), 0, 0, 0, 0⟩ : SJob), (⟨(-9), 0, 0, 0, 0⟩ : SJob), (⟨(-9), 0, 0, 0, 0⟩ : SJob)]).length cz1) 58 (l0 ++ [(⟨(-9), 0, 0, 0, 0⟩ : SJob), (⟨(-9), 0, 0, 0, 0⟩ : SJob), (⟨(-9), 0, 0, 0, 0⟩ : SJob)])] := hS19
      have hS21 := hS20.bring 1 rfl
      refine ge_set (b := b2) (j := 0) (cs := #[.int .i64 0, .int .i64 0]) (t := 39) (vs := [.int .i64 r4.2.Code, .int .i64 r4.2.At]) hS21 (by kernel_rfl) rfl rfl fun w12 hS22 => ?_
      have hS23 : St w0 w12 [Own.blk b2 (.cells #[.int .i64 r4.2.Code, .int .i64 r4.2.At] 39 (0, 0)), Own.blk b1 (.cells #[(.slice Z3 r4.1.Runs.length cz3), (.slice Z4 r4.1.Ends.length cz4)] 36 (0, 0)), Own.of (.slice Z3 r4.1.Runs.length cz3) 3 r4.1.Runs, Own.of (.slice Z4 r4.1.Ends.length cz4) 3 r4.1.Ends, Own.of (.slice Z2 (l2 ++ [(-9), (-9), (-9)]).length cz2) 3 (l2 ++ [(-9), (-9), (-9)]), Own.of (.slice Z1 (l0 ++ [(⟨(-9), 0, 0, 0, 0⟩ : SJob), (⟨(-9), 0, 0, 0, 0⟩ : SJob), (⟨(-9), 0, 0, 0, 0⟩ : SJob)]).length cz1) 58 (l0 ++ [(⟨(-9), 0, 0, 0, 0⟩ : SJob), (⟨(-9), 0, 0, 0, 0⟩ : SJob), (⟨(-9), 0, 0, 0, 0⟩ : SJob)])] := hS22
      refine ge_nil fun a hF => hK10 _ _ ?_ a hF
      refine we_seq fun K11 hK11 => ?_
      refine we_seq fun K12 hK12 => ?_
      refine we_region [(0, 0)] rfl ?_
      refine ge_batch [0] (ans := []) (vs := [(47, .int .i64 0)]) (l := []) (by kernel_rfl) trivial ?_
      refine ge_nil fun a hF => hK12 _ _ ?_ a hF
      refine we_block ?_
      have hS24 := hS23.bring 3 rfl
      have hS25 := hS24.bring 3 rfl
      have hS26 := hS25.bring 4 rfl
      have hS27 := hS26.bring 5 rfl
      have hS28 := hS27.bring 5 rfl
      have hS29 := hS28.bring 5 rfl
      rcases hq13 : iter (RedoPlays.r1 K l0 x1 l2 x3 r4) K 0 with _ | (_ | rr1)
      · rw [hq13] at h; cases h
      · rw [hq13] at h
        simp only [] at h
        refine we_iter (A := RedoPlays.A1 K w0 l0 A0 c0 x1 l2 A2 c2 x3 hR0 hL0 hR2 hL2 hG4 r1 hc1 Z1 cz1 hcp1 Z2 cz2 hcp2 r4 b1 b2 Z3 cz3 Z4 cz4) (B := RedoPlays.B1 K w0 l0 A0 c0 x1 l2 A2 c2 x3 hR0 hL0 hR2 hL2 hG4 r1 hc1 Z1 cz1 hcp1 Z2 cz2 hcp2 r4 b1 b2 Z3 cz3 Z4 cz4) hq13 (fun a hF => ⟨hS29, hF.weaken ⟨by kernel_rfl, by kernel_rfl, by kernel_rfl, by kernel_rfl, by kernel_rfl, by kernel_rfl, by kernel_rfl, by kernel_rfl, by kernel_rfl, trivial⟩⟩) (fun s o hf a w hA Q hQ => RedoPlays_r1 K w0 l0 A0 c0 x1 l2 A2 c2 x3 hR0 hL0 hR2 hL2 hG4 r1 hc1 Z1 cz1 hcp1 Z2 cz2 hcp2 r4 b1 b2 Z3 cz3 Z4 cz4 s o hf a w hA Q hQ) ?_
        rintro _ a w23 _ ⟨rfl, hS62, hF⟩
        replace hS62 : St w0 w23 [] := hS62
        refine hK11 [] w23 ?_ a hF
        refine we_seq fun K24 hK24 => ?_
        refine we_region [(0, 0)] rfl ?_
        refine ge_batch [0] (ans := []) (vs := [(8, .bool true)]) (l := []) (by kernel_rfl) trivial ?_
        refine ge_nil fun a hF => hK24 _ _ ?_ a hF
        obtain rfl := Option.some.inj h
        exact we_ret (post_ret (rs := [.tmp 8]) (ans := []) (vs := [.bool true]) (l := []) rfl (by kernel_rfl) trivial ⟨rfl, hS62⟩)
      · rw [hq13] at h
        simp only [] at h
        refine we_iter (A := RedoPlays.A1 K w0 l0 A0 c0 x1 l2 A2 c2 x3 hR0 hL0 hR2 hL2 hG4 r1 hc1 Z1 cz1 hcp1 Z2 cz2 hcp2 r4 b1 b2 Z3 cz3 Z4 cz4) (B := RedoPlays.B1 K w0 l0 A0 c0 x1 l2 A2 c2 x3 hR0 hL0 hR2 hL2 hG4 r1 hc1 Z1 cz1 hcp1 Z2 cz2 hcp2 r4 b1 b2 Z3 cz3 Z4 cz4) hq13 (fun a hF => ⟨hS29, hF.weaken ⟨by kernel_rfl, by kernel_rfl, by kernel_rfl, by kernel_rfl, by kernel_rfl, by kernel_rfl, by kernel_rfl, by kernel_rfl, by kernel_rfl, trivial⟩⟩) (fun s o hf a w hA Q hQ => RedoPlays_r1 K w0 l0 A0 c0 x1 l2 A2 c2 x3 hR0 hL0 hR2 hL2 hG4 r1 hc1 Z1 cz1 hcp1 Z2 cz2 hcp2 r4 b1 b2 Z3 cz3 Z4 cz4 s o hf a w hA Q hQ) ?_
        rintro _ a w1 _ ⟨rfl, hb⟩
        obtain rfl := Option.some.inj h
        exact hb
    · rw [hq5] at h
      simp only [] at h
      refine we_keep (e' := [(0, .slice A0 l0.length c0), (1, .int .i64 x1), (2, .slice A2 l2.length c2), (3, .int .i64 x3), (8, .bool false), (15, .bool r1), (16, .bool false)]) ⟨by kernel_rfl, by kernel_rfl, by kernel_rfl, by kernel_rfl, by kernel_rfl, by kernel_rfl, by kernel_rfl, trivial⟩ (RedoPlays_p0 K w0 l0 A0 c0 x1 l2 A2 c2 x3 hR0 hL0 hR2 hL2 hG4 r1 hc1 _ hq5 _ hS2 _ ?_)
      rintro _ a w1 ⟨_, rfl, hb⟩
      obtain rfl := Option.some.inj h
      exact hb
  · rw [if_neg hc1] at h
    refine we_known (t := 16) (b := !r1) (v := true) (by kernel_rfl) (congrArg (fun z => !z) (Bool.eq_false_iff.2 hc1)) ?_
    refine we_true (by kernel_rfl) ?_
    refine we_seq fun K25 hK25 => ?_
    refine we_region [(0, 0)] rfl ?_
    refine ge_batch [0] (ans := []) (vs := [(8, .bool false)]) (l := []) (by kernel_rfl) trivial ?_
    refine ge_nil fun a hF => hK25 _ _ ?_ a hF
    obtain rfl := Option.some.inj h
    exact we_ret (post_ret (rs := [.tmp 8]) (ans := []) (vs := [.bool false]) (l := []) rfl (by kernel_rfl) trivial ⟨rfl, hS2⟩)
end Go.Proofs.YtcogbnkioobmkaaDoor.GV
