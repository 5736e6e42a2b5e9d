/- Walks of single functions, written by a program of this work. -/
import Derived.Test.YtccfilmiboepjaaDoorGWLocksChecks2
namespace Go.Proofs.YtccfilmiboepjaaDoor.GV
open Go Go.RowKit
set_option linter.unusedVariables false
set_option linter.unusedSimpArgs false
set_option maxRecDepth 100000

/-! punctual/punctualsame.SameActs -/
abbrev punctualsame_SameActs.Post (w0 : World) (r : Bool) (e : Ending) (w : World) : Prop := e = .returned (.bool r) ∧ St w0 w []
def punctualsame_SameActs.r0 (K : Nat) (l0 : List SLocked) (l1 : List SLocked) : Nat → Option (Nat ⊕ (Unit ⊕ Bool))
  | i1 =>
    if (i1 : Int) < (l0.length : Int) then
      match l0[i1]? with
      | none => none
      | some e1 =>
        match l1[i1]? with
        | none => none
        | some e2 =>
          if e1.At = e2.At then
            if e1.P = e2.P then
              match punctualsame_Same_api_Act.f K e1.Acts e2.Acts with
              | none => none
              | some r1 =>
                if r1 = true then
                  some (.inl (i1 + 1))
                else
                  some (.inr (.inr false))
            else
              some (.inr (.inr false))
          else
            some (.inr (.inr false))
    else
      some (.inr (.inl ()))
def punctualsame_SameActs.f (K : Nat) (l0 : List SLocked) (l1 : List SLocked) : Option Bool :=
  if (l0.length : Int) = (l1.length : Int) then
    match iter (punctualsame_SameActs.r0 K l0 l1) K 0 with
    | none => none
    | some (.inl _) =>
      some true
    | some (.inr rr1) =>
      some rr1
  else
    some false
abbrev punctualsame_SameActs.A0 (K : Nat) (w0 : World) (Z : Zone) (l0 : List SLocked) (A0 : Option Addr) (c0 : Nat) (l1 : List SLocked) (A1 : Option Addr) (c1 : Nat) (hZ : ∀ w, Sub w0 w → Z w) (hR0 : RdZ Z A0 l0) (hL0 : l0.length ≤ c0) (hR1 : RdZ Z A1 l1) (hL1 : l1.length ≤ c1) (hc1 : (l0.length : Int) = (l1.length : Int)) : Nat → Act → World → Prop := fun (s : Nat) a w => St w0 w [] ∧ Frm 55 a [(0, .slice A0 l0.length c0), (1, .slice A1 l1.length c1), (12, .int .i64 (l0.length : Int)), (13, .int .i64 (s : Int))]
abbrev punctualsame_SameActs.B0 (K : Nat) (w0 : World) (Z : Zone) (l0 : List SLocked) (A0 : Option Addr) (c0 : Nat) (l1 : List SLocked) (A1 : Option Addr) (c1 : Nat) (hZ : ∀ w, Sub w0 w → Z w) (hR0 : RdZ Z A0 l0) (hL0 : l0.length ≤ c0) (hR1 : RdZ Z A1 l1) (hL1 : l1.length ≤ c1) (hc1 : (l0.length : Int) = (l1.length : Int)) : (Unit ⊕ Bool) → Exit → Act → World → Prop := Exits 0 (fun (s : Unit) a w => St w0 w [] ∧ Frm 55 a []) (Rets Tryd.prog Tryd.f23 (punctualsame_SameActs.Post w0))
theorem punctualsame_SameActs_r0 (K : Nat) (w0 : World) (Z : Zone) (l0 : List SLocked) (A0 : Option Addr) (c0 : Nat) (l1 : List SLocked) (A1 : Option Addr) (c1 : Nat) (hZ : ∀ w, Sub w0 w → Z w) (hR0 : RdZ Z A0 l0) (hL0 : l0.length ≤ c0) (hR1 : RdZ Z A1 l1) (hL1 : l1.length ≤ c1) (hc1 : (l0.length : Int) = (l1.length : Int)) (s : Nat) (o : Nat ⊕ (Unit ⊕ Bool)) (h : punctualsame_SameActs.r0 K l0 l1 s = some o) (a : Act) (w : World) (hA : punctualsame_SameActs.A0 K w0 Z l0 A0 c0 l1 A1 c1 hZ hR0 hL0 hR1 hL1 hc1 s a w) (Q : Exit → Act → World → Prop) (hQ : ∀ x a w, Outs (punctualsame_SameActs.A0 K w0 Z l0 A0 c0 l1 A1 c1 hZ hR0 hL0 hR1 hL1 hc1) (punctualsame_SameActs.B0 K w0 Z l0 A0 c0 l1 A1 c1 hZ hR0 hL0 hR1 hL1 hc1) o x a w → Q x a w) : (subF Tryd.f23 [1, 1, 0, 1, 0, 0]).wp Tryd.prog Q a w := by
  obtain ⟨i1, hs⟩ : ∃ z, z = s := ⟨s, rfl⟩
  subst hs
  obtain ⟨hS, hF⟩ := hA
  replace hS : St w0 w [] := hS
  simp only [punctualsame_SameActs.r0] at h
  refine (?_ : WE Tryd.prog 55 (subF Tryd.f23 [1, 1, 0, 1, 0, 0]) Q [(0, .slice A0 l0.length c0), (1, .slice A1 l1.length c1), (12, .int .i64 (l0.length : Int)), (13, .int .i64 (i1 : Int))] w) a hF
  clear hF a
  refine we_seq fun K6 hK6 => ?_
  refine we_region [(0, 0)] rfl ?_
  refine ge_batch [0] (ans := []) (vs := [(14, .bool (decide ((i1 : Int) < (l0.length : Int))))]) (l := []) (by kernel_rfl) trivial ?_
  refine ge_nil fun a hF => hK6 _ _ ?_ a hF
  refine we_seq fun K7 hK7 => ?_
  by_cases hc2 : (i1 : Int) < (l0.length : Int)
  · rw [if_pos hc2] at h
    refine we_known (t := 14) (b := decide ((i1 : Int) < (l0.length : Int))) (v := true) (by kernel_rfl) (decide_eq_true hc2) ?_
    refine we_true (by kernel_rfl) ?_
    refine we_skip fun a hF => hK7 _ _ ?_ a hF
    refine we_seq fun K8 hK8 => ?_
    refine we_block ?_
    refine we_seq fun K9 hK9 => ?_
    refine we_region [(0, 0), (1, 0)] rfl ?_
    refine ge_batch [0, 1] (ans := []) (vs := [(5, .int .i64 (i1 : Int)), (15, .int .i64 (i1 : Int))]) (l := []) (by kernel_rfl) trivial ?_
    refine ge_nil fun a hF => hK9 _ _ ?_ a hF
    refine we_seq fun K10 hK10 => ?_
    refine we_draws (by kernel_rfl) [(0, 0), (1, 0), (2, 0), (3, 0), (4, 0), (5, 0), (6, 0), (7, 0), (8, 0), (9, 0), (10, 0), (11, 0), (12, 0), (13, 0), (14, 0), (15, 0), (16, 0), (17, 0), (18, 0), (19, 0), (20, 0), (21, 0), (22, 0), (23, 0), (24, 0), (25, 0), (26, 0), (27, 0), (28, 0), (29, 0), (30, 0), (31, 0), (32, 0), (33, 0), (34, 0), (35, 1), (36, 0), (37, 0)] (by kernel_rfl) ?_
    have hS1 := hS.drew
    refine ge_batch [0, 1] (ans := []) (vs := [(17, .int .i64 (i1 : Int)), (16, .slice A0 l0.length c0)]) (l := []) (by kernel_rfl) trivial ?_
    rcases hx1 : l0[i1]? with _ | e1
    · rw [hx1] at h; cases h
    rw [hx1] at h
    simp only [] at h
    obtain ⟨An1, cn1, hCs1, hLn1, hRn1⟩ := SLocked.getZ hR0 hx1
    refine ge_index (d := 18) (ty := 0) (t := 23) (el := 34) (sz := 3) (m := l0.length) (c := c0) (x := (.tmp 16)) (y := (.tmp 17)) (A := A0) (k' := .i64) (j := (i1 : Int)) (jn := i1) (b0 := blkOf A0) (o0 := offOf A0) (by kernel_rfl) (by kernel_rfl) (by kernel_rfl) (by kernel_rfl) (by kernel_rfl) (hR0.eqSome (hZ _ hS1.subw) (pos_of_get hx1)) rfl (lt_of_get hx1) ?_
    refine ge_batch [3, 4, 5, 6] (ans := [.val (.int .i64 e1.At)]) (vs := [(22, .int .i64 (i1 : Int)), (21, .slice A1 l1.length c1), (20, .int .i64 e1.At), (19, .pointer (some ⟨blkOf A0, offOf A0 + i1 * 3, none⟩))]) (l := [.loaded ⟨blkOf A0, offOf A0 + i1 * 3, none⟩ (.int .i64 e1.At)]) (by kernel_rfl) ⟨hCs1 _ (hZ _ hS1.subw) 0 _ rfl, trivial⟩ ?_
    rcases hx2 : l1[i1]? with _ | e2
    · rw [hx2] at h; cases h
    rw [hx2] at h
    simp only [] at h
    obtain ⟨An2, cn2, hCs2, hLn2, hRn2⟩ := SLocked.getZ hR1 hx2
    refine ge_index (d := 23) (ty := 0) (t := 23) (el := 34) (sz := 3) (m := l1.length) (c := c1) (x := (.tmp 21)) (y := (.tmp 22)) (A := A1) (k' := .i64) (j := (i1 : Int)) (jn := i1) (b0 := blkOf A1) (o0 := offOf A1) (by kernel_rfl) (by kernel_rfl) (by kernel_rfl) (by kernel_rfl) (by kernel_rfl) (hR1.eqSome (hZ _ hS1.subw) (pos_of_get hx2)) rfl (lt_of_get hx2) ?_
    refine ge_batch [8, 9, 10, 11] (ans := [.val (.int .i64 e2.At)]) (vs := [(27, .bool (e1.At != e2.At)), (26, .bool (e1.At != e2.At)), (25, .int .i64 e2.At), (24, .pointer (some ⟨blkOf A1, offOf A1 + i1 * 3, none⟩))]) (l := [.loaded ⟨blkOf A1, offOf A1 + i1 * 3, none⟩ (.int .i64 e2.At)]) (by kernel_rfl) ⟨hCs2 _ (hZ _ hS1.subw) 0 _ rfl, trivial⟩ ?_
    by_cases hc3 : e1.At = e2.At
    · rw [if_pos hc3] at h
      refine ge_known (t := 27) (b := (e1.At != e2.At)) (c := false) (by kernel_rfl) (bne_eq_false_iff_eq.2 hc3) ?_
      refine ge_batch [12, 13] (ans := []) (vs := [(29, .int .i64 (i1 : Int)), (28, .slice A0 l0.length c0)]) (l := []) (by kernel_rfl) trivial ?_
      refine ge_index (d := 30) (ty := 0) (t := 23) (el := 34) (sz := 3) (m := l0.length) (c := c0) (x := (.tmp 28)) (y := (.tmp 29)) (A := A0) (k' := .i64) (j := (i1 : Int)) (jn := i1) (b0 := blkOf A0) (o0 := offOf A0) (by kernel_rfl) (by kernel_rfl) (by kernel_rfl) (by kernel_rfl) (by kernel_rfl) (hR0.eqSome (hZ _ hS1.subw) (pos_of_get hx1)) rfl (lt_of_get hx1) ?_
      refine ge_batch [15, 16, 17, 18] (ans := [.val (.int .i64 e1.P)]) (vs := [(34, .int .i64 (i1 : Int)), (33, .slice A1 l1.length c1), (32, .int .i64 e1.P), (31, .pointer (some ⟨blkOf A0, offOf A0 + i1 * 3 + 1, none⟩))]) (l := [.loaded ⟨blkOf A0, offOf A0 + i1 * 3 + 1, none⟩ (.int .i64 e1.P)]) (by kernel_rfl) ⟨hCs1 _ (hZ _ hS1.subw) 1 _ rfl, trivial⟩ ?_
      refine ge_index (d := 35) (ty := 0) (t := 23) (el := 34) (sz := 3) (m := l1.length) (c := c1) (x := (.tmp 33)) (y := (.tmp 34)) (A := A1) (k' := .i64) (j := (i1 : Int)) (jn := i1) (b0 := blkOf A1) (o0 := offOf A1) (by kernel_rfl) (by kernel_rfl) (by kernel_rfl) (by kernel_rfl) (by kernel_rfl) (hR1.eqSome (hZ _ hS1.subw) (pos_of_get hx2)) rfl (lt_of_get hx2) ?_
      refine ge_batch [20, 21, 22, 23, 24] (ans := [.val (.int .i64 e2.P)]) (vs := [(40, .bool (e1.P != e2.P)), (39, .bool (e1.P != e2.P)), (38, .bool (e1.P != e2.P)), (37, .int .i64 e2.P), (36, .pointer (some ⟨blkOf A1, offOf A1 + i1 * 3 + 1, none⟩))]) (l := [.loaded ⟨blkOf A1, offOf A1 + i1 * 3 + 1, none⟩ (.int .i64 e2.P)]) (by kernel_rfl) ⟨hCs2 _ (hZ _ hS1.subw) 1 _ rfl, trivial⟩ ?_
      by_cases hc4 : e1.P = e2.P
      · rw [if_pos hc4] at h
        refine ge_known (t := 40) (b := (e1.P != e2.P)) (c := false) (by kernel_rfl) (bne_eq_false_iff_eq.2 hc4) ?_
        refine ge_batch [25, 26] (ans := []) (vs := [(42, .int .i64 (i1 : Int)), (41, .slice A0 l0.length c0)]) (l := []) (by kernel_rfl) trivial ?_
        refine ge_index (d := 43) (ty := 0) (t := 23) (el := 34) (sz := 3) (m := l0.length) (c := c0) (x := (.tmp 41)) (y := (.tmp 42)) (A := A0) (k' := .i64) (j := (i1 : Int)) (jn := i1) (b0 := blkOf A0) (o0 := offOf A0) (by kernel_rfl) (by kernel_rfl) (by kernel_rfl) (by kernel_rfl) (by kernel_rfl) (hR0.eqSome (hZ _ hS1.subw) (pos_of_get hx1)) rfl (lt_of_get hx1) ?_
        refine ge_batch [28, 29, 30, 31] (ans := [.val (.slice An1 e1.Acts.length cn1)]) (vs := [(47, .int .i64 (i1 : Int)), (46, .slice A1 l1.length c1), (45, .slice An1 e1.Acts.length cn1), (44, .pointer (some ⟨blkOf A0, offOf A0 + i1 * 3 + 2, none⟩))]) (l := [.loaded ⟨blkOf A0, offOf A0 + i1 * 3 + 2, none⟩ (.slice An1 e1.Acts.length cn1)]) (by kernel_rfl) ⟨hCs1 _ (hZ _ hS1.subw) 2 _ rfl, trivial⟩ ?_
        refine ge_index (d := 48) (ty := 0) (t := 23) (el := 34) (sz := 3) (m := l1.length) (c := c1) (x := (.tmp 46)) (y := (.tmp 47)) (A := A1) (k' := .i64) (j := (i1 : Int)) (jn := i1) (b0 := blkOf A1) (o0 := offOf A1) (by kernel_rfl) (by kernel_rfl) (by kernel_rfl) (by kernel_rfl) (by kernel_rfl) (hR1.eqSome (hZ _ hS1.subw) (pos_of_get hx2)) rfl (lt_of_get hx2) ?_
        rcases hq1 : punctualsame_Same_api_Act.f K e1.Acts e2.Acts with _ | r1
        · rw [hq1] at h; cases h
        rw [hq1] at h
        simp only [] at h
        refine ge_batch [33, 34] (ans := [.val (.slice An2 e2.Acts.length cn2)]) (vs := [(50, .slice An2 e2.Acts.length cn2), (49, .pointer (some ⟨blkOf A1, offOf A1 + i1 * 3 + 2, none⟩))]) (l := [.loaded ⟨blkOf A1, offOf A1 + i1 * 3 + 2, none⟩ (.slice An2 e2.Acts.length cn2)]) (by kernel_rfl) ⟨hCs2 _ (hZ _ hS1.subw) 2 _ rfl, trivial⟩ ?_
        refine ge_call (d := some 51) (f := 63) (args := #[.slice An1 e1.Acts.length cn1, .slice An2 e2.Acts.length cn2]) (by kernel_rfl) (punctualsame_Same_api_Act_ok K e1.Acts An1 cn1 e2.Acts An2 cn2 _ (hRn1 _ (hZ _ hS1.subw)) hLn1 (hRn2 _ (hZ _ hS1.subw)) hLn2 _ hq1) ?_
        rintro _ w1 ⟨rfl, hS2⟩
        refine ⟨_, rfl, hS2.below, ?_⟩
        have hS3 := hS1.call hS2
        refine ge_batch [36, 37] (ans := []) (vs := [(53, .bool (!r1)), (52, .bool (!r1))]) (l := []) (by kernel_rfl) trivial ?_
        refine ge_nil fun a hF => hK10 _ _ ?_ a hF
        by_cases hc5 : r1 = true
        · rw [if_pos hc5] at h
          refine we_known (t := 53) (b := !r1) (v := false) (by kernel_rfl) (congrArg (fun z => !z) hc5) ?_
          refine we_false (by kernel_rfl) ?_
          refine we_skip fun a hF => hK8 _ _ ?_ a hF
          refine we_region [(0, 0), (1, 0)] rfl ?_
          refine ge_addn (d := 54) (ty := 3) (x := (.tmp 13)) (y := (.const (.int .i64 1))) (t := 3) (t2 := 3) (k := .i64) (m := i1) (by kernel_rfl) (by kernel_rfl) (by kernel_rfl) (by have h0 := RdZ.small hR0 (hZ _ hS3.subw); omega) ?_
          refine ge_batch [1] (ans := []) (vs := [(13, .int .i64 ((i1 + 1 : Nat) : Int))]) (l := []) (by kernel_rfl) trivial ?_
          obtain rfl := Option.some.inj h
          exact ge_nil fun a hF => hQ _ _ _ (Outs.again ⟨hS3, hF.weaken ⟨by kernel_rfl, by kernel_rfl, by kernel_rfl, by kernel_rfl, trivial⟩⟩)
        · rw [if_neg hc5] at h
          refine we_known (t := 53) (b := !r1) (v := true) (by kernel_rfl) (congrArg (fun z => !z) (Bool.eq_false_iff.2 hc5)) ?_
          refine we_true (by kernel_rfl) ?_
          refine we_seq fun K11 hK11 => ?_
          refine we_region [(0, 0)] rfl ?_
          refine ge_batch [0] (ans := []) (vs := [(4, .bool false)]) (l := []) (by kernel_rfl) trivial ?_
          refine ge_nil fun a hF => hK11 _ _ ?_ a hF
          obtain rfl := Option.some.inj h
          exact we_ret fun a hF => hQ _ _ _ (Outs.out nofun (Exits.on ⟨rfl, (post_ret (rs := [.tmp 4]) (ans := []) (vs := [.bool false]) (l := []) rfl (by kernel_rfl) trivial ⟨rfl, hS3⟩) a hF⟩))
      · rw [if_neg hc4] at h
        refine ge_known (t := 40) (b := (e1.P != e2.P)) (c := true) (by kernel_rfl) (bne_iff_ne.2 hc4) ?_
        refine ge_batch [25, 26, 27, 28, 29, 30, 31, 32, 33, 34] (ans := []) (vs := [(50, undef), (49, undef), (48, undef), (47, undef), (46, undef), (45, undef), (44, undef), (43, undef), (42, undef), (41, undef)]) (l := []) (by kernel_rfl) trivial ?_
        refine ge_off rfl rfl rfl (by kernel_rfl) ?_
        refine ge_batch [36, 37] (ans := []) (vs := [(53, .bool true), (52, undef)]) (l := []) (by kernel_rfl) trivial ?_
        refine ge_nil fun a hF => hK10 _ _ ?_ a hF
        refine we_true (by kernel_rfl) ?_
        refine we_seq fun K12 hK12 => ?_
        refine we_region [(0, 0)] rfl ?_
        refine ge_batch [0] (ans := []) (vs := [(4, .bool false)]) (l := []) (by kernel_rfl) trivial ?_
        refine ge_nil fun a hF => hK12 _ _ ?_ a hF
        obtain rfl := Option.some.inj h
        exact we_ret fun a hF => hQ _ _ _ (Outs.out nofun (Exits.on ⟨rfl, (post_ret (rs := [.tmp 4]) (ans := []) (vs := [.bool false]) (l := []) rfl (by kernel_rfl) trivial ⟨rfl, hS1⟩) a hF⟩))
    · rw [if_neg hc3] at h
      refine ge_known (t := 27) (b := (e1.At != e2.At)) (c := true) (by kernel_rfl) (bne_iff_ne.2 hc3) ?_
      refine ge_batch [12, 13, 14, 15, 16, 17, 18, 19, 20, 21, 22, 23, 24, 25, 26, 27, 28, 29, 30, 31, 32, 33, 34] (ans := []) (vs := [(50, undef), (49, undef), (48, undef), (47, undef), (46, undef), (45, undef), (44, undef), (43, undef), (42, undef), (41, undef), (40, .bool true), (39, .bool true), (38, undef), (37, undef), (36, undef), (35, undef), (34, undef), (33, undef), (32, undef), (31, undef), (30, undef), (29, undef), (28, undef)]) (l := []) (by kernel_rfl) trivial ?_
      refine ge_off rfl rfl rfl (by kernel_rfl) ?_
      refine ge_batch [36, 37] (ans := []) (vs := [(53, .bool true), (52, undef)]) (l := []) (by kernel_rfl) trivial ?_
      refine ge_nil fun a hF => hK10 _ _ ?_ a hF
      refine we_true (by kernel_rfl) ?_
      refine we_seq fun K13 hK13 => ?_
      refine we_region [(0, 0)] rfl ?_
      refine ge_batch [0] (ans := []) (vs := [(4, .bool false)]) (l := []) (by kernel_rfl) trivial ?_
      refine ge_nil fun a hF => hK13 _ _ ?_ a hF
      obtain rfl := Option.some.inj h
      exact we_ret fun a hF => hQ _ _ _ (Outs.out nofun (Exits.on ⟨rfl, (post_ret (rs := [.tmp 4]) (ans := []) (vs := [.bool false]) (l := []) rfl (by kernel_rfl) trivial ⟨rfl, hS1⟩) a hF⟩))
  · rw [if_neg hc2] at h
    refine we_known (t := 14) (b := decide ((i1 : Int) < (l0.length : Int))) (v := false) (by kernel_rfl) (decide_eq_false hc2) ?_
    refine we_false (by kernel_rfl) ?_
    obtain rfl := Option.some.inj h
    exact we_exit fun a hF => hQ _ _ _ (Outs.out nofun (Exits.here ⟨hS, hF.weaken trivial⟩))
theorem punctualsame_SameActs_ok (K : Nat) (Z : Zone) (l0 : List SLocked) (A0 : Option Addr) (c0 : Nat) (l1 : List SLocked) (A1 : Option Addr) (c1 : Nat) (w0 : World) (hZ : ∀ w, Sub w0 w → Z w) (hR0 : RdZ Z A0 l0) (hL0 : l0.length ≤ c0) (hR1 : RdZ Z A1 l1) (hL1 : l1.length ≤ c1) (r : Bool) (h : punctualsame_SameActs.f K l0 l1 = some r) :
    Calls Tryd.prog 23 #[.slice A0 l0.length c0, .slice A1 l1.length c1] w0 (punctualsame_SameActs.Post w0 r) := by
  have hS := St.start w0
  unfold punctualsame_SameActs.f at h
  refine calls_enter (n := 55) (args := [.slice A0 l0.length c0, .slice A1 l1.length c1]) (fn := Tryd.f23) rfl rfl rfl rfl ?_
  show WE _ _ _ _ [(0, .slice A0 l0.length c0), (1, .slice A1 l1.length c1)] _
  refine we_seq fun K1 hK1 => ?_
  refine we_region [(0, 0)] rfl ?_
  refine ge_batch [0] (ans := []) (vs := [(4, .bool false)]) (l := []) (by kernel_rfl) trivial ?_
  refine ge_nil fun a hF => hK1 _ _ ?_ a hF
  refine we_seq fun K2 hK2 => ?_
  refine we_seq fun K3 hK3 => ?_
  refine we_region [(0, 0), (1, 0), (2, 0), (3, 0), (4, 0)] rfl ?_
  refine ge_batch [0, 1, 2, 3, 4] (ans := []) (vs := [(10, .bool ((l0.length : Int) != (l1.length : Int))), (9, .int .i64 (l1.length : Int)), (8, .slice A1 l1.length c1), (7, .int .i64 (l0.length : Int)), (6, .slice A0 l0.length c0)]) (l := []) (by kernel_rfl) trivial ?_
  refine ge_nil fun a hF => hK3 _ _ ?_ a hF
  by_cases hc1 : (l0.length : Int) = (l1.length : Int)
  · rw [if_pos hc1] at h
    refine we_known (t := 10) (b := ((l0.length : Int) != (l1.length : Int))) (v := false) (by kernel_rfl) (bne_eq_false_iff_eq.2 hc1) ?_
    refine we_false (by kernel_rfl) ?_
    refine we_skip fun a hF => hK2 _ _ ?_ a hF
    refine we_seq fun K4 hK4 => ?_
    refine we_seq fun K5 hK5 => ?_
    refine we_region [(0, 0), (1, 0), (2, 0)] rfl ?_
    refine ge_batch [0, 1, 2] (ans := []) (vs := [(13, .int .i64 0), (12, .int .i64 (l0.length : Int)), (11, .slice A0 l0.length c0)]) (l := []) (by kernel_rfl) trivial ?_
    refine ge_nil fun a hF => hK5 _ _ ?_ a hF
    refine we_block ?_
    rcases hq2 : iter (punctualsame_SameActs.r0 K l0 l1) K 0 with _ | (_ | rr1)
    · rw [hq2] at h; cases h
    · rw [hq2] at h
      simp only [] at h
      refine we_iter (A := punctualsame_SameActs.A0 K w0 Z l0 A0 c0 l1 A1 c1 hZ hR0 hL0 hR1 hL1 hc1) (B := punctualsame_SameActs.B0 K w0 Z l0 A0 c0 l1 A1 c1 hZ hR0 hL0 hR1 hL1 hc1) hq2 (fun a hF => ⟨hS, hF.weaken ⟨by kernel_rfl, by kernel_rfl, by kernel_rfl, by kernel_rfl, trivial⟩⟩) (fun s o hf a w hA Q hQ => punctualsame_SameActs_r0 K w0 Z l0 A0 c0 l1 A1 c1 hZ hR0 hL0 hR1 hL1 hc1 s o hf a w hA Q hQ) ?_
      rintro _ a w2 _ ⟨rfl, hS4, hF⟩
      replace hS4 : St w0 w2 [] := hS4
      refine hK4 [] w2 ?_ a hF
      refine we_seq fun K14 hK14 => ?_
      refine we_region [(0, 0)] rfl ?_
      refine ge_batch [0] (ans := []) (vs := [(4, .bool true)]) (l := []) (by kernel_rfl) trivial ?_
      refine ge_nil fun a hF => hK14 _ _ ?_ a hF
      obtain rfl := Option.some.inj h
      exact we_ret (post_ret (rs := [.tmp 4]) (ans := []) (vs := [.bool true]) (l := []) rfl (by kernel_rfl) trivial ⟨rfl, hS4⟩)
    · rw [hq2] at h
      simp only [] at h
      refine we_iter (A := punctualsame_SameActs.A0 K w0 Z l0 A0 c0 l1 A1 c1 hZ hR0 hL0 hR1 hL1 hc1) (B := punctualsame_SameActs.B0 K w0 Z l0 A0 c0 l1 A1 c1 hZ hR0 hL0 hR1 hL1 hc1) hq2 (fun a hF => ⟨hS, hF.weaken ⟨by kernel_rfl, by kernel_rfl, by kernel_rfl, by kernel_rfl, trivial⟩⟩) (fun s o hf a w hA Q hQ => punctualsame_SameActs_r0 K w0 Z l0 A0 c0 l1 A1 c1 hZ hR0 hL0 hR1 hL1 hc1 s o hf a w hA Q hQ) ?_
      rintro _ a w1 _ ⟨rfl, hb⟩
      obtain rfl := Option.some.inj h
      exact hb
  · rw [if_neg hc1] at h
    refine we_known (t := 10) (b := ((l0.length : Int) != (l1.length : Int))) (v := true) (by kernel_rfl) (bne_iff_ne.2 hc1) ?_
    refine we_true (by kernel_rfl) ?_
    refine we_seq fun K15 hK15 => ?_
    refine we_region [(0, 0)] rfl ?_
    refine ge_batch [0] (ans := []) (vs := [(4, .bool false)]) (l := []) (by kernel_rfl) trivial ?_
    refine ge_nil fun a hF => hK15 _ _ ?_ a hF
    obtain rfl := Option.some.inj h
    exact we_ret (post_ret (rs := [.tmp 4]) (ans := []) (vs := [.bool false]) (l := []) rfl (by kernel_rfl) trivial ⟨rfl, hS⟩)

/-! punctual/punctuallaw.LocksChecks -/
abbrev LocksChecks.Post (w0 : World) (r : Bool) (e : Ending) (w : World) : Prop := e = .returned (.bool r) ∧ St w0 w []
def LocksChecks.p0 (K : Nat) (r1 : (List Int) × SFault) (r2 : Int × SFault) : Option (Unit ⊕ Bool) :=
    if r1.2.Code = 0 then
      if r2.2.Code = 0 then
        match punctualsame_Same_int.f K r1.1 ([2, (-1), (-1), (-1)] : List Int) with
        | none => none
        | some r3 =>
          if r3 = true then
            if r2.1 = 3 then
              some (.inl ())
            else
              some (.inr false)
          else
            some (.inr false)
      else
        some (.inr false)
    else
      some (.inr false)
def LocksChecks.p1 (l0 : List SAct) (l1 : List SLocked) : Option (Unit ⊕ Bool) :=
    if (few.f (l0.length : Int)) = true then
      if (few.f (l1.length : Int)) = true then
        some (.inl ())
      else
        some (.inr true)
    else
      some (.inr true)
def LocksChecks.p2 (K : Nat) (l0 : List SAct) (r5 : SFault) : Option (Int ⊕ Bool) :=
    if r5.Code = 0 then
      match punctualref_Stretch.f K l0 with
      | none => none
      | some r6 =>
        some (.inl r6)
    else
      some (.inl 0)
def LocksChecks.p3 (K : Nat) (l0 : List SAct) (r5 : SFault) (z2 : Int) (r7 : Int × SFault) : Option (Unit ⊕ Bool) :=
    match locks_Check.f K l0 with
    | none => none
    | some r8 =>
      if (SFault.eqb r8 r5) = true then
        if r7.1 = z2 then
          if (SFault.eqb r7.2 r5) = true then
            match punctualsame_Still_api_Act.f K (l0 ++ [(⟨(-9), 0⟩ : SAct), (⟨(-9), 0⟩ : SAct), (⟨(-9), 0⟩ : SAct)]) l0 (⟨(-9), 0⟩ : SAct) with
            | none => none
            | some r9 =>
              if r9 = true then
                some (.inl ())
              else
                some (.inr false)
          else
            some (.inr false)
        else
          some (.inr false)
      else
        some (.inr false)
def LocksChecks.f (K : Nat) (l0 : List SAct) (l1 : List SLocked) : Option Bool :=
  match locks_Ceilings.f K pair.f with
  | none => none
  | some r1 =>
    match pair.f[0]? with
    | none => none
    | some e1 =>
      match locks_Longest.f K e1.Acts with
      | none => none
      | some r2 =>
        match LocksChecks.p0 K r1 r2 with
        | none => none
        | some (.inl _) =>
          match LocksChecks.p1 l0 l1 with
          | none => none
          | some (.inl _) =>
            match punctualsame_Lend_api_Act.f l0 (⟨(-9), 0⟩ : SAct) with
            | none => none
            | some _ =>
              match punctualref_CheckActs.f K l0 with
              | none => none
              | some r5 =>
                match LocksChecks.p2 K l0 r5 with
                | none => none
                | some (.inl z2) =>
                  match locks_Longest.f K l0 with
                  | none => none
                  | some r7 =>
                    match LocksChecks.p3 K l0 r5 z2 r7 with
                    | none => none
                    | some (.inl _) =>
                      match punctualsame_Acts.f K l1 with
                      | none => none
                      | some r10 =>
                        match locks_Ceilings.f K r10 with
                        | none => none
                        | some r11 =>
                          match punctualref_CheckLocked.f K l1 with
                          | none => none
                          | some r12 =>
                            if (SFault.eqb r11.2 r12) = true then
                              if r12.Code = 0 then
                                match punctualref_Tops.f K l1 with
                                | none => none
                                | some r13 =>
                                  match punctualsame_Same_int.f K r11.1 r13 with
                                  | none => none
                                  | some r14 =>
                                    if r14 = true then
                                      match punctualsame_SameActs.f K r10 l1 with
                                      | none => none
                                      | some r15 =>
                                        some r15
                                    else
                                      some false
                              else
                                if (r11.1.length : Int) = 0 then
                                  match punctualsame_SameActs.f K r10 l1 with
                                  | none => none
                                  | some r16 =>
                                    some r16
                                else
                                  some false
                            else
                              some false
                    | some (.inr rr1) =>
                      some rr1
                | some (.inr rr2) =>
                  some rr2
          | some (.inr rr3) =>
            some rr3
        | some (.inr rr4) =>
          some rr4
abbrev LocksChecks.A0 (K : Nat) (w0 : World) (Z : Zone) (l0 : List SAct) (A0 : Option Addr) (c0 : Nat) (l1 : List SLocked) (A1 : Option Addr) (c1 : Nat) (hZ : ∀ w, Sub w0 w → Z w) (hR0 : RdL w0 A0 l0) (hL0 : l0.length ≤ c0) (hR1 : RdZ Z A1 l1) (hL1 : l1.length ≤ c1) (hG0 : Glob w0 0 [.int .i64 (-9), .int .i64 0]) (ft1 : List Nat) (wf1 : World) (hds1 : List HLocked) (ft2 : List Nat) (wf2 : World) (ft3 : List Nat) (wf3 : World) (hsb1 : Sub wf2 wf3) (hsb2 : Sub wf1 wf3) (hd1 : DRows (Zand Z wf3) hds1 pair.f) (Z1 : Option Addr) (cz1 : Nat) (ft4 : List Nat) (wf4 : World) (hsb3 : Sub wf3 wf4) (hRd1 : RdZ (Zand Z wf4) Z1 pair.f) (hLd1 : pair.f.length ≤ cz1) (r1 : (List Int) × SFault) (b1 : Nat) (hds2 : List HLocked) (ft5 : List Nat) (wf5 : World) (ft6 : List Nat) (wf6 : World) (hsb4 : Sub wf5 wf6) (hsb5 : Sub wf4 wf6) (hd2 : DRows (Zand Z wf6) hds2 pair.f) (Z2 : Option Addr) (cz2 : Nat) (ft7 : List Nat) (wf7 : World) (hsb6 : Sub wf6 wf7) (hRd2 : RdZ (Zand Z wf7) Z2 pair.f) (hLd2 : pair.f.length ≤ cz2) (e1 : SLocked) (hx2 : pair.f[0]? = some e1) (An1 : Option Addr) (cn1 : Nat) (hCs1 : CellsAt (Zand Z wf7) Z2 (0 * 3) [.int .i64 e1.At, .int .i64 e1.P, .slice An1 e1.Acts.length cn1]) (hLn1 : e1.Acts.length ≤ cn1) (hRn1 : RdF (Zand Z wf7) An1 e1.Acts) (r2 : Int × SFault) (b2 : Nat) (Z3 : Option Addr) (cz3 : Nat) : Unit → Act → World → Prop := fun (s : Unit) a w => ∃ (ft8 : List Nat) (wf8 : World), Sub wf7 wf8 ∧ St w0 w [Own.blk b1 (.cells #[.int .i64 r1.2.Code, .int .i64 r1.2.At] 27 (0, 0)), Own.frz ft8 wf8] ∧ Frm 128 a [(0, .slice A0 l0.length c0), (1, .slice A1 l1.length c1), (6, .pointer (some ⟨b1, 0, none⟩))]
abbrev LocksChecks.B0 (K : Nat) (w0 : World) (Z : Zone) (l0 : List SAct) (A0 : Option Addr) (c0 : Nat) (l1 : List SLocked) (A1 : Option Addr) (c1 : Nat) (hZ : ∀ w, Sub w0 w → Z w) (hR0 : RdL w0 A0 l0) (hL0 : l0.length ≤ c0) (hR1 : RdZ Z A1 l1) (hL1 : l1.length ≤ c1) (hG0 : Glob w0 0 [.int .i64 (-9), .int .i64 0]) (ft1 : List Nat) (wf1 : World) (hds1 : List HLocked) (ft2 : List Nat) (wf2 : World) (ft3 : List Nat) (wf3 : World) (hsb1 : Sub wf2 wf3) (hsb2 : Sub wf1 wf3) (hd1 : DRows (Zand Z wf3) hds1 pair.f) (Z1 : Option Addr) (cz1 : Nat) (ft4 : List Nat) (wf4 : World) (hsb3 : Sub wf3 wf4) (hRd1 : RdZ (Zand Z wf4) Z1 pair.f) (hLd1 : pair.f.length ≤ cz1) (r1 : (List Int) × SFault) (b1 : Nat) (hds2 : List HLocked) (ft5 : List Nat) (wf5 : World) (ft6 : List Nat) (wf6 : World) (hsb4 : Sub wf5 wf6) (hsb5 : Sub wf4 wf6) (hd2 : DRows (Zand Z wf6) hds2 pair.f) (Z2 : Option Addr) (cz2 : Nat) (ft7 : List Nat) (wf7 : World) (hsb6 : Sub wf6 wf7) (hRd2 : RdZ (Zand Z wf7) Z2 pair.f) (hLd2 : pair.f.length ≤ cz2) (e1 : SLocked) (hx2 : pair.f[0]? = some e1) (An1 : Option Addr) (cn1 : Nat) (hCs1 : CellsAt (Zand Z wf7) Z2 (0 * 3) [.int .i64 e1.At, .int .i64 e1.P, .slice An1 e1.Acts.length cn1]) (hLn1 : e1.Acts.length ≤ cn1) (hRn1 : RdF (Zand Z wf7) An1 e1.Acts) (r2 : Int × SFault) (b2 : Nat) (Z3 : Option Addr) (cz3 : Nat) : Bool → Exit → Act → World → Prop := Rets Tryd.prog Tryd.f3 (LocksChecks.Post w0)
theorem LocksChecks_p0 (K : Nat) (w0 : World) (Z : Zone) (l0 : List SAct) (A0 : Option Addr) (c0 : Nat) (l1 : List SLocked) (A1 : Option Addr) (c1 : Nat) (hZ : ∀ w, Sub w0 w → Z w) (hR0 : RdL w0 A0 l0) (hL0 : l0.length ≤ c0) (hR1 : RdZ Z A1 l1) (hL1 : l1.length ≤ c1) (hG0 : Glob w0 0 [.int .i64 (-9), .int .i64 0]) (ft1 : List Nat) (wf1 : World) (hds1 : List HLocked) (ft2 : List Nat) (wf2 : World) (ft3 : List Nat) (wf3 : World) (hsb1 : Sub wf2 wf3) (hsb2 : Sub wf1 wf3) (hd1 : DRows (Zand Z wf3) hds1 pair.f) (Z1 : Option Addr) (cz1 : Nat) (ft4 : List Nat) (wf4 : World) (hsb3 : Sub wf3 wf4) (hRd1 : RdZ (Zand Z wf4) Z1 pair.f) (hLd1 : pair.f.length ≤ cz1) (r1 : (List Int) × SFault) (b1 : Nat) (hds2 : List HLocked) (ft5 : List Nat) (wf5 : World) (ft6 : List Nat) (wf6 : World) (hsb4 : Sub wf5 wf6) (hsb5 : Sub wf4 wf6) (hd2 : DRows (Zand Z wf6) hds2 pair.f) (Z2 : Option Addr) (cz2 : Nat) (ft7 : List Nat) (wf7 : World) (hsb6 : Sub wf6 wf7) (hRd2 : RdZ (Zand Z wf7) Z2 pair.f) (hLd2 : pair.f.length ≤ cz2) (e1 : SLocked) (hx2 : pair.f[0]? = some e1) (An1 : Option Addr) (cn1 : Nat) (hCs1 : CellsAt (Zand Z wf7) Z2 (0 * 3) [.int .i64 e1.At, .int .i64 e1.P, .slice An1 e1.Acts.length cn1]) (hLn1 : e1.Acts.length ≤ cn1) (hRn1 : RdF (Zand Z wf7) An1 e1.Acts) (r2 : Int × SFault) (b2 : Nat) (Z3 : Option Addr) (cz3 : Nat) (o : Unit ⊕ Bool) (h : LocksChecks.p0 K r1 r2 = some o) (w : World) (hS : St w0 w [Own.blk b2 (.cells #[.int .i64 r2.2.Code, .int .i64 r2.2.At] 27 (0, 0)), Own.frz ft7 wf7, Own.blk b1 (.cells #[.int .i64 r1.2.Code, .int .i64 r1.2.At] 27 (0, 0)), Own.of (.slice Z3 r1.1.length cz3) 3 r1.1]) (Q : Exit → Act → World → Prop) (hQ : ∀ x a w, Outs (LocksChecks.A0 K w0 Z l0 A0 c0 l1 A1 c1 hZ hR0 hL0 hR1 hL1 hG0 ft1 wf1 hds1 ft2 wf2 ft3 wf3 hsb1 hsb2 hd1 Z1 cz1 ft4 wf4 hsb3 hRd1 hLd1 r1 b1 hds2 ft5 wf5 ft6 wf6 hsb4 hsb5 hd2 Z2 cz2 ft7 wf7 hsb6 hRd2 hLd2 e1 hx2 An1 cn1 hCs1 hLn1 hRn1 r2 b2 Z3 cz3) (LocksChecks.B0 K w0 Z l0 A0 c0 l1 A1 c1 hZ hR0 hL0 hR1 hL1 hG0 ft1 wf1 hds1 ft2 wf2 ft3 wf3 hsb1 hsb2 hd1 Z1 cz1 ft4 wf4 hsb3 hRd1 hLd1 r1 b1 hds2 ft5 wf5 ft6 wf6 hsb4 hsb5 hd2 Z2 cz2 ft7 wf7 hsb6 hRd2 hLd2 e1 hx2 An1 cn1 hCs1 hLn1 hRn1 r2 b2 Z3 cz3) o x a w → Q x a w) : WE Tryd.prog 128 (subF Tryd.f3 [1, 1, 1, 0]) Q [(0, .slice A0 l0.length c0), (1, .slice A1 l1.length c1), (4, .bool false), (5, (.slice Z3 r1.1.length cz3)), (6, .pointer (some ⟨b1, 0, none⟩)), (7, .int .i64 r2.1), (8, .pointer (some ⟨b2, 0, none⟩)), (13, .tuple #[(.slice Z3 r1.1.length cz3), .agg #[.int .i64 r1.2.Code, .int .i64 r1.2.At]]), (14, .slice Z1 pair.f.length cz1), (15, .tuple #[(.slice Z3 r1.1.length cz3), .agg #[.int .i64 r1.2.Code, .int .i64 r1.2.At]]), (16, (.slice Z3 r1.1.length cz3)), (17, .agg #[.int .i64 r1.2.Code, .int .i64 r1.2.At]), (18, .tuple #[.int .i64 r2.1, .agg #[.int .i64 r2.2.Code, .int .i64 r2.2.At]]), (19, .slice Z2 pair.f.length cz2), (20, .pointer (some ⟨blkOf Z2, offOf Z2 + 0 * 3, none⟩)), (21, .pointer (some ⟨blkOf Z2, offOf Z2 + 0 * 3 + 2, none⟩)), (22, .slice An1 e1.Acts.length cn1), (23, .tuple #[.int .i64 r2.1, .agg #[.int .i64 r2.2.Code, .int .i64 r2.2.At]]), (24, .int .i64 r2.1), (25, .agg #[.int .i64 r2.2.Code, .int .i64 r2.2.At])] w := by
  simp only [LocksChecks.p0] at h
  refine we_seq fun K5 hK5 => ?_
  refine we_region [(0, 0), (1, 0), (2, 0), (3, 0), (4, 0), (5, 0), (6, 0), (7, 0), (8, 0), (9, 0), (10, 1), (11, 1), (12, 0), (13, 0), (14, 0), (15, 0), (16, 0), (17, 0)] rfl ?_
  refine ge_batch [0, 1, 2, 3] (ans := [.val (.int .i64 r1.2.Code)]) (vs := [(29, .bool (r1.2.Code != 0)), (28, .bool (r1.2.Code != 0)), (27, .int .i64 r1.2.Code), (26, .pointer (some ⟨b1, 0, none⟩))]) (l := [.loaded ⟨b1, 0, none⟩ (.int .i64 r1.2.Code)]) (by kernel_rfl) ⟨hS.cell 2 rfl rfl, trivial⟩ ?_
  by_cases hc1 : r1.2.Code = 0
  · rw [if_pos hc1] at h
    refine ge_known (t := 29) (b := (r1.2.Code != 0)) (c := false) (by kernel_rfl) (bne_eq_false_iff_eq.2 hc1) ?_
    refine ge_batch [4, 5, 6, 7, 8] (ans := [.val (.int .i64 r2.2.Code)]) (vs := [(34, .bool (r2.2.Code != 0)), (33, .bool (r2.2.Code != 0)), (32, .bool (r2.2.Code != 0)), (31, .int .i64 r2.2.Code), (30, .pointer (some ⟨b2, 0, none⟩))]) (l := [.loaded ⟨b2, 0, none⟩ (.int .i64 r2.2.Code)]) (by kernel_rfl) ⟨hS.cell 0 rfl rfl, trivial⟩ ?_
    by_cases hc2 : r2.2.Code = 0
    · rw [if_pos hc2] at h
      refine ge_known (t := 34) (b := (r2.2.Code != 0)) (c := false) (by kernel_rfl) (bne_eq_false_iff_eq.2 hc2) ?_
      refine ge_batch [9] (ans := []) (vs := [(35, (.slice Z3 r1.1.length cz3))]) (l := []) (by kernel_rfl) trivial ?_
      refine ge_new (d := some 36) (o := .cells #[.int .i64 2, .int .i64 (-1), .int .i64 (-1), .int .i64 (-1)] 3) (v := fun b => .slice (some ⟨b, 0, none⟩) 4 4) hS (fun b => by kernel_rfl) fun b3 w9 hx4 hS26 => ?_
      rcases hq5 : punctualsame_Same_int.f K r1.1 ([2, (-1), (-1), (-1)] : List Int) with _ | r3
      · rw [hq5] at h; cases h
      rw [hq5] at h
      simp only [] at h
      refine ge_call (d := some 37) (f := 13) (args := #[(.slice Z3 r1.1.length cz3), .slice (some ⟨b3, 0, none⟩) 4 4]) (by kernel_rfl) (punctualsame_Same_int_ok K r1.1 Z3 cz3 ([2, (-1), (-1), (-1)] : List Int) (some ⟨b3, 0, none⟩) 4 _ (hS26.rdAt 4 rfl) (hS26.capAt 4 rfl) (hS26.rdBlk 0 ([2, (-1), (-1), (-1)] : List Int) rfl rfl rfl) (Nat.le_refl _) _ hq5) ?_
      rintro _ w10 ⟨rfl, hS27⟩
      refine ⟨_, rfl, hS27.below, ?_⟩
      have hS28 := hS26.call hS27
      refine ge_batch [12, 13, 14] (ans := []) (vs := [(40, .bool (!r3)), (39, .bool (!r3)), (38, .bool (!r3))]) (l := []) (by kernel_rfl) trivial ?_
      by_cases hc3 : r3 = true
      · rw [if_pos hc3] at h
        refine ge_known (t := 40) (b := !r3) (c := false) (by kernel_rfl) (congrArg (fun z => !z) hc3) ?_
        refine ge_batch [15, 16, 17] (ans := []) (vs := [(43, .bool (r2.1 != 3)), (42, .bool (r2.1 != 3)), (41, .int .i64 r2.1)]) (l := []) (by kernel_rfl) trivial ?_
        refine ge_nil fun a hF => hK5 _ _ ?_ a hF
        by_cases hc4 : r2.1 = 3
        · rw [if_pos hc4] at h
          refine we_known (t := 43) (b := (r2.1 != 3)) (v := false) (by kernel_rfl) (bne_eq_false_iff_eq.2 hc4) ?_
          refine we_false (by kernel_rfl) ?_
          have hS29 := hS28.bring 2 rfl
          have hS30 := hS29.bring 3 rfl
          have hS31 := hS30.takeN 2
          obtain rfl := Option.some.inj h
          exact we_skip fun a hF => hQ _ _ _ (Outs.again ⟨ft7, wf7, (Sub.refl _), hS31, hF.weaken ⟨by kernel_rfl, by kernel_rfl, by kernel_rfl, trivial⟩⟩)
        · rw [if_neg hc4] at h
          refine we_known (t := 43) (b := (r2.1 != 3)) (v := true) (by kernel_rfl) (bne_iff_ne.2 hc4) ?_
          refine we_true (by kernel_rfl) ?_
          refine we_seq fun K6 hK6 => ?_
          refine we_region [(0, 0)] rfl ?_
          refine ge_batch [0] (ans := []) (vs := [(4, .bool false)]) (l := []) (by kernel_rfl) trivial ?_
          refine ge_nil fun a hF => hK6 _ _ ?_ a hF
          have hS32 := hS28.takeN 0
          obtain rfl := Option.some.inj h
          exact we_ret fun a hF => hQ _ _ _ (Outs.out nofun ⟨rfl, (post_ret (rs := [.tmp 4]) (ans := []) (vs := [.bool false]) (l := []) rfl (by kernel_rfl) trivial ⟨rfl, hS32⟩) a hF⟩)
      · rw [if_neg hc3] at h
        refine ge_known (t := 40) (b := !r3) (c := true) (by kernel_rfl) (congrArg (fun z => !z) (Bool.eq_false_iff.2 hc3)) ?_
        refine ge_batch [15, 16, 17] (ans := []) (vs := [(43, .bool true), (42, undef), (41, undef)]) (l := []) (by kernel_rfl) trivial ?_
        refine ge_nil fun a hF => hK5 _ _ ?_ a hF
        refine we_true (by kernel_rfl) ?_
        refine we_seq fun K7 hK7 => ?_
        refine we_region [(0, 0)] rfl ?_
        refine ge_batch [0] (ans := []) (vs := [(4, .bool false)]) (l := []) (by kernel_rfl) trivial ?_
        refine ge_nil fun a hF => hK7 _ _ ?_ a hF
        have hS33 := hS28.takeN 0
        obtain rfl := Option.some.inj h
        exact we_ret fun a hF => hQ _ _ _ (Outs.out nofun ⟨rfl, (post_ret (rs := [.tmp 4]) (ans := []) (vs := [.bool false]) (l := []) rfl (by kernel_rfl) trivial ⟨rfl, hS33⟩) a hF⟩)
    · rw [if_neg hc2] at h
      refine ge_known (t := 34) (b := (r2.2.Code != 0)) (c := true) (by kernel_rfl) (bne_iff_ne.2 hc2) ?_
      refine ge_batch [9] (ans := []) (vs := [(35, undef)]) (l := []) (by kernel_rfl) trivial ?_
      refine ge_off rfl rfl rfl (by kernel_rfl) ?_
      refine ge_off rfl rfl rfl (by kernel_rfl) ?_
      refine ge_batch [12, 13, 14, 15, 16, 17] (ans := []) (vs := [(43, .bool true), (42, undef), (41, undef), (40, .bool true), (39, .bool true), (38, undef)]) (l := []) (by kernel_rfl) trivial ?_
      refine ge_nil fun a hF => hK5 _ _ ?_ a hF
      refine we_true (by kernel_rfl) ?_
      refine we_seq fun K8 hK8 => ?_
      refine we_region [(0, 0)] rfl ?_
      refine ge_batch [0] (ans := []) (vs := [(4, .bool false)]) (l := []) (by kernel_rfl) trivial ?_
      refine ge_nil fun a hF => hK8 _ _ ?_ a hF
      have hS34 := hS.takeN 0
      obtain rfl := Option.some.inj h
      exact we_ret fun a hF => hQ _ _ _ (Outs.out nofun ⟨rfl, (post_ret (rs := [.tmp 4]) (ans := []) (vs := [.bool false]) (l := []) rfl (by kernel_rfl) trivial ⟨rfl, hS34⟩) a hF⟩)
  · rw [if_neg hc1] at h
    refine ge_known (t := 29) (b := (r1.2.Code != 0)) (c := true) (by kernel_rfl) (bne_iff_ne.2 hc1) ?_
    refine ge_batch [4, 5, 6, 7, 8, 9] (ans := []) (vs := [(35, undef), (34, .bool true), (33, .bool true), (32, undef), (31, undef), (30, undef)]) (l := []) (by kernel_rfl) trivial ?_
    refine ge_off rfl rfl rfl (by kernel_rfl) ?_
    refine ge_off rfl rfl rfl (by kernel_rfl) ?_
    refine ge_batch [12, 13, 14, 15, 16, 17] (ans := []) (vs := [(43, .bool true), (42, undef), (41, undef), (40, .bool true), (39, .bool true), (38, undef)]) (l := []) (by kernel_rfl) trivial ?_
    refine ge_nil fun a hF => hK5 _ _ ?_ a hF
    refine we_true (by kernel_rfl) ?_
    refine we_seq fun K9 hK9 => ?_
    refine we_region [(0, 0)] rfl ?_
    refine ge_batch [0] (ans := []) (vs := [(4, .bool false)]) (l := []) (by kernel_rfl) trivial ?_
    refine ge_nil fun a hF => hK9 _ _ ?_ a hF
    have hS35 := hS.takeN 0
    obtain rfl := Option.some.inj h
    exact we_ret fun a hF => hQ _ _ _ (Outs.out nofun ⟨rfl, (post_ret (rs := [.tmp 4]) (ans := []) (vs := [.bool false]) (l := []) rfl (by kernel_rfl) trivial ⟨rfl, hS35⟩) a hF⟩)
abbrev LocksChecks.A1 (K : Nat) (w0 : World) (Z : Zone) (l0 : List SAct) (A0 : Option Addr) (c0 : Nat) (l1 : List SLocked) (A1 : Option Addr) (c1 : Nat) (hZ : ∀ w, Sub w0 w → Z w) (hR0 : RdL w0 A0 l0) (hL0 : l0.length ≤ c0) (hR1 : RdZ Z A1 l1) (hL1 : l1.length ≤ c1) (hG0 : Glob w0 0 [.int .i64 (-9), .int .i64 0]) (ft1 : List Nat) (wf1 : World) (hds1 : List HLocked) (ft2 : List Nat) (wf2 : World) (ft3 : List Nat) (wf3 : World) (hsb1 : Sub wf2 wf3) (hsb2 : Sub wf1 wf3) (hd1 : DRows (Zand Z wf3) hds1 pair.f) (Z1 : Option Addr) (cz1 : Nat) (ft4 : List Nat) (wf4 : World) (hsb3 : Sub wf3 wf4) (hRd1 : RdZ (Zand Z wf4) Z1 pair.f) (hLd1 : pair.f.length ≤ cz1) (r1 : (List Int) × SFault) (b1 : Nat) (hds2 : List HLocked) (ft5 : List Nat) (wf5 : World) (ft6 : List Nat) (wf6 : World) (hsb4 : Sub wf5 wf6) (hsb5 : Sub wf4 wf6) (hd2 : DRows (Zand Z wf6) hds2 pair.f) (Z2 : Option Addr) (cz2 : Nat) (ft7 : List Nat) (wf7 : World) (hsb6 : Sub wf6 wf7) (hRd2 : RdZ (Zand Z wf7) Z2 pair.f) (hLd2 : pair.f.length ≤ cz2) (e1 : SLocked) (hx2 : pair.f[0]? = some e1) (An1 : Option Addr) (cn1 : Nat) (hCs1 : CellsAt (Zand Z wf7) Z2 (0 * 3) [.int .i64 e1.At, .int .i64 e1.P, .slice An1 e1.Acts.length cn1]) (hLn1 : e1.Acts.length ≤ cn1) (hRn1 : RdF (Zand Z wf7) An1 e1.Acts) (r2 : Int × SFault) (b2 : Nat) (Z3 : Option Addr) (cz3 : Nat) (ft9 : List Nat) (wf9 : World) (hRz1 : Sub wf7 wf9) : Unit → Act → World → Prop := fun (s : Unit) a w => ∃ (ft10 : List Nat) (wf10 : World), Sub wf9 wf10 ∧ St w0 w [Own.blk b1 (.cells #[.int .i64 r1.2.Code, .int .i64 r1.2.At] 27 (0, 0)), Own.frz ft10 wf10] ∧ Frm 128 a [(0, .slice A0 l0.length c0), (1, .slice A1 l1.length c1), (6, .pointer (some ⟨b1, 0, none⟩))]
abbrev LocksChecks.B1 (K : Nat) (w0 : World) (Z : Zone) (l0 : List SAct) (A0 : Option Addr) (c0 : Nat) (l1 : List SLocked) (A1 : Option Addr) (c1 : Nat) (hZ : ∀ w, Sub w0 w → Z w) (hR0 : RdL w0 A0 l0) (hL0 : l0.length ≤ c0) (hR1 : RdZ Z A1 l1) (hL1 : l1.length ≤ c1) (hG0 : Glob w0 0 [.int .i64 (-9), .int .i64 0]) (ft1 : List Nat) (wf1 : World) (hds1 : List HLocked) (ft2 : List Nat) (wf2 : World) (ft3 : List Nat) (wf3 : World) (hsb1 : Sub wf2 wf3) (hsb2 : Sub wf1 wf3) (hd1 : DRows (Zand Z wf3) hds1 pair.f) (Z1 : Option Addr) (cz1 : Nat) (ft4 : List Nat) (wf4 : World) (hsb3 : Sub wf3 wf4) (hRd1 : RdZ (Zand Z wf4) Z1 pair.f) (hLd1 : pair.f.length ≤ cz1) (r1 : (List Int) × SFault) (b1 : Nat) (hds2 : List HLocked) (ft5 : List Nat) (wf5 : World) (ft6 : List Nat) (wf6 : World) (hsb4 : Sub wf5 wf6) (hsb5 : Sub wf4 wf6) (hd2 : DRows (Zand Z wf6) hds2 pair.f) (Z2 : Option Addr) (cz2 : Nat) (ft7 : List Nat) (wf7 : World) (hsb6 : Sub wf6 wf7) (hRd2 : RdZ (Zand Z wf7) Z2 pair.f) (hLd2 : pair.f.length ≤ cz2) (e1 : SLocked) (hx2 : pair.f[0]? = some e1) (An1 : Option Addr) (cn1 : Nat) (hCs1 : CellsAt (Zand Z wf7) Z2 (0 * 3) [.int .i64 e1.At, .int .i64 e1.P, .slice An1 e1.Acts.length cn1]) (hLn1 : e1.Acts.length ≤ cn1) (hRn1 : RdF (Zand Z wf7) An1 e1.Acts) (r2 : Int × SFault) (b2 : Nat) (Z3 : Option Addr) (cz3 : Nat) (ft9 : List Nat) (wf9 : World) (hRz1 : Sub wf7 wf9) : Bool → Exit → Act → World → Prop := Rets Tryd.prog Tryd.f3 (LocksChecks.Post w0)
theorem LocksChecks_p1 (K : Nat) (w0 : World) (Z : Zone) (l0 : List SAct) (A0 : Option Addr) (c0 : Nat) (l1 : List SLocked) (A1 : Option Addr) (c1 : Nat) (hZ : ∀ w, Sub w0 w → Z w) (hR0 : RdL w0 A0 l0) (hL0 : l0.length ≤ c0) (hR1 : RdZ Z A1 l1) (hL1 : l1.length ≤ c1) (hG0 : Glob w0 0 [.int .i64 (-9), .int .i64 0]) (ft1 : List Nat) (wf1 : World) (hds1 : List HLocked) (ft2 : List Nat) (wf2 : World) (ft3 : List Nat) (wf3 : World) (hsb1 : Sub wf2 wf3) (hsb2 : Sub wf1 wf3) (hd1 : DRows (Zand Z wf3) hds1 pair.f) (Z1 : Option Addr) (cz1 : Nat) (ft4 : List Nat) (wf4 : World) (hsb3 : Sub wf3 wf4) (hRd1 : RdZ (Zand Z wf4) Z1 pair.f) (hLd1 : pair.f.length ≤ cz1) (r1 : (List Int) × SFault) (b1 : Nat) (hds2 : List HLocked) (ft5 : List Nat) (wf5 : World) (ft6 : List Nat) (wf6 : World) (hsb4 : Sub wf5 wf6) (hsb5 : Sub wf4 wf6) (hd2 : DRows (Zand Z wf6) hds2 pair.f) (Z2 : Option Addr) (cz2 : Nat) (ft7 : List Nat) (wf7 : World) (hsb6 : Sub wf6 wf7) (hRd2 : RdZ (Zand Z wf7) Z2 pair.f) (hLd2 : pair.f.length ≤ cz2) (e1 : SLocked) (hx2 : pair.f[0]? = some e1) (An1 : Option Addr) (cn1 : Nat) (hCs1 : CellsAt (Zand Z wf7) Z2 (0 * 3) [.int .i64 e1.At, .int .i64 e1.P, .slice An1 e1.Acts.length cn1]) (hLn1 : e1.Acts.length ≤ cn1) (hRn1 : RdF (Zand Z wf7) An1 e1.Acts) (r2 : Int × SFault) (b2 : Nat) (Z3 : Option Addr) (cz3 : Nat) (ft9 : List Nat) (wf9 : World) (hRz1 : Sub wf7 wf9) (o : Unit ⊕ Bool) (h : LocksChecks.p1 l0 l1 = some o) (w : World) (hS : St w0 w [Own.blk b1 (.cells #[.int .i64 r1.2.Code, .int .i64 r1.2.At] 27 (0, 0)), Own.frz ft9 wf9]) (Q : Exit → Act → World → Prop) (hQ : ∀ x a w, Outs (LocksChecks.A1 K w0 Z l0 A0 c0 l1 A1 c1 hZ hR0 hL0 hR1 hL1 hG0 ft1 wf1 hds1 ft2 wf2 ft3 wf3 hsb1 hsb2 hd1 Z1 cz1 ft4 wf4 hsb3 hRd1 hLd1 r1 b1 hds2 ft5 wf5 ft6 wf6 hsb4 hsb5 hd2 Z2 cz2 ft7 wf7 hsb6 hRd2 hLd2 e1 hx2 An1 cn1 hCs1 hLn1 hRn1 r2 b2 Z3 cz3 ft9 wf9 hRz1) (LocksChecks.B1 K w0 Z l0 A0 c0 l1 A1 c1 hZ hR0 hL0 hR1 hL1 hG0 ft1 wf1 hds1 ft2 wf2 ft3 wf3 hsb1 hsb2 hd1 Z1 cz1 ft4 wf4 hsb3 hRd1 hLd1 r1 b1 hds2 ft5 wf5 ft6 wf6 hsb4 hsb5 hd2 Z2 cz2 ft7 wf7 hsb6 hRd2 hLd2 e1 hx2 An1 cn1 hCs1 hLn1 hRn1 r2 b2 Z3 cz3 ft9 wf9 hRz1) o x a w → Q x a w) : WE Tryd.prog 128 (subF Tryd.f3 [1, 1, 1, 1, 0]) Q [(0, .slice A0 l0.length c0), (1, .slice A1 l1.length c1), (6, .pointer (some ⟨b1, 0, none⟩))] w := by
  simp only [LocksChecks.p1] at h
  refine we_seq fun K11 hK11 => ?_
  refine we_region [(0, 0), (1, 0), (2, 1), (3, 0), (4, 0), (5, 0), (6, 0), (7, 1), (8, 0), (9, 0)] rfl ?_
  refine ge_batch [0, 1] (ans := []) (vs := [(45, .int .i64 (l0.length : Int)), (44, .slice A0 l0.length c0)]) (l := []) (by kernel_rfl) trivial ?_
  refine ge_call (d := some 46) (f := 14) (args := #[.int .i64 (l0.length : Int)]) (by kernel_rfl) (few_ok (l0.length : Int) _ _ rfl) ?_
  rintro _ w12 ⟨rfl, hS37⟩
  refine ⟨_, rfl, hS37.below, ?_⟩
  have hS38 := hS.call hS37
  refine ge_batch [3, 4] (ans := []) (vs := [(48, .bool (!(few.f (l0.length : Int)))), (47, .bool (!(few.f (l0.length : Int))))]) (l := []) (by kernel_rfl) trivial ?_
  by_cases hc5 : (few.f (l0.length : Int)) = true
  · rw [if_pos hc5] at h
    refine ge_known (t := 48) (b := !(few.f (l0.length : Int))) (c := false) (by kernel_rfl) (congrArg (fun z => !z) hc5) ?_
    refine ge_batch [5, 6] (ans := []) (vs := [(50, .int .i64 (l1.length : Int)), (49, .slice A1 l1.length c1)]) (l := []) (by kernel_rfl) trivial ?_
    refine ge_call (d := some 51) (f := 14) (args := #[.int .i64 (l1.length : Int)]) (by kernel_rfl) (few_ok (l1.length : Int) _ _ rfl) ?_
    rintro _ w13 ⟨rfl, hS39⟩
    refine ⟨_, rfl, hS39.below, ?_⟩
    have hS40 := hS38.call hS39
    refine ge_batch [8, 9] (ans := []) (vs := [(53, .bool (!(few.f (l1.length : Int)))), (52, .bool (!(few.f (l1.length : Int))))]) (l := []) (by kernel_rfl) trivial ?_
    refine ge_nil fun a hF => hK11 _ _ ?_ a hF
    by_cases hc6 : (few.f (l1.length : Int)) = true
    · rw [if_pos hc6] at h
      refine we_known (t := 53) (b := !(few.f (l1.length : Int))) (v := false) (by kernel_rfl) (congrArg (fun z => !z) hc6) ?_
      refine we_false (by kernel_rfl) ?_
      have hS41 := hS40.bring 1 rfl
      have hS42 := hS41.bring 1 rfl
      obtain rfl := Option.some.inj h
      exact we_skip fun a hF => hQ _ _ _ (Outs.again ⟨ft9, wf9, (Sub.refl _), hS42, hF.weaken ⟨by kernel_rfl, by kernel_rfl, by kernel_rfl, trivial⟩⟩)
    · rw [if_neg hc6] at h
      refine we_known (t := 53) (b := !(few.f (l1.length : Int))) (v := true) (by kernel_rfl) (congrArg (fun z => !z) (Bool.eq_false_iff.2 hc6)) ?_
      refine we_true (by kernel_rfl) ?_
      refine we_seq fun K12 hK12 => ?_
      refine we_region [(0, 0)] rfl ?_
      refine ge_batch [0] (ans := []) (vs := [(4, .bool true)]) (l := []) (by kernel_rfl) trivial ?_
      refine ge_nil fun a hF => hK12 _ _ ?_ a hF
      have hS43 := hS40.takeN 0
      obtain rfl := Option.some.inj h
      exact we_ret fun a hF => hQ _ _ _ (Outs.out nofun ⟨rfl, (post_ret (rs := [.tmp 4]) (ans := []) (vs := [.bool true]) (l := []) rfl (by kernel_rfl) trivial ⟨rfl, hS43⟩) a hF⟩)
  · rw [if_neg hc5] at h
    refine ge_known (t := 48) (b := !(few.f (l0.length : Int))) (c := true) (by kernel_rfl) (congrArg (fun z => !z) (Bool.eq_false_iff.2 hc5)) ?_
    refine ge_batch [5, 6] (ans := []) (vs := [(50, undef), (49, undef)]) (l := []) (by kernel_rfl) trivial ?_
    refine ge_off rfl rfl rfl (by kernel_rfl) ?_
    refine ge_batch [8, 9] (ans := []) (vs := [(53, .bool true), (52, undef)]) (l := []) (by kernel_rfl) trivial ?_
    refine ge_nil fun a hF => hK11 _ _ ?_ a hF
    refine we_true (by kernel_rfl) ?_
    refine we_seq fun K13 hK13 => ?_
    refine we_region [(0, 0)] rfl ?_
    refine ge_batch [0] (ans := []) (vs := [(4, .bool true)]) (l := []) (by kernel_rfl) trivial ?_
    refine ge_nil fun a hF => hK13 _ _ ?_ a hF
    have hS44 := hS38.takeN 0
    obtain rfl := Option.some.inj h
    exact we_ret fun a hF => hQ _ _ _ (Outs.out nofun ⟨rfl, (post_ret (rs := [.tmp 4]) (ans := []) (vs := [.bool true]) (l := []) rfl (by kernel_rfl) trivial ⟨rfl, hS44⟩) a hF⟩)
abbrev LocksChecks.A2 (K : Nat) (w0 : World) (Z : Zone) (l0 : List SAct) (A0 : Option Addr) (c0 : Nat) (l1 : List SLocked) (A1 : Option Addr) (c1 : Nat) (hZ : ∀ w, Sub w0 w → Z w) (hR0 : RdL w0 A0 l0) (hL0 : l0.length ≤ c0) (hR1 : RdZ Z A1 l1) (hL1 : l1.length ≤ c1) (hG0 : Glob w0 0 [.int .i64 (-9), .int .i64 0]) (ft1 : List Nat) (wf1 : World) (hds1 : List HLocked) (ft2 : List Nat) (wf2 : World) (ft3 : List Nat) (wf3 : World) (hsb1 : Sub wf2 wf3) (hsb2 : Sub wf1 wf3) (hd1 : DRows (Zand Z wf3) hds1 pair.f) (Z1 : Option Addr) (cz1 : Nat) (ft4 : List Nat) (wf4 : World) (hsb3 : Sub wf3 wf4) (hRd1 : RdZ (Zand Z wf4) Z1 pair.f) (hLd1 : pair.f.length ≤ cz1) (r1 : (List Int) × SFault) (b1 : Nat) (hds2 : List HLocked) (ft5 : List Nat) (wf5 : World) (ft6 : List Nat) (wf6 : World) (hsb4 : Sub wf5 wf6) (hsb5 : Sub wf4 wf6) (hd2 : DRows (Zand Z wf6) hds2 pair.f) (Z2 : Option Addr) (cz2 : Nat) (ft7 : List Nat) (wf7 : World) (hsb6 : Sub wf6 wf7) (hRd2 : RdZ (Zand Z wf7) Z2 pair.f) (hLd2 : pair.f.length ≤ cz2) (e1 : SLocked) (hx2 : pair.f[0]? = some e1) (An1 : Option Addr) (cn1 : Nat) (hCs1 : CellsAt (Zand Z wf7) Z2 (0 * 3) [.int .i64 e1.At, .int .i64 e1.P, .slice An1 e1.Acts.length cn1]) (hLn1 : e1.Acts.length ≤ cn1) (hRn1 : RdF (Zand Z wf7) An1 e1.Acts) (r2 : Int × SFault) (b2 : Nat) (Z3 : Option Addr) (cz3 : Nat) (ft9 : List Nat) (wf9 : World) (hRz1 : Sub wf7 wf9) (ft11 : List Nat) (wf11 : World) (hRz2 : Sub wf9 wf11) (Z4 : Option Addr) (cz4 : Nat) (hcp1 : (l0 ++ [(⟨(-9), 0⟩ : SAct), (⟨(-9), 0⟩ : SAct), (⟨(-9), 0⟩ : SAct)]).length ≤ cz4) (r5 : SFault) (b4 : Nat) : Int → Act → World → Prop := fun (s : Int) a w => ∃ (ft12 : List Nat) (wf12 : World), Sub wf11 wf12 ∧ St w0 w [Own.blk b4 (.cells #[.int .i64 r5.Code, .int .i64 r5.At] 27 (0, 0)), Own.blk b1 (.cells #[.int .i64 r1.2.Code, .int .i64 r1.2.At] 27 (0, 0)), Own.of (.slice Z4 (l0 ++ [(⟨(-9), 0⟩ : SAct), (⟨(-9), 0⟩ : SAct), (⟨(-9), 0⟩ : SAct)]).length cz4) 39 (l0 ++ [(⟨(-9), 0⟩ : SAct), (⟨(-9), 0⟩ : SAct), (⟨(-9), 0⟩ : SAct)]), Own.frz ft12 wf12] ∧ Frm 128 a [(0, .slice A0 l0.length c0), (1, .slice A1 l1.length c1), (6, .pointer (some ⟨b1, 0, none⟩)), (9, .slice Z4 l0.length cz4), (10, .pointer (some ⟨b4, 0, none⟩)), (11, .int .i64 s)]
abbrev LocksChecks.B2 (K : Nat) (w0 : World) (Z : Zone) (l0 : List SAct) (A0 : Option Addr) (c0 : Nat) (l1 : List SLocked) (A1 : Option Addr) (c1 : Nat) (hZ : ∀ w, Sub w0 w → Z w) (hR0 : RdL w0 A0 l0) (hL0 : l0.length ≤ c0) (hR1 : RdZ Z A1 l1) (hL1 : l1.length ≤ c1) (hG0 : Glob w0 0 [.int .i64 (-9), .int .i64 0]) (ft1 : List Nat) (wf1 : World) (hds1 : List HLocked) (ft2 : List Nat) (wf2 : World) (ft3 : List Nat) (wf3 : World) (hsb1 : Sub wf2 wf3) (hsb2 : Sub wf1 wf3) (hd1 : DRows (Zand Z wf3) hds1 pair.f) (Z1 : Option Addr) (cz1 : Nat) (ft4 : List Nat) (wf4 : World) (hsb3 : Sub wf3 wf4) (hRd1 : RdZ (Zand Z wf4) Z1 pair.f) (hLd1 : pair.f.length ≤ cz1) (r1 : (List Int) × SFault) (b1 : Nat) (hds2 : List HLocked) (ft5 : List Nat) (wf5 : World) (ft6 : List Nat) (wf6 : World) (hsb4 : Sub wf5 wf6) (hsb5 : Sub wf4 wf6) (hd2 : DRows (Zand Z wf6) hds2 pair.f) (Z2 : Option Addr) (cz2 : Nat) (ft7 : List Nat) (wf7 : World) (hsb6 : Sub wf6 wf7) (hRd2 : RdZ (Zand Z wf7) Z2 pair.f) (hLd2 : pair.f.length ≤ cz2) (e1 : SLocked) (hx2 : pair.f[0]? = some e1) (An1 : Option Addr) (cn1 : Nat) (hCs1 : CellsAt (Zand Z wf7) Z2 (0 * 3) [.int .i64 e1.At, .int .i64 e1.P, .slice An1 e1.Acts.length cn1]) (hLn1 : e1.Acts.length ≤ cn1) (hRn1 : RdF (Zand Z wf7) An1 e1.Acts) (r2 : Int × SFault) (b2 : Nat) (Z3 : Option Addr) (cz3 : Nat) (ft9 : List Nat) (wf9 : World) (hRz1 : Sub wf7 wf9) (ft11 : List Nat) (wf11 : World) (hRz2 : Sub wf9 wf11) (Z4 : Option Addr) (cz4 : Nat) (hcp1 : (l0 ++ [(⟨(-9), 0⟩ : SAct), (⟨(-9), 0⟩ : SAct), (⟨(-9), 0⟩ : SAct)]).length ≤ cz4) (r5 : SFault) (b4 : Nat) : Bool → Exit → Act → World → Prop := Rets Tryd.prog Tryd.f3 (LocksChecks.Post w0)
theorem LocksChecks_p2 (K : Nat) (w0 : World) (Z : Zone) (l0 : List SAct) (A0 : Option Addr) (c0 : Nat) (l1 : List SLocked) (A1 : Option Addr) (c1 : Nat) (hZ : ∀ w, Sub w0 w → Z w) (hR0 : RdL w0 A0 l0) (hL0 : l0.length ≤ c0) (hR1 : RdZ Z A1 l1) (hL1 : l1.length ≤ c1) (hG0 : Glob w0 0 [.int .i64 (-9), .int .i64 0]) (ft1 : List Nat) (wf1 : World) (hds1 : List HLocked) (ft2 : List Nat) (wf2 : World) (ft3 : List Nat) (wf3 : World) (hsb1 : Sub wf2 wf3) (hsb2 : Sub wf1 wf3) (hd1 : DRows (Zand Z wf3) hds1 pair.f) (Z1 : Option Addr) (cz1 : Nat) (ft4 : List Nat) (wf4 : World) (hsb3 : Sub wf3 wf4) (hRd1 : RdZ (Zand Z wf4) Z1 pair.f) (hLd1 : pair.f.length ≤ cz1) (r1 : (List Int) × SFault) (b1 : Nat) (hds2 : List HLocked) (ft5 : List Nat) (wf5 : World) (ft6 : List Nat) (wf6 : World) (hsb4 : Sub wf5 wf6) (hsb5 : Sub wf4 wf6) (hd2 : DRows (Zand Z wf6) hds2 pair.f) (Z2 : Option Addr) (cz2 : Nat) (ft7 : List Nat) (wf7 : World) (hsb6 : Sub wf6 wf7) (hRd2 : RdZ (Zand Z wf7) Z2 pair.f) (hLd2 : pair.f.length ≤ cz2) (e1 : SLocked) (hx2 : pair.f[0]? = some e1) (An1 : Option Addr) (cn1 : Nat) (hCs1 : CellsAt (Zand Z wf7) Z2 (0 * 3) [.int .i64 e1.At, .int .i64 e1.P, .slice An1 e1.Acts.length cn1]) (hLn1 : e1.Acts.length ≤ cn1) (hRn1 : RdF (Zand Z wf7) An1 e1.Acts) (r2 : Int × SFault) (b2 : Nat) (Z3 : Option Addr) (cz3 : Nat) (ft9 : List Nat) (wf9 : World) (hRz1 : Sub wf7 wf9) (ft11 : List Nat) (wf11 : World) (hRz2 : Sub wf9 wf11) (Z4 : Option Addr) (cz4 : Nat) (hcp1 : (l0 ++ [(⟨(-9), 0⟩ : SAct), (⟨(-9), 0⟩ : SAct), (⟨(-9), 0⟩ : SAct)]).length ≤ cz4) (r5 : SFault) (b4 : Nat) (o : Int ⊕ Bool) (h : LocksChecks.p2 K l0 r5 = some o) (w : World) (hS : St w0 w [Own.blk b4 (.cells #[.int .i64 r5.Code, .int .i64 r5.At] 27 (0, 0)), Own.of (.slice Z4 (l0 ++ [(⟨(-9), 0⟩ : SAct), (⟨(-9), 0⟩ : SAct), (⟨(-9), 0⟩ : SAct)]).length cz4) 39 (l0 ++ [(⟨(-9), 0⟩ : SAct), (⟨(-9), 0⟩ : SAct), (⟨(-9), 0⟩ : SAct)]), Own.blk b1 (.cells #[.int .i64 r1.2.Code, .int .i64 r1.2.At] 27 (0, 0)), Own.frz ft11 wf11]) (Q : Exit → Act → World → Prop) (hQ : ∀ x a w, Outs (LocksChecks.A2 K w0 Z l0 A0 c0 l1 A1 c1 hZ hR0 hL0 hR1 hL1 hG0 ft1 wf1 hds1 ft2 wf2 ft3 wf3 hsb1 hsb2 hd1 Z1 cz1 ft4 wf4 hsb3 hRd1 hLd1 r1 b1 hds2 ft5 wf5 ft6 wf6 hsb4 hsb5 hd2 Z2 cz2 ft7 wf7 hsb6 hRd2 hLd2 e1 hx2 An1 cn1 hCs1 hLn1 hRn1 r2 b2 Z3 cz3 ft9 wf9 hRz1 ft11 wf11 hRz2 Z4 cz4 hcp1 r5 b4) (LocksChecks.B2 K w0 Z l0 A0 c0 l1 A1 c1 hZ hR0 hL0 hR1 hL1 hG0 ft1 wf1 hds1 ft2 wf2 ft3 wf3 hsb1 hsb2 hd1 Z1 cz1 ft4 wf4 hsb3 hRd1 hLd1 r1 b1 hds2 ft5 wf5 ft6 wf6 hsb4 hsb5 hd2 Z2 cz2 ft7 wf7 hsb6 hRd2 hLd2 e1 hx2 An1 cn1 hCs1 hLn1 hRn1 r2 b2 Z3 cz3 ft9 wf9 hRz1 ft11 wf11 hRz2 Z4 cz4 hcp1 r5 b4) o x a w → Q x a w) : WE Tryd.prog 128 (subF Tryd.f3 [1, 1, 1, 1, 1, 1, 1, 1, 0]) Q [(0, .slice A0 l0.length c0), (1, .slice A1 l1.length c1), (6, .pointer (some ⟨b1, 0, none⟩)), (9, .slice Z4 l0.length cz4), (10, .pointer (some ⟨b4, 0, none⟩)), (11, .int .i64 0), (54, .slice A0 l0.length c0), (55, .agg #[.int .i64 (-9), .int .i64 0]), (56, .slice Z4 l0.length cz4), (57, .slice A0 l0.length c0), (58, .agg #[.int .i64 r5.Code, .int .i64 r5.At])] w := by
  simp only [LocksChecks.p2] at h
  refine we_seq fun K18 hK18 => ?_
  refine we_region [(0, 0), (1, 0), (2, 0)] rfl ?_
  refine ge_batch [0, 1, 2] (ans := [.val (.int .i64 r5.Code)]) (vs := [(61, .bool (r5.Code == 0)), (60, .int .i64 r5.Code), (59, .pointer (some ⟨b4, 0, none⟩))]) (l := [.loaded ⟨b4, 0, none⟩ (.int .i64 r5.Code)]) (by kernel_rfl) ⟨hS.cell 0 rfl rfl, trivial⟩ ?_
  refine ge_nil fun a hF => hK18 _ _ ?_ a hF
  by_cases hc7 : r5.Code = 0
  · rw [if_pos hc7] at h
    refine we_known (t := 61) (b := (r5.Code == 0)) (v := true) (by kernel_rfl) (beq_iff_eq.2 hc7) ?_
    refine we_true (by kernel_rfl) ?_
    refine we_region [(0, 0), (1, 1), (2, 0)] rfl ?_
    rcases hq12 : punctualref_Stretch.f K l0 with _ | r6
    · rw [hq12] at h; cases h
    rw [hq12] at h
    simp only [] at h
    refine ge_batch [0] (ans := []) (vs := [(62, .slice A0 l0.length c0)]) (l := []) (by kernel_rfl) trivial ?_
    refine ge_call (d := some 63) (f := 17) (args := #[.slice A0 l0.length c0]) (by kernel_rfl) (punctualref_Stretch_ok K l0 A0 c0 _ (hS.rd hR0) hL0 _ hq12) ?_
    rintro _ w19 ⟨rfl, hS53⟩
    refine ⟨_, rfl, hS53.below, ?_⟩
    have hS54 := hS.call hS53
    refine ge_batch [2] (ans := []) (vs := [(11, .int .i64 r6)]) (l := []) (by kernel_rfl) trivial ?_
    have hS55 := hS54.bring 3 rfl
    have hS56 := hS55.bring 2 rfl
    have hS57 := hS56.bring 3 rfl
    have hS58 := hS57.bring 3 rfl
    obtain rfl := Option.some.inj h
    exact ge_nil fun a hF => hQ _ _ _ (Outs.again ⟨ft11, wf11, (Sub.refl _), hS58, hF.weaken ⟨by kernel_rfl, by kernel_rfl, by kernel_rfl, by kernel_rfl, by kernel_rfl, by kernel_rfl, trivial⟩⟩)
  · rw [if_neg hc7] at h
    refine we_known (t := 61) (b := (r5.Code == 0)) (v := false) (by kernel_rfl) (beq_eq_false_iff_ne.2 hc7) ?_
    refine we_false (by kernel_rfl) ?_
    have hS59 := hS.bring 3 rfl
    have hS60 := hS59.bring 2 rfl
    have hS61 := hS60.bring 3 rfl
    have hS62 := hS61.bring 3 rfl
    obtain rfl := Option.some.inj h
    exact we_skip fun a hF => hQ _ _ _ (Outs.again ⟨ft11, wf11, (Sub.refl _), hS62, hF.weaken ⟨by kernel_rfl, by kernel_rfl, by kernel_rfl, by kernel_rfl, by kernel_rfl, by kernel_rfl, trivial⟩⟩)
abbrev LocksChecks.A3 (K : Nat) (w0 : World) (Z : Zone) (l0 : List SAct) (A0 : Option Addr) (c0 : Nat) (l1 : List SLocked) (A1 : Option Addr) (c1 : Nat) (hZ : ∀ w, Sub w0 w → Z w) (hR0 : RdL w0 A0 l0) (hL0 : l0.length ≤ c0) (hR1 : RdZ Z A1 l1) (hL1 : l1.length ≤ c1) (hG0 : Glob w0 0 [.int .i64 (-9), .int .i64 0]) (ft1 : List Nat) (wf1 : World) (hds1 : List HLocked) (ft2 : List Nat) (wf2 : World) (ft3 : List Nat) (wf3 : World) (hsb1 : Sub wf2 wf3) (hsb2 : Sub wf1 wf3) (hd1 : DRows (Zand Z wf3) hds1 pair.f) (Z1 : Option Addr) (cz1 : Nat) (ft4 : List Nat) (wf4 : World) (hsb3 : Sub wf3 wf4) (hRd1 : RdZ (Zand Z wf4) Z1 pair.f) (hLd1 : pair.f.length ≤ cz1) (r1 : (List Int) × SFault) (b1 : Nat) (hds2 : List HLocked) (ft5 : List Nat) (wf5 : World) (ft6 : List Nat) (wf6 : World) (hsb4 : Sub wf5 wf6) (hsb5 : Sub wf4 wf6) (hd2 : DRows (Zand Z wf6) hds2 pair.f) (Z2 : Option Addr) (cz2 : Nat) (ft7 : List Nat) (wf7 : World) (hsb6 : Sub wf6 wf7) (hRd2 : RdZ (Zand Z wf7) Z2 pair.f) (hLd2 : pair.f.length ≤ cz2) (e1 : SLocked) (hx2 : pair.f[0]? = some e1) (An1 : Option Addr) (cn1 : Nat) (hCs1 : CellsAt (Zand Z wf7) Z2 (0 * 3) [.int .i64 e1.At, .int .i64 e1.P, .slice An1 e1.Acts.length cn1]) (hLn1 : e1.Acts.length ≤ cn1) (hRn1 : RdF (Zand Z wf7) An1 e1.Acts) (r2 : Int × SFault) (b2 : Nat) (Z3 : Option Addr) (cz3 : Nat) (ft9 : List Nat) (wf9 : World) (hRz1 : Sub wf7 wf9) (ft11 : List Nat) (wf11 : World) (hRz2 : Sub wf9 wf11) (Z4 : Option Addr) (cz4 : Nat) (hcp1 : (l0 ++ [(⟨(-9), 0⟩ : SAct), (⟨(-9), 0⟩ : SAct), (⟨(-9), 0⟩ : SAct)]).length ≤ cz4) (r5 : SFault) (b4 : Nat) (ft13 : List Nat) (wf13 : World) (z2 : Int) (hRz3 : Sub wf11 wf13) (r7 : Int × SFault) : Unit → Act → World → Prop := fun (s : Unit) a w => ∃ (ft14 : List Nat) (wf14 : World), Sub wf13 wf14 ∧ St w0 w [Own.blk b1 (.cells #[.int .i64 r7.2.Code, .int .i64 r7.2.At] 27 (0, 0)), Own.blk b4 (.cells #[.int .i64 r5.Code, .int .i64 r5.At] 27 (0, 0)), Own.frz ft14 wf14] ∧ Frm 128 a [(1, .slice A1 l1.length c1), (6, .pointer (some ⟨b1, 0, none⟩)), (10, .pointer (some ⟨b4, 0, none⟩))]
abbrev LocksChecks.B3 (K : Nat) (w0 : World) (Z : Zone) (l0 : List SAct) (A0 : Option Addr) (c0 : Nat) (l1 : List SLocked) (A1 : Option Addr) (c1 : Nat) (hZ : ∀ w, Sub w0 w → Z w) (hR0 : RdL w0 A0 l0) (hL0 : l0.length ≤ c0) (hR1 : RdZ Z A1 l1) (hL1 : l1.length ≤ c1) (hG0 : Glob w0 0 [.int .i64 (-9), .int .i64 0]) (ft1 : List Nat) (wf1 : World) (hds1 : List HLocked) (ft2 : List Nat) (wf2 : World) (ft3 : List Nat) (wf3 : World) (hsb1 : Sub wf2 wf3) (hsb2 : Sub wf1 wf3) (hd1 : DRows (Zand Z wf3) hds1 pair.f) (Z1 : Option Addr) (cz1 : Nat) (ft4 : List Nat) (wf4 : World) (hsb3 : Sub wf3 wf4) (hRd1 : RdZ (Zand Z wf4) Z1 pair.f) (hLd1 : pair.f.length ≤ cz1) (r1 : (List Int) × SFault) (b1 : Nat) (hds2 : List HLocked) (ft5 : List Nat) (wf5 : World) (ft6 : List Nat) (wf6 : World) (hsb4 : Sub wf5 wf6) (hsb5 : Sub wf4 wf6) (hd2 : DRows (Zand Z wf6) hds2 pair.f) (Z2 : Option Addr) (cz2 : Nat) (ft7 : List Nat) (wf7 : World) (hsb6 : Sub wf6 wf7) (hRd2 : RdZ (Zand Z wf7) Z2 pair.f) (hLd2 : pair.f.length ≤ cz2) (e1 : SLocked) (hx2 : pair.f[0]? = some e1) (An1 : Option Addr) (cn1 : Nat) (hCs1 : CellsAt (Zand Z wf7) Z2 (0 * 3) [.int .i64 e1.At, .int .i64 e1.P, .slice An1 e1.Acts.length cn1]) (hLn1 : e1.Acts.length ≤ cn1) (hRn1 : RdF (Zand Z wf7) An1 e1.Acts) (r2 : Int × SFault) (b2 : Nat) (Z3 : Option Addr) (cz3 : Nat) (ft9 : List Nat) (wf9 : World) (hRz1 : Sub wf7 wf9) (ft11 : List Nat) (wf11 : World) (hRz2 : Sub wf9 wf11) (Z4 : Option Addr) (cz4 : Nat) (hcp1 : (l0 ++ [(⟨(-9), 0⟩ : SAct), (⟨(-9), 0⟩ : SAct), (⟨(-9), 0⟩ : SAct)]).length ≤ cz4) (r5 : SFault) (b4 : Nat) (ft13 : List Nat) (wf13 : World) (z2 : Int) (hRz3 : Sub wf11 wf13) (r7 : Int × SFault) : Bool → Exit → Act → World → Prop := Rets Tryd.prog Tryd.f3 (LocksChecks.Post w0)
theorem LocksChecks_p3 (K : Nat) (w0 : World) (Z : Zone) (l0 : List SAct) (A0 : Option Addr) (c0 : Nat) (l1 : List SLocked) (A1 : Option Addr) (c1 : Nat) (hZ : ∀ w, Sub w0 w → Z w) (hR0 : RdL w0 A0 l0) (hL0 : l0.length ≤ c0) (hR1 : RdZ Z A1 l1) (hL1 : l1.length ≤ c1) (hG0 : Glob w0 0 [.int .i64 (-9), .int .i64 0]) (ft1 : List Nat) (wf1 : World) (hds1 : List HLocked) (ft2 : List Nat) (wf2 : World) (ft3 : List Nat) (wf3 : World) (hsb1 : Sub wf2 wf3) (hsb2 : Sub wf1 wf3) (hd1 : DRows (Zand Z wf3) hds1 pair.f) (Z1 : Option Addr) (cz1 : Nat) (ft4 : List Nat) (wf4 : World) (hsb3 : Sub wf3 wf4) (hRd1 : RdZ (Zand Z wf4) Z1 pair.f) (hLd1 : pair.f.length ≤ cz1) (r1 : (List Int) × SFault) (b1 : Nat) (hds2 : List HLocked) (ft5 : List Nat) (wf5 : World) (ft6 : List Nat) (wf6 : World) (hsb4 : Sub wf5 wf6) (hsb5 : Sub wf4 wf6) (hd2 : DRows (Zand Z wf6) hds2 pair.f) (Z2 : Option Addr) (cz2 : Nat) (ft7 : List Nat) (wf7 : World) (hsb6 : Sub wf6 wf7) (hRd2 : RdZ (Zand Z wf7) Z2 pair.f) (hLd2 : pair.f.length ≤ cz2) (e1 : SLocked) (hx2 : pair.f[0]? = some e1) (An1 : Option Addr) (cn1 : Nat) (hCs1 : CellsAt (Zand Z wf7) Z2 (0 * 3) [.int .i64 e1.At, .int .i64 e1.P, .slice An1 e1.Acts.length cn1]) (hLn1 : e1.Acts.length ≤ cn1) (hRn1 : RdF (Zand Z wf7) An1 e1.Acts) (r2 : Int × SFault) (b2 : Nat) (Z3 : Option Addr) (cz3 : Nat) (ft9 : List Nat) (wf9 : World) (hRz1 : Sub wf7 wf9) (ft11 : List Nat) (wf11 : World) (hRz2 : Sub wf9 wf11) (Z4 : Option Addr) (cz4 : Nat) (hcp1 : (l0 ++ [(⟨(-9), 0⟩ : SAct), (⟨(-9), 0⟩ : SAct), (⟨(-9), 0⟩ : SAct)]).length ≤ cz4) (r5 : SFault) (b4 : Nat) (ft13 : List Nat) (wf13 : World) (z2 : Int) (hRz3 : Sub wf11 wf13) (r7 : Int × SFault) (o : Unit ⊕ Bool) (h : LocksChecks.p3 K l0 r5 z2 r7 = some o) (w : World) (hS : St w0 w [Own.blk b1 (.cells #[.int .i64 r7.2.Code, .int .i64 r7.2.At] 27 (0, 0)), Own.blk b4 (.cells #[.int .i64 r5.Code, .int .i64 r5.At] 27 (0, 0)), Own.of (.slice Z4 (l0 ++ [(⟨(-9), 0⟩ : SAct), (⟨(-9), 0⟩ : SAct), (⟨(-9), 0⟩ : SAct)]).length cz4) 39 (l0 ++ [(⟨(-9), 0⟩ : SAct), (⟨(-9), 0⟩ : SAct), (⟨(-9), 0⟩ : SAct)]), Own.frz ft13 wf13]) (Q : Exit → Act → World → Prop) (hQ : ∀ x a w, Outs (LocksChecks.A3 K w0 Z l0 A0 c0 l1 A1 c1 hZ hR0 hL0 hR1 hL1 hG0 ft1 wf1 hds1 ft2 wf2 ft3 wf3 hsb1 hsb2 hd1 Z1 cz1 ft4 wf4 hsb3 hRd1 hLd1 r1 b1 hds2 ft5 wf5 ft6 wf6 hsb4 hsb5 hd2 Z2 cz2 ft7 wf7 hsb6 hRd2 hLd2 e1 hx2 An1 cn1 hCs1 hLn1 hRn1 r2 b2 Z3 cz3 ft9 wf9 hRz1 ft11 wf11 hRz2 Z4 cz4 hcp1 r5 b4 ft13 wf13 z2 hRz3 r7) (LocksChecks.B3 K w0 Z l0 A0 c0 l1 A1 c1 hZ hR0 hL0 hR1 hL1 hG0 ft1 wf1 hds1 ft2 wf2 ft3 wf3 hsb1 hsb2 hd1 Z1 cz1 ft4 wf4 hsb3 hRd1 hLd1 r1 b1 hds2 ft5 wf5 ft6 wf6 hsb4 hsb5 hd2 Z2 cz2 ft7 wf7 hsb6 hRd2 hLd2 e1 hx2 An1 cn1 hCs1 hLn1 hRn1 r2 b2 Z3 cz3 ft9 wf9 hRz1 ft11 wf11 hRz2 Z4 cz4 hcp1 r5 b4 ft13 wf13 z2 hRz3 r7) o x a w → Q x a w) : WE Tryd.prog 128 (subF Tryd.f3 [1, 1, 1, 1, 1, 1, 1, 1, 1, 1, 0]) Q [(0, .slice A0 l0.length c0), (1, .slice A1 l1.length c1), (6, .pointer (some ⟨b1, 0, none⟩)), (7, .int .i64 r7.1), (9, .slice Z4 l0.length cz4), (10, .pointer (some ⟨b4, 0, none⟩)), (11, .int .i64 z2), (64, .tuple #[.int .i64 r7.1, .agg #[.int .i64 r7.2.Code, .int .i64 r7.2.At]]), (65, .slice Z4 l0.length cz4), (66, .tuple #[.int .i64 r7.1, .agg #[.int .i64 r7.2.Code, .int .i64 r7.2.At]]), (67, .int .i64 r7.1), (68, .agg #[.int .i64 r7.2.Code, .int .i64 r7.2.At])] w := by
  simp only [LocksChecks.p3] at h
  refine we_seq fun K21 hK21 => ?_
  refine we_draws (by kernel_rfl) [(0, 0), (2, 0), (1, 1), (3, 0), (4, 0), (5, 0), (6, 0), (7, 0), (8, 0), (9, 0), (10, 0), (11, 0), (12, 0), (13, 0), (14, 0), (15, 0), (16, 0), (17, 0), (18, 1), (19, 0), (20, 0)] (by kernel_rfl) ?_
  have hS69 := hS.drew
  rcases hq15 : locks_Check.f K l0 with _ | r8
  · rw [hq15] at h; cases h
  rw [hq15] at h
  simp only [] at h
  refine ge_batch [0, 2] (ans := [.val (.int .i64 r5.Code), .val (.int .i64 r5.At)]) (vs := [(71, .agg #[.int .i64 r5.Code, .int .i64 r5.At]), (69, .slice Z4 l0.length cz4)]) (l := [.loaded ⟨b4, 0, none⟩ (.int .i64 r5.Code), .loaded ⟨b4, 1, none⟩ (.int .i64 r5.At)]) (by kernel_rfl) ⟨hS69.cell 1 rfl rfl, hS69.cell 1 rfl rfl, trivial⟩ ?_
  refine ge_call (d := some 70) (f := 18) (args := #[.slice Z4 l0.length cz4]) (by kernel_rfl) (locks_Check_ok K l0 Z4 cz4 _ ((hS69.rdAt 2 rfl).pre) (by have h0 := hcp1; simp only [List.length_append, List.length_cons, List.length_nil] at h0; omega) _ hq15) ?_
  rintro _ w23 ⟨rfl, hS70⟩
  refine ⟨_, rfl, hS70.below, ?_⟩
  have hS71 := hS69.call hS70
  refine ge_eqs (d := 72) (ty := 4) (op := .neq) (x := (.tmp 70)) (y := (.tmp 71)) (t := 27) (t2 := 27) (xs := #[.int .i64 r8.Code, .int .i64 r8.At]) (ys := #[.int .i64 r5.Code, .int .i64 r5.At]) (r := (SFault.eqb r8 r5)) (v := !(SFault.eqb r8 r5)) (by kernel_rfl) (by kernel_rfl) (by kernel_rfl) (by kernel_rfl) (by kernel_rfl) rfl ?_
  refine ge_batch [4] (ans := []) (vs := [(73, .bool (!(SFault.eqb r8 r5)))]) (l := []) (by kernel_rfl) trivial ?_
  by_cases hc8 : (SFault.eqb r8 r5) = true
  · rw [if_pos hc8] at h
    refine ge_known (t := 73) (b := !(SFault.eqb r8 r5)) (c := false) (by kernel_rfl) (congrArg (fun z => !z) hc8) ?_
    refine ge_batch [5, 6, 7, 8, 9] (ans := []) (vs := [(78, .bool (r7.1 != z2)), (77, .bool (r7.1 != z2)), (76, .bool (r7.1 != z2)), (75, .int .i64 z2), (74, .int .i64 r7.1)]) (l := []) (by kernel_rfl) trivial ?_
    by_cases hc9 : r7.1 = z2
    · rw [if_pos hc9] at h
      refine ge_known (t := 78) (b := (r7.1 != z2)) (c := false) (by kernel_rfl) (bne_eq_false_iff_eq.2 hc9) ?_
      refine ge_batch [10, 11] (ans := [.val (.int .i64 r7.2.Code), .val (.int .i64 r7.2.At), .val (.int .i64 r5.Code), .val (.int .i64 r5.At)]) (vs := [(80, .agg #[.int .i64 r5.Code, .int .i64 r5.At]), (79, .agg #[.int .i64 r7.2.Code, .int .i64 r7.2.At])]) (l := [.loaded ⟨b1, 0, none⟩ (.int .i64 r7.2.Code), .loaded ⟨b1, 1, none⟩ (.int .i64 r7.2.At), .loaded ⟨b4, 0, none⟩ (.int .i64 r5.Code), .loaded ⟨b4, 1, none⟩ (.int .i64 r5.At)]) (by kernel_rfl) ⟨hS71.cell 0 rfl rfl, hS71.cell 0 rfl rfl, hS71.cell 1 rfl rfl, hS71.cell 1 rfl rfl, trivial⟩ ?_
      refine ge_eqs (d := 81) (ty := 4) (op := .neq) (x := (.tmp 79)) (y := (.tmp 80)) (t := 27) (t2 := 27) (xs := #[.int .i64 r7.2.Code, .int .i64 r7.2.At]) (ys := #[.int .i64 r5.Code, .int .i64 r5.At]) (r := (SFault.eqb r7.2 r5)) (v := !(SFault.eqb r7.2 r5)) (by kernel_rfl) (by kernel_rfl) (by kernel_rfl) (by kernel_rfl) (by kernel_rfl) rfl ?_
      refine ge_batch [13, 14] (ans := []) (vs := [(83, .bool (!(SFault.eqb r7.2 r5))), (82, .bool (!(SFault.eqb r7.2 r5)))]) (l := []) (by kernel_rfl) trivial ?_
      by_cases hc10 : (SFault.eqb r7.2 r5) = true
      · rw [if_pos hc10] at h
        refine ge_known (t := 83) (b := !(SFault.eqb r7.2 r5)) (c := false) (by kernel_rfl) (congrArg (fun z => !z) hc10) ?_
        refine ge_batch [15, 16, 17] (ans := [.val (.int .i64 (-9)), .val (.int .i64 0)]) (vs := [(86, .agg #[.int .i64 (-9), .int .i64 0]), (85, .slice A0 l0.length c0), (84, .slice Z4 l0.length cz4)]) (l := [.loaded ⟨0, 0, none⟩ (.int .i64 (-9)), .loaded ⟨0, 1, none⟩ (.int .i64 0)]) (by kernel_rfl) ⟨hS71.glob hG0 rfl, hS71.glob hG0 rfl, trivial⟩ ?_
        rcases hq16 : punctualsame_Still_api_Act.f K (l0 ++ [(⟨(-9), 0⟩ : SAct), (⟨(-9), 0⟩ : SAct), (⟨(-9), 0⟩ : SAct)]) l0 (⟨(-9), 0⟩ : SAct) with _ | r9
        · rw [hq16] at h; cases h
        rw [hq16] at h
        simp only [] at h
        refine ge_call (d := some 87) (f := 19) (args := #[.slice Z4 l0.length cz4, .slice A0 l0.length c0, .agg #[.int .i64 (-9), .int .i64 0]]) (by kernel_rfl) (punctualsame_Still_api_Act_ok K (l0 ++ [(⟨(-9), 0⟩ : SAct), (⟨(-9), 0⟩ : SAct), (⟨(-9), 0⟩ : SAct)]) Z4 l0.length cz4 l0 A0 c0 (⟨(-9), 0⟩ : SAct) _ (hS71.rdAt 2 rfl) hcp1 (hS71.rd hR0) hL0 _ hq16) ?_
        rintro _ w24 ⟨rfl, hS72⟩
        refine ⟨_, rfl, hS72.below, ?_⟩
        have hS73 := hS71.call hS72
        refine ge_batch [19, 20] (ans := []) (vs := [(89, .bool (!r9)), (88, .bool (!r9))]) (l := []) (by kernel_rfl) trivial ?_
        refine ge_nil fun a hF => hK21 _ _ ?_ a hF
        by_cases hc11 : r9 = true
        · rw [if_pos hc11] at h
          refine we_known (t := 89) (b := !r9) (v := false) (by kernel_rfl) (congrArg (fun z => !z) hc11) ?_
          refine we_false (by kernel_rfl) ?_
          have hS74 := hS73.bring 3 rfl
          have hS75 := hS74.bring 2 rfl
          have hS76 := hS75.bring 2 rfl
          have hS77 := hS76.takeN 3
          obtain rfl := Option.some.inj h
          exact we_skip fun a hF => hQ _ _ _ (Outs.again ⟨ft13, wf13, (Sub.refl _), hS77, hF.weaken ⟨by kernel_rfl, by kernel_rfl, by kernel_rfl, trivial⟩⟩)
        · rw [if_neg hc11] at h
          refine we_known (t := 89) (b := !r9) (v := true) (by kernel_rfl) (congrArg (fun z => !z) (Bool.eq_false_iff.2 hc11)) ?_
          refine we_true (by kernel_rfl) ?_
          refine we_seq fun K22 hK22 => ?_
          refine we_region [(0, 0)] rfl ?_
          refine ge_batch [0] (ans := []) (vs := [(4, .bool false)]) (l := []) (by kernel_rfl) trivial ?_
          refine ge_nil fun a hF => hK22 _ _ ?_ a hF
          have hS78 := hS73.takeN 0
          obtain rfl := Option.some.inj h
          exact we_ret fun a hF => hQ _ _ _ (Outs.out nofun ⟨rfl, (post_ret (rs := [.tmp 4]) (ans := []) (vs := [.bool false]) (l := []) rfl (by kernel_rfl) trivial ⟨rfl, hS78⟩) a hF⟩)
      · rw [if_neg hc10] at h
        refine ge_known (t := 83) (b := !(SFault.eqb r7.2 r5)) (c := true) (by kernel_rfl) (congrArg (fun z => !z) (Bool.eq_false_iff.2 hc10)) ?_
        refine ge_batch [15, 16, 17] (ans := []) (vs := [(86, undef), (85, undef), (84, undef)]) (l := []) (by kernel_rfl) trivial ?_
        refine ge_off rfl rfl rfl (by kernel_rfl) ?_
        refine ge_batch [19, 20] (ans := []) (vs := [(89, .bool true), (88, undef)]) (l := []) (by kernel_rfl) trivial ?_
        refine ge_nil fun a hF => hK21 _ _ ?_ a hF
        refine we_true (by kernel_rfl) ?_
        refine we_seq fun K23 hK23 => ?_
        refine we_region [(0, 0)] rfl ?_
        refine ge_batch [0] (ans := []) (vs := [(4, .bool false)]) (l := []) (by kernel_rfl) trivial ?_
        refine ge_nil fun a hF => hK23 _ _ ?_ a hF
        have hS79 := hS71.takeN 0
        obtain rfl := Option.some.inj h
        exact we_ret fun a hF => hQ _ _ _ (Outs.out nofun ⟨rfl, (post_ret (rs := [.tmp 4]) (ans := []) (vs := [.bool false]) (l := []) rfl (by kernel_rfl) trivial ⟨rfl, hS79⟩) a hF⟩)
    · rw [if_neg hc9] at h
      refine ge_known (t := 78) (b := (r7.1 != z2)) (c := true) (by kernel_rfl) (bne_iff_ne.2 hc9) ?_
      refine ge_batch [10, 11, 12, 13, 14, 15, 16, 17] (ans := []) (vs := [(86, undef), (85, undef), (84, undef), (83, .bool true), (82, .bool true), (81, undef), (80, undef), (79, undef)]) (l := []) (by kernel_rfl) trivial ?_
      refine ge_off rfl rfl rfl (by kernel_rfl) ?_
      refine ge_batch [19, 20] (ans := []) (vs := [(89, .bool true), (88, undef)]) (l := []) (by kernel_rfl) trivial ?_
      refine ge_nil fun a hF => hK21 _ _ ?_ a hF
      refine we_true (by kernel_rfl) ?_
      refine we_seq fun K24 hK24 => ?_
      refine we_region [(0, 0)] rfl ?_
      refine ge_batch [0] (ans := []) (vs := [(4, .bool false)]) (l := []) (by kernel_rfl) trivial ?_
      refine ge_nil fun a hF => hK24 _ _ ?_ a hF
      have hS80 := hS71.takeN 0
      obtain rfl := Option.some.inj h
      exact we_ret fun a hF => hQ _ _ _ (Outs.out nofun ⟨rfl, (post_ret (rs := [.tmp 4]) (ans := []) (vs := [.bool false]) (l := []) rfl (by kernel_rfl) trivial ⟨rfl, hS80⟩) a hF⟩)
  · rw [if_neg hc8] at h
    refine ge_known (t := 73) (b := !(SFault.eqb r8 r5)) (c := true) (by kernel_rfl) (congrArg (fun z => !z) (Bool.eq_false_iff.2 hc8)) ?_
    refine ge_batch [5, 6, 7, 8, 9, 10, 11, 12, 13, 14, 15, 16, 17] (ans := []) (vs := [(86, undef), (85, undef), (84, undef), (83, .bool true), (82, .bool true), (81, undef), (80, undef), (79, undef), (78, .bool true), (77, .bool true), (76, undef), (75, undef), (74, undef)]) (l := []) (by kernel_rfl) trivial ?_
    refine ge_off rfl rfl rfl (by kernel_rfl) ?_
    refine ge_batch [19, 20] (ans := []) (vs := [(89, .bool true), (88, undef)]) (l := []) (by kernel_rfl) trivial ?_
    refine ge_nil fun a hF => hK21 _ _ ?_ a hF
    refine we_true (by kernel_rfl) ?_
    refine we_seq fun K25 hK25 => ?_
    refine we_region [(0, 0)] rfl ?_
    refine ge_batch [0] (ans := []) (vs := [(4, .bool false)]) (l := []) (by kernel_rfl) trivial ?_
    refine ge_nil fun a hF => hK25 _ _ ?_ a hF
    have hS81 := hS71.takeN 0
    obtain rfl := Option.some.inj h
    exact we_ret fun a hF => hQ _ _ _ (Outs.out nofun ⟨rfl, (post_ret (rs := [.tmp 4]) (ans := []) (vs := [.bool false]) (l := []) rfl (by kernel_rfl) trivial ⟨rfl, hS81⟩) a hF⟩)
theorem LocksChecks_ok (K : Nat) (Z : Zone) (l0 : List SAct) (A0 : Option Addr) (c0 : Nat) (l1 : List SLocked) (A1 : Option Addr) (c1 : Nat) (w0 : World) (hZ : ∀ w, Sub w0 w → Z w) (hR0 : RdL w0 A0 l0) (hL0 : l0.length ≤ c0) (hR1 : RdZ Z A1 l1) (hL1 : l1.length ≤ c1) (hG0 : Glob w0 0 [.int .i64 (-9), .int .i64 0]) (r : Bool) (h : LocksChecks.f K l0 l1 = some r) :
    Calls Tryd.prog 3 #[.slice A0 l0.length c0, .slice A1 l1.length c1] w0 (LocksChecks.Post w0 r) := by
  have hS := St.start w0
  unfold LocksChecks.f at h
  refine calls_enter (n := 128) (args := [.slice A0 l0.length c0, .slice A1 l1.length c1]) (fn := Tryd.f3) rfl rfl rfl rfl ?_
  show WE _ _ _ _ [(0, .slice A0 l0.length c0), (1, .slice A1 l1.length c1)] _
  obtain ⟨ft1, wf1, hS1⟩ := hS.frz0
  refine we_seq fun K1 hK1 => ?_
  refine we_region [(0, 0)] rfl ?_
  refine ge_batch [0] (ans := []) (vs := [(4, .bool false)]) (l := []) (by kernel_rfl) trivial ?_
  refine ge_nil fun a hF => hK1 _ _ ?_ a hF
  refine we_seq fun K2 hK2 => ?_
  refine we_region [(0, 1), (1, 1), (2, 0), (3, 0), (4, 0), (5, 1), (6, 0), (7, 2)] rfl ?_
  refine ge_call (d := some 14) (f := 11) (args := #[]) (by kernel_rfl) (pair_ok (Zand Z wf1) _ (fun w' k => ⟨(hZ w' (hS1.subw.trans k)), (hS1.frzSub 0 rfl).trans k⟩) _ rfl) ?_
  rintro _ w1 ⟨v1, hds1, ft2, wf2, rfl, hd1, hS2⟩
  refine ⟨_, rfl, hS2.below, ?_⟩
  have hS3 := hS1.call hS2
  have hS4 := hS3.bring 2 rfl
  have hS5 := hS4.bring 2 rfl
  obtain ⟨ft3, wf3, hsb1, hsb2, hS6⟩ := hS5.frzMerge
  replace hd1 : DRows (Zand Z wf3) hds1 pair.f := hd1.up (ZLe.both hsb2 hsb1)
  obtain ⟨Z1, cz1, rfl⟩ := hS6.dopen 1 rfl hd1
  have hS7 := hS6.bring 1 rfl
  obtain ⟨ft4, wf4, hsb3, -, hRd1, hLd1, hS8⟩ := hS7.dfrz (Z := Z) hd1
  rcases hq2 : locks_Ceilings.f K pair.f with _ | r1
  · rw [hq2] at h; cases h
  rw [hq2] at h
  simp only [] at h
  refine ge_call (d := some 15) (f := 10) (args := #[.slice Z1 pair.f.length cz1]) (by kernel_rfl) (locks_Ceilings_ok K (Zand Z wf4) pair.f Z1 cz1 _ (fun w' k => ⟨(hZ w' (hS8.subw.trans k)), (hS8.frzSub 0 rfl).trans k⟩) hRd1 hLd1 _ hq2) ?_
  rintro _ w2 ⟨v2, rfl, hS9⟩
  refine ⟨_, rfl, hS9.below, ?_⟩
  have hS10 := hS8.call hS9
  refine ge_batch [2, 3, 4] (ans := []) (vs := [(17, .agg #[.int .i64 r1.2.Code, .int .i64 r1.2.At]), (16, v2), (13, .tuple #[v2, .agg #[.int .i64 r1.2.Code, .int .i64 r1.2.At]])]) (l := []) (by kernel_rfl) trivial ?_
  refine ge_new (d := some 6) (o := .cells #[.int .i64 0, .int .i64 0] 27) (v := fun b => .pointer (some ⟨b, 0, none⟩)) hS10 (fun b => by kernel_rfl) fun b1 w3 hx1 hS11 => ?_
  refine ge_batch [6] (ans := []) (vs := [(5, v2)]) (l := []) (by kernel_rfl) trivial ?_
  refine ge_set (b := b1) (j := 0) (cs := #[.int .i64 0, .int .i64 0]) (t := 27) (vs := [.int .i64 r1.2.Code, .int .i64 r1.2.At]) hS11 (by kernel_rfl) rfl rfl fun w4 hS12 => ?_
  have hS13 := hS12.nc #[.int .i64 r1.2.Code, .int .i64 r1.2.At] rfl
  refine ge_nil fun a hF => hK2 _ _ ?_ a hF
  refine we_seq fun K3 hK3 => ?_
  refine we_region [(0, 1), (1, 0), (2, 0), (3, 0), (4, 1), (5, 0), (6, 0), (7, 0), (8, 1), (9, 0), (10, 2)] rfl ?_
  refine ge_call (d := some 19) (f := 11) (args := #[]) (by kernel_rfl) (pair_ok (Zand Z wf4) _ (fun w' k => ⟨(hZ w' (hS13.subw.trans k)), (hS13.frzSub 2 rfl).trans k⟩) _ rfl) ?_
  rintro _ w5 ⟨v3, hds2, ft5, wf5, rfl, hd2, hS14⟩
  refine ⟨_, rfl, hS14.below, ?_⟩
  have hS15 := hS13.call hS14
  have hS16 := hS15.bring 4 rfl
  have hS17 := hS16.bring 2 rfl
  obtain ⟨ft6, wf6, hsb4, hsb5, hS18⟩ := hS17.frzMerge
  replace hd2 : DRows (Zand Z wf6) hds2 pair.f := hd2.up (ZLe.both hsb5 hsb4)
  obtain ⟨Z2, cz2, rfl⟩ := hS18.dopen 1 rfl hd2
  have hS19 := hS18.bring 1 rfl
  obtain ⟨ft7, wf7, hsb6, -, hRd2, hLd2, hS20⟩ := hS19.dfrz (Z := Z) hd2
  rcases hx2 : pair.f[0]? with _ | e1
  · rw [hx2] at h; cases h
  rw [hx2] at h
  simp only [] at h
  obtain ⟨An1, cn1, hCs1, hLn1, hRn1⟩ := SLocked.getZ hRd2 hx2
  refine ge_index (d := 20) (ty := 0) (t := 23) (el := 34) (sz := 3) (m := pair.f.length) (c := cz2) (x := (.tmp 19)) (y := (.const (.int .i64 0))) (A := Z2) (k' := .i64) (j := 0) (jn := 0) (b0 := blkOf Z2) (o0 := offOf Z2) (by kernel_rfl) (by kernel_rfl) (by kernel_rfl) (by kernel_rfl) (by kernel_rfl) (hRd2.eqSome ⟨(hZ _ hS20.subw), (hS20.frzSub 0 rfl)⟩ (pos_of_get hx2)) rfl (lt_of_get hx2) ?_
  rcases hq4 : locks_Longest.f K e1.Acts with _ | r2
  · rw [hq4] at h; cases h
  rw [hq4] at h
  simp only [] at h
  refine ge_batch [2, 3] (ans := [.val (.slice An1 e1.Acts.length cn1)]) (vs := [(22, .slice An1 e1.Acts.length cn1), (21, .pointer (some ⟨blkOf Z2, offOf Z2 + 0 * 3 + 2, none⟩))]) (l := [.loaded ⟨blkOf Z2, offOf Z2 + 0 * 3 + 2, none⟩ (.slice An1 e1.Acts.length cn1)]) (by kernel_rfl) ⟨hCs1 _ ⟨(hZ _ hS20.subw), (hS20.frzSub 0 rfl)⟩ 2 _ rfl, trivial⟩ ?_
  refine ge_call (d := some 23) (f := 12) (args := #[.slice An1 e1.Acts.length cn1]) (by kernel_rfl) (locks_Longest_ok K e1.Acts An1 cn1 _ (hRn1 _ ⟨(hZ _ hS20.subw), (hS20.frzSub 0 rfl)⟩) hLn1 _ hq4) ?_
  rintro _ w6 ⟨rfl, hS21⟩
  refine ⟨_, rfl, hS21.below, ?_⟩
  have hS22 := hS20.call hS21
  refine ge_batch [5, 6, 7] (ans := []) (vs := [(25, .agg #[.int .i64 r2.2.Code, .int .i64 r2.2.At]), (24, .int .i64 r2.1), (18, .tuple #[.int .i64 r2.1, .agg #[.int .i64 r2.2.Code, .int .i64 r2.2.At]])]) (l := []) (by kernel_rfl) trivial ?_
  refine ge_new (d := some 8) (o := .cells #[.int .i64 0, .int .i64 0] 27) (v := fun b => .pointer (some ⟨b, 0, none⟩)) hS22 (fun b => by kernel_rfl) fun b2 w7 hx3 hS23 => ?_
  refine ge_batch [9] (ans := []) (vs := [(7, .int .i64 r2.1)]) (l := []) (by kernel_rfl) trivial ?_
  refine ge_set (b := b2) (j := 0) (cs := #[.int .i64 0, .int .i64 0]) (t := 27) (vs := [.int .i64 r2.2.Code, .int .i64 r2.2.At]) hS23 (by kernel_rfl) rfl rfl fun w8 hS24 => ?_
  have hS25 := hS24.nc #[.int .i64 r2.2.Code, .int .i64 r2.2.At] rfl
  refine ge_nil fun a hF => hK3 _ _ ?_ a hF
  refine we_seq fun K4 hK4 => ?_
  obtain ⟨Z3, cz3, rfl⟩ := hS25.open 3 rfl
  rcases hq6 : LocksChecks.p0 K r1 r2 with _ | (_ | rr4)
  · rw [hq6] at h; cases h
  · rw [hq6] at h
    simp only [] at h
    refine we_keep (e' := [(0, .slice A0 l0.length c0), (1, .slice A1 l1.length c1), (4, .bool false), (5, (.slice Z3 r1.1.length cz3)), (6, .pointer (some ⟨b1, 0, none⟩)), (7, .int .i64 r2.1), (8, .pointer (some ⟨b2, 0, none⟩)), (13, .tuple #[(.slice Z3 r1.1.length cz3), .agg #[.int .i64 r1.2.Code, .int .i64 r1.2.At]]), (14, .slice Z1 pair.f.length cz1), (15, .tuple #[(.slice Z3 r1.1.length cz3), .agg #[.int .i64 r1.2.Code, .int .i64 r1.2.At]]), (16, (.slice Z3 r1.1.length cz3)), (17, .agg #[.int .i64 r1.2.Code, .int .i64 r1.2.At]), (18, .tuple #[.int .i64 r2.1, .agg #[.int .i64 r2.2.Code, .int .i64 r2.2.At]]), (19, .slice Z2 pair.f.length cz2), (20, .pointer (some ⟨blkOf Z2, offOf Z2 + 0 * 3, none⟩)), (21, .pointer (some ⟨blkOf Z2, offOf Z2 + 0 * 3 + 2, none⟩)), (22, .slice An1 e1.Acts.length cn1), (23, .tuple #[.int .i64 r2.1, .agg #[.int .i64 r2.2.Code, .int .i64 r2.2.At]]), (24, .int .i64 r2.1), (25, .agg #[.int .i64 r2.2.Code, .int .i64 r2.2.At])]) ⟨by kernel_rfl, by kernel_rfl, by kernel_rfl, by kernel_rfl, by kernel_rfl, by kernel_rfl, by kernel_rfl, by kernel_rfl, by kernel_rfl, by kernel_rfl, by kernel_rfl, by kernel_rfl, by kernel_rfl, by kernel_rfl, by kernel_rfl, by kernel_rfl, by kernel_rfl, by kernel_rfl, by kernel_rfl, by kernel_rfl, trivial⟩ (LocksChecks_p0 K w0 Z l0 A0 c0 l1 A1 c1 hZ hR0 hL0 hR1 hL1 hG0 ft1 wf1 hds1 ft2 wf2 ft3 wf3 hsb1 hsb2 hd1 Z1 cz1 ft4 wf4 hsb3 hRd1 hLd1 r1 b1 hds2 ft5 wf5 ft6 wf6 hsb4 hsb5 hd2 Z2 cz2 ft7 wf7 hsb6 hRd2 hLd2 e1 hx2 An1 cn1 hCs1 hLn1 hRn1 r2 b2 Z3 cz3 _ hq6 _ hS25 _ ?_)
    rintro _ a w11 ⟨rfl, ft9, wf9, hRz1, hS36, hF⟩
    replace hS36 : St w0 w11 [Own.blk b1 (.cells #[.int .i64 r1.2.Code, .int .i64 r1.2.At] 27 (0, 0)), Own.frz ft9 wf9] := hS36
    refine hK4 [(0, .slice A0 l0.length c0), (1, .slice A1 l1.length c1), (6, .pointer (some ⟨b1, 0, none⟩))] w11 ?_ a hF
    refine we_seq fun K10 hK10 => ?_
    rcases hq9 : LocksChecks.p1 l0 l1 with _ | (_ | rr3)
    · rw [hq9] at h; cases h
    · rw [hq9] at h
      simp only [] at h
      refine we_keep (e' := [(0, .slice A0 l0.length c0), (1, .slice A1 l1.length c1), (6, .pointer (some ⟨b1, 0, none⟩))]) ⟨by kernel_rfl, by kernel_rfl, by kernel_rfl, trivial⟩ (LocksChecks_p1 K w0 Z l0 A0 c0 l1 A1 c1 hZ hR0 hL0 hR1 hL1 hG0 ft1 wf1 hds1 ft2 wf2 ft3 wf3 hsb1 hsb2 hd1 Z1 cz1 ft4 wf4 hsb3 hRd1 hLd1 r1 b1 hds2 ft5 wf5 ft6 wf6 hsb4 hsb5 hd2 Z2 cz2 ft7 wf7 hsb6 hRd2 hLd2 e1 hx2 An1 cn1 hCs1 hLn1 hRn1 r2 b2 Z3 cz3 ft9 wf9 hRz1 _ hq9 _ hS36 _ ?_)
      rintro _ a w14 ⟨rfl, ft11, wf11, hRz2, hS45, hF⟩
      replace hS45 : St w0 w14 [Own.blk b1 (.cells #[.int .i64 r1.2.Code, .int .i64 r1.2.At] 27 (0, 0)), Own.frz ft11 wf11] := hS45
      refine hK10 [(0, .slice A0 l0.length c0), (1, .slice A1 l1.length c1), (6, .pointer (some ⟨b1, 0, none⟩))] w14 ?_ a hF
      refine we_seq fun K14 hK14 => ?_
      refine we_region [(0, 0), (1, 0), (2, 1), (3, 0)] rfl ?_
      refine ge_batch [0, 1] (ans := [.val (.int .i64 (-9)), .val (.int .i64 0)]) (vs := [(55, .agg #[.int .i64 (-9), .int .i64 0]), (54, .slice A0 l0.length c0)]) (l := [.loaded ⟨0, 0, none⟩ (.int .i64 (-9)), .loaded ⟨0, 1, none⟩ (.int .i64 0)]) (by kernel_rfl) ⟨hS45.glob hG0 rfl, hS45.glob hG0 rfl, trivial⟩ ?_
      rcases hq10 : punctualsame_Lend_api_Act.f l0 (⟨(-9), 0⟩ : SAct) with _ | r4
      · rw [hq10] at h; cases h
      rw [hq10] at h
      simp only [] at h
      obtain rfl := punctualsame_Lend_api_Act_full _ _ hq10
      refine ge_call (d := some 56) (f := 15) (args := #[.slice A0 l0.length c0, .agg #[.int .i64 (-9), .int .i64 0]]) (by kernel_rfl) (punctualsame_Lend_api_Act_ok l0 A0 c0 (⟨(-9), 0⟩ : SAct) _ (hS45.rd hR0) hL0 _ hq10) ?_
      rintro _ w15 ⟨Z4, cz4, rfl, hcp1, hS46⟩
      refine ⟨_, rfl, hS46.below, ?_⟩
      have hS47 := hS45.call hS46
      refine ge_batch [3] (ans := []) (vs := [(9, .slice Z4 l0.length cz4)]) (l := []) (by kernel_rfl) trivial ?_
      refine ge_nil fun a hF => hK14 _ _ ?_ a hF
      refine we_seq fun K15 hK15 => ?_
      refine we_region [(0, 0), (1, 1), (2, 1), (3, 2)] rfl ?_
      rcases hq11 : punctualref_CheckActs.f K l0 with _ | r5
      · rw [hq11] at h; cases h
      rw [hq11] at h
      simp only [] at h
      refine ge_batch [0] (ans := []) (vs := [(57, .slice A0 l0.length c0)]) (l := []) (by kernel_rfl) trivial ?_
      refine ge_call (d := some 58) (f := 16) (args := #[.slice A0 l0.length c0]) (by kernel_rfl) (punctualref_CheckActs_ok K l0 A0 c0 _ (hS47.rd hR0) hL0 _ hq11) ?_
      rintro _ w16 ⟨rfl, hS48⟩
      refine ⟨_, rfl, hS48.below, ?_⟩
      have hS49 := hS47.call hS48
      refine ge_new (d := some 10) (o := .cells #[.int .i64 0, .int .i64 0] 27) (v := fun b => .pointer (some ⟨b, 0, none⟩)) hS49 (fun b => by kernel_rfl) fun b4 w17 hx5 hS50 => ?_
      refine ge_set (b := b4) (j := 0) (cs := #[.int .i64 0, .int .i64 0]) (t := 27) (vs := [.int .i64 r5.Code, .int .i64 r5.At]) hS50 (by kernel_rfl) rfl rfl fun w18 hS51 => ?_
      have hS52 := hS51.nc #[.int .i64 r5.Code, .int .i64 r5.At] rfl
      refine ge_nil fun a hF => hK15 _ _ ?_ a hF
      refine we_seq fun K16 hK16 => ?_
      refine we_region [(0, 0)] rfl ?_
      refine ge_batch [0] (ans := []) (vs := [(11, .int .i64 0)]) (l := []) (by kernel_rfl) trivial ?_
      refine ge_nil fun a hF => hK16 _ _ ?_ a hF
      refine we_seq fun K17 hK17 => ?_
      rcases hq13 : LocksChecks.p2 K l0 r5 with _ | (z2 | rr2)
      · rw [hq13] at h; cases h
      · rw [hq13] at h
        simp only [] at h
        refine we_keep (e' := [(0, .slice A0 l0.length c0), (1, .slice A1 l1.length c1), (6, .pointer (some ⟨b1, 0, none⟩)), (9, .slice Z4 l0.length cz4), (10, .pointer (some ⟨b4, 0, none⟩)), (11, .int .i64 0), (54, .slice A0 l0.length c0), (55, .agg #[.int .i64 (-9), .int .i64 0]), (56, .slice Z4 l0.length cz4), (57, .slice A0 l0.length c0), (58, .agg #[.int .i64 r5.Code, .int .i64 r5.At])]) ⟨by kernel_rfl, by kernel_rfl, by kernel_rfl, by kernel_rfl, by kernel_rfl, by kernel_rfl, by kernel_rfl, by kernel_rfl, by kernel_rfl, by kernel_rfl, by kernel_rfl, trivial⟩ (LocksChecks_p2 K w0 Z l0 A0 c0 l1 A1 c1 hZ hR0 hL0 hR1 hL1 hG0 ft1 wf1 hds1 ft2 wf2 ft3 wf3 hsb1 hsb2 hd1 Z1 cz1 ft4 wf4 hsb3 hRd1 hLd1 r1 b1 hds2 ft5 wf5 ft6 wf6 hsb4 hsb5 hd2 Z2 cz2 ft7 wf7 hsb6 hRd2 hLd2 e1 hx2 An1 cn1 hCs1 hLn1 hRn1 r2 b2 Z3 cz3 ft9 wf9 hRz1 ft11 wf11 hRz2 Z4 cz4 hcp1 r5 b4 _ hq13 _ hS52 _ ?_)
        rintro _ a w20 ⟨rfl, ft13, wf13, hRz3, hS63, hF⟩
        replace hS63 : St w0 w20 [Own.blk b4 (.cells #[.int .i64 r5.Code, .int .i64 r5.At] 27 (0, 0)), Own.blk b1 (.cells #[.int .i64 r1.2.Code, .int .i64 r1.2.At] 27 (0, 0)), Own.of (.slice Z4 (l0 ++ [(⟨(-9), 0⟩ : SAct), (⟨(-9), 0⟩ : SAct), (⟨(-9), 0⟩ : SAct)]).length cz4) 39 (l0 ++ [(⟨(-9), 0⟩ : SAct), (⟨(-9), 0⟩ : SAct), (⟨(-9), 0⟩ : SAct)]), Own.frz ft13 wf13] := hS63
        refine hK17 [(0, .slice A0 l0.length c0), (1, .slice A1 l1.length c1), (6, .pointer (some ⟨b1, 0, none⟩)), (9, .slice Z4 l0.length cz4), (10, .pointer (some ⟨b4, 0, none⟩)), (11, .int .i64 z2)] w20 ?_ a hF
        refine we_seq fun K19 hK19 => ?_
        refine we_region [(0, 0), (1, 1), (2, 0), (3, 0), (4, 0), (5, 0), (6, 2)] rfl ?_
        rcases hq14 : locks_Longest.f K l0 with _ | r7
        · rw [hq14] at h; cases h
        rw [hq14] at h
        simp only [] at h
        refine ge_batch [0] (ans := []) (vs := [(65, .slice Z4 l0.length cz4)]) (l := []) (by kernel_rfl) trivial ?_
        refine ge_call (d := some 66) (f := 12) (args := #[.slice Z4 l0.length cz4]) (by kernel_rfl) (locks_Longest_ok K l0 Z4 cz4 _ ((hS63.rdAt 2 rfl).pre) (by have h0 := hcp1; simp only [List.length_append, List.length_cons, List.length_nil] at h0; omega) _ hq14) ?_
        rintro _ w21 ⟨rfl, hS64⟩
        refine ⟨_, rfl, hS64.below, ?_⟩
        have hS65 := hS63.call hS64
        refine ge_batch [2, 3, 4, 5] (ans := []) (vs := [(7, .int .i64 r7.1), (68, .agg #[.int .i64 r7.2.Code, .int .i64 r7.2.At]), (67, .int .i64 r7.1), (64, .tuple #[.int .i64 r7.1, .agg #[.int .i64 r7.2.Code, .int .i64 r7.2.At]])]) (l := []) (by kernel_rfl) trivial ?_
        have hS66 := hS65.bring 1 rfl
        refine ge_set (b := b1) (j := 0) (cs := #[.int .i64 r1.2.Code, .int .i64 r1.2.At]) (t := 27) (vs := [.int .i64 r7.2.Code, .int .i64 r7.2.At]) hS66 (by kernel_rfl) rfl rfl fun w22 hS67 => ?_
        have hS68 := hS67.nc #[.int .i64 r7.2.Code, .int .i64 r7.2.At] rfl
        refine ge_nil fun a hF => hK19 _ _ ?_ a hF
        refine we_seq fun K20 hK20 => ?_
        rcases hq17 : LocksChecks.p3 K l0 r5 z2 r7 with _ | (_ | rr1)
        · rw [hq17] at h; cases h
        · rw [hq17] at h
          simp only [] at h
          refine we_keep (e' := [(0, .slice A0 l0.length c0), (1, .slice A1 l1.length c1), (6, .pointer (some ⟨b1, 0, none⟩)), (7, .int .i64 r7.1), (9, .slice Z4 l0.length cz4), (10, .pointer (some ⟨b4, 0, none⟩)), (11, .int .i64 z2), (64, .tuple #[.int .i64 r7.1, .agg #[.int .i64 r7.2.Code, .int .i64 r7.2.At]]), (65, .slice Z4 l0.length cz4), (66, .tuple #[.int .i64 r7.1, .agg #[.int .i64 r7.2.Code, .int .i64 r7.2.At]]), (67, .int .i64 r7.1), (68, .agg #[.int .i64 r7.2.Code, .int .i64 r7.2.At])]) ⟨by kernel_rfl, by kernel_rfl, by kernel_rfl, by kernel_rfl, by kernel_rfl, by kernel_rfl, by kernel_rfl, by kernel_rfl, by kernel_rfl, by kernel_rfl, by kernel_rfl, by kernel_rfl, trivial⟩ (LocksChecks_p3 K w0 Z l0 A0 c0 l1 A1 c1 hZ hR0 hL0 hR1 hL1 hG0 ft1 wf1 hds1 ft2 wf2 ft3 wf3 hsb1 hsb2 hd1 Z1 cz1 ft4 wf4 hsb3 hRd1 hLd1 r1 b1 hds2 ft5 wf5 ft6 wf6 hsb4 hsb5 hd2 Z2 cz2 ft7 wf7 hsb6 hRd2 hLd2 e1 hx2 An1 cn1 hCs1 hLn1 hRn1 r2 b2 Z3 cz3 ft9 wf9 hRz1 ft11 wf11 hRz2 Z4 cz4 hcp1 r5 b4 ft13 wf13 z2 hRz3 r7 _ hq17 _ hS68 _ ?_)
          rintro _ a w25 ⟨rfl, ft15, wf15, hRz4, hS82, hF⟩
          replace hS82 : St w0 w25 [Own.blk b1 (.cells #[.int .i64 r7.2.Code, .int .i64 r7.2.At] 27 (0, 0)), Own.blk b4 (.cells #[.int .i64 r5.Code, .int .i64 r5.At] 27 (0, 0)), Own.frz ft15 wf15] := hS82
          refine hK20 [(1, .slice A1 l1.length c1), (6, .pointer (some ⟨b1, 0, none⟩)), (10, .pointer (some ⟨b4, 0, none⟩))] w25 ?_ a hF
          refine we_seq fun K26 hK26 => ?_
          refine we_region [(0, 0), (1, 1), (2, 0)] rfl ?_
          rcases hq18 : punctualsame_Acts.f K l1 with _ | r10
          · rw [hq18] at h; cases h
          rw [hq18] at h
          simp only [] at h
          refine ge_batch [0] (ans := []) (vs := [(90, .slice A1 l1.length c1)]) (l := []) (by kernel_rfl) trivial ?_
          refine ge_call (d := some 91) (f := 20) (args := #[.slice A1 l1.length c1]) (by kernel_rfl) (punctualsame_Acts_ok K (Zand Z wf15) l1 A1 c1 _ (fun w' k => ⟨(hZ w' (hS82.subw.trans k)), (hS82.frzSub 2 rfl).trans k⟩) (hR1.up (ZLe.in _ _)) hL1 _ hq18) ?_
          rintro _ w26 ⟨v4, hds3, ft16, wf16, rfl, hd3, hS83⟩
          refine ⟨_, rfl, hS83.below, ?_⟩
          have hS84 := hS82.call hS83
          have hS85 := hS84.bring 4 rfl
          have hS86 := hS85.bring 2 rfl
          obtain ⟨ft17, wf17, hsb11, hsb12, hS87⟩ := hS86.frzMerge
          replace hd3 : DRows (Zand Z wf17) hds3 r10 := hd3.up (ZLe.both hsb12 hsb11)
          refine ge_batch [2] (ans := []) (vs := [(12, v4)]) (l := []) (by kernel_rfl) trivial ?_
          refine ge_nil fun a hF => hK26 _ _ ?_ a hF
          refine we_seq fun K27 hK27 => ?_
          refine we_region [(0, 0), (1, 1), (2, 0), (3, 0), (4, 0), (5, 0), (6, 2)] rfl ?_
          refine ge_batch [0] (ans := []) (vs := [(93, v4)]) (l := []) (by kernel_rfl) trivial ?_
          obtain ⟨Z5, cz5, rfl⟩ := hS87.dopen 1 rfl hd3
          have hS88 := hS87.bring 1 rfl
          obtain ⟨ft18, wf18, hsb13, -, hRd3, hLd3, hS89⟩ := hS88.dfrz (Z := Z) hd3
          rcases hq19 : locks_Ceilings.f K r10 with _ | r11
          · rw [hq19] at h; cases h
          rw [hq19] at h
          simp only [] at h
          refine ge_call (d := some 94) (f := 10) (args := #[.slice Z5 r10.length cz5]) (by kernel_rfl) (locks_Ceilings_ok K (Zand Z wf18) r10 Z5 cz5 _ (fun w' k => ⟨(hZ w' (hS89.subw.trans k)), (hS89.frzSub 0 rfl).trans k⟩) hRd3 hLd3 _ hq19) ?_
          rintro _ w27 ⟨v5, rfl, hS90⟩
          refine ⟨_, rfl, hS90.below, ?_⟩
          have hS91 := hS89.call hS90
          refine ge_batch [2, 3, 4, 5] (ans := []) (vs := [(5, v5), (96, .agg #[.int .i64 r11.2.Code, .int .i64 r11.2.At]), (95, v5), (92, .tuple #[v5, .agg #[.int .i64 r11.2.Code, .int .i64 r11.2.At]])]) (l := []) (by kernel_rfl) trivial ?_
          have hS92 := hS91.bring 2 rfl
          refine ge_set (b := b1) (j := 0) (cs := #[.int .i64 r7.2.Code, .int .i64 r7.2.At]) (t := 27) (vs := [.int .i64 r11.2.Code, .int .i64 r11.2.At]) hS92 (by kernel_rfl) rfl rfl fun w28 hS93 => ?_
          have hS94 := hS93.nc #[.int .i64 r11.2.Code, .int .i64 r11.2.At] rfl
          refine ge_nil fun a hF => hK27 _ _ ?_ a hF
          refine we_seq fun K28 hK28 => ?_
          refine we_region [(0, 0), (1, 1), (2, 2)] rfl ?_
          rcases hq20 : punctualref_CheckLocked.f K l1 with _ | r12
          · rw [hq20] at h; cases h
          rw [hq20] at h
          simp only [] at h
          refine ge_batch [0] (ans := []) (vs := [(97, .slice A1 l1.length c1)]) (l := []) (by kernel_rfl) trivial ?_
          refine ge_call (d := some 98) (f := 21) (args := #[.slice A1 l1.length c1]) (by kernel_rfl) (punctualref_CheckLocked_ok K (Zand Z wf18) l1 A1 c1 _ (fun w' k => ⟨(hZ w' (hS94.subw.trans k)), (hS94.frzSub 2 rfl).trans k⟩) (hR1.up (ZLe.in _ _)) hL1 _ hq20) ?_
          rintro _ w29 ⟨rfl, hS95⟩
          refine ⟨_, rfl, hS95.below, ?_⟩
          have hS96 := hS94.call hS95
          have hS97 := hS96.bring 3 rfl
          refine ge_set (b := b4) (j := 0) (cs := #[.int .i64 r5.Code, .int .i64 r5.At]) (t := 27) (vs := [.int .i64 r12.Code, .int .i64 r12.At]) hS97 (by kernel_rfl) rfl rfl fun w30 hS98 => ?_
          have hS99 := hS98.nc #[.int .i64 r12.Code, .int .i64 r12.At] rfl
          refine ge_nil fun a hF => hK28 _ _ ?_ a hF
          refine we_seq fun K29 hK29 => ?_
          refine we_region [(0, 0), (1, 0), (2, 0), (3, 0), (4, 0), (5, 0), (6, 0), (7, 0), (8, 0), (9, 0), (10, 0), (11, 0), (12, 0), (13, 0), (14, 0), (15, 0), (16, 0), (17, 0), (18, 0), (19, 1), (20, 1), (21, 0), (22, 0), (23, 0), (24, 0), (25, 0), (26, 0), (27, 1), (28, 0), (29, 0)] rfl ?_
          refine ge_batch [0, 1] (ans := [.val (.int .i64 r11.2.Code), .val (.int .i64 r11.2.At), .val (.int .i64 r12.Code), .val (.int .i64 r12.At)]) (vs := [(100, .agg #[.int .i64 r12.Code, .int .i64 r12.At]), (99, .agg #[.int .i64 r11.2.Code, .int .i64 r11.2.At])]) (l := [.loaded ⟨b1, 0, none⟩ (.int .i64 r11.2.Code), .loaded ⟨b1, 1, none⟩ (.int .i64 r11.2.At), .loaded ⟨b4, 0, none⟩ (.int .i64 r12.Code), .loaded ⟨b4, 1, none⟩ (.int .i64 r12.At)]) (by kernel_rfl) ⟨hS99.cell 1 rfl rfl, hS99.cell 1 rfl rfl, hS99.cell 0 rfl rfl, hS99.cell 0 rfl rfl, trivial⟩ ?_
          refine ge_eqs (d := 101) (ty := 4) (op := .eql) (x := (.tmp 99)) (y := (.tmp 100)) (t := 27) (t2 := 27) (xs := #[.int .i64 r11.2.Code, .int .i64 r11.2.At]) (ys := #[.int .i64 r12.Code, .int .i64 r12.At]) (r := (SFault.eqb r11.2 r12)) (v := (SFault.eqb r11.2 r12)) (by kernel_rfl) (by kernel_rfl) (by kernel_rfl) (by kernel_rfl) (by kernel_rfl) rfl ?_
          refine ge_batch [3] (ans := []) (vs := [(102, .bool (SFault.eqb r11.2 r12))]) (l := []) (by kernel_rfl) trivial ?_
          by_cases hc12 : (SFault.eqb r11.2 r12) = true
          · rw [if_pos hc12] at h
            refine ge_known (t := 102) (b := (SFault.eqb r11.2 r12)) (c := true) (by kernel_rfl) hc12 ?_
            refine ge_batch [4, 5, 6, 7] (ans := [.val (.int .i64 r12.Code)]) (vs := [(106, .bool (r12.Code != 0)), (105, .bool (r12.Code != 0)), (104, .int .i64 r12.Code), (103, .pointer (some ⟨b4, 0, none⟩))]) (l := [.loaded ⟨b4, 0, none⟩ (.int .i64 r12.Code)]) (by kernel_rfl) ⟨hS99.cell 0 rfl rfl, trivial⟩ ?_
            by_cases hc13 : r12.Code = 0
            · rw [if_pos hc13] at h
              refine ge_known (t := 106) (b := (r12.Code != 0)) (c := false) (by kernel_rfl) (bne_eq_false_iff_eq.2 hc13) ?_
              refine ge_batch [8, 9, 10, 11, 12, 13, 14, 15, 16] (ans := [.val (.int .i64 r12.Code)]) (vs := [(115, .bool (r12.Code == 0)), (114, .bool (r12.Code == 0)), (113, .int .i64 r12.Code), (112, .pointer (some ⟨b4, 0, none⟩)), (111, .bool false), (110, .bool false), (109, undef), (108, undef), (107, undef)]) (l := [.loaded ⟨b4, 0, none⟩ (.int .i64 r12.Code)]) (by kernel_rfl) ⟨hS99.cell 0 rfl rfl, trivial⟩ ?_
              refine ge_known (t := 115) (b := (r12.Code == 0)) (c := true) (by kernel_rfl) (beq_iff_eq.2 hc13) ?_
              rcases hq21 : punctualref_Tops.f K l1 with _ | r13
              · rw [hq21] at h; cases h
              rw [hq21] at h
              simp only [] at h
              refine ge_batch [17, 18] (ans := []) (vs := [(117, .slice A1 l1.length c1), (116, v5)]) (l := []) (by kernel_rfl) trivial ?_
              refine ge_call (d := some 118) (f := 22) (args := #[.slice A1 l1.length c1]) (by kernel_rfl) (punctualref_Tops_ok K (Zand Z wf18) l1 A1 c1 _ (fun w' k => ⟨(hZ w' (hS99.subw.trans k)), (hS99.frzSub 3 rfl).trans k⟩) (hR1.up (ZLe.in _ _)) hL1 _ hq21) ?_
              rintro _ w31 ⟨v6, rfl, hS100⟩
              refine ⟨_, rfl, hS100.below, ?_⟩
              have hS101 := hS99.call hS100
              obtain ⟨Z6, cz6, rfl⟩ := hS101.open 3 rfl
              obtain ⟨Z7, cz7, rfl⟩ := hS101.open 0 rfl
              rcases hq22 : punctualsame_Same_int.f K r11.1 r13 with _ | r14
              · rw [hq22] at h; cases h
              rw [hq22] at h
              simp only [] at h
              refine ge_call (d := some 119) (f := 13) (args := #[(.slice Z6 r11.1.length cz6), (.slice Z7 r13.length cz7)]) (by kernel_rfl) (punctualsame_Same_int_ok K r11.1 Z6 cz6 r13 Z7 cz7 _ (hS101.rdAt 3 rfl) (hS101.capAt 3 rfl) (hS101.rdAt 0 rfl) (hS101.capAt 0 rfl) _ hq22) ?_
              rintro _ w32 ⟨rfl, hS102⟩
              refine ⟨_, rfl, hS102.below, ?_⟩
              have hS103 := hS101.call hS102
              refine ge_batch [21, 22, 23, 24] (ans := []) (vs := [(123, .bool r14), (122, .bool r14), (121, .bool r14), (120, .bool r14)]) (l := []) (by kernel_rfl) trivial ?_
              by_cases hc14 : r14 = true
              · rw [if_pos hc14] at h
                refine ge_known (t := 123) (b := r14) (c := true) (by kernel_rfl) hc14 ?_
                rcases hq23 : punctualsame_SameActs.f K r10 l1 with _ | r15
                · rw [hq23] at h; cases h
                rw [hq23] at h
                simp only [] at h
                refine ge_batch [25, 26] (ans := []) (vs := [(125, .slice A1 l1.length c1), (124, .slice Z5 r10.length cz5)]) (l := []) (by kernel_rfl) trivial ?_
                refine ge_call (d := some 126) (f := 23) (args := #[.slice Z5 r10.length cz5, .slice A1 l1.length c1]) (by kernel_rfl) (punctualsame_SameActs_ok K (Zand Z wf18) r10 Z5 cz5 l1 A1 c1 _ (fun w' k => ⟨(hZ w' (hS103.subw.trans k)), (hS103.frzSub 4 rfl).trans k⟩) hRd3 hLd3 (hR1.up (ZLe.in _ _)) hL1 _ hq23) ?_
                rintro _ w33 ⟨rfl, hS104⟩
                refine ⟨_, rfl, hS104.below, ?_⟩
                have hS105 := hS103.call hS104
                refine ge_batch [28, 29] (ans := []) (vs := [(4, .bool r15), (127, .bool r15)]) (l := []) (by kernel_rfl) trivial ?_
                refine ge_nil fun a hF => hK29 _ _ ?_ a hF
                have hS106 := hS105.takeN 0
                obtain rfl := Option.some.inj h
                exact we_ret (post_ret (rs := [.tmp 4]) (ans := []) (vs := [.bool r15]) (l := []) rfl (by kernel_rfl) trivial ⟨rfl, hS106⟩)
              · rw [if_neg hc14] at h
                refine ge_known (t := 123) (b := r14) (c := false) (by kernel_rfl) (Bool.eq_false_iff.2 hc14) ?_
                refine ge_batch [25, 26] (ans := []) (vs := [(125, undef), (124, undef)]) (l := []) (by kernel_rfl) trivial ?_
                refine ge_off rfl rfl rfl (by kernel_rfl) ?_
                refine ge_batch [28, 29] (ans := []) (vs := [(4, .bool false), (127, .bool false)]) (l := []) (by kernel_rfl) trivial ?_
                refine ge_nil fun a hF => hK29 _ _ ?_ a hF
                have hS107 := hS103.takeN 0
                obtain rfl := Option.some.inj h
                exact we_ret (post_ret (rs := [.tmp 4]) (ans := []) (vs := [.bool false]) (l := []) rfl (by kernel_rfl) trivial ⟨rfl, hS107⟩)
            · rw [if_neg hc13] at h
              refine ge_known (t := 106) (b := (r12.Code != 0)) (c := true) (by kernel_rfl) (bne_iff_ne.2 hc13) ?_
              refine ge_batch [8] (ans := []) (vs := [(107, v5)]) (l := []) (by kernel_rfl) trivial ?_
              obtain ⟨Z8, cz8, rfl⟩ := hS99.open 2 rfl
              refine ge_batch [9, 10, 11, 12] (ans := []) (vs := [(111, .bool ((r11.1.length : Int) == 0)), (110, .bool ((r11.1.length : Int) == 0)), (109, .bool ((r11.1.length : Int) == 0)), (108, .int .i64 (r11.1.length : Int))]) (l := []) (by kernel_rfl) trivial ?_
              by_cases hc15 : (r11.1.length : Int) = 0
              · rw [if_pos hc15] at h
                refine ge_known (t := 111) (b := ((r11.1.length : Int) == 0)) (c := true) (by kernel_rfl) (beq_iff_eq.2 hc15) ?_
                refine ge_batch [13, 14, 15, 16, 17, 18] (ans := []) (vs := [(117, undef), (116, undef), (115, undef), (114, undef), (113, undef), (112, undef)]) (l := []) (by kernel_rfl) trivial ?_
                refine ge_off rfl rfl rfl (by kernel_rfl) ?_
                refine ge_off rfl rfl rfl (by kernel_rfl) ?_
                rcases hq24 : punctualsame_SameActs.f K r10 l1 with _ | r16
                · rw [hq24] at h; cases h
                rw [hq24] at h
                simp only [] at h
                refine ge_batch [21, 22, 23, 24, 25, 26] (ans := []) (vs := [(125, .slice A1 l1.length c1), (124, .slice Z5 r10.length cz5), (123, .bool true), (122, .bool true), (121, .bool true), (120, undef)]) (l := []) (by kernel_rfl) trivial ?_
                refine ge_call (d := some 126) (f := 23) (args := #[.slice Z5 r10.length cz5, .slice A1 l1.length c1]) (by kernel_rfl) (punctualsame_SameActs_ok K (Zand Z wf18) r10 Z5 cz5 l1 A1 c1 _ (fun w' k => ⟨(hZ w' (hS99.subw.trans k)), (hS99.frzSub 3 rfl).trans k⟩) hRd3 hLd3 (hR1.up (ZLe.in _ _)) hL1 _ hq24) ?_
                rintro _ w34 ⟨rfl, hS108⟩
                refine ⟨_, rfl, hS108.below, ?_⟩
                have hS109 := hS99.call hS108
                refine ge_batch [28, 29] (ans := []) (vs := [(4, .bool r16), (127, .bool r16)]) (l := []) (by kernel_rfl) trivial ?_
                refine ge_nil fun a hF => hK29 _ _ ?_ a hF
                have hS110 := hS109.takeN 0
                obtain rfl := Option.some.inj h
                exact we_ret (post_ret (rs := [.tmp 4]) (ans := []) (vs := [.bool r16]) (l := []) rfl (by kernel_rfl) trivial ⟨rfl, hS110⟩)
              · rw [if_neg hc15] at h
                refine ge_known (t := 111) (b := ((r11.1.length : Int) == 0)) (c := false) (by kernel_rfl) (beq_eq_false_iff_ne.2 hc15) ?_
                refine ge_batch [13, 14, 15, 16] (ans := [.val (.int .i64 r12.Code)]) (vs := [(115, .bool (r12.Code == 0)), (114, .bool (r12.Code == 0)), (113, .int .i64 r12.Code), (112, .pointer (some ⟨b4, 0, none⟩))]) (l := [.loaded ⟨b4, 0, none⟩ (.int .i64 r12.Code)]) (by kernel_rfl) ⟨hS99.cell 0 rfl rfl, trivial⟩ ?_
                refine ge_known (t := 115) (b := (r12.Code == 0)) (c := false) (by kernel_rfl) (beq_eq_false_iff_ne.2 hc13) ?_
                refine ge_batch [17, 18] (ans := []) (vs := [(117, undef), (116, undef)]) (l := []) (by kernel_rfl) trivial ?_
                refine ge_off rfl rfl rfl (by kernel_rfl) ?_
                refine ge_off rfl rfl rfl (by kernel_rfl) ?_
                refine ge_batch [21, 22, 23, 24, 25, 26] (ans := []) (vs := [(125, undef), (124, undef), (123, .bool false), (122, .bool false), (121, .bool false), (120, .bool false)]) (l := []) (by kernel_rfl) trivial ?_
                refine ge_off rfl rfl rfl (by kernel_rfl) ?_
                refine ge_batch [28, 29] (ans := []) (vs := [(4, .bool false), (127, .bool false)]) (l := []) (by kernel_rfl) trivial ?_
                refine ge_nil fun a hF => hK29 _ _ ?_ a hF
                have hS111 := hS99.takeN 0
                obtain rfl := Option.some.inj h
                exact we_ret (post_ret (rs := [.tmp 4]) (ans := []) (vs := [.bool false]) (l := []) rfl (by kernel_rfl) trivial ⟨rfl, hS111⟩)
          · rw [if_neg hc12] at h
            refine ge_known (t := 102) (b := (SFault.eqb r11.2 r12)) (c := false) (by kernel_rfl) (Bool.eq_false_iff.2 hc12) ?_
            refine ge_batch [4, 5, 6, 7, 8, 9, 10, 11, 12, 13, 14, 15, 16, 17, 18] (ans := []) (vs := [(117, undef), (116, undef), (115, undef), (114, undef), (113, undef), (112, undef), (111, undef), (110, undef), (109, undef), (108, undef), (107, undef), (106, undef), (105, undef), (104, undef), (103, undef)]) (l := []) (by kernel_rfl) trivial ?_
            refine ge_off rfl rfl rfl (by kernel_rfl) ?_
            refine ge_off rfl rfl rfl (by kernel_rfl) ?_
            refine ge_batch [21, 22, 23, 24, 25, 26] (ans := []) (vs := [(125, undef), (124, undef), (123, .bool false), (122, .bool false), (121, undef), (120, undef)]) (l := []) (by kernel_rfl) trivial ?_
            refine ge_off rfl rfl rfl (by kernel_rfl) ?_
            refine ge_batch [28, 29] (ans := []) (vs := [(4, .bool false), (127, .bool false)]) (l := []) (by kernel_rfl) trivial ?_
            refine ge_nil fun a hF => hK29 _ _ ?_ a hF
            have hS112 := hS99.takeN 0
            obtain rfl := Option.some.inj h
            exact we_ret (post_ret (rs := [.tmp 4]) (ans := []) (vs := [.bool false]) (l := []) rfl (by kernel_rfl) trivial ⟨rfl, hS112⟩)
        · rw [hq17] at h
          simp only [] at h
          refine we_keep (e' := [(0, .slice A0 l0.length c0), (1, .slice A1 l1.length c1), (6, .pointer (some ⟨b1, 0, none⟩)), (7, .int .i64 r7.1), (9, .slice Z4 l0.length cz4), (10, .pointer (some ⟨b4, 0, none⟩)), (11, .int .i64 z2), (64, .tuple #[.int .i64 r7.1, .agg #[.int .i64 r7.2.Code, .int .i64 r7.2.At]]), (65, .slice Z4 l0.length cz4), (66, .tuple #[.int .i64 r7.1, .agg #[.int .i64 r7.2.Code, .int .i64 r7.2.At]]), (67, .int .i64 r7.1), (68, .agg #[.int .i64 r7.2.Code, .int .i64 r7.2.At])]) ⟨by kernel_rfl, by kernel_rfl, by kernel_rfl, by kernel_rfl, by kernel_rfl, by kernel_rfl, by kernel_rfl, by kernel_rfl, by kernel_rfl, by kernel_rfl, by kernel_rfl, by kernel_rfl, trivial⟩ (LocksChecks_p3 K w0 Z l0 A0 c0 l1 A1 c1 hZ hR0 hL0 hR1 hL1 hG0 ft1 wf1 hds1 ft2 wf2 ft3 wf3 hsb1 hsb2 hd1 Z1 cz1 ft4 wf4 hsb3 hRd1 hLd1 r1 b1 hds2 ft5 wf5 ft6 wf6 hsb4 hsb5 hd2 Z2 cz2 ft7 wf7 hsb6 hRd2 hLd2 e1 hx2 An1 cn1 hCs1 hLn1 hRn1 r2 b2 Z3 cz3 ft9 wf9 hRz1 ft11 wf11 hRz2 Z4 cz4 hcp1 r5 b4 ft13 wf13 z2 hRz3 r7 _ hq17 _ hS68 _ ?_)
          rintro _ a w1 ⟨_, rfl, hb⟩
          obtain rfl := Option.some.inj h
          exact hb
      · rw [hq13] at h
        simp only [] at h
        refine we_keep (e' := [(0, .slice A0 l0.length c0), (1, .slice A1 l1.length c1), (6, .pointer (some ⟨b1, 0, none⟩)), (9, .slice Z4 l0.length cz4), (10, .pointer (some ⟨b4, 0, none⟩)), (11, .int .i64 0), (54, .slice A0 l0.length c0), (55, .agg #[.int .i64 (-9), .int .i64 0]), (56, .slice Z4 l0.length cz4), (57, .slice A0 l0.length c0), (58, .agg #[.int .i64 r5.Code, .int .i64 r5.At])]) ⟨by kernel_rfl, by kernel_rfl, by kernel_rfl, by kernel_rfl, by kernel_rfl, by kernel_rfl, by kernel_rfl, by kernel_rfl, by kernel_rfl, by kernel_rfl, by kernel_rfl, trivial⟩ (LocksChecks_p2 K w0 Z l0 A0 c0 l1 A1 c1 hZ hR0 hL0 hR1 hL1 hG0 ft1 wf1 hds1 ft2 wf2 ft3 wf3 hsb1 hsb2 hd1 Z1 cz1 ft4 wf4 hsb3 hRd1 hLd1 r1 b1 hds2 ft5 wf5 ft6 wf6 hsb4 hsb5 hd2 Z2 cz2 ft7 wf7 hsb6 hRd2 hLd2 e1 hx2 An1 cn1 hCs1 hLn1 hRn1 r2 b2 Z3 cz3 ft9 wf9 hRz1 ft11 wf11 hRz2 Z4 cz4 hcp1 r5 b4 _ hq13 _ hS52 _ ?_)
        rintro _ a w1 ⟨_, rfl, hb⟩
        obtain rfl := Option.some.inj h
        exact hb
    · rw [hq9] at h
      simp only [] at h
      refine we_keep (e' := [(0, .slice A0 l0.length c0), (1, .slice A1 l1.length c1), (6, .pointer (some ⟨b1, 0, none⟩))]) ⟨by kernel_rfl, by kernel_rfl, by kernel_rfl, trivial⟩ (LocksChecks_p1 K w0 Z l0 A0 c0 l1 A1 c1 hZ hR0 hL0 hR1 hL1 hG0 ft1 wf1 hds1 ft2 wf2 ft3 wf3 hsb1 hsb2 hd1 Z1 cz1 ft4 wf4 hsb3 hRd1 hLd1 r1 b1 hds2 ft5 wf5 ft6 wf6 hsb4 hsb5 hd2 Z2 cz2 ft7 wf7 hsb6 hRd2 hLd2 e1 hx2 An1 cn1 hCs1 hLn1 hRn1 r2 b2 Z3 cz3 ft9 wf9 hRz1 _ hq9 _ hS36 _ ?_)
      rintro _ a w1 ⟨_, rfl, hb⟩
      obtain rfl := Option.some.inj h
      exact hb
  · rw [hq6] at h
    simp only [] at h
    refine we_keep (e' := [(0, .slice A0 l0.length c0), (1, .slice A1 l1.length c1), (4, .bool false), (5, (.slice Z3 r1.1.length cz3)), (6, .pointer (some ⟨b1, 0, none⟩)), (7, .int .i64 r2.1), (8, .pointer (some ⟨b2, 0, none⟩)), (13, .tuple #[(.slice Z3 r1.1.length cz3), .agg #[.int .i64 r1.2.Code, .int .i64 r1.2.At]]), (14, .slice Z1 pair.f.length cz1), (15, .tuple #[(.slice Z3 r1.1.length cz3), .agg #[.int .i64 r1.2.Code, .int .i64 r1.2.At]]), (16, (.slice Z3 r1.1.length cz3)), (17, .agg #[.int .i64 r1.2.Code, .int .i64 r1.2.At]), (18, .tuple #[.int .i64 r2.1, .agg #[.int .i64 r2.2.Code, .int .i64 r2.2.At]]), (19, .slice Z2 pair.f.length cz2), (20, .pointer (some ⟨blkOf Z2, offOf Z2 + 0 * 3, none⟩)), (21, .pointer (some ⟨blkOf Z2, offOf Z2 + 0 * 3 + 2, none⟩)), (22, .slice An1 e1.Acts.length cn1), (23, .tuple #[.int .i64 r2.1, .agg #[.int .i64 r2.2.Code, .int .i64 r2.2.At]]), (24, .int .i64 r2.1), (25, .agg #[.int .i64 r2.2.Code, .int .i64 r2.2.At])]) ⟨by kernel_rfl, by kernel_rfl, by kernel_rfl, by kernel_rfl, by kernel_rfl, by kernel_rfl, by kernel_rfl, by kernel_rfl, by kernel_rfl, by kernel_rfl, by kernel_rfl, by kernel_rfl, by kernel_rfl, by kernel_rfl, by kernel_rfl, by kernel_rfl, by kernel_rfl, by kernel_rfl, by kernel_rfl, by kernel_rfl, trivial⟩ (LocksChecks_p0 K w0 Z l0 A0 c0 l1 A1 c1 hZ hR0 hL0 hR1 hL1 hG0 ft1 wf1 hds1 ft2 wf2 ft3 wf3 hsb1 hsb2 hd1 Z1 cz1 ft4 wf4 hsb3 hRd1 hLd1 r1 b1 hds2 ft5 wf5 ft6 wf6 hsb4 hsb5 hd2 Z2 cz2 ft7 wf7 hsb6 hRd2 hLd2 e1 hx2 An1 cn1 hCs1 hLn1 hRn1 r2 b2 Z3 cz3 _ hq6 _ hS25 _ ?_)
    rintro _ a w1 ⟨_, rfl, hb⟩
    obtain rfl := Option.some.inj h
    exact hb
end Go.Proofs.YtccfilmiboepjaaDoor.GV
