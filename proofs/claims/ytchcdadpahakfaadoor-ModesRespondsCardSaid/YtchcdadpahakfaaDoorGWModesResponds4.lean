/- Walks of single functions, written by a program of this work. -/
import Derived.Test.YtchcdadpahakfaaDoorGWModesResponds3
namespace Go.Proofs.YtchcdadpahakfaaDoor.GV
open Go Go.RowKit
set_option linter.unusedVariables false
set_option linter.unusedSimpArgs false
set_option maxRecDepth 100000

/-! punctual/punctualsame.Apart -/
abbrev ps_Apart.Post (w0 : World) (X : Rows) (ls : List (List Int)) (LT : List Own) (r : Bool × (List (List Int))) (e : Ending) (w : World) : Prop := e = .returned (.bool r.1) ∧ St w0 w [Own.nest X 28 3 r.2, Own.all LT]
def ps_Apart.r0 (ls : List (List Int)) : (List (List Int)) × Nat → Option (((List (List Int)) × Nat) ⊕ ((List (List Int)) ⊕ (Bool × (List (List Int)))))
  | (m1, i1) =>
    if (i1 : Int) < (ls.length : Int) then
      match ls[i1]? with
      | none => none
      | some e1 =>
        if 0 + e1.length ≤ 17592186044416 then
          if m1.length < 5864062014805 then
            some (.inl ((m1 ++ [e1]), (i1 + 1)))
          else
            none
        else
          none
    else
      some (.inr (.inl m1))
def ps_Apart.r2 (z1 : Int) (e2 : List Int) : Int × (List (List Int)) → Option ((Int × (List (List Int))) ⊕ ((List (List Int)) ⊕ (Bool × (List (List Int)))))
  | (z2, m6) =>
    if z2 < (e2.length : Int) then
      match m6[(z1).toNat]? with
      | none => none
      | some e3 =>
        if 0 ≤ z2 then
          match e3[(z2).toNat]? with
          | none => none
          | some e4 =>
            some (.inl (IntKind.i64.wrap (z2 + 1), (m6.set ((z1).toNat) (e3.set ((z2).toNat) (IntKind.i64.wrap ((-5) - z1))))))
        else
          none
    else
      some (.inr (.inl m6))
def ps_Apart.r1 (K : Nat) (ls : List (List Int)) : Int × (List (List Int)) → Option ((Int × (List (List Int))) ⊕ ((List (List Int)) ⊕ (Bool × (List (List Int)))))
  | (z1, m4) =>
    if z1 < (ls.length : Int) then
      if 0 ≤ z1 then
        match m4[(z1).toNat]? with
        | none => none
        | some e2 =>
          if e2.length < 17592186044416 then
            match iter (ps_Apart.r2 z1 e2) K (0, m4) with
            | none => none
            | some (.inl m8) =>
              some (.inl (IntKind.i64.wrap (z1 + 1), m8))
            | some (.inr rr1) =>
              some (.inr (.inr rr1))
          else
            none
      else
        none
    else
      some (.inr (.inl m4))
def ps_Apart.r4 (m3 : List (List Int)) (z3 : Int) (e5 : List Int) : Int × (List (List Int)) → Option ((Int × (List (List Int))) ⊕ ((List (List Int)) ⊕ (Bool × (List (List Int)))))
  | (z4, m12) =>
    if z4 < (e5.length : Int) then
      match m12[(z3).toNat]? with
      | none => none
      | some e6 =>
        if 0 ≤ z4 then
          match e6[(z4).toNat]? with
          | none => none
          | some e7 =>
            if e7 = (IntKind.i64.wrap ((-5) - z3)) then
              match m3[(z3).toNat]? with
              | none => none
              | some e8 =>
                match e8[(z4).toNat]? with
                | none => none
                | some e9 =>
                  some (.inl (IntKind.i64.wrap (z4 + 1), (m12.set ((z3).toNat) (e6.set ((z4).toNat) e9))))
            else
              some (.inr (.inr (false, m12)))
        else
          none
    else
      some (.inr (.inl m12))
def ps_Apart.r3 (K : Nat) (m3 : List (List Int)) (m9 : List (List Int)) : Int × (List (List Int)) → Option ((Int × (List (List Int))) ⊕ ((List (List Int)) ⊕ (Bool × (List (List Int)))))
  | (z3, m10) =>
    if z3 < (m9.length : Int) then
      if 0 ≤ z3 then
        match m10[(z3).toNat]? with
        | none => none
        | some e5 =>
          match iter (ps_Apart.r4 m3 z3 e5) K (0, m10) with
          | none => none
          | some (.inl m14) =>
            some (.inl (IntKind.i64.wrap (z3 + 1), m14))
          | some (.inr rr2) =>
            some (.inr (.inr rr2))
      else
        none
    else
      some (.inr (.inl m10))
def ps_Apart.f (K : Nat) (ls : List (List Int)) : Option (Bool × (List (List Int))) :=
  match iter (ps_Apart.r0 ls) K (([] : List (List Int)), 0) with
  | none => none
  | some (.inl m3) =>
    match iter (ps_Apart.r1 K ls) K (0, ls) with
    | none => none
    | some (.inl m9) =>
      match iter (ps_Apart.r3 K m3 m9) K (0, m9) with
      | none => none
      | some (.inl m15) =>
        some (true, m15)
      | some (.inr rr3) =>
        some rr3
    | some (.inr rr4) =>
      some rr4
  | some (.inr rr5) =>
    some rr5
abbrev ps_Apart.A0 (K : Nat) (w0 : World) (X : Rows) (ls : List (List Int)) (LT : List Own) : ((List (List Int)) × Nat) → Act → World → Prop := fun (s : (List (List Int)) × Nat) a w => ∃ (xr1 : Rows), St w0 w [Own.nest X 28 3 ls, Own.nest xr1 28 3 s.1, Own.all LT] ∧ Frm 90 a [(0, (Rows.val X)), (3, (Rows.val xr1)), (10, (Rows.val X)), (11, .int .i64 (ls.length : Int)), (12, .int .i64 (s.2 : Int))]
abbrev ps_Apart.B0 (K : Nat) (w0 : World) (X : Rows) (ls : List (List Int)) (LT : List Own) : ((List (List Int)) ⊕ (Bool × (List (List Int)))) → Exit → Act → World → Prop := Exits 0 (fun (s : (List (List Int))) a w => ∃ (xr2 : Rows), St w0 w [Own.nest X 28 3 ls, Own.nest xr2 28 3 s, Own.all LT] ∧ Frm 90 a [(0, (Rows.val X)), (3, (Rows.val xr2))]) (Rets Tryd.prog Tryd.f15 (ps_Apart.Post w0 X ls LT))
theorem ps_Apart_r0 (K : Nat) (w0 : World) (X : Rows) (ls : List (List Int)) (LT : List Own) (s : (List (List Int)) × Nat) (o : ((List (List Int)) × Nat) ⊕ ((List (List Int)) ⊕ (Bool × (List (List Int))))) (h : ps_Apart.r0 ls s = some o) (a : Act) (w : World) (hA : ps_Apart.A0 K w0 X ls LT s a w) (Q : Exit → Act → World → Prop) (hQ : ∀ x a w, Outs (ps_Apart.A0 K w0 X ls LT) (ps_Apart.B0 K w0 X ls LT) o x a w → Q x a w) : (subF Tryd.f15 [1, 1, 0, 1, 0, 0]).wp Tryd.prog Q a w := by
  obtain ⟨m1, i1⟩ := s
  obtain ⟨xr1, hS, hF⟩ := hA
  replace hS : St w0 w [Own.nest X 28 3 ls, Own.nest xr1 28 3 m1, Own.all LT] := hS
  simp only [ps_Apart.r0] at h
  refine (?_ : WE Tryd.prog 90 (subF Tryd.f15 [1, 1, 0, 1, 0, 0]) Q [(0, (Rows.val X)), (3, (Rows.val xr1)), (10, (Rows.val X)), (11, .int .i64 (ls.length : Int)), (12, .int .i64 (i1 : Int))] w) a hF
  clear hF a
  refine we_seq fun K5 hK5 => ?_
  refine we_region [(0, 0)] rfl ?_
  refine ge_batch [0] (ans := []) (vs := [(13, .bool (decide ((i1 : Int) < (ls.length : Int))))]) (l := []) (by kernel_rfl) trivial ?_
  refine ge_nil fun a hF => hK5 _ _ ?_ a hF
  refine we_seq fun K6 hK6 => ?_
  by_cases hc1 : (i1 : Int) < (ls.length : Int)
  · rw [if_pos hc1] at h
    refine we_known (t := 13) (b := decide ((i1 : Int) < (ls.length : Int))) (v := true) (by kernel_rfl) (decide_eq_true hc1) ?_
    refine we_true (by kernel_rfl) ?_
    refine we_skip fun a hF => hK6 _ _ ?_ a hF
    refine we_seq fun K7 hK7 => ?_
    refine we_block ?_
    refine we_seq fun K8 hK8 => ?_
    refine we_region [(0, 0), (1, 0), (2, 0)] rfl ?_
    rcases hx1 : ls[i1]? with _ | e1
    · rw [hx1] at h; cases h
    rw [hx1] at h
    simp only [] at h
    obtain ⟨An1, cn1, hxn1, -, -⟩ := (hS.nestAt 0 rfl).nl.get hx1
    refine ge_index (d := 14) (ty := 0) (t := 37) (el := 28) (sz := 1) (m := X.n) (c := X.c) (x := (.tmp 10)) (y := (.tmp 12)) (A := X.A) (k' := .i64) (j := (i1 : Int)) (jn := i1) (b0 := blkOf X.A) (o0 := offOf X.A) (by kernel_rfl) (by kernel_rfl) (by kernel_rfl) (by kernel_rfl) (by kernel_rfl) ((hS.nestAt 0 rfl).rd.eqSome (pos_of_get hxn1)) rfl (by have h0 := lt_of_get hx1; have h1 := (hS.nestAt 0 rfl).n; omega) ?_
    refine ge_batch [1, 2] (ans := [.val (.slice An1 e1.length cn1)]) (vs := [(5, .slice An1 e1.length cn1), (15, .slice An1 e1.length cn1)]) (l := [.loaded ⟨blkOf X.A, offOf X.A + i1 * 1, none⟩ (.slice An1 e1.length cn1)]) (by kernel_rfl) ⟨RdL.cell (j := 0) ((hS.nestAt 0 rfl).rd) hxn1 rfl, trivial⟩ ?_
    refine ge_nil fun a hF => hK8 _ _ ?_ a hF
    refine we_region [(0, 0), (1, 1), (2, 0), (3, 2), (4, 1), (5, 2), (6, 0)] rfl ?_
    refine ge_batch [0] (ans := []) (vs := [(16, (Rows.val xr1))]) (l := []) (by kernel_rfl) trivial ?_
    refine ge_new (d := some 17) (o := .cells #[] 3) (v := fun b => .slice (some ⟨b, 0, none⟩) 0 0) hS (fun b => by kernel_rfl) fun b1 w1 hx2 hS5 => ?_
    refine ge_batch [2] (ans := []) (vs := [(18, .slice An1 e1.length cn1)]) (l := []) (by kernel_rfl) trivial ?_
    have hS6 := hS5.asRow (α := Int) (c := 0) ([] : List Int) (Nat.le_refl _) (by decide) rfl rfl
    by_cases hc2 : 0 + e1.length ≤ 17592186044416
    · rw [if_pos hc2] at h
      refine ge_appendL (α := Int) (m := 0) (d := 19) (t := 28) (el := 3) (bytes := 8) (c1 := cn1) (A1 := An1) (x := (.tmp 17)) (y := (.tmp 18)) (ty := 28) (v := (.slice (some ⟨b1, 0, none⟩) 0 0)) (z := .int .i64 0) (l := ([] : List Int)) (us := e1) (by kernel_rfl) (by kernel_rfl) (by kernel_rfl) (by kernel_rfl) (by kernel_rfl) rfl hS6 (((hS6.nestAt 1 rfl).nl.each _ _ _ hxn1 hx1).2.1) rfl (Nat.mul_le_of_le_div _ _ _ hc2) fun v1 w2 hS7 => ?_
      have hS8 : St w0 w2 [Own.of v1 3 e1, Own.nest X 28 3 ls, Own.nest xr1 28 3 m1, Own.all LT] := hS7
      obtain ⟨Z1, cz1, rfl⟩ := hS8.open 0 rfl
      refine ge_new (d := some 20) (o := .cells #[(.slice Z1 e1.length cz1)] 28) (v := fun b => .slice (some ⟨b, 0, none⟩) 1 1) hS8 (fun b => by kernel_rfl) fun b2 w3 hx3 hS9 => ?_
      have hS10 := hS9.bring 1 rfl
      have hS11 := hS10.bring 3 rfl
      by_cases hc3 : m1.length < 5864062014805
      · rw [if_pos hc3] at h
        refine ge_nestAdd (α := Int) (m := 0) (d := 21) (t := 37) (T := 28) (e0 := 3) (bytes := 24) (c1 := 1) (b1 := b2) (x := (.tmp 16)) (y := (.tmp 20)) (ty := 37) (X := xr1) (l := e1) (ls := m1) (A := Z1) (cc := cz1) (by kernel_rfl) (by kernel_rfl) (by kernel_rfl) (by kernel_rfl) (by kernel_rfl) hS11 rfl (by omega) fun xr3 w4 hS12 => ?_
        refine ge_batch [6] (ans := []) (vs := [(3, (Rows.val xr3))]) (l := []) (by kernel_rfl) trivial ?_
        refine ge_nil fun a hF => hK7 _ _ ?_ a hF
        refine we_region [(0, 0), (1, 0)] rfl ?_
        refine ge_addn (d := 22) (ty := 3) (x := (.tmp 12)) (y := (.const (.int .i64 1))) (t := 3) (t2 := 3) (k := .i64) (m := i1) (by kernel_rfl) (by kernel_rfl) (by kernel_rfl) (by have h0 := (hS12.nestAt 1 rfl).rd.small; have h1 := (hS12.nestAt 1 rfl).nl.len; omega) ?_
        refine ge_batch [1] (ans := []) (vs := [(12, .int .i64 ((i1 + 1 : Nat) : Int))]) (l := []) (by kernel_rfl) trivial ?_
        have hS13 := hS12.bring 2 rfl
        have hS14 := hS13.bring 1 rfl
        have hS15 := hS14.bring 2 rfl
        obtain rfl := Option.some.inj h
        exact ge_nil fun a hF => hQ _ _ _ (Outs.again ⟨xr3, hS15, hF.weaken ⟨by kernel_rfl, by kernel_rfl, by kernel_rfl, by kernel_rfl, by kernel_rfl, trivial⟩⟩)
      · rw [if_neg hc3] at h
        cases h
    · rw [if_neg hc2] at h
      cases h
  · rw [if_neg hc1] at h
    refine we_known (t := 13) (b := decide ((i1 : Int) < (ls.length : Int))) (v := false) (by kernel_rfl) (decide_eq_false hc1) ?_
    refine we_false (by kernel_rfl) ?_
    have hS16 := hS.bring 2 rfl
    have hS17 := hS16.bring 2 rfl
    have hS18 := hS17.bring 2 rfl
    obtain rfl := Option.some.inj h
    exact we_exit fun a hF => hQ _ _ _ (Outs.out nofun (Exits.here ⟨xr1, hS18, hF.weaken ⟨by kernel_rfl, by kernel_rfl, trivial⟩⟩))
abbrev ps_Apart.A2 (K : Nat) (w0 : World) (X : Rows) (ls : List (List Int)) (LT : List Own) (m3 : List (List Int)) (xr4 : Rows) (z1 : Int) (m4 : List (List Int)) (hc4 : z1 < (ls.length : Int)) (hc5 : 0 ≤ z1) (e2 : List Int) (hx4 : m4[(z1).toNat]? = some e2) (An2 : Option Addr) (cn2 : Nat) (hxn2 : X.hs[(z1).toNat]? = some ⟨An2, e2.length, cn2⟩) (b3 : Nat) (hc6 : e2.length < 17592186044416) (v2 : Value) : (Int × (List (List Int))) → Act → World → Prop := fun (s : Int × (List (List Int))) a w => St w0 w [Own.nest X 28 3 s.2, Own.nest xr4 28 3 m3, Own.all LT] ∧ Frm 90 a [(0, (Rows.val X)), (3, (Rows.val xr4)), (6, .int .i64 z1), (24, .int .i64 (ls.length : Int)), (25, .int .i64 z1), (38, .int .i64 (e2.length : Int)), (39, .int .i64 s.1)]
abbrev ps_Apart.B2 (K : Nat) (w0 : World) (X : Rows) (ls : List (List Int)) (LT : List Own) (m3 : List (List Int)) (xr4 : Rows) (z1 : Int) (m4 : List (List Int)) (hc4 : z1 < (ls.length : Int)) (hc5 : 0 ≤ z1) (e2 : List Int) (hx4 : m4[(z1).toNat]? = some e2) (An2 : Option Addr) (cn2 : Nat) (hxn2 : X.hs[(z1).toNat]? = some ⟨An2, e2.length, cn2⟩) (b3 : Nat) (hc6 : e2.length < 17592186044416) (v2 : Value) : ((List (List Int)) ⊕ (Bool × (List (List Int)))) → Exit → Act → World → Prop := Exits 4 (fun (s : (List (List Int))) a w => St w0 w [Own.nest X 28 3 s, Own.nest xr4 28 3 m3, Own.all LT] ∧ Frm 90 a [(0, (Rows.val X)), (3, (Rows.val xr4)), (24, .int .i64 (ls.length : Int)), (25, .int .i64 z1)]) (Rets Tryd.prog Tryd.f15 (ps_Apart.Post w0 X ls LT))
theorem ps_Apart_r2 (K : Nat) (w0 : World) (X : Rows) (ls : List (List Int)) (LT : List Own) (m3 : List (List Int)) (xr4 : Rows) (z1 : Int) (m4 : List (List Int)) (hc4 : z1 < (ls.length : Int)) (hc5 : 0 ≤ z1) (e2 : List Int) (hx4 : m4[(z1).toNat]? = some e2) (An2 : Option Addr) (cn2 : Nat) (hxn2 : X.hs[(z1).toNat]? = some ⟨An2, e2.length, cn2⟩) (b3 : Nat) (hc6 : e2.length < 17592186044416) (v2 : Value) (s : Int × (List (List Int))) (o : (Int × (List (List Int))) ⊕ ((List (List Int)) ⊕ (Bool × (List (List Int))))) (h : ps_Apart.r2 z1 e2 s = some o) (a : Act) (w : World) (hA : ps_Apart.A2 K w0 X ls LT m3 xr4 z1 m4 hc4 hc5 e2 hx4 An2 cn2 hxn2 b3 hc6 v2 s a w) (Q : Exit → Act → World → Prop) (hQ : ∀ x a w, Outs (ps_Apart.A2 K w0 X ls LT m3 xr4 z1 m4 hc4 hc5 e2 hx4 An2 cn2 hxn2 b3 hc6 v2) (ps_Apart.B2 K w0 X ls LT m3 xr4 z1 m4 hc4 hc5 e2 hx4 An2 cn2 hxn2 b3 hc6 v2) o x a w → Q x a w) : (subF Tryd.f15 [1, 1, 1, 0, 1, 0, 0, 1, 1, 0, 0, 1, 1, 1, 0, 0]).wp Tryd.prog Q a w := by
  obtain ⟨z2, m6⟩ := s
  obtain ⟨hS, hF⟩ := hA
  replace hS : St w0 w [Own.nest X 28 3 m6, Own.nest xr4 28 3 m3, Own.all LT] := hS
  simp only [ps_Apart.r2] at h
  refine (?_ : WE Tryd.prog 90 (subF Tryd.f15 [1, 1, 1, 0, 1, 0, 0, 1, 1, 0, 0, 1, 1, 1, 0, 0]) Q [(0, (Rows.val X)), (3, (Rows.val xr4)), (6, .int .i64 z1), (24, .int .i64 (ls.length : Int)), (25, .int .i64 z1), (38, .int .i64 (e2.length : Int)), (39, .int .i64 z2)] w) a hF
  clear hF a
  refine we_seq fun K17 hK17 => ?_
  refine we_region [(0, 0)] rfl ?_
  refine ge_batch [0] (ans := []) (vs := [(40, .bool (decide (z2 < (e2.length : Int))))]) (l := []) (by kernel_rfl) trivial ?_
  refine ge_nil fun a hF => hK17 _ _ ?_ a hF
  refine we_seq fun K18 hK18 => ?_
  by_cases hc7 : z2 < (e2.length : Int)
  · rw [if_pos hc7] at h
    refine we_known (t := 40) (b := decide (z2 < (e2.length : Int))) (v := true) (by kernel_rfl) (decide_eq_true hc7) ?_
    refine we_true (by kernel_rfl) ?_
    refine we_skip fun a hF => hK18 _ _ ?_ a hF
    refine we_seq fun K19 hK19 => ?_
    refine we_block ?_
    refine we_seq fun K20 hK20 => ?_
    refine we_region [(0, 0), (1, 0)] rfl ?_
    refine ge_batch [0, 1] (ans := []) (vs := [(7, .int .i64 z2), (41, .int .i64 z2)]) (l := []) (by kernel_rfl) trivial ?_
    refine ge_nil fun a hF => hK20 _ _ ?_ a hF
    refine we_region [(0, 0), (1, 0), (2, 0), (3, 0), (4, 0), (5, 0), (6, 0), (7, 0), (8, 2)] rfl ?_
    refine ge_batch [0, 1] (ans := []) (vs := [(43, .int .i64 z1), (42, (Rows.val X))]) (l := []) (by kernel_rfl) trivial ?_
    rcases hx6 : m6[(z1).toNat]? with _ | e3
    · rw [hx6] at h; cases h
    rw [hx6] at h
    simp only [] at h
    obtain ⟨An3, cn3, hxn3, -, -⟩ := (hS.nestAt 0 rfl).nl.get hx6
    refine ge_index (d := 44) (ty := 0) (t := 37) (el := 28) (sz := 1) (m := X.n) (c := X.c) (x := (.tmp 42)) (y := (.tmp 43)) (A := X.A) (k' := .i64) (j := z1) (jn := ((z1).toNat)) (b0 := blkOf X.A) (o0 := offOf X.A) (by kernel_rfl) (by kernel_rfl) (by kernel_rfl) (by kernel_rfl) (by kernel_rfl) ((hS.nestAt 0 rfl).rd.eqSome (pos_of_get hxn3)) (Int.toNat_of_nonneg hc5).symm (by have h0 := lt_of_get hx6; have h1 := (hS.nestAt 0 rfl).n; omega) ?_
    refine ge_batch [3, 4, 5, 6] (ans := [.val (.slice An3 e3.length cn3)]) (vs := [(48, .int .i64 (IntKind.i64.wrap ((-5) - z1))), (47, .int .i64 z1), (46, .int .i64 z2), (45, .slice An3 e3.length cn3)]) (l := [.loaded ⟨blkOf X.A, offOf X.A + ((z1).toNat) * 1, none⟩ (.slice An3 e3.length cn3)]) (by kernel_rfl) ⟨RdL.cell (j := 0) ((hS.nestAt 0 rfl).rd) hxn3 rfl, trivial⟩ ?_
    by_cases hc8 : 0 ≤ z2
    · rw [if_pos hc8] at h
      rcases hx7 : e3[(z2).toNat]? with _ | e4
      · rw [hx7] at h; cases h
      rw [hx7] at h
      simp only [] at h
      refine ge_index (d := 49) (ty := 0) (t := 28) (el := 3) (sz := 1) (m := e3.length) (c := cn3) (x := (.tmp 45)) (y := (.tmp 46)) (A := An3) (k' := .i64) (j := z2) (jn := ((z2).toNat)) (b0 := blkOf An3) (o0 := offOf An3) (by kernel_rfl) (by kernel_rfl) (by kernel_rfl) (by kernel_rfl) (by kernel_rfl) ((((hS.nestAt 0 rfl).nl.each _ _ _ hxn3 hx6).2.1).eqSome (pos_of_get hx7)) (Int.toNat_of_nonneg hc8).symm (lt_of_get hx7) ?_
      refine ge_nestCell (α := Int) (jn := ((z1).toNat)) (kn := ((z2).toNat)) (j := 0) (c := cn3) (T := 28) (e0 := 3) (A := An3) (X := X) (l := e3) (ls := m6) (x := e4) (x' := (IntKind.i64.wrap ((-5) - z1))) (vs := [.int .i64 (IntKind.i64.wrap ((-5) - z1))]) (l' := [.stored ⟨blkOf An3, offOf An3 + ((z2).toNat) * 1, none⟩ (.int .i64 (IntKind.i64.wrap ((-5) - z1)))]) hS hx6 hxn3 (by kernel_rfl) (by kernel_rfl) hx7 rfl rfl (by kernel_rfl) fun w8 hS29 => ?_
      refine ge_nil fun a hF => hK19 _ _ ?_ a hF
      refine we_region [(0, 0), (1, 0)] rfl ?_
      refine ge_batch [0, 1] (ans := []) (vs := [(39, .int .i64 (IntKind.i64.wrap (z2 + 1))), (50, .int .i64 (IntKind.i64.wrap (z2 + 1)))]) (l := []) (by kernel_rfl) trivial ?_
      have hS30 := hS29.bring 2 rfl
      have hS31 := hS30.bring 2 rfl
      have hS32 := hS31.bring 2 rfl
      obtain rfl := Option.some.inj h
      exact ge_nil fun a hF => hQ _ _ _ (Outs.again ⟨hS32, hF.weaken ⟨by kernel_rfl, by kernel_rfl, by kernel_rfl, by kernel_rfl, by kernel_rfl, by kernel_rfl, by kernel_rfl, trivial⟩⟩)
    · rw [if_neg hc8] at h
      cases h
  · rw [if_neg hc7] at h
    refine we_known (t := 40) (b := decide (z2 < (e2.length : Int))) (v := false) (by kernel_rfl) (decide_eq_false hc7) ?_
    refine we_false (by kernel_rfl) ?_
    have hS33 := hS.bring 2 rfl
    have hS34 := hS33.bring 2 rfl
    have hS35 := hS34.bring 2 rfl
    obtain rfl := Option.some.inj h
    exact we_exit fun a hF => hQ _ _ _ (Outs.out nofun (Exits.here ⟨hS35, hF.weaken ⟨by kernel_rfl, by kernel_rfl, by kernel_rfl, by kernel_rfl, trivial⟩⟩))
abbrev ps_Apart.A1 (K : Nat) (w0 : World) (X : Rows) (ls : List (List Int)) (LT : List Own) (m3 : List (List Int)) (xr4 : Rows) : (Int × (List (List Int))) → Act → World → Prop := fun (s : Int × (List (List Int))) a w => St w0 w [Own.nest X 28 3 s.2, Own.nest xr4 28 3 m3, Own.all LT] ∧ Frm 90 a [(0, (Rows.val X)), (3, (Rows.val xr4)), (24, .int .i64 (ls.length : Int)), (25, .int .i64 s.1)]
abbrev ps_Apart.B1 (K : Nat) (w0 : World) (X : Rows) (ls : List (List Int)) (LT : List Own) (m3 : List (List Int)) (xr4 : Rows) : ((List (List Int)) ⊕ (Bool × (List (List Int)))) → Exit → Act → World → Prop := Exits 2 (fun (s : (List (List Int))) a w => St w0 w [Own.nest X 28 3 s, Own.nest xr4 28 3 m3, Own.all LT] ∧ Frm 90 a [(0, (Rows.val X)), (3, (Rows.val xr4))]) (Rets Tryd.prog Tryd.f15 (ps_Apart.Post w0 X ls LT))
theorem ps_Apart_r1 (K : Nat) (w0 : World) (X : Rows) (ls : List (List Int)) (LT : List Own) (m3 : List (List Int)) (xr4 : Rows) (s : Int × (List (List Int))) (o : (Int × (List (List Int))) ⊕ ((List (List Int)) ⊕ (Bool × (List (List Int))))) (h : ps_Apart.r1 K ls s = some o) (a : Act) (w : World) (hA : ps_Apart.A1 K w0 X ls LT m3 xr4 s a w) (Q : Exit → Act → World → Prop) (hQ : ∀ x a w, Outs (ps_Apart.A1 K w0 X ls LT m3 xr4) (ps_Apart.B1 K w0 X ls LT m3 xr4) o x a w → Q x a w) : (subF Tryd.f15 [1, 1, 1, 0, 1, 0, 0]).wp Tryd.prog Q a w := by
  obtain ⟨z1, m4⟩ := s
  obtain ⟨hS, hF⟩ := hA
  replace hS : St w0 w [Own.nest X 28 3 m4, Own.nest xr4 28 3 m3, Own.all LT] := hS
  simp only [ps_Apart.r1] at h
  refine (?_ : WE Tryd.prog 90 (subF Tryd.f15 [1, 1, 1, 0, 1, 0, 0]) Q [(0, (Rows.val X)), (3, (Rows.val xr4)), (24, .int .i64 (ls.length : Int)), (25, .int .i64 z1)] w) a hF
  clear hF a
  refine we_seq fun K11 hK11 => ?_
  refine we_region [(0, 0)] rfl ?_
  refine ge_batch [0] (ans := []) (vs := [(26, .bool (decide (z1 < (ls.length : Int))))]) (l := []) (by kernel_rfl) trivial ?_
  refine ge_nil fun a hF => hK11 _ _ ?_ a hF
  refine we_seq fun K12 hK12 => ?_
  by_cases hc4 : z1 < (ls.length : Int)
  · rw [if_pos hc4] at h
    refine we_known (t := 26) (b := decide (z1 < (ls.length : Int))) (v := true) (by kernel_rfl) (decide_eq_true hc4) ?_
    refine we_true (by kernel_rfl) ?_
    refine we_skip fun a hF => hK12 _ _ ?_ a hF
    refine we_seq fun K13 hK13 => ?_
    refine we_block ?_
    refine we_seq fun K14 hK14 => ?_
    refine we_region [(0, 0), (1, 0)] rfl ?_
    refine ge_batch [0, 1] (ans := []) (vs := [(6, .int .i64 z1), (27, .int .i64 z1)]) (l := []) (by kernel_rfl) trivial ?_
    refine ge_nil fun a hF => hK14 _ _ ?_ a hF
    refine we_seq fun K15 hK15 => ?_
    refine we_region [(0, 0), (1, 0), (2, 0), (3, 0), (4, 1), (5, 2)] rfl ?_
    refine ge_batch [0, 1] (ans := []) (vs := [(29, .int .i64 z1), (28, (Rows.val X))]) (l := []) (by kernel_rfl) trivial ?_
    by_cases hc5 : 0 ≤ z1
    · rw [if_pos hc5] at h
      rcases hx4 : m4[(z1).toNat]? with _ | e2
      · rw [hx4] at h; cases h
      rw [hx4] at h
      simp only [] at h
      obtain ⟨An2, cn2, hxn2, -, -⟩ := (hS.nestAt 0 rfl).nl.get hx4
      refine ge_index (d := 30) (ty := 0) (t := 37) (el := 28) (sz := 1) (m := X.n) (c := X.c) (x := (.tmp 28)) (y := (.tmp 29)) (A := X.A) (k' := .i64) (j := z1) (jn := ((z1).toNat)) (b0 := blkOf X.A) (o0 := offOf X.A) (by kernel_rfl) (by kernel_rfl) (by kernel_rfl) (by kernel_rfl) (by kernel_rfl) ((hS.nestAt 0 rfl).rd.eqSome (pos_of_get hxn2)) (Int.toNat_of_nonneg hc5).symm (by have h0 := lt_of_get hx4; have h1 := (hS.nestAt 0 rfl).n; omega) ?_
      refine ge_batch [3] (ans := [.val (.slice An2 e2.length cn2)]) (vs := [(31, .slice An2 e2.length cn2)]) (l := [.loaded ⟨blkOf X.A, offOf X.A + ((z1).toNat) * 1, none⟩ (.slice An2 e2.length cn2)]) (by kernel_rfl) ⟨RdL.cell (j := 0) ((hS.nestAt 0 rfl).rd) hxn2 rfl, trivial⟩ ?_
      refine ge_new (d := some 32) (o := .cells #[.int .i64 7] 3) (v := fun b => .slice (some ⟨b, 0, none⟩) 1 1) hS (fun b => by kernel_rfl) fun b3 w6 hx5 hS23 => ?_
      have hS24 := hS23.bring 1 rfl
      by_cases hc6 : e2.length < 17592186044416
      · rw [if_pos hc6] at h
        refine ge_nestAppend (α := Int) (m := 0) (d := 33) (t := 28) (el := 3) (bytes := 8) (c1 := 1) (b1 := b3) (jn := ((z1).toNat)) (c := cn2) (T := 28) (A := An2) (x := (.tmp 31)) (y := (.tmp 32)) (ty := 28) (X := X) (z := .int .i64 0) (l := e2) (ls := m4) (u := 7) (by kernel_rfl) (by kernel_rfl) (by kernel_rfl) (by kernel_rfl) (by kernel_rfl) hS24 hx4 hxn2 (by omega) (by omega) fun v2 w7 hS25 => ?_
        refine ge_nil fun a hF => hK15 _ _ ?_ a hF
        refine we_seq fun K16 hK16 => ?_
        refine we_region [(0, 0), (1, 0), (2, 0), (3, 0), (4, 0), (5, 0)] rfl ?_
        refine ge_batch [0, 1] (ans := []) (vs := [(35, .int .i64 z1), (34, (Rows.val X))]) (l := []) (by kernel_rfl) trivial ?_
        refine ge_index (d := 36) (ty := 0) (t := 37) (el := 28) (sz := 1) (m := X.n) (c := X.c) (x := (.tmp 34)) (y := (.tmp 35)) (A := X.A) (k' := .i64) (j := z1) (jn := ((z1).toNat)) (b0 := blkOf X.A) (o0 := offOf X.A) (by kernel_rfl) (by kernel_rfl) (by kernel_rfl) (by kernel_rfl) (by kernel_rfl) ((hS25.nestAt 0 rfl).rd.eqSome (pos_of_get hxn2)) (Int.toNat_of_nonneg hc5).symm (by have h0 := lt_of_get hx4; have h1 := (hS25.nestAt 0 rfl).n; omega) ?_
        refine ge_batch [3, 4, 5] (ans := [.val (.slice An2 e2.length cn2)]) (vs := [(39, .int .i64 0), (38, .int .i64 (e2.length : Int)), (37, .slice An2 e2.length cn2)]) (l := [.loaded ⟨blkOf X.A, offOf X.A + ((z1).toNat) * 1, none⟩ (.slice An2 e2.length cn2)]) (by kernel_rfl) ⟨RdL.cell (j := 0) ((hS25.nestAt 0 rfl).rd) hxn2 rfl, trivial⟩ ?_
        refine ge_nil fun a hF => hK16 _ _ ?_ a hF
        refine we_block ?_
        have hS26 := hS25.bring 2 rfl
        have hS27 := hS26.bring 2 rfl
        have hS28 := hS27.bring 2 rfl
        rcases hq2 : iter (ps_Apart.r2 z1 e2) K (0, m4) with _ | (m8 | rr1)
        · rw [hq2] at h; cases h
        · rw [hq2] at h
          simp only [] at h
          refine we_iter (A := ps_Apart.A2 K w0 X ls LT m3 xr4 z1 m4 hc4 hc5 e2 hx4 An2 cn2 hxn2 b3 hc6 v2) (B := ps_Apart.B2 K w0 X ls LT m3 xr4 z1 m4 hc4 hc5 e2 hx4 An2 cn2 hxn2 b3 hc6 v2) hq2 (fun a hF => ⟨hS28, hF.weaken ⟨by kernel_rfl, by kernel_rfl, by kernel_rfl, by kernel_rfl, by kernel_rfl, by kernel_rfl, by kernel_rfl, trivial⟩⟩) (fun s o hf a w hA Q hQ => ps_Apart_r2 K w0 X ls LT m3 xr4 z1 m4 hc4 hc5 e2 hx4 An2 cn2 hxn2 b3 hc6 v2 s o hf a w hA Q hQ) ?_
          rintro _ a w9 _ ⟨rfl, hS36, hF⟩
          replace hS36 : St w0 w9 [Own.nest X 28 3 m8, Own.nest xr4 28 3 m3, Own.all LT] := hS36
          refine hK13 [(0, (Rows.val X)), (3, (Rows.val xr4)), (24, .int .i64 (ls.length : Int)), (25, .int .i64 z1)] w9 ?_ a hF
          refine we_region [(0, 0), (1, 0)] rfl ?_
          refine ge_batch [0, 1] (ans := []) (vs := [(25, .int .i64 (IntKind.i64.wrap (z1 + 1))), (51, .int .i64 (IntKind.i64.wrap (z1 + 1)))]) (l := []) (by kernel_rfl) trivial ?_
          have hS37 := hS36.bring 2 rfl
          have hS38 := hS37.bring 2 rfl
          have hS39 := hS38.bring 2 rfl
          obtain rfl := Option.some.inj h
          exact ge_nil fun a hF => hQ _ _ _ (Outs.again ⟨hS39, hF.weaken ⟨by kernel_rfl, by kernel_rfl, by kernel_rfl, by kernel_rfl, trivial⟩⟩)
        · rw [hq2] at h
          simp only [] at h
          refine we_iter (A := ps_Apart.A2 K w0 X ls LT m3 xr4 z1 m4 hc4 hc5 e2 hx4 An2 cn2 hxn2 b3 hc6 v2) (B := ps_Apart.B2 K w0 X ls LT m3 xr4 z1 m4 hc4 hc5 e2 hx4 An2 cn2 hxn2 b3 hc6 v2) hq2 (fun a hF => ⟨hS28, hF.weaken ⟨by kernel_rfl, by kernel_rfl, by kernel_rfl, by kernel_rfl, by kernel_rfl, by kernel_rfl, by kernel_rfl, trivial⟩⟩) (fun s o hf a w hA Q hQ => ps_Apart_r2 K w0 X ls LT m3 xr4 z1 m4 hc4 hc5 e2 hx4 An2 cn2 hxn2 b3 hc6 v2 s o hf a w hA Q hQ) ?_
          rintro _ a w1 _ ⟨rfl, hb⟩
          obtain rfl := Option.some.inj h
          exact hQ _ _ _ (Outs.out nofun (Exits.on ⟨rfl, hb⟩))
      · rw [if_neg hc6] at h
        cases h
    · rw [if_neg hc5] at h
      cases h
  · rw [if_neg hc4] at h
    refine we_known (t := 26) (b := decide (z1 < (ls.length : Int))) (v := false) (by kernel_rfl) (decide_eq_false hc4) ?_
    refine we_false (by kernel_rfl) ?_
    have hS40 := hS.bring 2 rfl
    have hS41 := hS40.bring 2 rfl
    have hS42 := hS41.bring 2 rfl
    obtain rfl := Option.some.inj h
    exact we_exit fun a hF => hQ _ _ _ (Outs.out nofun (Exits.here ⟨hS42, hF.weaken ⟨by kernel_rfl, by kernel_rfl, trivial⟩⟩))
abbrev ps_Apart.A4 (K : Nat) (w0 : World) (X : Rows) (ls : List (List Int)) (LT : List Own) (m3 : List (List Int)) (xr4 : Rows) (m9 : List (List Int)) (z3 : Int) (m10 : List (List Int)) (hc9 : z3 < (m9.length : Int)) (hc10 : 0 ≤ z3) (e5 : List Int) (hx8 : m10[(z3).toNat]? = some e5) (An4 : Option Addr) (cn4 : Nat) (hxn4 : X.hs[(z3).toNat]? = some ⟨An4, e5.length, cn4⟩) : (Int × (List (List Int))) → Act → World → Prop := fun (s : Int × (List (List Int))) a w => St w0 w [Own.nest X 28 3 s.2, Own.nest xr4 28 3 m3, Own.all LT] ∧ Frm 90 a [(0, (Rows.val X)), (3, (Rows.val xr4)), (8, .int .i64 z3), (53, .int .i64 (m9.length : Int)), (54, .int .i64 z3), (61, .int .i64 (e5.length : Int)), (62, .int .i64 s.1)]
abbrev ps_Apart.B4 (K : Nat) (w0 : World) (X : Rows) (ls : List (List Int)) (LT : List Own) (m3 : List (List Int)) (xr4 : Rows) (m9 : List (List Int)) (z3 : Int) (m10 : List (List Int)) (hc9 : z3 < (m9.length : Int)) (hc10 : 0 ≤ z3) (e5 : List Int) (hx8 : m10[(z3).toNat]? = some e5) (An4 : Option Addr) (cn4 : Nat) (hxn4 : X.hs[(z3).toNat]? = some ⟨An4, e5.length, cn4⟩) : ((List (List Int)) ⊕ (Bool × (List (List Int)))) → Exit → Act → World → Prop := Exits 8 (fun (s : (List (List Int))) a w => St w0 w [Own.nest X 28 3 s, Own.nest xr4 28 3 m3, Own.all LT] ∧ Frm 90 a [(0, (Rows.val X)), (3, (Rows.val xr4)), (53, .int .i64 (m9.length : Int)), (54, .int .i64 z3)]) (Rets Tryd.prog Tryd.f15 (ps_Apart.Post w0 X ls LT))
theorem ps_Apart_r4 (K : Nat) (w0 : World) (X : Rows) (ls : List (List Int)) (LT : List Own) (m3 : List (List Int)) (xr4 : Rows) (m9 : List (List Int)) (z3 : Int) (m10 : List (List Int)) (hc9 : z3 < (m9.length : Int)) (hc10 : 0 ≤ z3) (e5 : List Int) (hx8 : m10[(z3).toNat]? = some e5) (An4 : Option Addr) (cn4 : Nat) (hxn4 : X.hs[(z3).toNat]? = some ⟨An4, e5.length, cn4⟩) (s : Int × (List (List Int))) (o : (Int × (List (List Int))) ⊕ ((List (List Int)) ⊕ (Bool × (List (List Int))))) (h : ps_Apart.r4 m3 z3 e5 s = some o) (a : Act) (w : World) (hA : ps_Apart.A4 K w0 X ls LT m3 xr4 m9 z3 m10 hc9 hc10 e5 hx8 An4 cn4 hxn4 s a w) (Q : Exit → Act → World → Prop) (hQ : ∀ x a w, Outs (ps_Apart.A4 K w0 X ls LT m3 xr4 m9 z3 m10 hc9 hc10 e5 hx8 An4 cn4 hxn4) (ps_Apart.B4 K w0 X ls LT m3 xr4 m9 z3 m10 hc9 hc10 e5 hx8 An4 cn4 hxn4) o x a w → Q x a w) : (subF Tryd.f15 [1, 1, 1, 1, 0, 1, 0, 0, 1, 1, 0, 0, 1, 1, 0, 0]).wp Tryd.prog Q a w := by
  obtain ⟨z4, m12⟩ := s
  obtain ⟨hS, hF⟩ := hA
  replace hS : St w0 w [Own.nest X 28 3 m12, Own.nest xr4 28 3 m3, Own.all LT] := hS
  simp only [ps_Apart.r4] at h
  refine (?_ : WE Tryd.prog 90 (subF Tryd.f15 [1, 1, 1, 1, 0, 1, 0, 0, 1, 1, 0, 0, 1, 1, 0, 0]) Q [(0, (Rows.val X)), (3, (Rows.val xr4)), (8, .int .i64 z3), (53, .int .i64 (m9.length : Int)), (54, .int .i64 z3), (61, .int .i64 (e5.length : Int)), (62, .int .i64 z4)] w) a hF
  clear hF a
  refine we_seq fun K28 hK28 => ?_
  refine we_region [(0, 0)] rfl ?_
  refine ge_batch [0] (ans := []) (vs := [(63, .bool (decide (z4 < (e5.length : Int))))]) (l := []) (by kernel_rfl) trivial ?_
  refine ge_nil fun a hF => hK28 _ _ ?_ a hF
  refine we_seq fun K29 hK29 => ?_
  by_cases hc11 : z4 < (e5.length : Int)
  · rw [if_pos hc11] at h
    refine we_known (t := 63) (b := decide (z4 < (e5.length : Int))) (v := true) (by kernel_rfl) (decide_eq_true hc11) ?_
    refine we_true (by kernel_rfl) ?_
    refine we_skip fun a hF => hK29 _ _ ?_ a hF
    refine we_seq fun K30 hK30 => ?_
    refine we_block ?_
    refine we_seq fun K31 hK31 => ?_
    refine we_region [(0, 0), (1, 0)] rfl ?_
    refine ge_batch [0, 1] (ans := []) (vs := [(9, .int .i64 z4), (64, .int .i64 z4)]) (l := []) (by kernel_rfl) trivial ?_
    refine ge_nil fun a hF => hK31 _ _ ?_ a hF
    refine we_seq fun K32 hK32 => ?_
    refine we_seq fun K33 hK33 => ?_
    refine we_region [(0, 0), (1, 0), (2, 0), (3, 0), (4, 0), (5, 0), (6, 0), (7, 0), (8, 0), (9, 0)] rfl ?_
    refine ge_batch [0, 1] (ans := []) (vs := [(66, .int .i64 z3), (65, (Rows.val X))]) (l := []) (by kernel_rfl) trivial ?_
    rcases hx9 : m12[(z3).toNat]? with _ | e6
    · rw [hx9] at h; cases h
    rw [hx9] at h
    simp only [] at h
    obtain ⟨An5, cn5, hxn5, -, -⟩ := (hS.nestAt 0 rfl).nl.get hx9
    refine ge_index (d := 67) (ty := 0) (t := 37) (el := 28) (sz := 1) (m := X.n) (c := X.c) (x := (.tmp 65)) (y := (.tmp 66)) (A := X.A) (k' := .i64) (j := z3) (jn := ((z3).toNat)) (b0 := blkOf X.A) (o0 := offOf X.A) (by kernel_rfl) (by kernel_rfl) (by kernel_rfl) (by kernel_rfl) (by kernel_rfl) ((hS.nestAt 0 rfl).rd.eqSome (pos_of_get hxn5)) (Int.toNat_of_nonneg hc10).symm (by have h0 := lt_of_get hx9; have h1 := (hS.nestAt 0 rfl).n; omega) ?_
    refine ge_batch [3, 4] (ans := [.val (.slice An5 e6.length cn5)]) (vs := [(69, .int .i64 z4), (68, .slice An5 e6.length cn5)]) (l := [.loaded ⟨blkOf X.A, offOf X.A + ((z3).toNat) * 1, none⟩ (.slice An5 e6.length cn5)]) (by kernel_rfl) ⟨RdL.cell (j := 0) ((hS.nestAt 0 rfl).rd) hxn5 rfl, trivial⟩ ?_
    by_cases hc12 : 0 ≤ z4
    · rw [if_pos hc12] at h
      rcases hx10 : e6[(z4).toNat]? with _ | e7
      · rw [hx10] at h; cases h
      rw [hx10] at h
      simp only [] at h
      refine ge_index (d := 70) (ty := 0) (t := 28) (el := 3) (sz := 1) (m := e6.length) (c := cn5) (x := (.tmp 68)) (y := (.tmp 69)) (A := An5) (k' := .i64) (j := z4) (jn := ((z4).toNat)) (b0 := blkOf An5) (o0 := offOf An5) (by kernel_rfl) (by kernel_rfl) (by kernel_rfl) (by kernel_rfl) (by kernel_rfl) ((((hS.nestAt 0 rfl).nl.each _ _ _ hxn5 hx9).2.1).eqSome (pos_of_get hx10)) (Int.toNat_of_nonneg hc12).symm (lt_of_get hx10) ?_
      refine ge_batch [6, 7, 8, 9] (ans := [.val (.int .i64 e7)]) (vs := [(74, .bool (e7 != (IntKind.i64.wrap ((-5) - z3)))), (73, .int .i64 (IntKind.i64.wrap ((-5) - z3))), (72, .int .i64 z3), (71, .int .i64 e7)]) (l := [.loaded ⟨blkOf An5, offOf An5 + ((z4).toNat) * 1, none⟩ (.int .i64 e7)]) (by kernel_rfl) ⟨RdL.cell (j := 0) (((hS.nestAt 0 rfl).nl.each _ _ _ hxn5 hx9).2.1) hx10 rfl, trivial⟩ ?_
      refine ge_nil fun a hF => hK33 _ _ ?_ a hF
      by_cases hc13 : e7 = (IntKind.i64.wrap ((-5) - z3))
      · rw [if_pos hc13] at h
        refine we_known (t := 74) (b := (e7 != (IntKind.i64.wrap ((-5) - z3)))) (v := false) (by kernel_rfl) (bne_eq_false_iff_eq.2 hc13) ?_
        refine we_false (by kernel_rfl) ?_
        refine we_skip fun a hF => hK32 _ _ ?_ a hF
        refine we_draws (by kernel_rfl) [(0, 0), (1, 0), (2, 0), (3, 0), (4, 0), (5, 0), (6, 0), (7, 0), (8, 0), (9, 0), (10, 0), (11, 0), (12, 0), (13, 2)] (by kernel_rfl) ?_
        have hS50 := hS.drew
        refine ge_batch [0, 1] (ans := []) (vs := [(76, .int .i64 z3), (75, (Rows.val X))]) (l := []) (by kernel_rfl) trivial ?_
        refine ge_index (d := 77) (ty := 0) (t := 37) (el := 28) (sz := 1) (m := X.n) (c := X.c) (x := (.tmp 75)) (y := (.tmp 76)) (A := X.A) (k' := .i64) (j := z3) (jn := ((z3).toNat)) (b0 := blkOf X.A) (o0 := offOf X.A) (by kernel_rfl) (by kernel_rfl) (by kernel_rfl) (by kernel_rfl) (by kernel_rfl) ((hS50.nestAt 0 rfl).rd.eqSome (pos_of_get hxn5)) (Int.toNat_of_nonneg hc10).symm (by have h0 := lt_of_get hx9; have h1 := (hS50.nestAt 0 rfl).n; omega) ?_
        refine ge_batch [3, 4, 5, 6] (ans := [.val (.slice An5 e6.length cn5)]) (vs := [(81, .int .i64 z3), (80, (Rows.val xr4)), (79, .int .i64 z4), (78, .slice An5 e6.length cn5)]) (l := [.loaded ⟨blkOf X.A, offOf X.A + ((z3).toNat) * 1, none⟩ (.slice An5 e6.length cn5)]) (by kernel_rfl) ⟨RdL.cell (j := 0) ((hS50.nestAt 0 rfl).rd) hxn5 rfl, trivial⟩ ?_
        rcases hx11 : m3[(z3).toNat]? with _ | e8
        · rw [hx11] at h; cases h
        rw [hx11] at h
        simp only [] at h
        obtain ⟨An6, cn6, hxn6, -, -⟩ := (hS50.nestAt 1 rfl).nl.get hx11
        refine ge_index (d := 82) (ty := 0) (t := 37) (el := 28) (sz := 1) (m := xr4.n) (c := xr4.c) (x := (.tmp 80)) (y := (.tmp 81)) (A := xr4.A) (k' := .i64) (j := z3) (jn := ((z3).toNat)) (b0 := blkOf xr4.A) (o0 := offOf xr4.A) (by kernel_rfl) (by kernel_rfl) (by kernel_rfl) (by kernel_rfl) (by kernel_rfl) ((hS50.nestAt 1 rfl).rd.eqSome (pos_of_get hxn6)) (Int.toNat_of_nonneg hc10).symm (by have h0 := lt_of_get hx11; have h1 := (hS50.nestAt 1 rfl).n; omega) ?_
        refine ge_batch [8, 9] (ans := [.val (.slice An6 e8.length cn6)]) (vs := [(84, .int .i64 z4), (83, .slice An6 e8.length cn6)]) (l := [.loaded ⟨blkOf xr4.A, offOf xr4.A + ((z3).toNat) * 1, none⟩ (.slice An6 e8.length cn6)]) (by kernel_rfl) ⟨RdL.cell (j := 0) ((hS50.nestAt 1 rfl).rd) hxn6 rfl, trivial⟩ ?_
        rcases hx12 : e8[(z4).toNat]? with _ | e9
        · rw [hx12] at h; cases h
        rw [hx12] at h
        simp only [] at h
        refine ge_index (d := 85) (ty := 0) (t := 28) (el := 3) (sz := 1) (m := e8.length) (c := cn6) (x := (.tmp 83)) (y := (.tmp 84)) (A := An6) (k' := .i64) (j := z4) (jn := ((z4).toNat)) (b0 := blkOf An6) (o0 := offOf An6) (by kernel_rfl) (by kernel_rfl) (by kernel_rfl) (by kernel_rfl) (by kernel_rfl) ((((hS50.nestAt 1 rfl).nl.each _ _ _ hxn6 hx11).2.1).eqSome (pos_of_get hx12)) (Int.toNat_of_nonneg hc12).symm (lt_of_get hx12) ?_
        refine ge_batch [11] (ans := [.val (.int .i64 e9)]) (vs := [(86, .int .i64 e9)]) (l := [.loaded ⟨blkOf An6, offOf An6 + ((z4).toNat) * 1, none⟩ (.int .i64 e9)]) (by kernel_rfl) ⟨RdL.cell (j := 0) (((hS50.nestAt 1 rfl).nl.each _ _ _ hxn6 hx11).2.1) hx12 rfl, trivial⟩ ?_
        refine ge_index (d := 87) (ty := 0) (t := 28) (el := 3) (sz := 1) (m := e6.length) (c := cn5) (x := (.tmp 78)) (y := (.tmp 79)) (A := An5) (k' := .i64) (j := z4) (jn := ((z4).toNat)) (b0 := blkOf An5) (o0 := offOf An5) (by kernel_rfl) (by kernel_rfl) (by kernel_rfl) (by kernel_rfl) (by kernel_rfl) ((((hS50.nestAt 0 rfl).nl.each _ _ _ hxn5 hx9).2.1).eqSome (pos_of_get hx10)) (Int.toNat_of_nonneg hc12).symm (lt_of_get hx10) ?_
        refine ge_nestCell (α := Int) (jn := ((z3).toNat)) (kn := ((z4).toNat)) (j := 0) (c := cn5) (T := 28) (e0 := 3) (A := An5) (X := X) (l := e6) (ls := m12) (x := e7) (x' := e9) (vs := [.int .i64 e9]) (l' := [.stored ⟨blkOf An5, offOf An5 + ((z4).toNat) * 1, none⟩ (.int .i64 e9)]) hS50 hx9 hxn5 (by kernel_rfl) (by kernel_rfl) hx10 rfl rfl (by kernel_rfl) fun w11 hS51 => ?_
        refine ge_nil fun a hF => hK30 _ _ ?_ a hF
        refine we_region [(0, 0), (1, 0)] rfl ?_
        refine ge_batch [0, 1] (ans := []) (vs := [(62, .int .i64 (IntKind.i64.wrap (z4 + 1))), (88, .int .i64 (IntKind.i64.wrap (z4 + 1)))]) (l := []) (by kernel_rfl) trivial ?_
        have hS52 := hS51.bring 2 rfl
        have hS53 := hS52.bring 2 rfl
        have hS54 := hS53.bring 2 rfl
        obtain rfl := Option.some.inj h
        exact ge_nil fun a hF => hQ _ _ _ (Outs.again ⟨hS54, hF.weaken ⟨by kernel_rfl, by kernel_rfl, by kernel_rfl, by kernel_rfl, by kernel_rfl, by kernel_rfl, by kernel_rfl, trivial⟩⟩)
      · rw [if_neg hc13] at h
        refine we_known (t := 74) (b := (e7 != (IntKind.i64.wrap ((-5) - z3)))) (v := true) (by kernel_rfl) (bne_iff_ne.2 hc13) ?_
        refine we_true (by kernel_rfl) ?_
        refine we_seq fun K34 hK34 => ?_
        refine we_region [(0, 0)] rfl ?_
        refine ge_batch [0] (ans := []) (vs := [(2, .bool false)]) (l := []) (by kernel_rfl) trivial ?_
        refine ge_nil fun a hF => hK34 _ _ ?_ a hF
        have hS55 := hS.bring 2 rfl
        have hS56 := hS55.bring 1 rfl
        have hS57 := hS56.takeN 2
        obtain rfl := Option.some.inj h
        exact we_ret fun a hF => hQ _ _ _ (Outs.out nofun (Exits.on ⟨rfl, (post_ret (rs := [.tmp 2]) (ans := []) (vs := [.bool false]) (l := []) rfl (by kernel_rfl) trivial ⟨rfl, hS57⟩) a hF⟩))
    · rw [if_neg hc12] at h
      cases h
  · rw [if_neg hc11] at h
    refine we_known (t := 63) (b := decide (z4 < (e5.length : Int))) (v := false) (by kernel_rfl) (decide_eq_false hc11) ?_
    refine we_false (by kernel_rfl) ?_
    have hS58 := hS.bring 2 rfl
    have hS59 := hS58.bring 2 rfl
    have hS60 := hS59.bring 2 rfl
    obtain rfl := Option.some.inj h
    exact we_exit fun a hF => hQ _ _ _ (Outs.out nofun (Exits.here ⟨hS60, hF.weaken ⟨by kernel_rfl, by kernel_rfl, by kernel_rfl, by kernel_rfl, trivial⟩⟩))
abbrev ps_Apart.A3 (K : Nat) (w0 : World) (X : Rows) (ls : List (List Int)) (LT : List Own) (m3 : List (List Int)) (xr4 : Rows) (m9 : List (List Int)) : (Int × (List (List Int))) → Act → World → Prop := fun (s : Int × (List (List Int))) a w => St w0 w [Own.nest X 28 3 s.2, Own.nest xr4 28 3 m3, Own.all LT] ∧ Frm 90 a [(0, (Rows.val X)), (3, (Rows.val xr4)), (53, .int .i64 (m9.length : Int)), (54, .int .i64 s.1)]
abbrev ps_Apart.B3 (K : Nat) (w0 : World) (X : Rows) (ls : List (List Int)) (LT : List Own) (m3 : List (List Int)) (xr4 : Rows) (m9 : List (List Int)) : ((List (List Int)) ⊕ (Bool × (List (List Int)))) → Exit → Act → World → Prop := Exits 6 (fun (s : (List (List Int))) a w => St w0 w [Own.nest X 28 3 s, Own.all LT] ∧ Frm 90 a [(0, (Rows.val X))]) (Rets Tryd.prog Tryd.f15 (ps_Apart.Post w0 X ls LT))
theorem ps_Apart_r3 (K : Nat) (w0 : World) (X : Rows) (ls : List (List Int)) (LT : List Own) (m3 : List (List Int)) (xr4 : Rows) (m9 : List (List Int)) (s : Int × (List (List Int))) (o : (Int × (List (List Int))) ⊕ ((List (List Int)) ⊕ (Bool × (List (List Int))))) (h : ps_Apart.r3 K m3 m9 s = some o) (a : Act) (w : World) (hA : ps_Apart.A3 K w0 X ls LT m3 xr4 m9 s a w) (Q : Exit → Act → World → Prop) (hQ : ∀ x a w, Outs (ps_Apart.A3 K w0 X ls LT m3 xr4 m9) (ps_Apart.B3 K w0 X ls LT m3 xr4 m9) o x a w → Q x a w) : (subF Tryd.f15 [1, 1, 1, 1, 0, 1, 0, 0]).wp Tryd.prog Q a w := by
  obtain ⟨z3, m10⟩ := s
  obtain ⟨hS, hF⟩ := hA
  replace hS : St w0 w [Own.nest X 28 3 m10, Own.nest xr4 28 3 m3, Own.all LT] := hS
  simp only [ps_Apart.r3] at h
  refine (?_ : WE Tryd.prog 90 (subF Tryd.f15 [1, 1, 1, 1, 0, 1, 0, 0]) Q [(0, (Rows.val X)), (3, (Rows.val xr4)), (53, .int .i64 (m9.length : Int)), (54, .int .i64 z3)] w) a hF
  clear hF a
  refine we_seq fun K23 hK23 => ?_
  refine we_region [(0, 0)] rfl ?_
  refine ge_batch [0] (ans := []) (vs := [(55, .bool (decide (z3 < (m9.length : Int))))]) (l := []) (by kernel_rfl) trivial ?_
  refine ge_nil fun a hF => hK23 _ _ ?_ a hF
  refine we_seq fun K24 hK24 => ?_
  by_cases hc9 : z3 < (m9.length : Int)
  · rw [if_pos hc9] at h
    refine we_known (t := 55) (b := decide (z3 < (m9.length : Int))) (v := true) (by kernel_rfl) (decide_eq_true hc9) ?_
    refine we_true (by kernel_rfl) ?_
    refine we_skip fun a hF => hK24 _ _ ?_ a hF
    refine we_seq fun K25 hK25 => ?_
    refine we_block ?_
    refine we_seq fun K26 hK26 => ?_
    refine we_region [(0, 0), (1, 0)] rfl ?_
    refine ge_batch [0, 1] (ans := []) (vs := [(8, .int .i64 z3), (56, .int .i64 z3)]) (l := []) (by kernel_rfl) trivial ?_
    refine ge_nil fun a hF => hK26 _ _ ?_ a hF
    refine we_seq fun K27 hK27 => ?_
    refine we_region [(0, 0), (1, 0), (2, 0), (3, 0), (4, 0), (5, 0)] rfl ?_
    refine ge_batch [0, 1] (ans := []) (vs := [(58, .int .i64 z3), (57, (Rows.val X))]) (l := []) (by kernel_rfl) trivial ?_
    by_cases hc10 : 0 ≤ z3
    · rw [if_pos hc10] at h
      rcases hx8 : m10[(z3).toNat]? with _ | e5
      · rw [hx8] at h; cases h
      rw [hx8] at h
      simp only [] at h
      obtain ⟨An4, cn4, hxn4, -, -⟩ := (hS.nestAt 0 rfl).nl.get hx8
      refine ge_index (d := 59) (ty := 0) (t := 37) (el := 28) (sz := 1) (m := X.n) (c := X.c) (x := (.tmp 57)) (y := (.tmp 58)) (A := X.A) (k' := .i64) (j := z3) (jn := ((z3).toNat)) (b0 := blkOf X.A) (o0 := offOf X.A) (by kernel_rfl) (by kernel_rfl) (by kernel_rfl) (by kernel_rfl) (by kernel_rfl) ((hS.nestAt 0 rfl).rd.eqSome (pos_of_get hxn4)) (Int.toNat_of_nonneg hc10).symm (by have h0 := lt_of_get hx8; have h1 := (hS.nestAt 0 rfl).n; omega) ?_
      refine ge_batch [3, 4, 5] (ans := [.val (.slice An4 e5.length cn4)]) (vs := [(62, .int .i64 0), (61, .int .i64 (e5.length : Int)), (60, .slice An4 e5.length cn4)]) (l := [.loaded ⟨blkOf X.A, offOf X.A + ((z3).toNat) * 1, none⟩ (.slice An4 e5.length cn4)]) (by kernel_rfl) ⟨RdL.cell (j := 0) ((hS.nestAt 0 rfl).rd) hxn4 rfl, trivial⟩ ?_
      refine ge_nil fun a hF => hK27 _ _ ?_ a hF
      refine we_block ?_
      have hS47 := hS.bring 2 rfl
      have hS48 := hS47.bring 2 rfl
      have hS49 := hS48.bring 2 rfl
      rcases hq4 : iter (ps_Apart.r4 m3 z3 e5) K (0, m10) with _ | (m14 | rr2)
      · rw [hq4] at h; cases h
      · rw [hq4] at h
        simp only [] at h
        refine we_iter (A := ps_Apart.A4 K w0 X ls LT m3 xr4 m9 z3 m10 hc9 hc10 e5 hx8 An4 cn4 hxn4) (B := ps_Apart.B4 K w0 X ls LT m3 xr4 m9 z3 m10 hc9 hc10 e5 hx8 An4 cn4 hxn4) hq4 (fun a hF => ⟨hS49, hF.weaken ⟨by kernel_rfl, by kernel_rfl, by kernel_rfl, by kernel_rfl, by kernel_rfl, by kernel_rfl, by kernel_rfl, trivial⟩⟩) (fun s o hf a w hA Q hQ => ps_Apart_r4 K w0 X ls LT m3 xr4 m9 z3 m10 hc9 hc10 e5 hx8 An4 cn4 hxn4 s o hf a w hA Q hQ) ?_
        rintro _ a w12 _ ⟨rfl, hS61, hF⟩
        replace hS61 : St w0 w12 [Own.nest X 28 3 m14, Own.nest xr4 28 3 m3, Own.all LT] := hS61
        refine hK25 [(0, (Rows.val X)), (3, (Rows.val xr4)), (53, .int .i64 (m9.length : Int)), (54, .int .i64 z3)] w12 ?_ a hF
        refine we_region [(0, 0), (1, 0)] rfl ?_
        refine ge_batch [0, 1] (ans := []) (vs := [(54, .int .i64 (IntKind.i64.wrap (z3 + 1))), (89, .int .i64 (IntKind.i64.wrap (z3 + 1)))]) (l := []) (by kernel_rfl) trivial ?_
        have hS62 := hS61.bring 2 rfl
        have hS63 := hS62.bring 2 rfl
        have hS64 := hS63.bring 2 rfl
        obtain rfl := Option.some.inj h
        exact ge_nil fun a hF => hQ _ _ _ (Outs.again ⟨hS64, hF.weaken ⟨by kernel_rfl, by kernel_rfl, by kernel_rfl, by kernel_rfl, trivial⟩⟩)
      · rw [hq4] at h
        simp only [] at h
        refine we_iter (A := ps_Apart.A4 K w0 X ls LT m3 xr4 m9 z3 m10 hc9 hc10 e5 hx8 An4 cn4 hxn4) (B := ps_Apart.B4 K w0 X ls LT m3 xr4 m9 z3 m10 hc9 hc10 e5 hx8 An4 cn4 hxn4) hq4 (fun a hF => ⟨hS49, hF.weaken ⟨by kernel_rfl, by kernel_rfl, by kernel_rfl, by kernel_rfl, by kernel_rfl, by kernel_rfl, by kernel_rfl, trivial⟩⟩) (fun s o hf a w hA Q hQ => ps_Apart_r4 K w0 X ls LT m3 xr4 m9 z3 m10 hc9 hc10 e5 hx8 An4 cn4 hxn4 s o hf a w hA Q hQ) ?_
        rintro _ a w1 _ ⟨rfl, hb⟩
        obtain rfl := Option.some.inj h
        exact hQ _ _ _ (Outs.out nofun (Exits.on ⟨rfl, hb⟩))
    · rw [if_neg hc10] at h
      cases h
  · rw [if_neg hc9] at h
    refine we_known (t := 55) (b := decide (z3 < (m9.length : Int))) (v := false) (by kernel_rfl) (decide_eq_false hc9) ?_
    refine we_false (by kernel_rfl) ?_
    have hS65 := hS.bring 2 rfl
    have hS66 := hS65.bring 1 rfl
    have hS67 := hS66.takeN 2
    obtain rfl := Option.some.inj h
    exact we_exit fun a hF => hQ _ _ _ (Outs.out nofun (Exits.here ⟨hS67, hF.weaken ⟨by kernel_rfl, trivial⟩⟩))
theorem ps_Apart_ok (K : Nat) (X : Rows) (ls : List (List Int)) (w0 wE : World) (LT : List Own) (hS : St w0 wE [Own.nest X 28 3 ls, Own.all LT]) (r : Bool × (List (List Int))) (h : ps_Apart.f K ls = some r) :
    Calls Tryd.prog 15 #[Rows.val X] wE (ps_Apart.Post w0 X ls LT r) := by
  unfold ps_Apart.f at h
  refine calls_enter (n := 90) (args := [Rows.val X]) (fn := Tryd.f15) rfl rfl rfl rfl ?_
  show WE _ _ _ _ [(0, Rows.val X)] _
  refine we_seq fun K1 hK1 => ?_
  refine we_region [(0, 0)] rfl ?_
  refine ge_batch [0] (ans := []) (vs := [(2, .bool false)]) (l := []) (by kernel_rfl) trivial ?_
  refine ge_nil fun a hF => hK1 _ _ ?_ a hF
  refine we_seq fun K2 hK2 => ?_
  refine we_region [(0, 0)] rfl ?_
  refine ge_batch [0] (ans := []) (vs := [(3, .slice none 0 0)]) (l := []) (by kernel_rfl) trivial ?_
  refine ge_nil fun a hF => hK2 _ _ ?_ a hF
  refine we_seq fun K3 hK3 => ?_
  refine we_seq fun K4 hK4 => ?_
  refine we_region [(0, 0), (1, 0), (2, 0)] rfl ?_
  refine ge_batch [0, 1] (ans := []) (vs := [(11, .int .i64 (X.n : Int)), (10, (Rows.val X))]) (l := []) (by kernel_rfl) trivial ?_
  refine ge_same (t := 11) (v := .int .i64 (X.n : Int)) (v' := .int .i64 (ls.length : Int)) (by kernel_rfl) (by rw [(hS.nestAt 0 rfl).n]) ?_
  refine ge_batch [2] (ans := []) (vs := [(12, .int .i64 0)]) (l := []) (by kernel_rfl) trivial ?_
  refine ge_nil fun a hF => hK4 _ _ ?_ a hF
  refine we_block ?_
  have hS1 := hS.nestNil (α := Int) 28 3
  have hS2 := hS1.bring 2 rfl
  have hS3 := hS2.bring 1 rfl
  have hS4 := hS3.bring 2 rfl
  rcases hq1 : iter (ps_Apart.r0 ls) K (([] : List (List Int)), 0) with _ | (m3 | rr5)
  · rw [hq1] at h; cases h
  · rw [hq1] at h
    simp only [] at h
    refine we_iter (A := ps_Apart.A0 K w0 X ls LT) (B := ps_Apart.B0 K w0 X ls LT) hq1 (fun a hF => ⟨Rows.none, hS4, hF.weaken ⟨by kernel_rfl, by kernel_rfl, by kernel_rfl, by kernel_rfl, by kernel_rfl, trivial⟩⟩) (fun s o hf a w hA Q hQ => ps_Apart_r0 K w0 X ls LT s o hf a w hA Q hQ) ?_
    rintro _ a w5 _ ⟨rfl, xr4, hS19, hF⟩
    replace hS19 : St w0 w5 [Own.nest X 28 3 ls, Own.nest xr4 28 3 m3, Own.all LT] := hS19
    refine hK3 [(0, (Rows.val X)), (3, (Rows.val xr4))] w5 ?_ a hF
    refine we_seq fun K9 hK9 => ?_
    refine we_seq fun K10 hK10 => ?_
    refine we_region [(0, 0), (1, 0), (2, 0)] rfl ?_
    refine ge_batch [0, 1] (ans := []) (vs := [(24, .int .i64 (X.n : Int)), (23, (Rows.val X))]) (l := []) (by kernel_rfl) trivial ?_
    refine ge_same (t := 24) (v := .int .i64 (X.n : Int)) (v' := .int .i64 (ls.length : Int)) (by kernel_rfl) (by rw [(hS19.nestAt 0 rfl).n]) ?_
    refine ge_batch [2] (ans := []) (vs := [(25, .int .i64 0)]) (l := []) (by kernel_rfl) trivial ?_
    refine ge_nil fun a hF => hK10 _ _ ?_ a hF
    refine we_block ?_
    have hS20 := hS19.bring 2 rfl
    have hS21 := hS20.bring 2 rfl
    have hS22 := hS21.bring 2 rfl
    rcases hq3 : iter (ps_Apart.r1 K ls) K (0, ls) with _ | (m9 | rr4)
    · rw [hq3] at h; cases h
    · rw [hq3] at h
      simp only [] at h
      refine we_iter (A := ps_Apart.A1 K w0 X ls LT m3 xr4) (B := ps_Apart.B1 K w0 X ls LT m3 xr4) hq3 (fun a hF => ⟨hS22, hF.weaken ⟨by kernel_rfl, by kernel_rfl, by kernel_rfl, by kernel_rfl, trivial⟩⟩) (fun s o hf a w hA Q hQ => ps_Apart_r1 K w0 X ls LT m3 xr4 s o hf a w hA Q hQ) ?_
      rintro _ a w10 _ ⟨rfl, hS43, hF⟩
      replace hS43 : St w0 w10 [Own.nest X 28 3 m9, Own.nest xr4 28 3 m3, Own.all LT] := hS43
      refine hK9 [(0, (Rows.val X)), (3, (Rows.val xr4))] w10 ?_ a hF
      refine we_seq fun K21 hK21 => ?_
      refine we_seq fun K22 hK22 => ?_
      refine we_region [(0, 0), (1, 0), (2, 0)] rfl ?_
      refine ge_batch [0, 1] (ans := []) (vs := [(53, .int .i64 (X.n : Int)), (52, (Rows.val X))]) (l := []) (by kernel_rfl) trivial ?_
      refine ge_same (t := 53) (v := .int .i64 (X.n : Int)) (v' := .int .i64 (m9.length : Int)) (by kernel_rfl) (by rw [(hS43.nestAt 0 rfl).n]) ?_
      refine ge_batch [2] (ans := []) (vs := [(54, .int .i64 0)]) (l := []) (by kernel_rfl) trivial ?_
      refine ge_nil fun a hF => hK22 _ _ ?_ a hF
      refine we_block ?_
      have hS44 := hS43.bring 2 rfl
      have hS45 := hS44.bring 2 rfl
      have hS46 := hS45.bring 2 rfl
      rcases hq5 : iter (ps_Apart.r3 K m3 m9) K (0, m9) with _ | (m15 | rr3)
      · rw [hq5] at h; cases h
      · rw [hq5] at h
        simp only [] at h
        refine we_iter (A := ps_Apart.A3 K w0 X ls LT m3 xr4 m9) (B := ps_Apart.B3 K w0 X ls LT m3 xr4 m9) hq5 (fun a hF => ⟨hS46, hF.weaken ⟨by kernel_rfl, by kernel_rfl, by kernel_rfl, by kernel_rfl, trivial⟩⟩) (fun s o hf a w hA Q hQ => ps_Apart_r3 K w0 X ls LT m3 xr4 m9 s o hf a w hA Q hQ) ?_
        rintro _ a w13 _ ⟨rfl, hS68, hF⟩
        replace hS68 : St w0 w13 [Own.nest X 28 3 m15, Own.all LT] := hS68
        refine hK21 [(0, (Rows.val X))] w13 ?_ a hF
        refine we_seq fun K35 hK35 => ?_
        refine we_region [(0, 0)] rfl ?_
        refine ge_batch [0] (ans := []) (vs := [(2, .bool true)]) (l := []) (by kernel_rfl) trivial ?_
        refine ge_nil fun a hF => hK35 _ _ ?_ a hF
        have hS69 := hS68.bring 1 rfl
        have hS70 := hS69.bring 1 rfl
        obtain rfl := Option.some.inj h
        exact we_ret (post_ret (rs := [.tmp 2]) (ans := []) (vs := [.bool true]) (l := []) rfl (by kernel_rfl) trivial ⟨rfl, hS70⟩)
      · rw [hq5] at h
        simp only [] at h
        refine we_iter (A := ps_Apart.A3 K w0 X ls LT m3 xr4 m9) (B := ps_Apart.B3 K w0 X ls LT m3 xr4 m9) hq5 (fun a hF => ⟨hS46, hF.weaken ⟨by kernel_rfl, by kernel_rfl, by kernel_rfl, by kernel_rfl, trivial⟩⟩) (fun s o hf a w hA Q hQ => ps_Apart_r3 K w0 X ls LT m3 xr4 m9 s o hf a w hA Q hQ) ?_
        rintro _ a w1 _ ⟨rfl, hb⟩
        obtain rfl := Option.some.inj h
        exact hb
    · rw [hq3] at h
      simp only [] at h
      refine we_iter (A := ps_Apart.A1 K w0 X ls LT m3 xr4) (B := ps_Apart.B1 K w0 X ls LT m3 xr4) hq3 (fun a hF => ⟨hS22, hF.weaken ⟨by kernel_rfl, by kernel_rfl, by kernel_rfl, by kernel_rfl, trivial⟩⟩) (fun s o hf a w hA Q hQ => ps_Apart_r1 K w0 X ls LT m3 xr4 s o hf a w hA Q hQ) ?_
      rintro _ a w1 _ ⟨rfl, hb⟩
      obtain rfl := Option.some.inj h
      exact hb
  · rw [hq1] at h
    simp only [] at h
    refine we_iter (A := ps_Apart.A0 K w0 X ls LT) (B := ps_Apart.B0 K w0 X ls LT) hq1 (fun a hF => ⟨Rows.none, hS4, hF.weaken ⟨by kernel_rfl, by kernel_rfl, by kernel_rfl, by kernel_rfl, by kernel_rfl, trivial⟩⟩) (fun s o hf a w hA Q hQ => ps_Apart_r0 K w0 X ls LT s o hf a w hA Q hQ) ?_
    rintro _ a w1 _ ⟨rfl, hb⟩
    obtain rfl := Option.some.inj h
    exact hb

/-! punctual/punctualsame.Still[punctual/api.Crit] -/
abbrev ps_Still_api_Crit.Post (w0 : World) (r : Bool) (e : Ending) (w : World) : Prop := e = .returned (.bool r) ∧ St w0 w []
def ps_Still_api_Crit.r0 (f0 : List SCrit) (l1 : List SCrit) (x2 : SCrit) : Nat → Option (Nat ⊕ (Unit ⊕ Bool))
  | i1 =>
    if (i1 : Int) < (f0.length : Int) then
      match f0[i1]? with
      | none => none
      | some e1 =>
        if (i1 : Int) < (l1.length : Int) then
          match l1[i1]? with
          | none => none
          | some e2 =>
            if (SCrit.eqb e1 e2) = true then
              if (i1 : Int) ≥ (l1.length : Int) then
                if (SCrit.eqb e1 x2) = true then
                  some (.inl (i1 + 1))
                else
                  some (.inr (.inr false))
              else
                some (.inl (i1 + 1))
            else
              some (.inr (.inr false))
        else
          if (i1 : Int) ≥ (l1.length : Int) then
            if (SCrit.eqb e1 x2) = true then
              some (.inl (i1 + 1))
            else
              some (.inr (.inr false))
          else
            some (.inl (i1 + 1))
    else
      some (.inr (.inl ()))
def ps_Still_api_Crit.f (K : Nat) (f0 : List SCrit) (l1 : List SCrit) (x2 : SCrit) : Option Bool :=
  if (IntKind.i64.wrap ((l1.length : Int) + 3)) = (f0.length : Int) then
    match iter (ps_Still_api_Crit.r0 f0 l1 x2) K 0 with
    | none => none
    | some (.inl _) =>
      some true
    | some (.inr rr1) =>
      some rr1
  else
    none
abbrev ps_Still_api_Crit.A0 (K : Nat) (w0 : World) (f0 : List SCrit) (A0 : Option Addr) (n0 : Nat) (c0 : Nat) (l1 : List SCrit) (A1 : Option Addr) (c1 : Nat) (x2 : SCrit) (hR0 : RdL w0 A0 f0) (hc0 : f0.length ≤ c0) (hR1 : RdL w0 A1 l1) (hL1 : l1.length ≤ c1) (b1 : Nat) (hc1 : (IntKind.i64.wrap ((l1.length : Int) + 3)) = (f0.length : Int)) : Nat → Act → World → Prop := fun (s : Nat) a w => St w0 w [Own.blk b1 (.cells #[.int .i64 x2.C, .int .i64 x2.H, .int .i64 x2.T, .int .i64 x2.D, .bool x2.High, .int .i64 x2.P] 27 (0, 0))] ∧ Frm 46 a [(1, .slice A1 l1.length c1), (5, .pointer (some ⟨b1, 0, none⟩)), (15, .slice A0 f0.length c0), (16, .int .i64 (f0.length : Int)), (17, .int .i64 (s : Int))]
abbrev ps_Still_api_Crit.B0 (K : Nat) (w0 : World) (f0 : List SCrit) (A0 : Option Addr) (n0 : Nat) (c0 : Nat) (l1 : List SCrit) (A1 : Option Addr) (c1 : Nat) (x2 : SCrit) (hR0 : RdL w0 A0 f0) (hc0 : f0.length ≤ c0) (hR1 : RdL w0 A1 l1) (hL1 : l1.length ≤ c1) (b1 : Nat) (hc1 : (IntKind.i64.wrap ((l1.length : Int) + 3)) = (f0.length : Int)) : (Unit ⊕ Bool) → Exit → Act → World → Prop := Exits 0 (fun (s : Unit) a w => St w0 w [] ∧ Frm 46 a []) (Rets Tryd.prog Tryd.f16 (ps_Still_api_Crit.Post w0))
theorem ps_Still_api_Crit_r0 (K : Nat) (w0 : World) (f0 : List SCrit) (A0 : Option Addr) (n0 : Nat) (c0 : Nat) (l1 : List SCrit) (A1 : Option Addr) (c1 : Nat) (x2 : SCrit) (hR0 : RdL w0 A0 f0) (hc0 : f0.length ≤ c0) (hR1 : RdL w0 A1 l1) (hL1 : l1.length ≤ c1) (b1 : Nat) (hc1 : (IntKind.i64.wrap ((l1.length : Int) + 3)) = (f0.length : Int)) (s : Nat) (o : Nat ⊕ (Unit ⊕ Bool)) (h : ps_Still_api_Crit.r0 f0 l1 x2 s = some o) (a : Act) (w : World) (hA : ps_Still_api_Crit.A0 K w0 f0 A0 n0 c0 l1 A1 c1 x2 hR0 hc0 hR1 hL1 b1 hc1 s a w) (Q : Exit → Act → World → Prop) (hQ : ∀ x a w, Outs (ps_Still_api_Crit.A0 K w0 f0 A0 n0 c0 l1 A1 c1 x2 hR0 hc0 hR1 hL1 b1 hc1) (ps_Still_api_Crit.B0 K w0 f0 A0 n0 c0 l1 A1 c1 x2 hR0 hc0 hR1 hL1 b1 hc1) o x a w → Q x a w) : (subF Tryd.f16 [1, 1, 0, 1, 0, 0]).wp Tryd.prog Q a w := by
  obtain ⟨i1, hs⟩ : ∃ z, z = s := ⟨s, rfl⟩
  subst hs
  obtain ⟨hS, hF⟩ := hA
  replace hS : St w0 w [Own.blk b1 (.cells #[.int .i64 x2.C, .int .i64 x2.H, .int .i64 x2.T, .int .i64 x2.D, .bool x2.High, .int .i64 x2.P] 27 (0, 0))] := hS
  simp only [ps_Still_api_Crit.r0] at h
  refine (?_ : WE Tryd.prog 46 (subF Tryd.f16 [1, 1, 0, 1, 0, 0]) Q [(1, .slice A1 l1.length c1), (5, .pointer (some ⟨b1, 0, none⟩)), (15, .slice A0 f0.length c0), (16, .int .i64 (f0.length : Int)), (17, .int .i64 (i1 : Int))] w) a hF
  clear hF a
  refine we_seq fun K5 hK5 => ?_
  refine we_region [(0, 0)] rfl ?_
  refine ge_batch [0] (ans := []) (vs := [(18, .bool (decide ((i1 : Int) < (f0.length : Int))))]) (l := []) (by kernel_rfl) trivial ?_
  refine ge_nil fun a hF => hK5 _ _ ?_ a hF
  refine we_seq fun K6 hK6 => ?_
  by_cases hc2 : (i1 : Int) < (f0.length : Int)
  · rw [if_pos hc2] at h
    refine we_known (t := 18) (b := decide ((i1 : Int) < (f0.length : Int))) (v := true) (by kernel_rfl) (decide_eq_true hc2) ?_
    refine we_true (by kernel_rfl) ?_
    refine we_skip fun a hF => hK6 _ _ ?_ a hF
    refine we_seq fun K7 hK7 => ?_
    refine we_block ?_
    refine we_seq fun K8 hK8 => ?_
    refine we_region [(0, 0), (1, 0), (2, 0), (3, 1), (4, 0), (5, 2)] rfl ?_
    refine ge_batch [0] (ans := []) (vs := [(19, .int .i64 (i1 : Int))]) (l := []) (by kernel_rfl) trivial ?_
    rcases hx2 : f0[i1]? with _ | e1
    · rw [hx2] at h; cases h
    rw [hx2] at h
    simp only [] at h
    refine ge_index (d := 20) (ty := 0) (t := 22) (el := 27) (sz := 6) (m := f0.length) (c := c0) (x := (.tmp 15)) (y := (.tmp 17)) (A := A0) (k' := .i64) (j := (i1 : Int)) (jn := i1) (b0 := blkOf A0) (o0 := offOf A0) (by kernel_rfl) (by kernel_rfl) (by kernel_rfl) (by kernel_rfl) (by kernel_rfl) ((hS.rd hR0).eqSome (pos_of_get hx2)) rfl (lt_of_get hx2) ?_
    refine ge_batch [2] (ans := [.val (.int .i64 e1.C), .val (.int .i64 e1.H), .val (.int .i64 e1.T), .val (.int .i64 e1.D), .val (.bool e1.High), .val (.int .i64 e1.P)]) (vs := [(21, .agg #[.int .i64 e1.C, .int .i64 e1.H, .int .i64 e1.T, .int .i64 e1.D, .bool e1.High, .int .i64 e1.P])]) (l := [.loaded ⟨blkOf A0, offOf A0 + i1 * 6, none⟩ (.int .i64 e1.C), .loaded ⟨blkOf A0, offOf A0 + i1 * 6 + 1, none⟩ (.int .i64 e1.H), .loaded ⟨blkOf A0, offOf A0 + i1 * 6 + 2, none⟩ (.int .i64 e1.T), .loaded ⟨blkOf A0, offOf A0 + i1 * 6 + 3, none⟩ (.int .i64 e1.D), .loaded ⟨blkOf A0, offOf A0 + i1 * 6 + 4, none⟩ (.bool e1.High), .loaded ⟨blkOf A0, offOf A0 + i1 * 6 + 5, none⟩ (.int .i64 e1.P)]) (by kernel_rfl) ⟨RdL.cell (j := 0) (hS.rd hR0) hx2 rfl, RdL.cell (j := 1) (hS.rd hR0) hx2 rfl, RdL.cell (j := 2) (hS.rd hR0) hx2 rfl, RdL.cell (j := 3) (hS.rd hR0) hx2 rfl, RdL.cell (j := 4) (hS.rd hR0) hx2 rfl, RdL.cell (j := 5) (hS.rd hR0) hx2 rfl, trivial⟩ ?_
    refine ge_new (d := some 9) (o := .cells #[.int .i64 0, .int .i64 0, .int .i64 0, .int .i64 0, .bool false, .int .i64 0] 27) (v := fun b => .pointer (some ⟨b, 0, none⟩)) hS (fun b => by kernel_rfl) fun b2 w2 hx3 hS2 => ?_
    refine ge_batch [4] (ans := []) (vs := [(8, .int .i64 (i1 : Int))]) (l := []) (by kernel_rfl) trivial ?_
    refine ge_set (b := b2) (j := 0) (cs := #[.int .i64 0, .int .i64 0, .int .i64 0, .int .i64 0, .bool false, .int .i64 0]) (t := 27) (vs := [.int .i64 e1.C, .int .i64 e1.H, .int .i64 e1.T, .int .i64 e1.D, .bool e1.High, .int .i64 e1.P]) hS2 (by kernel_rfl) rfl rfl fun w3 hS3 => ?_
    have hS4 := hS3.nc #[.int .i64 e1.C, .int .i64 e1.H, .int .i64 e1.T, .int .i64 e1.D, .bool e1.High, .int .i64 e1.P] (by kernel_rfl)
    refine ge_nil fun a hF => hK8 _ _ ?_ a hF
    refine we_seq fun K9 hK9 => ?_
    refine we_draws (by kernel_rfl) [(0, 0), (1, 0), (2, 0), (3, 0), (4, 0), (5, 0), (6, 0), (7, 0), (8, 0), (9, 0), (10, 0), (11, 0), (12, 0), (13, 0), (14, 0), (15, 0), (16, 0), (17, 0), (18, 0), (19, 0), (20, 0), (21, 0), (22, 0)] (by kernel_rfl) ?_
    have hS5 := hS4.drew
    refine ge_batch [0, 1, 2, 3, 4] (ans := []) (vs := [(26, .bool (decide ((i1 : Int) < (l1.length : Int)))), (25, .bool (decide ((i1 : Int) < (l1.length : Int)))), (24, .int .i64 (l1.length : Int)), (23, .slice A1 l1.length c1), (22, .int .i64 (i1 : Int))]) (l := []) (by kernel_rfl) trivial ?_
    by_cases hc3 : (i1 : Int) < (l1.length : Int)
    · rw [if_pos hc3] at h
      refine ge_known (t := 26) (b := decide ((i1 : Int) < (l1.length : Int))) (c := true) (by kernel_rfl) (decide_eq_true hc3) ?_
      refine ge_batch [5, 6, 7] (ans := [.val (.int .i64 e1.C), .val (.int .i64 e1.H), .val (.int .i64 e1.T), .val (.int .i64 e1.D), .val (.bool e1.High), .val (.int .i64 e1.P)]) (vs := [(29, .int .i64 (i1 : Int)), (28, .slice A1 l1.length c1), (27, .agg #[.int .i64 e1.C, .int .i64 e1.H, .int .i64 e1.T, .int .i64 e1.D, .bool e1.High, .int .i64 e1.P])]) (l := [.loaded ⟨b2, 0, none⟩ (.int .i64 e1.C), .loaded ⟨b2, 1, none⟩ (.int .i64 e1.H), .loaded ⟨b2, 2, none⟩ (.int .i64 e1.T), .loaded ⟨b2, 3, none⟩ (.int .i64 e1.D), .loaded ⟨b2, 4, none⟩ (.bool e1.High), .loaded ⟨b2, 5, none⟩ (.int .i64 e1.P)]) (by kernel_rfl) ⟨hS5.cell 0 rfl rfl, hS5.cell 0 rfl rfl, hS5.cell 0 rfl rfl, hS5.cell 0 rfl rfl, hS5.cell 0 rfl rfl, hS5.cell 0 rfl rfl, trivial⟩ ?_
      rcases hx4 : l1[i1]? with _ | e2
      · rw [hx4] at h; cases h
      rw [hx4] at h
      simp only [] at h
      refine ge_index (d := 30) (ty := 0) (t := 22) (el := 27) (sz := 6) (m := l1.length) (c := c1) (x := (.tmp 28)) (y := (.tmp 29)) (A := A1) (k' := .i64) (j := (i1 : Int)) (jn := i1) (b0 := blkOf A1) (o0 := offOf A1) (by kernel_rfl) (by kernel_rfl) (by kernel_rfl) (by kernel_rfl) (by kernel_rfl) ((hS5.rd hR1).eqSome (pos_of_get hx4)) rfl (lt_of_get hx4) ?_
      refine ge_batch [9] (ans := [.val (.int .i64 e2.C), .val (.int .i64 e2.H), .val (.int .i64 e2.T), .val (.int .i64 e2.D), .val (.bool e2.High), .val (.int .i64 e2.P)]) (vs := [(31, .agg #[.int .i64 e2.C, .int .i64 e2.H, .int .i64 e2.T, .int .i64 e2.D, .bool e2.High, .int .i64 e2.P])]) (l := [.loaded ⟨blkOf A1, offOf A1 + i1 * 6, none⟩ (.int .i64 e2.C), .loaded ⟨blkOf A1, offOf A1 + i1 * 6 + 1, none⟩ (.int .i64 e2.H), .loaded ⟨blkOf A1, offOf A1 + i1 * 6 + 2, none⟩ (.int .i64 e2.T), .loaded ⟨blkOf A1, offOf A1 + i1 * 6 + 3, none⟩ (.int .i64 e2.D), .loaded ⟨blkOf A1, offOf A1 + i1 * 6 + 4, none⟩ (.bool e2.High), .loaded ⟨blkOf A1, offOf A1 + i1 * 6 + 5, none⟩ (.int .i64 e2.P)]) (by kernel_rfl) ⟨RdL.cell (j := 0) (hS5.rd hR1) hx4 rfl, RdL.cell (j := 1) (hS5.rd hR1) hx4 rfl, RdL.cell (j := 2) (hS5.rd hR1) hx4 rfl, RdL.cell (j := 3) (hS5.rd hR1) hx4 rfl, RdL.cell (j := 4) (hS5.rd hR1) hx4 rfl, RdL.cell (j := 5) (hS5.rd hR1) hx4 rfl, trivial⟩ ?_
      refine ge_eqs (d := 32) (ty := 4) (op := .neq) (x := (.tmp 27)) (y := (.tmp 31)) (t := 27) (t2 := 27) (xs := #[.int .i64 e1.C, .int .i64 e1.H, .int .i64 e1.T, .int .i64 e1.D, .bool e1.High, .int .i64 e1.P]) (ys := #[.int .i64 e2.C, .int .i64 e2.H, .int .i64 e2.T, .int .i64 e2.D, .bool e2.High, .int .i64 e2.P]) (r := (SCrit.eqb e1 e2)) (v := !(SCrit.eqb e1 e2)) (by kernel_rfl) (by kernel_rfl) (by kernel_rfl) (by kernel_rfl) (by kernel_rfl) rfl ?_
      refine ge_batch [11, 12] (ans := []) (vs := [(34, .bool (!(SCrit.eqb e1 e2))), (33, .bool (!(SCrit.eqb e1 e2)))]) (l := []) (by kernel_rfl) trivial ?_
      by_cases hc4 : (SCrit.eqb e1 e2) = true
      · rw [if_pos hc4] at h
        refine ge_known (t := 34) (b := !(SCrit.eqb e1 e2)) (c := false) (by kernel_rfl) (congrArg (fun z => !z) hc4) ?_
        refine ge_batch [13, 14, 15, 16, 17] (ans := []) (vs := [(39, .bool (decide ((i1 : Int) ≥ (l1.length : Int)))), (38, .bool (decide ((i1 : Int) ≥ (l1.length : Int)))), (37, .int .i64 (l1.length : Int)), (36, .slice A1 l1.length c1), (35, .int .i64 (i1 : Int))]) (l := []) (by kernel_rfl) trivial ?_
        by_cases hc5 : (i1 : Int) ≥ (l1.length : Int)
        · rw [if_pos hc5] at h
          refine ge_known (t := 39) (b := decide ((i1 : Int) ≥ (l1.length : Int))) (c := true) (by kernel_rfl) (decide_eq_true hc5) ?_
          refine ge_batch [18, 19] (ans := [.val (.int .i64 e1.C), .val (.int .i64 e1.H), .val (.int .i64 e1.T), .val (.int .i64 e1.D), .val (.bool e1.High), .val (.int .i64 e1.P), .val (.int .i64 x2.C), .val (.int .i64 x2.H), .val (.int .i64 x2.T), .val (.int .i64 x2.D), .val (.bool x2.High), .val (.int .i64 x2.P)]) (vs := [(41, .agg #[.int .i64 x2.C, .int .i64 x2.H, .int .i64 x2.T, .int .i64 x2.D, .bool x2.High, .int .i64 x2.P]), (40, .agg #[.int .i64 e1.C, .int .i64 e1.H, .int .i64 e1.T, .int .i64 e1.D, .bool e1.High, .int .i64 e1.P])]) (l := [.loaded ⟨b2, 0, none⟩ (.int .i64 e1.C), .loaded ⟨b2, 1, none⟩ (.int .i64 e1.H), .loaded ⟨b2, 2, none⟩ (.int .i64 e1.T), .loaded ⟨b2, 3, none⟩ (.int .i64 e1.D), .loaded ⟨b2, 4, none⟩ (.bool e1.High), .loaded ⟨b2, 5, none⟩ (.int .i64 e1.P), .loaded ⟨b1, 0, none⟩ (.int .i64 x2.C), .loaded ⟨b1, 1, none⟩ (.int .i64 x2.H), .loaded ⟨b1, 2, none⟩ (.int .i64 x2.T), .loaded ⟨b1, 3, none⟩ (.int .i64 x2.D), .loaded ⟨b1, 4, none⟩ (.bool x2.High), .loaded ⟨b1, 5, none⟩ (.int .i64 x2.P)]) (by kernel_rfl) ⟨hS5.cell 0 rfl rfl, hS5.cell 0 rfl rfl, hS5.cell 0 rfl rfl, hS5.cell 0 rfl rfl, hS5.cell 0 rfl rfl, hS5.cell 0 rfl rfl, hS5.cell 1 rfl rfl, hS5.cell 1 rfl rfl, hS5.cell 1 rfl rfl, hS5.cell 1 rfl rfl, hS5.cell 1 rfl rfl, hS5.cell 1 rfl rfl, trivial⟩ ?_
          refine ge_eqs (d := 42) (ty := 4) (op := .neq) (x := (.tmp 40)) (y := (.tmp 41)) (t := 27) (t2 := 27) (xs := #[.int .i64 e1.C, .int .i64 e1.H, .int .i64 e1.T, .int .i64 e1.D, .bool e1.High, .int .i64 e1.P]) (ys := #[.int .i64 x2.C, .int .i64 x2.H, .int .i64 x2.T, .int .i64 x2.D, .bool x2.High, .int .i64 x2.P]) (r := (SCrit.eqb e1 x2)) (v := !(SCrit.eqb e1 x2)) (by kernel_rfl) (by kernel_rfl) (by kernel_rfl) (by kernel_rfl) (by kernel_rfl) rfl ?_
          refine ge_batch [21, 22] (ans := []) (vs := [(44, .bool (!(SCrit.eqb e1 x2))), (43, .bool (!(SCrit.eqb e1 x2)))]) (l := []) (by kernel_rfl) trivial ?_
          refine ge_nil fun a hF => hK9 _ _ ?_ a hF
          by_cases hc6 : (SCrit.eqb e1 x2) = true
          · rw [if_pos hc6] at h
            refine we_known (t := 44) (b := !(SCrit.eqb e1 x2)) (v := false) (by kernel_rfl) (congrArg (fun z => !z) hc6) ?_
            refine we_false (by kernel_rfl) ?_
            refine we_skip fun a hF => hK7 _ _ ?_ a hF
            refine we_region [(0, 0), (1, 0)] rfl ?_
            refine ge_addn (d := 45) (ty := 3) (x := (.tmp 17)) (y := (.const (.int .i64 1))) (t := 3) (t2 := 3) (k := .i64) (m := i1) (by kernel_rfl) (by kernel_rfl) (by kernel_rfl) (by have h0 := hR0.small; omega) ?_
            refine ge_batch [1] (ans := []) (vs := [(17, .int .i64 ((i1 + 1 : Nat) : Int))]) (l := []) (by kernel_rfl) trivial ?_
            have hS6 := hS5.bring 1 rfl
            have hS7 := hS6.takeN 1
            obtain rfl := Option.some.inj h
            exact ge_nil fun a hF => hQ _ _ _ (Outs.again ⟨hS7, hF.weaken ⟨by kernel_rfl, by kernel_rfl, by kernel_rfl, by kernel_rfl, by kernel_rfl, trivial⟩⟩)
          · rw [if_neg hc6] at h
            refine we_known (t := 44) (b := !(SCrit.eqb e1 x2)) (v := true) (by kernel_rfl) (congrArg (fun z => !z) (Bool.eq_false_iff.2 hc6)) ?_
            refine we_true (by kernel_rfl) ?_
            refine we_seq fun K10 hK10 => ?_
            refine we_region [(0, 0)] rfl ?_
            refine ge_batch [0] (ans := []) (vs := [(6, .bool false)]) (l := []) (by kernel_rfl) trivial ?_
            refine ge_nil fun a hF => hK10 _ _ ?_ a hF
            have hS8 := hS5.takeN 0
            obtain rfl := Option.some.inj h
            exact we_ret fun a hF => hQ _ _ _ (Outs.out nofun (Exits.on ⟨rfl, (post_ret (rs := [.tmp 6]) (ans := []) (vs := [.bool false]) (l := []) rfl (by kernel_rfl) trivial ⟨rfl, hS8⟩) a hF⟩))
        · rw [if_neg hc5] at h
          refine ge_known (t := 39) (b := decide ((i1 : Int) ≥ (l1.length : Int))) (c := false) (by kernel_rfl) (decide_eq_false hc5) ?_
          refine ge_batch [18, 19, 20, 21, 22] (ans := []) (vs := [(44, .bool false), (43, .bool false), (42, undef), (41, undef), (40, undef)]) (l := []) (by kernel_rfl) trivial ?_
          refine ge_nil fun a hF => hK9 _ _ ?_ a hF
          refine we_false (by kernel_rfl) ?_
          refine we_skip fun a hF => hK7 _ _ ?_ a hF
          refine we_region [(0, 0), (1, 0)] rfl ?_
          refine ge_addn (d := 45) (ty := 3) (x := (.tmp 17)) (y := (.const (.int .i64 1))) (t := 3) (t2 := 3) (k := .i64) (m := i1) (by kernel_rfl) (by kernel_rfl) (by kernel_rfl) (by have h0 := hR0.small; omega) ?_
          refine ge_batch [1] (ans := []) (vs := [(17, .int .i64 ((i1 + 1 : Nat) : Int))]) (l := []) (by kernel_rfl) trivial ?_
          have hS9 := hS5.bring 1 rfl
          have hS10 := hS9.takeN 1
          obtain rfl := Option.some.inj h
          exact ge_nil fun a hF => hQ _ _ _ (Outs.again ⟨hS10, hF.weaken ⟨by kernel_rfl, by kernel_rfl, by kernel_rfl, by kernel_rfl, by kernel_rfl, trivial⟩⟩)
      · rw [if_neg hc4] at h
        refine ge_known (t := 34) (b := !(SCrit.eqb e1 e2)) (c := true) (by kernel_rfl) (congrArg (fun z => !z) (Bool.eq_false_iff.2 hc4)) ?_
        refine ge_batch [13, 14, 15, 16, 17, 18, 19, 20, 21, 22] (ans := []) (vs := [(44, .bool true), (43, undef), (42, undef), (41, undef), (40, undef), (39, undef), (38, undef), (37, undef), (36, undef), (35, undef)]) (l := []) (by kernel_rfl) trivial ?_
        refine ge_nil fun a hF => hK9 _ _ ?_ a hF
        refine we_true (by kernel_rfl) ?_
        refine we_seq fun K11 hK11 => ?_
        refine we_region [(0, 0)] rfl ?_
        refine ge_batch [0] (ans := []) (vs := [(6, .bool false)]) (l := []) (by kernel_rfl) trivial ?_
        refine ge_nil fun a hF => hK11 _ _ ?_ a hF
        have hS11 := hS5.takeN 0
        obtain rfl := Option.some.inj h
        exact we_ret fun a hF => hQ _ _ _ (Outs.out nofun (Exits.on ⟨rfl, (post_ret (rs := [.tmp 6]) (ans := []) (vs := [.bool false]) (l := []) rfl (by kernel_rfl) trivial ⟨rfl, hS11⟩) a hF⟩))
    · rw [if_neg hc3] at h
      refine ge_known (t := 26) (b := decide ((i1 : Int) < (l1.length : Int))) (c := false) (by kernel_rfl) (decide_eq_false hc3) ?_
      refine ge_batch [5, 6, 7, 8, 9, 10, 11, 12, 13, 14, 15, 16, 17] (ans := []) (vs := [(39, .bool (decide ((i1 : Int) ≥ (l1.length : Int)))), (38, .bool (decide ((i1 : Int) ≥ (l1.length : Int)))), (37, .int .i64 (l1.length : Int)), (36, .slice A1 l1.length c1), (35, .int .i64 (i1 : Int)), (34, .bool false), (33, .bool false), (32, undef), (31, undef), (30, undef), (29, undef), (28, undef), (27, undef)]) (l := []) (by kernel_rfl) trivial ?_
      by_cases hc7 : (i1 : Int) ≥ (l1.length : Int)
      · rw [if_pos hc7] at h
        refine ge_known (t := 39) (b := decide ((i1 : Int) ≥ (l1.length : Int))) (c := true) (by kernel_rfl) (decide_eq_true hc7) ?_
        refine ge_batch [18, 19] (ans := [.val (.int .i64 e1.C), .val (.int .i64 e1.H), .val (.int .i64 e1.T), .val (.int .i64 e1.D), .val (.bool e1.High), .val (.int .i64 e1.P), .val (.int .i64 x2.C), .val (.int .i64 x2.H), .val (.int .i64 x2.T), .val (.int .i64 x2.D), .val (.bool x2.High), .val (.int .i64 x2.P)]) (vs := [(41, .agg #[.int .i64 x2.C, .int .i64 x2.H, .int .i64 x2.T, .int .i64 x2.D, .bool x2.High, .int .i64 x2.P]), (40, .agg #[.int .i64 e1.C, .int .i64 e1.H, .int .i64 e1.T, .int .i64 e1.D, .bool e1.High, .int .i64 e1.P])]) (l := [.loaded ⟨b2, 0, none⟩ (.int .i64 e1.C), .loaded ⟨b2, 1, none⟩ (.int .i64 e1.H), .loaded ⟨b2, 2, none⟩ (.int .i64 e1.T), .loaded ⟨b2, 3, none⟩ (.int .i64 e1.D), .loaded ⟨b2, 4, none⟩ (.bool e1.High), .loaded ⟨b2, 5, none⟩ (.int .i64 e1.P), .loaded ⟨b1, 0, none⟩ (.int .i64 x2.C), .loaded ⟨b1, 1, none⟩ (.int .i64 x2.H), .loaded ⟨b1, 2, none⟩ (.int .i64 x2.T), .loaded ⟨b1, 3, none⟩ (.int .i64 x2.D), .loaded ⟨b1, 4, none⟩ (.bool x2.High), .loaded ⟨b1, 5, none⟩ (.int .i64 x2.P)]) (by kernel_rfl) ⟨hS5.cell 0 rfl rfl, hS5.cell 0 rfl rfl, hS5.cell 0 rfl rfl, hS5.cell 0 rfl rfl, hS5.cell 0 rfl rfl, hS5.cell 0 rfl rfl, hS5.cell 1 rfl rfl, hS5.cell 1 rfl rfl, hS5.cell 1 rfl rfl, hS5.cell 1 rfl rfl, hS5.cell 1 rfl rfl, hS5.cell 1 rfl rfl, trivial⟩ ?_
        refine ge_eqs (d := 42) (ty := 4) (op := .neq) (x := (.tmp 40)) (y := (.tmp 41)) (t := 27) (t2 := 27) (xs := #[.int .i64 e1.C, .int .i64 e1.H, .int .i64 e1.T, .int .i64 e1.D, .bool e1.High, .int .i64 e1.P]) (ys := #[.int .i64 x2.C, .int .i64 x2.H, .int .i64 x2.T, .int .i64 x2.D, .bool x2.High, .int .i64 x2.P]) (r := (SCrit.eqb e1 x2)) (v := !(SCrit.eqb e1 x2)) (by kernel_rfl) (by kernel_rfl) (by kernel_rfl) (by kernel_rfl) (by kernel_rfl) rfl ?_
        refine ge_batch [21, 22] (ans := []) (vs := [(44, .bool (!(SCrit.eqb e1 x2))), (43, .bool (!(SCrit.eqb e1 x2)))]) (l := []) (by kernel_rfl) trivial ?_
        refine ge_nil fun a hF => hK9 _ _ ?_ a hF
        by_cases hc8 : (SCrit.eqb e1 x2) = true
        · rw [if_pos hc8] at h
          refine we_known (t := 44) (b := !(SCrit.eqb e1 x2)) (v := false) (by kernel_rfl) (congrArg (fun z => !z) hc8) ?_
          refine we_false (by kernel_rfl) ?_
          refine we_skip fun a hF => hK7 _ _ ?_ a hF
          refine we_region [(0, 0), (1, 0)] rfl ?_
          refine ge_addn (d := 45) (ty := 3) (x := (.tmp 17)) (y := (.const (.int .i64 1))) (t := 3) (t2 := 3) (k := .i64) (m := i1) (by kernel_rfl) (by kernel_rfl) (by kernel_rfl) (by have h0 := hR0.small; omega) ?_
          refine ge_batch [1] (ans := []) (vs := [(17, .int .i64 ((i1 + 1 : Nat) : Int))]) (l := []) (by kernel_rfl) trivial ?_
          have hS12 := hS5.bring 1 rfl
          have hS13 := hS12.takeN 1
          obtain rfl := Option.some.inj h
          exact ge_nil fun a hF => hQ _ _ _ (Outs.again ⟨hS13, hF.weaken ⟨by kernel_rfl, by kernel_rfl, by kernel_rfl, by kernel_rfl, by kernel_rfl, trivial⟩⟩)
        · rw [if_neg hc8] at h
          refine we_known (t := 44) (b := !(SCrit.eqb e1 x2)) (v := true) (by kernel_rfl) (congrArg (fun z => !z) (Bool.eq_false_iff.2 hc8)) ?_
          refine we_true (by kernel_rfl) ?_
          refine we_seq fun K12 hK12 => ?_
          refine we_region [(0, 0)] rfl ?_
          refine ge_batch [0] (ans := []) (vs := [(6, .bool false)]) (l := []) (by kernel_rfl) trivial ?_
          refine ge_nil fun a hF => hK12 _ _ ?_ a hF
          have hS14 := hS5.takeN 0
          obtain rfl := Option.some.inj h
          exact we_ret fun a hF => hQ _ _ _ (Outs.out nofun (Exits.on ⟨rfl, (post_ret (rs := [.tmp 6]) (ans := []) (vs := [.bool false]) (l := []) rfl (by kernel_rfl) trivial ⟨rfl, hS14⟩) a hF⟩))
      · rw [if_neg hc7] at h
        refine ge_known (t := 39) (b := decide ((i1 : Int) ≥ (l1.length : Int))) (c := false) (by kernel_rfl) (decide_eq_false hc7) ?_
        refine ge_batch [18, 19, 20, 21, 22] (ans := []) (vs := [(44, .bool false), (43, .bool false), (42, undef), (41, undef), (40, undef)]) (l := []) (by kernel_rfl) trivial ?_
        refine ge_nil fun a hF => hK9 _ _ ?_ a hF
        refine we_false (by kernel_rfl) ?_
        refine we_skip fun a hF => hK7 _ _ ?_ a hF
        refine we_region [(0, 0), (1, 0)] rfl ?_
        refine ge_addn (d := 45) (ty := 3) (x := (.tmp 17)) (y := (.const (.int .i64 1))) (t := 3) (t2 := 3) (k := .i64) (m := i1) (by kernel_rfl) (by kernel_rfl) (by kernel_rfl) (by have h0 := hR0.small; omega) ?_
        refine ge_batch [1] (ans := []) (vs := [(17, .int .i64 ((i1 + 1 : Nat) : Int))]) (l := []) (by kernel_rfl) trivial ?_
        have hS15 := hS5.bring 1 rfl
        have hS16 := hS15.takeN 1
        obtain rfl := Option.some.inj h
        exact ge_nil fun a hF => hQ _ _ _ (Outs.again ⟨hS16, hF.weaken ⟨by kernel_rfl, by kernel_rfl, by kernel_rfl, by kernel_rfl, by kernel_rfl, trivial⟩⟩)
  · rw [if_neg hc2] at h
    refine we_known (t := 18) (b := decide ((i1 : Int) < (f0.length : Int))) (v := false) (by kernel_rfl) (decide_eq_false hc2) ?_
    refine we_false (by kernel_rfl) ?_
    have hS17 := hS.takeN 0
    obtain rfl := Option.some.inj h
    exact we_exit fun a hF => hQ _ _ _ (Outs.out nofun (Exits.here ⟨hS17, hF.weaken trivial⟩))
theorem ps_Still_api_Crit_ok (K : Nat) (f0 : List SCrit) (A0 : Option Addr) (n0 : Nat) (c0 : Nat) (l1 : List SCrit) (A1 : Option Addr) (c1 : Nat) (x2 : SCrit) (w0 : World) (hR0 : RdL w0 A0 f0) (hc0 : f0.length ≤ c0) (hR1 : RdL w0 A1 l1) (hL1 : l1.length ≤ c1) (r : Bool) (h : ps_Still_api_Crit.f K f0 l1 x2 = some r) :
    Calls Tryd.prog 16 #[.slice A0 n0 c0, .slice A1 l1.length c1, .agg #[.int .i64 x2.C, .int .i64 x2.H, .int .i64 x2.T, .int .i64 x2.D, .bool x2.High, .int .i64 x2.P]] w0 (ps_Still_api_Crit.Post w0 r) := by
  have hS := St.start w0
  unfold ps_Still_api_Crit.f at h
  refine calls_enter (n := 46) (args := [.slice A0 n0 c0, .slice A1 l1.length c1, .agg #[.int .i64 x2.C, .int .i64 x2.H, .int .i64 x2.T, .int .i64 x2.D, .bool x2.High, .int .i64 x2.P]]) (fn := Tryd.f16) rfl rfl rfl rfl ?_
  show WE _ _ _ _ [(0, .slice A0 n0 c0), (1, .slice A1 l1.length c1), (2, .agg #[.int .i64 x2.C, .int .i64 x2.H, .int .i64 x2.T, .int .i64 x2.D, .bool x2.High, .int .i64 x2.P])] _
  refine we_seq fun K1 hK1 => ?_
  refine we_region [(0, 1), (1, 0)] rfl ?_
  refine ge_new (d := some 5) (o := .cells #[.int .i64 x2.C, .int .i64 x2.H, .int .i64 x2.T, .int .i64 x2.D, .bool x2.High, .int .i64 x2.P] 27) (v := fun b => .pointer (some ⟨b, 0, none⟩)) hS (fun b => by kernel_rfl) fun b1 w1 hx1 hS1 => ?_
  refine ge_batch [1] (ans := []) (vs := [(6, .bool false)]) (l := []) (by kernel_rfl) trivial ?_
  refine ge_nil fun a hF => hK1 _ _ ?_ a hF
  refine we_seq fun K2 hK2 => ?_
  refine we_region [(0, 0), (1, 0), (2, 0), (3, 0), (4, 0), (5, 0)] rfl ?_
  refine ge_batch [0, 1, 2, 3] (ans := []) (vs := [(13, .int .i64 (IntKind.i64.wrap ((l1.length : Int) + 3))), (12, .int .i64 (l1.length : Int)), (11, .slice A1 l1.length c1), (10, .slice A0 n0 c0)]) (l := []) (by kernel_rfl) trivial ?_
  by_cases hc1 : (IntKind.i64.wrap ((l1.length : Int) + 3)) = (f0.length : Int)
  · rw [if_pos hc1] at h
    refine ge_sliceHi (d := 14) (ty := 22) (t := 22) (el := 27) (sz := 6) (m := n0) (c := c0) (hn := f0.length) (x := (.tmp 10)) (y := (.tmp 13)) (A := A0) (k' := .i64) (hi := (IntKind.i64.wrap ((l1.length : Int) + 3))) (by kernel_rfl) (by kernel_rfl) (by kernel_rfl) hc1 (by kernel_rfl) (by kernel_rfl) hc0 ?_
    refine ge_batch [5] (ans := []) (vs := [(7, .slice A0 f0.length c0)]) (l := []) (by kernel_rfl) trivial ?_
    refine ge_nil fun a hF => hK2 _ _ ?_ a hF
    refine we_seq fun K3 hK3 => ?_
    refine we_seq fun K4 hK4 => ?_
    refine we_region [(0, 0), (1, 0), (2, 0)] rfl ?_
    refine ge_batch [0, 1, 2] (ans := []) (vs := [(17, .int .i64 0), (16, .int .i64 (f0.length : Int)), (15, .slice A0 f0.length c0)]) (l := []) (by kernel_rfl) trivial ?_
    refine ge_nil fun a hF => hK4 _ _ ?_ a hF
    refine we_block ?_
    rcases hq1 : iter (ps_Still_api_Crit.r0 f0 l1 x2) K 0 with _ | (_ | rr1)
    · rw [hq1] at h; cases h
    · rw [hq1] at h
      simp only [] at h
      refine we_iter (A := ps_Still_api_Crit.A0 K w0 f0 A0 n0 c0 l1 A1 c1 x2 hR0 hc0 hR1 hL1 b1 hc1) (B := ps_Still_api_Crit.B0 K w0 f0 A0 n0 c0 l1 A1 c1 x2 hR0 hc0 hR1 hL1 b1 hc1) hq1 (fun a hF => ⟨hS1, hF.weaken ⟨by kernel_rfl, by kernel_rfl, by kernel_rfl, by kernel_rfl, by kernel_rfl, trivial⟩⟩) (fun s o hf a w hA Q hQ => ps_Still_api_Crit_r0 K w0 f0 A0 n0 c0 l1 A1 c1 x2 hR0 hc0 hR1 hL1 b1 hc1 s o hf a w hA Q hQ) ?_
      rintro _ a w4 _ ⟨rfl, hS18, hF⟩
      replace hS18 : St w0 w4 [] := hS18
      refine hK3 [] w4 ?_ a hF
      refine we_seq fun K13 hK13 => ?_
      refine we_region [(0, 0)] rfl ?_
      refine ge_batch [0] (ans := []) (vs := [(6, .bool true)]) (l := []) (by kernel_rfl) trivial ?_
      refine ge_nil fun a hF => hK13 _ _ ?_ a hF
      obtain rfl := Option.some.inj h
      exact we_ret (post_ret (rs := [.tmp 6]) (ans := []) (vs := [.bool true]) (l := []) rfl (by kernel_rfl) trivial ⟨rfl, hS18⟩)
    · rw [hq1] at h
      simp only [] at h
      refine we_iter (A := ps_Still_api_Crit.A0 K w0 f0 A0 n0 c0 l1 A1 c1 x2 hR0 hc0 hR1 hL1 b1 hc1) (B := ps_Still_api_Crit.B0 K w0 f0 A0 n0 c0 l1 A1 c1 x2 hR0 hc0 hR1 hL1 b1 hc1) hq1 (fun a hF => ⟨hS1, hF.weaken ⟨by kernel_rfl, by kernel_rfl, by kernel_rfl, by kernel_rfl, by kernel_rfl, trivial⟩⟩) (fun s o hf a w hA Q hQ => ps_Still_api_Crit_r0 K w0 f0 A0 n0 c0 l1 A1 c1 x2 hR0 hc0 hR1 hL1 b1 hc1 s o hf a w hA Q hQ) ?_
      rintro _ a w1 _ ⟨rfl, hb⟩
      obtain rfl := Option.some.inj h
      exact hb
  · rw [if_neg hc1] at h
    cases h

/-! punctual/punctuallaw.ModesResponds -/
abbrev ModesResponds.Post (w0 : World) (r : Bool) (e : Ending) (w : World) : Prop := e = .returned (.bool r) ∧ St w0 w []
def ModesResponds.f (K : Nat) (l0 : List SCrit) : Option Bool :=
  match turns.f K with
  | none => none
  | some r1 =>
    if r1 = true then
      if (few.f (l0.length : Int)) = true then
        match ps_Lend_api_Crit.f l0 (⟨(-9), 0, 0, 0, false, 0⟩ : SCrit) with
        | none => none
        | some _ =>
          match modes_Responses.f K l0 with
          | none => none
          | some r3 =>
            match pr_TwoResponses.f K l0 with
            | none => none
            | some r4 =>
              match modes_Check.f K l0 with
              | none => none
              | some r5 =>
                match pr_CheckCrit.f K l0 with
                | none => none
                | some r6 =>
                  if (SFault.eqb r5 r6) = true then
                    if (SFault.eqb r3.2.2 r4.2.2) = true then
                      match ps_Same_int.f K r3.1 r4.1 with
                      | none => none
                      | some r7 =>
                        if r7 = true then
                          match ps_Same_int.f K r3.2.1 r4.2.1 with
                          | none => none
                          | some r8 =>
                            if r8 = true then
                              match ps_Apart.f K [r3.1, r3.2.1] with
                              | none => none
                              | some r9 =>
                                if r9.1 = true then
                                  match ps_Still_api_Crit.f K (l0 ++ [(⟨(-9), 0, 0, 0, false, 0⟩ : SCrit), (⟨(-9), 0, 0, 0, false, 0⟩ : SCrit), (⟨(-9), 0, 0, 0, false, 0⟩ : SCrit)]) l0 (⟨(-9), 0, 0, 0, false, 0⟩ : SCrit) with
                                  | none => none
                                  | some r10 =>
                                    some r10
                                else
                                  some false
                            else
                              some false
                        else
                          some false
                    else
                      some false
                  else
                    some false
      else
        some true
    else
      some false
theorem ModesResponds_ok (K : Nat) (l0 : List SCrit) (A0 : Option Addr) (c0 : Nat) (w0 : World) (hR0 : RdL w0 A0 l0) (hL0 : l0.length ≤ c0) (hG0 : Glob w0 0 [.int .i64 (-9), .int .i64 0, .int .i64 0, .int .i64 0, .bool false, .int .i64 0]) (r : Bool) (h : ModesResponds.f K l0 = some r) :
    Calls Tryd.prog 3 #[.slice A0 l0.length c0] w0 (ModesResponds.Post w0 r) := by
  have hS := St.start w0
  unfold ModesResponds.f at h
  refine calls_enter (n := 63) (args := [.slice A0 l0.length c0]) (fn := Tryd.f3) rfl rfl rfl rfl ?_
  show WE _ _ _ _ [(0, .slice A0 l0.length c0)] _
  refine we_seq fun K1 hK1 => ?_
  refine we_region [(0, 0)] rfl ?_
  refine ge_batch [0] (ans := []) (vs := [(2, .bool false)]) (l := []) (by kernel_rfl) trivial ?_
  refine ge_nil fun a hF => hK1 _ _ ?_ a hF
  refine we_seq fun K2 hK2 => ?_
  refine we_seq fun K3 hK3 => ?_
  refine we_region [(0, 1), (1, 0)] rfl ?_
  rcases hq1 : turns.f K with _ | r1
  · rw [hq1] at h; cases h
  rw [hq1] at h
  simp only [] at h
  refine ge_call (d := some 10) (f := 7) (args := #[]) (by kernel_rfl) (turns_ok K _ _ hq1) ?_
  rintro _ w1 ⟨rfl, hS1⟩
  refine ⟨_, rfl, hS1.below, ?_⟩
  have hS2 := hS.call hS1
  refine ge_batch [1] (ans := []) (vs := [(11, .bool (!r1))]) (l := []) (by kernel_rfl) trivial ?_
  refine ge_nil fun a hF => hK3 _ _ ?_ a hF
  by_cases hc1 : r1 = true
  · rw [if_pos hc1] at h
    refine we_known (t := 11) (b := !r1) (v := false) (by kernel_rfl) (congrArg (fun z => !z) hc1) ?_
    refine we_false (by kernel_rfl) ?_
    refine we_skip fun a hF => hK2 _ _ ?_ a hF
    refine we_seq fun K4 hK4 => ?_
    refine we_seq fun K5 hK5 => ?_
    refine we_region [(0, 0), (1, 0), (2, 1), (3, 0)] rfl ?_
    refine ge_batch [0, 1] (ans := []) (vs := [(13, .int .i64 (l0.length : Int)), (12, .slice A0 l0.length c0)]) (l := []) (by kernel_rfl) trivial ?_
    refine ge_call (d := some 14) (f := 8) (args := #[.int .i64 (l0.length : Int)]) (by kernel_rfl) (few_ok (l0.length : Int) _ _ rfl) ?_
    rintro _ w2 ⟨rfl, hS3⟩
    refine ⟨_, rfl, hS3.below, ?_⟩
    have hS4 := hS2.call hS3
    refine ge_batch [3] (ans := []) (vs := [(15, .bool (!(few.f (l0.length : Int))))]) (l := []) (by kernel_rfl) trivial ?_
    refine ge_nil fun a hF => hK5 _ _ ?_ a hF
    by_cases hc2 : (few.f (l0.length : Int)) = true
    · rw [if_pos hc2] at h
      refine we_known (t := 15) (b := !(few.f (l0.length : Int))) (v := false) (by kernel_rfl) (congrArg (fun z => !z) hc2) ?_
      refine we_false (by kernel_rfl) ?_
      refine we_skip fun a hF => hK4 _ _ ?_ a hF
      refine we_seq fun K6 hK6 => ?_
      refine we_region [(0, 0), (1, 0), (2, 1), (3, 0)] rfl ?_
      refine ge_batch [0, 1] (ans := [.val (.int .i64 (-9)), .val (.int .i64 0), .val (.int .i64 0), .val (.int .i64 0), .val (.bool false), .val (.int .i64 0)]) (vs := [(17, .agg #[.int .i64 (-9), .int .i64 0, .int .i64 0, .int .i64 0, .bool false, .int .i64 0]), (16, .slice A0 l0.length c0)]) (l := [.loaded ⟨0, 0, none⟩ (.int .i64 (-9)), .loaded ⟨0, 1, none⟩ (.int .i64 0), .loaded ⟨0, 2, none⟩ (.int .i64 0), .loaded ⟨0, 3, none⟩ (.int .i64 0), .loaded ⟨0, 4, none⟩ (.bool false), .loaded ⟨0, 5, none⟩ (.int .i64 0)]) (by kernel_rfl) ⟨hS4.glob hG0 rfl, hS4.glob hG0 rfl, hS4.glob hG0 rfl, hS4.glob hG0 rfl, hS4.glob hG0 rfl, hS4.glob hG0 rfl, trivial⟩ ?_
      rcases hq3 : ps_Lend_api_Crit.f l0 (⟨(-9), 0, 0, 0, false, 0⟩ : SCrit) with _ | r2
      · rw [hq3] at h; cases h
      rw [hq3] at h
      simp only [] at h
      obtain rfl := ps_Lend_api_Crit_full _ _ hq3
      refine ge_call (d := some 18) (f := 9) (args := #[.slice A0 l0.length c0, .agg #[.int .i64 (-9), .int .i64 0, .int .i64 0, .int .i64 0, .bool false, .int .i64 0]]) (by kernel_rfl) (ps_Lend_api_Crit_ok l0 A0 c0 (⟨(-9), 0, 0, 0, false, 0⟩ : SCrit) _ (hS4.rd hR0) hL0 _ hq3) ?_
      rintro _ w3 ⟨Z1, cz1, rfl, hcp1, hS5⟩
      refine ⟨_, rfl, hS5.below, ?_⟩
      have hS6 := hS4.call hS5
      refine ge_batch [3] (ans := []) (vs := [(3, .slice Z1 l0.length cz1)]) (l := []) (by kernel_rfl) trivial ?_
      refine ge_nil fun a hF => hK6 _ _ ?_ a hF
      refine we_seq fun K7 hK7 => ?_
      refine we_region [(0, 0), (1, 1), (2, 0), (3, 0), (4, 0), (5, 0), (6, 1), (7, 0), (8, 0), (9, 2)] rfl ?_
      rcases hq4 : modes_Responses.f K l0 with _ | r3
      · rw [hq4] at h; cases h
      rw [hq4] at h
      simp only [] at h
      refine ge_batch [0] (ans := []) (vs := [(20, .slice Z1 l0.length cz1)]) (l := []) (by kernel_rfl) trivial ?_
      refine ge_call (d := some 21) (f := 10) (args := #[.slice Z1 l0.length cz1]) (by kernel_rfl) (modes_Responses_ok K l0 Z1 cz1 _ ((hS6.rdAt 0 rfl).pre) (by have h0 := hcp1; simp only [List.length_append, List.length_cons, List.length_nil] at h0; omega) _ hq4) ?_
      rintro _ w4 ⟨v1, v2, rfl, hS7⟩
      refine ⟨_, rfl, hS7.below, ?_⟩
      have hS8 := hS6.call hS7
      refine ge_batch [2, 3, 4, 5] (ans := []) (vs := [(24, .agg #[.int .i64 r3.2.2.Code, .int .i64 r3.2.2.At]), (23, v2), (22, v1), (19, .tuple #[v1, v2, .agg #[.int .i64 r3.2.2.Code, .int .i64 r3.2.2.At]])]) (l := []) (by kernel_rfl) trivial ?_
      refine ge_new (d := some 6) (o := .cells #[.int .i64 0, .int .i64 0] 31) (v := fun b => .pointer (some ⟨b, 0, none⟩)) hS8 (fun b => by kernel_rfl) fun b1 w5 hx1 hS9 => ?_
      refine ge_batch [7, 8] (ans := []) (vs := [(5, v2), (4, v1)]) (l := []) (by kernel_rfl) trivial ?_
      refine ge_set (b := b1) (j := 0) (cs := #[.int .i64 0, .int .i64 0]) (t := 31) (vs := [.int .i64 r3.2.2.Code, .int .i64 r3.2.2.At]) hS9 (by kernel_rfl) rfl rfl fun w6 hS10 => ?_
      have hS11 := hS10.nc #[.int .i64 r3.2.2.Code, .int .i64 r3.2.2.At] (by kernel_rfl)
      refine ge_nil fun a hF => hK7 _ _ ?_ a hF
      refine we_seq fun K8 hK8 => ?_
      refine we_region [(0, 0), (1, 1), (2, 0), (3, 0), (4, 0), (5, 0), (6, 1), (7, 0), (8, 0), (9, 2)] rfl ?_
      rcases hq5 : pr_TwoResponses.f K l0 with _ | r4
      · rw [hq5] at h; cases h
      rw [hq5] at h
      simp only [] at h
      refine ge_batch [0] (ans := []) (vs := [(26, .slice A0 l0.length c0)]) (l := []) (by kernel_rfl) trivial ?_
      refine ge_call (d := some 27) (f := 11) (args := #[.slice A0 l0.length c0]) (by kernel_rfl) (pr_TwoResponses_ok K l0 A0 c0 _ (hS11.rd hR0) hL0 _ hq5) ?_
      rintro _ w7 ⟨v3, v4, rfl, hS12⟩
      refine ⟨_, rfl, hS12.below, ?_⟩
      have hS13 := hS11.call hS12
      refine ge_batch [2, 3, 4, 5] (ans := []) (vs := [(30, .agg #[.int .i64 r4.2.2.Code, .int .i64 r4.2.2.At]), (29, v4), (28, v3), (25, .tuple #[v3, v4, .agg #[.int .i64 r4.2.2.Code, .int .i64 r4.2.2.At]])]) (l := []) (by kernel_rfl) trivial ?_
      refine ge_new (d := some 9) (o := .cells #[.int .i64 0, .int .i64 0] 31) (v := fun b => .pointer (some ⟨b, 0, none⟩)) hS13 (fun b => by kernel_rfl) fun b2 w8 hx2 hS14 => ?_
      refine ge_batch [7, 8] (ans := []) (vs := [(8, v4), (7, v3)]) (l := []) (by kernel_rfl) trivial ?_
      refine ge_set (b := b2) (j := 0) (cs := #[.int .i64 0, .int .i64 0]) (t := 31) (vs := [.int .i64 r4.2.2.Code, .int .i64 r4.2.2.At]) hS14 (by kernel_rfl) rfl rfl fun w9 hS15 => ?_
      have hS16 := hS15.nc #[.int .i64 r4.2.2.Code, .int .i64 r4.2.2.At] (by kernel_rfl)
      refine ge_nil fun a hF => hK8 _ _ ?_ a hF
      refine we_seq fun K9 hK9 => ?_
      refine we_region [(0, 0), (1, 1), (2, 0), (3, 1), (4, 0), (5, 0), (6, 0), (7, 0), (8, 0), (9, 0), (10, 0), (11, 0), (12, 0), (13, 1), (14, 0), (15, 0), (16, 0), (17, 0), (18, 1), (19, 0), (20, 0), (21, 0), (22, 0), (23, 1), (24, 2), (25, 0), (26, 0), (27, 0), (28, 0), (29, 0), (30, 1), (31, 0), (32, 0)] rfl ?_
      rcases hq6 : modes_Check.f K l0 with _ | r5
      · rw [hq6] at h; cases h
      rw [hq6] at h
      simp only [] at h
      refine ge_batch [0] (ans := []) (vs := [(31, .slice Z1 l0.length cz1)]) (l := []) (by kernel_rfl) trivial ?_
      refine ge_call (d := some 32) (f := 12) (args := #[.slice Z1 l0.length cz1]) (by kernel_rfl) (modes_Check_ok K l0 Z1 cz1 _ ((hS16.rdAt 6 rfl).pre) (by have h0 := hcp1; simp only [List.length_append, List.length_cons, List.length_nil] at h0; omega) _ hq6) ?_
      rintro _ w10 ⟨rfl, hS17⟩
      refine ⟨_, rfl, hS17.below, ?_⟩
      have hS18 := hS16.call hS17
      rcases hq7 : pr_CheckCrit.f K l0 with _ | r6
      · rw [hq7] at h; cases h
      rw [hq7] at h
      simp only [] at h
      refine ge_batch [2] (ans := []) (vs := [(33, .slice A0 l0.length c0)]) (l := []) (by kernel_rfl) trivial ?_
      refine ge_call (d := some 34) (f := 13) (args := #[.slice A0 l0.length c0]) (by kernel_rfl) (pr_CheckCrit_ok K l0 A0 c0 _ (hS18.rd hR0) hL0 _ hq7) ?_
      rintro _ w11 ⟨rfl, hS19⟩
      refine ⟨_, rfl, hS19.below, ?_⟩
      have hS20 := hS18.call hS19
      refine ge_eqs (d := 35) (ty := 4) (op := .eql) (x := (.tmp 32)) (y := (.tmp 34)) (t := 31) (t2 := 31) (xs := #[.int .i64 r5.Code, .int .i64 r5.At]) (ys := #[.int .i64 r6.Code, .int .i64 r6.At]) (r := (SFault.eqb r5 r6)) (v := (SFault.eqb r5 r6)) (by kernel_rfl) (by kernel_rfl) (by kernel_rfl) (by kernel_rfl) (by kernel_rfl) rfl ?_
      refine ge_batch [5] (ans := []) (vs := [(36, .bool (SFault.eqb r5 r6))]) (l := []) (by kernel_rfl) trivial ?_
      by_cases hc3 : (SFault.eqb r5 r6) = true
      · rw [if_pos hc3] at h
        refine ge_known (t := 36) (b := (SFault.eqb r5 r6)) (c := true) (by kernel_rfl) hc3 ?_
        refine ge_batch [6, 7] (ans := [.val (.int .i64 r3.2.2.Code), .val (.int .i64 r3.2.2.At), .val (.int .i64 r4.2.2.Code), .val (.int .i64 r4.2.2.At)]) (vs := [(38, .agg #[.int .i64 r4.2.2.Code, .int .i64 r4.2.2.At]), (37, .agg #[.int .i64 r3.2.2.Code, .int .i64 r3.2.2.At])]) (l := [.loaded ⟨b1, 0, none⟩ (.int .i64 r3.2.2.Code), .loaded ⟨b1, 1, none⟩ (.int .i64 r3.2.2.At), .loaded ⟨b2, 0, none⟩ (.int .i64 r4.2.2.Code), .loaded ⟨b2, 1, none⟩ (.int .i64 r4.2.2.At)]) (by kernel_rfl) ⟨hS20.cell 3 rfl rfl, hS20.cell 3 rfl rfl, hS20.cell 0 rfl rfl, hS20.cell 0 rfl rfl, trivial⟩ ?_
        refine ge_eqs (d := 39) (ty := 4) (op := .eql) (x := (.tmp 37)) (y := (.tmp 38)) (t := 31) (t2 := 31) (xs := #[.int .i64 r3.2.2.Code, .int .i64 r3.2.2.At]) (ys := #[.int .i64 r4.2.2.Code, .int .i64 r4.2.2.At]) (r := (SFault.eqb r3.2.2 r4.2.2)) (v := (SFault.eqb r3.2.2 r4.2.2)) (by kernel_rfl) (by kernel_rfl) (by kernel_rfl) (by kernel_rfl) (by kernel_rfl) rfl ?_
        refine ge_batch [9, 10] (ans := []) (vs := [(41, .bool (SFault.eqb r3.2.2 r4.2.2)), (40, .bool (SFault.eqb r3.2.2 r4.2.2))]) (l := []) (by kernel_rfl) trivial ?_
        by_cases hc4 : (SFault.eqb r3.2.2 r4.2.2) = true
        · rw [if_pos hc4] at h
          refine ge_known (t := 41) (b := (SFault.eqb r3.2.2 r4.2.2)) (c := true) (by kernel_rfl) hc4 ?_
          refine ge_batch [11, 12] (ans := []) (vs := [(43, v3), (42, v1)]) (l := []) (by kernel_rfl) trivial ?_
          obtain ⟨Z2, cz2, rfl⟩ := hS20.open 4 rfl
          obtain ⟨Z3, cz3, rfl⟩ := hS20.open 1 rfl
          rcases hq8 : ps_Same_int.f K r3.1 r4.1 with _ | r7
          · rw [hq8] at h; cases h
          rw [hq8] at h
          simp only [] at h
          refine ge_call (d := some 44) (f := 14) (args := #[(.slice Z2 r3.1.length cz2), (.slice Z3 r4.1.length cz3)]) (by kernel_rfl) (ps_Same_int_ok K r3.1 Z2 cz2 r4.1 Z3 cz3 _ (hS20.rdAt 4 rfl) (hS20.capAt 4 rfl) (hS20.rdAt 1 rfl) (hS20.capAt 1 rfl) _ hq8) ?_
          rintro _ w12 ⟨rfl, hS21⟩
          refine ⟨_, rfl, hS21.below, ?_⟩
          have hS22 := hS20.call hS21
          refine ge_batch [14, 15] (ans := []) (vs := [(46, .bool r7), (45, .bool r7)]) (l := []) (by kernel_rfl) trivial ?_
          by_cases hc5 : r7 = true
          · rw [if_pos hc5] at h
            refine ge_known (t := 46) (b := r7) (c := true) (by kernel_rfl) hc5 ?_
            refine ge_batch [16, 17] (ans := []) (vs := [(48, v4), (47, v2)]) (l := []) (by kernel_rfl) trivial ?_
            obtain ⟨Z4, cz4, rfl⟩ := hS22.open 5 rfl
            obtain ⟨Z5, cz5, rfl⟩ := hS22.open 2 rfl
            rcases hq9 : ps_Same_int.f K r3.2.1 r4.2.1 with _ | r8
            · rw [hq9] at h; cases h
            rw [hq9] at h
            simp only [] at h
            refine ge_call (d := some 49) (f := 14) (args := #[(.slice Z4 r3.2.1.length cz4), (.slice Z5 r4.2.1.length cz5)]) (by kernel_rfl) (ps_Same_int_ok K r3.2.1 Z4 cz4 r4.2.1 Z5 cz5 _ (hS22.rdAt 5 rfl) (hS22.capAt 5 rfl) (hS22.rdAt 2 rfl) (hS22.capAt 2 rfl) _ hq9) ?_
            rintro _ w13 ⟨rfl, hS23⟩
            refine ⟨_, rfl, hS23.below, ?_⟩
            have hS24 := hS22.call hS23
            refine ge_batch [19, 20] (ans := []) (vs := [(51, .bool r8), (50, .bool r8)]) (l := []) (by kernel_rfl) trivial ?_
            by_cases hc6 : r8 = true
            · rw [if_pos hc6] at h
              refine ge_known (t := 51) (b := r8) (c := true) (by kernel_rfl) hc6 ?_
              refine ge_batch [21, 22] (ans := []) (vs := [(53, (.slice Z4 r3.2.1.length cz4)), (52, (.slice Z2 r3.1.length cz2))]) (l := []) (by kernel_rfl) trivial ?_
              refine ge_new (d := some 54) (o := .cells #[(.slice Z2 r3.1.length cz2), (.slice Z4 r3.2.1.length cz4)] 28) (v := fun b => .slice (some ⟨b, 0, none⟩) 2 2) hS24 (fun b => by kernel_rfl) fun b3 w14 hx3 hS25 => ?_
              rcases hq10 : ps_Apart.f K [r3.1, r3.2.1] with _ | r9
              · rw [hq10] at h; cases h
              rw [hq10] at h
              simp only [] at h
              have hS26 := hS25.bring 6 rfl
              have hS27 := hS26.bring 6 rfl
              have hS28 := hS27.bring 2 rfl
              have hS30 := (hS28.asRow (α := Hdr) (c := 2) [⟨Z2, r3.1.length, cz2⟩, ⟨Z4, r3.2.1.length, cz4⟩] (Nat.le_refl _) (by decide) rfl rfl).nestPair (α := Int)
              have hS31 := hS30.packN 1
              refine ge_call2 (m := 0) (d := some 55) (f := 15) (args := #[.slice (some ⟨b3, 0, none⟩) 2 2]) (by kernel_rfl) (ps_Apart_ok K (⟨some ⟨b3, 0, none⟩, 2, 2, [⟨Z2, r3.1.length, cz2⟩, ⟨Z4, r3.2.1.length, cz4⟩]⟩ : Rows) [r3.1, r3.2.1] _ _ _ hS31 _ hq10) ?_
              rintro _ w15 ⟨rfl, hS32⟩
              refine ⟨_, rfl, ?_⟩
              have hS33 := (hS32.unpack [Own.nest (⟨some ⟨b3, 0, none⟩, 2, 2, [⟨Z2, r3.1.length, cz2⟩, ⟨Z4, r3.2.1.length, cz4⟩]⟩ : Rows) 28 3 r9.2]).tail
              refine ge_batch [25, 26] (ans := []) (vs := [(57, .bool r9.1), (56, .bool r9.1)]) (l := []) (by kernel_rfl) trivial ?_
              by_cases hc7 : r9.1 = true
              · rw [if_pos hc7] at h
                refine ge_known (t := 57) (b := r9.1) (c := true) (by kernel_rfl) hc7 ?_
                refine ge_batch [27, 28, 29] (ans := [.val (.int .i64 (-9)), .val (.int .i64 0), .val (.int .i64 0), .val (.int .i64 0), .val (.bool false), .val (.int .i64 0)]) (vs := [(60, .agg #[.int .i64 (-9), .int .i64 0, .int .i64 0, .int .i64 0, .bool false, .int .i64 0]), (59, .slice A0 l0.length c0), (58, .slice Z1 l0.length cz1)]) (l := [.loaded ⟨0, 0, none⟩ (.int .i64 (-9)), .loaded ⟨0, 1, none⟩ (.int .i64 0), .loaded ⟨0, 2, none⟩ (.int .i64 0), .loaded ⟨0, 3, none⟩ (.int .i64 0), .loaded ⟨0, 4, none⟩ (.bool false), .loaded ⟨0, 5, none⟩ (.int .i64 0)]) (by kernel_rfl) ⟨hS33.glob hG0 rfl, hS33.glob hG0 rfl, hS33.glob hG0 rfl, hS33.glob hG0 rfl, hS33.glob hG0 rfl, hS33.glob hG0 rfl, trivial⟩ ?_
                rcases hq11 : ps_Still_api_Crit.f K (l0 ++ [(⟨(-9), 0, 0, 0, false, 0⟩ : SCrit), (⟨(-9), 0, 0, 0, false, 0⟩ : SCrit), (⟨(-9), 0, 0, 0, false, 0⟩ : SCrit)]) l0 (⟨(-9), 0, 0, 0, false, 0⟩ : SCrit) with _ | r10
                · rw [hq11] at h; cases h
                rw [hq11] at h
                simp only [] at h
                refine ge_call (d := some 61) (f := 16) (args := #[.slice Z1 l0.length cz1, .slice A0 l0.length c0, .agg #[.int .i64 (-9), .int .i64 0, .int .i64 0, .int .i64 0, .bool false, .int .i64 0]]) (by kernel_rfl) (ps_Still_api_Crit_ok K (l0 ++ [(⟨(-9), 0, 0, 0, false, 0⟩ : SCrit), (⟨(-9), 0, 0, 0, false, 0⟩ : SCrit), (⟨(-9), 0, 0, 0, false, 0⟩ : SCrit)]) Z1 l0.length cz1 l0 A0 c0 (⟨(-9), 0, 0, 0, false, 0⟩ : SCrit) _ (hS33.rdAt 4 rfl) hcp1 (hS33.rd hR0) hL0 _ hq11) ?_
                rintro _ w16 ⟨rfl, hS34⟩
                refine ⟨_, rfl, hS34.below, ?_⟩
                have hS35 := hS33.call hS34
                refine ge_batch [31, 32] (ans := []) (vs := [(2, .bool r10), (62, .bool r10)]) (l := []) (by kernel_rfl) trivial ?_
                refine ge_nil fun a hF => hK9 _ _ ?_ a hF
                have hS36 := hS35.takeN 0
                obtain rfl := Option.some.inj h
                exact we_ret (post_ret (rs := [.tmp 2]) (ans := []) (vs := [.bool r10]) (l := []) rfl (by kernel_rfl) trivial ⟨rfl, hS36⟩)
              · rw [if_neg hc7] at h
                refine ge_known (t := 57) (b := r9.1) (c := false) (by kernel_rfl) (Bool.eq_false_iff.2 hc7) ?_
                refine ge_batch [27, 28, 29] (ans := []) (vs := [(60, undef), (59, undef), (58, undef)]) (l := []) (by kernel_rfl) trivial ?_
                refine ge_off rfl rfl rfl (by kernel_rfl) ?_
                refine ge_batch [31, 32] (ans := []) (vs := [(2, .bool false), (62, .bool false)]) (l := []) (by kernel_rfl) trivial ?_
                refine ge_nil fun a hF => hK9 _ _ ?_ a hF
                have hS37 := hS33.takeN 0
                obtain rfl := Option.some.inj h
                exact we_ret (post_ret (rs := [.tmp 2]) (ans := []) (vs := [.bool false]) (l := []) rfl (by kernel_rfl) trivial ⟨rfl, hS37⟩)
            · rw [if_neg hc6] at h
              refine ge_known (t := 51) (b := r8) (c := false) (by kernel_rfl) (Bool.eq_false_iff.2 hc6) ?_
              refine ge_batch [21, 22] (ans := []) (vs := [(53, undef), (52, undef)]) (l := []) (by kernel_rfl) trivial ?_
              refine ge_off rfl rfl rfl (by kernel_rfl) ?_
              refine ge_off rfl rfl rfl (by kernel_rfl) ?_
              refine ge_batch [25, 26, 27, 28, 29] (ans := []) (vs := [(60, undef), (59, undef), (58, undef), (57, .bool false), (56, .bool false)]) (l := []) (by kernel_rfl) trivial ?_
              refine ge_off rfl rfl rfl (by kernel_rfl) ?_
              refine ge_batch [31, 32] (ans := []) (vs := [(2, .bool false), (62, .bool false)]) (l := []) (by kernel_rfl) trivial ?_
              refine ge_nil fun a hF => hK9 _ _ ?_ a hF
              have hS38 := hS24.takeN 0
              obtain rfl := Option.some.inj h
              exact we_ret (post_ret (rs := [.tmp 2]) (ans := []) (vs := [.bool false]) (l := []) rfl (by kernel_rfl) trivial ⟨rfl, hS38⟩)
          · rw [if_neg hc5] at h
            refine ge_known (t := 46) (b := r7) (c := false) (by kernel_rfl) (Bool.eq_false_iff.2 hc5) ?_
            refine ge_batch [16, 17] (ans := []) (vs := [(48, undef), (47, undef)]) (l := []) (by kernel_rfl) trivial ?_
            refine ge_off rfl rfl rfl (by kernel_rfl) ?_
            refine ge_batch [19, 20, 21, 22] (ans := []) (vs := [(53, undef), (52, undef), (51, .bool false), (50, .bool false)]) (l := []) (by kernel_rfl) trivial ?_
            refine ge_off rfl rfl rfl (by kernel_rfl) ?_
            refine ge_off rfl rfl rfl (by kernel_rfl) ?_
            refine ge_batch [25, 26, 27, 28, 29] (ans := []) (vs := [(60, undef), (59, undef), (58, undef), (57, .bool false), (56, .bool false)]) (l := []) (by kernel_rfl) trivial ?_
            refine ge_off rfl rfl rfl (by kernel_rfl) ?_
            refine ge_batch [31, 32] (ans := []) (vs := [(2, .bool false), (62, .bool false)]) (l := []) (by kernel_rfl) trivial ?_
            refine ge_nil fun a hF => hK9 _ _ ?_ a hF
            have hS39 := hS22.takeN 0
            obtain rfl := Option.some.inj h
            exact we_ret (post_ret (rs := [.tmp 2]) (ans := []) (vs := [.bool false]) (l := []) rfl (by kernel_rfl) trivial ⟨rfl, hS39⟩)
        · rw [if_neg hc4] at h
          refine ge_known (t := 41) (b := (SFault.eqb r3.2.2 r4.2.2)) (c := false) (by kernel_rfl) (Bool.eq_false_iff.2 hc4) ?_
          refine ge_batch [11, 12] (ans := []) (vs := [(43, undef), (42, undef)]) (l := []) (by kernel_rfl) trivial ?_
          refine ge_off rfl rfl rfl (by kernel_rfl) ?_
          refine ge_batch [14, 15, 16, 17] (ans := []) (vs := [(48, undef), (47, undef), (46, .bool false), (45, .bool false)]) (l := []) (by kernel_rfl) trivial ?_
          refine ge_off rfl rfl rfl (by kernel_rfl) ?_
          refine ge_batch [19, 20, 21, 22] (ans := []) (vs := [(53, undef), (52, undef), (51, .bool false), (50, .bool false)]) (l := []) (by kernel_rfl) trivial ?_
          refine ge_off rfl rfl rfl (by kernel_rfl) ?_
          refine ge_off rfl rfl rfl (by kernel_rfl) ?_
          refine ge_batch [25, 26, 27, 28, 29] (ans := []) (vs := [(60, undef), (59, undef), (58, undef), (57, .bool false), (56, .bool false)]) (l := []) (by kernel_rfl) trivial ?_
          refine ge_off rfl rfl rfl (by kernel_rfl) ?_
          refine ge_batch [31, 32] (ans := []) (vs := [(2, .bool false), (62, .bool false)]) (l := []) (by kernel_rfl) trivial ?_
          refine ge_nil fun a hF => hK9 _ _ ?_ a hF
          have hS40 := hS20.takeN 0
          obtain rfl := Option.some.inj h
          exact we_ret (post_ret (rs := [.tmp 2]) (ans := []) (vs := [.bool false]) (l := []) rfl (by kernel_rfl) trivial ⟨rfl, hS40⟩)
      · rw [if_neg hc3] at h
        refine ge_known (t := 36) (b := (SFault.eqb r5 r6)) (c := false) (by kernel_rfl) (Bool.eq_false_iff.2 hc3) ?_
        refine ge_batch [6, 7, 8, 9, 10, 11, 12] (ans := []) (vs := [(43, undef), (42, undef), (41, .bool false), (40, .bool false), (39, undef), (38, undef), (37, undef)]) (l := []) (by kernel_rfl) trivial ?_
        refine ge_off rfl rfl rfl (by kernel_rfl) ?_
        refine ge_batch [14, 15, 16, 17] (ans := []) (vs := [(48, undef), (47, undef), (46, .bool false), (45, .bool false)]) (l := []) (by kernel_rfl) trivial ?_
        refine ge_off rfl rfl rfl (by kernel_rfl) ?_
        refine ge_batch [19, 20, 21, 22] (ans := []) (vs := [(53, undef), (52, undef), (51, .bool false), (50, .bool false)]) (l := []) (by kernel_rfl) trivial ?_
        refine ge_off rfl rfl rfl (by kernel_rfl) ?_
        refine ge_off rfl rfl rfl (by kernel_rfl) ?_
        refine ge_batch [25, 26, 27, 28, 29] (ans := []) (vs := [(60, undef), (59, undef), (58, undef), (57, .bool false), (56, .bool false)]) (l := []) (by kernel_rfl) trivial ?_
        refine ge_off rfl rfl rfl (by kernel_rfl) ?_
        refine ge_batch [31, 32] (ans := []) (vs := [(2, .bool false), (62, .bool false)]) (l := []) (by kernel_rfl) trivial ?_
        refine ge_nil fun a hF => hK9 _ _ ?_ a hF
        have hS41 := hS20.takeN 0
        obtain rfl := Option.some.inj h
        exact we_ret (post_ret (rs := [.tmp 2]) (ans := []) (vs := [.bool false]) (l := []) rfl (by kernel_rfl) trivial ⟨rfl, hS41⟩)
    · rw [if_neg hc2] at h
      refine we_known (t := 15) (b := !(few.f (l0.length : Int))) (v := true) (by kernel_rfl) (congrArg (fun z => !z) (Bool.eq_false_iff.2 hc2)) ?_
      refine we_true (by kernel_rfl) ?_
      refine we_seq fun K10 hK10 => ?_
      refine we_region [(0, 0)] rfl ?_
      refine ge_batch [0] (ans := []) (vs := [(2, .bool true)]) (l := []) (by kernel_rfl) trivial ?_
      refine ge_nil fun a hF => hK10 _ _ ?_ a hF
      obtain rfl := Option.some.inj h
      exact we_ret (post_ret (rs := [.tmp 2]) (ans := []) (vs := [.bool true]) (l := []) rfl (by kernel_rfl) trivial ⟨rfl, hS4⟩)
  · rw [if_neg hc1] at h
    refine we_known (t := 11) (b := !r1) (v := true) (by kernel_rfl) (congrArg (fun z => !z) (Bool.eq_false_iff.2 hc1)) ?_
    refine we_true (by kernel_rfl) ?_
    refine we_seq fun K11 hK11 => ?_
    refine we_region [(0, 0)] rfl ?_
    refine ge_batch [0] (ans := []) (vs := [(2, .bool false)]) (l := []) (by kernel_rfl) trivial ?_
    refine ge_nil fun a hF => hK11 _ _ ?_ a hF
    obtain rfl := Option.some.inj h
    exact we_ret (post_ret (rs := [.tmp 2]) (ans := []) (vs := [.bool false]) (l := []) rfl (by kernel_rfl) trivial ⟨rfl, hS2⟩)
end Go.Proofs.YtchcdadpahakfaaDoor.GV
