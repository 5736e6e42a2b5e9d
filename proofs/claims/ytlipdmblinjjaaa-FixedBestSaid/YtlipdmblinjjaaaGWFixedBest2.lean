/- Walks of single functions, written by a program of this work. -/
import Derived.Test.YtlipdmblinjjaaaGWFixedBest1
namespace Go.Proofs.Ytlipdmblinjjaaa.GV
open Go Go.RowKit
set_option linter.unusedVariables false
set_option linter.unusedSimpArgs false
set_option maxRecDepth 100000

/-! punctual/fixed.Assign -/
abbrev fixed_Assign.Post (w0 : World) (r : (List STask) × SFault) (e : Ending) (w : World) : Prop := ∃ (v0 : Value), e = .returned (.tuple #[v0, .agg #[.int .i64 r.2.Code, .int .i64 r.2.At]]) ∧ St w0 w [Own.of v0 46 r.1]
def fixed_Assign.p0 (K : Nat) (l0 : List STask) (l1 : List Int) : Option (Unit ⊕ ((List STask) × SFault)) :=
    if (l1.length : Int) = (l0.length : Int) then
      match slices_ContainsFunc_int_int.f K l1 with
      | none => none
      | some r2 =>
        if r2 = true then
          some (.inr (([] : List STask), (⟨2, 0⟩ : SFault)))
        else
          some (.inl ())
    else
      some (.inr (([] : List STask), (⟨2, 0⟩ : SFault)))
def fixed_Assign.r1 (r3 : List STask) : Int × (List STask) → Option ((Int × (List STask)) ⊕ ((List STask) ⊕ ((List STask) × SFault)))
  | (z1, m1) =>
    if z1 < (r3.length : Int) then
      if 0 ≤ z1 then
        match m1[(z1).toNat]? with
        | none => none
        | some e1 =>
          some (.inl (IntKind.i64.wrap (z1 + 1), (m1.set ((z1).toNat) (⟨e1.Name, e1.C, e1.T, e1.D, e1.J, e1.O, 0⟩ : STask))))
      else
        none
    else
      some (.inr (.inl m1))
def fixed_Assign.p4 (m4 : List STask) (z3 : Int) (z4 : Int) : Option (Unit ⊕ (Unit ⊕ ((List STask) × SFault))) :=
    if z4 < (m4.length : Int) then
      if z3 < 0 then
        some (.inl ())
      else
        some (.inr (.inl ()))
    else
      some (.inr (.inl ()))
def fixed_Assign.r5 (m4 : List STask) (z4 : Int) : (List STask) × Nat → Option (((List STask) × Nat) ⊕ ((List STask) ⊕ ((List STask) × SFault)))
  | (m6, i1) =>
    if (i1 : Int) < (m4.length : Int) then
      match m4[i1]? with
      | none => none
      | some e3 =>
        if (i1 : Int) = z4 then
          some (.inl (m6, (i1 + 1)))
        else
          if e3.P = 0 then
            if m6.length < 2199023255552 then
              some (.inl ((m6 ++ [e3]), (i1 + 1)))
            else
              none
          else
            some (.inl (m6, (i1 + 1)))
    else
      some (.inr (.inl m6))
def fixed_Assign.r3 (K : Nat) (l1 : List Int) (m4 : List STask) : Int × Int → Option ((Int × Int) ⊕ (Int ⊕ ((List STask) × SFault)))
  | (z3, z4) =>
    match fixed_Assign.p4 m4 z3 z4 with
    | none => none
    | some (.inl _) =>
      if 0 ≤ z4 then
        match m4[(z4).toNat]? with
        | none => none
        | some e2 =>
          if e2.P > 0 then
            some (.inl (z3, IntKind.i64.wrap (z4 + 1)))
          else
            match iter (fixed_Assign.r5 m4 z4) K (([] : List STask), 0) with
            | none => none
            | some (.inl m8) =>
              match l1[(z4).toNat]? with
              | none => none
              | some e4 =>
                match fixed_response.f K e2 m8 e4 with
                | none => none
                | some r4 =>
                  if r4 > 0 then
                    some (.inl (z4, IntKind.i64.wrap (z4 + 1)))
                  else
                    some (.inl (z3, IntKind.i64.wrap (z4 + 1)))
            | some (.inr rr1) =>
              some (.inr (.inr rr1))
      else
        none
    | some (.inr (.inl _)) =>
      some (.inr (.inl z3))
    | some (.inr (.inr rr2)) =>
      some (.inr (.inr rr2))
def fixed_Assign.r2 (K : Nat) (l1 : List Int) (r3 : List STask) : Int × (List STask) → Option ((Int × (List STask)) ⊕ ((List STask) ⊕ ((List STask) × SFault)))
  | (z2, m4) =>
    if z2 ≤ (m4.length : Int) then
      match iter (fixed_Assign.r3 K l1 m4) K ((-1), 0) with
      | none => none
      | some (.inl z6) =>
        if z6 < 0 then
          some (.inr (.inr (([] : List STask), (⟨13, 0⟩ : SFault))))
        else
          if 0 ≤ z6 then
            match m4[(z6).toNat]? with
            | none => none
            | some e5 =>
              some (.inl (IntKind.i64.wrap (z2 + 1), (m4.set ((z6).toNat) (⟨e5.Name, e5.C, e5.T, e5.D, e5.J, e5.O, z2⟩ : STask))))
          else
            none
      | some (.inr rr3) =>
        some (.inr (.inr rr3))
    else
      some (.inr (.inl m4))
def fixed_Assign.f (K : Nat) (l0 : List STask) (l1 : List Int) : Option ((List STask) × SFault) :=
  match fixed_check.f K l0 with
  | none => none
  | some r1 =>
    if r1.Code = 0 then
      match fixed_Assign.p0 K l0 l1 with
      | none => none
      | some (.inl _) =>
        match slices_Clone_api_Task_api_Task.f l0 with
        | none => none
        | some r3 =>
          match iter (fixed_Assign.r1 r3) K (0, r3) with
          | none => none
          | some (.inl m3) =>
            match iter (fixed_Assign.r2 K l1 r3) K (1, m3) with
            | none => none
            | some (.inl m9) =>
              some (m9, (⟨0, 0⟩ : SFault))
            | some (.inr rr4) =>
              some rr4
          | some (.inr rr5) =>
            some rr5
      | some (.inr rr6) =>
        some rr6
    else
      some (([] : List STask), r1)
abbrev fixed_Assign.A0 (K : Nat) (w0 : World) (l0 : List STask) (A0 : Option Addr) (c0 : Nat) (l1 : List Int) (A1 : Option Addr) (c1 : Nat) (hR0 : RdL w0 A0 l0) (hL0 : l0.length ≤ c0) (hR1 : RdL w0 A1 l1) (hL1 : l1.length ≤ c1) (b1 : Nat) (r1 : SFault) (b2 : Nat) (hc1 : r1.Code = 0) : Unit → Act → World → Prop := fun (s : Unit) a w => St w0 w [Own.blk b1 (.cells #[.int .i64 0, .int .i64 0] 29 (0, 0))] ∧ Frm 107 a [(0, .slice A0 l0.length c0), (1, .slice A1 l1.length c1), (5, .pointer (some ⟨b1, 0, none⟩))]
abbrev fixed_Assign.B0 (K : Nat) (w0 : World) (l0 : List STask) (A0 : Option Addr) (c0 : Nat) (l1 : List Int) (A1 : Option Addr) (c1 : Nat) (hR0 : RdL w0 A0 l0) (hL0 : l0.length ≤ c0) (hR1 : RdL w0 A1 l1) (hL1 : l1.length ≤ c1) (b1 : Nat) (r1 : SFault) (b2 : Nat) (hc1 : r1.Code = 0) : ((List STask) × SFault) → Exit → Act → World → Prop := Rets Try.prog Try.f16 (fixed_Assign.Post w0)
theorem fixed_Assign_p0 (K : Nat) (w0 : World) (l0 : List STask) (A0 : Option Addr) (c0 : Nat) (l1 : List Int) (A1 : Option Addr) (c1 : Nat) (hR0 : RdL w0 A0 l0) (hL0 : l0.length ≤ c0) (hR1 : RdL w0 A1 l1) (hL1 : l1.length ≤ c1) (b1 : Nat) (r1 : SFault) (b2 : Nat) (hc1 : r1.Code = 0) (o : Unit ⊕ ((List STask) × SFault)) (h : fixed_Assign.p0 K l0 l1 = some o) (w : World) (hS : St w0 w [Own.blk b2 (.cells #[.int .i64 r1.Code, .int .i64 r1.At] 29 (0, 0)), Own.blk b1 (.cells #[.int .i64 0, .int .i64 0] 29 (0, 0))]) (Q : Exit → Act → World → Prop) (hQ : ∀ x a w, Outs (fixed_Assign.A0 K w0 l0 A0 c0 l1 A1 c1 hR0 hL0 hR1 hL1 b1 r1 b2 hc1) (fixed_Assign.B0 K w0 l0 A0 c0 l1 A1 c1 hR0 hL0 hR1 hL1 b1 r1 b2 hc1) o x a w → Q x a w) : WE Try.prog 107 (subF Try.f16 [1, 1, 0]) Q [(0, .slice A0 l0.length c0), (1, .slice A1 l1.length c1), (4, .slice none 0 0), (5, .pointer (some ⟨b1, 0, none⟩)), (6, .pointer (some ⟨b2, 0, none⟩)), (15, .slice A0 l0.length c0), (16, .agg #[.int .i64 r1.Code, .int .i64 r1.At]), (17, .pointer (some ⟨b2, 0, none⟩)), (18, .int .i64 r1.Code), (19, .bool false)] w := by
  simp only [fixed_Assign.p0] at h
  refine we_seq fun K6 hK6 => ?_
  refine we_region [(0, 0), (1, 0), (2, 0), (3, 0), (4, 0), (5, 0), (6, 0), (7, 1), (8, 0)] rfl ?_
  refine ge_batch [0, 1, 2, 3, 4, 5] (ans := []) (vs := [(26, .bool ((l1.length : Int) != (l0.length : Int))), (25, .bool ((l1.length : Int) != (l0.length : Int))), (24, .int .i64 (l0.length : Int)), (23, .slice A0 l0.length c0), (22, .int .i64 (l1.length : Int)), (21, .slice A1 l1.length c1)]) (l := []) (by kernel_rfl) trivial ?_
  by_cases hc2 : (l1.length : Int) = (l0.length : Int)
  · rw [if_pos hc2] at h
    refine ge_known (t := 26) (b := ((l1.length : Int) != (l0.length : Int))) (c := false) (by kernel_rfl) (bne_eq_false_iff_eq.2 hc2) ?_
    rcases hq2 : slices_ContainsFunc_int_int.f K l1 with _ | r2
    · rw [hq2] at h; cases h
    rw [hq2] at h
    simp only [] at h
    refine ge_batch [6] (ans := []) (vs := [(27, .slice A1 l1.length c1)]) (l := []) (by kernel_rfl) trivial ?_
    refine ge_call (d := some 28) (f := 31) (args := #[.slice A1 l1.length c1, .func (.func 32) #[] #[]]) (by kernel_rfl) (slices_ContainsFunc_int_int_ok K l1 A1 c1 _ (hS.rd hR1) hL1 _ hq2) ?_
    rintro _ w5 ⟨rfl, hS7⟩
    refine ⟨_, rfl, hS7.below, ?_⟩
    have hS8 := hS.call hS7
    refine ge_batch [8] (ans := []) (vs := [(29, .bool r2)]) (l := []) (by kernel_rfl) trivial ?_
    refine ge_nil fun a hF => hK6 _ _ ?_ a hF
    by_cases hc3 : r2 = true
    · rw [if_pos hc3] at h
      refine we_known (t := 29) (b := r2) (v := true) (by kernel_rfl) hc3 ?_
      refine we_true (by kernel_rfl) ?_
      refine we_seq fun K7 hK7 => ?_
      refine we_region [(0, 0), (1, 0), (2, 2)] rfl ?_
      refine ge_batch [0, 1] (ans := []) (vs := [(4, .slice none 0 0), (30, .agg #[.int .i64 2, .int .i64 0])]) (l := []) (by kernel_rfl) trivial ?_
      have hS9 := hS8.bring 1 rfl
      refine ge_set (b := b1) (j := 0) (cs := #[.int .i64 0, .int .i64 0]) (t := 29) (vs := [.int .i64 2, .int .i64 0]) hS9 (by kernel_rfl) rfl rfl fun w6 hS10 => ?_
      have hS11 : St w0 w6 [Own.blk b1 (.cells #[.int .i64 2, .int .i64 0] 29 (0, 0)), Own.blk b2 (.cells #[.int .i64 r1.Code, .int .i64 r1.At] 29 (0, 0))] := hS10
      refine ge_nil fun a hF => hK7 _ _ ?_ a hF
      have hS12 := hS11.nil (α := STask) 46
      have hS13 := hS12.takeN 1
      obtain rfl := Option.some.inj h
      exact we_ret fun a hF => hQ _ _ _ (Outs.out nofun ⟨rfl, (post_ret (rs := [.tmp 4, .cell 5 29]) (ans := [.val (.int .i64 2), .val (.int .i64 0)]) (vs := [(.slice none 0 0), .agg #[.int .i64 2, .int .i64 0]]) (l := [.loaded ⟨b1, 0, none⟩ (.int .i64 2), .loaded ⟨b1, 1, none⟩ (.int .i64 0)]) rfl (by kernel_rfl) ⟨hS12.cell 1 rfl rfl, hS12.cell 1 rfl rfl, trivial⟩ ⟨(.slice none 0 0), rfl, hS13⟩) a hF⟩)
    · rw [if_neg hc3] at h
      refine we_known (t := 29) (b := r2) (v := false) (by kernel_rfl) (Bool.eq_false_iff.2 hc3) ?_
      refine we_false (by kernel_rfl) ?_
      have hS14 := hS8.bring 1 rfl
      have hS15 := hS14.takeN 1
      obtain rfl := Option.some.inj h
      exact we_skip fun a hF => hQ _ _ _ (Outs.again ⟨hS15, hF.weaken ⟨by kernel_rfl, by kernel_rfl, by kernel_rfl, trivial⟩⟩)
  · rw [if_neg hc2] at h
    refine ge_known (t := 26) (b := ((l1.length : Int) != (l0.length : Int))) (c := true) (by kernel_rfl) (bne_iff_ne.2 hc2) ?_
    refine ge_batch [6] (ans := []) (vs := [(27, undef)]) (l := []) (by kernel_rfl) trivial ?_
    refine ge_off rfl rfl rfl (by kernel_rfl) ?_
    refine ge_batch [8] (ans := []) (vs := [(29, .bool true)]) (l := []) (by kernel_rfl) trivial ?_
    refine ge_nil fun a hF => hK6 _ _ ?_ a hF
    refine we_true (by kernel_rfl) ?_
    refine we_seq fun K8 hK8 => ?_
    refine we_region [(0, 0), (1, 0), (2, 2)] rfl ?_
    refine ge_batch [0, 1] (ans := []) (vs := [(4, .slice none 0 0), (30, .agg #[.int .i64 2, .int .i64 0])]) (l := []) (by kernel_rfl) trivial ?_
    have hS16 := hS.bring 1 rfl
    refine ge_set (b := b1) (j := 0) (cs := #[.int .i64 0, .int .i64 0]) (t := 29) (vs := [.int .i64 2, .int .i64 0]) hS16 (by kernel_rfl) rfl rfl fun w7 hS17 => ?_
    have hS18 : St w0 w7 [Own.blk b1 (.cells #[.int .i64 2, .int .i64 0] 29 (0, 0)), Own.blk b2 (.cells #[.int .i64 r1.Code, .int .i64 r1.At] 29 (0, 0))] := hS17
    refine ge_nil fun a hF => hK8 _ _ ?_ a hF
    have hS19 := hS18.nil (α := STask) 46
    have hS20 := hS19.takeN 1
    obtain rfl := Option.some.inj h
    exact we_ret fun a hF => hQ _ _ _ (Outs.out nofun ⟨rfl, (post_ret (rs := [.tmp 4, .cell 5 29]) (ans := [.val (.int .i64 2), .val (.int .i64 0)]) (vs := [(.slice none 0 0), .agg #[.int .i64 2, .int .i64 0]]) (l := [.loaded ⟨b1, 0, none⟩ (.int .i64 2), .loaded ⟨b1, 1, none⟩ (.int .i64 0)]) rfl (by kernel_rfl) ⟨hS19.cell 1 rfl rfl, hS19.cell 1 rfl rfl, trivial⟩ ⟨(.slice none 0 0), rfl, hS20⟩) a hF⟩)
abbrev fixed_Assign.A1 (K : Nat) (w0 : World) (l0 : List STask) (A0 : Option Addr) (c0 : Nat) (l1 : List Int) (A1 : Option Addr) (c1 : Nat) (hR0 : RdL w0 A0 l0) (hL0 : l0.length ≤ c0) (hR1 : RdL w0 A1 l1) (hL1 : l1.length ≤ c1) (b1 : Nat) (r1 : SFault) (b2 : Nat) (hc1 : r1.Code = 0) (r3 : List STask) (Z1 : Option Addr) (cz1 : Nat) : (Int × (List STask)) → Act → World → Prop := fun (s : Int × (List STask)) a w => St w0 w [Own.blk b1 (.cells #[.int .i64 0, .int .i64 0] 29 (0, 0)), Own.of (.slice Z1 s.2.length cz1) 46 s.2] ∧ Frm 107 a [(1, .slice A1 l1.length c1), (5, .pointer (some ⟨b1, 0, none⟩)), (7, (.slice Z1 s.2.length cz1)), (34, .int .i64 (r3.length : Int)), (35, .int .i64 s.1)]
abbrev fixed_Assign.B1 (K : Nat) (w0 : World) (l0 : List STask) (A0 : Option Addr) (c0 : Nat) (l1 : List Int) (A1 : Option Addr) (c1 : Nat) (hR0 : RdL w0 A0 l0) (hL0 : l0.length ≤ c0) (hR1 : RdL w0 A1 l1) (hL1 : l1.length ≤ c1) (b1 : Nat) (r1 : SFault) (b2 : Nat) (hc1 : r1.Code = 0) (r3 : List STask) (Z1 : Option Addr) (cz1 : Nat) : ((List STask) ⊕ ((List STask) × SFault)) → Exit → Act → World → Prop := Exits 0 (fun (s : (List STask)) a w => St w0 w [Own.blk b1 (.cells #[.int .i64 0, .int .i64 0] 29 (0, 0)), Own.of (.slice Z1 s.length cz1) 46 s] ∧ Frm 107 a [(1, .slice A1 l1.length c1), (5, .pointer (some ⟨b1, 0, none⟩)), (7, (.slice Z1 s.length cz1))]) (Rets Try.prog Try.f16 (fixed_Assign.Post w0))
theorem fixed_Assign_r1 (K : Nat) (w0 : World) (l0 : List STask) (A0 : Option Addr) (c0 : Nat) (l1 : List Int) (A1 : Option Addr) (c1 : Nat) (hR0 : RdL w0 A0 l0) (hL0 : l0.length ≤ c0) (hR1 : RdL w0 A1 l1) (hL1 : l1.length ≤ c1) (b1 : Nat) (r1 : SFault) (b2 : Nat) (hc1 : r1.Code = 0) (r3 : List STask) (Z1 : Option Addr) (cz1 : Nat) (s : Int × (List STask)) (o : (Int × (List STask)) ⊕ ((List STask) ⊕ ((List STask) × SFault))) (h : fixed_Assign.r1 r3 s = some o) (a : Act) (w : World) (hA : fixed_Assign.A1 K w0 l0 A0 c0 l1 A1 c1 hR0 hL0 hR1 hL1 b1 r1 b2 hc1 r3 Z1 cz1 s a w) (Q : Exit → Act → World → Prop) (hQ : ∀ x a w, Outs (fixed_Assign.A1 K w0 l0 A0 c0 l1 A1 c1 hR0 hL0 hR1 hL1 b1 r1 b2 hc1 r3 Z1 cz1) (fixed_Assign.B1 K w0 l0 A0 c0 l1 A1 c1 hR0 hL0 hR1 hL1 b1 r1 b2 hc1 r3 Z1 cz1) o x a w → Q x a w) : (subF Try.f16 [1, 1, 1, 1, 0, 1, 0, 0]).wp Try.prog Q a w := by
  obtain ⟨z1, m1⟩ := s
  obtain ⟨hS, hF⟩ := hA
  replace hS : St w0 w [Own.blk b1 (.cells #[.int .i64 0, .int .i64 0] 29 (0, 0)), Own.of (.slice Z1 m1.length cz1) 46 m1] := hS
  simp only [fixed_Assign.r1] at h
  refine (?_ : WE Try.prog 107 (subF Try.f16 [1, 1, 1, 1, 0, 1, 0, 0]) Q [(1, .slice A1 l1.length c1), (5, .pointer (some ⟨b1, 0, none⟩)), (7, (.slice Z1 m1.length cz1)), (34, .int .i64 (r3.length : Int)), (35, .int .i64 z1)] w) a hF
  clear hF a
  refine we_seq fun K12 hK12 => ?_
  refine we_region [(0, 0)] rfl ?_
  refine ge_batch [0] (ans := []) (vs := [(36, .bool (decide (z1 < (r3.length : Int))))]) (l := []) (by kernel_rfl) trivial ?_
  refine ge_nil fun a hF => hK12 _ _ ?_ a hF
  refine we_seq fun K13 hK13 => ?_
  by_cases hc4 : z1 < (r3.length : Int)
  · rw [if_pos hc4] at h
    refine we_known (t := 36) (b := decide (z1 < (r3.length : Int))) (v := true) (by kernel_rfl) (decide_eq_true hc4) ?_
    refine we_true (by kernel_rfl) ?_
    refine we_skip fun a hF => hK13 _ _ ?_ a hF
    refine we_seq fun K14 hK14 => ?_
    refine we_block ?_
    refine we_seq fun K15 hK15 => ?_
    refine we_region [(0, 0), (1, 0)] rfl ?_
    refine ge_batch [0, 1] (ans := []) (vs := [(8, .int .i64 z1), (37, .int .i64 z1)]) (l := []) (by kernel_rfl) trivial ?_
    refine ge_nil fun a hF => hK15 _ _ ?_ a hF
    refine we_region [(0, 0), (1, 0), (2, 0), (3, 0), (4, 2)] rfl ?_
    refine ge_batch [0, 1] (ans := []) (vs := [(39, .int .i64 z1), (38, (.slice Z1 m1.length cz1))]) (l := []) (by kernel_rfl) trivial ?_
    by_cases hc5 : 0 ≤ z1
    · rw [if_pos hc5] at h
      rcases hx3 : m1[(z1).toNat]? with _ | e1
      · rw [hx3] at h; cases h
      rw [hx3] at h
      simp only [] at h
      refine ge_index (d := 40) (ty := 0) (t := 22) (el := 46) (sz := 7) (m := m1.length) (c := cz1) (x := (.tmp 38)) (y := (.tmp 39)) (A := Z1) (k' := .i64) (j := z1) (jn := ((z1).toNat)) (b0 := blkOf Z1) (o0 := offOf Z1) (by kernel_rfl) (by kernel_rfl) (by kernel_rfl) (by kernel_rfl) (by kernel_rfl) ((hS.rdAt 1 rfl).eqSome (pos_of_get hx3)) (Int.toNat_of_nonneg hc5).symm (lt_of_get hx3) ?_
      refine ge_batch [3] (ans := []) (vs := [(41, .pointer (some ⟨blkOf Z1, offOf Z1 + (z1).toNat * 7 + 6, none⟩))]) (l := []) (by kernel_rfl) trivial ?_
      have hS25 := hS.bring 1 rfl
      refine ge_seti (α := STask) (A := Z1) (nn := m1.length) (c := cz1) (t := 46) (l := m1) (x := e1) (x' := (⟨e1.Name, e1.C, e1.T, e1.D, e1.J, e1.O, 0⟩ : STask)) (jn := ((z1).toNat)) (j := 6) (vs := [.int .i64 0]) (l' := [.stored ⟨blkOf Z1, offOf Z1 + ((z1).toNat) * 7 + 6, none⟩ (.int .i64 0)]) hS25 (by kernel_rfl) (by kernel_rfl) hx3 rfl rfl rfl fun w10 hS26 => ?_
      have hS27 : St w0 w10 [Own.of (.slice Z1 m1.length cz1) 46 (m1.set ((z1).toNat) (⟨e1.Name, e1.C, e1.T, e1.D, e1.J, e1.O, 0⟩ : STask)), Own.blk b1 (.cells #[.int .i64 0, .int .i64 0] 29 (0, 0))] := hS26
      have hE1 : m1.length = (m1.set ((z1).toNat) (⟨e1.Name, e1.C, e1.T, e1.D, e1.J, e1.O, 0⟩ : STask)).length := hS27.lenAt 0 rfl
      have hS28 : St w0 w10 [Own.of (.slice Z1 (m1.set ((z1).toNat) (⟨e1.Name, e1.C, e1.T, e1.D, e1.J, e1.O, 0⟩ : STask)).length cz1) 46 (m1.set ((z1).toNat) (⟨e1.Name, e1.C, e1.T, e1.D, e1.J, e1.O, 0⟩ : STask)), Own.blk b1 (.cells #[.int .i64 0, .int .i64 0] 29 (0, 0))] := by rw [← hE1]; exact hS27
      refine ge_same (t := 7) (v := (.slice Z1 m1.length cz1)) (v' := (.slice Z1 (m1.set ((z1).toNat) (⟨e1.Name, e1.C, e1.T, e1.D, e1.J, e1.O, 0⟩ : STask)).length cz1)) (by kernel_rfl) (by rw [hE1]) ?_
      refine ge_same (t := 38) (v := (.slice Z1 m1.length cz1)) (v' := (.slice Z1 (m1.set ((z1).toNat) (⟨e1.Name, e1.C, e1.T, e1.D, e1.J, e1.O, 0⟩ : STask)).length cz1)) (by kernel_rfl) (by rw [hE1]) ?_
      refine ge_nil fun a hF => hK14 _ _ ?_ a hF
      refine we_region [(0, 0), (1, 0)] rfl ?_
      refine ge_batch [0, 1] (ans := []) (vs := [(35, .int .i64 (IntKind.i64.wrap (z1 + 1))), (42, .int .i64 (IntKind.i64.wrap (z1 + 1)))]) (l := []) (by kernel_rfl) trivial ?_
      have hS29 := hS28.bring 1 rfl
      obtain rfl := Option.some.inj h
      exact ge_nil fun a hF => hQ _ _ _ (Outs.again ⟨hS29, hF.weaken ⟨by kernel_rfl, by kernel_rfl, by kernel_rfl, by kernel_rfl, by kernel_rfl, trivial⟩⟩)
    · rw [if_neg hc5] at h
      cases h
  · rw [if_neg hc4] at h
    refine we_known (t := 36) (b := decide (z1 < (r3.length : Int))) (v := false) (by kernel_rfl) (decide_eq_false hc4) ?_
    refine we_false (by kernel_rfl) ?_
    have hS30 := hS.bring 1 rfl
    have hS31 := hS30.bring 1 rfl
    obtain rfl := Option.some.inj h
    exact we_exit fun a hF => hQ _ _ _ (Outs.out nofun (Exits.here ⟨hS31, hF.weaken ⟨by kernel_rfl, by kernel_rfl, by kernel_rfl, trivial⟩⟩))
abbrev fixed_Assign.A4 (K : Nat) (w0 : World) (l0 : List STask) (A0 : Option Addr) (c0 : Nat) (l1 : List Int) (A1 : Option Addr) (c1 : Nat) (hR0 : RdL w0 A0 l0) (hL0 : l0.length ≤ c0) (hR1 : RdL w0 A1 l1) (hL1 : l1.length ≤ c1) (b1 : Nat) (r1 : SFault) (b2 : Nat) (hc1 : r1.Code = 0) (r3 : List STask) (Z1 : Option Addr) (cz1 : Nat) (m3 : List STask) (z2 : Int) (m4 : List STask) (hc6 : z2 ≤ (m4.length : Int)) (z3 : Int) (z4 : Int) : Unit → Act → World → Prop := fun (s : Unit) a w => St w0 w [Own.blk b1 (.cells #[.int .i64 0, .int .i64 0] 29 (0, 0)), Own.of (.slice Z1 m4.length cz1) 46 m4] ∧ Frm 107 a [(1, .slice A1 l1.length c1), (5, .pointer (some ⟨b1, 0, none⟩)), (7, (.slice Z1 m4.length cz1)), (9, .int .i64 z2), (10, .int .i64 z3), (11, .int .i64 z4)]
abbrev fixed_Assign.B4 (K : Nat) (w0 : World) (l0 : List STask) (A0 : Option Addr) (c0 : Nat) (l1 : List Int) (A1 : Option Addr) (c1 : Nat) (hR0 : RdL w0 A0 l0) (hL0 : l0.length ≤ c0) (hR1 : RdL w0 A1 l1) (hL1 : l1.length ≤ c1) (b1 : Nat) (r1 : SFault) (b2 : Nat) (hc1 : r1.Code = 0) (r3 : List STask) (Z1 : Option Addr) (cz1 : Nat) (m3 : List STask) (z2 : Int) (m4 : List STask) (hc6 : z2 ≤ (m4.length : Int)) (z3 : Int) (z4 : Int) : (Unit ⊕ ((List STask) × SFault)) → Exit → Act → World → Prop := Exits 4 (fun (s : Unit) a w => St w0 w [Own.blk b1 (.cells #[.int .i64 0, .int .i64 0] 29 (0, 0)), Own.of (.slice Z1 m4.length cz1) 46 m4] ∧ Frm 107 a [(1, .slice A1 l1.length c1), (5, .pointer (some ⟨b1, 0, none⟩)), (7, (.slice Z1 m4.length cz1)), (9, .int .i64 z2), (10, .int .i64 z3)]) (Rets Try.prog Try.f16 (fixed_Assign.Post w0))
theorem fixed_Assign_p4 (K : Nat) (w0 : World) (l0 : List STask) (A0 : Option Addr) (c0 : Nat) (l1 : List Int) (A1 : Option Addr) (c1 : Nat) (hR0 : RdL w0 A0 l0) (hL0 : l0.length ≤ c0) (hR1 : RdL w0 A1 l1) (hL1 : l1.length ≤ c1) (b1 : Nat) (r1 : SFault) (b2 : Nat) (hc1 : r1.Code = 0) (r3 : List STask) (Z1 : Option Addr) (cz1 : Nat) (m3 : List STask) (z2 : Int) (m4 : List STask) (hc6 : z2 ≤ (m4.length : Int)) (z3 : Int) (z4 : Int) (o : Unit ⊕ (Unit ⊕ ((List STask) × SFault))) (h : fixed_Assign.p4 m4 z3 z4 = some o) (w : World) (hS : St w0 w [Own.blk b1 (.cells #[.int .i64 0, .int .i64 0] 29 (0, 0)), Own.of (.slice Z1 m4.length cz1) 46 m4]) (Q : Exit → Act → World → Prop) (hQ : ∀ x a w, Outs (fixed_Assign.A4 K w0 l0 A0 c0 l1 A1 c1 hR0 hL0 hR1 hL1 b1 r1 b2 hc1 r3 Z1 cz1 m3 z2 m4 hc6 z3 z4) (fixed_Assign.B4 K w0 l0 A0 c0 l1 A1 c1 hR0 hL0 hR1 hL1 b1 r1 b2 hc1 r3 Z1 cz1 m3 z2 m4 hc6 z3 z4) o x a w → Q x a w) : WE Try.prog 107 (subF Try.f16 [1, 1, 1, 1, 1, 0, 1, 0, 0, 1, 0, 0, 1, 0, 1, 0, 0, 0]) Q [(1, .slice A1 l1.length c1), (5, .pointer (some ⟨b1, 0, none⟩)), (7, (.slice Z1 m4.length cz1)), (9, .int .i64 z2), (10, .int .i64 z3), (11, .int .i64 z4)] w := by
  simp only [fixed_Assign.p4] at h
  refine we_seq fun K25 hK25 => ?_
  refine we_region [(0, 0), (1, 0), (2, 0), (3, 0), (4, 0), (5, 0), (6, 0), (7, 0)] rfl ?_
  refine ge_batch [0, 1, 2, 3, 4] (ans := []) (vs := [(53, .bool (decide (z4 < (m4.length : Int)))), (52, .bool (decide (z4 < (m4.length : Int)))), (51, .int .i64 (m4.length : Int)), (50, (.slice Z1 m4.length cz1)), (49, .int .i64 z4)]) (l := []) (by kernel_rfl) trivial ?_
  by_cases hc7 : z4 < (m4.length : Int)
  · rw [if_pos hc7] at h
    refine ge_known (t := 53) (b := decide (z4 < (m4.length : Int))) (c := true) (by kernel_rfl) (decide_eq_true hc7) ?_
    refine ge_batch [5, 6, 7] (ans := []) (vs := [(56, .bool (decide (z3 < 0))), (55, .bool (decide (z3 < 0))), (54, .int .i64 z3)]) (l := []) (by kernel_rfl) trivial ?_
    refine ge_nil fun a hF => hK25 _ _ ?_ a hF
    by_cases hc8 : z3 < 0
    · rw [if_pos hc8] at h
      refine we_known (t := 56) (b := decide (z3 < 0)) (v := true) (by kernel_rfl) (decide_eq_true hc8) ?_
      refine we_true (by kernel_rfl) ?_
      have hS37 := hS.bring 1 rfl
      have hS38 := hS37.bring 1 rfl
      obtain rfl := Option.some.inj h
      exact we_skip fun a hF => hQ _ _ _ (Outs.again ⟨hS38, hF.weaken ⟨by kernel_rfl, by kernel_rfl, by kernel_rfl, by kernel_rfl, by kernel_rfl, by kernel_rfl, trivial⟩⟩)
    · rw [if_neg hc8] at h
      refine we_known (t := 56) (b := decide (z3 < 0)) (v := false) (by kernel_rfl) (decide_eq_false hc8) ?_
      refine we_false (by kernel_rfl) ?_
      have hS39 := hS.bring 1 rfl
      have hS40 := hS39.bring 1 rfl
      obtain rfl := Option.some.inj h
      exact we_exit fun a hF => hQ _ _ _ (Outs.out nofun (Exits.here ⟨hS40, hF.weaken ⟨by kernel_rfl, by kernel_rfl, by kernel_rfl, by kernel_rfl, by kernel_rfl, trivial⟩⟩))
  · rw [if_neg hc7] at h
    refine ge_known (t := 53) (b := decide (z4 < (m4.length : Int))) (c := false) (by kernel_rfl) (decide_eq_false hc7) ?_
    refine ge_batch [5, 6, 7] (ans := []) (vs := [(56, .bool false), (55, undef), (54, undef)]) (l := []) (by kernel_rfl) trivial ?_
    refine ge_nil fun a hF => hK25 _ _ ?_ a hF
    refine we_false (by kernel_rfl) ?_
    have hS41 := hS.bring 1 rfl
    have hS42 := hS41.bring 1 rfl
    obtain rfl := Option.some.inj h
    exact we_exit fun a hF => hQ _ _ _ (Outs.out nofun (Exits.here ⟨hS42, hF.weaken ⟨by kernel_rfl, by kernel_rfl, by kernel_rfl, by kernel_rfl, by kernel_rfl, trivial⟩⟩))
abbrev fixed_Assign.A5 (K : Nat) (w0 : World) (l0 : List STask) (A0 : Option Addr) (c0 : Nat) (l1 : List Int) (A1 : Option Addr) (c1 : Nat) (hR0 : RdL w0 A0 l0) (hL0 : l0.length ≤ c0) (hR1 : RdL w0 A1 l1) (hL1 : l1.length ≤ c1) (b1 : Nat) (r1 : SFault) (b2 : Nat) (hc1 : r1.Code = 0) (r3 : List STask) (Z1 : Option Addr) (cz1 : Nat) (m3 : List STask) (z2 : Int) (m4 : List STask) (hc6 : z2 ≤ (m4.length : Int)) (z3 : Int) (z4 : Int) (hc9 : 0 ≤ z4) (e2 : STask) (hx4 : m4[(z4).toNat]? = some e2) (hc10 : ¬ (e2.P > 0)) : ((List STask) × Nat) → Act → World → Prop := fun (s : (List STask) × Nat) a w => ∃ (v2 : Value), St w0 w [Own.blk b1 (.cells #[.int .i64 0, .int .i64 0] 29 (0, 0)), Own.of (.slice Z1 m4.length cz1) 46 m4, Own.of v2 46 s.1] ∧ Frm 107 a [(1, .slice A1 l1.length c1), (5, .pointer (some ⟨b1, 0, none⟩)), (7, (.slice Z1 m4.length cz1)), (9, .int .i64 z2), (10, .int .i64 z3), (11, .int .i64 z4), (12, v2), (65, (.slice Z1 m4.length cz1)), (66, .int .i64 (m4.length : Int)), (67, .int .i64 (s.2 : Int))]
abbrev fixed_Assign.B5 (K : Nat) (w0 : World) (l0 : List STask) (A0 : Option Addr) (c0 : Nat) (l1 : List Int) (A1 : Option Addr) (c1 : Nat) (hR0 : RdL w0 A0 l0) (hL0 : l0.length ≤ c0) (hR1 : RdL w0 A1 l1) (hL1 : l1.length ≤ c1) (b1 : Nat) (r1 : SFault) (b2 : Nat) (hc1 : r1.Code = 0) (r3 : List STask) (Z1 : Option Addr) (cz1 : Nat) (m3 : List STask) (z2 : Int) (m4 : List STask) (hc6 : z2 ≤ (m4.length : Int)) (z3 : Int) (z4 : Int) (hc9 : 0 ≤ z4) (e2 : STask) (hx4 : m4[(z4).toNat]? = some e2) (hc10 : ¬ (e2.P > 0)) : ((List STask) ⊕ ((List STask) × SFault)) → Exit → Act → World → Prop := Exits 6 (fun (s : (List STask)) a w => ∃ (v3 : Value), St w0 w [Own.blk b1 (.cells #[.int .i64 0, .int .i64 0] 29 (0, 0)), Own.of (.slice Z1 m4.length cz1) 46 m4, Own.of v3 46 s] ∧ Frm 107 a [(1, .slice A1 l1.length c1), (5, .pointer (some ⟨b1, 0, none⟩)), (7, (.slice Z1 m4.length cz1)), (9, .int .i64 z2), (10, .int .i64 z3), (11, .int .i64 z4), (12, v3)]) (Rets Try.prog Try.f16 (fixed_Assign.Post w0))
theorem fixed_Assign_r5 (K : Nat) (w0 : World) (l0 : List STask) (A0 : Option Addr) (c0 : Nat) (l1 : List Int) (A1 : Option Addr) (c1 : Nat) (hR0 : RdL w0 A0 l0) (hL0 : l0.length ≤ c0) (hR1 : RdL w0 A1 l1) (hL1 : l1.length ≤ c1) (b1 : Nat) (r1 : SFault) (b2 : Nat) (hc1 : r1.Code = 0) (r3 : List STask) (Z1 : Option Addr) (cz1 : Nat) (m3 : List STask) (z2 : Int) (m4 : List STask) (hc6 : z2 ≤ (m4.length : Int)) (z3 : Int) (z4 : Int) (hc9 : 0 ≤ z4) (e2 : STask) (hx4 : m4[(z4).toNat]? = some e2) (hc10 : ¬ (e2.P > 0)) (s : (List STask) × Nat) (o : ((List STask) × Nat) ⊕ ((List STask) ⊕ ((List STask) × SFault))) (h : fixed_Assign.r5 m4 z4 s = some o) (a : Act) (w : World) (hA : fixed_Assign.A5 K w0 l0 A0 c0 l1 A1 c1 hR0 hL0 hR1 hL1 b1 r1 b2 hc1 r3 Z1 cz1 m3 z2 m4 hc6 z3 z4 hc9 e2 hx4 hc10 s a w) (Q : Exit → Act → World → Prop) (hQ : ∀ x a w, Outs (fixed_Assign.A5 K w0 l0 A0 c0 l1 A1 c1 hR0 hL0 hR1 hL1 b1 r1 b2 hc1 r3 Z1 cz1 m3 z2 m4 hc6 z3 z4 hc9 e2 hx4 hc10) (fixed_Assign.B5 K w0 l0 A0 c0 l1 A1 c1 hR0 hL0 hR1 hL1 b1 r1 b2 hc1 r3 Z1 cz1 m3 z2 m4 hc6 z3 z4 hc9 e2 hx4 hc10) o x a w → Q x a w) : (subF Try.f16 [1, 1, 1, 1, 1, 0, 1, 0, 0, 1, 0, 0, 1, 0, 1, 0, 0, 1, 0, 0, 1, 1, 0, 1, 0, 0]).wp Try.prog Q a w := by
  obtain ⟨m6, i1⟩ := s
  obtain ⟨v2, hS, hF⟩ := hA
  replace hS : St w0 w [Own.blk b1 (.cells #[.int .i64 0, .int .i64 0] 29 (0, 0)), Own.of (.slice Z1 m4.length cz1) 46 m4, Own.of v2 46 m6] := hS
  simp only [fixed_Assign.r5] at h
  refine (?_ : WE Try.prog 107 (subF Try.f16 [1, 1, 1, 1, 1, 0, 1, 0, 0, 1, 0, 0, 1, 0, 1, 0, 0, 1, 0, 0, 1, 1, 0, 1, 0, 0]) Q [(1, .slice A1 l1.length c1), (5, .pointer (some ⟨b1, 0, none⟩)), (7, (.slice Z1 m4.length cz1)), (9, .int .i64 z2), (10, .int .i64 z3), (11, .int .i64 z4), (12, v2), (65, (.slice Z1 m4.length cz1)), (66, .int .i64 (m4.length : Int)), (67, .int .i64 (i1 : Int))] w) a hF
  clear hF a
  refine we_seq fun K32 hK32 => ?_
  refine we_region [(0, 0)] rfl ?_
  refine ge_batch [0] (ans := []) (vs := [(68, .bool (decide ((i1 : Int) < (m4.length : Int))))]) (l := []) (by kernel_rfl) trivial ?_
  refine ge_nil fun a hF => hK32 _ _ ?_ a hF
  refine we_seq fun K33 hK33 => ?_
  by_cases hc11 : (i1 : Int) < (m4.length : Int)
  · rw [if_pos hc11] at h
    refine we_known (t := 68) (b := decide ((i1 : Int) < (m4.length : Int))) (v := true) (by kernel_rfl) (decide_eq_true hc11) ?_
    refine we_true (by kernel_rfl) ?_
    refine we_skip fun a hF => hK33 _ _ ?_ a hF
    refine we_seq fun K34 hK34 => ?_
    refine we_block ?_
    refine we_seq fun K35 hK35 => ?_
    refine we_region [(0, 0), (1, 0), (2, 0), (3, 1), (4, 0), (5, 2)] rfl ?_
    refine ge_batch [0] (ans := []) (vs := [(69, .int .i64 (i1 : Int))]) (l := []) (by kernel_rfl) trivial ?_
    rcases hx5 : m4[i1]? with _ | e3
    · rw [hx5] at h; cases h
    rw [hx5] at h
    simp only [] at h
    refine ge_index (d := 70) (ty := 0) (t := 22) (el := 46) (sz := 7) (m := m4.length) (c := cz1) (x := (.tmp 65)) (y := (.tmp 67)) (A := Z1) (k' := .i64) (j := (i1 : Int)) (jn := i1) (b0 := blkOf Z1) (o0 := offOf Z1) (by kernel_rfl) (by kernel_rfl) (by kernel_rfl) (by kernel_rfl) (by kernel_rfl) ((hS.rdAt 1 rfl).eqSome (pos_of_get hx5)) rfl (lt_of_get hx5) ?_
    refine ge_batch [2] (ans := [.val (.string e3.Name), .val (.int .i64 e3.C), .val (.int .i64 e3.T), .val (.int .i64 e3.D), .val (.int .i64 e3.J), .val (.int .i64 e3.O), .val (.int .i64 e3.P)]) (vs := [(71, .agg #[.string e3.Name, .int .i64 e3.C, .int .i64 e3.T, .int .i64 e3.D, .int .i64 e3.J, .int .i64 e3.O, .int .i64 e3.P])]) (l := [.loaded ⟨blkOf Z1, offOf Z1 + i1 * 7, none⟩ (.string e3.Name), .loaded ⟨blkOf Z1, offOf Z1 + i1 * 7 + 1, none⟩ (.int .i64 e3.C), .loaded ⟨blkOf Z1, offOf Z1 + i1 * 7 + 2, none⟩ (.int .i64 e3.T), .loaded ⟨blkOf Z1, offOf Z1 + i1 * 7 + 3, none⟩ (.int .i64 e3.D), .loaded ⟨blkOf Z1, offOf Z1 + i1 * 7 + 4, none⟩ (.int .i64 e3.J), .loaded ⟨blkOf Z1, offOf Z1 + i1 * 7 + 5, none⟩ (.int .i64 e3.O), .loaded ⟨blkOf Z1, offOf Z1 + i1 * 7 + 6, none⟩ (.int .i64 e3.P)]) (by kernel_rfl) ⟨RdL.cell (j := 0) (hS.rdAt 1 rfl) hx5 rfl, RdL.cell (j := 1) (hS.rdAt 1 rfl) hx5 rfl, RdL.cell (j := 2) (hS.rdAt 1 rfl) hx5 rfl, RdL.cell (j := 3) (hS.rdAt 1 rfl) hx5 rfl, RdL.cell (j := 4) (hS.rdAt 1 rfl) hx5 rfl, RdL.cell (j := 5) (hS.rdAt 1 rfl) hx5 rfl, RdL.cell (j := 6) (hS.rdAt 1 rfl) hx5 rfl, trivial⟩ ?_
    refine ge_new (d := some 14) (o := .cells #[.string (⟨#[]⟩), .int .i64 0, .int .i64 0, .int .i64 0, .int .i64 0, .int .i64 0, .int .i64 0] 46) (v := fun b => .pointer (some ⟨b, 0, none⟩)) hS (fun b => by kernel_rfl) fun b3 w13 hx6 hS49 => ?_
    refine ge_batch [4] (ans := []) (vs := [(13, .int .i64 (i1 : Int))]) (l := []) (by kernel_rfl) trivial ?_
    refine ge_set (b := b3) (j := 0) (cs := #[.string (⟨#[]⟩), .int .i64 0, .int .i64 0, .int .i64 0, .int .i64 0, .int .i64 0, .int .i64 0]) (t := 46) (vs := [.string e3.Name, .int .i64 e3.C, .int .i64 e3.T, .int .i64 e3.D, .int .i64 e3.J, .int .i64 e3.O, .int .i64 e3.P]) hS49 (by kernel_rfl) rfl rfl fun w14 hS50 => ?_
    have hS51 : St w0 w14 [Own.blk b3 (.cells #[.string e3.Name, .int .i64 e3.C, .int .i64 e3.T, .int .i64 e3.D, .int .i64 e3.J, .int .i64 e3.O, .int .i64 e3.P] 46 (0, 0)), Own.blk b1 (.cells #[.int .i64 0, .int .i64 0] 29 (0, 0)), Own.of (.slice Z1 m4.length cz1) 46 m4, Own.of v2 46 m6] := hS50
    refine ge_nil fun a hF => hK35 _ _ ?_ a hF
    refine we_seq fun K36 hK36 => ?_
    refine we_region [(0, 0), (1, 0), (2, 0), (3, 0), (4, 0), (5, 0), (6, 0), (7, 0)] rfl ?_
    refine ge_batch [0, 1, 2, 3] (ans := []) (vs := [(75, .bool ((i1 : Int) != z4)), (74, .bool ((i1 : Int) != z4)), (73, .int .i64 z4), (72, .int .i64 (i1 : Int))]) (l := []) (by kernel_rfl) trivial ?_
    by_cases hc12 : (i1 : Int) = z4
    · rw [if_pos hc12] at h
      refine ge_known (t := 75) (b := ((i1 : Int) != z4)) (c := false) (by kernel_rfl) (bne_eq_false_iff_eq.2 hc12) ?_
      refine ge_batch [4, 5, 6, 7] (ans := []) (vs := [(79, .bool false), (78, undef), (77, undef), (76, undef)]) (l := []) (by kernel_rfl) trivial ?_
      refine ge_nil fun a hF => hK36 _ _ ?_ a hF
      refine we_false (by kernel_rfl) ?_
      refine we_skip fun a hF => hK34 _ _ ?_ a hF
      refine we_region [(0, 0), (1, 0)] rfl ?_
      refine ge_addn (d := 84) (ty := 3) (x := (.tmp 67)) (y := (.const (.int .i64 1))) (t := 3) (t2 := 3) (k := .i64) (m := i1) (by kernel_rfl) (by kernel_rfl) (by kernel_rfl) (by have h0 := hS51.ofSmall 2 rfl; omega) ?_
      refine ge_batch [1] (ans := []) (vs := [(67, .int .i64 ((i1 + 1 : Nat) : Int))]) (l := []) (by kernel_rfl) trivial ?_
      have hS52 := hS51.bring 3 rfl
      have hS53 := hS52.bring 3 rfl
      have hS54 := hS53.bring 3 rfl
      have hS55 := hS54.takeN 3
      obtain rfl := Option.some.inj h
      exact ge_nil fun a hF => hQ _ _ _ (Outs.again ⟨v2, hS55, hF.weaken ⟨by kernel_rfl, by kernel_rfl, by kernel_rfl, by kernel_rfl, by kernel_rfl, by kernel_rfl, by kernel_rfl, by kernel_rfl, by kernel_rfl, by kernel_rfl, trivial⟩⟩)
    · rw [if_neg hc12] at h
      refine ge_known (t := 75) (b := ((i1 : Int) != z4)) (c := true) (by kernel_rfl) (bne_iff_ne.2 hc12) ?_
      refine ge_batch [4, 5, 6, 7] (ans := [.val (.int .i64 e3.P)]) (vs := [(79, .bool (e3.P == 0)), (78, .bool (e3.P == 0)), (77, .int .i64 e3.P), (76, .pointer (some ⟨b3, 6, none⟩))]) (l := [.loaded ⟨b3, 6, none⟩ (.int .i64 e3.P)]) (by kernel_rfl) ⟨hS51.cell 0 rfl rfl, trivial⟩ ?_
      refine ge_nil fun a hF => hK36 _ _ ?_ a hF
      by_cases hc13 : e3.P = 0
      · rw [if_pos hc13] at h
        refine we_known (t := 79) (b := (e3.P == 0)) (v := true) (by kernel_rfl) (beq_iff_eq.2 hc13) ?_
        refine we_true (by kernel_rfl) ?_
        refine we_region [(0, 0), (1, 0), (2, 1), (3, 2), (4, 0)] rfl ?_
        refine ge_batch [0, 1] (ans := [.val (.string e3.Name), .val (.int .i64 e3.C), .val (.int .i64 e3.T), .val (.int .i64 e3.D), .val (.int .i64 e3.J), .val (.int .i64 e3.O), .val (.int .i64 e3.P)]) (vs := [(81, .agg #[.string e3.Name, .int .i64 e3.C, .int .i64 e3.T, .int .i64 e3.D, .int .i64 e3.J, .int .i64 e3.O, .int .i64 e3.P]), (80, v2)]) (l := [.loaded ⟨b3, 0, none⟩ (.string e3.Name), .loaded ⟨b3, 1, none⟩ (.int .i64 e3.C), .loaded ⟨b3, 2, none⟩ (.int .i64 e3.T), .loaded ⟨b3, 3, none⟩ (.int .i64 e3.D), .loaded ⟨b3, 4, none⟩ (.int .i64 e3.J), .loaded ⟨b3, 5, none⟩ (.int .i64 e3.O), .loaded ⟨b3, 6, none⟩ (.int .i64 e3.P)]) (by kernel_rfl) ⟨hS51.cell 0 rfl rfl, hS51.cell 0 rfl rfl, hS51.cell 0 rfl rfl, hS51.cell 0 rfl rfl, hS51.cell 0 rfl rfl, hS51.cell 0 rfl rfl, hS51.cell 0 rfl rfl, trivial⟩ ?_
        refine ge_new (d := some 82) (o := .cells #[.string e3.Name, .int .i64 e3.C, .int .i64 e3.T, .int .i64 e3.D, .int .i64 e3.J, .int .i64 e3.O, .int .i64 e3.P] 46) (v := fun b => .slice (some ⟨b, 0, none⟩) 1 1) hS51 (fun b => by kernel_rfl) fun b4 w15 hx7 hS56 => ?_
        have hS57 := hS56.bring 4 rfl
        by_cases hc14 : m6.length < 2199023255552
        · rw [if_pos hc14] at h
          refine ge_append (α := STask) (m := 0) (d := 83) (t := 22) (el := 46) (bytes := 64) (c1 := 1) (b1 := b4) (x := (.tmp 80)) (y := (.tmp 82)) (ty := 22) (v := v2) (z := .agg #[.string (⟨#[]⟩), .int .i64 0, .int .i64 0, .int .i64 0, .int .i64 0, .int .i64 0, .int .i64 0]) (l := m6) (u := e3) (by kernel_rfl) (by kernel_rfl) (by kernel_rfl) (by kernel_rfl) (by kernel_rfl) rfl hS57 rfl (by omega) fun v4 w16 hS58 => ?_
          refine ge_batch [4] (ans := []) (vs := [(12, v4)]) (l := []) (by kernel_rfl) trivial ?_
          refine ge_nil fun a hF => hK34 _ _ ?_ a hF
          refine we_region [(0, 0), (1, 0)] rfl ?_
          refine ge_addn (d := 84) (ty := 3) (x := (.tmp 67)) (y := (.const (.int .i64 1))) (t := 3) (t2 := 3) (k := .i64) (m := i1) (by kernel_rfl) (by kernel_rfl) (by kernel_rfl) (by have h0 := hS58.ofSmall 3 rfl; omega) ?_
          refine ge_batch [1] (ans := []) (vs := [(67, .int .i64 ((i1 + 1 : Nat) : Int))]) (l := []) (by kernel_rfl) trivial ?_
          have hS59 := hS58.bring 3 rfl
          have hS60 := hS59.bring 3 rfl
          have hS61 := hS60.takeN 3
          obtain rfl := Option.some.inj h
          exact ge_nil fun a hF => hQ _ _ _ (Outs.again ⟨v4, hS61, hF.weaken ⟨by kernel_rfl, by kernel_rfl, by kernel_rfl, by kernel_rfl, by kernel_rfl, by kernel_rfl, by kernel_rfl, by kernel_rfl, by kernel_rfl, by kernel_rfl, trivial⟩⟩)
        · rw [if_neg hc14] at h
          cases h
      · rw [if_neg hc13] at h
        refine we_known (t := 79) (b := (e3.P == 0)) (v := false) (by kernel_rfl) (beq_eq_false_iff_ne.2 hc13) ?_
        refine we_false (by kernel_rfl) ?_
        refine we_skip fun a hF => hK34 _ _ ?_ a hF
        refine we_region [(0, 0), (1, 0)] rfl ?_
        refine ge_addn (d := 84) (ty := 3) (x := (.tmp 67)) (y := (.const (.int .i64 1))) (t := 3) (t2 := 3) (k := .i64) (m := i1) (by kernel_rfl) (by kernel_rfl) (by kernel_rfl) (by have h0 := hS51.ofSmall 2 rfl; omega) ?_
        refine ge_batch [1] (ans := []) (vs := [(67, .int .i64 ((i1 + 1 : Nat) : Int))]) (l := []) (by kernel_rfl) trivial ?_
        have hS62 := hS51.bring 3 rfl
        have hS63 := hS62.bring 3 rfl
        have hS64 := hS63.bring 3 rfl
        have hS65 := hS64.takeN 3
        obtain rfl := Option.some.inj h
        exact ge_nil fun a hF => hQ _ _ _ (Outs.again ⟨v2, hS65, hF.weaken ⟨by kernel_rfl, by kernel_rfl, by kernel_rfl, by kernel_rfl, by kernel_rfl, by kernel_rfl, by kernel_rfl, by kernel_rfl, by kernel_rfl, by kernel_rfl, trivial⟩⟩)
  · rw [if_neg hc11] at h
    refine we_known (t := 68) (b := decide ((i1 : Int) < (m4.length : Int))) (v := false) (by kernel_rfl) (decide_eq_false hc11) ?_
    refine we_false (by kernel_rfl) ?_
    have hS66 := hS.bring 2 rfl
    have hS67 := hS66.bring 2 rfl
    have hS68 := hS67.bring 2 rfl
    obtain rfl := Option.some.inj h
    exact we_exit fun a hF => hQ _ _ _ (Outs.out nofun (Exits.here ⟨v2, hS68, hF.weaken ⟨by kernel_rfl, by kernel_rfl, by kernel_rfl, by kernel_rfl, by kernel_rfl, by kernel_rfl, by kernel_rfl, trivial⟩⟩))
abbrev fixed_Assign.A3 (K : Nat) (w0 : World) (l0 : List STask) (A0 : Option Addr) (c0 : Nat) (l1 : List Int) (A1 : Option Addr) (c1 : Nat) (hR0 : RdL w0 A0 l0) (hL0 : l0.length ≤ c0) (hR1 : RdL w0 A1 l1) (hL1 : l1.length ≤ c1) (b1 : Nat) (r1 : SFault) (b2 : Nat) (hc1 : r1.Code = 0) (r3 : List STask) (Z1 : Option Addr) (cz1 : Nat) (m3 : List STask) (z2 : Int) (m4 : List STask) (hc6 : z2 ≤ (m4.length : Int)) : (Int × Int) → Act → World → Prop := fun (s : Int × Int) a w => St w0 w [Own.blk b1 (.cells #[.int .i64 0, .int .i64 0] 29 (0, 0)), Own.of (.slice Z1 m4.length cz1) 46 m4] ∧ Frm 107 a [(1, .slice A1 l1.length c1), (5, .pointer (some ⟨b1, 0, none⟩)), (7, (.slice Z1 m4.length cz1)), (9, .int .i64 z2), (10, .int .i64 s.1), (11, .int .i64 s.2)]
abbrev fixed_Assign.B3 (K : Nat) (w0 : World) (l0 : List STask) (A0 : Option Addr) (c0 : Nat) (l1 : List Int) (A1 : Option Addr) (c1 : Nat) (hR0 : RdL w0 A0 l0) (hL0 : l0.length ≤ c0) (hR1 : RdL w0 A1 l1) (hL1 : l1.length ≤ c1) (b1 : Nat) (r1 : SFault) (b2 : Nat) (hc1 : r1.Code = 0) (r3 : List STask) (Z1 : Option Addr) (cz1 : Nat) (m3 : List STask) (z2 : Int) (m4 : List STask) (hc6 : z2 ≤ (m4.length : Int)) : (Int ⊕ ((List STask) × SFault)) → Exit → Act → World → Prop := Exits 4 (fun (s : Int) a w => St w0 w [Own.blk b1 (.cells #[.int .i64 0, .int .i64 0] 29 (0, 0)), Own.of (.slice Z1 m4.length cz1) 46 m4] ∧ Frm 107 a [(1, .slice A1 l1.length c1), (5, .pointer (some ⟨b1, 0, none⟩)), (7, (.slice Z1 m4.length cz1)), (9, .int .i64 z2), (10, .int .i64 s)]) (Rets Try.prog Try.f16 (fixed_Assign.Post w0))
theorem fixed_Assign_r3 (K : Nat) (w0 : World) (l0 : List STask) (A0 : Option Addr) (c0 : Nat) (l1 : List Int) (A1 : Option Addr) (c1 : Nat) (hR0 : RdL w0 A0 l0) (hL0 : l0.length ≤ c0) (hR1 : RdL w0 A1 l1) (hL1 : l1.length ≤ c1) (b1 : Nat) (r1 : SFault) (b2 : Nat) (hc1 : r1.Code = 0) (r3 : List STask) (Z1 : Option Addr) (cz1 : Nat) (m3 : List STask) (z2 : Int) (m4 : List STask) (hc6 : z2 ≤ (m4.length : Int)) (s : Int × Int) (o : (Int × Int) ⊕ (Int ⊕ ((List STask) × SFault))) (h : fixed_Assign.r3 K l1 m4 s = some o) (a : Act) (w : World) (hA : fixed_Assign.A3 K w0 l0 A0 c0 l1 A1 c1 hR0 hL0 hR1 hL1 b1 r1 b2 hc1 r3 Z1 cz1 m3 z2 m4 hc6 s a w) (Q : Exit → Act → World → Prop) (hQ : ∀ x a w, Outs (fixed_Assign.A3 K w0 l0 A0 c0 l1 A1 c1 hR0 hL0 hR1 hL1 b1 r1 b2 hc1 r3 Z1 cz1 m3 z2 m4 hc6) (fixed_Assign.B3 K w0 l0 A0 c0 l1 A1 c1 hR0 hL0 hR1 hL1 b1 r1 b2 hc1 r3 Z1 cz1 m3 z2 m4 hc6) o x a w → Q x a w) : (subF Try.f16 [1, 1, 1, 1, 1, 0, 1, 0, 0, 1, 0, 0, 1, 0, 1, 0, 0]).wp Try.prog Q a w := by
  obtain ⟨z3, z4⟩ := s
  obtain ⟨hS, hF⟩ := hA
  replace hS : St w0 w [Own.blk b1 (.cells #[.int .i64 0, .int .i64 0] 29 (0, 0)), Own.of (.slice Z1 m4.length cz1) 46 m4] := hS
  simp only [fixed_Assign.r3] at h
  refine (?_ : WE Try.prog 107 (subF Try.f16 [1, 1, 1, 1, 1, 0, 1, 0, 0, 1, 0, 0, 1, 0, 1, 0, 0]) Q [(1, .slice A1 l1.length c1), (5, .pointer (some ⟨b1, 0, none⟩)), (7, (.slice Z1 m4.length cz1)), (9, .int .i64 z2), (10, .int .i64 z3), (11, .int .i64 z4)] w) a hF
  clear hF a
  refine we_seq fun K24 hK24 => ?_
  rcases hq6 : fixed_Assign.p4 m4 z3 z4 with _ | (_ | (_ | rr2))
  · rw [hq6] at h; cases h
  · rw [hq6] at h
    simp only [] at h
    refine we_keep (e' := [(1, .slice A1 l1.length c1), (5, .pointer (some ⟨b1, 0, none⟩)), (7, (.slice Z1 m4.length cz1)), (9, .int .i64 z2), (10, .int .i64 z3), (11, .int .i64 z4)]) ⟨by kernel_rfl, by kernel_rfl, by kernel_rfl, by kernel_rfl, by kernel_rfl, by kernel_rfl, trivial⟩ (fixed_Assign_p4 K w0 l0 A0 c0 l1 A1 c1 hR0 hL0 hR1 hL1 b1 r1 b2 hc1 r3 Z1 cz1 m3 z2 m4 hc6 z3 z4 _ hq6 _ hS _ ?_)
    rintro _ a w12 ⟨rfl, hS43, hF⟩
    replace hS43 : St w0 w12 [Own.blk b1 (.cells #[.int .i64 0, .int .i64 0] 29 (0, 0)), Own.of (.slice Z1 m4.length cz1) 46 m4] := hS43
    refine hK24 [(1, .slice A1 l1.length c1), (5, .pointer (some ⟨b1, 0, none⟩)), (7, (.slice Z1 m4.length cz1)), (9, .int .i64 z2), (10, .int .i64 z3), (11, .int .i64 z4)] w12 ?_ a hF
    refine we_seq fun K26 hK26 => ?_
    refine we_block ?_
    refine we_seq fun K27 hK27 => ?_
    refine we_seq fun K28 hK28 => ?_
    refine we_region [(0, 0), (1, 0), (2, 0), (3, 0), (4, 0), (5, 0)] rfl ?_
    refine ge_batch [0, 1] (ans := []) (vs := [(60, .int .i64 z4), (59, (.slice Z1 m4.length cz1))]) (l := []) (by kernel_rfl) trivial ?_
    by_cases hc9 : 0 ≤ z4
    · rw [if_pos hc9] at h
      rcases hx4 : m4[(z4).toNat]? with _ | e2
      · rw [hx4] at h; cases h
      rw [hx4] at h
      simp only [] at h
      refine ge_index (d := 61) (ty := 0) (t := 22) (el := 46) (sz := 7) (m := m4.length) (c := cz1) (x := (.tmp 59)) (y := (.tmp 60)) (A := Z1) (k' := .i64) (j := z4) (jn := ((z4).toNat)) (b0 := blkOf Z1) (o0 := offOf Z1) (by kernel_rfl) (by kernel_rfl) (by kernel_rfl) (by kernel_rfl) (by kernel_rfl) ((hS43.rdAt 1 rfl).eqSome (pos_of_get hx4)) (Int.toNat_of_nonneg hc9).symm (lt_of_get hx4) ?_
      refine ge_batch [3, 4, 5] (ans := [.val (.int .i64 e2.P)]) (vs := [(64, .bool (decide (e2.P > 0))), (63, .int .i64 e2.P), (62, .pointer (some ⟨blkOf Z1, offOf Z1 + (z4).toNat * 7 + 6, none⟩))]) (l := [.loaded ⟨blkOf Z1, offOf Z1 + ((z4).toNat) * 7 + 6, none⟩ (.int .i64 e2.P)]) (by kernel_rfl) ⟨RdL.cell (j := 6) (hS43.rdAt 1 rfl) hx4 rfl, trivial⟩ ?_
      refine ge_nil fun a hF => hK28 _ _ ?_ a hF
      by_cases hc10 : e2.P > 0
      · rw [if_pos hc10] at h
        refine we_known (t := 64) (b := decide (e2.P > 0)) (v := true) (by kernel_rfl) (decide_eq_true hc10) ?_
        refine we_true (by kernel_rfl) ?_
        refine we_exit fun a hF => hK26 _ _ ?_ a hF
        refine we_region [(0, 0), (1, 0), (2, 0)] rfl ?_
        refine ge_batch [0, 1, 2] (ans := []) (vs := [(11, .int .i64 (IntKind.i64.wrap (z4 + 1))), (58, .int .i64 (IntKind.i64.wrap (z4 + 1))), (57, .int .i64 z4)]) (l := []) (by kernel_rfl) trivial ?_
        have hS44 := hS43.bring 1 rfl
        have hS45 := hS44.bring 1 rfl
        obtain rfl := Option.some.inj h
        exact ge_nil fun a hF => hQ _ _ _ (Outs.again ⟨hS45, hF.weaken ⟨by kernel_rfl, by kernel_rfl, by kernel_rfl, by kernel_rfl, by kernel_rfl, by kernel_rfl, trivial⟩⟩)
      · rw [if_neg hc10] at h
        refine we_known (t := 64) (b := decide (e2.P > 0)) (v := false) (by kernel_rfl) (decide_eq_false hc10) ?_
        refine we_false (by kernel_rfl) ?_
        refine we_skip fun a hF => hK27 _ _ ?_ a hF
        refine we_seq fun K29 hK29 => ?_
        refine we_region [(0, 0)] rfl ?_
        refine ge_batch [0] (ans := []) (vs := [(12, .slice none 0 0)]) (l := []) (by kernel_rfl) trivial ?_
        refine ge_nil fun a hF => hK29 _ _ ?_ a hF
        refine we_seq fun K30 hK30 => ?_
        refine we_seq fun K31 hK31 => ?_
        refine we_region [(0, 0), (1, 0), (2, 0)] rfl ?_
        refine ge_batch [0, 1, 2] (ans := []) (vs := [(67, .int .i64 0), (66, .int .i64 (m4.length : Int)), (65, (.slice Z1 m4.length cz1))]) (l := []) (by kernel_rfl) trivial ?_
        refine ge_nil fun a hF => hK31 _ _ ?_ a hF
        refine we_block ?_
        have hS46 := hS43.nil (α := STask) 46
        have hS47 := hS46.bring 2 rfl
        have hS48 := hS47.bring 2 rfl
        rcases hq7 : iter (fixed_Assign.r5 m4 z4) K (([] : List STask), 0) with _ | (m8 | rr1)
        · rw [hq7] at h; cases h
        · rw [hq7] at h
          simp only [] at h
          refine we_iter (A := fixed_Assign.A5 K w0 l0 A0 c0 l1 A1 c1 hR0 hL0 hR1 hL1 b1 r1 b2 hc1 r3 Z1 cz1 m3 z2 m4 hc6 z3 z4 hc9 e2 hx4 hc10) (B := fixed_Assign.B5 K w0 l0 A0 c0 l1 A1 c1 hR0 hL0 hR1 hL1 b1 r1 b2 hc1 r3 Z1 cz1 m3 z2 m4 hc6 z3 z4 hc9 e2 hx4 hc10) hq7 (fun a hF => ⟨(.slice none 0 0), hS48, hF.weaken ⟨by kernel_rfl, by kernel_rfl, by kernel_rfl, by kernel_rfl, by kernel_rfl, by kernel_rfl, by kernel_rfl, by kernel_rfl, by kernel_rfl, by kernel_rfl, trivial⟩⟩) (fun s o hf a w hA Q hQ => fixed_Assign_r5 K w0 l0 A0 c0 l1 A1 c1 hR0 hL0 hR1 hL1 b1 r1 b2 hc1 r3 Z1 cz1 m3 z2 m4 hc6 z3 z4 hc9 e2 hx4 hc10 s o hf a w hA Q hQ) ?_
          rintro _ a w17 _ ⟨rfl, v5, hS69, hF⟩
          replace hS69 : St w0 w17 [Own.blk b1 (.cells #[.int .i64 0, .int .i64 0] 29 (0, 0)), Own.of (.slice Z1 m4.length cz1) 46 m4, Own.of v5 46 m8] := hS69
          refine hK30 [(1, .slice A1 l1.length c1), (5, .pointer (some ⟨b1, 0, none⟩)), (7, (.slice Z1 m4.length cz1)), (9, .int .i64 z2), (10, .int .i64 z3), (11, .int .i64 z4), (12, v5)] w17 ?_ a hF
          refine we_seq fun K37 hK37 => ?_
          refine we_draws (by kernel_rfl) [(0, 0), (1, 0), (2, 0), (3, 0), (4, 0), (5, 0), (6, 0), (7, 0), (8, 0), (9, 1), (10, 0)] (by kernel_rfl) ?_
          have hS70 := hS69.drew
          refine ge_batch [0, 1] (ans := []) (vs := [(86, .int .i64 z4), (85, (.slice Z1 m4.length cz1))]) (l := []) (by kernel_rfl) trivial ?_
          refine ge_index (d := 87) (ty := 0) (t := 22) (el := 46) (sz := 7) (m := m4.length) (c := cz1) (x := (.tmp 85)) (y := (.tmp 86)) (A := Z1) (k' := .i64) (j := z4) (jn := ((z4).toNat)) (b0 := blkOf Z1) (o0 := offOf Z1) (by kernel_rfl) (by kernel_rfl) (by kernel_rfl) (by kernel_rfl) (by kernel_rfl) ((hS70.rdAt 1 rfl).eqSome (pos_of_get hx4)) (Int.toNat_of_nonneg hc9).symm (lt_of_get hx4) ?_
          refine ge_batch [3, 4, 5, 6] (ans := [.val (.string e2.Name), .val (.int .i64 e2.C), .val (.int .i64 e2.T), .val (.int .i64 e2.D), .val (.int .i64 e2.J), .val (.int .i64 e2.O), .val (.int .i64 e2.P)]) (vs := [(91, .int .i64 z4), (90, .slice A1 l1.length c1), (89, v5), (88, .agg #[.string e2.Name, .int .i64 e2.C, .int .i64 e2.T, .int .i64 e2.D, .int .i64 e2.J, .int .i64 e2.O, .int .i64 e2.P])]) (l := [.loaded ⟨blkOf Z1, offOf Z1 + ((z4).toNat) * 7, none⟩ (.string e2.Name), .loaded ⟨blkOf Z1, offOf Z1 + ((z4).toNat) * 7 + 1, none⟩ (.int .i64 e2.C), .loaded ⟨blkOf Z1, offOf Z1 + ((z4).toNat) * 7 + 2, none⟩ (.int .i64 e2.T), .loaded ⟨blkOf Z1, offOf Z1 + ((z4).toNat) * 7 + 3, none⟩ (.int .i64 e2.D), .loaded ⟨blkOf Z1, offOf Z1 + ((z4).toNat) * 7 + 4, none⟩ (.int .i64 e2.J), .loaded ⟨blkOf Z1, offOf Z1 + ((z4).toNat) * 7 + 5, none⟩ (.int .i64 e2.O), .loaded ⟨blkOf Z1, offOf Z1 + ((z4).toNat) * 7 + 6, none⟩ (.int .i64 e2.P)]) (by kernel_rfl) ⟨RdL.cell (j := 0) (hS70.rdAt 1 rfl) hx4 rfl, RdL.cell (j := 1) (hS70.rdAt 1 rfl) hx4 rfl, RdL.cell (j := 2) (hS70.rdAt 1 rfl) hx4 rfl, RdL.cell (j := 3) (hS70.rdAt 1 rfl) hx4 rfl, RdL.cell (j := 4) (hS70.rdAt 1 rfl) hx4 rfl, RdL.cell (j := 5) (hS70.rdAt 1 rfl) hx4 rfl, RdL.cell (j := 6) (hS70.rdAt 1 rfl) hx4 rfl, trivial⟩ ?_
          rcases hx8 : l1[(z4).toNat]? with _ | e4
          · rw [hx8] at h; cases h
          rw [hx8] at h
          simp only [] at h
          refine ge_index (d := 92) (ty := 0) (t := 24) (el := 3) (sz := 1) (m := l1.length) (c := c1) (x := (.tmp 90)) (y := (.tmp 91)) (A := A1) (k' := .i64) (j := z4) (jn := ((z4).toNat)) (b0 := blkOf A1) (o0 := offOf A1) (by kernel_rfl) (by kernel_rfl) (by kernel_rfl) (by kernel_rfl) (by kernel_rfl) ((hS70.rd hR1).eqSome (pos_of_get hx8)) (Int.toNat_of_nonneg hc9).symm (lt_of_get hx8) ?_
          refine ge_batch [8] (ans := [.val (.int .i64 e4)]) (vs := [(93, .int .i64 e4)]) (l := [.loaded ⟨blkOf A1, offOf A1 + ((z4).toNat) * 1, none⟩ (.int .i64 e4)]) (by kernel_rfl) ⟨RdL.cell (j := 0) (hS70.rd hR1) hx8 rfl, trivial⟩ ?_
          obtain ⟨Z2, cz2, rfl⟩ := hS70.open 2 rfl
          rcases hq8 : fixed_response.f K e2 m8 e4 with _ | r4
          · rw [hq8] at h; cases h
          rw [hq8] at h
          simp only [] at h
          refine ge_call (d := some 94) (f := 34) (args := #[.agg #[.string e2.Name, .int .i64 e2.C, .int .i64 e2.T, .int .i64 e2.D, .int .i64 e2.J, .int .i64 e2.O, .int .i64 e2.P], (.slice Z2 m8.length cz2), .int .i64 e4]) (by kernel_rfl) (fixed_response_ok K e2 m8 Z2 cz2 e4 _ (hS70.rdAt 2 rfl) (hS70.capAt 2 rfl) _ hq8) ?_
          rintro _ w18 ⟨rfl, hS71⟩
          refine ⟨_, rfl, hS71.below, ?_⟩
          have hS72 := hS70.call hS71
          refine ge_batch [10] (ans := []) (vs := [(95, .bool (decide (r4 > 0)))]) (l := []) (by kernel_rfl) trivial ?_
          refine ge_nil fun a hF => hK37 _ _ ?_ a hF
          by_cases hc15 : r4 > 0
          · rw [if_pos hc15] at h
            refine we_known (t := 95) (b := decide (r4 > 0)) (v := true) (by kernel_rfl) (decide_eq_true hc15) ?_
            refine we_true (by kernel_rfl) ?_
            refine we_region [(0, 0), (1, 0)] rfl ?_
            refine ge_batch [0, 1] (ans := []) (vs := [(10, .int .i64 z4), (96, .int .i64 z4)]) (l := []) (by kernel_rfl) trivial ?_
            refine ge_nil fun a hF => hK26 _ _ ?_ a hF
            refine we_region [(0, 0), (1, 0), (2, 0)] rfl ?_
            refine ge_batch [0, 1, 2] (ans := []) (vs := [(11, .int .i64 (IntKind.i64.wrap (z4 + 1))), (58, .int .i64 (IntKind.i64.wrap (z4 + 1))), (57, .int .i64 z4)]) (l := []) (by kernel_rfl) trivial ?_
            have hS73 := hS72.bring 1 rfl
            have hS74 := hS73.bring 1 rfl
            have hS75 := hS74.takeN 2
            obtain rfl := Option.some.inj h
            exact ge_nil fun a hF => hQ _ _ _ (Outs.again ⟨hS75, hF.weaken ⟨by kernel_rfl, by kernel_rfl, by kernel_rfl, by kernel_rfl, by kernel_rfl, by kernel_rfl, trivial⟩⟩)
          · rw [if_neg hc15] at h
            refine we_known (t := 95) (b := decide (r4 > 0)) (v := false) (by kernel_rfl) (decide_eq_false hc15) ?_
            refine we_false (by kernel_rfl) ?_
            refine we_skip fun a hF => hK26 _ _ ?_ a hF
            refine we_region [(0, 0), (1, 0), (2, 0)] rfl ?_
            refine ge_batch [0, 1, 2] (ans := []) (vs := [(11, .int .i64 (IntKind.i64.wrap (z4 + 1))), (58, .int .i64 (IntKind.i64.wrap (z4 + 1))), (57, .int .i64 z4)]) (l := []) (by kernel_rfl) trivial ?_
            have hS76 := hS72.bring 1 rfl
            have hS77 := hS76.bring 1 rfl
            have hS78 := hS77.takeN 2
            obtain rfl := Option.some.inj h
            exact ge_nil fun a hF => hQ _ _ _ (Outs.again ⟨hS78, hF.weaken ⟨by kernel_rfl, by kernel_rfl, by kernel_rfl, by kernel_rfl, by kernel_rfl, by kernel_rfl, trivial⟩⟩)
        · rw [hq7] at h
          simp only [] at h
          refine we_iter (A := fixed_Assign.A5 K w0 l0 A0 c0 l1 A1 c1 hR0 hL0 hR1 hL1 b1 r1 b2 hc1 r3 Z1 cz1 m3 z2 m4 hc6 z3 z4 hc9 e2 hx4 hc10) (B := fixed_Assign.B5 K w0 l0 A0 c0 l1 A1 c1 hR0 hL0 hR1 hL1 b1 r1 b2 hc1 r3 Z1 cz1 m3 z2 m4 hc6 z3 z4 hc9 e2 hx4 hc10) hq7 (fun a hF => ⟨(.slice none 0 0), hS48, hF.weaken ⟨by kernel_rfl, by kernel_rfl, by kernel_rfl, by kernel_rfl, by kernel_rfl, by kernel_rfl, by kernel_rfl, by kernel_rfl, by kernel_rfl, by kernel_rfl, trivial⟩⟩) (fun s o hf a w hA Q hQ => fixed_Assign_r5 K w0 l0 A0 c0 l1 A1 c1 hR0 hL0 hR1 hL1 b1 r1 b2 hc1 r3 Z1 cz1 m3 z2 m4 hc6 z3 z4 hc9 e2 hx4 hc10 s o hf a w hA Q hQ) ?_
          rintro _ a w1 _ ⟨rfl, hb⟩
          obtain rfl := Option.some.inj h
          exact hQ _ _ _ (Outs.out nofun (Exits.on ⟨rfl, hb⟩))
    · rw [if_neg hc9] at h
      cases h
  · rw [hq6] at h
    simp only [] at h
    refine we_keep (e' := [(1, .slice A1 l1.length c1), (5, .pointer (some ⟨b1, 0, none⟩)), (7, (.slice Z1 m4.length cz1)), (9, .int .i64 z2), (10, .int .i64 z3), (11, .int .i64 z4)]) ⟨by kernel_rfl, by kernel_rfl, by kernel_rfl, by kernel_rfl, by kernel_rfl, by kernel_rfl, trivial⟩ (fixed_Assign_p4 K w0 l0 A0 c0 l1 A1 c1 hR0 hL0 hR1 hL1 b1 r1 b2 hc1 r3 Z1 cz1 m3 z2 m4 hc6 z3 z4 _ hq6 _ hS _ ?_)
    rintro _ a w19 ⟨_, rfl, hS79, hF⟩
    replace hS79 : St w0 w19 [Own.blk b1 (.cells #[.int .i64 0, .int .i64 0] 29 (0, 0)), Own.of (.slice Z1 m4.length cz1) 46 m4] := hS79
    have hS80 := hS79.bring 1 rfl
    have hS81 := hS80.bring 1 rfl
    obtain rfl := Option.some.inj h
    exact hQ _ _ _ (Outs.out nofun (Exits.here ⟨hS81, hF.weaken ⟨by kernel_rfl, by kernel_rfl, by kernel_rfl, by kernel_rfl, by kernel_rfl, trivial⟩⟩))
  · rw [hq6] at h
    simp only [] at h
    refine we_keep (e' := [(1, .slice A1 l1.length c1), (5, .pointer (some ⟨b1, 0, none⟩)), (7, (.slice Z1 m4.length cz1)), (9, .int .i64 z2), (10, .int .i64 z3), (11, .int .i64 z4)]) ⟨by kernel_rfl, by kernel_rfl, by kernel_rfl, by kernel_rfl, by kernel_rfl, by kernel_rfl, trivial⟩ (fixed_Assign_p4 K w0 l0 A0 c0 l1 A1 c1 hR0 hL0 hR1 hL1 b1 r1 b2 hc1 r3 Z1 cz1 m3 z2 m4 hc6 z3 z4 _ hq6 _ hS _ ?_)
    rintro _ a w1 ⟨_, rfl, hb⟩
    obtain rfl := Option.some.inj h
    exact hQ _ _ _ (Outs.out nofun (Exits.on ⟨rfl, hb⟩))
abbrev fixed_Assign.A2 (K : Nat) (w0 : World) (l0 : List STask) (A0 : Option Addr) (c0 : Nat) (l1 : List Int) (A1 : Option Addr) (c1 : Nat) (hR0 : RdL w0 A0 l0) (hL0 : l0.length ≤ c0) (hR1 : RdL w0 A1 l1) (hL1 : l1.length ≤ c1) (b1 : Nat) (r1 : SFault) (b2 : Nat) (hc1 : r1.Code = 0) (r3 : List STask) (Z1 : Option Addr) (cz1 : Nat) (m3 : List STask) : (Int × (List STask)) → Act → World → Prop := fun (s : Int × (List STask)) a w => St w0 w [Own.blk b1 (.cells #[.int .i64 0, .int .i64 0] 29 (0, 0)), Own.of (.slice Z1 s.2.length cz1) 46 s.2] ∧ Frm 107 a [(1, .slice A1 l1.length c1), (5, .pointer (some ⟨b1, 0, none⟩)), (7, (.slice Z1 s.2.length cz1)), (9, .int .i64 s.1)]
abbrev fixed_Assign.B2 (K : Nat) (w0 : World) (l0 : List STask) (A0 : Option Addr) (c0 : Nat) (l1 : List Int) (A1 : Option Addr) (c1 : Nat) (hR0 : RdL w0 A0 l0) (hL0 : l0.length ≤ c0) (hR1 : RdL w0 A1 l1) (hL1 : l1.length ≤ c1) (b1 : Nat) (r1 : SFault) (b2 : Nat) (hc1 : r1.Code = 0) (r3 : List STask) (Z1 : Option Addr) (cz1 : Nat) (m3 : List STask) : ((List STask) ⊕ ((List STask) × SFault)) → Exit → Act → World → Prop := Exits 2 (fun (s : (List STask)) a w => St w0 w [Own.blk b1 (.cells #[.int .i64 0, .int .i64 0] 29 (0, 0)), Own.of (.slice Z1 s.length cz1) 46 s] ∧ Frm 107 a [(5, .pointer (some ⟨b1, 0, none⟩)), (7, (.slice Z1 s.length cz1))]) (Rets Try.prog Try.f16 (fixed_Assign.Post w0))
theorem fixed_Assign_r2 (K : Nat) (w0 : World) (l0 : List STask) (A0 : Option Addr) (c0 : Nat) (l1 : List Int) (A1 : Option Addr) (c1 : Nat) (hR0 : RdL w0 A0 l0) (hL0 : l0.length ≤ c0) (hR1 : RdL w0 A1 l1) (hL1 : l1.length ≤ c1) (b1 : Nat) (r1 : SFault) (b2 : Nat) (hc1 : r1.Code = 0) (r3 : List STask) (Z1 : Option Addr) (cz1 : Nat) (m3 : List STask) (s : Int × (List STask)) (o : (Int × (List STask)) ⊕ ((List STask) ⊕ ((List STask) × SFault))) (h : fixed_Assign.r2 K l1 r3 s = some o) (a : Act) (w : World) (hA : fixed_Assign.A2 K w0 l0 A0 c0 l1 A1 c1 hR0 hL0 hR1 hL1 b1 r1 b2 hc1 r3 Z1 cz1 m3 s a w) (Q : Exit → Act → World → Prop) (hQ : ∀ x a w, Outs (fixed_Assign.A2 K w0 l0 A0 c0 l1 A1 c1 hR0 hL0 hR1 hL1 b1 r1 b2 hc1 r3 Z1 cz1 m3) (fixed_Assign.B2 K w0 l0 A0 c0 l1 A1 c1 hR0 hL0 hR1 hL1 b1 r1 b2 hc1 r3 Z1 cz1 m3) o x a w → Q x a w) : (subF Try.f16 [1, 1, 1, 1, 1, 0, 1, 0, 0]).wp Try.prog Q a w := by
  obtain ⟨z2, m4⟩ := s
  obtain ⟨hS, hF⟩ := hA
  replace hS : St w0 w [Own.blk b1 (.cells #[.int .i64 0, .int .i64 0] 29 (0, 0)), Own.of (.slice Z1 m4.length cz1) 46 m4] := hS
  simp only [fixed_Assign.r2] at h
  refine (?_ : WE Try.prog 107 (subF Try.f16 [1, 1, 1, 1, 1, 0, 1, 0, 0]) Q [(1, .slice A1 l1.length c1), (5, .pointer (some ⟨b1, 0, none⟩)), (7, (.slice Z1 m4.length cz1)), (9, .int .i64 z2)] w) a hF
  clear hF a
  refine we_seq fun K18 hK18 => ?_
  refine we_seq fun K19 hK19 => ?_
  refine we_region [(0, 0), (1, 0), (2, 0), (3, 0)] rfl ?_
  refine ge_batch [0, 1, 2, 3] (ans := []) (vs := [(46, .bool (decide (z2 ≤ (m4.length : Int)))), (45, .int .i64 (m4.length : Int)), (44, (.slice Z1 m4.length cz1)), (43, .int .i64 z2)]) (l := []) (by kernel_rfl) trivial ?_
  refine ge_nil fun a hF => hK19 _ _ ?_ a hF
  by_cases hc6 : z2 ≤ (m4.length : Int)
  · rw [if_pos hc6] at h
    refine we_known (t := 46) (b := decide (z2 ≤ (m4.length : Int))) (v := true) (by kernel_rfl) (decide_eq_true hc6) ?_
    refine we_true (by kernel_rfl) ?_
    refine we_skip fun a hF => hK18 _ _ ?_ a hF
    refine we_seq fun K20 hK20 => ?_
    refine we_block ?_
    refine we_seq fun K21 hK21 => ?_
    refine we_region [(0, 0)] rfl ?_
    refine ge_batch [0] (ans := []) (vs := [(10, .int .i64 (-1))]) (l := []) (by kernel_rfl) trivial ?_
    refine ge_nil fun a hF => hK21 _ _ ?_ a hF
    refine we_seq fun K22 hK22 => ?_
    refine we_seq fun K23 hK23 => ?_
    refine we_region [(0, 0)] rfl ?_
    refine ge_batch [0] (ans := []) (vs := [(11, .int .i64 0)]) (l := []) (by kernel_rfl) trivial ?_
    refine ge_nil fun a hF => hK23 _ _ ?_ a hF
    refine we_block ?_
    have hS35 := hS.bring 1 rfl
    have hS36 := hS35.bring 1 rfl
    rcases hq9 : iter (fixed_Assign.r3 K l1 m4) K ((-1), 0) with _ | (z6 | rr3)
    · rw [hq9] at h; cases h
    · rw [hq9] at h
      simp only [] at h
      refine we_iter (A := fixed_Assign.A3 K w0 l0 A0 c0 l1 A1 c1 hR0 hL0 hR1 hL1 b1 r1 b2 hc1 r3 Z1 cz1 m3 z2 m4 hc6) (B := fixed_Assign.B3 K w0 l0 A0 c0 l1 A1 c1 hR0 hL0 hR1 hL1 b1 r1 b2 hc1 r3 Z1 cz1 m3 z2 m4 hc6) hq9 (fun a hF => ⟨hS36, hF.weaken ⟨by kernel_rfl, by kernel_rfl, by kernel_rfl, by kernel_rfl, by kernel_rfl, by kernel_rfl, trivial⟩⟩) (fun s o hf a w hA Q hQ => fixed_Assign_r3 K w0 l0 A0 c0 l1 A1 c1 hR0 hL0 hR1 hL1 b1 r1 b2 hc1 r3 Z1 cz1 m3 z2 m4 hc6 s o hf a w hA Q hQ) ?_
      rintro _ a w20 _ ⟨rfl, hS82, hF⟩
      replace hS82 : St w0 w20 [Own.blk b1 (.cells #[.int .i64 0, .int .i64 0] 29 (0, 0)), Own.of (.slice Z1 m4.length cz1) 46 m4] := hS82
      refine hK22 [(1, .slice A1 l1.length c1), (5, .pointer (some ⟨b1, 0, none⟩)), (7, (.slice Z1 m4.length cz1)), (9, .int .i64 z2), (10, .int .i64 z6)] w20 ?_ a hF
      refine we_seq fun K38 hK38 => ?_
      refine we_seq fun K39 hK39 => ?_
      refine we_region [(0, 0), (1, 0)] rfl ?_
      refine ge_batch [0, 1] (ans := []) (vs := [(98, .bool (decide (z6 < 0))), (97, .int .i64 z6)]) (l := []) (by kernel_rfl) trivial ?_
      refine ge_nil fun a hF => hK39 _ _ ?_ a hF
      by_cases hc16 : z6 < 0
      · rw [if_pos hc16] at h
        refine we_known (t := 98) (b := decide (z6 < 0)) (v := true) (by kernel_rfl) (decide_eq_true hc16) ?_
        refine we_true (by kernel_rfl) ?_
        refine we_seq fun K40 hK40 => ?_
        refine we_region [(0, 0), (1, 0), (2, 2)] rfl ?_
        refine ge_batch [0, 1] (ans := []) (vs := [(4, .slice none 0 0), (99, .agg #[.int .i64 13, .int .i64 0])]) (l := []) (by kernel_rfl) trivial ?_
        refine ge_set (b := b1) (j := 0) (cs := #[.int .i64 0, .int .i64 0]) (t := 29) (vs := [.int .i64 13, .int .i64 0]) hS82 (by kernel_rfl) rfl rfl fun w21 hS83 => ?_
        have hS84 : St w0 w21 [Own.blk b1 (.cells #[.int .i64 13, .int .i64 0] 29 (0, 0)), Own.of (.slice Z1 m4.length cz1) 46 m4] := hS83
        refine ge_nil fun a hF => hK40 _ _ ?_ a hF
        have hS85 := hS84.nil (α := STask) 46
        have hS86 := hS85.takeN 1
        obtain rfl := Option.some.inj h
        exact we_ret fun a hF => hQ _ _ _ (Outs.out nofun (Exits.on ⟨rfl, (post_ret (rs := [.tmp 4, .cell 5 29]) (ans := [.val (.int .i64 13), .val (.int .i64 0)]) (vs := [(.slice none 0 0), .agg #[.int .i64 13, .int .i64 0]]) (l := [.loaded ⟨b1, 0, none⟩ (.int .i64 13), .loaded ⟨b1, 1, none⟩ (.int .i64 0)]) rfl (by kernel_rfl) ⟨hS85.cell 1 rfl rfl, hS85.cell 1 rfl rfl, trivial⟩ ⟨(.slice none 0 0), rfl, hS86⟩) a hF⟩))
      · rw [if_neg hc16] at h
        refine we_known (t := 98) (b := decide (z6 < 0)) (v := false) (by kernel_rfl) (decide_eq_false hc16) ?_
        refine we_false (by kernel_rfl) ?_
        refine we_skip fun a hF => hK38 _ _ ?_ a hF
        refine we_region [(0, 0), (1, 0), (2, 0), (3, 0), (4, 0), (5, 2)] rfl ?_
        refine ge_batch [0, 1, 2] (ans := []) (vs := [(102, .int .i64 z2), (101, .int .i64 z6), (100, (.slice Z1 m4.length cz1))]) (l := []) (by kernel_rfl) trivial ?_
        by_cases hc17 : 0 ≤ z6
        · rw [if_pos hc17] at h
          rcases hx9 : m4[(z6).toNat]? with _ | e5
          · rw [hx9] at h; cases h
          rw [hx9] at h
          simp only [] at h
          refine ge_index (d := 103) (ty := 0) (t := 22) (el := 46) (sz := 7) (m := m4.length) (c := cz1) (x := (.tmp 100)) (y := (.tmp 101)) (A := Z1) (k' := .i64) (j := z6) (jn := ((z6).toNat)) (b0 := blkOf Z1) (o0 := offOf Z1) (by kernel_rfl) (by kernel_rfl) (by kernel_rfl) (by kernel_rfl) (by kernel_rfl) ((hS82.rdAt 1 rfl).eqSome (pos_of_get hx9)) (Int.toNat_of_nonneg hc17).symm (lt_of_get hx9) ?_
          refine ge_batch [4] (ans := []) (vs := [(104, .pointer (some ⟨blkOf Z1, offOf Z1 + (z6).toNat * 7 + 6, none⟩))]) (l := []) (by kernel_rfl) trivial ?_
          have hS87 := hS82.bring 1 rfl
          refine ge_seti (α := STask) (A := Z1) (nn := m4.length) (c := cz1) (t := 46) (l := m4) (x := e5) (x' := (⟨e5.Name, e5.C, e5.T, e5.D, e5.J, e5.O, z2⟩ : STask)) (jn := ((z6).toNat)) (j := 6) (vs := [.int .i64 z2]) (l' := [.stored ⟨blkOf Z1, offOf Z1 + ((z6).toNat) * 7 + 6, none⟩ (.int .i64 z2)]) hS87 (by kernel_rfl) (by kernel_rfl) hx9 rfl rfl rfl fun w22 hS88 => ?_
          have hS89 : St w0 w22 [Own.of (.slice Z1 m4.length cz1) 46 (m4.set ((z6).toNat) (⟨e5.Name, e5.C, e5.T, e5.D, e5.J, e5.O, z2⟩ : STask)), Own.blk b1 (.cells #[.int .i64 0, .int .i64 0] 29 (0, 0))] := hS88
          have hE2 : m4.length = (m4.set ((z6).toNat) (⟨e5.Name, e5.C, e5.T, e5.D, e5.J, e5.O, z2⟩ : STask)).length := hS89.lenAt 0 rfl
          have hS90 : St w0 w22 [Own.of (.slice Z1 (m4.set ((z6).toNat) (⟨e5.Name, e5.C, e5.T, e5.D, e5.J, e5.O, z2⟩ : STask)).length cz1) 46 (m4.set ((z6).toNat) (⟨e5.Name, e5.C, e5.T, e5.D, e5.J, e5.O, z2⟩ : STask)), Own.blk b1 (.cells #[.int .i64 0, .int .i64 0] 29 (0, 0))] := by rw [← hE2]; exact hS89
          refine ge_same (t := 7) (v := (.slice Z1 m4.length cz1)) (v' := (.slice Z1 (m4.set ((z6).toNat) (⟨e5.Name, e5.C, e5.T, e5.D, e5.J, e5.O, z2⟩ : STask)).length cz1)) (by kernel_rfl) (by rw [hE2]) ?_
          refine ge_same (t := 100) (v := (.slice Z1 m4.length cz1)) (v' := (.slice Z1 (m4.set ((z6).toNat) (⟨e5.Name, e5.C, e5.T, e5.D, e5.J, e5.O, z2⟩ : STask)).length cz1)) (by kernel_rfl) (by rw [hE2]) ?_
          refine ge_nil fun a hF => hK20 _ _ ?_ a hF
          refine we_region [(0, 0), (1, 0), (2, 0)] rfl ?_
          refine ge_batch [0, 1, 2] (ans := []) (vs := [(9, .int .i64 (IntKind.i64.wrap (z2 + 1))), (48, .int .i64 (IntKind.i64.wrap (z2 + 1))), (47, .int .i64 z2)]) (l := []) (by kernel_rfl) trivial ?_
          have hS91 := hS90.bring 1 rfl
          obtain rfl := Option.some.inj h
          exact ge_nil fun a hF => hQ _ _ _ (Outs.again ⟨hS91, hF.weaken ⟨by kernel_rfl, by kernel_rfl, by kernel_rfl, by kernel_rfl, trivial⟩⟩)
        · rw [if_neg hc17] at h
          cases h
    · rw [hq9] at h
      simp only [] at h
      refine we_iter (A := fixed_Assign.A3 K w0 l0 A0 c0 l1 A1 c1 hR0 hL0 hR1 hL1 b1 r1 b2 hc1 r3 Z1 cz1 m3 z2 m4 hc6) (B := fixed_Assign.B3 K w0 l0 A0 c0 l1 A1 c1 hR0 hL0 hR1 hL1 b1 r1 b2 hc1 r3 Z1 cz1 m3 z2 m4 hc6) hq9 (fun a hF => ⟨hS36, hF.weaken ⟨by kernel_rfl, by kernel_rfl, by kernel_rfl, by kernel_rfl, by kernel_rfl, by kernel_rfl, trivial⟩⟩) (fun s o hf a w hA Q hQ => fixed_Assign_r3 K w0 l0 A0 c0 l1 A1 c1 hR0 hL0 hR1 hL1 b1 r1 b2 hc1 r3 Z1 cz1 m3 z2 m4 hc6 s o hf a w hA Q hQ) ?_
      rintro _ a w1 _ ⟨rfl, hb⟩
      obtain rfl := Option.some.inj h
      exact hQ _ _ _ (Outs.out nofun (Exits.on ⟨rfl, hb⟩))
  · rw [if_neg hc6] at h
    refine we_known (t := 46) (b := decide (z2 ≤ (m4.length : Int))) (v := false) (by kernel_rfl) (decide_eq_false hc6) ?_
    refine we_false (by kernel_rfl) ?_
    have hS92 := hS.bring 1 rfl
    have hS93 := hS92.bring 1 rfl
    obtain rfl := Option.some.inj h
    exact we_exit fun a hF => hQ _ _ _ (Outs.out nofun (Exits.here ⟨hS93, hF.weaken ⟨by kernel_rfl, by kernel_rfl, trivial⟩⟩))
theorem fixed_Assign_ok (K : Nat) (l0 : List STask) (A0 : Option Addr) (c0 : Nat) (l1 : List Int) (A1 : Option Addr) (c1 : Nat) (w0 : World) (hR0 : RdL w0 A0 l0) (hL0 : l0.length ≤ c0) (hR1 : RdL w0 A1 l1) (hL1 : l1.length ≤ c1) (r : (List STask) × SFault) (h : fixed_Assign.f K l0 l1 = some r) :
    Calls Try.prog 16 #[.slice A0 l0.length c0, .slice A1 l1.length c1] w0 (fixed_Assign.Post w0 r) := by
  have hS := St.start w0
  unfold fixed_Assign.f at h
  refine calls_enter (n := 107) (args := [.slice A0 l0.length c0, .slice A1 l1.length c1]) (fn := Try.f16) rfl rfl rfl rfl ?_
  show WE _ _ _ _ [(0, .slice A0 l0.length c0), (1, .slice A1 l1.length c1)] _
  refine we_seq fun K1 hK1 => ?_
  refine we_region [(0, 0), (1, 1)] rfl ?_
  refine ge_batch [0] (ans := []) (vs := [(4, .slice none 0 0)]) (l := []) (by kernel_rfl) trivial ?_
  refine ge_new (d := some 5) (o := .cells #[.int .i64 0, .int .i64 0] 29) (v := fun b => .pointer (some ⟨b, 0, none⟩)) hS (fun b => by kernel_rfl) fun b1 w1 hx1 hS1 => ?_
  refine ge_nil fun a hF => hK1 _ _ ?_ a hF
  refine we_seq fun K2 hK2 => ?_
  refine we_seq fun K3 hK3 => ?_
  refine we_region [(0, 0), (1, 1), (2, 1), (3, 2)] rfl ?_
  rcases hq1 : fixed_check.f K l0 with _ | r1
  · rw [hq1] at h; cases h
  rw [hq1] at h
  simp only [] at h
  refine ge_batch [0] (ans := []) (vs := [(15, .slice A0 l0.length c0)]) (l := []) (by kernel_rfl) trivial ?_
  refine ge_call (d := some 16) (f := 26) (args := #[.slice A0 l0.length c0]) (by kernel_rfl) (fixed_check_ok K l0 A0 c0 _ (hS1.rd hR0) hL0 _ hq1) ?_
  rintro _ w2 ⟨rfl, hS2⟩
  refine ⟨_, rfl, hS2.below, ?_⟩
  have hS3 := hS1.call hS2
  refine ge_new (d := some 6) (o := .cells #[.int .i64 0, .int .i64 0] 29) (v := fun b => .pointer (some ⟨b, 0, none⟩)) hS3 (fun b => by kernel_rfl) fun b2 w3 hx2 hS4 => ?_
  refine ge_set (b := b2) (j := 0) (cs := #[.int .i64 0, .int .i64 0]) (t := 29) (vs := [.int .i64 r1.Code, .int .i64 r1.At]) hS4 (by kernel_rfl) rfl rfl fun w4 hS5 => ?_
  have hS6 : St w0 w4 [Own.blk b2 (.cells #[.int .i64 r1.Code, .int .i64 r1.At] 29 (0, 0)), Own.blk b1 (.cells #[.int .i64 0, .int .i64 0] 29 (0, 0))] := hS5
  refine ge_nil fun a hF => hK3 _ _ ?_ a hF
  refine we_seq fun K4 hK4 => ?_
  refine we_region [(0, 0), (1, 0), (2, 0)] rfl ?_
  refine ge_batch [0, 1, 2] (ans := [.val (.int .i64 r1.Code)]) (vs := [(19, .bool (r1.Code != 0)), (18, .int .i64 r1.Code), (17, .pointer (some ⟨b2, 0, none⟩))]) (l := [.loaded ⟨b2, 0, none⟩ (.int .i64 r1.Code)]) (by kernel_rfl) ⟨hS6.cell 0 rfl rfl, trivial⟩ ?_
  refine ge_nil fun a hF => hK4 _ _ ?_ a hF
  by_cases hc1 : r1.Code = 0
  · rw [if_pos hc1] at h
    refine we_known (t := 19) (b := (r1.Code != 0)) (v := false) (by kernel_rfl) (bne_eq_false_iff_eq.2 hc1) ?_
    refine we_false (by kernel_rfl) ?_
    refine we_skip fun a hF => hK2 _ _ ?_ a hF
    refine we_seq fun K5 hK5 => ?_
    rcases hq3 : fixed_Assign.p0 K l0 l1 with _ | (_ | rr6)
    · rw [hq3] at h; cases h
    · rw [hq3] at h
      simp only [] at h
      refine we_keep (e' := [(0, .slice A0 l0.length c0), (1, .slice A1 l1.length c1), (4, .slice none 0 0), (5, .pointer (some ⟨b1, 0, none⟩)), (6, .pointer (some ⟨b2, 0, none⟩)), (15, .slice A0 l0.length c0), (16, .agg #[.int .i64 r1.Code, .int .i64 r1.At]), (17, .pointer (some ⟨b2, 0, none⟩)), (18, .int .i64 r1.Code), (19, .bool false)]) ⟨by kernel_rfl, by kernel_rfl, by kernel_rfl, by kernel_rfl, by kernel_rfl, by kernel_rfl, by kernel_rfl, by kernel_rfl, by kernel_rfl, by kernel_rfl, trivial⟩ (fixed_Assign_p0 K w0 l0 A0 c0 l1 A1 c1 hR0 hL0 hR1 hL1 b1 r1 b2 hc1 _ hq3 _ hS6 _ ?_)
      rintro _ a w8 ⟨rfl, hS21, hF⟩
      replace hS21 : St w0 w8 [Own.blk b1 (.cells #[.int .i64 0, .int .i64 0] 29 (0, 0))] := hS21
      refine hK5 [(0, .slice A0 l0.length c0), (1, .slice A1 l1.length c1), (5, .pointer (some ⟨b1, 0, none⟩))] w8 ?_ a hF
      refine we_seq fun K9 hK9 => ?_
      refine we_region [(0, 0), (1, 1), (2, 0)] rfl ?_
      rcases hq4 : slices_Clone_api_Task_api_Task.f l0 with _ | r3
      · rw [hq4] at h; cases h
      rw [hq4] at h
      simp only [] at h
      refine ge_batch [0] (ans := []) (vs := [(31, .slice A0 l0.length c0)]) (l := []) (by kernel_rfl) trivial ?_
      refine ge_call (d := some 32) (f := 33) (args := #[.slice A0 l0.length c0]) (by kernel_rfl) (slices_Clone_api_Task_api_Task_ok l0 A0 c0 _ (hS21.rd hR0) hL0 _ hq4) ?_
      rintro _ w9 ⟨v1, rfl, hS22⟩
      refine ⟨_, rfl, hS22.below, ?_⟩
      have hS23 := hS21.call hS22
      refine ge_batch [2] (ans := []) (vs := [(7, v1)]) (l := []) (by kernel_rfl) trivial ?_
      refine ge_nil fun a hF => hK9 _ _ ?_ a hF
      refine we_seq fun K10 hK10 => ?_
      refine we_seq fun K11 hK11 => ?_
      refine we_region [(0, 0), (1, 0), (2, 0)] rfl ?_
      refine ge_batch [0] (ans := []) (vs := [(33, v1)]) (l := []) (by kernel_rfl) trivial ?_
      obtain ⟨Z1, cz1, rfl⟩ := hS23.open 0 rfl
      refine ge_batch [1, 2] (ans := []) (vs := [(35, .int .i64 0), (34, .int .i64 (r3.length : Int))]) (l := []) (by kernel_rfl) trivial ?_
      refine ge_nil fun a hF => hK11 _ _ ?_ a hF
      refine we_block ?_
      have hS24 := hS23.bring 1 rfl
      rcases hq5 : iter (fixed_Assign.r1 r3) K (0, r3) with _ | (m3 | rr5)
      · rw [hq5] at h; cases h
      · rw [hq5] at h
        simp only [] at h
        refine we_iter (A := fixed_Assign.A1 K w0 l0 A0 c0 l1 A1 c1 hR0 hL0 hR1 hL1 b1 r1 b2 hc1 r3 Z1 cz1) (B := fixed_Assign.B1 K w0 l0 A0 c0 l1 A1 c1 hR0 hL0 hR1 hL1 b1 r1 b2 hc1 r3 Z1 cz1) hq5 (fun a hF => ⟨hS24, hF.weaken ⟨by kernel_rfl, by kernel_rfl, by kernel_rfl, by kernel_rfl, by kernel_rfl, trivial⟩⟩) (fun s o hf a w hA Q hQ => fixed_Assign_r1 K w0 l0 A0 c0 l1 A1 c1 hR0 hL0 hR1 hL1 b1 r1 b2 hc1 r3 Z1 cz1 s o hf a w hA Q hQ) ?_
        rintro _ a w11 _ ⟨rfl, hS32, hF⟩
        replace hS32 : St w0 w11 [Own.blk b1 (.cells #[.int .i64 0, .int .i64 0] 29 (0, 0)), Own.of (.slice Z1 m3.length cz1) 46 m3] := hS32
        refine hK10 [(1, .slice A1 l1.length c1), (5, .pointer (some ⟨b1, 0, none⟩)), (7, (.slice Z1 m3.length cz1))] w11 ?_ a hF
        refine we_seq fun K16 hK16 => ?_
        refine we_seq fun K17 hK17 => ?_
        refine we_region [(0, 0)] rfl ?_
        refine ge_batch [0] (ans := []) (vs := [(9, .int .i64 1)]) (l := []) (by kernel_rfl) trivial ?_
        refine ge_nil fun a hF => hK17 _ _ ?_ a hF
        refine we_block ?_
        have hS33 := hS32.bring 1 rfl
        have hS34 := hS33.bring 1 rfl
        rcases hq10 : iter (fixed_Assign.r2 K l1 r3) K (1, m3) with _ | (m9 | rr4)
        · rw [hq10] at h; cases h
        · rw [hq10] at h
          simp only [] at h
          refine we_iter (A := fixed_Assign.A2 K w0 l0 A0 c0 l1 A1 c1 hR0 hL0 hR1 hL1 b1 r1 b2 hc1 r3 Z1 cz1 m3) (B := fixed_Assign.B2 K w0 l0 A0 c0 l1 A1 c1 hR0 hL0 hR1 hL1 b1 r1 b2 hc1 r3 Z1 cz1 m3) hq10 (fun a hF => ⟨hS34, hF.weaken ⟨by kernel_rfl, by kernel_rfl, by kernel_rfl, by kernel_rfl, trivial⟩⟩) (fun s o hf a w hA Q hQ => fixed_Assign_r2 K w0 l0 A0 c0 l1 A1 c1 hR0 hL0 hR1 hL1 b1 r1 b2 hc1 r3 Z1 cz1 m3 s o hf a w hA Q hQ) ?_
          rintro _ a w23 _ ⟨rfl, hS94, hF⟩
          replace hS94 : St w0 w23 [Own.blk b1 (.cells #[.int .i64 0, .int .i64 0] 29 (0, 0)), Own.of (.slice Z1 m9.length cz1) 46 m9] := hS94
          refine hK16 [(5, .pointer (some ⟨b1, 0, none⟩)), (7, (.slice Z1 m9.length cz1))] w23 ?_ a hF
          refine we_seq fun K41 hK41 => ?_
          refine we_region [(0, 0), (1, 0), (2, 0), (3, 2)] rfl ?_
          refine ge_batch [0, 1, 2] (ans := []) (vs := [(4, (.slice Z1 m9.length cz1)), (106, .agg #[.int .i64 0, .int .i64 0]), (105, (.slice Z1 m9.length cz1))]) (l := []) (by kernel_rfl) trivial ?_
          refine ge_set (b := b1) (j := 0) (cs := #[.int .i64 0, .int .i64 0]) (t := 29) (vs := [.int .i64 0, .int .i64 0]) hS94 (by kernel_rfl) rfl rfl fun w24 hS95 => ?_
          have hS96 : St w0 w24 [Own.blk b1 (.cells #[.int .i64 0, .int .i64 0] 29 (0, 0)), Own.of (.slice Z1 m9.length cz1) 46 m9] := hS95
          refine ge_nil fun a hF => hK41 _ _ ?_ a hF
          have hS97 := hS96.bring 1 rfl
          have hS98 := hS97.takeN 1
          obtain rfl := Option.some.inj h
          exact we_ret (post_ret (rs := [.tmp 4, .cell 5 29]) (ans := [.val (.int .i64 0), .val (.int .i64 0)]) (vs := [(.slice Z1 m9.length cz1), .agg #[.int .i64 0, .int .i64 0]]) (l := [.loaded ⟨b1, 0, none⟩ (.int .i64 0), .loaded ⟨b1, 1, none⟩ (.int .i64 0)]) rfl (by kernel_rfl) ⟨hS96.cell 0 rfl rfl, hS96.cell 0 rfl rfl, trivial⟩ ⟨(.slice Z1 m9.length cz1), rfl, hS98⟩)
        · rw [hq10] at h
          simp only [] at h
          refine we_iter (A := fixed_Assign.A2 K w0 l0 A0 c0 l1 A1 c1 hR0 hL0 hR1 hL1 b1 r1 b2 hc1 r3 Z1 cz1 m3) (B := fixed_Assign.B2 K w0 l0 A0 c0 l1 A1 c1 hR0 hL0 hR1 hL1 b1 r1 b2 hc1 r3 Z1 cz1 m3) hq10 (fun a hF => ⟨hS34, hF.weaken ⟨by kernel_rfl, by kernel_rfl, by kernel_rfl, by kernel_rfl, trivial⟩⟩) (fun s o hf a w hA Q hQ => fixed_Assign_r2 K w0 l0 A0 c0 l1 A1 c1 hR0 hL0 hR1 hL1 b1 r1 b2 hc1 r3 Z1 cz1 m3 s o hf a w hA Q hQ) ?_
          rintro _ a w1 _ ⟨rfl, hb⟩
          obtain rfl := Option.some.inj h
          exact hb
      · rw [hq5] at h
        simp only [] at h
        refine we_iter (A := fixed_Assign.A1 K w0 l0 A0 c0 l1 A1 c1 hR0 hL0 hR1 hL1 b1 r1 b2 hc1 r3 Z1 cz1) (B := fixed_Assign.B1 K w0 l0 A0 c0 l1 A1 c1 hR0 hL0 hR1 hL1 b1 r1 b2 hc1 r3 Z1 cz1) hq5 (fun a hF => ⟨hS24, hF.weaken ⟨by kernel_rfl, by kernel_rfl, by kernel_rfl, by kernel_rfl, by kernel_rfl, trivial⟩⟩) (fun s o hf a w hA Q hQ => fixed_Assign_r1 K w0 l0 A0 c0 l1 A1 c1 hR0 hL0 hR1 hL1 b1 r1 b2 hc1 r3 Z1 cz1 s o hf a w hA Q hQ) ?_
        rintro _ a w1 _ ⟨rfl, hb⟩
        obtain rfl := Option.some.inj h
        exact hb
    · rw [hq3] at h
      simp only [] at h
      refine we_keep (e' := [(0, .slice A0 l0.length c0), (1, .slice A1 l1.length c1), (4, .slice none 0 0), (5, .pointer (some ⟨b1, 0, none⟩)), (6, .pointer (some ⟨b2, 0, none⟩)), (15, .slice A0 l0.length c0), (16, .agg #[.int .i64 r1.Code, .int .i64 r1.At]), (17, .pointer (some ⟨b2, 0, none⟩)), (18, .int .i64 r1.Code), (19, .bool false)]) ⟨by kernel_rfl, by kernel_rfl, by kernel_rfl, by kernel_rfl, by kernel_rfl, by kernel_rfl, by kernel_rfl, by kernel_rfl, by kernel_rfl, by kernel_rfl, trivial⟩ (fixed_Assign_p0 K w0 l0 A0 c0 l1 A1 c1 hR0 hL0 hR1 hL1 b1 r1 b2 hc1 _ hq3 _ hS6 _ ?_)
      rintro _ a w1 ⟨_, rfl, hb⟩
      obtain rfl := Option.some.inj h
      exact hb
  · rw [if_neg hc1] at h
    refine we_known (t := 19) (b := (r1.Code != 0)) (v := true) (by kernel_rfl) (bne_iff_ne.2 hc1) ?_
    refine we_true (by kernel_rfl) ?_
    refine we_seq fun K42 hK42 => ?_
    refine we_draws (by kernel_rfl) [(0, 0), (1, 0), (2, 2)] (by kernel_rfl) ?_
    have hS99 := hS6.drew
    refine ge_batch [0, 1] (ans := [.val (.int .i64 r1.Code), .val (.int .i64 r1.At)]) (vs := [(4, .slice none 0 0), (20, .agg #[.int .i64 r1.Code, .int .i64 r1.At])]) (l := [.loaded ⟨b2, 0, none⟩ (.int .i64 r1.Code), .loaded ⟨b2, 1, none⟩ (.int .i64 r1.At)]) (by kernel_rfl) ⟨hS99.cell 0 rfl rfl, hS99.cell 0 rfl rfl, trivial⟩ ?_
    have hS100 := hS99.bring 1 rfl
    refine ge_set (b := b1) (j := 0) (cs := #[.int .i64 0, .int .i64 0]) (t := 29) (vs := [.int .i64 r1.Code, .int .i64 r1.At]) hS100 (by kernel_rfl) rfl rfl fun w25 hS101 => ?_
    have hS102 : St w0 w25 [Own.blk b1 (.cells #[.int .i64 r1.Code, .int .i64 r1.At] 29 (0, 0)), Own.blk b2 (.cells #[.int .i64 r1.Code, .int .i64 r1.At] 29 (0, 0))] := hS101
    refine ge_nil fun a hF => hK42 _ _ ?_ a hF
    have hS103 := hS102.nil (α := STask) 46
    have hS104 := hS103.takeN 1
    obtain rfl := Option.some.inj h
    exact we_ret (post_ret (rs := [.tmp 4, .cell 5 29]) (ans := [.val (.int .i64 r1.Code), .val (.int .i64 r1.At)]) (vs := [(.slice none 0 0), .agg #[.int .i64 r1.Code, .int .i64 r1.At]]) (l := [.loaded ⟨b1, 0, none⟩ (.int .i64 r1.Code), .loaded ⟨b1, 1, none⟩ (.int .i64 r1.At)]) rfl (by kernel_rfl) ⟨hS103.cell 1 rfl rfl, hS103.cell 1 rfl rfl, trivial⟩ ⟨(.slice none 0 0), rfl, hS104⟩)

/-! punctual/fixed.Deadlines$1 -/
abbrev fixed_Deadlines_1.Post (w0 : World) (r : Int) (e : Ending) (w : World) : Prop := e = .returned (.int .i64 r) ∧ St w0 w []
def fixed_Deadlines_1.f (x0 : STask) : Int :=
  x0.D
theorem fixed_Deadlines_1_ok (x0 : STask) (w0 : World) (r : Int) (h : fixed_Deadlines_1.f x0 = r) :
    Calls Try.prog 37 #[.agg #[.string x0.Name, .int .i64 x0.C, .int .i64 x0.T, .int .i64 x0.D, .int .i64 x0.J, .int .i64 x0.O, .int .i64 x0.P]] w0 (fixed_Deadlines_1.Post w0 r) := by
  have hS := St.start w0
  unfold fixed_Deadlines_1.f at h
  refine calls_enter (n := 5) (args := [.agg #[.string x0.Name, .int .i64 x0.C, .int .i64 x0.T, .int .i64 x0.D, .int .i64 x0.J, .int .i64 x0.O, .int .i64 x0.P]]) (fn := Try.f37) rfl rfl rfl rfl ?_
  show WE _ _ _ _ [(0, .agg #[.string x0.Name, .int .i64 x0.C, .int .i64 x0.T, .int .i64 x0.D, .int .i64 x0.J, .int .i64 x0.O, .int .i64 x0.P])] _
  refine we_seq fun K1 hK1 => ?_
  refine we_region [(0, 1), (1, 0)] rfl ?_
  refine ge_new (d := some 1) (o := .cells #[.string x0.Name, .int .i64 x0.C, .int .i64 x0.T, .int .i64 x0.D, .int .i64 x0.J, .int .i64 x0.O, .int .i64 x0.P] 46) (v := fun b => .pointer (some ⟨b, 0, none⟩)) hS (fun b => by kernel_rfl) fun b1 w1 hx1 hS1 => ?_
  refine ge_batch [1] (ans := []) (vs := [(2, .int .i64 0)]) (l := []) (by kernel_rfl) trivial ?_
  refine ge_nil fun a hF => hK1 _ _ ?_ a hF
  refine we_seq fun K2 hK2 => ?_
  refine we_region [(0, 0), (1, 0), (2, 0)] rfl ?_
  refine ge_batch [0, 1, 2] (ans := [.val (.int .i64 x0.D)]) (vs := [(2, .int .i64 x0.D), (4, .int .i64 x0.D), (3, .pointer (some ⟨b1, 3, none⟩))]) (l := [.loaded ⟨b1, 3, none⟩ (.int .i64 x0.D)]) (by kernel_rfl) ⟨hS1.cell 0 rfl rfl, trivial⟩ ?_
  refine ge_nil fun a hF => hK2 _ _ ?_ a hF
  have hS2 := hS1.takeN 0
  subst h
  exact we_ret (post_ret (rs := [.tmp 2]) (ans := []) (vs := [.int .i64 x0.D]) (l := []) rfl (by kernel_rfl) trivial ⟨rfl, hS2⟩)

/-! cmp.isNaN[int] -/
abbrev cmp_isNaN_int.Post (w0 : World) (r : Bool) (e : Ending) (w : World) : Prop := e = .returned (.bool r) ∧ St w0 w []
def cmp_isNaN_int.f (x0 : Int) : Bool :=
  false
theorem cmp_isNaN_int_ok (x0 : Int) (w0 : World) (r : Bool) (h : cmp_isNaN_int.f x0 = r) :
    Calls Try.prog 62 #[.int .i64 x0] w0 (cmp_isNaN_int.Post w0 r) := by
  have hS := St.start w0
  unfold cmp_isNaN_int.f at h
  refine calls_enter (n := 6) (args := [.int .i64 x0]) (fn := Try.f62) rfl rfl rfl rfl ?_
  show WE _ _ _ _ [(0, .int .i64 x0)] _
  refine we_seq fun K1 hK1 => ?_
  refine we_region [(0, 0)] rfl ?_
  refine ge_batch [0] (ans := []) (vs := [(2, .bool false)]) (l := []) (by kernel_rfl) trivial ?_
  refine ge_nil fun a hF => hK1 _ _ ?_ a hF
  refine we_seq fun K2 hK2 => ?_
  refine we_region [(0, 0), (1, 0), (2, 0), (3, 0)] rfl ?_
  refine ge_batch [0, 1, 2] (ans := []) (vs := [(5, .bool (x0 != x0)), (4, .int .i64 x0), (3, .int .i64 x0)]) (l := []) (by kernel_rfl) trivial ?_
  refine ge_known (t := 5) (b := (x0 != x0)) (c := false) (by kernel_rfl) (by simp) ?_
  refine ge_batch [3] (ans := []) (vs := [(2, .bool false)]) (l := []) (by kernel_rfl) trivial ?_
  refine ge_nil fun a hF => hK2 _ _ ?_ a hF
  subst h
  exact we_ret (post_ret (rs := [.tmp 2]) (ans := []) (vs := [.bool false]) (l := []) rfl (by kernel_rfl) trivial ⟨rfl, hS⟩)

/-! cmp.Compare[int] -/
abbrev cmp_Compare_int.Post (w0 : World) (r : Int) (e : Ending) (w : World) : Prop := e = .returned (.int .i64 r) ∧ St w0 w []
def cmp_Compare_int.f (x0 : Int) (x1 : Int) : Int :=
  if (cmp_isNaN_int.f x0) = true then
    if (cmp_isNaN_int.f x1) = true then
      0
    else
      (-1)
  else
    if (cmp_isNaN_int.f x1) = true then
      1
    else
      if x0 < x1 then
        (-1)
      else
        if x0 > x1 then
          1
        else
          0
theorem cmp_Compare_int_ok (x0 : Int) (x1 : Int) (w0 : World) (r : Int) (h : cmp_Compare_int.f x0 x1 = r) :
    Calls Try.prog 42 #[.int .i64 x0, .int .i64 x1] w0 (cmp_Compare_int.Post w0 r) := by
  have hS := St.start w0
  unfold cmp_Compare_int.f at h
  refine calls_enter (n := 20) (args := [.int .i64 x0, .int .i64 x1]) (fn := Try.f42) rfl rfl rfl rfl ?_
  show WE _ _ _ _ [(0, .int .i64 x0), (1, .int .i64 x1)] _
  refine we_seq fun K1 hK1 => ?_
  refine we_region [(0, 0)] rfl ?_
  refine ge_batch [0] (ans := []) (vs := [(4, .int .i64 0)]) (l := []) (by kernel_rfl) trivial ?_
  refine ge_nil fun a hF => hK1 _ _ ?_ a hF
  refine we_seq fun K2 hK2 => ?_
  refine we_region [(0, 0), (1, 1), (2, 0)] rfl ?_
  refine ge_batch [0] (ans := []) (vs := [(7, .int .i64 x0)]) (l := []) (by kernel_rfl) trivial ?_
  refine ge_call (d := some 8) (f := 62) (args := #[.int .i64 x0]) (by kernel_rfl) (cmp_isNaN_int_ok x0 _ _ rfl) ?_
  rintro _ w1 ⟨rfl, hS1⟩
  refine ⟨_, rfl, hS1.below, ?_⟩
  have hS2 := hS.call hS1
  refine ge_batch [2] (ans := []) (vs := [(5, .bool (cmp_isNaN_int.f x0))]) (l := []) (by kernel_rfl) trivial ?_
  refine ge_nil fun a hF => hK2 _ _ ?_ a hF
  refine we_seq fun K3 hK3 => ?_
  refine we_region [(0, 0), (1, 1), (2, 0)] rfl ?_
  refine ge_batch [0] (ans := []) (vs := [(9, .int .i64 x1)]) (l := []) (by kernel_rfl) trivial ?_
  refine ge_call (d := some 10) (f := 62) (args := #[.int .i64 x1]) (by kernel_rfl) (cmp_isNaN_int_ok x1 _ _ rfl) ?_
  rintro _ w2 ⟨rfl, hS3⟩
  refine ⟨_, rfl, hS3.below, ?_⟩
  have hS4 := hS2.call hS3
  refine ge_batch [2] (ans := []) (vs := [(6, .bool (cmp_isNaN_int.f x1))]) (l := []) (by kernel_rfl) trivial ?_
  refine ge_nil fun a hF => hK3 _ _ ?_ a hF
  refine we_seq fun K4 hK4 => ?_
  refine we_seq fun K5 hK5 => ?_
  refine we_region [(0, 0)] rfl ?_
  refine ge_batch [0] (ans := []) (vs := [(11, .bool (cmp_isNaN_int.f x0))]) (l := []) (by kernel_rfl) trivial ?_
  refine ge_nil fun a hF => hK5 _ _ ?_ a hF
  by_cases hc1 : (cmp_isNaN_int.f x0) = true
  · rw [if_pos hc1] at h
    refine we_known (t := 11) (b := (cmp_isNaN_int.f x0)) (v := true) (by kernel_rfl) hc1 ?_
    refine we_true (by kernel_rfl) ?_
    refine we_seq fun K6 hK6 => ?_
    refine we_seq fun K7 hK7 => ?_
    refine we_region [(0, 0)] rfl ?_
    refine ge_batch [0] (ans := []) (vs := [(12, .bool (cmp_isNaN_int.f x1))]) (l := []) (by kernel_rfl) trivial ?_
    refine ge_nil fun a hF => hK7 _ _ ?_ a hF
    by_cases hc2 : (cmp_isNaN_int.f x1) = true
    · rw [if_pos hc2] at h
      refine we_known (t := 12) (b := (cmp_isNaN_int.f x1)) (v := true) (by kernel_rfl) hc2 ?_
      refine we_true (by kernel_rfl) ?_
      refine we_seq fun K8 hK8 => ?_
      refine we_region [(0, 0)] rfl ?_
      refine ge_batch [0] (ans := []) (vs := [(4, .int .i64 0)]) (l := []) (by kernel_rfl) trivial ?_
      refine ge_nil fun a hF => hK8 _ _ ?_ a hF
      subst h
      exact we_ret (post_ret (rs := [.tmp 4]) (ans := []) (vs := [.int .i64 0]) (l := []) rfl (by kernel_rfl) trivial ⟨rfl, hS4⟩)
    · rw [if_neg hc2] at h
      refine we_known (t := 12) (b := (cmp_isNaN_int.f x1)) (v := false) (by kernel_rfl) (Bool.eq_false_iff.2 hc2) ?_
      refine we_false (by kernel_rfl) ?_
      refine we_skip fun a hF => hK6 _ _ ?_ a hF
      refine we_seq fun K9 hK9 => ?_
      refine we_region [(0, 0)] rfl ?_
      refine ge_batch [0] (ans := []) (vs := [(4, .int .i64 (-1))]) (l := []) (by kernel_rfl) trivial ?_
      refine ge_nil fun a hF => hK9 _ _ ?_ a hF
      subst h
      exact we_ret (post_ret (rs := [.tmp 4]) (ans := []) (vs := [.int .i64 (-1)]) (l := []) rfl (by kernel_rfl) trivial ⟨rfl, hS4⟩)
  · rw [if_neg hc1] at h
    refine we_known (t := 11) (b := (cmp_isNaN_int.f x0)) (v := false) (by kernel_rfl) (Bool.eq_false_iff.2 hc1) ?_
    refine we_false (by kernel_rfl) ?_
    refine we_skip fun a hF => hK4 _ _ ?_ a hF
    refine we_seq fun K10 hK10 => ?_
    refine we_seq fun K11 hK11 => ?_
    refine we_region [(0, 0)] rfl ?_
    refine ge_batch [0] (ans := []) (vs := [(13, .bool (cmp_isNaN_int.f x1))]) (l := []) (by kernel_rfl) trivial ?_
    refine ge_nil fun a hF => hK11 _ _ ?_ a hF
    by_cases hc3 : (cmp_isNaN_int.f x1) = true
    · rw [if_pos hc3] at h
      refine we_known (t := 13) (b := (cmp_isNaN_int.f x1)) (v := true) (by kernel_rfl) hc3 ?_
      refine we_true (by kernel_rfl) ?_
      refine we_seq fun K12 hK12 => ?_
      refine we_region [(0, 0)] rfl ?_
      refine ge_batch [0] (ans := []) (vs := [(4, .int .i64 1)]) (l := []) (by kernel_rfl) trivial ?_
      refine ge_nil fun a hF => hK12 _ _ ?_ a hF
      subst h
      exact we_ret (post_ret (rs := [.tmp 4]) (ans := []) (vs := [.int .i64 1]) (l := []) rfl (by kernel_rfl) trivial ⟨rfl, hS4⟩)
    · rw [if_neg hc3] at h
      refine we_known (t := 13) (b := (cmp_isNaN_int.f x1)) (v := false) (by kernel_rfl) (Bool.eq_false_iff.2 hc3) ?_
      refine we_false (by kernel_rfl) ?_
      refine we_skip fun a hF => hK10 _ _ ?_ a hF
      refine we_seq fun K13 hK13 => ?_
      refine we_seq fun K14 hK14 => ?_
      refine we_region [(0, 0), (1, 0), (2, 0)] rfl ?_
      refine ge_batch [0, 1, 2] (ans := []) (vs := [(16, .bool (decide (x0 < x1))), (15, .int .i64 x1), (14, .int .i64 x0)]) (l := []) (by kernel_rfl) trivial ?_
      refine ge_nil fun a hF => hK14 _ _ ?_ a hF
      by_cases hc4 : x0 < x1
      · rw [if_pos hc4] at h
        refine we_known (t := 16) (b := decide (x0 < x1)) (v := true) (by kernel_rfl) (decide_eq_true hc4) ?_
        refine we_true (by kernel_rfl) ?_
        refine we_seq fun K15 hK15 => ?_
        refine we_region [(0, 0)] rfl ?_
        refine ge_batch [0] (ans := []) (vs := [(4, .int .i64 (-1))]) (l := []) (by kernel_rfl) trivial ?_
        refine ge_nil fun a hF => hK15 _ _ ?_ a hF
        subst h
        exact we_ret (post_ret (rs := [.tmp 4]) (ans := []) (vs := [.int .i64 (-1)]) (l := []) rfl (by kernel_rfl) trivial ⟨rfl, hS4⟩)
      · rw [if_neg hc4] at h
        refine we_known (t := 16) (b := decide (x0 < x1)) (v := false) (by kernel_rfl) (decide_eq_false hc4) ?_
        refine we_false (by kernel_rfl) ?_
        refine we_skip fun a hF => hK13 _ _ ?_ a hF
        refine we_seq fun K16 hK16 => ?_
        refine we_seq fun K17 hK17 => ?_
        refine we_region [(0, 0), (1, 0), (2, 0)] rfl ?_
        refine ge_batch [0, 1, 2] (ans := []) (vs := [(19, .bool (decide (x0 > x1))), (18, .int .i64 x1), (17, .int .i64 x0)]) (l := []) (by kernel_rfl) trivial ?_
        refine ge_nil fun a hF => hK17 _ _ ?_ a hF
        by_cases hc5 : x0 > x1
        · rw [if_pos hc5] at h
          refine we_known (t := 19) (b := decide (x0 > x1)) (v := true) (by kernel_rfl) (decide_eq_true hc5) ?_
          refine we_true (by kernel_rfl) ?_
          refine we_seq fun K18 hK18 => ?_
          refine we_region [(0, 0)] rfl ?_
          refine ge_batch [0] (ans := []) (vs := [(4, .int .i64 1)]) (l := []) (by kernel_rfl) trivial ?_
          refine ge_nil fun a hF => hK18 _ _ ?_ a hF
          subst h
          exact we_ret (post_ret (rs := [.tmp 4]) (ans := []) (vs := [.int .i64 1]) (l := []) rfl (by kernel_rfl) trivial ⟨rfl, hS4⟩)
        · rw [if_neg hc5] at h
          refine we_known (t := 19) (b := decide (x0 > x1)) (v := false) (by kernel_rfl) (decide_eq_false hc5) ?_
          refine we_false (by kernel_rfl) ?_
          refine we_skip fun a hF => hK16 _ _ ?_ a hF
          refine we_seq fun K19 hK19 => ?_
          refine we_region [(0, 0)] rfl ?_
          refine ge_batch [0] (ans := []) (vs := [(4, .int .i64 0)]) (l := []) (by kernel_rfl) trivial ?_
          refine ge_nil fun a hF => hK19 _ _ ?_ a hF
          subst h
          exact we_ret (post_ret (rs := [.tmp 4]) (ans := []) (vs := [.int .i64 0]) (l := []) rfl (by kernel_rfl) trivial ⟨rfl, hS4⟩)

/-! punctual/fixed.ranked$1 -/
abbrev fixed_ranked_1.Post (w0 : World) (r : Int) (e : Ending) (w : World) : Prop := e = .returned (.int .i64 r) ∧ St w0 w []
def fixed_ranked_1.f (x0 : Int) (x1 : Int) (lf_1 : List STask) : Option Int :=
  if 0 ≤ x0 then
    match lf_1[(x0).toNat]? with
    | none => none
    | some e1 =>
      if 0 ≤ x1 then
        match lf_1[(x1).toNat]? with
        | none => none
        | some e2 =>
          some (cmp_Compare_int.f (fixed_Deadlines_1.f e1) (fixed_Deadlines_1.f e2))
      else
        none
  else
    none
theorem fixed_ranked_1_ok (x0 : Int) (x1 : Int) (bf_0 : Nat) (bf_1 : Nat) (lf_1 : List STask) (Af_1 : Option Addr) (cf_1 : Nat) (w0 : World) (hBf_0 : Glob w0 bf_0 [.func (.func 37) #[] #[]]) (hRf_1 : RdL w0 Af_1 lf_1) (hLf_1 : lf_1.length ≤ cf_1) (hBf_1 : Glob w0 bf_1 [.slice Af_1 lf_1.length cf_1]) (r : Int) (h : fixed_ranked_1.f x0 x1 lf_1 = some r) :
    Calls Try.prog 59 #[.int .i64 x0, .int .i64 x1, .pointer (some ⟨bf_0, 0, none⟩), .pointer (some ⟨bf_1, 0, none⟩)] w0 (fixed_ranked_1.Post w0 r) := by
  have hS := St.start w0
  unfold fixed_ranked_1.f at h
  refine calls_enter (n := 20) (args := [.int .i64 x0, .int .i64 x1, .pointer (some ⟨bf_0, 0, none⟩), .pointer (some ⟨bf_1, 0, none⟩)]) (fn := Try.f59) rfl rfl rfl rfl ?_
  show WE _ _ _ _ [(0, .int .i64 x0), (1, .int .i64 x1), (2, .pointer (some ⟨bf_0, 0, none⟩)), (3, .pointer (some ⟨bf_1, 0, none⟩))] _
  refine we_seq fun K1 hK1 => ?_
  refine we_region [(0, 0)] rfl ?_
  refine ge_batch [0] (ans := []) (vs := [(6, .int .i64 0)]) (l := []) (by kernel_rfl) trivial ?_
  refine ge_nil fun a hF => hK1 _ _ ?_ a hF
  refine we_seq fun K2 hK2 => ?_
  refine we_draws (by kernel_rfl) [(0, 0), (1, 0), (2, 0), (3, 0), (4, 0), (6, 0), (7, 0), (8, 0), (9, 0), (10, 0), (5, 1), (11, 1), (12, 1), (13, 0)] (by kernel_rfl) ?_
  have hS1 := hS.drew
  refine ge_batch [0, 1, 2] (ans := [.val (.func (.func 37) #[] #[]), .val (.slice Af_1 lf_1.length cf_1)]) (vs := [(9, .int .i64 x0), (8, .slice Af_1 lf_1.length cf_1), (7, .func (.func 37) #[] #[])]) (l := [.loaded ⟨bf_0, 0, none⟩ (.func (.func 37) #[] #[]), .loaded ⟨bf_1, 0, none⟩ (.slice Af_1 lf_1.length cf_1)]) (by kernel_rfl) ⟨hS1.glob hBf_0 rfl, hS1.glob hBf_1 rfl, trivial⟩ ?_
  by_cases hc1 : 0 ≤ x0
  · rw [if_pos hc1] at h
    rcases hx1 : lf_1[(x0).toNat]? with _ | e1
    · rw [hx1] at h; cases h
    rw [hx1] at h
    simp only [] at h
    refine ge_index (d := 10) (ty := 0) (t := 22) (el := 46) (sz := 7) (m := lf_1.length) (c := cf_1) (x := (.tmp 8)) (y := (.tmp 9)) (A := Af_1) (k' := .i64) (j := x0) (jn := ((x0).toNat)) (b0 := blkOf Af_1) (o0 := offOf Af_1) (by kernel_rfl) (by kernel_rfl) (by kernel_rfl) (by kernel_rfl) (by kernel_rfl) ((hS1.rd hRf_1).eqSome (pos_of_get hx1)) (Int.toNat_of_nonneg hc1).symm (lt_of_get hx1) ?_
    refine ge_batch [4, 6, 7, 8] (ans := [.val (.string e1.Name), .val (.int .i64 e1.C), .val (.int .i64 e1.T), .val (.int .i64 e1.D), .val (.int .i64 e1.J), .val (.int .i64 e1.O), .val (.int .i64 e1.P), .val (.func (.func 37) #[] #[]), .val (.slice Af_1 lf_1.length cf_1)]) (vs := [(15, .int .i64 x1), (14, .slice Af_1 lf_1.length cf_1), (13, .func (.func 37) #[] #[]), (11, .agg #[.string e1.Name, .int .i64 e1.C, .int .i64 e1.T, .int .i64 e1.D, .int .i64 e1.J, .int .i64 e1.O, .int .i64 e1.P])]) (l := [.loaded ⟨blkOf Af_1, offOf Af_1 + ((x0).toNat) * 7, none⟩ (.string e1.Name), .loaded ⟨blkOf Af_1, offOf Af_1 + ((x0).toNat) * 7 + 1, none⟩ (.int .i64 e1.C), .loaded ⟨blkOf Af_1, offOf Af_1 + ((x0).toNat) * 7 + 2, none⟩ (.int .i64 e1.T), .loaded ⟨blkOf Af_1, offOf Af_1 + ((x0).toNat) * 7 + 3, none⟩ (.int .i64 e1.D), .loaded ⟨blkOf Af_1, offOf Af_1 + ((x0).toNat) * 7 + 4, none⟩ (.int .i64 e1.J), .loaded ⟨blkOf Af_1, offOf Af_1 + ((x0).toNat) * 7 + 5, none⟩ (.int .i64 e1.O), .loaded ⟨blkOf Af_1, offOf Af_1 + ((x0).toNat) * 7 + 6, none⟩ (.int .i64 e1.P), .loaded ⟨bf_0, 0, none⟩ (.func (.func 37) #[] #[]), .loaded ⟨bf_1, 0, none⟩ (.slice Af_1 lf_1.length cf_1)]) (by kernel_rfl) ⟨RdL.cell (j := 0) (hS1.rd hRf_1) hx1 rfl, RdL.cell (j := 1) (hS1.rd hRf_1) hx1 rfl, RdL.cell (j := 2) (hS1.rd hRf_1) hx1 rfl, RdL.cell (j := 3) (hS1.rd hRf_1) hx1 rfl, RdL.cell (j := 4) (hS1.rd hRf_1) hx1 rfl, RdL.cell (j := 5) (hS1.rd hRf_1) hx1 rfl, RdL.cell (j := 6) (hS1.rd hRf_1) hx1 rfl, hS1.glob hBf_0 rfl, hS1.glob hBf_1 rfl, trivial⟩ ?_
    by_cases hc2 : 0 ≤ x1
    · rw [if_pos hc2] at h
      rcases hx2 : lf_1[(x1).toNat]? with _ | e2
      · rw [hx2] at h; cases h
      rw [hx2] at h
      simp only [] at h
      refine ge_index (d := 16) (ty := 0) (t := 22) (el := 46) (sz := 7) (m := lf_1.length) (c := cf_1) (x := (.tmp 14)) (y := (.tmp 15)) (A := Af_1) (k' := .i64) (j := x1) (jn := ((x1).toNat)) (b0 := blkOf Af_1) (o0 := offOf Af_1) (by kernel_rfl) (by kernel_rfl) (by kernel_rfl) (by kernel_rfl) (by kernel_rfl) ((hS1.rd hRf_1).eqSome (pos_of_get hx2)) (Int.toNat_of_nonneg hc2).symm (lt_of_get hx2) ?_
      refine ge_batch [10] (ans := [.val (.string e2.Name), .val (.int .i64 e2.C), .val (.int .i64 e2.T), .val (.int .i64 e2.D), .val (.int .i64 e2.J), .val (.int .i64 e2.O), .val (.int .i64 e2.P)]) (vs := [(17, .agg #[.string e2.Name, .int .i64 e2.C, .int .i64 e2.T, .int .i64 e2.D, .int .i64 e2.J, .int .i64 e2.O, .int .i64 e2.P])]) (l := [.loaded ⟨blkOf Af_1, offOf Af_1 + ((x1).toNat) * 7, none⟩ (.string e2.Name), .loaded ⟨blkOf Af_1, offOf Af_1 + ((x1).toNat) * 7 + 1, none⟩ (.int .i64 e2.C), .loaded ⟨blkOf Af_1, offOf Af_1 + ((x1).toNat) * 7 + 2, none⟩ (.int .i64 e2.T), .loaded ⟨blkOf Af_1, offOf Af_1 + ((x1).toNat) * 7 + 3, none⟩ (.int .i64 e2.D), .loaded ⟨blkOf Af_1, offOf Af_1 + ((x1).toNat) * 7 + 4, none⟩ (.int .i64 e2.J), .loaded ⟨blkOf Af_1, offOf Af_1 + ((x1).toNat) * 7 + 5, none⟩ (.int .i64 e2.O), .loaded ⟨blkOf Af_1, offOf Af_1 + ((x1).toNat) * 7 + 6, none⟩ (.int .i64 e2.P)]) (by kernel_rfl) ⟨RdL.cell (j := 0) (hS1.rd hRf_1) hx2 rfl, RdL.cell (j := 1) (hS1.rd hRf_1) hx2 rfl, RdL.cell (j := 2) (hS1.rd hRf_1) hx2 rfl, RdL.cell (j := 3) (hS1.rd hRf_1) hx2 rfl, RdL.cell (j := 4) (hS1.rd hRf_1) hx2 rfl, RdL.cell (j := 5) (hS1.rd hRf_1) hx2 rfl, RdL.cell (j := 6) (hS1.rd hRf_1) hx2 rfl, trivial⟩ ?_
      refine ge_call (d := some 12) (f := 37) (args := #[.agg #[.string e1.Name, .int .i64 e1.C, .int .i64 e1.T, .int .i64 e1.D, .int .i64 e1.J, .int .i64 e1.O, .int .i64 e1.P]]) (by kernel_rfl) (fixed_Deadlines_1_ok e1 _ _ rfl) ?_
      rintro _ w1 ⟨rfl, hS2⟩
      refine ⟨_, rfl, hS2.below, ?_⟩
      have hS3 := hS1.call hS2
      refine ge_call (d := some 18) (f := 37) (args := #[.agg #[.string e2.Name, .int .i64 e2.C, .int .i64 e2.T, .int .i64 e2.D, .int .i64 e2.J, .int .i64 e2.O, .int .i64 e2.P]]) (by kernel_rfl) (fixed_Deadlines_1_ok e2 _ _ rfl) ?_
      rintro _ w2 ⟨rfl, hS4⟩
      refine ⟨_, rfl, hS4.below, ?_⟩
      have hS5 := hS3.call hS4
      refine ge_call (d := some 19) (f := 42) (args := #[.int .i64 (fixed_Deadlines_1.f e1), .int .i64 (fixed_Deadlines_1.f e2)]) (by kernel_rfl) (cmp_Compare_int_ok (fixed_Deadlines_1.f e1) (fixed_Deadlines_1.f e2) _ _ rfl) ?_
      rintro _ w3 ⟨rfl, hS6⟩
      refine ⟨_, rfl, hS6.below, ?_⟩
      have hS7 := hS5.call hS6
      refine ge_batch [13] (ans := []) (vs := [(6, .int .i64 (cmp_Compare_int.f (fixed_Deadlines_1.f e1) (fixed_Deadlines_1.f e2)))]) (l := []) (by kernel_rfl) trivial ?_
      refine ge_nil fun a hF => hK2 _ _ ?_ a hF
      obtain rfl := Option.some.inj h
      exact we_ret (post_ret (rs := [.tmp 6]) (ans := []) (vs := [.int .i64 (cmp_Compare_int.f (fixed_Deadlines_1.f e1) (fixed_Deadlines_1.f e2))]) (l := []) rfl (by kernel_rfl) trivial ⟨rfl, hS7⟩)
    · rw [if_neg hc2] at h
      cases h
  · rw [if_neg hc1] at h
    cases h

/-! slices.insertionSortCmpFunc[int] -/
abbrev slices_insertionSortCmpFunc_int.Post (w0 : World) (l0 : List Int) (A0 : Option Addr) (c0 : Nat) (x1 : Int) (x2 : Int) (bg3_0 : Nat) (bg3_1 : Nat) (lg3_1 : List STask) (Ag3_1 : Option Addr) (cg3_1 : Nat) (LT : List Own) (r : List Int) (e : Ending) (w : World) : Prop := e = .returned (.tuple #[]) ∧ l0.length = r.length ∧ St w0 w [Own.of (.slice A0 r.length c0) 3 r, Own.blk bg3_0 (.cells #[.func (.func 37) #[] #[]] 74 (0, 0)), Own.blk bg3_1 (.cells #[.slice Ag3_1 lg3_1.length cg3_1] 22 (0, 0)), Own.all LT]
def slices_insertionSortCmpFunc_int.r1 (x1 : Int) (lg3_1 : List STask) : Int × (List Int) → Option ((Int × (List Int)) ⊕ ((List Int) ⊕ (List Int)))
  | (z2, m3) =>
    if z2 > x1 then
      if 0 ≤ z2 then
        match m3[(z2).toNat]? with
        | none => none
        | some e1 =>
          if 0 ≤ (IntKind.i64.wrap (z2 - 1)) then
            match m3[(IntKind.i64.wrap (z2 - 1)).toNat]? with
            | none => none
            | some e2 =>
              match fixed_ranked_1.f e1 e2 lg3_1 with
              | none => none
              | some r1 =>
                if r1 < 0 then
                  match (m3.set ((z2).toNat) e2)[(IntKind.i64.wrap (z2 - 1)).toNat]? with
                  | none => none
                  | some e3 =>
                    some (.inl (IntKind.i64.wrap (z2 - 1), ((m3.set ((z2).toNat) e2).set ((IntKind.i64.wrap (z2 - 1)).toNat) e1)))
                else
                  some (.inr (.inl m3))
          else
            none
      else
        none
    else
      some (.inr (.inl m3))
def slices_insertionSortCmpFunc_int.r0 (K : Nat) (x1 : Int) (x2 : Int) (lg3_1 : List STask) : Int × (List Int) → Option ((Int × (List Int)) ⊕ ((List Int) ⊕ (List Int)))
  | (z1, m1) =>
    if z1 < x2 then
      match iter (slices_insertionSortCmpFunc_int.r1 x1 lg3_1) K (z1, m1) with
      | none => none
      | some (.inl m5) =>
        some (.inl (IntKind.i64.wrap (z1 + 1), m5))
      | some (.inr rr1) =>
        some (.inr (.inr rr1))
    else
      some (.inr (.inl m1))
def slices_insertionSortCmpFunc_int.f (K : Nat) (l0 : List Int) (x1 : Int) (x2 : Int) (lg3_1 : List STask) : Option (List Int) :=
  match iter (slices_insertionSortCmpFunc_int.r0 K x1 x2 lg3_1) K (IntKind.i64.wrap (x1 + 1), l0) with
  | none => none
  | some (.inl m6) =>
    some m6
  | some (.inr rr2) =>
    some rr2
abbrev slices_insertionSortCmpFunc_int.A1 (K : Nat) (w0 : World) (l0 : List Int) (A0 : Option Addr) (c0 : Nat) (x1 : Int) (x2 : Int) (bg3_0 : Nat) (bg3_1 : Nat) (lg3_1 : List STask) (Ag3_1 : Option Addr) (cg3_1 : Nat) (LT : List Own) (hRg3_1 : RdL w0 Ag3_1 lg3_1) (hLg3_1 : lg3_1.length ≤ cg3_1) (z1 : Int) (m1 : List Int) (hLio1 : l0.length = m1.length) (hc1 : z1 < x2) : (Int × (List Int)) → Act → World → Prop := fun (s : Int × (List Int)) a w => l0.length = s.2.length ∧ St w0 w [Own.blk bg3_0 (.cells #[.func (.func 37) #[] #[]] 74 (0, 0)), Own.blk bg3_1 (.cells #[.slice Ag3_1 lg3_1.length cg3_1] 22 (0, 0)), Own.of (.slice A0 s.2.length c0) 3 s.2, Own.all LT] ∧ Frm 53 a [(0, (.slice A0 s.2.length c0)), (1, .int .i64 x1), (2, .int .i64 x2), (3, .func (.func 59) #[] #[.pointer (some ⟨bg3_0, 0, none⟩), .pointer (some ⟨bg3_1, 0, none⟩)]), (8, .int .i64 z1), (9, .int .i64 s.1)]
abbrev slices_insertionSortCmpFunc_int.B1 (K : Nat) (w0 : World) (l0 : List Int) (A0 : Option Addr) (c0 : Nat) (x1 : Int) (x2 : Int) (bg3_0 : Nat) (bg3_1 : Nat) (lg3_1 : List STask) (Ag3_1 : Option Addr) (cg3_1 : Nat) (LT : List Own) (hRg3_1 : RdL w0 Ag3_1 lg3_1) (hLg3_1 : lg3_1.length ≤ cg3_1) (z1 : Int) (m1 : List Int) (hLio1 : l0.length = m1.length) (hc1 : z1 < x2) : ((List Int) ⊕ (List Int)) → Exit → Act → World → Prop := Exits 2 (fun (s : (List Int)) a w => l0.length = s.length ∧ St w0 w [Own.blk bg3_0 (.cells #[.func (.func 37) #[] #[]] 74 (0, 0)), Own.blk bg3_1 (.cells #[.slice Ag3_1 lg3_1.length cg3_1] 22 (0, 0)), Own.of (.slice A0 s.length c0) 3 s, Own.all LT] ∧ Frm 53 a [(0, (.slice A0 s.length c0)), (1, .int .i64 x1), (2, .int .i64 x2), (3, .func (.func 59) #[] #[.pointer (some ⟨bg3_0, 0, none⟩), .pointer (some ⟨bg3_1, 0, none⟩)]), (8, .int .i64 z1)]) (Rets Try.prog Try.f69 (slices_insertionSortCmpFunc_int.Post w0 l0 A0 c0 x1 x2 bg3_0 bg3_1 lg3_1 Ag3_1 cg3_1 LT))
theorem slices_insertionSortCmpFunc_int_r1 (K : Nat) (w0 : World) (l0 : List Int) (A0 : Option Addr) (c0 : Nat) (x1 : Int) (x2 : Int) (bg3_0 : Nat) (bg3_1 : Nat) (lg3_1 : List STask) (Ag3_1 : Option Addr) (cg3_1 : Nat) (LT : List Own) (hRg3_1 : RdL w0 Ag3_1 lg3_1) (hLg3_1 : lg3_1.length ≤ cg3_1) (z1 : Int) (m1 : List Int) (hLio1 : l0.length = m1.length) (hc1 : z1 < x2) (s : Int × (List Int)) (o : (Int × (List Int)) ⊕ ((List Int) ⊕ (List Int))) (h : slices_insertionSortCmpFunc_int.r1 x1 lg3_1 s = some o) (a : Act) (w : World) (hA : slices_insertionSortCmpFunc_int.A1 K w0 l0 A0 c0 x1 x2 bg3_0 bg3_1 lg3_1 Ag3_1 cg3_1 LT hRg3_1 hLg3_1 z1 m1 hLio1 hc1 s a w) (Q : Exit → Act → World → Prop) (hQ : ∀ x a w, Outs (slices_insertionSortCmpFunc_int.A1 K w0 l0 A0 c0 x1 x2 bg3_0 bg3_1 lg3_1 Ag3_1 cg3_1 LT hRg3_1 hLg3_1 z1 m1 hLio1 hc1) (slices_insertionSortCmpFunc_int.B1 K w0 l0 A0 c0 x1 x2 bg3_0 bg3_1 lg3_1 Ag3_1 cg3_1 LT hRg3_1 hLg3_1 z1 m1 hLio1 hc1) o x a w → Q x a w) : (subF Try.f69 [1, 0, 0, 1, 0, 0, 1, 0, 0]).wp Try.prog Q a w := by
  obtain ⟨z2, m3⟩ := s
  obtain ⟨hLio3, hS, hF⟩ := hA
  replace hS : St w0 w [Own.blk bg3_0 (.cells #[.func (.func 37) #[] #[]] 74 (0, 0)), Own.blk bg3_1 (.cells #[.slice Ag3_1 lg3_1.length cg3_1] 22 (0, 0)), Own.of (.slice A0 m3.length c0) 3 m3, Own.all LT] := hS
  simp only [slices_insertionSortCmpFunc_int.r1] at h
  refine (?_ : WE Try.prog 53 (subF Try.f69 [1, 0, 0, 1, 0, 0, 1, 0, 0]) Q [(0, (.slice A0 m3.length c0)), (1, .int .i64 x1), (2, .int .i64 x2), (3, .func (.func 59) #[] #[.pointer (some ⟨bg3_0, 0, none⟩), .pointer (some ⟨bg3_1, 0, none⟩)]), (8, .int .i64 z1), (9, .int .i64 z2)] w) a hF
  clear hF a
  refine we_seq fun K6 hK6 => ?_
  refine we_seq fun K7 hK7 => ?_
  refine we_draws (by kernel_rfl) [(0, 0), (1, 0), (2, 0), (3, 0), (4, 0), (5, 0), (6, 0), (7, 0), (8, 0), (9, 0), (10, 0), (11, 0), (12, 0), (13, 0), (14, 1), (15, 0), (16, 0)] (by kernel_rfl) ?_
  have hS9 := hS.drew
  refine ge_batch [0, 1, 2, 3] (ans := []) (vs := [(21, .bool (decide (z2 > x1))), (20, .bool (decide (z2 > x1))), (19, .int .i64 x1), (18, .int .i64 z2)]) (l := []) (by kernel_rfl) trivial ?_
  by_cases hc2 : z2 > x1
  · rw [if_pos hc2] at h
    refine ge_known (t := 21) (b := decide (z2 > x1)) (c := true) (by kernel_rfl) (decide_eq_true hc2) ?_
    refine ge_batch [4, 5, 6] (ans := []) (vs := [(24, .int .i64 z2), (23, (.slice A0 m3.length c0)), (22, .func (.func 59) #[] #[.pointer (some ⟨bg3_0, 0, none⟩), .pointer (some ⟨bg3_1, 0, none⟩)])]) (l := []) (by kernel_rfl) trivial ?_
    by_cases hc3 : 0 ≤ z2
    · rw [if_pos hc3] at h
      rcases hx1 : m3[(z2).toNat]? with _ | e1
      · rw [hx1] at h; cases h
      rw [hx1] at h
      simp only [] at h
      refine ge_index (d := 25) (ty := 0) (t := 24) (el := 3) (sz := 1) (m := m3.length) (c := c0) (x := (.tmp 23)) (y := (.tmp 24)) (A := A0) (k' := .i64) (j := z2) (jn := ((z2).toNat)) (b0 := blkOf A0) (o0 := offOf A0) (by kernel_rfl) (by kernel_rfl) (by kernel_rfl) (by kernel_rfl) (by kernel_rfl) ((hS9.rdAt 2 rfl).eqSome (pos_of_get hx1)) (Int.toNat_of_nonneg hc3).symm (lt_of_get hx1) ?_
      refine ge_batch [8, 9, 10, 11] (ans := [.val (.int .i64 e1)]) (vs := [(29, .int .i64 (IntKind.i64.wrap (z2 - 1))), (28, .int .i64 z2), (27, (.slice A0 m3.length c0)), (26, .int .i64 e1)]) (l := [.loaded ⟨blkOf A0, offOf A0 + ((z2).toNat) * 1, none⟩ (.int .i64 e1)]) (by kernel_rfl) ⟨RdL.cell (j := 0) (hS9.rdAt 2 rfl) hx1 rfl, trivial⟩ ?_
      by_cases hc4 : 0 ≤ (IntKind.i64.wrap (z2 - 1))
      · rw [if_pos hc4] at h
        rcases hx2 : m3[(IntKind.i64.wrap (z2 - 1)).toNat]? with _ | e2
        · rw [hx2] at h; cases h
        rw [hx2] at h
        simp only [] at h
        refine ge_index (d := 30) (ty := 0) (t := 24) (el := 3) (sz := 1) (m := m3.length) (c := c0) (x := (.tmp 27)) (y := (.tmp 29)) (A := A0) (k' := .i64) (j := (IntKind.i64.wrap (z2 - 1))) (jn := ((IntKind.i64.wrap (z2 - 1)).toNat)) (b0 := blkOf A0) (o0 := offOf A0) (by kernel_rfl) (by kernel_rfl) (by kernel_rfl) (by kernel_rfl) (by kernel_rfl) ((hS9.rdAt 2 rfl).eqSome (pos_of_get hx2)) (Int.toNat_of_nonneg hc4).symm (lt_of_get hx2) ?_
        rcases hq1 : fixed_ranked_1.f e1 e2 lg3_1 with _ | r1
        · rw [hq1] at h; cases h
        rw [hq1] at h
        simp only [] at h
        refine ge_batch [13] (ans := [.val (.int .i64 e2)]) (vs := [(31, .int .i64 e2)]) (l := [.loaded ⟨blkOf A0, offOf A0 + ((IntKind.i64.wrap (z2 - 1)).toNat) * 1, none⟩ (.int .i64 e2)]) (by kernel_rfl) ⟨RdL.cell (j := 0) (hS9.rdAt 2 rfl) hx2 rfl, trivial⟩ ?_
        refine ge_call (d := some 32) (f := 59) (args := #[.int .i64 e1, .int .i64 e2, .pointer (some ⟨bg3_0, 0, none⟩), .pointer (some ⟨bg3_1, 0, none⟩)]) (by kernel_rfl) (fixed_ranked_1_ok e1 e2 bg3_0 bg3_1 lg3_1 Ag3_1 cg3_1 _ (hS9.globOf 0 rfl) (hS9.rd hRg3_1) hLg3_1 (hS9.globOf 1 rfl) _ hq1) ?_
        rintro _ w1 ⟨rfl, hS10⟩
        refine ⟨_, rfl, hS10.below, ?_⟩
        have hS11 := hS9.call hS10
        refine ge_batch [15, 16] (ans := []) (vs := [(34, .bool (decide (r1 < 0))), (33, .bool (decide (r1 < 0)))]) (l := []) (by kernel_rfl) trivial ?_
        refine ge_nil fun a hF => hK7 _ _ ?_ a hF
        by_cases hc5 : r1 < 0
        · rw [if_pos hc5] at h
          refine we_known (t := 34) (b := decide (r1 < 0)) (v := true) (by kernel_rfl) (decide_eq_true hc5) ?_
          refine we_true (by kernel_rfl) ?_
          refine we_skip fun a hF => hK6 _ _ ?_ a hF
          refine we_seq fun K8 hK8 => ?_
          refine we_block ?_
          refine we_orders2 (by kernel_rfl) [(9, [⟨blkOf A0, offOf A0 + ((IntKind.i64.wrap (z2 - 1)).toNat) * 1, none⟩]), (13, [⟨blkOf A0, offOf A0 + ((z2).toNat) * 1, none⟩])] (.vals [0] (.vals [1] (.vals [2] (.vals [3] (.vals [4] (.vals [5] (.vals [6] (.vals [7] (.vals [8] (.vals [9] (.vals [10] (.vals [11] (.vals [12] (.vals [13] (.vals [14] (.alt 15 2 (.vals [16] (.alt 17 2 .fin .nomore)) .nomore)))))))))))))))) (by kernel_rfl) ?_
          have hS12 := hS11.drew
          refine go2_batch [0, 1, 2, 3, 4, 5, 6, 7] (ans := []) (vs := [(44, .int .i64 (IntKind.i64.wrap (z2 - 1))), (43, .int .i64 z2), (42, (.slice A0 m3.length c0)), (41, .int .i64 (IntKind.i64.wrap (z2 - 1))), (40, .int .i64 z2), (39, (.slice A0 m3.length c0)), (38, .int .i64 z2), (37, (.slice A0 m3.length c0))]) (l := []) (by kernel_rfl) trivial mem_nil ?_
          refine go2_index (d := 45) (ty := 0) (t := 24) (el := 3) (sz := 1) (m := m3.length) (c := c0) (x := (.tmp 42)) (y := (.tmp 44)) (A := A0) (k' := .i64) (j := (IntKind.i64.wrap (z2 - 1))) (jn := ((IntKind.i64.wrap (z2 - 1)).toNat)) (b0 := blkOf A0) (o0 := offOf A0) (by kernel_rfl) (by kernel_rfl) (by kernel_rfl) (by kernel_rfl) (by kernel_rfl) ((hS12.rdAt 2 rfl).eqSome (pos_of_get hx2)) (Int.toNat_of_nonneg hc4).symm (lt_of_get hx2) ?_
          refine go2_batch [9] (ans := [.val (.int .i64 e2)]) (vs := [(46, .int .i64 e2)]) (l := [.loaded ⟨blkOf A0, offOf A0 + ((IntKind.i64.wrap (z2 - 1)).toNat) * 1, none⟩ (.int .i64 e2)]) (by kernel_rfl) ⟨RdL.cell (j := 0) (hS12.rdAt 2 rfl) hx2 rfl, trivial⟩ (mem_one (by kernel_rfl)) ?_
          refine go2_batch [10, 11] (ans := []) (vs := [(48, .int .i64 z2), (47, (.slice A0 m3.length c0))]) (l := []) (by kernel_rfl) trivial mem_nil ?_
          refine go2_index (d := 49) (ty := 0) (t := 24) (el := 3) (sz := 1) (m := m3.length) (c := c0) (x := (.tmp 47)) (y := (.tmp 48)) (A := A0) (k' := .i64) (j := z2) (jn := ((z2).toNat)) (b0 := blkOf A0) (o0 := offOf A0) (by kernel_rfl) (by kernel_rfl) (by kernel_rfl) (by kernel_rfl) (by kernel_rfl) ((hS12.rdAt 2 rfl).eqSome (pos_of_get hx1)) (Int.toNat_of_nonneg hc3).symm (lt_of_get hx1) ?_
          refine go2_batch [13] (ans := [.val (.int .i64 e1)]) (vs := [(50, .int .i64 e1)]) (l := [.loaded ⟨blkOf A0, offOf A0 + ((z2).toNat) * 1, none⟩ (.int .i64 e1)]) (by kernel_rfl) ⟨RdL.cell (j := 0) (hS12.rdAt 2 rfl) hx1 rfl, trivial⟩ (mem_one (by kernel_rfl)) ?_
          refine go2_index (d := 51) (ty := 0) (t := 24) (el := 3) (sz := 1) (m := m3.length) (c := c0) (x := (.tmp 37)) (y := (.tmp 38)) (A := A0) (k' := .i64) (j := z2) (jn := ((z2).toNat)) (b0 := blkOf A0) (o0 := offOf A0) (by kernel_rfl) (by kernel_rfl) (by kernel_rfl) (by kernel_rfl) (by kernel_rfl) ((hS12.rdAt 2 rfl).eqSome (pos_of_get hx1)) (Int.toNat_of_nonneg hc3).symm (lt_of_get hx1) ?_
          refine go_alt2 (fun KK hKK => ?_) ?_
          · have hS13 := hS12.bring 2 rfl
            refine ge_seti (α := Int) (A := A0) (nn := m3.length) (c := c0) (t := 3) (l := m3) (x := e1) (x' := e2) (jn := ((z2).toNat)) (j := 0) (vs := [.int .i64 e2]) (l' := [.stored ⟨blkOf A0, offOf A0 + ((z2).toNat) * 1, none⟩ (.int .i64 e2)]) hS13 (by kernel_rfl) (by kernel_rfl) hx1 rfl rfl rfl fun w2 hS14 => ?_
            have hS15 : St w0 w2 [Own.of (.slice A0 m3.length c0) 3 (m3.set ((z2).toNat) e2), Own.blk bg3_0 (.cells #[.func (.func 37) #[] #[]] 74 (0, 0)), Own.blk bg3_1 (.cells #[.slice Ag3_1 lg3_1.length cg3_1] 22 (0, 0)), Own.all LT] := hS14
            have hE1 : m3.length = (m3.set ((z2).toNat) e2).length := hS15.lenAt 0 rfl
            have hS16 : St w0 w2 [Own.of (.slice A0 (m3.set ((z2).toNat) e2).length c0) 3 (m3.set ((z2).toNat) e2), Own.blk bg3_0 (.cells #[.func (.func 37) #[] #[]] 74 (0, 0)), Own.blk bg3_1 (.cells #[.slice Ag3_1 lg3_1.length cg3_1] 22 (0, 0)), Own.all LT] := by rw [← hE1]; exact hS15
            refine ge_same (t := 0) (v := (.slice A0 m3.length c0)) (v' := (.slice A0 (m3.set ((z2).toNat) e2).length c0)) (by kernel_rfl) (by rw [hE1]) ?_
            refine ge_same (t := 23) (v := (.slice A0 m3.length c0)) (v' := (.slice A0 (m3.set ((z2).toNat) e2).length c0)) (by kernel_rfl) (by rw [hE1]) ?_
            refine ge_same (t := 27) (v := (.slice A0 m3.length c0)) (v' := (.slice A0 (m3.set ((z2).toNat) e2).length c0)) (by kernel_rfl) (by rw [hE1]) ?_
            refine ge_same (t := 37) (v := (.slice A0 m3.length c0)) (v' := (.slice A0 (m3.set ((z2).toNat) e2).length c0)) (by kernel_rfl) (by rw [hE1]) ?_
            refine ge_same (t := 39) (v := (.slice A0 m3.length c0)) (v' := (.slice A0 (m3.set ((z2).toNat) e2).length c0)) (by kernel_rfl) (by rw [hE1]) ?_
            refine ge_same (t := 42) (v := (.slice A0 m3.length c0)) (v' := (.slice A0 (m3.set ((z2).toNat) e2).length c0)) (by kernel_rfl) (by rw [hE1]) ?_
            refine ge_same (t := 47) (v := (.slice A0 m3.length c0)) (v' := (.slice A0 (m3.set ((z2).toNat) e2).length c0)) (by kernel_rfl) (by rw [hE1]) ?_
            refine ge_nil fun a hF => hKK _ _ (RS.of2 (l := []) (by kernel_rfl) trivial trivial) ?_ a hF
            rcases hx3 : (m3.set ((z2).toNat) e2)[(IntKind.i64.wrap (z2 - 1)).toNat]? with _ | e3
            · rw [hx3] at h; cases h
            rw [hx3] at h
            simp only [] at h
            refine go2_index (d := 52) (ty := 0) (t := 24) (el := 3) (sz := 1) (m := (m3.set ((z2).toNat) e2).length) (c := c0) (x := (.tmp 39)) (y := (.tmp 41)) (A := A0) (k' := .i64) (j := (IntKind.i64.wrap (z2 - 1))) (jn := ((IntKind.i64.wrap (z2 - 1)).toNat)) (b0 := blkOf A0) (o0 := offOf A0) (by kernel_rfl) (by kernel_rfl) (by kernel_rfl) (by kernel_rfl) (by kernel_rfl) ((hS16.rdAt 0 rfl).eqSome (pos_of_get hx3)) (Int.toNat_of_nonneg hc4).symm (lt_of_get hx3) ?_
            refine go_alt2 (fun KK hKK => ?_) ?_
            · refine ge_seti (α := Int) (A := A0) (nn := ((m3.set ((z2).toNat) e2).length)) (c := c0) (t := 3) (l := (m3.set ((z2).toNat) e2)) (x := e3) (x' := e1) (jn := ((IntKind.i64.wrap (z2 - 1)).toNat)) (j := 0) (vs := [.int .i64 e1]) (l' := [.stored ⟨blkOf A0, offOf A0 + ((IntKind.i64.wrap (z2 - 1)).toNat) * 1, none⟩ (.int .i64 e1)]) hS16 (by kernel_rfl) (by kernel_rfl) hx3 rfl rfl rfl fun w3 hS17 => ?_
              have hS18 : St w0 w3 [Own.of (.slice A0 (m3.set ((z2).toNat) e2).length c0) 3 ((m3.set ((z2).toNat) e2).set ((IntKind.i64.wrap (z2 - 1)).toNat) e1), Own.blk bg3_0 (.cells #[.func (.func 37) #[] #[]] 74 (0, 0)), Own.blk bg3_1 (.cells #[.slice Ag3_1 lg3_1.length cg3_1] 22 (0, 0)), Own.all LT] := hS17
              have hE2 : (m3.set ((z2).toNat) e2).length = ((m3.set ((z2).toNat) e2).set ((IntKind.i64.wrap (z2 - 1)).toNat) e1).length := hS18.lenAt 0 rfl
              have hS19 : St w0 w3 [Own.of (.slice A0 ((m3.set ((z2).toNat) e2).set ((IntKind.i64.wrap (z2 - 1)).toNat) e1).length c0) 3 ((m3.set ((z2).toNat) e2).set ((IntKind.i64.wrap (z2 - 1)).toNat) e1), Own.blk bg3_0 (.cells #[.func (.func 37) #[] #[]] 74 (0, 0)), Own.blk bg3_1 (.cells #[.slice Ag3_1 lg3_1.length cg3_1] 22 (0, 0)), Own.all LT] := by rw [← hE2]; exact hS18
              refine ge_same (t := 0) (v := (.slice A0 (m3.set ((z2).toNat) e2).length c0)) (v' := (.slice A0 ((m3.set ((z2).toNat) e2).set ((IntKind.i64.wrap (z2 - 1)).toNat) e1).length c0)) (by kernel_rfl) (by rw [hE2]) ?_
              refine ge_same (t := 23) (v := (.slice A0 (m3.set ((z2).toNat) e2).length c0)) (v' := (.slice A0 ((m3.set ((z2).toNat) e2).set ((IntKind.i64.wrap (z2 - 1)).toNat) e1).length c0)) (by kernel_rfl) (by rw [hE2]) ?_
              refine ge_same (t := 27) (v := (.slice A0 (m3.set ((z2).toNat) e2).length c0)) (v' := (.slice A0 ((m3.set ((z2).toNat) e2).set ((IntKind.i64.wrap (z2 - 1)).toNat) e1).length c0)) (by kernel_rfl) (by rw [hE2]) ?_
              refine ge_same (t := 37) (v := (.slice A0 (m3.set ((z2).toNat) e2).length c0)) (v' := (.slice A0 ((m3.set ((z2).toNat) e2).set ((IntKind.i64.wrap (z2 - 1)).toNat) e1).length c0)) (by kernel_rfl) (by rw [hE2]) ?_
              refine ge_same (t := 39) (v := (.slice A0 (m3.set ((z2).toNat) e2).length c0)) (v' := (.slice A0 ((m3.set ((z2).toNat) e2).set ((IntKind.i64.wrap (z2 - 1)).toNat) e1).length c0)) (by kernel_rfl) (by rw [hE2]) ?_
              refine ge_same (t := 42) (v := (.slice A0 (m3.set ((z2).toNat) e2).length c0)) (v' := (.slice A0 ((m3.set ((z2).toNat) e2).set ((IntKind.i64.wrap (z2 - 1)).toNat) e1).length c0)) (by kernel_rfl) (by rw [hE2]) ?_
              refine ge_same (t := 47) (v := (.slice A0 (m3.set ((z2).toNat) e2).length c0)) (v' := (.slice A0 ((m3.set ((z2).toNat) e2).set ((IntKind.i64.wrap (z2 - 1)).toNat) e1).length c0)) (by kernel_rfl) (by rw [hE2]) ?_
              refine ge_nil fun a hF => hKK _ _ (RS.of2 (l := []) (by kernel_rfl) trivial trivial) ?_ a hF
              refine go_fin2 fun a hF => hK8 _ _ ?_ a hF
              refine we_region [(0, 0), (1, 0), (2, 0)] rfl ?_
              refine ge_batch [0, 1, 2] (ans := []) (vs := [(9, .int .i64 (IntKind.i64.wrap (z2 - 1))), (36, .int .i64 (IntKind.i64.wrap (z2 - 1))), (35, .int .i64 z2)]) (l := []) (by kernel_rfl) trivial ?_
              have hS20 := hS19.bring 3 rfl
              have hS21 := hS20.bring 1 rfl
              have hS22 := hS21.bring 3 rfl
              have hS23 := hS22.bring 3 rfl
              obtain rfl := Option.some.inj h
              exact ge_nil fun a hF => hQ _ _ _ (Outs.again ⟨(Eq.trans hLio3 (by simp only [List.length_set])), hS23, hF.weaken ⟨by kernel_rfl, by kernel_rfl, by kernel_rfl, by kernel_rfl, by kernel_rfl, by kernel_rfl, trivial⟩⟩)
            exact go_nomore2
          exact go_nomore2
        · rw [if_neg hc5] at h
          refine we_known (t := 34) (b := decide (r1 < 0)) (v := false) (by kernel_rfl) (decide_eq_false hc5) ?_
          refine we_false (by kernel_rfl) ?_
          have hS24 := hS11.bring 3 rfl
          have hS25 := hS24.bring 3 rfl
          have hS26 := hS25.bring 3 rfl
          have hS27 := hS26.bring 3 rfl
          obtain rfl := Option.some.inj h
          exact we_exit fun a hF => hQ _ _ _ (Outs.out nofun (Exits.here ⟨hLio3, hS27, hF.weaken ⟨by kernel_rfl, by kernel_rfl, by kernel_rfl, by kernel_rfl, by kernel_rfl, trivial⟩⟩))
      · rw [if_neg hc4] at h
        cases h
    · rw [if_neg hc3] at h
      cases h
  · rw [if_neg hc2] at h
    refine ge_known (t := 21) (b := decide (z2 > x1)) (c := false) (by kernel_rfl) (decide_eq_false hc2) ?_
    refine ge_batch [4, 5, 6, 7, 8, 9, 10, 11, 12, 13] (ans := []) (vs := [(31, undef), (30, undef), (29, undef), (28, undef), (27, undef), (26, undef), (25, undef), (24, undef), (23, undef), (22, undef)]) (l := []) (by kernel_rfl) trivial ?_
    refine ge_off rfl rfl rfl (by kernel_rfl) ?_
    refine ge_batch [15, 16] (ans := []) (vs := [(34, .bool false), (33, undef)]) (l := []) (by kernel_rfl) trivial ?_
    refine ge_nil fun a hF => hK7 _ _ ?_ a hF
    refine we_false (by kernel_rfl) ?_
    have hS28 := hS9.bring 3 rfl
    have hS29 := hS28.bring 3 rfl
    have hS30 := hS29.bring 3 rfl
    have hS31 := hS30.bring 3 rfl
    obtain rfl := Option.some.inj h
    exact we_exit fun a hF => hQ _ _ _ (Outs.out nofun (Exits.here ⟨hLio3, hS31, hF.weaken ⟨by kernel_rfl, by kernel_rfl, by kernel_rfl, by kernel_rfl, by kernel_rfl, trivial⟩⟩))
abbrev slices_insertionSortCmpFunc_int.A0 (K : Nat) (w0 : World) (l0 : List Int) (A0 : Option Addr) (c0 : Nat) (x1 : Int) (x2 : Int) (bg3_0 : Nat) (bg3_1 : Nat) (lg3_1 : List STask) (Ag3_1 : Option Addr) (cg3_1 : Nat) (LT : List Own) (hRg3_1 : RdL w0 Ag3_1 lg3_1) (hLg3_1 : lg3_1.length ≤ cg3_1) : (Int × (List Int)) → Act → World → Prop := fun (s : Int × (List Int)) a w => l0.length = s.2.length ∧ St w0 w [Own.blk bg3_0 (.cells #[.func (.func 37) #[] #[]] 74 (0, 0)), Own.blk bg3_1 (.cells #[.slice Ag3_1 lg3_1.length cg3_1] 22 (0, 0)), Own.of (.slice A0 s.2.length c0) 3 s.2, Own.all LT] ∧ Frm 53 a [(0, (.slice A0 s.2.length c0)), (1, .int .i64 x1), (2, .int .i64 x2), (3, .func (.func 59) #[] #[.pointer (some ⟨bg3_0, 0, none⟩), .pointer (some ⟨bg3_1, 0, none⟩)]), (8, .int .i64 s.1)]
abbrev slices_insertionSortCmpFunc_int.B0 (K : Nat) (w0 : World) (l0 : List Int) (A0 : Option Addr) (c0 : Nat) (x1 : Int) (x2 : Int) (bg3_0 : Nat) (bg3_1 : Nat) (lg3_1 : List STask) (Ag3_1 : Option Addr) (cg3_1 : Nat) (LT : List Own) (hRg3_1 : RdL w0 Ag3_1 lg3_1) (hLg3_1 : lg3_1.length ≤ cg3_1) : ((List Int) ⊕ (List Int)) → Exit → Act → World → Prop := Exits 0 (fun (s : (List Int)) a w => l0.length = s.length ∧ St w0 w [Own.blk bg3_0 (.cells #[.func (.func 37) #[] #[]] 74 (0, 0)), Own.blk bg3_1 (.cells #[.slice Ag3_1 lg3_1.length cg3_1] 22 (0, 0)), Own.of (.slice A0 s.length c0) 3 s, Own.all LT] ∧ Frm 53 a [(0, (.slice A0 s.length c0)), (3, .func (.func 59) #[] #[.pointer (some ⟨bg3_0, 0, none⟩), .pointer (some ⟨bg3_1, 0, none⟩)])]) (Rets Try.prog Try.f69 (slices_insertionSortCmpFunc_int.Post w0 l0 A0 c0 x1 x2 bg3_0 bg3_1 lg3_1 Ag3_1 cg3_1 LT))
theorem slices_insertionSortCmpFunc_int_r0 (K : Nat) (w0 : World) (l0 : List Int) (A0 : Option Addr) (c0 : Nat) (x1 : Int) (x2 : Int) (bg3_0 : Nat) (bg3_1 : Nat) (lg3_1 : List STask) (Ag3_1 : Option Addr) (cg3_1 : Nat) (LT : List Own) (hRg3_1 : RdL w0 Ag3_1 lg3_1) (hLg3_1 : lg3_1.length ≤ cg3_1) (s : Int × (List Int)) (o : (Int × (List Int)) ⊕ ((List Int) ⊕ (List Int))) (h : slices_insertionSortCmpFunc_int.r0 K x1 x2 lg3_1 s = some o) (a : Act) (w : World) (hA : slices_insertionSortCmpFunc_int.A0 K w0 l0 A0 c0 x1 x2 bg3_0 bg3_1 lg3_1 Ag3_1 cg3_1 LT hRg3_1 hLg3_1 s a w) (Q : Exit → Act → World → Prop) (hQ : ∀ x a w, Outs (slices_insertionSortCmpFunc_int.A0 K w0 l0 A0 c0 x1 x2 bg3_0 bg3_1 lg3_1 Ag3_1 cg3_1 LT hRg3_1 hLg3_1) (slices_insertionSortCmpFunc_int.B0 K w0 l0 A0 c0 x1 x2 bg3_0 bg3_1 lg3_1 Ag3_1 cg3_1 LT hRg3_1 hLg3_1) o x a w → Q x a w) : (subF Try.f69 [1, 0, 0]).wp Try.prog Q a w := by
  obtain ⟨z1, m1⟩ := s
  obtain ⟨hLio1, hS, hF⟩ := hA
  replace hS : St w0 w [Own.blk bg3_0 (.cells #[.func (.func 37) #[] #[]] 74 (0, 0)), Own.blk bg3_1 (.cells #[.slice Ag3_1 lg3_1.length cg3_1] 22 (0, 0)), Own.of (.slice A0 m1.length c0) 3 m1, Own.all LT] := hS
  simp only [slices_insertionSortCmpFunc_int.r0] at h
  refine (?_ : WE Try.prog 53 (subF Try.f69 [1, 0, 0]) Q [(0, (.slice A0 m1.length c0)), (1, .int .i64 x1), (2, .int .i64 x2), (3, .func (.func 59) #[] #[.pointer (some ⟨bg3_0, 0, none⟩), .pointer (some ⟨bg3_1, 0, none⟩)]), (8, .int .i64 z1)] w) a hF
  clear hF a
  refine we_seq fun K2 hK2 => ?_
  refine we_seq fun K3 hK3 => ?_
  refine we_region [(0, 0), (1, 0), (2, 0)] rfl ?_
  refine ge_batch [0, 1, 2] (ans := []) (vs := [(14, .bool (decide (z1 < x2))), (13, .int .i64 x2), (12, .int .i64 z1)]) (l := []) (by kernel_rfl) trivial ?_
  refine ge_nil fun a hF => hK3 _ _ ?_ a hF
  by_cases hc1 : z1 < x2
  · rw [if_pos hc1] at h
    refine we_known (t := 14) (b := decide (z1 < x2)) (v := true) (by kernel_rfl) (decide_eq_true hc1) ?_
    refine we_true (by kernel_rfl) ?_
    refine we_skip fun a hF => hK2 _ _ ?_ a hF
    refine we_seq fun K4 hK4 => ?_
    refine we_block ?_
    refine we_seq fun K5 hK5 => ?_
    refine we_region [(0, 0), (1, 0)] rfl ?_
    refine ge_batch [0, 1] (ans := []) (vs := [(9, .int .i64 z1), (17, .int .i64 z1)]) (l := []) (by kernel_rfl) trivial ?_
    refine ge_nil fun a hF => hK5 _ _ ?_ a hF
    refine we_block ?_
    have hS5 := hS.bring 3 rfl
    have hS6 := hS5.bring 3 rfl
    have hS7 := hS6.bring 3 rfl
    have hS8 := hS7.bring 3 rfl
    rcases hq2 : iter (slices_insertionSortCmpFunc_int.r1 x1 lg3_1) K (z1, m1) with _ | (m5 | rr1)
    · rw [hq2] at h; cases h
    · rw [hq2] at h
      simp only [] at h
      refine we_iter (A := slices_insertionSortCmpFunc_int.A1 K w0 l0 A0 c0 x1 x2 bg3_0 bg3_1 lg3_1 Ag3_1 cg3_1 LT hRg3_1 hLg3_1 z1 m1 hLio1 hc1) (B := slices_insertionSortCmpFunc_int.B1 K w0 l0 A0 c0 x1 x2 bg3_0 bg3_1 lg3_1 Ag3_1 cg3_1 LT hRg3_1 hLg3_1 z1 m1 hLio1 hc1) hq2 (fun a hF => ⟨hLio1, hS8, hF.weaken ⟨by kernel_rfl, by kernel_rfl, by kernel_rfl, by kernel_rfl, by kernel_rfl, by kernel_rfl, trivial⟩⟩) (fun s o hf a w hA Q hQ => slices_insertionSortCmpFunc_int_r1 K w0 l0 A0 c0 x1 x2 bg3_0 bg3_1 lg3_1 Ag3_1 cg3_1 LT hRg3_1 hLg3_1 z1 m1 hLio1 hc1 s o hf a w hA Q hQ) ?_
      rintro _ a w4 _ ⟨rfl, hRz1, hS32, hF⟩
      replace hS32 : St w0 w4 [Own.blk bg3_0 (.cells #[.func (.func 37) #[] #[]] 74 (0, 0)), Own.blk bg3_1 (.cells #[.slice Ag3_1 lg3_1.length cg3_1] 22 (0, 0)), Own.of (.slice A0 m5.length c0) 3 m5, Own.all LT] := hS32
      refine hK4 [(0, (.slice A0 m5.length c0)), (1, .int .i64 x1), (2, .int .i64 x2), (3, .func (.func 59) #[] #[.pointer (some ⟨bg3_0, 0, none⟩), .pointer (some ⟨bg3_1, 0, none⟩)]), (8, .int .i64 z1)] w4 ?_ a hF
      refine we_region [(0, 0), (1, 0), (2, 0)] rfl ?_
      refine ge_batch [0, 1, 2] (ans := []) (vs := [(8, .int .i64 (IntKind.i64.wrap (z1 + 1))), (16, .int .i64 (IntKind.i64.wrap (z1 + 1))), (15, .int .i64 z1)]) (l := []) (by kernel_rfl) trivial ?_
      have hS33 := hS32.bring 3 rfl
      have hS34 := hS33.bring 3 rfl
      have hS35 := hS34.bring 3 rfl
      have hS36 := hS35.bring 3 rfl
      obtain rfl := Option.some.inj h
      exact ge_nil fun a hF => hQ _ _ _ (Outs.again ⟨hRz1, hS36, hF.weaken ⟨by kernel_rfl, by kernel_rfl, by kernel_rfl, by kernel_rfl, by kernel_rfl, trivial⟩⟩)
    · rw [hq2] at h
      simp only [] at h
      refine we_iter (A := slices_insertionSortCmpFunc_int.A1 K w0 l0 A0 c0 x1 x2 bg3_0 bg3_1 lg3_1 Ag3_1 cg3_1 LT hRg3_1 hLg3_1 z1 m1 hLio1 hc1) (B := slices_insertionSortCmpFunc_int.B1 K w0 l0 A0 c0 x1 x2 bg3_0 bg3_1 lg3_1 Ag3_1 cg3_1 LT hRg3_1 hLg3_1 z1 m1 hLio1 hc1) hq2 (fun a hF => ⟨hLio1, hS8, hF.weaken ⟨by kernel_rfl, by kernel_rfl, by kernel_rfl, by kernel_rfl, by kernel_rfl, by kernel_rfl, trivial⟩⟩) (fun s o hf a w hA Q hQ => slices_insertionSortCmpFunc_int_r1 K w0 l0 A0 c0 x1 x2 bg3_0 bg3_1 lg3_1 Ag3_1 cg3_1 LT hRg3_1 hLg3_1 z1 m1 hLio1 hc1 s o hf a w hA Q hQ) ?_
      rintro _ a w1 _ ⟨rfl, hb⟩
      obtain rfl := Option.some.inj h
      exact hQ _ _ _ (Outs.out nofun (Exits.on ⟨rfl, hb⟩))
  · rw [if_neg hc1] at h
    refine we_known (t := 14) (b := decide (z1 < x2)) (v := false) (by kernel_rfl) (decide_eq_false hc1) ?_
    refine we_false (by kernel_rfl) ?_
    have hS37 := hS.bring 3 rfl
    have hS38 := hS37.bring 3 rfl
    have hS39 := hS38.bring 3 rfl
    have hS40 := hS39.bring 3 rfl
    obtain rfl := Option.some.inj h
    exact we_exit fun a hF => hQ _ _ _ (Outs.out nofun (Exits.here ⟨hLio1, hS40, hF.weaken ⟨by kernel_rfl, by kernel_rfl, trivial⟩⟩))
theorem slices_insertionSortCmpFunc_int_ok (K : Nat) (l0 : List Int) (A0 : Option Addr) (c0 : Nat) (x1 : Int) (x2 : Int) (bg3_0 : Nat) (bg3_1 : Nat) (lg3_1 : List STask) (Ag3_1 : Option Addr) (cg3_1 : Nat) (w0 wE : World) (LT : List Own) (hS : St w0 wE [Own.of (.slice A0 l0.length c0) 3 l0, Own.blk bg3_0 (.cells #[.func (.func 37) #[] #[]] 74 (0, 0)), Own.blk bg3_1 (.cells #[.slice Ag3_1 lg3_1.length cg3_1] 22 (0, 0)), Own.all LT]) (hRg3_1 : RdL w0 Ag3_1 lg3_1) (hLg3_1 : lg3_1.length ≤ cg3_1) (r : List Int) (h : slices_insertionSortCmpFunc_int.f K l0 x1 x2 lg3_1 = some r) :
    Calls Try.prog 69 #[(.slice A0 l0.length c0), .int .i64 x1, .int .i64 x2, .func (.func 59) #[] #[.pointer (some ⟨bg3_0, 0, none⟩), .pointer (some ⟨bg3_1, 0, none⟩)]] wE (slices_insertionSortCmpFunc_int.Post w0 l0 A0 c0 x1 x2 bg3_0 bg3_1 lg3_1 Ag3_1 cg3_1 LT r) := by
  unfold slices_insertionSortCmpFunc_int.f at h
  refine calls_enter (n := 53) (args := [(.slice A0 l0.length c0), .int .i64 x1, .int .i64 x2, .func (.func 59) #[] #[.pointer (some ⟨bg3_0, 0, none⟩), .pointer (some ⟨bg3_1, 0, none⟩)]]) (fn := Try.f69) rfl rfl rfl rfl ?_
  show WE _ _ _ _ [(0, (.slice A0 l0.length c0)), (1, .int .i64 x1), (2, .int .i64 x2), (3, .func (.func 59) #[] #[.pointer (some ⟨bg3_0, 0, none⟩), .pointer (some ⟨bg3_1, 0, none⟩)])] _
  refine we_seq fun K1 hK1 => ?_
  refine we_region [(0, 0), (1, 0), (2, 0)] rfl ?_
  refine ge_batch [0, 1, 2] (ans := []) (vs := [(8, .int .i64 (IntKind.i64.wrap (x1 + 1))), (11, .int .i64 (IntKind.i64.wrap (x1 + 1))), (10, .int .i64 x1)]) (l := []) (by kernel_rfl) trivial ?_
  refine ge_nil fun a hF => hK1 _ _ ?_ a hF
  refine we_block ?_
  have hS1 := hS.bring 3 rfl
  have hS2 := hS1.bring 1 rfl
  have hS3 := hS2.bring 3 rfl
  have hS4 := hS3.bring 3 rfl
  rcases hq3 : iter (slices_insertionSortCmpFunc_int.r0 K x1 x2 lg3_1) K (IntKind.i64.wrap (x1 + 1), l0) with _ | (m6 | rr2)
  · rw [hq3] at h; cases h
  · rw [hq3] at h
    simp only [] at h
    refine we_iter (A := slices_insertionSortCmpFunc_int.A0 K w0 l0 A0 c0 x1 x2 bg3_0 bg3_1 lg3_1 Ag3_1 cg3_1 LT hRg3_1 hLg3_1) (B := slices_insertionSortCmpFunc_int.B0 K w0 l0 A0 c0 x1 x2 bg3_0 bg3_1 lg3_1 Ag3_1 cg3_1 LT hRg3_1 hLg3_1) hq3 (fun a hF => ⟨rfl, hS4, hF.weaken ⟨by kernel_rfl, by kernel_rfl, by kernel_rfl, by kernel_rfl, by kernel_rfl, trivial⟩⟩) (fun s o hf a w hA Q hQ => slices_insertionSortCmpFunc_int_r0 K w0 l0 A0 c0 x1 x2 bg3_0 bg3_1 lg3_1 Ag3_1 cg3_1 LT hRg3_1 hLg3_1 s o hf a w hA Q hQ) ?_
    rintro _ a w5 _ ⟨rfl, hRz2, hS41, hF⟩
    replace hS41 : St w0 w5 [Own.blk bg3_0 (.cells #[.func (.func 37) #[] #[]] 74 (0, 0)), Own.blk bg3_1 (.cells #[.slice Ag3_1 lg3_1.length cg3_1] 22 (0, 0)), Own.of (.slice A0 m6.length c0) 3 m6, Own.all LT] := hS41
    have hS42 := hS41.bring 3 rfl
    have hS43 := hS42.bring 2 rfl
    have hS44 := hS43.bring 2 rfl
    have hS45 := hS44.bring 3 rfl
    obtain rfl := Option.some.inj h
    exact (post_end (rs := []) (ans := []) (vs := []) (l := []) rfl (by kernel_rfl) trivial ⟨rfl, hRz2, hS45⟩) a hF
  · rw [hq3] at h
    simp only [] at h
    refine we_iter (A := slices_insertionSortCmpFunc_int.A0 K w0 l0 A0 c0 x1 x2 bg3_0 bg3_1 lg3_1 Ag3_1 cg3_1 LT hRg3_1 hLg3_1) (B := slices_insertionSortCmpFunc_int.B0 K w0 l0 A0 c0 x1 x2 bg3_0 bg3_1 lg3_1 Ag3_1 cg3_1 LT hRg3_1 hLg3_1) hq3 (fun a hF => ⟨rfl, hS4, hF.weaken ⟨by kernel_rfl, by kernel_rfl, by kernel_rfl, by kernel_rfl, by kernel_rfl, trivial⟩⟩) (fun s o hf a w hA Q hQ => slices_insertionSortCmpFunc_int_r0 K w0 l0 A0 c0 x1 x2 bg3_0 bg3_1 lg3_1 Ag3_1 cg3_1 LT hRg3_1 hLg3_1 s o hf a w hA Q hQ) ?_
    rintro _ a w1 _ ⟨rfl, hb⟩
    obtain rfl := Option.some.inj h
    exact hb

/-! slices.swapRangeCmpFunc[int] -/
abbrev slices_swapRangeCmpFunc_int.Post (w0 : World) (l0 : List Int) (A0 : Option Addr) (c0 : Nat) (x1 : Int) (x2 : Int) (x3 : Int) (bg4_0 : Nat) (bg4_1 : Nat) (lg4_1 : List STask) (Ag4_1 : Option Addr) (cg4_1 : Nat) (LT : List Own) (r : List Int) (e : Ending) (w : World) : Prop := e = .returned (.tuple #[]) ∧ l0.length = r.length ∧ St w0 w [Own.of (.slice A0 r.length c0) 3 r, Own.blk bg4_0 (.cells #[.func (.func 37) #[] #[]] 74 (0, 0)), Own.blk bg4_1 (.cells #[.slice Ag4_1 lg4_1.length cg4_1] 22 (0, 0)), Own.all LT]
def slices_swapRangeCmpFunc_int.r0 (x1 : Int) (x2 : Int) (x3 : Int) : Int × (List Int) → Option ((Int × (List Int)) ⊕ ((List Int) ⊕ (List Int)))
  | (z1, m1) =>
    if z1 < x3 then
      if 0 ≤ (IntKind.i64.wrap (x2 + z1)) then
        match m1[(IntKind.i64.wrap (x2 + z1)).toNat]? with
        | none => none
        | some e1 =>
          if 0 ≤ (IntKind.i64.wrap (x1 + z1)) then
            match m1[(IntKind.i64.wrap (x1 + z1)).toNat]? with
            | none => none
            | some e2 =>
              match (m1.set ((IntKind.i64.wrap (x1 + z1)).toNat) e1)[(IntKind.i64.wrap (x2 + z1)).toNat]? with
              | none => none
              | some e3 =>
                some (.inl (IntKind.i64.wrap (z1 + 1), ((m1.set ((IntKind.i64.wrap (x1 + z1)).toNat) e1).set ((IntKind.i64.wrap (x2 + z1)).toNat) e2)))
          else
            none
      else
        none
    else
      some (.inr (.inl m1))
def slices_swapRangeCmpFunc_int.f (K : Nat) (l0 : List Int) (x1 : Int) (x2 : Int) (x3 : Int) (lg4_1 : List STask) : Option (List Int) :=
  match iter (slices_swapRangeCmpFunc_int.r0 x1 x2 x3) K (0, l0) with
  | none => none
  | some (.inl m3) =>
    some m3
  | some (.inr rr1) =>
    some rr1
abbrev slices_swapRangeCmpFunc_int.A0 (K : Nat) (w0 : World) (l0 : List Int) (A0 : Option Addr) (c0 : Nat) (x1 : Int) (x2 : Int) (x3 : Int) (bg4_0 : Nat) (bg4_1 : Nat) (lg4_1 : List STask) (Ag4_1 : Option Addr) (cg4_1 : Nat) (LT : List Own) (hRg4_1 : RdL w0 Ag4_1 lg4_1) (hLg4_1 : lg4_1.length ≤ cg4_1) : (Int × (List Int)) → Act → World → Prop := fun (s : Int × (List Int)) a w => l0.length = s.2.length ∧ St w0 w [Own.blk bg4_0 (.cells #[.func (.func 37) #[] #[]] 74 (0, 0)), Own.blk bg4_1 (.cells #[.slice Ag4_1 lg4_1.length cg4_1] 22 (0, 0)), Own.of (.slice A0 s.2.length c0) 3 s.2, Own.all LT] ∧ Frm 38 a [(0, (.slice A0 s.2.length c0)), (1, .int .i64 x1), (2, .int .i64 x2), (3, .int .i64 x3), (4, .func (.func 59) #[] #[.pointer (some ⟨bg4_0, 0, none⟩), .pointer (some ⟨bg4_1, 0, none⟩)]), (10, .int .i64 s.1)]
abbrev slices_swapRangeCmpFunc_int.B0 (K : Nat) (w0 : World) (l0 : List Int) (A0 : Option Addr) (c0 : Nat) (x1 : Int) (x2 : Int) (x3 : Int) (bg4_0 : Nat) (bg4_1 : Nat) (lg4_1 : List STask) (Ag4_1 : Option Addr) (cg4_1 : Nat) (LT : List Own) (hRg4_1 : RdL w0 Ag4_1 lg4_1) (hLg4_1 : lg4_1.length ≤ cg4_1) : ((List Int) ⊕ (List Int)) → Exit → Act → World → Prop := Exits 0 (fun (s : (List Int)) a w => l0.length = s.length ∧ St w0 w [Own.blk bg4_0 (.cells #[.func (.func 37) #[] #[]] 74 (0, 0)), Own.blk bg4_1 (.cells #[.slice Ag4_1 lg4_1.length cg4_1] 22 (0, 0)), Own.of (.slice A0 s.length c0) 3 s, Own.all LT] ∧ Frm 38 a [(0, (.slice A0 s.length c0)), (4, .func (.func 59) #[] #[.pointer (some ⟨bg4_0, 0, none⟩), .pointer (some ⟨bg4_1, 0, none⟩)])]) (Rets Try.prog Try.f89 (slices_swapRangeCmpFunc_int.Post w0 l0 A0 c0 x1 x2 x3 bg4_0 bg4_1 lg4_1 Ag4_1 cg4_1 LT))
theorem slices_swapRangeCmpFunc_int_r0 (K : Nat) (w0 : World) (l0 : List Int) (A0 : Option Addr) (c0 : Nat) (x1 : Int) (x2 : Int) (x3 : Int) (bg4_0 : Nat) (bg4_1 : Nat) (lg4_1 : List STask) (Ag4_1 : Option Addr) (cg4_1 : Nat) (LT : List Own) (hRg4_1 : RdL w0 Ag4_1 lg4_1) (hLg4_1 : lg4_1.length ≤ cg4_1) (s : Int × (List Int)) (o : (Int × (List Int)) ⊕ ((List Int) ⊕ (List Int))) (h : slices_swapRangeCmpFunc_int.r0 x1 x2 x3 s = some o) (a : Act) (w : World) (hA : slices_swapRangeCmpFunc_int.A0 K w0 l0 A0 c0 x1 x2 x3 bg4_0 bg4_1 lg4_1 Ag4_1 cg4_1 LT hRg4_1 hLg4_1 s a w) (Q : Exit → Act → World → Prop) (hQ : ∀ x a w, Outs (slices_swapRangeCmpFunc_int.A0 K w0 l0 A0 c0 x1 x2 x3 bg4_0 bg4_1 lg4_1 Ag4_1 cg4_1 LT hRg4_1 hLg4_1) (slices_swapRangeCmpFunc_int.B0 K w0 l0 A0 c0 x1 x2 x3 bg4_0 bg4_1 lg4_1 Ag4_1 cg4_1 LT hRg4_1 hLg4_1) o x a w → Q x a w) : (subF Try.f89 [1, 0, 0]).wp Try.prog Q a w := by
  obtain ⟨z1, m1⟩ := s
  obtain ⟨hLio1, hS, hF⟩ := hA
  replace hS : St w0 w [Own.blk bg4_0 (.cells #[.func (.func 37) #[] #[]] 74 (0, 0)), Own.blk bg4_1 (.cells #[.slice Ag4_1 lg4_1.length cg4_1] 22 (0, 0)), Own.of (.slice A0 m1.length c0) 3 m1, Own.all LT] := hS
  simp only [slices_swapRangeCmpFunc_int.r0] at h
  refine (?_ : WE Try.prog 38 (subF Try.f89 [1, 0, 0]) Q [(0, (.slice A0 m1.length c0)), (1, .int .i64 x1), (2, .int .i64 x2), (3, .int .i64 x3), (4, .func (.func 59) #[] #[.pointer (some ⟨bg4_0, 0, none⟩), .pointer (some ⟨bg4_1, 0, none⟩)]), (10, .int .i64 z1)] w) a hF
  clear hF a
  refine we_seq fun K2 hK2 => ?_
  refine we_seq fun K3 hK3 => ?_
  refine we_region [(0, 0), (1, 0), (2, 0)] rfl ?_
  refine ge_batch [0, 1, 2] (ans := []) (vs := [(13, .bool (decide (z1 < x3))), (12, .int .i64 x3), (11, .int .i64 z1)]) (l := []) (by kernel_rfl) trivial ?_
  refine ge_nil fun a hF => hK3 _ _ ?_ a hF
  by_cases hc1 : z1 < x3
  · rw [if_pos hc1] at h
    refine we_known (t := 13) (b := decide (z1 < x3)) (v := true) (by kernel_rfl) (decide_eq_true hc1) ?_
    refine we_true (by kernel_rfl) ?_
    refine we_skip fun a hF => hK2 _ _ ?_ a hF
    refine we_seq fun K4 hK4 => ?_
    refine we_block ?_
    refine we_orders2 (by kernel_rfl) [(13, [⟨blkOf A0, offOf A0 + ((IntKind.i64.wrap (x2 + z1)).toNat) * 1, none⟩]), (19, [⟨blkOf A0, offOf A0 + ((IntKind.i64.wrap (x1 + z1)).toNat) * 1, none⟩])] (.vals [0] (.vals [1] (.vals [2] (.vals [3] (.vals [4] (.vals [5] (.vals [6] (.vals [7] (.vals [8] (.vals [9] (.vals [10] (.vals [11] (.vals [12] (.vals [13] (.vals [14] (.vals [15] (.vals [16] (.vals [17] (.vals [18] (.vals [19] (.vals [20] (.alt 21 2 (.vals [22] (.alt 23 2 .fin .nomore)) .nomore)))))))))))))))))))))) (by kernel_rfl) ?_
    have hS5 := hS.drew
    refine go2_batch [0, 1, 2, 3, 4, 5, 6, 7, 8, 9, 10, 11] (ans := []) (vs := [(27, .int .i64 (IntKind.i64.wrap (x2 + z1))), (26, .int .i64 z1), (25, .int .i64 x2), (24, (.slice A0 m1.length c0)), (23, .int .i64 (IntKind.i64.wrap (x2 + z1))), (22, .int .i64 z1), (21, .int .i64 x2), (20, (.slice A0 m1.length c0)), (19, .int .i64 (IntKind.i64.wrap (x1 + z1))), (18, .int .i64 z1), (17, .int .i64 x1), (16, (.slice A0 m1.length c0))]) (l := []) (by kernel_rfl) trivial mem_nil ?_
    by_cases hc2 : 0 ≤ (IntKind.i64.wrap (x2 + z1))
    · rw [if_pos hc2] at h
      rcases hx1 : m1[(IntKind.i64.wrap (x2 + z1)).toNat]? with _ | e1
      · rw [hx1] at h; cases h
      rw [hx1] at h
      simp only [] at h
      refine go2_index (d := 28) (ty := 0) (t := 24) (el := 3) (sz := 1) (m := m1.length) (c := c0) (x := (.tmp 24)) (y := (.tmp 27)) (A := A0) (k' := .i64) (j := (IntKind.i64.wrap (x2 + z1))) (jn := ((IntKind.i64.wrap (x2 + z1)).toNat)) (b0 := blkOf A0) (o0 := offOf A0) (by kernel_rfl) (by kernel_rfl) (by kernel_rfl) (by kernel_rfl) (by kernel_rfl) ((hS5.rdAt 2 rfl).eqSome (pos_of_get hx1)) (Int.toNat_of_nonneg hc2).symm (lt_of_get hx1) ?_
      refine go2_batch [13] (ans := [.val (.int .i64 e1)]) (vs := [(29, .int .i64 e1)]) (l := [.loaded ⟨blkOf A0, offOf A0 + ((IntKind.i64.wrap (x2 + z1)).toNat) * 1, none⟩ (.int .i64 e1)]) (by kernel_rfl) ⟨RdL.cell (j := 0) (hS5.rdAt 2 rfl) hx1 rfl, trivial⟩ (mem_one (by kernel_rfl)) ?_
      refine go2_batch [14, 15, 16, 17] (ans := []) (vs := [(33, .int .i64 (IntKind.i64.wrap (x1 + z1))), (32, .int .i64 z1), (31, .int .i64 x1), (30, (.slice A0 m1.length c0))]) (l := []) (by kernel_rfl) trivial mem_nil ?_
      by_cases hc3 : 0 ≤ (IntKind.i64.wrap (x1 + z1))
      · rw [if_pos hc3] at h
        rcases hx2 : m1[(IntKind.i64.wrap (x1 + z1)).toNat]? with _ | e2
        · rw [hx2] at h; cases h
        rw [hx2] at h
        simp only [] at h
        refine go2_index (d := 34) (ty := 0) (t := 24) (el := 3) (sz := 1) (m := m1.length) (c := c0) (x := (.tmp 30)) (y := (.tmp 33)) (A := A0) (k' := .i64) (j := (IntKind.i64.wrap (x1 + z1))) (jn := ((IntKind.i64.wrap (x1 + z1)).toNat)) (b0 := blkOf A0) (o0 := offOf A0) (by kernel_rfl) (by kernel_rfl) (by kernel_rfl) (by kernel_rfl) (by kernel_rfl) ((hS5.rdAt 2 rfl).eqSome (pos_of_get hx2)) (Int.toNat_of_nonneg hc3).symm (lt_of_get hx2) ?_
        refine go2_batch [19] (ans := [.val (.int .i64 e2)]) (vs := [(35, .int .i64 e2)]) (l := [.loaded ⟨blkOf A0, offOf A0 + ((IntKind.i64.wrap (x1 + z1)).toNat) * 1, none⟩ (.int .i64 e2)]) (by kernel_rfl) ⟨RdL.cell (j := 0) (hS5.rdAt 2 rfl) hx2 rfl, trivial⟩ (mem_one (by kernel_rfl)) ?_
        refine go2_index (d := 36) (ty := 0) (t := 24) (el := 3) (sz := 1) (m := m1.length) (c := c0) (x := (.tmp 16)) (y := (.tmp 19)) (A := A0) (k' := .i64) (j := (IntKind.i64.wrap (x1 + z1))) (jn := ((IntKind.i64.wrap (x1 + z1)).toNat)) (b0 := blkOf A0) (o0 := offOf A0) (by kernel_rfl) (by kernel_rfl) (by kernel_rfl) (by kernel_rfl) (by kernel_rfl) ((hS5.rdAt 2 rfl).eqSome (pos_of_get hx2)) (Int.toNat_of_nonneg hc3).symm (lt_of_get hx2) ?_
        refine go_alt2 (fun KK hKK => ?_) ?_
        · have hS6 := hS5.bring 2 rfl
          refine ge_seti (α := Int) (A := A0) (nn := m1.length) (c := c0) (t := 3) (l := m1) (x := e2) (x' := e1) (jn := ((IntKind.i64.wrap (x1 + z1)).toNat)) (j := 0) (vs := [.int .i64 e1]) (l' := [.stored ⟨blkOf A0, offOf A0 + ((IntKind.i64.wrap (x1 + z1)).toNat) * 1, none⟩ (.int .i64 e1)]) hS6 (by kernel_rfl) (by kernel_rfl) hx2 rfl rfl rfl fun w1 hS7 => ?_
          have hS8 : St w0 w1 [Own.of (.slice A0 m1.length c0) 3 (m1.set ((IntKind.i64.wrap (x1 + z1)).toNat) e1), Own.blk bg4_0 (.cells #[.func (.func 37) #[] #[]] 74 (0, 0)), Own.blk bg4_1 (.cells #[.slice Ag4_1 lg4_1.length cg4_1] 22 (0, 0)), Own.all LT] := hS7
          have hE1 : m1.length = (m1.set ((IntKind.i64.wrap (x1 + z1)).toNat) e1).length := hS8.lenAt 0 rfl
          have hS9 : St w0 w1 [Own.of (.slice A0 (m1.set ((IntKind.i64.wrap (x1 + z1)).toNat) e1).length c0) 3 (m1.set ((IntKind.i64.wrap (x1 + z1)).toNat) e1), Own.blk bg4_0 (.cells #[.func (.func 37) #[] #[]] 74 (0, 0)), Own.blk bg4_1 (.cells #[.slice Ag4_1 lg4_1.length cg4_1] 22 (0, 0)), Own.all LT] := by rw [← hE1]; exact hS8
          refine ge_same (t := 0) (v := (.slice A0 m1.length c0)) (v' := (.slice A0 (m1.set ((IntKind.i64.wrap (x1 + z1)).toNat) e1).length c0)) (by kernel_rfl) (by rw [hE1]) ?_
          refine ge_same (t := 16) (v := (.slice A0 m1.length c0)) (v' := (.slice A0 (m1.set ((IntKind.i64.wrap (x1 + z1)).toNat) e1).length c0)) (by kernel_rfl) (by rw [hE1]) ?_
          refine ge_same (t := 20) (v := (.slice A0 m1.length c0)) (v' := (.slice A0 (m1.set ((IntKind.i64.wrap (x1 + z1)).toNat) e1).length c0)) (by kernel_rfl) (by rw [hE1]) ?_
          refine ge_same (t := 24) (v := (.slice A0 m1.length c0)) (v' := (.slice A0 (m1.set ((IntKind.i64.wrap (x1 + z1)).toNat) e1).length c0)) (by kernel_rfl) (by rw [hE1]) ?_
          refine ge_same (t := 30) (v := (.slice A0 m1.length c0)) (v' := (.slice A0 (m1.set ((IntKind.i64.wrap (x1 + z1)).toNat) e1).length c0)) (by kernel_rfl) (by rw [hE1]) ?_
          refine ge_nil fun a hF => hKK _ _ (RS.of2 (l := []) (by kernel_rfl) trivial trivial) ?_ a hF
          rcases hx3 : (m1.set ((IntKind.i64.wrap (x1 + z1)).toNat) e1)[(IntKind.i64.wrap (x2 + z1)).toNat]? with _ | e3
          · rw [hx3] at h; cases h
          rw [hx3] at h
          simp only [] at h
          refine go2_index (d := 37) (ty := 0) (t := 24) (el := 3) (sz := 1) (m := (m1.set ((IntKind.i64.wrap (x1 + z1)).toNat) e1).length) (c := c0) (x := (.tmp 20)) (y := (.tmp 23)) (A := A0) (k' := .i64) (j := (IntKind.i64.wrap (x2 + z1))) (jn := ((IntKind.i64.wrap (x2 + z1)).toNat)) (b0 := blkOf A0) (o0 := offOf A0) (by kernel_rfl) (by kernel_rfl) (by kernel_rfl) (by kernel_rfl) (by kernel_rfl) ((hS9.rdAt 0 rfl).eqSome (pos_of_get hx3)) (Int.toNat_of_nonneg hc2).symm (lt_of_get hx3) ?_
          refine go_alt2 (fun KK hKK => ?_) ?_
          · refine ge_seti (α := Int) (A := A0) (nn := ((m1.set ((IntKind.i64.wrap (x1 + z1)).toNat) e1).length)) (c := c0) (t := 3) (l := (m1.set ((IntKind.i64.wrap (x1 + z1)).toNat) e1)) (x := e3) (x' := e2) (jn := ((IntKind.i64.wrap (x2 + z1)).toNat)) (j := 0) (vs := [.int .i64 e2]) (l' := [.stored ⟨blkOf A0, offOf A0 + ((IntKind.i64.wrap (x2 + z1)).toNat) * 1, none⟩ (.int .i64 e2)]) hS9 (by kernel_rfl) (by kernel_rfl) hx3 rfl rfl rfl fun w2 hS10 => ?_
            have hS11 : St w0 w2 [Own.of (.slice A0 (m1.set ((IntKind.i64.wrap (x1 + z1)).toNat) e1).length c0) 3 ((m1.set ((IntKind.i64.wrap (x1 + z1)).toNat) e1).set ((IntKind.i64.wrap (x2 + z1)).toNat) e2), Own.blk bg4_0 (.cells #[.func (.func 37) #[] #[]] 74 (0, 0)), Own.blk bg4_1 (.cells #[.slice Ag4_1 lg4_1.length cg4_1] 22 (0, 0)), Own.all LT] := hS10
            have hE2 : (m1.set ((IntKind.i64.wrap (x1 + z1)).toNat) e1).length = ((m1.set ((IntKind.i64.wrap (x1 + z1)).toNat) e1).set ((IntKind.i64.wrap (x2 + z1)).toNat) e2).length := hS11.lenAt 0 rfl
            have hS12 : St w0 w2 [Own.of (.slice A0 ((m1.set ((IntKind.i64.wrap (x1 + z1)).toNat) e1).set ((IntKind.i64.wrap (x2 + z1)).toNat) e2).length c0) 3 ((m1.set ((IntKind.i64.wrap (x1 + z1)).toNat) e1).set ((IntKind.i64.wrap (x2 + z1)).toNat) e2), Own.blk bg4_0 (.cells #[.func (.func 37) #[] #[]] 74 (0, 0)), Own.blk bg4_1 (.cells #[.slice Ag4_1 lg4_1.length cg4_1] 22 (0, 0)), Own.all LT] := by rw [← hE2]; exact hS11
            refine ge_same (t := 0) (v := (.slice A0 (m1.set ((IntKind.i64.wrap (x1 + z1)).toNat) e1).length c0)) (v' := (.slice A0 ((m1.set ((IntKind.i64.wrap (x1 + z1)).toNat) e1).set ((IntKind.i64.wrap (x2 + z1)).toNat) e2).length c0)) (by kernel_rfl) (by rw [hE2]) ?_
            refine ge_same (t := 16) (v := (.slice A0 (m1.set ((IntKind.i64.wrap (x1 + z1)).toNat) e1).length c0)) (v' := (.slice A0 ((m1.set ((IntKind.i64.wrap (x1 + z1)).toNat) e1).set ((IntKind.i64.wrap (x2 + z1)).toNat) e2).length c0)) (by kernel_rfl) (by rw [hE2]) ?_
            refine ge_same (t := 20) (v := (.slice A0 (m1.set ((IntKind.i64.wrap (x1 + z1)).toNat) e1).length c0)) (v' := (.slice A0 ((m1.set ((IntKind.i64.wrap (x1 + z1)).toNat) e1).set ((IntKind.i64.wrap (x2 + z1)).toNat) e2).length c0)) (by kernel_rfl) (by rw [hE2]) ?_
            refine ge_same (t := 24) (v := (.slice A0 (m1.set ((IntKind.i64.wrap (x1 + z1)).toNat) e1).length c0)) (v' := (.slice A0 ((m1.set ((IntKind.i64.wrap (x1 + z1)).toNat) e1).set ((IntKind.i64.wrap (x2 + z1)).toNat) e2).length c0)) (by kernel_rfl) (by rw [hE2]) ?_
            refine ge_same (t := 30) (v := (.slice A0 (m1.set ((IntKind.i64.wrap (x1 + z1)).toNat) e1).length c0)) (v' := (.slice A0 ((m1.set ((IntKind.i64.wrap (x1 + z1)).toNat) e1).set ((IntKind.i64.wrap (x2 + z1)).toNat) e2).length c0)) (by kernel_rfl) (by rw [hE2]) ?_
            refine ge_nil fun a hF => hKK _ _ (RS.of2 (l := []) (by kernel_rfl) trivial trivial) ?_ a hF
            refine go_fin2 fun a hF => hK4 _ _ ?_ a hF
            refine we_region [(0, 0), (1, 0), (2, 0)] rfl ?_
            refine ge_batch [0, 1, 2] (ans := []) (vs := [(10, .int .i64 (IntKind.i64.wrap (z1 + 1))), (15, .int .i64 (IntKind.i64.wrap (z1 + 1))), (14, .int .i64 z1)]) (l := []) (by kernel_rfl) trivial ?_
            have hS13 := hS12.bring 3 rfl
            have hS14 := hS13.bring 1 rfl
            have hS15 := hS14.bring 3 rfl
            have hS16 := hS15.bring 3 rfl
            obtain rfl := Option.some.inj h
            exact ge_nil fun a hF => hQ _ _ _ (Outs.again ⟨(Eq.trans hLio1 (by simp only [List.length_set])), hS16, hF.weaken ⟨by kernel_rfl, by kernel_rfl, by kernel_rfl, by kernel_rfl, by kernel_rfl, by kernel_rfl, trivial⟩⟩)
          exact go_nomore2
        exact go_nomore2
      · rw [if_neg hc3] at h
        cases h
    · rw [if_neg hc2] at h
      cases h
  · rw [if_neg hc1] at h
    refine we_known (t := 13) (b := decide (z1 < x3)) (v := false) (by kernel_rfl) (decide_eq_false hc1) ?_
    refine we_false (by kernel_rfl) ?_
    have hS17 := hS.bring 3 rfl
    have hS18 := hS17.bring 3 rfl
    have hS19 := hS18.bring 3 rfl
    have hS20 := hS19.bring 3 rfl
    obtain rfl := Option.some.inj h
    exact we_exit fun a hF => hQ _ _ _ (Outs.out nofun (Exits.here ⟨hLio1, hS20, hF.weaken ⟨by kernel_rfl, by kernel_rfl, trivial⟩⟩))
theorem slices_swapRangeCmpFunc_int_ok (K : Nat) (l0 : List Int) (A0 : Option Addr) (c0 : Nat) (x1 : Int) (x2 : Int) (x3 : Int) (bg4_0 : Nat) (bg4_1 : Nat) (lg4_1 : List STask) (Ag4_1 : Option Addr) (cg4_1 : Nat) (w0 wE : World) (LT : List Own) (hS : St w0 wE [Own.of (.slice A0 l0.length c0) 3 l0, Own.blk bg4_0 (.cells #[.func (.func 37) #[] #[]] 74 (0, 0)), Own.blk bg4_1 (.cells #[.slice Ag4_1 lg4_1.length cg4_1] 22 (0, 0)), Own.all LT]) (hRg4_1 : RdL w0 Ag4_1 lg4_1) (hLg4_1 : lg4_1.length ≤ cg4_1) (r : List Int) (h : slices_swapRangeCmpFunc_int.f K l0 x1 x2 x3 lg4_1 = some r) :
    Calls Try.prog 89 #[(.slice A0 l0.length c0), .int .i64 x1, .int .i64 x2, .int .i64 x3, .func (.func 59) #[] #[.pointer (some ⟨bg4_0, 0, none⟩), .pointer (some ⟨bg4_1, 0, none⟩)]] wE (slices_swapRangeCmpFunc_int.Post w0 l0 A0 c0 x1 x2 x3 bg4_0 bg4_1 lg4_1 Ag4_1 cg4_1 LT r) := by
  unfold slices_swapRangeCmpFunc_int.f at h
  refine calls_enter (n := 38) (args := [(.slice A0 l0.length c0), .int .i64 x1, .int .i64 x2, .int .i64 x3, .func (.func 59) #[] #[.pointer (some ⟨bg4_0, 0, none⟩), .pointer (some ⟨bg4_1, 0, none⟩)]]) (fn := Try.f89) rfl rfl rfl rfl ?_
  show WE _ _ _ _ [(0, (.slice A0 l0.length c0)), (1, .int .i64 x1), (2, .int .i64 x2), (3, .int .i64 x3), (4, .func (.func 59) #[] #[.pointer (some ⟨bg4_0, 0, none⟩), .pointer (some ⟨bg4_1, 0, none⟩)])] _
  refine we_seq fun K1 hK1 => ?_
  refine we_region [(0, 0)] rfl ?_
  refine ge_batch [0] (ans := []) (vs := [(10, .int .i64 0)]) (l := []) (by kernel_rfl) trivial ?_
  refine ge_nil fun a hF => hK1 _ _ ?_ a hF
  refine we_block ?_
  have hS1 := hS.bring 3 rfl
  have hS2 := hS1.bring 1 rfl
  have hS3 := hS2.bring 3 rfl
  have hS4 := hS3.bring 3 rfl
  rcases hq1 : iter (slices_swapRangeCmpFunc_int.r0 x1 x2 x3) K (0, l0) with _ | (m3 | rr1)
  · rw [hq1] at h; cases h
  · rw [hq1] at h
    simp only [] at h
    refine we_iter (A := slices_swapRangeCmpFunc_int.A0 K w0 l0 A0 c0 x1 x2 x3 bg4_0 bg4_1 lg4_1 Ag4_1 cg4_1 LT hRg4_1 hLg4_1) (B := slices_swapRangeCmpFunc_int.B0 K w0 l0 A0 c0 x1 x2 x3 bg4_0 bg4_1 lg4_1 Ag4_1 cg4_1 LT hRg4_1 hLg4_1) hq1 (fun a hF => ⟨rfl, hS4, hF.weaken ⟨by kernel_rfl, by kernel_rfl, by kernel_rfl, by kernel_rfl, by kernel_rfl, by kernel_rfl, trivial⟩⟩) (fun s o hf a w hA Q hQ => slices_swapRangeCmpFunc_int_r0 K w0 l0 A0 c0 x1 x2 x3 bg4_0 bg4_1 lg4_1 Ag4_1 cg4_1 LT hRg4_1 hLg4_1 s o hf a w hA Q hQ) ?_
    rintro _ a w3 _ ⟨rfl, hRz1, hS21, hF⟩
    replace hS21 : St w0 w3 [Own.blk bg4_0 (.cells #[.func (.func 37) #[] #[]] 74 (0, 0)), Own.blk bg4_1 (.cells #[.slice Ag4_1 lg4_1.length cg4_1] 22 (0, 0)), Own.of (.slice A0 m3.length c0) 3 m3, Own.all LT] := hS21
    have hS22 := hS21.bring 3 rfl
    have hS23 := hS22.bring 2 rfl
    have hS24 := hS23.bring 2 rfl
    have hS25 := hS24.bring 3 rfl
    obtain rfl := Option.some.inj h
    exact (post_end (rs := []) (ans := []) (vs := []) (l := []) rfl (by kernel_rfl) trivial ⟨rfl, hRz1, hS25⟩) a hF
  · rw [hq1] at h
    simp only [] at h
    refine we_iter (A := slices_swapRangeCmpFunc_int.A0 K w0 l0 A0 c0 x1 x2 x3 bg4_0 bg4_1 lg4_1 Ag4_1 cg4_1 LT hRg4_1 hLg4_1) (B := slices_swapRangeCmpFunc_int.B0 K w0 l0 A0 c0 x1 x2 x3 bg4_0 bg4_1 lg4_1 Ag4_1 cg4_1 LT hRg4_1 hLg4_1) hq1 (fun a hF => ⟨rfl, hS4, hF.weaken ⟨by kernel_rfl, by kernel_rfl, by kernel_rfl, by kernel_rfl, by kernel_rfl, by kernel_rfl, trivial⟩⟩) (fun s o hf a w hA Q hQ => slices_swapRangeCmpFunc_int_r0 K w0 l0 A0 c0 x1 x2 x3 bg4_0 bg4_1 lg4_1 Ag4_1 cg4_1 LT hRg4_1 hLg4_1 s o hf a w hA Q hQ) ?_
    rintro _ a w1 _ ⟨rfl, hb⟩
    obtain rfl := Option.some.inj h
    exact hb

/-! slices.rotateCmpFunc[int] -/
abbrev slices_rotateCmpFunc_int.Post (w0 : World) (l0 : List Int) (A0 : Option Addr) (c0 : Nat) (x1 : Int) (x2 : Int) (x3 : Int) (bg4_0 : Nat) (bg4_1 : Nat) (lg4_1 : List STask) (Ag4_1 : Option Addr) (cg4_1 : Nat) (LT : List Own) (r : List Int) (e : Ending) (w : World) : Prop := e = .returned (.tuple #[]) ∧ l0.length = r.length ∧ St w0 w [Own.of (.slice A0 r.length c0) 3 r, Own.blk bg4_0 (.cells #[.func (.func 37) #[] #[]] 74 (0, 0)), Own.blk bg4_1 (.cells #[.slice Ag4_1 lg4_1.length cg4_1] 22 (0, 0)), Own.all LT]
def slices_rotateCmpFunc_int.r0 (K : Nat) (x2 : Int) (lg4_1 : List STask) : Int × Int × (List Int) → Option ((Int × Int × (List Int)) ⊕ ((Int × (List Int)) ⊕ (List Int)))
  | (z1, z2, m1) =>
    if z1 = z2 then
      some (.inr (.inl (z1, m1)))
    else
      if z1 > z2 then
        match slices_swapRangeCmpFunc_int.f K m1 (IntKind.i64.wrap (x2 - z1)) x2 z2 lg4_1 with
        | none => none
        | some r1 =>
          some (.inl (IntKind.i64.wrap (z1 - z2), z2, r1))
      else
        match slices_swapRangeCmpFunc_int.f K m1 (IntKind.i64.wrap (x2 - z1)) (IntKind.i64.wrap ((IntKind.i64.wrap (x2 + z2)) - z1)) z1 lg4_1 with
        | none => none
        | some r2 =>
          some (.inl (z1, IntKind.i64.wrap (z2 - z1), r2))
def slices_rotateCmpFunc_int.f (K : Nat) (l0 : List Int) (x1 : Int) (x2 : Int) (x3 : Int) (lg4_1 : List STask) : Option (List Int) :=
  match iter (slices_rotateCmpFunc_int.r0 K x2 lg4_1) K (IntKind.i64.wrap (x2 - x1), IntKind.i64.wrap (x3 - x2), l0) with
  | none => none
  | some (.inl (z4, m3)) =>
    match slices_swapRangeCmpFunc_int.f K m3 (IntKind.i64.wrap (x2 - z4)) x2 z4 lg4_1 with
    | none => none
    | some r3 =>
      some r3
  | some (.inr rr1) =>
    some rr1
abbrev slices_rotateCmpFunc_int.A0 (K : Nat) (w0 : World) (l0 : List Int) (A0 : Option Addr) (c0 : Nat) (x1 : Int) (x2 : Int) (x3 : Int) (bg4_0 : Nat) (bg4_1 : Nat) (lg4_1 : List STask) (Ag4_1 : Option Addr) (cg4_1 : Nat) (LT : List Own) (hRg4_1 : RdL w0 Ag4_1 lg4_1) (hLg4_1 : lg4_1.length ≤ cg4_1) : (Int × Int × (List Int)) → Act → World → Prop := fun (s : Int × Int × (List Int)) a w => l0.length = s.2.2.length ∧ St w0 w [Own.blk bg4_0 (.cells #[.func (.func 37) #[] #[]] 74 (0, 0)), Own.blk bg4_1 (.cells #[.slice Ag4_1 lg4_1.length cg4_1] 22 (0, 0)), Own.of (.slice A0 s.2.2.length c0) 3 s.2.2, Own.all LT] ∧ Frm 58 a [(0, (.slice A0 s.2.2.length c0)), (2, .int .i64 x2), (4, .func (.func 59) #[] #[.pointer (some ⟨bg4_0, 0, none⟩), .pointer (some ⟨bg4_1, 0, none⟩)]), (10, .int .i64 s.1), (11, .int .i64 s.2.1)]
abbrev slices_rotateCmpFunc_int.B0 (K : Nat) (w0 : World) (l0 : List Int) (A0 : Option Addr) (c0 : Nat) (x1 : Int) (x2 : Int) (x3 : Int) (bg4_0 : Nat) (bg4_1 : Nat) (lg4_1 : List STask) (Ag4_1 : Option Addr) (cg4_1 : Nat) (LT : List Own) (hRg4_1 : RdL w0 Ag4_1 lg4_1) (hLg4_1 : lg4_1.length ≤ cg4_1) : ((Int × (List Int)) ⊕ (List Int)) → Exit → Act → World → Prop := Exits 0 (fun (s : Int × (List Int)) a w => l0.length = s.2.length ∧ St w0 w [Own.blk bg4_0 (.cells #[.func (.func 37) #[] #[]] 74 (0, 0)), Own.blk bg4_1 (.cells #[.slice Ag4_1 lg4_1.length cg4_1] 22 (0, 0)), Own.of (.slice A0 s.2.length c0) 3 s.2, Own.all LT] ∧ Frm 58 a [(0, (.slice A0 s.2.length c0)), (2, .int .i64 x2), (4, .func (.func 59) #[] #[.pointer (some ⟨bg4_0, 0, none⟩), .pointer (some ⟨bg4_1, 0, none⟩)]), (10, .int .i64 s.1)]) (Rets Try.prog Try.f86 (slices_rotateCmpFunc_int.Post w0 l0 A0 c0 x1 x2 x3 bg4_0 bg4_1 lg4_1 Ag4_1 cg4_1 LT))
theorem slices_rotateCmpFunc_int_r0 (K : Nat) (w0 : World) (l0 : List Int) (A0 : Option Addr) (c0 : Nat) (x1 : Int) (x2 : Int) (x3 : Int) (bg4_0 : Nat) (bg4_1 : Nat) (lg4_1 : List STask) (Ag4_1 : Option Addr) (cg4_1 : Nat) (LT : List Own) (hRg4_1 : RdL w0 Ag4_1 lg4_1) (hLg4_1 : lg4_1.length ≤ cg4_1) (s : Int × Int × (List Int)) (o : (Int × Int × (List Int)) ⊕ ((Int × (List Int)) ⊕ (List Int))) (h : slices_rotateCmpFunc_int.r0 K x2 lg4_1 s = some o) (a : Act) (w : World) (hA : slices_rotateCmpFunc_int.A0 K w0 l0 A0 c0 x1 x2 x3 bg4_0 bg4_1 lg4_1 Ag4_1 cg4_1 LT hRg4_1 hLg4_1 s a w) (Q : Exit → Act → World → Prop) (hQ : ∀ x a w, Outs (slices_rotateCmpFunc_int.A0 K w0 l0 A0 c0 x1 x2 x3 bg4_0 bg4_1 lg4_1 Ag4_1 cg4_1 LT hRg4_1 hLg4_1) (slices_rotateCmpFunc_int.B0 K w0 l0 A0 c0 x1 x2 x3 bg4_0 bg4_1 lg4_1 Ag4_1 cg4_1 LT hRg4_1 hLg4_1) o x a w → Q x a w) : (subF Try.f86 [1, 1, 0, 0, 0]).wp Try.prog Q a w := by
  obtain ⟨z1, z2, m1⟩ := s
  obtain ⟨hLio1, hS, hF⟩ := hA
  replace hS : St w0 w [Own.blk bg4_0 (.cells #[.func (.func 37) #[] #[]] 74 (0, 0)), Own.blk bg4_1 (.cells #[.slice Ag4_1 lg4_1.length cg4_1] 22 (0, 0)), Own.of (.slice A0 m1.length c0) 3 m1, Own.all LT] := hS
  simp only [slices_rotateCmpFunc_int.r0] at h
  refine (?_ : WE Try.prog 58 (subF Try.f86 [1, 1, 0, 0, 0]) Q [(0, (.slice A0 m1.length c0)), (2, .int .i64 x2), (4, .func (.func 59) #[] #[.pointer (some ⟨bg4_0, 0, none⟩), .pointer (some ⟨bg4_1, 0, none⟩)]), (10, .int .i64 z1), (11, .int .i64 z2)] w) a hF
  clear hF a
  refine we_seq fun K4 hK4 => ?_
  refine we_seq fun K5 hK5 => ?_
  refine we_region [(0, 0), (1, 0), (2, 0)] rfl ?_
  refine ge_batch [0, 1, 2] (ans := []) (vs := [(20, .bool (z1 != z2)), (19, .int .i64 z2), (18, .int .i64 z1)]) (l := []) (by kernel_rfl) trivial ?_
  refine ge_nil fun a hF => hK5 _ _ ?_ a hF
  by_cases hc1 : z1 = z2
  · rw [if_pos hc1] at h
    refine we_known (t := 20) (b := (z1 != z2)) (v := false) (by kernel_rfl) (bne_eq_false_iff_eq.2 hc1) ?_
    refine we_false (by kernel_rfl) ?_
    have hS5 := hS.bring 3 rfl
    have hS6 := hS5.bring 3 rfl
    have hS7 := hS6.bring 3 rfl
    have hS8 := hS7.bring 3 rfl
    obtain rfl := Option.some.inj h
    exact we_exit fun a hF => hQ _ _ _ (Outs.out nofun (Exits.here ⟨hLio1, hS8, hF.weaken ⟨by kernel_rfl, by kernel_rfl, by kernel_rfl, by kernel_rfl, trivial⟩⟩))
  · rw [if_neg hc1] at h
    refine we_known (t := 20) (b := (z1 != z2)) (v := true) (by kernel_rfl) (bne_iff_ne.2 hc1) ?_
    refine we_true (by kernel_rfl) ?_
    refine we_skip fun a hF => hK4 _ _ ?_ a hF
    refine we_block ?_
    refine we_seq fun K6 hK6 => ?_
    refine we_region [(0, 0), (1, 0), (2, 0)] rfl ?_
    refine ge_batch [0, 1, 2] (ans := []) (vs := [(23, .bool (decide (z1 > z2))), (22, .int .i64 z2), (21, .int .i64 z1)]) (l := []) (by kernel_rfl) trivial ?_
    refine ge_nil fun a hF => hK6 _ _ ?_ a hF
    by_cases hc2 : z1 > z2
    · rw [if_pos hc2] at h
      refine we_known (t := 23) (b := decide (z1 > z2)) (v := true) (by kernel_rfl) (decide_eq_true hc2) ?_
      refine we_true (by kernel_rfl) ?_
      refine we_seq fun K7 hK7 => ?_
      refine we_region [(0, 0), (1, 0), (2, 0), (3, 0), (4, 0), (5, 0), (6, 0), (7, 2)] rfl ?_
      refine ge_batch [0, 1, 2, 3, 4, 5, 6] (ans := []) (vs := [(30, .func (.func 59) #[] #[.pointer (some ⟨bg4_0, 0, none⟩), .pointer (some ⟨bg4_1, 0, none⟩)]), (29, .int .i64 z2), (28, .int .i64 x2), (27, .int .i64 (IntKind.i64.wrap (x2 - z1))), (26, .int .i64 z1), (25, .int .i64 x2), (24, (.slice A0 m1.length c0))]) (l := []) (by kernel_rfl) trivial ?_
      rcases hq1 : slices_swapRangeCmpFunc_int.f K m1 (IntKind.i64.wrap (x2 - z1)) x2 z2 lg4_1 with _ | r1
      · rw [hq1] at h; cases h
      rw [hq1] at h
      simp only [] at h
      have hS9 := hS.bring 1 rfl
      have hS10 := hS9.bring 1 rfl
      have hS11 := hS10.bring 2 rfl
      have hS13 : St w0 w [Own.of (.slice A0 m1.length c0) 3 m1, Own.blk bg4_0 (.cells #[.func (.func 37) #[] #[]] 74 (0, 0)), Own.blk bg4_1 (.cells #[.slice Ag4_1 lg4_1.length cg4_1] 22 (0, 0)), Own.all [Own.all LT]] := hS11.packN 3
      refine ge_call2 (m := 0) (d := some 31) (f := 89) (args := #[.slice A0 m1.length c0, .int .i64 (IntKind.i64.wrap (x2 - z1)), .int .i64 x2, .int .i64 z2, .func (.func 59) #[] #[.pointer (some ⟨bg4_0, 0, none⟩), .pointer (some ⟨bg4_1, 0, none⟩)]]) (by kernel_rfl) (slices_swapRangeCmpFunc_int_ok K m1 A0 c0 (IntKind.i64.wrap (x2 - z1)) x2 z2 bg4_0 bg4_1 lg4_1 Ag4_1 cg4_1 _ _ _ hS13 hRg4_1 hLg4_1 _ hq1) ?_
      rintro _ w1 ⟨rfl, hE1, hS12⟩
      refine ⟨_, rfl, ?_⟩
      have hS14 : St w0 w1 [Own.of (.slice A0 r1.length c0) 3 r1, Own.blk bg4_0 (.cells #[.func (.func 37) #[] #[]] 74 (0, 0)), Own.blk bg4_1 (.cells #[.slice Ag4_1 lg4_1.length cg4_1] 22 (0, 0)), Own.all LT] := hS12.unpack [Own.of (.slice A0 r1.length c0) 3 r1, Own.blk bg4_0 (.cells #[.func (.func 37) #[] #[]] 74 (0, 0)), Own.blk bg4_1 (.cells #[.slice Ag4_1 lg4_1.length cg4_1] 22 (0, 0))]
      refine ge_same (t := 0) (v := (.slice A0 m1.length c0)) (v' := (.slice A0 r1.length c0)) (by kernel_rfl) (by rw [show m1.length = r1.length from hE1]) ?_
      refine ge_same (t := 24) (v := (.slice A0 m1.length c0)) (v' := (.slice A0 r1.length c0)) (by kernel_rfl) (by rw [show m1.length = r1.length from hE1]) ?_
      have hLio3 : l0.length = r1.length := Eq.trans hLio1 hE1
      refine ge_nil fun a hF => hK7 _ _ ?_ a hF
      refine we_region [(0, 0), (1, 0), (2, 0), (3, 0)] rfl ?_
      refine ge_batch [0, 1, 2, 3] (ans := []) (vs := [(10, .int .i64 (IntKind.i64.wrap (z1 - z2))), (34, .int .i64 (IntKind.i64.wrap (z1 - z2))), (33, .int .i64 z2), (32, .int .i64 z1)]) (l := []) (by kernel_rfl) trivial ?_
      have hS15 := hS14.bring 3 rfl
      have hS16 := hS15.bring 1 rfl
      have hS17 := hS16.bring 3 rfl
      have hS18 := hS17.bring 3 rfl
      obtain rfl := Option.some.inj h
      exact ge_nil fun a hF => hQ _ _ _ (Outs.again ⟨hLio3, hS18, hF.weaken ⟨by kernel_rfl, by kernel_rfl, by kernel_rfl, by kernel_rfl, by kernel_rfl, trivial⟩⟩)
    · rw [if_neg hc2] at h
      refine we_known (t := 23) (b := decide (z1 > z2)) (v := false) (by kernel_rfl) (decide_eq_false hc2) ?_
      refine we_false (by kernel_rfl) ?_
      refine we_seq fun K8 hK8 => ?_
      refine we_region [(0, 0), (1, 0), (2, 0), (3, 0), (4, 0), (5, 0), (6, 0), (7, 0), (8, 0), (9, 0), (10, 0), (11, 2)] rfl ?_
      refine ge_batch [0, 1, 2, 3, 4, 5, 6, 7, 8, 9, 10] (ans := []) (vs := [(45, .func (.func 59) #[] #[.pointer (some ⟨bg4_0, 0, none⟩), .pointer (some ⟨bg4_1, 0, none⟩)]), (44, .int .i64 z1), (43, .int .i64 (IntKind.i64.wrap ((IntKind.i64.wrap (x2 + z2)) - z1))), (42, .int .i64 z1), (41, .int .i64 (IntKind.i64.wrap (x2 + z2))), (40, .int .i64 z2), (39, .int .i64 x2), (38, .int .i64 (IntKind.i64.wrap (x2 - z1))), (37, .int .i64 z1), (36, .int .i64 x2), (35, (.slice A0 m1.length c0))]) (l := []) (by kernel_rfl) trivial ?_
      rcases hq2 : slices_swapRangeCmpFunc_int.f K m1 (IntKind.i64.wrap (x2 - z1)) (IntKind.i64.wrap ((IntKind.i64.wrap (x2 + z2)) - z1)) z1 lg4_1 with _ | r2
      · rw [hq2] at h; cases h
      rw [hq2] at h
      simp only [] at h
      have hS19 := hS.bring 1 rfl
      have hS20 := hS19.bring 1 rfl
      have hS21 := hS20.bring 2 rfl
      have hS23 : St w0 w [Own.of (.slice A0 m1.length c0) 3 m1, Own.blk bg4_0 (.cells #[.func (.func 37) #[] #[]] 74 (0, 0)), Own.blk bg4_1 (.cells #[.slice Ag4_1 lg4_1.length cg4_1] 22 (0, 0)), Own.all [Own.all LT]] := hS21.packN 3
      refine ge_call2 (m := 0) (d := some 46) (f := 89) (args := #[.slice A0 m1.length c0, .int .i64 (IntKind.i64.wrap (x2 - z1)), .int .i64 (IntKind.i64.wrap ((IntKind.i64.wrap (x2 + z2)) - z1)), .int .i64 z1, .func (.func 59) #[] #[.pointer (some ⟨bg4_0, 0, none⟩), .pointer (some ⟨bg4_1, 0, none⟩)]]) (by kernel_rfl) (slices_swapRangeCmpFunc_int_ok K m1 A0 c0 (IntKind.i64.wrap (x2 - z1)) (IntKind.i64.wrap ((IntKind.i64.wrap (x2 + z2)) - z1)) z1 bg4_0 bg4_1 lg4_1 Ag4_1 cg4_1 _ _ _ hS23 hRg4_1 hLg4_1 _ hq2) ?_
      rintro _ w2 ⟨rfl, hE2, hS22⟩
      refine ⟨_, rfl, ?_⟩
      have hS24 : St w0 w2 [Own.of (.slice A0 r2.length c0) 3 r2, Own.blk bg4_0 (.cells #[.func (.func 37) #[] #[]] 74 (0, 0)), Own.blk bg4_1 (.cells #[.slice Ag4_1 lg4_1.length cg4_1] 22 (0, 0)), Own.all LT] := hS22.unpack [Own.of (.slice A0 r2.length c0) 3 r2, Own.blk bg4_0 (.cells #[.func (.func 37) #[] #[]] 74 (0, 0)), Own.blk bg4_1 (.cells #[.slice Ag4_1 lg4_1.length cg4_1] 22 (0, 0))]
      refine ge_same (t := 0) (v := (.slice A0 m1.length c0)) (v' := (.slice A0 r2.length c0)) (by kernel_rfl) (by rw [show m1.length = r2.length from hE2]) ?_
      refine ge_same (t := 35) (v := (.slice A0 m1.length c0)) (v' := (.slice A0 r2.length c0)) (by kernel_rfl) (by rw [show m1.length = r2.length from hE2]) ?_
      have hLio4 : l0.length = r2.length := Eq.trans hLio1 hE2
      refine ge_nil fun a hF => hK8 _ _ ?_ a hF
      refine we_region [(0, 0), (1, 0), (2, 0), (3, 0)] rfl ?_
      refine ge_batch [0, 1, 2, 3] (ans := []) (vs := [(11, .int .i64 (IntKind.i64.wrap (z2 - z1))), (49, .int .i64 (IntKind.i64.wrap (z2 - z1))), (48, .int .i64 z1), (47, .int .i64 z2)]) (l := []) (by kernel_rfl) trivial ?_
      have hS25 := hS24.bring 3 rfl
      have hS26 := hS25.bring 1 rfl
      have hS27 := hS26.bring 3 rfl
      have hS28 := hS27.bring 3 rfl
      obtain rfl := Option.some.inj h
      exact ge_nil fun a hF => hQ _ _ _ (Outs.again ⟨hLio4, hS28, hF.weaken ⟨by kernel_rfl, by kernel_rfl, by kernel_rfl, by kernel_rfl, by kernel_rfl, trivial⟩⟩)
theorem slices_rotateCmpFunc_int_ok (K : Nat) (l0 : List Int) (A0 : Option Addr) (c0 : Nat) (x1 : Int) (x2 : Int) (x3 : Int) (bg4_0 : Nat) (bg4_1 : Nat) (lg4_1 : List STask) (Ag4_1 : Option Addr) (cg4_1 : Nat) (w0 wE : World) (LT : List Own) (hS : St w0 wE [Own.of (.slice A0 l0.length c0) 3 l0, Own.blk bg4_0 (.cells #[.func (.func 37) #[] #[]] 74 (0, 0)), Own.blk bg4_1 (.cells #[.slice Ag4_1 lg4_1.length cg4_1] 22 (0, 0)), Own.all LT]) (hRg4_1 : RdL w0 Ag4_1 lg4_1) (hLg4_1 : lg4_1.length ≤ cg4_1) (r : List Int) (h : slices_rotateCmpFunc_int.f K l0 x1 x2 x3 lg4_1 = some r) :
    Calls Try.prog 86 #[(.slice A0 l0.length c0), .int .i64 x1, .int .i64 x2, .int .i64 x3, .func (.func 59) #[] #[.pointer (some ⟨bg4_0, 0, none⟩), .pointer (some ⟨bg4_1, 0, none⟩)]] wE (slices_rotateCmpFunc_int.Post w0 l0 A0 c0 x1 x2 x3 bg4_0 bg4_1 lg4_1 Ag4_1 cg4_1 LT r) := by
  unfold slices_rotateCmpFunc_int.f at h
  refine calls_enter (n := 58) (args := [(.slice A0 l0.length c0), .int .i64 x1, .int .i64 x2, .int .i64 x3, .func (.func 59) #[] #[.pointer (some ⟨bg4_0, 0, none⟩), .pointer (some ⟨bg4_1, 0, none⟩)]]) (fn := Try.f86) rfl rfl rfl rfl ?_
  show WE _ _ _ _ [(0, (.slice A0 l0.length c0)), (1, .int .i64 x1), (2, .int .i64 x2), (3, .int .i64 x3), (4, .func (.func 59) #[] #[.pointer (some ⟨bg4_0, 0, none⟩), .pointer (some ⟨bg4_1, 0, none⟩)])] _
  refine we_seq fun K1 hK1 => ?_
  refine we_region [(0, 0), (1, 0), (2, 0), (3, 0)] rfl ?_
  refine ge_batch [0, 1, 2, 3] (ans := []) (vs := [(10, .int .i64 (IntKind.i64.wrap (x2 - x1))), (14, .int .i64 (IntKind.i64.wrap (x2 - x1))), (13, .int .i64 x1), (12, .int .i64 x2)]) (l := []) (by kernel_rfl) trivial ?_
  refine ge_nil fun a hF => hK1 _ _ ?_ a hF
  refine we_seq fun K2 hK2 => ?_
  refine we_region [(0, 0), (1, 0), (2, 0), (3, 0)] rfl ?_
  refine ge_batch [0, 1, 2, 3] (ans := []) (vs := [(11, .int .i64 (IntKind.i64.wrap (x3 - x2))), (17, .int .i64 (IntKind.i64.wrap (x3 - x2))), (16, .int .i64 x2), (15, .int .i64 x3)]) (l := []) (by kernel_rfl) trivial ?_
  refine ge_nil fun a hF => hK2 _ _ ?_ a hF
  refine we_seq fun K3 hK3 => ?_
  refine we_block ?_
  have hS1 := hS.bring 3 rfl
  have hS2 := hS1.bring 1 rfl
  have hS3 := hS2.bring 3 rfl
  have hS4 := hS3.bring 3 rfl
  rcases hq3 : iter (slices_rotateCmpFunc_int.r0 K x2 lg4_1) K (IntKind.i64.wrap (x2 - x1), IntKind.i64.wrap (x3 - x2), l0) with _ | (⟨z4, m3⟩ | rr1)
  · rw [hq3] at h; cases h
  · rw [hq3] at h
    simp only [] at h
    refine we_iter (A := slices_rotateCmpFunc_int.A0 K w0 l0 A0 c0 x1 x2 x3 bg4_0 bg4_1 lg4_1 Ag4_1 cg4_1 LT hRg4_1 hLg4_1) (B := slices_rotateCmpFunc_int.B0 K w0 l0 A0 c0 x1 x2 x3 bg4_0 bg4_1 lg4_1 Ag4_1 cg4_1 LT hRg4_1 hLg4_1) hq3 (fun a hF => ⟨rfl, hS4, hF.weaken ⟨by kernel_rfl, by kernel_rfl, by kernel_rfl, by kernel_rfl, by kernel_rfl, trivial⟩⟩) (fun s o hf a w hA Q hQ => slices_rotateCmpFunc_int_r0 K w0 l0 A0 c0 x1 x2 x3 bg4_0 bg4_1 lg4_1 Ag4_1 cg4_1 LT hRg4_1 hLg4_1 s o hf a w hA Q hQ) ?_
    rintro _ a w3 _ ⟨rfl, hRz1, hS29, hF⟩
    replace hS29 : St w0 w3 [Own.blk bg4_0 (.cells #[.func (.func 37) #[] #[]] 74 (0, 0)), Own.blk bg4_1 (.cells #[.slice Ag4_1 lg4_1.length cg4_1] 22 (0, 0)), Own.of (.slice A0 m3.length c0) 3 m3, Own.all LT] := hS29
    refine hK3 [(0, (.slice A0 m3.length c0)), (2, .int .i64 x2), (4, .func (.func 59) #[] #[.pointer (some ⟨bg4_0, 0, none⟩), .pointer (some ⟨bg4_1, 0, none⟩)]), (10, .int .i64 z4)] w3 ?_ a hF
    refine we_region [(0, 0), (1, 0), (2, 0), (3, 0), (4, 0), (5, 0), (6, 0), (7, 2)] rfl ?_
    refine ge_batch [0, 1, 2, 3, 4, 5, 6] (ans := []) (vs := [(56, .func (.func 59) #[] #[.pointer (some ⟨bg4_0, 0, none⟩), .pointer (some ⟨bg4_1, 0, none⟩)]), (55, .int .i64 z4), (54, .int .i64 x2), (53, .int .i64 (IntKind.i64.wrap (x2 - z4))), (52, .int .i64 z4), (51, .int .i64 x2), (50, (.slice A0 m3.length c0))]) (l := []) (by kernel_rfl) trivial ?_
    rcases hq4 : slices_swapRangeCmpFunc_int.f K m3 (IntKind.i64.wrap (x2 - z4)) x2 z4 lg4_1 with _ | r3
    · rw [hq4] at h; cases h
    rw [hq4] at h
    simp only [] at h
    have hS30 := hS29.bring 1 rfl
    have hS31 := hS30.bring 1 rfl
    have hS32 := hS31.bring 2 rfl
    have hS34 : St w0 w3 [Own.of (.slice A0 m3.length c0) 3 m3, Own.blk bg4_0 (.cells #[.func (.func 37) #[] #[]] 74 (0, 0)), Own.blk bg4_1 (.cells #[.slice Ag4_1 lg4_1.length cg4_1] 22 (0, 0)), Own.all [Own.all LT]] := hS32.packN 3
    refine ge_call2 (m := 0) (d := some 57) (f := 89) (args := #[.slice A0 m3.length c0, .int .i64 (IntKind.i64.wrap (x2 - z4)), .int .i64 x2, .int .i64 z4, .func (.func 59) #[] #[.pointer (some ⟨bg4_0, 0, none⟩), .pointer (some ⟨bg4_1, 0, none⟩)]]) (by kernel_rfl) (slices_swapRangeCmpFunc_int_ok K m3 A0 c0 (IntKind.i64.wrap (x2 - z4)) x2 z4 bg4_0 bg4_1 lg4_1 Ag4_1 cg4_1 _ _ _ hS34 hRg4_1 hLg4_1 _ hq4) ?_
    rintro _ w4 ⟨rfl, hE3, hS33⟩
    refine ⟨_, rfl, ?_⟩
    have hS35 : St w0 w4 [Own.of (.slice A0 r3.length c0) 3 r3, Own.blk bg4_0 (.cells #[.func (.func 37) #[] #[]] 74 (0, 0)), Own.blk bg4_1 (.cells #[.slice Ag4_1 lg4_1.length cg4_1] 22 (0, 0)), Own.all LT] := hS33.unpack [Own.of (.slice A0 r3.length c0) 3 r3, Own.blk bg4_0 (.cells #[.func (.func 37) #[] #[]] 74 (0, 0)), Own.blk bg4_1 (.cells #[.slice Ag4_1 lg4_1.length cg4_1] 22 (0, 0))]
    refine ge_same (t := 0) (v := (.slice A0 m3.length c0)) (v' := (.slice A0 r3.length c0)) (by kernel_rfl) (by rw [show m3.length = r3.length from hE3]) ?_
    refine ge_same (t := 50) (v := (.slice A0 m3.length c0)) (v' := (.slice A0 r3.length c0)) (by kernel_rfl) (by rw [show m3.length = r3.length from hE3]) ?_
    have hLio5 : l0.length = r3.length := Eq.trans hRz1 hE3
    have hS36 := hS35.bring 3 rfl
    have hS37 := hS36.bring 3 rfl
    have hS38 := hS37.bring 3 rfl
    have hS39 := hS38.bring 3 rfl
    obtain rfl := Option.some.inj h
    exact ge_nil (post_end (rs := []) (ans := []) (vs := []) (l := []) rfl (by kernel_rfl) trivial ⟨rfl, hLio5, hS39⟩)
  · rw [hq3] at h
    simp only [] at h
    refine we_iter (A := slices_rotateCmpFunc_int.A0 K w0 l0 A0 c0 x1 x2 x3 bg4_0 bg4_1 lg4_1 Ag4_1 cg4_1 LT hRg4_1 hLg4_1) (B := slices_rotateCmpFunc_int.B0 K w0 l0 A0 c0 x1 x2 x3 bg4_0 bg4_1 lg4_1 Ag4_1 cg4_1 LT hRg4_1 hLg4_1) hq3 (fun a hF => ⟨rfl, hS4, hF.weaken ⟨by kernel_rfl, by kernel_rfl, by kernel_rfl, by kernel_rfl, by kernel_rfl, trivial⟩⟩) (fun s o hf a w hA Q hQ => slices_rotateCmpFunc_int_r0 K w0 l0 A0 c0 x1 x2 x3 bg4_0 bg4_1 lg4_1 Ag4_1 cg4_1 LT hRg4_1 hLg4_1 s o hf a w hA Q hQ) ?_
    rintro _ a w1 _ ⟨rfl, hb⟩
    obtain rfl := Option.some.inj h
    exact hb
end Go.Proofs.Ytlipdmblinjjaaa.GV
