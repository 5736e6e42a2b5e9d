/- Walks of single functions, written by a program of this work. -/
import Derived.Test.YtlcndfafkegjgaaDoorGWWindowsSupply1
namespace Go.Proofs.YtlcndfafkegjgaaDoor.GV
open Go Go.RowKit
set_option linter.unusedVariables false
set_option linter.unusedSimpArgs false
set_option maxRecDepth 100000

/-! punctual/fixed.Response -/
abbrev fixed_Response.Post (w0 : World) (r : Int × SFault) (e : Ending) (w : World) : Prop := e = .returned (.tuple #[.int .i64 r.1, .agg #[.int .i64 r.2.Code, .int .i64 r.2.At]]) ∧ St w0 w []
def fixed_Response.p0 (l0 : List STask) (x1 : Int) (x2 : Int) : Option (Bool ⊕ (Int × SFault)) :=
    if x1 < 0 then
      some (.inl true)
    else
      if x1 ≥ (l0.length : Int) then
        some (.inl true)
      else
        if x2 < 0 then
          some (.inl true)
        else
          some (.inl (decide (x2 > 10000)))
def fixed_Response.f (K : Nat) (l0 : List STask) (x1 : Int) (x2 : Int) : Option (Int × SFault) :=
  match fixed_check.f K l0 with
  | none => none
  | some r1 =>
    if r1.Code = 0 then
      match fixed_Response.p0 l0 x1 x2 with
      | none => none
      | some (.inl q2) =>
        if q2 = true then
          some (0, (⟨3, 0⟩ : SFault))
        else
          if 0 ≤ x1 then
            match l0[(x1).toNat]? with
            | none => none
            | some e1 =>
              match fixed_above.f K l0 x1 with
              | none => none
              | some r2 =>
                match fixed_response.f K e1 r2 x2 with
                | none => none
                | some r3 =>
                  if r3 = 0 then
                    some (0, (⟨13, x1⟩ : SFault))
                  else
                    some (r3, (⟨0, 0⟩ : SFault))
          else
            none
      | some (.inr rr1) =>
        some rr1
    else
      some (0, r1)
abbrev fixed_Response.A0 (K : Nat) (w0 : World) (l0 : List STask) (A0 : Option Addr) (c0 : Nat) (x1 : Int) (x2 : Int) (hR0 : RdL w0 A0 l0) (hL0 : l0.length ≤ c0) (b1 : Nat) (r1 : SFault) (b2 : Nat) (hc1 : r1.Code = 0) : Bool → Act → World → Prop := fun (s : Bool) a w => St w0 w [Own.blk b1 (.cells #[.int .i64 0, .int .i64 0] 30 (0, 0))] ∧ Frm 48 a [(0, .slice A0 l0.length c0), (1, .int .i64 x1), (2, .int .i64 x2), (7, .pointer (some ⟨b1, 0, none⟩)), (31, .bool s)]
abbrev fixed_Response.B0 (K : Nat) (w0 : World) (l0 : List STask) (A0 : Option Addr) (c0 : Nat) (x1 : Int) (x2 : Int) (hR0 : RdL w0 A0 l0) (hL0 : l0.length ≤ c0) (b1 : Nat) (r1 : SFault) (b2 : Nat) (hc1 : r1.Code = 0) : (Int × SFault) → Exit → Act → World → Prop := Rets Tryd.prog Tryd.f66 (fixed_Response.Post w0)
theorem fixed_Response_p0 (K : Nat) (w0 : World) (l0 : List STask) (A0 : Option Addr) (c0 : Nat) (x1 : Int) (x2 : Int) (hR0 : RdL w0 A0 l0) (hL0 : l0.length ≤ c0) (b1 : Nat) (r1 : SFault) (b2 : Nat) (hc1 : r1.Code = 0) (o : Bool ⊕ (Int × SFault)) (h : fixed_Response.p0 l0 x1 x2 = some o) (w : World) (hS : St w0 w [Own.blk b2 (.cells #[.int .i64 r1.Code, .int .i64 r1.At] 30 (0, 0)), Own.blk b1 (.cells #[.int .i64 0, .int .i64 0] 30 (0, 0))]) (Q : Exit → Act → World → Prop) (hQ : ∀ x a w, Outs (fixed_Response.A0 K w0 l0 A0 c0 x1 x2 hR0 hL0 b1 r1 b2 hc1) (fixed_Response.B0 K w0 l0 A0 c0 x1 x2 hR0 hL0 b1 r1 b2 hc1) o x a w → Q x a w) : WE Tryd.prog 48 (subF Tryd.f66 [1, 1, 0, 0]) Q [(0, .slice A0 l0.length c0), (1, .int .i64 x1), (2, .int .i64 x2), (6, .int .i64 0), (7, .pointer (some ⟨b1, 0, none⟩)), (8, .pointer (some ⟨b2, 0, none⟩)), (10, .slice A0 l0.length c0), (11, .agg #[.int .i64 r1.Code, .int .i64 r1.At]), (12, .pointer (some ⟨b2, 0, none⟩)), (13, .int .i64 r1.Code), (14, .bool false)] w := by
  simp only [fixed_Response.p0] at h
  refine we_region [(0, 0), (1, 0), (2, 0), (3, 0), (4, 0), (5, 0), (6, 0), (7, 0), (8, 0), (9, 0), (10, 0), (11, 0), (12, 0), (13, 0), (14, 0), (15, 0)] rfl ?_
  refine ge_batch [0, 1, 2] (ans := []) (vs := [(18, .bool (decide (x1 < 0))), (17, .bool (decide (x1 < 0))), (16, .int .i64 x1)]) (l := []) (by kernel_rfl) trivial ?_
  by_cases hc2 : x1 < 0
  · rw [if_pos hc2] at h
    refine ge_known (t := 18) (b := decide (x1 < 0)) (c := true) (by kernel_rfl) (decide_eq_true hc2) ?_
    refine ge_batch [3, 4, 5, 6, 7, 8, 9, 10, 11, 12, 13, 14, 15] (ans := []) (vs := [(31, .bool true), (30, undef), (29, undef), (28, .bool true), (27, .bool true), (26, undef), (25, undef), (24, .bool true), (23, .bool true), (22, undef), (21, undef), (20, undef), (19, undef)]) (l := []) (by kernel_rfl) trivial ?_
    have hS7 := hS.bring 1 rfl
    have hS8 := hS7.takeN 1
    obtain rfl := Option.some.inj h
    exact ge_nil fun a hF => hQ _ _ _ (Outs.again ⟨hS8, hF.weaken ⟨by kernel_rfl, by kernel_rfl, by kernel_rfl, by kernel_rfl, by kernel_rfl, trivial⟩⟩)
  · rw [if_neg hc2] at h
    refine ge_known (t := 18) (b := decide (x1 < 0)) (c := false) (by kernel_rfl) (decide_eq_false hc2) ?_
    refine ge_batch [3, 4, 5, 6, 7, 8] (ans := []) (vs := [(24, .bool (decide (x1 ≥ (l0.length : Int)))), (23, .bool (decide (x1 ≥ (l0.length : Int)))), (22, .bool (decide (x1 ≥ (l0.length : Int)))), (21, .int .i64 (l0.length : Int)), (20, .slice A0 l0.length c0), (19, .int .i64 x1)]) (l := []) (by kernel_rfl) trivial ?_
    by_cases hc3 : x1 ≥ (l0.length : Int)
    · rw [if_pos hc3] at h
      refine ge_known (t := 24) (b := decide (x1 ≥ (l0.length : Int))) (c := true) (by kernel_rfl) (decide_eq_true hc3) ?_
      refine ge_batch [9, 10, 11, 12, 13, 14, 15] (ans := []) (vs := [(31, .bool true), (30, undef), (29, undef), (28, .bool true), (27, .bool true), (26, undef), (25, undef)]) (l := []) (by kernel_rfl) trivial ?_
      have hS9 := hS.bring 1 rfl
      have hS10 := hS9.takeN 1
      obtain rfl := Option.some.inj h
      exact ge_nil fun a hF => hQ _ _ _ (Outs.again ⟨hS10, hF.weaken ⟨by kernel_rfl, by kernel_rfl, by kernel_rfl, by kernel_rfl, by kernel_rfl, trivial⟩⟩)
    · rw [if_neg hc3] at h
      refine ge_known (t := 24) (b := decide (x1 ≥ (l0.length : Int))) (c := false) (by kernel_rfl) (decide_eq_false hc3) ?_
      refine ge_batch [9, 10, 11, 12] (ans := []) (vs := [(28, .bool (decide (x2 < 0))), (27, .bool (decide (x2 < 0))), (26, .bool (decide (x2 < 0))), (25, .int .i64 x2)]) (l := []) (by kernel_rfl) trivial ?_
      by_cases hc4 : x2 < 0
      · rw [if_pos hc4] at h
        refine ge_known (t := 28) (b := decide (x2 < 0)) (c := true) (by kernel_rfl) (decide_eq_true hc4) ?_
        refine ge_batch [13, 14, 15] (ans := []) (vs := [(31, .bool true), (30, undef), (29, undef)]) (l := []) (by kernel_rfl) trivial ?_
        have hS11 := hS.bring 1 rfl
        have hS12 := hS11.takeN 1
        obtain rfl := Option.some.inj h
        exact ge_nil fun a hF => hQ _ _ _ (Outs.again ⟨hS12, hF.weaken ⟨by kernel_rfl, by kernel_rfl, by kernel_rfl, by kernel_rfl, by kernel_rfl, trivial⟩⟩)
      · rw [if_neg hc4] at h
        refine ge_known (t := 28) (b := decide (x2 < 0)) (c := false) (by kernel_rfl) (decide_eq_false hc4) ?_
        refine ge_batch [13, 14, 15] (ans := []) (vs := [(31, .bool (decide (x2 > 10000))), (30, .bool (decide (x2 > 10000))), (29, .int .i64 x2)]) (l := []) (by kernel_rfl) trivial ?_
        have hS13 := hS.bring 1 rfl
        have hS14 := hS13.takeN 1
        obtain rfl := Option.some.inj h
        exact ge_nil fun a hF => hQ _ _ _ (Outs.again ⟨hS14, hF.weaken ⟨by kernel_rfl, by kernel_rfl, by kernel_rfl, by kernel_rfl, by kernel_rfl, trivial⟩⟩)
theorem fixed_Response_ok (K : Nat) (l0 : List STask) (A0 : Option Addr) (c0 : Nat) (x1 : Int) (x2 : Int) (w0 : World) (hR0 : RdL w0 A0 l0) (hL0 : l0.length ≤ c0) (r : Int × SFault) (h : fixed_Response.f K l0 x1 x2 = some r) :
    Calls Tryd.prog 66 #[.slice A0 l0.length c0, .int .i64 x1, .int .i64 x2] w0 (fixed_Response.Post w0 r) := by
  have hS := St.start w0
  unfold fixed_Response.f at h
  refine calls_enter (n := 48) (args := [.slice A0 l0.length c0, .int .i64 x1, .int .i64 x2]) (fn := Tryd.f66) rfl rfl rfl rfl ?_
  show WE _ _ _ _ [(0, .slice A0 l0.length c0), (1, .int .i64 x1), (2, .int .i64 x2)] _
  refine we_seq fun K1 hK1 => ?_
  refine we_region [(0, 0), (1, 1)] rfl ?_
  refine ge_batch [0] (ans := []) (vs := [(6, .int .i64 0)]) (l := []) (by kernel_rfl) trivial ?_
  refine ge_new (d := some 7) (o := .cells #[.int .i64 0, .int .i64 0] 30) (v := fun b => .pointer (some ⟨b, 0, none⟩)) hS (fun b => by kernel_rfl) fun b1 w1 hx1 hS1 => ?_
  refine ge_nil fun a hF => hK1 _ _ ?_ a hF
  refine we_seq fun K2 hK2 => ?_
  refine we_seq fun K3 hK3 => ?_
  refine we_region [(0, 0), (1, 1), (2, 1), (3, 2)] rfl ?_
  rcases hq1 : fixed_check.f K l0 with _ | r1
  · rw [hq1] at h; cases h
  rw [hq1] at h
  simp only [] at h
  refine ge_batch [0] (ans := []) (vs := [(10, .slice A0 l0.length c0)]) (l := []) (by kernel_rfl) trivial ?_
  refine ge_call (d := some 11) (f := 109) (args := #[.slice A0 l0.length c0]) (by kernel_rfl) (fixed_check_ok K l0 A0 c0 _ (hS1.rd hR0) hL0 _ hq1) ?_
  rintro _ w2 ⟨rfl, hS2⟩
  refine ⟨_, rfl, hS2.below, ?_⟩
  have hS3 := hS1.call hS2
  refine ge_new (d := some 8) (o := .cells #[.int .i64 0, .int .i64 0] 30) (v := fun b => .pointer (some ⟨b, 0, none⟩)) hS3 (fun b => by kernel_rfl) fun b2 w3 hx2 hS4 => ?_
  refine ge_set (b := b2) (j := 0) (cs := #[.int .i64 0, .int .i64 0]) (t := 30) (vs := [.int .i64 r1.Code, .int .i64 r1.At]) hS4 (by kernel_rfl) rfl rfl fun w4 hS5 => ?_
  have hS6 : St w0 w4 [Own.blk b2 (.cells #[.int .i64 r1.Code, .int .i64 r1.At] 30 (0, 0)), Own.blk b1 (.cells #[.int .i64 0, .int .i64 0] 30 (0, 0))] := hS5
  refine ge_nil fun a hF => hK3 _ _ ?_ a hF
  refine we_seq fun K4 hK4 => ?_
  refine we_region [(0, 0), (1, 0), (2, 0)] rfl ?_
  refine ge_batch [0, 1, 2] (ans := [.val (.int .i64 r1.Code)]) (vs := [(14, .bool (r1.Code != 0)), (13, .int .i64 r1.Code), (12, .pointer (some ⟨b2, 0, none⟩))]) (l := [.loaded ⟨b2, 0, none⟩ (.int .i64 r1.Code)]) (by kernel_rfl) ⟨hS6.cell 0 rfl rfl, trivial⟩ ?_
  refine ge_nil fun a hF => hK4 _ _ ?_ a hF
  by_cases hc1 : r1.Code = 0
  · rw [if_pos hc1] at h
    refine we_known (t := 14) (b := (r1.Code != 0)) (v := false) (by kernel_rfl) (bne_eq_false_iff_eq.2 hc1) ?_
    refine we_false (by kernel_rfl) ?_
    refine we_skip fun a hF => hK2 _ _ ?_ a hF
    refine we_seq fun K5 hK5 => ?_
    refine we_seq fun K6 hK6 => ?_
    rcases hq2 : fixed_Response.p0 l0 x1 x2 with _ | (q2 | rr1)
    · rw [hq2] at h; cases h
    · rw [hq2] at h
      simp only [] at h
      refine we_keep (e' := [(0, .slice A0 l0.length c0), (1, .int .i64 x1), (2, .int .i64 x2), (6, .int .i64 0), (7, .pointer (some ⟨b1, 0, none⟩)), (8, .pointer (some ⟨b2, 0, none⟩)), (10, .slice A0 l0.length c0), (11, .agg #[.int .i64 r1.Code, .int .i64 r1.At]), (12, .pointer (some ⟨b2, 0, none⟩)), (13, .int .i64 r1.Code), (14, .bool false)]) ⟨by kernel_rfl, by kernel_rfl, by kernel_rfl, by kernel_rfl, by kernel_rfl, by kernel_rfl, by kernel_rfl, by kernel_rfl, by kernel_rfl, by kernel_rfl, by kernel_rfl, trivial⟩ (fixed_Response_p0 K w0 l0 A0 c0 x1 x2 hR0 hL0 b1 r1 b2 hc1 _ hq2 _ hS6 _ ?_)
      rintro _ a w5 ⟨rfl, hS15, hF⟩
      replace hS15 : St w0 w5 [Own.blk b1 (.cells #[.int .i64 0, .int .i64 0] 30 (0, 0))] := hS15
      refine hK6 [(0, .slice A0 l0.length c0), (1, .int .i64 x1), (2, .int .i64 x2), (7, .pointer (some ⟨b1, 0, none⟩)), (31, .bool q2)] w5 ?_ a hF
      by_cases hc5 : q2 = true
      · rw [if_pos hc5] at h
        refine we_known (t := 31) (b := q2) (v := true) (by kernel_rfl) hc5 ?_
        refine we_true (by kernel_rfl) ?_
        refine we_seq fun K7 hK7 => ?_
        refine we_region [(0, 0), (1, 0), (2, 2)] rfl ?_
        refine ge_batch [0, 1] (ans := []) (vs := [(6, .int .i64 0), (32, .agg #[.int .i64 3, .int .i64 0])]) (l := []) (by kernel_rfl) trivial ?_
        refine ge_set (b := b1) (j := 0) (cs := #[.int .i64 0, .int .i64 0]) (t := 30) (vs := [.int .i64 3, .int .i64 0]) hS15 (by kernel_rfl) rfl rfl fun w6 hS16 => ?_
        have hS17 : St w0 w6 [Own.blk b1 (.cells #[.int .i64 3, .int .i64 0] 30 (0, 0))] := hS16
        refine ge_nil fun a hF => hK7 _ _ ?_ a hF
        have hS18 := hS17.takeN 0
        obtain rfl := Option.some.inj h
        exact we_ret (post_ret (rs := [.tmp 6, .cell 7 30]) (ans := [.val (.int .i64 3), .val (.int .i64 0)]) (vs := [.int .i64 0, .agg #[.int .i64 3, .int .i64 0]]) (l := [.loaded ⟨b1, 0, none⟩ (.int .i64 3), .loaded ⟨b1, 1, none⟩ (.int .i64 0)]) rfl (by kernel_rfl) ⟨hS17.cell 0 rfl rfl, hS17.cell 0 rfl rfl, trivial⟩ ⟨rfl, hS18⟩)
      · rw [if_neg hc5] at h
        refine we_known (t := 31) (b := q2) (v := false) (by kernel_rfl) (Bool.eq_false_iff.2 hc5) ?_
        refine we_false (by kernel_rfl) ?_
        refine we_skip fun a hF => hK5 _ _ ?_ a hF
        refine we_seq fun K8 hK8 => ?_
        refine we_draws (by kernel_rfl) [(0, 0), (1, 0), (2, 0), (3, 0), (4, 0), (5, 0), (7, 0), (6, 1), (8, 1), (9, 0)] (by kernel_rfl) ?_
        have hS19 := hS15.drew
        refine ge_batch [0, 1] (ans := []) (vs := [(34, .int .i64 x1), (33, .slice A0 l0.length c0)]) (l := []) (by kernel_rfl) trivial ?_
        by_cases hc6 : 0 ≤ x1
        · rw [if_pos hc6] at h
          rcases hx3 : l0[(x1).toNat]? with _ | e1
          · rw [hx3] at h; cases h
          rw [hx3] at h
          simp only [] at h
          refine ge_index (d := 35) (ty := 0) (t := 60) (el := 64) (sz := 7) (m := l0.length) (c := c0) (x := (.tmp 33)) (y := (.tmp 34)) (A := A0) (k' := .i64) (j := x1) (jn := ((x1).toNat)) (b0 := blkOf A0) (o0 := offOf A0) (by kernel_rfl) (by kernel_rfl) (by kernel_rfl) (by kernel_rfl) (by kernel_rfl) ((hS19.rd hR0).eqSome (pos_of_get hx3)) (Int.toNat_of_nonneg hc6).symm (lt_of_get hx3) ?_
          rcases hq3 : fixed_above.f K l0 x1 with _ | r2
          · rw [hq3] at h; cases h
          rw [hq3] at h
          simp only [] at h
          refine ge_batch [3, 4, 5, 7] (ans := [.val (.string e1.Name), .val (.int .i64 e1.C), .val (.int .i64 e1.T), .val (.int .i64 e1.D), .val (.int .i64 e1.J), .val (.int .i64 e1.O), .val (.int .i64 e1.P)]) (vs := [(40, .int .i64 x2), (38, .int .i64 x1), (37, .slice A0 l0.length c0), (36, .agg #[.string e1.Name, .int .i64 e1.C, .int .i64 e1.T, .int .i64 e1.D, .int .i64 e1.J, .int .i64 e1.O, .int .i64 e1.P])]) (l := [.loaded ⟨blkOf A0, offOf A0 + ((x1).toNat) * 7, none⟩ (.string e1.Name), .loaded ⟨blkOf A0, offOf A0 + ((x1).toNat) * 7 + 1, none⟩ (.int .i64 e1.C), .loaded ⟨blkOf A0, offOf A0 + ((x1).toNat) * 7 + 2, none⟩ (.int .i64 e1.T), .loaded ⟨blkOf A0, offOf A0 + ((x1).toNat) * 7 + 3, none⟩ (.int .i64 e1.D), .loaded ⟨blkOf A0, offOf A0 + ((x1).toNat) * 7 + 4, none⟩ (.int .i64 e1.J), .loaded ⟨blkOf A0, offOf A0 + ((x1).toNat) * 7 + 5, none⟩ (.int .i64 e1.O), .loaded ⟨blkOf A0, offOf A0 + ((x1).toNat) * 7 + 6, none⟩ (.int .i64 e1.P)]) (by kernel_rfl) ⟨RdL.cell (j := 0) (hS19.rd hR0) hx3 rfl, RdL.cell (j := 1) (hS19.rd hR0) hx3 rfl, RdL.cell (j := 2) (hS19.rd hR0) hx3 rfl, RdL.cell (j := 3) (hS19.rd hR0) hx3 rfl, RdL.cell (j := 4) (hS19.rd hR0) hx3 rfl, RdL.cell (j := 5) (hS19.rd hR0) hx3 rfl, RdL.cell (j := 6) (hS19.rd hR0) hx3 rfl, trivial⟩ ?_
          refine ge_call (d := some 39) (f := 111) (args := #[.slice A0 l0.length c0, .int .i64 x1]) (by kernel_rfl) (fixed_above_ok K l0 A0 c0 x1 _ (hS19.rd hR0) hL0 _ hq3) ?_
          rintro _ w7 ⟨v1, rfl, hS20⟩
          refine ⟨_, rfl, hS20.below, ?_⟩
          have hS21 := hS19.call hS20
          obtain ⟨Z1, cz1, rfl⟩ := hS21.open 0 rfl
          rcases hq4 : fixed_response.f K e1 r2 x2 with _ | r3
          · rw [hq4] at h; cases h
          rw [hq4] at h
          simp only [] at h
          refine ge_call (d := some 41) (f := 110) (args := #[.agg #[.string e1.Name, .int .i64 e1.C, .int .i64 e1.T, .int .i64 e1.D, .int .i64 e1.J, .int .i64 e1.O, .int .i64 e1.P], (.slice Z1 r2.length cz1), .int .i64 x2]) (by kernel_rfl) (fixed_response_ok K e1 r2 Z1 cz1 x2 _ (hS21.rdAt 0 rfl) (hS21.capAt 0 rfl) _ hq4) ?_
          rintro _ w8 ⟨rfl, hS22⟩
          refine ⟨_, rfl, hS22.below, ?_⟩
          have hS23 := hS21.call hS22
          refine ge_batch [9] (ans := []) (vs := [(9, .int .i64 r3)]) (l := []) (by kernel_rfl) trivial ?_
          refine ge_nil fun a hF => hK8 _ _ ?_ a hF
          refine we_seq fun K9 hK9 => ?_
          refine we_seq fun K10 hK10 => ?_
          refine we_region [(0, 0), (1, 0)] rfl ?_
          refine ge_batch [0, 1] (ans := []) (vs := [(43, .bool (r3 == 0)), (42, .int .i64 r3)]) (l := []) (by kernel_rfl) trivial ?_
          refine ge_nil fun a hF => hK10 _ _ ?_ a hF
          by_cases hc7 : r3 = 0
          · rw [if_pos hc7] at h
            refine we_known (t := 43) (b := (r3 == 0)) (v := true) (by kernel_rfl) (beq_iff_eq.2 hc7) ?_
            refine we_true (by kernel_rfl) ?_
            refine we_seq fun K11 hK11 => ?_
            refine we_region [(0, 0), (1, 0), (2, 0), (3, 2)] rfl ?_
            refine ge_batch [0, 1, 2] (ans := []) (vs := [(6, .int .i64 0), (45, .agg #[.int .i64 13, .int .i64 x1]), (44, .int .i64 x1)]) (l := []) (by kernel_rfl) trivial ?_
            have hS24 := hS23.bring 1 rfl
            refine ge_set (b := b1) (j := 0) (cs := #[.int .i64 0, .int .i64 0]) (t := 30) (vs := [.int .i64 13, .int .i64 x1]) hS24 (by kernel_rfl) rfl rfl fun w9 hS25 => ?_
            have hS26 : St w0 w9 [Own.blk b1 (.cells #[.int .i64 13, .int .i64 x1] 30 (0, 0)), Own.of (.slice Z1 r2.length cz1) 64 r2] := hS25
            refine ge_nil fun a hF => hK11 _ _ ?_ a hF
            have hS27 := hS26.takeN 0
            obtain rfl := Option.some.inj h
            exact we_ret (post_ret (rs := [.tmp 6, .cell 7 30]) (ans := [.val (.int .i64 13), .val (.int .i64 x1)]) (vs := [.int .i64 0, .agg #[.int .i64 13, .int .i64 x1]]) (l := [.loaded ⟨b1, 0, none⟩ (.int .i64 13), .loaded ⟨b1, 1, none⟩ (.int .i64 x1)]) rfl (by kernel_rfl) ⟨hS26.cell 0 rfl rfl, hS26.cell 0 rfl rfl, trivial⟩ ⟨rfl, hS27⟩)
          · rw [if_neg hc7] at h
            refine we_known (t := 43) (b := (r3 == 0)) (v := false) (by kernel_rfl) (beq_eq_false_iff_ne.2 hc7) ?_
            refine we_false (by kernel_rfl) ?_
            refine we_skip fun a hF => hK9 _ _ ?_ a hF
            refine we_seq fun K12 hK12 => ?_
            refine we_region [(0, 0), (1, 0), (2, 0), (3, 2)] rfl ?_
            refine ge_batch [0, 1, 2] (ans := []) (vs := [(6, .int .i64 r3), (47, .agg #[.int .i64 0, .int .i64 0]), (46, .int .i64 r3)]) (l := []) (by kernel_rfl) trivial ?_
            have hS28 := hS23.bring 1 rfl
            refine ge_set (b := b1) (j := 0) (cs := #[.int .i64 0, .int .i64 0]) (t := 30) (vs := [.int .i64 0, .int .i64 0]) hS28 (by kernel_rfl) rfl rfl fun w10 hS29 => ?_
            have hS30 : St w0 w10 [Own.blk b1 (.cells #[.int .i64 0, .int .i64 0] 30 (0, 0)), Own.of (.slice Z1 r2.length cz1) 64 r2] := hS29
            refine ge_nil fun a hF => hK12 _ _ ?_ a hF
            have hS31 := hS30.takeN 0
            obtain rfl := Option.some.inj h
            exact we_ret (post_ret (rs := [.tmp 6, .cell 7 30]) (ans := [.val (.int .i64 0), .val (.int .i64 0)]) (vs := [.int .i64 r3, .agg #[.int .i64 0, .int .i64 0]]) (l := [.loaded ⟨b1, 0, none⟩ (.int .i64 0), .loaded ⟨b1, 1, none⟩ (.int .i64 0)]) rfl (by kernel_rfl) ⟨hS30.cell 0 rfl rfl, hS30.cell 0 rfl rfl, trivial⟩ ⟨rfl, hS31⟩)
        · rw [if_neg hc6] at h
          cases h
    · rw [hq2] at h
      simp only [] at h
      refine we_keep (e' := [(0, .slice A0 l0.length c0), (1, .int .i64 x1), (2, .int .i64 x2), (6, .int .i64 0), (7, .pointer (some ⟨b1, 0, none⟩)), (8, .pointer (some ⟨b2, 0, none⟩)), (10, .slice A0 l0.length c0), (11, .agg #[.int .i64 r1.Code, .int .i64 r1.At]), (12, .pointer (some ⟨b2, 0, none⟩)), (13, .int .i64 r1.Code), (14, .bool false)]) ⟨by kernel_rfl, by kernel_rfl, by kernel_rfl, by kernel_rfl, by kernel_rfl, by kernel_rfl, by kernel_rfl, by kernel_rfl, by kernel_rfl, by kernel_rfl, by kernel_rfl, trivial⟩ (fixed_Response_p0 K w0 l0 A0 c0 x1 x2 hR0 hL0 b1 r1 b2 hc1 _ hq2 _ hS6 _ ?_)
      rintro _ a w1 ⟨_, rfl, hb⟩
      obtain rfl := Option.some.inj h
      exact hb
  · rw [if_neg hc1] at h
    refine we_known (t := 14) (b := (r1.Code != 0)) (v := true) (by kernel_rfl) (bne_iff_ne.2 hc1) ?_
    refine we_true (by kernel_rfl) ?_
    refine we_seq fun K13 hK13 => ?_
    refine we_draws (by kernel_rfl) [(0, 0), (1, 0), (2, 2)] (by kernel_rfl) ?_
    have hS32 := hS6.drew
    refine ge_batch [0, 1] (ans := [.val (.int .i64 r1.Code), .val (.int .i64 r1.At)]) (vs := [(6, .int .i64 0), (15, .agg #[.int .i64 r1.Code, .int .i64 r1.At])]) (l := [.loaded ⟨b2, 0, none⟩ (.int .i64 r1.Code), .loaded ⟨b2, 1, none⟩ (.int .i64 r1.At)]) (by kernel_rfl) ⟨hS32.cell 0 rfl rfl, hS32.cell 0 rfl rfl, trivial⟩ ?_
    have hS33 := hS32.bring 1 rfl
    refine ge_set (b := b1) (j := 0) (cs := #[.int .i64 0, .int .i64 0]) (t := 30) (vs := [.int .i64 r1.Code, .int .i64 r1.At]) hS33 (by kernel_rfl) rfl rfl fun w11 hS34 => ?_
    have hS35 : St w0 w11 [Own.blk b1 (.cells #[.int .i64 r1.Code, .int .i64 r1.At] 30 (0, 0)), Own.blk b2 (.cells #[.int .i64 r1.Code, .int .i64 r1.At] 30 (0, 0))] := hS34
    refine ge_nil fun a hF => hK13 _ _ ?_ a hF
    have hS36 := hS35.takeN 0
    obtain rfl := Option.some.inj h
    exact we_ret (post_ret (rs := [.tmp 6, .cell 7 30]) (ans := [.val (.int .i64 r1.Code), .val (.int .i64 r1.At)]) (vs := [.int .i64 0, .agg #[.int .i64 r1.Code, .int .i64 r1.At]]) (l := [.loaded ⟨b1, 0, none⟩ (.int .i64 r1.Code), .loaded ⟨b1, 1, none⟩ (.int .i64 r1.At)]) rfl (by kernel_rfl) ⟨hS35.cell 0 rfl rfl, hS35.cell 0 rfl rfl, trivial⟩ ⟨rfl, hS36⟩)

/-! punctual/modes.ceil -/
abbrev modes_ceil.Post (w0 : World) (r : Int) (e : Ending) (w : World) : Prop := e = .returned (.int .i64 r) ∧ St w0 w []
def modes_ceil.f (x0 : Int) (x1 : Int) : Option Int :=
  if x1 = 0 then
    none
  else
    some (IntKind.i64.wrap (Int.tdiv (IntKind.i64.wrap ((IntKind.i64.wrap (x0 + x1)) - 1)) x1))
theorem modes_ceil_ok (x0 : Int) (x1 : Int) (w0 : World) (r : Int) (h : modes_ceil.f x0 x1 = some r) :
    Calls Tryd.prog 67 #[.int .i64 x0, .int .i64 x1] w0 (modes_ceil.Post w0 r) := by
  have hS := St.start w0
  unfold modes_ceil.f at h
  refine calls_enter (n := 11) (args := [.int .i64 x0, .int .i64 x1]) (fn := Tryd.f67) rfl rfl rfl rfl ?_
  show WE _ _ _ _ [(0, .int .i64 x0), (1, .int .i64 x1)] _
  refine we_seq fun K1 hK1 => ?_
  refine we_region [(0, 0)] rfl ?_
  refine ge_batch [0] (ans := []) (vs := [(4, .int .i64 0)]) (l := []) (by kernel_rfl) trivial ?_
  refine ge_nil fun a hF => hK1 _ _ ?_ a hF
  refine we_seq fun K2 hK2 => ?_
  refine we_region [(0, 0), (1, 0), (2, 0), (3, 0), (4, 0), (5, 0), (6, 0)] rfl ?_
  refine ge_batch [0, 1, 2, 3, 4] (ans := []) (vs := [(9, .int .i64 x1), (8, .int .i64 (IntKind.i64.wrap ((IntKind.i64.wrap (x0 + x1)) - 1))), (7, .int .i64 (IntKind.i64.wrap (x0 + x1))), (6, .int .i64 x1), (5, .int .i64 x0)]) (l := []) (by kernel_rfl) trivial ?_
  by_cases hc1 : x1 = 0
  · rw [if_pos hc1] at h
    cases h
  · rw [if_neg hc1] at h
    refine ge_div (d := 10) (ty := 3) (op := .quo) (x := (.tmp 8)) (y := (.tmp 9)) (t := 3) (t2 := 3) (k := .i64) (p := (IntKind.i64.wrap ((IntKind.i64.wrap (x0 + x1)) - 1))) (q := x1) (v := .int .i64 (IntKind.i64.wrap (Int.tdiv (IntKind.i64.wrap ((IntKind.i64.wrap (x0 + x1)) - 1)) x1))) (by kernel_rfl) (by kernel_rfl) (by kernel_rfl) hc1 rfl ?_
    refine ge_batch [6] (ans := []) (vs := [(4, .int .i64 (IntKind.i64.wrap (Int.tdiv (IntKind.i64.wrap ((IntKind.i64.wrap (x0 + x1)) - 1)) x1)))]) (l := []) (by kernel_rfl) trivial ?_
    refine ge_nil fun a hF => hK2 _ _ ?_ a hF
    obtain rfl := Option.some.inj h
    exact we_ret (post_ret (rs := [.tmp 4]) (ans := []) (vs := [.int .i64 (IntKind.i64.wrap (Int.tdiv (IntKind.i64.wrap ((IntKind.i64.wrap (x0 + x1)) - 1)) x1))]) (l := []) rfl (by kernel_rfl) trivial ⟨rfl, hS⟩)

/-! punctual/modes.Within -/
abbrev modes_Within.Post (w0 : World) (r : Int × SFault) (e : Ending) (w : World) : Prop := e = .returned (.tuple #[.int .i64 r.1, .agg #[.int .i64 r.2.Code, .int .i64 r.2.At]]) ∧ St w0 w []
def modes_Within.r1 (l0 : List STask) (x1 : Int) (e1 : STask) (z1 : Int) : Int × Nat → Option ((Int × Nat) ⊕ (Int ⊕ (Int × SFault)))
  | (z2, i1) =>
    if (i1 : Int) < (l0.length : Int) then
      match l0[i1]? with
      | none => none
      | some e2 =>
        if (i1 : Int) = x1 then
          some (.inl (z2, (i1 + 1)))
        else
          if e2.P ≥ e1.P then
            match modes_ceil.f (IntKind.i64.wrap (z1 + e2.J)) e2.T with
            | none => none
            | some r3 =>
              some (.inl (IntKind.i64.wrap (z2 + (IntKind.i64.wrap (r3 * e2.C))), (i1 + 1)))
          else
            some (.inl (z2, (i1 + 1)))
    else
      some (.inr (.inl z2))
def modes_Within.r0 (K : Nat) (l0 : List STask) (x1 : Int) (x2 : Int) (l3 : List SWindow) (r1 : Int × SFault) (e1 : STask) : Int → Option (Int ⊕ (Unit ⊕ (Int × SFault)))
  | z1 =>
    if z1 ≤ (IntKind.i64.wrap (e1.D - e1.J)) then
      match iter (modes_Within.r1 l0 x1 e1 z1) K (e1.C, 0) with
      | none => none
      | some (.inl z4) =>
        match modes_least.f K x2 l3 z1 with
        | none => none
        | some r4 =>
          if r4 ≥ z4 then
            some (.inr (.inr (IntKind.i64.wrap (z1 + e1.J), (⟨0, 0⟩ : SFault))))
          else
            some (.inl (IntKind.i64.wrap (z1 + 1)))
      | some (.inr rr1) =>
        some (.inr (.inr rr1))
    else
      some (.inr (.inl ()))
def modes_Within.f (K : Nat) (l0 : List STask) (x1 : Int) (x2 : Int) (l3 : List SWindow) : Option (Int × SFault) :=
  match fixed_Response.f K l0 x1 0 with
  | none => none
  | some r1 =>
    if r1.2.Code = 0 then
      match modes_Frame.f K x2 l3 with
      | none => none
      | some r2 =>
        if r2.Code = 0 then
          if 0 ≤ x1 then
            match l0[(x1).toNat]? with
            | none => none
            | some e1 =>
              match iter (modes_Within.r0 K l0 x1 x2 l3 r1 e1) K e1.C with
              | none => none
              | some (.inl _) =>
                some (0, (⟨13, x1⟩ : SFault))
              | some (.inr rr2) =>
                some rr2
          else
            none
        else
          some (0, r2)
    else
      some (0, r1.2)
abbrev modes_Within.A1 (K : Nat) (w0 : World) (l0 : List STask) (A0 : Option Addr) (c0 : Nat) (x1 : Int) (x2 : Int) (l3 : List SWindow) (A3 : Option Addr) (c3 : Nat) (hR0 : RdL w0 A0 l0) (hL0 : l0.length ≤ c0) (hR3 : RdL w0 A3 l3) (hL3 : l3.length ≤ c3) (b1 : Nat) (r1 : Int × SFault) (b2 : Nat) (hc1 : r1.2.Code = 0) (r2 : SFault) (b3 : Nat) (hc2 : r2.Code = 0) (hc3 : 0 ≤ x1) (e1 : STask) (hx4 : l0[(x1).toNat]? = some e1) (b4 : Nat) (z1 : Int) (hc4 : z1 ≤ (IntKind.i64.wrap (e1.D - e1.J))) : (Int × Nat) → Act → World → Prop := fun (s : Int × Nat) a w => St w0 w [Own.blk b4 (.cells #[.string e1.Name, .int .i64 e1.C, .int .i64 e1.T, .int .i64 e1.D, .int .i64 e1.J, .int .i64 e1.O, .int .i64 e1.P] 64 (0, 0)), Own.blk b1 (.cells #[.int .i64 0, .int .i64 0] 30 (0, 0))] ∧ Frm 95 a [(0, .slice A0 l0.length c0), (1, .int .i64 x1), (2, .int .i64 x2), (3, .slice A3 l3.length c3), (9, .pointer (some ⟨b1, 0, none⟩)), (13, .pointer (some ⟨b4, 0, none⟩)), (14, .int .i64 z1), (15, .int .i64 s.1), (52, .slice A0 l0.length c0), (53, .int .i64 (l0.length : Int)), (54, .int .i64 (s.2 : Int))]
abbrev modes_Within.B1 (K : Nat) (w0 : World) (l0 : List STask) (A0 : Option Addr) (c0 : Nat) (x1 : Int) (x2 : Int) (l3 : List SWindow) (A3 : Option Addr) (c3 : Nat) (hR0 : RdL w0 A0 l0) (hL0 : l0.length ≤ c0) (hR3 : RdL w0 A3 l3) (hL3 : l3.length ≤ c3) (b1 : Nat) (r1 : Int × SFault) (b2 : Nat) (hc1 : r1.2.Code = 0) (r2 : SFault) (b3 : Nat) (hc2 : r2.Code = 0) (hc3 : 0 ≤ x1) (e1 : STask) (hx4 : l0[(x1).toNat]? = some e1) (b4 : Nat) (z1 : Int) (hc4 : z1 ≤ (IntKind.i64.wrap (e1.D - e1.J))) : (Int ⊕ (Int × SFault)) → Exit → Act → World → Prop := Exits 2 (fun (s : Int) a w => St w0 w [Own.blk b4 (.cells #[.string e1.Name, .int .i64 e1.C, .int .i64 e1.T, .int .i64 e1.D, .int .i64 e1.J, .int .i64 e1.O, .int .i64 e1.P] 64 (0, 0)), Own.blk b1 (.cells #[.int .i64 0, .int .i64 0] 30 (0, 0))] ∧ Frm 95 a [(0, .slice A0 l0.length c0), (1, .int .i64 x1), (2, .int .i64 x2), (3, .slice A3 l3.length c3), (9, .pointer (some ⟨b1, 0, none⟩)), (13, .pointer (some ⟨b4, 0, none⟩)), (14, .int .i64 z1), (15, .int .i64 s)]) (Rets Tryd.prog Tryd.f34 (modes_Within.Post w0))
theorem modes_Within_r1 (K : Nat) (w0 : World) (l0 : List STask) (A0 : Option Addr) (c0 : Nat) (x1 : Int) (x2 : Int) (l3 : List SWindow) (A3 : Option Addr) (c3 : Nat) (hR0 : RdL w0 A0 l0) (hL0 : l0.length ≤ c0) (hR3 : RdL w0 A3 l3) (hL3 : l3.length ≤ c3) (b1 : Nat) (r1 : Int × SFault) (b2 : Nat) (hc1 : r1.2.Code = 0) (r2 : SFault) (b3 : Nat) (hc2 : r2.Code = 0) (hc3 : 0 ≤ x1) (e1 : STask) (hx4 : l0[(x1).toNat]? = some e1) (b4 : Nat) (z1 : Int) (hc4 : z1 ≤ (IntKind.i64.wrap (e1.D - e1.J))) (s : Int × Nat) (o : (Int × Nat) ⊕ (Int ⊕ (Int × SFault))) (h : modes_Within.r1 l0 x1 e1 z1 s = some o) (a : Act) (w : World) (hA : modes_Within.A1 K w0 l0 A0 c0 x1 x2 l3 A3 c3 hR0 hL0 hR3 hL3 b1 r1 b2 hc1 r2 b3 hc2 hc3 e1 hx4 b4 z1 hc4 s a w) (Q : Exit → Act → World → Prop) (hQ : ∀ x a w, Outs (modes_Within.A1 K w0 l0 A0 c0 x1 x2 l3 A3 c3 hR0 hL0 hR3 hL3 b1 r1 b2 hc1 r2 b3 hc2 hc3 e1 hx4 b4 z1 hc4) (modes_Within.B1 K w0 l0 A0 c0 x1 x2 l3 A3 c3 hR0 hL0 hR3 hL3 b1 r1 b2 hc1 r2 b3 hc2 hc3 e1 hx4 b4 z1 hc4) o x a w → Q x a w) : (subF Tryd.f34 [1, 1, 1, 1, 0, 1, 0, 0, 1, 0, 0, 1, 0, 1, 0, 0]).wp Tryd.prog Q a w := by
  obtain ⟨z2, i1⟩ := s
  obtain ⟨hS, hF⟩ := hA
  replace hS : St w0 w [Own.blk b4 (.cells #[.string e1.Name, .int .i64 e1.C, .int .i64 e1.T, .int .i64 e1.D, .int .i64 e1.J, .int .i64 e1.O, .int .i64 e1.P] 64 (0, 0)), Own.blk b1 (.cells #[.int .i64 0, .int .i64 0] 30 (0, 0))] := hS
  simp only [modes_Within.r1] at h
  refine (?_ : WE Tryd.prog 95 (subF Tryd.f34 [1, 1, 1, 1, 0, 1, 0, 0, 1, 0, 0, 1, 0, 1, 0, 0]) Q [(0, .slice A0 l0.length c0), (1, .int .i64 x1), (2, .int .i64 x2), (3, .slice A3 l3.length c3), (9, .pointer (some ⟨b1, 0, none⟩)), (13, .pointer (some ⟨b4, 0, none⟩)), (14, .int .i64 z1), (15, .int .i64 z2), (52, .slice A0 l0.length c0), (53, .int .i64 (l0.length : Int)), (54, .int .i64 (i1 : Int))] w) a hF
  clear hF a
  refine we_seq fun K17 hK17 => ?_
  refine we_region [(0, 0)] rfl ?_
  refine ge_batch [0] (ans := []) (vs := [(55, .bool (decide ((i1 : Int) < (l0.length : Int))))]) (l := []) (by kernel_rfl) trivial ?_
  refine ge_nil fun a hF => hK17 _ _ ?_ a hF
  refine we_seq fun K18 hK18 => ?_
  by_cases hc5 : (i1 : Int) < (l0.length : Int)
  · rw [if_pos hc5] at h
    refine we_known (t := 55) (b := decide ((i1 : Int) < (l0.length : Int))) (v := true) (by kernel_rfl) (decide_eq_true hc5) ?_
    refine we_true (by kernel_rfl) ?_
    refine we_skip fun a hF => hK18 _ _ ?_ a hF
    refine we_seq fun K19 hK19 => ?_
    refine we_block ?_
    refine we_seq fun K20 hK20 => ?_
    refine we_region [(0, 0), (1, 0), (2, 0), (3, 1), (4, 0), (5, 2)] rfl ?_
    refine ge_batch [0] (ans := []) (vs := [(56, .int .i64 (i1 : Int))]) (l := []) (by kernel_rfl) trivial ?_
    rcases hx6 : l0[i1]? with _ | e2
    · rw [hx6] at h; cases h
    rw [hx6] at h
    simp only [] at h
    refine ge_index (d := 57) (ty := 0) (t := 60) (el := 64) (sz := 7) (m := l0.length) (c := c0) (x := (.tmp 52)) (y := (.tmp 54)) (A := A0) (k' := .i64) (j := (i1 : Int)) (jn := i1) (b0 := blkOf A0) (o0 := offOf A0) (by kernel_rfl) (by kernel_rfl) (by kernel_rfl) (by kernel_rfl) (by kernel_rfl) ((hS.rd hR0).eqSome (pos_of_get hx6)) rfl (lt_of_get hx6) ?_
    refine ge_batch [2] (ans := [.val (.string e2.Name), .val (.int .i64 e2.C), .val (.int .i64 e2.T), .val (.int .i64 e2.D), .val (.int .i64 e2.J), .val (.int .i64 e2.O), .val (.int .i64 e2.P)]) (vs := [(58, .agg #[.string e2.Name, .int .i64 e2.C, .int .i64 e2.T, .int .i64 e2.D, .int .i64 e2.J, .int .i64 e2.O, .int .i64 e2.P])]) (l := [.loaded ⟨blkOf A0, offOf A0 + i1 * 7, none⟩ (.string e2.Name), .loaded ⟨blkOf A0, offOf A0 + i1 * 7 + 1, none⟩ (.int .i64 e2.C), .loaded ⟨blkOf A0, offOf A0 + i1 * 7 + 2, none⟩ (.int .i64 e2.T), .loaded ⟨blkOf A0, offOf A0 + i1 * 7 + 3, none⟩ (.int .i64 e2.D), .loaded ⟨blkOf A0, offOf A0 + i1 * 7 + 4, none⟩ (.int .i64 e2.J), .loaded ⟨blkOf A0, offOf A0 + i1 * 7 + 5, none⟩ (.int .i64 e2.O), .loaded ⟨blkOf A0, offOf A0 + i1 * 7 + 6, none⟩ (.int .i64 e2.P)]) (by kernel_rfl) ⟨RdL.cell (j := 0) (hS.rd hR0) hx6 rfl, RdL.cell (j := 1) (hS.rd hR0) hx6 rfl, RdL.cell (j := 2) (hS.rd hR0) hx6 rfl, RdL.cell (j := 3) (hS.rd hR0) hx6 rfl, RdL.cell (j := 4) (hS.rd hR0) hx6 rfl, RdL.cell (j := 5) (hS.rd hR0) hx6 rfl, RdL.cell (j := 6) (hS.rd hR0) hx6 rfl, trivial⟩ ?_
    refine ge_new (d := some 17) (o := .cells #[.string (⟨#[]⟩), .int .i64 0, .int .i64 0, .int .i64 0, .int .i64 0, .int .i64 0, .int .i64 0] 64) (v := fun b => .pointer (some ⟨b, 0, none⟩)) hS (fun b => by kernel_rfl) fun b5 w10 hx7 hS20 => ?_
    refine ge_batch [4] (ans := []) (vs := [(16, .int .i64 (i1 : Int))]) (l := []) (by kernel_rfl) trivial ?_
    refine ge_set (b := b5) (j := 0) (cs := #[.string (⟨#[]⟩), .int .i64 0, .int .i64 0, .int .i64 0, .int .i64 0, .int .i64 0, .int .i64 0]) (t := 64) (vs := [.string e2.Name, .int .i64 e2.C, .int .i64 e2.T, .int .i64 e2.D, .int .i64 e2.J, .int .i64 e2.O, .int .i64 e2.P]) hS20 (by kernel_rfl) rfl rfl fun w11 hS21 => ?_
    have hS22 : St w0 w11 [Own.blk b5 (.cells #[.string e2.Name, .int .i64 e2.C, .int .i64 e2.T, .int .i64 e2.D, .int .i64 e2.J, .int .i64 e2.O, .int .i64 e2.P] 64 (0, 0)), Own.blk b4 (.cells #[.string e1.Name, .int .i64 e1.C, .int .i64 e1.T, .int .i64 e1.D, .int .i64 e1.J, .int .i64 e1.O, .int .i64 e1.P] 64 (0, 0)), Own.blk b1 (.cells #[.int .i64 0, .int .i64 0] 30 (0, 0))] := hS21
    refine ge_nil fun a hF => hK20 _ _ ?_ a hF
    refine we_seq fun K21 hK21 => ?_
    refine we_region [(0, 0), (1, 0), (2, 0), (3, 0), (4, 0), (5, 0), (6, 0), (7, 0), (8, 0), (9, 0)] rfl ?_
    refine ge_batch [0, 1, 2, 3] (ans := []) (vs := [(62, .bool ((i1 : Int) != x1)), (61, .bool ((i1 : Int) != x1)), (60, .int .i64 x1), (59, .int .i64 (i1 : Int))]) (l := []) (by kernel_rfl) trivial ?_
    by_cases hc6 : (i1 : Int) = x1
    · rw [if_pos hc6] at h
      refine ge_known (t := 62) (b := ((i1 : Int) != x1)) (c := false) (by kernel_rfl) (bne_eq_false_iff_eq.2 hc6) ?_
      refine ge_batch [4, 5, 6, 7, 8, 9] (ans := []) (vs := [(68, .bool false), (67, undef), (66, undef), (65, undef), (64, undef), (63, undef)]) (l := []) (by kernel_rfl) trivial ?_
      refine ge_nil fun a hF => hK21 _ _ ?_ a hF
      refine we_false (by kernel_rfl) ?_
      refine we_skip fun a hF => hK19 _ _ ?_ a hF
      refine we_region [(0, 0), (1, 0)] rfl ?_
      refine ge_addn (d := 81) (ty := 3) (x := (.tmp 54)) (y := (.const (.int .i64 1))) (t := 3) (t2 := 3) (k := .i64) (m := i1) (by kernel_rfl) (by kernel_rfl) (by kernel_rfl) (by have h0 := hR0.small; omega) ?_
      refine ge_batch [1] (ans := []) (vs := [(54, .int .i64 ((i1 + 1 : Nat) : Int))]) (l := []) (by kernel_rfl) trivial ?_
      have hS23 := hS22.bring 2 rfl
      have hS24 := hS23.bring 2 rfl
      have hS25 := hS24.takeN 2
      obtain rfl := Option.some.inj h
      exact ge_nil fun a hF => hQ _ _ _ (Outs.again ⟨hS25, hF.weaken ⟨by kernel_rfl, by kernel_rfl, by kernel_rfl, by kernel_rfl, by kernel_rfl, by kernel_rfl, by kernel_rfl, by kernel_rfl, by kernel_rfl, by kernel_rfl, by kernel_rfl, trivial⟩⟩)
    · rw [if_neg hc6] at h
      refine ge_known (t := 62) (b := ((i1 : Int) != x1)) (c := true) (by kernel_rfl) (bne_iff_ne.2 hc6) ?_
      refine ge_batch [4, 5, 6, 7, 8, 9] (ans := [.val (.int .i64 e2.P), .val (.int .i64 e1.P)]) (vs := [(68, .bool (decide (e2.P ≥ e1.P))), (67, .bool (decide (e2.P ≥ e1.P))), (66, .int .i64 e1.P), (65, .pointer (some ⟨b4, 6, none⟩)), (64, .int .i64 e2.P), (63, .pointer (some ⟨b5, 6, none⟩))]) (l := [.loaded ⟨b5, 6, none⟩ (.int .i64 e2.P), .loaded ⟨b4, 6, none⟩ (.int .i64 e1.P)]) (by kernel_rfl) ⟨hS22.cell 0 rfl rfl, hS22.cell 1 rfl rfl, trivial⟩ ?_
      refine ge_nil fun a hF => hK21 _ _ ?_ a hF
      by_cases hc7 : e2.P ≥ e1.P
      · rw [if_pos hc7] at h
        refine we_known (t := 68) (b := decide (e2.P ≥ e1.P)) (v := true) (by kernel_rfl) (decide_eq_true hc7) ?_
        refine we_true (by kernel_rfl) ?_
        refine we_draws (by kernel_rfl) [(0, 0), (1, 0), (2, 0), (3, 0), (4, 0), (5, 0), (6, 0), (8, 0), (9, 0), (7, 1), (10, 0), (11, 0), (12, 0)] (by kernel_rfl) ?_
        have hS26 := hS22.drew
        rcases hq3 : modes_ceil.f (IntKind.i64.wrap (z1 + e2.J)) e2.T with _ | r3
        · rw [hq3] at h; cases h
        rw [hq3] at h
        simp only [] at h
        refine ge_batch [0, 1, 2, 3, 4, 5, 6, 8, 9] (ans := [.val (.int .i64 e2.J), .val (.int .i64 e2.T), .val (.int .i64 e2.C)]) (vs := [(78, .int .i64 e2.C), (77, .pointer (some ⟨b5, 1, none⟩)), (75, .int .i64 e2.T), (74, .pointer (some ⟨b5, 2, none⟩)), (73, .int .i64 (IntKind.i64.wrap (z1 + e2.J))), (72, .int .i64 e2.J), (71, .pointer (some ⟨b5, 4, none⟩)), (70, .int .i64 z1), (69, .int .i64 z2)]) (l := [.loaded ⟨b5, 4, none⟩ (.int .i64 e2.J), .loaded ⟨b5, 2, none⟩ (.int .i64 e2.T), .loaded ⟨b5, 1, none⟩ (.int .i64 e2.C)]) (by kernel_rfl) ⟨hS26.cell 0 rfl rfl, hS26.cell 0 rfl rfl, hS26.cell 0 rfl rfl, trivial⟩ ?_
        refine ge_call (d := some 76) (f := 67) (args := #[.int .i64 (IntKind.i64.wrap (z1 + e2.J)), .int .i64 e2.T]) (by kernel_rfl) (modes_ceil_ok (IntKind.i64.wrap (z1 + e2.J)) e2.T _ _ hq3) ?_
        rintro _ w12 ⟨rfl, hS27⟩
        refine ⟨_, rfl, hS27.below, ?_⟩
        have hS28 := hS26.call hS27
        refine ge_batch [10, 11, 12] (ans := []) (vs := [(15, .int .i64 (IntKind.i64.wrap (z2 + (IntKind.i64.wrap (r3 * e2.C))))), (80, .int .i64 (IntKind.i64.wrap (z2 + (IntKind.i64.wrap (r3 * e2.C))))), (79, .int .i64 (IntKind.i64.wrap (r3 * e2.C)))]) (l := []) (by kernel_rfl) trivial ?_
        refine ge_nil fun a hF => hK19 _ _ ?_ a hF
        refine we_region [(0, 0), (1, 0)] rfl ?_
        refine ge_addn (d := 81) (ty := 3) (x := (.tmp 54)) (y := (.const (.int .i64 1))) (t := 3) (t2 := 3) (k := .i64) (m := i1) (by kernel_rfl) (by kernel_rfl) (by kernel_rfl) (by have h0 := hR0.small; omega) ?_
        refine ge_batch [1] (ans := []) (vs := [(54, .int .i64 ((i1 + 1 : Nat) : Int))]) (l := []) (by kernel_rfl) trivial ?_
        have hS29 := hS28.bring 2 rfl
        have hS30 := hS29.bring 2 rfl
        have hS31 := hS30.takeN 2
        obtain rfl := Option.some.inj h
        exact ge_nil fun a hF => hQ _ _ _ (Outs.again ⟨hS31, hF.weaken ⟨by kernel_rfl, by kernel_rfl, by kernel_rfl, by kernel_rfl, by kernel_rfl, by kernel_rfl, by kernel_rfl, by kernel_rfl, by kernel_rfl, by kernel_rfl, by kernel_rfl, trivial⟩⟩)
      · rw [if_neg hc7] at h
        refine we_known (t := 68) (b := decide (e2.P ≥ e1.P)) (v := false) (by kernel_rfl) (decide_eq_false hc7) ?_
        refine we_false (by kernel_rfl) ?_
        refine we_skip fun a hF => hK19 _ _ ?_ a hF
        refine we_region [(0, 0), (1, 0)] rfl ?_
        refine ge_addn (d := 81) (ty := 3) (x := (.tmp 54)) (y := (.const (.int .i64 1))) (t := 3) (t2 := 3) (k := .i64) (m := i1) (by kernel_rfl) (by kernel_rfl) (by kernel_rfl) (by have h0 := hR0.small; omega) ?_
        refine ge_batch [1] (ans := []) (vs := [(54, .int .i64 ((i1 + 1 : Nat) : Int))]) (l := []) (by kernel_rfl) trivial ?_
        have hS32 := hS22.bring 2 rfl
        have hS33 := hS32.bring 2 rfl
        have hS34 := hS33.takeN 2
        obtain rfl := Option.some.inj h
        exact ge_nil fun a hF => hQ _ _ _ (Outs.again ⟨hS34, hF.weaken ⟨by kernel_rfl, by kernel_rfl, by kernel_rfl, by kernel_rfl, by kernel_rfl, by kernel_rfl, by kernel_rfl, by kernel_rfl, by kernel_rfl, by kernel_rfl, by kernel_rfl, trivial⟩⟩)
  · rw [if_neg hc5] at h
    refine we_known (t := 55) (b := decide ((i1 : Int) < (l0.length : Int))) (v := false) (by kernel_rfl) (decide_eq_false hc5) ?_
    refine we_false (by kernel_rfl) ?_
    have hS35 := hS.bring 1 rfl
    have hS36 := hS35.bring 1 rfl
    obtain rfl := Option.some.inj h
    exact we_exit fun a hF => hQ _ _ _ (Outs.out nofun (Exits.here ⟨hS36, hF.weaken ⟨by kernel_rfl, by kernel_rfl, by kernel_rfl, by kernel_rfl, by kernel_rfl, by kernel_rfl, by kernel_rfl, by kernel_rfl, trivial⟩⟩))
abbrev modes_Within.A0 (K : Nat) (w0 : World) (l0 : List STask) (A0 : Option Addr) (c0 : Nat) (x1 : Int) (x2 : Int) (l3 : List SWindow) (A3 : Option Addr) (c3 : Nat) (hR0 : RdL w0 A0 l0) (hL0 : l0.length ≤ c0) (hR3 : RdL w0 A3 l3) (hL3 : l3.length ≤ c3) (b1 : Nat) (r1 : Int × SFault) (b2 : Nat) (hc1 : r1.2.Code = 0) (r2 : SFault) (b3 : Nat) (hc2 : r2.Code = 0) (hc3 : 0 ≤ x1) (e1 : STask) (hx4 : l0[(x1).toNat]? = some e1) (b4 : Nat) : Int → Act → World → Prop := fun (s : Int) a w => St w0 w [Own.blk b4 (.cells #[.string e1.Name, .int .i64 e1.C, .int .i64 e1.T, .int .i64 e1.D, .int .i64 e1.J, .int .i64 e1.O, .int .i64 e1.P] 64 (0, 0)), Own.blk b1 (.cells #[.int .i64 0, .int .i64 0] 30 (0, 0))] ∧ Frm 95 a [(0, .slice A0 l0.length c0), (1, .int .i64 x1), (2, .int .i64 x2), (3, .slice A3 l3.length c3), (9, .pointer (some ⟨b1, 0, none⟩)), (13, .pointer (some ⟨b4, 0, none⟩)), (14, .int .i64 s)]
abbrev modes_Within.B0 (K : Nat) (w0 : World) (l0 : List STask) (A0 : Option Addr) (c0 : Nat) (x1 : Int) (x2 : Int) (l3 : List SWindow) (A3 : Option Addr) (c3 : Nat) (hR0 : RdL w0 A0 l0) (hL0 : l0.length ≤ c0) (hR3 : RdL w0 A3 l3) (hL3 : l3.length ≤ c3) (b1 : Nat) (r1 : Int × SFault) (b2 : Nat) (hc1 : r1.2.Code = 0) (r2 : SFault) (b3 : Nat) (hc2 : r2.Code = 0) (hc3 : 0 ≤ x1) (e1 : STask) (hx4 : l0[(x1).toNat]? = some e1) (b4 : Nat) : (Unit ⊕ (Int × SFault)) → Exit → Act → World → Prop := Exits 0 (fun (s : Unit) a w => St w0 w [Own.blk b1 (.cells #[.int .i64 0, .int .i64 0] 30 (0, 0))] ∧ Frm 95 a [(1, .int .i64 x1), (9, .pointer (some ⟨b1, 0, none⟩))]) (Rets Tryd.prog Tryd.f34 (modes_Within.Post w0))
theorem modes_Within_r0 (K : Nat) (w0 : World) (l0 : List STask) (A0 : Option Addr) (c0 : Nat) (x1 : Int) (x2 : Int) (l3 : List SWindow) (A3 : Option Addr) (c3 : Nat) (hR0 : RdL w0 A0 l0) (hL0 : l0.length ≤ c0) (hR3 : RdL w0 A3 l3) (hL3 : l3.length ≤ c3) (b1 : Nat) (r1 : Int × SFault) (b2 : Nat) (hc1 : r1.2.Code = 0) (r2 : SFault) (b3 : Nat) (hc2 : r2.Code = 0) (hc3 : 0 ≤ x1) (e1 : STask) (hx4 : l0[(x1).toNat]? = some e1) (b4 : Nat) (s : Int) (o : Int ⊕ (Unit ⊕ (Int × SFault))) (h : modes_Within.r0 K l0 x1 x2 l3 r1 e1 s = some o) (a : Act) (w : World) (hA : modes_Within.A0 K w0 l0 A0 c0 x1 x2 l3 A3 c3 hR0 hL0 hR3 hL3 b1 r1 b2 hc1 r2 b3 hc2 hc3 e1 hx4 b4 s a w) (Q : Exit → Act → World → Prop) (hQ : ∀ x a w, Outs (modes_Within.A0 K w0 l0 A0 c0 x1 x2 l3 A3 c3 hR0 hL0 hR3 hL3 b1 r1 b2 hc1 r2 b3 hc2 hc3 e1 hx4 b4) (modes_Within.B0 K w0 l0 A0 c0 x1 x2 l3 A3 c3 hR0 hL0 hR3 hL3 b1 r1 b2 hc1 r2 b3 hc2 hc3 e1 hx4 b4) o x a w → Q x a w) : (subF Tryd.f34 [1, 1, 1, 1, 0, 1, 0, 0]).wp Tryd.prog Q a w := by
  obtain ⟨z1, hs⟩ : ∃ z, z = s := ⟨s, rfl⟩
  subst hs
  obtain ⟨hS, hF⟩ := hA
  replace hS : St w0 w [Own.blk b4 (.cells #[.string e1.Name, .int .i64 e1.C, .int .i64 e1.T, .int .i64 e1.D, .int .i64 e1.J, .int .i64 e1.O, .int .i64 e1.P] 64 (0, 0)), Own.blk b1 (.cells #[.int .i64 0, .int .i64 0] 30 (0, 0))] := hS
  simp only [modes_Within.r0] at h
  refine (?_ : WE Tryd.prog 95 (subF Tryd.f34 [1, 1, 1, 1, 0, 1, 0, 0]) Q [(0, .slice A0 l0.length c0), (1, .int .i64 x1), (2, .int .i64 x2), (3, .slice A3 l3.length c3), (9, .pointer (some ⟨b1, 0, none⟩)), (13, .pointer (some ⟨b4, 0, none⟩)), (14, .int .i64 z1)] w) a hF
  clear hF a
  refine we_seq fun K11 hK11 => ?_
  refine we_seq fun K12 hK12 => ?_
  refine we_region [(0, 0), (1, 0), (2, 0), (3, 0), (4, 0), (5, 0), (6, 0)] rfl ?_
  refine ge_batch [0, 1, 2, 3, 4, 5, 6] (ans := [.val (.int .i64 e1.D), .val (.int .i64 e1.J)]) (vs := [(47, .bool (decide (z1 ≤ (IntKind.i64.wrap (e1.D - e1.J))))), (46, .int .i64 (IntKind.i64.wrap (e1.D - e1.J))), (45, .int .i64 e1.J), (44, .pointer (some ⟨b4, 4, none⟩)), (43, .int .i64 e1.D), (42, .pointer (some ⟨b4, 3, none⟩)), (41, .int .i64 z1)]) (l := [.loaded ⟨b4, 3, none⟩ (.int .i64 e1.D), .loaded ⟨b4, 4, none⟩ (.int .i64 e1.J)]) (by kernel_rfl) ⟨hS.cell 0 rfl rfl, hS.cell 0 rfl rfl, trivial⟩ ?_
  refine ge_nil fun a hF => hK12 _ _ ?_ a hF
  by_cases hc4 : z1 ≤ (IntKind.i64.wrap (e1.D - e1.J))
  · rw [if_pos hc4] at h
    refine we_known (t := 47) (b := decide (z1 ≤ (IntKind.i64.wrap (e1.D - e1.J)))) (v := true) (by kernel_rfl) (decide_eq_true hc4) ?_
    refine we_true (by kernel_rfl) ?_
    refine we_skip fun a hF => hK11 _ _ ?_ a hF
    refine we_seq fun K13 hK13 => ?_
    refine we_block ?_
    refine we_seq fun K14 hK14 => ?_
    refine we_region [(0, 0), (1, 0), (2, 0)] rfl ?_
    refine ge_batch [0, 1, 2] (ans := [.val (.int .i64 e1.C)]) (vs := [(15, .int .i64 e1.C), (51, .int .i64 e1.C), (50, .pointer (some ⟨b4, 1, none⟩))]) (l := [.loaded ⟨b4, 1, none⟩ (.int .i64 e1.C)]) (by kernel_rfl) ⟨hS.cell 0 rfl rfl, trivial⟩ ?_
    refine ge_nil fun a hF => hK14 _ _ ?_ a hF
    refine we_seq fun K15 hK15 => ?_
    refine we_seq fun K16 hK16 => ?_
    refine we_region [(0, 0), (1, 0), (2, 0)] rfl ?_
    refine ge_batch [0, 1, 2] (ans := []) (vs := [(54, .int .i64 0), (53, .int .i64 (l0.length : Int)), (52, .slice A0 l0.length c0)]) (l := []) (by kernel_rfl) trivial ?_
    refine ge_nil fun a hF => hK16 _ _ ?_ a hF
    refine we_block ?_
    have hS18 := hS.bring 1 rfl
    have hS19 := hS18.bring 1 rfl
    rcases hq4 : iter (modes_Within.r1 l0 x1 e1 z1) K (e1.C, 0) with _ | (z4 | rr1)
    · rw [hq4] at h; cases h
    · rw [hq4] at h
      simp only [] at h
      refine we_iter (A := modes_Within.A1 K w0 l0 A0 c0 x1 x2 l3 A3 c3 hR0 hL0 hR3 hL3 b1 r1 b2 hc1 r2 b3 hc2 hc3 e1 hx4 b4 z1 hc4) (B := modes_Within.B1 K w0 l0 A0 c0 x1 x2 l3 A3 c3 hR0 hL0 hR3 hL3 b1 r1 b2 hc1 r2 b3 hc2 hc3 e1 hx4 b4 z1 hc4) hq4 (fun a hF => ⟨hS19, hF.weaken ⟨by kernel_rfl, by kernel_rfl, by kernel_rfl, by kernel_rfl, by kernel_rfl, by kernel_rfl, by kernel_rfl, by kernel_rfl, by kernel_rfl, by kernel_rfl, by kernel_rfl, trivial⟩⟩) (fun s o hf a w hA Q hQ => modes_Within_r1 K w0 l0 A0 c0 x1 x2 l3 A3 c3 hR0 hL0 hR3 hL3 b1 r1 b2 hc1 r2 b3 hc2 hc3 e1 hx4 b4 z1 hc4 s o hf a w hA Q hQ) ?_
      rintro _ a w13 _ ⟨rfl, hS37, hF⟩
      replace hS37 : St w0 w13 [Own.blk b4 (.cells #[.string e1.Name, .int .i64 e1.C, .int .i64 e1.T, .int .i64 e1.D, .int .i64 e1.J, .int .i64 e1.O, .int .i64 e1.P] 64 (0, 0)), Own.blk b1 (.cells #[.int .i64 0, .int .i64 0] 30 (0, 0))] := hS37
      refine hK15 [(0, .slice A0 l0.length c0), (1, .int .i64 x1), (2, .int .i64 x2), (3, .slice A3 l3.length c3), (9, .pointer (some ⟨b1, 0, none⟩)), (13, .pointer (some ⟨b4, 0, none⟩)), (14, .int .i64 z1), (15, .int .i64 z4)] w13 ?_ a hF
      refine we_seq fun K22 hK22 => ?_
      refine we_region [(0, 0), (1, 0), (2, 0), (3, 1), (4, 0), (5, 0)] rfl ?_
      rcases hq5 : modes_least.f K x2 l3 z1 with _ | r4
      · rw [hq5] at h; cases h
      rw [hq5] at h
      simp only [] at h
      refine ge_batch [0, 1, 2] (ans := []) (vs := [(84, .int .i64 z1), (83, .slice A3 l3.length c3), (82, .int .i64 x2)]) (l := []) (by kernel_rfl) trivial ?_
      refine ge_call (d := some 85) (f := 58) (args := #[.int .i64 x2, .slice A3 l3.length c3, .int .i64 z1]) (by kernel_rfl) (modes_least_ok K x2 l3 A3 c3 z1 _ (hS37.rd hR3) hL3 _ hq5) ?_
      rintro _ w14 ⟨rfl, hS38⟩
      refine ⟨_, rfl, hS38.below, ?_⟩
      have hS39 := hS37.call hS38
      refine ge_batch [4, 5] (ans := []) (vs := [(87, .bool (decide (r4 ≥ z4))), (86, .int .i64 z4)]) (l := []) (by kernel_rfl) trivial ?_
      refine ge_nil fun a hF => hK22 _ _ ?_ a hF
      by_cases hc8 : r4 ≥ z4
      · rw [if_pos hc8] at h
        refine we_known (t := 87) (b := decide (r4 ≥ z4)) (v := true) (by kernel_rfl) (decide_eq_true hc8) ?_
        refine we_true (by kernel_rfl) ?_
        refine we_seq fun K23 hK23 => ?_
        refine we_region [(0, 0), (1, 0), (2, 0), (3, 0), (4, 0), (5, 0), (6, 2)] rfl ?_
        refine ge_batch [0, 1, 2, 3, 4, 5] (ans := [.val (.int .i64 e1.J)]) (vs := [(8, .int .i64 (IntKind.i64.wrap (z1 + e1.J))), (92, .agg #[.int .i64 0, .int .i64 0]), (91, .int .i64 (IntKind.i64.wrap (z1 + e1.J))), (90, .int .i64 e1.J), (89, .pointer (some ⟨b4, 4, none⟩)), (88, .int .i64 z1)]) (l := [.loaded ⟨b4, 4, none⟩ (.int .i64 e1.J)]) (by kernel_rfl) ⟨hS39.cell 0 rfl rfl, trivial⟩ ?_
        have hS40 := hS39.bring 1 rfl
        refine ge_set (b := b1) (j := 0) (cs := #[.int .i64 0, .int .i64 0]) (t := 30) (vs := [.int .i64 0, .int .i64 0]) hS40 (by kernel_rfl) rfl rfl fun w15 hS41 => ?_
        have hS42 : St w0 w15 [Own.blk b1 (.cells #[.int .i64 0, .int .i64 0] 30 (0, 0)), Own.blk b4 (.cells #[.string e1.Name, .int .i64 e1.C, .int .i64 e1.T, .int .i64 e1.D, .int .i64 e1.J, .int .i64 e1.O, .int .i64 e1.P] 64 (0, 0))] := hS41
        refine ge_nil fun a hF => hK23 _ _ ?_ a hF
        have hS43 := hS42.takeN 0
        obtain rfl := Option.some.inj h
        exact we_ret fun a hF => hQ _ _ _ (Outs.out nofun (Exits.on ⟨rfl, (post_ret (rs := [.tmp 8, .cell 9 30]) (ans := [.val (.int .i64 0), .val (.int .i64 0)]) (vs := [.int .i64 (IntKind.i64.wrap (z1 + e1.J)), .agg #[.int .i64 0, .int .i64 0]]) (l := [.loaded ⟨b1, 0, none⟩ (.int .i64 0), .loaded ⟨b1, 1, none⟩ (.int .i64 0)]) rfl (by kernel_rfl) ⟨hS42.cell 0 rfl rfl, hS42.cell 0 rfl rfl, trivial⟩ ⟨rfl, hS43⟩) a hF⟩))
      · rw [if_neg hc8] at h
        refine we_known (t := 87) (b := decide (r4 ≥ z4)) (v := false) (by kernel_rfl) (decide_eq_false hc8) ?_
        refine we_false (by kernel_rfl) ?_
        refine we_skip fun a hF => hK13 _ _ ?_ a hF
        refine we_region [(0, 0), (1, 0), (2, 0)] rfl ?_
        refine ge_batch [0, 1, 2] (ans := []) (vs := [(14, .int .i64 (IntKind.i64.wrap (z1 + 1))), (49, .int .i64 (IntKind.i64.wrap (z1 + 1))), (48, .int .i64 z1)]) (l := []) (by kernel_rfl) trivial ?_
        have hS44 := hS39.bring 1 rfl
        have hS45 := hS44.bring 1 rfl
        obtain rfl := Option.some.inj h
        exact ge_nil fun a hF => hQ _ _ _ (Outs.again ⟨hS45, hF.weaken ⟨by kernel_rfl, by kernel_rfl, by kernel_rfl, by kernel_rfl, by kernel_rfl, by kernel_rfl, by kernel_rfl, trivial⟩⟩)
    · rw [hq4] at h
      simp only [] at h
      refine we_iter (A := modes_Within.A1 K w0 l0 A0 c0 x1 x2 l3 A3 c3 hR0 hL0 hR3 hL3 b1 r1 b2 hc1 r2 b3 hc2 hc3 e1 hx4 b4 z1 hc4) (B := modes_Within.B1 K w0 l0 A0 c0 x1 x2 l3 A3 c3 hR0 hL0 hR3 hL3 b1 r1 b2 hc1 r2 b3 hc2 hc3 e1 hx4 b4 z1 hc4) hq4 (fun a hF => ⟨hS19, hF.weaken ⟨by kernel_rfl, by kernel_rfl, by kernel_rfl, by kernel_rfl, by kernel_rfl, by kernel_rfl, by kernel_rfl, by kernel_rfl, by kernel_rfl, by kernel_rfl, by kernel_rfl, trivial⟩⟩) (fun s o hf a w hA Q hQ => modes_Within_r1 K w0 l0 A0 c0 x1 x2 l3 A3 c3 hR0 hL0 hR3 hL3 b1 r1 b2 hc1 r2 b3 hc2 hc3 e1 hx4 b4 z1 hc4 s o hf a w hA Q hQ) ?_
      rintro _ a w1 _ ⟨rfl, hb⟩
      obtain rfl := Option.some.inj h
      exact hQ _ _ _ (Outs.out nofun (Exits.on ⟨rfl, hb⟩))
  · rw [if_neg hc4] at h
    refine we_known (t := 47) (b := decide (z1 ≤ (IntKind.i64.wrap (e1.D - e1.J)))) (v := false) (by kernel_rfl) (decide_eq_false hc4) ?_
    refine we_false (by kernel_rfl) ?_
    have hS46 := hS.bring 1 rfl
    have hS47 := hS46.takeN 1
    obtain rfl := Option.some.inj h
    exact we_exit fun a hF => hQ _ _ _ (Outs.out nofun (Exits.here ⟨hS47, hF.weaken ⟨by kernel_rfl, by kernel_rfl, trivial⟩⟩))
theorem modes_Within_ok (K : Nat) (l0 : List STask) (A0 : Option Addr) (c0 : Nat) (x1 : Int) (x2 : Int) (l3 : List SWindow) (A3 : Option Addr) (c3 : Nat) (w0 : World) (hR0 : RdL w0 A0 l0) (hL0 : l0.length ≤ c0) (hR3 : RdL w0 A3 l3) (hL3 : l3.length ≤ c3) (r : Int × SFault) (h : modes_Within.f K l0 x1 x2 l3 = some r) :
    Calls Tryd.prog 34 #[.slice A0 l0.length c0, .int .i64 x1, .int .i64 x2, .slice A3 l3.length c3] w0 (modes_Within.Post w0 r) := by
  have hS := St.start w0
  unfold modes_Within.f at h
  refine calls_enter (n := 95) (args := [.slice A0 l0.length c0, .int .i64 x1, .int .i64 x2, .slice A3 l3.length c3]) (fn := Tryd.f34) rfl rfl rfl rfl ?_
  show WE _ _ _ _ [(0, .slice A0 l0.length c0), (1, .int .i64 x1), (2, .int .i64 x2), (3, .slice A3 l3.length c3)] _
  refine we_seq fun K1 hK1 => ?_
  refine we_region [(0, 0), (1, 1)] rfl ?_
  refine ge_batch [0] (ans := []) (vs := [(8, .int .i64 0)]) (l := []) (by kernel_rfl) trivial ?_
  refine ge_new (d := some 9) (o := .cells #[.int .i64 0, .int .i64 0] 30) (v := fun b => .pointer (some ⟨b, 0, none⟩)) hS (fun b => by kernel_rfl) fun b1 w1 hx1 hS1 => ?_
  refine ge_nil fun a hF => hK1 _ _ ?_ a hF
  refine we_seq fun K2 hK2 => ?_
  refine we_seq fun K3 hK3 => ?_
  refine we_region [(0, 0), (1, 0), (2, 1), (3, 0), (4, 0), (5, 0), (6, 1), (7, 0), (8, 2)] rfl ?_
  rcases hq1 : fixed_Response.f K l0 x1 0 with _ | r1
  · rw [hq1] at h; cases h
  rw [hq1] at h
  simp only [] at h
  refine ge_batch [0, 1] (ans := []) (vs := [(20, .int .i64 x1), (19, .slice A0 l0.length c0)]) (l := []) (by kernel_rfl) trivial ?_
  refine ge_call (d := some 21) (f := 66) (args := #[.slice A0 l0.length c0, .int .i64 x1, .int .i64 0]) (by kernel_rfl) (fixed_Response_ok K l0 A0 c0 x1 0 _ (hS1.rd hR0) hL0 _ hq1) ?_
  rintro _ w2 ⟨rfl, hS2⟩
  refine ⟨_, rfl, hS2.below, ?_⟩
  have hS3 := hS1.call hS2
  refine ge_batch [3, 4, 5] (ans := []) (vs := [(23, .agg #[.int .i64 r1.2.Code, .int .i64 r1.2.At]), (22, .int .i64 r1.1), (18, .tuple #[.int .i64 r1.1, .agg #[.int .i64 r1.2.Code, .int .i64 r1.2.At]])]) (l := []) (by kernel_rfl) trivial ?_
  refine ge_new (d := some 11) (o := .cells #[.int .i64 0, .int .i64 0] 30) (v := fun b => .pointer (some ⟨b, 0, none⟩)) hS3 (fun b => by kernel_rfl) fun b2 w3 hx2 hS4 => ?_
  refine ge_batch [7] (ans := []) (vs := [(10, .int .i64 r1.1)]) (l := []) (by kernel_rfl) trivial ?_
  refine ge_set (b := b2) (j := 0) (cs := #[.int .i64 0, .int .i64 0]) (t := 30) (vs := [.int .i64 r1.2.Code, .int .i64 r1.2.At]) hS4 (by kernel_rfl) rfl rfl fun w4 hS5 => ?_
  have hS6 : St w0 w4 [Own.blk b2 (.cells #[.int .i64 r1.2.Code, .int .i64 r1.2.At] 30 (0, 0)), Own.blk b1 (.cells #[.int .i64 0, .int .i64 0] 30 (0, 0))] := hS5
  refine ge_nil fun a hF => hK3 _ _ ?_ a hF
  refine we_seq fun K4 hK4 => ?_
  refine we_region [(0, 0), (1, 0), (2, 0)] rfl ?_
  refine ge_batch [0, 1, 2] (ans := [.val (.int .i64 r1.2.Code)]) (vs := [(26, .bool (r1.2.Code != 0)), (25, .int .i64 r1.2.Code), (24, .pointer (some ⟨b2, 0, none⟩))]) (l := [.loaded ⟨b2, 0, none⟩ (.int .i64 r1.2.Code)]) (by kernel_rfl) ⟨hS6.cell 0 rfl rfl, trivial⟩ ?_
  refine ge_nil fun a hF => hK4 _ _ ?_ a hF
  by_cases hc1 : r1.2.Code = 0
  · rw [if_pos hc1] at h
    refine we_known (t := 26) (b := (r1.2.Code != 0)) (v := false) (by kernel_rfl) (bne_eq_false_iff_eq.2 hc1) ?_
    refine we_false (by kernel_rfl) ?_
    refine we_skip fun a hF => hK2 _ _ ?_ a hF
    refine we_seq fun K5 hK5 => ?_
    refine we_seq fun K6 hK6 => ?_
    refine we_region [(0, 0), (1, 0), (2, 1), (3, 1), (4, 2)] rfl ?_
    rcases hq2 : modes_Frame.f K x2 l3 with _ | r2
    · rw [hq2] at h; cases h
    rw [hq2] at h
    simp only [] at h
    refine ge_batch [0, 1] (ans := []) (vs := [(29, .slice A3 l3.length c3), (28, .int .i64 x2)]) (l := []) (by kernel_rfl) trivial ?_
    refine ge_call (d := some 30) (f := 12) (args := #[.int .i64 x2, .slice A3 l3.length c3]) (by kernel_rfl) (modes_Frame_ok K x2 l3 A3 c3 _ (hS6.rd hR3) hL3 _ hq2) ?_
    rintro _ w5 ⟨rfl, hS7⟩
    refine ⟨_, rfl, hS7.below, ?_⟩
    have hS8 := hS6.call hS7
    refine ge_new (d := some 12) (o := .cells #[.int .i64 0, .int .i64 0] 30) (v := fun b => .pointer (some ⟨b, 0, none⟩)) hS8 (fun b => by kernel_rfl) fun b3 w6 hx3 hS9 => ?_
    refine ge_set (b := b3) (j := 0) (cs := #[.int .i64 0, .int .i64 0]) (t := 30) (vs := [.int .i64 r2.Code, .int .i64 r2.At]) hS9 (by kernel_rfl) rfl rfl fun w7 hS10 => ?_
    have hS11 : St w0 w7 [Own.blk b3 (.cells #[.int .i64 r2.Code, .int .i64 r2.At] 30 (0, 0)), Own.blk b2 (.cells #[.int .i64 r1.2.Code, .int .i64 r1.2.At] 30 (0, 0)), Own.blk b1 (.cells #[.int .i64 0, .int .i64 0] 30 (0, 0))] := hS10
    refine ge_nil fun a hF => hK6 _ _ ?_ a hF
    refine we_seq fun K7 hK7 => ?_
    refine we_region [(0, 0), (1, 0), (2, 0)] rfl ?_
    refine ge_batch [0, 1, 2] (ans := [.val (.int .i64 r2.Code)]) (vs := [(33, .bool (r2.Code != 0)), (32, .int .i64 r2.Code), (31, .pointer (some ⟨b3, 0, none⟩))]) (l := [.loaded ⟨b3, 0, none⟩ (.int .i64 r2.Code)]) (by kernel_rfl) ⟨hS11.cell 0 rfl rfl, trivial⟩ ?_
    refine ge_nil fun a hF => hK7 _ _ ?_ a hF
    by_cases hc2 : r2.Code = 0
    · rw [if_pos hc2] at h
      refine we_known (t := 33) (b := (r2.Code != 0)) (v := false) (by kernel_rfl) (bne_eq_false_iff_eq.2 hc2) ?_
      refine we_false (by kernel_rfl) ?_
      refine we_skip fun a hF => hK5 _ _ ?_ a hF
      refine we_seq fun K8 hK8 => ?_
      refine we_region [(0, 0), (1, 0), (2, 0), (3, 0), (4, 1), (5, 2)] rfl ?_
      refine ge_batch [0, 1] (ans := []) (vs := [(36, .int .i64 x1), (35, .slice A0 l0.length c0)]) (l := []) (by kernel_rfl) trivial ?_
      by_cases hc3 : 0 ≤ x1
      · rw [if_pos hc3] at h
        rcases hx4 : l0[(x1).toNat]? with _ | e1
        · rw [hx4] at h; cases h
        rw [hx4] at h
        simp only [] at h
        refine ge_index (d := 37) (ty := 0) (t := 60) (el := 64) (sz := 7) (m := l0.length) (c := c0) (x := (.tmp 35)) (y := (.tmp 36)) (A := A0) (k' := .i64) (j := x1) (jn := ((x1).toNat)) (b0 := blkOf A0) (o0 := offOf A0) (by kernel_rfl) (by kernel_rfl) (by kernel_rfl) (by kernel_rfl) (by kernel_rfl) ((hS11.rd hR0).eqSome (pos_of_get hx4)) (Int.toNat_of_nonneg hc3).symm (lt_of_get hx4) ?_
        refine ge_batch [3] (ans := [.val (.string e1.Name), .val (.int .i64 e1.C), .val (.int .i64 e1.T), .val (.int .i64 e1.D), .val (.int .i64 e1.J), .val (.int .i64 e1.O), .val (.int .i64 e1.P)]) (vs := [(38, .agg #[.string e1.Name, .int .i64 e1.C, .int .i64 e1.T, .int .i64 e1.D, .int .i64 e1.J, .int .i64 e1.O, .int .i64 e1.P])]) (l := [.loaded ⟨blkOf A0, offOf A0 + ((x1).toNat) * 7, none⟩ (.string e1.Name), .loaded ⟨blkOf A0, offOf A0 + ((x1).toNat) * 7 + 1, none⟩ (.int .i64 e1.C), .loaded ⟨blkOf A0, offOf A0 + ((x1).toNat) * 7 + 2, none⟩ (.int .i64 e1.T), .loaded ⟨blkOf A0, offOf A0 + ((x1).toNat) * 7 + 3, none⟩ (.int .i64 e1.D), .loaded ⟨blkOf A0, offOf A0 + ((x1).toNat) * 7 + 4, none⟩ (.int .i64 e1.J), .loaded ⟨blkOf A0, offOf A0 + ((x1).toNat) * 7 + 5, none⟩ (.int .i64 e1.O), .loaded ⟨blkOf A0, offOf A0 + ((x1).toNat) * 7 + 6, none⟩ (.int .i64 e1.P)]) (by kernel_rfl) ⟨RdL.cell (j := 0) (hS11.rd hR0) hx4 rfl, RdL.cell (j := 1) (hS11.rd hR0) hx4 rfl, RdL.cell (j := 2) (hS11.rd hR0) hx4 rfl, RdL.cell (j := 3) (hS11.rd hR0) hx4 rfl, RdL.cell (j := 4) (hS11.rd hR0) hx4 rfl, RdL.cell (j := 5) (hS11.rd hR0) hx4 rfl, RdL.cell (j := 6) (hS11.rd hR0) hx4 rfl, trivial⟩ ?_
        refine ge_new (d := some 13) (o := .cells #[.string (⟨#[]⟩), .int .i64 0, .int .i64 0, .int .i64 0, .int .i64 0, .int .i64 0, .int .i64 0] 64) (v := fun b => .pointer (some ⟨b, 0, none⟩)) hS11 (fun b => by kernel_rfl) fun b4 w8 hx5 hS12 => ?_
        refine ge_set (b := b4) (j := 0) (cs := #[.string (⟨#[]⟩), .int .i64 0, .int .i64 0, .int .i64 0, .int .i64 0, .int .i64 0, .int .i64 0]) (t := 64) (vs := [.string e1.Name, .int .i64 e1.C, .int .i64 e1.T, .int .i64 e1.D, .int .i64 e1.J, .int .i64 e1.O, .int .i64 e1.P]) hS12 (by kernel_rfl) rfl rfl fun w9 hS13 => ?_
        have hS14 : St w0 w9 [Own.blk b4 (.cells #[.string e1.Name, .int .i64 e1.C, .int .i64 e1.T, .int .i64 e1.D, .int .i64 e1.J, .int .i64 e1.O, .int .i64 e1.P] 64 (0, 0)), Own.blk b3 (.cells #[.int .i64 r2.Code, .int .i64 r2.At] 30 (0, 0)), Own.blk b2 (.cells #[.int .i64 r1.2.Code, .int .i64 r1.2.At] 30 (0, 0)), Own.blk b1 (.cells #[.int .i64 0, .int .i64 0] 30 (0, 0))] := hS13
        refine ge_nil fun a hF => hK8 _ _ ?_ a hF
        refine we_seq fun K9 hK9 => ?_
        refine we_seq fun K10 hK10 => ?_
        refine we_region [(0, 0), (1, 0), (2, 0)] rfl ?_
        refine ge_batch [0, 1, 2] (ans := [.val (.int .i64 e1.C)]) (vs := [(14, .int .i64 e1.C), (40, .int .i64 e1.C), (39, .pointer (some ⟨b4, 1, none⟩))]) (l := [.loaded ⟨b4, 1, none⟩ (.int .i64 e1.C)]) (by kernel_rfl) ⟨hS14.cell 0 rfl rfl, trivial⟩ ?_
        refine ge_nil fun a hF => hK10 _ _ ?_ a hF
        refine we_block ?_
        have hS15 := hS14.bring 3 rfl
        have hS16 := hS15.bring 1 rfl
        have hS17 := hS16.takeN 2
        rcases hq6 : iter (modes_Within.r0 K l0 x1 x2 l3 r1 e1) K e1.C with _ | (_ | rr2)
        · rw [hq6] at h; cases h
        · rw [hq6] at h
          simp only [] at h
          refine we_iter (A := modes_Within.A0 K w0 l0 A0 c0 x1 x2 l3 A3 c3 hR0 hL0 hR3 hL3 b1 r1 b2 hc1 r2 b3 hc2 hc3 e1 hx4 b4) (B := modes_Within.B0 K w0 l0 A0 c0 x1 x2 l3 A3 c3 hR0 hL0 hR3 hL3 b1 r1 b2 hc1 r2 b3 hc2 hc3 e1 hx4 b4) hq6 (fun a hF => ⟨hS17, hF.weaken ⟨by kernel_rfl, by kernel_rfl, by kernel_rfl, by kernel_rfl, by kernel_rfl, by kernel_rfl, by kernel_rfl, trivial⟩⟩) (fun s o hf a w hA Q hQ => modes_Within_r0 K w0 l0 A0 c0 x1 x2 l3 A3 c3 hR0 hL0 hR3 hL3 b1 r1 b2 hc1 r2 b3 hc2 hc3 e1 hx4 b4 s o hf a w hA Q hQ) ?_
          rintro _ a w16 _ ⟨rfl, hS48, hF⟩
          replace hS48 : St w0 w16 [Own.blk b1 (.cells #[.int .i64 0, .int .i64 0] 30 (0, 0))] := hS48
          refine hK9 [(1, .int .i64 x1), (9, .pointer (some ⟨b1, 0, none⟩))] w16 ?_ a hF
          refine we_seq fun K24 hK24 => ?_
          refine we_region [(0, 0), (1, 0), (2, 0), (3, 2)] rfl ?_
          refine ge_batch [0, 1, 2] (ans := []) (vs := [(8, .int .i64 0), (94, .agg #[.int .i64 13, .int .i64 x1]), (93, .int .i64 x1)]) (l := []) (by kernel_rfl) trivial ?_
          refine ge_set (b := b1) (j := 0) (cs := #[.int .i64 0, .int .i64 0]) (t := 30) (vs := [.int .i64 13, .int .i64 x1]) hS48 (by kernel_rfl) rfl rfl fun w17 hS49 => ?_
          have hS50 : St w0 w17 [Own.blk b1 (.cells #[.int .i64 13, .int .i64 x1] 30 (0, 0))] := hS49
          refine ge_nil fun a hF => hK24 _ _ ?_ a hF
          have hS51 := hS50.takeN 0
          obtain rfl := Option.some.inj h
          exact we_ret (post_ret (rs := [.tmp 8, .cell 9 30]) (ans := [.val (.int .i64 13), .val (.int .i64 x1)]) (vs := [.int .i64 0, .agg #[.int .i64 13, .int .i64 x1]]) (l := [.loaded ⟨b1, 0, none⟩ (.int .i64 13), .loaded ⟨b1, 1, none⟩ (.int .i64 x1)]) rfl (by kernel_rfl) ⟨hS50.cell 0 rfl rfl, hS50.cell 0 rfl rfl, trivial⟩ ⟨rfl, hS51⟩)
        · rw [hq6] at h
          simp only [] at h
          refine we_iter (A := modes_Within.A0 K w0 l0 A0 c0 x1 x2 l3 A3 c3 hR0 hL0 hR3 hL3 b1 r1 b2 hc1 r2 b3 hc2 hc3 e1 hx4 b4) (B := modes_Within.B0 K w0 l0 A0 c0 x1 x2 l3 A3 c3 hR0 hL0 hR3 hL3 b1 r1 b2 hc1 r2 b3 hc2 hc3 e1 hx4 b4) hq6 (fun a hF => ⟨hS17, hF.weaken ⟨by kernel_rfl, by kernel_rfl, by kernel_rfl, by kernel_rfl, by kernel_rfl, by kernel_rfl, by kernel_rfl, trivial⟩⟩) (fun s o hf a w hA Q hQ => modes_Within_r0 K w0 l0 A0 c0 x1 x2 l3 A3 c3 hR0 hL0 hR3 hL3 b1 r1 b2 hc1 r2 b3 hc2 hc3 e1 hx4 b4 s o hf a w hA Q hQ) ?_
          rintro _ a w1 _ ⟨rfl, hb⟩
          obtain rfl := Option.some.inj h
          exact hb
      · rw [if_neg hc3] at h
        cases h
    · rw [if_neg hc2] at h
      refine we_known (t := 33) (b := (r2.Code != 0)) (v := true) (by kernel_rfl) (bne_iff_ne.2 hc2) ?_
      refine we_true (by kernel_rfl) ?_
      refine we_seq fun K25 hK25 => ?_
      refine we_draws (by kernel_rfl) [(0, 0), (1, 0), (2, 2)] (by kernel_rfl) ?_
      have hS52 := hS11.drew
      refine ge_batch [0, 1] (ans := [.val (.int .i64 r2.Code), .val (.int .i64 r2.At)]) (vs := [(8, .int .i64 0), (34, .agg #[.int .i64 r2.Code, .int .i64 r2.At])]) (l := [.loaded ⟨b3, 0, none⟩ (.int .i64 r2.Code), .loaded ⟨b3, 1, none⟩ (.int .i64 r2.At)]) (by kernel_rfl) ⟨hS52.cell 0 rfl rfl, hS52.cell 0 rfl rfl, trivial⟩ ?_
      have hS53 := hS52.bring 2 rfl
      refine ge_set (b := b1) (j := 0) (cs := #[.int .i64 0, .int .i64 0]) (t := 30) (vs := [.int .i64 r2.Code, .int .i64 r2.At]) hS53 (by kernel_rfl) rfl rfl fun w18 hS54 => ?_
      have hS55 : St w0 w18 [Own.blk b1 (.cells #[.int .i64 r2.Code, .int .i64 r2.At] 30 (0, 0)), Own.blk b3 (.cells #[.int .i64 r2.Code, .int .i64 r2.At] 30 (0, 0)), Own.blk b2 (.cells #[.int .i64 r1.2.Code, .int .i64 r1.2.At] 30 (0, 0))] := hS54
      refine ge_nil fun a hF => hK25 _ _ ?_ a hF
      have hS56 := hS55.takeN 0
      obtain rfl := Option.some.inj h
      exact we_ret (post_ret (rs := [.tmp 8, .cell 9 30]) (ans := [.val (.int .i64 r2.Code), .val (.int .i64 r2.At)]) (vs := [.int .i64 0, .agg #[.int .i64 r2.Code, .int .i64 r2.At]]) (l := [.loaded ⟨b1, 0, none⟩ (.int .i64 r2.Code), .loaded ⟨b1, 1, none⟩ (.int .i64 r2.At)]) rfl (by kernel_rfl) ⟨hS55.cell 0 rfl rfl, hS55.cell 0 rfl rfl, trivial⟩ ⟨rfl, hS56⟩)
  · rw [if_neg hc1] at h
    refine we_known (t := 26) (b := (r1.2.Code != 0)) (v := true) (by kernel_rfl) (bne_iff_ne.2 hc1) ?_
    refine we_true (by kernel_rfl) ?_
    refine we_seq fun K26 hK26 => ?_
    refine we_draws (by kernel_rfl) [(0, 0), (1, 0), (2, 2)] (by kernel_rfl) ?_
    have hS57 := hS6.drew
    refine ge_batch [0, 1] (ans := [.val (.int .i64 r1.2.Code), .val (.int .i64 r1.2.At)]) (vs := [(8, .int .i64 0), (27, .agg #[.int .i64 r1.2.Code, .int .i64 r1.2.At])]) (l := [.loaded ⟨b2, 0, none⟩ (.int .i64 r1.2.Code), .loaded ⟨b2, 1, none⟩ (.int .i64 r1.2.At)]) (by kernel_rfl) ⟨hS57.cell 0 rfl rfl, hS57.cell 0 rfl rfl, trivial⟩ ?_
    have hS58 := hS57.bring 1 rfl
    refine ge_set (b := b1) (j := 0) (cs := #[.int .i64 0, .int .i64 0]) (t := 30) (vs := [.int .i64 r1.2.Code, .int .i64 r1.2.At]) hS58 (by kernel_rfl) rfl rfl fun w19 hS59 => ?_
    have hS60 : St w0 w19 [Own.blk b1 (.cells #[.int .i64 r1.2.Code, .int .i64 r1.2.At] 30 (0, 0)), Own.blk b2 (.cells #[.int .i64 r1.2.Code, .int .i64 r1.2.At] 30 (0, 0))] := hS59
    refine ge_nil fun a hF => hK26 _ _ ?_ a hF
    have hS61 := hS60.takeN 0
    obtain rfl := Option.some.inj h
    exact we_ret (post_ret (rs := [.tmp 8, .cell 9 30]) (ans := [.val (.int .i64 r1.2.Code), .val (.int .i64 r1.2.At)]) (vs := [.int .i64 0, .agg #[.int .i64 r1.2.Code, .int .i64 r1.2.At]]) (l := [.loaded ⟨b1, 0, none⟩ (.int .i64 r1.2.Code), .loaded ⟨b1, 1, none⟩ (.int .i64 r1.2.At)]) rfl (by kernel_rfl) ⟨hS60.cell 0 rfl rfl, hS60.cell 0 rfl rfl, trivial⟩ ⟨rfl, hS61⟩)

/-! punctual/modes.Open -/
abbrev modes_Open.Post (w0 : World) (r : Bool) (e : Ending) (w : World) : Prop := e = .returned (.bool r) ∧ St w0 w []
def modes_Open.p0 (K : Nat) (x0 : Int) (l1 : List SWindow) (x2 : Int) : Option (Unit ⊕ Bool) :=
    if x2 < 0 then
      some (.inr false)
    else
      match modes_Frame.f K x0 l1 with
      | none => none
      | some r1 =>
        if r1.Code = 0 then
          some (.inl ())
        else
          some (.inr false)
def modes_Open.r1 (x0 : Int) (l1 : List SWindow) (x2 : Int) : Nat → Option (Nat ⊕ (Unit ⊕ Bool))
  | i1 =>
    if (i1 : Int) < (l1.length : Int) then
      match l1[i1]? with
      | none => none
      | some e1 =>
        if (Int.tmod x2 x0) ≥ e1.At then
          if (Int.tmod x2 x0) < (IntKind.i64.wrap (e1.At + e1.Len)) then
            some (.inr (.inr true))
          else
            some (.inl (i1 + 1))
        else
          some (.inl (i1 + 1))
    else
      some (.inr (.inl ()))
def modes_Open.f (K : Nat) (x0 : Int) (l1 : List SWindow) (x2 : Int) : Option Bool :=
  match modes_Open.p0 K x0 l1 x2 with
  | none => none
  | some (.inl _) =>
    if x0 = 0 then
      none
    else
      match iter (modes_Open.r1 x0 l1 x2) K 0 with
      | none => none
      | some (.inl _) =>
        some false
      | some (.inr rr1) =>
        some rr1
  | some (.inr rr2) =>
    some rr2
abbrev modes_Open.A0 (K : Nat) (w0 : World) (x0 : Int) (l1 : List SWindow) (A1 : Option Addr) (c1 : Nat) (x2 : Int) (hR1 : RdL w0 A1 l1) (hL1 : l1.length ≤ c1) : Unit → Act → World → Prop := fun (s : Unit) a w => St w0 w [] ∧ Frm 41 a [(0, .int .i64 x0), (1, .slice A1 l1.length c1), (2, .int .i64 x2)]
abbrev modes_Open.B0 (K : Nat) (w0 : World) (x0 : Int) (l1 : List SWindow) (A1 : Option Addr) (c1 : Nat) (x2 : Int) (hR1 : RdL w0 A1 l1) (hL1 : l1.length ≤ c1) : Bool → Exit → Act → World → Prop := Rets Tryd.prog Tryd.f13 (modes_Open.Post w0)
theorem modes_Open_p0 (K : Nat) (w0 : World) (x0 : Int) (l1 : List SWindow) (A1 : Option Addr) (c1 : Nat) (x2 : Int) (hR1 : RdL w0 A1 l1) (hL1 : l1.length ≤ c1) (o : Unit ⊕ Bool) (h : modes_Open.p0 K x0 l1 x2 = some o) (w : World) (hS : St w0 w []) (Q : Exit → Act → World → Prop) (hQ : ∀ x a w, Outs (modes_Open.A0 K w0 x0 l1 A1 c1 x2 hR1 hL1) (modes_Open.B0 K w0 x0 l1 A1 c1 x2 hR1 hL1) o x a w → Q x a w) : WE Tryd.prog 41 (subF Tryd.f13 [1, 0]) Q [(0, .int .i64 x0), (1, .slice A1 l1.length c1), (2, .int .i64 x2), (6, .bool false)] w := by
  simp only [modes_Open.p0] at h
  refine we_seq fun K3 hK3 => ?_
  refine we_region [(0, 0), (1, 0), (2, 0), (3, 0), (4, 0), (5, 1), (6, 0), (7, 0), (8, 0)] rfl ?_
  refine ge_batch [0, 1, 2] (ans := []) (vs := [(11, .bool (decide (x2 < 0))), (10, .bool (decide (x2 < 0))), (9, .int .i64 x2)]) (l := []) (by kernel_rfl) trivial ?_
  by_cases hc1 : x2 < 0
  · rw [if_pos hc1] at h
    refine ge_known (t := 11) (b := decide (x2 < 0)) (c := true) (by kernel_rfl) (decide_eq_true hc1) ?_
    refine ge_batch [3, 4] (ans := []) (vs := [(13, undef), (12, undef)]) (l := []) (by kernel_rfl) trivial ?_
    refine ge_off rfl rfl rfl (by kernel_rfl) ?_
    refine ge_batch [6, 7, 8] (ans := []) (vs := [(17, .bool true), (16, undef), (15, undef)]) (l := []) (by kernel_rfl) trivial ?_
    refine ge_nil fun a hF => hK3 _ _ ?_ a hF
    refine we_true (by kernel_rfl) ?_
    refine we_seq fun K4 hK4 => ?_
    refine we_region [(0, 0)] rfl ?_
    refine ge_batch [0] (ans := []) (vs := [(6, .bool false)]) (l := []) (by kernel_rfl) trivial ?_
    refine ge_nil fun a hF => hK4 _ _ ?_ a hF
    obtain rfl := Option.some.inj h
    exact we_ret fun a hF => hQ _ _ _ (Outs.out nofun ⟨rfl, (post_ret (rs := [.tmp 6]) (ans := []) (vs := [.bool false]) (l := []) rfl (by kernel_rfl) trivial ⟨rfl, hS⟩) a hF⟩)
  · rw [if_neg hc1] at h
    refine ge_known (t := 11) (b := decide (x2 < 0)) (c := false) (by kernel_rfl) (decide_eq_false hc1) ?_
    rcases hq1 : modes_Frame.f K x0 l1 with _ | r1
    · rw [hq1] at h; cases h
    rw [hq1] at h
    simp only [] at h
    refine ge_batch [3, 4] (ans := []) (vs := [(13, .slice A1 l1.length c1), (12, .int .i64 x0)]) (l := []) (by kernel_rfl) trivial ?_
    refine ge_call (d := some 14) (f := 12) (args := #[.int .i64 x0, .slice A1 l1.length c1]) (by kernel_rfl) (modes_Frame_ok K x0 l1 A1 c1 _ (hS.rd hR1) hL1 _ hq1) ?_
    rintro _ w1 ⟨rfl, hS1⟩
    refine ⟨_, rfl, hS1.below, ?_⟩
    have hS2 := hS.call hS1
    refine ge_batch [6, 7, 8] (ans := []) (vs := [(17, .bool (r1.Code != 0)), (16, .bool (r1.Code != 0)), (15, .int .i64 r1.Code)]) (l := []) (by kernel_rfl) trivial ?_
    refine ge_nil fun a hF => hK3 _ _ ?_ a hF
    by_cases hc2 : r1.Code = 0
    · rw [if_pos hc2] at h
      refine we_known (t := 17) (b := (r1.Code != 0)) (v := false) (by kernel_rfl) (bne_eq_false_iff_eq.2 hc2) ?_
      refine we_false (by kernel_rfl) ?_
      obtain rfl := Option.some.inj h
      exact we_skip fun a hF => hQ _ _ _ (Outs.again ⟨hS2, hF.weaken ⟨by kernel_rfl, by kernel_rfl, by kernel_rfl, trivial⟩⟩)
    · rw [if_neg hc2] at h
      refine we_known (t := 17) (b := (r1.Code != 0)) (v := true) (by kernel_rfl) (bne_iff_ne.2 hc2) ?_
      refine we_true (by kernel_rfl) ?_
      refine we_seq fun K5 hK5 => ?_
      refine we_region [(0, 0)] rfl ?_
      refine ge_batch [0] (ans := []) (vs := [(6, .bool false)]) (l := []) (by kernel_rfl) trivial ?_
      refine ge_nil fun a hF => hK5 _ _ ?_ a hF
      obtain rfl := Option.some.inj h
      exact we_ret fun a hF => hQ _ _ _ (Outs.out nofun ⟨rfl, (post_ret (rs := [.tmp 6]) (ans := []) (vs := [.bool false]) (l := []) rfl (by kernel_rfl) trivial ⟨rfl, hS2⟩) a hF⟩)
abbrev modes_Open.A1 (K : Nat) (w0 : World) (x0 : Int) (l1 : List SWindow) (A1 : Option Addr) (c1 : Nat) (x2 : Int) (hR1 : RdL w0 A1 l1) (hL1 : l1.length ≤ c1) (hc3 : ¬ (x0 = 0)) : Nat → Act → World → Prop := fun (s : Nat) a w => St w0 w [] ∧ Frm 41 a [(2, .int .i64 (Int.tmod x2 x0)), (21, .slice A1 l1.length c1), (22, .int .i64 (l1.length : Int)), (23, .int .i64 (s : Int))]
abbrev modes_Open.B1 (K : Nat) (w0 : World) (x0 : Int) (l1 : List SWindow) (A1 : Option Addr) (c1 : Nat) (x2 : Int) (hR1 : RdL w0 A1 l1) (hL1 : l1.length ≤ c1) (hc3 : ¬ (x0 = 0)) : (Unit ⊕ Bool) → Exit → Act → World → Prop := Exits 0 (fun (s : Unit) a w => St w0 w [] ∧ Frm 41 a []) (Rets Tryd.prog Tryd.f13 (modes_Open.Post w0))
theorem modes_Open_r1 (K : Nat) (w0 : World) (x0 : Int) (l1 : List SWindow) (A1 : Option Addr) (c1 : Nat) (x2 : Int) (hR1 : RdL w0 A1 l1) (hL1 : l1.length ≤ c1) (hc3 : ¬ (x0 = 0)) (s : Nat) (o : Nat ⊕ (Unit ⊕ Bool)) (h : modes_Open.r1 x0 l1 x2 s = some o) (a : Act) (w : World) (hA : modes_Open.A1 K w0 x0 l1 A1 c1 x2 hR1 hL1 hc3 s a w) (Q : Exit → Act → World → Prop) (hQ : ∀ x a w, Outs (modes_Open.A1 K w0 x0 l1 A1 c1 x2 hR1 hL1 hc3) (modes_Open.B1 K w0 x0 l1 A1 c1 x2 hR1 hL1 hc3) o x a w → Q x a w) : (subF Tryd.f13 [1, 1, 1, 0, 1, 0, 0]).wp Tryd.prog Q a w := by
  obtain ⟨i1, hs⟩ : ∃ z, z = s := ⟨s, rfl⟩
  subst hs
  obtain ⟨hS, hF⟩ := hA
  replace hS : St w0 w [] := hS
  simp only [modes_Open.r1] at h
  refine (?_ : WE Tryd.prog 41 (subF Tryd.f13 [1, 1, 1, 0, 1, 0, 0]) Q [(2, .int .i64 (Int.tmod x2 x0)), (21, .slice A1 l1.length c1), (22, .int .i64 (l1.length : Int)), (23, .int .i64 (i1 : Int))] w) a hF
  clear hF a
  refine we_seq fun K9 hK9 => ?_
  refine we_region [(0, 0)] rfl ?_
  refine ge_batch [0] (ans := []) (vs := [(24, .bool (decide ((i1 : Int) < (l1.length : Int))))]) (l := []) (by kernel_rfl) trivial ?_
  refine ge_nil fun a hF => hK9 _ _ ?_ a hF
  refine we_seq fun K10 hK10 => ?_
  by_cases hc4 : (i1 : Int) < (l1.length : Int)
  · rw [if_pos hc4] at h
    refine we_known (t := 24) (b := decide ((i1 : Int) < (l1.length : Int))) (v := true) (by kernel_rfl) (decide_eq_true hc4) ?_
    refine we_true (by kernel_rfl) ?_
    refine we_skip fun a hF => hK10 _ _ ?_ a hF
    refine we_seq fun K11 hK11 => ?_
    refine we_block ?_
    refine we_seq fun K12 hK12 => ?_
    refine we_region [(0, 0), (1, 0), (2, 1), (3, 2)] rfl ?_
    rcases hx1 : l1[i1]? with _ | e1
    · rw [hx1] at h; cases h
    rw [hx1] at h
    simp only [] at h
    refine ge_index (d := 25) (ty := 0) (t := 22) (el := 27) (sz := 2) (m := l1.length) (c := c1) (x := (.tmp 21)) (y := (.tmp 23)) (A := A1) (k' := .i64) (j := (i1 : Int)) (jn := i1) (b0 := blkOf A1) (o0 := offOf A1) (by kernel_rfl) (by kernel_rfl) (by kernel_rfl) (by kernel_rfl) (by kernel_rfl) ((hS.rd hR1).eqSome (pos_of_get hx1)) rfl (lt_of_get hx1) ?_
    refine ge_batch [1] (ans := [.val (.int .i64 e1.At), .val (.int .i64 e1.Len)]) (vs := [(26, .agg #[.int .i64 e1.At, .int .i64 e1.Len])]) (l := [.loaded ⟨blkOf A1, offOf A1 + i1 * 2, none⟩ (.int .i64 e1.At), .loaded ⟨blkOf A1, offOf A1 + i1 * 2 + 1, none⟩ (.int .i64 e1.Len)]) (by kernel_rfl) ⟨RdL.cell (j := 0) (hS.rd hR1) hx1 rfl, RdL.cell (j := 1) (hS.rd hR1) hx1 rfl, trivial⟩ ?_
    refine ge_new (d := some 8) (o := .cells #[.int .i64 0, .int .i64 0] 27) (v := fun b => .pointer (some ⟨b, 0, none⟩)) hS (fun b => by kernel_rfl) fun b1 w3 hx2 hS4 => ?_
    refine ge_set (b := b1) (j := 0) (cs := #[.int .i64 0, .int .i64 0]) (t := 27) (vs := [.int .i64 e1.At, .int .i64 e1.Len]) hS4 (by kernel_rfl) rfl rfl fun w4 hS5 => ?_
    have hS6 : St w0 w4 [Own.blk b1 (.cells #[.int .i64 e1.At, .int .i64 e1.Len] 27 (0, 0))] := hS5
    refine ge_nil fun a hF => hK12 _ _ ?_ a hF
    refine we_seq fun K13 hK13 => ?_
    refine we_region [(0, 0), (1, 0), (2, 0), (3, 0), (4, 0), (5, 0), (6, 0), (7, 0), (8, 0), (9, 0), (10, 0), (11, 0), (12, 0)] rfl ?_
    refine ge_batch [0, 1, 2, 3, 4] (ans := [.val (.int .i64 e1.At)]) (vs := [(31, .bool (decide ((Int.tmod x2 x0) ≥ e1.At))), (30, .bool (decide ((Int.tmod x2 x0) ≥ e1.At))), (29, .int .i64 e1.At), (28, .pointer (some ⟨b1, 0, none⟩)), (27, .int .i64 (Int.tmod x2 x0))]) (l := [.loaded ⟨b1, 0, none⟩ (.int .i64 e1.At)]) (by kernel_rfl) ⟨hS6.cell 0 rfl rfl, trivial⟩ ?_
    by_cases hc5 : (Int.tmod x2 x0) ≥ e1.At
    · rw [if_pos hc5] at h
      refine ge_known (t := 31) (b := decide ((Int.tmod x2 x0) ≥ e1.At)) (c := true) (by kernel_rfl) (decide_eq_true hc5) ?_
      refine ge_batch [5, 6, 7, 8, 9, 10, 11, 12] (ans := [.val (.int .i64 e1.At), .val (.int .i64 e1.Len)]) (vs := [(39, .bool (decide ((Int.tmod x2 x0) < (IntKind.i64.wrap (e1.At + e1.Len))))), (38, .bool (decide ((Int.tmod x2 x0) < (IntKind.i64.wrap (e1.At + e1.Len))))), (37, .int .i64 (IntKind.i64.wrap (e1.At + e1.Len))), (36, .int .i64 e1.Len), (35, .pointer (some ⟨b1, 1, none⟩)), (34, .int .i64 e1.At), (33, .pointer (some ⟨b1, 0, none⟩)), (32, .int .i64 (Int.tmod x2 x0))]) (l := [.loaded ⟨b1, 0, none⟩ (.int .i64 e1.At), .loaded ⟨b1, 1, none⟩ (.int .i64 e1.Len)]) (by kernel_rfl) ⟨hS6.cell 0 rfl rfl, hS6.cell 0 rfl rfl, trivial⟩ ?_
      refine ge_nil fun a hF => hK13 _ _ ?_ a hF
      by_cases hc6 : (Int.tmod x2 x0) < (IntKind.i64.wrap (e1.At + e1.Len))
      · rw [if_pos hc6] at h
        refine we_known (t := 39) (b := decide ((Int.tmod x2 x0) < (IntKind.i64.wrap (e1.At + e1.Len)))) (v := true) (by kernel_rfl) (decide_eq_true hc6) ?_
        refine we_true (by kernel_rfl) ?_
        refine we_seq fun K14 hK14 => ?_
        refine we_region [(0, 0)] rfl ?_
        refine ge_batch [0] (ans := []) (vs := [(6, .bool true)]) (l := []) (by kernel_rfl) trivial ?_
        refine ge_nil fun a hF => hK14 _ _ ?_ a hF
        have hS7 := hS6.takeN 0
        obtain rfl := Option.some.inj h
        exact we_ret fun a hF => hQ _ _ _ (Outs.out nofun (Exits.on ⟨rfl, (post_ret (rs := [.tmp 6]) (ans := []) (vs := [.bool true]) (l := []) rfl (by kernel_rfl) trivial ⟨rfl, hS7⟩) a hF⟩))
      · rw [if_neg hc6] at h
        refine we_known (t := 39) (b := decide ((Int.tmod x2 x0) < (IntKind.i64.wrap (e1.At + e1.Len)))) (v := false) (by kernel_rfl) (decide_eq_false hc6) ?_
        refine we_false (by kernel_rfl) ?_
        refine we_skip fun a hF => hK11 _ _ ?_ a hF
        refine we_region [(0, 0), (1, 0)] rfl ?_
        refine ge_addn (d := 40) (ty := 3) (x := (.tmp 23)) (y := (.const (.int .i64 1))) (t := 3) (t2 := 3) (k := .i64) (m := i1) (by kernel_rfl) (by kernel_rfl) (by kernel_rfl) (by have h0 := hR1.small; omega) ?_
        refine ge_batch [1] (ans := []) (vs := [(23, .int .i64 ((i1 + 1 : Nat) : Int))]) (l := []) (by kernel_rfl) trivial ?_
        have hS8 := hS6.takeN 0
        obtain rfl := Option.some.inj h
        exact ge_nil fun a hF => hQ _ _ _ (Outs.again ⟨hS8, hF.weaken ⟨by kernel_rfl, by kernel_rfl, by kernel_rfl, by kernel_rfl, trivial⟩⟩)
    · rw [if_neg hc5] at h
      refine ge_known (t := 31) (b := decide ((Int.tmod x2 x0) ≥ e1.At)) (c := false) (by kernel_rfl) (decide_eq_false hc5) ?_
      refine ge_batch [5, 6, 7, 8, 9, 10, 11, 12] (ans := []) (vs := [(39, .bool false), (38, undef), (37, undef), (36, undef), (35, undef), (34, undef), (33, undef), (32, undef)]) (l := []) (by kernel_rfl) trivial ?_
      refine ge_nil fun a hF => hK13 _ _ ?_ a hF
      refine we_false (by kernel_rfl) ?_
      refine we_skip fun a hF => hK11 _ _ ?_ a hF
      refine we_region [(0, 0), (1, 0)] rfl ?_
      refine ge_addn (d := 40) (ty := 3) (x := (.tmp 23)) (y := (.const (.int .i64 1))) (t := 3) (t2 := 3) (k := .i64) (m := i1) (by kernel_rfl) (by kernel_rfl) (by kernel_rfl) (by have h0 := hR1.small; omega) ?_
      refine ge_batch [1] (ans := []) (vs := [(23, .int .i64 ((i1 + 1 : Nat) : Int))]) (l := []) (by kernel_rfl) trivial ?_
      have hS9 := hS6.takeN 0
      obtain rfl := Option.some.inj h
      exact ge_nil fun a hF => hQ _ _ _ (Outs.again ⟨hS9, hF.weaken ⟨by kernel_rfl, by kernel_rfl, by kernel_rfl, by kernel_rfl, trivial⟩⟩)
  · rw [if_neg hc4] at h
    refine we_known (t := 24) (b := decide ((i1 : Int) < (l1.length : Int))) (v := false) (by kernel_rfl) (decide_eq_false hc4) ?_
    refine we_false (by kernel_rfl) ?_
    obtain rfl := Option.some.inj h
    exact we_exit fun a hF => hQ _ _ _ (Outs.out nofun (Exits.here ⟨hS, hF.weaken trivial⟩))
theorem modes_Open_ok (K : Nat) (x0 : Int) (l1 : List SWindow) (A1 : Option Addr) (c1 : Nat) (x2 : Int) (w0 : World) (hR1 : RdL w0 A1 l1) (hL1 : l1.length ≤ c1) (r : Bool) (h : modes_Open.f K x0 l1 x2 = some r) :
    Calls Tryd.prog 13 #[.int .i64 x0, .slice A1 l1.length c1, .int .i64 x2] w0 (modes_Open.Post w0 r) := by
  have hS := St.start w0
  unfold modes_Open.f at h
  refine calls_enter (n := 41) (args := [.int .i64 x0, .slice A1 l1.length c1, .int .i64 x2]) (fn := Tryd.f13) rfl rfl rfl rfl ?_
  show WE _ _ _ _ [(0, .int .i64 x0), (1, .slice A1 l1.length c1), (2, .int .i64 x2)] _
  refine we_seq fun K1 hK1 => ?_
  refine we_region [(0, 0)] rfl ?_
  refine ge_batch [0] (ans := []) (vs := [(6, .bool false)]) (l := []) (by kernel_rfl) trivial ?_
  refine ge_nil fun a hF => hK1 _ _ ?_ a hF
  refine we_seq fun K2 hK2 => ?_
  rcases hq2 : modes_Open.p0 K x0 l1 x2 with _ | (_ | rr2)
  · rw [hq2] at h; cases h
  · rw [hq2] at h
    simp only [] at h
    refine we_keep (e' := [(0, .int .i64 x0), (1, .slice A1 l1.length c1), (2, .int .i64 x2), (6, .bool false)]) ⟨by kernel_rfl, by kernel_rfl, by kernel_rfl, by kernel_rfl, trivial⟩ (modes_Open_p0 K w0 x0 l1 A1 c1 x2 hR1 hL1 _ hq2 _ hS _ ?_)
    rintro _ a w2 ⟨rfl, hS3, hF⟩
    replace hS3 : St w0 w2 [] := hS3
    refine hK2 [(0, .int .i64 x0), (1, .slice A1 l1.length c1), (2, .int .i64 x2)] w2 ?_ a hF
    refine we_seq fun K6 hK6 => ?_
    refine we_region [(0, 0), (1, 0), (2, 0), (3, 0)] rfl ?_
    refine ge_batch [0, 1] (ans := []) (vs := [(19, .int .i64 x0), (18, .int .i64 x2)]) (l := []) (by kernel_rfl) trivial ?_
    by_cases hc3 : x0 = 0
    · rw [if_pos hc3] at h
      cases h
    · rw [if_neg hc3] at h
      refine ge_div (d := 20) (ty := 3) (op := .rem) (x := (.tmp 18)) (y := (.tmp 19)) (t := 3) (t2 := 3) (k := .i64) (p := x2) (q := x0) (v := .int .i64 (Int.tmod x2 x0)) (by kernel_rfl) (by kernel_rfl) (by kernel_rfl) hc3 rfl ?_
      refine ge_batch [3] (ans := []) (vs := [(2, .int .i64 (Int.tmod x2 x0))]) (l := []) (by kernel_rfl) trivial ?_
      refine ge_nil fun a hF => hK6 _ _ ?_ a hF
      refine we_seq fun K7 hK7 => ?_
      refine we_seq fun K8 hK8 => ?_
      refine we_region [(0, 0), (1, 0), (2, 0)] rfl ?_
      refine ge_batch [0, 1, 2] (ans := []) (vs := [(23, .int .i64 0), (22, .int .i64 (l1.length : Int)), (21, .slice A1 l1.length c1)]) (l := []) (by kernel_rfl) trivial ?_
      refine ge_nil fun a hF => hK8 _ _ ?_ a hF
      refine we_block ?_
      rcases hq3 : iter (modes_Open.r1 x0 l1 x2) K 0 with _ | (_ | rr1)
      · rw [hq3] at h; cases h
      · rw [hq3] at h
        simp only [] at h
        refine we_iter (A := modes_Open.A1 K w0 x0 l1 A1 c1 x2 hR1 hL1 hc3) (B := modes_Open.B1 K w0 x0 l1 A1 c1 x2 hR1 hL1 hc3) hq3 (fun a hF => ⟨hS3, hF.weaken ⟨by kernel_rfl, by kernel_rfl, by kernel_rfl, by kernel_rfl, trivial⟩⟩) (fun s o hf a w hA Q hQ => modes_Open_r1 K w0 x0 l1 A1 c1 x2 hR1 hL1 hc3 s o hf a w hA Q hQ) ?_
        rintro _ a w5 _ ⟨rfl, hS10, hF⟩
        replace hS10 : St w0 w5 [] := hS10
        refine hK7 [] w5 ?_ a hF
        refine we_seq fun K15 hK15 => ?_
        refine we_region [(0, 0)] rfl ?_
        refine ge_batch [0] (ans := []) (vs := [(6, .bool false)]) (l := []) (by kernel_rfl) trivial ?_
        refine ge_nil fun a hF => hK15 _ _ ?_ a hF
        obtain rfl := Option.some.inj h
        exact we_ret (post_ret (rs := [.tmp 6]) (ans := []) (vs := [.bool false]) (l := []) rfl (by kernel_rfl) trivial ⟨rfl, hS10⟩)
      · rw [hq3] at h
        simp only [] at h
        refine we_iter (A := modes_Open.A1 K w0 x0 l1 A1 c1 x2 hR1 hL1 hc3) (B := modes_Open.B1 K w0 x0 l1 A1 c1 x2 hR1 hL1 hc3) hq3 (fun a hF => ⟨hS3, hF.weaken ⟨by kernel_rfl, by kernel_rfl, by kernel_rfl, by kernel_rfl, trivial⟩⟩) (fun s o hf a w hA Q hQ => modes_Open_r1 K w0 x0 l1 A1 c1 x2 hR1 hL1 hc3 s o hf a w hA Q hQ) ?_
        rintro _ a w1 _ ⟨rfl, hb⟩
        obtain rfl := Option.some.inj h
        exact hb
  · rw [hq2] at h
    simp only [] at h
    refine we_keep (e' := [(0, .int .i64 x0), (1, .slice A1 l1.length c1), (2, .int .i64 x2), (6, .bool false)]) ⟨by kernel_rfl, by kernel_rfl, by kernel_rfl, by kernel_rfl, trivial⟩ (modes_Open_p0 K w0 x0 l1 A1 c1 x2 hR1 hL1 _ hq2 _ hS _ ?_)
    rintro _ a w1 ⟨_, rfl, hb⟩
    obtain rfl := Option.some.inj h
    exact hb

/-! punctual/punctuallaw.opens -/
abbrev opens.Post (w0 : World) (r : Bool) (e : Ending) (w : World) : Prop := e = .returned (.bool r) ∧ St w0 w []
def opens.f (K : Nat) : Option Bool :=
  match modes_Supply.f K 6 ([(⟨1, 2⟩ : SWindow), (⟨5, 1⟩ : SWindow)] : List SWindow) 2 7 with
  | none => none
  | some r1 =>
    match modes_Least.f K 6 ([(⟨1, 2⟩ : SWindow), (⟨5, 1⟩ : SWindow)] : List SWindow) 3 with
    | none => none
    | some r2 =>
      match modes_Within.f K ([(⟨⟨#[97]⟩, 2, 9, 9, 0, 0, 0⟩ : STask)] : List STask) 0 6 ([(⟨1, 2⟩ : SWindow), (⟨5, 1⟩ : SWindow)] : List SWindow) with
      | none => none
      | some r3 =>
        if r1.2.Code = 0 then
          if r2.2.Code = 0 then
            if r3.2.Code = 0 then
              if r1.1 = 4 then
                if r2.1 = 1 then
                  if r3.1 = 5 then
                    match modes_Open.f K 6 ([(⟨1, 2⟩ : SWindow), (⟨5, 1⟩ : SWindow)] : List SWindow) 7 with
                    | none => none
                    | some r4 =>
                      if r4 = true then
                        match modes_Open.f K 6 ([(⟨1, 2⟩ : SWindow), (⟨5, 1⟩ : SWindow)] : List SWindow) 6 with
                        | none => none
                        | some r5 =>
                          some (!r5)
                      else
                        some false
                  else
                    some false
                else
                  some false
              else
                some false
            else
              some false
          else
            some false
        else
          some false
theorem opens_ok (K : Nat)  (w0 : World) (r : Bool) (h : opens.f K = some r) :
    Calls Tryd.prog 8 #[] w0 (opens.Post w0 r) := by
  have hS := St.start w0
  unfold opens.f at h
  refine calls_enter (n := 62) (args := []) (fn := Tryd.f8) rfl rfl rfl rfl ?_
  show WE _ _ _ _ [] _
  refine we_seq fun K1 hK1 => ?_
  refine we_region [(0, 0)] rfl ?_
  refine ge_batch [0] (ans := []) (vs := [(0, .bool false)]) (l := []) (by kernel_rfl) trivial ?_
  refine ge_nil fun a hF => hK1 _ _ ?_ a hF
  refine we_seq fun K2 hK2 => ?_
  refine we_region [(0, 0), (1, 0), (2, 1), (3, 0)] rfl ?_
  refine ge_batch [0, 1] (ans := []) (vs := [(9, .agg #[.int .i64 5, .int .i64 1]), (8, .agg #[.int .i64 1, .int .i64 2])]) (l := []) (by kernel_rfl) trivial ?_
  refine ge_new (d := some 10) (o := .cells #[.int .i64 1, .int .i64 2, .int .i64 5, .int .i64 1] 27) (v := fun b => .slice (some ⟨b, 0, none⟩) 2 2) hS (fun b => by kernel_rfl) fun b1 w1 hx1 hS1 => ?_
  refine ge_batch [3] (ans := []) (vs := [(1, .slice (some ⟨b1, 0, none⟩) 2 2)]) (l := []) (by kernel_rfl) trivial ?_
  refine ge_nil fun a hF => hK2 _ _ ?_ a hF
  refine we_seq fun K3 hK3 => ?_
  refine we_region [(0, 0), (1, 1), (2, 0), (3, 0), (4, 0), (5, 1), (6, 0), (7, 2)] rfl ?_
  rcases hq1 : modes_Supply.f K 6 ([(⟨1, 2⟩ : SWindow), (⟨5, 1⟩ : SWindow)] : List SWindow) 2 7 with _ | r1
  · rw [hq1] at h; cases h
  rw [hq1] at h
  simp only [] at h
  refine ge_batch [0] (ans := []) (vs := [(12, .slice (some ⟨b1, 0, none⟩) 2 2)]) (l := []) (by kernel_rfl) trivial ?_
  refine ge_call (d := some 13) (f := 15) (args := #[.int .i64 6, .slice (some ⟨b1, 0, none⟩) 2 2, .int .i64 2, .int .i64 7]) (by kernel_rfl) (modes_Supply_ok K 6 ([(⟨1, 2⟩ : SWindow), (⟨5, 1⟩ : SWindow)] : List SWindow) (some ⟨b1, 0, none⟩) 2 2 7 _ (hS1.rdBlk 0 ([(⟨1, 2⟩ : SWindow), (⟨5, 1⟩ : SWindow)] : List SWindow) rfl rfl rfl) (Nat.le_refl _) _ hq1) ?_
  rintro _ w2 ⟨rfl, hS2⟩
  refine ⟨_, rfl, hS2.below, ?_⟩
  have hS3 := hS1.call hS2
  refine ge_batch [2, 3, 4] (ans := []) (vs := [(15, .agg #[.int .i64 r1.2.Code, .int .i64 r1.2.At]), (14, .int .i64 r1.1), (11, .tuple #[.int .i64 r1.1, .agg #[.int .i64 r1.2.Code, .int .i64 r1.2.At]])]) (l := []) (by kernel_rfl) trivial ?_
  refine ge_new (d := some 3) (o := .cells #[.int .i64 0, .int .i64 0] 30) (v := fun b => .pointer (some ⟨b, 0, none⟩)) hS3 (fun b => by kernel_rfl) fun b2 w3 hx2 hS4 => ?_
  refine ge_batch [6] (ans := []) (vs := [(2, .int .i64 r1.1)]) (l := []) (by kernel_rfl) trivial ?_
  refine ge_set (b := b2) (j := 0) (cs := #[.int .i64 0, .int .i64 0]) (t := 30) (vs := [.int .i64 r1.2.Code, .int .i64 r1.2.At]) hS4 (by kernel_rfl) rfl rfl fun w4 hS5 => ?_
  have hS6 : St w0 w4 [Own.blk b2 (.cells #[.int .i64 r1.2.Code, .int .i64 r1.2.At] 30 (0, 0)), Own.blk b1 (.cells #[.int .i64 1, .int .i64 2, .int .i64 5, .int .i64 1] 27 (0, 0))] := hS5
  refine ge_nil fun a hF => hK3 _ _ ?_ a hF
  refine we_seq fun K4 hK4 => ?_
  refine we_region [(0, 0), (1, 1), (2, 0), (3, 0), (4, 0), (5, 1), (6, 0), (7, 2)] rfl ?_
  rcases hq2 : modes_Least.f K 6 ([(⟨1, 2⟩ : SWindow), (⟨5, 1⟩ : SWindow)] : List SWindow) 3 with _ | r2
  · rw [hq2] at h; cases h
  rw [hq2] at h
  simp only [] at h
  refine ge_batch [0] (ans := []) (vs := [(17, .slice (some ⟨b1, 0, none⟩) 2 2)]) (l := []) (by kernel_rfl) trivial ?_
  refine ge_call (d := some 18) (f := 16) (args := #[.int .i64 6, .slice (some ⟨b1, 0, none⟩) 2 2, .int .i64 3]) (by kernel_rfl) (modes_Least_ok K 6 ([(⟨1, 2⟩ : SWindow), (⟨5, 1⟩ : SWindow)] : List SWindow) (some ⟨b1, 0, none⟩) 2 3 _ (hS6.rdBlk 1 ([(⟨1, 2⟩ : SWindow), (⟨5, 1⟩ : SWindow)] : List SWindow) rfl rfl rfl) (Nat.le_refl _) _ hq2) ?_
  rintro _ w5 ⟨rfl, hS7⟩
  refine ⟨_, rfl, hS7.below, ?_⟩
  have hS8 := hS6.call hS7
  refine ge_batch [2, 3, 4] (ans := []) (vs := [(20, .agg #[.int .i64 r2.2.Code, .int .i64 r2.2.At]), (19, .int .i64 r2.1), (16, .tuple #[.int .i64 r2.1, .agg #[.int .i64 r2.2.Code, .int .i64 r2.2.At]])]) (l := []) (by kernel_rfl) trivial ?_
  refine ge_new (d := some 5) (o := .cells #[.int .i64 0, .int .i64 0] 30) (v := fun b => .pointer (some ⟨b, 0, none⟩)) hS8 (fun b => by kernel_rfl) fun b3 w6 hx3 hS9 => ?_
  refine ge_batch [6] (ans := []) (vs := [(4, .int .i64 r2.1)]) (l := []) (by kernel_rfl) trivial ?_
  refine ge_set (b := b3) (j := 0) (cs := #[.int .i64 0, .int .i64 0]) (t := 30) (vs := [.int .i64 r2.2.Code, .int .i64 r2.2.At]) hS9 (by kernel_rfl) rfl rfl fun w7 hS10 => ?_
  have hS11 : St w0 w7 [Own.blk b3 (.cells #[.int .i64 r2.2.Code, .int .i64 r2.2.At] 30 (0, 0)), Own.blk b2 (.cells #[.int .i64 r1.2.Code, .int .i64 r1.2.At] 30 (0, 0)), Own.blk b1 (.cells #[.int .i64 1, .int .i64 2, .int .i64 5, .int .i64 1] 27 (0, 0))] := hS10
  refine ge_nil fun a hF => hK4 _ _ ?_ a hF
  refine we_seq fun K5 hK5 => ?_
  refine we_region [(0, 0), (1, 1), (2, 0), (3, 1), (4, 0), (5, 0), (6, 0), (7, 1), (8, 0), (9, 2)] rfl ?_
  refine ge_batch [0] (ans := []) (vs := [(22, .agg #[.string (⟨#[97]⟩), .int .i64 2, .int .i64 9, .int .i64 9, .int .i64 0, .int .i64 0, .int .i64 0])]) (l := []) (by kernel_rfl) trivial ?_
  refine ge_new (d := some 23) (o := .cells #[.string (⟨#[97]⟩), .int .i64 2, .int .i64 9, .int .i64 9, .int .i64 0, .int .i64 0, .int .i64 0] 64) (v := fun b => .slice (some ⟨b, 0, none⟩) 1 1) hS11 (fun b => by kernel_rfl) fun b4 w8 hx4 hS12 => ?_
  rcases hq3 : modes_Within.f K ([(⟨⟨#[97]⟩, 2, 9, 9, 0, 0, 0⟩ : STask)] : List STask) 0 6 ([(⟨1, 2⟩ : SWindow), (⟨5, 1⟩ : SWindow)] : List SWindow) with _ | r3
  · rw [hq3] at h; cases h
  rw [hq3] at h
  simp only [] at h
  refine ge_batch [2] (ans := []) (vs := [(24, .slice (some ⟨b1, 0, none⟩) 2 2)]) (l := []) (by kernel_rfl) trivial ?_
  refine ge_call (d := some 25) (f := 34) (args := #[.slice (some ⟨b4, 0, none⟩) 1 1, .int .i64 0, .int .i64 6, .slice (some ⟨b1, 0, none⟩) 2 2]) (by kernel_rfl) (modes_Within_ok K ([(⟨⟨#[97]⟩, 2, 9, 9, 0, 0, 0⟩ : STask)] : List STask) (some ⟨b4, 0, none⟩) 1 0 6 ([(⟨1, 2⟩ : SWindow), (⟨5, 1⟩ : SWindow)] : List SWindow) (some ⟨b1, 0, none⟩) 2 _ (hS12.rdBlk 0 ([(⟨⟨#[97]⟩, 2, 9, 9, 0, 0, 0⟩ : STask)] : List STask) rfl rfl rfl) (Nat.le_refl _) (hS12.rdBlk 3 ([(⟨1, 2⟩ : SWindow), (⟨5, 1⟩ : SWindow)] : List SWindow) rfl rfl rfl) (Nat.le_refl _) _ hq3) ?_
  rintro _ w9 ⟨rfl, hS13⟩
  refine ⟨_, rfl, hS13.below, ?_⟩
  have hS14 := hS12.call hS13
  refine ge_batch [4, 5, 6] (ans := []) (vs := [(27, .agg #[.int .i64 r3.2.Code, .int .i64 r3.2.At]), (26, .int .i64 r3.1), (21, .tuple #[.int .i64 r3.1, .agg #[.int .i64 r3.2.Code, .int .i64 r3.2.At]])]) (l := []) (by kernel_rfl) trivial ?_
  refine ge_new (d := some 7) (o := .cells #[.int .i64 0, .int .i64 0] 30) (v := fun b => .pointer (some ⟨b, 0, none⟩)) hS14 (fun b => by kernel_rfl) fun b5 w10 hx5 hS15 => ?_
  refine ge_batch [8] (ans := []) (vs := [(6, .int .i64 r3.1)]) (l := []) (by kernel_rfl) trivial ?_
  refine ge_set (b := b5) (j := 0) (cs := #[.int .i64 0, .int .i64 0]) (t := 30) (vs := [.int .i64 r3.2.Code, .int .i64 r3.2.At]) hS15 (by kernel_rfl) rfl rfl fun w11 hS16 => ?_
  have hS17 : St w0 w11 [Own.blk b5 (.cells #[.int .i64 r3.2.Code, .int .i64 r3.2.At] 30 (0, 0)), Own.blk b4 (.cells #[.string (⟨#[97]⟩), .int .i64 2, .int .i64 9, .int .i64 9, .int .i64 0, .int .i64 0, .int .i64 0] 64 (0, 0)), Own.blk b3 (.cells #[.int .i64 r2.2.Code, .int .i64 r2.2.At] 30 (0, 0)), Own.blk b2 (.cells #[.int .i64 r1.2.Code, .int .i64 r1.2.At] 30 (0, 0)), Own.blk b1 (.cells #[.int .i64 1, .int .i64 2, .int .i64 5, .int .i64 1] 27 (0, 0))] := hS16
  refine ge_nil fun a hF => hK5 _ _ ?_ a hF
  refine we_seq fun K6 hK6 => ?_
  refine we_region [(0, 0), (1, 0), (2, 0), (3, 0), (4, 0), (5, 0), (6, 0), (7, 0), (8, 0), (9, 0), (10, 0), (11, 0), (12, 0), (13, 0), (14, 0), (15, 0), (16, 0), (17, 0), (18, 0), (19, 0), (20, 0), (21, 0), (22, 0), (23, 0), (24, 0), (25, 0), (26, 0), (27, 1), (28, 0), (29, 0), (30, 0), (31, 1), (32, 0), (33, 0), (34, 0)] rfl ?_
  refine ge_batch [0, 1, 2, 3] (ans := [.val (.int .i64 r1.2.Code)]) (vs := [(31, .bool (r1.2.Code == 0)), (30, .bool (r1.2.Code == 0)), (29, .int .i64 r1.2.Code), (28, .pointer (some ⟨b2, 0, none⟩))]) (l := [.loaded ⟨b2, 0, none⟩ (.int .i64 r1.2.Code)]) (by kernel_rfl) ⟨hS17.cell 3 rfl rfl, trivial⟩ ?_
  by_cases hc1 : r1.2.Code = 0
  · rw [if_pos hc1] at h
    refine ge_known (t := 31) (b := (r1.2.Code == 0)) (c := true) (by kernel_rfl) (beq_iff_eq.2 hc1) ?_
    refine ge_batch [4, 5, 6, 7, 8] (ans := [.val (.int .i64 r2.2.Code)]) (vs := [(36, .bool (r2.2.Code == 0)), (35, .bool (r2.2.Code == 0)), (34, .bool (r2.2.Code == 0)), (33, .int .i64 r2.2.Code), (32, .pointer (some ⟨b3, 0, none⟩))]) (l := [.loaded ⟨b3, 0, none⟩ (.int .i64 r2.2.Code)]) (by kernel_rfl) ⟨hS17.cell 2 rfl rfl, trivial⟩ ?_
    by_cases hc2 : r2.2.Code = 0
    · rw [if_pos hc2] at h
      refine ge_known (t := 36) (b := (r2.2.Code == 0)) (c := true) (by kernel_rfl) (beq_iff_eq.2 hc2) ?_
      refine ge_batch [9, 10, 11, 12, 13] (ans := [.val (.int .i64 r3.2.Code)]) (vs := [(41, .bool (r3.2.Code == 0)), (40, .bool (r3.2.Code == 0)), (39, .bool (r3.2.Code == 0)), (38, .int .i64 r3.2.Code), (37, .pointer (some ⟨b5, 0, none⟩))]) (l := [.loaded ⟨b5, 0, none⟩ (.int .i64 r3.2.Code)]) (by kernel_rfl) ⟨hS17.cell 0 rfl rfl, trivial⟩ ?_
      by_cases hc3 : r3.2.Code = 0
      · rw [if_pos hc3] at h
        refine ge_known (t := 41) (b := (r3.2.Code == 0)) (c := true) (by kernel_rfl) (beq_iff_eq.2 hc3) ?_
        refine ge_batch [14, 15, 16, 17] (ans := []) (vs := [(45, .bool (r1.1 == 4)), (44, .bool (r1.1 == 4)), (43, .bool (r1.1 == 4)), (42, .int .i64 r1.1)]) (l := []) (by kernel_rfl) trivial ?_
        by_cases hc4 : r1.1 = 4
        · rw [if_pos hc4] at h
          refine ge_known (t := 45) (b := (r1.1 == 4)) (c := true) (by kernel_rfl) (beq_iff_eq.2 hc4) ?_
          refine ge_batch [18, 19, 20, 21] (ans := []) (vs := [(49, .bool (r2.1 == 1)), (48, .bool (r2.1 == 1)), (47, .bool (r2.1 == 1)), (46, .int .i64 r2.1)]) (l := []) (by kernel_rfl) trivial ?_
          by_cases hc5 : r2.1 = 1
          · rw [if_pos hc5] at h
            refine ge_known (t := 49) (b := (r2.1 == 1)) (c := true) (by kernel_rfl) (beq_iff_eq.2 hc5) ?_
            refine ge_batch [22, 23, 24, 25] (ans := []) (vs := [(53, .bool (r3.1 == 5)), (52, .bool (r3.1 == 5)), (51, .bool (r3.1 == 5)), (50, .int .i64 r3.1)]) (l := []) (by kernel_rfl) trivial ?_
            by_cases hc6 : r3.1 = 5
            · rw [if_pos hc6] at h
              refine ge_known (t := 53) (b := (r3.1 == 5)) (c := true) (by kernel_rfl) (beq_iff_eq.2 hc6) ?_
              rcases hq4 : modes_Open.f K 6 ([(⟨1, 2⟩ : SWindow), (⟨5, 1⟩ : SWindow)] : List SWindow) 7 with _ | r4
              · rw [hq4] at h; cases h
              rw [hq4] at h
              simp only [] at h
              refine ge_batch [26] (ans := []) (vs := [(54, .slice (some ⟨b1, 0, none⟩) 2 2)]) (l := []) (by kernel_rfl) trivial ?_
              refine ge_call (d := some 55) (f := 13) (args := #[.int .i64 6, .slice (some ⟨b1, 0, none⟩) 2 2, .int .i64 7]) (by kernel_rfl) (modes_Open_ok K 6 ([(⟨1, 2⟩ : SWindow), (⟨5, 1⟩ : SWindow)] : List SWindow) (some ⟨b1, 0, none⟩) 2 7 _ (hS17.rdBlk 4 ([(⟨1, 2⟩ : SWindow), (⟨5, 1⟩ : SWindow)] : List SWindow) rfl rfl rfl) (Nat.le_refl _) _ hq4) ?_
              rintro _ w12 ⟨rfl, hS18⟩
              refine ⟨_, rfl, hS18.below, ?_⟩
              have hS19 := hS17.call hS18
              refine ge_batch [28, 29] (ans := []) (vs := [(57, .bool r4), (56, .bool r4)]) (l := []) (by kernel_rfl) trivial ?_
              by_cases hc7 : r4 = true
              · rw [if_pos hc7] at h
                refine ge_known (t := 57) (b := r4) (c := true) (by kernel_rfl) hc7 ?_
                rcases hq5 : modes_Open.f K 6 ([(⟨1, 2⟩ : SWindow), (⟨5, 1⟩ : SWindow)] : List SWindow) 6 with _ | r5
                · rw [hq5] at h; cases h
                rw [hq5] at h
                simp only [] at h
                refine ge_batch [30] (ans := []) (vs := [(58, .slice (some ⟨b1, 0, none⟩) 2 2)]) (l := []) (by kernel_rfl) trivial ?_
                refine ge_call (d := some 59) (f := 13) (args := #[.int .i64 6, .slice (some ⟨b1, 0, none⟩) 2 2, .int .i64 6]) (by kernel_rfl) (modes_Open_ok K 6 ([(⟨1, 2⟩ : SWindow), (⟨5, 1⟩ : SWindow)] : List SWindow) (some ⟨b1, 0, none⟩) 2 6 _ (hS19.rdBlk 4 ([(⟨1, 2⟩ : SWindow), (⟨5, 1⟩ : SWindow)] : List SWindow) rfl rfl rfl) (Nat.le_refl _) _ hq5) ?_
                rintro _ w13 ⟨rfl, hS20⟩
                refine ⟨_, rfl, hS20.below, ?_⟩
                have hS21 := hS19.call hS20
                refine ge_batch [32, 33, 34] (ans := []) (vs := [(0, .bool (!r5)), (61, .bool (!r5)), (60, .bool (!r5))]) (l := []) (by kernel_rfl) trivial ?_
                refine ge_nil fun a hF => hK6 _ _ ?_ a hF
                have hS22 := hS21.takeN 0
                obtain rfl := Option.some.inj h
                exact we_ret (post_ret (rs := [.tmp 0]) (ans := []) (vs := [.bool (!r5)]) (l := []) rfl (by kernel_rfl) trivial ⟨rfl, hS22⟩)
              · rw [if_neg hc7] at h
                refine ge_known (t := 57) (b := r4) (c := false) (by kernel_rfl) (Bool.eq_false_iff.2 hc7) ?_
                refine ge_batch [30] (ans := []) (vs := [(58, undef)]) (l := []) (by kernel_rfl) trivial ?_
                refine ge_off rfl rfl rfl (by kernel_rfl) ?_
                refine ge_batch [32, 33, 34] (ans := []) (vs := [(0, .bool false), (61, .bool false), (60, undef)]) (l := []) (by kernel_rfl) trivial ?_
                refine ge_nil fun a hF => hK6 _ _ ?_ a hF
                have hS23 := hS19.takeN 0
                obtain rfl := Option.some.inj h
                exact we_ret (post_ret (rs := [.tmp 0]) (ans := []) (vs := [.bool false]) (l := []) rfl (by kernel_rfl) trivial ⟨rfl, hS23⟩)
            · rw [if_neg hc6] at h
              refine ge_known (t := 53) (b := (r3.1 == 5)) (c := false) (by kernel_rfl) (beq_eq_false_iff_ne.2 hc6) ?_
              refine ge_batch [26] (ans := []) (vs := [(54, undef)]) (l := []) (by kernel_rfl) trivial ?_
              refine ge_off rfl rfl rfl (by kernel_rfl) ?_
              refine ge_batch [28, 29, 30] (ans := []) (vs := [(58, undef), (57, .bool false), (56, .bool false)]) (l := []) (by kernel_rfl) trivial ?_
              refine ge_off rfl rfl rfl (by kernel_rfl) ?_
              refine ge_batch [32, 33, 34] (ans := []) (vs := [(0, .bool false), (61, .bool false), (60, undef)]) (l := []) (by kernel_rfl) trivial ?_
              refine ge_nil fun a hF => hK6 _ _ ?_ a hF
              have hS24 := hS17.takeN 0
              obtain rfl := Option.some.inj h
              exact we_ret (post_ret (rs := [.tmp 0]) (ans := []) (vs := [.bool false]) (l := []) rfl (by kernel_rfl) trivial ⟨rfl, hS24⟩)
          · rw [if_neg hc5] at h
            refine ge_known (t := 49) (b := (r2.1 == 1)) (c := false) (by kernel_rfl) (beq_eq_false_iff_ne.2 hc5) ?_
            refine ge_batch [22, 23, 24, 25, 26] (ans := []) (vs := [(54, undef), (53, .bool false), (52, .bool false), (51, undef), (50, undef)]) (l := []) (by kernel_rfl) trivial ?_
            refine ge_off rfl rfl rfl (by kernel_rfl) ?_
            refine ge_batch [28, 29, 30] (ans := []) (vs := [(58, undef), (57, .bool false), (56, .bool false)]) (l := []) (by kernel_rfl) trivial ?_
            refine ge_off rfl rfl rfl (by kernel_rfl) ?_
            refine ge_batch [32, 33, 34] (ans := []) (vs := [(0, .bool false), (61, .bool false), (60, undef)]) (l := []) (by kernel_rfl) trivial ?_
            refine ge_nil fun a hF => hK6 _ _ ?_ a hF
            have hS25 := hS17.takeN 0
            obtain rfl := Option.some.inj h
            exact we_ret (post_ret (rs := [.tmp 0]) (ans := []) (vs := [.bool false]) (l := []) rfl (by kernel_rfl) trivial ⟨rfl, hS25⟩)
        · rw [if_neg hc4] at h
          refine ge_known (t := 45) (b := (r1.1 == 4)) (c := false) (by kernel_rfl) (beq_eq_false_iff_ne.2 hc4) ?_
          refine ge_batch [18, 19, 20, 21, 22, 23, 24, 25, 26] (ans := []) (vs := [(54, undef), (53, .bool false), (52, .bool false), (51, undef), (50, undef), (49, .bool false), (48, .bool false), (47, undef), (46, undef)]) (l := []) (by kernel_rfl) trivial ?_
          refine ge_off rfl rfl rfl (by kernel_rfl) ?_
          refine ge_batch [28, 29, 30] (ans := []) (vs := [(58, undef), (57, .bool false), (56, .bool false)]) (l := []) (by kernel_rfl) trivial ?_
          refine ge_off rfl rfl rfl (by kernel_rfl) ?_
          refine ge_batch [32, 33, 34] (ans := []) (vs := [(0, .bool false), (61, .bool false), (60, undef)]) (l := []) (by kernel_rfl) trivial ?_
          refine ge_nil fun a hF => hK6 _ _ ?_ a hF
          have hS26 := hS17.takeN 0
          obtain rfl := Option.some.inj h
          exact we_ret (post_ret (rs := [.tmp 0]) (ans := []) (vs := [.bool false]) (l := []) rfl (by kernel_rfl) trivial ⟨rfl, hS26⟩)
      · rw [if_neg hc3] at h
        refine ge_known (t := 41) (b := (r3.2.Code == 0)) (c := false) (by kernel_rfl) (beq_eq_false_iff_ne.2 hc3) ?_
        refine ge_batch [14, 15, 16, 17, 18, 19, 20, 21, 22, 23, 24, 25, 26] (ans := []) (vs := [(54, undef), (53, .bool false), (52, .bool false), (51, undef), (50, undef), (49, .bool false), (48, .bool false), (47, undef), (46, undef), (45, .bool false), (44, .bool false), (43, undef), (42, undef)]) (l := []) (by kernel_rfl) trivial ?_
        refine ge_off rfl rfl rfl (by kernel_rfl) ?_
        refine ge_batch [28, 29, 30] (ans := []) (vs := [(58, undef), (57, .bool false), (56, .bool false)]) (l := []) (by kernel_rfl) trivial ?_
        refine ge_off rfl rfl rfl (by kernel_rfl) ?_
        refine ge_batch [32, 33, 34] (ans := []) (vs := [(0, .bool false), (61, .bool false), (60, undef)]) (l := []) (by kernel_rfl) trivial ?_
        refine ge_nil fun a hF => hK6 _ _ ?_ a hF
        have hS27 := hS17.takeN 0
        obtain rfl := Option.some.inj h
        exact we_ret (post_ret (rs := [.tmp 0]) (ans := []) (vs := [.bool false]) (l := []) rfl (by kernel_rfl) trivial ⟨rfl, hS27⟩)
    · rw [if_neg hc2] at h
      refine ge_known (t := 36) (b := (r2.2.Code == 0)) (c := false) (by kernel_rfl) (beq_eq_false_iff_ne.2 hc2) ?_
      refine ge_batch [9, 10, 11, 12, 13, 14, 15, 16, 17, 18, 19, 20, 21, 22, 23, 24, 25, 26] (ans := []) (vs := [(54, undef), (53, .bool false), (52, .bool false), (51, undef), (50, undef), (49, .bool false), (48, .bool false), (47, undef), (46, undef), (45, .bool false), (44, .bool false), (43, undef), (42, undef), (41, .bool false), (40, .bool false), (39, undef), (38, undef), (37, undef)]) (l := []) (by kernel_rfl) trivial ?_
      refine ge_off rfl rfl rfl (by kernel_rfl) ?_
      refine ge_batch [28, 29, 30] (ans := []) (vs := [(58, undef), (57, .bool false), (56, .bool false)]) (l := []) (by kernel_rfl) trivial ?_
      refine ge_off rfl rfl rfl (by kernel_rfl) ?_
      refine ge_batch [32, 33, 34] (ans := []) (vs := [(0, .bool false), (61, .bool false), (60, undef)]) (l := []) (by kernel_rfl) trivial ?_
      refine ge_nil fun a hF => hK6 _ _ ?_ a hF
      have hS28 := hS17.takeN 0
      obtain rfl := Option.some.inj h
      exact we_ret (post_ret (rs := [.tmp 0]) (ans := []) (vs := [.bool false]) (l := []) rfl (by kernel_rfl) trivial ⟨rfl, hS28⟩)
  · rw [if_neg hc1] at h
    refine ge_known (t := 31) (b := (r1.2.Code == 0)) (c := false) (by kernel_rfl) (beq_eq_false_iff_ne.2 hc1) ?_
    refine ge_batch [4, 5, 6, 7, 8, 9, 10, 11, 12, 13, 14, 15, 16, 17, 18, 19, 20, 21, 22, 23, 24, 25, 26] (ans := []) (vs := [(54, undef), (53, .bool false), (52, .bool false), (51, undef), (50, undef), (49, .bool false), (48, .bool false), (47, undef), (46, undef), (45, .bool false), (44, .bool false), (43, undef), (42, undef), (41, .bool false), (40, .bool false), (39, undef), (38, undef), (37, undef), (36, .bool false), (35, .bool false), (34, undef), (33, undef), (32, undef)]) (l := []) (by kernel_rfl) trivial ?_
    refine ge_off rfl rfl rfl (by kernel_rfl) ?_
    refine ge_batch [28, 29, 30] (ans := []) (vs := [(58, undef), (57, .bool false), (56, .bool false)]) (l := []) (by kernel_rfl) trivial ?_
    refine ge_off rfl rfl rfl (by kernel_rfl) ?_
    refine ge_batch [32, 33, 34] (ans := []) (vs := [(0, .bool false), (61, .bool false), (60, undef)]) (l := []) (by kernel_rfl) trivial ?_
    refine ge_nil fun a hF => hK6 _ _ ?_ a hF
    have hS29 := hS17.takeN 0
    obtain rfl := Option.some.inj h
    exact we_ret (post_ret (rs := [.tmp 0]) (ans := []) (vs := [.bool false]) (l := []) rfl (by kernel_rfl) trivial ⟨rfl, hS29⟩)

/-! punctual/punctuallaw.few -/
abbrev few.Post (w0 : World) (r : Bool) (e : Ending) (w : World) : Prop := e = .returned (.bool r) ∧ St w0 w []
def few.f (x0 : Int) : Bool :=
  decide (x0 ≤ 5000)
theorem few_ok (x0 : Int) (w0 : World) (r : Bool) (h : few.f x0 = r) :
    Calls Tryd.prog 9 #[.int .i64 x0] w0 (few.Post w0 r) := by
  have hS := St.start w0
  unfold few.f at h
  refine calls_enter (n := 5) (args := [.int .i64 x0]) (fn := Tryd.f9) rfl rfl rfl rfl ?_
  show WE _ _ _ _ [(0, .int .i64 x0)] _
  refine we_seq fun K1 hK1 => ?_
  refine we_region [(0, 0)] rfl ?_
  refine ge_batch [0] (ans := []) (vs := [(2, .bool false)]) (l := []) (by kernel_rfl) trivial ?_
  refine ge_nil fun a hF => hK1 _ _ ?_ a hF
  refine we_seq fun K2 hK2 => ?_
  refine we_region [(0, 0), (1, 0), (2, 0)] rfl ?_
  refine ge_batch [0, 1, 2] (ans := []) (vs := [(2, .bool (decide (x0 ≤ 5000))), (4, .bool (decide (x0 ≤ 5000))), (3, .int .i64 x0)]) (l := []) (by kernel_rfl) trivial ?_
  refine ge_nil fun a hF => hK2 _ _ ?_ a hF
  subst h
  exact we_ret (post_ret (rs := [.tmp 2]) (ans := []) (vs := [.bool (decide (x0 ≤ 5000))]) (l := []) rfl (by kernel_rfl) trivial ⟨rfl, hS⟩)

/-! punctual/punctualsame.Lend[punctual/api.Window] -/
abbrev punctualsame_Lend_api_Window.Post (w0 : World) (n : Nat) (r : List SWindow) (e : Ending) (w : World) : Prop := ∃ (A : Option Addr) (c : Nat), e = .returned (.slice A n c) ∧ r.length ≤ c ∧ St w0 w [Own.of (.slice A r.length c) 27 r]
def punctualsame_Lend_api_Window.f (l0 : List SWindow) (x1 : SWindow) : Option (List SWindow) :=
  if 0 ≤ (IntKind.i64.wrap ((l0.length : Int) + 3)) then
    if ((IntKind.i64.wrap ((l0.length : Int) + 3)).toNat) ≤ 8796093022208 then
      if (List.replicate 0 (⟨0, 0⟩ : SWindow)).length + l0.length ≤ 8796093022208 then
        if ((List.replicate 0 (⟨0, 0⟩ : SWindow)) ++ l0).length + 3 ≤ 8796093022208 then
          some (((List.replicate 0 (⟨0, 0⟩ : SWindow)) ++ l0) ++ ([x1, x1, x1] : List SWindow))
        else
          none
      else
        none
    else
      none
  else
    none
theorem punctualsame_Lend_api_Window_ok (l0 : List SWindow) (A0 : Option Addr) (c0 : Nat) (x1 : SWindow) (w0 : World) (hR0 : RdL w0 A0 l0) (hL0 : l0.length ≤ c0) (r : List SWindow) (h : punctualsame_Lend_api_Window.f l0 x1 = some r) :
    Calls Tryd.prog 10 #[.slice A0 l0.length c0, .agg #[.int .i64 x1.At, .int .i64 x1.Len]] w0 (punctualsame_Lend_api_Window.Post w0 l0.length r) := by
  have hS := St.start w0
  unfold punctualsame_Lend_api_Window.f at h
  refine calls_enter (n := 21) (args := [.slice A0 l0.length c0, .agg #[.int .i64 x1.At, .int .i64 x1.Len]]) (fn := Tryd.f10) rfl rfl rfl rfl ?_
  show WE _ _ _ _ [(0, .slice A0 l0.length c0), (1, .agg #[.int .i64 x1.At, .int .i64 x1.Len])] _
  refine we_seq fun K1 hK1 => ?_
  refine we_region [(0, 1), (1, 0)] rfl ?_
  refine ge_new (d := some 3) (o := .cells #[.int .i64 x1.At, .int .i64 x1.Len] 27) (v := fun b => .pointer (some ⟨b, 0, none⟩)) hS (fun b => by kernel_rfl) fun b1 w1 hx1 hS1 => ?_
  refine ge_batch [1] (ans := []) (vs := [(4, .slice none 0 0)]) (l := []) (by kernel_rfl) trivial ?_
  refine ge_nil fun a hF => hK1 _ _ ?_ a hF
  refine we_seq fun K2 hK2 => ?_
  refine we_orders2 (by kernel_rfl) [(6, [⟨b1, 0, none⟩, ⟨b1, 1, none⟩]), (7, [⟨b1, 0, none⟩, ⟨b1, 1, none⟩]), (8, [⟨b1, 0, none⟩, ⟨b1, 1, none⟩])] (.vals [0] (.vals [1] (.vals [2] (.vals [4] (.vals [6] (.vals [7] (.vals [8] (.alt 3 1 (.alt 5 2 (.alt 9 1 (.alt 10 2 (.vals [11] .fin) .nomore) .nomore) (.alt 9 1 (.alt 5 2 (.alt 10 2 (.vals [11] .fin) .nomore) .nomore) .nomore)) (.alt 9 1 (.alt 3 1 (.alt 5 2 (.alt 10 2 (.vals [11] .fin) .nomore) .nomore) .nomore) .nomore))))))))) (by kernel_rfl) ?_
  have hS2 := hS1.drew
  refine go2_batch [0, 1, 2, 4] (ans := []) (vs := [(10, .slice A0 l0.length c0), (8, .int .i64 (IntKind.i64.wrap ((l0.length : Int) + 3))), (7, .int .i64 (l0.length : Int)), (6, .slice A0 l0.length c0)]) (l := []) (by kernel_rfl) trivial mem_nil ?_
  refine go2_batch [6] (ans := [.val (.int .i64 x1.At), .val (.int .i64 x1.Len)]) (vs := [(12, .agg #[.int .i64 x1.At, .int .i64 x1.Len])]) (l := [.loaded ⟨b1, 0, none⟩ (.int .i64 x1.At), .loaded ⟨b1, 1, none⟩ (.int .i64 x1.Len)]) (by kernel_rfl) ⟨hS2.cell 0 rfl rfl, hS2.cell 0 rfl rfl, trivial⟩ (mem_one (by kernel_rfl)) ?_
  refine go2_batch [7] (ans := [.val (.int .i64 x1.At), .val (.int .i64 x1.Len)]) (vs := [(13, .agg #[.int .i64 x1.At, .int .i64 x1.Len])]) (l := [.loaded ⟨b1, 0, none⟩ (.int .i64 x1.At), .loaded ⟨b1, 1, none⟩ (.int .i64 x1.Len)]) (by kernel_rfl) ⟨hS2.cell 0 rfl rfl, hS2.cell 0 rfl rfl, trivial⟩ (mem_one (by kernel_rfl)) ?_
  refine go2_batch [8] (ans := [.val (.int .i64 x1.At), .val (.int .i64 x1.Len)]) (vs := [(14, .agg #[.int .i64 x1.At, .int .i64 x1.Len])]) (l := [.loaded ⟨b1, 0, none⟩ (.int .i64 x1.At), .loaded ⟨b1, 1, none⟩ (.int .i64 x1.Len)]) (by kernel_rfl) ⟨hS2.cell 0 rfl rfl, hS2.cell 0 rfl rfl, trivial⟩ (mem_one (by kernel_rfl)) ?_
  by_cases hc1 : 0 ≤ (IntKind.i64.wrap ((l0.length : Int) + 3))
  · rw [if_pos hc1] at h
    by_cases hc2 : ((IntKind.i64.wrap ((l0.length : Int) + 3)).toNat) ≤ 8796093022208
    · rw [if_pos hc2] at h
      refine go_alt2 (fun KK hKK => ?_) ?_
      · refine ge_one2 ?_
        refine ge_make (α := SWindow) (d := 9) (t := 22) (el := 27) (bytes := 16) (l := 0) (c := ((IntKind.i64.wrap ((l0.length : Int) + 3)).toNat)) (x := (.const (.int .i64 0))) (y := (.tmp 8)) (ty := 22) (k1 := .i64) (k2 := .i64) (li := 0) (ci := (IntKind.i64.wrap ((l0.length : Int) + 3))) (z := .agg #[.int .i64 0, .int .i64 0]) (z' := (⟨0, 0⟩ : SWindow)) (by kernel_rfl) (by kernel_rfl) (by kernel_rfl) rfl (Int.toNat_of_nonneg hc1).symm (by kernel_rfl) (by kernel_rfl) rfl hS2 (Nat.zero_le _) rfl (by omega) fun v1 w2 _ hS3 => ?_
        refine ge_nil fun a hF => hKK _ _ (RS.of2 (l := [.loaded ⟨b1, 0, none⟩ (.int .i64 x1.At), .loaded ⟨b1, 1, none⟩ (.int .i64 x1.Len), .loaded ⟨b1, 0, none⟩ (.int .i64 x1.At), .loaded ⟨b1, 1, none⟩ (.int .i64 x1.Len), .loaded ⟨b1, 0, none⟩ (.int .i64 x1.At), .loaded ⟨b1, 1, none⟩ (.int .i64 x1.Len)]) (by kernel_rfl) ⟨hS2.cell 0 rfl rfl, hS2.cell 0 rfl rfl, hS2.cell 0 rfl rfl, hS2.cell 0 rfl rfl, hS2.cell 0 rfl rfl, hS2.cell 0 rfl rfl, trivial⟩ ⟨hS3.cell 1 rfl rfl, hS3.cell 1 rfl rfl, hS3.cell 1 rfl rfl, hS3.cell 1 rfl rfl, hS3.cell 1 rfl rfl, hS3.cell 1 rfl rfl, trivial⟩) ?_ a hF
        refine go_alt2 (fun KK hKK => ?_) ?_
        · by_cases hc3 : (List.replicate 0 (⟨0, 0⟩ : SWindow)).length + l0.length ≤ 8796093022208
          · rw [if_pos hc3] at h
            refine ge_appendL (α := SWindow) (m := 0) (d := 11) (t := 22) (el := 27) (bytes := 16) (c1 := c0) (A1 := A0) (x := (.tmp 9)) (y := (.tmp 10)) (ty := 22) (v := v1) (z := .agg #[.int .i64 0, .int .i64 0]) (l := (List.replicate 0 (⟨0, 0⟩ : SWindow))) (us := l0) (by kernel_rfl) (by kernel_rfl) (by kernel_rfl) (by kernel_rfl) (by kernel_rfl) rfl hS3 (hS3.rd hR0) rfl (Nat.mul_le_of_le_div _ _ _ hc3) fun v2 w3 hS4 => ?_
            have hS5 : St w0 w3 [Own.of v2 27 ((List.replicate 0 (⟨0, 0⟩ : SWindow)) ++ l0), Own.blk b1 (.cells #[.int .i64 x1.At, .int .i64 x1.Len] 27 (0, 0))] := hS4
            refine ge_nil fun a hF => hKK _ _ (RS.of2 (l := [.loaded ⟨b1, 0, none⟩ (.int .i64 x1.At), .loaded ⟨b1, 1, none⟩ (.int .i64 x1.Len), .loaded ⟨b1, 0, none⟩ (.int .i64 x1.At), .loaded ⟨b1, 1, none⟩ (.int .i64 x1.Len), .loaded ⟨b1, 0, none⟩ (.int .i64 x1.At), .loaded ⟨b1, 1, none⟩ (.int .i64 x1.Len)]) (by kernel_rfl) ⟨hS3.cell 1 rfl rfl, hS3.cell 1 rfl rfl, hS3.cell 1 rfl rfl, hS3.cell 1 rfl rfl, hS3.cell 1 rfl rfl, hS3.cell 1 rfl rfl, trivial⟩ ⟨hS5.cell 1 rfl rfl, hS5.cell 1 rfl rfl, hS5.cell 1 rfl rfl, hS5.cell 1 rfl rfl, hS5.cell 1 rfl rfl, hS5.cell 1 rfl rfl, trivial⟩) ?_ a hF
            refine go_alt2 (fun KK hKK => ?_) ?_
            · refine ge_one2 ?_
              refine ge_new (d := some 15) (o := .cells #[.int .i64 x1.At, .int .i64 x1.Len, .int .i64 x1.At, .int .i64 x1.Len, .int .i64 x1.At, .int .i64 x1.Len] 27) (v := fun b => .slice (some ⟨b, 0, none⟩) 3 3) hS5 (fun b => by kernel_rfl) fun b2 w4 hx2 hS6 => ?_
              refine ge_nil fun a hF => hKK _ _ (RS.of2 (l := []) (by kernel_rfl) trivial trivial) ?_ a hF
              refine go_alt2 (fun KK hKK => ?_) ?_
              · have hS7 := hS6.bring 1 rfl
                by_cases hc4 : ((List.replicate 0 (⟨0, 0⟩ : SWindow)) ++ l0).length + 3 ≤ 8796093022208
                · rw [if_pos hc4] at h
                  refine ge_appendL (α := SWindow) (m := 0) (d := 16) (t := 22) (el := 27) (bytes := 16) (c1 := 3) (A1 := (some ⟨b2, 0, none⟩)) (x := (.tmp 11)) (y := (.tmp 15)) (ty := 22) (v := v2) (z := .agg #[.int .i64 0, .int .i64 0]) (l := ((List.replicate 0 (⟨0, 0⟩ : SWindow)) ++ l0)) (us := ([x1, x1, x1] : List SWindow)) (by kernel_rfl) (by kernel_rfl) (by kernel_rfl) (by kernel_rfl) (by kernel_rfl) rfl hS7 (hS7.rdBlk 1 ([x1, x1, x1] : List SWindow) rfl rfl rfl) rfl (Nat.mul_le_of_le_div _ _ _ hc4) fun v3 w5 hS8 => ?_
                  have hS9 : St w0 w5 [Own.of v3 27 (((List.replicate 0 (⟨0, 0⟩ : SWindow)) ++ l0) ++ ([x1, x1, x1] : List SWindow)), Own.blk b2 (.cells #[.int .i64 x1.At, .int .i64 x1.Len, .int .i64 x1.At, .int .i64 x1.Len, .int .i64 x1.At, .int .i64 x1.Len] 27 (0, 0)), Own.blk b1 (.cells #[.int .i64 x1.At, .int .i64 x1.Len] 27 (0, 0))] := hS8
                  refine ge_nil fun a hF => hKK _ _ (RS.of2 (l := [.loaded ⟨b1, 0, none⟩ (.int .i64 x1.At), .loaded ⟨b1, 1, none⟩ (.int .i64 x1.Len), .loaded ⟨b1, 0, none⟩ (.int .i64 x1.At), .loaded ⟨b1, 1, none⟩ (.int .i64 x1.Len), .loaded ⟨b1, 0, none⟩ (.int .i64 x1.At), .loaded ⟨b1, 1, none⟩ (.int .i64 x1.Len)]) (by kernel_rfl) ⟨hS6.cell 2 rfl rfl, hS6.cell 2 rfl rfl, hS6.cell 2 rfl rfl, hS6.cell 2 rfl rfl, hS6.cell 2 rfl rfl, hS6.cell 2 rfl rfl, trivial⟩ ⟨hS9.cell 2 rfl rfl, hS9.cell 2 rfl rfl, hS9.cell 2 rfl rfl, hS9.cell 2 rfl rfl, hS9.cell 2 rfl rfl, hS9.cell 2 rfl rfl, trivial⟩) ?_ a hF
                  refine go2_batch [11] (ans := []) (vs := [(5, v3)]) (l := []) (by kernel_rfl) trivial mem_nil ?_
                  refine go_fin2 fun a hF => hK2 _ _ ?_ a hF
                  refine we_seq fun K3 hK3 => ?_
                  refine we_region [(0, 0), (1, 0), (2, 0), (3, 0), (4, 0)] rfl ?_
                  refine ge_batch [0, 1, 2] (ans := []) (vs := [(19, .int .i64 (l0.length : Int)), (18, .slice A0 l0.length c0), (17, v3)]) (l := []) (by kernel_rfl) trivial ?_
                  obtain ⟨Z1, cz1, rfl, hcp1⟩ := hS9.open2 0 rfl
                  refine ge_sliceHi (d := 20) (ty := 22) (t := 22) (el := 27) (sz := 2) (m := ((((List.replicate 0 (⟨0, 0⟩ : SWindow)) ++ l0) ++ ([x1, x1, x1] : List SWindow)).length)) (c := cz1) (hn := l0.length) (x := (.tmp 17)) (y := (.tmp 19)) (A := Z1) (k' := .i64) (hi := (l0.length : Int)) (by kernel_rfl) (by kernel_rfl) (by kernel_rfl) rfl (by kernel_rfl) (by kernel_rfl) (by have h0 := hcp1; simp only [List.length_append, List.length_cons, List.length_nil] at h0; omega) ?_
                  refine ge_batch [4] (ans := []) (vs := [(4, .slice Z1 l0.length cz1)]) (l := []) (by kernel_rfl) trivial ?_
                  refine ge_nil fun a hF => hK3 _ _ ?_ a hF
                  have hS10 := hS9.takeN 1
                  obtain rfl := Option.some.inj h
                  exact we_ret (post_ret (rs := [.tmp 4]) (ans := []) (vs := [.slice Z1 l0.length cz1]) (l := []) rfl (by kernel_rfl) trivial ⟨Z1, cz1, rfl, hcp1, hS10⟩)
                · rw [if_neg hc4] at h
                  cases h
              exact go_nomore2
            exact go_nomore2
          · rw [if_neg hc3] at h
            cases h
        refine go_alt2 (fun KK hKK => ?_) ?_
        · refine ge_one2 ?_
          refine ge_new (d := some 15) (o := .cells #[.int .i64 x1.At, .int .i64 x1.Len, .int .i64 x1.At, .int .i64 x1.Len, .int .i64 x1.At, .int .i64 x1.Len] 27) (v := fun b => .slice (some ⟨b, 0, none⟩) 3 3) hS3 (fun b => by kernel_rfl) fun b2 w3 hx2 hS4 => ?_
          refine ge_nil fun a hF => hKK _ _ (RS.of2 (l := []) (by kernel_rfl) trivial trivial) ?_ a hF
          refine go_alt2 (fun KK hKK => ?_) ?_
          · have hS5 := hS4.bring 1 rfl
            by_cases hc3 : (List.replicate 0 (⟨0, 0⟩ : SWindow)).length + l0.length ≤ 8796093022208
            · rw [if_pos hc3] at h
              refine ge_appendL (α := SWindow) (m := 0) (d := 11) (t := 22) (el := 27) (bytes := 16) (c1 := c0) (A1 := A0) (x := (.tmp 9)) (y := (.tmp 10)) (ty := 22) (v := v1) (z := .agg #[.int .i64 0, .int .i64 0]) (l := (List.replicate 0 (⟨0, 0⟩ : SWindow))) (us := l0) (by kernel_rfl) (by kernel_rfl) (by kernel_rfl) (by kernel_rfl) (by kernel_rfl) rfl hS5 (hS5.rd hR0) rfl (Nat.mul_le_of_le_div _ _ _ hc3) fun v2 w4 hS6 => ?_
              have hS7 : St w0 w4 [Own.of v2 27 ((List.replicate 0 (⟨0, 0⟩ : SWindow)) ++ l0), Own.blk b2 (.cells #[.int .i64 x1.At, .int .i64 x1.Len, .int .i64 x1.At, .int .i64 x1.Len, .int .i64 x1.At, .int .i64 x1.Len] 27 (0, 0)), Own.blk b1 (.cells #[.int .i64 x1.At, .int .i64 x1.Len] 27 (0, 0))] := hS6
              refine ge_nil fun a hF => hKK _ _ (RS.of2 (l := [.loaded ⟨b1, 0, none⟩ (.int .i64 x1.At), .loaded ⟨b1, 1, none⟩ (.int .i64 x1.Len), .loaded ⟨b1, 0, none⟩ (.int .i64 x1.At), .loaded ⟨b1, 1, none⟩ (.int .i64 x1.Len), .loaded ⟨b1, 0, none⟩ (.int .i64 x1.At), .loaded ⟨b1, 1, none⟩ (.int .i64 x1.Len)]) (by kernel_rfl) ⟨hS4.cell 2 rfl rfl, hS4.cell 2 rfl rfl, hS4.cell 2 rfl rfl, hS4.cell 2 rfl rfl, hS4.cell 2 rfl rfl, hS4.cell 2 rfl rfl, trivial⟩ ⟨hS7.cell 2 rfl rfl, hS7.cell 2 rfl rfl, hS7.cell 2 rfl rfl, hS7.cell 2 rfl rfl, hS7.cell 2 rfl rfl, hS7.cell 2 rfl rfl, trivial⟩) ?_ a hF
              refine go_alt2 (fun KK hKK => ?_) ?_
              · by_cases hc4 : ((List.replicate 0 (⟨0, 0⟩ : SWindow)) ++ l0).length + 3 ≤ 8796093022208
                · rw [if_pos hc4] at h
                  refine ge_appendL (α := SWindow) (m := 0) (d := 16) (t := 22) (el := 27) (bytes := 16) (c1 := 3) (A1 := (some ⟨b2, 0, none⟩)) (x := (.tmp 11)) (y := (.tmp 15)) (ty := 22) (v := v2) (z := .agg #[.int .i64 0, .int .i64 0]) (l := ((List.replicate 0 (⟨0, 0⟩ : SWindow)) ++ l0)) (us := ([x1, x1, x1] : List SWindow)) (by kernel_rfl) (by kernel_rfl) (by kernel_rfl) (by kernel_rfl) (by kernel_rfl) rfl hS7 (hS7.rdBlk 1 ([x1, x1, x1] : List SWindow) rfl rfl rfl) rfl (Nat.mul_le_of_le_div _ _ _ hc4) fun v3 w5 hS8 => ?_
                  have hS9 : St w0 w5 [Own.of v3 27 (((List.replicate 0 (⟨0, 0⟩ : SWindow)) ++ l0) ++ ([x1, x1, x1] : List SWindow)), Own.blk b2 (.cells #[.int .i64 x1.At, .int .i64 x1.Len, .int .i64 x1.At, .int .i64 x1.Len, .int .i64 x1.At, .int .i64 x1.Len] 27 (0, 0)), Own.blk b1 (.cells #[.int .i64 x1.At, .int .i64 x1.Len] 27 (0, 0))] := hS8
                  refine ge_nil fun a hF => hKK _ _ (RS.of2 (l := [.loaded ⟨b1, 0, none⟩ (.int .i64 x1.At), .loaded ⟨b1, 1, none⟩ (.int .i64 x1.Len), .loaded ⟨b1, 0, none⟩ (.int .i64 x1.At), .loaded ⟨b1, 1, none⟩ (.int .i64 x1.Len), .loaded ⟨b1, 0, none⟩ (.int .i64 x1.At), .loaded ⟨b1, 1, none⟩ (.int .i64 x1.Len)]) (by kernel_rfl) ⟨hS7.cell 2 rfl rfl, hS7.cell 2 rfl rfl, hS7.cell 2 rfl rfl, hS7.cell 2 rfl rfl, hS7.cell 2 rfl rfl, hS7.cell 2 rfl rfl, trivial⟩ ⟨hS9.cell 2 rfl rfl, hS9.cell 2 rfl rfl, hS9.cell 2 rfl rfl, hS9.cell 2 rfl rfl, hS9.cell 2 rfl rfl, hS9.cell 2 rfl rfl, trivial⟩) ?_ a hF
                  refine go2_batch [11] (ans := []) (vs := [(5, v3)]) (l := []) (by kernel_rfl) trivial mem_nil ?_
                  refine go_fin2 fun a hF => hK2 _ _ ?_ a hF
                  refine we_seq fun K3 hK3 => ?_
                  refine we_region [(0, 0), (1, 0), (2, 0), (3, 0), (4, 0)] rfl ?_
                  refine ge_batch [0, 1, 2] (ans := []) (vs := [(19, .int .i64 (l0.length : Int)), (18, .slice A0 l0.length c0), (17, v3)]) (l := []) (by kernel_rfl) trivial ?_
                  obtain ⟨Z1, cz1, rfl, hcp1⟩ := hS9.open2 0 rfl
                  refine ge_sliceHi (d := 20) (ty := 22) (t := 22) (el := 27) (sz := 2) (m := ((((List.replicate 0 (⟨0, 0⟩ : SWindow)) ++ l0) ++ ([x1, x1, x1] : List SWindow)).length)) (c := cz1) (hn := l0.length) (x := (.tmp 17)) (y := (.tmp 19)) (A := Z1) (k' := .i64) (hi := (l0.length : Int)) (by kernel_rfl) (by kernel_rfl) (by kernel_rfl) rfl (by kernel_rfl) (by kernel_rfl) (by have h0 := hcp1; simp only [List.length_append, List.length_cons, List.length_nil] at h0; omega) ?_
                  refine ge_batch [4] (ans := []) (vs := [(4, .slice Z1 l0.length cz1)]) (l := []) (by kernel_rfl) trivial ?_
                  refine ge_nil fun a hF => hK3 _ _ ?_ a hF
                  have hS10 := hS9.takeN 1
                  obtain rfl := Option.some.inj h
                  exact we_ret (post_ret (rs := [.tmp 4]) (ans := []) (vs := [.slice Z1 l0.length cz1]) (l := []) rfl (by kernel_rfl) trivial ⟨Z1, cz1, rfl, hcp1, hS10⟩)
                · rw [if_neg hc4] at h
                  cases h
              exact go_nomore2
            · rw [if_neg hc3] at h
              cases h
          exact go_nomore2
        exact go_nomore2
      refine go_alt2 (fun KK hKK => ?_) ?_
      · refine ge_one2 ?_
        refine ge_new (d := some 15) (o := .cells #[.int .i64 x1.At, .int .i64 x1.Len, .int .i64 x1.At, .int .i64 x1.Len, .int .i64 x1.At, .int .i64 x1.Len] 27) (v := fun b => .slice (some ⟨b, 0, none⟩) 3 3) hS2 (fun b => by kernel_rfl) fun b2 w2 hx2 hS3 => ?_
        refine ge_nil fun a hF => hKK _ _ (RS.of2 (l := []) (by kernel_rfl) trivial trivial) ?_ a hF
        refine go_alt2 (fun KK hKK => ?_) ?_
        · refine ge_one2 ?_
          refine ge_make (α := SWindow) (d := 9) (t := 22) (el := 27) (bytes := 16) (l := 0) (c := ((IntKind.i64.wrap ((l0.length : Int) + 3)).toNat)) (x := (.const (.int .i64 0))) (y := (.tmp 8)) (ty := 22) (k1 := .i64) (k2 := .i64) (li := 0) (ci := (IntKind.i64.wrap ((l0.length : Int) + 3))) (z := .agg #[.int .i64 0, .int .i64 0]) (z' := (⟨0, 0⟩ : SWindow)) (by kernel_rfl) (by kernel_rfl) (by kernel_rfl) rfl (Int.toNat_of_nonneg hc1).symm (by kernel_rfl) (by kernel_rfl) rfl hS3 (Nat.zero_le _) rfl (by omega) fun v1 w3 _ hS4 => ?_
          refine ge_nil fun a hF => hKK _ _ (RS.of2 (l := [.loaded ⟨b1, 0, none⟩ (.int .i64 x1.At), .loaded ⟨b1, 1, none⟩ (.int .i64 x1.Len), .loaded ⟨b1, 0, none⟩ (.int .i64 x1.At), .loaded ⟨b1, 1, none⟩ (.int .i64 x1.Len), .loaded ⟨b1, 0, none⟩ (.int .i64 x1.At), .loaded ⟨b1, 1, none⟩ (.int .i64 x1.Len)]) (by kernel_rfl) ⟨hS3.cell 1 rfl rfl, hS3.cell 1 rfl rfl, hS3.cell 1 rfl rfl, hS3.cell 1 rfl rfl, hS3.cell 1 rfl rfl, hS3.cell 1 rfl rfl, trivial⟩ ⟨hS4.cell 2 rfl rfl, hS4.cell 2 rfl rfl, hS4.cell 2 rfl rfl, hS4.cell 2 rfl rfl, hS4.cell 2 rfl rfl, hS4.cell 2 rfl rfl, trivial⟩) ?_ a hF
          refine go_alt2 (fun KK hKK => ?_) ?_
          · by_cases hc3 : (List.replicate 0 (⟨0, 0⟩ : SWindow)).length + l0.length ≤ 8796093022208
            · rw [if_pos hc3] at h
              refine ge_appendL (α := SWindow) (m := 0) (d := 11) (t := 22) (el := 27) (bytes := 16) (c1 := c0) (A1 := A0) (x := (.tmp 9)) (y := (.tmp 10)) (ty := 22) (v := v1) (z := .agg #[.int .i64 0, .int .i64 0]) (l := (List.replicate 0 (⟨0, 0⟩ : SWindow))) (us := l0) (by kernel_rfl) (by kernel_rfl) (by kernel_rfl) (by kernel_rfl) (by kernel_rfl) rfl hS4 (hS4.rd hR0) rfl (Nat.mul_le_of_le_div _ _ _ hc3) fun v2 w4 hS5 => ?_
              have hS6 : St w0 w4 [Own.of v2 27 ((List.replicate 0 (⟨0, 0⟩ : SWindow)) ++ l0), Own.blk b2 (.cells #[.int .i64 x1.At, .int .i64 x1.Len, .int .i64 x1.At, .int .i64 x1.Len, .int .i64 x1.At, .int .i64 x1.Len] 27 (0, 0)), Own.blk b1 (.cells #[.int .i64 x1.At, .int .i64 x1.Len] 27 (0, 0))] := hS5
              refine ge_nil fun a hF => hKK _ _ (RS.of2 (l := [.loaded ⟨b1, 0, none⟩ (.int .i64 x1.At), .loaded ⟨b1, 1, none⟩ (.int .i64 x1.Len), .loaded ⟨b1, 0, none⟩ (.int .i64 x1.At), .loaded ⟨b1, 1, none⟩ (.int .i64 x1.Len), .loaded ⟨b1, 0, none⟩ (.int .i64 x1.At), .loaded ⟨b1, 1, none⟩ (.int .i64 x1.Len)]) (by kernel_rfl) ⟨hS4.cell 2 rfl rfl, hS4.cell 2 rfl rfl, hS4.cell 2 rfl rfl, hS4.cell 2 rfl rfl, hS4.cell 2 rfl rfl, hS4.cell 2 rfl rfl, trivial⟩ ⟨hS6.cell 2 rfl rfl, hS6.cell 2 rfl rfl, hS6.cell 2 rfl rfl, hS6.cell 2 rfl rfl, hS6.cell 2 rfl rfl, hS6.cell 2 rfl rfl, trivial⟩) ?_ a hF
              refine go_alt2 (fun KK hKK => ?_) ?_
              · by_cases hc4 : ((List.replicate 0 (⟨0, 0⟩ : SWindow)) ++ l0).length + 3 ≤ 8796093022208
                · rw [if_pos hc4] at h
                  refine ge_appendL (α := SWindow) (m := 0) (d := 16) (t := 22) (el := 27) (bytes := 16) (c1 := 3) (A1 := (some ⟨b2, 0, none⟩)) (x := (.tmp 11)) (y := (.tmp 15)) (ty := 22) (v := v2) (z := .agg #[.int .i64 0, .int .i64 0]) (l := ((List.replicate 0 (⟨0, 0⟩ : SWindow)) ++ l0)) (us := ([x1, x1, x1] : List SWindow)) (by kernel_rfl) (by kernel_rfl) (by kernel_rfl) (by kernel_rfl) (by kernel_rfl) rfl hS6 (hS6.rdBlk 1 ([x1, x1, x1] : List SWindow) rfl rfl rfl) rfl (Nat.mul_le_of_le_div _ _ _ hc4) fun v3 w5 hS7 => ?_
                  have hS8 : St w0 w5 [Own.of v3 27 (((List.replicate 0 (⟨0, 0⟩ : SWindow)) ++ l0) ++ ([x1, x1, x1] : List SWindow)), Own.blk b2 (.cells #[.int .i64 x1.At, .int .i64 x1.Len, .int .i64 x1.At, .int .i64 x1.Len, .int .i64 x1.At, .int .i64 x1.Len] 27 (0, 0)), Own.blk b1 (.cells #[.int .i64 x1.At, .int .i64 x1.Len] 27 (0, 0))] := hS7
                  refine ge_nil fun a hF => hKK _ _ (RS.of2 (l := [.loaded ⟨b1, 0, none⟩ (.int .i64 x1.At), .loaded ⟨b1, 1, none⟩ (.int .i64 x1.Len), .loaded ⟨b1, 0, none⟩ (.int .i64 x1.At), .loaded ⟨b1, 1, none⟩ (.int .i64 x1.Len), .loaded ⟨b1, 0, none⟩ (.int .i64 x1.At), .loaded ⟨b1, 1, none⟩ (.int .i64 x1.Len)]) (by kernel_rfl) ⟨hS6.cell 2 rfl rfl, hS6.cell 2 rfl rfl, hS6.cell 2 rfl rfl, hS6.cell 2 rfl rfl, hS6.cell 2 rfl rfl, hS6.cell 2 rfl rfl, trivial⟩ ⟨hS8.cell 2 rfl rfl, hS8.cell 2 rfl rfl, hS8.cell 2 rfl rfl, hS8.cell 2 rfl rfl, hS8.cell 2 rfl rfl, hS8.cell 2 rfl rfl, trivial⟩) ?_ a hF
                  refine go2_batch [11] (ans := []) (vs := [(5, v3)]) (l := []) (by kernel_rfl) trivial mem_nil ?_
                  refine go_fin2 fun a hF => hK2 _ _ ?_ a hF
                  refine we_seq fun K3 hK3 => ?_
                  refine we_region [(0, 0), (1, 0), (2, 0), (3, 0), (4, 0)] rfl ?_
                  refine ge_batch [0, 1, 2] (ans := []) (vs := [(19, .int .i64 (l0.length : Int)), (18, .slice A0 l0.length c0), (17, v3)]) (l := []) (by kernel_rfl) trivial ?_
                  obtain ⟨Z1, cz1, rfl, hcp1⟩ := hS8.open2 0 rfl
                  refine ge_sliceHi (d := 20) (ty := 22) (t := 22) (el := 27) (sz := 2) (m := ((((List.replicate 0 (⟨0, 0⟩ : SWindow)) ++ l0) ++ ([x1, x1, x1] : List SWindow)).length)) (c := cz1) (hn := l0.length) (x := (.tmp 17)) (y := (.tmp 19)) (A := Z1) (k' := .i64) (hi := (l0.length : Int)) (by kernel_rfl) (by kernel_rfl) (by kernel_rfl) rfl (by kernel_rfl) (by kernel_rfl) (by have h0 := hcp1; simp only [List.length_append, List.length_cons, List.length_nil] at h0; omega) ?_
                  refine ge_batch [4] (ans := []) (vs := [(4, .slice Z1 l0.length cz1)]) (l := []) (by kernel_rfl) trivial ?_
                  refine ge_nil fun a hF => hK3 _ _ ?_ a hF
                  have hS9 := hS8.takeN 1
                  obtain rfl := Option.some.inj h
                  exact we_ret (post_ret (rs := [.tmp 4]) (ans := []) (vs := [.slice Z1 l0.length cz1]) (l := []) rfl (by kernel_rfl) trivial ⟨Z1, cz1, rfl, hcp1, hS9⟩)
                · rw [if_neg hc4] at h
                  cases h
              exact go_nomore2
            · rw [if_neg hc3] at h
              cases h
          exact go_nomore2
        exact go_nomore2
      exact go_nomore2
    · rw [if_neg hc2] at h
      cases h
  · rw [if_neg hc1] at h
    cases h
theorem punctualsame_Lend_api_Window_full (l0 : List SWindow) (x1 : SWindow) {r : List SWindow} (h : punctualsame_Lend_api_Window.f l0 x1 = some r) : r = l0 ++ [x1, x1, x1] := by
  unfold punctualsame_Lend_api_Window.f at h
  repeat' split at h
  all_goals first | (exact (Option.some.inj h).symm) | cases h

/-! punctual/punctualref.F -/
abbrev punctualref_F.Post (w0 : World) (r : SFault) (e : Ending) (w : World) : Prop := e = .returned (.agg #[.int .i64 r.Code, .int .i64 r.At]) ∧ St w0 w []
def punctualref_F.f (x0 : Int) (x1 : Int) : SFault :=
  (⟨x0, x1⟩ : SFault)
theorem punctualref_F_ok (x0 : Int) (x1 : Int) (w0 : World) (r : SFault) (h : punctualref_F.f x0 x1 = r) :
    Calls Tryd.prog 17 #[.int .i64 x0, .int .i64 x1] w0 (punctualref_F.Post w0 r) := by
  have hS := St.start w0
  unfold punctualref_F.f at h
  refine calls_enter (n := 8) (args := [.int .i64 x0, .int .i64 x1]) (fn := Tryd.f17) rfl rfl rfl rfl ?_
  show WE _ _ _ _ [(0, .int .i64 x0), (1, .int .i64 x1)] _
  refine we_seq fun K1 hK1 => ?_
  refine we_region [(0, 1)] rfl ?_
  refine ge_new (d := some 4) (o := .cells #[.int .i64 0, .int .i64 0] 30) (v := fun b => .pointer (some ⟨b, 0, none⟩)) hS (fun b => by kernel_rfl) fun b1 w1 hx1 hS1 => ?_
  refine ge_nil fun a hF => hK1 _ _ ?_ a hF
  refine we_seq fun K2 hK2 => ?_
  refine we_region [(0, 0), (1, 0), (2, 0), (3, 2)] rfl ?_
  refine ge_batch [0, 1, 2] (ans := []) (vs := [(7, .agg #[.int .i64 x0, .int .i64 x1]), (6, .int .i64 x1), (5, .int .i64 x0)]) (l := []) (by kernel_rfl) trivial ?_
  refine ge_set (b := b1) (j := 0) (cs := #[.int .i64 0, .int .i64 0]) (t := 30) (vs := [.int .i64 x0, .int .i64 x1]) hS1 (by kernel_rfl) rfl rfl fun w2 hS2 => ?_
  have hS3 : St w0 w2 [Own.blk b1 (.cells #[.int .i64 x0, .int .i64 x1] 30 (0, 0))] := hS2
  refine ge_nil fun a hF => hK2 _ _ ?_ a hF
  have hS4 := hS3.takeN 0
  subst h
  exact we_ret (post_ret (rs := [.cell 4 30]) (ans := [.val (.int .i64 x0), .val (.int .i64 x1)]) (vs := [.agg #[.int .i64 x0, .int .i64 x1]]) (l := [.loaded ⟨b1, 0, none⟩ (.int .i64 x0), .loaded ⟨b1, 1, none⟩ (.int .i64 x1)]) rfl (by kernel_rfl) ⟨hS3.cell 0 rfl rfl, hS3.cell 0 rfl rfl, trivial⟩ ⟨rfl, hS4⟩)

/-! punctual/punctualref.CheckFrame -/
abbrev punctualref_CheckFrame.Post (w0 : World) (r : SFault) (e : Ending) (w : World) : Prop := e = .returned (.agg #[.int .i64 r.Code, .int .i64 r.At]) ∧ St w0 w []
def punctualref_CheckFrame.p0 (x0 : Int) : Option (Unit ⊕ SFault) :=
    if x0 < 1 then
      some (.inr (punctualref_F.f 3 0))
    else
      if x0 > 10000 then
        some (.inr (punctualref_F.f 3 0))
      else
        some (.inl ())
def punctualref_CheckFrame.p2 (x0 : Int) (i1 : Nat) (e1 : SWindow) : Option (Unit ⊕ SFault) :=
    if e1.At < 0 then
      some (.inr (punctualref_F.f 3 (i1 : Int)))
    else
      if e1.At > x0 then
        some (.inr (punctualref_F.f 3 (i1 : Int)))
      else
        if e1.Len < 1 then
          some (.inr (punctualref_F.f 3 (i1 : Int)))
        else
          if e1.Len > x0 then
            some (.inr (punctualref_F.f 3 (i1 : Int)))
          else
            if (IntKind.i64.wrap (e1.At + e1.Len)) > x0 then
              some (.inr (punctualref_F.f 3 (i1 : Int)))
            else
              some (.inl ())
def punctualref_CheckFrame.r1 (x0 : Int) (l1 : List SWindow) : Nat → Option (Nat ⊕ (Unit ⊕ SFault))
  | i1 =>
    if (i1 : Int) < (l1.length : Int) then
      match l1[i1]? with
      | none => none
      | some e1 =>
        match punctualref_CheckFrame.p2 x0 i1 e1 with
        | none => none
        | some (.inl _) =>
          if (i1 : Int) > 0 then
            if 0 ≤ (IntKind.i64.wrap ((i1 : Int) - 1)) then
              match l1[(IntKind.i64.wrap ((i1 : Int) - 1)).toNat]? with
              | none => none
              | some e2 =>
                if e1.At < (IntKind.i64.wrap (e2.At + e2.Len)) then
                  some (.inr (.inr (punctualref_F.f 12 (i1 : Int))))
                else
                  some (.inl (i1 + 1))
            else
              none
          else
            some (.inl (i1 + 1))
        | some (.inr rr1) =>
          some (.inr (.inr rr1))
    else
      some (.inr (.inl ()))
def punctualref_CheckFrame.f (K : Nat) (x0 : Int) (l1 : List SWindow) : Option SFault :=
  match punctualref_CheckFrame.p0 x0 with
  | none => none
  | some (.inl _) =>
    if (l1.length : Int) > 20 then
      some (punctualref_F.f 2 0)
    else
      match iter (punctualref_CheckFrame.r1 x0 l1) K 0 with
      | none => none
      | some (.inl _) =>
        some (⟨0, 0⟩ : SFault)
      | some (.inr rr2) =>
        some rr2
  | some (.inr rr3) =>
    some rr3
abbrev punctualref_CheckFrame.A0 (K : Nat) (w0 : World) (x0 : Int) (l1 : List SWindow) (A1 : Option Addr) (c1 : Nat) (hR1 : RdL w0 A1 l1) (hL1 : l1.length ≤ c1) (b1 : Nat) : Unit → Act → World → Prop := fun (s : Unit) a w => St w0 w [Own.blk b1 (.cells #[.int .i64 0, .int .i64 0] 30 (0, 0))] ∧ Frm 80 a [(0, .int .i64 x0), (1, .slice A1 l1.length c1), (4, .pointer (some ⟨b1, 0, none⟩))]
abbrev punctualref_CheckFrame.B0 (K : Nat) (w0 : World) (x0 : Int) (l1 : List SWindow) (A1 : Option Addr) (c1 : Nat) (hR1 : RdL w0 A1 l1) (hL1 : l1.length ≤ c1) (b1 : Nat) : SFault → Exit → Act → World → Prop := Rets Tryd.prog Tryd.f11 (punctualref_CheckFrame.Post w0)
theorem punctualref_CheckFrame_p0 (K : Nat) (w0 : World) (x0 : Int) (l1 : List SWindow) (A1 : Option Addr) (c1 : Nat) (hR1 : RdL w0 A1 l1) (hL1 : l1.length ≤ c1) (b1 : Nat) (o : Unit ⊕ SFault) (h : punctualref_CheckFrame.p0 x0 = some o) (w : World) (hS : St w0 w [Own.blk b1 (.cells #[.int .i64 0, .int .i64 0] 30 (0, 0))]) (Q : Exit → Act → World → Prop) (hQ : ∀ x a w, Outs (punctualref_CheckFrame.A0 K w0 x0 l1 A1 c1 hR1 hL1 b1) (punctualref_CheckFrame.B0 K w0 x0 l1 A1 c1 hR1 hL1 b1) o x a w → Q x a w) : WE Tryd.prog 80 (subF Tryd.f11 [1, 0]) Q [(0, .int .i64 x0), (1, .slice A1 l1.length c1), (4, .pointer (some ⟨b1, 0, none⟩))] w := by
  simp only [punctualref_CheckFrame.p0] at h
  refine we_seq fun K3 hK3 => ?_
  refine we_region [(0, 0), (1, 0), (2, 0), (3, 0), (4, 0), (5, 0)] rfl ?_
  refine ge_batch [0, 1, 2] (ans := []) (vs := [(9, .bool (decide (x0 < 1))), (8, .bool (decide (x0 < 1))), (7, .int .i64 x0)]) (l := []) (by kernel_rfl) trivial ?_
  by_cases hc1 : x0 < 1
  · rw [if_pos hc1] at h
    refine ge_known (t := 9) (b := decide (x0 < 1)) (c := true) (by kernel_rfl) (decide_eq_true hc1) ?_
    refine ge_batch [3, 4, 5] (ans := []) (vs := [(12, .bool true), (11, undef), (10, undef)]) (l := []) (by kernel_rfl) trivial ?_
    refine ge_nil fun a hF => hK3 _ _ ?_ a hF
    refine we_true (by kernel_rfl) ?_
    refine we_seq fun K4 hK4 => ?_
    refine we_region [(0, 1), (1, 2)] rfl ?_
    refine ge_call (d := some 13) (f := 17) (args := #[.int .i64 3, .int .i64 0]) (by kernel_rfl) (punctualref_F_ok 3 0 _ _ rfl) ?_
    rintro _ w2 ⟨rfl, hS2⟩
    refine ⟨_, rfl, hS2.below, ?_⟩
    have hS3 := hS.call hS2
    refine ge_set (b := b1) (j := 0) (cs := #[.int .i64 0, .int .i64 0]) (t := 30) (vs := [.int .i64 ((punctualref_F.f 3 0).Code), .int .i64 ((punctualref_F.f 3 0).At)]) hS3 (by kernel_rfl) rfl rfl fun w3 hS4 => ?_
    have hS5 : St w0 w3 [Own.blk b1 (.cells #[.int .i64 ((punctualref_F.f 3 0).Code), .int .i64 ((punctualref_F.f 3 0).At)] 30 (0, 0))] := hS4
    refine ge_nil fun a hF => hK4 _ _ ?_ a hF
    have hS6 := hS5.takeN 0
    obtain rfl := Option.some.inj h
    exact we_ret fun a hF => hQ _ _ _ (Outs.out nofun ⟨rfl, (post_ret (rs := [.cell 4 30]) (ans := [.val (.int .i64 ((punctualref_F.f 3 0).Code)), .val (.int .i64 ((punctualref_F.f 3 0).At))]) (vs := [.agg #[.int .i64 ((punctualref_F.f 3 0).Code), .int .i64 ((punctualref_F.f 3 0).At)]]) (l := [.loaded ⟨b1, 0, none⟩ (.int .i64 ((punctualref_F.f 3 0).Code)), .loaded ⟨b1, 1, none⟩ (.int .i64 ((punctualref_F.f 3 0).At))]) rfl (by kernel_rfl) ⟨hS5.cell 0 rfl rfl, hS5.cell 0 rfl rfl, trivial⟩ ⟨rfl, hS6⟩) a hF⟩)
  · rw [if_neg hc1] at h
    refine ge_known (t := 9) (b := decide (x0 < 1)) (c := false) (by kernel_rfl) (decide_eq_false hc1) ?_
    refine ge_batch [3, 4, 5] (ans := []) (vs := [(12, .bool (decide (x0 > 10000))), (11, .bool (decide (x0 > 10000))), (10, .int .i64 x0)]) (l := []) (by kernel_rfl) trivial ?_
    refine ge_nil fun a hF => hK3 _ _ ?_ a hF
    by_cases hc2 : x0 > 10000
    · rw [if_pos hc2] at h
      refine we_known (t := 12) (b := decide (x0 > 10000)) (v := true) (by kernel_rfl) (decide_eq_true hc2) ?_
      refine we_true (by kernel_rfl) ?_
      refine we_seq fun K5 hK5 => ?_
      refine we_region [(0, 1), (1, 2)] rfl ?_
      refine ge_call (d := some 13) (f := 17) (args := #[.int .i64 3, .int .i64 0]) (by kernel_rfl) (punctualref_F_ok 3 0 _ _ rfl) ?_
      rintro _ w4 ⟨rfl, hS7⟩
      refine ⟨_, rfl, hS7.below, ?_⟩
      have hS8 := hS.call hS7
      refine ge_set (b := b1) (j := 0) (cs := #[.int .i64 0, .int .i64 0]) (t := 30) (vs := [.int .i64 ((punctualref_F.f 3 0).Code), .int .i64 ((punctualref_F.f 3 0).At)]) hS8 (by kernel_rfl) rfl rfl fun w5 hS9 => ?_
      have hS10 : St w0 w5 [Own.blk b1 (.cells #[.int .i64 ((punctualref_F.f 3 0).Code), .int .i64 ((punctualref_F.f 3 0).At)] 30 (0, 0))] := hS9
      refine ge_nil fun a hF => hK5 _ _ ?_ a hF
      have hS11 := hS10.takeN 0
      obtain rfl := Option.some.inj h
      exact we_ret fun a hF => hQ _ _ _ (Outs.out nofun ⟨rfl, (post_ret (rs := [.cell 4 30]) (ans := [.val (.int .i64 ((punctualref_F.f 3 0).Code)), .val (.int .i64 ((punctualref_F.f 3 0).At))]) (vs := [.agg #[.int .i64 ((punctualref_F.f 3 0).Code), .int .i64 ((punctualref_F.f 3 0).At)]]) (l := [.loaded ⟨b1, 0, none⟩ (.int .i64 ((punctualref_F.f 3 0).Code)), .loaded ⟨b1, 1, none⟩ (.int .i64 ((punctualref_F.f 3 0).At))]) rfl (by kernel_rfl) ⟨hS10.cell 0 rfl rfl, hS10.cell 0 rfl rfl, trivial⟩ ⟨rfl, hS11⟩) a hF⟩)
    · rw [if_neg hc2] at h
      refine we_known (t := 12) (b := decide (x0 > 10000)) (v := false) (by kernel_rfl) (decide_eq_false hc2) ?_
      refine we_false (by kernel_rfl) ?_
      obtain rfl := Option.some.inj h
      exact we_skip fun a hF => hQ _ _ _ (Outs.again ⟨hS, hF.weaken ⟨by kernel_rfl, by kernel_rfl, by kernel_rfl, trivial⟩⟩)
abbrev punctualref_CheckFrame.A2 (K : Nat) (w0 : World) (x0 : Int) (l1 : List SWindow) (A1 : Option Addr) (c1 : Nat) (hR1 : RdL w0 A1 l1) (hL1 : l1.length ≤ c1) (b1 : Nat) (hc3 : ¬ ((l1.length : Int) > 20)) (i1 : Nat) (hc4 : (i1 : Int) < (l1.length : Int)) (e1 : SWindow) (hx2 : l1[i1]? = some e1) (b2 : Nat) : Unit → Act → World → Prop := fun (s : Unit) a w => St w0 w [Own.blk b2 (.cells #[.int .i64 e1.At, .int .i64 e1.Len] 27 (0, 0)), Own.blk b1 (.cells #[.int .i64 0, .int .i64 0] 30 (0, 0))] ∧ Frm 80 a [(0, .int .i64 x0), (1, .slice A1 l1.length c1), (4, .pointer (some ⟨b1, 0, none⟩)), (5, .int .i64 (i1 : Int)), (6, .pointer (some ⟨b2, 0, none⟩)), (18, .slice A1 l1.length c1), (19, .int .i64 (l1.length : Int)), (20, .int .i64 (i1 : Int))]
abbrev punctualref_CheckFrame.B2 (K : Nat) (w0 : World) (x0 : Int) (l1 : List SWindow) (A1 : Option Addr) (c1 : Nat) (hR1 : RdL w0 A1 l1) (hL1 : l1.length ≤ c1) (b1 : Nat) (hc3 : ¬ ((l1.length : Int) > 20)) (i1 : Nat) (hc4 : (i1 : Int) < (l1.length : Int)) (e1 : SWindow) (hx2 : l1[i1]? = some e1) (b2 : Nat) : SFault → Exit → Act → World → Prop := Rets Tryd.prog Tryd.f11 (punctualref_CheckFrame.Post w0)
theorem punctualref_CheckFrame_p2 (K : Nat) (w0 : World) (x0 : Int) (l1 : List SWindow) (A1 : Option Addr) (c1 : Nat) (hR1 : RdL w0 A1 l1) (hL1 : l1.length ≤ c1) (b1 : Nat) (hc3 : ¬ ((l1.length : Int) > 20)) (i1 : Nat) (hc4 : (i1 : Int) < (l1.length : Int)) (e1 : SWindow) (hx2 : l1[i1]? = some e1) (b2 : Nat) (o : Unit ⊕ SFault) (h : punctualref_CheckFrame.p2 x0 i1 e1 = some o) (w : World) (hS : St w0 w [Own.blk b2 (.cells #[.int .i64 e1.At, .int .i64 e1.Len] 27 (0, 0)), Own.blk b1 (.cells #[.int .i64 0, .int .i64 0] 30 (0, 0))]) (Q : Exit → Act → World → Prop) (hQ : ∀ x a w, Outs (punctualref_CheckFrame.A2 K w0 x0 l1 A1 c1 hR1 hL1 b1 hc3 i1 hc4 e1 hx2 b2) (punctualref_CheckFrame.B2 K w0 x0 l1 A1 c1 hR1 hL1 b1 hc3 i1 hc4 e1 hx2 b2) o x a w → Q x a w) : WE Tryd.prog 80 (subF Tryd.f11 [1, 1, 1, 0, 1, 0, 0, 1, 1, 0, 0, 1, 0]) Q [(0, .int .i64 x0), (1, .slice A1 l1.length c1), (4, .pointer (some ⟨b1, 0, none⟩)), (5, .int .i64 (i1 : Int)), (6, .pointer (some ⟨b2, 0, none⟩)), (18, .slice A1 l1.length c1), (19, .int .i64 (l1.length : Int)), (20, .int .i64 (i1 : Int)), (21, .bool true), (22, .int .i64 (i1 : Int)), (23, .pointer (some ⟨blkOf A1, offOf A1 + i1 * 2, none⟩)), (24, .agg #[.int .i64 e1.At, .int .i64 e1.Len])] w := by
  simp only [punctualref_CheckFrame.p2] at h
  refine we_seq fun K16 hK16 => ?_
  refine we_region [(0, 0), (1, 0), (2, 0), (3, 0), (4, 0), (5, 0), (6, 0), (7, 0), (8, 0), (9, 0), (10, 0), (11, 0), (12, 0), (13, 0), (14, 0), (15, 0), (16, 0), (17, 0), (18, 0), (19, 0), (20, 0), (21, 0), (22, 0), (23, 0), (24, 0), (25, 0), (26, 0), (27, 0), (28, 0)] rfl ?_
  refine ge_batch [0, 1, 2, 3] (ans := [.val (.int .i64 e1.At)]) (vs := [(28, .bool (decide (e1.At < 0))), (27, .bool (decide (e1.At < 0))), (26, .int .i64 e1.At), (25, .pointer (some ⟨b2, 0, none⟩))]) (l := [.loaded ⟨b2, 0, none⟩ (.int .i64 e1.At)]) (by kernel_rfl) ⟨hS.cell 0 rfl rfl, trivial⟩ ?_
  by_cases hc5 : e1.At < 0
  · rw [if_pos hc5] at h
    refine ge_known (t := 28) (b := decide (e1.At < 0)) (c := true) (by kernel_rfl) (decide_eq_true hc5) ?_
    refine ge_batch [4, 5, 6, 7, 8, 9, 10, 11, 12, 13, 14, 15, 16, 17, 18, 19, 20, 21, 22, 23, 24, 25, 26, 27, 28] (ans := []) (vs := [(53, .bool true), (52, undef), (51, undef), (50, undef), (49, undef), (48, undef), (47, undef), (46, undef), (45, .bool true), (44, .bool true), (43, undef), (42, undef), (41, undef), (40, undef), (39, .bool true), (38, .bool true), (37, undef), (36, undef), (35, undef), (34, .bool true), (33, .bool true), (32, undef), (31, undef), (30, undef), (29, undef)]) (l := []) (by kernel_rfl) trivial ?_
    refine ge_nil fun a hF => hK16 _ _ ?_ a hF
    refine we_true (by kernel_rfl) ?_
    refine we_seq fun K17 hK17 => ?_
    refine we_region [(0, 0), (1, 1), (2, 2)] rfl ?_
    refine ge_batch [0] (ans := []) (vs := [(54, .int .i64 (i1 : Int))]) (l := []) (by kernel_rfl) trivial ?_
    refine ge_call (d := some 55) (f := 17) (args := #[.int .i64 3, .int .i64 (i1 : Int)]) (by kernel_rfl) (punctualref_F_ok 3 (i1 : Int) _ _ rfl) ?_
    rintro _ w11 ⟨rfl, hS21⟩
    refine ⟨_, rfl, hS21.below, ?_⟩
    have hS22 := hS.call hS21
    have hS23 := hS22.bring 1 rfl
    refine ge_set (b := b1) (j := 0) (cs := #[.int .i64 0, .int .i64 0]) (t := 30) (vs := [.int .i64 ((punctualref_F.f 3 (i1 : Int)).Code), .int .i64 ((punctualref_F.f 3 (i1 : Int)).At)]) hS23 (by kernel_rfl) rfl rfl fun w12 hS24 => ?_
    have hS25 : St w0 w12 [Own.blk b1 (.cells #[.int .i64 ((punctualref_F.f 3 (i1 : Int)).Code), .int .i64 ((punctualref_F.f 3 (i1 : Int)).At)] 30 (0, 0)), Own.blk b2 (.cells #[.int .i64 e1.At, .int .i64 e1.Len] 27 (0, 0))] := hS24
    refine ge_nil fun a hF => hK17 _ _ ?_ a hF
    have hS26 := hS25.takeN 0
    obtain rfl := Option.some.inj h
    exact we_ret fun a hF => hQ _ _ _ (Outs.out nofun ⟨rfl, (post_ret (rs := [.cell 4 30]) (ans := [.val (.int .i64 ((punctualref_F.f 3 (i1 : Int)).Code)), .val (.int .i64 ((punctualref_F.f 3 (i1 : Int)).At))]) (vs := [.agg #[.int .i64 ((punctualref_F.f 3 (i1 : Int)).Code), .int .i64 ((punctualref_F.f 3 (i1 : Int)).At)]]) (l := [.loaded ⟨b1, 0, none⟩ (.int .i64 ((punctualref_F.f 3 (i1 : Int)).Code)), .loaded ⟨b1, 1, none⟩ (.int .i64 ((punctualref_F.f 3 (i1 : Int)).At))]) rfl (by kernel_rfl) ⟨hS25.cell 0 rfl rfl, hS25.cell 0 rfl rfl, trivial⟩ ⟨rfl, hS26⟩) a hF⟩)
  · rw [if_neg hc5] at h
    refine ge_known (t := 28) (b := decide (e1.At < 0)) (c := false) (by kernel_rfl) (decide_eq_false hc5) ?_
    refine ge_batch [4, 5, 6, 7, 8, 9] (ans := [.val (.int .i64 e1.At)]) (vs := [(34, .bool (decide (e1.At > x0))), (33, .bool (decide (e1.At > x0))), (32, .bool (decide (e1.At > x0))), (31, .int .i64 x0), (30, .int .i64 e1.At), (29, .pointer (some ⟨b2, 0, none⟩))]) (l := [.loaded ⟨b2, 0, none⟩ (.int .i64 e1.At)]) (by kernel_rfl) ⟨hS.cell 0 rfl rfl, trivial⟩ ?_
    by_cases hc6 : e1.At > x0
    · rw [if_pos hc6] at h
      refine ge_known (t := 34) (b := decide (e1.At > x0)) (c := true) (by kernel_rfl) (decide_eq_true hc6) ?_
      refine ge_batch [10, 11, 12, 13, 14, 15, 16, 17, 18, 19, 20, 21, 22, 23, 24, 25, 26, 27, 28] (ans := []) (vs := [(53, .bool true), (52, undef), (51, undef), (50, undef), (49, undef), (48, undef), (47, undef), (46, undef), (45, .bool true), (44, .bool true), (43, undef), (42, undef), (41, undef), (40, undef), (39, .bool true), (38, .bool true), (37, undef), (36, undef), (35, undef)]) (l := []) (by kernel_rfl) trivial ?_
      refine ge_nil fun a hF => hK16 _ _ ?_ a hF
      refine we_true (by kernel_rfl) ?_
      refine we_seq fun K18 hK18 => ?_
      refine we_region [(0, 0), (1, 1), (2, 2)] rfl ?_
      refine ge_batch [0] (ans := []) (vs := [(54, .int .i64 (i1 : Int))]) (l := []) (by kernel_rfl) trivial ?_
      refine ge_call (d := some 55) (f := 17) (args := #[.int .i64 3, .int .i64 (i1 : Int)]) (by kernel_rfl) (punctualref_F_ok 3 (i1 : Int) _ _ rfl) ?_
      rintro _ w13 ⟨rfl, hS27⟩
      refine ⟨_, rfl, hS27.below, ?_⟩
      have hS28 := hS.call hS27
      have hS29 := hS28.bring 1 rfl
      refine ge_set (b := b1) (j := 0) (cs := #[.int .i64 0, .int .i64 0]) (t := 30) (vs := [.int .i64 ((punctualref_F.f 3 (i1 : Int)).Code), .int .i64 ((punctualref_F.f 3 (i1 : Int)).At)]) hS29 (by kernel_rfl) rfl rfl fun w14 hS30 => ?_
      have hS31 : St w0 w14 [Own.blk b1 (.cells #[.int .i64 ((punctualref_F.f 3 (i1 : Int)).Code), .int .i64 ((punctualref_F.f 3 (i1 : Int)).At)] 30 (0, 0)), Own.blk b2 (.cells #[.int .i64 e1.At, .int .i64 e1.Len] 27 (0, 0))] := hS30
      refine ge_nil fun a hF => hK18 _ _ ?_ a hF
      have hS32 := hS31.takeN 0
      obtain rfl := Option.some.inj h
      exact we_ret fun a hF => hQ _ _ _ (Outs.out nofun ⟨rfl, (post_ret (rs := [.cell 4 30]) (ans := [.val (.int .i64 ((punctualref_F.f 3 (i1 : Int)).Code)), .val (.int .i64 ((punctualref_F.f 3 (i1 : Int)).At))]) (vs := [.agg #[.int .i64 ((punctualref_F.f 3 (i1 : Int)).Code), .int .i64 ((punctualref_F.f 3 (i1 : Int)).At)]]) (l := [.loaded ⟨b1, 0, none⟩ (.int .i64 ((punctualref_F.f 3 (i1 : Int)).Code)), .loaded ⟨b1, 1, none⟩ (.int .i64 ((punctualref_F.f 3 (i1 : Int)).At))]) rfl (by kernel_rfl) ⟨hS31.cell 0 rfl rfl, hS31.cell 0 rfl rfl, trivial⟩ ⟨rfl, hS32⟩) a hF⟩)
    · rw [if_neg hc6] at h
      refine ge_known (t := 34) (b := decide (e1.At > x0)) (c := false) (by kernel_rfl) (decide_eq_false hc6) ?_
      refine ge_batch [10, 11, 12, 13, 14] (ans := [.val (.int .i64 e1.Len)]) (vs := [(39, .bool (decide (e1.Len < 1))), (38, .bool (decide (e1.Len < 1))), (37, .bool (decide (e1.Len < 1))), (36, .int .i64 e1.Len), (35, .pointer (some ⟨b2, 1, none⟩))]) (l := [.loaded ⟨b2, 1, none⟩ (.int .i64 e1.Len)]) (by kernel_rfl) ⟨hS.cell 0 rfl rfl, trivial⟩ ?_
      by_cases hc7 : e1.Len < 1
      · rw [if_pos hc7] at h
        refine ge_known (t := 39) (b := decide (e1.Len < 1)) (c := true) (by kernel_rfl) (decide_eq_true hc7) ?_
        refine ge_batch [15, 16, 17, 18, 19, 20, 21, 22, 23, 24, 25, 26, 27, 28] (ans := []) (vs := [(53, .bool true), (52, undef), (51, undef), (50, undef), (49, undef), (48, undef), (47, undef), (46, undef), (45, .bool true), (44, .bool true), (43, undef), (42, undef), (41, undef), (40, undef)]) (l := []) (by kernel_rfl) trivial ?_
        refine ge_nil fun a hF => hK16 _ _ ?_ a hF
        refine we_true (by kernel_rfl) ?_
        refine we_seq fun K19 hK19 => ?_
        refine we_region [(0, 0), (1, 1), (2, 2)] rfl ?_
        refine ge_batch [0] (ans := []) (vs := [(54, .int .i64 (i1 : Int))]) (l := []) (by kernel_rfl) trivial ?_
        refine ge_call (d := some 55) (f := 17) (args := #[.int .i64 3, .int .i64 (i1 : Int)]) (by kernel_rfl) (punctualref_F_ok 3 (i1 : Int) _ _ rfl) ?_
        rintro _ w15 ⟨rfl, hS33⟩
        refine ⟨_, rfl, hS33.below, ?_⟩
        have hS34 := hS.call hS33
        have hS35 := hS34.bring 1 rfl
        refine ge_set (b := b1) (j := 0) (cs := #[.int .i64 0, .int .i64 0]) (t := 30) (vs := [.int .i64 ((punctualref_F.f 3 (i1 : Int)).Code), .int .i64 ((punctualref_F.f 3 (i1 : Int)).At)]) hS35 (by kernel_rfl) rfl rfl fun w16 hS36 => ?_
        have hS37 : St w0 w16 [Own.blk b1 (.cells #[.int .i64 ((punctualref_F.f 3 (i1 : Int)).Code), .int .i64 ((punctualref_F.f 3 (i1 : Int)).At)] 30 (0, 0)), Own.blk b2 (.cells #[.int .i64 e1.At, .int .i64 e1.Len] 27 (0, 0))] := hS36
        refine ge_nil fun a hF => hK19 _ _ ?_ a hF
        have hS38 := hS37.takeN 0
        obtain rfl := Option.some.inj h
        exact we_ret fun a hF => hQ _ _ _ (Outs.out nofun ⟨rfl, (post_ret (rs := [.cell 4 30]) (ans := [.val (.int .i64 ((punctualref_F.f 3 (i1 : Int)).Code)), .val (.int .i64 ((punctualref_F.f 3 (i1 : Int)).At))]) (vs := [.agg #[.int .i64 ((punctualref_F.f 3 (i1 : Int)).Code), .int .i64 ((punctualref_F.f 3 (i1 : Int)).At)]]) (l := [.loaded ⟨b1, 0, none⟩ (.int .i64 ((punctualref_F.f 3 (i1 : Int)).Code)), .loaded ⟨b1, 1, none⟩ (.int .i64 ((punctualref_F.f 3 (i1 : Int)).At))]) rfl (by kernel_rfl) ⟨hS37.cell 0 rfl rfl, hS37.cell 0 rfl rfl, trivial⟩ ⟨rfl, hS38⟩) a hF⟩)
      · rw [if_neg hc7] at h
        refine ge_known (t := 39) (b := decide (e1.Len < 1)) (c := false) (by kernel_rfl) (decide_eq_false hc7) ?_
        refine ge_batch [15, 16, 17, 18, 19, 20] (ans := [.val (.int .i64 e1.Len)]) (vs := [(45, .bool (decide (e1.Len > x0))), (44, .bool (decide (e1.Len > x0))), (43, .bool (decide (e1.Len > x0))), (42, .int .i64 x0), (41, .int .i64 e1.Len), (40, .pointer (some ⟨b2, 1, none⟩))]) (l := [.loaded ⟨b2, 1, none⟩ (.int .i64 e1.Len)]) (by kernel_rfl) ⟨hS.cell 0 rfl rfl, trivial⟩ ?_
        by_cases hc8 : e1.Len > x0
        · rw [if_pos hc8] at h
          refine ge_known (t := 45) (b := decide (e1.Len > x0)) (c := true) (by kernel_rfl) (decide_eq_true hc8) ?_
          refine ge_batch [21, 22, 23, 24, 25, 26, 27, 28] (ans := []) (vs := [(53, .bool true), (52, undef), (51, undef), (50, undef), (49, undef), (48, undef), (47, undef), (46, undef)]) (l := []) (by kernel_rfl) trivial ?_
          refine ge_nil fun a hF => hK16 _ _ ?_ a hF
          refine we_true (by kernel_rfl) ?_
          refine we_seq fun K20 hK20 => ?_
          refine we_region [(0, 0), (1, 1), (2, 2)] rfl ?_
          refine ge_batch [0] (ans := []) (vs := [(54, .int .i64 (i1 : Int))]) (l := []) (by kernel_rfl) trivial ?_
          refine ge_call (d := some 55) (f := 17) (args := #[.int .i64 3, .int .i64 (i1 : Int)]) (by kernel_rfl) (punctualref_F_ok 3 (i1 : Int) _ _ rfl) ?_
          rintro _ w17 ⟨rfl, hS39⟩
          refine ⟨_, rfl, hS39.below, ?_⟩
          have hS40 := hS.call hS39
          have hS41 := hS40.bring 1 rfl
          refine ge_set (b := b1) (j := 0) (cs := #[.int .i64 0, .int .i64 0]) (t := 30) (vs := [.int .i64 ((punctualref_F.f 3 (i1 : Int)).Code), .int .i64 ((punctualref_F.f 3 (i1 : Int)).At)]) hS41 (by kernel_rfl) rfl rfl fun w18 hS42 => ?_
          have hS43 : St w0 w18 [Own.blk b1 (.cells #[.int .i64 ((punctualref_F.f 3 (i1 : Int)).Code), .int .i64 ((punctualref_F.f 3 (i1 : Int)).At)] 30 (0, 0)), Own.blk b2 (.cells #[.int .i64 e1.At, .int .i64 e1.Len] 27 (0, 0))] := hS42
          refine ge_nil fun a hF => hK20 _ _ ?_ a hF
          have hS44 := hS43.takeN 0
          obtain rfl := Option.some.inj h
          exact we_ret fun a hF => hQ _ _ _ (Outs.out nofun ⟨rfl, (post_ret (rs := [.cell 4 30]) (ans := [.val (.int .i64 ((punctualref_F.f 3 (i1 : Int)).Code)), .val (.int .i64 ((punctualref_F.f 3 (i1 : Int)).At))]) (vs := [.agg #[.int .i64 ((punctualref_F.f 3 (i1 : Int)).Code), .int .i64 ((punctualref_F.f 3 (i1 : Int)).At)]]) (l := [.loaded ⟨b1, 0, none⟩ (.int .i64 ((punctualref_F.f 3 (i1 : Int)).Code)), .loaded ⟨b1, 1, none⟩ (.int .i64 ((punctualref_F.f 3 (i1 : Int)).At))]) rfl (by kernel_rfl) ⟨hS43.cell 0 rfl rfl, hS43.cell 0 rfl rfl, trivial⟩ ⟨rfl, hS44⟩) a hF⟩)
        · rw [if_neg hc8] at h
          refine ge_known (t := 45) (b := decide (e1.Len > x0)) (c := false) (by kernel_rfl) (decide_eq_false hc8) ?_
          refine ge_batch [21, 22, 23, 24, 25, 26, 27, 28] (ans := [.val (.int .i64 e1.At), .val (.int .i64 e1.Len)]) (vs := [(53, .bool (decide ((IntKind.i64.wrap (e1.At + e1.Len)) > x0))), (52, .bool (decide ((IntKind.i64.wrap (e1.At + e1.Len)) > x0))), (51, .int .i64 x0), (50, .int .i64 (IntKind.i64.wrap (e1.At + e1.Len))), (49, .int .i64 e1.Len), (48, .pointer (some ⟨b2, 1, none⟩)), (47, .int .i64 e1.At), (46, .pointer (some ⟨b2, 0, none⟩))]) (l := [.loaded ⟨b2, 0, none⟩ (.int .i64 e1.At), .loaded ⟨b2, 1, none⟩ (.int .i64 e1.Len)]) (by kernel_rfl) ⟨hS.cell 0 rfl rfl, hS.cell 0 rfl rfl, trivial⟩ ?_
          refine ge_nil fun a hF => hK16 _ _ ?_ a hF
          by_cases hc9 : (IntKind.i64.wrap (e1.At + e1.Len)) > x0
          · rw [if_pos hc9] at h
            refine we_known (t := 53) (b := decide ((IntKind.i64.wrap (e1.At + e1.Len)) > x0)) (v := true) (by kernel_rfl) (decide_eq_true hc9) ?_
            refine we_true (by kernel_rfl) ?_
            refine we_seq fun K21 hK21 => ?_
            refine we_region [(0, 0), (1, 1), (2, 2)] rfl ?_
            refine ge_batch [0] (ans := []) (vs := [(54, .int .i64 (i1 : Int))]) (l := []) (by kernel_rfl) trivial ?_
            refine ge_call (d := some 55) (f := 17) (args := #[.int .i64 3, .int .i64 (i1 : Int)]) (by kernel_rfl) (punctualref_F_ok 3 (i1 : Int) _ _ rfl) ?_
            rintro _ w19 ⟨rfl, hS45⟩
            refine ⟨_, rfl, hS45.below, ?_⟩
            have hS46 := hS.call hS45
            have hS47 := hS46.bring 1 rfl
            refine ge_set (b := b1) (j := 0) (cs := #[.int .i64 0, .int .i64 0]) (t := 30) (vs := [.int .i64 ((punctualref_F.f 3 (i1 : Int)).Code), .int .i64 ((punctualref_F.f 3 (i1 : Int)).At)]) hS47 (by kernel_rfl) rfl rfl fun w20 hS48 => ?_
            have hS49 : St w0 w20 [Own.blk b1 (.cells #[.int .i64 ((punctualref_F.f 3 (i1 : Int)).Code), .int .i64 ((punctualref_F.f 3 (i1 : Int)).At)] 30 (0, 0)), Own.blk b2 (.cells #[.int .i64 e1.At, .int .i64 e1.Len] 27 (0, 0))] := hS48
            refine ge_nil fun a hF => hK21 _ _ ?_ a hF
            have hS50 := hS49.takeN 0
            obtain rfl := Option.some.inj h
            exact we_ret fun a hF => hQ _ _ _ (Outs.out nofun ⟨rfl, (post_ret (rs := [.cell 4 30]) (ans := [.val (.int .i64 ((punctualref_F.f 3 (i1 : Int)).Code)), .val (.int .i64 ((punctualref_F.f 3 (i1 : Int)).At))]) (vs := [.agg #[.int .i64 ((punctualref_F.f 3 (i1 : Int)).Code), .int .i64 ((punctualref_F.f 3 (i1 : Int)).At)]]) (l := [.loaded ⟨b1, 0, none⟩ (.int .i64 ((punctualref_F.f 3 (i1 : Int)).Code)), .loaded ⟨b1, 1, none⟩ (.int .i64 ((punctualref_F.f 3 (i1 : Int)).At))]) rfl (by kernel_rfl) ⟨hS49.cell 0 rfl rfl, hS49.cell 0 rfl rfl, trivial⟩ ⟨rfl, hS50⟩) a hF⟩)
          · rw [if_neg hc9] at h
            refine we_known (t := 53) (b := decide ((IntKind.i64.wrap (e1.At + e1.Len)) > x0)) (v := false) (by kernel_rfl) (decide_eq_false hc9) ?_
            refine we_false (by kernel_rfl) ?_
            have hS51 := hS.bring 1 rfl
            have hS52 := hS51.bring 1 rfl
            obtain rfl := Option.some.inj h
            exact we_skip fun a hF => hQ _ _ _ (Outs.again ⟨hS52, hF.weaken ⟨by kernel_rfl, by kernel_rfl, by kernel_rfl, by kernel_rfl, by kernel_rfl, by kernel_rfl, by kernel_rfl, by kernel_rfl, trivial⟩⟩)
abbrev punctualref_CheckFrame.A1 (K : Nat) (w0 : World) (x0 : Int) (l1 : List SWindow) (A1 : Option Addr) (c1 : Nat) (hR1 : RdL w0 A1 l1) (hL1 : l1.length ≤ c1) (b1 : Nat) (hc3 : ¬ ((l1.length : Int) > 20)) : Nat → Act → World → Prop := fun (s : Nat) a w => St w0 w [Own.blk b1 (.cells #[.int .i64 0, .int .i64 0] 30 (0, 0))] ∧ Frm 80 a [(0, .int .i64 x0), (1, .slice A1 l1.length c1), (4, .pointer (some ⟨b1, 0, none⟩)), (18, .slice A1 l1.length c1), (19, .int .i64 (l1.length : Int)), (20, .int .i64 (s : Int))]
abbrev punctualref_CheckFrame.B1 (K : Nat) (w0 : World) (x0 : Int) (l1 : List SWindow) (A1 : Option Addr) (c1 : Nat) (hR1 : RdL w0 A1 l1) (hL1 : l1.length ≤ c1) (b1 : Nat) (hc3 : ¬ ((l1.length : Int) > 20)) : (Unit ⊕ SFault) → Exit → Act → World → Prop := Exits 0 (fun (s : Unit) a w => St w0 w [Own.blk b1 (.cells #[.int .i64 0, .int .i64 0] 30 (0, 0))] ∧ Frm 80 a [(4, .pointer (some ⟨b1, 0, none⟩))]) (Rets Tryd.prog Tryd.f11 (punctualref_CheckFrame.Post w0))
theorem punctualref_CheckFrame_r1 (K : Nat) (w0 : World) (x0 : Int) (l1 : List SWindow) (A1 : Option Addr) (c1 : Nat) (hR1 : RdL w0 A1 l1) (hL1 : l1.length ≤ c1) (b1 : Nat) (hc3 : ¬ ((l1.length : Int) > 20)) (s : Nat) (o : Nat ⊕ (Unit ⊕ SFault)) (h : punctualref_CheckFrame.r1 x0 l1 s = some o) (a : Act) (w : World) (hA : punctualref_CheckFrame.A1 K w0 x0 l1 A1 c1 hR1 hL1 b1 hc3 s a w) (Q : Exit → Act → World → Prop) (hQ : ∀ x a w, Outs (punctualref_CheckFrame.A1 K w0 x0 l1 A1 c1 hR1 hL1 b1 hc3) (punctualref_CheckFrame.B1 K w0 x0 l1 A1 c1 hR1 hL1 b1 hc3) o x a w → Q x a w) : (subF Tryd.f11 [1, 1, 1, 0, 1, 0, 0]).wp Tryd.prog Q a w := by
  obtain ⟨i1, hs⟩ : ∃ z, z = s := ⟨s, rfl⟩
  subst hs
  obtain ⟨hS, hF⟩ := hA
  replace hS : St w0 w [Own.blk b1 (.cells #[.int .i64 0, .int .i64 0] 30 (0, 0))] := hS
  simp only [punctualref_CheckFrame.r1] at h
  refine (?_ : WE Tryd.prog 80 (subF Tryd.f11 [1, 1, 1, 0, 1, 0, 0]) Q [(0, .int .i64 x0), (1, .slice A1 l1.length c1), (4, .pointer (some ⟨b1, 0, none⟩)), (18, .slice A1 l1.length c1), (19, .int .i64 (l1.length : Int)), (20, .int .i64 (i1 : Int))] w) a hF
  clear hF a
  refine we_seq fun K11 hK11 => ?_
  refine we_region [(0, 0)] rfl ?_
  refine ge_batch [0] (ans := []) (vs := [(21, .bool (decide ((i1 : Int) < (l1.length : Int))))]) (l := []) (by kernel_rfl) trivial ?_
  refine ge_nil fun a hF => hK11 _ _ ?_ a hF
  refine we_seq fun K12 hK12 => ?_
  by_cases hc4 : (i1 : Int) < (l1.length : Int)
  · rw [if_pos hc4] at h
    refine we_known (t := 21) (b := decide ((i1 : Int) < (l1.length : Int))) (v := true) (by kernel_rfl) (decide_eq_true hc4) ?_
    refine we_true (by kernel_rfl) ?_
    refine we_skip fun a hF => hK12 _ _ ?_ a hF
    refine we_seq fun K13 hK13 => ?_
    refine we_block ?_
    refine we_seq fun K14 hK14 => ?_
    refine we_region [(0, 0), (1, 0), (2, 0), (3, 1), (4, 0), (5, 2)] rfl ?_
    refine ge_batch [0] (ans := []) (vs := [(22, .int .i64 (i1 : Int))]) (l := []) (by kernel_rfl) trivial ?_
    rcases hx2 : l1[i1]? with _ | e1
    · rw [hx2] at h; cases h
    rw [hx2] at h
    simp only [] at h
    refine ge_index (d := 23) (ty := 0) (t := 22) (el := 27) (sz := 2) (m := l1.length) (c := c1) (x := (.tmp 18)) (y := (.tmp 20)) (A := A1) (k' := .i64) (j := (i1 : Int)) (jn := i1) (b0 := blkOf A1) (o0 := offOf A1) (by kernel_rfl) (by kernel_rfl) (by kernel_rfl) (by kernel_rfl) (by kernel_rfl) ((hS.rd hR1).eqSome (pos_of_get hx2)) rfl (lt_of_get hx2) ?_
    refine ge_batch [2] (ans := [.val (.int .i64 e1.At), .val (.int .i64 e1.Len)]) (vs := [(24, .agg #[.int .i64 e1.At, .int .i64 e1.Len])]) (l := [.loaded ⟨blkOf A1, offOf A1 + i1 * 2, none⟩ (.int .i64 e1.At), .loaded ⟨blkOf A1, offOf A1 + i1 * 2 + 1, none⟩ (.int .i64 e1.Len)]) (by kernel_rfl) ⟨RdL.cell (j := 0) (hS.rd hR1) hx2 rfl, RdL.cell (j := 1) (hS.rd hR1) hx2 rfl, trivial⟩ ?_
    refine ge_new (d := some 6) (o := .cells #[.int .i64 0, .int .i64 0] 27) (v := fun b => .pointer (some ⟨b, 0, none⟩)) hS (fun b => by kernel_rfl) fun b2 w9 hx3 hS18 => ?_
    refine ge_batch [4] (ans := []) (vs := [(5, .int .i64 (i1 : Int))]) (l := []) (by kernel_rfl) trivial ?_
    refine ge_set (b := b2) (j := 0) (cs := #[.int .i64 0, .int .i64 0]) (t := 27) (vs := [.int .i64 e1.At, .int .i64 e1.Len]) hS18 (by kernel_rfl) rfl rfl fun w10 hS19 => ?_
    have hS20 : St w0 w10 [Own.blk b2 (.cells #[.int .i64 e1.At, .int .i64 e1.Len] 27 (0, 0)), Own.blk b1 (.cells #[.int .i64 0, .int .i64 0] 30 (0, 0))] := hS19
    refine ge_nil fun a hF => hK14 _ _ ?_ a hF
    refine we_seq fun K15 hK15 => ?_
    rcases hq10 : punctualref_CheckFrame.p2 x0 i1 e1 with _ | (_ | rr1)
    · rw [hq10] at h; cases h
    · rw [hq10] at h
      simp only [] at h
      refine we_keep (e' := [(0, .int .i64 x0), (1, .slice A1 l1.length c1), (4, .pointer (some ⟨b1, 0, none⟩)), (5, .int .i64 (i1 : Int)), (6, .pointer (some ⟨b2, 0, none⟩)), (18, .slice A1 l1.length c1), (19, .int .i64 (l1.length : Int)), (20, .int .i64 (i1 : Int)), (21, .bool true), (22, .int .i64 (i1 : Int)), (23, .pointer (some ⟨blkOf A1, offOf A1 + i1 * 2, none⟩)), (24, .agg #[.int .i64 e1.At, .int .i64 e1.Len])]) ⟨by kernel_rfl, by kernel_rfl, by kernel_rfl, by kernel_rfl, by kernel_rfl, by kernel_rfl, by kernel_rfl, by kernel_rfl, by kernel_rfl, by kernel_rfl, by kernel_rfl, by kernel_rfl, trivial⟩ (punctualref_CheckFrame_p2 K w0 x0 l1 A1 c1 hR1 hL1 b1 hc3 i1 hc4 e1 hx2 b2 _ hq10 _ hS20 _ ?_)
      rintro _ a w21 ⟨rfl, hS53, hF⟩
      replace hS53 : St w0 w21 [Own.blk b2 (.cells #[.int .i64 e1.At, .int .i64 e1.Len] 27 (0, 0)), Own.blk b1 (.cells #[.int .i64 0, .int .i64 0] 30 (0, 0))] := hS53
      refine hK15 [(0, .int .i64 x0), (1, .slice A1 l1.length c1), (4, .pointer (some ⟨b1, 0, none⟩)), (5, .int .i64 (i1 : Int)), (6, .pointer (some ⟨b2, 0, none⟩)), (18, .slice A1 l1.length c1), (19, .int .i64 (l1.length : Int)), (20, .int .i64 (i1 : Int))] w21 ?_ a hF
      refine we_seq fun K22 hK22 => ?_
      refine we_draws (by kernel_rfl) [(0, 0), (1, 0), (2, 0), (3, 0), (4, 0), (5, 0), (6, 0), (7, 0), (8, 0), (9, 0), (10, 0), (11, 0), (12, 0), (13, 0), (14, 0), (15, 0), (16, 0), (17, 0), (18, 0), (19, 0)] (by kernel_rfl) ?_
      have hS54 := hS53.drew
      refine ge_batch [0, 1, 2] (ans := []) (vs := [(58, .bool (decide ((i1 : Int) > 0))), (57, .bool (decide ((i1 : Int) > 0))), (56, .int .i64 (i1 : Int))]) (l := []) (by kernel_rfl) trivial ?_
      by_cases hc10 : (i1 : Int) > 0
      · rw [if_pos hc10] at h
        refine ge_known (t := 58) (b := decide ((i1 : Int) > 0)) (c := true) (by kernel_rfl) (decide_eq_true hc10) ?_
        refine ge_batch [3, 4, 5, 6, 7] (ans := [.val (.int .i64 e1.At)]) (vs := [(63, .int .i64 (IntKind.i64.wrap ((i1 : Int) - 1))), (62, .int .i64 (i1 : Int)), (61, .slice A1 l1.length c1), (60, .int .i64 e1.At), (59, .pointer (some ⟨b2, 0, none⟩))]) (l := [.loaded ⟨b2, 0, none⟩ (.int .i64 e1.At)]) (by kernel_rfl) ⟨hS54.cell 0 rfl rfl, trivial⟩ ?_
        by_cases hc11 : 0 ≤ (IntKind.i64.wrap ((i1 : Int) - 1))
        · rw [if_pos hc11] at h
          rcases hx4 : l1[(IntKind.i64.wrap ((i1 : Int) - 1)).toNat]? with _ | e2
          · rw [hx4] at h; cases h
          rw [hx4] at h
          simp only [] at h
          refine ge_index (d := 64) (ty := 0) (t := 22) (el := 27) (sz := 2) (m := l1.length) (c := c1) (x := (.tmp 61)) (y := (.tmp 63)) (A := A1) (k' := .i64) (j := (IntKind.i64.wrap ((i1 : Int) - 1))) (jn := ((IntKind.i64.wrap ((i1 : Int) - 1)).toNat)) (b0 := blkOf A1) (o0 := offOf A1) (by kernel_rfl) (by kernel_rfl) (by kernel_rfl) (by kernel_rfl) (by kernel_rfl) ((hS54.rd hR1).eqSome (pos_of_get hx4)) (Int.toNat_of_nonneg hc11).symm (lt_of_get hx4) ?_
          refine ge_batch [9, 10, 11, 12, 13] (ans := [.val (.int .i64 e2.At)]) (vs := [(69, .int .i64 (IntKind.i64.wrap ((i1 : Int) - 1))), (68, .int .i64 (i1 : Int)), (67, .slice A1 l1.length c1), (66, .int .i64 e2.At), (65, .pointer (some ⟨blkOf A1, offOf A1 + (IntKind.i64.wrap ((i1 : Int) - 1)).toNat * 2, none⟩))]) (l := [.loaded ⟨blkOf A1, offOf A1 + ((IntKind.i64.wrap ((i1 : Int) - 1)).toNat) * 2, none⟩ (.int .i64 e2.At)]) (by kernel_rfl) ⟨RdL.cell (j := 0) (hS54.rd hR1) hx4 rfl, trivial⟩ ?_
          refine ge_index (d := 70) (ty := 0) (t := 22) (el := 27) (sz := 2) (m := l1.length) (c := c1) (x := (.tmp 67)) (y := (.tmp 69)) (A := A1) (k' := .i64) (j := (IntKind.i64.wrap ((i1 : Int) - 1))) (jn := ((IntKind.i64.wrap ((i1 : Int) - 1)).toNat)) (b0 := blkOf A1) (o0 := offOf A1) (by kernel_rfl) (by kernel_rfl) (by kernel_rfl) (by kernel_rfl) (by kernel_rfl) ((hS54.rd hR1).eqSome (pos_of_get hx4)) (Int.toNat_of_nonneg hc11).symm (lt_of_get hx4) ?_
          refine ge_batch [15, 16, 17, 18, 19] (ans := [.val (.int .i64 e2.Len)]) (vs := [(75, .bool (decide (e1.At < (IntKind.i64.wrap (e2.At + e2.Len))))), (74, .bool (decide (e1.At < (IntKind.i64.wrap (e2.At + e2.Len))))), (73, .int .i64 (IntKind.i64.wrap (e2.At + e2.Len))), (72, .int .i64 e2.Len), (71, .pointer (some ⟨blkOf A1, offOf A1 + (IntKind.i64.wrap ((i1 : Int) - 1)).toNat * 2 + 1, none⟩))]) (l := [.loaded ⟨blkOf A1, offOf A1 + ((IntKind.i64.wrap ((i1 : Int) - 1)).toNat) * 2 + 1, none⟩ (.int .i64 e2.Len)]) (by kernel_rfl) ⟨RdL.cell (j := 1) (hS54.rd hR1) hx4 rfl, trivial⟩ ?_
          refine ge_nil fun a hF => hK22 _ _ ?_ a hF
          by_cases hc12 : e1.At < (IntKind.i64.wrap (e2.At + e2.Len))
          · rw [if_pos hc12] at h
            refine we_known (t := 75) (b := decide (e1.At < (IntKind.i64.wrap (e2.At + e2.Len)))) (v := true) (by kernel_rfl) (decide_eq_true hc12) ?_
            refine we_true (by kernel_rfl) ?_
            refine we_seq fun K23 hK23 => ?_
            refine we_region [(0, 0), (1, 1), (2, 2)] rfl ?_
            refine ge_batch [0] (ans := []) (vs := [(76, .int .i64 (i1 : Int))]) (l := []) (by kernel_rfl) trivial ?_
            refine ge_call (d := some 77) (f := 17) (args := #[.int .i64 12, .int .i64 (i1 : Int)]) (by kernel_rfl) (punctualref_F_ok 12 (i1 : Int) _ _ rfl) ?_
            rintro _ w22 ⟨rfl, hS55⟩
            refine ⟨_, rfl, hS55.below, ?_⟩
            have hS56 := hS54.call hS55
            have hS57 := hS56.bring 1 rfl
            refine ge_set (b := b1) (j := 0) (cs := #[.int .i64 0, .int .i64 0]) (t := 30) (vs := [.int .i64 ((punctualref_F.f 12 (i1 : Int)).Code), .int .i64 ((punctualref_F.f 12 (i1 : Int)).At)]) hS57 (by kernel_rfl) rfl rfl fun w23 hS58 => ?_
            have hS59 : St w0 w23 [Own.blk b1 (.cells #[.int .i64 ((punctualref_F.f 12 (i1 : Int)).Code), .int .i64 ((punctualref_F.f 12 (i1 : Int)).At)] 30 (0, 0)), Own.blk b2 (.cells #[.int .i64 e1.At, .int .i64 e1.Len] 27 (0, 0))] := hS58
            refine ge_nil fun a hF => hK23 _ _ ?_ a hF
            have hS60 := hS59.takeN 0
            obtain rfl := Option.some.inj h
            exact we_ret fun a hF => hQ _ _ _ (Outs.out nofun (Exits.on ⟨rfl, (post_ret (rs := [.cell 4 30]) (ans := [.val (.int .i64 ((punctualref_F.f 12 (i1 : Int)).Code)), .val (.int .i64 ((punctualref_F.f 12 (i1 : Int)).At))]) (vs := [.agg #[.int .i64 ((punctualref_F.f 12 (i1 : Int)).Code), .int .i64 ((punctualref_F.f 12 (i1 : Int)).At)]]) (l := [.loaded ⟨b1, 0, none⟩ (.int .i64 ((punctualref_F.f 12 (i1 : Int)).Code)), .loaded ⟨b1, 1, none⟩ (.int .i64 ((punctualref_F.f 12 (i1 : Int)).At))]) rfl (by kernel_rfl) ⟨hS59.cell 0 rfl rfl, hS59.cell 0 rfl rfl, trivial⟩ ⟨rfl, hS60⟩) a hF⟩))
          · rw [if_neg hc12] at h
            refine we_known (t := 75) (b := decide (e1.At < (IntKind.i64.wrap (e2.At + e2.Len)))) (v := false) (by kernel_rfl) (decide_eq_false hc12) ?_
            refine we_false (by kernel_rfl) ?_
            refine we_skip fun a hF => hK13 _ _ ?_ a hF
            refine we_region [(0, 0), (1, 0)] rfl ?_
            refine ge_addn (d := 78) (ty := 3) (x := (.tmp 20)) (y := (.const (.int .i64 1))) (t := 3) (t2 := 3) (k := .i64) (m := i1) (by kernel_rfl) (by kernel_rfl) (by kernel_rfl) (by have h0 := hR1.small; omega) ?_
            refine ge_batch [1] (ans := []) (vs := [(20, .int .i64 ((i1 + 1 : Nat) : Int))]) (l := []) (by kernel_rfl) trivial ?_
            have hS61 := hS54.bring 1 rfl
            have hS62 := hS61.takeN 1
            obtain rfl := Option.some.inj h
            exact ge_nil fun a hF => hQ _ _ _ (Outs.again ⟨hS62, hF.weaken ⟨by kernel_rfl, by kernel_rfl, by kernel_rfl, by kernel_rfl, by kernel_rfl, by kernel_rfl, trivial⟩⟩)
        · rw [if_neg hc11] at h
          cases h
      · rw [if_neg hc10] at h
        refine ge_known (t := 58) (b := decide ((i1 : Int) > 0)) (c := false) (by kernel_rfl) (decide_eq_false hc10) ?_
        refine ge_batch [3, 4, 5, 6, 7, 8, 9, 10, 11, 12, 13, 14, 15, 16, 17, 18, 19] (ans := []) (vs := [(75, .bool false), (74, undef), (73, undef), (72, undef), (71, undef), (70, undef), (69, undef), (68, undef), (67, undef), (66, undef), (65, undef), (64, undef), (63, undef), (62, undef), (61, undef), (60, undef), (59, undef)]) (l := []) (by kernel_rfl) trivial ?_
        refine ge_nil fun a hF => hK22 _ _ ?_ a hF
        refine we_false (by kernel_rfl) ?_
        refine we_skip fun a hF => hK13 _ _ ?_ a hF
        refine we_region [(0, 0), (1, 0)] rfl ?_
        refine ge_addn (d := 78) (ty := 3) (x := (.tmp 20)) (y := (.const (.int .i64 1))) (t := 3) (t2 := 3) (k := .i64) (m := i1) (by kernel_rfl) (by kernel_rfl) (by kernel_rfl) (by have h0 := hR1.small; omega) ?_
        refine ge_batch [1] (ans := []) (vs := [(20, .int .i64 ((i1 + 1 : Nat) : Int))]) (l := []) (by kernel_rfl) trivial ?_
        have hS63 := hS54.bring 1 rfl
        have hS64 := hS63.takeN 1
        obtain rfl := Option.some.inj h
        exact ge_nil fun a hF => hQ _ _ _ (Outs.again ⟨hS64, hF.weaken ⟨by kernel_rfl, by kernel_rfl, by kernel_rfl, by kernel_rfl, by kernel_rfl, by kernel_rfl, trivial⟩⟩)
    · rw [hq10] at h
      simp only [] at h
      refine we_keep (e' := [(0, .int .i64 x0), (1, .slice A1 l1.length c1), (4, .pointer (some ⟨b1, 0, none⟩)), (5, .int .i64 (i1 : Int)), (6, .pointer (some ⟨b2, 0, none⟩)), (18, .slice A1 l1.length c1), (19, .int .i64 (l1.length : Int)), (20, .int .i64 (i1 : Int)), (21, .bool true), (22, .int .i64 (i1 : Int)), (23, .pointer (some ⟨blkOf A1, offOf A1 + i1 * 2, none⟩)), (24, .agg #[.int .i64 e1.At, .int .i64 e1.Len])]) ⟨by kernel_rfl, by kernel_rfl, by kernel_rfl, by kernel_rfl, by kernel_rfl, by kernel_rfl, by kernel_rfl, by kernel_rfl, by kernel_rfl, by kernel_rfl, by kernel_rfl, by kernel_rfl, trivial⟩ (punctualref_CheckFrame_p2 K w0 x0 l1 A1 c1 hR1 hL1 b1 hc3 i1 hc4 e1 hx2 b2 _ hq10 _ hS20 _ ?_)
      rintro _ a w1 ⟨_, rfl, hb⟩
      obtain rfl := Option.some.inj h
      exact hQ _ _ _ (Outs.out nofun (Exits.on ⟨rfl, hb⟩))
  · rw [if_neg hc4] at h
    refine we_known (t := 21) (b := decide ((i1 : Int) < (l1.length : Int))) (v := false) (by kernel_rfl) (decide_eq_false hc4) ?_
    refine we_false (by kernel_rfl) ?_
    obtain rfl := Option.some.inj h
    exact we_exit fun a hF => hQ _ _ _ (Outs.out nofun (Exits.here ⟨hS, hF.weaken ⟨by kernel_rfl, trivial⟩⟩))
theorem punctualref_CheckFrame_ok (K : Nat) (x0 : Int) (l1 : List SWindow) (A1 : Option Addr) (c1 : Nat) (w0 : World) (hR1 : RdL w0 A1 l1) (hL1 : l1.length ≤ c1) (r : SFault) (h : punctualref_CheckFrame.f K x0 l1 = some r) :
    Calls Tryd.prog 11 #[.int .i64 x0, .slice A1 l1.length c1] w0 (punctualref_CheckFrame.Post w0 r) := by
  have hS := St.start w0
  unfold punctualref_CheckFrame.f at h
  refine calls_enter (n := 80) (args := [.int .i64 x0, .slice A1 l1.length c1]) (fn := Tryd.f11) rfl rfl rfl rfl ?_
  show WE _ _ _ _ [(0, .int .i64 x0), (1, .slice A1 l1.length c1)] _
  refine we_seq fun K1 hK1 => ?_
  refine we_region [(0, 1)] rfl ?_
  refine ge_new (d := some 4) (o := .cells #[.int .i64 0, .int .i64 0] 30) (v := fun b => .pointer (some ⟨b, 0, none⟩)) hS (fun b => by kernel_rfl) fun b1 w1 hx1 hS1 => ?_
  refine ge_nil fun a hF => hK1 _ _ ?_ a hF
  refine we_seq fun K2 hK2 => ?_
  rcases hq3 : punctualref_CheckFrame.p0 x0 with _ | (_ | rr3)
  · rw [hq3] at h; cases h
  · rw [hq3] at h
    simp only [] at h
    refine we_keep (e' := [(0, .int .i64 x0), (1, .slice A1 l1.length c1), (4, .pointer (some ⟨b1, 0, none⟩))]) ⟨by kernel_rfl, by kernel_rfl, by kernel_rfl, trivial⟩ (punctualref_CheckFrame_p0 K w0 x0 l1 A1 c1 hR1 hL1 b1 _ hq3 _ hS1 _ ?_)
    rintro _ a w6 ⟨rfl, hS12, hF⟩
    replace hS12 : St w0 w6 [Own.blk b1 (.cells #[.int .i64 0, .int .i64 0] 30 (0, 0))] := hS12
    refine hK2 [(0, .int .i64 x0), (1, .slice A1 l1.length c1), (4, .pointer (some ⟨b1, 0, none⟩))] w6 ?_ a hF
    refine we_seq fun K6 hK6 => ?_
    refine we_seq fun K7 hK7 => ?_
    refine we_region [(0, 0), (1, 0), (2, 0)] rfl ?_
    refine ge_batch [0, 1, 2] (ans := []) (vs := [(16, .bool (decide ((l1.length : Int) > 20))), (15, .int .i64 (l1.length : Int)), (14, .slice A1 l1.length c1)]) (l := []) (by kernel_rfl) trivial ?_
    refine ge_nil fun a hF => hK7 _ _ ?_ a hF
    by_cases hc3 : (l1.length : Int) > 20
    · rw [if_pos hc3] at h
      refine we_known (t := 16) (b := decide ((l1.length : Int) > 20)) (v := true) (by kernel_rfl) (decide_eq_true hc3) ?_
      refine we_true (by kernel_rfl) ?_
      refine we_seq fun K8 hK8 => ?_
      refine we_region [(0, 1), (1, 2)] rfl ?_
      refine ge_call (d := some 17) (f := 17) (args := #[.int .i64 2, .int .i64 0]) (by kernel_rfl) (punctualref_F_ok 2 0 _ _ rfl) ?_
      rintro _ w7 ⟨rfl, hS13⟩
      refine ⟨_, rfl, hS13.below, ?_⟩
      have hS14 := hS12.call hS13
      refine ge_set (b := b1) (j := 0) (cs := #[.int .i64 0, .int .i64 0]) (t := 30) (vs := [.int .i64 ((punctualref_F.f 2 0).Code), .int .i64 ((punctualref_F.f 2 0).At)]) hS14 (by kernel_rfl) rfl rfl fun w8 hS15 => ?_
      have hS16 : St w0 w8 [Own.blk b1 (.cells #[.int .i64 ((punctualref_F.f 2 0).Code), .int .i64 ((punctualref_F.f 2 0).At)] 30 (0, 0))] := hS15
      refine ge_nil fun a hF => hK8 _ _ ?_ a hF
      have hS17 := hS16.takeN 0
      obtain rfl := Option.some.inj h
      exact we_ret (post_ret (rs := [.cell 4 30]) (ans := [.val (.int .i64 ((punctualref_F.f 2 0).Code)), .val (.int .i64 ((punctualref_F.f 2 0).At))]) (vs := [.agg #[.int .i64 ((punctualref_F.f 2 0).Code), .int .i64 ((punctualref_F.f 2 0).At)]]) (l := [.loaded ⟨b1, 0, none⟩ (.int .i64 ((punctualref_F.f 2 0).Code)), .loaded ⟨b1, 1, none⟩ (.int .i64 ((punctualref_F.f 2 0).At))]) rfl (by kernel_rfl) ⟨hS16.cell 0 rfl rfl, hS16.cell 0 rfl rfl, trivial⟩ ⟨rfl, hS17⟩)
    · rw [if_neg hc3] at h
      refine we_known (t := 16) (b := decide ((l1.length : Int) > 20)) (v := false) (by kernel_rfl) (decide_eq_false hc3) ?_
      refine we_false (by kernel_rfl) ?_
      refine we_skip fun a hF => hK6 _ _ ?_ a hF
      refine we_seq fun K9 hK9 => ?_
      refine we_seq fun K10 hK10 => ?_
      refine we_region [(0, 0), (1, 0), (2, 0)] rfl ?_
      refine ge_batch [0, 1, 2] (ans := []) (vs := [(20, .int .i64 0), (19, .int .i64 (l1.length : Int)), (18, .slice A1 l1.length c1)]) (l := []) (by kernel_rfl) trivial ?_
      refine ge_nil fun a hF => hK10 _ _ ?_ a hF
      refine we_block ?_
      rcases hq12 : iter (punctualref_CheckFrame.r1 x0 l1) K 0 with _ | (_ | rr2)
      · rw [hq12] at h; cases h
      · rw [hq12] at h
        simp only [] at h
        refine we_iter (A := punctualref_CheckFrame.A1 K w0 x0 l1 A1 c1 hR1 hL1 b1 hc3) (B := punctualref_CheckFrame.B1 K w0 x0 l1 A1 c1 hR1 hL1 b1 hc3) hq12 (fun a hF => ⟨hS12, hF.weaken ⟨by kernel_rfl, by kernel_rfl, by kernel_rfl, by kernel_rfl, by kernel_rfl, by kernel_rfl, trivial⟩⟩) (fun s o hf a w hA Q hQ => punctualref_CheckFrame_r1 K w0 x0 l1 A1 c1 hR1 hL1 b1 hc3 s o hf a w hA Q hQ) ?_
        rintro _ a w24 _ ⟨rfl, hS65, hF⟩
        replace hS65 : St w0 w24 [Own.blk b1 (.cells #[.int .i64 0, .int .i64 0] 30 (0, 0))] := hS65
        refine hK9 [(4, .pointer (some ⟨b1, 0, none⟩))] w24 ?_ a hF
        refine we_seq fun K24 hK24 => ?_
        refine we_region [(0, 0), (1, 2)] rfl ?_
        refine ge_batch [0] (ans := []) (vs := [(79, .agg #[.int .i64 0, .int .i64 0])]) (l := []) (by kernel_rfl) trivial ?_
        refine ge_set (b := b1) (j := 0) (cs := #[.int .i64 0, .int .i64 0]) (t := 30) (vs := [.int .i64 0, .int .i64 0]) hS65 (by kernel_rfl) rfl rfl fun w25 hS66 => ?_
        have hS67 : St w0 w25 [Own.blk b1 (.cells #[.int .i64 0, .int .i64 0] 30 (0, 0))] := hS66
        refine ge_nil fun a hF => hK24 _ _ ?_ a hF
        have hS68 := hS67.takeN 0
        obtain rfl := Option.some.inj h
        exact we_ret (post_ret (rs := [.cell 4 30]) (ans := [.val (.int .i64 0), .val (.int .i64 0)]) (vs := [.agg #[.int .i64 0, .int .i64 0]]) (l := [.loaded ⟨b1, 0, none⟩ (.int .i64 0), .loaded ⟨b1, 1, none⟩ (.int .i64 0)]) rfl (by kernel_rfl) ⟨hS67.cell 0 rfl rfl, hS67.cell 0 rfl rfl, trivial⟩ ⟨rfl, hS68⟩)
      · rw [hq12] at h
        simp only [] at h
        refine we_iter (A := punctualref_CheckFrame.A1 K w0 x0 l1 A1 c1 hR1 hL1 b1 hc3) (B := punctualref_CheckFrame.B1 K w0 x0 l1 A1 c1 hR1 hL1 b1 hc3) hq12 (fun a hF => ⟨hS12, hF.weaken ⟨by kernel_rfl, by kernel_rfl, by kernel_rfl, by kernel_rfl, by kernel_rfl, by kernel_rfl, trivial⟩⟩) (fun s o hf a w hA Q hQ => punctualref_CheckFrame_r1 K w0 x0 l1 A1 c1 hR1 hL1 b1 hc3 s o hf a w hA Q hQ) ?_
        rintro _ a w1 _ ⟨rfl, hb⟩
        obtain rfl := Option.some.inj h
        exact hb
  · rw [hq3] at h
    simp only [] at h
    refine we_keep (e' := [(0, .int .i64 x0), (1, .slice A1 l1.length c1), (4, .pointer (some ⟨b1, 0, none⟩))]) ⟨by kernel_rfl, by kernel_rfl, by kernel_rfl, trivial⟩ (punctualref_CheckFrame_p0 K w0 x0 l1 A1 c1 hR1 hL1 b1 _ hq3 _ hS1 _ ?_)
    rintro _ a w1 ⟨_, rfl, hb⟩
    obtain rfl := Option.some.inj h
    exact hb

/-! punctual/punctualref.There -/
abbrev punctualref_There.Post (w0 : World) (r : Bool) (e : Ending) (w : World) : Prop := e = .returned (.bool r) ∧ St w0 w []
def punctualref_There.r0 (x0 : Int) (l1 : List SWindow) (x2 : Int) : Nat → Option (Nat ⊕ (Unit ⊕ Bool))
  | i1 =>
    if (i1 : Int) < (l1.length : Int) then
      match l1[i1]? with
      | none => none
      | some e1 =>
        if x0 = 0 then
          none
        else
          if (Int.tmod x2 x0) ≥ e1.At then
            if (Int.tmod x2 x0) < (IntKind.i64.wrap (e1.At + e1.Len)) then
              some (.inr (.inr true))
            else
              some (.inl (i1 + 1))
          else
            some (.inl (i1 + 1))
    else
      some (.inr (.inl ()))
def punctualref_There.f (K : Nat) (x0 : Int) (l1 : List SWindow) (x2 : Int) : Option Bool :=
  match iter (punctualref_There.r0 x0 l1 x2) K 0 with
  | none => none
  | some (.inl _) =>
    some false
  | some (.inr rr1) =>
    some rr1
abbrev punctualref_There.A0 (K : Nat) (w0 : World) (x0 : Int) (l1 : List SWindow) (A1 : Option Addr) (c1 : Nat) (x2 : Int) (hR1 : RdL w0 A1 l1) (hL1 : l1.length ≤ c1) : Nat → Act → World → Prop := fun (s : Nat) a w => St w0 w [] ∧ Frm 33 a [(0, .int .i64 x0), (2, .int .i64 x2), (10, .slice A1 l1.length c1), (11, .int .i64 (l1.length : Int)), (12, .int .i64 (s : Int))]
abbrev punctualref_There.B0 (K : Nat) (w0 : World) (x0 : Int) (l1 : List SWindow) (A1 : Option Addr) (c1 : Nat) (x2 : Int) (hR1 : RdL w0 A1 l1) (hL1 : l1.length ≤ c1) : (Unit ⊕ Bool) → Exit → Act → World → Prop := Exits 0 (fun (s : Unit) a w => St w0 w [] ∧ Frm 33 a []) (Rets Tryd.prog Tryd.f14 (punctualref_There.Post w0))
theorem punctualref_There_r0 (K : Nat) (w0 : World) (x0 : Int) (l1 : List SWindow) (A1 : Option Addr) (c1 : Nat) (x2 : Int) (hR1 : RdL w0 A1 l1) (hL1 : l1.length ≤ c1) (s : Nat) (o : Nat ⊕ (Unit ⊕ Bool)) (h : punctualref_There.r0 x0 l1 x2 s = some o) (a : Act) (w : World) (hA : punctualref_There.A0 K w0 x0 l1 A1 c1 x2 hR1 hL1 s a w) (Q : Exit → Act → World → Prop) (hQ : ∀ x a w, Outs (punctualref_There.A0 K w0 x0 l1 A1 c1 x2 hR1 hL1) (punctualref_There.B0 K w0 x0 l1 A1 c1 x2 hR1 hL1) o x a w → Q x a w) : (subF Tryd.f14 [1, 0, 1, 0, 0]).wp Tryd.prog Q a w := by
  obtain ⟨i1, hs⟩ : ∃ z, z = s := ⟨s, rfl⟩
  subst hs
  obtain ⟨hS, hF⟩ := hA
  replace hS : St w0 w [] := hS
  simp only [punctualref_There.r0] at h
  refine (?_ : WE Tryd.prog 33 (subF Tryd.f14 [1, 0, 1, 0, 0]) Q [(0, .int .i64 x0), (2, .int .i64 x2), (10, .slice A1 l1.length c1), (11, .int .i64 (l1.length : Int)), (12, .int .i64 (i1 : Int))] w) a hF
  clear hF a
  refine we_seq fun K4 hK4 => ?_
  refine we_region [(0, 0)] rfl ?_
  refine ge_batch [0] (ans := []) (vs := [(13, .bool (decide ((i1 : Int) < (l1.length : Int))))]) (l := []) (by kernel_rfl) trivial ?_
  refine ge_nil fun a hF => hK4 _ _ ?_ a hF
  refine we_seq fun K5 hK5 => ?_
  by_cases hc1 : (i1 : Int) < (l1.length : Int)
  · rw [if_pos hc1] at h
    refine we_known (t := 13) (b := decide ((i1 : Int) < (l1.length : Int))) (v := true) (by kernel_rfl) (decide_eq_true hc1) ?_
    refine we_true (by kernel_rfl) ?_
    refine we_skip fun a hF => hK5 _ _ ?_ a hF
    refine we_seq fun K6 hK6 => ?_
    refine we_block ?_
    refine we_seq fun K7 hK7 => ?_
    refine we_region [(0, 0), (1, 0), (2, 1), (3, 2)] rfl ?_
    rcases hx1 : l1[i1]? with _ | e1
    · rw [hx1] at h; cases h
    rw [hx1] at h
    simp only [] at h
    refine ge_index (d := 14) (ty := 0) (t := 22) (el := 27) (sz := 2) (m := l1.length) (c := c1) (x := (.tmp 10)) (y := (.tmp 12)) (A := A1) (k' := .i64) (j := (i1 : Int)) (jn := i1) (b0 := blkOf A1) (o0 := offOf A1) (by kernel_rfl) (by kernel_rfl) (by kernel_rfl) (by kernel_rfl) (by kernel_rfl) ((hS.rd hR1).eqSome (pos_of_get hx1)) rfl (lt_of_get hx1) ?_
    refine ge_batch [1] (ans := [.val (.int .i64 e1.At), .val (.int .i64 e1.Len)]) (vs := [(15, .agg #[.int .i64 e1.At, .int .i64 e1.Len])]) (l := [.loaded ⟨blkOf A1, offOf A1 + i1 * 2, none⟩ (.int .i64 e1.At), .loaded ⟨blkOf A1, offOf A1 + i1 * 2 + 1, none⟩ (.int .i64 e1.Len)]) (by kernel_rfl) ⟨RdL.cell (j := 0) (hS.rd hR1) hx1 rfl, RdL.cell (j := 1) (hS.rd hR1) hx1 rfl, trivial⟩ ?_
    refine ge_new (d := some 8) (o := .cells #[.int .i64 0, .int .i64 0] 27) (v := fun b => .pointer (some ⟨b, 0, none⟩)) hS (fun b => by kernel_rfl) fun b1 w1 hx2 hS1 => ?_
    refine ge_set (b := b1) (j := 0) (cs := #[.int .i64 0, .int .i64 0]) (t := 27) (vs := [.int .i64 e1.At, .int .i64 e1.Len]) hS1 (by kernel_rfl) rfl rfl fun w2 hS2 => ?_
    have hS3 : St w0 w2 [Own.blk b1 (.cells #[.int .i64 e1.At, .int .i64 e1.Len] 27 (0, 0))] := hS2
    refine ge_nil fun a hF => hK7 _ _ ?_ a hF
    refine we_seq fun K8 hK8 => ?_
    refine we_region [(0, 0), (1, 0), (2, 0), (3, 0)] rfl ?_
    refine ge_batch [0, 1] (ans := []) (vs := [(17, .int .i64 x0), (16, .int .i64 x2)]) (l := []) (by kernel_rfl) trivial ?_
    by_cases hc2 : x0 = 0
    · rw [if_pos hc2] at h
      cases h
    · rw [if_neg hc2] at h
      refine ge_div (d := 18) (ty := 3) (op := .rem) (x := (.tmp 16)) (y := (.tmp 17)) (t := 3) (t2 := 3) (k := .i64) (p := x2) (q := x0) (v := .int .i64 (Int.tmod x2 x0)) (by kernel_rfl) (by kernel_rfl) (by kernel_rfl) hc2 rfl ?_
      refine ge_batch [3] (ans := []) (vs := [(9, .int .i64 (Int.tmod x2 x0))]) (l := []) (by kernel_rfl) trivial ?_
      refine ge_nil fun a hF => hK8 _ _ ?_ a hF
      refine we_seq fun K9 hK9 => ?_
      refine we_region [(0, 0), (1, 0), (2, 0), (3, 0), (4, 0), (5, 0), (6, 0), (7, 0), (8, 0), (9, 0), (10, 0), (11, 0), (12, 0)] rfl ?_
      refine ge_batch [0, 1, 2, 3, 4] (ans := [.val (.int .i64 e1.At)]) (vs := [(23, .bool (decide ((Int.tmod x2 x0) ≥ e1.At))), (22, .bool (decide ((Int.tmod x2 x0) ≥ e1.At))), (21, .int .i64 e1.At), (20, .pointer (some ⟨b1, 0, none⟩)), (19, .int .i64 (Int.tmod x2 x0))]) (l := [.loaded ⟨b1, 0, none⟩ (.int .i64 e1.At)]) (by kernel_rfl) ⟨hS3.cell 0 rfl rfl, trivial⟩ ?_
      by_cases hc3 : (Int.tmod x2 x0) ≥ e1.At
      · rw [if_pos hc3] at h
        refine ge_known (t := 23) (b := decide ((Int.tmod x2 x0) ≥ e1.At)) (c := true) (by kernel_rfl) (decide_eq_true hc3) ?_
        refine ge_batch [5, 6, 7, 8, 9, 10, 11, 12] (ans := [.val (.int .i64 e1.At), .val (.int .i64 e1.Len)]) (vs := [(31, .bool (decide ((Int.tmod x2 x0) < (IntKind.i64.wrap (e1.At + e1.Len))))), (30, .bool (decide ((Int.tmod x2 x0) < (IntKind.i64.wrap (e1.At + e1.Len))))), (29, .int .i64 (IntKind.i64.wrap (e1.At + e1.Len))), (28, .int .i64 e1.Len), (27, .pointer (some ⟨b1, 1, none⟩)), (26, .int .i64 e1.At), (25, .pointer (some ⟨b1, 0, none⟩)), (24, .int .i64 (Int.tmod x2 x0))]) (l := [.loaded ⟨b1, 0, none⟩ (.int .i64 e1.At), .loaded ⟨b1, 1, none⟩ (.int .i64 e1.Len)]) (by kernel_rfl) ⟨hS3.cell 0 rfl rfl, hS3.cell 0 rfl rfl, trivial⟩ ?_
        refine ge_nil fun a hF => hK9 _ _ ?_ a hF
        by_cases hc4 : (Int.tmod x2 x0) < (IntKind.i64.wrap (e1.At + e1.Len))
        · rw [if_pos hc4] at h
          refine we_known (t := 31) (b := decide ((Int.tmod x2 x0) < (IntKind.i64.wrap (e1.At + e1.Len)))) (v := true) (by kernel_rfl) (decide_eq_true hc4) ?_
          refine we_true (by kernel_rfl) ?_
          refine we_seq fun K10 hK10 => ?_
          refine we_region [(0, 0)] rfl ?_
          refine ge_batch [0] (ans := []) (vs := [(6, .bool true)]) (l := []) (by kernel_rfl) trivial ?_
          refine ge_nil fun a hF => hK10 _ _ ?_ a hF
          have hS4 := hS3.takeN 0
          obtain rfl := Option.some.inj h
          exact we_ret fun a hF => hQ _ _ _ (Outs.out nofun (Exits.on ⟨rfl, (post_ret (rs := [.tmp 6]) (ans := []) (vs := [.bool true]) (l := []) rfl (by kernel_rfl) trivial ⟨rfl, hS4⟩) a hF⟩))
        · rw [if_neg hc4] at h
          refine we_known (t := 31) (b := decide ((Int.tmod x2 x0) < (IntKind.i64.wrap (e1.At + e1.Len)))) (v := false) (by kernel_rfl) (decide_eq_false hc4) ?_
          refine we_false (by kernel_rfl) ?_
          refine we_skip fun a hF => hK6 _ _ ?_ a hF
          refine we_region [(0, 0), (1, 0)] rfl ?_
          refine ge_addn (d := 32) (ty := 3) (x := (.tmp 12)) (y := (.const (.int .i64 1))) (t := 3) (t2 := 3) (k := .i64) (m := i1) (by kernel_rfl) (by kernel_rfl) (by kernel_rfl) (by have h0 := hR1.small; omega) ?_
          refine ge_batch [1] (ans := []) (vs := [(12, .int .i64 ((i1 + 1 : Nat) : Int))]) (l := []) (by kernel_rfl) trivial ?_
          have hS5 := hS3.takeN 0
          obtain rfl := Option.some.inj h
          exact ge_nil fun a hF => hQ _ _ _ (Outs.again ⟨hS5, hF.weaken ⟨by kernel_rfl, by kernel_rfl, by kernel_rfl, by kernel_rfl, by kernel_rfl, trivial⟩⟩)
      · rw [if_neg hc3] at h
        refine ge_known (t := 23) (b := decide ((Int.tmod x2 x0) ≥ e1.At)) (c := false) (by kernel_rfl) (decide_eq_false hc3) ?_
        refine ge_batch [5, 6, 7, 8, 9, 10, 11, 12] (ans := []) (vs := [(31, .bool false), (30, undef), (29, undef), (28, undef), (27, undef), (26, undef), (25, undef), (24, undef)]) (l := []) (by kernel_rfl) trivial ?_
        refine ge_nil fun a hF => hK9 _ _ ?_ a hF
        refine we_false (by kernel_rfl) ?_
        refine we_skip fun a hF => hK6 _ _ ?_ a hF
        refine we_region [(0, 0), (1, 0)] rfl ?_
        refine ge_addn (d := 32) (ty := 3) (x := (.tmp 12)) (y := (.const (.int .i64 1))) (t := 3) (t2 := 3) (k := .i64) (m := i1) (by kernel_rfl) (by kernel_rfl) (by kernel_rfl) (by have h0 := hR1.small; omega) ?_
        refine ge_batch [1] (ans := []) (vs := [(12, .int .i64 ((i1 + 1 : Nat) : Int))]) (l := []) (by kernel_rfl) trivial ?_
        have hS6 := hS3.takeN 0
        obtain rfl := Option.some.inj h
        exact ge_nil fun a hF => hQ _ _ _ (Outs.again ⟨hS6, hF.weaken ⟨by kernel_rfl, by kernel_rfl, by kernel_rfl, by kernel_rfl, by kernel_rfl, trivial⟩⟩)
  · rw [if_neg hc1] at h
    refine we_known (t := 13) (b := decide ((i1 : Int) < (l1.length : Int))) (v := false) (by kernel_rfl) (decide_eq_false hc1) ?_
    refine we_false (by kernel_rfl) ?_
    obtain rfl := Option.some.inj h
    exact we_exit fun a hF => hQ _ _ _ (Outs.out nofun (Exits.here ⟨hS, hF.weaken trivial⟩))
theorem punctualref_There_ok (K : Nat) (x0 : Int) (l1 : List SWindow) (A1 : Option Addr) (c1 : Nat) (x2 : Int) (w0 : World) (hR1 : RdL w0 A1 l1) (hL1 : l1.length ≤ c1) (r : Bool) (h : punctualref_There.f K x0 l1 x2 = some r) :
    Calls Tryd.prog 14 #[.int .i64 x0, .slice A1 l1.length c1, .int .i64 x2] w0 (punctualref_There.Post w0 r) := by
  have hS := St.start w0
  unfold punctualref_There.f at h
  refine calls_enter (n := 33) (args := [.int .i64 x0, .slice A1 l1.length c1, .int .i64 x2]) (fn := Tryd.f14) rfl rfl rfl rfl ?_
  show WE _ _ _ _ [(0, .int .i64 x0), (1, .slice A1 l1.length c1), (2, .int .i64 x2)] _
  refine we_seq fun K1 hK1 => ?_
  refine we_region [(0, 0)] rfl ?_
  refine ge_batch [0] (ans := []) (vs := [(6, .bool false)]) (l := []) (by kernel_rfl) trivial ?_
  refine ge_nil fun a hF => hK1 _ _ ?_ a hF
  refine we_seq fun K2 hK2 => ?_
  refine we_seq fun K3 hK3 => ?_
  refine we_region [(0, 0), (1, 0), (2, 0)] rfl ?_
  refine ge_batch [0, 1, 2] (ans := []) (vs := [(12, .int .i64 0), (11, .int .i64 (l1.length : Int)), (10, .slice A1 l1.length c1)]) (l := []) (by kernel_rfl) trivial ?_
  refine ge_nil fun a hF => hK3 _ _ ?_ a hF
  refine we_block ?_
  rcases hq1 : iter (punctualref_There.r0 x0 l1 x2) K 0 with _ | (_ | rr1)
  · rw [hq1] at h; cases h
  · rw [hq1] at h
    simp only [] at h
    refine we_iter (A := punctualref_There.A0 K w0 x0 l1 A1 c1 x2 hR1 hL1) (B := punctualref_There.B0 K w0 x0 l1 A1 c1 x2 hR1 hL1) hq1 (fun a hF => ⟨hS, hF.weaken ⟨by kernel_rfl, by kernel_rfl, by kernel_rfl, by kernel_rfl, by kernel_rfl, trivial⟩⟩) (fun s o hf a w hA Q hQ => punctualref_There_r0 K w0 x0 l1 A1 c1 x2 hR1 hL1 s o hf a w hA Q hQ) ?_
    rintro _ a w3 _ ⟨rfl, hS7, hF⟩
    replace hS7 : St w0 w3 [] := hS7
    refine hK2 [] w3 ?_ a hF
    refine we_seq fun K11 hK11 => ?_
    refine we_region [(0, 0)] rfl ?_
    refine ge_batch [0] (ans := []) (vs := [(6, .bool false)]) (l := []) (by kernel_rfl) trivial ?_
    refine ge_nil fun a hF => hK11 _ _ ?_ a hF
    obtain rfl := Option.some.inj h
    exact we_ret (post_ret (rs := [.tmp 6]) (ans := []) (vs := [.bool false]) (l := []) rfl (by kernel_rfl) trivial ⟨rfl, hS7⟩)
  · rw [hq1] at h
    simp only [] at h
    refine we_iter (A := punctualref_There.A0 K w0 x0 l1 A1 c1 x2 hR1 hL1) (B := punctualref_There.B0 K w0 x0 l1 A1 c1 x2 hR1 hL1) hq1 (fun a hF => ⟨hS, hF.weaken ⟨by kernel_rfl, by kernel_rfl, by kernel_rfl, by kernel_rfl, by kernel_rfl, trivial⟩⟩) (fun s o hf a w hA Q hQ => punctualref_There_r0 K w0 x0 l1 A1 c1 x2 hR1 hL1 s o hf a w hA Q hQ) ?_
    rintro _ a w1 _ ⟨rfl, hb⟩
    obtain rfl := Option.some.inj h
    exact hb

/-! punctual/punctualref.SupplyOf -/
abbrev punctualref_SupplyOf.Post (w0 : World) (r : Int) (e : Ending) (w : World) : Prop := e = .returned (.int .i64 r) ∧ St w0 w []
def punctualref_SupplyOf.r0 (K : Nat) (x0 : Int) (l1 : List SWindow) (x2 : Int) (x3 : Int) : Int × Int → Option ((Int × Int) ⊕ (Int ⊕ Int))
  | (z1, z2) =>
    if z2 < (IntKind.i64.wrap (x2 + x3)) then
      match punctualref_There.f K x0 l1 z2 with
      | none => none
      | some r1 =>
        if r1 = true then
          some (.inl (IntKind.i64.wrap (z1 + 1), IntKind.i64.wrap (z2 + 1)))
        else
          some (.inl (z1, IntKind.i64.wrap (z2 + 1)))
    else
      some (.inr (.inl z1))
def punctualref_SupplyOf.f (K : Nat) (x0 : Int) (l1 : List SWindow) (x2 : Int) (x3 : Int) : Option Int :=
  match iter (punctualref_SupplyOf.r0 K x0 l1 x2 x3) K (0, x2) with
  | none => none
  | some (.inl z4) =>
    some z4
  | some (.inr rr1) =>
    some rr1
abbrev punctualref_SupplyOf.A0 (K : Nat) (w0 : World) (x0 : Int) (l1 : List SWindow) (A1 : Option Addr) (c1 : Nat) (x2 : Int) (x3 : Int) (hR1 : RdL w0 A1 l1) (hL1 : l1.length ≤ c1) : (Int × Int) → Act → World → Prop := fun (s : Int × Int) a w => St w0 w [] ∧ Frm 26 a [(0, .int .i64 x0), (1, .slice A1 l1.length c1), (2, .int .i64 x2), (3, .int .i64 x3), (9, .int .i64 s.1), (10, .int .i64 s.2)]
abbrev punctualref_SupplyOf.B0 (K : Nat) (w0 : World) (x0 : Int) (l1 : List SWindow) (A1 : Option Addr) (c1 : Nat) (x2 : Int) (x3 : Int) (hR1 : RdL w0 A1 l1) (hL1 : l1.length ≤ c1) : (Int ⊕ Int) → Exit → Act → World → Prop := Exits 0 (fun (s : Int) a w => St w0 w [] ∧ Frm 26 a [(9, .int .i64 s)]) (Rets Tryd.prog Tryd.f18 (punctualref_SupplyOf.Post w0))
theorem punctualref_SupplyOf_r0 (K : Nat) (w0 : World) (x0 : Int) (l1 : List SWindow) (A1 : Option Addr) (c1 : Nat) (x2 : Int) (x3 : Int) (hR1 : RdL w0 A1 l1) (hL1 : l1.length ≤ c1) (s : Int × Int) (o : (Int × Int) ⊕ (Int ⊕ Int)) (h : punctualref_SupplyOf.r0 K x0 l1 x2 x3 s = some o) (a : Act) (w : World) (hA : punctualref_SupplyOf.A0 K w0 x0 l1 A1 c1 x2 x3 hR1 hL1 s a w) (Q : Exit → Act → World → Prop) (hQ : ∀ x a w, Outs (punctualref_SupplyOf.A0 K w0 x0 l1 A1 c1 x2 x3 hR1 hL1) (punctualref_SupplyOf.B0 K w0 x0 l1 A1 c1 x2 x3 hR1 hL1) o x a w → Q x a w) : (subF Tryd.f18 [1, 1, 0, 1, 0, 0]).wp Tryd.prog Q a w := by
  obtain ⟨z1, z2⟩ := s
  obtain ⟨hS, hF⟩ := hA
  replace hS : St w0 w [] := hS
  simp only [punctualref_SupplyOf.r0] at h
  refine (?_ : WE Tryd.prog 26 (subF Tryd.f18 [1, 1, 0, 1, 0, 0]) Q [(0, .int .i64 x0), (1, .slice A1 l1.length c1), (2, .int .i64 x2), (3, .int .i64 x3), (9, .int .i64 z1), (10, .int .i64 z2)] w) a hF
  clear hF a
  refine we_seq fun K5 hK5 => ?_
  refine we_seq fun K6 hK6 => ?_
  refine we_region [(0, 0), (1, 0), (2, 0), (3, 0), (4, 0)] rfl ?_
  refine ge_batch [0, 1, 2, 3, 4] (ans := []) (vs := [(16, .bool (decide (z2 < (IntKind.i64.wrap (x2 + x3))))), (15, .int .i64 (IntKind.i64.wrap (x2 + x3))), (14, .int .i64 x3), (13, .int .i64 x2), (12, .int .i64 z2)]) (l := []) (by kernel_rfl) trivial ?_
  refine ge_nil fun a hF => hK6 _ _ ?_ a hF
  by_cases hc1 : z2 < (IntKind.i64.wrap (x2 + x3))
  · rw [if_pos hc1] at h
    refine we_known (t := 16) (b := decide (z2 < (IntKind.i64.wrap (x2 + x3)))) (v := true) (by kernel_rfl) (decide_eq_true hc1) ?_
    refine we_true (by kernel_rfl) ?_
    refine we_skip fun a hF => hK5 _ _ ?_ a hF
    refine we_seq fun K7 hK7 => ?_
    refine we_block ?_
    refine we_seq fun K8 hK8 => ?_
    refine we_region [(0, 0), (1, 0), (2, 0), (3, 1)] rfl ?_
    rcases hq1 : punctualref_There.f K x0 l1 z2 with _ | r1
    · rw [hq1] at h; cases h
    rw [hq1] at h
    simp only [] at h
    refine ge_batch [0, 1, 2] (ans := []) (vs := [(21, .int .i64 z2), (20, .slice A1 l1.length c1), (19, .int .i64 x0)]) (l := []) (by kernel_rfl) trivial ?_
    refine ge_call (d := some 22) (f := 14) (args := #[.int .i64 x0, .slice A1 l1.length c1, .int .i64 z2]) (by kernel_rfl) (punctualref_There_ok K x0 l1 A1 c1 z2 _ (hS.rd hR1) hL1 _ hq1) ?_
    rintro _ w1 ⟨rfl, hS1⟩
    refine ⟨_, rfl, hS1.below, ?_⟩
    have hS2 := hS.call hS1
    refine ge_nil fun a hF => hK8 _ _ ?_ a hF
    by_cases hc2 : r1 = true
    · rw [if_pos hc2] at h
      refine we_known (t := 22) (b := r1) (v := true) (by kernel_rfl) hc2 ?_
      refine we_true (by kernel_rfl) ?_
      refine we_region [(0, 0), (1, 0), (2, 0)] rfl ?_
      refine ge_batch [0, 1, 2] (ans := []) (vs := [(9, .int .i64 (IntKind.i64.wrap (z1 + 1))), (24, .int .i64 (IntKind.i64.wrap (z1 + 1))), (23, .int .i64 z1)]) (l := []) (by kernel_rfl) trivial ?_
      refine ge_nil fun a hF => hK7 _ _ ?_ a hF
      refine we_region [(0, 0), (1, 0), (2, 0)] rfl ?_
      refine ge_batch [0, 1, 2] (ans := []) (vs := [(10, .int .i64 (IntKind.i64.wrap (z2 + 1))), (18, .int .i64 (IntKind.i64.wrap (z2 + 1))), (17, .int .i64 z2)]) (l := []) (by kernel_rfl) trivial ?_
      obtain rfl := Option.some.inj h
      exact ge_nil fun a hF => hQ _ _ _ (Outs.again ⟨hS2, hF.weaken ⟨by kernel_rfl, by kernel_rfl, by kernel_rfl, by kernel_rfl, by kernel_rfl, by kernel_rfl, trivial⟩⟩)
    · rw [if_neg hc2] at h
      refine we_known (t := 22) (b := r1) (v := false) (by kernel_rfl) (Bool.eq_false_iff.2 hc2) ?_
      refine we_false (by kernel_rfl) ?_
      refine we_skip fun a hF => hK7 _ _ ?_ a hF
      refine we_region [(0, 0), (1, 0), (2, 0)] rfl ?_
      refine ge_batch [0, 1, 2] (ans := []) (vs := [(10, .int .i64 (IntKind.i64.wrap (z2 + 1))), (18, .int .i64 (IntKind.i64.wrap (z2 + 1))), (17, .int .i64 z2)]) (l := []) (by kernel_rfl) trivial ?_
      obtain rfl := Option.some.inj h
      exact ge_nil fun a hF => hQ _ _ _ (Outs.again ⟨hS2, hF.weaken ⟨by kernel_rfl, by kernel_rfl, by kernel_rfl, by kernel_rfl, by kernel_rfl, by kernel_rfl, trivial⟩⟩)
  · rw [if_neg hc1] at h
    refine we_known (t := 16) (b := decide (z2 < (IntKind.i64.wrap (x2 + x3)))) (v := false) (by kernel_rfl) (decide_eq_false hc1) ?_
    refine we_false (by kernel_rfl) ?_
    obtain rfl := Option.some.inj h
    exact we_exit fun a hF => hQ _ _ _ (Outs.out nofun (Exits.here ⟨hS, hF.weaken ⟨by kernel_rfl, trivial⟩⟩))
theorem punctualref_SupplyOf_ok (K : Nat) (x0 : Int) (l1 : List SWindow) (A1 : Option Addr) (c1 : Nat) (x2 : Int) (x3 : Int) (w0 : World) (hR1 : RdL w0 A1 l1) (hL1 : l1.length ≤ c1) (r : Int) (h : punctualref_SupplyOf.f K x0 l1 x2 x3 = some r) :
    Calls Tryd.prog 18 #[.int .i64 x0, .slice A1 l1.length c1, .int .i64 x2, .int .i64 x3] w0 (punctualref_SupplyOf.Post w0 r) := by
  have hS := St.start w0
  unfold punctualref_SupplyOf.f at h
  refine calls_enter (n := 26) (args := [.int .i64 x0, .slice A1 l1.length c1, .int .i64 x2, .int .i64 x3]) (fn := Tryd.f18) rfl rfl rfl rfl ?_
  show WE _ _ _ _ [(0, .int .i64 x0), (1, .slice A1 l1.length c1), (2, .int .i64 x2), (3, .int .i64 x3)] _
  refine we_seq fun K1 hK1 => ?_
  refine we_region [(0, 0)] rfl ?_
  refine ge_batch [0] (ans := []) (vs := [(8, .int .i64 0)]) (l := []) (by kernel_rfl) trivial ?_
  refine ge_nil fun a hF => hK1 _ _ ?_ a hF
  refine we_seq fun K2 hK2 => ?_
  refine we_region [(0, 0)] rfl ?_
  refine ge_batch [0] (ans := []) (vs := [(9, .int .i64 0)]) (l := []) (by kernel_rfl) trivial ?_
  refine ge_nil fun a hF => hK2 _ _ ?_ a hF
  refine we_seq fun K3 hK3 => ?_
  refine we_seq fun K4 hK4 => ?_
  refine we_region [(0, 0), (1, 0)] rfl ?_
  refine ge_batch [0, 1] (ans := []) (vs := [(10, .int .i64 x2), (11, .int .i64 x2)]) (l := []) (by kernel_rfl) trivial ?_
  refine ge_nil fun a hF => hK4 _ _ ?_ a hF
  refine we_block ?_
  rcases hq2 : iter (punctualref_SupplyOf.r0 K x0 l1 x2 x3) K (0, x2) with _ | (z4 | rr1)
  · rw [hq2] at h; cases h
  · rw [hq2] at h
    simp only [] at h
    refine we_iter (A := punctualref_SupplyOf.A0 K w0 x0 l1 A1 c1 x2 x3 hR1 hL1) (B := punctualref_SupplyOf.B0 K w0 x0 l1 A1 c1 x2 x3 hR1 hL1) hq2 (fun a hF => ⟨hS, hF.weaken ⟨by kernel_rfl, by kernel_rfl, by kernel_rfl, by kernel_rfl, by kernel_rfl, by kernel_rfl, trivial⟩⟩) (fun s o hf a w hA Q hQ => punctualref_SupplyOf_r0 K w0 x0 l1 A1 c1 x2 x3 hR1 hL1 s o hf a w hA Q hQ) ?_
    rintro _ a w2 _ ⟨rfl, hS3, hF⟩
    replace hS3 : St w0 w2 [] := hS3
    refine hK3 [(9, .int .i64 z4)] w2 ?_ a hF
    refine we_seq fun K9 hK9 => ?_
    refine we_region [(0, 0), (1, 0)] rfl ?_
    refine ge_batch [0, 1] (ans := []) (vs := [(8, .int .i64 z4), (25, .int .i64 z4)]) (l := []) (by kernel_rfl) trivial ?_
    refine ge_nil fun a hF => hK9 _ _ ?_ a hF
    obtain rfl := Option.some.inj h
    exact we_ret (post_ret (rs := [.tmp 8]) (ans := []) (vs := [.int .i64 z4]) (l := []) rfl (by kernel_rfl) trivial ⟨rfl, hS3⟩)
  · rw [hq2] at h
    simp only [] at h
    refine we_iter (A := punctualref_SupplyOf.A0 K w0 x0 l1 A1 c1 x2 x3 hR1 hL1) (B := punctualref_SupplyOf.B0 K w0 x0 l1 A1 c1 x2 x3 hR1 hL1) hq2 (fun a hF => ⟨hS, hF.weaken ⟨by kernel_rfl, by kernel_rfl, by kernel_rfl, by kernel_rfl, by kernel_rfl, by kernel_rfl, trivial⟩⟩) (fun s o hf a w hA Q hQ => punctualref_SupplyOf_r0 K w0 x0 l1 A1 c1 x2 x3 hR1 hL1 s o hf a w hA Q hQ) ?_
    rintro _ a w1 _ ⟨rfl, hb⟩
    obtain rfl := Option.some.inj h
    exact hb

/-! punctual/punctualref.Lean -/
abbrev punctualref_Lean.Post (w0 : World) (r : List Int) (e : Ending) (w : World) : Prop := ∃ (v0 : Value), e = .returned (v0) ∧ St w0 w [Own.of v0 3 r]
def punctualref_Lean.r0 (x2 : Int) : Int × (List Int) → Option ((Int × (List Int)) ⊕ ((List Int) ⊕ (List Int)))
  | (z1, m1) =>
    if z1 < ((List.replicate ((IntKind.i64.wrap (x2 + 1)).toNat) (0 : Int)).length : Int) then
      if 0 ≤ z1 then
        match m1[(z1).toNat]? with
        | none => none
        | some e1 =>
          some (.inl (IntKind.i64.wrap (z1 + 1), (m1.set ((z1).toNat) z1)))
      else
        none
    else
      some (.inr (.inl m1))
def punctualref_Lean.r2 (K : Nat) (x0 : Int) (l1 : List SWindow) (x2 : Int) (z2 : Int) : Int × Int × (List Int) → Option ((Int × Int × (List Int)) ⊕ ((List Int) ⊕ (List Int)))
  | (z3, z4, m6) =>
    if z4 ≤ x2 then
      if 0 ≤ z4 then
        match m6[(z4).toNat]? with
        | none => none
        | some e2 =>
          if z3 < e2 then
            match punctualref_There.f K x0 l1 (IntKind.i64.wrap (z2 + z4)) with
            | none => none
            | some r1 =>
              if r1 = true then
                some (.inl (IntKind.i64.wrap (z3 + 1), IntKind.i64.wrap (z4 + 1), (m6.set ((z4).toNat) z3)))
              else
                some (.inl (z3, IntKind.i64.wrap (z4 + 1), (m6.set ((z4).toNat) z3)))
          else
            match punctualref_There.f K x0 l1 (IntKind.i64.wrap (z2 + z4)) with
            | none => none
            | some r2 =>
              if r2 = true then
                some (.inl (IntKind.i64.wrap (z3 + 1), IntKind.i64.wrap (z4 + 1), m6))
              else
                some (.inl (z3, IntKind.i64.wrap (z4 + 1), m6))
      else
        none
    else
      some (.inr (.inl m6))
def punctualref_Lean.r1 (K : Nat) (x0 : Int) (l1 : List SWindow) (x2 : Int) : Int × (List Int) → Option ((Int × (List Int)) ⊕ ((List Int) ⊕ (List Int)))
  | (z2, m4) =>
    if z2 < x0 then
      match iter (punctualref_Lean.r2 K x0 l1 x2 z2) K (0, 0, m4) with
      | none => none
      | some (.inl m8) =>
        some (.inl (IntKind.i64.wrap (z2 + 1), m8))
      | some (.inr rr1) =>
        some (.inr (.inr rr1))
    else
      some (.inr (.inl m4))
def punctualref_Lean.f (K : Nat) (x0 : Int) (l1 : List SWindow) (x2 : Int) : Option (List Int) :=
  if 0 ≤ (IntKind.i64.wrap (x2 + 1)) then
    if ((IntKind.i64.wrap (x2 + 1)).toNat) ≤ 17592186044416 then
      match iter (punctualref_Lean.r0 x2) K (0, (List.replicate ((IntKind.i64.wrap (x2 + 1)).toNat) (0 : Int))) with
      | none => none
      | some (.inl m3) =>
        match iter (punctualref_Lean.r1 K x0 l1 x2) K (0, m3) with
        | none => none
        | some (.inl m9) =>
          some m9
        | some (.inr rr2) =>
          some rr2
      | some (.inr rr3) =>
        some rr3
    else
      none
  else
    none
abbrev punctualref_Lean.A0 (K : Nat) (w0 : World) (x0 : Int) (l1 : List SWindow) (A1 : Option Addr) (c1 : Nat) (x2 : Int) (hR1 : RdL w0 A1 l1) (hL1 : l1.length ≤ c1) (hc1 : 0 ≤ (IntKind.i64.wrap (x2 + 1))) (hc2 : ((IntKind.i64.wrap (x2 + 1)).toNat) ≤ 17592186044416) (Z1 : Option Addr) (cz1 : Nat) : (Int × (List Int)) → Act → World → Prop := fun (s : Int × (List Int)) a w => St w0 w [Own.of (.slice Z1 s.2.length cz1) 3 s.2] ∧ Frm 54 a [(0, .int .i64 x0), (1, .slice A1 l1.length c1), (2, .int .i64 x2), (7, (.slice Z1 s.2.length cz1)), (16, .int .i64 ((List.replicate ((IntKind.i64.wrap (x2 + 1)).toNat) (0 : Int)).length : Int)), (17, .int .i64 s.1)]
abbrev punctualref_Lean.B0 (K : Nat) (w0 : World) (x0 : Int) (l1 : List SWindow) (A1 : Option Addr) (c1 : Nat) (x2 : Int) (hR1 : RdL w0 A1 l1) (hL1 : l1.length ≤ c1) (hc1 : 0 ≤ (IntKind.i64.wrap (x2 + 1))) (hc2 : ((IntKind.i64.wrap (x2 + 1)).toNat) ≤ 17592186044416) (Z1 : Option Addr) (cz1 : Nat) : ((List Int) ⊕ (List Int)) → Exit → Act → World → Prop := Exits 0 (fun (s : (List Int)) a w => St w0 w [Own.of (.slice Z1 s.length cz1) 3 s] ∧ Frm 54 a [(0, .int .i64 x0), (1, .slice A1 l1.length c1), (2, .int .i64 x2), (7, (.slice Z1 s.length cz1))]) (Rets Tryd.prog Tryd.f19 (punctualref_Lean.Post w0))
theorem punctualref_Lean_r0 (K : Nat) (w0 : World) (x0 : Int) (l1 : List SWindow) (A1 : Option Addr) (c1 : Nat) (x2 : Int) (hR1 : RdL w0 A1 l1) (hL1 : l1.length ≤ c1) (hc1 : 0 ≤ (IntKind.i64.wrap (x2 + 1))) (hc2 : ((IntKind.i64.wrap (x2 + 1)).toNat) ≤ 17592186044416) (Z1 : Option Addr) (cz1 : Nat) (s : Int × (List Int)) (o : (Int × (List Int)) ⊕ ((List Int) ⊕ (List Int))) (h : punctualref_Lean.r0 x2 s = some o) (a : Act) (w : World) (hA : punctualref_Lean.A0 K w0 x0 l1 A1 c1 x2 hR1 hL1 hc1 hc2 Z1 cz1 s a w) (Q : Exit → Act → World → Prop) (hQ : ∀ x a w, Outs (punctualref_Lean.A0 K w0 x0 l1 A1 c1 x2 hR1 hL1 hc1 hc2 Z1 cz1) (punctualref_Lean.B0 K w0 x0 l1 A1 c1 x2 hR1 hL1 hc1 hc2 Z1 cz1) o x a w → Q x a w) : (subF Tryd.f19 [1, 1, 0, 1, 0, 0]).wp Tryd.prog Q a w := by
  obtain ⟨z1, m1⟩ := s
  obtain ⟨hS, hF⟩ := hA
  replace hS : St w0 w [Own.of (.slice Z1 m1.length cz1) 3 m1] := hS
  simp only [punctualref_Lean.r0] at h
  refine (?_ : WE Tryd.prog 54 (subF Tryd.f19 [1, 1, 0, 1, 0, 0]) Q [(0, .int .i64 x0), (1, .slice A1 l1.length c1), (2, .int .i64 x2), (7, (.slice Z1 m1.length cz1)), (16, .int .i64 ((List.replicate ((IntKind.i64.wrap (x2 + 1)).toNat) (0 : Int)).length : Int)), (17, .int .i64 z1)] w) a hF
  clear hF a
  refine we_seq fun K5 hK5 => ?_
  refine we_region [(0, 0)] rfl ?_
  refine ge_batch [0] (ans := []) (vs := [(18, .bool (decide (z1 < ((List.replicate ((IntKind.i64.wrap (x2 + 1)).toNat) (0 : Int)).length : Int))))]) (l := []) (by kernel_rfl) trivial ?_
  refine ge_nil fun a hF => hK5 _ _ ?_ a hF
  refine we_seq fun K6 hK6 => ?_
  by_cases hc3 : z1 < ((List.replicate ((IntKind.i64.wrap (x2 + 1)).toNat) (0 : Int)).length : Int)
  · rw [if_pos hc3] at h
    refine we_known (t := 18) (b := decide (z1 < ((List.replicate ((IntKind.i64.wrap (x2 + 1)).toNat) (0 : Int)).length : Int))) (v := true) (by kernel_rfl) (decide_eq_true hc3) ?_
    refine we_true (by kernel_rfl) ?_
    refine we_skip fun a hF => hK6 _ _ ?_ a hF
    refine we_seq fun K7 hK7 => ?_
    refine we_block ?_
    refine we_seq fun K8 hK8 => ?_
    refine we_region [(0, 0), (1, 0)] rfl ?_
    refine ge_batch [0, 1] (ans := []) (vs := [(8, .int .i64 z1), (19, .int .i64 z1)]) (l := []) (by kernel_rfl) trivial ?_
    refine ge_nil fun a hF => hK8 _ _ ?_ a hF
    refine we_region [(0, 0), (1, 0), (2, 0), (3, 0), (4, 2)] rfl ?_
    refine ge_batch [0, 1, 2] (ans := []) (vs := [(22, .int .i64 z1), (21, .int .i64 z1), (20, (.slice Z1 m1.length cz1))]) (l := []) (by kernel_rfl) trivial ?_
    by_cases hc4 : 0 ≤ z1
    · rw [if_pos hc4] at h
      rcases hx1 : m1[(z1).toNat]? with _ | e1
      · rw [hx1] at h; cases h
      rw [hx1] at h
      simp only [] at h
      refine ge_index (d := 23) (ty := 0) (t := 38) (el := 3) (sz := 1) (m := m1.length) (c := cz1) (x := (.tmp 20)) (y := (.tmp 21)) (A := Z1) (k' := .i64) (j := z1) (jn := ((z1).toNat)) (b0 := blkOf Z1) (o0 := offOf Z1) (by kernel_rfl) (by kernel_rfl) (by kernel_rfl) (by kernel_rfl) (by kernel_rfl) ((hS.rdAt 0 rfl).eqSome (pos_of_get hx1)) (Int.toNat_of_nonneg hc4).symm (lt_of_get hx1) ?_
      refine ge_seti (α := Int) (A := Z1) (nn := m1.length) (c := cz1) (t := 3) (l := m1) (x := e1) (x' := z1) (jn := ((z1).toNat)) (j := 0) (vs := [.int .i64 z1]) (l' := [.stored ⟨blkOf Z1, offOf Z1 + ((z1).toNat) * 1, none⟩ (.int .i64 z1)]) hS (by kernel_rfl) (by kernel_rfl) hx1 rfl rfl rfl fun w2 hS2 => ?_
      have hS3 : St w0 w2 [Own.of (.slice Z1 m1.length cz1) 3 (m1.set ((z1).toNat) z1)] := hS2
      have hE1 : m1.length = (m1.set ((z1).toNat) z1).length := hS3.lenAt 0 rfl
      have hS4 : St w0 w2 [Own.of (.slice Z1 (m1.set ((z1).toNat) z1).length cz1) 3 (m1.set ((z1).toNat) z1)] := by rw [← hE1]; exact hS3
      refine ge_same (t := 7) (v := (.slice Z1 m1.length cz1)) (v' := (.slice Z1 (m1.set ((z1).toNat) z1).length cz1)) (by kernel_rfl) (by rw [hE1]) ?_
      refine ge_same (t := 20) (v := (.slice Z1 m1.length cz1)) (v' := (.slice Z1 (m1.set ((z1).toNat) z1).length cz1)) (by kernel_rfl) (by rw [hE1]) ?_
      refine ge_nil fun a hF => hK7 _ _ ?_ a hF
      refine we_region [(0, 0), (1, 0)] rfl ?_
      refine ge_batch [0, 1] (ans := []) (vs := [(17, .int .i64 (IntKind.i64.wrap (z1 + 1))), (24, .int .i64 (IntKind.i64.wrap (z1 + 1)))]) (l := []) (by kernel_rfl) trivial ?_
      obtain rfl := Option.some.inj h
      exact ge_nil fun a hF => hQ _ _ _ (Outs.again ⟨hS4, hF.weaken ⟨by kernel_rfl, by kernel_rfl, by kernel_rfl, by kernel_rfl, by kernel_rfl, by kernel_rfl, trivial⟩⟩)
    · rw [if_neg hc4] at h
      cases h
  · rw [if_neg hc3] at h
    refine we_known (t := 18) (b := decide (z1 < ((List.replicate ((IntKind.i64.wrap (x2 + 1)).toNat) (0 : Int)).length : Int))) (v := false) (by kernel_rfl) (decide_eq_false hc3) ?_
    refine we_false (by kernel_rfl) ?_
    obtain rfl := Option.some.inj h
    exact we_exit fun a hF => hQ _ _ _ (Outs.out nofun (Exits.here ⟨hS, hF.weaken ⟨by kernel_rfl, by kernel_rfl, by kernel_rfl, by kernel_rfl, trivial⟩⟩))
abbrev punctualref_Lean.A2 (K : Nat) (w0 : World) (x0 : Int) (l1 : List SWindow) (A1 : Option Addr) (c1 : Nat) (x2 : Int) (hR1 : RdL w0 A1 l1) (hL1 : l1.length ≤ c1) (hc1 : 0 ≤ (IntKind.i64.wrap (x2 + 1))) (hc2 : ((IntKind.i64.wrap (x2 + 1)).toNat) ≤ 17592186044416) (Z1 : Option Addr) (cz1 : Nat) (m3 : List Int) (z2 : Int) (m4 : List Int) (hc5 : z2 < x0) : (Int × Int × (List Int)) → Act → World → Prop := fun (s : Int × Int × (List Int)) a w => St w0 w [Own.of (.slice Z1 s.2.2.length cz1) 3 s.2.2] ∧ Frm 54 a [(0, .int .i64 x0), (1, .slice A1 l1.length c1), (2, .int .i64 x2), (7, (.slice Z1 s.2.2.length cz1)), (9, .int .i64 z2), (10, .int .i64 s.1), (11, .int .i64 s.2.1)]
abbrev punctualref_Lean.B2 (K : Nat) (w0 : World) (x0 : Int) (l1 : List SWindow) (A1 : Option Addr) (c1 : Nat) (x2 : Int) (hR1 : RdL w0 A1 l1) (hL1 : l1.length ≤ c1) (hc1 : 0 ≤ (IntKind.i64.wrap (x2 + 1))) (hc2 : ((IntKind.i64.wrap (x2 + 1)).toNat) ≤ 17592186044416) (Z1 : Option Addr) (cz1 : Nat) (m3 : List Int) (z2 : Int) (m4 : List Int) (hc5 : z2 < x0) : ((List Int) ⊕ (List Int)) → Exit → Act → World → Prop := Exits 4 (fun (s : (List Int)) a w => St w0 w [Own.of (.slice Z1 s.length cz1) 3 s] ∧ Frm 54 a [(0, .int .i64 x0), (1, .slice A1 l1.length c1), (2, .int .i64 x2), (7, (.slice Z1 s.length cz1)), (9, .int .i64 z2)]) (Rets Tryd.prog Tryd.f19 (punctualref_Lean.Post w0))
theorem punctualref_Lean_r2 (K : Nat) (w0 : World) (x0 : Int) (l1 : List SWindow) (A1 : Option Addr) (c1 : Nat) (x2 : Int) (hR1 : RdL w0 A1 l1) (hL1 : l1.length ≤ c1) (hc1 : 0 ≤ (IntKind.i64.wrap (x2 + 1))) (hc2 : ((IntKind.i64.wrap (x2 + 1)).toNat) ≤ 17592186044416) (Z1 : Option Addr) (cz1 : Nat) (m3 : List Int) (z2 : Int) (m4 : List Int) (hc5 : z2 < x0) (s : Int × Int × (List Int)) (o : (Int × Int × (List Int)) ⊕ ((List Int) ⊕ (List Int))) (h : punctualref_Lean.r2 K x0 l1 x2 z2 s = some o) (a : Act) (w : World) (hA : punctualref_Lean.A2 K w0 x0 l1 A1 c1 x2 hR1 hL1 hc1 hc2 Z1 cz1 m3 z2 m4 hc5 s a w) (Q : Exit → Act → World → Prop) (hQ : ∀ x a w, Outs (punctualref_Lean.A2 K w0 x0 l1 A1 c1 x2 hR1 hL1 hc1 hc2 Z1 cz1 m3 z2 m4 hc5) (punctualref_Lean.B2 K w0 x0 l1 A1 c1 x2 hR1 hL1 hc1 hc2 Z1 cz1 m3 z2 m4 hc5) o x a w → Q x a w) : (subF Tryd.f19 [1, 1, 1, 0, 1, 0, 0, 1, 0, 0, 1, 1, 0, 0]).wp Tryd.prog Q a w := by
  obtain ⟨z3, z4, m6⟩ := s
  obtain ⟨hS, hF⟩ := hA
  replace hS : St w0 w [Own.of (.slice Z1 m6.length cz1) 3 m6] := hS
  simp only [punctualref_Lean.r2] at h
  refine (?_ : WE Tryd.prog 54 (subF Tryd.f19 [1, 1, 1, 0, 1, 0, 0, 1, 0, 0, 1, 1, 0, 0]) Q [(0, .int .i64 x0), (1, .slice A1 l1.length c1), (2, .int .i64 x2), (7, (.slice Z1 m6.length cz1)), (9, .int .i64 z2), (10, .int .i64 z3), (11, .int .i64 z4)] w) a hF
  clear hF a
  refine we_seq fun K16 hK16 => ?_
  refine we_seq fun K17 hK17 => ?_
  refine we_region [(0, 0), (1, 0), (2, 0)] rfl ?_
  refine ge_batch [0, 1, 2] (ans := []) (vs := [(32, .bool (decide (z4 ≤ x2))), (31, .int .i64 x2), (30, .int .i64 z4)]) (l := []) (by kernel_rfl) trivial ?_
  refine ge_nil fun a hF => hK17 _ _ ?_ a hF
  by_cases hc6 : z4 ≤ x2
  · rw [if_pos hc6] at h
    refine we_known (t := 32) (b := decide (z4 ≤ x2)) (v := true) (by kernel_rfl) (decide_eq_true hc6) ?_
    refine we_true (by kernel_rfl) ?_
    refine we_skip fun a hF => hK16 _ _ ?_ a hF
    refine we_seq fun K18 hK18 => ?_
    refine we_block ?_
    refine we_seq fun K19 hK19 => ?_
    refine we_seq fun K20 hK20 => ?_
    refine we_region [(0, 0), (1, 0), (2, 0), (3, 0), (4, 0), (5, 0)] rfl ?_
    refine ge_batch [0, 1, 2] (ans := []) (vs := [(37, .int .i64 z4), (36, (.slice Z1 m6.length cz1)), (35, .int .i64 z3)]) (l := []) (by kernel_rfl) trivial ?_
    by_cases hc7 : 0 ≤ z4
    · rw [if_pos hc7] at h
      rcases hx2 : m6[(z4).toNat]? with _ | e2
      · rw [hx2] at h; cases h
      rw [hx2] at h
      simp only [] at h
      refine ge_index (d := 38) (ty := 0) (t := 38) (el := 3) (sz := 1) (m := m6.length) (c := cz1) (x := (.tmp 36)) (y := (.tmp 37)) (A := Z1) (k' := .i64) (j := z4) (jn := ((z4).toNat)) (b0 := blkOf Z1) (o0 := offOf Z1) (by kernel_rfl) (by kernel_rfl) (by kernel_rfl) (by kernel_rfl) (by kernel_rfl) ((hS.rdAt 0 rfl).eqSome (pos_of_get hx2)) (Int.toNat_of_nonneg hc7).symm (lt_of_get hx2) ?_
      refine ge_batch [4, 5] (ans := [.val (.int .i64 e2)]) (vs := [(40, .bool (decide (z3 < e2))), (39, .int .i64 e2)]) (l := [.loaded ⟨blkOf Z1, offOf Z1 + ((z4).toNat) * 1, none⟩ (.int .i64 e2)]) (by kernel_rfl) ⟨RdL.cell (j := 0) (hS.rdAt 0 rfl) hx2 rfl, trivial⟩ ?_
      refine ge_nil fun a hF => hK20 _ _ ?_ a hF
      by_cases hc8 : z3 < e2
      · rw [if_pos hc8] at h
        refine we_known (t := 40) (b := decide (z3 < e2)) (v := true) (by kernel_rfl) (decide_eq_true hc8) ?_
        refine we_true (by kernel_rfl) ?_
        refine we_region [(0, 0), (1, 0), (2, 0), (3, 0), (4, 2)] rfl ?_
        refine ge_batch [0, 1, 2] (ans := []) (vs := [(43, .int .i64 z3), (42, .int .i64 z4), (41, (.slice Z1 m6.length cz1))]) (l := []) (by kernel_rfl) trivial ?_
        refine ge_index (d := 44) (ty := 0) (t := 38) (el := 3) (sz := 1) (m := m6.length) (c := cz1) (x := (.tmp 41)) (y := (.tmp 42)) (A := Z1) (k' := .i64) (j := z4) (jn := ((z4).toNat)) (b0 := blkOf Z1) (o0 := offOf Z1) (by kernel_rfl) (by kernel_rfl) (by kernel_rfl) (by kernel_rfl) (by kernel_rfl) ((hS.rdAt 0 rfl).eqSome (pos_of_get hx2)) (Int.toNat_of_nonneg hc7).symm (lt_of_get hx2) ?_
        refine ge_seti (α := Int) (A := Z1) (nn := m6.length) (c := cz1) (t := 3) (l := m6) (x := e2) (x' := z3) (jn := ((z4).toNat)) (j := 0) (vs := [.int .i64 z3]) (l' := [.stored ⟨blkOf Z1, offOf Z1 + ((z4).toNat) * 1, none⟩ (.int .i64 z3)]) hS (by kernel_rfl) (by kernel_rfl) hx2 rfl rfl rfl fun w4 hS6 => ?_
        have hS7 : St w0 w4 [Own.of (.slice Z1 m6.length cz1) 3 (m6.set ((z4).toNat) z3)] := hS6
        have hE2 : m6.length = (m6.set ((z4).toNat) z3).length := hS7.lenAt 0 rfl
        have hS8 : St w0 w4 [Own.of (.slice Z1 (m6.set ((z4).toNat) z3).length cz1) 3 (m6.set ((z4).toNat) z3)] := by rw [← hE2]; exact hS7
        refine ge_same (t := 7) (v := (.slice Z1 m6.length cz1)) (v' := (.slice Z1 (m6.set ((z4).toNat) z3).length cz1)) (by kernel_rfl) (by rw [hE2]) ?_
        refine ge_same (t := 36) (v := (.slice Z1 m6.length cz1)) (v' := (.slice Z1 (m6.set ((z4).toNat) z3).length cz1)) (by kernel_rfl) (by rw [hE2]) ?_
        refine ge_same (t := 41) (v := (.slice Z1 m6.length cz1)) (v' := (.slice Z1 (m6.set ((z4).toNat) z3).length cz1)) (by kernel_rfl) (by rw [hE2]) ?_
        refine ge_nil fun a hF => hK19 _ _ ?_ a hF
        refine we_seq fun K21 hK21 => ?_
        refine we_region [(0, 0), (1, 0), (2, 0), (3, 0), (4, 0), (5, 1)] rfl ?_
        rcases hq2 : punctualref_There.f K x0 l1 (IntKind.i64.wrap (z2 + z4)) with _ | r1
        · rw [hq2] at h; cases h
        rw [hq2] at h
        simp only [] at h
        refine ge_batch [0, 1, 2, 3, 4] (ans := []) (vs := [(49, .int .i64 (IntKind.i64.wrap (z2 + z4))), (48, .int .i64 z4), (47, .int .i64 z2), (46, .slice A1 l1.length c1), (45, .int .i64 x0)]) (l := []) (by kernel_rfl) trivial ?_
        refine ge_call (d := some 50) (f := 14) (args := #[.int .i64 x0, .slice A1 l1.length c1, .int .i64 (IntKind.i64.wrap (z2 + z4))]) (by kernel_rfl) (punctualref_There_ok K x0 l1 A1 c1 (IntKind.i64.wrap (z2 + z4)) _ (hS8.rd hR1) hL1 _ hq2) ?_
        rintro _ w5 ⟨rfl, hS9⟩
        refine ⟨_, rfl, hS9.below, ?_⟩
        have hS10 := hS8.call hS9
        refine ge_nil fun a hF => hK21 _ _ ?_ a hF
        by_cases hc9 : r1 = true
        · rw [if_pos hc9] at h
          refine we_known (t := 50) (b := r1) (v := true) (by kernel_rfl) hc9 ?_
          refine we_true (by kernel_rfl) ?_
          refine we_region [(0, 0), (1, 0), (2, 0)] rfl ?_
          refine ge_batch [0, 1, 2] (ans := []) (vs := [(10, .int .i64 (IntKind.i64.wrap (z3 + 1))), (52, .int .i64 (IntKind.i64.wrap (z3 + 1))), (51, .int .i64 z3)]) (l := []) (by kernel_rfl) trivial ?_
          refine ge_nil fun a hF => hK18 _ _ ?_ a hF
          refine we_region [(0, 0), (1, 0), (2, 0)] rfl ?_
          refine ge_batch [0, 1, 2] (ans := []) (vs := [(11, .int .i64 (IntKind.i64.wrap (z4 + 1))), (34, .int .i64 (IntKind.i64.wrap (z4 + 1))), (33, .int .i64 z4)]) (l := []) (by kernel_rfl) trivial ?_
          obtain rfl := Option.some.inj h
          exact ge_nil fun a hF => hQ _ _ _ (Outs.again ⟨hS10, hF.weaken ⟨by kernel_rfl, by kernel_rfl, by kernel_rfl, by kernel_rfl, by kernel_rfl, by kernel_rfl, by kernel_rfl, trivial⟩⟩)
        · rw [if_neg hc9] at h
          refine we_known (t := 50) (b := r1) (v := false) (by kernel_rfl) (Bool.eq_false_iff.2 hc9) ?_
          refine we_false (by kernel_rfl) ?_
          refine we_skip fun a hF => hK18 _ _ ?_ a hF
          refine we_region [(0, 0), (1, 0), (2, 0)] rfl ?_
          refine ge_batch [0, 1, 2] (ans := []) (vs := [(11, .int .i64 (IntKind.i64.wrap (z4 + 1))), (34, .int .i64 (IntKind.i64.wrap (z4 + 1))), (33, .int .i64 z4)]) (l := []) (by kernel_rfl) trivial ?_
          obtain rfl := Option.some.inj h
          exact ge_nil fun a hF => hQ _ _ _ (Outs.again ⟨hS10, hF.weaken ⟨by kernel_rfl, by kernel_rfl, by kernel_rfl, by kernel_rfl, by kernel_rfl, by kernel_rfl, by kernel_rfl, trivial⟩⟩)
      · rw [if_neg hc8] at h
        refine we_known (t := 40) (b := decide (z3 < e2)) (v := false) (by kernel_rfl) (decide_eq_false hc8) ?_
        refine we_false (by kernel_rfl) ?_
        refine we_skip fun a hF => hK19 _ _ ?_ a hF
        refine we_seq fun K22 hK22 => ?_
        refine we_region [(0, 0), (1, 0), (2, 0), (3, 0), (4, 0), (5, 1)] rfl ?_
        rcases hq3 : punctualref_There.f K x0 l1 (IntKind.i64.wrap (z2 + z4)) with _ | r2
        · rw [hq3] at h; cases h
        rw [hq3] at h
        simp only [] at h
        refine ge_batch [0, 1, 2, 3, 4] (ans := []) (vs := [(49, .int .i64 (IntKind.i64.wrap (z2 + z4))), (48, .int .i64 z4), (47, .int .i64 z2), (46, .slice A1 l1.length c1), (45, .int .i64 x0)]) (l := []) (by kernel_rfl) trivial ?_
        refine ge_call (d := some 50) (f := 14) (args := #[.int .i64 x0, .slice A1 l1.length c1, .int .i64 (IntKind.i64.wrap (z2 + z4))]) (by kernel_rfl) (punctualref_There_ok K x0 l1 A1 c1 (IntKind.i64.wrap (z2 + z4)) _ (hS.rd hR1) hL1 _ hq3) ?_
        rintro _ w6 ⟨rfl, hS11⟩
        refine ⟨_, rfl, hS11.below, ?_⟩
        have hS12 := hS.call hS11
        refine ge_nil fun a hF => hK22 _ _ ?_ a hF
        by_cases hc10 : r2 = true
        · rw [if_pos hc10] at h
          refine we_known (t := 50) (b := r2) (v := true) (by kernel_rfl) hc10 ?_
          refine we_true (by kernel_rfl) ?_
          refine we_region [(0, 0), (1, 0), (2, 0)] rfl ?_
          refine ge_batch [0, 1, 2] (ans := []) (vs := [(10, .int .i64 (IntKind.i64.wrap (z3 + 1))), (52, .int .i64 (IntKind.i64.wrap (z3 + 1))), (51, .int .i64 z3)]) (l := []) (by kernel_rfl) trivial ?_
          refine ge_nil fun a hF => hK18 _ _ ?_ a hF
          refine we_region [(0, 0), (1, 0), (2, 0)] rfl ?_
          refine ge_batch [0, 1, 2] (ans := []) (vs := [(11, .int .i64 (IntKind.i64.wrap (z4 + 1))), (34, .int .i64 (IntKind.i64.wrap (z4 + 1))), (33, .int .i64 z4)]) (l := []) (by kernel_rfl) trivial ?_
          obtain rfl := Option.some.inj h
          exact ge_nil fun a hF => hQ _ _ _ (Outs.again ⟨hS12, hF.weaken ⟨by kernel_rfl, by kernel_rfl, by kernel_rfl, by kernel_rfl, by kernel_rfl, by kernel_rfl, by kernel_rfl, trivial⟩⟩)
        · rw [if_neg hc10] at h
          refine we_known (t := 50) (b := r2) (v := false) (by kernel_rfl) (Bool.eq_false_iff.2 hc10) ?_
          refine we_false (by kernel_rfl) ?_
          refine we_skip fun a hF => hK18 _ _ ?_ a hF
          refine we_region [(0, 0), (1, 0), (2, 0)] rfl ?_
          refine ge_batch [0, 1, 2] (ans := []) (vs := [(11, .int .i64 (IntKind.i64.wrap (z4 + 1))), (34, .int .i64 (IntKind.i64.wrap (z4 + 1))), (33, .int .i64 z4)]) (l := []) (by kernel_rfl) trivial ?_
          obtain rfl := Option.some.inj h
          exact ge_nil fun a hF => hQ _ _ _ (Outs.again ⟨hS12, hF.weaken ⟨by kernel_rfl, by kernel_rfl, by kernel_rfl, by kernel_rfl, by kernel_rfl, by kernel_rfl, by kernel_rfl, trivial⟩⟩)
    · rw [if_neg hc7] at h
      cases h
  · rw [if_neg hc6] at h
    refine we_known (t := 32) (b := decide (z4 ≤ x2)) (v := false) (by kernel_rfl) (decide_eq_false hc6) ?_
    refine we_false (by kernel_rfl) ?_
    obtain rfl := Option.some.inj h
    exact we_exit fun a hF => hQ _ _ _ (Outs.out nofun (Exits.here ⟨hS, hF.weaken ⟨by kernel_rfl, by kernel_rfl, by kernel_rfl, by kernel_rfl, by kernel_rfl, trivial⟩⟩))
abbrev punctualref_Lean.A1 (K : Nat) (w0 : World) (x0 : Int) (l1 : List SWindow) (A1 : Option Addr) (c1 : Nat) (x2 : Int) (hR1 : RdL w0 A1 l1) (hL1 : l1.length ≤ c1) (hc1 : 0 ≤ (IntKind.i64.wrap (x2 + 1))) (hc2 : ((IntKind.i64.wrap (x2 + 1)).toNat) ≤ 17592186044416) (Z1 : Option Addr) (cz1 : Nat) (m3 : List Int) : (Int × (List Int)) → Act → World → Prop := fun (s : Int × (List Int)) a w => St w0 w [Own.of (.slice Z1 s.2.length cz1) 3 s.2] ∧ Frm 54 a [(0, .int .i64 x0), (1, .slice A1 l1.length c1), (2, .int .i64 x2), (7, (.slice Z1 s.2.length cz1)), (9, .int .i64 s.1)]
abbrev punctualref_Lean.B1 (K : Nat) (w0 : World) (x0 : Int) (l1 : List SWindow) (A1 : Option Addr) (c1 : Nat) (x2 : Int) (hR1 : RdL w0 A1 l1) (hL1 : l1.length ≤ c1) (hc1 : 0 ≤ (IntKind.i64.wrap (x2 + 1))) (hc2 : ((IntKind.i64.wrap (x2 + 1)).toNat) ≤ 17592186044416) (Z1 : Option Addr) (cz1 : Nat) (m3 : List Int) : ((List Int) ⊕ (List Int)) → Exit → Act → World → Prop := Exits 2 (fun (s : (List Int)) a w => St w0 w [Own.of (.slice Z1 s.length cz1) 3 s] ∧ Frm 54 a [(7, (.slice Z1 s.length cz1))]) (Rets Tryd.prog Tryd.f19 (punctualref_Lean.Post w0))
theorem punctualref_Lean_r1 (K : Nat) (w0 : World) (x0 : Int) (l1 : List SWindow) (A1 : Option Addr) (c1 : Nat) (x2 : Int) (hR1 : RdL w0 A1 l1) (hL1 : l1.length ≤ c1) (hc1 : 0 ≤ (IntKind.i64.wrap (x2 + 1))) (hc2 : ((IntKind.i64.wrap (x2 + 1)).toNat) ≤ 17592186044416) (Z1 : Option Addr) (cz1 : Nat) (m3 : List Int) (s : Int × (List Int)) (o : (Int × (List Int)) ⊕ ((List Int) ⊕ (List Int))) (h : punctualref_Lean.r1 K x0 l1 x2 s = some o) (a : Act) (w : World) (hA : punctualref_Lean.A1 K w0 x0 l1 A1 c1 x2 hR1 hL1 hc1 hc2 Z1 cz1 m3 s a w) (Q : Exit → Act → World → Prop) (hQ : ∀ x a w, Outs (punctualref_Lean.A1 K w0 x0 l1 A1 c1 x2 hR1 hL1 hc1 hc2 Z1 cz1 m3) (punctualref_Lean.B1 K w0 x0 l1 A1 c1 x2 hR1 hL1 hc1 hc2 Z1 cz1 m3) o x a w → Q x a w) : (subF Tryd.f19 [1, 1, 1, 0, 1, 0, 0]).wp Tryd.prog Q a w := by
  obtain ⟨z2, m4⟩ := s
  obtain ⟨hS, hF⟩ := hA
  replace hS : St w0 w [Own.of (.slice Z1 m4.length cz1) 3 m4] := hS
  simp only [punctualref_Lean.r1] at h
  refine (?_ : WE Tryd.prog 54 (subF Tryd.f19 [1, 1, 1, 0, 1, 0, 0]) Q [(0, .int .i64 x0), (1, .slice A1 l1.length c1), (2, .int .i64 x2), (7, (.slice Z1 m4.length cz1)), (9, .int .i64 z2)] w) a hF
  clear hF a
  refine we_seq fun K11 hK11 => ?_
  refine we_seq fun K12 hK12 => ?_
  refine we_region [(0, 0), (1, 0), (2, 0)] rfl ?_
  refine ge_batch [0, 1, 2] (ans := []) (vs := [(27, .bool (decide (z2 < x0))), (26, .int .i64 x0), (25, .int .i64 z2)]) (l := []) (by kernel_rfl) trivial ?_
  refine ge_nil fun a hF => hK12 _ _ ?_ a hF
  by_cases hc5 : z2 < x0
  · rw [if_pos hc5] at h
    refine we_known (t := 27) (b := decide (z2 < x0)) (v := true) (by kernel_rfl) (decide_eq_true hc5) ?_
    refine we_true (by kernel_rfl) ?_
    refine we_skip fun a hF => hK11 _ _ ?_ a hF
    refine we_seq fun K13 hK13 => ?_
    refine we_block ?_
    refine we_seq fun K14 hK14 => ?_
    refine we_region [(0, 0)] rfl ?_
    refine ge_batch [0] (ans := []) (vs := [(10, .int .i64 0)]) (l := []) (by kernel_rfl) trivial ?_
    refine ge_nil fun a hF => hK14 _ _ ?_ a hF
    refine we_seq fun K15 hK15 => ?_
    refine we_region [(0, 0)] rfl ?_
    refine ge_batch [0] (ans := []) (vs := [(11, .int .i64 0)]) (l := []) (by kernel_rfl) trivial ?_
    refine ge_nil fun a hF => hK15 _ _ ?_ a hF
    refine we_block ?_
    rcases hq4 : iter (punctualref_Lean.r2 K x0 l1 x2 z2) K (0, 0, m4) with _ | (m8 | rr1)
    · rw [hq4] at h; cases h
    · rw [hq4] at h
      simp only [] at h
      refine we_iter (A := punctualref_Lean.A2 K w0 x0 l1 A1 c1 x2 hR1 hL1 hc1 hc2 Z1 cz1 m3 z2 m4 hc5) (B := punctualref_Lean.B2 K w0 x0 l1 A1 c1 x2 hR1 hL1 hc1 hc2 Z1 cz1 m3 z2 m4 hc5) hq4 (fun a hF => ⟨hS, hF.weaken ⟨by kernel_rfl, by kernel_rfl, by kernel_rfl, by kernel_rfl, by kernel_rfl, by kernel_rfl, by kernel_rfl, trivial⟩⟩) (fun s o hf a w hA Q hQ => punctualref_Lean_r2 K w0 x0 l1 A1 c1 x2 hR1 hL1 hc1 hc2 Z1 cz1 m3 z2 m4 hc5 s o hf a w hA Q hQ) ?_
      rintro _ a w7 _ ⟨rfl, hS13, hF⟩
      replace hS13 : St w0 w7 [Own.of (.slice Z1 m8.length cz1) 3 m8] := hS13
      refine hK13 [(0, .int .i64 x0), (1, .slice A1 l1.length c1), (2, .int .i64 x2), (7, (.slice Z1 m8.length cz1)), (9, .int .i64 z2)] w7 ?_ a hF
      refine we_region [(0, 0), (1, 0), (2, 0)] rfl ?_
      refine ge_batch [0, 1, 2] (ans := []) (vs := [(9, .int .i64 (IntKind.i64.wrap (z2 + 1))), (29, .int .i64 (IntKind.i64.wrap (z2 + 1))), (28, .int .i64 z2)]) (l := []) (by kernel_rfl) trivial ?_
      obtain rfl := Option.some.inj h
      exact ge_nil fun a hF => hQ _ _ _ (Outs.again ⟨hS13, hF.weaken ⟨by kernel_rfl, by kernel_rfl, by kernel_rfl, by kernel_rfl, by kernel_rfl, trivial⟩⟩)
    · rw [hq4] at h
      simp only [] at h
      refine we_iter (A := punctualref_Lean.A2 K w0 x0 l1 A1 c1 x2 hR1 hL1 hc1 hc2 Z1 cz1 m3 z2 m4 hc5) (B := punctualref_Lean.B2 K w0 x0 l1 A1 c1 x2 hR1 hL1 hc1 hc2 Z1 cz1 m3 z2 m4 hc5) hq4 (fun a hF => ⟨hS, hF.weaken ⟨by kernel_rfl, by kernel_rfl, by kernel_rfl, by kernel_rfl, by kernel_rfl, by kernel_rfl, by kernel_rfl, trivial⟩⟩) (fun s o hf a w hA Q hQ => punctualref_Lean_r2 K w0 x0 l1 A1 c1 x2 hR1 hL1 hc1 hc2 Z1 cz1 m3 z2 m4 hc5 s o hf a w hA Q hQ) ?_
      rintro _ a w1 _ ⟨rfl, hb⟩
      obtain rfl := Option.some.inj h
      exact hQ _ _ _ (Outs.out nofun (Exits.on ⟨rfl, hb⟩))
  · rw [if_neg hc5] at h
    refine we_known (t := 27) (b := decide (z2 < x0)) (v := false) (by kernel_rfl) (decide_eq_false hc5) ?_
    refine we_false (by kernel_rfl) ?_
    obtain rfl := Option.some.inj h
    exact we_exit fun a hF => hQ _ _ _ (Outs.out nofun (Exits.here ⟨hS, hF.weaken ⟨by kernel_rfl, trivial⟩⟩))
theorem punctualref_Lean_ok (K : Nat) (x0 : Int) (l1 : List SWindow) (A1 : Option Addr) (c1 : Nat) (x2 : Int) (w0 : World) (hR1 : RdL w0 A1 l1) (hL1 : l1.length ≤ c1) (r : List Int) (h : punctualref_Lean.f K x0 l1 x2 = some r) :
    Calls Tryd.prog 19 #[.int .i64 x0, .slice A1 l1.length c1, .int .i64 x2] w0 (punctualref_Lean.Post w0 r) := by
  have hS := St.start w0
  unfold punctualref_Lean.f at h
  refine calls_enter (n := 54) (args := [.int .i64 x0, .slice A1 l1.length c1, .int .i64 x2]) (fn := Tryd.f19) rfl rfl rfl rfl ?_
  show WE _ _ _ _ [(0, .int .i64 x0), (1, .slice A1 l1.length c1), (2, .int .i64 x2)] _
  refine we_seq fun K1 hK1 => ?_
  refine we_region [(0, 0)] rfl ?_
  refine ge_batch [0] (ans := []) (vs := [(6, .slice none 0 0)]) (l := []) (by kernel_rfl) trivial ?_
  refine ge_nil fun a hF => hK1 _ _ ?_ a hF
  refine we_seq fun K2 hK2 => ?_
  refine we_region [(0, 0), (1, 0), (2, 1), (3, 0)] rfl ?_
  refine ge_batch [0, 1] (ans := []) (vs := [(13, .int .i64 (IntKind.i64.wrap (x2 + 1))), (12, .int .i64 x2)]) (l := []) (by kernel_rfl) trivial ?_
  by_cases hc1 : 0 ≤ (IntKind.i64.wrap (x2 + 1))
  · rw [if_pos hc1] at h
    by_cases hc2 : ((IntKind.i64.wrap (x2 + 1)).toNat) ≤ 17592186044416
    · rw [if_pos hc2] at h
      refine ge_make (α := Int) (d := 14) (t := 38) (el := 3) (bytes := 8) (l := ((IntKind.i64.wrap (x2 + 1)).toNat)) (c := ((IntKind.i64.wrap (x2 + 1)).toNat)) (x := (.tmp 13)) (y := (.tmp 13)) (ty := 38) (k1 := .i64) (k2 := .i64) (li := (IntKind.i64.wrap (x2 + 1))) (ci := (IntKind.i64.wrap (x2 + 1))) (z := .int .i64 0) (z' := (0 : Int)) (by kernel_rfl) (by kernel_rfl) (by kernel_rfl) (Int.toNat_of_nonneg hc1).symm (Int.toNat_of_nonneg hc1).symm (by kernel_rfl) (by kernel_rfl) rfl hS (Nat.le_refl _) rfl (by omega) fun v1 w1 _ hS1 => ?_
      refine ge_batch [3] (ans := []) (vs := [(7, v1)]) (l := []) (by kernel_rfl) trivial ?_
      refine ge_nil fun a hF => hK2 _ _ ?_ a hF
      refine we_seq fun K3 hK3 => ?_
      refine we_seq fun K4 hK4 => ?_
      refine we_region [(0, 0), (1, 0), (2, 0)] rfl ?_
      refine ge_batch [0] (ans := []) (vs := [(15, v1)]) (l := []) (by kernel_rfl) trivial ?_
      obtain ⟨Z1, cz1, rfl⟩ := hS1.open 0 rfl
      refine ge_batch [1, 2] (ans := []) (vs := [(17, .int .i64 0), (16, .int .i64 ((List.replicate ((IntKind.i64.wrap (x2 + 1)).toNat) (0 : Int)).length : Int))]) (l := []) (by kernel_rfl) trivial ?_
      refine ge_nil fun a hF => hK4 _ _ ?_ a hF
      refine we_block ?_
      rcases hq1 : iter (punctualref_Lean.r0 x2) K (0, (List.replicate ((IntKind.i64.wrap (x2 + 1)).toNat) (0 : Int))) with _ | (m3 | rr3)
      · rw [hq1] at h; cases h
      · rw [hq1] at h
        simp only [] at h
        refine we_iter (A := punctualref_Lean.A0 K w0 x0 l1 A1 c1 x2 hR1 hL1 hc1 hc2 Z1 cz1) (B := punctualref_Lean.B0 K w0 x0 l1 A1 c1 x2 hR1 hL1 hc1 hc2 Z1 cz1) hq1 (fun a hF => ⟨hS1, hF.weaken ⟨by kernel_rfl, by kernel_rfl, by kernel_rfl, by kernel_rfl, by kernel_rfl, by kernel_rfl, trivial⟩⟩) (fun s o hf a w hA Q hQ => punctualref_Lean_r0 K w0 x0 l1 A1 c1 x2 hR1 hL1 hc1 hc2 Z1 cz1 s o hf a w hA Q hQ) ?_
        rintro _ a w3 _ ⟨rfl, hS5, hF⟩
        replace hS5 : St w0 w3 [Own.of (.slice Z1 m3.length cz1) 3 m3] := hS5
        refine hK3 [(0, .int .i64 x0), (1, .slice A1 l1.length c1), (2, .int .i64 x2), (7, (.slice Z1 m3.length cz1))] w3 ?_ a hF
        refine we_seq fun K9 hK9 => ?_
        refine we_seq fun K10 hK10 => ?_
        refine we_region [(0, 0)] rfl ?_
        refine ge_batch [0] (ans := []) (vs := [(9, .int .i64 0)]) (l := []) (by kernel_rfl) trivial ?_
        refine ge_nil fun a hF => hK10 _ _ ?_ a hF
        refine we_block ?_
        rcases hq5 : iter (punctualref_Lean.r1 K x0 l1 x2) K (0, m3) with _ | (m9 | rr2)
        · rw [hq5] at h; cases h
        · rw [hq5] at h
          simp only [] at h
          refine we_iter (A := punctualref_Lean.A1 K w0 x0 l1 A1 c1 x2 hR1 hL1 hc1 hc2 Z1 cz1 m3) (B := punctualref_Lean.B1 K w0 x0 l1 A1 c1 x2 hR1 hL1 hc1 hc2 Z1 cz1 m3) hq5 (fun a hF => ⟨hS5, hF.weaken ⟨by kernel_rfl, by kernel_rfl, by kernel_rfl, by kernel_rfl, by kernel_rfl, trivial⟩⟩) (fun s o hf a w hA Q hQ => punctualref_Lean_r1 K w0 x0 l1 A1 c1 x2 hR1 hL1 hc1 hc2 Z1 cz1 m3 s o hf a w hA Q hQ) ?_
          rintro _ a w8 _ ⟨rfl, hS14, hF⟩
          replace hS14 : St w0 w8 [Own.of (.slice Z1 m9.length cz1) 3 m9] := hS14
          refine hK9 [(7, (.slice Z1 m9.length cz1))] w8 ?_ a hF
          refine we_seq fun K23 hK23 => ?_
          refine we_region [(0, 0), (1, 0)] rfl ?_
          refine ge_batch [0, 1] (ans := []) (vs := [(6, (.slice Z1 m9.length cz1)), (53, (.slice Z1 m9.length cz1))]) (l := []) (by kernel_rfl) trivial ?_
          refine ge_nil fun a hF => hK23 _ _ ?_ a hF
          obtain rfl := Option.some.inj h
          exact we_ret (post_ret (rs := [.tmp 6]) (ans := []) (vs := [(.slice Z1 m9.length cz1)]) (l := []) rfl (by kernel_rfl) trivial ⟨(.slice Z1 m9.length cz1), rfl, hS14⟩)
        · rw [hq5] at h
          simp only [] at h
          refine we_iter (A := punctualref_Lean.A1 K w0 x0 l1 A1 c1 x2 hR1 hL1 hc1 hc2 Z1 cz1 m3) (B := punctualref_Lean.B1 K w0 x0 l1 A1 c1 x2 hR1 hL1 hc1 hc2 Z1 cz1 m3) hq5 (fun a hF => ⟨hS5, hF.weaken ⟨by kernel_rfl, by kernel_rfl, by kernel_rfl, by kernel_rfl, by kernel_rfl, trivial⟩⟩) (fun s o hf a w hA Q hQ => punctualref_Lean_r1 K w0 x0 l1 A1 c1 x2 hR1 hL1 hc1 hc2 Z1 cz1 m3 s o hf a w hA Q hQ) ?_
          rintro _ a w1 _ ⟨rfl, hb⟩
          obtain rfl := Option.some.inj h
          exact hb
      · rw [hq1] at h
        simp only [] at h
        refine we_iter (A := punctualref_Lean.A0 K w0 x0 l1 A1 c1 x2 hR1 hL1 hc1 hc2 Z1 cz1) (B := punctualref_Lean.B0 K w0 x0 l1 A1 c1 x2 hR1 hL1 hc1 hc2 Z1 cz1) hq1 (fun a hF => ⟨hS1, hF.weaken ⟨by kernel_rfl, by kernel_rfl, by kernel_rfl, by kernel_rfl, by kernel_rfl, by kernel_rfl, trivial⟩⟩) (fun s o hf a w hA Q hQ => punctualref_Lean_r0 K w0 x0 l1 A1 c1 x2 hR1 hL1 hc1 hc2 Z1 cz1 s o hf a w hA Q hQ) ?_
        rintro _ a w1 _ ⟨rfl, hb⟩
        obtain rfl := Option.some.inj h
        exact hb
    · rw [if_neg hc2] at h
      cases h
  · rw [if_neg hc1] at h
    cases h
end Go.Proofs.YtlcndfafkegjgaaDoor.GV
