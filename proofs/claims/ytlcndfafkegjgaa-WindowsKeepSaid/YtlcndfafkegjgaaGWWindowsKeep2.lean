/- Walks of single functions, written by a program of this work. -/
import Derived.Test.YtlcndfafkegjgaaGWWindowsKeep1
namespace Go.Proofs.Ytlcndfafkegjgaa.GV
open Go Go.RowKit
set_option linter.unusedVariables false
set_option linter.unusedSimpArgs false
set_option maxRecDepth 100000

/-! punctual/fixed.Response -/
abbrev fixed_Response.Post (w0 : World) (r : Int × SFault) (e : Ending) (w : World) : Prop := e = .returned (.tuple #[.int .i64 r.1, .agg #[.int .i64 r.2.Code, .int .i64 r.2.At]]) ∧ St w0 w []
def fixed_Response.p0 (l0 : List STask) (x1 : Int) (x2 : Int) : Option (Bool ⊕ (Int × SFault)) :=
    if x1 < 0 then
      some (.inl true)
    else
      if x1 ≥ (l0.length : Int) then
        some (.inl true)
      else
        if x2 < 0 then
          some (.inl true)
        else
          some (.inl (decide (x2 > 10000)))
def fixed_Response.f (K : Nat) (l0 : List STask) (x1 : Int) (x2 : Int) : Option (Int × SFault) :=
  match fixed_check.f K l0 with
  | none => none
  | some r1 =>
    if r1.Code = 0 then
      match fixed_Response.p0 l0 x1 x2 with
      | none => none
      | some (.inl q2) =>
        if q2 = true then
          some (0, (⟨3, 0⟩ : SFault))
        else
          if 0 ≤ x1 then
            match l0[(x1).toNat]? with
            | none => none
            | some e1 =>
              match fixed_above.f K l0 x1 with
              | none => none
              | some r2 =>
                match fixed_response.f K e1 r2 x2 with
                | none => none
                | some r3 =>
                  if r3 = 0 then
                    some (0, (⟨13, x1⟩ : SFault))
                  else
                    some (r3, (⟨0, 0⟩ : SFault))
          else
            none
      | some (.inr rr1) =>
        some rr1
    else
      some (0, r1)
abbrev fixed_Response.A0 (K : Nat) (w0 : World) (l0 : List STask) (A0 : Option Addr) (c0 : Nat) (x1 : Int) (x2 : Int) (hR0 : RdL w0 A0 l0) (hL0 : l0.length ≤ c0) (b1 : Nat) (r1 : SFault) (b2 : Nat) (hc1 : r1.Code = 0) : Bool → Act → World → Prop := fun (s : Bool) a w => St w0 w [Own.blk b1 (.cells #[.int .i64 0, .int .i64 0] 31 (0, 0))] ∧ Frm 48 a [(0, .slice A0 l0.length c0), (1, .int .i64 x1), (2, .int .i64 x2), (7, .pointer (some ⟨b1, 0, none⟩)), (31, .bool s)]
abbrev fixed_Response.B0 (K : Nat) (w0 : World) (l0 : List STask) (A0 : Option Addr) (c0 : Nat) (x1 : Int) (x2 : Int) (hR0 : RdL w0 A0 l0) (hL0 : l0.length ≤ c0) (b1 : Nat) (r1 : SFault) (b2 : Nat) (hc1 : r1.Code = 0) : (Int × SFault) → Exit → Act → World → Prop := Rets Try.prog Try.f56 (fixed_Response.Post w0)
theorem fixed_Response_p0 (K : Nat) (w0 : World) (l0 : List STask) (A0 : Option Addr) (c0 : Nat) (x1 : Int) (x2 : Int) (hR0 : RdL w0 A0 l0) (hL0 : l0.length ≤ c0) (b1 : Nat) (r1 : SFault) (b2 : Nat) (hc1 : r1.Code = 0) (o : Bool ⊕ (Int × SFault)) (h : fixed_Response.p0 l0 x1 x2 = some o) (w : World) (hS : St w0 w [Own.blk b2 (.cells #[.int .i64 r1.Code, .int .i64 r1.At] 31 (0, 0)), Own.blk b1 (.cells #[.int .i64 0, .int .i64 0] 31 (0, 0))]) (Q : Exit → Act → World → Prop) (hQ : ∀ x a w, Outs (fixed_Response.A0 K w0 l0 A0 c0 x1 x2 hR0 hL0 b1 r1 b2 hc1) (fixed_Response.B0 K w0 l0 A0 c0 x1 x2 hR0 hL0 b1 r1 b2 hc1) o x a w → Q x a w) : WE Try.prog 48 (subF Try.f56 [1, 1, 0, 0]) Q [(0, .slice A0 l0.length c0), (1, .int .i64 x1), (2, .int .i64 x2), (6, .int .i64 0), (7, .pointer (some ⟨b1, 0, none⟩)), (8, .pointer (some ⟨b2, 0, none⟩)), (10, .slice A0 l0.length c0), (11, .agg #[.int .i64 r1.Code, .int .i64 r1.At]), (12, .pointer (some ⟨b2, 0, none⟩)), (13, .int .i64 r1.Code), (14, .bool false)] w := by
  simp only [fixed_Response.p0] at h
  refine we_region [(0, 0), (1, 0), (2, 0), (3, 0), (4, 0), (5, 0), (6, 0), (7, 0), (8, 0), (9, 0), (10, 0), (11, 0), (12, 0), (13, 0), (14, 0), (15, 0)] rfl ?_
  refine ge_batch [0, 1, 2] (ans := []) (vs := [(18, .bool (decide (x1 < 0))), (17, .bool (decide (x1 < 0))), (16, .int .i64 x1)]) (l := []) (by kernel_rfl) trivial ?_
  by_cases hc2 : x1 < 0
  · rw [if_pos hc2] at h
    refine ge_known (t := 18) (b := decide (x1 < 0)) (c := true) (by kernel_rfl) (decide_eq_true hc2) ?_
    refine ge_batch [3, 4, 5, 6, 7, 8, 9, 10, 11, 12, 13, 14, 15] (ans := []) (vs := [(31, .bool true), (30, undef), (29, undef), (28, .bool true), (27, .bool true), (26, undef), (25, undef), (24, .bool true), (23, .bool true), (22, undef), (21, undef), (20, undef), (19, undef)]) (l := []) (by kernel_rfl) trivial ?_
    have hS7 := hS.bring 1 rfl
    have hS8 := hS7.takeN 1
    obtain rfl := Option.some.inj h
    exact ge_nil fun a hF => hQ _ _ _ (Outs.again ⟨hS8, hF.weaken ⟨by kernel_rfl, by kernel_rfl, by kernel_rfl, by kernel_rfl, by kernel_rfl, trivial⟩⟩)
  · rw [if_neg hc2] at h
    refine ge_known (t := 18) (b := decide (x1 < 0)) (c := false) (by kernel_rfl) (decide_eq_false hc2) ?_
    refine ge_batch [3, 4, 5, 6, 7, 8] (ans := []) (vs := [(24, .bool (decide (x1 ≥ (l0.length : Int)))), (23, .bool (decide (x1 ≥ (l0.length : Int)))), (22, .bool (decide (x1 ≥ (l0.length : Int)))), (21, .int .i64 (l0.length : Int)), (20, .slice A0 l0.length c0), (19, .int .i64 x1)]) (l := []) (by kernel_rfl) trivial ?_
    by_cases hc3 : x1 ≥ (l0.length : Int)
    · rw [if_pos hc3] at h
      refine ge_known (t := 24) (b := decide (x1 ≥ (l0.length : Int))) (c := true) (by kernel_rfl) (decide_eq_true hc3) ?_
      refine ge_batch [9, 10, 11, 12, 13, 14, 15] (ans := []) (vs := [(31, .bool true), (30, undef), (29, undef), (28, .bool true), (27, .bool true), (26, undef), (25, undef)]) (l := []) (by kernel_rfl) trivial ?_
      have hS9 := hS.bring 1 rfl
      have hS10 := hS9.takeN 1
      obtain rfl := Option.some.inj h
      exact ge_nil fun a hF => hQ _ _ _ (Outs.again ⟨hS10, hF.weaken ⟨by kernel_rfl, by kernel_rfl, by kernel_rfl, by kernel_rfl, by kernel_rfl, trivial⟩⟩)
    · rw [if_neg hc3] at h
      refine ge_known (t := 24) (b := decide (x1 ≥ (l0.length : Int))) (c := false) (by kernel_rfl) (decide_eq_false hc3) ?_
      refine ge_batch [9, 10, 11, 12] (ans := []) (vs := [(28, .bool (decide (x2 < 0))), (27, .bool (decide (x2 < 0))), (26, .bool (decide (x2 < 0))), (25, .int .i64 x2)]) (l := []) (by kernel_rfl) trivial ?_
      by_cases hc4 : x2 < 0
      · rw [if_pos hc4] at h
        refine ge_known (t := 28) (b := decide (x2 < 0)) (c := true) (by kernel_rfl) (decide_eq_true hc4) ?_
        refine ge_batch [13, 14, 15] (ans := []) (vs := [(31, .bool true), (30, undef), (29, undef)]) (l := []) (by kernel_rfl) trivial ?_
        have hS11 := hS.bring 1 rfl
        have hS12 := hS11.takeN 1
        obtain rfl := Option.some.inj h
        exact ge_nil fun a hF => hQ _ _ _ (Outs.again ⟨hS12, hF.weaken ⟨by kernel_rfl, by kernel_rfl, by kernel_rfl, by kernel_rfl, by kernel_rfl, trivial⟩⟩)
      · rw [if_neg hc4] at h
        refine ge_known (t := 28) (b := decide (x2 < 0)) (c := false) (by kernel_rfl) (decide_eq_false hc4) ?_
        refine ge_batch [13, 14, 15] (ans := []) (vs := [(31, .bool (decide (x2 > 10000))), (30, .bool (decide (x2 > 10000))), (29, .int .i64 x2)]) (l := []) (by kernel_rfl) trivial ?_
        have hS13 := hS.bring 1 rfl
        have hS14 := hS13.takeN 1
        obtain rfl := Option.some.inj h
        exact ge_nil fun a hF => hQ _ _ _ (Outs.again ⟨hS14, hF.weaken ⟨by kernel_rfl, by kernel_rfl, by kernel_rfl, by kernel_rfl, by kernel_rfl, trivial⟩⟩)
theorem fixed_Response_ok (K : Nat) (l0 : List STask) (A0 : Option Addr) (c0 : Nat) (x1 : Int) (x2 : Int) (w0 : World) (hR0 : RdL w0 A0 l0) (hL0 : l0.length ≤ c0) (r : Int × SFault) (h : fixed_Response.f K l0 x1 x2 = some r) :
    Calls Try.prog 56 #[.slice A0 l0.length c0, .int .i64 x1, .int .i64 x2] w0 (fixed_Response.Post w0 r) := by
  have hS := St.start w0
  unfold fixed_Response.f at h
  refine calls_enter (n := 48) (args := [.slice A0 l0.length c0, .int .i64 x1, .int .i64 x2]) (fn := Try.f56) rfl rfl rfl rfl ?_
  show WE _ _ _ _ [(0, .slice A0 l0.length c0), (1, .int .i64 x1), (2, .int .i64 x2)] _
  refine we_seq fun K1 hK1 => ?_
  refine we_region [(0, 0), (1, 1)] rfl ?_
  refine ge_batch [0] (ans := []) (vs := [(6, .int .i64 0)]) (l := []) (by kernel_rfl) trivial ?_
  refine ge_new (d := some 7) (o := .cells #[.int .i64 0, .int .i64 0] 31) (v := fun b => .pointer (some ⟨b, 0, none⟩)) hS (fun b => by kernel_rfl) fun b1 w1 hx1 hS1 => ?_
  refine ge_nil fun a hF => hK1 _ _ ?_ a hF
  refine we_seq fun K2 hK2 => ?_
  refine we_seq fun K3 hK3 => ?_
  refine we_region [(0, 0), (1, 1), (2, 1), (3, 2)] rfl ?_
  rcases hq1 : fixed_check.f K l0 with _ | r1
  · rw [hq1] at h; cases h
  rw [hq1] at h
  simp only [] at h
  refine ge_batch [0] (ans := []) (vs := [(10, .slice A0 l0.length c0)]) (l := []) (by kernel_rfl) trivial ?_
  refine ge_call (d := some 11) (f := 92) (args := #[.slice A0 l0.length c0]) (by kernel_rfl) (fixed_check_ok K l0 A0 c0 _ (hS1.rd hR0) hL0 _ hq1) ?_
  rintro _ w2 ⟨rfl, hS2⟩
  refine ⟨_, rfl, hS2.below, ?_⟩
  have hS3 := hS1.call hS2
  refine ge_new (d := some 8) (o := .cells #[.int .i64 0, .int .i64 0] 31) (v := fun b => .pointer (some ⟨b, 0, none⟩)) hS3 (fun b => by kernel_rfl) fun b2 w3 hx2 hS4 => ?_
  refine ge_set (b := b2) (j := 0) (cs := #[.int .i64 0, .int .i64 0]) (t := 31) (vs := [.int .i64 r1.Code, .int .i64 r1.At]) hS4 (by kernel_rfl) rfl rfl fun w4 hS5 => ?_
  have hS6 : St w0 w4 [Own.blk b2 (.cells #[.int .i64 r1.Code, .int .i64 r1.At] 31 (0, 0)), Own.blk b1 (.cells #[.int .i64 0, .int .i64 0] 31 (0, 0))] := hS5
  refine ge_nil fun a hF => hK3 _ _ ?_ a hF
  refine we_seq fun K4 hK4 => ?_
  refine we_region [(0, 0), (1, 0), (2, 0)] rfl ?_
  refine ge_batch [0, 1, 2] (ans := [.val (.int .i64 r1.Code)]) (vs := [(14, .bool (r1.Code != 0)), (13, .int .i64 r1.Code), (12, .pointer (some ⟨b2, 0, none⟩))]) (l := [.loaded ⟨b2, 0, none⟩ (.int .i64 r1.Code)]) (by kernel_rfl) ⟨hS6.cell 0 rfl rfl, trivial⟩ ?_
  refine ge_nil fun a hF => hK4 _ _ ?_ a hF
  by_cases hc1 : r1.Code = 0
  · rw [if_pos hc1] at h
    refine we_known (t := 14) (b := (r1.Code != 0)) (v := false) (by kernel_rfl) (bne_eq_false_iff_eq.2 hc1) ?_
    refine we_false (by kernel_rfl) ?_
    refine we_skip fun a hF => hK2 _ _ ?_ a hF
    refine we_seq fun K5 hK5 => ?_
    refine we_seq fun K6 hK6 => ?_
    rcases hq2 : fixed_Response.p0 l0 x1 x2 with _ | (q2 | rr1)
    · rw [hq2] at h; cases h
    · rw [hq2] at h
      simp only [] at h
      refine we_keep (e' := [(0, .slice A0 l0.length c0), (1, .int .i64 x1), (2, .int .i64 x2), (6, .int .i64 0), (7, .pointer (some ⟨b1, 0, none⟩)), (8, .pointer (some ⟨b2, 0, none⟩)), (10, .slice A0 l0.length c0), (11, .agg #[.int .i64 r1.Code, .int .i64 r1.At]), (12, .pointer (some ⟨b2, 0, none⟩)), (13, .int .i64 r1.Code), (14, .bool false)]) ⟨by kernel_rfl, by kernel_rfl, by kernel_rfl, by kernel_rfl, by kernel_rfl, by kernel_rfl, by kernel_rfl, by kernel_rfl, by kernel_rfl, by kernel_rfl, by kernel_rfl, trivial⟩ (fixed_Response_p0 K w0 l0 A0 c0 x1 x2 hR0 hL0 b1 r1 b2 hc1 _ hq2 _ hS6 _ ?_)
      rintro _ a w5 ⟨rfl, hS15, hF⟩
      replace hS15 : St w0 w5 [Own.blk b1 (.cells #[.int .i64 0, .int .i64 0] 31 (0, 0))] := hS15
      refine hK6 [(0, .slice A0 l0.length c0), (1, .int .i64 x1), (2, .int .i64 x2), (7, .pointer (some ⟨b1, 0, none⟩)), (31, .bool q2)] w5 ?_ a hF
      by_cases hc5 : q2 = true
      · rw [if_pos hc5] at h
        refine we_known (t := 31) (b := q2) (v := true) (by kernel_rfl) hc5 ?_
        refine we_true (by kernel_rfl) ?_
        refine we_seq fun K7 hK7 => ?_
        refine we_region [(0, 0), (1, 0), (2, 2)] rfl ?_
        refine ge_batch [0, 1] (ans := []) (vs := [(6, .int .i64 0), (32, .agg #[.int .i64 3, .int .i64 0])]) (l := []) (by kernel_rfl) trivial ?_
        refine ge_set (b := b1) (j := 0) (cs := #[.int .i64 0, .int .i64 0]) (t := 31) (vs := [.int .i64 3, .int .i64 0]) hS15 (by kernel_rfl) rfl rfl fun w6 hS16 => ?_
        have hS17 : St w0 w6 [Own.blk b1 (.cells #[.int .i64 3, .int .i64 0] 31 (0, 0))] := hS16
        refine ge_nil fun a hF => hK7 _ _ ?_ a hF
        have hS18 := hS17.takeN 0
        obtain rfl := Option.some.inj h
        exact we_ret (post_ret (rs := [.tmp 6, .cell 7 31]) (ans := [.val (.int .i64 3), .val (.int .i64 0)]) (vs := [.int .i64 0, .agg #[.int .i64 3, .int .i64 0]]) (l := [.loaded ⟨b1, 0, none⟩ (.int .i64 3), .loaded ⟨b1, 1, none⟩ (.int .i64 0)]) rfl (by kernel_rfl) ⟨hS17.cell 0 rfl rfl, hS17.cell 0 rfl rfl, trivial⟩ ⟨rfl, hS18⟩)
      · rw [if_neg hc5] at h
        refine we_known (t := 31) (b := q2) (v := false) (by kernel_rfl) (Bool.eq_false_iff.2 hc5) ?_
        refine we_false (by kernel_rfl) ?_
        refine we_skip fun a hF => hK5 _ _ ?_ a hF
        refine we_seq fun K8 hK8 => ?_
        refine we_draws (by kernel_rfl) [(0, 0), (1, 0), (2, 0), (3, 0), (4, 0), (5, 0), (7, 0), (6, 1), (8, 1), (9, 0)] (by kernel_rfl) ?_
        have hS19 := hS15.drew
        refine ge_batch [0, 1] (ans := []) (vs := [(34, .int .i64 x1), (33, .slice A0 l0.length c0)]) (l := []) (by kernel_rfl) trivial ?_
        by_cases hc6 : 0 ≤ x1
        · rw [if_pos hc6] at h
          rcases hx3 : l0[(x1).toNat]? with _ | e1
          · rw [hx3] at h; cases h
          rw [hx3] at h
          simp only [] at h
          refine ge_index (d := 35) (ty := 0) (t := 22) (el := 102) (sz := 7) (m := l0.length) (c := c0) (x := (.tmp 33)) (y := (.tmp 34)) (A := A0) (k' := .i64) (j := x1) (jn := ((x1).toNat)) (b0 := blkOf A0) (o0 := offOf A0) (by kernel_rfl) (by kernel_rfl) (by kernel_rfl) (by kernel_rfl) (by kernel_rfl) ((hS19.rd hR0).eqSome (pos_of_get hx3)) (Int.toNat_of_nonneg hc6).symm (lt_of_get hx3) ?_
          rcases hq3 : fixed_above.f K l0 x1 with _ | r2
          · rw [hq3] at h; cases h
          rw [hq3] at h
          simp only [] at h
          refine ge_batch [3, 4, 5, 7] (ans := [.val (.string e1.Name), .val (.int .i64 e1.C), .val (.int .i64 e1.T), .val (.int .i64 e1.D), .val (.int .i64 e1.J), .val (.int .i64 e1.O), .val (.int .i64 e1.P)]) (vs := [(40, .int .i64 x2), (38, .int .i64 x1), (37, .slice A0 l0.length c0), (36, .agg #[.string e1.Name, .int .i64 e1.C, .int .i64 e1.T, .int .i64 e1.D, .int .i64 e1.J, .int .i64 e1.O, .int .i64 e1.P])]) (l := [.loaded ⟨blkOf A0, offOf A0 + ((x1).toNat) * 7, none⟩ (.string e1.Name), .loaded ⟨blkOf A0, offOf A0 + ((x1).toNat) * 7 + 1, none⟩ (.int .i64 e1.C), .loaded ⟨blkOf A0, offOf A0 + ((x1).toNat) * 7 + 2, none⟩ (.int .i64 e1.T), .loaded ⟨blkOf A0, offOf A0 + ((x1).toNat) * 7 + 3, none⟩ (.int .i64 e1.D), .loaded ⟨blkOf A0, offOf A0 + ((x1).toNat) * 7 + 4, none⟩ (.int .i64 e1.J), .loaded ⟨blkOf A0, offOf A0 + ((x1).toNat) * 7 + 5, none⟩ (.int .i64 e1.O), .loaded ⟨blkOf A0, offOf A0 + ((x1).toNat) * 7 + 6, none⟩ (.int .i64 e1.P)]) (by kernel_rfl) ⟨RdL.cell (j := 0) (hS19.rd hR0) hx3 rfl, RdL.cell (j := 1) (hS19.rd hR0) hx3 rfl, RdL.cell (j := 2) (hS19.rd hR0) hx3 rfl, RdL.cell (j := 3) (hS19.rd hR0) hx3 rfl, RdL.cell (j := 4) (hS19.rd hR0) hx3 rfl, RdL.cell (j := 5) (hS19.rd hR0) hx3 rfl, RdL.cell (j := 6) (hS19.rd hR0) hx3 rfl, trivial⟩ ?_
          refine ge_call (d := some 39) (f := 94) (args := #[.slice A0 l0.length c0, .int .i64 x1]) (by kernel_rfl) (fixed_above_ok K l0 A0 c0 x1 _ (hS19.rd hR0) hL0 _ hq3) ?_
          rintro _ w7 ⟨v1, rfl, hS20⟩
          refine ⟨_, rfl, hS20.below, ?_⟩
          have hS21 := hS19.call hS20
          obtain ⟨Z1, cz1, rfl⟩ := hS21.open 0 rfl
          rcases hq4 : fixed_response.f K e1 r2 x2 with _ | r3
          · rw [hq4] at h; cases h
          rw [hq4] at h
          simp only [] at h
          refine ge_call (d := some 41) (f := 93) (args := #[.agg #[.string e1.Name, .int .i64 e1.C, .int .i64 e1.T, .int .i64 e1.D, .int .i64 e1.J, .int .i64 e1.O, .int .i64 e1.P], (.slice Z1 r2.length cz1), .int .i64 x2]) (by kernel_rfl) (fixed_response_ok K e1 r2 Z1 cz1 x2 _ (hS21.rdAt 0 rfl) (hS21.capAt 0 rfl) _ hq4) ?_
          rintro _ w8 ⟨rfl, hS22⟩
          refine ⟨_, rfl, hS22.below, ?_⟩
          have hS23 := hS21.call hS22
          refine ge_batch [9] (ans := []) (vs := [(9, .int .i64 r3)]) (l := []) (by kernel_rfl) trivial ?_
          refine ge_nil fun a hF => hK8 _ _ ?_ a hF
          refine we_seq fun K9 hK9 => ?_
          refine we_seq fun K10 hK10 => ?_
          refine we_region [(0, 0), (1, 0)] rfl ?_
          refine ge_batch [0, 1] (ans := []) (vs := [(43, .bool (r3 == 0)), (42, .int .i64 r3)]) (l := []) (by kernel_rfl) trivial ?_
          refine ge_nil fun a hF => hK10 _ _ ?_ a hF
          by_cases hc7 : r3 = 0
          · rw [if_pos hc7] at h
            refine we_known (t := 43) (b := (r3 == 0)) (v := true) (by kernel_rfl) (beq_iff_eq.2 hc7) ?_
            refine we_true (by kernel_rfl) ?_
            refine we_seq fun K11 hK11 => ?_
            refine we_region [(0, 0), (1, 0), (2, 0), (3, 2)] rfl ?_
            refine ge_batch [0, 1, 2] (ans := []) (vs := [(6, .int .i64 0), (45, .agg #[.int .i64 13, .int .i64 x1]), (44, .int .i64 x1)]) (l := []) (by kernel_rfl) trivial ?_
            have hS24 := hS23.bring 1 rfl
            refine ge_set (b := b1) (j := 0) (cs := #[.int .i64 0, .int .i64 0]) (t := 31) (vs := [.int .i64 13, .int .i64 x1]) hS24 (by kernel_rfl) rfl rfl fun w9 hS25 => ?_
            have hS26 : St w0 w9 [Own.blk b1 (.cells #[.int .i64 13, .int .i64 x1] 31 (0, 0)), Own.of (.slice Z1 r2.length cz1) 102 r2] := hS25
            refine ge_nil fun a hF => hK11 _ _ ?_ a hF
            have hS27 := hS26.takeN 0
            obtain rfl := Option.some.inj h
            exact we_ret (post_ret (rs := [.tmp 6, .cell 7 31]) (ans := [.val (.int .i64 13), .val (.int .i64 x1)]) (vs := [.int .i64 0, .agg #[.int .i64 13, .int .i64 x1]]) (l := [.loaded ⟨b1, 0, none⟩ (.int .i64 13), .loaded ⟨b1, 1, none⟩ (.int .i64 x1)]) rfl (by kernel_rfl) ⟨hS26.cell 0 rfl rfl, hS26.cell 0 rfl rfl, trivial⟩ ⟨rfl, hS27⟩)
          · rw [if_neg hc7] at h
            refine we_known (t := 43) (b := (r3 == 0)) (v := false) (by kernel_rfl) (beq_eq_false_iff_ne.2 hc7) ?_
            refine we_false (by kernel_rfl) ?_
            refine we_skip fun a hF => hK9 _ _ ?_ a hF
            refine we_seq fun K12 hK12 => ?_
            refine we_region [(0, 0), (1, 0), (2, 0), (3, 2)] rfl ?_
            refine ge_batch [0, 1, 2] (ans := []) (vs := [(6, .int .i64 r3), (47, .agg #[.int .i64 0, .int .i64 0]), (46, .int .i64 r3)]) (l := []) (by kernel_rfl) trivial ?_
            have hS28 := hS23.bring 1 rfl
            refine ge_set (b := b1) (j := 0) (cs := #[.int .i64 0, .int .i64 0]) (t := 31) (vs := [.int .i64 0, .int .i64 0]) hS28 (by kernel_rfl) rfl rfl fun w10 hS29 => ?_
            have hS30 : St w0 w10 [Own.blk b1 (.cells #[.int .i64 0, .int .i64 0] 31 (0, 0)), Own.of (.slice Z1 r2.length cz1) 102 r2] := hS29
            refine ge_nil fun a hF => hK12 _ _ ?_ a hF
            have hS31 := hS30.takeN 0
            obtain rfl := Option.some.inj h
            exact we_ret (post_ret (rs := [.tmp 6, .cell 7 31]) (ans := [.val (.int .i64 0), .val (.int .i64 0)]) (vs := [.int .i64 r3, .agg #[.int .i64 0, .int .i64 0]]) (l := [.loaded ⟨b1, 0, none⟩ (.int .i64 0), .loaded ⟨b1, 1, none⟩ (.int .i64 0)]) rfl (by kernel_rfl) ⟨hS30.cell 0 rfl rfl, hS30.cell 0 rfl rfl, trivial⟩ ⟨rfl, hS31⟩)
        · rw [if_neg hc6] at h
          cases h
    · rw [hq2] at h
      simp only [] at h
      refine we_keep (e' := [(0, .slice A0 l0.length c0), (1, .int .i64 x1), (2, .int .i64 x2), (6, .int .i64 0), (7, .pointer (some ⟨b1, 0, none⟩)), (8, .pointer (some ⟨b2, 0, none⟩)), (10, .slice A0 l0.length c0), (11, .agg #[.int .i64 r1.Code, .int .i64 r1.At]), (12, .pointer (some ⟨b2, 0, none⟩)), (13, .int .i64 r1.Code), (14, .bool false)]) ⟨by kernel_rfl, by kernel_rfl, by kernel_rfl, by kernel_rfl, by kernel_rfl, by kernel_rfl, by kernel_rfl, by kernel_rfl, by kernel_rfl, by kernel_rfl, by kernel_rfl, trivial⟩ (fixed_Response_p0 K w0 l0 A0 c0 x1 x2 hR0 hL0 b1 r1 b2 hc1 _ hq2 _ hS6 _ ?_)
      rintro _ a w1 ⟨_, rfl, hb⟩
      obtain rfl := Option.some.inj h
      exact hb
  · rw [if_neg hc1] at h
    refine we_known (t := 14) (b := (r1.Code != 0)) (v := true) (by kernel_rfl) (bne_iff_ne.2 hc1) ?_
    refine we_true (by kernel_rfl) ?_
    refine we_seq fun K13 hK13 => ?_
    refine we_draws (by kernel_rfl) [(0, 0), (1, 0), (2, 2)] (by kernel_rfl) ?_
    have hS32 := hS6.drew
    refine ge_batch [0, 1] (ans := [.val (.int .i64 r1.Code), .val (.int .i64 r1.At)]) (vs := [(6, .int .i64 0), (15, .agg #[.int .i64 r1.Code, .int .i64 r1.At])]) (l := [.loaded ⟨b2, 0, none⟩ (.int .i64 r1.Code), .loaded ⟨b2, 1, none⟩ (.int .i64 r1.At)]) (by kernel_rfl) ⟨hS32.cell 0 rfl rfl, hS32.cell 0 rfl rfl, trivial⟩ ?_
    have hS33 := hS32.bring 1 rfl
    refine ge_set (b := b1) (j := 0) (cs := #[.int .i64 0, .int .i64 0]) (t := 31) (vs := [.int .i64 r1.Code, .int .i64 r1.At]) hS33 (by kernel_rfl) rfl rfl fun w11 hS34 => ?_
    have hS35 : St w0 w11 [Own.blk b1 (.cells #[.int .i64 r1.Code, .int .i64 r1.At] 31 (0, 0)), Own.blk b2 (.cells #[.int .i64 r1.Code, .int .i64 r1.At] 31 (0, 0))] := hS34
    refine ge_nil fun a hF => hK13 _ _ ?_ a hF
    have hS36 := hS35.takeN 0
    obtain rfl := Option.some.inj h
    exact we_ret (post_ret (rs := [.tmp 6, .cell 7 31]) (ans := [.val (.int .i64 r1.Code), .val (.int .i64 r1.At)]) (vs := [.int .i64 0, .agg #[.int .i64 r1.Code, .int .i64 r1.At]]) (l := [.loaded ⟨b1, 0, none⟩ (.int .i64 r1.Code), .loaded ⟨b1, 1, none⟩ (.int .i64 r1.At)]) rfl (by kernel_rfl) ⟨hS35.cell 0 rfl rfl, hS35.cell 0 rfl rfl, trivial⟩ ⟨rfl, hS36⟩)

/-! punctual/modes.ceil -/
abbrev modes_ceil.Post (w0 : World) (r : Int) (e : Ending) (w : World) : Prop := e = .returned (.int .i64 r) ∧ St w0 w []
def modes_ceil.f (x0 : Int) (x1 : Int) : Option Int :=
  if x1 = 0 then
    none
  else
    some (IntKind.i64.wrap (Int.tdiv (IntKind.i64.wrap ((IntKind.i64.wrap (x0 + x1)) - 1)) x1))
theorem modes_ceil_ok (x0 : Int) (x1 : Int) (w0 : World) (r : Int) (h : modes_ceil.f x0 x1 = some r) :
    Calls Try.prog 57 #[.int .i64 x0, .int .i64 x1] w0 (modes_ceil.Post w0 r) := by
  have hS := St.start w0
  unfold modes_ceil.f at h
  refine calls_enter (n := 11) (args := [.int .i64 x0, .int .i64 x1]) (fn := Try.f57) rfl rfl rfl rfl ?_
  show WE _ _ _ _ [(0, .int .i64 x0), (1, .int .i64 x1)] _
  refine we_seq fun K1 hK1 => ?_
  refine we_region [(0, 0)] rfl ?_
  refine ge_batch [0] (ans := []) (vs := [(4, .int .i64 0)]) (l := []) (by kernel_rfl) trivial ?_
  refine ge_nil fun a hF => hK1 _ _ ?_ a hF
  refine we_seq fun K2 hK2 => ?_
  refine we_region [(0, 0), (1, 0), (2, 0), (3, 0), (4, 0), (5, 0), (6, 0)] rfl ?_
  refine ge_batch [0, 1, 2, 3, 4] (ans := []) (vs := [(9, .int .i64 x1), (8, .int .i64 (IntKind.i64.wrap ((IntKind.i64.wrap (x0 + x1)) - 1))), (7, .int .i64 (IntKind.i64.wrap (x0 + x1))), (6, .int .i64 x1), (5, .int .i64 x0)]) (l := []) (by kernel_rfl) trivial ?_
  by_cases hc1 : x1 = 0
  · rw [if_pos hc1] at h
    cases h
  · rw [if_neg hc1] at h
    refine ge_div (d := 10) (ty := 3) (op := .quo) (x := (.tmp 8)) (y := (.tmp 9)) (t := 3) (t2 := 3) (k := .i64) (p := (IntKind.i64.wrap ((IntKind.i64.wrap (x0 + x1)) - 1))) (q := x1) (v := .int .i64 (IntKind.i64.wrap (Int.tdiv (IntKind.i64.wrap ((IntKind.i64.wrap (x0 + x1)) - 1)) x1))) (by kernel_rfl) (by kernel_rfl) (by kernel_rfl) hc1 rfl ?_
    refine ge_batch [6] (ans := []) (vs := [(4, .int .i64 (IntKind.i64.wrap (Int.tdiv (IntKind.i64.wrap ((IntKind.i64.wrap (x0 + x1)) - 1)) x1)))]) (l := []) (by kernel_rfl) trivial ?_
    refine ge_nil fun a hF => hK2 _ _ ?_ a hF
    obtain rfl := Option.some.inj h
    exact we_ret (post_ret (rs := [.tmp 4]) (ans := []) (vs := [.int .i64 (IntKind.i64.wrap (Int.tdiv (IntKind.i64.wrap ((IntKind.i64.wrap (x0 + x1)) - 1)) x1))]) (l := []) rfl (by kernel_rfl) trivial ⟨rfl, hS⟩)

/-! punctual/modes.Within -/
abbrev modes_Within.Post (w0 : World) (r : Int × SFault) (e : Ending) (w : World) : Prop := e = .returned (.tuple #[.int .i64 r.1, .agg #[.int .i64 r.2.Code, .int .i64 r.2.At]]) ∧ St w0 w []
def modes_Within.r1 (l0 : List STask) (x1 : Int) (e1 : STask) (z1 : Int) : Int × Nat → Option ((Int × Nat) ⊕ (Int ⊕ (Int × SFault)))
  | (z2, i1) =>
    if (i1 : Int) < (l0.length : Int) then
      match l0[i1]? with
      | none => none
      | some e2 =>
        if (i1 : Int) = x1 then
          some (.inl (z2, (i1 + 1)))
        else
          if e2.P ≥ e1.P then
            match modes_ceil.f (IntKind.i64.wrap (z1 + e2.J)) e2.T with
            | none => none
            | some r3 =>
              some (.inl (IntKind.i64.wrap (z2 + (IntKind.i64.wrap (r3 * e2.C))), (i1 + 1)))
          else
            some (.inl (z2, (i1 + 1)))
    else
      some (.inr (.inl z2))
def modes_Within.r0 (K : Nat) (l0 : List STask) (x1 : Int) (x2 : Int) (l3 : List SWindow) (r1 : Int × SFault) (e1 : STask) : Int → Option (Int ⊕ (Unit ⊕ (Int × SFault)))
  | z1 =>
    if z1 ≤ (IntKind.i64.wrap (e1.D - e1.J)) then
      match iter (modes_Within.r1 l0 x1 e1 z1) K (e1.C, 0) with
      | none => none
      | some (.inl z4) =>
        match modes_least.f K x2 l3 z1 with
        | none => none
        | some r4 =>
          if r4 ≥ z4 then
            some (.inr (.inr (IntKind.i64.wrap (z1 + e1.J), (⟨0, 0⟩ : SFault))))
          else
            some (.inl (IntKind.i64.wrap (z1 + 1)))
      | some (.inr rr1) =>
        some (.inr (.inr rr1))
    else
      some (.inr (.inl ()))
def modes_Within.f (K : Nat) (l0 : List STask) (x1 : Int) (x2 : Int) (l3 : List SWindow) : Option (Int × SFault) :=
  match fixed_Response.f K l0 x1 0 with
  | none => none
  | some r1 =>
    if r1.2.Code = 0 then
      match modes_Frame.f K x2 l3 with
      | none => none
      | some r2 =>
        if r2.Code = 0 then
          if 0 ≤ x1 then
            match l0[(x1).toNat]? with
            | none => none
            | some e1 =>
              match iter (modes_Within.r0 K l0 x1 x2 l3 r1 e1) K e1.C with
              | none => none
              | some (.inl _) =>
                some (0, (⟨13, x1⟩ : SFault))
              | some (.inr rr2) =>
                some rr2
          else
            none
        else
          some (0, r2)
    else
      some (0, r1.2)
abbrev modes_Within.A1 (K : Nat) (w0 : World) (l0 : List STask) (A0 : Option Addr) (c0 : Nat) (x1 : Int) (x2 : Int) (l3 : List SWindow) (A3 : Option Addr) (c3 : Nat) (hR0 : RdL w0 A0 l0) (hL0 : l0.length ≤ c0) (hR3 : RdL w0 A3 l3) (hL3 : l3.length ≤ c3) (b1 : Nat) (r1 : Int × SFault) (b2 : Nat) (hc1 : r1.2.Code = 0) (r2 : SFault) (b3 : Nat) (hc2 : r2.Code = 0) (hc3 : 0 ≤ x1) (e1 : STask) (hx4 : l0[(x1).toNat]? = some e1) (b4 : Nat) (z1 : Int) (hc4 : z1 ≤ (IntKind.i64.wrap (e1.D - e1.J))) : (Int × Nat) → Act → World → Prop := fun (s : Int × Nat) a w => St w0 w [Own.blk b4 (.cells #[.string e1.Name, .int .i64 e1.C, .int .i64 e1.T, .int .i64 e1.D, .int .i64 e1.J, .int .i64 e1.O, .int .i64 e1.P] 102 (0, 0)), Own.blk b1 (.cells #[.int .i64 0, .int .i64 0] 31 (0, 0))] ∧ Frm 95 a [(0, .slice A0 l0.length c0), (1, .int .i64 x1), (2, .int .i64 x2), (3, .slice A3 l3.length c3), (9, .pointer (some ⟨b1, 0, none⟩)), (13, .pointer (some ⟨b4, 0, none⟩)), (14, .int .i64 z1), (15, .int .i64 s.1), (52, .slice A0 l0.length c0), (53, .int .i64 (l0.length : Int)), (54, .int .i64 (s.2 : Int))]
abbrev modes_Within.B1 (K : Nat) (w0 : World) (l0 : List STask) (A0 : Option Addr) (c0 : Nat) (x1 : Int) (x2 : Int) (l3 : List SWindow) (A3 : Option Addr) (c3 : Nat) (hR0 : RdL w0 A0 l0) (hL0 : l0.length ≤ c0) (hR3 : RdL w0 A3 l3) (hL3 : l3.length ≤ c3) (b1 : Nat) (r1 : Int × SFault) (b2 : Nat) (hc1 : r1.2.Code = 0) (r2 : SFault) (b3 : Nat) (hc2 : r2.Code = 0) (hc3 : 0 ≤ x1) (e1 : STask) (hx4 : l0[(x1).toNat]? = some e1) (b4 : Nat) (z1 : Int) (hc4 : z1 ≤ (IntKind.i64.wrap (e1.D - e1.J))) : (Int ⊕ (Int × SFault)) → Exit → Act → World → Prop := Exits 2 (fun (s : Int) a w => St w0 w [Own.blk b4 (.cells #[.string e1.Name, .int .i64 e1.C, .int .i64 e1.T, .int .i64 e1.D, .int .i64 e1.J, .int .i64 e1.O, .int .i64 e1.P] 102 (0, 0)), Own.blk b1 (.cells #[.int .i64 0, .int .i64 0] 31 (0, 0))] ∧ Frm 95 a [(0, .slice A0 l0.length c0), (1, .int .i64 x1), (2, .int .i64 x2), (3, .slice A3 l3.length c3), (9, .pointer (some ⟨b1, 0, none⟩)), (13, .pointer (some ⟨b4, 0, none⟩)), (14, .int .i64 z1), (15, .int .i64 s)]) (Rets Try.prog Try.f16 (modes_Within.Post w0))
theorem modes_Within_r1 (K : Nat) (w0 : World) (l0 : List STask) (A0 : Option Addr) (c0 : Nat) (x1 : Int) (x2 : Int) (l3 : List SWindow) (A3 : Option Addr) (c3 : Nat) (hR0 : RdL w0 A0 l0) (hL0 : l0.length ≤ c0) (hR3 : RdL w0 A3 l3) (hL3 : l3.length ≤ c3) (b1 : Nat) (r1 : Int × SFault) (b2 : Nat) (hc1 : r1.2.Code = 0) (r2 : SFault) (b3 : Nat) (hc2 : r2.Code = 0) (hc3 : 0 ≤ x1) (e1 : STask) (hx4 : l0[(x1).toNat]? = some e1) (b4 : Nat) (z1 : Int) (hc4 : z1 ≤ (IntKind.i64.wrap (e1.D - e1.J))) (s : Int × Nat) (o : (Int × Nat) ⊕ (Int ⊕ (Int × SFault))) (h : modes_Within.r1 l0 x1 e1 z1 s = some o) (a : Act) (w : World) (hA : modes_Within.A1 K w0 l0 A0 c0 x1 x2 l3 A3 c3 hR0 hL0 hR3 hL3 b1 r1 b2 hc1 r2 b3 hc2 hc3 e1 hx4 b4 z1 hc4 s a w) (Q : Exit → Act → World → Prop) (hQ : ∀ x a w, Outs (modes_Within.A1 K w0 l0 A0 c0 x1 x2 l3 A3 c3 hR0 hL0 hR3 hL3 b1 r1 b2 hc1 r2 b3 hc2 hc3 e1 hx4 b4 z1 hc4) (modes_Within.B1 K w0 l0 A0 c0 x1 x2 l3 A3 c3 hR0 hL0 hR3 hL3 b1 r1 b2 hc1 r2 b3 hc2 hc3 e1 hx4 b4 z1 hc4) o x a w → Q x a w) : (subF Try.f16 [1, 1, 1, 1, 0, 1, 0, 0, 1, 0, 0, 1, 0, 1, 0, 0]).wp Try.prog Q a w := by
  obtain ⟨z2, i1⟩ := s
  obtain ⟨hS, hF⟩ := hA
  replace hS : St w0 w [Own.blk b4 (.cells #[.string e1.Name, .int .i64 e1.C, .int .i64 e1.T, .int .i64 e1.D, .int .i64 e1.J, .int .i64 e1.O, .int .i64 e1.P] 102 (0, 0)), Own.blk b1 (.cells #[.int .i64 0, .int .i64 0] 31 (0, 0))] := hS
  simp only [modes_Within.r1] at h
  refine (?_ : WE Try.prog 95 (subF Try.f16 [1, 1, 1, 1, 0, 1, 0, 0, 1, 0, 0, 1, 0, 1, 0, 0]) Q [(0, .slice A0 l0.length c0), (1, .int .i64 x1), (2, .int .i64 x2), (3, .slice A3 l3.length c3), (9, .pointer (some ⟨b1, 0, none⟩)), (13, .pointer (some ⟨b4, 0, none⟩)), (14, .int .i64 z1), (15, .int .i64 z2), (52, .slice A0 l0.length c0), (53, .int .i64 (l0.length : Int)), (54, .int .i64 (i1 : Int))] w) a hF
  clear hF a
  refine we_seq fun K17 hK17 => ?_
  refine we_region [(0, 0)] rfl ?_
  refine ge_batch [0] (ans := []) (vs := [(55, .bool (decide ((i1 : Int) < (l0.length : Int))))]) (l := []) (by kernel_rfl) trivial ?_
  refine ge_nil fun a hF => hK17 _ _ ?_ a hF
  refine we_seq fun K18 hK18 => ?_
  by_cases hc5 : (i1 : Int) < (l0.length : Int)
  · rw [if_pos hc5] at h
    refine we_known (t := 55) (b := decide ((i1 : Int) < (l0.length : Int))) (v := true) (by kernel_rfl) (decide_eq_true hc5) ?_
    refine we_true (by kernel_rfl) ?_
    refine we_skip fun a hF => hK18 _ _ ?_ a hF
    refine we_seq fun K19 hK19 => ?_
    refine we_block ?_
    refine we_seq fun K20 hK20 => ?_
    refine we_region [(0, 0), (1, 0), (2, 0), (3, 1), (4, 0), (5, 2)] rfl ?_
    refine ge_batch [0] (ans := []) (vs := [(56, .int .i64 (i1 : Int))]) (l := []) (by kernel_rfl) trivial ?_
    rcases hx6 : l0[i1]? with _ | e2
    · rw [hx6] at h; cases h
    rw [hx6] at h
    simp only [] at h
    refine ge_index (d := 57) (ty := 0) (t := 22) (el := 102) (sz := 7) (m := l0.length) (c := c0) (x := (.tmp 52)) (y := (.tmp 54)) (A := A0) (k' := .i64) (j := (i1 : Int)) (jn := i1) (b0 := blkOf A0) (o0 := offOf A0) (by kernel_rfl) (by kernel_rfl) (by kernel_rfl) (by kernel_rfl) (by kernel_rfl) ((hS.rd hR0).eqSome (pos_of_get hx6)) rfl (lt_of_get hx6) ?_
    refine ge_batch [2] (ans := [.val (.string e2.Name), .val (.int .i64 e2.C), .val (.int .i64 e2.T), .val (.int .i64 e2.D), .val (.int .i64 e2.J), .val (.int .i64 e2.O), .val (.int .i64 e2.P)]) (vs := [(58, .agg #[.string e2.Name, .int .i64 e2.C, .int .i64 e2.T, .int .i64 e2.D, .int .i64 e2.J, .int .i64 e2.O, .int .i64 e2.P])]) (l := [.loaded ⟨blkOf A0, offOf A0 + i1 * 7, none⟩ (.string e2.Name), .loaded ⟨blkOf A0, offOf A0 + i1 * 7 + 1, none⟩ (.int .i64 e2.C), .loaded ⟨blkOf A0, offOf A0 + i1 * 7 + 2, none⟩ (.int .i64 e2.T), .loaded ⟨blkOf A0, offOf A0 + i1 * 7 + 3, none⟩ (.int .i64 e2.D), .loaded ⟨blkOf A0, offOf A0 + i1 * 7 + 4, none⟩ (.int .i64 e2.J), .loaded ⟨blkOf A0, offOf A0 + i1 * 7 + 5, none⟩ (.int .i64 e2.O), .loaded ⟨blkOf A0, offOf A0 + i1 * 7 + 6, none⟩ (.int .i64 e2.P)]) (by kernel_rfl) ⟨RdL.cell (j := 0) (hS.rd hR0) hx6 rfl, RdL.cell (j := 1) (hS.rd hR0) hx6 rfl, RdL.cell (j := 2) (hS.rd hR0) hx6 rfl, RdL.cell (j := 3) (hS.rd hR0) hx6 rfl, RdL.cell (j := 4) (hS.rd hR0) hx6 rfl, RdL.cell (j := 5) (hS.rd hR0) hx6 rfl, RdL.cell (j := 6) (hS.rd hR0) hx6 rfl, trivial⟩ ?_
    refine ge_new (d := some 17) (o := .cells #[.string (⟨#[]⟩), .int .i64 0, .int .i64 0, .int .i64 0, .int .i64 0, .int .i64 0, .int .i64 0] 102) (v := fun b => .pointer (some ⟨b, 0, none⟩)) hS (fun b => by kernel_rfl) fun b5 w10 hx7 hS20 => ?_
    refine ge_batch [4] (ans := []) (vs := [(16, .int .i64 (i1 : Int))]) (l := []) (by kernel_rfl) trivial ?_
    refine ge_set (b := b5) (j := 0) (cs := #[.string (⟨#[]⟩), .int .i64 0, .int .i64 0, .int .i64 0, .int .i64 0, .int .i64 0, .int .i64 0]) (t := 102) (vs := [.string e2.Name, .int .i64 e2.C, .int .i64 e2.T, .int .i64 e2.D, .int .i64 e2.J, .int .i64 e2.O, .int .i64 e2.P]) hS20 (by kernel_rfl) rfl rfl fun w11 hS21 => ?_
    have hS22 : St w0 w11 [Own.blk b5 (.cells #[.string e2.Name, .int .i64 e2.C, .int .i64 e2.T, .int .i64 e2.D, .int .i64 e2.J, .int .i64 e2.O, .int .i64 e2.P] 102 (0, 0)), Own.blk b4 (.cells #[.string e1.Name, .int .i64 e1.C, .int .i64 e1.T, .int .i64 e1.D, .int .i64 e1.J, .int .i64 e1.O, .int .i64 e1.P] 102 (0, 0)), Own.blk b1 (.cells #[.int .i64 0, .int .i64 0] 31 (0, 0))] := hS21
    refine ge_nil fun a hF => hK20 _ _ ?_ a hF
    refine we_seq fun K21 hK21 => ?_
    refine we_region [(0, 0), (1, 0), (2, 0), (3, 0), (4, 0), (5, 0), (6, 0), (7, 0), (8, 0), (9, 0)] rfl ?_
    refine ge_batch [0, 1, 2, 3] (ans := []) (vs := [(62, .bool ((i1 : Int) != x1)), (61, .bool ((i1 : Int) != x1)), (60, .int .i64 x1), (59, .int .i64 (i1 : Int))]) (l := []) (by kernel_rfl) trivial ?_
    by_cases hc6 : (i1 : Int) = x1
    · rw [if_pos hc6] at h
      refine ge_known (t := 62) (b := ((i1 : Int) != x1)) (c := false) (by kernel_rfl) (bne_eq_false_iff_eq.2 hc6) ?_
      refine ge_batch [4, 5, 6, 7, 8, 9] (ans := []) (vs := [(68, .bool false), (67, undef), (66, undef), (65, undef), (64, undef), (63, undef)]) (l := []) (by kernel_rfl) trivial ?_
      refine ge_nil fun a hF => hK21 _ _ ?_ a hF
      refine we_false (by kernel_rfl) ?_
      refine we_skip fun a hF => hK19 _ _ ?_ a hF
      refine we_region [(0, 0), (1, 0)] rfl ?_
      refine ge_addn (d := 81) (ty := 3) (x := (.tmp 54)) (y := (.const (.int .i64 1))) (t := 3) (t2 := 3) (k := .i64) (m := i1) (by kernel_rfl) (by kernel_rfl) (by kernel_rfl) (by have h0 := hR0.small; omega) ?_
      refine ge_batch [1] (ans := []) (vs := [(54, .int .i64 ((i1 + 1 : Nat) : Int))]) (l := []) (by kernel_rfl) trivial ?_
      have hS23 := hS22.bring 2 rfl
      have hS24 := hS23.bring 2 rfl
      have hS25 := hS24.takeN 2
      obtain rfl := Option.some.inj h
      exact ge_nil fun a hF => hQ _ _ _ (Outs.again ⟨hS25, hF.weaken ⟨by kernel_rfl, by kernel_rfl, by kernel_rfl, by kernel_rfl, by kernel_rfl, by kernel_rfl, by kernel_rfl, by kernel_rfl, by kernel_rfl, by kernel_rfl, by kernel_rfl, trivial⟩⟩)
    · rw [if_neg hc6] at h
      refine ge_known (t := 62) (b := ((i1 : Int) != x1)) (c := true) (by kernel_rfl) (bne_iff_ne.2 hc6) ?_
      refine ge_batch [4, 5, 6, 7, 8, 9] (ans := [.val (.int .i64 e2.P), .val (.int .i64 e1.P)]) (vs := [(68, .bool (decide (e2.P ≥ e1.P))), (67, .bool (decide (e2.P ≥ e1.P))), (66, .int .i64 e1.P), (65, .pointer (some ⟨b4, 6, none⟩)), (64, .int .i64 e2.P), (63, .pointer (some ⟨b5, 6, none⟩))]) (l := [.loaded ⟨b5, 6, none⟩ (.int .i64 e2.P), .loaded ⟨b4, 6, none⟩ (.int .i64 e1.P)]) (by kernel_rfl) ⟨hS22.cell 0 rfl rfl, hS22.cell 1 rfl rfl, trivial⟩ ?_
      refine ge_nil fun a hF => hK21 _ _ ?_ a hF
      by_cases hc7 : e2.P ≥ e1.P
      · rw [if_pos hc7] at h
        refine we_known (t := 68) (b := decide (e2.P ≥ e1.P)) (v := true) (by kernel_rfl) (decide_eq_true hc7) ?_
        refine we_true (by kernel_rfl) ?_
        refine we_draws (by kernel_rfl) [(0, 0), (1, 0), (2, 0), (3, 0), (4, 0), (5, 0), (6, 0), (8, 0), (9, 0), (7, 1), (10, 0), (11, 0), (12, 0)] (by kernel_rfl) ?_
        have hS26 := hS22.drew
        rcases hq3 : modes_ceil.f (IntKind.i64.wrap (z1 + e2.J)) e2.T with _ | r3
        · rw [hq3] at h; cases h
        rw [hq3] at h
        simp only [] at h
        refine ge_batch [0, 1, 2, 3, 4, 5, 6, 8, 9] (ans := [.val (.int .i64 e2.J), .val (.int .i64 e2.T), .val (.int .i64 e2.C)]) (vs := [(78, .int .i64 e2.C), (77, .pointer (some ⟨b5, 1, none⟩)), (75, .int .i64 e2.T), (74, .pointer (some ⟨b5, 2, none⟩)), (73, .int .i64 (IntKind.i64.wrap (z1 + e2.J))), (72, .int .i64 e2.J), (71, .pointer (some ⟨b5, 4, none⟩)), (70, .int .i64 z1), (69, .int .i64 z2)]) (l := [.loaded ⟨b5, 4, none⟩ (.int .i64 e2.J), .loaded ⟨b5, 2, none⟩ (.int .i64 e2.T), .loaded ⟨b5, 1, none⟩ (.int .i64 e2.C)]) (by kernel_rfl) ⟨hS26.cell 0 rfl rfl, hS26.cell 0 rfl rfl, hS26.cell 0 rfl rfl, trivial⟩ ?_
        refine ge_call (d := some 76) (f := 57) (args := #[.int .i64 (IntKind.i64.wrap (z1 + e2.J)), .int .i64 e2.T]) (by kernel_rfl) (modes_ceil_ok (IntKind.i64.wrap (z1 + e2.J)) e2.T _ _ hq3) ?_
        rintro _ w12 ⟨rfl, hS27⟩
        refine ⟨_, rfl, hS27.below, ?_⟩
        have hS28 := hS26.call hS27
        refine ge_batch [10, 11, 12] (ans := []) (vs := [(15, .int .i64 (IntKind.i64.wrap (z2 + (IntKind.i64.wrap (r3 * e2.C))))), (80, .int .i64 (IntKind.i64.wrap (z2 + (IntKind.i64.wrap (r3 * e2.C))))), (79, .int .i64 (IntKind.i64.wrap (r3 * e2.C)))]) (l := []) (by kernel_rfl) trivial ?_
        refine ge_nil fun a hF => hK19 _ _ ?_ a hF
        refine we_region [(0, 0), (1, 0)] rfl ?_
        refine ge_addn (d := 81) (ty := 3) (x := (.tmp 54)) (y := (.const (.int .i64 1))) (t := 3) (t2 := 3) (k := .i64) (m := i1) (by kernel_rfl) (by kernel_rfl) (by kernel_rfl) (by have h0 := hR0.small; omega) ?_
        refine ge_batch [1] (ans := []) (vs := [(54, .int .i64 ((i1 + 1 : Nat) : Int))]) (l := []) (by kernel_rfl) trivial ?_
        have hS29 := hS28.bring 2 rfl
        have hS30 := hS29.bring 2 rfl
        have hS31 := hS30.takeN 2
        obtain rfl := Option.some.inj h
        exact ge_nil fun a hF => hQ _ _ _ (Outs.again ⟨hS31, hF.weaken ⟨by kernel_rfl, by kernel_rfl, by kernel_rfl, by kernel_rfl, by kernel_rfl, by kernel_rfl, by kernel_rfl, by kernel_rfl, by kernel_rfl, by kernel_rfl, by kernel_rfl, trivial⟩⟩)
      · rw [if_neg hc7] at h
        refine we_known (t := 68) (b := decide (e2.P ≥ e1.P)) (v := false) (by kernel_rfl) (decide_eq_false hc7) ?_
        refine we_false (by kernel_rfl) ?_
        refine we_skip fun a hF => hK19 _ _ ?_ a hF
        refine we_region [(0, 0), (1, 0)] rfl ?_
        refine ge_addn (d := 81) (ty := 3) (x := (.tmp 54)) (y := (.const (.int .i64 1))) (t := 3) (t2 := 3) (k := .i64) (m := i1) (by kernel_rfl) (by kernel_rfl) (by kernel_rfl) (by have h0 := hR0.small; omega) ?_
        refine ge_batch [1] (ans := []) (vs := [(54, .int .i64 ((i1 + 1 : Nat) : Int))]) (l := []) (by kernel_rfl) trivial ?_
        have hS32 := hS22.bring 2 rfl
        have hS33 := hS32.bring 2 rfl
        have hS34 := hS33.takeN 2
        obtain rfl := Option.some.inj h
        exact ge_nil fun a hF => hQ _ _ _ (Outs.again ⟨hS34, hF.weaken ⟨by kernel_rfl, by kernel_rfl, by kernel_rfl, by kernel_rfl, by kernel_rfl, by kernel_rfl, by kernel_rfl, by kernel_rfl, by kernel_rfl, by kernel_rfl, by kernel_rfl, trivial⟩⟩)
  · rw [if_neg hc5] at h
    refine we_known (t := 55) (b := decide ((i1 : Int) < (l0.length : Int))) (v := false) (by kernel_rfl) (decide_eq_false hc5) ?_
    refine we_false (by kernel_rfl) ?_
    have hS35 := hS.bring 1 rfl
    have hS36 := hS35.bring 1 rfl
    obtain rfl := Option.some.inj h
    exact we_exit fun a hF => hQ _ _ _ (Outs.out nofun (Exits.here ⟨hS36, hF.weaken ⟨by kernel_rfl, by kernel_rfl, by kernel_rfl, by kernel_rfl, by kernel_rfl, by kernel_rfl, by kernel_rfl, by kernel_rfl, trivial⟩⟩))
abbrev modes_Within.A0 (K : Nat) (w0 : World) (l0 : List STask) (A0 : Option Addr) (c0 : Nat) (x1 : Int) (x2 : Int) (l3 : List SWindow) (A3 : Option Addr) (c3 : Nat) (hR0 : RdL w0 A0 l0) (hL0 : l0.length ≤ c0) (hR3 : RdL w0 A3 l3) (hL3 : l3.length ≤ c3) (b1 : Nat) (r1 : Int × SFault) (b2 : Nat) (hc1 : r1.2.Code = 0) (r2 : SFault) (b3 : Nat) (hc2 : r2.Code = 0) (hc3 : 0 ≤ x1) (e1 : STask) (hx4 : l0[(x1).toNat]? = some e1) (b4 : Nat) : Int → Act → World → Prop := fun (s : Int) a w => St w0 w [Own.blk b4 (.cells #[.string e1.Name, .int .i64 e1.C, .int .i64 e1.T, .int .i64 e1.D, .int .i64 e1.J, .int .i64 e1.O, .int .i64 e1.P] 102 (0, 0)), Own.blk b1 (.cells #[.int .i64 0, .int .i64 0] 31 (0, 0))] ∧ Frm 95 a [(0, .slice A0 l0.length c0), (1, .int .i64 x1), (2, .int .i64 x2), (3, .slice A3 l3.length c3), (9, .pointer (some ⟨b1, 0, none⟩)), (13, .pointer (some ⟨b4, 0, none⟩)), (14, .int .i64 s)]
abbrev modes_Within.B0 (K : Nat) (w0 : World) (l0 : List STask) (A0 : Option Addr) (c0 : Nat) (x1 : Int) (x2 : Int) (l3 : List SWindow) (A3 : Option Addr) (c3 : Nat) (hR0 : RdL w0 A0 l0) (hL0 : l0.length ≤ c0) (hR3 : RdL w0 A3 l3) (hL3 : l3.length ≤ c3) (b1 : Nat) (r1 : Int × SFault) (b2 : Nat) (hc1 : r1.2.Code = 0) (r2 : SFault) (b3 : Nat) (hc2 : r2.Code = 0) (hc3 : 0 ≤ x1) (e1 : STask) (hx4 : l0[(x1).toNat]? = some e1) (b4 : Nat) : (Unit ⊕ (Int × SFault)) → Exit → Act → World → Prop := Exits 0 (fun (s : Unit) a w => St w0 w [Own.blk b1 (.cells #[.int .i64 0, .int .i64 0] 31 (0, 0))] ∧ Frm 95 a [(1, .int .i64 x1), (9, .pointer (some ⟨b1, 0, none⟩))]) (Rets Try.prog Try.f16 (modes_Within.Post w0))
theorem modes_Within_r0 (K : Nat) (w0 : World) (l0 : List STask) (A0 : Option Addr) (c0 : Nat) (x1 : Int) (x2 : Int) (l3 : List SWindow) (A3 : Option Addr) (c3 : Nat) (hR0 : RdL w0 A0 l0) (hL0 : l0.length ≤ c0) (hR3 : RdL w0 A3 l3) (hL3 : l3.length ≤ c3) (b1 : Nat) (r1 : Int × SFault) (b2 : Nat) (hc1 : r1.2.Code = 0) (r2 : SFault) (b3 : Nat) (hc2 : r2.Code = 0) (hc3 : 0 ≤ x1) (e1 : STask) (hx4 : l0[(x1).toNat]? = some e1) (b4 : Nat) (s : Int) (o : Int ⊕ (Unit ⊕ (Int × SFault))) (h : modes_Within.r0 K l0 x1 x2 l3 r1 e1 s = some o) (a : Act) (w : World) (hA : modes_Within.A0 K w0 l0 A0 c0 x1 x2 l3 A3 c3 hR0 hL0 hR3 hL3 b1 r1 b2 hc1 r2 b3 hc2 hc3 e1 hx4 b4 s a w) (Q : Exit → Act → World → Prop) (hQ : ∀ x a w, Outs (modes_Within.A0 K w0 l0 A0 c0 x1 x2 l3 A3 c3 hR0 hL0 hR3 hL3 b1 r1 b2 hc1 r2 b3 hc2 hc3 e1 hx4 b4) (modes_Within.B0 K w0 l0 A0 c0 x1 x2 l3 A3 c3 hR0 hL0 hR3 hL3 b1 r1 b2 hc1 r2 b3 hc2 hc3 e1 hx4 b4) o x a w → Q x a w) : (subF Try.f16 [1, 1, 1, 1, 0, 1, 0, 0]).wp Try.prog Q a w := by
  obtain ⟨z1, hs⟩ : ∃ z, z = s := ⟨s, rfl⟩
  subst hs
  obtain ⟨hS, hF⟩ := hA
  replace hS : St w0 w [Own.blk b4 (.cells #[.string e1.Name, .int .i64 e1.C, .int .i64 e1.T, .int .i64 e1.D, .int .i64 e1.J, .int .i64 e1.O, .int .i64 e1.P] 102 (0, 0)), Own.blk b1 (.cells #[.int .i64 0, .int .i64 0] 31 (0, 0))] := hS
  simp only [modes_Within.r0] at h
  refine (?_ : WE Try.prog 95 (subF Try.f16 [1, 1, 1, 1, 0, 1, 0, 0]) Q [(0, .slice A0 l0.length c0), (1, .int .i64 x1), (2, .int .i64 x2), (3, .slice A3 l3.length c3), (9, .pointer (some ⟨b1, 0, none⟩)), (13, .pointer (some ⟨b4, 0, none⟩)), (14, .int .i64 z1)] w) a hF
  clear hF a
  refine we_seq fun K11 hK11 => ?_
  refine we_seq fun K12 hK12 => ?_
  refine we_region [(0, 0), (1, 0), (2, 0), (3, 0), (4, 0), (5, 0), (6, 0)] rfl ?_
  refine ge_batch [0, 1, 2, 3, 4, 5, 6] (ans := [.val (.int .i64 e1.D), .val (.int .i64 e1.J)]) (vs := [(47, .bool (decide (z1 ≤ (IntKind.i64.wrap (e1.D - e1.J))))), (46, .int .i64 (IntKind.i64.wrap (e1.D - e1.J))), (45, .int .i64 e1.J), (44, .pointer (some ⟨b4, 4, none⟩)), (43, .int .i64 e1.D), (42, .pointer (some ⟨b4, 3, none⟩)), (41, .int .i64 z1)]) (l := [.loaded ⟨b4, 3, none⟩ (.int .i64 e1.D), .loaded ⟨b4, 4, none⟩ (.int .i64 e1.J)]) (by kernel_rfl) ⟨hS.cell 0 rfl rfl, hS.cell 0 rfl rfl, trivial⟩ ?_
  refine ge_nil fun a hF => hK12 _ _ ?_ a hF
  by_cases hc4 : z1 ≤ (IntKind.i64.wrap (e1.D - e1.J))
  · rw [if_pos hc4] at h
    refine we_known (t := 47) (b := decide (z1 ≤ (IntKind.i64.wrap (e1.D - e1.J)))) (v := true) (by kernel_rfl) (decide_eq_true hc4) ?_
    refine we_true (by kernel_rfl) ?_
    refine we_skip fun a hF => hK11 _ _ ?_ a hF
    refine we_seq fun K13 hK13 => ?_
    refine we_block ?_
    refine we_seq fun K14 hK14 => ?_
    refine we_region [(0, 0), (1, 0), (2, 0)] rfl ?_
    refine ge_batch [0, 1, 2] (ans := [.val (.int .i64 e1.C)]) (vs := [(15, .int .i64 e1.C), (51, .int .i64 e1.C), (50, .pointer (some ⟨b4, 1, none⟩))]) (l := [.loaded ⟨b4, 1, none⟩ (.int .i64 e1.C)]) (by kernel_rfl) ⟨hS.cell 0 rfl rfl, trivial⟩ ?_
    refine ge_nil fun a hF => hK14 _ _ ?_ a hF
    refine we_seq fun K15 hK15 => ?_
    refine we_seq fun K16 hK16 => ?_
    refine we_region [(0, 0), (1, 0), (2, 0)] rfl ?_
    refine ge_batch [0, 1, 2] (ans := []) (vs := [(54, .int .i64 0), (53, .int .i64 (l0.length : Int)), (52, .slice A0 l0.length c0)]) (l := []) (by kernel_rfl) trivial ?_
    refine ge_nil fun a hF => hK16 _ _ ?_ a hF
    refine we_block ?_
    have hS18 := hS.bring 1 rfl
    have hS19 := hS18.bring 1 rfl
    rcases hq4 : iter (modes_Within.r1 l0 x1 e1 z1) K (e1.C, 0) with _ | (z4 | rr1)
    · rw [hq4] at h; cases h
    · rw [hq4] at h
      simp only [] at h
      refine we_iter (A := modes_Within.A1 K w0 l0 A0 c0 x1 x2 l3 A3 c3 hR0 hL0 hR3 hL3 b1 r1 b2 hc1 r2 b3 hc2 hc3 e1 hx4 b4 z1 hc4) (B := modes_Within.B1 K w0 l0 A0 c0 x1 x2 l3 A3 c3 hR0 hL0 hR3 hL3 b1 r1 b2 hc1 r2 b3 hc2 hc3 e1 hx4 b4 z1 hc4) hq4 (fun a hF => ⟨hS19, hF.weaken ⟨by kernel_rfl, by kernel_rfl, by kernel_rfl, by kernel_rfl, by kernel_rfl, by kernel_rfl, by kernel_rfl, by kernel_rfl, by kernel_rfl, by kernel_rfl, by kernel_rfl, trivial⟩⟩) (fun s o hf a w hA Q hQ => modes_Within_r1 K w0 l0 A0 c0 x1 x2 l3 A3 c3 hR0 hL0 hR3 hL3 b1 r1 b2 hc1 r2 b3 hc2 hc3 e1 hx4 b4 z1 hc4 s o hf a w hA Q hQ) ?_
      rintro _ a w13 _ ⟨rfl, hS37, hF⟩
      replace hS37 : St w0 w13 [Own.blk b4 (.cells #[.string e1.Name, .int .i64 e1.C, .int .i64 e1.T, .int .i64 e1.D, .int .i64 e1.J, .int .i64 e1.O, .int .i64 e1.P] 102 (0, 0)), Own.blk b1 (.cells #[.int .i64 0, .int .i64 0] 31 (0, 0))] := hS37
      refine hK15 [(0, .slice A0 l0.length c0), (1, .int .i64 x1), (2, .int .i64 x2), (3, .slice A3 l3.length c3), (9, .pointer (some ⟨b1, 0, none⟩)), (13, .pointer (some ⟨b4, 0, none⟩)), (14, .int .i64 z1), (15, .int .i64 z4)] w13 ?_ a hF
      refine we_seq fun K22 hK22 => ?_
      refine we_region [(0, 0), (1, 0), (2, 0), (3, 1), (4, 0), (5, 0)] rfl ?_
      rcases hq5 : modes_least.f K x2 l3 z1 with _ | r4
      · rw [hq5] at h; cases h
      rw [hq5] at h
      simp only [] at h
      refine ge_batch [0, 1, 2] (ans := []) (vs := [(84, .int .i64 z1), (83, .slice A3 l3.length c3), (82, .int .i64 x2)]) (l := []) (by kernel_rfl) trivial ?_
      refine ge_call (d := some 85) (f := 58) (args := #[.int .i64 x2, .slice A3 l3.length c3, .int .i64 z1]) (by kernel_rfl) (modes_least_ok K x2 l3 A3 c3 z1 _ (hS37.rd hR3) hL3 _ hq5) ?_
      rintro _ w14 ⟨rfl, hS38⟩
      refine ⟨_, rfl, hS38.below, ?_⟩
      have hS39 := hS37.call hS38
      refine ge_batch [4, 5] (ans := []) (vs := [(87, .bool (decide (r4 ≥ z4))), (86, .int .i64 z4)]) (l := []) (by kernel_rfl) trivial ?_
      refine ge_nil fun a hF => hK22 _ _ ?_ a hF
      by_cases hc8 : r4 ≥ z4
      · rw [if_pos hc8] at h
        refine we_known (t := 87) (b := decide (r4 ≥ z4)) (v := true) (by kernel_rfl) (decide_eq_true hc8) ?_
        refine we_true (by kernel_rfl) ?_
        refine we_seq fun K23 hK23 => ?_
        refine we_region [(0, 0), (1, 0), (2, 0), (3, 0), (4, 0), (5, 0), (6, 2)] rfl ?_
        refine ge_batch [0, 1, 2, 3, 4, 5] (ans := [.val (.int .i64 e1.J)]) (vs := [(8, .int .i64 (IntKind.i64.wrap (z1 + e1.J))), (92, .agg #[.int .i64 0, .int .i64 0]), (91, .int .i64 (IntKind.i64.wrap (z1 + e1.J))), (90, .int .i64 e1.J), (89, .pointer (some ⟨b4, 4, none⟩)), (88, .int .i64 z1)]) (l := [.loaded ⟨b4, 4, none⟩ (.int .i64 e1.J)]) (by kernel_rfl) ⟨hS39.cell 0 rfl rfl, trivial⟩ ?_
        have hS40 := hS39.bring 1 rfl
        refine ge_set (b := b1) (j := 0) (cs := #[.int .i64 0, .int .i64 0]) (t := 31) (vs := [.int .i64 0, .int .i64 0]) hS40 (by kernel_rfl) rfl rfl fun w15 hS41 => ?_
        have hS42 : St w0 w15 [Own.blk b1 (.cells #[.int .i64 0, .int .i64 0] 31 (0, 0)), Own.blk b4 (.cells #[.string e1.Name, .int .i64 e1.C, .int .i64 e1.T, .int .i64 e1.D, .int .i64 e1.J, .int .i64 e1.O, .int .i64 e1.P] 102 (0, 0))] := hS41
        refine ge_nil fun a hF => hK23 _ _ ?_ a hF
        have hS43 := hS42.takeN 0
        obtain rfl := Option.some.inj h
        exact we_ret fun a hF => hQ _ _ _ (Outs.out nofun (Exits.on ⟨rfl, (post_ret (rs := [.tmp 8, .cell 9 31]) (ans := [.val (.int .i64 0), .val (.int .i64 0)]) (vs := [.int .i64 (IntKind.i64.wrap (z1 + e1.J)), .agg #[.int .i64 0, .int .i64 0]]) (l := [.loaded ⟨b1, 0, none⟩ (.int .i64 0), .loaded ⟨b1, 1, none⟩ (.int .i64 0)]) rfl (by kernel_rfl) ⟨hS42.cell 0 rfl rfl, hS42.cell 0 rfl rfl, trivial⟩ ⟨rfl, hS43⟩) a hF⟩))
      · rw [if_neg hc8] at h
        refine we_known (t := 87) (b := decide (r4 ≥ z4)) (v := false) (by kernel_rfl) (decide_eq_false hc8) ?_
        refine we_false (by kernel_rfl) ?_
        refine we_skip fun a hF => hK13 _ _ ?_ a hF
        refine we_region [(0, 0), (1, 0), (2, 0)] rfl ?_
        refine ge_batch [0, 1, 2] (ans := []) (vs := [(14, .int .i64 (IntKind.i64.wrap (z1 + 1))), (49, .int .i64 (IntKind.i64.wrap (z1 + 1))), (48, .int .i64 z1)]) (l := []) (by kernel_rfl) trivial ?_
        have hS44 := hS39.bring 1 rfl
        have hS45 := hS44.bring 1 rfl
        obtain rfl := Option.some.inj h
        exact ge_nil fun a hF => hQ _ _ _ (Outs.again ⟨hS45, hF.weaken ⟨by kernel_rfl, by kernel_rfl, by kernel_rfl, by kernel_rfl, by kernel_rfl, by kernel_rfl, by kernel_rfl, trivial⟩⟩)
    · rw [hq4] at h
      simp only [] at h
      refine we_iter (A := modes_Within.A1 K w0 l0 A0 c0 x1 x2 l3 A3 c3 hR0 hL0 hR3 hL3 b1 r1 b2 hc1 r2 b3 hc2 hc3 e1 hx4 b4 z1 hc4) (B := modes_Within.B1 K w0 l0 A0 c0 x1 x2 l3 A3 c3 hR0 hL0 hR3 hL3 b1 r1 b2 hc1 r2 b3 hc2 hc3 e1 hx4 b4 z1 hc4) hq4 (fun a hF => ⟨hS19, hF.weaken ⟨by kernel_rfl, by kernel_rfl, by kernel_rfl, by kernel_rfl, by kernel_rfl, by kernel_rfl, by kernel_rfl, by kernel_rfl, by kernel_rfl, by kernel_rfl, by kernel_rfl, trivial⟩⟩) (fun s o hf a w hA Q hQ => modes_Within_r1 K w0 l0 A0 c0 x1 x2 l3 A3 c3 hR0 hL0 hR3 hL3 b1 r1 b2 hc1 r2 b3 hc2 hc3 e1 hx4 b4 z1 hc4 s o hf a w hA Q hQ) ?_
      rintro _ a w1 _ ⟨rfl, hb⟩
      obtain rfl := Option.some.inj h
      exact hQ _ _ _ (Outs.out nofun (Exits.on ⟨rfl, hb⟩))
  · rw [if_neg hc4] at h
    refine we_known (t := 47) (b := decide (z1 ≤ (IntKind.i64.wrap (e1.D - e1.J)))) (v := false) (by kernel_rfl) (decide_eq_false hc4) ?_
    refine we_false (by kernel_rfl) ?_
    have hS46 := hS.bring 1 rfl
    have hS47 := hS46.takeN 1
    obtain rfl := Option.some.inj h
    exact we_exit fun a hF => hQ _ _ _ (Outs.out nofun (Exits.here ⟨hS47, hF.weaken ⟨by kernel_rfl, by kernel_rfl, trivial⟩⟩))
theorem modes_Within_ok (K : Nat) (l0 : List STask) (A0 : Option Addr) (c0 : Nat) (x1 : Int) (x2 : Int) (l3 : List SWindow) (A3 : Option Addr) (c3 : Nat) (w0 : World) (hR0 : RdL w0 A0 l0) (hL0 : l0.length ≤ c0) (hR3 : RdL w0 A3 l3) (hL3 : l3.length ≤ c3) (r : Int × SFault) (h : modes_Within.f K l0 x1 x2 l3 = some r) :
    Calls Try.prog 16 #[.slice A0 l0.length c0, .int .i64 x1, .int .i64 x2, .slice A3 l3.length c3] w0 (modes_Within.Post w0 r) := by
  have hS := St.start w0
  unfold modes_Within.f at h
  refine calls_enter (n := 95) (args := [.slice A0 l0.length c0, .int .i64 x1, .int .i64 x2, .slice A3 l3.length c3]) (fn := Try.f16) rfl rfl rfl rfl ?_
  show WE _ _ _ _ [(0, .slice A0 l0.length c0), (1, .int .i64 x1), (2, .int .i64 x2), (3, .slice A3 l3.length c3)] _
  refine we_seq fun K1 hK1 => ?_
  refine we_region [(0, 0), (1, 1)] rfl ?_
  refine ge_batch [0] (ans := []) (vs := [(8, .int .i64 0)]) (l := []) (by kernel_rfl) trivial ?_
  refine ge_new (d := some 9) (o := .cells #[.int .i64 0, .int .i64 0] 31) (v := fun b => .pointer (some ⟨b, 0, none⟩)) hS (fun b => by kernel_rfl) fun b1 w1 hx1 hS1 => ?_
  refine ge_nil fun a hF => hK1 _ _ ?_ a hF
  refine we_seq fun K2 hK2 => ?_
  refine we_seq fun K3 hK3 => ?_
  refine we_region [(0, 0), (1, 0), (2, 1), (3, 0), (4, 0), (5, 0), (6, 1), (7, 0), (8, 2)] rfl ?_
  rcases hq1 : fixed_Response.f K l0 x1 0 with _ | r1
  · rw [hq1] at h; cases h
  rw [hq1] at h
  simp only [] at h
  refine ge_batch [0, 1] (ans := []) (vs := [(20, .int .i64 x1), (19, .slice A0 l0.length c0)]) (l := []) (by kernel_rfl) trivial ?_
  refine ge_call (d := some 21) (f := 56) (args := #[.slice A0 l0.length c0, .int .i64 x1, .int .i64 0]) (by kernel_rfl) (fixed_Response_ok K l0 A0 c0 x1 0 _ (hS1.rd hR0) hL0 _ hq1) ?_
  rintro _ w2 ⟨rfl, hS2⟩
  refine ⟨_, rfl, hS2.below, ?_⟩
  have hS3 := hS1.call hS2
  refine ge_batch [3, 4, 5] (ans := []) (vs := [(23, .agg #[.int .i64 r1.2.Code, .int .i64 r1.2.At]), (22, .int .i64 r1.1), (18, .tuple #[.int .i64 r1.1, .agg #[.int .i64 r1.2.Code, .int .i64 r1.2.At]])]) (l := []) (by kernel_rfl) trivial ?_
  refine ge_new (d := some 11) (o := .cells #[.int .i64 0, .int .i64 0] 31) (v := fun b => .pointer (some ⟨b, 0, none⟩)) hS3 (fun b => by kernel_rfl) fun b2 w3 hx2 hS4 => ?_
  refine ge_batch [7] (ans := []) (vs := [(10, .int .i64 r1.1)]) (l := []) (by kernel_rfl) trivial ?_
  refine ge_set (b := b2) (j := 0) (cs := #[.int .i64 0, .int .i64 0]) (t := 31) (vs := [.int .i64 r1.2.Code, .int .i64 r1.2.At]) hS4 (by kernel_rfl) rfl rfl fun w4 hS5 => ?_
  have hS6 : St w0 w4 [Own.blk b2 (.cells #[.int .i64 r1.2.Code, .int .i64 r1.2.At] 31 (0, 0)), Own.blk b1 (.cells #[.int .i64 0, .int .i64 0] 31 (0, 0))] := hS5
  refine ge_nil fun a hF => hK3 _ _ ?_ a hF
  refine we_seq fun K4 hK4 => ?_
  refine we_region [(0, 0), (1, 0), (2, 0)] rfl ?_
  refine ge_batch [0, 1, 2] (ans := [.val (.int .i64 r1.2.Code)]) (vs := [(26, .bool (r1.2.Code != 0)), (25, .int .i64 r1.2.Code), (24, .pointer (some ⟨b2, 0, none⟩))]) (l := [.loaded ⟨b2, 0, none⟩ (.int .i64 r1.2.Code)]) (by kernel_rfl) ⟨hS6.cell 0 rfl rfl, trivial⟩ ?_
  refine ge_nil fun a hF => hK4 _ _ ?_ a hF
  by_cases hc1 : r1.2.Code = 0
  · rw [if_pos hc1] at h
    refine we_known (t := 26) (b := (r1.2.Code != 0)) (v := false) (by kernel_rfl) (bne_eq_false_iff_eq.2 hc1) ?_
    refine we_false (by kernel_rfl) ?_
    refine we_skip fun a hF => hK2 _ _ ?_ a hF
    refine we_seq fun K5 hK5 => ?_
    refine we_seq fun K6 hK6 => ?_
    refine we_region [(0, 0), (1, 0), (2, 1), (3, 1), (4, 2)] rfl ?_
    rcases hq2 : modes_Frame.f K x2 l3 with _ | r2
    · rw [hq2] at h; cases h
    rw [hq2] at h
    simp only [] at h
    refine ge_batch [0, 1] (ans := []) (vs := [(29, .slice A3 l3.length c3), (28, .int .i64 x2)]) (l := []) (by kernel_rfl) trivial ?_
    refine ge_call (d := some 30) (f := 52) (args := #[.int .i64 x2, .slice A3 l3.length c3]) (by kernel_rfl) (modes_Frame_ok K x2 l3 A3 c3 _ (hS6.rd hR3) hL3 _ hq2) ?_
    rintro _ w5 ⟨rfl, hS7⟩
    refine ⟨_, rfl, hS7.below, ?_⟩
    have hS8 := hS6.call hS7
    refine ge_new (d := some 12) (o := .cells #[.int .i64 0, .int .i64 0] 31) (v := fun b => .pointer (some ⟨b, 0, none⟩)) hS8 (fun b => by kernel_rfl) fun b3 w6 hx3 hS9 => ?_
    refine ge_set (b := b3) (j := 0) (cs := #[.int .i64 0, .int .i64 0]) (t := 31) (vs := [.int .i64 r2.Code, .int .i64 r2.At]) hS9 (by kernel_rfl) rfl rfl fun w7 hS10 => ?_
    have hS11 : St w0 w7 [Own.blk b3 (.cells #[.int .i64 r2.Code, .int .i64 r2.At] 31 (0, 0)), Own.blk b2 (.cells #[.int .i64 r1.2.Code, .int .i64 r1.2.At] 31 (0, 0)), Own.blk b1 (.cells #[.int .i64 0, .int .i64 0] 31 (0, 0))] := hS10
    refine ge_nil fun a hF => hK6 _ _ ?_ a hF
    refine we_seq fun K7 hK7 => ?_
    refine we_region [(0, 0), (1, 0), (2, 0)] rfl ?_
    refine ge_batch [0, 1, 2] (ans := [.val (.int .i64 r2.Code)]) (vs := [(33, .bool (r2.Code != 0)), (32, .int .i64 r2.Code), (31, .pointer (some ⟨b3, 0, none⟩))]) (l := [.loaded ⟨b3, 0, none⟩ (.int .i64 r2.Code)]) (by kernel_rfl) ⟨hS11.cell 0 rfl rfl, trivial⟩ ?_
    refine ge_nil fun a hF => hK7 _ _ ?_ a hF
    by_cases hc2 : r2.Code = 0
    · rw [if_pos hc2] at h
      refine we_known (t := 33) (b := (r2.Code != 0)) (v := false) (by kernel_rfl) (bne_eq_false_iff_eq.2 hc2) ?_
      refine we_false (by kernel_rfl) ?_
      refine we_skip fun a hF => hK5 _ _ ?_ a hF
      refine we_seq fun K8 hK8 => ?_
      refine we_region [(0, 0), (1, 0), (2, 0), (3, 0), (4, 1), (5, 2)] rfl ?_
      refine ge_batch [0, 1] (ans := []) (vs := [(36, .int .i64 x1), (35, .slice A0 l0.length c0)]) (l := []) (by kernel_rfl) trivial ?_
      by_cases hc3 : 0 ≤ x1
      · rw [if_pos hc3] at h
        rcases hx4 : l0[(x1).toNat]? with _ | e1
        · rw [hx4] at h; cases h
        rw [hx4] at h
        simp only [] at h
        refine ge_index (d := 37) (ty := 0) (t := 22) (el := 102) (sz := 7) (m := l0.length) (c := c0) (x := (.tmp 35)) (y := (.tmp 36)) (A := A0) (k' := .i64) (j := x1) (jn := ((x1).toNat)) (b0 := blkOf A0) (o0 := offOf A0) (by kernel_rfl) (by kernel_rfl) (by kernel_rfl) (by kernel_rfl) (by kernel_rfl) ((hS11.rd hR0).eqSome (pos_of_get hx4)) (Int.toNat_of_nonneg hc3).symm (lt_of_get hx4) ?_
        refine ge_batch [3] (ans := [.val (.string e1.Name), .val (.int .i64 e1.C), .val (.int .i64 e1.T), .val (.int .i64 e1.D), .val (.int .i64 e1.J), .val (.int .i64 e1.O), .val (.int .i64 e1.P)]) (vs := [(38, .agg #[.string e1.Name, .int .i64 e1.C, .int .i64 e1.T, .int .i64 e1.D, .int .i64 e1.J, .int .i64 e1.O, .int .i64 e1.P])]) (l := [.loaded ⟨blkOf A0, offOf A0 + ((x1).toNat) * 7, none⟩ (.string e1.Name), .loaded ⟨blkOf A0, offOf A0 + ((x1).toNat) * 7 + 1, none⟩ (.int .i64 e1.C), .loaded ⟨blkOf A0, offOf A0 + ((x1).toNat) * 7 + 2, none⟩ (.int .i64 e1.T), .loaded ⟨blkOf A0, offOf A0 + ((x1).toNat) * 7 + 3, none⟩ (.int .i64 e1.D), .loaded ⟨blkOf A0, offOf A0 + ((x1).toNat) * 7 + 4, none⟩ (.int .i64 e1.J), .loaded ⟨blkOf A0, offOf A0 + ((x1).toNat) * 7 + 5, none⟩ (.int .i64 e1.O), .loaded ⟨blkOf A0, offOf A0 + ((x1).toNat) * 7 + 6, none⟩ (.int .i64 e1.P)]) (by kernel_rfl) ⟨RdL.cell (j := 0) (hS11.rd hR0) hx4 rfl, RdL.cell (j := 1) (hS11.rd hR0) hx4 rfl, RdL.cell (j := 2) (hS11.rd hR0) hx4 rfl, RdL.cell (j := 3) (hS11.rd hR0) hx4 rfl, RdL.cell (j := 4) (hS11.rd hR0) hx4 rfl, RdL.cell (j := 5) (hS11.rd hR0) hx4 rfl, RdL.cell (j := 6) (hS11.rd hR0) hx4 rfl, trivial⟩ ?_
        refine ge_new (d := some 13) (o := .cells #[.string (⟨#[]⟩), .int .i64 0, .int .i64 0, .int .i64 0, .int .i64 0, .int .i64 0, .int .i64 0] 102) (v := fun b => .pointer (some ⟨b, 0, none⟩)) hS11 (fun b => by kernel_rfl) fun b4 w8 hx5 hS12 => ?_
        refine ge_set (b := b4) (j := 0) (cs := #[.string (⟨#[]⟩), .int .i64 0, .int .i64 0, .int .i64 0, .int .i64 0, .int .i64 0, .int .i64 0]) (t := 102) (vs := [.string e1.Name, .int .i64 e1.C, .int .i64 e1.T, .int .i64 e1.D, .int .i64 e1.J, .int .i64 e1.O, .int .i64 e1.P]) hS12 (by kernel_rfl) rfl rfl fun w9 hS13 => ?_
        have hS14 : St w0 w9 [Own.blk b4 (.cells #[.string e1.Name, .int .i64 e1.C, .int .i64 e1.T, .int .i64 e1.D, .int .i64 e1.J, .int .i64 e1.O, .int .i64 e1.P] 102 (0, 0)), Own.blk b3 (.cells #[.int .i64 r2.Code, .int .i64 r2.At] 31 (0, 0)), Own.blk b2 (.cells #[.int .i64 r1.2.Code, .int .i64 r1.2.At] 31 (0, 0)), Own.blk b1 (.cells #[.int .i64 0, .int .i64 0] 31 (0, 0))] := hS13
        refine ge_nil fun a hF => hK8 _ _ ?_ a hF
        refine we_seq fun K9 hK9 => ?_
        refine we_seq fun K10 hK10 => ?_
        refine we_region [(0, 0), (1, 0), (2, 0)] rfl ?_
        refine ge_batch [0, 1, 2] (ans := [.val (.int .i64 e1.C)]) (vs := [(14, .int .i64 e1.C), (40, .int .i64 e1.C), (39, .pointer (some ⟨b4, 1, none⟩))]) (l := [.loaded ⟨b4, 1, none⟩ (.int .i64 e1.C)]) (by kernel_rfl) ⟨hS14.cell 0 rfl rfl, trivial⟩ ?_
        refine ge_nil fun a hF => hK10 _ _ ?_ a hF
        refine we_block ?_
        have hS15 := hS14.bring 3 rfl
        have hS16 := hS15.bring 1 rfl
        have hS17 := hS16.takeN 2
        rcases hq6 : iter (modes_Within.r0 K l0 x1 x2 l3 r1 e1) K e1.C with _ | (_ | rr2)
        · rw [hq6] at h; cases h
        · rw [hq6] at h
          simp only [] at h
          refine we_iter (A := modes_Within.A0 K w0 l0 A0 c0 x1 x2 l3 A3 c3 hR0 hL0 hR3 hL3 b1 r1 b2 hc1 r2 b3 hc2 hc3 e1 hx4 b4) (B := modes_Within.B0 K w0 l0 A0 c0 x1 x2 l3 A3 c3 hR0 hL0 hR3 hL3 b1 r1 b2 hc1 r2 b3 hc2 hc3 e1 hx4 b4) hq6 (fun a hF => ⟨hS17, hF.weaken ⟨by kernel_rfl, by kernel_rfl, by kernel_rfl, by kernel_rfl, by kernel_rfl, by kernel_rfl, by kernel_rfl, trivial⟩⟩) (fun s o hf a w hA Q hQ => modes_Within_r0 K w0 l0 A0 c0 x1 x2 l3 A3 c3 hR0 hL0 hR3 hL3 b1 r1 b2 hc1 r2 b3 hc2 hc3 e1 hx4 b4 s o hf a w hA Q hQ) ?_
          rintro _ a w16 _ ⟨rfl, hS48, hF⟩
          replace hS48 : St w0 w16 [Own.blk b1 (.cells #[.int .i64 0, .int .i64 0] 31 (0, 0))] := hS48
          refine hK9 [(1, .int .i64 x1), (9, .pointer (some ⟨b1, 0, none⟩))] w16 ?_ a hF
          refine we_seq fun K24 hK24 => ?_
          refine we_region [(0, 0), (1, 0), (2, 0), (3, 2)] rfl ?_
          refine ge_batch [0, 1, 2] (ans := []) (vs := [(8, .int .i64 0), (94, .agg #[.int .i64 13, .int .i64 x1]), (93, .int .i64 x1)]) (l := []) (by kernel_rfl) trivial ?_
          refine ge_set (b := b1) (j := 0) (cs := #[.int .i64 0, .int .i64 0]) (t := 31) (vs := [.int .i64 13, .int .i64 x1]) hS48 (by kernel_rfl) rfl rfl fun w17 hS49 => ?_
          have hS50 : St w0 w17 [Own.blk b1 (.cells #[.int .i64 13, .int .i64 x1] 31 (0, 0))] := hS49
          refine ge_nil fun a hF => hK24 _ _ ?_ a hF
          have hS51 := hS50.takeN 0
          obtain rfl := Option.some.inj h
          exact we_ret (post_ret (rs := [.tmp 8, .cell 9 31]) (ans := [.val (.int .i64 13), .val (.int .i64 x1)]) (vs := [.int .i64 0, .agg #[.int .i64 13, .int .i64 x1]]) (l := [.loaded ⟨b1, 0, none⟩ (.int .i64 13), .loaded ⟨b1, 1, none⟩ (.int .i64 x1)]) rfl (by kernel_rfl) ⟨hS50.cell 0 rfl rfl, hS50.cell 0 rfl rfl, trivial⟩ ⟨rfl, hS51⟩)
        · rw [hq6] at h
          simp only [] at h
          refine we_iter (A := modes_Within.A0 K w0 l0 A0 c0 x1 x2 l3 A3 c3 hR0 hL0 hR3 hL3 b1 r1 b2 hc1 r2 b3 hc2 hc3 e1 hx4 b4) (B := modes_Within.B0 K w0 l0 A0 c0 x1 x2 l3 A3 c3 hR0 hL0 hR3 hL3 b1 r1 b2 hc1 r2 b3 hc2 hc3 e1 hx4 b4) hq6 (fun a hF => ⟨hS17, hF.weaken ⟨by kernel_rfl, by kernel_rfl, by kernel_rfl, by kernel_rfl, by kernel_rfl, by kernel_rfl, by kernel_rfl, trivial⟩⟩) (fun s o hf a w hA Q hQ => modes_Within_r0 K w0 l0 A0 c0 x1 x2 l3 A3 c3 hR0 hL0 hR3 hL3 b1 r1 b2 hc1 r2 b3 hc2 hc3 e1 hx4 b4 s o hf a w hA Q hQ) ?_
          rintro _ a w1 _ ⟨rfl, hb⟩
          obtain rfl := Option.some.inj h
          exact hb
      · rw [if_neg hc3] at h
        cases h
    · rw [if_neg hc2] at h
      refine we_known (t := 33) (b := (r2.Code != 0)) (v := true) (by kernel_rfl) (bne_iff_ne.2 hc2) ?_
      refine we_true (by kernel_rfl) ?_
      refine we_seq fun K25 hK25 => ?_
      refine we_draws (by kernel_rfl) [(0, 0), (1, 0), (2, 2)] (by kernel_rfl) ?_
      have hS52 := hS11.drew
      refine ge_batch [0, 1] (ans := [.val (.int .i64 r2.Code), .val (.int .i64 r2.At)]) (vs := [(8, .int .i64 0), (34, .agg #[.int .i64 r2.Code, .int .i64 r2.At])]) (l := [.loaded ⟨b3, 0, none⟩ (.int .i64 r2.Code), .loaded ⟨b3, 1, none⟩ (.int .i64 r2.At)]) (by kernel_rfl) ⟨hS52.cell 0 rfl rfl, hS52.cell 0 rfl rfl, trivial⟩ ?_
      have hS53 := hS52.bring 2 rfl
      refine ge_set (b := b1) (j := 0) (cs := #[.int .i64 0, .int .i64 0]) (t := 31) (vs := [.int .i64 r2.Code, .int .i64 r2.At]) hS53 (by kernel_rfl) rfl rfl fun w18 hS54 => ?_
      have hS55 : St w0 w18 [Own.blk b1 (.cells #[.int .i64 r2.Code, .int .i64 r2.At] 31 (0, 0)), Own.blk b3 (.cells #[.int .i64 r2.Code, .int .i64 r2.At] 31 (0, 0)), Own.blk b2 (.cells #[.int .i64 r1.2.Code, .int .i64 r1.2.At] 31 (0, 0))] := hS54
      refine ge_nil fun a hF => hK25 _ _ ?_ a hF
      have hS56 := hS55.takeN 0
      obtain rfl := Option.some.inj h
      exact we_ret (post_ret (rs := [.tmp 8, .cell 9 31]) (ans := [.val (.int .i64 r2.Code), .val (.int .i64 r2.At)]) (vs := [.int .i64 0, .agg #[.int .i64 r2.Code, .int .i64 r2.At]]) (l := [.loaded ⟨b1, 0, none⟩ (.int .i64 r2.Code), .loaded ⟨b1, 1, none⟩ (.int .i64 r2.At)]) rfl (by kernel_rfl) ⟨hS55.cell 0 rfl rfl, hS55.cell 0 rfl rfl, trivial⟩ ⟨rfl, hS56⟩)
  · rw [if_neg hc1] at h
    refine we_known (t := 26) (b := (r1.2.Code != 0)) (v := true) (by kernel_rfl) (bne_iff_ne.2 hc1) ?_
    refine we_true (by kernel_rfl) ?_
    refine we_seq fun K26 hK26 => ?_
    refine we_draws (by kernel_rfl) [(0, 0), (1, 0), (2, 2)] (by kernel_rfl) ?_
    have hS57 := hS6.drew
    refine ge_batch [0, 1] (ans := [.val (.int .i64 r1.2.Code), .val (.int .i64 r1.2.At)]) (vs := [(8, .int .i64 0), (27, .agg #[.int .i64 r1.2.Code, .int .i64 r1.2.At])]) (l := [.loaded ⟨b2, 0, none⟩ (.int .i64 r1.2.Code), .loaded ⟨b2, 1, none⟩ (.int .i64 r1.2.At)]) (by kernel_rfl) ⟨hS57.cell 0 rfl rfl, hS57.cell 0 rfl rfl, trivial⟩ ?_
    have hS58 := hS57.bring 1 rfl
    refine ge_set (b := b1) (j := 0) (cs := #[.int .i64 0, .int .i64 0]) (t := 31) (vs := [.int .i64 r1.2.Code, .int .i64 r1.2.At]) hS58 (by kernel_rfl) rfl rfl fun w19 hS59 => ?_
    have hS60 : St w0 w19 [Own.blk b1 (.cells #[.int .i64 r1.2.Code, .int .i64 r1.2.At] 31 (0, 0)), Own.blk b2 (.cells #[.int .i64 r1.2.Code, .int .i64 r1.2.At] 31 (0, 0))] := hS59
    refine ge_nil fun a hF => hK26 _ _ ?_ a hF
    have hS61 := hS60.takeN 0
    obtain rfl := Option.some.inj h
    exact we_ret (post_ret (rs := [.tmp 8, .cell 9 31]) (ans := [.val (.int .i64 r1.2.Code), .val (.int .i64 r1.2.At)]) (vs := [.int .i64 0, .agg #[.int .i64 r1.2.Code, .int .i64 r1.2.At]]) (l := [.loaded ⟨b1, 0, none⟩ (.int .i64 r1.2.Code), .loaded ⟨b1, 1, none⟩ (.int .i64 r1.2.At)]) rfl (by kernel_rfl) ⟨hS60.cell 0 rfl rfl, hS60.cell 0 rfl rfl, trivial⟩ ⟨rfl, hS61⟩)

/-! punctual/modes.Open -/
abbrev modes_Open.Post (w0 : World) (r : Bool) (e : Ending) (w : World) : Prop := e = .returned (.bool r) ∧ St w0 w []
def modes_Open.p0 (K : Nat) (x0 : Int) (l1 : List SWindow) (x2 : Int) : Option (Unit ⊕ Bool) :=
    if x2 < 0 then
      some (.inr false)
    else
      match modes_Frame.f K x0 l1 with
      | none => none
      | some r1 =>
        if r1.Code = 0 then
          some (.inl ())
        else
          some (.inr false)
def modes_Open.r1 (x0 : Int) (l1 : List SWindow) (x2 : Int) : Nat → Option (Nat ⊕ (Unit ⊕ Bool))
  | i1 =>
    if (i1 : Int) < (l1.length : Int) then
      match l1[i1]? with
      | none => none
      | some e1 =>
        if (Int.tmod x2 x0) ≥ e1.At then
          if (Int.tmod x2 x0) < (IntKind.i64.wrap (e1.At + e1.Len)) then
            some (.inr (.inr true))
          else
            some (.inl (i1 + 1))
        else
          some (.inl (i1 + 1))
    else
      some (.inr (.inl ()))
def modes_Open.f (K : Nat) (x0 : Int) (l1 : List SWindow) (x2 : Int) : Option Bool :=
  match modes_Open.p0 K x0 l1 x2 with
  | none => none
  | some (.inl _) =>
    if x0 = 0 then
      none
    else
      match iter (modes_Open.r1 x0 l1 x2) K 0 with
      | none => none
      | some (.inl _) =>
        some false
      | some (.inr rr1) =>
        some rr1
  | some (.inr rr2) =>
    some rr2
abbrev modes_Open.A0 (K : Nat) (w0 : World) (x0 : Int) (l1 : List SWindow) (A1 : Option Addr) (c1 : Nat) (x2 : Int) (hR1 : RdL w0 A1 l1) (hL1 : l1.length ≤ c1) : Unit → Act → World → Prop := fun (s : Unit) a w => St w0 w [] ∧ Frm 41 a [(0, .int .i64 x0), (1, .slice A1 l1.length c1), (2, .int .i64 x2)]
abbrev modes_Open.B0 (K : Nat) (w0 : World) (x0 : Int) (l1 : List SWindow) (A1 : Option Addr) (c1 : Nat) (x2 : Int) (hR1 : RdL w0 A1 l1) (hL1 : l1.length ≤ c1) : Bool → Exit → Act → World → Prop := Rets Try.prog Try.f50 (modes_Open.Post w0)
theorem modes_Open_p0 (K : Nat) (w0 : World) (x0 : Int) (l1 : List SWindow) (A1 : Option Addr) (c1 : Nat) (x2 : Int) (hR1 : RdL w0 A1 l1) (hL1 : l1.length ≤ c1) (o : Unit ⊕ Bool) (h : modes_Open.p0 K x0 l1 x2 = some o) (w : World) (hS : St w0 w []) (Q : Exit → Act → World → Prop) (hQ : ∀ x a w, Outs (modes_Open.A0 K w0 x0 l1 A1 c1 x2 hR1 hL1) (modes_Open.B0 K w0 x0 l1 A1 c1 x2 hR1 hL1) o x a w → Q x a w) : WE Try.prog 41 (subF Try.f50 [1, 0]) Q [(0, .int .i64 x0), (1, .slice A1 l1.length c1), (2, .int .i64 x2), (6, .bool false)] w := by
  simp only [modes_Open.p0] at h
  refine we_seq fun K3 hK3 => ?_
  refine we_region [(0, 0), (1, 0), (2, 0), (3, 0), (4, 0), (5, 1), (6, 0), (7, 0), (8, 0)] rfl ?_
  refine ge_batch [0, 1, 2] (ans := []) (vs := [(11, .bool (decide (x2 < 0))), (10, .bool (decide (x2 < 0))), (9, .int .i64 x2)]) (l := []) (by kernel_rfl) trivial ?_
  by_cases hc1 : x2 < 0
  · rw [if_pos hc1] at h
    refine ge_known (t := 11) (b := decide (x2 < 0)) (c := true) (by kernel_rfl) (decide_eq_true hc1) ?_
    refine ge_batch [3, 4] (ans := []) (vs := [(13, undef), (12, undef)]) (l := []) (by kernel_rfl) trivial ?_
    refine ge_off rfl rfl rfl (by kernel_rfl) ?_
    refine ge_batch [6, 7, 8] (ans := []) (vs := [(17, .bool true), (16, undef), (15, undef)]) (l := []) (by kernel_rfl) trivial ?_
    refine ge_nil fun a hF => hK3 _ _ ?_ a hF
    refine we_true (by kernel_rfl) ?_
    refine we_seq fun K4 hK4 => ?_
    refine we_region [(0, 0)] rfl ?_
    refine ge_batch [0] (ans := []) (vs := [(6, .bool false)]) (l := []) (by kernel_rfl) trivial ?_
    refine ge_nil fun a hF => hK4 _ _ ?_ a hF
    obtain rfl := Option.some.inj h
    exact we_ret fun a hF => hQ _ _ _ (Outs.out nofun ⟨rfl, (post_ret (rs := [.tmp 6]) (ans := []) (vs := [.bool false]) (l := []) rfl (by kernel_rfl) trivial ⟨rfl, hS⟩) a hF⟩)
  · rw [if_neg hc1] at h
    refine ge_known (t := 11) (b := decide (x2 < 0)) (c := false) (by kernel_rfl) (decide_eq_false hc1) ?_
    rcases hq1 : modes_Frame.f K x0 l1 with _ | r1
    · rw [hq1] at h; cases h
    rw [hq1] at h
    simp only [] at h
    refine ge_batch [3, 4] (ans := []) (vs := [(13, .slice A1 l1.length c1), (12, .int .i64 x0)]) (l := []) (by kernel_rfl) trivial ?_
    refine ge_call (d := some 14) (f := 52) (args := #[.int .i64 x0, .slice A1 l1.length c1]) (by kernel_rfl) (modes_Frame_ok K x0 l1 A1 c1 _ (hS.rd hR1) hL1 _ hq1) ?_
    rintro _ w1 ⟨rfl, hS1⟩
    refine ⟨_, rfl, hS1.below, ?_⟩
    have hS2 := hS.call hS1
    refine ge_batch [6, 7, 8] (ans := []) (vs := [(17, .bool (r1.Code != 0)), (16, .bool (r1.Code != 0)), (15, .int .i64 r1.Code)]) (l := []) (by kernel_rfl) trivial ?_
    refine ge_nil fun a hF => hK3 _ _ ?_ a hF
    by_cases hc2 : r1.Code = 0
    · rw [if_pos hc2] at h
      refine we_known (t := 17) (b := (r1.Code != 0)) (v := false) (by kernel_rfl) (bne_eq_false_iff_eq.2 hc2) ?_
      refine we_false (by kernel_rfl) ?_
      obtain rfl := Option.some.inj h
      exact we_skip fun a hF => hQ _ _ _ (Outs.again ⟨hS2, hF.weaken ⟨by kernel_rfl, by kernel_rfl, by kernel_rfl, trivial⟩⟩)
    · rw [if_neg hc2] at h
      refine we_known (t := 17) (b := (r1.Code != 0)) (v := true) (by kernel_rfl) (bne_iff_ne.2 hc2) ?_
      refine we_true (by kernel_rfl) ?_
      refine we_seq fun K5 hK5 => ?_
      refine we_region [(0, 0)] rfl ?_
      refine ge_batch [0] (ans := []) (vs := [(6, .bool false)]) (l := []) (by kernel_rfl) trivial ?_
      refine ge_nil fun a hF => hK5 _ _ ?_ a hF
      obtain rfl := Option.some.inj h
      exact we_ret fun a hF => hQ _ _ _ (Outs.out nofun ⟨rfl, (post_ret (rs := [.tmp 6]) (ans := []) (vs := [.bool false]) (l := []) rfl (by kernel_rfl) trivial ⟨rfl, hS2⟩) a hF⟩)
abbrev modes_Open.A1 (K : Nat) (w0 : World) (x0 : Int) (l1 : List SWindow) (A1 : Option Addr) (c1 : Nat) (x2 : Int) (hR1 : RdL w0 A1 l1) (hL1 : l1.length ≤ c1) (hc3 : ¬ (x0 = 0)) : Nat → Act → World → Prop := fun (s : Nat) a w => St w0 w [] ∧ Frm 41 a [(2, .int .i64 (Int.tmod x2 x0)), (21, .slice A1 l1.length c1), (22, .int .i64 (l1.length : Int)), (23, .int .i64 (s : Int))]
abbrev modes_Open.B1 (K : Nat) (w0 : World) (x0 : Int) (l1 : List SWindow) (A1 : Option Addr) (c1 : Nat) (x2 : Int) (hR1 : RdL w0 A1 l1) (hL1 : l1.length ≤ c1) (hc3 : ¬ (x0 = 0)) : (Unit ⊕ Bool) → Exit → Act → World → Prop := Exits 0 (fun (s : Unit) a w => St w0 w [] ∧ Frm 41 a []) (Rets Try.prog Try.f50 (modes_Open.Post w0))
theorem modes_Open_r1 (K : Nat) (w0 : World) (x0 : Int) (l1 : List SWindow) (A1 : Option Addr) (c1 : Nat) (x2 : Int) (hR1 : RdL w0 A1 l1) (hL1 : l1.length ≤ c1) (hc3 : ¬ (x0 = 0)) (s : Nat) (o : Nat ⊕ (Unit ⊕ Bool)) (h : modes_Open.r1 x0 l1 x2 s = some o) (a : Act) (w : World) (hA : modes_Open.A1 K w0 x0 l1 A1 c1 x2 hR1 hL1 hc3 s a w) (Q : Exit → Act → World → Prop) (hQ : ∀ x a w, Outs (modes_Open.A1 K w0 x0 l1 A1 c1 x2 hR1 hL1 hc3) (modes_Open.B1 K w0 x0 l1 A1 c1 x2 hR1 hL1 hc3) o x a w → Q x a w) : (subF Try.f50 [1, 1, 1, 0, 1, 0, 0]).wp Try.prog Q a w := by
  obtain ⟨i1, hs⟩ : ∃ z, z = s := ⟨s, rfl⟩
  subst hs
  obtain ⟨hS, hF⟩ := hA
  replace hS : St w0 w [] := hS
  simp only [modes_Open.r1] at h
  refine (?_ : WE Try.prog 41 (subF Try.f50 [1, 1, 1, 0, 1, 0, 0]) Q [(2, .int .i64 (Int.tmod x2 x0)), (21, .slice A1 l1.length c1), (22, .int .i64 (l1.length : Int)), (23, .int .i64 (i1 : Int))] w) a hF
  clear hF a
  refine we_seq fun K9 hK9 => ?_
  refine we_region [(0, 0)] rfl ?_
  refine ge_batch [0] (ans := []) (vs := [(24, .bool (decide ((i1 : Int) < (l1.length : Int))))]) (l := []) (by kernel_rfl) trivial ?_
  refine ge_nil fun a hF => hK9 _ _ ?_ a hF
  refine we_seq fun K10 hK10 => ?_
  by_cases hc4 : (i1 : Int) < (l1.length : Int)
  · rw [if_pos hc4] at h
    refine we_known (t := 24) (b := decide ((i1 : Int) < (l1.length : Int))) (v := true) (by kernel_rfl) (decide_eq_true hc4) ?_
    refine we_true (by kernel_rfl) ?_
    refine we_skip fun a hF => hK10 _ _ ?_ a hF
    refine we_seq fun K11 hK11 => ?_
    refine we_block ?_
    refine we_seq fun K12 hK12 => ?_
    refine we_region [(0, 0), (1, 0), (2, 1), (3, 2)] rfl ?_
    rcases hx1 : l1[i1]? with _ | e1
    · rw [hx1] at h; cases h
    rw [hx1] at h
    simp only [] at h
    refine ge_index (d := 25) (ty := 0) (t := 23) (el := 98) (sz := 2) (m := l1.length) (c := c1) (x := (.tmp 21)) (y := (.tmp 23)) (A := A1) (k' := .i64) (j := (i1 : Int)) (jn := i1) (b0 := blkOf A1) (o0 := offOf A1) (by kernel_rfl) (by kernel_rfl) (by kernel_rfl) (by kernel_rfl) (by kernel_rfl) ((hS.rd hR1).eqSome (pos_of_get hx1)) rfl (lt_of_get hx1) ?_
    refine ge_batch [1] (ans := [.val (.int .i64 e1.At), .val (.int .i64 e1.Len)]) (vs := [(26, .agg #[.int .i64 e1.At, .int .i64 e1.Len])]) (l := [.loaded ⟨blkOf A1, offOf A1 + i1 * 2, none⟩ (.int .i64 e1.At), .loaded ⟨blkOf A1, offOf A1 + i1 * 2 + 1, none⟩ (.int .i64 e1.Len)]) (by kernel_rfl) ⟨RdL.cell (j := 0) (hS.rd hR1) hx1 rfl, RdL.cell (j := 1) (hS.rd hR1) hx1 rfl, trivial⟩ ?_
    refine ge_new (d := some 8) (o := .cells #[.int .i64 0, .int .i64 0] 98) (v := fun b => .pointer (some ⟨b, 0, none⟩)) hS (fun b => by kernel_rfl) fun b1 w3 hx2 hS4 => ?_
    refine ge_set (b := b1) (j := 0) (cs := #[.int .i64 0, .int .i64 0]) (t := 98) (vs := [.int .i64 e1.At, .int .i64 e1.Len]) hS4 (by kernel_rfl) rfl rfl fun w4 hS5 => ?_
    have hS6 : St w0 w4 [Own.blk b1 (.cells #[.int .i64 e1.At, .int .i64 e1.Len] 98 (0, 0))] := hS5
    refine ge_nil fun a hF => hK12 _ _ ?_ a hF
    refine we_seq fun K13 hK13 => ?_
    refine we_region [(0, 0), (1, 0), (2, 0), (3, 0), (4, 0), (5, 0), (6, 0), (7, 0), (8, 0), (9, 0), (10, 0), (11, 0), (12, 0)] rfl ?_
    refine ge_batch [0, 1, 2, 3, 4] (ans := [.val (.int .i64 e1.At)]) (vs := [(31, .bool (decide ((Int.tmod x2 x0) ≥ e1.At))), (30, .bool (decide ((Int.tmod x2 x0) ≥ e1.At))), (29, .int .i64 e1.At), (28, .pointer (some ⟨b1, 0, none⟩)), (27, .int .i64 (Int.tmod x2 x0))]) (l := [.loaded ⟨b1, 0, none⟩ (.int .i64 e1.At)]) (by kernel_rfl) ⟨hS6.cell 0 rfl rfl, trivial⟩ ?_
    by_cases hc5 : (Int.tmod x2 x0) ≥ e1.At
    · rw [if_pos hc5] at h
      refine ge_known (t := 31) (b := decide ((Int.tmod x2 x0) ≥ e1.At)) (c := true) (by kernel_rfl) (decide_eq_true hc5) ?_
      refine ge_batch [5, 6, 7, 8, 9, 10, 11, 12] (ans := [.val (.int .i64 e1.At), .val (.int .i64 e1.Len)]) (vs := [(39, .bool (decide ((Int.tmod x2 x0) < (IntKind.i64.wrap (e1.At + e1.Len))))), (38, .bool (decide ((Int.tmod x2 x0) < (IntKind.i64.wrap (e1.At + e1.Len))))), (37, .int .i64 (IntKind.i64.wrap (e1.At + e1.Len))), (36, .int .i64 e1.Len), (35, .pointer (some ⟨b1, 1, none⟩)), (34, .int .i64 e1.At), (33, .pointer (some ⟨b1, 0, none⟩)), (32, .int .i64 (Int.tmod x2 x0))]) (l := [.loaded ⟨b1, 0, none⟩ (.int .i64 e1.At), .loaded ⟨b1, 1, none⟩ (.int .i64 e1.Len)]) (by kernel_rfl) ⟨hS6.cell 0 rfl rfl, hS6.cell 0 rfl rfl, trivial⟩ ?_
      refine ge_nil fun a hF => hK13 _ _ ?_ a hF
      by_cases hc6 : (Int.tmod x2 x0) < (IntKind.i64.wrap (e1.At + e1.Len))
      · rw [if_pos hc6] at h
        refine we_known (t := 39) (b := decide ((Int.tmod x2 x0) < (IntKind.i64.wrap (e1.At + e1.Len)))) (v := true) (by kernel_rfl) (decide_eq_true hc6) ?_
        refine we_true (by kernel_rfl) ?_
        refine we_seq fun K14 hK14 => ?_
        refine we_region [(0, 0)] rfl ?_
        refine ge_batch [0] (ans := []) (vs := [(6, .bool true)]) (l := []) (by kernel_rfl) trivial ?_
        refine ge_nil fun a hF => hK14 _ _ ?_ a hF
        have hS7 := hS6.takeN 0
        obtain rfl := Option.some.inj h
        exact we_ret fun a hF => hQ _ _ _ (Outs.out nofun (Exits.on ⟨rfl, (post_ret (rs := [.tmp 6]) (ans := []) (vs := [.bool true]) (l := []) rfl (by kernel_rfl) trivial ⟨rfl, hS7⟩) a hF⟩))
      · rw [if_neg hc6] at h
        refine we_known (t := 39) (b := decide ((Int.tmod x2 x0) < (IntKind.i64.wrap (e1.At + e1.Len)))) (v := false) (by kernel_rfl) (decide_eq_false hc6) ?_
        refine we_false (by kernel_rfl) ?_
        refine we_skip fun a hF => hK11 _ _ ?_ a hF
        refine we_region [(0, 0), (1, 0)] rfl ?_
        refine ge_addn (d := 40) (ty := 3) (x := (.tmp 23)) (y := (.const (.int .i64 1))) (t := 3) (t2 := 3) (k := .i64) (m := i1) (by kernel_rfl) (by kernel_rfl) (by kernel_rfl) (by have h0 := hR1.small; omega) ?_
        refine ge_batch [1] (ans := []) (vs := [(23, .int .i64 ((i1 + 1 : Nat) : Int))]) (l := []) (by kernel_rfl) trivial ?_
        have hS8 := hS6.takeN 0
        obtain rfl := Option.some.inj h
        exact ge_nil fun a hF => hQ _ _ _ (Outs.again ⟨hS8, hF.weaken ⟨by kernel_rfl, by kernel_rfl, by kernel_rfl, by kernel_rfl, trivial⟩⟩)
    · rw [if_neg hc5] at h
      refine ge_known (t := 31) (b := decide ((Int.tmod x2 x0) ≥ e1.At)) (c := false) (by kernel_rfl) (decide_eq_false hc5) ?_
      refine ge_batch [5, 6, 7, 8, 9, 10, 11, 12] (ans := []) (vs := [(39, .bool false), (38, undef), (37, undef), (36, undef), (35, undef), (34, undef), (33, undef), (32, undef)]) (l := []) (by kernel_rfl) trivial ?_
      refine ge_nil fun a hF => hK13 _ _ ?_ a hF
      refine we_false (by kernel_rfl) ?_
      refine we_skip fun a hF => hK11 _ _ ?_ a hF
      refine we_region [(0, 0), (1, 0)] rfl ?_
      refine ge_addn (d := 40) (ty := 3) (x := (.tmp 23)) (y := (.const (.int .i64 1))) (t := 3) (t2 := 3) (k := .i64) (m := i1) (by kernel_rfl) (by kernel_rfl) (by kernel_rfl) (by have h0 := hR1.small; omega) ?_
      refine ge_batch [1] (ans := []) (vs := [(23, .int .i64 ((i1 + 1 : Nat) : Int))]) (l := []) (by kernel_rfl) trivial ?_
      have hS9 := hS6.takeN 0
      obtain rfl := Option.some.inj h
      exact ge_nil fun a hF => hQ _ _ _ (Outs.again ⟨hS9, hF.weaken ⟨by kernel_rfl, by kernel_rfl, by kernel_rfl, by kernel_rfl, trivial⟩⟩)
  · rw [if_neg hc4] at h
    refine we_known (t := 24) (b := decide ((i1 : Int) < (l1.length : Int))) (v := false) (by kernel_rfl) (decide_eq_false hc4) ?_
    refine we_false (by kernel_rfl) ?_
    obtain rfl := Option.some.inj h
    exact we_exit fun a hF => hQ _ _ _ (Outs.out nofun (Exits.here ⟨hS, hF.weaken trivial⟩))
theorem modes_Open_ok (K : Nat) (x0 : Int) (l1 : List SWindow) (A1 : Option Addr) (c1 : Nat) (x2 : Int) (w0 : World) (hR1 : RdL w0 A1 l1) (hL1 : l1.length ≤ c1) (r : Bool) (h : modes_Open.f K x0 l1 x2 = some r) :
    Calls Try.prog 50 #[.int .i64 x0, .slice A1 l1.length c1, .int .i64 x2] w0 (modes_Open.Post w0 r) := by
  have hS := St.start w0
  unfold modes_Open.f at h
  refine calls_enter (n := 41) (args := [.int .i64 x0, .slice A1 l1.length c1, .int .i64 x2]) (fn := Try.f50) rfl rfl rfl rfl ?_
  show WE _ _ _ _ [(0, .int .i64 x0), (1, .slice A1 l1.length c1), (2, .int .i64 x2)] _
  refine we_seq fun K1 hK1 => ?_
  refine we_region [(0, 0)] rfl ?_
  refine ge_batch [0] (ans := []) (vs := [(6, .bool false)]) (l := []) (by kernel_rfl) trivial ?_
  refine ge_nil fun a hF => hK1 _ _ ?_ a hF
  refine we_seq fun K2 hK2 => ?_
  rcases hq2 : modes_Open.p0 K x0 l1 x2 with _ | (_ | rr2)
  · rw [hq2] at h; cases h
  · rw [hq2] at h
    simp only [] at h
    refine we_keep (e' := [(0, .int .i64 x0), (1, .slice A1 l1.length c1), (2, .int .i64 x2), (6, .bool false)]) ⟨by kernel_rfl, by kernel_rfl, by kernel_rfl, by kernel_rfl, trivial⟩ (modes_Open_p0 K w0 x0 l1 A1 c1 x2 hR1 hL1 _ hq2 _ hS _ ?_)
    rintro _ a w2 ⟨rfl, hS3, hF⟩
    replace hS3 : St w0 w2 [] := hS3
    refine hK2 [(0, .int .i64 x0), (1, .slice A1 l1.length c1), (2, .int .i64 x2)] w2 ?_ a hF
    refine we_seq fun K6 hK6 => ?_
    refine we_region [(0, 0), (1, 0), (2, 0), (3, 0)] rfl ?_
    refine ge_batch [0, 1] (ans := []) (vs := [(19, .int .i64 x0), (18, .int .i64 x2)]) (l := []) (by kernel_rfl) trivial ?_
    by_cases hc3 : x0 = 0
    · rw [if_pos hc3] at h
      cases h
    · rw [if_neg hc3] at h
      refine ge_div (d := 20) (ty := 3) (op := .rem) (x := (.tmp 18)) (y := (.tmp 19)) (t := 3) (t2 := 3) (k := .i64) (p := x2) (q := x0) (v := .int .i64 (Int.tmod x2 x0)) (by kernel_rfl) (by kernel_rfl) (by kernel_rfl) hc3 rfl ?_
      refine ge_batch [3] (ans := []) (vs := [(2, .int .i64 (Int.tmod x2 x0))]) (l := []) (by kernel_rfl) trivial ?_
      refine ge_nil fun a hF => hK6 _ _ ?_ a hF
      refine we_seq fun K7 hK7 => ?_
      refine we_seq fun K8 hK8 => ?_
      refine we_region [(0, 0), (1, 0), (2, 0)] rfl ?_
      refine ge_batch [0, 1, 2] (ans := []) (vs := [(23, .int .i64 0), (22, .int .i64 (l1.length : Int)), (21, .slice A1 l1.length c1)]) (l := []) (by kernel_rfl) trivial ?_
      refine ge_nil fun a hF => hK8 _ _ ?_ a hF
      refine we_block ?_
      rcases hq3 : iter (modes_Open.r1 x0 l1 x2) K 0 with _ | (_ | rr1)
      · rw [hq3] at h; cases h
      · rw [hq3] at h
        simp only [] at h
        refine we_iter (A := modes_Open.A1 K w0 x0 l1 A1 c1 x2 hR1 hL1 hc3) (B := modes_Open.B1 K w0 x0 l1 A1 c1 x2 hR1 hL1 hc3) hq3 (fun a hF => ⟨hS3, hF.weaken ⟨by kernel_rfl, by kernel_rfl, by kernel_rfl, by kernel_rfl, trivial⟩⟩) (fun s o hf a w hA Q hQ => modes_Open_r1 K w0 x0 l1 A1 c1 x2 hR1 hL1 hc3 s o hf a w hA Q hQ) ?_
        rintro _ a w5 _ ⟨rfl, hS10, hF⟩
        replace hS10 : St w0 w5 [] := hS10
        refine hK7 [] w5 ?_ a hF
        refine we_seq fun K15 hK15 => ?_
        refine we_region [(0, 0)] rfl ?_
        refine ge_batch [0] (ans := []) (vs := [(6, .bool false)]) (l := []) (by kernel_rfl) trivial ?_
        refine ge_nil fun a hF => hK15 _ _ ?_ a hF
        obtain rfl := Option.some.inj h
        exact we_ret (post_ret (rs := [.tmp 6]) (ans := []) (vs := [.bool false]) (l := []) rfl (by kernel_rfl) trivial ⟨rfl, hS10⟩)
      · rw [hq3] at h
        simp only [] at h
        refine we_iter (A := modes_Open.A1 K w0 x0 l1 A1 c1 x2 hR1 hL1 hc3) (B := modes_Open.B1 K w0 x0 l1 A1 c1 x2 hR1 hL1 hc3) hq3 (fun a hF => ⟨hS3, hF.weaken ⟨by kernel_rfl, by kernel_rfl, by kernel_rfl, by kernel_rfl, trivial⟩⟩) (fun s o hf a w hA Q hQ => modes_Open_r1 K w0 x0 l1 A1 c1 x2 hR1 hL1 hc3 s o hf a w hA Q hQ) ?_
        rintro _ a w1 _ ⟨rfl, hb⟩
        obtain rfl := Option.some.inj h
        exact hb
  · rw [hq2] at h
    simp only [] at h
    refine we_keep (e' := [(0, .int .i64 x0), (1, .slice A1 l1.length c1), (2, .int .i64 x2), (6, .bool false)]) ⟨by kernel_rfl, by kernel_rfl, by kernel_rfl, by kernel_rfl, trivial⟩ (modes_Open_p0 K w0 x0 l1 A1 c1 x2 hR1 hL1 _ hq2 _ hS _ ?_)
    rintro _ a w1 ⟨_, rfl, hb⟩
    obtain rfl := Option.some.inj h
    exact hb

/-! punctual/punctuallaw.opens -/
abbrev opens.Post (w0 : World) (r : Bool) (e : Ending) (w : World) : Prop := e = .returned (.bool r) ∧ St w0 w []
def opens.f (K : Nat) : Option Bool :=
  match modes_Supply.f K 6 ([(⟨1, 2⟩ : SWindow), (⟨5, 1⟩ : SWindow)] : List SWindow) 2 7 with
  | none => none
  | some r1 =>
    match modes_Least.f K 6 ([(⟨1, 2⟩ : SWindow), (⟨5, 1⟩ : SWindow)] : List SWindow) 3 with
    | none => none
    | some r2 =>
      match modes_Within.f K ([(⟨⟨#[97]⟩, 2, 9, 9, 0, 0, 0⟩ : STask)] : List STask) 0 6 ([(⟨1, 2⟩ : SWindow), (⟨5, 1⟩ : SWindow)] : List SWindow) with
      | none => none
      | some r3 =>
        if r1.2.Code = 0 then
          if r2.2.Code = 0 then
            if r3.2.Code = 0 then
              if r1.1 = 4 then
                if r2.1 = 1 then
                  if r3.1 = 5 then
                    match modes_Open.f K 6 ([(⟨1, 2⟩ : SWindow), (⟨5, 1⟩ : SWindow)] : List SWindow) 7 with
                    | none => none
                    | some r4 =>
                      if r4 = true then
                        match modes_Open.f K 6 ([(⟨1, 2⟩ : SWindow), (⟨5, 1⟩ : SWindow)] : List SWindow) 6 with
                        | none => none
                        | some r5 =>
                          some (!r5)
                      else
                        some false
                  else
                    some false
                else
                  some false
              else
                some false
            else
              some false
          else
            some false
        else
          some false
theorem opens_ok (K : Nat)  (w0 : World) (r : Bool) (h : opens.f K = some r) :
    Calls Try.prog 10 #[] w0 (opens.Post w0 r) := by
  have hS := St.start w0
  unfold opens.f at h
  refine calls_enter (n := 62) (args := []) (fn := Try.f10) rfl rfl rfl rfl ?_
  show WE _ _ _ _ [] _
  refine we_seq fun K1 hK1 => ?_
  refine we_region [(0, 0)] rfl ?_
  refine ge_batch [0] (ans := []) (vs := [(0, .bool false)]) (l := []) (by kernel_rfl) trivial ?_
  refine ge_nil fun a hF => hK1 _ _ ?_ a hF
  refine we_seq fun K2 hK2 => ?_
  refine we_region [(0, 0), (1, 0), (2, 1), (3, 0)] rfl ?_
  refine ge_batch [0, 1] (ans := []) (vs := [(9, .agg #[.int .i64 5, .int .i64 1]), (8, .agg #[.int .i64 1, .int .i64 2])]) (l := []) (by kernel_rfl) trivial ?_
  refine ge_new (d := some 10) (o := .cells #[.int .i64 1, .int .i64 2, .int .i64 5, .int .i64 1] 98) (v := fun b => .slice (some ⟨b, 0, none⟩) 2 2) hS (fun b => by kernel_rfl) fun b1 w1 hx1 hS1 => ?_
  refine ge_batch [3] (ans := []) (vs := [(1, .slice (some ⟨b1, 0, none⟩) 2 2)]) (l := []) (by kernel_rfl) trivial ?_
  refine ge_nil fun a hF => hK2 _ _ ?_ a hF
  refine we_seq fun K3 hK3 => ?_
  refine we_region [(0, 0), (1, 1), (2, 0), (3, 0), (4, 0), (5, 1), (6, 0), (7, 2)] rfl ?_
  rcases hq1 : modes_Supply.f K 6 ([(⟨1, 2⟩ : SWindow), (⟨5, 1⟩ : SWindow)] : List SWindow) 2 7 with _ | r1
  · rw [hq1] at h; cases h
  rw [hq1] at h
  simp only [] at h
  refine ge_batch [0] (ans := []) (vs := [(12, .slice (some ⟨b1, 0, none⟩) 2 2)]) (l := []) (by kernel_rfl) trivial ?_
  refine ge_call (d := some 13) (f := 48) (args := #[.int .i64 6, .slice (some ⟨b1, 0, none⟩) 2 2, .int .i64 2, .int .i64 7]) (by kernel_rfl) (modes_Supply_ok K 6 ([(⟨1, 2⟩ : SWindow), (⟨5, 1⟩ : SWindow)] : List SWindow) (some ⟨b1, 0, none⟩) 2 2 7 _ (hS1.rdBlk 0 ([(⟨1, 2⟩ : SWindow), (⟨5, 1⟩ : SWindow)] : List SWindow) rfl rfl rfl) (Nat.le_refl _) _ hq1) ?_
  rintro _ w2 ⟨rfl, hS2⟩
  refine ⟨_, rfl, hS2.below, ?_⟩
  have hS3 := hS1.call hS2
  refine ge_batch [2, 3, 4] (ans := []) (vs := [(15, .agg #[.int .i64 r1.2.Code, .int .i64 r1.2.At]), (14, .int .i64 r1.1), (11, .tuple #[.int .i64 r1.1, .agg #[.int .i64 r1.2.Code, .int .i64 r1.2.At]])]) (l := []) (by kernel_rfl) trivial ?_
  refine ge_new (d := some 3) (o := .cells #[.int .i64 0, .int .i64 0] 31) (v := fun b => .pointer (some ⟨b, 0, none⟩)) hS3 (fun b => by kernel_rfl) fun b2 w3 hx2 hS4 => ?_
  refine ge_batch [6] (ans := []) (vs := [(2, .int .i64 r1.1)]) (l := []) (by kernel_rfl) trivial ?_
  refine ge_set (b := b2) (j := 0) (cs := #[.int .i64 0, .int .i64 0]) (t := 31) (vs := [.int .i64 r1.2.Code, .int .i64 r1.2.At]) hS4 (by kernel_rfl) rfl rfl fun w4 hS5 => ?_
  have hS6 : St w0 w4 [Own.blk b2 (.cells #[.int .i64 r1.2.Code, .int .i64 r1.2.At] 31 (0, 0)), Own.blk b1 (.cells #[.int .i64 1, .int .i64 2, .int .i64 5, .int .i64 1] 98 (0, 0))] := hS5
  refine ge_nil fun a hF => hK3 _ _ ?_ a hF
  refine we_seq fun K4 hK4 => ?_
  refine we_region [(0, 0), (1, 1), (2, 0), (3, 0), (4, 0), (5, 1), (6, 0), (7, 2)] rfl ?_
  rcases hq2 : modes_Least.f K 6 ([(⟨1, 2⟩ : SWindow), (⟨5, 1⟩ : SWindow)] : List SWindow) 3 with _ | r2
  · rw [hq2] at h; cases h
  rw [hq2] at h
  simp only [] at h
  refine ge_batch [0] (ans := []) (vs := [(17, .slice (some ⟨b1, 0, none⟩) 2 2)]) (l := []) (by kernel_rfl) trivial ?_
  refine ge_call (d := some 18) (f := 49) (args := #[.int .i64 6, .slice (some ⟨b1, 0, none⟩) 2 2, .int .i64 3]) (by kernel_rfl) (modes_Least_ok K 6 ([(⟨1, 2⟩ : SWindow), (⟨5, 1⟩ : SWindow)] : List SWindow) (some ⟨b1, 0, none⟩) 2 3 _ (hS6.rdBlk 1 ([(⟨1, 2⟩ : SWindow), (⟨5, 1⟩ : SWindow)] : List SWindow) rfl rfl rfl) (Nat.le_refl _) _ hq2) ?_
  rintro _ w5 ⟨rfl, hS7⟩
  refine ⟨_, rfl, hS7.below, ?_⟩
  have hS8 := hS6.call hS7
  refine ge_batch [2, 3, 4] (ans := []) (vs := [(20, .agg #[.int .i64 r2.2.Code, .int .i64 r2.2.At]), (19, .int .i64 r2.1), (16, .tuple #[.int .i64 r2.1, .agg #[.int .i64 r2.2.Code, .int .i64 r2.2.At]])]) (l := []) (by kernel_rfl) trivial ?_
  refine ge_new (d := some 5) (o := .cells #[.int .i64 0, .int .i64 0] 31) (v := fun b => .pointer (some ⟨b, 0, none⟩)) hS8 (fun b => by kernel_rfl) fun b3 w6 hx3 hS9 => ?_
  refine ge_batch [6] (ans := []) (vs := [(4, .int .i64 r2.1)]) (l := []) (by kernel_rfl) trivial ?_
  refine ge_set (b := b3) (j := 0) (cs := #[.int .i64 0, .int .i64 0]) (t := 31) (vs := [.int .i64 r2.2.Code, .int .i64 r2.2.At]) hS9 (by kernel_rfl) rfl rfl fun w7 hS10 => ?_
  have hS11 : St w0 w7 [Own.blk b3 (.cells #[.int .i64 r2.2.Code, .int .i64 r2.2.At] 31 (0, 0)), Own.blk b2 (.cells #[.int .i64 r1.2.Code, .int .i64 r1.2.At] 31 (0, 0)), Own.blk b1 (.cells #[.int .i64 1, .int .i64 2, .int .i64 5, .int .i64 1] 98 (0, 0))] := hS10
  refine ge_nil fun a hF => hK4 _ _ ?_ a hF
  refine we_seq fun K5 hK5 => ?_
  refine we_region [(0, 0), (1, 1), (2, 0), (3, 1), (4, 0), (5, 0), (6, 0), (7, 1), (8, 0), (9, 2)] rfl ?_
  refine ge_batch [0] (ans := []) (vs := [(22, .agg #[.string (⟨#[97]⟩), .int .i64 2, .int .i64 9, .int .i64 9, .int .i64 0, .int .i64 0, .int .i64 0])]) (l := []) (by kernel_rfl) trivial ?_
  refine ge_new (d := some 23) (o := .cells #[.string (⟨#[97]⟩), .int .i64 2, .int .i64 9, .int .i64 9, .int .i64 0, .int .i64 0, .int .i64 0] 102) (v := fun b => .slice (some ⟨b, 0, none⟩) 1 1) hS11 (fun b => by kernel_rfl) fun b4 w8 hx4 hS12 => ?_
  rcases hq3 : modes_Within.f K ([(⟨⟨#[97]⟩, 2, 9, 9, 0, 0, 0⟩ : STask)] : List STask) 0 6 ([(⟨1, 2⟩ : SWindow), (⟨5, 1⟩ : SWindow)] : List SWindow) with _ | r3
  · rw [hq3] at h; cases h
  rw [hq3] at h
  simp only [] at h
  refine ge_batch [2] (ans := []) (vs := [(24, .slice (some ⟨b1, 0, none⟩) 2 2)]) (l := []) (by kernel_rfl) trivial ?_
  refine ge_call (d := some 25) (f := 16) (args := #[.slice (some ⟨b4, 0, none⟩) 1 1, .int .i64 0, .int .i64 6, .slice (some ⟨b1, 0, none⟩) 2 2]) (by kernel_rfl) (modes_Within_ok K ([(⟨⟨#[97]⟩, 2, 9, 9, 0, 0, 0⟩ : STask)] : List STask) (some ⟨b4, 0, none⟩) 1 0 6 ([(⟨1, 2⟩ : SWindow), (⟨5, 1⟩ : SWindow)] : List SWindow) (some ⟨b1, 0, none⟩) 2 _ (hS12.rdBlk 0 ([(⟨⟨#[97]⟩, 2, 9, 9, 0, 0, 0⟩ : STask)] : List STask) rfl rfl rfl) (Nat.le_refl _) (hS12.rdBlk 3 ([(⟨1, 2⟩ : SWindow), (⟨5, 1⟩ : SWindow)] : List SWindow) rfl rfl rfl) (Nat.le_refl _) _ hq3) ?_
  rintro _ w9 ⟨rfl, hS13⟩
  refine ⟨_, rfl, hS13.below, ?_⟩
  have hS14 := hS12.call hS13
  refine ge_batch [4, 5, 6] (ans := []) (vs := [(27, .agg #[.int .i64 r3.2.Code, .int .i64 r3.2.At]), (26, .int .i64 r3.1), (21, .tuple #[.int .i64 r3.1, .agg #[.int .i64 r3.2.Code, .int .i64 r3.2.At]])]) (l := []) (by kernel_rfl) trivial ?_
  refine ge_new (d := some 7) (o := .cells #[.int .i64 0, .int .i64 0] 31) (v := fun b => .pointer (some ⟨b, 0, none⟩)) hS14 (fun b => by kernel_rfl) fun b5 w10 hx5 hS15 => ?_
  refine ge_batch [8] (ans := []) (vs := [(6, .int .i64 r3.1)]) (l := []) (by kernel_rfl) trivial ?_
  refine ge_set (b := b5) (j := 0) (cs := #[.int .i64 0, .int .i64 0]) (t := 31) (vs := [.int .i64 r3.2.Code, .int .i64 r3.2.At]) hS15 (by kernel_rfl) rfl rfl fun w11 hS16 => ?_
  have hS17 : St w0 w11 [Own.blk b5 (.cells #[.int .i64 r3.2.Code, .int .i64 r3.2.At] 31 (0, 0)), Own.blk b4 (.cells #[.string (⟨#[97]⟩), .int .i64 2, .int .i64 9, .int .i64 9, .int .i64 0, .int .i64 0, .int .i64 0] 102 (0, 0)), Own.blk b3 (.cells #[.int .i64 r2.2.Code, .int .i64 r2.2.At] 31 (0, 0)), Own.blk b2 (.cells #[.int .i64 r1.2.Code, .int .i64 r1.2.At] 31 (0, 0)), Own.blk b1 (.cells #[.int .i64 1, .int .i64 2, .int .i64 5, .int .i64 1] 98 (0, 0))] := hS16
  refine ge_nil fun a hF => hK5 _ _ ?_ a hF
  refine we_seq fun K6 hK6 => ?_
  refine we_region [(0, 0), (1, 0), (2, 0), (3, 0), (4, 0), (5, 0), (6, 0), (7, 0), (8, 0), (9, 0), (10, 0), (11, 0), (12, 0), (13, 0), (14, 0), (15, 0), (16, 0), (17, 0), (18, 0), (19, 0), (20, 0), (21, 0), (22, 0), (23, 0), (24, 0), (25, 0), (26, 0), (27, 1), (28, 0), (29, 0), (30, 0), (31, 1), (32, 0), (33, 0), (34, 0)] rfl ?_
  refine ge_batch [0, 1, 2, 3] (ans := [.val (.int .i64 r1.2.Code)]) (vs := [(31, .bool (r1.2.Code == 0)), (30, .bool (r1.2.Code == 0)), (29, .int .i64 r1.2.Code), (28, .pointer (some ⟨b2, 0, none⟩))]) (l := [.loaded ⟨b2, 0, none⟩ (.int .i64 r1.2.Code)]) (by kernel_rfl) ⟨hS17.cell 3 rfl rfl, trivial⟩ ?_
  by_cases hc1 : r1.2.Code = 0
  · rw [if_pos hc1] at h
    refine ge_known (t := 31) (b := (r1.2.Code == 0)) (c := true) (by kernel_rfl) (beq_iff_eq.2 hc1) ?_
    refine ge_batch [4, 5, 6, 7, 8] (ans := [.val (.int .i64 r2.2.Code)]) (vs := [(36, .bool (r2.2.Code == 0)), (35, .bool (r2.2.Code == 0)), (34, .bool (r2.2.Code == 0)), (33, .int .i64 r2.2.Code), (32, .pointer (some ⟨b3, 0, none⟩))]) (l := [.loaded ⟨b3, 0, none⟩ (.int .i64 r2.2.Code)]) (by kernel_rfl) ⟨hS17.cell 2 rfl rfl, trivial⟩ ?_
    by_cases hc2 : r2.2.Code = 0
    · rw [if_pos hc2] at h
      refine ge_known (t := 36) (b := (r2.2.Code == 0)) (c := true) (by kernel_rfl) (beq_iff_eq.2 hc2) ?_
      refine ge_batch [9, 10, 11, 12, 13] (ans := [.val (.int .i64 r3.2.Code)]) (vs := [(41, .bool (r3.2.Code == 0)), (40, .bool (r3.2.Code == 0)), (39, .bool (r3.2.Code == 0)), (38, .int .i64 r3.2.Code), (37, .pointer (some ⟨b5, 0, none⟩))]) (l := [.loaded ⟨b5, 0, none⟩ (.int .i64 r3.2.Code)]) (by kernel_rfl) ⟨hS17.cell 0 rfl rfl, trivial⟩ ?_
      by_cases hc3 : r3.2.Code = 0
      · rw [if_pos hc3] at h
        refine ge_known (t := 41) (b := (r3.2.Code == 0)) (c := true) (by kernel_rfl) (beq_iff_eq.2 hc3) ?_
        refine ge_batch [14, 15, 16, 17] (ans := []) (vs := [(45, .bool (r1.1 == 4)), (44, .bool (r1.1 == 4)), (43, .bool (r1.1 == 4)), (42, .int .i64 r1.1)]) (l := []) (by kernel_rfl) trivial ?_
        by_cases hc4 : r1.1 = 4
        · rw [if_pos hc4] at h
          refine ge_known (t := 45) (b := (r1.1 == 4)) (c := true) (by kernel_rfl) (beq_iff_eq.2 hc4) ?_
          refine ge_batch [18, 19, 20, 21] (ans := []) (vs := [(49, .bool (r2.1 == 1)), (48, .bool (r2.1 == 1)), (47, .bool (r2.1 == 1)), (46, .int .i64 r2.1)]) (l := []) (by kernel_rfl) trivial ?_
          by_cases hc5 : r2.1 = 1
          · rw [if_pos hc5] at h
            refine ge_known (t := 49) (b := (r2.1 == 1)) (c := true) (by kernel_rfl) (beq_iff_eq.2 hc5) ?_
            refine ge_batch [22, 23, 24, 25] (ans := []) (vs := [(53, .bool (r3.1 == 5)), (52, .bool (r3.1 == 5)), (51, .bool (r3.1 == 5)), (50, .int .i64 r3.1)]) (l := []) (by kernel_rfl) trivial ?_
            by_cases hc6 : r3.1 = 5
            · rw [if_pos hc6] at h
              refine ge_known (t := 53) (b := (r3.1 == 5)) (c := true) (by kernel_rfl) (beq_iff_eq.2 hc6) ?_
              rcases hq4 : modes_Open.f K 6 ([(⟨1, 2⟩ : SWindow), (⟨5, 1⟩ : SWindow)] : List SWindow) 7 with _ | r4
              · rw [hq4] at h; cases h
              rw [hq4] at h
              simp only [] at h
              refine ge_batch [26] (ans := []) (vs := [(54, .slice (some ⟨b1, 0, none⟩) 2 2)]) (l := []) (by kernel_rfl) trivial ?_
              refine ge_call (d := some 55) (f := 50) (args := #[.int .i64 6, .slice (some ⟨b1, 0, none⟩) 2 2, .int .i64 7]) (by kernel_rfl) (modes_Open_ok K 6 ([(⟨1, 2⟩ : SWindow), (⟨5, 1⟩ : SWindow)] : List SWindow) (some ⟨b1, 0, none⟩) 2 7 _ (hS17.rdBlk 4 ([(⟨1, 2⟩ : SWindow), (⟨5, 1⟩ : SWindow)] : List SWindow) rfl rfl rfl) (Nat.le_refl _) _ hq4) ?_
              rintro _ w12 ⟨rfl, hS18⟩
              refine ⟨_, rfl, hS18.below, ?_⟩
              have hS19 := hS17.call hS18
              refine ge_batch [28, 29] (ans := []) (vs := [(57, .bool r4), (56, .bool r4)]) (l := []) (by kernel_rfl) trivial ?_
              by_cases hc7 : r4 = true
              · rw [if_pos hc7] at h
                refine ge_known (t := 57) (b := r4) (c := true) (by kernel_rfl) hc7 ?_
                rcases hq5 : modes_Open.f K 6 ([(⟨1, 2⟩ : SWindow), (⟨5, 1⟩ : SWindow)] : List SWindow) 6 with _ | r5
                · rw [hq5] at h; cases h
                rw [hq5] at h
                simp only [] at h
                refine ge_batch [30] (ans := []) (vs := [(58, .slice (some ⟨b1, 0, none⟩) 2 2)]) (l := []) (by kernel_rfl) trivial ?_
                refine ge_call (d := some 59) (f := 50) (args := #[.int .i64 6, .slice (some ⟨b1, 0, none⟩) 2 2, .int .i64 6]) (by kernel_rfl) (modes_Open_ok K 6 ([(⟨1, 2⟩ : SWindow), (⟨5, 1⟩ : SWindow)] : List SWindow) (some ⟨b1, 0, none⟩) 2 6 _ (hS19.rdBlk 4 ([(⟨1, 2⟩ : SWindow), (⟨5, 1⟩ : SWindow)] : List SWindow) rfl rfl rfl) (Nat.le_refl _) _ hq5) ?_
                rintro _ w13 ⟨rfl, hS20⟩
                refine ⟨_, rfl, hS20.below, ?_⟩
                have hS21 := hS19.call hS20
                refine ge_batch [32, 33, 34] (ans := []) (vs := [(0, .bool (!r5)), (61, .bool (!r5)), (60, .bool (!r5))]) (l := []) (by kernel_rfl) trivial ?_
                refine ge_nil fun a hF => hK6 _ _ ?_ a hF
                have hS22 := hS21.takeN 0
                obtain rfl := Option.some.inj h
                exact we_ret (post_ret (rs := [.tmp 0]) (ans := []) (vs := [.bool (!r5)]) (l := []) rfl (by kernel_rfl) trivial ⟨rfl, hS22⟩)
              · rw [if_neg hc7] at h
                refine ge_known (t := 57) (b := r4) (c := false) (by kernel_rfl) (Bool.eq_false_iff.2 hc7) ?_
                refine ge_batch [30] (ans := []) (vs := [(58, undef)]) (l := []) (by kernel_rfl) trivial ?_
                refine ge_off rfl rfl rfl (by kernel_rfl) ?_
                refine ge_batch [32, 33, 34] (ans := []) (vs := [(0, .bool false), (61, .bool false), (60, undef)]) (l := []) (by kernel_rfl) trivial ?_
                refine ge_nil fun a hF => hK6 _ _ ?_ a hF
                have hS23 := hS19.takeN 0
                obtain rfl := Option.some.inj h
                exact we_ret (post_ret (rs := [.tmp 0]) (ans := []) (vs := [.bool false]) (l := []) rfl (by kernel_rfl) trivial ⟨rfl, hS23⟩)
            · rw [if_neg hc6] at h
              refine ge_known (t := 53) (b := (r3.1 == 5)) (c := false) (by kernel_rfl) (beq_eq_false_iff_ne.2 hc6) ?_
              refine ge_batch [26] (ans := []) (vs := [(54, undef)]) (l := []) (by kernel_rfl) trivial ?_
              refine ge_off rfl rfl rfl (by kernel_rfl) ?_
              refine ge_batch [28, 29, 30] (ans := []) (vs := [(58, undef), (57, .bool false), (56, .bool false)]) (l := []) (by kernel_rfl) trivial ?_
              refine ge_off rfl rfl rfl (by kernel_rfl) ?_
              refine ge_batch [32, 33, 34] (ans := []) (vs := [(0, .bool false), (61, .bool false), (60, undef)]) (l := []) (by kernel_rfl) trivial ?_
              refine ge_nil fun a hF => hK6 _ _ ?_ a hF
              have hS24 := hS17.takeN 0
              obtain rfl := Option.some.inj h
              exact we_ret (post_ret (rs := [.tmp 0]) (ans := []) (vs := [.bool false]) (l := []) rfl (by kernel_rfl) trivial ⟨rfl, hS24⟩)
          · rw [if_neg hc5] at h
            refine ge_known (t := 49) (b := (r2.1 == 1)) (c := false) (by kernel_rfl) (beq_eq_false_iff_ne.2 hc5) ?_
            refine ge_batch [22, 23, 24, 25, 26] (ans := []) (vs := [(54, undef), (53, .bool false), (52, .bool false), (51, undef), (50, undef)]) (l := []) (by kernel_rfl) trivial ?_
            refine ge_off rfl rfl rfl (by kernel_rfl) ?_
            refine ge_batch [28, 29, 30] (ans := []) (vs := [(58, undef), (57, .bool false), (56, .bool false)]) (l := []) (by kernel_rfl) trivial ?_
            refine ge_off rfl rfl rfl (by kernel_rfl) ?_
            refine ge_batch [32, 33, 34] (ans := []) (vs := [(0, .bool false), (61, .bool false), (60, undef)]) (l := []) (by kernel_rfl) trivial ?_
            refine ge_nil fun a hF => hK6 _ _ ?_ a hF
            have hS25 := hS17.takeN 0
            obtain rfl := Option.some.inj h
            exact we_ret (post_ret (rs := [.tmp 0]) (ans := []) (vs := [.bool false]) (l := []) rfl (by kernel_rfl) trivial ⟨rfl, hS25⟩)
        · rw [if_neg hc4] at h
          refine ge_known (t := 45) (b := (r1.1 == 4)) (c := false) (by kernel_rfl) (beq_eq_false_iff_ne.2 hc4) ?_
          refine ge_batch [18, 19, 20, 21, 22, 23, 24, 25, 26] (ans := []) (vs := [(54, undef), (53, .bool false), (52, .bool false), (51, undef), (50, undef), (49, .bool false), (48, .bool false), (47, undef), (46, undef)]) (l := []) (by kernel_rfl) trivial ?_
          refine ge_off rfl rfl rfl (by kernel_rfl) ?_
          refine ge_batch [28, 29, 30] (ans := []) (vs := [(58, undef), (57, .bool false), (56, .bool false)]) (l := []) (by kernel_rfl) trivial ?_
          refine ge_off rfl rfl rfl (by kernel_rfl) ?_
          refine ge_batch [32, 33, 34] (ans := []) (vs := [(0, .bool false), (61, .bool false), (60, undef)]) (l := []) (by kernel_rfl) trivial ?_
          refine ge_nil fun a hF => hK6 _ _ ?_ a hF
          have hS26 := hS17.takeN 0
          obtain rfl := Option.some.inj h
          exact we_ret (post_ret (rs := [.tmp 0]) (ans := []) (vs := [.bool false]) (l := []) rfl (by kernel_rfl) trivial ⟨rfl, hS26⟩)
      · rw [if_neg hc3] at h
        refine ge_known (t := 41) (b := (r3.2.Code == 0)) (c := false) (by kernel_rfl) (beq_eq_false_iff_ne.2 hc3) ?_
        refine ge_batch [14, 15, 16, 17, 18, 19, 20, 21, 22, 23, 24, 25, 26] (ans := []) (vs := [(54, undef), (53, .bool false), (52, .bool false), (51, undef), (50, undef), (49, .bool false), (48, .bool false), (47, undef), (46, undef), (45, .bool false), (44, .bool false), (43, undef), (42, undef)]) (l := []) (by kernel_rfl) trivial ?_
        refine ge_off rfl rfl rfl (by kernel_rfl) ?_
        refine ge_batch [28, 29, 30] (ans := []) (vs := [(58, undef), (57, .bool false), (56, .bool false)]) (l := []) (by kernel_rfl) trivial ?_
        refine ge_off rfl rfl rfl (by kernel_rfl) ?_
        refine ge_batch [32, 33, 34] (ans := []) (vs := [(0, .bool false), (61, .bool false), (60, undef)]) (l := []) (by kernel_rfl) trivial ?_
        refine ge_nil fun a hF => hK6 _ _ ?_ a hF
        have hS27 := hS17.takeN 0
        obtain rfl := Option.some.inj h
        exact we_ret (post_ret (rs := [.tmp 0]) (ans := []) (vs := [.bool false]) (l := []) rfl (by kernel_rfl) trivial ⟨rfl, hS27⟩)
    · rw [if_neg hc2] at h
      refine ge_known (t := 36) (b := (r2.2.Code == 0)) (c := false) (by kernel_rfl) (beq_eq_false_iff_ne.2 hc2) ?_
      refine ge_batch [9, 10, 11, 12, 13, 14, 15, 16, 17, 18, 19, 20, 21, 22, 23, 24, 25, 26] (ans := []) (vs := [(54, undef), (53, .bool false), (52, .bool false), (51, undef), (50, undef), (49, .bool false), (48, .bool false), (47, undef), (46, undef), (45, .bool false), (44, .bool false), (43, undef), (42, undef), (41, .bool false), (40, .bool false), (39, undef), (38, undef), (37, undef)]) (l := []) (by kernel_rfl) trivial ?_
      refine ge_off rfl rfl rfl (by kernel_rfl) ?_
      refine ge_batch [28, 29, 30] (ans := []) (vs := [(58, undef), (57, .bool false), (56, .bool false)]) (l := []) (by kernel_rfl) trivial ?_
      refine ge_off rfl rfl rfl (by kernel_rfl) ?_
      refine ge_batch [32, 33, 34] (ans := []) (vs := [(0, .bool false), (61, .bool false), (60, undef)]) (l := []) (by kernel_rfl) trivial ?_
      refine ge_nil fun a hF => hK6 _ _ ?_ a hF
      have hS28 := hS17.takeN 0
      obtain rfl := Option.some.inj h
      exact we_ret (post_ret (rs := [.tmp 0]) (ans := []) (vs := [.bool false]) (l := []) rfl (by kernel_rfl) trivial ⟨rfl, hS28⟩)
  · rw [if_neg hc1] at h
    refine ge_known (t := 31) (b := (r1.2.Code == 0)) (c := false) (by kernel_rfl) (beq_eq_false_iff_ne.2 hc1) ?_
    refine ge_batch [4, 5, 6, 7, 8, 9, 10, 11, 12, 13, 14, 15, 16, 17, 18, 19, 20, 21, 22, 23, 24, 25, 26] (ans := []) (vs := [(54, undef), (53, .bool false), (52, .bool false), (51, undef), (50, undef), (49, .bool false), (48, .bool false), (47, undef), (46, undef), (45, .bool false), (44, .bool false), (43, undef), (42, undef), (41, .bool false), (40, .bool false), (39, undef), (38, undef), (37, undef), (36, .bool false), (35, .bool false), (34, undef), (33, undef), (32, undef)]) (l := []) (by kernel_rfl) trivial ?_
    refine ge_off rfl rfl rfl (by kernel_rfl) ?_
    refine ge_batch [28, 29, 30] (ans := []) (vs := [(58, undef), (57, .bool false), (56, .bool false)]) (l := []) (by kernel_rfl) trivial ?_
    refine ge_off rfl rfl rfl (by kernel_rfl) ?_
    refine ge_batch [32, 33, 34] (ans := []) (vs := [(0, .bool false), (61, .bool false), (60, undef)]) (l := []) (by kernel_rfl) trivial ?_
    refine ge_nil fun a hF => hK6 _ _ ?_ a hF
    have hS29 := hS17.takeN 0
    obtain rfl := Option.some.inj h
    exact we_ret (post_ret (rs := [.tmp 0]) (ans := []) (vs := [.bool false]) (l := []) rfl (by kernel_rfl) trivial ⟨rfl, hS29⟩)

/-! punctual/punctuallaw.few -/
abbrev few.Post (w0 : World) (r : Bool) (e : Ending) (w : World) : Prop := e = .returned (.bool r) ∧ St w0 w []
def few.f (x0 : Int) : Bool :=
  decide (x0 ≤ 5000)
theorem few_ok (x0 : Int) (w0 : World) (r : Bool) (h : few.f x0 = r) :
    Calls Try.prog 11 #[.int .i64 x0] w0 (few.Post w0 r) := by
  have hS := St.start w0
  unfold few.f at h
  refine calls_enter (n := 5) (args := [.int .i64 x0]) (fn := Try.f11) rfl rfl rfl rfl ?_
  show WE _ _ _ _ [(0, .int .i64 x0)] _
  refine we_seq fun K1 hK1 => ?_
  refine we_region [(0, 0)] rfl ?_
  refine ge_batch [0] (ans := []) (vs := [(2, .bool false)]) (l := []) (by kernel_rfl) trivial ?_
  refine ge_nil fun a hF => hK1 _ _ ?_ a hF
  refine we_seq fun K2 hK2 => ?_
  refine we_region [(0, 0), (1, 0), (2, 0)] rfl ?_
  refine ge_batch [0, 1, 2] (ans := []) (vs := [(2, .bool (decide (x0 ≤ 5000))), (4, .bool (decide (x0 ≤ 5000))), (3, .int .i64 x0)]) (l := []) (by kernel_rfl) trivial ?_
  refine ge_nil fun a hF => hK2 _ _ ?_ a hF
  subst h
  exact we_ret (post_ret (rs := [.tmp 2]) (ans := []) (vs := [.bool (decide (x0 ≤ 5000))]) (l := []) rfl (by kernel_rfl) trivial ⟨rfl, hS⟩)

structure SCome where
  Task : Int
  At : Int
def SCome.eqb (x y : SCome) : Bool := ((x.Task == y.Task) && ((x.At == y.At) && true))
instance : Ok SCome := ⟨fun x => Ok.ok x.Task ∧ Ok.ok x.At ∧ True⟩
instance : Flat SCome := ⟨2, fun x => [.int .i64 x.Task, .int .i64 x.At], fun _ => rfl, fun _ => rfl, by decide⟩

/-! punctual/tasks.Legal -/
abbrev tasks_Legal.Post (w0 : World) (r : SFault) (e : Ending) (w : World) : Prop := e = .returned (.agg #[.int .i64 r.Code, .int .i64 r.At]) ∧ St w0 w []
def tasks_Legal.p1 (l0 : List STask) (l1 : List SCome) (i1 : Nat) (m1 : List Int) (e1 : SCome) : Option (Unit ⊕ SFault) :=
    if e1.Task < 0 then
      some (.inr (⟨4, (i1 : Int)⟩ : SFault))
    else
      if e1.Task ≥ (l0.length : Int) then
        some (.inr (⟨4, (i1 : Int)⟩ : SFault))
      else
        if e1.At < 0 then
          some (.inr (⟨3, (i1 : Int)⟩ : SFault))
        else
          if e1.At > 20000 then
            some (.inr (⟨3, (i1 : Int)⟩ : SFault))
          else
            if (i1 : Int) > 0 then
              if 0 ≤ (IntKind.i64.wrap ((i1 : Int) - 1)) then
                match l1[(IntKind.i64.wrap ((i1 : Int) - 1)).toNat]? with
                | none => none
                | some e2 =>
                  if e1.At < e2.At then
                    some (.inr (⟨12, (i1 : Int)⟩ : SFault))
                  else
                    if 0 ≤ e1.Task then
                      match m1[(e1.Task).toNat]? with
                      | none => none
                      | some e3 =>
                        if e1.At < e3 then
                          some (.inr (⟨12, (i1 : Int)⟩ : SFault))
                        else
                          some (.inl ())
                    else
                      none
              else
                none
            else
              if 0 ≤ e1.Task then
                match m1[(e1.Task).toNat]? with
                | none => none
                | some e4 =>
                  if e1.At < e4 then
                    some (.inr (⟨12, (i1 : Int)⟩ : SFault))
                  else
                    some (.inl ())
              else
                none
def tasks_Legal.r0 (l0 : List STask) (l1 : List SCome) : Nat × (List Int) → Option ((Nat × (List Int)) ⊕ (Unit ⊕ SFault))
  | (i1, m1) =>
    if (i1 : Int) < (l1.length : Int) then
      match l1[i1]? with
      | none => none
      | some e1 =>
        match tasks_Legal.p1 l0 l1 i1 m1 e1 with
        | none => none
        | some (.inl _) =>
          if 0 ≤ e1.Task then
            match l0[(e1.Task).toNat]? with
            | none => none
            | some e5 =>
              match m1[(e1.Task).toNat]? with
              | none => none
              | some e6 =>
                some (.inl ((i1 + 1), (m1.set ((e1.Task).toNat) (IntKind.i64.wrap (e1.At + e5.T)))))
          else
            none
        | some (.inr rr1) =>
          some (.inr (.inr rr1))
    else
      some (.inr (.inl ()))
def tasks_Legal.f (K : Nat) (l0 : List STask) (l1 : List SCome) : Option SFault :=
  match tasks_Check.f K l0 with
  | none => none
  | some r1 =>
    if r1.Code = 0 then
      if (l1.length : Int) > 4000 then
        some (⟨2, 0⟩ : SFault)
      else
        if l0.length ≤ 17592186044416 then
          match iter (tasks_Legal.r0 l0 l1) K (0, (List.replicate l0.length (0 : Int))) with
          | none => none
          | some (.inl _) =>
            some (⟨0, 0⟩ : SFault)
          | some (.inr rr2) =>
            some rr2
        else
          none
    else
      some r1
abbrev tasks_Legal.A1 (K : Nat) (w0 : World) (l0 : List STask) (A0 : Option Addr) (c0 : Nat) (l1 : List SCome) (A1 : Option Addr) (c1 : Nat) (hR0 : RdL w0 A0 l0) (hL0 : l0.length ≤ c0) (hR1 : RdL w0 A1 l1) (hL1 : l1.length ≤ c1) (b1 : Nat) (r1 : SFault) (b2 : Nat) (hc1 : r1.Code = 0) (hc2 : ¬ ((l1.length : Int) > 4000)) (hc3 : l0.length ≤ 17592186044416) (Z1 : Option Addr) (cz1 : Nat) (i1 : Nat) (m1 : List Int) (hc4 : (i1 : Int) < (l1.length : Int)) (e1 : SCome) (hx3 : l1[i1]? = some e1) (b3 : Nat) : Unit → Act → World → Prop := fun (s : Unit) a w => St w0 w [Own.blk b3 (.cells #[.int .i64 e1.Task, .int .i64 e1.At] 43 (0, 0)), Own.blk b1 (.cells #[.int .i64 0, .int .i64 0] 31 (0, 0)), Own.of (.slice Z1 m1.length cz1) 3 m1] ∧ Frm 94 a [(0, .slice A0 l0.length c0), (1, .slice A1 l1.length c1), (4, .pointer (some ⟨b1, 0, none⟩)), (6, (.slice Z1 m1.length cz1)), (8, .pointer (some ⟨b3, 0, none⟩)), (22, .slice A1 l1.length c1), (23, .int .i64 (l1.length : Int)), (24, .int .i64 (i1 : Int))]
abbrev tasks_Legal.B1 (K : Nat) (w0 : World) (l0 : List STask) (A0 : Option Addr) (c0 : Nat) (l1 : List SCome) (A1 : Option Addr) (c1 : Nat) (hR0 : RdL w0 A0 l0) (hL0 : l0.length ≤ c0) (hR1 : RdL w0 A1 l1) (hL1 : l1.length ≤ c1) (b1 : Nat) (r1 : SFault) (b2 : Nat) (hc1 : r1.Code = 0) (hc2 : ¬ ((l1.length : Int) > 4000)) (hc3 : l0.length ≤ 17592186044416) (Z1 : Option Addr) (cz1 : Nat) (i1 : Nat) (m1 : List Int) (hc4 : (i1 : Int) < (l1.length : Int)) (e1 : SCome) (hx3 : l1[i1]? = some e1) (b3 : Nat) : SFault → Exit → Act → World → Prop := Rets Try.prog Try.f51 (tasks_Legal.Post w0)
theorem tasks_Legal_p1 (K : Nat) (w0 : World) (l0 : List STask) (A0 : Option Addr) (c0 : Nat) (l1 : List SCome) (A1 : Option Addr) (c1 : Nat) (hR0 : RdL w0 A0 l0) (hL0 : l0.length ≤ c0) (hR1 : RdL w0 A1 l1) (hL1 : l1.length ≤ c1) (b1 : Nat) (r1 : SFault) (b2 : Nat) (hc1 : r1.Code = 0) (hc2 : ¬ ((l1.length : Int) > 4000)) (hc3 : l0.length ≤ 17592186044416) (Z1 : Option Addr) (cz1 : Nat) (i1 : Nat) (m1 : List Int) (hc4 : (i1 : Int) < (l1.length : Int)) (e1 : SCome) (hx3 : l1[i1]? = some e1) (b3 : Nat) (o : Unit ⊕ SFault) (h : tasks_Legal.p1 l0 l1 i1 m1 e1 = some o) (w : World) (hS : St w0 w [Own.blk b3 (.cells #[.int .i64 e1.Task, .int .i64 e1.At] 43 (0, 0)), Own.blk b1 (.cells #[.int .i64 0, .int .i64 0] 31 (0, 0)), Own.of (.slice Z1 m1.length cz1) 3 m1]) (Q : Exit → Act → World → Prop) (hQ : ∀ x a w, Outs (tasks_Legal.A1 K w0 l0 A0 c0 l1 A1 c1 hR0 hL0 hR1 hL1 b1 r1 b2 hc1 hc2 hc3 Z1 cz1 i1 m1 hc4 e1 hx3 b3) (tasks_Legal.B1 K w0 l0 A0 c0 l1 A1 c1 hR0 hL0 hR1 hL1 b1 r1 b2 hc1 hc2 hc3 Z1 cz1 i1 m1 hc4 e1 hx3 b3) o x a w → Q x a w) : WE Try.prog 94 (subF Try.f51 [1, 1, 1, 1, 0, 1, 0, 0, 1, 1, 0, 0, 1, 0]) Q [(0, .slice A0 l0.length c0), (1, .slice A1 l1.length c1), (4, .pointer (some ⟨b1, 0, none⟩)), (6, (.slice Z1 m1.length cz1)), (7, .int .i64 (i1 : Int)), (8, .pointer (some ⟨b3, 0, none⟩)), (22, .slice A1 l1.length c1), (23, .int .i64 (l1.length : Int)), (24, .int .i64 (i1 : Int)), (25, .bool true), (26, .int .i64 (i1 : Int)), (27, .pointer (some ⟨blkOf A1, offOf A1 + i1 * 2, none⟩)), (28, .agg #[.int .i64 e1.Task, .int .i64 e1.At])] w := by
  simp only [tasks_Legal.p1] at h
  refine we_block ?_
  refine we_seq fun K16 hK16 => ?_
  refine we_region [(0, 0), (1, 0), (2, 0), (3, 0), (4, 0), (5, 0), (6, 0), (7, 0), (8, 0), (9, 0), (10, 0)] rfl ?_
  refine ge_batch [0, 1, 2, 3] (ans := [.val (.int .i64 e1.Task)]) (vs := [(33, .bool (decide (e1.Task < 0))), (32, .bool (decide (e1.Task < 0))), (31, .int .i64 e1.Task), (30, .pointer (some ⟨b3, 0, none⟩))]) (l := [.loaded ⟨b3, 0, none⟩ (.int .i64 e1.Task)]) (by kernel_rfl) ⟨hS.cell 0 rfl rfl, trivial⟩ ?_
  by_cases hc5 : e1.Task < 0
  · rw [if_pos hc5] at h
    refine ge_known (t := 33) (b := decide (e1.Task < 0)) (c := true) (by kernel_rfl) (decide_eq_true hc5) ?_
    refine ge_batch [4, 5, 6, 7, 8, 9, 10] (ans := []) (vs := [(29, .bool true), (39, .bool true), (38, undef), (37, undef), (36, undef), (35, undef), (34, undef)]) (l := []) (by kernel_rfl) trivial ?_
    refine ge_nil fun a hF => hK16 _ _ ?_ a hF
    refine we_true (by kernel_rfl) ?_
    refine we_seq fun K17 hK17 => ?_
    refine we_region [(0, 0), (1, 0), (2, 2)] rfl ?_
    refine ge_batch [0, 1] (ans := []) (vs := [(41, .agg #[.int .i64 4, .int .i64 (i1 : Int)]), (40, .int .i64 (i1 : Int))]) (l := []) (by kernel_rfl) trivial ?_
    have hS17 := hS.bring 1 rfl
    refine ge_set (b := b1) (j := 0) (cs := #[.int .i64 0, .int .i64 0]) (t := 31) (vs := [.int .i64 4, .int .i64 (i1 : Int)]) hS17 (by kernel_rfl) rfl rfl fun w9 hS18 => ?_
    have hS19 : St w0 w9 [Own.blk b1 (.cells #[.int .i64 4, .int .i64 (i1 : Int)] 31 (0, 0)), Own.blk b3 (.cells #[.int .i64 e1.Task, .int .i64 e1.At] 43 (0, 0)), Own.of (.slice Z1 m1.length cz1) 3 m1] := hS18
    refine ge_nil fun a hF => hK17 _ _ ?_ a hF
    have hS20 := hS19.takeN 0
    obtain rfl := Option.some.inj h
    exact we_ret fun a hF => hQ _ _ _ (Outs.out nofun ⟨rfl, (post_ret (rs := [.cell 4 31]) (ans := [.val (.int .i64 4), .val (.int .i64 (i1 : Int))]) (vs := [.agg #[.int .i64 4, .int .i64 (i1 : Int)]]) (l := [.loaded ⟨b1, 0, none⟩ (.int .i64 4), .loaded ⟨b1, 1, none⟩ (.int .i64 (i1 : Int))]) rfl (by kernel_rfl) ⟨hS19.cell 0 rfl rfl, hS19.cell 0 rfl rfl, trivial⟩ ⟨rfl, hS20⟩) a hF⟩)
  · rw [if_neg hc5] at h
    refine ge_known (t := 33) (b := decide (e1.Task < 0)) (c := false) (by kernel_rfl) (decide_eq_false hc5) ?_
    refine ge_batch [4, 5, 6, 7, 8, 9, 10] (ans := [.val (.int .i64 e1.Task)]) (vs := [(29, .bool (decide (e1.Task ≥ (l0.length : Int)))), (39, .bool (decide (e1.Task ≥ (l0.length : Int)))), (38, .bool (decide (e1.Task ≥ (l0.length : Int)))), (37, .int .i64 (l0.length : Int)), (36, .slice A0 l0.length c0), (35, .int .i64 e1.Task), (34, .pointer (some ⟨b3, 0, none⟩))]) (l := [.loaded ⟨b3, 0, none⟩ (.int .i64 e1.Task)]) (by kernel_rfl) ⟨hS.cell 0 rfl rfl, trivial⟩ ?_
    refine ge_nil fun a hF => hK16 _ _ ?_ a hF
    by_cases hc6 : e1.Task ≥ (l0.length : Int)
    · rw [if_pos hc6] at h
      refine we_known (t := 29) (b := decide (e1.Task ≥ (l0.length : Int))) (v := true) (by kernel_rfl) (decide_eq_true hc6) ?_
      refine we_true (by kernel_rfl) ?_
      refine we_seq fun K18 hK18 => ?_
      refine we_region [(0, 0), (1, 0), (2, 2)] rfl ?_
      refine ge_batch [0, 1] (ans := []) (vs := [(41, .agg #[.int .i64 4, .int .i64 (i1 : Int)]), (40, .int .i64 (i1 : Int))]) (l := []) (by kernel_rfl) trivial ?_
      have hS21 := hS.bring 1 rfl
      refine ge_set (b := b1) (j := 0) (cs := #[.int .i64 0, .int .i64 0]) (t := 31) (vs := [.int .i64 4, .int .i64 (i1 : Int)]) hS21 (by kernel_rfl) rfl rfl fun w10 hS22 => ?_
      have hS23 : St w0 w10 [Own.blk b1 (.cells #[.int .i64 4, .int .i64 (i1 : Int)] 31 (0, 0)), Own.blk b3 (.cells #[.int .i64 e1.Task, .int .i64 e1.At] 43 (0, 0)), Own.of (.slice Z1 m1.length cz1) 3 m1] := hS22
      refine ge_nil fun a hF => hK18 _ _ ?_ a hF
      have hS24 := hS23.takeN 0
      obtain rfl := Option.some.inj h
      exact we_ret fun a hF => hQ _ _ _ (Outs.out nofun ⟨rfl, (post_ret (rs := [.cell 4 31]) (ans := [.val (.int .i64 4), .val (.int .i64 (i1 : Int))]) (vs := [.agg #[.int .i64 4, .int .i64 (i1 : Int)]]) (l := [.loaded ⟨b1, 0, none⟩ (.int .i64 4), .loaded ⟨b1, 1, none⟩ (.int .i64 (i1 : Int))]) rfl (by kernel_rfl) ⟨hS23.cell 0 rfl rfl, hS23.cell 0 rfl rfl, trivial⟩ ⟨rfl, hS24⟩) a hF⟩)
    · rw [if_neg hc6] at h
      refine we_known (t := 29) (b := decide (e1.Task ≥ (l0.length : Int))) (v := false) (by kernel_rfl) (decide_eq_false hc6) ?_
      refine we_false (by kernel_rfl) ?_
      refine we_seq fun K19 hK19 => ?_
      refine we_region [(0, 0), (1, 0), (2, 0), (3, 0), (4, 0), (5, 0), (6, 0), (7, 0), (8, 0)] rfl ?_
      refine ge_batch [0, 1, 2, 3] (ans := [.val (.int .i64 e1.At)]) (vs := [(46, .bool (decide (e1.At < 0))), (45, .bool (decide (e1.At < 0))), (44, .int .i64 e1.At), (43, .pointer (some ⟨b3, 1, none⟩))]) (l := [.loaded ⟨b3, 1, none⟩ (.int .i64 e1.At)]) (by kernel_rfl) ⟨hS.cell 0 rfl rfl, trivial⟩ ?_
      by_cases hc7 : e1.At < 0
      · rw [if_pos hc7] at h
        refine ge_known (t := 46) (b := decide (e1.At < 0)) (c := true) (by kernel_rfl) (decide_eq_true hc7) ?_
        refine ge_batch [4, 5, 6, 7, 8] (ans := []) (vs := [(42, .bool true), (50, .bool true), (49, undef), (48, undef), (47, undef)]) (l := []) (by kernel_rfl) trivial ?_
        refine ge_nil fun a hF => hK19 _ _ ?_ a hF
        refine we_true (by kernel_rfl) ?_
        refine we_seq fun K20 hK20 => ?_
        refine we_region [(0, 0), (1, 0), (2, 2)] rfl ?_
        refine ge_batch [0, 1] (ans := []) (vs := [(52, .agg #[.int .i64 3, .int .i64 (i1 : Int)]), (51, .int .i64 (i1 : Int))]) (l := []) (by kernel_rfl) trivial ?_
        have hS25 := hS.bring 1 rfl
        refine ge_set (b := b1) (j := 0) (cs := #[.int .i64 0, .int .i64 0]) (t := 31) (vs := [.int .i64 3, .int .i64 (i1 : Int)]) hS25 (by kernel_rfl) rfl rfl fun w11 hS26 => ?_
        have hS27 : St w0 w11 [Own.blk b1 (.cells #[.int .i64 3, .int .i64 (i1 : Int)] 31 (0, 0)), Own.blk b3 (.cells #[.int .i64 e1.Task, .int .i64 e1.At] 43 (0, 0)), Own.of (.slice Z1 m1.length cz1) 3 m1] := hS26
        refine ge_nil fun a hF => hK20 _ _ ?_ a hF
        have hS28 := hS27.takeN 0
        obtain rfl := Option.some.inj h
        exact we_ret fun a hF => hQ _ _ _ (Outs.out nofun ⟨rfl, (post_ret (rs := [.cell 4 31]) (ans := [.val (.int .i64 3), .val (.int .i64 (i1 : Int))]) (vs := [.agg #[.int .i64 3, .int .i64 (i1 : Int)]]) (l := [.loaded ⟨b1, 0, none⟩ (.int .i64 3), .loaded ⟨b1, 1, none⟩ (.int .i64 (i1 : Int))]) rfl (by kernel_rfl) ⟨hS27.cell 0 rfl rfl, hS27.cell 0 rfl rfl, trivial⟩ ⟨rfl, hS28⟩) a hF⟩)
      · rw [if_neg hc7] at h
        refine ge_known (t := 46) (b := decide (e1.At < 0)) (c := false) (by kernel_rfl) (decide_eq_false hc7) ?_
        refine ge_batch [4, 5, 6, 7, 8] (ans := [.val (.int .i64 e1.At)]) (vs := [(42, .bool (decide (e1.At > 20000))), (50, .bool (decide (e1.At > 20000))), (49, .bool (decide (e1.At > 20000))), (48, .int .i64 e1.At), (47, .pointer (some ⟨b3, 1, none⟩))]) (l := [.loaded ⟨b3, 1, none⟩ (.int .i64 e1.At)]) (by kernel_rfl) ⟨hS.cell 0 rfl rfl, trivial⟩ ?_
        refine ge_nil fun a hF => hK19 _ _ ?_ a hF
        by_cases hc8 : e1.At > 20000
        · rw [if_pos hc8] at h
          refine we_known (t := 42) (b := decide (e1.At > 20000)) (v := true) (by kernel_rfl) (decide_eq_true hc8) ?_
          refine we_true (by kernel_rfl) ?_
          refine we_seq fun K21 hK21 => ?_
          refine we_region [(0, 0), (1, 0), (2, 2)] rfl ?_
          refine ge_batch [0, 1] (ans := []) (vs := [(52, .agg #[.int .i64 3, .int .i64 (i1 : Int)]), (51, .int .i64 (i1 : Int))]) (l := []) (by kernel_rfl) trivial ?_
          have hS29 := hS.bring 1 rfl
          refine ge_set (b := b1) (j := 0) (cs := #[.int .i64 0, .int .i64 0]) (t := 31) (vs := [.int .i64 3, .int .i64 (i1 : Int)]) hS29 (by kernel_rfl) rfl rfl fun w12 hS30 => ?_
          have hS31 : St w0 w12 [Own.blk b1 (.cells #[.int .i64 3, .int .i64 (i1 : Int)] 31 (0, 0)), Own.blk b3 (.cells #[.int .i64 e1.Task, .int .i64 e1.At] 43 (0, 0)), Own.of (.slice Z1 m1.length cz1) 3 m1] := hS30
          refine ge_nil fun a hF => hK21 _ _ ?_ a hF
          have hS32 := hS31.takeN 0
          obtain rfl := Option.some.inj h
          exact we_ret fun a hF => hQ _ _ _ (Outs.out nofun ⟨rfl, (post_ret (rs := [.cell 4 31]) (ans := [.val (.int .i64 3), .val (.int .i64 (i1 : Int))]) (vs := [.agg #[.int .i64 3, .int .i64 (i1 : Int)]]) (l := [.loaded ⟨b1, 0, none⟩ (.int .i64 3), .loaded ⟨b1, 1, none⟩ (.int .i64 (i1 : Int))]) rfl (by kernel_rfl) ⟨hS31.cell 0 rfl rfl, hS31.cell 0 rfl rfl, trivial⟩ ⟨rfl, hS32⟩) a hF⟩)
        · rw [if_neg hc8] at h
          refine we_known (t := 42) (b := decide (e1.At > 20000)) (v := false) (by kernel_rfl) (decide_eq_false hc8) ?_
          refine we_false (by kernel_rfl) ?_
          refine we_seq fun K22 hK22 => ?_
          refine we_draws (by kernel_rfl) [(0, 0), (1, 0), (2, 0), (3, 0), (4, 0), (5, 0), (6, 0), (7, 0), (8, 0), (9, 0), (10, 0), (11, 0), (12, 0), (13, 0), (14, 0), (15, 0), (16, 0), (17, 0), (18, 0), (19, 0), (20, 0), (21, 0), (22, 0), (23, 0)] (by kernel_rfl) ?_
          have hS33 := hS.drew
          refine ge_batch [0, 1, 2] (ans := []) (vs := [(56, .bool (decide ((i1 : Int) > 0))), (55, .bool (decide ((i1 : Int) > 0))), (54, .int .i64 (i1 : Int))]) (l := []) (by kernel_rfl) trivial ?_
          by_cases hc9 : (i1 : Int) > 0
          · rw [if_pos hc9] at h
            refine ge_known (t := 56) (b := decide ((i1 : Int) > 0)) (c := true) (by kernel_rfl) (decide_eq_true hc9) ?_
            refine ge_batch [3, 4, 5, 6, 7] (ans := [.val (.int .i64 e1.At)]) (vs := [(61, .int .i64 (IntKind.i64.wrap ((i1 : Int) - 1))), (60, .int .i64 (i1 : Int)), (59, .slice A1 l1.length c1), (58, .int .i64 e1.At), (57, .pointer (some ⟨b3, 1, none⟩))]) (l := [.loaded ⟨b3, 1, none⟩ (.int .i64 e1.At)]) (by kernel_rfl) ⟨hS33.cell 0 rfl rfl, trivial⟩ ?_
            by_cases hc10 : 0 ≤ (IntKind.i64.wrap ((i1 : Int) - 1))
            · rw [if_pos hc10] at h
              rcases hx5 : l1[(IntKind.i64.wrap ((i1 : Int) - 1)).toNat]? with _ | e2
              · rw [hx5] at h; cases h
              rw [hx5] at h
              simp only [] at h
              refine ge_index (d := 62) (ty := 0) (t := 24) (el := 43) (sz := 2) (m := l1.length) (c := c1) (x := (.tmp 59)) (y := (.tmp 61)) (A := A1) (k' := .i64) (j := (IntKind.i64.wrap ((i1 : Int) - 1))) (jn := ((IntKind.i64.wrap ((i1 : Int) - 1)).toNat)) (b0 := blkOf A1) (o0 := offOf A1) (by kernel_rfl) (by kernel_rfl) (by kernel_rfl) (by kernel_rfl) (by kernel_rfl) ((hS33.rd hR1).eqSome (pos_of_get hx5)) (Int.toNat_of_nonneg hc10).symm (lt_of_get hx5) ?_
              refine ge_batch [9, 10, 11, 12, 13] (ans := [.val (.int .i64 e2.At)]) (vs := [(67, .bool (decide (e1.At < e2.At))), (66, .bool (decide (e1.At < e2.At))), (65, .bool (decide (e1.At < e2.At))), (64, .int .i64 e2.At), (63, .pointer (some ⟨blkOf A1, offOf A1 + (IntKind.i64.wrap ((i1 : Int) - 1)).toNat * 2 + 1, none⟩))]) (l := [.loaded ⟨blkOf A1, offOf A1 + ((IntKind.i64.wrap ((i1 : Int) - 1)).toNat) * 2 + 1, none⟩ (.int .i64 e2.At)]) (by kernel_rfl) ⟨RdL.cell (j := 1) (hS33.rd hR1) hx5 rfl, trivial⟩ ?_
              by_cases hc11 : e1.At < e2.At
              · rw [if_pos hc11] at h
                refine ge_known (t := 67) (b := decide (e1.At < e2.At)) (c := true) (by kernel_rfl) (decide_eq_true hc11) ?_
                refine ge_batch [14, 15, 16, 17, 18, 19, 20, 21, 22, 23] (ans := []) (vs := [(53, .bool true), (76, .bool true), (75, undef), (74, undef), (73, undef), (72, undef), (71, undef), (70, undef), (69, undef), (68, undef)]) (l := []) (by kernel_rfl) trivial ?_
                refine ge_nil fun a hF => hK22 _ _ ?_ a hF
                refine we_true (by kernel_rfl) ?_
                refine we_seq fun K23 hK23 => ?_
                refine we_region [(0, 0), (1, 0), (2, 2)] rfl ?_
                refine ge_batch [0, 1] (ans := []) (vs := [(78, .agg #[.int .i64 12, .int .i64 (i1 : Int)]), (77, .int .i64 (i1 : Int))]) (l := []) (by kernel_rfl) trivial ?_
                have hS34 := hS33.bring 1 rfl
                refine ge_set (b := b1) (j := 0) (cs := #[.int .i64 0, .int .i64 0]) (t := 31) (vs := [.int .i64 12, .int .i64 (i1 : Int)]) hS34 (by kernel_rfl) rfl rfl fun w13 hS35 => ?_
                have hS36 : St w0 w13 [Own.blk b1 (.cells #[.int .i64 12, .int .i64 (i1 : Int)] 31 (0, 0)), Own.blk b3 (.cells #[.int .i64 e1.Task, .int .i64 e1.At] 43 (0, 0)), Own.of (.slice Z1 m1.length cz1) 3 m1] := hS35
                refine ge_nil fun a hF => hK23 _ _ ?_ a hF
                have hS37 := hS36.takeN 0
                obtain rfl := Option.some.inj h
                exact we_ret fun a hF => hQ _ _ _ (Outs.out nofun ⟨rfl, (post_ret (rs := [.cell 4 31]) (ans := [.val (.int .i64 12), .val (.int .i64 (i1 : Int))]) (vs := [.agg #[.int .i64 12, .int .i64 (i1 : Int)]]) (l := [.loaded ⟨b1, 0, none⟩ (.int .i64 12), .loaded ⟨b1, 1, none⟩ (.int .i64 (i1 : Int))]) rfl (by kernel_rfl) ⟨hS36.cell 0 rfl rfl, hS36.cell 0 rfl rfl, trivial⟩ ⟨rfl, hS37⟩) a hF⟩)
              · rw [if_neg hc11] at h
                refine ge_known (t := 67) (b := decide (e1.At < e2.At)) (c := false) (by kernel_rfl) (decide_eq_false hc11) ?_
                refine ge_batch [14, 15, 16, 17, 18] (ans := [.val (.int .i64 e1.At), .val (.int .i64 e1.Task)]) (vs := [(72, .int .i64 e1.Task), (71, .pointer (some ⟨b3, 0, none⟩)), (70, (.slice Z1 m1.length cz1)), (69, .int .i64 e1.At), (68, .pointer (some ⟨b3, 1, none⟩))]) (l := [.loaded ⟨b3, 1, none⟩ (.int .i64 e1.At), .loaded ⟨b3, 0, none⟩ (.int .i64 e1.Task)]) (by kernel_rfl) ⟨hS33.cell 0 rfl rfl, hS33.cell 0 rfl rfl, trivial⟩ ?_
                by_cases hc12 : 0 ≤ e1.Task
                · rw [if_pos hc12] at h
                  rcases hx6 : m1[(e1.Task).toNat]? with _ | e3
                  · rw [hx6] at h; cases h
                  rw [hx6] at h
                  simp only [] at h
                  refine ge_index (d := 73) (ty := 0) (t := 25) (el := 3) (sz := 1) (m := m1.length) (c := cz1) (x := (.tmp 70)) (y := (.tmp 72)) (A := Z1) (k' := .i64) (j := e1.Task) (jn := ((e1.Task).toNat)) (b0 := blkOf Z1) (o0 := offOf Z1) (by kernel_rfl) (by kernel_rfl) (by kernel_rfl) (by kernel_rfl) (by kernel_rfl) ((hS33.rdAt 2 rfl).eqSome (pos_of_get hx6)) (Int.toNat_of_nonneg hc12).symm (lt_of_get hx6) ?_
                  refine ge_batch [20, 21, 22, 23] (ans := [.val (.int .i64 e3)]) (vs := [(53, .bool (decide (e1.At < e3))), (76, .bool (decide (e1.At < e3))), (75, .bool (decide (e1.At < e3))), (74, .int .i64 e3)]) (l := [.loaded ⟨blkOf Z1, offOf Z1 + ((e1.Task).toNat) * 1, none⟩ (.int .i64 e3)]) (by kernel_rfl) ⟨RdL.cell (j := 0) (hS33.rdAt 2 rfl) hx6 rfl, trivial⟩ ?_
                  refine ge_nil fun a hF => hK22 _ _ ?_ a hF
                  by_cases hc13 : e1.At < e3
                  · rw [if_pos hc13] at h
                    refine we_known (t := 53) (b := decide (e1.At < e3)) (v := true) (by kernel_rfl) (decide_eq_true hc13) ?_
                    refine we_true (by kernel_rfl) ?_
                    refine we_seq fun K24 hK24 => ?_
                    refine we_region [(0, 0), (1, 0), (2, 2)] rfl ?_
                    refine ge_batch [0, 1] (ans := []) (vs := [(78, .agg #[.int .i64 12, .int .i64 (i1 : Int)]), (77, .int .i64 (i1 : Int))]) (l := []) (by kernel_rfl) trivial ?_
                    have hS38 := hS33.bring 1 rfl
                    refine ge_set (b := b1) (j := 0) (cs := #[.int .i64 0, .int .i64 0]) (t := 31) (vs := [.int .i64 12, .int .i64 (i1 : Int)]) hS38 (by kernel_rfl) rfl rfl fun w14 hS39 => ?_
                    have hS40 : St w0 w14 [Own.blk b1 (.cells #[.int .i64 12, .int .i64 (i1 : Int)] 31 (0, 0)), Own.blk b3 (.cells #[.int .i64 e1.Task, .int .i64 e1.At] 43 (0, 0)), Own.of (.slice Z1 m1.length cz1) 3 m1] := hS39
                    refine ge_nil fun a hF => hK24 _ _ ?_ a hF
                    have hS41 := hS40.takeN 0
                    obtain rfl := Option.some.inj h
                    exact we_ret fun a hF => hQ _ _ _ (Outs.out nofun ⟨rfl, (post_ret (rs := [.cell 4 31]) (ans := [.val (.int .i64 12), .val (.int .i64 (i1 : Int))]) (vs := [.agg #[.int .i64 12, .int .i64 (i1 : Int)]]) (l := [.loaded ⟨b1, 0, none⟩ (.int .i64 12), .loaded ⟨b1, 1, none⟩ (.int .i64 (i1 : Int))]) rfl (by kernel_rfl) ⟨hS40.cell 0 rfl rfl, hS40.cell 0 rfl rfl, trivial⟩ ⟨rfl, hS41⟩) a hF⟩)
                  · rw [if_neg hc13] at h
                    refine we_known (t := 53) (b := decide (e1.At < e3)) (v := false) (by kernel_rfl) (decide_eq_false hc13) ?_
                    refine we_false (by kernel_rfl) ?_
                    have hS42 := hS33.bring 2 rfl
                    have hS43 := hS42.bring 2 rfl
                    have hS44 := hS43.bring 2 rfl
                    obtain rfl := Option.some.inj h
                    exact we_skip fun a hF => hQ _ _ _ (Outs.again ⟨hS44, hF.weaken ⟨by kernel_rfl, by kernel_rfl, by kernel_rfl, by kernel_rfl, by kernel_rfl, by kernel_rfl, by kernel_rfl, by kernel_rfl, trivial⟩⟩)
                · rw [if_neg hc12] at h
                  cases h
            · rw [if_neg hc10] at h
              cases h
          · rw [if_neg hc9] at h
            refine ge_known (t := 56) (b := decide ((i1 : Int) > 0)) (c := false) (by kernel_rfl) (decide_eq_false hc9) ?_
            refine ge_batch [3, 4, 5, 6, 7, 8, 9, 10, 11, 12, 13, 14, 15, 16, 17, 18] (ans := [.val (.int .i64 e1.At), .val (.int .i64 e1.Task)]) (vs := [(72, .int .i64 e1.Task), (71, .pointer (some ⟨b3, 0, none⟩)), (70, (.slice Z1 m1.length cz1)), (69, .int .i64 e1.At), (68, .pointer (some ⟨b3, 1, none⟩)), (67, .bool false), (66, .bool false), (65, undef), (64, undef), (63, undef), (62, undef), (61, undef), (60, undef), (59, undef), (58, undef), (57, undef)]) (l := [.loaded ⟨b3, 1, none⟩ (.int .i64 e1.At), .loaded ⟨b3, 0, none⟩ (.int .i64 e1.Task)]) (by kernel_rfl) ⟨hS33.cell 0 rfl rfl, hS33.cell 0 rfl rfl, trivial⟩ ?_
            by_cases hc14 : 0 ≤ e1.Task
            · rw [if_pos hc14] at h
              rcases hx7 : m1[(e1.Task).toNat]? with _ | e4
              · rw [hx7] at h; cases h
              rw [hx7] at h
              simp only [] at h
              refine ge_index (d := 73) (ty := 0) (t := 25) (el := 3) (sz := 1) (m := m1.length) (c := cz1) (x := (.tmp 70)) (y := (.tmp 72)) (A := Z1) (k' := .i64) (j := e1.Task) (jn := ((e1.Task).toNat)) (b0 := blkOf Z1) (o0 := offOf Z1) (by kernel_rfl) (by kernel_rfl) (by kernel_rfl) (by kernel_rfl) (by kernel_rfl) ((hS33.rdAt 2 rfl).eqSome (pos_of_get hx7)) (Int.toNat_of_nonneg hc14).symm (lt_of_get hx7) ?_
              refine ge_batch [20, 21, 22, 23] (ans := [.val (.int .i64 e4)]) (vs := [(53, .bool (decide (e1.At < e4))), (76, .bool (decide (e1.At < e4))), (75, .bool (decide (e1.At < e4))), (74, .int .i64 e4)]) (l := [.loaded ⟨blkOf Z1, offOf Z1 + ((e1.Task).toNat) * 1, none⟩ (.int .i64 e4)]) (by kernel_rfl) ⟨RdL.cell (j := 0) (hS33.rdAt 2 rfl) hx7 rfl, trivial⟩ ?_
              refine ge_nil fun a hF => hK22 _ _ ?_ a hF
              by_cases hc15 : e1.At < e4
              · rw [if_pos hc15] at h
                refine we_known (t := 53) (b := decide (e1.At < e4)) (v := true) (by kernel_rfl) (decide_eq_true hc15) ?_
                refine we_true (by kernel_rfl) ?_
                refine we_seq fun K25 hK25 => ?_
                refine we_region [(0, 0), (1, 0), (2, 2)] rfl ?_
                refine ge_batch [0, 1] (ans := []) (vs := [(78, .agg #[.int .i64 12, .int .i64 (i1 : Int)]), (77, .int .i64 (i1 : Int))]) (l := []) (by kernel_rfl) trivial ?_
                have hS45 := hS33.bring 1 rfl
                refine ge_set (b := b1) (j := 0) (cs := #[.int .i64 0, .int .i64 0]) (t := 31) (vs := [.int .i64 12, .int .i64 (i1 : Int)]) hS45 (by kernel_rfl) rfl rfl fun w15 hS46 => ?_
                have hS47 : St w0 w15 [Own.blk b1 (.cells #[.int .i64 12, .int .i64 (i1 : Int)] 31 (0, 0)), Own.blk b3 (.cells #[.int .i64 e1.Task, .int .i64 e1.At] 43 (0, 0)), Own.of (.slice Z1 m1.length cz1) 3 m1] := hS46
                refine ge_nil fun a hF => hK25 _ _ ?_ a hF
                have hS48 := hS47.takeN 0
                obtain rfl := Option.some.inj h
                exact we_ret fun a hF => hQ _ _ _ (Outs.out nofun ⟨rfl, (post_ret (rs := [.cell 4 31]) (ans := [.val (.int .i64 12), .val (.int .i64 (i1 : Int))]) (vs := [.agg #[.int .i64 12, .int .i64 (i1 : Int)]]) (l := [.loaded ⟨b1, 0, none⟩ (.int .i64 12), .loaded ⟨b1, 1, none⟩ (.int .i64 (i1 : Int))]) rfl (by kernel_rfl) ⟨hS47.cell 0 rfl rfl, hS47.cell 0 rfl rfl, trivial⟩ ⟨rfl, hS48⟩) a hF⟩)
              · rw [if_neg hc15] at h
                refine we_known (t := 53) (b := decide (e1.At < e4)) (v := false) (by kernel_rfl) (decide_eq_false hc15) ?_
                refine we_false (by kernel_rfl) ?_
                have hS49 := hS33.bring 2 rfl
                have hS50 := hS49.bring 2 rfl
                have hS51 := hS50.bring 2 rfl
                obtain rfl := Option.some.inj h
                exact we_skip fun a hF => hQ _ _ _ (Outs.again ⟨hS51, hF.weaken ⟨by kernel_rfl, by kernel_rfl, by kernel_rfl, by kernel_rfl, by kernel_rfl, by kernel_rfl, by kernel_rfl, by kernel_rfl, trivial⟩⟩)
            · rw [if_neg hc14] at h
              cases h
abbrev tasks_Legal.A0 (K : Nat) (w0 : World) (l0 : List STask) (A0 : Option Addr) (c0 : Nat) (l1 : List SCome) (A1 : Option Addr) (c1 : Nat) (hR0 : RdL w0 A0 l0) (hL0 : l0.length ≤ c0) (hR1 : RdL w0 A1 l1) (hL1 : l1.length ≤ c1) (b1 : Nat) (r1 : SFault) (b2 : Nat) (hc1 : r1.Code = 0) (hc2 : ¬ ((l1.length : Int) > 4000)) (hc3 : l0.length ≤ 17592186044416) (Z1 : Option Addr) (cz1 : Nat) : (Nat × (List Int)) → Act → World → Prop := fun (s : Nat × (List Int)) a w => St w0 w [Own.blk b1 (.cells #[.int .i64 0, .int .i64 0] 31 (0, 0)), Own.of (.slice Z1 s.2.length cz1) 3 s.2] ∧ Frm 94 a [(0, .slice A0 l0.length c0), (1, .slice A1 l1.length c1), (4, .pointer (some ⟨b1, 0, none⟩)), (6, (.slice Z1 s.2.length cz1)), (22, .slice A1 l1.length c1), (23, .int .i64 (l1.length : Int)), (24, .int .i64 (s.1 : Int))]
abbrev tasks_Legal.B0 (K : Nat) (w0 : World) (l0 : List STask) (A0 : Option Addr) (c0 : Nat) (l1 : List SCome) (A1 : Option Addr) (c1 : Nat) (hR0 : RdL w0 A0 l0) (hL0 : l0.length ≤ c0) (hR1 : RdL w0 A1 l1) (hL1 : l1.length ≤ c1) (b1 : Nat) (r1 : SFault) (b2 : Nat) (hc1 : r1.Code = 0) (hc2 : ¬ ((l1.length : Int) > 4000)) (hc3 : l0.length ≤ 17592186044416) (Z1 : Option Addr) (cz1 : Nat) : (Unit ⊕ SFault) → Exit → Act → World → Prop := Exits 0 (fun (s : Unit) a w => St w0 w [Own.blk b1 (.cells #[.int .i64 0, .int .i64 0] 31 (0, 0))] ∧ Frm 94 a [(4, .pointer (some ⟨b1, 0, none⟩))]) (Rets Try.prog Try.f51 (tasks_Legal.Post w0))
theorem tasks_Legal_r0 (K : Nat) (w0 : World) (l0 : List STask) (A0 : Option Addr) (c0 : Nat) (l1 : List SCome) (A1 : Option Addr) (c1 : Nat) (hR0 : RdL w0 A0 l0) (hL0 : l0.length ≤ c0) (hR1 : RdL w0 A1 l1) (hL1 : l1.length ≤ c1) (b1 : Nat) (r1 : SFault) (b2 : Nat) (hc1 : r1.Code = 0) (hc2 : ¬ ((l1.length : Int) > 4000)) (hc3 : l0.length ≤ 17592186044416) (Z1 : Option Addr) (cz1 : Nat) (s : Nat × (List Int)) (o : (Nat × (List Int)) ⊕ (Unit ⊕ SFault)) (h : tasks_Legal.r0 l0 l1 s = some o) (a : Act) (w : World) (hA : tasks_Legal.A0 K w0 l0 A0 c0 l1 A1 c1 hR0 hL0 hR1 hL1 b1 r1 b2 hc1 hc2 hc3 Z1 cz1 s a w) (Q : Exit → Act → World → Prop) (hQ : ∀ x a w, Outs (tasks_Legal.A0 K w0 l0 A0 c0 l1 A1 c1 hR0 hL0 hR1 hL1 b1 r1 b2 hc1 hc2 hc3 Z1 cz1) (tasks_Legal.B0 K w0 l0 A0 c0 l1 A1 c1 hR0 hL0 hR1 hL1 b1 r1 b2 hc1 hc2 hc3 Z1 cz1) o x a w → Q x a w) : (subF Try.f51 [1, 1, 1, 1, 0, 1, 0, 0]).wp Try.prog Q a w := by
  obtain ⟨i1, m1⟩ := s
  obtain ⟨hS, hF⟩ := hA
  replace hS : St w0 w [Own.blk b1 (.cells #[.int .i64 0, .int .i64 0] 31 (0, 0)), Own.of (.slice Z1 m1.length cz1) 3 m1] := hS
  simp only [tasks_Legal.r0] at h
  refine (?_ : WE Try.prog 94 (subF Try.f51 [1, 1, 1, 1, 0, 1, 0, 0]) Q [(0, .slice A0 l0.length c0), (1, .slice A1 l1.length c1), (4, .pointer (some ⟨b1, 0, none⟩)), (6, (.slice Z1 m1.length cz1)), (22, .slice A1 l1.length c1), (23, .int .i64 (l1.length : Int)), (24, .int .i64 (i1 : Int))] w) a hF
  clear hF a
  refine we_seq fun K11 hK11 => ?_
  refine we_region [(0, 0)] rfl ?_
  refine ge_batch [0] (ans := []) (vs := [(25, .bool (decide ((i1 : Int) < (l1.length : Int))))]) (l := []) (by kernel_rfl) trivial ?_
  refine ge_nil fun a hF => hK11 _ _ ?_ a hF
  refine we_seq fun K12 hK12 => ?_
  by_cases hc4 : (i1 : Int) < (l1.length : Int)
  · rw [if_pos hc4] at h
    refine we_known (t := 25) (b := decide ((i1 : Int) < (l1.length : Int))) (v := true) (by kernel_rfl) (decide_eq_true hc4) ?_
    refine we_true (by kernel_rfl) ?_
    refine we_skip fun a hF => hK12 _ _ ?_ a hF
    refine we_seq fun K13 hK13 => ?_
    refine we_block ?_
    refine we_seq fun K14 hK14 => ?_
    refine we_region [(0, 0), (1, 0), (2, 0), (3, 1), (4, 0), (5, 2)] rfl ?_
    refine ge_batch [0] (ans := []) (vs := [(26, .int .i64 (i1 : Int))]) (l := []) (by kernel_rfl) trivial ?_
    rcases hx3 : l1[i1]? with _ | e1
    · rw [hx3] at h; cases h
    rw [hx3] at h
    simp only [] at h
    refine ge_index (d := 27) (ty := 0) (t := 24) (el := 43) (sz := 2) (m := l1.length) (c := c1) (x := (.tmp 22)) (y := (.tmp 24)) (A := A1) (k' := .i64) (j := (i1 : Int)) (jn := i1) (b0 := blkOf A1) (o0 := offOf A1) (by kernel_rfl) (by kernel_rfl) (by kernel_rfl) (by kernel_rfl) (by kernel_rfl) ((hS.rd hR1).eqSome (pos_of_get hx3)) rfl (lt_of_get hx3) ?_
    refine ge_batch [2] (ans := [.val (.int .i64 e1.Task), .val (.int .i64 e1.At)]) (vs := [(28, .agg #[.int .i64 e1.Task, .int .i64 e1.At])]) (l := [.loaded ⟨blkOf A1, offOf A1 + i1 * 2, none⟩ (.int .i64 e1.Task), .loaded ⟨blkOf A1, offOf A1 + i1 * 2 + 1, none⟩ (.int .i64 e1.At)]) (by kernel_rfl) ⟨RdL.cell (j := 0) (hS.rd hR1) hx3 rfl, RdL.cell (j := 1) (hS.rd hR1) hx3 rfl, trivial⟩ ?_
    refine ge_new (d := some 8) (o := .cells #[.int .i64 0, .int .i64 0] 43) (v := fun b => .pointer (some ⟨b, 0, none⟩)) hS (fun b => by kernel_rfl) fun b3 w7 hx4 hS14 => ?_
    refine ge_batch [4] (ans := []) (vs := [(7, .int .i64 (i1 : Int))]) (l := []) (by kernel_rfl) trivial ?_
    refine ge_set (b := b3) (j := 0) (cs := #[.int .i64 0, .int .i64 0]) (t := 43) (vs := [.int .i64 e1.Task, .int .i64 e1.At]) hS14 (by kernel_rfl) rfl rfl fun w8 hS15 => ?_
    have hS16 : St w0 w8 [Own.blk b3 (.cells #[.int .i64 e1.Task, .int .i64 e1.At] 43 (0, 0)), Own.blk b1 (.cells #[.int .i64 0, .int .i64 0] 31 (0, 0)), Own.of (.slice Z1 m1.length cz1) 3 m1] := hS15
    refine ge_nil fun a hF => hK14 _ _ ?_ a hF
    refine we_seq fun K15 hK15 => ?_
    rcases hq2 : tasks_Legal.p1 l0 l1 i1 m1 e1 with _ | (_ | rr1)
    · rw [hq2] at h; cases h
    · rw [hq2] at h
      simp only [] at h
      refine we_keep (e' := [(0, .slice A0 l0.length c0), (1, .slice A1 l1.length c1), (4, .pointer (some ⟨b1, 0, none⟩)), (6, (.slice Z1 m1.length cz1)), (7, .int .i64 (i1 : Int)), (8, .pointer (some ⟨b3, 0, none⟩)), (22, .slice A1 l1.length c1), (23, .int .i64 (l1.length : Int)), (24, .int .i64 (i1 : Int)), (25, .bool true), (26, .int .i64 (i1 : Int)), (27, .pointer (some ⟨blkOf A1, offOf A1 + i1 * 2, none⟩)), (28, .agg #[.int .i64 e1.Task, .int .i64 e1.At])]) ⟨by kernel_rfl, by kernel_rfl, by kernel_rfl, by kernel_rfl, by kernel_rfl, by kernel_rfl, by kernel_rfl, by kernel_rfl, by kernel_rfl, by kernel_rfl, by kernel_rfl, by kernel_rfl, by kernel_rfl, trivial⟩ (tasks_Legal_p1 K w0 l0 A0 c0 l1 A1 c1 hR0 hL0 hR1 hL1 b1 r1 b2 hc1 hc2 hc3 Z1 cz1 i1 m1 hc4 e1 hx3 b3 _ hq2 _ hS16 _ ?_)
      rintro _ a w16 ⟨rfl, hS52, hF⟩
      replace hS52 : St w0 w16 [Own.blk b3 (.cells #[.int .i64 e1.Task, .int .i64 e1.At] 43 (0, 0)), Own.blk b1 (.cells #[.int .i64 0, .int .i64 0] 31 (0, 0)), Own.of (.slice Z1 m1.length cz1) 3 m1] := hS52
      refine hK15 [(0, .slice A0 l0.length c0), (1, .slice A1 l1.length c1), (4, .pointer (some ⟨b1, 0, none⟩)), (6, (.slice Z1 m1.length cz1)), (8, .pointer (some ⟨b3, 0, none⟩)), (22, .slice A1 l1.length c1), (23, .int .i64 (l1.length : Int)), (24, .int .i64 (i1 : Int))] w16 ?_ a hF
      refine we_draws (by kernel_rfl) [(0, 0), (1, 0), (2, 0), (3, 0), (4, 0), (5, 0), (6, 0), (7, 0), (8, 0), (9, 0), (10, 0), (11, 0), (12, 0), (13, 2)] (by kernel_rfl) ?_
      have hS53 := hS52.drew
      refine ge_batch [0, 1, 2, 3, 4, 5, 6, 7] (ans := [.val (.int .i64 e1.Task), .val (.int .i64 e1.At), .val (.int .i64 e1.Task)]) (vs := [(86, .int .i64 e1.Task), (85, .pointer (some ⟨b3, 0, none⟩)), (84, .slice A0 l0.length c0), (83, .int .i64 e1.At), (82, .pointer (some ⟨b3, 1, none⟩)), (81, .int .i64 e1.Task), (80, .pointer (some ⟨b3, 0, none⟩)), (79, (.slice Z1 m1.length cz1))]) (l := [.loaded ⟨b3, 0, none⟩ (.int .i64 e1.Task), .loaded ⟨b3, 1, none⟩ (.int .i64 e1.At), .loaded ⟨b3, 0, none⟩ (.int .i64 e1.Task)]) (by kernel_rfl) ⟨hS53.cell 0 rfl rfl, hS53.cell 0 rfl rfl, hS53.cell 0 rfl rfl, trivial⟩ ?_
      by_cases hc16 : 0 ≤ e1.Task
      · rw [if_pos hc16] at h
        rcases hx8 : l0[(e1.Task).toNat]? with _ | e5
        · rw [hx8] at h; cases h
        rw [hx8] at h
        simp only [] at h
        refine ge_index (d := 87) (ty := 0) (t := 22) (el := 102) (sz := 7) (m := l0.length) (c := c0) (x := (.tmp 84)) (y := (.tmp 86)) (A := A0) (k' := .i64) (j := e1.Task) (jn := ((e1.Task).toNat)) (b0 := blkOf A0) (o0 := offOf A0) (by kernel_rfl) (by kernel_rfl) (by kernel_rfl) (by kernel_rfl) (by kernel_rfl) ((hS53.rd hR0).eqSome (pos_of_get hx8)) (Int.toNat_of_nonneg hc16).symm (lt_of_get hx8) ?_
        refine ge_batch [9, 10, 11] (ans := [.val (.int .i64 e5.T)]) (vs := [(90, .int .i64 (IntKind.i64.wrap (e1.At + e5.T))), (89, .int .i64 e5.T), (88, .pointer (some ⟨blkOf A0, offOf A0 + (e1.Task).toNat * 7 + 2, none⟩))]) (l := [.loaded ⟨blkOf A0, offOf A0 + ((e1.Task).toNat) * 7 + 2, none⟩ (.int .i64 e5.T)]) (by kernel_rfl) ⟨RdL.cell (j := 2) (hS53.rd hR0) hx8 rfl, trivial⟩ ?_
        rcases hx9 : m1[(e1.Task).toNat]? with _ | e6
        · rw [hx9] at h; cases h
        rw [hx9] at h
        simp only [] at h
        refine ge_index (d := 91) (ty := 0) (t := 25) (el := 3) (sz := 1) (m := m1.length) (c := cz1) (x := (.tmp 79)) (y := (.tmp 81)) (A := Z1) (k' := .i64) (j := e1.Task) (jn := ((e1.Task).toNat)) (b0 := blkOf Z1) (o0 := offOf Z1) (by kernel_rfl) (by kernel_rfl) (by kernel_rfl) (by kernel_rfl) (by kernel_rfl) ((hS53.rdAt 2 rfl).eqSome (pos_of_get hx9)) (Int.toNat_of_nonneg hc16).symm (lt_of_get hx9) ?_
        have hS54 := hS53.bring 2 rfl
        refine ge_seti (α := Int) (A := Z1) (nn := m1.length) (c := cz1) (t := 3) (l := m1) (x := e6) (x' := (IntKind.i64.wrap (e1.At + e5.T))) (jn := ((e1.Task).toNat)) (j := 0) (vs := [.int .i64 (IntKind.i64.wrap (e1.At + e5.T))]) (l' := [.stored ⟨blkOf Z1, offOf Z1 + ((e1.Task).toNat) * 1, none⟩ (.int .i64 (IntKind.i64.wrap (e1.At + e5.T)))]) hS54 (by kernel_rfl) (by kernel_rfl) hx9 rfl rfl rfl fun w17 hS55 => ?_
        have hS56 : St w0 w17 [Own.of (.slice Z1 m1.length cz1) 3 (m1.set ((e1.Task).toNat) (IntKind.i64.wrap (e1.At + e5.T))), Own.blk b3 (.cells #[.int .i64 e1.Task, .int .i64 e1.At] 43 (0, 0)), Own.blk b1 (.cells #[.int .i64 0, .int .i64 0] 31 (0, 0))] := hS55
        have hE1 : m1.length = (m1.set ((e1.Task).toNat) (IntKind.i64.wrap (e1.At + e5.T))).length := hS56.lenAt 0 rfl
        have hS57 : St w0 w17 [Own.of (.slice Z1 (m1.set ((e1.Task).toNat) (IntKind.i64.wrap (e1.At + e5.T))).length cz1) 3 (m1.set ((e1.Task).toNat) (IntKind.i64.wrap (e1.At + e5.T))), Own.blk b3 (.cells #[.int .i64 e1.Task, .int .i64 e1.At] 43 (0, 0)), Own.blk b1 (.cells #[.int .i64 0, .int .i64 0] 31 (0, 0))] := by rw [← hE1]; exact hS56
        refine ge_same (t := 6) (v := (.slice Z1 m1.length cz1)) (v' := (.slice Z1 (m1.set ((e1.Task).toNat) (IntKind.i64.wrap (e1.At + e5.T))).length cz1)) (by kernel_rfl) (by rw [hE1]) ?_
        refine ge_same (t := 79) (v := (.slice Z1 m1.length cz1)) (v' := (.slice Z1 (m1.set ((e1.Task).toNat) (IntKind.i64.wrap (e1.At + e5.T))).length cz1)) (by kernel_rfl) (by rw [hE1]) ?_
        refine ge_nil fun a hF => hK13 _ _ ?_ a hF
        refine we_region [(0, 0), (1, 0)] rfl ?_
        refine ge_addn (d := 92) (ty := 3) (x := (.tmp 24)) (y := (.const (.int .i64 1))) (t := 3) (t2 := 3) (k := .i64) (m := i1) (by kernel_rfl) (by kernel_rfl) (by kernel_rfl) (by have h0 := hR1.small; omega) ?_
        refine ge_batch [1] (ans := []) (vs := [(24, .int .i64 ((i1 + 1 : Nat) : Int))]) (l := []) (by kernel_rfl) trivial ?_
        have hS58 := hS57.bring 2 rfl
        have hS59 := hS58.takeN 2
        obtain rfl := Option.some.inj h
        exact ge_nil fun a hF => hQ _ _ _ (Outs.again ⟨hS59, hF.weaken ⟨by kernel_rfl, by kernel_rfl, by kernel_rfl, by kernel_rfl, by kernel_rfl, by kernel_rfl, by kernel_rfl, trivial⟩⟩)
      · rw [if_neg hc16] at h
        cases h
    · rw [hq2] at h
      simp only [] at h
      refine we_keep (e' := [(0, .slice A0 l0.length c0), (1, .slice A1 l1.length c1), (4, .pointer (some ⟨b1, 0, none⟩)), (6, (.slice Z1 m1.length cz1)), (7, .int .i64 (i1 : Int)), (8, .pointer (some ⟨b3, 0, none⟩)), (22, .slice A1 l1.length c1), (23, .int .i64 (l1.length : Int)), (24, .int .i64 (i1 : Int)), (25, .bool true), (26, .int .i64 (i1 : Int)), (27, .pointer (some ⟨blkOf A1, offOf A1 + i1 * 2, none⟩)), (28, .agg #[.int .i64 e1.Task, .int .i64 e1.At])]) ⟨by kernel_rfl, by kernel_rfl, by kernel_rfl, by kernel_rfl, by kernel_rfl, by kernel_rfl, by kernel_rfl, by kernel_rfl, by kernel_rfl, by kernel_rfl, by kernel_rfl, by kernel_rfl, by kernel_rfl, trivial⟩ (tasks_Legal_p1 K w0 l0 A0 c0 l1 A1 c1 hR0 hL0 hR1 hL1 b1 r1 b2 hc1 hc2 hc3 Z1 cz1 i1 m1 hc4 e1 hx3 b3 _ hq2 _ hS16 _ ?_)
      rintro _ a w1 ⟨_, rfl, hb⟩
      obtain rfl := Option.some.inj h
      exact hQ _ _ _ (Outs.out nofun (Exits.on ⟨rfl, hb⟩))
  · rw [if_neg hc4] at h
    refine we_known (t := 25) (b := decide ((i1 : Int) < (l1.length : Int))) (v := false) (by kernel_rfl) (decide_eq_false hc4) ?_
    refine we_false (by kernel_rfl) ?_
    have hS60 := hS.takeN 1
    obtain rfl := Option.some.inj h
    exact we_exit fun a hF => hQ _ _ _ (Outs.out nofun (Exits.here ⟨hS60, hF.weaken ⟨by kernel_rfl, trivial⟩⟩))
theorem tasks_Legal_ok (K : Nat) (l0 : List STask) (A0 : Option Addr) (c0 : Nat) (l1 : List SCome) (A1 : Option Addr) (c1 : Nat) (w0 : World) (hR0 : RdL w0 A0 l0) (hL0 : l0.length ≤ c0) (hR1 : RdL w0 A1 l1) (hL1 : l1.length ≤ c1) (r : SFault) (h : tasks_Legal.f K l0 l1 = some r) :
    Calls Try.prog 51 #[.slice A0 l0.length c0, .slice A1 l1.length c1] w0 (tasks_Legal.Post w0 r) := by
  have hS := St.start w0
  unfold tasks_Legal.f at h
  refine calls_enter (n := 94) (args := [.slice A0 l0.length c0, .slice A1 l1.length c1]) (fn := Try.f51) rfl rfl rfl rfl ?_
  show WE _ _ _ _ [(0, .slice A0 l0.length c0), (1, .slice A1 l1.length c1)] _
  refine we_seq fun K1 hK1 => ?_
  refine we_region [(0, 1)] rfl ?_
  refine ge_new (d := some 4) (o := .cells #[.int .i64 0, .int .i64 0] 31) (v := fun b => .pointer (some ⟨b, 0, none⟩)) hS (fun b => by kernel_rfl) fun b1 w1 hx1 hS1 => ?_
  refine ge_nil fun a hF => hK1 _ _ ?_ a hF
  refine we_seq fun K2 hK2 => ?_
  refine we_seq fun K3 hK3 => ?_
  refine we_region [(0, 0), (1, 1), (2, 1), (3, 2)] rfl ?_
  rcases hq1 : tasks_Check.f K l0 with _ | r1
  · rw [hq1] at h; cases h
  rw [hq1] at h
  simp only [] at h
  refine ge_batch [0] (ans := []) (vs := [(9, .slice A0 l0.length c0)]) (l := []) (by kernel_rfl) trivial ?_
  refine ge_call (d := some 10) (f := 88) (args := #[.slice A0 l0.length c0]) (by kernel_rfl) (tasks_Check_ok K l0 A0 c0 _ (hS1.rd hR0) hL0 _ hq1) ?_
  rintro _ w2 ⟨rfl, hS2⟩
  refine ⟨_, rfl, hS2.below, ?_⟩
  have hS3 := hS1.call hS2
  refine ge_new (d := some 5) (o := .cells #[.int .i64 0, .int .i64 0] 31) (v := fun b => .pointer (some ⟨b, 0, none⟩)) hS3 (fun b => by kernel_rfl) fun b2 w3 hx2 hS4 => ?_
  refine ge_set (b := b2) (j := 0) (cs := #[.int .i64 0, .int .i64 0]) (t := 31) (vs := [.int .i64 r1.Code, .int .i64 r1.At]) hS4 (by kernel_rfl) rfl rfl fun w4 hS5 => ?_
  have hS6 : St w0 w4 [Own.blk b2 (.cells #[.int .i64 r1.Code, .int .i64 r1.At] 31 (0, 0)), Own.blk b1 (.cells #[.int .i64 0, .int .i64 0] 31 (0, 0))] := hS5
  refine ge_nil fun a hF => hK3 _ _ ?_ a hF
  refine we_seq fun K4 hK4 => ?_
  refine we_region [(0, 0), (1, 0), (2, 0)] rfl ?_
  refine ge_batch [0, 1, 2] (ans := [.val (.int .i64 r1.Code)]) (vs := [(13, .bool (r1.Code != 0)), (12, .int .i64 r1.Code), (11, .pointer (some ⟨b2, 0, none⟩))]) (l := [.loaded ⟨b2, 0, none⟩ (.int .i64 r1.Code)]) (by kernel_rfl) ⟨hS6.cell 0 rfl rfl, trivial⟩ ?_
  refine ge_nil fun a hF => hK4 _ _ ?_ a hF
  by_cases hc1 : r1.Code = 0
  · rw [if_pos hc1] at h
    refine we_known (t := 13) (b := (r1.Code != 0)) (v := false) (by kernel_rfl) (bne_eq_false_iff_eq.2 hc1) ?_
    refine we_false (by kernel_rfl) ?_
    refine we_skip fun a hF => hK2 _ _ ?_ a hF
    refine we_seq fun K5 hK5 => ?_
    refine we_seq fun K6 hK6 => ?_
    refine we_region [(0, 0), (1, 0), (2, 0)] rfl ?_
    refine ge_batch [0, 1, 2] (ans := []) (vs := [(17, .bool (decide ((l1.length : Int) > 4000))), (16, .int .i64 (l1.length : Int)), (15, .slice A1 l1.length c1)]) (l := []) (by kernel_rfl) trivial ?_
    refine ge_nil fun a hF => hK6 _ _ ?_ a hF
    by_cases hc2 : (l1.length : Int) > 4000
    · rw [if_pos hc2] at h
      refine we_known (t := 17) (b := decide ((l1.length : Int) > 4000)) (v := true) (by kernel_rfl) (decide_eq_true hc2) ?_
      refine we_true (by kernel_rfl) ?_
      refine we_seq fun K7 hK7 => ?_
      refine we_region [(0, 0), (1, 2)] rfl ?_
      refine ge_batch [0] (ans := []) (vs := [(18, .agg #[.int .i64 2, .int .i64 0])]) (l := []) (by kernel_rfl) trivial ?_
      have hS7 := hS6.bring 1 rfl
      refine ge_set (b := b1) (j := 0) (cs := #[.int .i64 0, .int .i64 0]) (t := 31) (vs := [.int .i64 2, .int .i64 0]) hS7 (by kernel_rfl) rfl rfl fun w5 hS8 => ?_
      have hS9 : St w0 w5 [Own.blk b1 (.cells #[.int .i64 2, .int .i64 0] 31 (0, 0)), Own.blk b2 (.cells #[.int .i64 r1.Code, .int .i64 r1.At] 31 (0, 0))] := hS8
      refine ge_nil fun a hF => hK7 _ _ ?_ a hF
      have hS10 := hS9.takeN 0
      obtain rfl := Option.some.inj h
      exact we_ret (post_ret (rs := [.cell 4 31]) (ans := [.val (.int .i64 2), .val (.int .i64 0)]) (vs := [.agg #[.int .i64 2, .int .i64 0]]) (l := [.loaded ⟨b1, 0, none⟩ (.int .i64 2), .loaded ⟨b1, 1, none⟩ (.int .i64 0)]) rfl (by kernel_rfl) ⟨hS9.cell 0 rfl rfl, hS9.cell 0 rfl rfl, trivial⟩ ⟨rfl, hS10⟩)
    · rw [if_neg hc2] at h
      refine we_known (t := 17) (b := decide ((l1.length : Int) > 4000)) (v := false) (by kernel_rfl) (decide_eq_false hc2) ?_
      refine we_false (by kernel_rfl) ?_
      refine we_skip fun a hF => hK5 _ _ ?_ a hF
      refine we_seq fun K8 hK8 => ?_
      refine we_region [(0, 0), (1, 0), (2, 1), (3, 0)] rfl ?_
      refine ge_batch [0, 1] (ans := []) (vs := [(20, .int .i64 (l0.length : Int)), (19, .slice A0 l0.length c0)]) (l := []) (by kernel_rfl) trivial ?_
      by_cases hc3 : l0.length ≤ 17592186044416
      · rw [if_pos hc3] at h
        refine ge_make (α := Int) (d := 21) (t := 25) (el := 3) (bytes := 8) (l := l0.length) (c := l0.length) (x := (.tmp 20)) (y := (.tmp 20)) (ty := 25) (k1 := .i64) (k2 := .i64) (li := (l0.length : Int)) (ci := (l0.length : Int)) (z := .int .i64 0) (z' := (0 : Int)) (by kernel_rfl) (by kernel_rfl) (by kernel_rfl) rfl rfl (by kernel_rfl) (by kernel_rfl) rfl hS6 (Nat.le_refl _) rfl (by omega) fun v1 w6 _ hS11 => ?_
        refine ge_batch [3] (ans := []) (vs := [(6, v1)]) (l := []) (by kernel_rfl) trivial ?_
        refine ge_nil fun a hF => hK8 _ _ ?_ a hF
        refine we_seq fun K9 hK9 => ?_
        refine we_seq fun K10 hK10 => ?_
        refine we_region [(0, 0), (1, 0), (2, 0)] rfl ?_
        refine ge_batch [0, 1, 2] (ans := []) (vs := [(24, .int .i64 0), (23, .int .i64 (l1.length : Int)), (22, .slice A1 l1.length c1)]) (l := []) (by kernel_rfl) trivial ?_
        refine ge_nil fun a hF => hK10 _ _ ?_ a hF
        refine we_block ?_
        obtain ⟨Z1, cz1, rfl⟩ := hS11.open 0 rfl
        have hS12 := hS11.bring 2 rfl
        have hS13 := hS12.takeN 2
        rcases hq3 : iter (tasks_Legal.r0 l0 l1) K (0, (List.replicate l0.length (0 : Int))) with _ | (_ | rr2)
        · rw [hq3] at h; cases h
        · rw [hq3] at h
          simp only [] at h
          refine we_iter (A := tasks_Legal.A0 K w0 l0 A0 c0 l1 A1 c1 hR0 hL0 hR1 hL1 b1 r1 b2 hc1 hc2 hc3 Z1 cz1) (B := tasks_Legal.B0 K w0 l0 A0 c0 l1 A1 c1 hR0 hL0 hR1 hL1 b1 r1 b2 hc1 hc2 hc3 Z1 cz1) hq3 (fun a hF => ⟨hS13, hF.weaken ⟨by kernel_rfl, by kernel_rfl, by kernel_rfl, by kernel_rfl, by kernel_rfl, by kernel_rfl, by kernel_rfl, trivial⟩⟩) (fun s o hf a w hA Q hQ => tasks_Legal_r0 K w0 l0 A0 c0 l1 A1 c1 hR0 hL0 hR1 hL1 b1 r1 b2 hc1 hc2 hc3 Z1 cz1 s o hf a w hA Q hQ) ?_
          rintro _ a w18 _ ⟨rfl, hS61, hF⟩
          replace hS61 : St w0 w18 [Own.blk b1 (.cells #[.int .i64 0, .int .i64 0] 31 (0, 0))] := hS61
          refine hK9 [(4, .pointer (some ⟨b1, 0, none⟩))] w18 ?_ a hF
          refine we_seq fun K26 hK26 => ?_
          refine we_region [(0, 0), (1, 2)] rfl ?_
          refine ge_batch [0] (ans := []) (vs := [(93, .agg #[.int .i64 0, .int .i64 0])]) (l := []) (by kernel_rfl) trivial ?_
          refine ge_set (b := b1) (j := 0) (cs := #[.int .i64 0, .int .i64 0]) (t := 31) (vs := [.int .i64 0, .int .i64 0]) hS61 (by kernel_rfl) rfl rfl fun w19 hS62 => ?_
          have hS63 : St w0 w19 [Own.blk b1 (.cells #[.int .i64 0, .int .i64 0] 31 (0, 0))] := hS62
          refine ge_nil fun a hF => hK26 _ _ ?_ a hF
          have hS64 := hS63.takeN 0
          obtain rfl := Option.some.inj h
          exact we_ret (post_ret (rs := [.cell 4 31]) (ans := [.val (.int .i64 0), .val (.int .i64 0)]) (vs := [.agg #[.int .i64 0, .int .i64 0]]) (l := [.loaded ⟨b1, 0, none⟩ (.int .i64 0), .loaded ⟨b1, 1, none⟩ (.int .i64 0)]) rfl (by kernel_rfl) ⟨hS63.cell 0 rfl rfl, hS63.cell 0 rfl rfl, trivial⟩ ⟨rfl, hS64⟩)
        · rw [hq3] at h
          simp only [] at h
          refine we_iter (A := tasks_Legal.A0 K w0 l0 A0 c0 l1 A1 c1 hR0 hL0 hR1 hL1 b1 r1 b2 hc1 hc2 hc3 Z1 cz1) (B := tasks_Legal.B0 K w0 l0 A0 c0 l1 A1 c1 hR0 hL0 hR1 hL1 b1 r1 b2 hc1 hc2 hc3 Z1 cz1) hq3 (fun a hF => ⟨hS13, hF.weaken ⟨by kernel_rfl, by kernel_rfl, by kernel_rfl, by kernel_rfl, by kernel_rfl, by kernel_rfl, by kernel_rfl, trivial⟩⟩) (fun s o hf a w hA Q hQ => tasks_Legal_r0 K w0 l0 A0 c0 l1 A1 c1 hR0 hL0 hR1 hL1 b1 r1 b2 hc1 hc2 hc3 Z1 cz1 s o hf a w hA Q hQ) ?_
          rintro _ a w1 _ ⟨rfl, hb⟩
          obtain rfl := Option.some.inj h
          exact hb
      · rw [if_neg hc3] at h
        cases h
  · rw [if_neg hc1] at h
    refine we_known (t := 13) (b := (r1.Code != 0)) (v := true) (by kernel_rfl) (bne_iff_ne.2 hc1) ?_
    refine we_true (by kernel_rfl) ?_
    refine we_seq fun K27 hK27 => ?_
    refine we_region [(0, 0), (1, 2)] rfl ?_
    refine ge_batch [0] (ans := [.val (.int .i64 r1.Code), .val (.int .i64 r1.At)]) (vs := [(14, .agg #[.int .i64 r1.Code, .int .i64 r1.At])]) (l := [.loaded ⟨b2, 0, none⟩ (.int .i64 r1.Code), .loaded ⟨b2, 1, none⟩ (.int .i64 r1.At)]) (by kernel_rfl) ⟨hS6.cell 0 rfl rfl, hS6.cell 0 rfl rfl, trivial⟩ ?_
    have hS65 := hS6.bring 1 rfl
    refine ge_set (b := b1) (j := 0) (cs := #[.int .i64 0, .int .i64 0]) (t := 31) (vs := [.int .i64 r1.Code, .int .i64 r1.At]) hS65 (by kernel_rfl) rfl rfl fun w20 hS66 => ?_
    have hS67 : St w0 w20 [Own.blk b1 (.cells #[.int .i64 r1.Code, .int .i64 r1.At] 31 (0, 0)), Own.blk b2 (.cells #[.int .i64 r1.Code, .int .i64 r1.At] 31 (0, 0))] := hS66
    refine ge_nil fun a hF => hK27 _ _ ?_ a hF
    have hS68 := hS67.takeN 0
    obtain rfl := Option.some.inj h
    exact we_ret (post_ret (rs := [.cell 4 31]) (ans := [.val (.int .i64 r1.Code), .val (.int .i64 r1.At)]) (vs := [.agg #[.int .i64 r1.Code, .int .i64 r1.At]]) (l := [.loaded ⟨b1, 0, none⟩ (.int .i64 r1.Code), .loaded ⟨b1, 1, none⟩ (.int .i64 r1.At)]) rfl (by kernel_rfl) ⟨hS67.cell 0 rfl rfl, hS67.cell 0 rfl rfl, trivial⟩ ⟨rfl, hS68⟩)

structure SJob where
  Task : Int
  At : Int
  C : Int
  Due : Int
  P : Int
def SJob.eqb (x y : SJob) : Bool := ((x.Task == y.Task) && ((x.At == y.At) && ((x.C == y.C) && ((x.Due == y.Due) && ((x.P == y.P) && true)))))
instance : Ok SJob := ⟨fun x => Ok.ok x.Task ∧ Ok.ok x.At ∧ Ok.ok x.C ∧ Ok.ok x.Due ∧ Ok.ok x.P ∧ True⟩
instance : Flat SJob := ⟨5, fun x => [.int .i64 x.Task, .int .i64 x.At, .int .i64 x.C, .int .i64 x.Due, .int .i64 x.P], fun _ => rfl, fun _ => rfl, by decide⟩

/-! punctual/tasks.Jobs -/
abbrev tasks_Jobs.Post (w0 : World) (r : (List SJob) × SFault) (e : Ending) (w : World) : Prop := ∃ (v0 : Value), e = .returned (.tuple #[v0, .agg #[.int .i64 r.2.Code, .int .i64 r.2.At]]) ∧ St w0 w [Own.of v0 106 r.1]
def tasks_Jobs.p0 (l1 : List SCome) (l2 : List Int) (l3 : List Int) : Option (Unit ⊕ ((List SJob) × SFault)) :=
    if (l2.length : Int) = (l1.length : Int) then
      if (l3.length : Int) = (l1.length : Int) then
        some (.inl ())
      else
        some (.inr (([] : List SJob), (⟨2, 0⟩ : SFault)))
    else
      some (.inr (([] : List SJob), (⟨2, 0⟩ : SFault)))
def tasks_Jobs.p2 (l2 : List Int) (l3 : List Int) (i1 : Nat) (e2 : STask) : Option (Unit ⊕ ((List SJob) × SFault)) :=
    match l2[i1]? with
    | none => none
    | some e3 =>
      if e3 < 0 then
        some (.inr (([] : List SJob), (⟨3, (i1 : Int)⟩ : SFault)))
      else
        if e3 > e2.J then
          some (.inr (([] : List SJob), (⟨3, (i1 : Int)⟩ : SFault)))
        else
          match l3[i1]? with
          | none => none
          | some e4 =>
            if e4 < 1 then
              some (.inr (([] : List SJob), (⟨3, (i1 : Int)⟩ : SFault)))
            else
              if e4 > e2.C then
                some (.inr (([] : List SJob), (⟨3, (i1 : Int)⟩ : SFault)))
              else
                some (.inl ())
def tasks_Jobs.r1 (l0 : List STask) (l1 : List SCome) (l2 : List Int) (l3 : List Int) : (List SJob) × Nat → Option (((List SJob) × Nat) ⊕ ((List SJob) ⊕ ((List SJob) × SFault)))
  | (m1, i1) =>
    if (i1 : Int) < (l1.length : Int) then
      match l1[i1]? with
      | none => none
      | some e1 =>
        if 0 ≤ e1.Task then
          match l0[(e1.Task).toNat]? with
          | none => none
          | some e2 =>
            match tasks_Jobs.p2 l2 l3 i1 e2 with
            | none => none
            | some (.inl _) =>
              match l2[i1]? with
              | none => none
              | some e5 =>
                match l3[i1]? with
                | none => none
                | some e6 =>
                  if m1.length < 3518437208883 then
                    some (.inl ((m1 ++ [(⟨e1.Task, IntKind.i64.wrap (e1.At + e5), e6, IntKind.i64.wrap (e1.At + e2.D), e2.P⟩ : SJob)]), (i1 + 1)))
                  else
                    none
            | some (.inr rr1) =>
              some (.inr (.inr rr1))
        else
          none
    else
      some (.inr (.inl m1))
def tasks_Jobs.f (K : Nat) (l0 : List STask) (l1 : List SCome) (l2 : List Int) (l3 : List Int) : Option ((List SJob) × SFault) :=
  match tasks_Legal.f K l0 l1 with
  | none => none
  | some r1 =>
    if r1.Code = 0 then
      match tasks_Jobs.p0 l1 l2 l3 with
      | none => none
      | some (.inl _) =>
        match iter (tasks_Jobs.r1 l0 l1 l2 l3) K (([] : List SJob), 0) with
        | none => none
        | some (.inl m3) =>
          some (m3, (⟨0, 0⟩ : SFault))
        | some (.inr rr2) =>
          some rr2
      | some (.inr rr3) =>
        some rr3
    else
      some (([] : List SJob), r1)
abbrev tasks_Jobs.A0 (K : Nat) (w0 : World) (l0 : List STask) (A0 : Option Addr) (c0 : Nat) (l1 : List SCome) (A1 : Option Addr) (c1 : Nat) (l2 : List Int) (A2 : Option Addr) (c2 : Nat) (l3 : List Int) (A3 : Option Addr) (c3 : Nat) (hR0 : RdL w0 A0 l0) (hL0 : l0.length ≤ c0) (hR1 : RdL w0 A1 l1) (hL1 : l1.length ≤ c1) (hR2 : RdL w0 A2 l2) (hL2 : l2.length ≤ c2) (hR3 : RdL w0 A3 l3) (hL3 : l3.length ≤ c3) (b1 : Nat) (r1 : SFault) (b2 : Nat) (hc1 : r1.Code = 0) : Unit → Act → World → Prop := fun (s : Unit) a w => St w0 w [Own.blk b1 (.cells #[.int .i64 0, .int .i64 0] 31 (0, 0))] ∧ Frm 106 a [(0, .slice A0 l0.length c0), (1, .slice A1 l1.length c1), (2, .slice A2 l2.length c2), (3, .slice A3 l3.length c3), (9, .pointer (some ⟨b1, 0, none⟩))]
abbrev tasks_Jobs.B0 (K : Nat) (w0 : World) (l0 : List STask) (A0 : Option Addr) (c0 : Nat) (l1 : List SCome) (A1 : Option Addr) (c1 : Nat) (l2 : List Int) (A2 : Option Addr) (c2 : Nat) (l3 : List Int) (A3 : Option Addr) (c3 : Nat) (hR0 : RdL w0 A0 l0) (hL0 : l0.length ≤ c0) (hR1 : RdL w0 A1 l1) (hL1 : l1.length ≤ c1) (hR2 : RdL w0 A2 l2) (hL2 : l2.length ≤ c2) (hR3 : RdL w0 A3 l3) (hL3 : l3.length ≤ c3) (b1 : Nat) (r1 : SFault) (b2 : Nat) (hc1 : r1.Code = 0) : ((List SJob) × SFault) → Exit → Act → World → Prop := Rets Try.prog Try.f12 (tasks_Jobs.Post w0)
theorem tasks_Jobs_p0 (K : Nat) (w0 : World) (l0 : List STask) (A0 : Option Addr) (c0 : Nat) (l1 : List SCome) (A1 : Option Addr) (c1 : Nat) (l2 : List Int) (A2 : Option Addr) (c2 : Nat) (l3 : List Int) (A3 : Option Addr) (c3 : Nat) (hR0 : RdL w0 A0 l0) (hL0 : l0.length ≤ c0) (hR1 : RdL w0 A1 l1) (hL1 : l1.length ≤ c1) (hR2 : RdL w0 A2 l2) (hL2 : l2.length ≤ c2) (hR3 : RdL w0 A3 l3) (hL3 : l3.length ≤ c3) (b1 : Nat) (r1 : SFault) (b2 : Nat) (hc1 : r1.Code = 0) (o : Unit ⊕ ((List SJob) × SFault)) (h : tasks_Jobs.p0 l1 l2 l3 = some o) (w : World) (hS : St w0 w [Own.blk b2 (.cells #[.int .i64 r1.Code, .int .i64 r1.At] 31 (0, 0)), Own.blk b1 (.cells #[.int .i64 0, .int .i64 0] 31 (0, 0))]) (Q : Exit → Act → World → Prop) (hQ : ∀ x a w, Outs (tasks_Jobs.A0 K w0 l0 A0 c0 l1 A1 c1 l2 A2 c2 l3 A3 c3 hR0 hL0 hR1 hL1 hR2 hL2 hR3 hL3 b1 r1 b2 hc1) (tasks_Jobs.B0 K w0 l0 A0 c0 l1 A1 c1 l2 A2 c2 l3 A3 c3 hR0 hL0 hR1 hL1 hR2 hL2 hR3 hL3 b1 r1 b2 hc1) o x a w → Q x a w) : WE Try.prog 106 (subF Try.f12 [1, 1, 0]) Q [(0, .slice A0 l0.length c0), (1, .slice A1 l1.length c1), (2, .slice A2 l2.length c2), (3, .slice A3 l3.length c3), (8, .slice none 0 0), (9, .pointer (some ⟨b1, 0, none⟩)), (10, .pointer (some ⟨b2, 0, none⟩)), (15, .slice A0 l0.length c0), (16, .slice A1 l1.length c1), (17, .agg #[.int .i64 r1.Code, .int .i64 r1.At]), (18, .pointer (some ⟨b2, 0, none⟩)), (19, .int .i64 r1.Code), (20, .bool false)] w := by
  simp only [tasks_Jobs.p0] at h
  refine we_seq fun K6 hK6 => ?_
  refine we_region [(0, 0), (1, 0), (2, 0), (3, 0), (4, 0), (5, 0), (6, 0), (7, 0), (8, 0), (9, 0), (10, 0), (11, 0)] rfl ?_
  refine ge_batch [0, 1, 2, 3, 4, 5] (ans := []) (vs := [(27, .bool ((l2.length : Int) != (l1.length : Int))), (26, .bool ((l2.length : Int) != (l1.length : Int))), (25, .int .i64 (l1.length : Int)), (24, .slice A1 l1.length c1), (23, .int .i64 (l2.length : Int)), (22, .slice A2 l2.length c2)]) (l := []) (by kernel_rfl) trivial ?_
  by_cases hc2 : (l2.length : Int) = (l1.length : Int)
  · rw [if_pos hc2] at h
    refine ge_known (t := 27) (b := ((l2.length : Int) != (l1.length : Int))) (c := false) (by kernel_rfl) (bne_eq_false_iff_eq.2 hc2) ?_
    refine ge_batch [6, 7, 8, 9, 10, 11] (ans := []) (vs := [(33, .bool ((l3.length : Int) != (l1.length : Int))), (32, .bool ((l3.length : Int) != (l1.length : Int))), (31, .int .i64 (l1.length : Int)), (30, .slice A1 l1.length c1), (29, .int .i64 (l3.length : Int)), (28, .slice A3 l3.length c3)]) (l := []) (by kernel_rfl) trivial ?_
    refine ge_nil fun a hF => hK6 _ _ ?_ a hF
    by_cases hc3 : (l3.length : Int) = (l1.length : Int)
    · rw [if_pos hc3] at h
      refine we_known (t := 33) (b := ((l3.length : Int) != (l1.length : Int))) (v := false) (by kernel_rfl) (bne_eq_false_iff_eq.2 hc3) ?_
      refine we_false (by kernel_rfl) ?_
      have hS7 := hS.bring 1 rfl
      have hS8 := hS7.takeN 1
      obtain rfl := Option.some.inj h
      exact we_skip fun a hF => hQ _ _ _ (Outs.again ⟨hS8, hF.weaken ⟨by kernel_rfl, by kernel_rfl, by kernel_rfl, by kernel_rfl, by kernel_rfl, trivial⟩⟩)
    · rw [if_neg hc3] at h
      refine we_known (t := 33) (b := ((l3.length : Int) != (l1.length : Int))) (v := true) (by kernel_rfl) (bne_iff_ne.2 hc3) ?_
      refine we_true (by kernel_rfl) ?_
      refine we_seq fun K7 hK7 => ?_
      refine we_region [(0, 0), (1, 0), (2, 2)] rfl ?_
      refine ge_batch [0, 1] (ans := []) (vs := [(8, .slice none 0 0), (34, .agg #[.int .i64 2, .int .i64 0])]) (l := []) (by kernel_rfl) trivial ?_
      have hS9 := hS.bring 1 rfl
      refine ge_set (b := b1) (j := 0) (cs := #[.int .i64 0, .int .i64 0]) (t := 31) (vs := [.int .i64 2, .int .i64 0]) hS9 (by kernel_rfl) rfl rfl fun w5 hS10 => ?_
      have hS11 : St w0 w5 [Own.blk b1 (.cells #[.int .i64 2, .int .i64 0] 31 (0, 0)), Own.blk b2 (.cells #[.int .i64 r1.Code, .int .i64 r1.At] 31 (0, 0))] := hS10
      refine ge_nil fun a hF => hK7 _ _ ?_ a hF
      have hS12 := hS11.nil (α := SJob) 106
      have hS13 := hS12.takeN 1
      obtain rfl := Option.some.inj h
      exact we_ret fun a hF => hQ _ _ _ (Outs.out nofun ⟨rfl, (post_ret (rs := [.tmp 8, .cell 9 31]) (ans := [.val (.int .i64 2), .val (.int .i64 0)]) (vs := [(.slice none 0 0), .agg #[.int .i64 2, .int .i64 0]]) (l := [.loaded ⟨b1, 0, none⟩ (.int .i64 2), .loaded ⟨b1, 1, none⟩ (.int .i64 0)]) rfl (by kernel_rfl) ⟨hS12.cell 1 rfl rfl, hS12.cell 1 rfl rfl, trivial⟩ ⟨(.slice none 0 0), rfl, hS13⟩) a hF⟩)
  · rw [if_neg hc2] at h
    refine ge_known (t := 27) (b := ((l2.length : Int) != (l1.length : Int))) (c := true) (by kernel_rfl) (bne_iff_ne.2 hc2) ?_
    refine ge_batch [6, 7, 8, 9, 10, 11] (ans := []) (vs := [(33, .bool true), (32, undef), (31, undef), (30, undef), (29, undef), (28, undef)]) (l := []) (by kernel_rfl) trivial ?_
    refine ge_nil fun a hF => hK6 _ _ ?_ a hF
    refine we_true (by kernel_rfl) ?_
    refine we_seq fun K8 hK8 => ?_
    refine we_region [(0, 0), (1, 0), (2, 2)] rfl ?_
    refine ge_batch [0, 1] (ans := []) (vs := [(8, .slice none 0 0), (34, .agg #[.int .i64 2, .int .i64 0])]) (l := []) (by kernel_rfl) trivial ?_
    have hS14 := hS.bring 1 rfl
    refine ge_set (b := b1) (j := 0) (cs := #[.int .i64 0, .int .i64 0]) (t := 31) (vs := [.int .i64 2, .int .i64 0]) hS14 (by kernel_rfl) rfl rfl fun w6 hS15 => ?_
    have hS16 : St w0 w6 [Own.blk b1 (.cells #[.int .i64 2, .int .i64 0] 31 (0, 0)), Own.blk b2 (.cells #[.int .i64 r1.Code, .int .i64 r1.At] 31 (0, 0))] := hS15
    refine ge_nil fun a hF => hK8 _ _ ?_ a hF
    have hS17 := hS16.nil (α := SJob) 106
    have hS18 := hS17.takeN 1
    obtain rfl := Option.some.inj h
    exact we_ret fun a hF => hQ _ _ _ (Outs.out nofun ⟨rfl, (post_ret (rs := [.tmp 8, .cell 9 31]) (ans := [.val (.int .i64 2), .val (.int .i64 0)]) (vs := [(.slice none 0 0), .agg #[.int .i64 2, .int .i64 0]]) (l := [.loaded ⟨b1, 0, none⟩ (.int .i64 2), .loaded ⟨b1, 1, none⟩ (.int .i64 0)]) rfl (by kernel_rfl) ⟨hS17.cell 1 rfl rfl, hS17.cell 1 rfl rfl, trivial⟩ ⟨(.slice none 0 0), rfl, hS18⟩) a hF⟩)
abbrev tasks_Jobs.A2 (K : Nat) (w0 : World) (l0 : List STask) (A0 : Option Addr) (c0 : Nat) (l1 : List SCome) (A1 : Option Addr) (c1 : Nat) (l2 : List Int) (A2 : Option Addr) (c2 : Nat) (l3 : List Int) (A3 : Option Addr) (c3 : Nat) (hR0 : RdL w0 A0 l0) (hL0 : l0.length ≤ c0) (hR1 : RdL w0 A1 l1) (hL1 : l1.length ≤ c1) (hR2 : RdL w0 A2 l2) (hL2 : l2.length ≤ c2) (hR3 : RdL w0 A3 l3) (hL3 : l3.length ≤ c3) (b1 : Nat) (r1 : SFault) (b2 : Nat) (hc1 : r1.Code = 0) (m1 : List SJob) (i1 : Nat) (hc4 : (i1 : Int) < (l1.length : Int)) (e1 : SCome) (hx3 : l1[i1]? = some e1) (b3 : Nat) (hc5 : 0 ≤ e1.Task) (e2 : STask) (hx5 : l0[(e1.Task).toNat]? = some e2) (b4 : Nat) (Z1 : Option Addr) (cz1 : Nat) : Unit → Act → World → Prop := fun (s : Unit) a w => St w0 w [Own.blk b4 (.cells #[.string e2.Name, .int .i64 e2.C, .int .i64 e2.T, .int .i64 e2.D, .int .i64 e2.J, .int .i64 e2.O, .int .i64 e2.P] 102 (0, 0)), Own.blk b3 (.cells #[.int .i64 e1.Task, .int .i64 e1.At] 43 (0, 0)), Own.blk b1 (.cells #[.int .i64 0, .int .i64 0] 31 (0, 0)), Own.of (.slice Z1 m1.length cz1) 106 m1] ∧ Frm 106 a [(0, .slice A0 l0.length c0), (2, .slice A2 l2.length c2), (3, .slice A3 l3.length c3), (9, .pointer (some ⟨b1, 0, none⟩)), (11, (.slice Z1 m1.length cz1)), (12, .int .i64 (i1 : Int)), (13, .pointer (some ⟨b3, 0, none⟩)), (14, .pointer (some ⟨b4, 0, none⟩)), (35, .slice A1 l1.length c1), (36, .int .i64 (l1.length : Int)), (37, .int .i64 (i1 : Int))]
abbrev tasks_Jobs.B2 (K : Nat) (w0 : World) (l0 : List STask) (A0 : Option Addr) (c0 : Nat) (l1 : List SCome) (A1 : Option Addr) (c1 : Nat) (l2 : List Int) (A2 : Option Addr) (c2 : Nat) (l3 : List Int) (A3 : Option Addr) (c3 : Nat) (hR0 : RdL w0 A0 l0) (hL0 : l0.length ≤ c0) (hR1 : RdL w0 A1 l1) (hL1 : l1.length ≤ c1) (hR2 : RdL w0 A2 l2) (hL2 : l2.length ≤ c2) (hR3 : RdL w0 A3 l3) (hL3 : l3.length ≤ c3) (b1 : Nat) (r1 : SFault) (b2 : Nat) (hc1 : r1.Code = 0) (m1 : List SJob) (i1 : Nat) (hc4 : (i1 : Int) < (l1.length : Int)) (e1 : SCome) (hx3 : l1[i1]? = some e1) (b3 : Nat) (hc5 : 0 ≤ e1.Task) (e2 : STask) (hx5 : l0[(e1.Task).toNat]? = some e2) (b4 : Nat) (Z1 : Option Addr) (cz1 : Nat) : ((List SJob) × SFault) → Exit → Act → World → Prop := Rets Try.prog Try.f12 (tasks_Jobs.Post w0)
theorem tasks_Jobs_p2 (K : Nat) (w0 : World) (l0 : List STask) (A0 : Option Addr) (c0 : Nat) (l1 : List SCome) (A1 : Option Addr) (c1 : Nat) (l2 : List Int) (A2 : Option Addr) (c2 : Nat) (l3 : List Int) (A3 : Option Addr) (c3 : Nat) (hR0 : RdL w0 A0 l0) (hL0 : l0.length ≤ c0) (hR1 : RdL w0 A1 l1) (hL1 : l1.length ≤ c1) (hR2 : RdL w0 A2 l2) (hL2 : l2.length ≤ c2) (hR3 : RdL w0 A3 l3) (hL3 : l3.length ≤ c3) (b1 : Nat) (r1 : SFault) (b2 : Nat) (hc1 : r1.Code = 0) (m1 : List SJob) (i1 : Nat) (hc4 : (i1 : Int) < (l1.length : Int)) (e1 : SCome) (hx3 : l1[i1]? = some e1) (b3 : Nat) (hc5 : 0 ≤ e1.Task) (e2 : STask) (hx5 : l0[(e1.Task).toNat]? = some e2) (b4 : Nat) (Z1 : Option Addr) (cz1 : Nat) (o : Unit ⊕ ((List SJob) × SFault)) (h : tasks_Jobs.p2 l2 l3 i1 e2 = some o) (w : World) (hS : St w0 w [Own.blk b4 (.cells #[.string e2.Name, .int .i64 e2.C, .int .i64 e2.T, .int .i64 e2.D, .int .i64 e2.J, .int .i64 e2.O, .int .i64 e2.P] 102 (0, 0)), Own.blk b3 (.cells #[.int .i64 e1.Task, .int .i64 e1.At] 43 (0, 0)), Own.blk b1 (.cells #[.int .i64 0, .int .i64 0] 31 (0, 0)), Own.of (.slice Z1 m1.length cz1) 106 m1]) (Q : Exit → Act → World → Prop) (hQ : ∀ x a w, Outs (tasks_Jobs.A2 K w0 l0 A0 c0 l1 A1 c1 l2 A2 c2 l3 A3 c3 hR0 hL0 hR1 hL1 hR2 hL2 hR3 hL3 b1 r1 b2 hc1 m1 i1 hc4 e1 hx3 b3 hc5 e2 hx5 b4 Z1 cz1) (tasks_Jobs.B2 K w0 l0 A0 c0 l1 A1 c1 l2 A2 c2 l3 A3 c3 hR0 hL0 hR1 hL1 hR2 hL2 hR3 hL3 b1 r1 b2 hc1 m1 i1 hc4 e1 hx3 b3 hc5 e2 hx5 b4 Z1 cz1) o x a w → Q x a w) : WE Try.prog 106 (subF Try.f12 [1, 1, 1, 1, 0, 1, 0, 0, 1, 1, 0, 0, 1, 1, 0]) Q [(0, .slice A0 l0.length c0), (2, .slice A2 l2.length c2), (3, .slice A3 l3.length c3), (9, .pointer (some ⟨b1, 0, none⟩)), (11, (.slice Z1 m1.length cz1)), (12, .int .i64 (i1 : Int)), (13, .pointer (some ⟨b3, 0, none⟩)), (14, .pointer (some ⟨b4, 0, none⟩)), (35, .slice A1 l1.length c1), (36, .int .i64 (l1.length : Int)), (37, .int .i64 (i1 : Int)), (38, .bool true), (39, .int .i64 (i1 : Int)), (40, .pointer (some ⟨blkOf A1, offOf A1 + i1 * 2, none⟩)), (41, .agg #[.int .i64 e1.Task, .int .i64 e1.At]), (42, .slice A0 l0.length c0), (43, .pointer (some ⟨b3, 0, none⟩)), (44, .int .i64 e1.Task), (45, .pointer (some ⟨blkOf A0, offOf A0 + (e1.Task).toNat * 7, none⟩)), (46, .agg #[.string e2.Name, .int .i64 e2.C, .int .i64 e2.T, .int .i64 e2.D, .int .i64 e2.J, .int .i64 e2.O, .int .i64 e2.P])] w := by
  simp only [tasks_Jobs.p2] at h
  refine we_seq fun K18 hK18 => ?_
  refine we_draws (by kernel_rfl) [(0, 0), (1, 0), (2, 0), (3, 0), (4, 0), (5, 0), (6, 0), (7, 0), (8, 0), (9, 0), (10, 0), (11, 0), (12, 0), (13, 0), (14, 0), (15, 0), (16, 0), (17, 0), (18, 0), (19, 0), (20, 0), (21, 0), (22, 0), (23, 0), (24, 0), (25, 0), (26, 0), (27, 0), (28, 0), (29, 0)] (by kernel_rfl) ?_
  have hS28 := hS.drew
  refine ge_batch [0, 1] (ans := []) (vs := [(48, .int .i64 (i1 : Int)), (47, .slice A2 l2.length c2)]) (l := []) (by kernel_rfl) trivial ?_
  rcases hx7 : l2[i1]? with _ | e3
  · rw [hx7] at h; cases h
  rw [hx7] at h
  simp only [] at h
  refine ge_index (d := 49) (ty := 0) (t := 25) (el := 3) (sz := 1) (m := l2.length) (c := c2) (x := (.tmp 47)) (y := (.tmp 48)) (A := A2) (k' := .i64) (j := (i1 : Int)) (jn := i1) (b0 := blkOf A2) (o0 := offOf A2) (by kernel_rfl) (by kernel_rfl) (by kernel_rfl) (by kernel_rfl) (by kernel_rfl) ((hS28.rd hR2).eqSome (pos_of_get hx7)) rfl (lt_of_get hx7) ?_
  refine ge_batch [3, 4, 5] (ans := [.val (.int .i64 e3)]) (vs := [(52, .bool (decide (e3 < 0))), (51, .bool (decide (e3 < 0))), (50, .int .i64 e3)]) (l := [.loaded ⟨blkOf A2, offOf A2 + i1 * 1, none⟩ (.int .i64 e3)]) (by kernel_rfl) ⟨RdL.cell (j := 0) (hS28.rd hR2) hx7 rfl, trivial⟩ ?_
  by_cases hc6 : e3 < 0
  · rw [if_pos hc6] at h
    refine ge_known (t := 52) (b := decide (e3 < 0)) (c := true) (by kernel_rfl) (decide_eq_true hc6) ?_
    refine ge_batch [6, 7, 8, 9, 10, 11, 12, 13, 14, 15, 16, 17, 18, 19, 20, 21, 22, 23, 24, 25, 26, 27, 28, 29] (ans := []) (vs := [(76, .bool true), (75, undef), (74, undef), (73, undef), (72, undef), (71, undef), (70, undef), (69, undef), (68, .bool true), (67, .bool true), (66, undef), (65, undef), (64, undef), (63, undef), (62, undef), (61, .bool true), (60, .bool true), (59, undef), (58, undef), (57, undef), (56, undef), (55, undef), (54, undef), (53, undef)]) (l := []) (by kernel_rfl) trivial ?_
    refine ge_nil fun a hF => hK18 _ _ ?_ a hF
    refine we_true (by kernel_rfl) ?_
    refine we_seq fun K19 hK19 => ?_
    refine we_region [(0, 0), (1, 0), (2, 0), (3, 2)] rfl ?_
    refine ge_batch [0, 1, 2] (ans := []) (vs := [(8, .slice none 0 0), (78, .agg #[.int .i64 3, .int .i64 (i1 : Int)]), (77, .int .i64 (i1 : Int))]) (l := []) (by kernel_rfl) trivial ?_
    have hS29 := hS28.bring 2 rfl
    refine ge_set (b := b1) (j := 0) (cs := #[.int .i64 0, .int .i64 0]) (t := 31) (vs := [.int .i64 3, .int .i64 (i1 : Int)]) hS29 (by kernel_rfl) rfl rfl fun w12 hS30 => ?_
    have hS31 : St w0 w12 [Own.blk b1 (.cells #[.int .i64 3, .int .i64 (i1 : Int)] 31 (0, 0)), Own.blk b4 (.cells #[.string e2.Name, .int .i64 e2.C, .int .i64 e2.T, .int .i64 e2.D, .int .i64 e2.J, .int .i64 e2.O, .int .i64 e2.P] 102 (0, 0)), Own.blk b3 (.cells #[.int .i64 e1.Task, .int .i64 e1.At] 43 (0, 0)), Own.of (.slice Z1 m1.length cz1) 106 m1] := hS30
    refine ge_nil fun a hF => hK19 _ _ ?_ a hF
    have hS32 := hS31.nil (α := SJob) 106
    have hS33 := hS32.takeN 1
    obtain rfl := Option.some.inj h
    exact we_ret fun a hF => hQ _ _ _ (Outs.out nofun ⟨rfl, (post_ret (rs := [.tmp 8, .cell 9 31]) (ans := [.val (.int .i64 3), .val (.int .i64 (i1 : Int))]) (vs := [(.slice none 0 0), .agg #[.int .i64 3, .int .i64 (i1 : Int)]]) (l := [.loaded ⟨b1, 0, none⟩ (.int .i64 3), .loaded ⟨b1, 1, none⟩ (.int .i64 (i1 : Int))]) rfl (by kernel_rfl) ⟨hS32.cell 1 rfl rfl, hS32.cell 1 rfl rfl, trivial⟩ ⟨(.slice none 0 0), rfl, hS33⟩) a hF⟩)
  · rw [if_neg hc6] at h
    refine ge_known (t := 52) (b := decide (e3 < 0)) (c := false) (by kernel_rfl) (decide_eq_false hc6) ?_
    refine ge_batch [6, 7] (ans := []) (vs := [(54, .int .i64 (i1 : Int)), (53, .slice A2 l2.length c2)]) (l := []) (by kernel_rfl) trivial ?_
    refine ge_index (d := 55) (ty := 0) (t := 25) (el := 3) (sz := 1) (m := l2.length) (c := c2) (x := (.tmp 53)) (y := (.tmp 54)) (A := A2) (k' := .i64) (j := (i1 : Int)) (jn := i1) (b0 := blkOf A2) (o0 := offOf A2) (by kernel_rfl) (by kernel_rfl) (by kernel_rfl) (by kernel_rfl) (by kernel_rfl) ((hS28.rd hR2).eqSome (pos_of_get hx7)) rfl (lt_of_get hx7) ?_
    refine ge_batch [9, 10, 11, 12, 13, 14] (ans := [.val (.int .i64 e3), .val (.int .i64 e2.J)]) (vs := [(61, .bool (decide (e3 > e2.J))), (60, .bool (decide (e3 > e2.J))), (59, .bool (decide (e3 > e2.J))), (58, .int .i64 e2.J), (57, .pointer (some ⟨b4, 4, none⟩)), (56, .int .i64 e3)]) (l := [.loaded ⟨blkOf A2, offOf A2 + i1 * 1, none⟩ (.int .i64 e3), .loaded ⟨b4, 4, none⟩ (.int .i64 e2.J)]) (by kernel_rfl) ⟨RdL.cell (j := 0) (hS28.rd hR2) hx7 rfl, hS28.cell 0 rfl rfl, trivial⟩ ?_
    by_cases hc7 : e3 > e2.J
    · rw [if_pos hc7] at h
      refine ge_known (t := 61) (b := decide (e3 > e2.J)) (c := true) (by kernel_rfl) (decide_eq_true hc7) ?_
      refine ge_batch [15, 16, 17, 18, 19, 20, 21, 22, 23, 24, 25, 26, 27, 28, 29] (ans := []) (vs := [(76, .bool true), (75, undef), (74, undef), (73, undef), (72, undef), (71, undef), (70, undef), (69, undef), (68, .bool true), (67, .bool true), (66, undef), (65, undef), (64, undef), (63, undef), (62, undef)]) (l := []) (by kernel_rfl) trivial ?_
      refine ge_nil fun a hF => hK18 _ _ ?_ a hF
      refine we_true (by kernel_rfl) ?_
      refine we_seq fun K20 hK20 => ?_
      refine we_region [(0, 0), (1, 0), (2, 0), (3, 2)] rfl ?_
      refine ge_batch [0, 1, 2] (ans := []) (vs := [(8, .slice none 0 0), (78, .agg #[.int .i64 3, .int .i64 (i1 : Int)]), (77, .int .i64 (i1 : Int))]) (l := []) (by kernel_rfl) trivial ?_
      have hS34 := hS28.bring 2 rfl
      refine ge_set (b := b1) (j := 0) (cs := #[.int .i64 0, .int .i64 0]) (t := 31) (vs := [.int .i64 3, .int .i64 (i1 : Int)]) hS34 (by kernel_rfl) rfl rfl fun w13 hS35 => ?_
      have hS36 : St w0 w13 [Own.blk b1 (.cells #[.int .i64 3, .int .i64 (i1 : Int)] 31 (0, 0)), Own.blk b4 (.cells #[.string e2.Name, .int .i64 e2.C, .int .i64 e2.T, .int .i64 e2.D, .int .i64 e2.J, .int .i64 e2.O, .int .i64 e2.P] 102 (0, 0)), Own.blk b3 (.cells #[.int .i64 e1.Task, .int .i64 e1.At] 43 (0, 0)), Own.of (.slice Z1 m1.length cz1) 106 m1] := hS35
      refine ge_nil fun a hF => hK20 _ _ ?_ a hF
      have hS37 := hS36.nil (α := SJob) 106
      have hS38 := hS37.takeN 1
      obtain rfl := Option.some.inj h
      exact we_ret fun a hF => hQ _ _ _ (Outs.out nofun ⟨rfl, (post_ret (rs := [.tmp 8, .cell 9 31]) (ans := [.val (.int .i64 3), .val (.int .i64 (i1 : Int))]) (vs := [(.slice none 0 0), .agg #[.int .i64 3, .int .i64 (i1 : Int)]]) (l := [.loaded ⟨b1, 0, none⟩ (.int .i64 3), .loaded ⟨b1, 1, none⟩ (.int .i64 (i1 : Int))]) rfl (by kernel_rfl) ⟨hS37.cell 1 rfl rfl, hS37.cell 1 rfl rfl, trivial⟩ ⟨(.slice none 0 0), rfl, hS38⟩) a hF⟩)
    · rw [if_neg hc7] at h
      refine ge_known (t := 61) (b := decide (e3 > e2.J)) (c := false) (by kernel_rfl) (decide_eq_false hc7) ?_
      refine ge_batch [15, 16] (ans := []) (vs := [(63, .int .i64 (i1 : Int)), (62, .slice A3 l3.length c3)]) (l := []) (by kernel_rfl) trivial ?_
      rcases hx8 : l3[i1]? with _ | e4
      · rw [hx8] at h; cases h
      rw [hx8] at h
      simp only [] at h
      refine ge_index (d := 64) (ty := 0) (t := 25) (el := 3) (sz := 1) (m := l3.length) (c := c3) (x := (.tmp 62)) (y := (.tmp 63)) (A := A3) (k' := .i64) (j := (i1 : Int)) (jn := i1) (b0 := blkOf A3) (o0 := offOf A3) (by kernel_rfl) (by kernel_rfl) (by kernel_rfl) (by kernel_rfl) (by kernel_rfl) ((hS28.rd hR3).eqSome (pos_of_get hx8)) rfl (lt_of_get hx8) ?_
      refine ge_batch [18, 19, 20, 21] (ans := [.val (.int .i64 e4)]) (vs := [(68, .bool (decide (e4 < 1))), (67, .bool (decide (e4 < 1))), (66, .bool (decide (e4 < 1))), (65, .int .i64 e4)]) (l := [.loaded ⟨blkOf A3, offOf A3 + i1 * 1, none⟩ (.int .i64 e4)]) (by kernel_rfl) ⟨RdL.cell (j := 0) (hS28.rd hR3) hx8 rfl, trivial⟩ ?_
      by_cases hc8 : e4 < 1
      · rw [if_pos hc8] at h
        refine ge_known (t := 68) (b := decide (e4 < 1)) (c := true) (by kernel_rfl) (decide_eq_true hc8) ?_
        refine ge_batch [22, 23, 24, 25, 26, 27, 28, 29] (ans := []) (vs := [(76, .bool true), (75, undef), (74, undef), (73, undef), (72, undef), (71, undef), (70, undef), (69, undef)]) (l := []) (by kernel_rfl) trivial ?_
        refine ge_nil fun a hF => hK18 _ _ ?_ a hF
        refine we_true (by kernel_rfl) ?_
        refine we_seq fun K21 hK21 => ?_
        refine we_region [(0, 0), (1, 0), (2, 0), (3, 2)] rfl ?_
        refine ge_batch [0, 1, 2] (ans := []) (vs := [(8, .slice none 0 0), (78, .agg #[.int .i64 3, .int .i64 (i1 : Int)]), (77, .int .i64 (i1 : Int))]) (l := []) (by kernel_rfl) trivial ?_
        have hS39 := hS28.bring 2 rfl
        refine ge_set (b := b1) (j := 0) (cs := #[.int .i64 0, .int .i64 0]) (t := 31) (vs := [.int .i64 3, .int .i64 (i1 : Int)]) hS39 (by kernel_rfl) rfl rfl fun w14 hS40 => ?_
        have hS41 : St w0 w14 [Own.blk b1 (.cells #[.int .i64 3, .int .i64 (i1 : Int)] 31 (0, 0)), Own.blk b4 (.cells #[.string e2.Name, .int .i64 e2.C, .int .i64 e2.T, .int .i64 e2.D, .int .i64 e2.J, .int .i64 e2.O, .int .i64 e2.P] 102 (0, 0)), Own.blk b3 (.cells #[.int .i64 e1.Task, .int .i64 e1.At] 43 (0, 0)), Own.of (.slice Z1 m1.length cz1) 106 m1] := hS40
        refine ge_nil fun a hF => hK21 _ _ ?_ a hF
        have hS42 := hS41.nil (α := SJob) 106
        have hS43 := hS42.takeN 1
        obtain rfl := Option.some.inj h
        exact we_ret fun a hF => hQ _ _ _ (Outs.out nofun ⟨rfl, (post_ret (rs := [.tmp 8, .cell 9 31]) (ans := [.val (.int .i64 3), .val (.int .i64 (i1 : Int))]) (vs := [(.slice none 0 0), .agg #[.int .i64 3, .int .i64 (i1 : Int)]]) (l := [.loaded ⟨b1, 0, none⟩ (.int .i64 3), .loaded ⟨b1, 1, none⟩ (.int .i64 (i1 : Int))]) rfl (by kernel_rfl) ⟨hS42.cell 1 rfl rfl, hS42.cell 1 rfl rfl, trivial⟩ ⟨(.slice none 0 0), rfl, hS43⟩) a hF⟩)
      · rw [if_neg hc8] at h
        refine ge_known (t := 68) (b := decide (e4 < 1)) (c := false) (by kernel_rfl) (decide_eq_false hc8) ?_
        refine ge_batch [22, 23] (ans := []) (vs := [(70, .int .i64 (i1 : Int)), (69, .slice A3 l3.length c3)]) (l := []) (by kernel_rfl) trivial ?_
        refine ge_index (d := 71) (ty := 0) (t := 25) (el := 3) (sz := 1) (m := l3.length) (c := c3) (x := (.tmp 69)) (y := (.tmp 70)) (A := A3) (k' := .i64) (j := (i1 : Int)) (jn := i1) (b0 := blkOf A3) (o0 := offOf A3) (by kernel_rfl) (by kernel_rfl) (by kernel_rfl) (by kernel_rfl) (by kernel_rfl) ((hS28.rd hR3).eqSome (pos_of_get hx8)) rfl (lt_of_get hx8) ?_
        refine ge_batch [25, 26, 27, 28, 29] (ans := [.val (.int .i64 e4), .val (.int .i64 e2.C)]) (vs := [(76, .bool (decide (e4 > e2.C))), (75, .bool (decide (e4 > e2.C))), (74, .int .i64 e2.C), (73, .pointer (some ⟨b4, 1, none⟩)), (72, .int .i64 e4)]) (l := [.loaded ⟨blkOf A3, offOf A3 + i1 * 1, none⟩ (.int .i64 e4), .loaded ⟨b4, 1, none⟩ (.int .i64 e2.C)]) (by kernel_rfl) ⟨RdL.cell (j := 0) (hS28.rd hR3) hx8 rfl, hS28.cell 0 rfl rfl, trivial⟩ ?_
        refine ge_nil fun a hF => hK18 _ _ ?_ a hF
        by_cases hc9 : e4 > e2.C
        · rw [if_pos hc9] at h
          refine we_known (t := 76) (b := decide (e4 > e2.C)) (v := true) (by kernel_rfl) (decide_eq_true hc9) ?_
          refine we_true (by kernel_rfl) ?_
          refine we_seq fun K22 hK22 => ?_
          refine we_region [(0, 0), (1, 0), (2, 0), (3, 2)] rfl ?_
          refine ge_batch [0, 1, 2] (ans := []) (vs := [(8, .slice none 0 0), (78, .agg #[.int .i64 3, .int .i64 (i1 : Int)]), (77, .int .i64 (i1 : Int))]) (l := []) (by kernel_rfl) trivial ?_
          have hS44 := hS28.bring 2 rfl
          refine ge_set (b := b1) (j := 0) (cs := #[.int .i64 0, .int .i64 0]) (t := 31) (vs := [.int .i64 3, .int .i64 (i1 : Int)]) hS44 (by kernel_rfl) rfl rfl fun w15 hS45 => ?_
          have hS46 : St w0 w15 [Own.blk b1 (.cells #[.int .i64 3, .int .i64 (i1 : Int)] 31 (0, 0)), Own.blk b4 (.cells #[.string e2.Name, .int .i64 e2.C, .int .i64 e2.T, .int .i64 e2.D, .int .i64 e2.J, .int .i64 e2.O, .int .i64 e2.P] 102 (0, 0)), Own.blk b3 (.cells #[.int .i64 e1.Task, .int .i64 e1.At] 43 (0, 0)), Own.of (.slice Z1 m1.length cz1) 106 m1] := hS45
          refine ge_nil fun a hF => hK22 _ _ ?_ a hF
          have hS47 := hS46.nil (α := SJob) 106
          have hS48 := hS47.takeN 1
          obtain rfl := Option.some.inj h
          exact we_ret fun a hF => hQ _ _ _ (Outs.out nofun ⟨rfl, (post_ret (rs := [.tmp 8, .cell 9 31]) (ans := [.val (.int .i64 3), .val (.int .i64 (i1 : Int))]) (vs := [(.slice none 0 0), .agg #[.int .i64 3, .int .i64 (i1 : Int)]]) (l := [.loaded ⟨b1, 0, none⟩ (.int .i64 3), .loaded ⟨b1, 1, none⟩ (.int .i64 (i1 : Int))]) rfl (by kernel_rfl) ⟨hS47.cell 1 rfl rfl, hS47.cell 1 rfl rfl, trivial⟩ ⟨(.slice none 0 0), rfl, hS48⟩) a hF⟩)
        · rw [if_neg hc9] at h
          refine we_known (t := 76) (b := decide (e4 > e2.C)) (v := false) (by kernel_rfl) (decide_eq_false hc9) ?_
          refine we_false (by kernel_rfl) ?_
          have hS49 := hS28.bring 3 rfl
          have hS50 := hS49.bring 3 rfl
          have hS51 := hS50.bring 3 rfl
          have hS52 := hS51.bring 3 rfl
          obtain rfl := Option.some.inj h
          exact we_skip fun a hF => hQ _ _ _ (Outs.again ⟨hS52, hF.weaken ⟨by kernel_rfl, by kernel_rfl, by kernel_rfl, by kernel_rfl, by kernel_rfl, by kernel_rfl, by kernel_rfl, by kernel_rfl, by kernel_rfl, by kernel_rfl, by kernel_rfl, trivial⟩⟩)
abbrev tasks_Jobs.A1 (K : Nat) (w0 : World) (l0 : List STask) (A0 : Option Addr) (c0 : Nat) (l1 : List SCome) (A1 : Option Addr) (c1 : Nat) (l2 : List Int) (A2 : Option Addr) (c2 : Nat) (l3 : List Int) (A3 : Option Addr) (c3 : Nat) (hR0 : RdL w0 A0 l0) (hL0 : l0.length ≤ c0) (hR1 : RdL w0 A1 l1) (hL1 : l1.length ≤ c1) (hR2 : RdL w0 A2 l2) (hL2 : l2.length ≤ c2) (hR3 : RdL w0 A3 l3) (hL3 : l3.length ≤ c3) (b1 : Nat) (r1 : SFault) (b2 : Nat) (hc1 : r1.Code = 0) : ((List SJob) × Nat) → Act → World → Prop := fun (s : (List SJob) × Nat) a w => ∃ (v1 : Value), St w0 w [Own.blk b1 (.cells #[.int .i64 0, .int .i64 0] 31 (0, 0)), Own.of v1 106 s.1] ∧ Frm 106 a [(0, .slice A0 l0.length c0), (2, .slice A2 l2.length c2), (3, .slice A3 l3.length c3), (9, .pointer (some ⟨b1, 0, none⟩)), (11, v1), (35, .slice A1 l1.length c1), (36, .int .i64 (l1.length : Int)), (37, .int .i64 (s.2 : Int))]
abbrev tasks_Jobs.B1 (K : Nat) (w0 : World) (l0 : List STask) (A0 : Option Addr) (c0 : Nat) (l1 : List SCome) (A1 : Option Addr) (c1 : Nat) (l2 : List Int) (A2 : Option Addr) (c2 : Nat) (l3 : List Int) (A3 : Option Addr) (c3 : Nat) (hR0 : RdL w0 A0 l0) (hL0 : l0.length ≤ c0) (hR1 : RdL w0 A1 l1) (hL1 : l1.length ≤ c1) (hR2 : RdL w0 A2 l2) (hL2 : l2.length ≤ c2) (hR3 : RdL w0 A3 l3) (hL3 : l3.length ≤ c3) (b1 : Nat) (r1 : SFault) (b2 : Nat) (hc1 : r1.Code = 0) : ((List SJob) ⊕ ((List SJob) × SFault)) → Exit → Act → World → Prop := Exits 0 (fun (s : (List SJob)) a w => ∃ (v2 : Value), St w0 w [Own.blk b1 (.cells #[.int .i64 0, .int .i64 0] 31 (0, 0)), Own.of v2 106 s] ∧ Frm 106 a [(9, .pointer (some ⟨b1, 0, none⟩)), (11, v2)]) (Rets Try.prog Try.f12 (tasks_Jobs.Post w0))
theorem tasks_Jobs_r1 (K : Nat) (w0 : World) (l0 : List STask) (A0 : Option Addr) (c0 : Nat) (l1 : List SCome) (A1 : Option Addr) (c1 : Nat) (l2 : List Int) (A2 : Option Addr) (c2 : Nat) (l3 : List Int) (A3 : Option Addr) (c3 : Nat) (hR0 : RdL w0 A0 l0) (hL0 : l0.length ≤ c0) (hR1 : RdL w0 A1 l1) (hL1 : l1.length ≤ c1) (hR2 : RdL w0 A2 l2) (hL2 : l2.length ≤ c2) (hR3 : RdL w0 A3 l3) (hL3 : l3.length ≤ c3) (b1 : Nat) (r1 : SFault) (b2 : Nat) (hc1 : r1.Code = 0) (s : (List SJob) × Nat) (o : ((List SJob) × Nat) ⊕ ((List SJob) ⊕ ((List SJob) × SFault))) (h : tasks_Jobs.r1 l0 l1 l2 l3 s = some o) (a : Act) (w : World) (hA : tasks_Jobs.A1 K w0 l0 A0 c0 l1 A1 c1 l2 A2 c2 l3 A3 c3 hR0 hL0 hR1 hL1 hR2 hL2 hR3 hL3 b1 r1 b2 hc1 s a w) (Q : Exit → Act → World → Prop) (hQ : ∀ x a w, Outs (tasks_Jobs.A1 K w0 l0 A0 c0 l1 A1 c1 l2 A2 c2 l3 A3 c3 hR0 hL0 hR1 hL1 hR2 hL2 hR3 hL3 b1 r1 b2 hc1) (tasks_Jobs.B1 K w0 l0 A0 c0 l1 A1 c1 l2 A2 c2 l3 A3 c3 hR0 hL0 hR1 hL1 hR2 hL2 hR3 hL3 b1 r1 b2 hc1) o x a w → Q x a w) : (subF Try.f12 [1, 1, 1, 1, 0, 1, 0, 0]).wp Try.prog Q a w := by
  obtain ⟨m1, i1⟩ := s
  obtain ⟨v1, hS, hF⟩ := hA
  replace hS : St w0 w [Own.blk b1 (.cells #[.int .i64 0, .int .i64 0] 31 (0, 0)), Own.of v1 106 m1] := hS
  simp only [tasks_Jobs.r1] at h
  refine (?_ : WE Try.prog 106 (subF Try.f12 [1, 1, 1, 1, 0, 1, 0, 0]) Q [(0, .slice A0 l0.length c0), (2, .slice A2 l2.length c2), (3, .slice A3 l3.length c3), (9, .pointer (some ⟨b1, 0, none⟩)), (11, v1), (35, .slice A1 l1.length c1), (36, .int .i64 (l1.length : Int)), (37, .int .i64 (i1 : Int))] w) a hF
  clear hF a
  refine we_seq fun K12 hK12 => ?_
  refine we_region [(0, 0)] rfl ?_
  refine ge_batch [0] (ans := []) (vs := [(38, .bool (decide ((i1 : Int) < (l1.length : Int))))]) (l := []) (by kernel_rfl) trivial ?_
  refine ge_nil fun a hF => hK12 _ _ ?_ a hF
  refine we_seq fun K13 hK13 => ?_
  by_cases hc4 : (i1 : Int) < (l1.length : Int)
  · rw [if_pos hc4] at h
    refine we_known (t := 38) (b := decide ((i1 : Int) < (l1.length : Int))) (v := true) (by kernel_rfl) (decide_eq_true hc4) ?_
    refine we_true (by kernel_rfl) ?_
    refine we_skip fun a hF => hK13 _ _ ?_ a hF
    refine we_seq fun K14 hK14 => ?_
    refine we_block ?_
    refine we_seq fun K15 hK15 => ?_
    refine we_region [(0, 0), (1, 0), (2, 0), (3, 1), (4, 0), (5, 2)] rfl ?_
    refine ge_batch [0] (ans := []) (vs := [(39, .int .i64 (i1 : Int))]) (l := []) (by kernel_rfl) trivial ?_
    rcases hx3 : l1[i1]? with _ | e1
    · rw [hx3] at h; cases h
    rw [hx3] at h
    simp only [] at h
    refine ge_index (d := 40) (ty := 0) (t := 24) (el := 43) (sz := 2) (m := l1.length) (c := c1) (x := (.tmp 35)) (y := (.tmp 37)) (A := A1) (k' := .i64) (j := (i1 : Int)) (jn := i1) (b0 := blkOf A1) (o0 := offOf A1) (by kernel_rfl) (by kernel_rfl) (by kernel_rfl) (by kernel_rfl) (by kernel_rfl) ((hS.rd hR1).eqSome (pos_of_get hx3)) rfl (lt_of_get hx3) ?_
    refine ge_batch [2] (ans := [.val (.int .i64 e1.Task), .val (.int .i64 e1.At)]) (vs := [(41, .agg #[.int .i64 e1.Task, .int .i64 e1.At])]) (l := [.loaded ⟨blkOf A1, offOf A1 + i1 * 2, none⟩ (.int .i64 e1.Task), .loaded ⟨blkOf A1, offOf A1 + i1 * 2 + 1, none⟩ (.int .i64 e1.At)]) (by kernel_rfl) ⟨RdL.cell (j := 0) (hS.rd hR1) hx3 rfl, RdL.cell (j := 1) (hS.rd hR1) hx3 rfl, trivial⟩ ?_
    refine ge_new (d := some 13) (o := .cells #[.int .i64 0, .int .i64 0] 43) (v := fun b => .pointer (some ⟨b, 0, none⟩)) hS (fun b => by kernel_rfl) fun b3 w8 hx4 hS22 => ?_
    refine ge_batch [4] (ans := []) (vs := [(12, .int .i64 (i1 : Int))]) (l := []) (by kernel_rfl) trivial ?_
    refine ge_set (b := b3) (j := 0) (cs := #[.int .i64 0, .int .i64 0]) (t := 43) (vs := [.int .i64 e1.Task, .int .i64 e1.At]) hS22 (by kernel_rfl) rfl rfl fun w9 hS23 => ?_
    have hS24 : St w0 w9 [Own.blk b3 (.cells #[.int .i64 e1.Task, .int .i64 e1.At] 43 (0, 0)), Own.blk b1 (.cells #[.int .i64 0, .int .i64 0] 31 (0, 0)), Own.of v1 106 m1] := hS23
    refine ge_nil fun a hF => hK15 _ _ ?_ a hF
    refine we_seq fun K16 hK16 => ?_
    refine we_region [(0, 0), (1, 0), (2, 0), (3, 0), (4, 0), (5, 1), (6, 2)] rfl ?_
    refine ge_batch [0, 1, 2] (ans := [.val (.int .i64 e1.Task)]) (vs := [(44, .int .i64 e1.Task), (43, .pointer (some ⟨b3, 0, none⟩)), (42, .slice A0 l0.length c0)]) (l := [.loaded ⟨b3, 0, none⟩ (.int .i64 e1.Task)]) (by kernel_rfl) ⟨hS24.cell 0 rfl rfl, trivial⟩ ?_
    by_cases hc5 : 0 ≤ e1.Task
    · rw [if_pos hc5] at h
      rcases hx5 : l0[(e1.Task).toNat]? with _ | e2
      · rw [hx5] at h; cases h
      rw [hx5] at h
      simp only [] at h
      refine ge_index (d := 45) (ty := 0) (t := 22) (el := 102) (sz := 7) (m := l0.length) (c := c0) (x := (.tmp 42)) (y := (.tmp 44)) (A := A0) (k' := .i64) (j := e1.Task) (jn := ((e1.Task).toNat)) (b0 := blkOf A0) (o0 := offOf A0) (by kernel_rfl) (by kernel_rfl) (by kernel_rfl) (by kernel_rfl) (by kernel_rfl) ((hS24.rd hR0).eqSome (pos_of_get hx5)) (Int.toNat_of_nonneg hc5).symm (lt_of_get hx5) ?_
      refine ge_batch [4] (ans := [.val (.string e2.Name), .val (.int .i64 e2.C), .val (.int .i64 e2.T), .val (.int .i64 e2.D), .val (.int .i64 e2.J), .val (.int .i64 e2.O), .val (.int .i64 e2.P)]) (vs := [(46, .agg #[.string e2.Name, .int .i64 e2.C, .int .i64 e2.T, .int .i64 e2.D, .int .i64 e2.J, .int .i64 e2.O, .int .i64 e2.P])]) (l := [.loaded ⟨blkOf A0, offOf A0 + ((e1.Task).toNat) * 7, none⟩ (.string e2.Name), .loaded ⟨blkOf A0, offOf A0 + ((e1.Task).toNat) * 7 + 1, none⟩ (.int .i64 e2.C), .loaded ⟨blkOf A0, offOf A0 + ((e1.Task).toNat) * 7 + 2, none⟩ (.int .i64 e2.T), .loaded ⟨blkOf A0, offOf A0 + ((e1.Task).toNat) * 7 + 3, none⟩ (.int .i64 e2.D), .loaded ⟨blkOf A0, offOf A0 + ((e1.Task).toNat) * 7 + 4, none⟩ (.int .i64 e2.J), .loaded ⟨blkOf A0, offOf A0 + ((e1.Task).toNat) * 7 + 5, none⟩ (.int .i64 e2.O), .loaded ⟨blkOf A0, offOf A0 + ((e1.Task).toNat) * 7 + 6, none⟩ (.int .i64 e2.P)]) (by kernel_rfl) ⟨RdL.cell (j := 0) (hS24.rd hR0) hx5 rfl, RdL.cell (j := 1) (hS24.rd hR0) hx5 rfl, RdL.cell (j := 2) (hS24.rd hR0) hx5 rfl, RdL.cell (j := 3) (hS24.rd hR0) hx5 rfl, RdL.cell (j := 4) (hS24.rd hR0) hx5 rfl, RdL.cell (j := 5) (hS24.rd hR0) hx5 rfl, RdL.cell (j := 6) (hS24.rd hR0) hx5 rfl, trivial⟩ ?_
      refine ge_new (d := some 14) (o := .cells #[.string (⟨#[]⟩), .int .i64 0, .int .i64 0, .int .i64 0, .int .i64 0, .int .i64 0, .int .i64 0] 102) (v := fun b => .pointer (some ⟨b, 0, none⟩)) hS24 (fun b => by kernel_rfl) fun b4 w10 hx6 hS25 => ?_
      refine ge_set (b := b4) (j := 0) (cs := #[.string (⟨#[]⟩), .int .i64 0, .int .i64 0, .int .i64 0, .int .i64 0, .int .i64 0, .int .i64 0]) (t := 102) (vs := [.string e2.Name, .int .i64 e2.C, .int .i64 e2.T, .int .i64 e2.D, .int .i64 e2.J, .int .i64 e2.O, .int .i64 e2.P]) hS25 (by kernel_rfl) rfl rfl fun w11 hS26 => ?_
      have hS27 : St w0 w11 [Own.blk b4 (.cells #[.string e2.Name, .int .i64 e2.C, .int .i64 e2.T, .int .i64 e2.D, .int .i64 e2.J, .int .i64 e2.O, .int .i64 e2.P] 102 (0, 0)), Own.blk b3 (.cells #[.int .i64 e1.Task, .int .i64 e1.At] 43 (0, 0)), Own.blk b1 (.cells #[.int .i64 0, .int .i64 0] 31 (0, 0)), Own.of v1 106 m1] := hS26
      refine ge_nil fun a hF => hK16 _ _ ?_ a hF
      refine we_seq fun K17 hK17 => ?_
      obtain ⟨Z1, cz1, rfl⟩ := hS27.open 3 rfl
      rcases hq3 : tasks_Jobs.p2 l2 l3 i1 e2 with _ | (_ | rr1)
      · rw [hq3] at h; cases h
      · rw [hq3] at h
        simp only [] at h
        refine we_keep (e' := [(0, .slice A0 l0.length c0), (2, .slice A2 l2.length c2), (3, .slice A3 l3.length c3), (9, .pointer (some ⟨b1, 0, none⟩)), (11, (.slice Z1 m1.length cz1)), (12, .int .i64 (i1 : Int)), (13, .pointer (some ⟨b3, 0, none⟩)), (14, .pointer (some ⟨b4, 0, none⟩)), (35, .slice A1 l1.length c1), (36, .int .i64 (l1.length : Int)), (37, .int .i64 (i1 : Int)), (38, .bool true), (39, .int .i64 (i1 : Int)), (40, .pointer (some ⟨blkOf A1, offOf A1 + i1 * 2, none⟩)), (41, .agg #[.int .i64 e1.Task, .int .i64 e1.At]), (42, .slice A0 l0.length c0), (43, .pointer (some ⟨b3, 0, none⟩)), (44, .int .i64 e1.Task), (45, .pointer (some ⟨blkOf A0, offOf A0 + (e1.Task).toNat * 7, none⟩)), (46, .agg #[.string e2.Name, .int .i64 e2.C, .int .i64 e2.T, .int .i64 e2.D, .int .i64 e2.J, .int .i64 e2.O, .int .i64 e2.P])]) ⟨by kernel_rfl, by kernel_rfl, by kernel_rfl, by kernel_rfl, by kernel_rfl, by kernel_rfl, by kernel_rfl, by kernel_rfl, by kernel_rfl, by kernel_rfl, by kernel_rfl, by kernel_rfl, by kernel_rfl, by kernel_rfl, by kernel_rfl, by kernel_rfl, by kernel_rfl, by kernel_rfl, by kernel_rfl, by kernel_rfl, trivial⟩ (tasks_Jobs_p2 K w0 l0 A0 c0 l1 A1 c1 l2 A2 c2 l3 A3 c3 hR0 hL0 hR1 hL1 hR2 hL2 hR3 hL3 b1 r1 b2 hc1 m1 i1 hc4 e1 hx3 b3 hc5 e2 hx5 b4 Z1 cz1 _ hq3 _ hS27 _ ?_)
        rintro _ a w16 ⟨rfl, hS53, hF⟩
        replace hS53 : St w0 w16 [Own.blk b4 (.cells #[.string e2.Name, .int .i64 e2.C, .int .i64 e2.T, .int .i64 e2.D, .int .i64 e2.J, .int .i64 e2.O, .int .i64 e2.P] 102 (0, 0)), Own.blk b3 (.cells #[.int .i64 e1.Task, .int .i64 e1.At] 43 (0, 0)), Own.blk b1 (.cells #[.int .i64 0, .int .i64 0] 31 (0, 0)), Own.of (.slice Z1 m1.length cz1) 106 m1] := hS53
        refine hK17 [(0, .slice A0 l0.length c0), (2, .slice A2 l2.length c2), (3, .slice A3 l3.length c3), (9, .pointer (some ⟨b1, 0, none⟩)), (11, (.slice Z1 m1.length cz1)), (12, .int .i64 (i1 : Int)), (13, .pointer (some ⟨b3, 0, none⟩)), (14, .pointer (some ⟨b4, 0, none⟩)), (35, .slice A1 l1.length c1), (36, .int .i64 (l1.length : Int)), (37, .int .i64 (i1 : Int))] w16 ?_ a hF
        refine we_orders2 (by kernel_rfl) [(2, [⟨b3, 0, none⟩]), (4, [⟨b3, 1, none⟩]), (8, [⟨blkOf A2, offOf A2 + i1 * 1, none⟩]), (13, [⟨blkOf A3, offOf A3 + i1 * 1, none⟩]), (15, [⟨b3, 1, none⟩]), (17, [⟨b4, 3, none⟩]), (20, [⟨b4, 6, none⟩])] (.vals [0] (.vals [1] (.vals [2] (.vals [3] (.vals [4] (.vals [5] (.vals [6] (.vals [7] (.vals [8] (.vals [9] (.vals [10] (.vals [11] (.vals [12] (.vals [13] (.vals [14] (.vals [15] (.vals [16] (.vals [17] (.vals [18] (.vals [19] (.vals [20] (.vals [21] (.alt 22 1 (.alt 23 2 (.vals [24] .fin) .nomore) .nomore))))))))))))))))))))))) (by kernel_rfl) ?_
        have hS54 := hS53.drew
        refine go2_batch [0, 1] (ans := []) (vs := [(80, .pointer (some ⟨b3, 0, none⟩)), (79, (.slice Z1 m1.length cz1))]) (l := []) (by kernel_rfl) trivial mem_nil ?_
        refine go2_batch [2] (ans := [.val (.int .i64 e1.Task)]) (vs := [(81, .int .i64 e1.Task)]) (l := [.loaded ⟨b3, 0, none⟩ (.int .i64 e1.Task)]) (by kernel_rfl) ⟨hS54.cell 1 rfl rfl, trivial⟩ (mem_one (by kernel_rfl)) ?_
        refine go2_batch [3] (ans := []) (vs := [(82, .pointer (some ⟨b3, 1, none⟩))]) (l := []) (by kernel_rfl) trivial mem_nil ?_
        refine go2_batch [4] (ans := [.val (.int .i64 e1.At)]) (vs := [(83, .int .i64 e1.At)]) (l := [.loaded ⟨b3, 1, none⟩ (.int .i64 e1.At)]) (by kernel_rfl) ⟨hS54.cell 1 rfl rfl, trivial⟩ (mem_one (by kernel_rfl)) ?_
        refine go2_batch [5, 6] (ans := []) (vs := [(85, .int .i64 (i1 : Int)), (84, .slice A2 l2.length c2)]) (l := []) (by kernel_rfl) trivial mem_nil ?_
        rcases hx9 : l2[i1]? with _ | e5
        · rw [hx9] at h; cases h
        rw [hx9] at h
        simp only [] at h
        refine go2_index (d := 86) (ty := 0) (t := 25) (el := 3) (sz := 1) (m := l2.length) (c := c2) (x := (.tmp 84)) (y := (.tmp 85)) (A := A2) (k' := .i64) (j := (i1 : Int)) (jn := i1) (b0 := blkOf A2) (o0 := offOf A2) (by kernel_rfl) (by kernel_rfl) (by kernel_rfl) (by kernel_rfl) (by kernel_rfl) ((hS54.rd hR2).eqSome (pos_of_get hx9)) rfl (lt_of_get hx9) ?_
        refine go2_batch [8] (ans := [.val (.int .i64 e5)]) (vs := [(87, .int .i64 e5)]) (l := [.loaded ⟨blkOf A2, offOf A2 + i1 * 1, none⟩ (.int .i64 e5)]) (by kernel_rfl) ⟨RdL.cell (j := 0) (hS54.rd hR2) hx9 rfl, trivial⟩ (mem_one (by kernel_rfl)) ?_
        refine go2_batch [9, 10, 11] (ans := []) (vs := [(90, .int .i64 (i1 : Int)), (89, .slice A3 l3.length c3), (88, .int .i64 (IntKind.i64.wrap (e1.At + e5)))]) (l := []) (by kernel_rfl) trivial mem_nil ?_
        rcases hx10 : l3[i1]? with _ | e6
        · rw [hx10] at h; cases h
        rw [hx10] at h
        simp only [] at h
        refine go2_index (d := 91) (ty := 0) (t := 25) (el := 3) (sz := 1) (m := l3.length) (c := c3) (x := (.tmp 89)) (y := (.tmp 90)) (A := A3) (k' := .i64) (j := (i1 : Int)) (jn := i1) (b0 := blkOf A3) (o0 := offOf A3) (by kernel_rfl) (by kernel_rfl) (by kernel_rfl) (by kernel_rfl) (by kernel_rfl) ((hS54.rd hR3).eqSome (pos_of_get hx10)) rfl (lt_of_get hx10) ?_
        refine go2_batch [13] (ans := [.val (.int .i64 e6)]) (vs := [(92, .int .i64 e6)]) (l := [.loaded ⟨blkOf A3, offOf A3 + i1 * 1, none⟩ (.int .i64 e6)]) (by kernel_rfl) ⟨RdL.cell (j := 0) (hS54.rd hR3) hx10 rfl, trivial⟩ (mem_one (by kernel_rfl)) ?_
        refine go2_batch [14] (ans := []) (vs := [(93, .pointer (some ⟨b3, 1, none⟩))]) (l := []) (by kernel_rfl) trivial mem_nil ?_
        refine go2_batch [15] (ans := [.val (.int .i64 e1.At)]) (vs := [(94, .int .i64 e1.At)]) (l := [.loaded ⟨b3, 1, none⟩ (.int .i64 e1.At)]) (by kernel_rfl) ⟨hS54.cell 1 rfl rfl, trivial⟩ (mem_one (by kernel_rfl)) ?_
        refine go2_batch [16] (ans := []) (vs := [(95, .pointer (some ⟨b4, 3, none⟩))]) (l := []) (by kernel_rfl) trivial mem_nil ?_
        refine go2_batch [17] (ans := [.val (.int .i64 e2.D)]) (vs := [(96, .int .i64 e2.D)]) (l := [.loaded ⟨b4, 3, none⟩ (.int .i64 e2.D)]) (by kernel_rfl) ⟨hS54.cell 0 rfl rfl, trivial⟩ (mem_one (by kernel_rfl)) ?_
        refine go2_batch [18, 19] (ans := []) (vs := [(98, .pointer (some ⟨b4, 6, none⟩)), (97, .int .i64 (IntKind.i64.wrap (e1.At + e2.D)))]) (l := []) (by kernel_rfl) trivial mem_nil ?_
        refine go2_batch [20] (ans := [.val (.int .i64 e2.P)]) (vs := [(99, .int .i64 e2.P)]) (l := [.loaded ⟨b4, 6, none⟩ (.int .i64 e2.P)]) (by kernel_rfl) ⟨hS54.cell 0 rfl rfl, trivial⟩ (mem_one (by kernel_rfl)) ?_
        refine go2_batch [21] (ans := []) (vs := [(100, .agg #[.int .i64 e1.Task, .int .i64 (IntKind.i64.wrap (e1.At + e5)), .int .i64 e6, .int .i64 (IntKind.i64.wrap (e1.At + e2.D)), .int .i64 e2.P])]) (l := []) (by kernel_rfl) trivial mem_nil ?_
        refine go_alt2 (fun KK hKK => ?_) ?_
        · refine ge_one2 ?_
          refine ge_new (d := some 101) (o := .cells #[.int .i64 e1.Task, .int .i64 (IntKind.i64.wrap (e1.At + e5)), .int .i64 e6, .int .i64 (IntKind.i64.wrap (e1.At + e2.D)), .int .i64 e2.P] 106) (v := fun b => .slice (some ⟨b, 0, none⟩) 1 1) hS54 (fun b => by kernel_rfl) fun b5 w17 hx11 hS55 => ?_
          refine ge_nil fun a hF => hKK _ _ (RS.of2 (l := [.loaded ⟨b3, 0, none⟩ (.int .i64 e1.Task), .loaded ⟨b3, 1, none⟩ (.int .i64 e1.At), .loaded ⟨blkOf A2, offOf A2 + i1 * 1, none⟩ (.int .i64 e5), .loaded ⟨blkOf A3, offOf A3 + i1 * 1, none⟩ (.int .i64 e6), .loaded ⟨b3, 1, none⟩ (.int .i64 e1.At), .loaded ⟨b4, 3, none⟩ (.int .i64 e2.D), .loaded ⟨b4, 6, none⟩ (.int .i64 e2.P)]) (by kernel_rfl) ⟨hS54.cell 1 rfl rfl, hS54.cell 1 rfl rfl, RdL.cell (j := 0) (hS54.rd hR2) hx9 rfl, RdL.cell (j := 0) (hS54.rd hR3) hx10 rfl, hS54.cell 1 rfl rfl, hS54.cell 0 rfl rfl, hS54.cell 0 rfl rfl, trivial⟩ ⟨hS55.cell 2 rfl rfl, hS55.cell 2 rfl rfl, RdL.cell (j := 0) (hS55.rd hR2) hx9 rfl, RdL.cell (j := 0) (hS55.rd hR3) hx10 rfl, hS55.cell 2 rfl rfl, hS55.cell 1 rfl rfl, hS55.cell 1 rfl rfl, trivial⟩) ?_ a hF
          refine go_alt2 (fun KK hKK => ?_) ?_
          · have hS56 := hS55.bring 4 rfl
            by_cases hc10 : m1.length < 3518437208883
            · rw [if_pos hc10] at h
              refine ge_append (α := SJob) (m := 0) (d := 102) (t := 28) (el := 106) (bytes := 40) (c1 := 1) (b1 := b5) (x := (.tmp 79)) (y := (.tmp 101)) (ty := 28) (v := (.slice Z1 m1.length cz1)) (z := .agg #[.int .i64 0, .int .i64 0, .int .i64 0, .int .i64 0, .int .i64 0]) (l := m1) (u := (⟨e1.Task, IntKind.i64.wrap (e1.At + e5), e6, IntKind.i64.wrap (e1.At + e2.D), e2.P⟩ : SJob)) (by kernel_rfl) (by kernel_rfl) (by kernel_rfl) (by kernel_rfl) (by kernel_rfl) rfl hS56 rfl (by omega) fun v3 w18 hS57 => ?_
              refine ge_nil fun a hF => hKK _ _ (RS.of2 (l := [.loaded ⟨b3, 0, none⟩ (.int .i64 e1.Task), .loaded ⟨b3, 1, none⟩ (.int .i64 e1.At), .loaded ⟨blkOf A2, offOf A2 + i1 * 1, none⟩ (.int .i64 e5), .loaded ⟨blkOf A3, offOf A3 + i1 * 1, none⟩ (.int .i64 e6), .loaded ⟨b3, 1, none⟩ (.int .i64 e1.At), .loaded ⟨b4, 3, none⟩ (.int .i64 e2.D), .loaded ⟨b4, 6, none⟩ (.int .i64 e2.P)]) (by kernel_rfl) ⟨hS55.cell 2 rfl rfl, hS55.cell 2 rfl rfl, RdL.cell (j := 0) (hS55.rd hR2) hx9 rfl, RdL.cell (j := 0) (hS55.rd hR3) hx10 rfl, hS55.cell 2 rfl rfl, hS55.cell 1 rfl rfl, hS55.cell 1 rfl rfl, trivial⟩ ⟨hS57.cell 2 rfl rfl, hS57.cell 2 rfl rfl, RdL.cell (j := 0) (hS57.rd hR2) hx9 rfl, RdL.cell (j := 0) (hS57.rd hR3) hx10 rfl, hS57.cell 2 rfl rfl, hS57.cell 1 rfl rfl, hS57.cell 1 rfl rfl, trivial⟩) ?_ a hF
              refine go2_batch [24] (ans := []) (vs := [(11, v3)]) (l := []) (by kernel_rfl) trivial mem_nil ?_
              refine go_fin2 fun a hF => hK14 _ _ ?_ a hF
              refine we_region [(0, 0), (1, 0)] rfl ?_
              refine ge_addn (d := 103) (ty := 3) (x := (.tmp 37)) (y := (.const (.int .i64 1))) (t := 3) (t2 := 3) (k := .i64) (m := i1) (by kernel_rfl) (by kernel_rfl) (by kernel_rfl) (by have h0 := hR1.small; omega) ?_
              refine ge_batch [1] (ans := []) (vs := [(37, .int .i64 ((i1 + 1 : Nat) : Int))]) (l := []) (by kernel_rfl) trivial ?_
              have hS58 := hS57.bring 3 rfl
              have hS59 := hS58.takeN 2
              obtain rfl := Option.some.inj h
              exact ge_nil fun a hF => hQ _ _ _ (Outs.again ⟨v3, hS59, hF.weaken ⟨by kernel_rfl, by kernel_rfl, by kernel_rfl, by kernel_rfl, by kernel_rfl, by kernel_rfl, by kernel_rfl, by kernel_rfl, trivial⟩⟩)
            · rw [if_neg hc10] at h
              cases h
          exact go_nomore2
        exact go_nomore2
      · rw [hq3] at h
        simp only [] at h
        refine we_keep (e' := [(0, .slice A0 l0.length c0), (2, .slice A2 l2.length c2), (3, .slice A3 l3.length c3), (9, .pointer (some ⟨b1, 0, none⟩)), (11, (.slice Z1 m1.length cz1)), (12, .int .i64 (i1 : Int)), (13, .pointer (some ⟨b3, 0, none⟩)), (14, .pointer (some ⟨b4, 0, none⟩)), (35, .slice A1 l1.length c1), (36, .int .i64 (l1.length : Int)), (37, .int .i64 (i1 : Int)), (38, .bool true), (39, .int .i64 (i1 : Int)), (40, .pointer (some ⟨blkOf A1, offOf A1 + i1 * 2, none⟩)), (41, .agg #[.int .i64 e1.Task, .int .i64 e1.At]), (42, .slice A0 l0.length c0), (43, .pointer (some ⟨b3, 0, none⟩)), (44, .int .i64 e1.Task), (45, .pointer (some ⟨blkOf A0, offOf A0 + (e1.Task).toNat * 7, none⟩)), (46, .agg #[.string e2.Name, .int .i64 e2.C, .int .i64 e2.T, .int .i64 e2.D, .int .i64 e2.J, .int .i64 e2.O, .int .i64 e2.P])]) ⟨by kernel_rfl, by kernel_rfl, by kernel_rfl, by kernel_rfl, by kernel_rfl, by kernel_rfl, by kernel_rfl, by kernel_rfl, by kernel_rfl, by kernel_rfl, by kernel_rfl, by kernel_rfl, by kernel_rfl, by kernel_rfl, by kernel_rfl, by kernel_rfl, by kernel_rfl, by kernel_rfl, by kernel_rfl, by kernel_rfl, trivial⟩ (tasks_Jobs_p2 K w0 l0 A0 c0 l1 A1 c1 l2 A2 c2 l3 A3 c3 hR0 hL0 hR1 hL1 hR2 hL2 hR3 hL3 b1 r1 b2 hc1 m1 i1 hc4 e1 hx3 b3 hc5 e2 hx5 b4 Z1 cz1 _ hq3 _ hS27 _ ?_)
        rintro _ a w1 ⟨_, rfl, hb⟩
        obtain rfl := Option.some.inj h
        exact hQ _ _ _ (Outs.out nofun (Exits.on ⟨rfl, hb⟩))
    · rw [if_neg hc5] at h
      cases h
  · rw [if_neg hc4] at h
    refine we_known (t := 38) (b := decide ((i1 : Int) < (l1.length : Int))) (v := false) (by kernel_rfl) (decide_eq_false hc4) ?_
    refine we_false (by kernel_rfl) ?_
    have hS60 := hS.bring 1 rfl
    have hS61 := hS60.bring 1 rfl
    obtain rfl := Option.some.inj h
    exact we_exit fun a hF => hQ _ _ _ (Outs.out nofun (Exits.here ⟨v1, hS61, hF.weaken ⟨by kernel_rfl, by kernel_rfl, trivial⟩⟩))
theorem tasks_Jobs_ok (K : Nat) (l0 : List STask) (A0 : Option Addr) (c0 : Nat) (l1 : List SCome) (A1 : Option Addr) (c1 : Nat) (l2 : List Int) (A2 : Option Addr) (c2 : Nat) (l3 : List Int) (A3 : Option Addr) (c3 : Nat) (w0 : World) (hR0 : RdL w0 A0 l0) (hL0 : l0.length ≤ c0) (hR1 : RdL w0 A1 l1) (hL1 : l1.length ≤ c1) (hR2 : RdL w0 A2 l2) (hL2 : l2.length ≤ c2) (hR3 : RdL w0 A3 l3) (hL3 : l3.length ≤ c3) (r : (List SJob) × SFault) (h : tasks_Jobs.f K l0 l1 l2 l3 = some r) :
    Calls Try.prog 12 #[.slice A0 l0.length c0, .slice A1 l1.length c1, .slice A2 l2.length c2, .slice A3 l3.length c3] w0 (tasks_Jobs.Post w0 r) := by
  have hS := St.start w0
  unfold tasks_Jobs.f at h
  refine calls_enter (n := 106) (args := [.slice A0 l0.length c0, .slice A1 l1.length c1, .slice A2 l2.length c2, .slice A3 l3.length c3]) (fn := Try.f12) rfl rfl rfl rfl ?_
  show WE _ _ _ _ [(0, .slice A0 l0.length c0), (1, .slice A1 l1.length c1), (2, .slice A2 l2.length c2), (3, .slice A3 l3.length c3)] _
  refine we_seq fun K1 hK1 => ?_
  refine we_region [(0, 0), (1, 1)] rfl ?_
  refine ge_batch [0] (ans := []) (vs := [(8, .slice none 0 0)]) (l := []) (by kernel_rfl) trivial ?_
  refine ge_new (d := some 9) (o := .cells #[.int .i64 0, .int .i64 0] 31) (v := fun b => .pointer (some ⟨b, 0, none⟩)) hS (fun b => by kernel_rfl) fun b1 w1 hx1 hS1 => ?_
  refine ge_nil fun a hF => hK1 _ _ ?_ a hF
  refine we_seq fun K2 hK2 => ?_
  refine we_seq fun K3 hK3 => ?_
  refine we_region [(0, 0), (1, 0), (2, 1), (3, 1), (4, 2)] rfl ?_
  rcases hq1 : tasks_Legal.f K l0 l1 with _ | r1
  · rw [hq1] at h; cases h
  rw [hq1] at h
  simp only [] at h
  refine ge_batch [0, 1] (ans := []) (vs := [(16, .slice A1 l1.length c1), (15, .slice A0 l0.length c0)]) (l := []) (by kernel_rfl) trivial ?_
  refine ge_call (d := some 17) (f := 51) (args := #[.slice A0 l0.length c0, .slice A1 l1.length c1]) (by kernel_rfl) (tasks_Legal_ok K l0 A0 c0 l1 A1 c1 _ (hS1.rd hR0) hL0 (hS1.rd hR1) hL1 _ hq1) ?_
  rintro _ w2 ⟨rfl, hS2⟩
  refine ⟨_, rfl, hS2.below, ?_⟩
  have hS3 := hS1.call hS2
  refine ge_new (d := some 10) (o := .cells #[.int .i64 0, .int .i64 0] 31) (v := fun b => .pointer (some ⟨b, 0, none⟩)) hS3 (fun b => by kernel_rfl) fun b2 w3 hx2 hS4 => ?_
  refine ge_set (b := b2) (j := 0) (cs := #[.int .i64 0, .int .i64 0]) (t := 31) (vs := [.int .i64 r1.Code, .int .i64 r1.At]) hS4 (by kernel_rfl) rfl rfl fun w4 hS5 => ?_
  have hS6 : St w0 w4 [Own.blk b2 (.cells #[.int .i64 r1.Code, .int .i64 r1.At] 31 (0, 0)), Own.blk b1 (.cells #[.int .i64 0, .int .i64 0] 31 (0, 0))] := hS5
  refine ge_nil fun a hF => hK3 _ _ ?_ a hF
  refine we_seq fun K4 hK4 => ?_
  refine we_region [(0, 0), (1, 0), (2, 0)] rfl ?_
  refine ge_batch [0, 1, 2] (ans := [.val (.int .i64 r1.Code)]) (vs := [(20, .bool (r1.Code != 0)), (19, .int .i64 r1.Code), (18, .pointer (some ⟨b2, 0, none⟩))]) (l := [.loaded ⟨b2, 0, none⟩ (.int .i64 r1.Code)]) (by kernel_rfl) ⟨hS6.cell 0 rfl rfl, trivial⟩ ?_
  refine ge_nil fun a hF => hK4 _ _ ?_ a hF
  by_cases hc1 : r1.Code = 0
  · rw [if_pos hc1] at h
    refine we_known (t := 20) (b := (r1.Code != 0)) (v := false) (by kernel_rfl) (bne_eq_false_iff_eq.2 hc1) ?_
    refine we_false (by kernel_rfl) ?_
    refine we_skip fun a hF => hK2 _ _ ?_ a hF
    refine we_seq fun K5 hK5 => ?_
    rcases hq2 : tasks_Jobs.p0 l1 l2 l3 with _ | (_ | rr3)
    · rw [hq2] at h; cases h
    · rw [hq2] at h
      simp only [] at h
      refine we_keep (e' := [(0, .slice A0 l0.length c0), (1, .slice A1 l1.length c1), (2, .slice A2 l2.length c2), (3, .slice A3 l3.length c3), (8, .slice none 0 0), (9, .pointer (some ⟨b1, 0, none⟩)), (10, .pointer (some ⟨b2, 0, none⟩)), (15, .slice A0 l0.length c0), (16, .slice A1 l1.length c1), (17, .agg #[.int .i64 r1.Code, .int .i64 r1.At]), (18, .pointer (some ⟨b2, 0, none⟩)), (19, .int .i64 r1.Code), (20, .bool false)]) ⟨by kernel_rfl, by kernel_rfl, by kernel_rfl, by kernel_rfl, by kernel_rfl, by kernel_rfl, by kernel_rfl, by kernel_rfl, by kernel_rfl, by kernel_rfl, by kernel_rfl, by kernel_rfl, by kernel_rfl, trivial⟩ (tasks_Jobs_p0 K w0 l0 A0 c0 l1 A1 c1 l2 A2 c2 l3 A3 c3 hR0 hL0 hR1 hL1 hR2 hL2 hR3 hL3 b1 r1 b2 hc1 _ hq2 _ hS6 _ ?_)
      rintro _ a w7 ⟨rfl, hS19, hF⟩
      replace hS19 : St w0 w7 [Own.blk b1 (.cells #[.int .i64 0, .int .i64 0] 31 (0, 0))] := hS19
      refine hK5 [(0, .slice A0 l0.length c0), (1, .slice A1 l1.length c1), (2, .slice A2 l2.length c2), (3, .slice A3 l3.length c3), (9, .pointer (some ⟨b1, 0, none⟩))] w7 ?_ a hF
      refine we_seq fun K9 hK9 => ?_
      refine we_region [(0, 0)] rfl ?_
      refine ge_batch [0] (ans := []) (vs := [(11, .slice none 0 0)]) (l := []) (by kernel_rfl) trivial ?_
      refine ge_nil fun a hF => hK9 _ _ ?_ a hF
      refine we_seq fun K10 hK10 => ?_
      refine we_seq fun K11 hK11 => ?_
      refine we_region [(0, 0), (1, 0), (2, 0)] rfl ?_
      refine ge_batch [0, 1, 2] (ans := []) (vs := [(37, .int .i64 0), (36, .int .i64 (l1.length : Int)), (35, .slice A1 l1.length c1)]) (l := []) (by kernel_rfl) trivial ?_
      refine ge_nil fun a hF => hK11 _ _ ?_ a hF
      refine we_block ?_
      have hS20 := hS19.nil (α := SJob) 106
      have hS21 := hS20.bring 1 rfl
      rcases hq4 : iter (tasks_Jobs.r1 l0 l1 l2 l3) K (([] : List SJob), 0) with _ | (m3 | rr2)
      · rw [hq4] at h; cases h
      · rw [hq4] at h
        simp only [] at h
        refine we_iter (A := tasks_Jobs.A1 K w0 l0 A0 c0 l1 A1 c1 l2 A2 c2 l3 A3 c3 hR0 hL0 hR1 hL1 hR2 hL2 hR3 hL3 b1 r1 b2 hc1) (B := tasks_Jobs.B1 K w0 l0 A0 c0 l1 A1 c1 l2 A2 c2 l3 A3 c3 hR0 hL0 hR1 hL1 hR2 hL2 hR3 hL3 b1 r1 b2 hc1) hq4 (fun a hF => ⟨(.slice none 0 0), hS21, hF.weaken ⟨by kernel_rfl, by kernel_rfl, by kernel_rfl, by kernel_rfl, by kernel_rfl, by kernel_rfl, by kernel_rfl, by kernel_rfl, trivial⟩⟩) (fun s o hf a w hA Q hQ => tasks_Jobs_r1 K w0 l0 A0 c0 l1 A1 c1 l2 A2 c2 l3 A3 c3 hR0 hL0 hR1 hL1 hR2 hL2 hR3 hL3 b1 r1 b2 hc1 s o hf a w hA Q hQ) ?_
        rintro _ a w19 _ ⟨rfl, v4, hS62, hF⟩
        replace hS62 : St w0 w19 [Own.blk b1 (.cells #[.int .i64 0, .int .i64 0] 31 (0, 0)), Own.of v4 106 m3] := hS62
        refine hK10 [(9, .pointer (some ⟨b1, 0, none⟩)), (11, v4)] w19 ?_ a hF
        refine we_seq fun K23 hK23 => ?_
        refine we_region [(0, 0), (1, 0), (2, 0), (3, 2)] rfl ?_
        refine ge_batch [0, 1, 2] (ans := []) (vs := [(8, v4), (105, .agg #[.int .i64 0, .int .i64 0]), (104, v4)]) (l := []) (by kernel_rfl) trivial ?_
        refine ge_set (b := b1) (j := 0) (cs := #[.int .i64 0, .int .i64 0]) (t := 31) (vs := [.int .i64 0, .int .i64 0]) hS62 (by kernel_rfl) rfl rfl fun w20 hS63 => ?_
        have hS64 : St w0 w20 [Own.blk b1 (.cells #[.int .i64 0, .int .i64 0] 31 (0, 0)), Own.of v4 106 m3] := hS63
        refine ge_nil fun a hF => hK23 _ _ ?_ a hF
        have hS65 := hS64.bring 1 rfl
        have hS66 := hS65.takeN 1
        obtain rfl := Option.some.inj h
        exact we_ret (post_ret (rs := [.tmp 8, .cell 9 31]) (ans := [.val (.int .i64 0), .val (.int .i64 0)]) (vs := [v4, .agg #[.int .i64 0, .int .i64 0]]) (l := [.loaded ⟨b1, 0, none⟩ (.int .i64 0), .loaded ⟨b1, 1, none⟩ (.int .i64 0)]) rfl (by kernel_rfl) ⟨hS64.cell 0 rfl rfl, hS64.cell 0 rfl rfl, trivial⟩ ⟨v4, rfl, hS66⟩)
      · rw [hq4] at h
        simp only [] at h
        refine we_iter (A := tasks_Jobs.A1 K w0 l0 A0 c0 l1 A1 c1 l2 A2 c2 l3 A3 c3 hR0 hL0 hR1 hL1 hR2 hL2 hR3 hL3 b1 r1 b2 hc1) (B := tasks_Jobs.B1 K w0 l0 A0 c0 l1 A1 c1 l2 A2 c2 l3 A3 c3 hR0 hL0 hR1 hL1 hR2 hL2 hR3 hL3 b1 r1 b2 hc1) hq4 (fun a hF => ⟨(.slice none 0 0), hS21, hF.weaken ⟨by kernel_rfl, by kernel_rfl, by kernel_rfl, by kernel_rfl, by kernel_rfl, by kernel_rfl, by kernel_rfl, by kernel_rfl, trivial⟩⟩) (fun s o hf a w hA Q hQ => tasks_Jobs_r1 K w0 l0 A0 c0 l1 A1 c1 l2 A2 c2 l3 A3 c3 hR0 hL0 hR1 hL1 hR2 hL2 hR3 hL3 b1 r1 b2 hc1 s o hf a w hA Q hQ) ?_
        rintro _ a w1 _ ⟨rfl, hb⟩
        obtain rfl := Option.some.inj h
        exact hb
    · rw [hq2] at h
      simp only [] at h
      refine we_keep (e' := [(0, .slice A0 l0.length c0), (1, .slice A1 l1.length c1), (2, .slice A2 l2.length c2), (3, .slice A3 l3.length c3), (8, .slice none 0 0), (9, .pointer (some ⟨b1, 0, none⟩)), (10, .pointer (some ⟨b2, 0, none⟩)), (15, .slice A0 l0.length c0), (16, .slice A1 l1.length c1), (17, .agg #[.int .i64 r1.Code, .int .i64 r1.At]), (18, .pointer (some ⟨b2, 0, none⟩)), (19, .int .i64 r1.Code), (20, .bool false)]) ⟨by kernel_rfl, by kernel_rfl, by kernel_rfl, by kernel_rfl, by kernel_rfl, by kernel_rfl, by kernel_rfl, by kernel_rfl, by kernel_rfl, by kernel_rfl, by kernel_rfl, by kernel_rfl, by kernel_rfl, trivial⟩ (tasks_Jobs_p0 K w0 l0 A0 c0 l1 A1 c1 l2 A2 c2 l3 A3 c3 hR0 hL0 hR1 hL1 hR2 hL2 hR3 hL3 b1 r1 b2 hc1 _ hq2 _ hS6 _ ?_)
      rintro _ a w1 ⟨_, rfl, hb⟩
      obtain rfl := Option.some.inj h
      exact hb
  · rw [if_neg hc1] at h
    refine we_known (t := 20) (b := (r1.Code != 0)) (v := true) (by kernel_rfl) (bne_iff_ne.2 hc1) ?_
    refine we_true (by kernel_rfl) ?_
    refine we_seq fun K24 hK24 => ?_
    refine we_draws (by kernel_rfl) [(0, 0), (1, 0), (2, 2)] (by kernel_rfl) ?_
    have hS67 := hS6.drew
    refine ge_batch [0, 1] (ans := [.val (.int .i64 r1.Code), .val (.int .i64 r1.At)]) (vs := [(8, .slice none 0 0), (21, .agg #[.int .i64 r1.Code, .int .i64 r1.At])]) (l := [.loaded ⟨b2, 0, none⟩ (.int .i64 r1.Code), .loaded ⟨b2, 1, none⟩ (.int .i64 r1.At)]) (by kernel_rfl) ⟨hS67.cell 0 rfl rfl, hS67.cell 0 rfl rfl, trivial⟩ ?_
    have hS68 := hS67.bring 1 rfl
    refine ge_set (b := b1) (j := 0) (cs := #[.int .i64 0, .int .i64 0]) (t := 31) (vs := [.int .i64 r1.Code, .int .i64 r1.At]) hS68 (by kernel_rfl) rfl rfl fun w21 hS69 => ?_
    have hS70 : St w0 w21 [Own.blk b1 (.cells #[.int .i64 r1.Code, .int .i64 r1.At] 31 (0, 0)), Own.blk b2 (.cells #[.int .i64 r1.Code, .int .i64 r1.At] 31 (0, 0))] := hS69
    refine ge_nil fun a hF => hK24 _ _ ?_ a hF
    have hS71 := hS70.nil (α := SJob) 106
    have hS72 := hS71.takeN 1
    obtain rfl := Option.some.inj h
    exact we_ret (post_ret (rs := [.tmp 8, .cell 9 31]) (ans := [.val (.int .i64 r1.Code), .val (.int .i64 r1.At)]) (vs := [(.slice none 0 0), .agg #[.int .i64 r1.Code, .int .i64 r1.At]]) (l := [.loaded ⟨b1, 0, none⟩ (.int .i64 r1.Code), .loaded ⟨b1, 1, none⟩ (.int .i64 r1.At)]) rfl (by kernel_rfl) ⟨hS71.cell 1 rfl rfl, hS71.cell 1 rfl rfl, trivial⟩ ⟨(.slice none 0 0), rfl, hS72⟩)

/-! punctual/punctuallaw.lasts -/
abbrev lasts.Post (w0 : World) (r : Int) (e : Ending) (w : World) : Prop := e = .returned (.int .i64 r) ∧ St w0 w []
def lasts.r0 (l0 : List STask) (l1 : List SCome) : Int × Nat → Option ((Int × Nat) ⊕ (Int ⊕ Int))
  | (z1, i1) =>
    if (i1 : Int) < (l1.length : Int) then
      match l1[i1]? with
      | none => none
      | some e1 =>
        if 0 ≤ e1.Task then
          match l0[(e1.Task).toNat]? with
          | none => none
          | some e2 =>
            some (.inl (gmax z1 (IntKind.i64.wrap (e1.At + e2.D)), (i1 + 1)))
        else
          none
    else
      some (.inr (.inl z1))
def lasts.f (K : Nat) (l0 : List STask) (l1 : List SCome) : Option Int :=
  match iter (lasts.r0 l0 l1) K (0, 0) with
  | none => none
  | some (.inl z3) =>
    if z3 > 3000 then
      some (-1)
    else
      if (l1.length : Int) > 300 then
        some (-1)
      else
        some z3
  | some (.inr rr1) =>
    some rr1
abbrev lasts.A0 (K : Nat) (w0 : World) (l0 : List STask) (A0 : Option Addr) (c0 : Nat) (l1 : List SCome) (A1 : Option Addr) (c1 : Nat) (hR0 : RdL w0 A0 l0) (hL0 : l0.length ≤ c0) (hR1 : RdL w0 A1 l1) (hL1 : l1.length ≤ c1) : (Int × Nat) → Act → World → Prop := fun (s : Int × Nat) a w => St w0 w [] ∧ Frm 34 a [(0, .slice A0 l0.length c0), (1, .slice A1 l1.length c1), (5, .int .i64 s.1), (8, .slice A1 l1.length c1), (9, .int .i64 (l1.length : Int)), (10, .int .i64 (s.2 : Int))]
abbrev lasts.B0 (K : Nat) (w0 : World) (l0 : List STask) (A0 : Option Addr) (c0 : Nat) (l1 : List SCome) (A1 : Option Addr) (c1 : Nat) (hR0 : RdL w0 A0 l0) (hL0 : l0.length ≤ c0) (hR1 : RdL w0 A1 l1) (hL1 : l1.length ≤ c1) : (Int ⊕ Int) → Exit → Act → World → Prop := Exits 0 (fun (s : Int) a w => St w0 w [] ∧ Frm 34 a [(1, .slice A1 l1.length c1), (5, .int .i64 s)]) (Rets Try.prog Try.f13 (lasts.Post w0))
theorem lasts_r0 (K : Nat) (w0 : World) (l0 : List STask) (A0 : Option Addr) (c0 : Nat) (l1 : List SCome) (A1 : Option Addr) (c1 : Nat) (hR0 : RdL w0 A0 l0) (hL0 : l0.length ≤ c0) (hR1 : RdL w0 A1 l1) (hL1 : l1.length ≤ c1) (s : Int × Nat) (o : (Int × Nat) ⊕ (Int ⊕ Int)) (h : lasts.r0 l0 l1 s = some o) (a : Act) (w : World) (hA : lasts.A0 K w0 l0 A0 c0 l1 A1 c1 hR0 hL0 hR1 hL1 s a w) (Q : Exit → Act → World → Prop) (hQ : ∀ x a w, Outs (lasts.A0 K w0 l0 A0 c0 l1 A1 c1 hR0 hL0 hR1 hL1) (lasts.B0 K w0 l0 A0 c0 l1 A1 c1 hR0 hL0 hR1 hL1) o x a w → Q x a w) : (subF Try.f13 [1, 1, 0, 1, 0, 0]).wp Try.prog Q a w := by
  obtain ⟨z1, i1⟩ := s
  obtain ⟨hS, hF⟩ := hA
  replace hS : St w0 w [] := hS
  simp only [lasts.r0] at h
  refine (?_ : WE Try.prog 34 (subF Try.f13 [1, 1, 0, 1, 0, 0]) Q [(0, .slice A0 l0.length c0), (1, .slice A1 l1.length c1), (5, .int .i64 z1), (8, .slice A1 l1.length c1), (9, .int .i64 (l1.length : Int)), (10, .int .i64 (i1 : Int))] w) a hF
  clear hF a
  refine we_seq fun K5 hK5 => ?_
  refine we_region [(0, 0)] rfl ?_
  refine ge_batch [0] (ans := []) (vs := [(11, .bool (decide ((i1 : Int) < (l1.length : Int))))]) (l := []) (by kernel_rfl) trivial ?_
  refine ge_nil fun a hF => hK5 _ _ ?_ a hF
  refine we_seq fun K6 hK6 => ?_
  by_cases hc1 : (i1 : Int) < (l1.length : Int)
  · rw [if_pos hc1] at h
    refine we_known (t := 11) (b := decide ((i1 : Int) < (l1.length : Int))) (v := true) (by kernel_rfl) (decide_eq_true hc1) ?_
    refine we_true (by kernel_rfl) ?_
    refine we_skip fun a hF => hK6 _ _ ?_ a hF
    refine we_seq fun K7 hK7 => ?_
    refine we_block ?_
    refine we_seq fun K8 hK8 => ?_
    refine we_region [(0, 0), (1, 0), (2, 1), (3, 2)] rfl ?_
    rcases hx1 : l1[i1]? with _ | e1
    · rw [hx1] at h; cases h
    rw [hx1] at h
    simp only [] at h
    refine ge_index (d := 12) (ty := 0) (t := 24) (el := 43) (sz := 2) (m := l1.length) (c := c1) (x := (.tmp 8)) (y := (.tmp 10)) (A := A1) (k' := .i64) (j := (i1 : Int)) (jn := i1) (b0 := blkOf A1) (o0 := offOf A1) (by kernel_rfl) (by kernel_rfl) (by kernel_rfl) (by kernel_rfl) (by kernel_rfl) ((hS.rd hR1).eqSome (pos_of_get hx1)) rfl (lt_of_get hx1) ?_
    refine ge_batch [1] (ans := [.val (.int .i64 e1.Task), .val (.int .i64 e1.At)]) (vs := [(13, .agg #[.int .i64 e1.Task, .int .i64 e1.At])]) (l := [.loaded ⟨blkOf A1, offOf A1 + i1 * 2, none⟩ (.int .i64 e1.Task), .loaded ⟨blkOf A1, offOf A1 + i1 * 2 + 1, none⟩ (.int .i64 e1.At)]) (by kernel_rfl) ⟨RdL.cell (j := 0) (hS.rd hR1) hx1 rfl, RdL.cell (j := 1) (hS.rd hR1) hx1 rfl, trivial⟩ ?_
    refine ge_new (d := some 7) (o := .cells #[.int .i64 0, .int .i64 0] 43) (v := fun b => .pointer (some ⟨b, 0, none⟩)) hS (fun b => by kernel_rfl) fun b1 w1 hx2 hS1 => ?_
    refine ge_set (b := b1) (j := 0) (cs := #[.int .i64 0, .int .i64 0]) (t := 43) (vs := [.int .i64 e1.Task, .int .i64 e1.At]) hS1 (by kernel_rfl) rfl rfl fun w2 hS2 => ?_
    have hS3 : St w0 w2 [Own.blk b1 (.cells #[.int .i64 e1.Task, .int .i64 e1.At] 43 (0, 0))] := hS2
    refine ge_nil fun a hF => hK8 _ _ ?_ a hF
    refine we_draws (by kernel_rfl) [(0, 0), (1, 0), (2, 0), (3, 0), (4, 0), (5, 0), (6, 0), (7, 0), (8, 0), (9, 0), (10, 0), (11, 0)] (by kernel_rfl) ?_
    have hS4 := hS3.drew
    refine ge_batch [0, 1, 2, 3, 4, 5] (ans := [.val (.int .i64 e1.At), .val (.int .i64 e1.Task)]) (vs := [(19, .int .i64 e1.Task), (18, .pointer (some ⟨b1, 0, none⟩)), (17, .slice A0 l0.length c0), (16, .int .i64 e1.At), (15, .pointer (some ⟨b1, 1, none⟩)), (14, .int .i64 z1)]) (l := [.loaded ⟨b1, 1, none⟩ (.int .i64 e1.At), .loaded ⟨b1, 0, none⟩ (.int .i64 e1.Task)]) (by kernel_rfl) ⟨hS4.cell 0 rfl rfl, hS4.cell 0 rfl rfl, trivial⟩ ?_
    by_cases hc2 : 0 ≤ e1.Task
    · rw [if_pos hc2] at h
      rcases hx3 : l0[(e1.Task).toNat]? with _ | e2
      · rw [hx3] at h; cases h
      rw [hx3] at h
      simp only [] at h
      refine ge_index (d := 20) (ty := 0) (t := 22) (el := 102) (sz := 7) (m := l0.length) (c := c0) (x := (.tmp 17)) (y := (.tmp 19)) (A := A0) (k' := .i64) (j := e1.Task) (jn := ((e1.Task).toNat)) (b0 := blkOf A0) (o0 := offOf A0) (by kernel_rfl) (by kernel_rfl) (by kernel_rfl) (by kernel_rfl) (by kernel_rfl) ((hS4.rd hR0).eqSome (pos_of_get hx3)) (Int.toNat_of_nonneg hc2).symm (lt_of_get hx3) ?_
      refine ge_batch [7, 8, 9, 10, 11] (ans := [.val (.int .i64 e2.D)]) (vs := [(5, .int .i64 (gmax z1 (IntKind.i64.wrap (e1.At + e2.D)))), (24, .int .i64 (gmax z1 (IntKind.i64.wrap (e1.At + e2.D)))), (23, .int .i64 (IntKind.i64.wrap (e1.At + e2.D))), (22, .int .i64 e2.D), (21, .pointer (some ⟨blkOf A0, offOf A0 + (e1.Task).toNat * 7 + 3, none⟩))]) (l := [.loaded ⟨blkOf A0, offOf A0 + ((e1.Task).toNat) * 7 + 3, none⟩ (.int .i64 e2.D)]) (by kernel_rfl) ⟨RdL.cell (j := 3) (hS4.rd hR0) hx3 rfl, trivial⟩ ?_
      refine ge_nil fun a hF => hK7 _ _ ?_ a hF
      refine we_region [(0, 0), (1, 0)] rfl ?_
      refine ge_addn (d := 25) (ty := 3) (x := (.tmp 10)) (y := (.const (.int .i64 1))) (t := 3) (t2 := 3) (k := .i64) (m := i1) (by kernel_rfl) (by kernel_rfl) (by kernel_rfl) (by have h0 := hR1.small; omega) ?_
      refine ge_batch [1] (ans := []) (vs := [(10, .int .i64 ((i1 + 1 : Nat) : Int))]) (l := []) (by kernel_rfl) trivial ?_
      have hS5 := hS4.takeN 0
      obtain rfl := Option.some.inj h
      exact ge_nil fun a hF => hQ _ _ _ (Outs.again ⟨hS5, hF.weaken ⟨by kernel_rfl, by kernel_rfl, by kernel_rfl, by kernel_rfl, by kernel_rfl, by kernel_rfl, trivial⟩⟩)
    · rw [if_neg hc2] at h
      cases h
  · rw [if_neg hc1] at h
    refine we_known (t := 11) (b := decide ((i1 : Int) < (l1.length : Int))) (v := false) (by kernel_rfl) (decide_eq_false hc1) ?_
    refine we_false (by kernel_rfl) ?_
    obtain rfl := Option.some.inj h
    exact we_exit fun a hF => hQ _ _ _ (Outs.out nofun (Exits.here ⟨hS, hF.weaken ⟨by kernel_rfl, by kernel_rfl, trivial⟩⟩))
theorem lasts_ok (K : Nat) (l0 : List STask) (A0 : Option Addr) (c0 : Nat) (l1 : List SCome) (A1 : Option Addr) (c1 : Nat) (w0 : World) (hR0 : RdL w0 A0 l0) (hL0 : l0.length ≤ c0) (hR1 : RdL w0 A1 l1) (hL1 : l1.length ≤ c1) (r : Int) (h : lasts.f K l0 l1 = some r) :
    Calls Try.prog 13 #[.slice A0 l0.length c0, .slice A1 l1.length c1] w0 (lasts.Post w0 r) := by
  have hS := St.start w0
  unfold lasts.f at h
  refine calls_enter (n := 34) (args := [.slice A0 l0.length c0, .slice A1 l1.length c1]) (fn := Try.f13) rfl rfl rfl rfl ?_
  show WE _ _ _ _ [(0, .slice A0 l0.length c0), (1, .slice A1 l1.length c1)] _
  refine we_seq fun K1 hK1 => ?_
  refine we_region [(0, 0)] rfl ?_
  refine ge_batch [0] (ans := []) (vs := [(4, .int .i64 0)]) (l := []) (by kernel_rfl) trivial ?_
  refine ge_nil fun a hF => hK1 _ _ ?_ a hF
  refine we_seq fun K2 hK2 => ?_
  refine we_region [(0, 0)] rfl ?_
  refine ge_batch [0] (ans := []) (vs := [(5, .int .i64 0)]) (l := []) (by kernel_rfl) trivial ?_
  refine ge_nil fun a hF => hK2 _ _ ?_ a hF
  refine we_seq fun K3 hK3 => ?_
  refine we_seq fun K4 hK4 => ?_
  refine we_region [(0, 0), (1, 0), (2, 0)] rfl ?_
  refine ge_batch [0, 1, 2] (ans := []) (vs := [(10, .int .i64 0), (9, .int .i64 (l1.length : Int)), (8, .slice A1 l1.length c1)]) (l := []) (by kernel_rfl) trivial ?_
  refine ge_nil fun a hF => hK4 _ _ ?_ a hF
  refine we_block ?_
  rcases hq1 : iter (lasts.r0 l0 l1) K (0, 0) with _ | (z3 | rr1)
  · rw [hq1] at h; cases h
  · rw [hq1] at h
    simp only [] at h
    refine we_iter (A := lasts.A0 K w0 l0 A0 c0 l1 A1 c1 hR0 hL0 hR1 hL1) (B := lasts.B0 K w0 l0 A0 c0 l1 A1 c1 hR0 hL0 hR1 hL1) hq1 (fun a hF => ⟨hS, hF.weaken ⟨by kernel_rfl, by kernel_rfl, by kernel_rfl, by kernel_rfl, by kernel_rfl, by kernel_rfl, trivial⟩⟩) (fun s o hf a w hA Q hQ => lasts_r0 K w0 l0 A0 c0 l1 A1 c1 hR0 hL0 hR1 hL1 s o hf a w hA Q hQ) ?_
    rintro _ a w3 _ ⟨rfl, hS6, hF⟩
    replace hS6 : St w0 w3 [] := hS6
    refine hK3 [(1, .slice A1 l1.length c1), (5, .int .i64 z3)] w3 ?_ a hF
    refine we_seq fun K9 hK9 => ?_
    refine we_seq fun K10 hK10 => ?_
    refine we_region [(0, 0), (1, 0), (2, 0), (3, 0), (4, 0), (5, 0), (6, 0)] rfl ?_
    refine ge_batch [0, 1, 2] (ans := []) (vs := [(28, .bool (decide (z3 > 3000))), (27, .bool (decide (z3 > 3000))), (26, .int .i64 z3)]) (l := []) (by kernel_rfl) trivial ?_
    by_cases hc3 : z3 > 3000
    · rw [if_pos hc3] at h
      refine ge_known (t := 28) (b := decide (z3 > 3000)) (c := true) (by kernel_rfl) (decide_eq_true hc3) ?_
      refine ge_batch [3, 4, 5, 6] (ans := []) (vs := [(32, .bool true), (31, undef), (30, undef), (29, undef)]) (l := []) (by kernel_rfl) trivial ?_
      refine ge_nil fun a hF => hK10 _ _ ?_ a hF
      refine we_true (by kernel_rfl) ?_
      refine we_seq fun K11 hK11 => ?_
      refine we_region [(0, 0)] rfl ?_
      refine ge_batch [0] (ans := []) (vs := [(4, .int .i64 (-1))]) (l := []) (by kernel_rfl) trivial ?_
      refine ge_nil fun a hF => hK11 _ _ ?_ a hF
      obtain rfl := Option.some.inj h
      exact we_ret (post_ret (rs := [.tmp 4]) (ans := []) (vs := [.int .i64 (-1)]) (l := []) rfl (by kernel_rfl) trivial ⟨rfl, hS6⟩)
    · rw [if_neg hc3] at h
      refine ge_known (t := 28) (b := decide (z3 > 3000)) (c := false) (by kernel_rfl) (decide_eq_false hc3) ?_
      refine ge_batch [3, 4, 5, 6] (ans := []) (vs := [(32, .bool (decide ((l1.length : Int) > 300))), (31, .bool (decide ((l1.length : Int) > 300))), (30, .int .i64 (l1.length : Int)), (29, .slice A1 l1.length c1)]) (l := []) (by kernel_rfl) trivial ?_
      refine ge_nil fun a hF => hK10 _ _ ?_ a hF
      by_cases hc4 : (l1.length : Int) > 300
      · rw [if_pos hc4] at h
        refine we_known (t := 32) (b := decide ((l1.length : Int) > 300)) (v := true) (by kernel_rfl) (decide_eq_true hc4) ?_
        refine we_true (by kernel_rfl) ?_
        refine we_seq fun K12 hK12 => ?_
        refine we_region [(0, 0)] rfl ?_
        refine ge_batch [0] (ans := []) (vs := [(4, .int .i64 (-1))]) (l := []) (by kernel_rfl) trivial ?_
        refine ge_nil fun a hF => hK12 _ _ ?_ a hF
        obtain rfl := Option.some.inj h
        exact we_ret (post_ret (rs := [.tmp 4]) (ans := []) (vs := [.int .i64 (-1)]) (l := []) rfl (by kernel_rfl) trivial ⟨rfl, hS6⟩)
      · rw [if_neg hc4] at h
        refine we_known (t := 32) (b := decide ((l1.length : Int) > 300)) (v := false) (by kernel_rfl) (decide_eq_false hc4) ?_
        refine we_false (by kernel_rfl) ?_
        refine we_skip fun a hF => hK9 _ _ ?_ a hF
        refine we_seq fun K13 hK13 => ?_
        refine we_region [(0, 0), (1, 0)] rfl ?_
        refine ge_batch [0, 1] (ans := []) (vs := [(4, .int .i64 z3), (33, .int .i64 z3)]) (l := []) (by kernel_rfl) trivial ?_
        refine ge_nil fun a hF => hK13 _ _ ?_ a hF
        obtain rfl := Option.some.inj h
        exact we_ret (post_ret (rs := [.tmp 4]) (ans := []) (vs := [.int .i64 z3]) (l := []) rfl (by kernel_rfl) trivial ⟨rfl, hS6⟩)
  · rw [hq1] at h
    simp only [] at h
    refine we_iter (A := lasts.A0 K w0 l0 A0 c0 l1 A1 c1 hR0 hL0 hR1 hL1) (B := lasts.B0 K w0 l0 A0 c0 l1 A1 c1 hR0 hL0 hR1 hL1) hq1 (fun a hF => ⟨hS, hF.weaken ⟨by kernel_rfl, by kernel_rfl, by kernel_rfl, by kernel_rfl, by kernel_rfl, by kernel_rfl, trivial⟩⟩) (fun s o hf a w hA Q hQ => lasts_r0 K w0 l0 A0 c0 l1 A1 c1 hR0 hL0 hR1 hL1 s o hf a w hA Q hQ) ?_
    rintro _ a w1 _ ⟨rfl, hb⟩
    obtain rfl := Option.some.inj h
    exact hb
end Go.Proofs.Ytlcndfafkegjgaa.GV
