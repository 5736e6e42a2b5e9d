/- Walks of single functions, written by a program of this work. -/
import Derived.Test.YtccfilmiboepjaaGWRedoKeeps3
namespace Go.Proofs.Ytccfilmiboepjaa.GV
open Go Go.RowKit
set_option linter.unusedVariables false
set_option linter.unusedSimpArgs false
set_option maxRecDepth 100000

/-! punctual/redo.Response -/
abbrev redo_Response.Post (w0 : World) (r : Int × SFault) (e : Ending) (w : World) : Prop := e = .returned (.tuple #[.int .i64 r.1, .agg #[.int .i64 r.2.Code, .int .i64 r.2.At]]) ∧ St w0 w []
def redo_Response.p0 (x2 : Int) (x3 : Int) : Option (Unit ⊕ (Int × SFault)) :=
    if x2 < 1 then
      some (.inr (0, (⟨3, 0⟩ : SFault)))
    else
      if x2 > 20000 then
        some (.inr (0, (⟨3, 0⟩ : SFault)))
      else
        if x3 < 0 then
          some (.inr (0, (⟨3, 0⟩ : SFault)))
        else
          if x3 > 10000 then
            some (.inr (0, (⟨3, 0⟩ : SFault)))
          else
            some (.inl ())
def redo_Response.r1 (l0 : List STask) (x3 : Int) (e1 : STask) : Nat × Int → Option ((Nat × Int) ⊕ (Int ⊕ (Int × SFault)))
  | (i1, z1) =>
    if (i1 : Int) < (l0.length : Int) then
      match l0[i1]? with
      | none => none
      | some e2 =>
        if e2.P ≥ e1.P then
          some (.inl ((i1 + 1), gmax z1 (redo_undone.f e2.C x3)))
        else
          some (.inl ((i1 + 1), z1))
    else
      some (.inr (.inl z1))
def redo_Response.f (K : Nat) (l0 : List STask) (x1 : Int) (x2 : Int) (x3 : Int) : Option (Int × SFault) :=
  match fixed_Response.f K l0 x1 0 with
  | none => none
  | some r1 =>
    if r1.2.Code = 0 then
      match redo_Response.p0 x2 x3 with
      | none => none
      | some (.inl _) =>
        if 0 ≤ x1 then
          match l0[(x1).toNat]? with
          | none => none
          | some e1 =>
            match iter (redo_Response.r1 l0 x3 e1) K (0, 0) with
            | none => none
            | some (.inl z3) =>
              match fixed_Settle_1.f K e1.C (IntKind.i64.wrap (e1.D - e1.J)) e1 x2 z3 l0 x1 with
              | none => none
              | some r2 =>
                if r2 = 0 then
                  some (0, (⟨13, x1⟩ : SFault))
                else
                  some (IntKind.i64.wrap (r2 + e1.J), (⟨0, 0⟩ : SFault))
            | some (.inr rr1) =>
              some rr1
        else
          none
      | some (.inr rr2) =>
        some rr2
    else
      some (0, r1.2)
abbrev redo_Response.A0 (K : Nat) (w0 : World) (l0 : List STask) (A0 : Option Addr) (c0 : Nat) (x1 : Int) (x2 : Int) (x3 : Int) (hR0 : RdL w0 A0 l0) (hL0 : l0.length ≤ c0) (b1 : Nat) (b2 : Nat) (b3 : Nat) (b4 : Nat) (r1 : Int × SFault) (b5 : Nat) (hc1 : r1.2.Code = 0) : Unit → Act → World → Prop := fun (s : Unit) a w => St w0 w [Own.blk b4 (.cells #[.int .i64 0, .int .i64 0] 29 (0, 0)), Own.blk b3 (.cells #[.int .i64 x2] 3 (0, 0)), Own.blk b2 (.cells #[.int .i64 x1] 3 (0, 0)), Own.blk b1 (.cells #[.slice A0 l0.length c0] 73 (0, 0))] ∧ Frm 82 a [(3, .int .i64 x3), (4, .pointer (some ⟨b1, 0, none⟩)), (5, .pointer (some ⟨b2, 0, none⟩)), (6, .pointer (some ⟨b3, 0, none⟩)), (9, .pointer (some ⟨b4, 0, none⟩))]
abbrev redo_Response.B0 (K : Nat) (w0 : World) (l0 : List STask) (A0 : Option Addr) (c0 : Nat) (x1 : Int) (x2 : Int) (x3 : Int) (hR0 : RdL w0 A0 l0) (hL0 : l0.length ≤ c0) (b1 : Nat) (b2 : Nat) (b3 : Nat) (b4 : Nat) (r1 : Int × SFault) (b5 : Nat) (hc1 : r1.2.Code = 0) : (Int × SFault) → Exit → Act → World → Prop := Rets Try.prog Try.f30 (redo_Response.Post w0)
theorem redo_Response_p0 (K : Nat) (w0 : World) (l0 : List STask) (A0 : Option Addr) (c0 : Nat) (x1 : Int) (x2 : Int) (x3 : Int) (hR0 : RdL w0 A0 l0) (hL0 : l0.length ≤ c0) (b1 : Nat) (b2 : Nat) (b3 : Nat) (b4 : Nat) (r1 : Int × SFault) (b5 : Nat) (hc1 : r1.2.Code = 0) (o : Unit ⊕ (Int × SFault)) (h : redo_Response.p0 x2 x3 = some o) (w : World) (hS : St w0 w [Own.blk b5 (.cells #[.int .i64 r1.2.Code, .int .i64 r1.2.At] 29 (0, 0)), Own.blk b4 (.cells #[.int .i64 0, .int .i64 0] 29 (0, 0)), Own.blk b3 (.cells #[.int .i64 x2] 3 (0, 0)), Own.blk b2 (.cells #[.int .i64 x1] 3 (0, 0)), Own.blk b1 (.cells #[.slice A0 l0.length c0] 73 (0, 0))]) (Q : Exit → Act → World → Prop) (hQ : ∀ x a w, Outs (redo_Response.A0 K w0 l0 A0 c0 x1 x2 x3 hR0 hL0 b1 b2 b3 b4 r1 b5 hc1) (redo_Response.B0 K w0 l0 A0 c0 x1 x2 x3 hR0 hL0 b1 b2 b3 b4 r1 b5 hc1) o x a w → Q x a w) : WE Try.prog 82 (subF Try.f30 [1, 1, 0]) Q [(0, .slice A0 l0.length c0), (1, .int .i64 x1), (2, .int .i64 x2), (3, .int .i64 x3), (4, .pointer (some ⟨b1, 0, none⟩)), (5, .pointer (some ⟨b2, 0, none⟩)), (6, .pointer (some ⟨b3, 0, none⟩)), (8, .int .i64 0), (9, .pointer (some ⟨b4, 0, none⟩)), (10, .int .i64 r1.1), (11, .pointer (some ⟨b5, 0, none⟩)), (17, .tuple #[.int .i64 r1.1, .agg #[.int .i64 r1.2.Code, .int .i64 r1.2.At]]), (18, .slice A0 l0.length c0), (19, .int .i64 x1), (20, .tuple #[.int .i64 r1.1, .agg #[.int .i64 r1.2.Code, .int .i64 r1.2.At]]), (21, .int .i64 r1.1), (22, .agg #[.int .i64 r1.2.Code, .int .i64 r1.2.At]), (23, .pointer (some ⟨b5, 0, none⟩)), (24, .int .i64 r1.2.Code), (25, .bool false)] w := by
  simp only [redo_Response.p0] at h
  refine we_seq fun K6 hK6 => ?_
  refine we_region [(0, 0), (1, 0), (2, 0), (3, 0), (4, 0), (5, 0), (6, 0), (7, 0), (8, 0), (9, 0), (10, 0), (11, 0), (12, 0), (13, 0)] rfl ?_
  refine ge_batch [0, 1, 2] (ans := [.val (.int .i64 x2)]) (vs := [(29, .bool (decide (x2 < 1))), (28, .bool (decide (x2 < 1))), (27, .int .i64 x2)]) (l := [.loaded ⟨b3, 0, none⟩ (.int .i64 x2)]) (by kernel_rfl) ⟨hS.cell 2 rfl rfl, trivial⟩ ?_
  by_cases hc2 : x2 < 1
  · rw [if_pos hc2] at h
    refine ge_known (t := 29) (b := decide (x2 < 1)) (c := true) (by kernel_rfl) (decide_eq_true hc2) ?_
    refine ge_batch [3, 4, 5, 6, 7, 8, 9, 10, 11, 12, 13] (ans := []) (vs := [(40, .bool true), (39, undef), (38, undef), (37, .bool true), (36, .bool true), (35, undef), (34, undef), (33, .bool true), (32, .bool true), (31, undef), (30, undef)]) (l := []) (by kernel_rfl) trivial ?_
    refine ge_nil fun a hF => hK6 _ _ ?_ a hF
    refine we_true (by kernel_rfl) ?_
    refine we_seq fun K7 hK7 => ?_
    refine we_region [(0, 0), (1, 0), (2, 2)] rfl ?_
    refine ge_batch [0, 1] (ans := []) (vs := [(8, .int .i64 0), (41, .agg #[.int .i64 3, .int .i64 0])]) (l := []) (by kernel_rfl) trivial ?_
    have hS10 := hS.bring 1 rfl
    refine ge_set (b := b4) (j := 0) (cs := #[.int .i64 0, .int .i64 0]) (t := 29) (vs := [.int .i64 3, .int .i64 0]) hS10 (by kernel_rfl) rfl rfl fun w8 hS11 => ?_
    have hS12 : St w0 w8 [Own.blk b4 (.cells #[.int .i64 3, .int .i64 0] 29 (0, 0)), Own.blk b5 (.cells #[.int .i64 r1.2.Code, .int .i64 r1.2.At] 29 (0, 0)), Own.blk b3 (.cells #[.int .i64 x2] 3 (0, 0)), Own.blk b2 (.cells #[.int .i64 x1] 3 (0, 0)), Own.blk b1 (.cells #[.slice A0 l0.length c0] 73 (0, 0))] := hS11
    refine ge_nil fun a hF => hK7 _ _ ?_ a hF
    have hS13 := hS12.takeN 0
    obtain rfl := Option.some.inj h
    exact we_ret fun a hF => hQ _ _ _ (Outs.out nofun ⟨rfl, (post_ret (rs := [.tmp 8, .cell 9 29]) (ans := [.val (.int .i64 3), .val (.int .i64 0)]) (vs := [.int .i64 0, .agg #[.int .i64 3, .int .i64 0]]) (l := [.loaded ⟨b4, 0, none⟩ (.int .i64 3), .loaded ⟨b4, 1, none⟩ (.int .i64 0)]) rfl (by kernel_rfl) ⟨hS12.cell 0 rfl rfl, hS12.cell 0 rfl rfl, trivial⟩ ⟨rfl, hS13⟩) a hF⟩)
  · rw [if_neg hc2] at h
    refine ge_known (t := 29) (b := decide (x2 < 1)) (c := false) (by kernel_rfl) (decide_eq_false hc2) ?_
    refine ge_batch [3, 4, 5, 6] (ans := [.val (.int .i64 x2)]) (vs := [(33, .bool (decide (x2 > 20000))), (32, .bool (decide (x2 > 20000))), (31, .bool (decide (x2 > 20000))), (30, .int .i64 x2)]) (l := [.loaded ⟨b3, 0, none⟩ (.int .i64 x2)]) (by kernel_rfl) ⟨hS.cell 2 rfl rfl, trivial⟩ ?_
    by_cases hc3 : x2 > 20000
    · rw [if_pos hc3] at h
      refine ge_known (t := 33) (b := decide (x2 > 20000)) (c := true) (by kernel_rfl) (decide_eq_true hc3) ?_
      refine ge_batch [7, 8, 9, 10, 11, 12, 13] (ans := []) (vs := [(40, .bool true), (39, undef), (38, undef), (37, .bool true), (36, .bool true), (35, undef), (34, undef)]) (l := []) (by kernel_rfl) trivial ?_
      refine ge_nil fun a hF => hK6 _ _ ?_ a hF
      refine we_true (by kernel_rfl) ?_
      refine we_seq fun K8 hK8 => ?_
      refine we_region [(0, 0), (1, 0), (2, 2)] rfl ?_
      refine ge_batch [0, 1] (ans := []) (vs := [(8, .int .i64 0), (41, .agg #[.int .i64 3, .int .i64 0])]) (l := []) (by kernel_rfl) trivial ?_
      have hS14 := hS.bring 1 rfl
      refine ge_set (b := b4) (j := 0) (cs := #[.int .i64 0, .int .i64 0]) (t := 29) (vs := [.int .i64 3, .int .i64 0]) hS14 (by kernel_rfl) rfl rfl fun w9 hS15 => ?_
      have hS16 : St w0 w9 [Own.blk b4 (.cells #[.int .i64 3, .int .i64 0] 29 (0, 0)), Own.blk b5 (.cells #[.int .i64 r1.2.Code, .int .i64 r1.2.At] 29 (0, 0)), Own.blk b3 (.cells #[.int .i64 x2] 3 (0, 0)), Own.blk b2 (.cells #[.int .i64 x1] 3 (0, 0)), Own.blk b1 (.cells #[.slice A0 l0.length c0] 73 (0, 0))] := hS15
      refine ge_nil fun a hF => hK8 _ _ ?_ a hF
      have hS17 := hS16.takeN 0
      obtain rfl := Option.some.inj h
      exact we_ret fun a hF => hQ _ _ _ (Outs.out nofun ⟨rfl, (post_ret (rs := [.tmp 8, .cell 9 29]) (ans := [.val (.int .i64 3), .val (.int .i64 0)]) (vs := [.int .i64 0, .agg #[.int .i64 3, .int .i64 0]]) (l := [.loaded ⟨b4, 0, none⟩ (.int .i64 3), .loaded ⟨b4, 1, none⟩ (.int .i64 0)]) rfl (by kernel_rfl) ⟨hS16.cell 0 rfl rfl, hS16.cell 0 rfl rfl, trivial⟩ ⟨rfl, hS17⟩) a hF⟩)
    · rw [if_neg hc3] at h
      refine ge_known (t := 33) (b := decide (x2 > 20000)) (c := false) (by kernel_rfl) (decide_eq_false hc3) ?_
      refine ge_batch [7, 8, 9, 10] (ans := []) (vs := [(37, .bool (decide (x3 < 0))), (36, .bool (decide (x3 < 0))), (35, .bool (decide (x3 < 0))), (34, .int .i64 x3)]) (l := []) (by kernel_rfl) trivial ?_
      by_cases hc4 : x3 < 0
      · rw [if_pos hc4] at h
        refine ge_known (t := 37) (b := decide (x3 < 0)) (c := true) (by kernel_rfl) (decide_eq_true hc4) ?_
        refine ge_batch [11, 12, 13] (ans := []) (vs := [(40, .bool true), (39, undef), (38, undef)]) (l := []) (by kernel_rfl) trivial ?_
        refine ge_nil fun a hF => hK6 _ _ ?_ a hF
        refine we_true (by kernel_rfl) ?_
        refine we_seq fun K9 hK9 => ?_
        refine we_region [(0, 0), (1, 0), (2, 2)] rfl ?_
        refine ge_batch [0, 1] (ans := []) (vs := [(8, .int .i64 0), (41, .agg #[.int .i64 3, .int .i64 0])]) (l := []) (by kernel_rfl) trivial ?_
        have hS18 := hS.bring 1 rfl
        refine ge_set (b := b4) (j := 0) (cs := #[.int .i64 0, .int .i64 0]) (t := 29) (vs := [.int .i64 3, .int .i64 0]) hS18 (by kernel_rfl) rfl rfl fun w10 hS19 => ?_
        have hS20 : St w0 w10 [Own.blk b4 (.cells #[.int .i64 3, .int .i64 0] 29 (0, 0)), Own.blk b5 (.cells #[.int .i64 r1.2.Code, .int .i64 r1.2.At] 29 (0, 0)), Own.blk b3 (.cells #[.int .i64 x2] 3 (0, 0)), Own.blk b2 (.cells #[.int .i64 x1] 3 (0, 0)), Own.blk b1 (.cells #[.slice A0 l0.length c0] 73 (0, 0))] := hS19
        refine ge_nil fun a hF => hK9 _ _ ?_ a hF
        have hS21 := hS20.takeN 0
        obtain rfl := Option.some.inj h
        exact we_ret fun a hF => hQ _ _ _ (Outs.out nofun ⟨rfl, (post_ret (rs := [.tmp 8, .cell 9 29]) (ans := [.val (.int .i64 3), .val (.int .i64 0)]) (vs := [.int .i64 0, .agg #[.int .i64 3, .int .i64 0]]) (l := [.loaded ⟨b4, 0, none⟩ (.int .i64 3), .loaded ⟨b4, 1, none⟩ (.int .i64 0)]) rfl (by kernel_rfl) ⟨hS20.cell 0 rfl rfl, hS20.cell 0 rfl rfl, trivial⟩ ⟨rfl, hS21⟩) a hF⟩)
      · rw [if_neg hc4] at h
        refine ge_known (t := 37) (b := decide (x3 < 0)) (c := false) (by kernel_rfl) (decide_eq_false hc4) ?_
        refine ge_batch [11, 12, 13] (ans := []) (vs := [(40, .bool (decide (x3 > 10000))), (39, .bool (decide (x3 > 10000))), (38, .int .i64 x3)]) (l := []) (by kernel_rfl) trivial ?_
        refine ge_nil fun a hF => hK6 _ _ ?_ a hF
        by_cases hc5 : x3 > 10000
        · rw [if_pos hc5] at h
          refine we_known (t := 40) (b := decide (x3 > 10000)) (v := true) (by kernel_rfl) (decide_eq_true hc5) ?_
          refine we_true (by kernel_rfl) ?_
          refine we_seq fun K10 hK10 => ?_
          refine we_region [(0, 0), (1, 0), (2, 2)] rfl ?_
          refine ge_batch [0, 1] (ans := []) (vs := [(8, .int .i64 0), (41, .agg #[.int .i64 3, .int .i64 0])]) (l := []) (by kernel_rfl) trivial ?_
          have hS22 := hS.bring 1 rfl
          refine ge_set (b := b4) (j := 0) (cs := #[.int .i64 0, .int .i64 0]) (t := 29) (vs := [.int .i64 3, .int .i64 0]) hS22 (by kernel_rfl) rfl rfl fun w11 hS23 => ?_
          have hS24 : St w0 w11 [Own.blk b4 (.cells #[.int .i64 3, .int .i64 0] 29 (0, 0)), Own.blk b5 (.cells #[.int .i64 r1.2.Code, .int .i64 r1.2.At] 29 (0, 0)), Own.blk b3 (.cells #[.int .i64 x2] 3 (0, 0)), Own.blk b2 (.cells #[.int .i64 x1] 3 (0, 0)), Own.blk b1 (.cells #[.slice A0 l0.length c0] 73 (0, 0))] := hS23
          refine ge_nil fun a hF => hK10 _ _ ?_ a hF
          have hS25 := hS24.takeN 0
          obtain rfl := Option.some.inj h
          exact we_ret fun a hF => hQ _ _ _ (Outs.out nofun ⟨rfl, (post_ret (rs := [.tmp 8, .cell 9 29]) (ans := [.val (.int .i64 3), .val (.int .i64 0)]) (vs := [.int .i64 0, .agg #[.int .i64 3, .int .i64 0]]) (l := [.loaded ⟨b4, 0, none⟩ (.int .i64 3), .loaded ⟨b4, 1, none⟩ (.int .i64 0)]) rfl (by kernel_rfl) ⟨hS24.cell 0 rfl rfl, hS24.cell 0 rfl rfl, trivial⟩ ⟨rfl, hS25⟩) a hF⟩)
        · rw [if_neg hc5] at h
          refine we_known (t := 40) (b := decide (x3 > 10000)) (v := false) (by kernel_rfl) (decide_eq_false hc5) ?_
          refine we_false (by kernel_rfl) ?_
          have hS26 := hS.bring 4 rfl
          have hS27 := hS26.bring 4 rfl
          have hS28 := hS27.bring 4 rfl
          have hS29 := hS28.bring 4 rfl
          have hS30 := hS29.takeN 4
          obtain rfl := Option.some.inj h
          exact we_skip fun a hF => hQ _ _ _ (Outs.again ⟨hS30, hF.weaken ⟨by kernel_rfl, by kernel_rfl, by kernel_rfl, by kernel_rfl, by kernel_rfl, trivial⟩⟩)
abbrev redo_Response.A1 (K : Nat) (w0 : World) (l0 : List STask) (A0 : Option Addr) (c0 : Nat) (x1 : Int) (x2 : Int) (x3 : Int) (hR0 : RdL w0 A0 l0) (hL0 : l0.length ≤ c0) (b1 : Nat) (b2 : Nat) (b3 : Nat) (b4 : Nat) (r1 : Int × SFault) (b5 : Nat) (hc1 : r1.2.Code = 0) (hc6 : 0 ≤ x1) (e1 : STask) (hx6 : l0[(x1).toNat]? = some e1) (b6 : Nat) (b7 : Nat) : (Nat × Int) → Act → World → Prop := fun (s : Nat × Int) a w => St w0 w [Own.blk b7 (.cells #[.int .i64 s.2] 3 (0, 0)), Own.blk b6 (.cells #[.string e1.Name, .int .i64 e1.C, .int .i64 e1.T, .int .i64 e1.D, .int .i64 e1.J, .int .i64 e1.O, .int .i64 e1.P] 117 (0, 0)), Own.blk b4 (.cells #[.int .i64 0, .int .i64 0] 29 (0, 0)), Own.blk b3 (.cells #[.int .i64 x2] 3 (0, 0)), Own.blk b2 (.cells #[.int .i64 x1] 3 (0, 0)), Own.blk b1 (.cells #[.slice A0 l0.length c0] 73 (0, 0))] ∧ Frm 82 a [(3, .int .i64 x3), (4, .pointer (some ⟨b1, 0, none⟩)), (5, .pointer (some ⟨b2, 0, none⟩)), (6, .pointer (some ⟨b3, 0, none⟩)), (9, .pointer (some ⟨b4, 0, none⟩)), (12, .pointer (some ⟨b6, 0, none⟩)), (13, .pointer (some ⟨b7, 0, none⟩)), (46, .slice A0 l0.length c0), (47, .int .i64 (l0.length : Int)), (48, .int .i64 (s.1 : Int))]
abbrev redo_Response.B1 (K : Nat) (w0 : World) (l0 : List STask) (A0 : Option Addr) (c0 : Nat) (x1 : Int) (x2 : Int) (x3 : Int) (hR0 : RdL w0 A0 l0) (hL0 : l0.length ≤ c0) (b1 : Nat) (b2 : Nat) (b3 : Nat) (b4 : Nat) (r1 : Int × SFault) (b5 : Nat) (hc1 : r1.2.Code = 0) (hc6 : 0 ≤ x1) (e1 : STask) (hx6 : l0[(x1).toNat]? = some e1) (b6 : Nat) (b7 : Nat) : (Int ⊕ (Int × SFault)) → Exit → Act → World → Prop := Exits 0 (fun (s : Int) a w => St w0 w [Own.blk b7 (.cells #[.int .i64 s] 3 (0, 0)), Own.blk b6 (.cells #[.string e1.Name, .int .i64 e1.C, .int .i64 e1.T, .int .i64 e1.D, .int .i64 e1.J, .int .i64 e1.O, .int .i64 e1.P] 117 (0, 0)), Own.blk b4 (.cells #[.int .i64 0, .int .i64 0] 29 (0, 0)), Own.blk b3 (.cells #[.int .i64 x2] 3 (0, 0)), Own.blk b2 (.cells #[.int .i64 x1] 3 (0, 0)), Own.blk b1 (.cells #[.slice A0 l0.length c0] 73 (0, 0))] ∧ Frm 82 a [(4, .pointer (some ⟨b1, 0, none⟩)), (5, .pointer (some ⟨b2, 0, none⟩)), (6, .pointer (some ⟨b3, 0, none⟩)), (9, .pointer (some ⟨b4, 0, none⟩)), (12, .pointer (some ⟨b6, 0, none⟩)), (13, .pointer (some ⟨b7, 0, none⟩))]) (Rets Try.prog Try.f30 (redo_Response.Post w0))
theorem redo_Response_r1 (K : Nat) (w0 : World) (l0 : List STask) (A0 : Option Addr) (c0 : Nat) (x1 : Int) (x2 : Int) (x3 : Int) (hR0 : RdL w0 A0 l0) (hL0 : l0.length ≤ c0) (b1 : Nat) (b2 : Nat) (b3 : Nat) (b4 : Nat) (r1 : Int × SFault) (b5 : Nat) (hc1 : r1.2.Code = 0) (hc6 : 0 ≤ x1) (e1 : STask) (hx6 : l0[(x1).toNat]? = some e1) (b6 : Nat) (b7 : Nat) (s : Nat × Int) (o : (Nat × Int) ⊕ (Int ⊕ (Int × SFault))) (h : redo_Response.r1 l0 x3 e1 s = some o) (a : Act) (w : World) (hA : redo_Response.A1 K w0 l0 A0 c0 x1 x2 x3 hR0 hL0 b1 b2 b3 b4 r1 b5 hc1 hc6 e1 hx6 b6 b7 s a w) (Q : Exit → Act → World → Prop) (hQ : ∀ x a w, Outs (redo_Response.A1 K w0 l0 A0 c0 x1 x2 x3 hR0 hL0 b1 b2 b3 b4 r1 b5 hc1 hc6 e1 hx6 b6 b7) (redo_Response.B1 K w0 l0 A0 c0 x1 x2 x3 hR0 hL0 b1 b2 b3 b4 r1 b5 hc1 hc6 e1 hx6 b6 b7) o x a w → Q x a w) : (subF Try.f30 [1, 1, 1, 1, 1, 0, 1, 0, 0]).wp Try.prog Q a w := by
  obtain ⟨i1, z1⟩ := s
  obtain ⟨hS, hF⟩ := hA
  replace hS : St w0 w [Own.blk b7 (.cells #[.int .i64 z1] 3 (0, 0)), Own.blk b6 (.cells #[.string e1.Name, .int .i64 e1.C, .int .i64 e1.T, .int .i64 e1.D, .int .i64 e1.J, .int .i64 e1.O, .int .i64 e1.P] 117 (0, 0)), Own.blk b4 (.cells #[.int .i64 0, .int .i64 0] 29 (0, 0)), Own.blk b3 (.cells #[.int .i64 x2] 3 (0, 0)), Own.blk b2 (.cells #[.int .i64 x1] 3 (0, 0)), Own.blk b1 (.cells #[.slice A0 l0.length c0] 73 (0, 0))] := hS
  simp only [redo_Response.r1] at h
  refine (?_ : WE Try.prog 82 (subF Try.f30 [1, 1, 1, 1, 1, 0, 1, 0, 0]) Q [(3, .int .i64 x3), (4, .pointer (some ⟨b1, 0, none⟩)), (5, .pointer (some ⟨b2, 0, none⟩)), (6, .pointer (some ⟨b3, 0, none⟩)), (9, .pointer (some ⟨b4, 0, none⟩)), (12, .pointer (some ⟨b6, 0, none⟩)), (13, .pointer (some ⟨b7, 0, none⟩)), (46, .slice A0 l0.length c0), (47, .int .i64 (l0.length : Int)), (48, .int .i64 (i1 : Int))] w) a hF
  clear hF a
  refine we_seq fun K15 hK15 => ?_
  refine we_region [(0, 0)] rfl ?_
  refine ge_batch [0] (ans := []) (vs := [(49, .bool (decide ((i1 : Int) < (l0.length : Int))))]) (l := []) (by kernel_rfl) trivial ?_
  refine ge_nil fun a hF => hK15 _ _ ?_ a hF
  refine we_seq fun K16 hK16 => ?_
  by_cases hc7 : (i1 : Int) < (l0.length : Int)
  · rw [if_pos hc7] at h
    refine we_known (t := 49) (b := decide ((i1 : Int) < (l0.length : Int))) (v := true) (by kernel_rfl) (decide_eq_true hc7) ?_
    refine we_true (by kernel_rfl) ?_
    refine we_skip fun a hF => hK16 _ _ ?_ a hF
    refine we_seq fun K17 hK17 => ?_
    refine we_block ?_
    refine we_seq fun K18 hK18 => ?_
    refine we_region [(0, 0), (1, 0), (2, 1), (3, 2)] rfl ?_
    rcases hx9 : l0[i1]? with _ | e2
    · rw [hx9] at h; cases h
    rw [hx9] at h
    simp only [] at h
    refine ge_index (d := 50) (ty := 0) (t := 73) (el := 117) (sz := 7) (m := l0.length) (c := c0) (x := (.tmp 46)) (y := (.tmp 48)) (A := A0) (k' := .i64) (j := (i1 : Int)) (jn := i1) (b0 := blkOf A0) (o0 := offOf A0) (by kernel_rfl) (by kernel_rfl) (by kernel_rfl) (by kernel_rfl) (by kernel_rfl) ((hS.rd hR0).eqSome (pos_of_get hx9)) rfl (lt_of_get hx9) ?_
    refine ge_batch [1] (ans := [.val (.string e2.Name), .val (.int .i64 e2.C), .val (.int .i64 e2.T), .val (.int .i64 e2.D), .val (.int .i64 e2.J), .val (.int .i64 e2.O), .val (.int .i64 e2.P)]) (vs := [(51, .agg #[.string e2.Name, .int .i64 e2.C, .int .i64 e2.T, .int .i64 e2.D, .int .i64 e2.J, .int .i64 e2.O, .int .i64 e2.P])]) (l := [.loaded ⟨blkOf A0, offOf A0 + i1 * 7, none⟩ (.string e2.Name), .loaded ⟨blkOf A0, offOf A0 + i1 * 7 + 1, none⟩ (.int .i64 e2.C), .loaded ⟨blkOf A0, offOf A0 + i1 * 7 + 2, none⟩ (.int .i64 e2.T), .loaded ⟨blkOf A0, offOf A0 + i1 * 7 + 3, none⟩ (.int .i64 e2.D), .loaded ⟨blkOf A0, offOf A0 + i1 * 7 + 4, none⟩ (.int .i64 e2.J), .loaded ⟨blkOf A0, offOf A0 + i1 * 7 + 5, none⟩ (.int .i64 e2.O), .loaded ⟨blkOf A0, offOf A0 + i1 * 7 + 6, none⟩ (.int .i64 e2.P)]) (by kernel_rfl) ⟨RdL.cell (j := 0) (hS.rd hR0) hx9 rfl, RdL.cell (j := 1) (hS.rd hR0) hx9 rfl, RdL.cell (j := 2) (hS.rd hR0) hx9 rfl, RdL.cell (j := 3) (hS.rd hR0) hx9 rfl, RdL.cell (j := 4) (hS.rd hR0) hx9 rfl, RdL.cell (j := 5) (hS.rd hR0) hx9 rfl, RdL.cell (j := 6) (hS.rd hR0) hx9 rfl, trivial⟩ ?_
    refine ge_new (d := some 15) (o := .cells #[.string (⟨#[]⟩), .int .i64 0, .int .i64 0, .int .i64 0, .int .i64 0, .int .i64 0, .int .i64 0] 117) (v := fun b => .pointer (some ⟨b, 0, none⟩)) hS (fun b => by kernel_rfl) fun b8 w17 hx10 hS44 => ?_
    refine ge_set (b := b8) (j := 0) (cs := #[.string (⟨#[]⟩), .int .i64 0, .int .i64 0, .int .i64 0, .int .i64 0, .int .i64 0, .int .i64 0]) (t := 117) (vs := [.string e2.Name, .int .i64 e2.C, .int .i64 e2.T, .int .i64 e2.D, .int .i64 e2.J, .int .i64 e2.O, .int .i64 e2.P]) hS44 (by kernel_rfl) rfl rfl fun w18 hS45 => ?_
    have hS46 : St w0 w18 [Own.blk b8 (.cells #[.string e2.Name, .int .i64 e2.C, .int .i64 e2.T, .int .i64 e2.D, .int .i64 e2.J, .int .i64 e2.O, .int .i64 e2.P] 117 (0, 0)), Own.blk b7 (.cells #[.int .i64 z1] 3 (0, 0)), Own.blk b6 (.cells #[.string e1.Name, .int .i64 e1.C, .int .i64 e1.T, .int .i64 e1.D, .int .i64 e1.J, .int .i64 e1.O, .int .i64 e1.P] 117 (0, 0)), Own.blk b4 (.cells #[.int .i64 0, .int .i64 0] 29 (0, 0)), Own.blk b3 (.cells #[.int .i64 x2] 3 (0, 0)), Own.blk b2 (.cells #[.int .i64 x1] 3 (0, 0)), Own.blk b1 (.cells #[.slice A0 l0.length c0] 73 (0, 0))] := hS45
    refine ge_nil fun a hF => hK18 _ _ ?_ a hF
    refine we_seq fun K19 hK19 => ?_
    refine we_region [(0, 0), (1, 0), (2, 0), (3, 0), (4, 0)] rfl ?_
    refine ge_batch [0, 1, 2, 3, 4] (ans := [.val (.int .i64 e2.P), .val (.int .i64 e1.P)]) (vs := [(56, .bool (decide (e2.P ≥ e1.P))), (55, .int .i64 e1.P), (54, .pointer (some ⟨b6, 6, none⟩)), (53, .int .i64 e2.P), (52, .pointer (some ⟨b8, 6, none⟩))]) (l := [.loaded ⟨b8, 6, none⟩ (.int .i64 e2.P), .loaded ⟨b6, 6, none⟩ (.int .i64 e1.P)]) (by kernel_rfl) ⟨hS46.cell 0 rfl rfl, hS46.cell 2 rfl rfl, trivial⟩ ?_
    refine ge_nil fun a hF => hK19 _ _ ?_ a hF
    by_cases hc8 : e2.P ≥ e1.P
    · rw [if_pos hc8] at h
      refine we_known (t := 56) (b := decide (e2.P ≥ e1.P)) (v := true) (by kernel_rfl) (decide_eq_true hc8) ?_
      refine we_true (by kernel_rfl) ?_
      refine we_draws (by kernel_rfl) [(0, 0), (1, 0), (2, 0), (3, 0), (4, 1), (5, 0), (6, 2)] (by kernel_rfl) ?_
      have hS47 := hS46.drew
      refine ge_batch [0, 1, 2, 3] (ans := [.val (.int .i64 z1), .val (.int .i64 e2.C)]) (vs := [(60, .int .i64 x3), (59, .int .i64 e2.C), (58, .pointer (some ⟨b8, 1, none⟩)), (57, .int .i64 z1)]) (l := [.loaded ⟨b7, 0, none⟩ (.int .i64 z1), .loaded ⟨b8, 1, none⟩ (.int .i64 e2.C)]) (by kernel_rfl) ⟨hS47.cell 1 rfl rfl, hS47.cell 0 rfl rfl, trivial⟩ ?_
      refine ge_call (d := some 61) (f := 57) (args := #[.int .i64 e2.C, .int .i64 x3]) (by kernel_rfl) (redo_undone_ok e2.C x3 _ _ rfl) ?_
      rintro _ w19 ⟨rfl, hS48⟩
      refine ⟨_, rfl, hS48.below, ?_⟩
      have hS49 := hS47.call hS48
      refine ge_batch [5] (ans := []) (vs := [(62, .int .i64 (gmax z1 (redo_undone.f e2.C x3)))]) (l := []) (by kernel_rfl) trivial ?_
      have hS50 := hS49.bring 1 rfl
      refine ge_set (b := b7) (j := 0) (cs := #[.int .i64 z1]) (t := 3) (vs := [.int .i64 (gmax z1 (redo_undone.f e2.C x3))]) hS50 (by kernel_rfl) rfl rfl fun w20 hS51 => ?_
      have hS52 : St w0 w20 [Own.blk b7 (.cells #[.int .i64 (gmax z1 (redo_undone.f e2.C x3))] 3 (0, 0)), Own.blk b8 (.cells #[.string e2.Name, .int .i64 e2.C, .int .i64 e2.T, .int .i64 e2.D, .int .i64 e2.J, .int .i64 e2.O, .int .i64 e2.P] 117 (0, 0)), Own.blk b6 (.cells #[.string e1.Name, .int .i64 e1.C, .int .i64 e1.T, .int .i64 e1.D, .int .i64 e1.J, .int .i64 e1.O, .int .i64 e1.P] 117 (0, 0)), Own.blk b4 (.cells #[.int .i64 0, .int .i64 0] 29 (0, 0)), Own.blk b3 (.cells #[.int .i64 x2] 3 (0, 0)), Own.blk b2 (.cells #[.int .i64 x1] 3 (0, 0)), Own.blk b1 (.cells #[.slice A0 l0.length c0] 73 (0, 0))] := hS51
      refine ge_nil fun a hF => hK17 _ _ ?_ a hF
      refine we_region [(0, 0), (1, 0)] rfl ?_
      refine ge_addn (d := 63) (ty := 3) (x := (.tmp 48)) (y := (.const (.int .i64 1))) (t := 3) (t2 := 3) (k := .i64) (m := i1) (by kernel_rfl) (by kernel_rfl) (by kernel_rfl) (by have h0 := hR0.small; omega) ?_
      refine ge_batch [1] (ans := []) (vs := [(48, .int .i64 ((i1 + 1 : Nat) : Int))]) (l := []) (by kernel_rfl) trivial ?_
      have hS53 := hS52.bring 6 rfl
      have hS54 := hS53.bring 6 rfl
      have hS55 := hS54.bring 6 rfl
      have hS56 := hS55.bring 6 rfl
      have hS57 := hS56.bring 6 rfl
      have hS58 := hS57.bring 5 rfl
      have hS59 := hS58.takeN 6
      obtain rfl := Option.some.inj h
      exact ge_nil fun a hF => hQ _ _ _ (Outs.again ⟨hS59, hF.weaken ⟨by kernel_rfl, by kernel_rfl, by kernel_rfl, by kernel_rfl, by kernel_rfl, by kernel_rfl, by kernel_rfl, by kernel_rfl, by kernel_rfl, by kernel_rfl, trivial⟩⟩)
    · rw [if_neg hc8] at h
      refine we_known (t := 56) (b := decide (e2.P ≥ e1.P)) (v := false) (by kernel_rfl) (decide_eq_false hc8) ?_
      refine we_false (by kernel_rfl) ?_
      refine we_skip fun a hF => hK17 _ _ ?_ a hF
      refine we_region [(0, 0), (1, 0)] rfl ?_
      refine ge_addn (d := 63) (ty := 3) (x := (.tmp 48)) (y := (.const (.int .i64 1))) (t := 3) (t2 := 3) (k := .i64) (m := i1) (by kernel_rfl) (by kernel_rfl) (by kernel_rfl) (by have h0 := hR0.small; omega) ?_
      refine ge_batch [1] (ans := []) (vs := [(48, .int .i64 ((i1 + 1 : Nat) : Int))]) (l := []) (by kernel_rfl) trivial ?_
      have hS60 := hS46.bring 6 rfl
      have hS61 := hS60.bring 6 rfl
      have hS62 := hS61.bring 6 rfl
      have hS63 := hS62.bring 6 rfl
      have hS64 := hS63.bring 6 rfl
      have hS65 := hS64.bring 6 rfl
      have hS66 := hS65.takeN 6
      obtain rfl := Option.some.inj h
      exact ge_nil fun a hF => hQ _ _ _ (Outs.again ⟨hS66, hF.weaken ⟨by kernel_rfl, by kernel_rfl, by kernel_rfl, by kernel_rfl, by kernel_rfl, by kernel_rfl, by kernel_rfl, by kernel_rfl, by kernel_rfl, by kernel_rfl, trivial⟩⟩)
  · rw [if_neg hc7] at h
    refine we_known (t := 49) (b := decide ((i1 : Int) < (l0.length : Int))) (v := false) (by kernel_rfl) (decide_eq_false hc7) ?_
    refine we_false (by kernel_rfl) ?_
    have hS67 := hS.bring 5 rfl
    have hS68 := hS67.bring 5 rfl
    have hS69 := hS68.bring 5 rfl
    have hS70 := hS69.bring 5 rfl
    have hS71 := hS70.bring 5 rfl
    have hS72 := hS71.bring 5 rfl
    obtain rfl := Option.some.inj h
    exact we_exit fun a hF => hQ _ _ _ (Outs.out nofun (Exits.here ⟨hS72, hF.weaken ⟨by kernel_rfl, by kernel_rfl, by kernel_rfl, by kernel_rfl, by kernel_rfl, by kernel_rfl, trivial⟩⟩))
theorem redo_Response_ok (K : Nat) (l0 : List STask) (A0 : Option Addr) (c0 : Nat) (x1 : Int) (x2 : Int) (x3 : Int) (w0 : World) (hR0 : RdL w0 A0 l0) (hL0 : l0.length ≤ c0) (r : Int × SFault) (h : redo_Response.f K l0 x1 x2 x3 = some r) :
    Calls Try.prog 30 #[.slice A0 l0.length c0, .int .i64 x1, .int .i64 x2, .int .i64 x3] w0 (redo_Response.Post w0 r) := by
  have hS := St.start w0
  unfold redo_Response.f at h
  refine calls_enter (n := 82) (args := [.slice A0 l0.length c0, .int .i64 x1, .int .i64 x2, .int .i64 x3]) (fn := Try.f30) rfl rfl rfl rfl ?_
  show WE _ _ _ _ [(0, .slice A0 l0.length c0), (1, .int .i64 x1), (2, .int .i64 x2), (3, .int .i64 x3)] _
  refine we_seq fun K1 hK1 => ?_
  refine we_region [(0, 1), (1, 1), (2, 1), (3, 0), (4, 1)] rfl ?_
  refine ge_new (d := some 4) (o := .cells #[.slice A0 l0.length c0] 73) (v := fun b => .pointer (some ⟨b, 0, none⟩)) hS (fun b => by kernel_rfl) fun b1 w1 hx1 hS1 => ?_
  refine ge_new (d := some 5) (o := .cells #[.int .i64 x1] 3) (v := fun b => .pointer (some ⟨b, 0, none⟩)) hS1 (fun b => by kernel_rfl) fun b2 w2 hx2 hS2 => ?_
  refine ge_new (d := some 6) (o := .cells #[.int .i64 x2] 3) (v := fun b => .pointer (some ⟨b, 0, none⟩)) hS2 (fun b => by kernel_rfl) fun b3 w3 hx3 hS3 => ?_
  refine ge_batch [3] (ans := []) (vs := [(8, .int .i64 0)]) (l := []) (by kernel_rfl) trivial ?_
  refine ge_new (d := some 9) (o := .cells #[.int .i64 0, .int .i64 0] 29) (v := fun b => .pointer (some ⟨b, 0, none⟩)) hS3 (fun b => by kernel_rfl) fun b4 w4 hx4 hS4 => ?_
  refine ge_nil fun a hF => hK1 _ _ ?_ a hF
  refine we_seq fun K2 hK2 => ?_
  refine we_seq fun K3 hK3 => ?_
  refine we_region [(0, 0), (1, 0), (2, 1), (3, 0), (4, 0), (5, 0), (6, 1), (7, 0), (8, 2)] rfl ?_
  rcases hq1 : fixed_Response.f K l0 x1 0 with _ | r1
  · rw [hq1] at h; cases h
  rw [hq1] at h
  simp only [] at h
  refine ge_batch [0, 1] (ans := [.val (.slice A0 l0.length c0), .val (.int .i64 x1)]) (vs := [(19, .int .i64 x1), (18, .slice A0 l0.length c0)]) (l := [.loaded ⟨b1, 0, none⟩ (.slice A0 l0.length c0), .loaded ⟨b2, 0, none⟩ (.int .i64 x1)]) (by kernel_rfl) ⟨hS4.cell 3 rfl rfl, hS4.cell 2 rfl rfl, trivial⟩ ?_
  refine ge_call (d := some 20) (f := 56) (args := #[.slice A0 l0.length c0, .int .i64 x1, .int .i64 0]) (by kernel_rfl) (fixed_Response_ok K l0 A0 c0 x1 0 _ (hS4.rd hR0) hL0 _ hq1) ?_
  rintro _ w5 ⟨rfl, hS5⟩
  refine ⟨_, rfl, hS5.below, ?_⟩
  have hS6 := hS4.call hS5
  refine ge_batch [3, 4, 5] (ans := []) (vs := [(22, .agg #[.int .i64 r1.2.Code, .int .i64 r1.2.At]), (21, .int .i64 r1.1), (17, .tuple #[.int .i64 r1.1, .agg #[.int .i64 r1.2.Code, .int .i64 r1.2.At]])]) (l := []) (by kernel_rfl) trivial ?_
  refine ge_new (d := some 11) (o := .cells #[.int .i64 0, .int .i64 0] 29) (v := fun b => .pointer (some ⟨b, 0, none⟩)) hS6 (fun b => by kernel_rfl) fun b5 w6 hx5 hS7 => ?_
  refine ge_batch [7] (ans := []) (vs := [(10, .int .i64 r1.1)]) (l := []) (by kernel_rfl) trivial ?_
  refine ge_set (b := b5) (j := 0) (cs := #[.int .i64 0, .int .i64 0]) (t := 29) (vs := [.int .i64 r1.2.Code, .int .i64 r1.2.At]) hS7 (by kernel_rfl) rfl rfl fun w7 hS8 => ?_
  have hS9 : St w0 w7 [Own.blk b5 (.cells #[.int .i64 r1.2.Code, .int .i64 r1.2.At] 29 (0, 0)), Own.blk b4 (.cells #[.int .i64 0, .int .i64 0] 29 (0, 0)), Own.blk b3 (.cells #[.int .i64 x2] 3 (0, 0)), Own.blk b2 (.cells #[.int .i64 x1] 3 (0, 0)), Own.blk b1 (.cells #[.slice A0 l0.length c0] 73 (0, 0))] := hS8
  refine ge_nil fun a hF => hK3 _ _ ?_ a hF
  refine we_seq fun K4 hK4 => ?_
  refine we_region [(0, 0), (1, 0), (2, 0)] rfl ?_
  refine ge_batch [0, 1, 2] (ans := [.val (.int .i64 r1.2.Code)]) (vs := [(25, .bool (r1.2.Code != 0)), (24, .int .i64 r1.2.Code), (23, .pointer (some ⟨b5, 0, none⟩))]) (l := [.loaded ⟨b5, 0, none⟩ (.int .i64 r1.2.Code)]) (by kernel_rfl) ⟨hS9.cell 0 rfl rfl, trivial⟩ ?_
  refine ge_nil fun a hF => hK4 _ _ ?_ a hF
  by_cases hc1 : r1.2.Code = 0
  · rw [if_pos hc1] at h
    refine we_known (t := 25) (b := (r1.2.Code != 0)) (v := false) (by kernel_rfl) (bne_eq_false_iff_eq.2 hc1) ?_
    refine we_false (by kernel_rfl) ?_
    refine we_skip fun a hF => hK2 _ _ ?_ a hF
    refine we_seq fun K5 hK5 => ?_
    rcases hq2 : redo_Response.p0 x2 x3 with _ | (_ | rr2)
    · rw [hq2] at h; cases h
    · rw [hq2] at h
      simp only [] at h
      refine we_keep (e' := [(0, .slice A0 l0.length c0), (1, .int .i64 x1), (2, .int .i64 x2), (3, .int .i64 x3), (4, .pointer (some ⟨b1, 0, none⟩)), (5, .pointer (some ⟨b2, 0, none⟩)), (6, .pointer (some ⟨b3, 0, none⟩)), (8, .int .i64 0), (9, .pointer (some ⟨b4, 0, none⟩)), (10, .int .i64 r1.1), (11, .pointer (some ⟨b5, 0, none⟩)), (17, .tuple #[.int .i64 r1.1, .agg #[.int .i64 r1.2.Code, .int .i64 r1.2.At]]), (18, .slice A0 l0.length c0), (19, .int .i64 x1), (20, .tuple #[.int .i64 r1.1, .agg #[.int .i64 r1.2.Code, .int .i64 r1.2.At]]), (21, .int .i64 r1.1), (22, .agg #[.int .i64 r1.2.Code, .int .i64 r1.2.At]), (23, .pointer (some ⟨b5, 0, none⟩)), (24, .int .i64 r1.2.Code), (25, .bool false)]) ⟨by kernel_rfl, by kernel_rfl, by kernel_rfl, by kernel_rfl, by kernel_rfl, by kernel_rfl, by kernel_rfl, by kernel_rfl, by kernel_rfl, by kernel_rfl, by kernel_rfl, by kernel_rfl, by kernel_rfl, by kernel_rfl, by kernel_rfl, by kernel_rfl, by kernel_rfl, by kernel_rfl, by kernel_rfl, by kernel_rfl, trivial⟩ (redo_Response_p0 K w0 l0 A0 c0 x1 x2 x3 hR0 hL0 b1 b2 b3 b4 r1 b5 hc1 _ hq2 _ hS9 _ ?_)
      rintro _ a w12 ⟨rfl, hS31, hF⟩
      replace hS31 : St w0 w12 [Own.blk b4 (.cells #[.int .i64 0, .int .i64 0] 29 (0, 0)), Own.blk b3 (.cells #[.int .i64 x2] 3 (0, 0)), Own.blk b2 (.cells #[.int .i64 x1] 3 (0, 0)), Own.blk b1 (.cells #[.slice A0 l0.length c0] 73 (0, 0))] := hS31
      refine hK5 [(3, .int .i64 x3), (4, .pointer (some ⟨b1, 0, none⟩)), (5, .pointer (some ⟨b2, 0, none⟩)), (6, .pointer (some ⟨b3, 0, none⟩)), (9, .pointer (some ⟨b4, 0, none⟩))] w12 ?_ a hF
      refine we_seq fun K11 hK11 => ?_
      refine we_region [(0, 0), (1, 0), (2, 0), (3, 0), (4, 1), (5, 2)] rfl ?_
      refine ge_batch [0, 1] (ans := [.val (.slice A0 l0.length c0), .val (.int .i64 x1)]) (vs := [(43, .int .i64 x1), (42, .slice A0 l0.length c0)]) (l := [.loaded ⟨b1, 0, none⟩ (.slice A0 l0.length c0), .loaded ⟨b2, 0, none⟩ (.int .i64 x1)]) (by kernel_rfl) ⟨hS31.cell 3 rfl rfl, hS31.cell 2 rfl rfl, trivial⟩ ?_
      by_cases hc6 : 0 ≤ x1
      · rw [if_pos hc6] at h
        rcases hx6 : l0[(x1).toNat]? with _ | e1
        · rw [hx6] at h; cases h
        rw [hx6] at h
        simp only [] at h
        refine ge_index (d := 44) (ty := 0) (t := 73) (el := 117) (sz := 7) (m := l0.length) (c := c0) (x := (.tmp 42)) (y := (.tmp 43)) (A := A0) (k' := .i64) (j := x1) (jn := ((x1).toNat)) (b0 := blkOf A0) (o0 := offOf A0) (by kernel_rfl) (by kernel_rfl) (by kernel_rfl) (by kernel_rfl) (by kernel_rfl) ((hS31.rd hR0).eqSome (pos_of_get hx6)) (Int.toNat_of_nonneg hc6).symm (lt_of_get hx6) ?_
        refine ge_batch [3] (ans := [.val (.string e1.Name), .val (.int .i64 e1.C), .val (.int .i64 e1.T), .val (.int .i64 e1.D), .val (.int .i64 e1.J), .val (.int .i64 e1.O), .val (.int .i64 e1.P)]) (vs := [(45, .agg #[.string e1.Name, .int .i64 e1.C, .int .i64 e1.T, .int .i64 e1.D, .int .i64 e1.J, .int .i64 e1.O, .int .i64 e1.P])]) (l := [.loaded ⟨blkOf A0, offOf A0 + ((x1).toNat) * 7, none⟩ (.string e1.Name), .loaded ⟨blkOf A0, offOf A0 + ((x1).toNat) * 7 + 1, none⟩ (.int .i64 e1.C), .loaded ⟨blkOf A0, offOf A0 + ((x1).toNat) * 7 + 2, none⟩ (.int .i64 e1.T), .loaded ⟨blkOf A0, offOf A0 + ((x1).toNat) * 7 + 3, none⟩ (.int .i64 e1.D), .loaded ⟨blkOf A0, offOf A0 + ((x1).toNat) * 7 + 4, none⟩ (.int .i64 e1.J), .loaded ⟨blkOf A0, offOf A0 + ((x1).toNat) * 7 + 5, none⟩ (.int .i64 e1.O), .loaded ⟨blkOf A0, offOf A0 + ((x1).toNat) * 7 + 6, none⟩ (.int .i64 e1.P)]) (by kernel_rfl) ⟨RdL.cell (j := 0) (hS31.rd hR0) hx6 rfl, RdL.cell (j := 1) (hS31.rd hR0) hx6 rfl, RdL.cell (j := 2) (hS31.rd hR0) hx6 rfl, RdL.cell (j := 3) (hS31.rd hR0) hx6 rfl, RdL.cell (j := 4) (hS31.rd hR0) hx6 rfl, RdL.cell (j := 5) (hS31.rd hR0) hx6 rfl, RdL.cell (j := 6) (hS31.rd hR0) hx6 rfl, trivial⟩ ?_
        refine ge_new (d := some 12) (o := .cells #[.string (⟨#[]⟩), .int .i64 0, .int .i64 0, .int .i64 0, .int .i64 0, .int .i64 0, .int .i64 0] 117) (v := fun b => .pointer (some ⟨b, 0, none⟩)) hS31 (fun b => by kernel_rfl) fun b6 w13 hx7 hS32 => ?_
        refine ge_set (b := b6) (j := 0) (cs := #[.string (⟨#[]⟩), .int .i64 0, .int .i64 0, .int .i64 0, .int .i64 0, .int .i64 0, .int .i64 0]) (t := 117) (vs := [.string e1.Name, .int .i64 e1.C, .int .i64 e1.T, .int .i64 e1.D, .int .i64 e1.J, .int .i64 e1.O, .int .i64 e1.P]) hS32 (by kernel_rfl) rfl rfl fun w14 hS33 => ?_
        have hS34 : St w0 w14 [Own.blk b6 (.cells #[.string e1.Name, .int .i64 e1.C, .int .i64 e1.T, .int .i64 e1.D, .int .i64 e1.J, .int .i64 e1.O, .int .i64 e1.P] 117 (0, 0)), Own.blk b4 (.cells #[.int .i64 0, .int .i64 0] 29 (0, 0)), Own.blk b3 (.cells #[.int .i64 x2] 3 (0, 0)), Own.blk b2 (.cells #[.int .i64 x1] 3 (0, 0)), Own.blk b1 (.cells #[.slice A0 l0.length c0] 73 (0, 0))] := hS33
        refine ge_nil fun a hF => hK11 _ _ ?_ a hF
        refine we_seq fun K12 hK12 => ?_
        refine we_region [(0, 1), (1, 2)] rfl ?_
        refine ge_new (d := some 13) (o := .cells #[.int .i64 0] 3) (v := fun b => .pointer (some ⟨b, 0, none⟩)) hS34 (fun b => by kernel_rfl) fun b7 w15 hx8 hS35 => ?_
        refine ge_set (b := b7) (j := 0) (cs := #[.int .i64 0]) (t := 3) (vs := [.int .i64 0]) hS35 (by kernel_rfl) rfl rfl fun w16 hS36 => ?_
        have hS37 : St w0 w16 [Own.blk b7 (.cells #[.int .i64 0] 3 (0, 0)), Own.blk b6 (.cells #[.string e1.Name, .int .i64 e1.C, .int .i64 e1.T, .int .i64 e1.D, .int .i64 e1.J, .int .i64 e1.O, .int .i64 e1.P] 117 (0, 0)), Own.blk b4 (.cells #[.int .i64 0, .int .i64 0] 29 (0, 0)), Own.blk b3 (.cells #[.int .i64 x2] 3 (0, 0)), Own.blk b2 (.cells #[.int .i64 x1] 3 (0, 0)), Own.blk b1 (.cells #[.slice A0 l0.length c0] 73 (0, 0))] := hS36
        refine ge_nil fun a hF => hK12 _ _ ?_ a hF
        refine we_seq fun K13 hK13 => ?_
        refine we_seq fun K14 hK14 => ?_
        refine we_region [(0, 0), (1, 0), (2, 0)] rfl ?_
        refine ge_batch [0, 1, 2] (ans := [.val (.slice A0 l0.length c0)]) (vs := [(48, .int .i64 0), (47, .int .i64 (l0.length : Int)), (46, .slice A0 l0.length c0)]) (l := [.loaded ⟨b1, 0, none⟩ (.slice A0 l0.length c0)]) (by kernel_rfl) ⟨hS37.cell 5 rfl rfl, trivial⟩ ?_
        refine ge_nil fun a hF => hK14 _ _ ?_ a hF
        refine we_block ?_
        have hS38 := hS37.bring 5 rfl
        have hS39 := hS38.bring 5 rfl
        have hS40 := hS39.bring 5 rfl
        have hS41 := hS40.bring 5 rfl
        have hS42 := hS41.bring 5 rfl
        have hS43 := hS42.bring 5 rfl
        rcases hq4 : iter (redo_Response.r1 l0 x3 e1) K (0, 0) with _ | (z3 | rr1)
        · rw [hq4] at h; cases h
        · rw [hq4] at h
          simp only [] at h
          refine we_iter (A := redo_Response.A1 K w0 l0 A0 c0 x1 x2 x3 hR0 hL0 b1 b2 b3 b4 r1 b5 hc1 hc6 e1 hx6 b6 b7) (B := redo_Response.B1 K w0 l0 A0 c0 x1 x2 x3 hR0 hL0 b1 b2 b3 b4 r1 b5 hc1 hc6 e1 hx6 b6 b7) hq4 (fun a hF => ⟨hS43, hF.weaken ⟨by kernel_rfl, by kernel_rfl, by kernel_rfl, by kernel_rfl, by kernel_rfl, by kernel_rfl, by kernel_rfl, by kernel_rfl, by kernel_rfl, by kernel_rfl, trivial⟩⟩) (fun s o hf a w hA Q hQ => redo_Response_r1 K w0 l0 A0 c0 x1 x2 x3 hR0 hL0 b1 b2 b3 b4 r1 b5 hc1 hc6 e1 hx6 b6 b7 s o hf a w hA Q hQ) ?_
          rintro _ a w21 _ ⟨rfl, hS73, hF⟩
          replace hS73 : St w0 w21 [Own.blk b7 (.cells #[.int .i64 z3] 3 (0, 0)), Own.blk b6 (.cells #[.string e1.Name, .int .i64 e1.C, .int .i64 e1.T, .int .i64 e1.D, .int .i64 e1.J, .int .i64 e1.O, .int .i64 e1.P] 117 (0, 0)), Own.blk b4 (.cells #[.int .i64 0, .int .i64 0] 29 (0, 0)), Own.blk b3 (.cells #[.int .i64 x2] 3 (0, 0)), Own.blk b2 (.cells #[.int .i64 x1] 3 (0, 0)), Own.blk b1 (.cells #[.slice A0 l0.length c0] 73 (0, 0))] := hS73
          refine hK13 [(4, .pointer (some ⟨b1, 0, none⟩)), (5, .pointer (some ⟨b2, 0, none⟩)), (6, .pointer (some ⟨b3, 0, none⟩)), (9, .pointer (some ⟨b4, 0, none⟩)), (12, .pointer (some ⟨b6, 0, none⟩)), (13, .pointer (some ⟨b7, 0, none⟩))] w21 ?_ a hF
          refine we_seq fun K20 hK20 => ?_
          refine we_region [(0, 0), (1, 0), (2, 0), (3, 0), (4, 0), (5, 0), (6, 0), (7, 0), (8, 1), (9, 0)] rfl ?_
          rcases hq5 : fixed_Settle_1.f K e1.C (IntKind.i64.wrap (e1.D - e1.J)) e1 x2 z3 l0 x1 with _ | r2
          · rw [hq5] at h; cases h
          rw [hq5] at h
          simp only [] at h
          refine ge_batch [0, 1, 2, 3, 4, 5, 6, 7] (ans := [.val (.int .i64 e1.C), .val (.int .i64 e1.D), .val (.int .i64 e1.J)]) (vs := [(71, .func (.func 59) #[] #[.pointer (some ⟨b6, 0, none⟩), .pointer (some ⟨b3, 0, none⟩), .pointer (some ⟨b7, 0, none⟩), .pointer (some ⟨b1, 0, none⟩), .pointer (some ⟨b2, 0, none⟩)]), (70, .int .i64 (IntKind.i64.wrap (e1.D - e1.J))), (69, .int .i64 e1.J), (68, .pointer (some ⟨b6, 4, none⟩)), (67, .int .i64 e1.D), (66, .pointer (some ⟨b6, 3, none⟩)), (65, .int .i64 e1.C), (64, .pointer (some ⟨b6, 1, none⟩))]) (l := [.loaded ⟨b6, 1, none⟩ (.int .i64 e1.C), .loaded ⟨b6, 3, none⟩ (.int .i64 e1.D), .loaded ⟨b6, 4, none⟩ (.int .i64 e1.J)]) (by kernel_rfl) ⟨hS73.cell 1 rfl rfl, hS73.cell 1 rfl rfl, hS73.cell 1 rfl rfl, trivial⟩ ?_
          refine ge_call (d := some 72) (f := 58) (args := #[.int .i64 e1.C, .int .i64 (IntKind.i64.wrap (e1.D - e1.J)), .func (.func 59) #[] #[.pointer (some ⟨b6, 0, none⟩), .pointer (some ⟨b3, 0, none⟩), .pointer (some ⟨b7, 0, none⟩), .pointer (some ⟨b1, 0, none⟩), .pointer (some ⟨b2, 0, none⟩)]]) (by kernel_rfl) (fixed_Settle_1_ok K e1.C (IntKind.i64.wrap (e1.D - e1.J)) b6 e1 b3 x2 b7 z3 b1 l0 A0 c0 b2 x1 _ (hS73.globOf 1 rfl) (hS73.globOf 3 rfl) (hS73.globOf 0 rfl) (hS73.rd hR0) hL0 (hS73.globOf 5 rfl) (hS73.globOf 4 rfl) _ hq5) ?_
          rintro _ w22 ⟨rfl, hS74⟩
          refine ⟨_, rfl, hS74.below, ?_⟩
          have hS75 := hS73.call hS74
          refine ge_batch [9] (ans := []) (vs := [(16, .int .i64 r2)]) (l := []) (by kernel_rfl) trivial ?_
          refine ge_nil fun a hF => hK20 _ _ ?_ a hF
          refine we_seq fun K21 hK21 => ?_
          refine we_seq fun K22 hK22 => ?_
          refine we_region [(0, 0), (1, 0)] rfl ?_
          refine ge_batch [0, 1] (ans := []) (vs := [(74, .bool (r2 == 0)), (73, .int .i64 r2)]) (l := []) (by kernel_rfl) trivial ?_
          refine ge_nil fun a hF => hK22 _ _ ?_ a hF
          by_cases hc9 : r2 = 0
          · rw [if_pos hc9] at h
            refine we_known (t := 74) (b := (r2 == 0)) (v := true) (by kernel_rfl) (beq_iff_eq.2 hc9) ?_
            refine we_true (by kernel_rfl) ?_
            refine we_seq fun K23 hK23 => ?_
            refine we_draws (by kernel_rfl) [(0, 0), (1, 0), (2, 0), (3, 2)] (by kernel_rfl) ?_
            have hS76 := hS75.drew
            refine ge_batch [0, 1, 2] (ans := [.val (.int .i64 x1)]) (vs := [(8, .int .i64 0), (76, .agg #[.int .i64 13, .int .i64 x1]), (75, .int .i64 x1)]) (l := [.loaded ⟨b2, 0, none⟩ (.int .i64 x1)]) (by kernel_rfl) ⟨hS76.cell 4 rfl rfl, trivial⟩ ?_
            have hS77 := hS76.bring 2 rfl
            refine ge_set (b := b4) (j := 0) (cs := #[.int .i64 0, .int .i64 0]) (t := 29) (vs := [.int .i64 13, .int .i64 x1]) hS77 (by kernel_rfl) rfl rfl fun w23 hS78 => ?_
            have hS79 : St w0 w23 [Own.blk b4 (.cells #[.int .i64 13, .int .i64 x1] 29 (0, 0)), Own.blk b7 (.cells #[.int .i64 z3] 3 (0, 0)), Own.blk b6 (.cells #[.string e1.Name, .int .i64 e1.C, .int .i64 e1.T, .int .i64 e1.D, .int .i64 e1.J, .int .i64 e1.O, .int .i64 e1.P] 117 (0, 0)), Own.blk b3 (.cells #[.int .i64 x2] 3 (0, 0)), Own.blk b2 (.cells #[.int .i64 x1] 3 (0, 0)), Own.blk b1 (.cells #[.slice A0 l0.length c0] 73 (0, 0))] := hS78
            refine ge_nil fun a hF => hK23 _ _ ?_ a hF
            have hS80 := hS79.takeN 0
            obtain rfl := Option.some.inj h
            exact we_ret (post_ret (rs := [.tmp 8, .cell 9 29]) (ans := [.val (.int .i64 13), .val (.int .i64 x1)]) (vs := [.int .i64 0, .agg #[.int .i64 13, .int .i64 x1]]) (l := [.loaded ⟨b4, 0, none⟩ (.int .i64 13), .loaded ⟨b4, 1, none⟩ (.int .i64 x1)]) rfl (by kernel_rfl) ⟨hS79.cell 0 rfl rfl, hS79.cell 0 rfl rfl, trivial⟩ ⟨rfl, hS80⟩)
          · rw [if_neg hc9] at h
            refine we_known (t := 74) (b := (r2 == 0)) (v := false) (by kernel_rfl) (beq_eq_false_iff_ne.2 hc9) ?_
            refine we_false (by kernel_rfl) ?_
            refine we_skip fun a hF => hK21 _ _ ?_ a hF
            refine we_seq fun K24 hK24 => ?_
            refine we_region [(0, 0), (1, 0), (2, 0), (3, 0), (4, 0), (5, 0), (6, 2)] rfl ?_
            refine ge_batch [0, 1, 2, 3, 4, 5] (ans := [.val (.int .i64 e1.J)]) (vs := [(8, .int .i64 (IntKind.i64.wrap (r2 + e1.J))), (81, .agg #[.int .i64 0, .int .i64 0]), (80, .int .i64 (IntKind.i64.wrap (r2 + e1.J))), (79, .int .i64 e1.J), (78, .pointer (some ⟨b6, 4, none⟩)), (77, .int .i64 r2)]) (l := [.loaded ⟨b6, 4, none⟩ (.int .i64 e1.J)]) (by kernel_rfl) ⟨hS75.cell 1 rfl rfl, trivial⟩ ?_
            have hS81 := hS75.bring 2 rfl
            refine ge_set (b := b4) (j := 0) (cs := #[.int .i64 0, .int .i64 0]) (t := 29) (vs := [.int .i64 0, .int .i64 0]) hS81 (by kernel_rfl) rfl rfl fun w24 hS82 => ?_
            have hS83 : St w0 w24 [Own.blk b4 (.cells #[.int .i64 0, .int .i64 0] 29 (0, 0)), Own.blk b7 (.cells #[.int .i64 z3] 3 (0, 0)), Own.blk b6 (.cells #[.string e1.Name, .int .i64 e1.C, .int .i64 e1.T, .int .i64 e1.D, .int .i64 e1.J, .int .i64 e1.O, .int .i64 e1.P] 117 (0, 0)), Own.blk b3 (.cells #[.int .i64 x2] 3 (0, 0)), Own.blk b2 (.cells #[.int .i64 x1] 3 (0, 0)), Own.blk b1 (.cells #[.slice A0 l0.length c0] 73 (0, 0))] := hS82
            refine ge_nil fun a hF => hK24 _ _ ?_ a hF
            have hS84 := hS83.takeN 0
            obtain rfl := Option.some.inj h
            exact we_ret (post_ret (rs := [.tmp 8, .cell 9 29]) (ans := [.val (.int .i64 0), .val (.int .i64 0)]) (vs := [.int .i64 (IntKind.i64.wrap (r2 + e1.J)), .agg #[.int .i64 0, .int .i64 0]]) (l := [.loaded ⟨b4, 0, none⟩ (.int .i64 0), .loaded ⟨b4, 1, none⟩ (.int .i64 0)]) rfl (by kernel_rfl) ⟨hS83.cell 0 rfl rfl, hS83.cell 0 rfl rfl, trivial⟩ ⟨rfl, hS84⟩)
        · rw [hq4] at h
          simp only [] at h
          refine we_iter (A := redo_Response.A1 K w0 l0 A0 c0 x1 x2 x3 hR0 hL0 b1 b2 b3 b4 r1 b5 hc1 hc6 e1 hx6 b6 b7) (B := redo_Response.B1 K w0 l0 A0 c0 x1 x2 x3 hR0 hL0 b1 b2 b3 b4 r1 b5 hc1 hc6 e1 hx6 b6 b7) hq4 (fun a hF => ⟨hS43, hF.weaken ⟨by kernel_rfl, by kernel_rfl, by kernel_rfl, by kernel_rfl, by kernel_rfl, by kernel_rfl, by kernel_rfl, by kernel_rfl, by kernel_rfl, by kernel_rfl, trivial⟩⟩) (fun s o hf a w hA Q hQ => redo_Response_r1 K w0 l0 A0 c0 x1 x2 x3 hR0 hL0 b1 b2 b3 b4 r1 b5 hc1 hc6 e1 hx6 b6 b7 s o hf a w hA Q hQ) ?_
          rintro _ a w1 _ ⟨rfl, hb⟩
          obtain rfl := Option.some.inj h
          exact hb
      · rw [if_neg hc6] at h
        cases h
    · rw [hq2] at h
      simp only [] at h
      refine we_keep (e' := [(0, .slice A0 l0.length c0), (1, .int .i64 x1), (2, .int .i64 x2), (3, .int .i64 x3), (4, .pointer (some ⟨b1, 0, none⟩)), (5, .pointer (some ⟨b2, 0, none⟩)), (6, .pointer (some ⟨b3, 0, none⟩)), (8, .int .i64 0), (9, .pointer (some ⟨b4, 0, none⟩)), (10, .int .i64 r1.1), (11, .pointer (some ⟨b5, 0, none⟩)), (17, .tuple #[.int .i64 r1.1, .agg #[.int .i64 r1.2.Code, .int .i64 r1.2.At]]), (18, .slice A0 l0.length c0), (19, .int .i64 x1), (20, .tuple #[.int .i64 r1.1, .agg #[.int .i64 r1.2.Code, .int .i64 r1.2.At]]), (21, .int .i64 r1.1), (22, .agg #[.int .i64 r1.2.Code, .int .i64 r1.2.At]), (23, .pointer (some ⟨b5, 0, none⟩)), (24, .int .i64 r1.2.Code), (25, .bool false)]) ⟨by kernel_rfl, by kernel_rfl, by kernel_rfl, by kernel_rfl, by kernel_rfl, by kernel_rfl, by kernel_rfl, by kernel_rfl, by kernel_rfl, by kernel_rfl, by kernel_rfl, by kernel_rfl, by kernel_rfl, by kernel_rfl, by kernel_rfl, by kernel_rfl, by kernel_rfl, by kernel_rfl, by kernel_rfl, by kernel_rfl, trivial⟩ (redo_Response_p0 K w0 l0 A0 c0 x1 x2 x3 hR0 hL0 b1 b2 b3 b4 r1 b5 hc1 _ hq2 _ hS9 _ ?_)
      rintro _ a w1 ⟨_, rfl, hb⟩
      obtain rfl := Option.some.inj h
      exact hb
  · rw [if_neg hc1] at h
    refine we_known (t := 25) (b := (r1.2.Code != 0)) (v := true) (by kernel_rfl) (bne_iff_ne.2 hc1) ?_
    refine we_true (by kernel_rfl) ?_
    refine we_seq fun K25 hK25 => ?_
    refine we_draws (by kernel_rfl) [(0, 0), (1, 0), (2, 2)] (by kernel_rfl) ?_
    have hS85 := hS9.drew
    refine ge_batch [0, 1] (ans := [.val (.int .i64 r1.2.Code), .val (.int .i64 r1.2.At)]) (vs := [(8, .int .i64 0), (26, .agg #[.int .i64 r1.2.Code, .int .i64 r1.2.At])]) (l := [.loaded ⟨b5, 0, none⟩ (.int .i64 r1.2.Code), .loaded ⟨b5, 1, none⟩ (.int .i64 r1.2.At)]) (by kernel_rfl) ⟨hS85.cell 0 rfl rfl, hS85.cell 0 rfl rfl, trivial⟩ ?_
    have hS86 := hS85.bring 1 rfl
    refine ge_set (b := b4) (j := 0) (cs := #[.int .i64 0, .int .i64 0]) (t := 29) (vs := [.int .i64 r1.2.Code, .int .i64 r1.2.At]) hS86 (by kernel_rfl) rfl rfl fun w25 hS87 => ?_
    have hS88 : St w0 w25 [Own.blk b4 (.cells #[.int .i64 r1.2.Code, .int .i64 r1.2.At] 29 (0, 0)), Own.blk b5 (.cells #[.int .i64 r1.2.Code, .int .i64 r1.2.At] 29 (0, 0)), Own.blk b3 (.cells #[.int .i64 x2] 3 (0, 0)), Own.blk b2 (.cells #[.int .i64 x1] 3 (0, 0)), Own.blk b1 (.cells #[.slice A0 l0.length c0] 73 (0, 0))] := hS87
    refine ge_nil fun a hF => hK25 _ _ ?_ a hF
    have hS89 := hS88.takeN 0
    obtain rfl := Option.some.inj h
    exact we_ret (post_ret (rs := [.tmp 8, .cell 9 29]) (ans := [.val (.int .i64 r1.2.Code), .val (.int .i64 r1.2.At)]) (vs := [.int .i64 0, .agg #[.int .i64 r1.2.Code, .int .i64 r1.2.At]]) (l := [.loaded ⟨b4, 0, none⟩ (.int .i64 r1.2.Code), .loaded ⟨b4, 1, none⟩ (.int .i64 r1.2.At)]) rfl (by kernel_rfl) ⟨hS88.cell 0 rfl rfl, hS88.cell 0 rfl rfl, trivial⟩ ⟨rfl, hS89⟩)

/-! punctual/punctualsame.Same[int] -/
abbrev punctualsame_Same_int.Post (w0 : World) (r : Bool) (e : Ending) (w : World) : Prop := e = .returned (.bool r) ∧ St w0 w []
def punctualsame_Same_int.r0 (l0 : List Int) (l1 : List Int) : Nat → Option (Nat ⊕ (Unit ⊕ Bool))
  | i1 =>
    if (i1 : Int) < (l0.length : Int) then
      match l0[i1]? with
      | none => none
      | some e1 =>
        match l1[i1]? with
        | none => none
        | some e2 =>
          if e1 = e2 then
            some (.inl (i1 + 1))
          else
            some (.inr (.inr false))
    else
      some (.inr (.inl ()))
def punctualsame_Same_int.f (K : Nat) (l0 : List Int) (l1 : List Int) : Option Bool :=
  if (l0.length : Int) = (l1.length : Int) then
    match iter (punctualsame_Same_int.r0 l0 l1) K 0 with
    | none => none
    | some (.inl _) =>
      some true
    | some (.inr rr1) =>
      some rr1
  else
    some false
abbrev punctualsame_Same_int.A0 (K : Nat) (w0 : World) (l0 : List Int) (A0 : Option Addr) (c0 : Nat) (l1 : List Int) (A1 : Option Addr) (c1 : Nat) (hR0 : RdL w0 A0 l0) (hL0 : l0.length ≤ c0) (hR1 : RdL w0 A1 l1) (hL1 : l1.length ≤ c1) (hc1 : (l0.length : Int) = (l1.length : Int)) : Nat → Act → World → Prop := fun (s : Nat) a w => St w0 w [] ∧ Frm 26 a [(0, .slice A0 l0.length c0), (1, .slice A1 l1.length c1), (12, .int .i64 (l0.length : Int)), (13, .int .i64 (s : Int))]
abbrev punctualsame_Same_int.B0 (K : Nat) (w0 : World) (l0 : List Int) (A0 : Option Addr) (c0 : Nat) (l1 : List Int) (A1 : Option Addr) (c1 : Nat) (hR0 : RdL w0 A0 l0) (hL0 : l0.length ≤ c0) (hR1 : RdL w0 A1 l1) (hL1 : l1.length ≤ c1) (hc1 : (l0.length : Int) = (l1.length : Int)) : (Unit ⊕ Bool) → Exit → Act → World → Prop := Exits 0 (fun (s : Unit) a w => St w0 w [] ∧ Frm 26 a []) (Rets Try.prog Try.f21 (punctualsame_Same_int.Post w0))
theorem punctualsame_Same_int_r0 (K : Nat) (w0 : World) (l0 : List Int) (A0 : Option Addr) (c0 : Nat) (l1 : List Int) (A1 : Option Addr) (c1 : Nat) (hR0 : RdL w0 A0 l0) (hL0 : l0.length ≤ c0) (hR1 : RdL w0 A1 l1) (hL1 : l1.length ≤ c1) (hc1 : (l0.length : Int) = (l1.length : Int)) (s : Nat) (o : Nat ⊕ (Unit ⊕ Bool)) (h : punctualsame_Same_int.r0 l0 l1 s = some o) (a : Act) (w : World) (hA : punctualsame_Same_int.A0 K w0 l0 A0 c0 l1 A1 c1 hR0 hL0 hR1 hL1 hc1 s a w) (Q : Exit → Act → World → Prop) (hQ : ∀ x a w, Outs (punctualsame_Same_int.A0 K w0 l0 A0 c0 l1 A1 c1 hR0 hL0 hR1 hL1 hc1) (punctualsame_Same_int.B0 K w0 l0 A0 c0 l1 A1 c1 hR0 hL0 hR1 hL1 hc1) o x a w → Q x a w) : (subF Try.f21 [1, 1, 0, 1, 0, 0]).wp Try.prog Q a w := by
  obtain ⟨i1, hs⟩ : ∃ z, z = s := ⟨s, rfl⟩
  subst hs
  obtain ⟨hS, hF⟩ := hA
  replace hS : St w0 w [] := hS
  simp only [punctualsame_Same_int.r0] at h
  refine (?_ : WE Try.prog 26 (subF Try.f21 [1, 1, 0, 1, 0, 0]) Q [(0, .slice A0 l0.length c0), (1, .slice A1 l1.length c1), (12, .int .i64 (l0.length : Int)), (13, .int .i64 (i1 : Int))] w) a hF
  clear hF a
  refine we_seq fun K6 hK6 => ?_
  refine we_region [(0, 0)] rfl ?_
  refine ge_batch [0] (ans := []) (vs := [(14, .bool (decide ((i1 : Int) < (l0.length : Int))))]) (l := []) (by kernel_rfl) trivial ?_
  refine ge_nil fun a hF => hK6 _ _ ?_ a hF
  refine we_seq fun K7 hK7 => ?_
  by_cases hc2 : (i1 : Int) < (l0.length : Int)
  · rw [if_pos hc2] at h
    refine we_known (t := 14) (b := decide ((i1 : Int) < (l0.length : Int))) (v := true) (by kernel_rfl) (decide_eq_true hc2) ?_
    refine we_true (by kernel_rfl) ?_
    refine we_skip fun a hF => hK7 _ _ ?_ a hF
    refine we_seq fun K8 hK8 => ?_
    refine we_block ?_
    refine we_seq fun K9 hK9 => ?_
    refine we_region [(0, 0), (1, 0)] rfl ?_
    refine ge_batch [0, 1] (ans := []) (vs := [(5, .int .i64 (i1 : Int)), (15, .int .i64 (i1 : Int))]) (l := []) (by kernel_rfl) trivial ?_
    refine ge_nil fun a hF => hK9 _ _ ?_ a hF
    refine we_seq fun K10 hK10 => ?_
    refine we_draws (by kernel_rfl) [(0, 0), (1, 0), (2, 0), (3, 0), (4, 0), (5, 0), (6, 0), (7, 0), (8, 0)] (by kernel_rfl) ?_
    have hS1 := hS.drew
    refine ge_batch [0, 1] (ans := []) (vs := [(17, .int .i64 (i1 : Int)), (16, .slice A0 l0.length c0)]) (l := []) (by kernel_rfl) trivial ?_
    rcases hx1 : l0[i1]? with _ | e1
    · rw [hx1] at h; cases h
    rw [hx1] at h
    simp only [] at h
    refine ge_index (d := 18) (ty := 0) (t := 24) (el := 3) (sz := 1) (m := l0.length) (c := c0) (x := (.tmp 16)) (y := (.tmp 17)) (A := A0) (k' := .i64) (j := (i1 : Int)) (jn := i1) (b0 := blkOf A0) (o0 := offOf A0) (by kernel_rfl) (by kernel_rfl) (by kernel_rfl) (by kernel_rfl) (by kernel_rfl) ((hS1.rd hR0).eqSome (pos_of_get hx1)) rfl (lt_of_get hx1) ?_
    refine ge_batch [3, 4, 5] (ans := [.val (.int .i64 e1)]) (vs := [(21, .int .i64 (i1 : Int)), (20, .slice A1 l1.length c1), (19, .int .i64 e1)]) (l := [.loaded ⟨blkOf A0, offOf A0 + i1 * 1, none⟩ (.int .i64 e1)]) (by kernel_rfl) ⟨RdL.cell (j := 0) (hS1.rd hR0) hx1 rfl, trivial⟩ ?_
    rcases hx2 : l1[i1]? with _ | e2
    · rw [hx2] at h; cases h
    rw [hx2] at h
    simp only [] at h
    refine ge_index (d := 22) (ty := 0) (t := 24) (el := 3) (sz := 1) (m := l1.length) (c := c1) (x := (.tmp 20)) (y := (.tmp 21)) (A := A1) (k' := .i64) (j := (i1 : Int)) (jn := i1) (b0 := blkOf A1) (o0 := offOf A1) (by kernel_rfl) (by kernel_rfl) (by kernel_rfl) (by kernel_rfl) (by kernel_rfl) ((hS1.rd hR1).eqSome (pos_of_get hx2)) rfl (lt_of_get hx2) ?_
    refine ge_batch [7, 8] (ans := [.val (.int .i64 e2)]) (vs := [(24, .bool (e1 != e2)), (23, .int .i64 e2)]) (l := [.loaded ⟨blkOf A1, offOf A1 + i1 * 1, none⟩ (.int .i64 e2)]) (by kernel_rfl) ⟨RdL.cell (j := 0) (hS1.rd hR1) hx2 rfl, trivial⟩ ?_
    refine ge_nil fun a hF => hK10 _ _ ?_ a hF
    by_cases hc3 : e1 = e2
    · rw [if_pos hc3] at h
      refine we_known (t := 24) (b := (e1 != e2)) (v := false) (by kernel_rfl) (bne_eq_false_iff_eq.2 hc3) ?_
      refine we_false (by kernel_rfl) ?_
      refine we_skip fun a hF => hK8 _ _ ?_ a hF
      refine we_region [(0, 0), (1, 0)] rfl ?_
      refine ge_addn (d := 25) (ty := 3) (x := (.tmp 13)) (y := (.const (.int .i64 1))) (t := 3) (t2 := 3) (k := .i64) (m := i1) (by kernel_rfl) (by kernel_rfl) (by kernel_rfl) (by have h0 := hR0.small; omega) ?_
      refine ge_batch [1] (ans := []) (vs := [(13, .int .i64 ((i1 + 1 : Nat) : Int))]) (l := []) (by kernel_rfl) trivial ?_
      obtain rfl := Option.some.inj h
      exact ge_nil fun a hF => hQ _ _ _ (Outs.again ⟨hS1, hF.weaken ⟨by kernel_rfl, by kernel_rfl, by kernel_rfl, by kernel_rfl, trivial⟩⟩)
    · rw [if_neg hc3] at h
      refine we_known (t := 24) (b := (e1 != e2)) (v := true) (by kernel_rfl) (bne_iff_ne.2 hc3) ?_
      refine we_true (by kernel_rfl) ?_
      refine we_seq fun K11 hK11 => ?_
      refine we_region [(0, 0)] rfl ?_
      refine ge_batch [0] (ans := []) (vs := [(4, .bool false)]) (l := []) (by kernel_rfl) trivial ?_
      refine ge_nil fun a hF => hK11 _ _ ?_ a hF
      obtain rfl := Option.some.inj h
      exact we_ret fun a hF => hQ _ _ _ (Outs.out nofun (Exits.on ⟨rfl, (post_ret (rs := [.tmp 4]) (ans := []) (vs := [.bool false]) (l := []) rfl (by kernel_rfl) trivial ⟨rfl, hS1⟩) a hF⟩))
  · rw [if_neg hc2] at h
    refine we_known (t := 14) (b := decide ((i1 : Int) < (l0.length : Int))) (v := false) (by kernel_rfl) (decide_eq_false hc2) ?_
    refine we_false (by kernel_rfl) ?_
    obtain rfl := Option.some.inj h
    exact we_exit fun a hF => hQ _ _ _ (Outs.out nofun (Exits.here ⟨hS, hF.weaken trivial⟩))
theorem punctualsame_Same_int_ok (K : Nat) (l0 : List Int) (A0 : Option Addr) (c0 : Nat) (l1 : List Int) (A1 : Option Addr) (c1 : Nat) (w0 : World) (hR0 : RdL w0 A0 l0) (hL0 : l0.length ≤ c0) (hR1 : RdL w0 A1 l1) (hL1 : l1.length ≤ c1) (r : Bool) (h : punctualsame_Same_int.f K l0 l1 = some r) :
    Calls Try.prog 21 #[.slice A0 l0.length c0, .slice A1 l1.length c1] w0 (punctualsame_Same_int.Post w0 r) := by
  have hS := St.start w0
  unfold punctualsame_Same_int.f at h
  refine calls_enter (n := 26) (args := [.slice A0 l0.length c0, .slice A1 l1.length c1]) (fn := Try.f21) rfl rfl rfl rfl ?_
  show WE _ _ _ _ [(0, .slice A0 l0.length c0), (1, .slice A1 l1.length c1)] _
  refine we_seq fun K1 hK1 => ?_
  refine we_region [(0, 0)] rfl ?_
  refine ge_batch [0] (ans := []) (vs := [(4, .bool false)]) (l := []) (by kernel_rfl) trivial ?_
  refine ge_nil fun a hF => hK1 _ _ ?_ a hF
  refine we_seq fun K2 hK2 => ?_
  refine we_seq fun K3 hK3 => ?_
  refine we_region [(0, 0), (1, 0), (2, 0), (3, 0), (4, 0)] rfl ?_
  refine ge_batch [0, 1, 2, 3, 4] (ans := []) (vs := [(10, .bool ((l0.length : Int) != (l1.length : Int))), (9, .int .i64 (l1.length : Int)), (8, .slice A1 l1.length c1), (7, .int .i64 (l0.length : Int)), (6, .slice A0 l0.length c0)]) (l := []) (by kernel_rfl) trivial ?_
  refine ge_nil fun a hF => hK3 _ _ ?_ a hF
  by_cases hc1 : (l0.length : Int) = (l1.length : Int)
  · rw [if_pos hc1] at h
    refine we_known (t := 10) (b := ((l0.length : Int) != (l1.length : Int))) (v := false) (by kernel_rfl) (bne_eq_false_iff_eq.2 hc1) ?_
    refine we_false (by kernel_rfl) ?_
    refine we_skip fun a hF => hK2 _ _ ?_ a hF
    refine we_seq fun K4 hK4 => ?_
    refine we_seq fun K5 hK5 => ?_
    refine we_region [(0, 0), (1, 0), (2, 0)] rfl ?_
    refine ge_batch [0, 1, 2] (ans := []) (vs := [(13, .int .i64 0), (12, .int .i64 (l0.length : Int)), (11, .slice A0 l0.length c0)]) (l := []) (by kernel_rfl) trivial ?_
    refine ge_nil fun a hF => hK5 _ _ ?_ a hF
    refine we_block ?_
    rcases hq1 : iter (punctualsame_Same_int.r0 l0 l1) K 0 with _ | (_ | rr1)
    · rw [hq1] at h; cases h
    · rw [hq1] at h
      simp only [] at h
      refine we_iter (A := punctualsame_Same_int.A0 K w0 l0 A0 c0 l1 A1 c1 hR0 hL0 hR1 hL1 hc1) (B := punctualsame_Same_int.B0 K w0 l0 A0 c0 l1 A1 c1 hR0 hL0 hR1 hL1 hc1) hq1 (fun a hF => ⟨hS, hF.weaken ⟨by kernel_rfl, by kernel_rfl, by kernel_rfl, by kernel_rfl, trivial⟩⟩) (fun s o hf a w hA Q hQ => punctualsame_Same_int_r0 K w0 l0 A0 c0 l1 A1 c1 hR0 hL0 hR1 hL1 hc1 s o hf a w hA Q hQ) ?_
      rintro _ a w1 _ ⟨rfl, hS2, hF⟩
      replace hS2 : St w0 w1 [] := hS2
      refine hK4 [] w1 ?_ a hF
      refine we_seq fun K12 hK12 => ?_
      refine we_region [(0, 0)] rfl ?_
      refine ge_batch [0] (ans := []) (vs := [(4, .bool true)]) (l := []) (by kernel_rfl) trivial ?_
      refine ge_nil fun a hF => hK12 _ _ ?_ a hF
      obtain rfl := Option.some.inj h
      exact we_ret (post_ret (rs := [.tmp 4]) (ans := []) (vs := [.bool true]) (l := []) rfl (by kernel_rfl) trivial ⟨rfl, hS2⟩)
    · rw [hq1] at h
      simp only [] at h
      refine we_iter (A := punctualsame_Same_int.A0 K w0 l0 A0 c0 l1 A1 c1 hR0 hL0 hR1 hL1 hc1) (B := punctualsame_Same_int.B0 K w0 l0 A0 c0 l1 A1 c1 hR0 hL0 hR1 hL1 hc1) hq1 (fun a hF => ⟨hS, hF.weaken ⟨by kernel_rfl, by kernel_rfl, by kernel_rfl, by kernel_rfl, trivial⟩⟩) (fun s o hf a w hA Q hQ => punctualsame_Same_int_r0 K w0 l0 A0 c0 l1 A1 c1 hR0 hL0 hR1 hL1 hc1 s o hf a w hA Q hQ) ?_
      rintro _ a w1 _ ⟨rfl, hb⟩
      obtain rfl := Option.some.inj h
      exact hb
  · rw [if_neg hc1] at h
    refine we_known (t := 10) (b := ((l0.length : Int) != (l1.length : Int))) (v := true) (by kernel_rfl) (bne_iff_ne.2 hc1) ?_
    refine we_true (by kernel_rfl) ?_
    refine we_seq fun K13 hK13 => ?_
    refine we_region [(0, 0)] rfl ?_
    refine ge_batch [0] (ans := []) (vs := [(4, .bool false)]) (l := []) (by kernel_rfl) trivial ?_
    refine ge_nil fun a hF => hK13 _ _ ?_ a hF
    obtain rfl := Option.some.inj h
    exact we_ret (post_ret (rs := [.tmp 4]) (ans := []) (vs := [.bool false]) (l := []) rfl (by kernel_rfl) trivial ⟨rfl, hS⟩)

/-! punctual/punctuallaw.anew -/
abbrev anew.Post (w0 : World) (r : Bool) (e : Ending) (w : World) : Prop := e = .returned (.bool r) ∧ St w0 w []
def anew.f (K : Nat) : Option Bool :=
  match redo_Play.f K ([(⟨0, 0, 4, 9, 1⟩ : SJob)] : List SJob) 2 ([1, 3] : List Int) 9 with
  | none => none
  | some r1 =>
    match redo_Play.f K ([(⟨0, 0, 4, 9, 1⟩ : SJob)] : List SJob) 0 ([2] : List Int) 9 with
    | none => none
    | some r2 =>
      match redo_Response.f K three.f 1 100 0 with
      | none => none
      | some r3 =>
        if r1.2.Code = 0 then
          if r2.2.Code = 0 then
            if r3.2.Code = 0 then
              match punctualsame_Same_int.f K r1.1.Runs ([0, 0, 0, 0, 0, 0, 0, 0, (-1)] : List Int) with
              | none => none
              | some r4 =>
                if r4 = true then
                  match punctualsame_Same_int.f K r1.1.Ends ([8] : List Int) with
                  | none => none
                  | some r5 =>
                    if r5 = true then
                      match punctualsame_Same_int.f K r2.1.Ends ([7] : List Int) with
                      | none => none
                      | some r6 =>
                        if r6 = true then
                          some (r3.1 == 6)
                        else
                          some false
                    else
                      some false
                else
                  some false
            else
              some false
          else
            some false
        else
          some false
theorem anew_ok (K : Nat)  (w0 : World) (r : Bool) (h : anew.f K = some r) :
    Calls Try.prog 26 #[] w0 (anew.Post w0 r) := by
  have hS := St.start w0
  unfold anew.f at h
  refine calls_enter (n := 61) (args := []) (fn := Try.f26) rfl rfl rfl rfl ?_
  show WE _ _ _ _ [] _
  refine we_seq fun K1 hK1 => ?_
  refine we_region [(0, 0)] rfl ?_
  refine ge_batch [0] (ans := []) (vs := [(0, .bool false)]) (l := []) (by kernel_rfl) trivial ?_
  refine ge_nil fun a hF => hK1 _ _ ?_ a hF
  refine we_seq fun K2 hK2 => ?_
  refine we_region [(0, 0), (1, 1), (2, 1), (3, 1), (4, 0), (5, 0), (6, 0), (7, 1), (8, 1), (9, 2), (10, 2)] rfl ?_
  refine ge_batch [0] (ans := []) (vs := [(8, .agg #[.int .i64 0, .int .i64 0, .int .i64 4, .int .i64 9, .int .i64 1])]) (l := []) (by kernel_rfl) trivial ?_
  refine ge_new (d := some 9) (o := .cells #[.int .i64 0, .int .i64 0, .int .i64 4, .int .i64 9, .int .i64 1] 88) (v := fun b => .slice (some ⟨b, 0, none⟩) 1 1) hS (fun b => by kernel_rfl) fun b1 w1 hx1 hS1 => ?_
  refine ge_new (d := some 10) (o := .cells #[.int .i64 1, .int .i64 3] 3) (v := fun b => .slice (some ⟨b, 0, none⟩) 2 2) hS1 (fun b => by kernel_rfl) fun b2 w2 hx2 hS2 => ?_
  rcases hq1 : redo_Play.f K ([(⟨0, 0, 4, 9, 1⟩ : SJob)] : List SJob) 2 ([1, 3] : List Int) 9 with _ | r1
  · rw [hq1] at h; cases h
  rw [hq1] at h
  simp only [] at h
  refine ge_call (d := some 11) (f := 29) (args := #[.slice (some ⟨b1, 0, none⟩) 1 1, .int .i64 2, .slice (some ⟨b2, 0, none⟩) 2 2, .int .i64 9]) (by kernel_rfl) (redo_Play_ok K ([(⟨0, 0, 4, 9, 1⟩ : SJob)] : List SJob) (some ⟨b1, 0, none⟩) 1 2 ([1, 3] : List Int) (some ⟨b2, 0, none⟩) 2 9 _ (hS2.rdBlk 1 ([(⟨0, 0, 4, 9, 1⟩ : SJob)] : List SJob) rfl rfl rfl) (Nat.le_refl _) (hS2.rdBlk 0 ([1, 3] : List Int) rfl rfl rfl) (Nat.le_refl _) _ hq1) ?_
  rintro _ w3 ⟨v1, v2, rfl, hS3⟩
  refine ⟨_, rfl, hS3.below, ?_⟩
  have hS4 := hS2.call hS3
  refine ge_batch [4, 5, 6] (ans := []) (vs := [(13, .agg #[.int .i64 r1.2.Code, .int .i64 r1.2.At]), (12, .agg #[v1, v2]), (7, .tuple #[.agg #[v1, v2], .agg #[.int .i64 r1.2.Code, .int .i64 r1.2.At]])]) (l := []) (by kernel_rfl) trivial ?_
  refine ge_new (d := some 1) (o := .cells #[.slice none 0 0, .slice none 0 0] 37) (v := fun b => .pointer (some ⟨b, 0, none⟩)) hS4 (fun b => by kernel_rfl) fun b3 w4 hx3 hS5 => ?_
  refine ge_new (d := some 2) (o := .cells #[.int .i64 0, .int .i64 0] 29) (v := fun b => .pointer (some ⟨b, 0, none⟩)) hS5 (fun b => by kernel_rfl) fun b4 w5 hx4 hS6 => ?_
  obtain ⟨Z1, cz1, rfl⟩ := hS6.open 2 rfl
  obtain ⟨Z2, cz2, rfl⟩ := hS6.open 3 rfl
  have hS7 := hS6.bring 1 rfl
  refine ge_set (b := b3) (j := 0) (cs := #[.slice none 0 0, .slice none 0 0]) (t := 37) (vs := [(.slice Z1 r1.1.Runs.length cz1), (.slice Z2 r1.1.Ends.length cz2)]) hS7 (by kernel_rfl) rfl rfl fun w6 hS8 => ?_
  have hS9 : St w0 w6 [Own.blk b3 (.cells #[(.slice Z1 r1.1.Runs.length cz1), (.slice Z2 r1.1.Ends.length cz2)] 37 (0, 0)), Own.blk b4 (.cells #[.int .i64 0, .int .i64 0] 29 (0, 0)), Own.of (.slice Z1 r1.1.Runs.length cz1) 3 r1.1.Runs, Own.of (.slice Z2 r1.1.Ends.length cz2) 3 r1.1.Ends, Own.blk b2 (.cells #[.int .i64 1, .int .i64 3] 3 (0, 0)), Own.blk b1 (.cells #[.int .i64 0, .int .i64 0, .int .i64 4, .int .i64 9, .int .i64 1] 88 (0, 0))] := hS8
  have hS10 := hS9.bring 1 rfl
  refine ge_set (b := b4) (j := 0) (cs := #[.int .i64 0, .int .i64 0]) (t := 29) (vs := [.int .i64 r1.2.Code, .int .i64 r1.2.At]) hS10 (by kernel_rfl) rfl rfl fun w7 hS11 => ?_
  have hS12 : St w0 w7 [Own.blk b4 (.cells #[.int .i64 r1.2.Code, .int .i64 r1.2.At] 29 (0, 0)), Own.blk b3 (.cells #[(.slice Z1 r1.1.Runs.length cz1), (.slice Z2 r1.1.Ends.length cz2)] 37 (0, 0)), Own.of (.slice Z1 r1.1.Runs.length cz1) 3 r1.1.Runs, Own.of (.slice Z2 r1.1.Ends.length cz2) 3 r1.1.Ends, Own.blk b2 (.cells #[.int .i64 1, .int .i64 3] 3 (0, 0)), Own.blk b1 (.cells #[.int .i64 0, .int .i64 0, .int .i64 4, .int .i64 9, .int .i64 1] 88 (0, 0))] := hS11
  refine ge_nil fun a hF => hK2 _ _ ?_ a hF
  refine we_seq fun K3 hK3 => ?_
  refine we_region [(0, 0), (1, 1), (2, 1), (3, 1), (4, 0), (5, 0), (6, 0), (7, 1), (8, 1), (9, 2), (10, 2)] rfl ?_
  refine ge_batch [0] (ans := []) (vs := [(15, .agg #[.int .i64 0, .int .i64 0, .int .i64 4, .int .i64 9, .int .i64 1])]) (l := []) (by kernel_rfl) trivial ?_
  refine ge_new (d := some 16) (o := .cells #[.int .i64 0, .int .i64 0, .int .i64 4, .int .i64 9, .int .i64 1] 88) (v := fun b => .slice (some ⟨b, 0, none⟩) 1 1) hS12 (fun b => by kernel_rfl) fun b5 w8 hx5 hS13 => ?_
  refine ge_new (d := some 17) (o := .cells #[.int .i64 2] 3) (v := fun b => .slice (some ⟨b, 0, none⟩) 1 1) hS13 (fun b => by kernel_rfl) fun b6 w9 hx6 hS14 => ?_
  rcases hq2 : redo_Play.f K ([(⟨0, 0, 4, 9, 1⟩ : SJob)] : List SJob) 0 ([2] : List Int) 9 with _ | r2
  · rw [hq2] at h; cases h
  rw [hq2] at h
  simp only [] at h
  refine ge_call (d := some 18) (f := 29) (args := #[.slice (some ⟨b5, 0, none⟩) 1 1, .int .i64 0, .slice (some ⟨b6, 0, none⟩) 1 1, .int .i64 9]) (by kernel_rfl) (redo_Play_ok K ([(⟨0, 0, 4, 9, 1⟩ : SJob)] : List SJob) (some ⟨b5, 0, none⟩) 1 0 ([2] : List Int) (some ⟨b6, 0, none⟩) 1 9 _ (hS14.rdBlk 1 ([(⟨0, 0, 4, 9, 1⟩ : SJob)] : List SJob) rfl rfl rfl) (Nat.le_refl _) (hS14.rdBlk 0 ([2] : List Int) rfl rfl rfl) (Nat.le_refl _) _ hq2) ?_
  rintro _ w10 ⟨v3, v4, rfl, hS15⟩
  refine ⟨_, rfl, hS15.below, ?_⟩
  have hS16 := hS14.call hS15
  refine ge_batch [4, 5, 6] (ans := []) (vs := [(20, .agg #[.int .i64 r2.2.Code, .int .i64 r2.2.At]), (19, .agg #[v3, v4]), (14, .tuple #[.agg #[v3, v4], .agg #[.int .i64 r2.2.Code, .int .i64 r2.2.At]])]) (l := []) (by kernel_rfl) trivial ?_
  refine ge_new (d := some 3) (o := .cells #[.slice none 0 0, .slice none 0 0] 37) (v := fun b => .pointer (some ⟨b, 0, none⟩)) hS16 (fun b => by kernel_rfl) fun b7 w11 hx7 hS17 => ?_
  refine ge_new (d := some 4) (o := .cells #[.int .i64 0, .int .i64 0] 29) (v := fun b => .pointer (some ⟨b, 0, none⟩)) hS17 (fun b => by kernel_rfl) fun b8 w12 hx8 hS18 => ?_
  obtain ⟨Z3, cz3, rfl⟩ := hS18.open 2 rfl
  obtain ⟨Z4, cz4, rfl⟩ := hS18.open 3 rfl
  have hS19 := hS18.bring 1 rfl
  refine ge_set (b := b7) (j := 0) (cs := #[.slice none 0 0, .slice none 0 0]) (t := 37) (vs := [(.slice Z3 r2.1.Runs.length cz3), (.slice Z4 r2.1.Ends.length cz4)]) hS19 (by kernel_rfl) rfl rfl fun w13 hS20 => ?_
  have hS21 : St w0 w13 [Own.blk b7 (.cells #[(.slice Z3 r2.1.Runs.length cz3), (.slice Z4 r2.1.Ends.length cz4)] 37 (0, 0)), Own.blk b8 (.cells #[.int .i64 0, .int .i64 0] 29 (0, 0)), Own.of (.slice Z3 r2.1.Runs.length cz3) 3 r2.1.Runs, Own.of (.slice Z4 r2.1.Ends.length cz4) 3 r2.1.Ends, Own.blk b6 (.cells #[.int .i64 2] 3 (0, 0)), Own.blk b5 (.cells #[.int .i64 0, .int .i64 0, .int .i64 4, .int .i64 9, .int .i64 1] 88 (0, 0)), Own.blk b4 (.cells #[.int .i64 r1.2.Code, .int .i64 r1.2.At] 29 (0, 0)), Own.blk b3 (.cells #[(.slice Z1 r1.1.Runs.length cz1), (.slice Z2 r1.1.Ends.length cz2)] 37 (0, 0)), Own.of (.slice Z1 r1.1.Runs.length cz1) 3 r1.1.Runs, Own.of (.slice Z2 r1.1.Ends.length cz2) 3 r1.1.Ends, Own.blk b2 (.cells #[.int .i64 1, .int .i64 3] 3 (0, 0)), Own.blk b1 (.cells #[.int .i64 0, .int .i64 0, .int .i64 4, .int .i64 9, .int .i64 1] 88 (0, 0))] := hS20
  have hS22 := hS21.bring 1 rfl
  refine ge_set (b := b8) (j := 0) (cs := #[.int .i64 0, .int .i64 0]) (t := 29) (vs := [.int .i64 r2.2.Code, .int .i64 r2.2.At]) hS22 (by kernel_rfl) rfl rfl fun w14 hS23 => ?_
  have hS24 : St w0 w14 [Own.blk b8 (.cells #[.int .i64 r2.2.Code, .int .i64 r2.2.At] 29 (0, 0)), Own.blk b7 (.cells #[(.slice Z3 r2.1.Runs.length cz3), (.slice Z4 r2.1.Ends.length cz4)] 37 (0, 0)), Own.of (.slice Z3 r2.1.Runs.length cz3) 3 r2.1.Runs, Own.of (.slice Z4 r2.1.Ends.length cz4) 3 r2.1.Ends, Own.blk b6 (.cells #[.int .i64 2] 3 (0, 0)), Own.blk b5 (.cells #[.int .i64 0, .int .i64 0, .int .i64 4, .int .i64 9, .int .i64 1] 88 (0, 0)), Own.blk b4 (.cells #[.int .i64 r1.2.Code, .int .i64 r1.2.At] 29 (0, 0)), Own.blk b3 (.cells #[(.slice Z1 r1.1.Runs.length cz1), (.slice Z2 r1.1.Ends.length cz2)] 37 (0, 0)), Own.of (.slice Z1 r1.1.Runs.length cz1) 3 r1.1.Runs, Own.of (.slice Z2 r1.1.Ends.length cz2) 3 r1.1.Ends, Own.blk b2 (.cells #[.int .i64 1, .int .i64 3] 3 (0, 0)), Own.blk b1 (.cells #[.int .i64 0, .int .i64 0, .int .i64 4, .int .i64 9, .int .i64 1] 88 (0, 0))] := hS23
  refine ge_nil fun a hF => hK3 _ _ ?_ a hF
  refine we_seq fun K4 hK4 => ?_
  refine we_region [(0, 1), (1, 1), (2, 0), (3, 0), (4, 0), (5, 1), (6, 0), (7, 2)] rfl ?_
  refine ge_call (d := some 22) (f := 51) (args := #[]) (by kernel_rfl) (three_ok _ _ rfl) ?_
  rintro _ w15 ⟨v5, rfl, hS25⟩
  refine ⟨_, rfl, hS25.below, ?_⟩
  have hS26 := hS24.call hS25
  obtain ⟨Z5, cz5, rfl⟩ := hS26.open 0 rfl
  rcases hq4 : redo_Response.f K three.f 1 100 0 with _ | r3
  · rw [hq4] at h; cases h
  rw [hq4] at h
  simp only [] at h
  refine ge_call (d := some 23) (f := 30) (args := #[(.slice Z5 three.f.length cz5), .int .i64 1, .int .i64 100, .int .i64 0]) (by kernel_rfl) (redo_Response_ok K three.f Z5 cz5 1 100 0 _ (hS26.rdAt 0 rfl) (hS26.capAt 0 rfl) _ hq4) ?_
  rintro _ w16 ⟨rfl, hS27⟩
  refine ⟨_, rfl, hS27.below, ?_⟩
  have hS28 := hS26.call hS27
  refine ge_batch [2, 3, 4] (ans := []) (vs := [(25, .agg #[.int .i64 r3.2.Code, .int .i64 r3.2.At]), (24, .int .i64 r3.1), (21, .tuple #[.int .i64 r3.1, .agg #[.int .i64 r3.2.Code, .int .i64 r3.2.At]])]) (l := []) (by kernel_rfl) trivial ?_
  refine ge_new (d := some 6) (o := .cells #[.int .i64 0, .int .i64 0] 29) (v := fun b => .pointer (some ⟨b, 0, none⟩)) hS28 (fun b => by kernel_rfl) fun b9 w17 hx9 hS29 => ?_
  refine ge_batch [6] (ans := []) (vs := [(5, .int .i64 r3.1)]) (l := []) (by kernel_rfl) trivial ?_
  refine ge_set (b := b9) (j := 0) (cs := #[.int .i64 0, .int .i64 0]) (t := 29) (vs := [.int .i64 r3.2.Code, .int .i64 r3.2.At]) hS29 (by kernel_rfl) rfl rfl fun w18 hS30 => ?_
  have hS31 : St w0 w18 [Own.blk b9 (.cells #[.int .i64 r3.2.Code, .int .i64 r3.2.At] 29 (0, 0)), Own.of (.slice Z5 three.f.length cz5) 117 three.f, Own.blk b8 (.cells #[.int .i64 r2.2.Code, .int .i64 r2.2.At] 29 (0, 0)), Own.blk b7 (.cells #[(.slice Z3 r2.1.Runs.length cz3), (.slice Z4 r2.1.Ends.length cz4)] 37 (0, 0)), Own.of (.slice Z3 r2.1.Runs.length cz3) 3 r2.1.Runs, Own.of (.slice Z4 r2.1.Ends.length cz4) 3 r2.1.Ends, Own.blk b6 (.cells #[.int .i64 2] 3 (0, 0)), Own.blk b5 (.cells #[.int .i64 0, .int .i64 0, .int .i64 4, .int .i64 9, .int .i64 1] 88 (0, 0)), Own.blk b4 (.cells #[.int .i64 r1.2.Code, .int .i64 r1.2.At] 29 (0, 0)), Own.blk b3 (.cells #[(.slice Z1 r1.1.Runs.length cz1), (.slice Z2 r1.1.Ends.length cz2)] 37 (0, 0)), Own.of (.slice Z1 r1.1.Runs.length cz1) 3 r1.1.Runs, Own.of (.slice Z2 r1.1.Ends.length cz2) 3 r1.1.Ends, Own.blk b2 (.cells #[.int .i64 1, .int .i64 3] 3 (0, 0)), Own.blk b1 (.cells #[.int .i64 0, .int .i64 0, .int .i64 4, .int .i64 9, .int .i64 1] 88 (0, 0))] := hS30
  refine ge_nil fun a hF => hK4 _ _ ?_ a hF
  refine we_seq fun K5 hK5 => ?_
  refine we_region [(0, 0), (1, 0), (2, 0), (3, 0), (4, 0), (5, 0), (6, 0), (7, 0), (8, 0), (9, 0), (10, 0), (11, 0), (12, 0), (13, 0), (14, 0), (15, 0), (16, 1), (17, 1), (18, 0), (19, 0), (20, 0), (21, 0), (22, 1), (23, 1), (24, 0), (25, 0), (26, 0), (27, 0), (28, 1), (29, 1), (30, 0), (31, 0), (32, 0), (33, 0), (34, 0), (35, 0)] rfl ?_
  refine ge_batch [0, 1, 2, 3] (ans := [.val (.int .i64 r1.2.Code)]) (vs := [(29, .bool (r1.2.Code == 0)), (28, .bool (r1.2.Code == 0)), (27, .int .i64 r1.2.Code), (26, .pointer (some ⟨b4, 0, none⟩))]) (l := [.loaded ⟨b4, 0, none⟩ (.int .i64 r1.2.Code)]) (by kernel_rfl) ⟨hS31.cell 8 rfl rfl, trivial⟩ ?_
  by_cases hc1 : r1.2.Code = 0
  · rw [if_pos hc1] at h
    refine ge_known (t := 29) (b := (r1.2.Code == 0)) (c := true) (by kernel_rfl) (beq_iff_eq.2 hc1) ?_
    refine ge_batch [4, 5, 6, 7, 8] (ans := [.val (.int .i64 r2.2.Code)]) (vs := [(34, .bool (r2.2.Code == 0)), (33, .bool (r2.2.Code == 0)), (32, .bool (r2.2.Code == 0)), (31, .int .i64 r2.2.Code), (30, .pointer (some ⟨b8, 0, none⟩))]) (l := [.loaded ⟨b8, 0, none⟩ (.int .i64 r2.2.Code)]) (by kernel_rfl) ⟨hS31.cell 2 rfl rfl, trivial⟩ ?_
    by_cases hc2 : r2.2.Code = 0
    · rw [if_pos hc2] at h
      refine ge_known (t := 34) (b := (r2.2.Code == 0)) (c := true) (by kernel_rfl) (beq_iff_eq.2 hc2) ?_
      refine ge_batch [9, 10, 11, 12, 13] (ans := [.val (.int .i64 r3.2.Code)]) (vs := [(39, .bool (r3.2.Code == 0)), (38, .bool (r3.2.Code == 0)), (37, .bool (r3.2.Code == 0)), (36, .int .i64 r3.2.Code), (35, .pointer (some ⟨b9, 0, none⟩))]) (l := [.loaded ⟨b9, 0, none⟩ (.int .i64 r3.2.Code)]) (by kernel_rfl) ⟨hS31.cell 0 rfl rfl, trivial⟩ ?_
      by_cases hc3 : r3.2.Code = 0
      · rw [if_pos hc3] at h
        refine ge_known (t := 39) (b := (r3.2.Code == 0)) (c := true) (by kernel_rfl) (beq_iff_eq.2 hc3) ?_
        refine ge_batch [14, 15] (ans := [.val ((.slice Z1 r1.1.Runs.length cz1))]) (vs := [(41, (.slice Z1 r1.1.Runs.length cz1)), (40, .pointer (some ⟨b3, 0, none⟩))]) (l := [.loaded ⟨b3, 0, none⟩ ((.slice Z1 r1.1.Runs.length cz1))]) (by kernel_rfl) ⟨hS31.cell 9 rfl rfl, trivial⟩ ?_
        refine ge_new (d := some 42) (o := .cells #[.int .i64 0, .int .i64 0, .int .i64 0, .int .i64 0, .int .i64 0, .int .i64 0, .int .i64 0, .int .i64 0, .int .i64 (-1)] 3) (v := fun b => .slice (some ⟨b, 0, none⟩) 9 9) hS31 (fun b => by kernel_rfl) fun b10 w19 hx10 hS32 => ?_
        rcases hq5 : punctualsame_Same_int.f K r1.1.Runs ([0, 0, 0, 0, 0, 0, 0, 0, (-1)] : List Int) with _ | r4
        · rw [hq5] at h; cases h
        rw [hq5] at h
        simp only [] at h
        refine ge_call (d := some 43) (f := 21) (args := #[(.slice Z1 r1.1.Runs.length cz1), .slice (some ⟨b10, 0, none⟩) 9 9]) (by kernel_rfl) (punctualsame_Same_int_ok K r1.1.Runs Z1 cz1 ([0, 0, 0, 0, 0, 0, 0, 0, (-1)] : List Int) (some ⟨b10, 0, none⟩) 9 _ (hS32.rdAt 11 rfl) (hS32.capAt 11 rfl) (hS32.rdBlk 0 ([0, 0, 0, 0, 0, 0, 0, 0, (-1)] : List Int) rfl rfl rfl) (Nat.le_refl _) _ hq5) ?_
        rintro _ w20 ⟨rfl, hS33⟩
        refine ⟨_, rfl, hS33.below, ?_⟩
        have hS34 := hS32.call hS33
        refine ge_batch [18, 19] (ans := []) (vs := [(45, .bool r4), (44, .bool r4)]) (l := []) (by kernel_rfl) trivial ?_
        by_cases hc4 : r4 = true
        · rw [if_pos hc4] at h
          refine ge_known (t := 45) (b := r4) (c := true) (by kernel_rfl) hc4 ?_
          refine ge_batch [20, 21] (ans := [.val ((.slice Z2 r1.1.Ends.length cz2))]) (vs := [(47, (.slice Z2 r1.1.Ends.length cz2)), (46, .pointer (some ⟨b3, 1, none⟩))]) (l := [.loaded ⟨b3, 1, none⟩ ((.slice Z2 r1.1.Ends.length cz2))]) (by kernel_rfl) ⟨hS34.cell 10 rfl rfl, trivial⟩ ?_
          refine ge_new (d := some 48) (o := .cells #[.int .i64 8] 3) (v := fun b => .slice (some ⟨b, 0, none⟩) 1 1) hS34 (fun b => by kernel_rfl) fun b11 w21 hx11 hS35 => ?_
          rcases hq6 : punctualsame_Same_int.f K r1.1.Ends ([8] : List Int) with _ | r5
          · rw [hq6] at h; cases h
          rw [hq6] at h
          simp only [] at h
          refine ge_call (d := some 49) (f := 21) (args := #[(.slice Z2 r1.1.Ends.length cz2), .slice (some ⟨b11, 0, none⟩) 1 1]) (by kernel_rfl) (punctualsame_Same_int_ok K r1.1.Ends Z2 cz2 ([8] : List Int) (some ⟨b11, 0, none⟩) 1 _ (hS35.rdAt 13 rfl) (hS35.capAt 13 rfl) (hS35.rdBlk 0 ([8] : List Int) rfl rfl rfl) (Nat.le_refl _) _ hq6) ?_
          rintro _ w22 ⟨rfl, hS36⟩
          refine ⟨_, rfl, hS36.below, ?_⟩
          have hS37 := hS35.call hS36
          refine ge_batch [24, 25] (ans := []) (vs := [(51, .bool r5), (50, .bool r5)]) (l := []) (by kernel_rfl) trivial ?_
          by_cases hc5 : r5 = true
          · rw [if_pos hc5] at h
            refine ge_known (t := 51) (b := r5) (c := true) (by kernel_rfl) hc5 ?_
            refine ge_batch [26, 27] (ans := [.val ((.slice Z4 r2.1.Ends.length cz4))]) (vs := [(53, (.slice Z4 r2.1.Ends.length cz4)), (52, .pointer (some ⟨b7, 1, none⟩))]) (l := [.loaded ⟨b7, 1, none⟩ ((.slice Z4 r2.1.Ends.length cz4))]) (by kernel_rfl) ⟨hS37.cell 5 rfl rfl, trivial⟩ ?_
            refine ge_new (d := some 54) (o := .cells #[.int .i64 7] 3) (v := fun b => .slice (some ⟨b, 0, none⟩) 1 1) hS37 (fun b => by kernel_rfl) fun b12 w23 hx12 hS38 => ?_
            rcases hq7 : punctualsame_Same_int.f K r2.1.Ends ([7] : List Int) with _ | r6
            · rw [hq7] at h; cases h
            rw [hq7] at h
            simp only [] at h
            refine ge_call (d := some 55) (f := 21) (args := #[(.slice Z4 r2.1.Ends.length cz4), .slice (some ⟨b12, 0, none⟩) 1 1]) (by kernel_rfl) (punctualsame_Same_int_ok K r2.1.Ends Z4 cz4 ([7] : List Int) (some ⟨b12, 0, none⟩) 1 _ (hS38.rdAt 8 rfl) (hS38.capAt 8 rfl) (hS38.rdBlk 0 ([7] : List Int) rfl rfl rfl) (Nat.le_refl _) _ hq7) ?_
            rintro _ w24 ⟨rfl, hS39⟩
            refine ⟨_, rfl, hS39.below, ?_⟩
            have hS40 := hS38.call hS39
            refine ge_batch [30, 31] (ans := []) (vs := [(57, .bool r6), (56, .bool r6)]) (l := []) (by kernel_rfl) trivial ?_
            by_cases hc6 : r6 = true
            · rw [if_pos hc6] at h
              refine ge_known (t := 57) (b := r6) (c := true) (by kernel_rfl) hc6 ?_
              refine ge_batch [32, 33, 34, 35] (ans := []) (vs := [(0, .bool (r3.1 == 6)), (60, .bool (r3.1 == 6)), (59, .bool (r3.1 == 6)), (58, .int .i64 r3.1)]) (l := []) (by kernel_rfl) trivial ?_
              refine ge_nil fun a hF => hK5 _ _ ?_ a hF
              have hS41 := hS40.takeN 0
              obtain rfl := Option.some.inj h
              exact we_ret (post_ret (rs := [.tmp 0]) (ans := []) (vs := [.bool (r3.1 == 6)]) (l := []) rfl (by kernel_rfl) trivial ⟨rfl, hS41⟩)
            · rw [if_neg hc6] at h
              refine ge_known (t := 57) (b := r6) (c := false) (by kernel_rfl) (Bool.eq_false_iff.2 hc6) ?_
              refine ge_batch [32, 33, 34, 35] (ans := []) (vs := [(0, .bool false), (60, .bool false), (59, undef), (58, undef)]) (l := []) (by kernel_rfl) trivial ?_
              refine ge_nil fun a hF => hK5 _ _ ?_ a hF
              have hS42 := hS40.takeN 0
              obtain rfl := Option.some.inj h
              exact we_ret (post_ret (rs := [.tmp 0]) (ans := []) (vs := [.bool false]) (l := []) rfl (by kernel_rfl) trivial ⟨rfl, hS42⟩)
          · rw [if_neg hc5] at h
            refine ge_known (t := 51) (b := r5) (c := false) (by kernel_rfl) (Bool.eq_false_iff.2 hc5) ?_
            refine ge_batch [26, 27] (ans := []) (vs := [(53, undef), (52, undef)]) (l := []) (by kernel_rfl) trivial ?_
            refine ge_off rfl rfl rfl (by kernel_rfl) ?_
            refine ge_off rfl rfl rfl (by kernel_rfl) ?_
            refine ge_batch [30, 31, 32, 33, 34, 35] (ans := []) (vs := [(0, .bool false), (60, .bool false), (59, undef), (58, undef), (57, .bool false), (56, .bool false)]) (l := []) (by kernel_rfl) trivial ?_
            refine ge_nil fun a hF => hK5 _ _ ?_ a hF
            have hS43 := hS37.takeN 0
            obtain rfl := Option.some.inj h
            exact we_ret (post_ret (rs := [.tmp 0]) (ans := []) (vs := [.bool false]) (l := []) rfl (by kernel_rfl) trivial ⟨rfl, hS43⟩)
        · rw [if_neg hc4] at h
          refine ge_known (t := 45) (b := r4) (c := false) (by kernel_rfl) (Bool.eq_false_iff.2 hc4) ?_
          refine ge_batch [20, 21] (ans := []) (vs := [(47, undef), (46, undef)]) (l := []) (by kernel_rfl) trivial ?_
          refine ge_off rfl rfl rfl (by kernel_rfl) ?_
          refine ge_off rfl rfl rfl (by kernel_rfl) ?_
          refine ge_batch [24, 25, 26, 27] (ans := []) (vs := [(53, undef), (52, undef), (51, .bool false), (50, .bool false)]) (l := []) (by kernel_rfl) trivial ?_
          refine ge_off rfl rfl rfl (by kernel_rfl) ?_
          refine ge_off rfl rfl rfl (by kernel_rfl) ?_
          refine ge_batch [30, 31, 32, 33, 34, 35] (ans := []) (vs := [(0, .bool false), (60, .bool false), (59, undef), (58, undef), (57, .bool false), (56, .bool false)]) (l := []) (by kernel_rfl) trivial ?_
          refine ge_nil fun a hF => hK5 _ _ ?_ a hF
          have hS44 := hS34.takeN 0
          obtain rfl := Option.some.inj h
          exact we_ret (post_ret (rs := [.tmp 0]) (ans := []) (vs := [.bool false]) (l := []) rfl (by kernel_rfl) trivial ⟨rfl, hS44⟩)
      · rw [if_neg hc3] at h
        refine ge_known (t := 39) (b := (r3.2.Code == 0)) (c := false) (by kernel_rfl) (beq_eq_false_iff_ne.2 hc3) ?_
        refine ge_batch [14, 15] (ans := []) (vs := [(41, undef), (40, undef)]) (l := []) (by kernel_rfl) trivial ?_
        refine ge_off rfl rfl rfl (by kernel_rfl) ?_
        refine ge_off rfl rfl rfl (by kernel_rfl) ?_
        refine ge_batch [18, 19, 20, 21] (ans := []) (vs := [(47, undef), (46, undef), (45, .bool false), (44, .bool false)]) (l := []) (by kernel_rfl) trivial ?_
        refine ge_off rfl rfl rfl (by kernel_rfl) ?_
        refine ge_off rfl rfl rfl (by kernel_rfl) ?_
        refine ge_batch [24, 25, 26, 27] (ans := []) (vs := [(53, undef), (52, undef), (51, .bool false), (50, .bool false)]) (l := []) (by kernel_rfl) trivial ?_
        refine ge_off rfl rfl rfl (by kernel_rfl) ?_
        refine ge_off rfl rfl rfl (by kernel_rfl) ?_
        refine ge_batch [30, 31, 32, 33, 34, 35] (ans := []) (vs := [(0, .bool false), (60, .bool false), (59, undef), (58, undef), (57, .bool false), (56, .bool false)]) (l := []) (by kernel_rfl) trivial ?_
        refine ge_nil fun a hF => hK5 _ _ ?_ a hF
        have hS45 := hS31.takeN 0
        obtain rfl := Option.some.inj h
        exact we_ret (post_ret (rs := [.tmp 0]) (ans := []) (vs := [.bool false]) (l := []) rfl (by kernel_rfl) trivial ⟨rfl, hS45⟩)
    · rw [if_neg hc2] at h
      refine ge_known (t := 34) (b := (r2.2.Code == 0)) (c := false) (by kernel_rfl) (beq_eq_false_iff_ne.2 hc2) ?_
      refine ge_batch [9, 10, 11, 12, 13, 14, 15] (ans := []) (vs := [(41, undef), (40, undef), (39, .bool false), (38, .bool false), (37, undef), (36, undef), (35, undef)]) (l := []) (by kernel_rfl) trivial ?_
      refine ge_off rfl rfl rfl (by kernel_rfl) ?_
      refine ge_off rfl rfl rfl (by kernel_rfl) ?_
      refine ge_batch [18, 19, 20, 21] (ans := []) (vs := [(47, undef), (46, undef), (45, .bool false), (44, .bool false)]) (l := []) (by kernel_rfl) trivial ?_
      refine ge_off rfl rfl rfl (by kernel_rfl) ?_
      refine ge_off rfl rfl rfl (by kernel_rfl) ?_
      refine ge_batch [24, 25, 26, 27] (ans := []) (vs := [(53, undef), (52, undef), (51, .bool false), (50, .bool false)]) (l := []) (by kernel_rfl) trivial ?_
      refine ge_off rfl rfl rfl (by kernel_rfl) ?_
      refine ge_off rfl rfl rfl (by kernel_rfl) ?_
      refine ge_batch [30, 31, 32, 33, 34, 35] (ans := []) (vs := [(0, .bool false), (60, .bool false), (59, undef), (58, undef), (57, .bool false), (56, .bool false)]) (l := []) (by kernel_rfl) trivial ?_
      refine ge_nil fun a hF => hK5 _ _ ?_ a hF
      have hS46 := hS31.takeN 0
      obtain rfl := Option.some.inj h
      exact we_ret (post_ret (rs := [.tmp 0]) (ans := []) (vs := [.bool false]) (l := []) rfl (by kernel_rfl) trivial ⟨rfl, hS46⟩)
  · rw [if_neg hc1] at h
    refine ge_known (t := 29) (b := (r1.2.Code == 0)) (c := false) (by kernel_rfl) (beq_eq_false_iff_ne.2 hc1) ?_
    refine ge_batch [4, 5, 6, 7, 8, 9, 10, 11, 12, 13, 14, 15] (ans := []) (vs := [(41, undef), (40, undef), (39, .bool false), (38, .bool false), (37, undef), (36, undef), (35, undef), (34, .bool false), (33, .bool false), (32, undef), (31, undef), (30, undef)]) (l := []) (by kernel_rfl) trivial ?_
    refine ge_off rfl rfl rfl (by kernel_rfl) ?_
    refine ge_off rfl rfl rfl (by kernel_rfl) ?_
    refine ge_batch [18, 19, 20, 21] (ans := []) (vs := [(47, undef), (46, undef), (45, .bool false), (44, .bool false)]) (l := []) (by kernel_rfl) trivial ?_
    refine ge_off rfl rfl rfl (by kernel_rfl) ?_
    refine ge_off rfl rfl rfl (by kernel_rfl) ?_
    refine ge_batch [24, 25, 26, 27] (ans := []) (vs := [(53, undef), (52, undef), (51, .bool false), (50, .bool false)]) (l := []) (by kernel_rfl) trivial ?_
    refine ge_off rfl rfl rfl (by kernel_rfl) ?_
    refine ge_off rfl rfl rfl (by kernel_rfl) ?_
    refine ge_batch [30, 31, 32, 33, 34, 35] (ans := []) (vs := [(0, .bool false), (60, .bool false), (59, undef), (58, undef), (57, .bool false), (56, .bool false)]) (l := []) (by kernel_rfl) trivial ?_
    refine ge_nil fun a hF => hK5 _ _ ?_ a hF
    have hS47 := hS31.takeN 0
    obtain rfl := Option.some.inj h
    exact we_ret (post_ret (rs := [.tmp 0]) (ans := []) (vs := [.bool false]) (l := []) rfl (by kernel_rfl) trivial ⟨rfl, hS47⟩)

/-! punctual/punctuallaw.few -/
abbrev few.Post (w0 : World) (r : Bool) (e : Ending) (w : World) : Prop := e = .returned (.bool r) ∧ St w0 w []
def few.f (x0 : Int) : Bool :=
  decide (x0 ≤ 5000)
theorem few_ok (x0 : Int) (w0 : World) (r : Bool) (h : few.f x0 = r) :
    Calls Try.prog 9 #[.int .i64 x0] w0 (few.Post w0 r) := by
  have hS := St.start w0
  unfold few.f at h
  refine calls_enter (n := 5) (args := [.int .i64 x0]) (fn := Try.f9) rfl rfl rfl rfl ?_
  show WE _ _ _ _ [(0, .int .i64 x0)] _
  refine we_seq fun K1 hK1 => ?_
  refine we_region [(0, 0)] rfl ?_
  refine ge_batch [0] (ans := []) (vs := [(2, .bool false)]) (l := []) (by kernel_rfl) trivial ?_
  refine ge_nil fun a hF => hK1 _ _ ?_ a hF
  refine we_seq fun K2 hK2 => ?_
  refine we_region [(0, 0), (1, 0), (2, 0)] rfl ?_
  refine ge_batch [0, 1, 2] (ans := []) (vs := [(2, .bool (decide (x0 ≤ 5000))), (4, .bool (decide (x0 ≤ 5000))), (3, .int .i64 x0)]) (l := []) (by kernel_rfl) trivial ?_
  refine ge_nil fun a hF => hK2 _ _ ?_ a hF
  subst h
  exact we_ret (post_ret (rs := [.tmp 2]) (ans := []) (vs := [.bool (decide (x0 ≤ 5000))]) (l := []) rfl (by kernel_rfl) trivial ⟨rfl, hS⟩)

structure SCome where
  Task : Int
  At : Int
def SCome.eqb (x y : SCome) : Bool := ((x.Task == y.Task) && ((x.At == y.At) && true))
instance : Ok SCome := ⟨fun x => Ok.ok x.Task ∧ Ok.ok x.At ∧ True⟩
instance : Flat SCome := ⟨2, fun x => [.int .i64 x.Task, .int .i64 x.At], fun _ => rfl, fun _ => rfl, by decide⟩

/-! punctual/tasks.Legal -/
abbrev tasks_Legal.Post (w0 : World) (r : SFault) (e : Ending) (w : World) : Prop := e = .returned (.agg #[.int .i64 r.Code, .int .i64 r.At]) ∧ St w0 w []
def tasks_Legal.p1 (l0 : List STask) (l1 : List SCome) (i1 : Nat) (m1 : List Int) (e1 : SCome) : Option (Unit ⊕ SFault) :=
    if e1.Task < 0 then
      some (.inr (⟨4, (i1 : Int)⟩ : SFault))
    else
      if e1.Task ≥ (l0.length : Int) then
        some (.inr (⟨4, (i1 : Int)⟩ : SFault))
      else
        if e1.At < 0 then
          some (.inr (⟨3, (i1 : Int)⟩ : SFault))
        else
          if e1.At > 20000 then
            some (.inr (⟨3, (i1 : Int)⟩ : SFault))
          else
            if (i1 : Int) > 0 then
              if 0 ≤ (IntKind.i64.wrap ((i1 : Int) - 1)) then
                match l1[(IntKind.i64.wrap ((i1 : Int) - 1)).toNat]? with
                | none => none
                | some e2 =>
                  if e1.At < e2.At then
                    some (.inr (⟨12, (i1 : Int)⟩ : SFault))
                  else
                    if 0 ≤ e1.Task then
                      match m1[(e1.Task).toNat]? with
                      | none => none
                      | some e3 =>
                        if e1.At < e3 then
                          some (.inr (⟨12, (i1 : Int)⟩ : SFault))
                        else
                          some (.inl ())
                    else
                      none
              else
                none
            else
              if 0 ≤ e1.Task then
                match m1[(e1.Task).toNat]? with
                | none => none
                | some e4 =>
                  if e1.At < e4 then
                    some (.inr (⟨12, (i1 : Int)⟩ : SFault))
                  else
                    some (.inl ())
              else
                none
def tasks_Legal.r0 (l0 : List STask) (l1 : List SCome) : Nat × (List Int) → Option ((Nat × (List Int)) ⊕ (Unit ⊕ SFault))
  | (i1, m1) =>
    if (i1 : Int) < (l1.length : Int) then
      match l1[i1]? with
      | none => none
      | some e1 =>
        match tasks_Legal.p1 l0 l1 i1 m1 e1 with
        | none => none
        | some (.inl _) =>
          if 0 ≤ e1.Task then
            match l0[(e1.Task).toNat]? with
            | none => none
            | some e5 =>
              match m1[(e1.Task).toNat]? with
              | none => none
              | some e6 =>
                some (.inl ((i1 + 1), (m1.set ((e1.Task).toNat) (IntKind.i64.wrap (e1.At + e5.T)))))
          else
            none
        | some (.inr rr1) =>
          some (.inr (.inr rr1))
    else
      some (.inr (.inl ()))
def tasks_Legal.f (K : Nat) (l0 : List STask) (l1 : List SCome) : Option SFault :=
  match tasks_Check.f K l0 with
  | none => none
  | some r1 =>
    if r1.Code = 0 then
      if (l1.length : Int) > 4000 then
        some (⟨2, 0⟩ : SFault)
      else
        if l0.length ≤ 17592186044416 then
          match iter (tasks_Legal.r0 l0 l1) K (0, (List.replicate l0.length (0 : Int))) with
          | none => none
          | some (.inl _) =>
            some (⟨0, 0⟩ : SFault)
          | some (.inr rr2) =>
            some rr2
        else
          none
    else
      some r1
abbrev tasks_Legal.A1 (K : Nat) (w0 : World) (l0 : List STask) (A0 : Option Addr) (c0 : Nat) (l1 : List SCome) (A1 : Option Addr) (c1 : Nat) (hR0 : RdL w0 A0 l0) (hL0 : l0.length ≤ c0) (hR1 : RdL w0 A1 l1) (hL1 : l1.length ≤ c1) (b1 : Nat) (r1 : SFault) (b2 : Nat) (hc1 : r1.Code = 0) (hc2 : ¬ ((l1.length : Int) > 4000)) (hc3 : l0.length ≤ 17592186044416) (Z1 : Option Addr) (cz1 : Nat) (i1 : Nat) (m1 : List Int) (hc4 : (i1 : Int) < (l1.length : Int)) (e1 : SCome) (hx3 : l1[i1]? = some e1) (b3 : Nat) : Unit → Act → World → Prop := fun (s : Unit) a w => St w0 w [Own.blk b3 (.cells #[.int .i64 e1.Task, .int .i64 e1.At] 33 (0, 0)), Own.blk b1 (.cells #[.int .i64 0, .int .i64 0] 29 (0, 0)), Own.of (.slice Z1 m1.length cz1) 3 m1] ∧ Frm 94 a [(0, .slice A0 l0.length c0), (1, .slice A1 l1.length c1), (4, .pointer (some ⟨b1, 0, none⟩)), (6, (.slice Z1 m1.length cz1)), (8, .pointer (some ⟨b3, 0, none⟩)), (22, .slice A1 l1.length c1), (23, .int .i64 (l1.length : Int)), (24, .int .i64 (i1 : Int))]
abbrev tasks_Legal.B1 (K : Nat) (w0 : World) (l0 : List STask) (A0 : Option Addr) (c0 : Nat) (l1 : List SCome) (A1 : Option Addr) (c1 : Nat) (hR0 : RdL w0 A0 l0) (hL0 : l0.length ≤ c0) (hR1 : RdL w0 A1 l1) (hL1 : l1.length ≤ c1) (b1 : Nat) (r1 : SFault) (b2 : Nat) (hc1 : r1.Code = 0) (hc2 : ¬ ((l1.length : Int) > 4000)) (hc3 : l0.length ≤ 17592186044416) (Z1 : Option Addr) (cz1 : Nat) (i1 : Nat) (m1 : List Int) (hc4 : (i1 : Int) < (l1.length : Int)) (e1 : SCome) (hx3 : l1[i1]? = some e1) (b3 : Nat) : SFault → Exit → Act → World → Prop := Rets Try.prog Try.f52 (tasks_Legal.Post w0)
theorem tasks_Legal_p1 (K : Nat) (w0 : World) (l0 : List STask) (A0 : Option Addr) (c0 : Nat) (l1 : List SCome) (A1 : Option Addr) (c1 : Nat) (hR0 : RdL w0 A0 l0) (hL0 : l0.length ≤ c0) (hR1 : RdL w0 A1 l1) (hL1 : l1.length ≤ c1) (b1 : Nat) (r1 : SFault) (b2 : Nat) (hc1 : r1.Code = 0) (hc2 : ¬ ((l1.length : Int) > 4000)) (hc3 : l0.length ≤ 17592186044416) (Z1 : Option Addr) (cz1 : Nat) (i1 : Nat) (m1 : List Int) (hc4 : (i1 : Int) < (l1.length : Int)) (e1 : SCome) (hx3 : l1[i1]? = some e1) (b3 : Nat) (o : Unit ⊕ SFault) (h : tasks_Legal.p1 l0 l1 i1 m1 e1 = some o) (w : World) (hS : St w0 w [Own.blk b3 (.cells #[.int .i64 e1.Task, .int .i64 e1.At] 33 (0, 0)), Own.blk b1 (.cells #[.int .i64 0, .int .i64 0] 29 (0, 0)), Own.of (.slice Z1 m1.length cz1) 3 m1]) (Q : Exit → Act → World → Prop) (hQ : ∀ x a w, Outs (tasks_Legal.A1 K w0 l0 A0 c0 l1 A1 c1 hR0 hL0 hR1 hL1 b1 r1 b2 hc1 hc2 hc3 Z1 cz1 i1 m1 hc4 e1 hx3 b3) (tasks_Legal.B1 K w0 l0 A0 c0 l1 A1 c1 hR0 hL0 hR1 hL1 b1 r1 b2 hc1 hc2 hc3 Z1 cz1 i1 m1 hc4 e1 hx3 b3) o x a w → Q x a w) : WE Try.prog 94 (subF Try.f52 [1, 1, 1, 1, 0, 1, 0, 0, 1, 1, 0, 0, 1, 0]) Q [(0, .slice A0 l0.length c0), (1, .slice A1 l1.length c1), (4, .pointer (some ⟨b1, 0, none⟩)), (6, (.slice Z1 m1.length cz1)), (7, .int .i64 (i1 : Int)), (8, .pointer (some ⟨b3, 0, none⟩)), (22, .slice A1 l1.length c1), (23, .int .i64 (l1.length : Int)), (24, .int .i64 (i1 : Int)), (25, .bool true), (26, .int .i64 (i1 : Int)), (27, .pointer (some ⟨blkOf A1, offOf A1 + i1 * 2, none⟩)), (28, .agg #[.int .i64 e1.Task, .int .i64 e1.At])] w := by
  simp only [tasks_Legal.p1] at h
  refine we_block ?_
  refine we_seq fun K16 hK16 => ?_
  refine we_region [(0, 0), (1, 0), (2, 0), (3, 0), (4, 0), (5, 0), (6, 0), (7, 0), (8, 0), (9, 0), (10, 0)] rfl ?_
  refine ge_batch [0, 1, 2, 3] (ans := [.val (.int .i64 e1.Task)]) (vs := [(33, .bool (decide (e1.Task < 0))), (32, .bool (decide (e1.Task < 0))), (31, .int .i64 e1.Task), (30, .pointer (some ⟨b3, 0, none⟩))]) (l := [.loaded ⟨b3, 0, none⟩ (.int .i64 e1.Task)]) (by kernel_rfl) ⟨hS.cell 0 rfl rfl, trivial⟩ ?_
  by_cases hc5 : e1.Task < 0
  · rw [if_pos hc5] at h
    refine ge_known (t := 33) (b := decide (e1.Task < 0)) (c := true) (by kernel_rfl) (decide_eq_true hc5) ?_
    refine ge_batch [4, 5, 6, 7, 8, 9, 10] (ans := []) (vs := [(29, .bool true), (39, .bool true), (38, undef), (37, undef), (36, undef), (35, undef), (34, undef)]) (l := []) (by kernel_rfl) trivial ?_
    refine ge_nil fun a hF => hK16 _ _ ?_ a hF
    refine we_true (by kernel_rfl) ?_
    refine we_seq fun K17 hK17 => ?_
    refine we_region [(0, 0), (1, 0), (2, 2)] rfl ?_
    refine ge_batch [0, 1] (ans := []) (vs := [(41, .agg #[.int .i64 4, .int .i64 (i1 : Int)]), (40, .int .i64 (i1 : Int))]) (l := []) (by kernel_rfl) trivial ?_
    have hS17 := hS.bring 1 rfl
    refine ge_set (b := b1) (j := 0) (cs := #[.int .i64 0, .int .i64 0]) (t := 29) (vs := [.int .i64 4, .int .i64 (i1 : Int)]) hS17 (by kernel_rfl) rfl rfl fun w9 hS18 => ?_
    have hS19 : St w0 w9 [Own.blk b1 (.cells #[.int .i64 4, .int .i64 (i1 : Int)] 29 (0, 0)), Own.blk b3 (.cells #[.int .i64 e1.Task, .int .i64 e1.At] 33 (0, 0)), Own.of (.slice Z1 m1.length cz1) 3 m1] := hS18
    refine ge_nil fun a hF => hK17 _ _ ?_ a hF
    have hS20 := hS19.takeN 0
    obtain rfl := Option.some.inj h
    exact we_ret fun a hF => hQ _ _ _ (Outs.out nofun ⟨rfl, (post_ret (rs := [.cell 4 29]) (ans := [.val (.int .i64 4), .val (.int .i64 (i1 : Int))]) (vs := [.agg #[.int .i64 4, .int .i64 (i1 : Int)]]) (l := [.loaded ⟨b1, 0, none⟩ (.int .i64 4), .loaded ⟨b1, 1, none⟩ (.int .i64 (i1 : Int))]) rfl (by kernel_rfl) ⟨hS19.cell 0 rfl rfl, hS19.cell 0 rfl rfl, trivial⟩ ⟨rfl, hS20⟩) a hF⟩)
  · rw [if_neg hc5] at h
    refine ge_known (t := 33) (b := decide (e1.Task < 0)) (c := false) (by kernel_rfl) (decide_eq_false hc5) ?_
    refine ge_batch [4, 5, 6, 7, 8, 9, 10] (ans := [.val (.int .i64 e1.Task)]) (vs := [(29, .bool (decide (e1.Task ≥ (l0.length : Int)))), (39, .bool (decide (e1.Task ≥ (l0.length : Int)))), (38, .bool (decide (e1.Task ≥ (l0.length : Int)))), (37, .int .i64 (l0.length : Int)), (36, .slice A0 l0.length c0), (35, .int .i64 e1.Task), (34, .pointer (some ⟨b3, 0, none⟩))]) (l := [.loaded ⟨b3, 0, none⟩ (.int .i64 e1.Task)]) (by kernel_rfl) ⟨hS.cell 0 rfl rfl, trivial⟩ ?_
    refine ge_nil fun a hF => hK16 _ _ ?_ a hF
    by_cases hc6 : e1.Task ≥ (l0.length : Int)
    · rw [if_pos hc6] at h
      refine we_known (t := 29) (b := decide (e1.Task ≥ (l0.length : Int))) (v := true) (by kernel_rfl) (decide_eq_true hc6) ?_
      refine we_true (by kernel_rfl) ?_
      refine we_seq fun K18 hK18 => ?_
      refine we_region [(0, 0), (1, 0), (2, 2)] rfl ?_
      refine ge_batch [0, 1] (ans := []) (vs := [(41, .agg #[.int .i64 4, .int .i64 (i1 : Int)]), (40, .int .i64 (i1 : Int))]) (l := []) (by kernel_rfl) trivial ?_
      have hS21 := hS.bring 1 rfl
      refine ge_set (b := b1) (j := 0) (cs := #[.int .i64 0, .int .i64 0]) (t := 29) (vs := [.int .i64 4, .int .i64 (i1 : Int)]) hS21 (by kernel_rfl) rfl rfl fun w10 hS22 => ?_
      have hS23 : St w0 w10 [Own.blk b1 (.cells #[.int .i64 4, .int .i64 (i1 : Int)] 29 (0, 0)), Own.blk b3 (.cells #[.int .i64 e1.Task, .int .i64 e1.At] 33 (0, 0)), Own.of (.slice Z1 m1.length cz1) 3 m1] := hS22
      refine ge_nil fun a hF => hK18 _ _ ?_ a hF
      have hS24 := hS23.takeN 0
      obtain rfl := Option.some.inj h
      exact we_ret fun a hF => hQ _ _ _ (Outs.out nofun ⟨rfl, (post_ret (rs := [.cell 4 29]) (ans := [.val (.int .i64 4), .val (.int .i64 (i1 : Int))]) (vs := [.agg #[.int .i64 4, .int .i64 (i1 : Int)]]) (l := [.loaded ⟨b1, 0, none⟩ (.int .i64 4), .loaded ⟨b1, 1, none⟩ (.int .i64 (i1 : Int))]) rfl (by kernel_rfl) ⟨hS23.cell 0 rfl rfl, hS23.cell 0 rfl rfl, trivial⟩ ⟨rfl, hS24⟩) a hF⟩)
    · rw [if_neg hc6] at h
      refine we_known (t := 29) (b := decide (e1.Task ≥ (l0.length : Int))) (v := false) (by kernel_rfl) (decide_eq_false hc6) ?_
      refine we_false (by kernel_rfl) ?_
      refine we_seq fun K19 hK19 => ?_
      refine we_region [(0, 0), (1, 0), (2, 0), (3, 0), (4, 0), (5, 0), (6, 0), (7, 0), (8, 0)] rfl ?_
      refine ge_batch [0, 1, 2, 3] (ans := [.val (.int .i64 e1.At)]) (vs := [(46, .bool (decide (e1.At < 0))), (45, .bool (decide (e1.At < 0))), (44, .int .i64 e1.At), (43, .pointer (some ⟨b3, 1, none⟩))]) (l := [.loaded ⟨b3, 1, none⟩ (.int .i64 e1.At)]) (by kernel_rfl) ⟨hS.cell 0 rfl rfl, trivial⟩ ?_
      by_cases hc7 : e1.At < 0
      · rw [if_pos hc7] at h
        refine ge_known (t := 46) (b := decide (e1.At < 0)) (c := true) (by kernel_rfl) (decide_eq_true hc7) ?_
        refine ge_batch [4, 5, 6, 7, 8] (ans := []) (vs := [(42, .bool true), (50, .bool true), (49, undef), (48, undef), (47, undef)]) (l := []) (by kernel_rfl) trivial ?_
        refine ge_nil fun a hF => hK19 _ _ ?_ a hF
        refine we_true (by kernel_rfl) ?_
        refine we_seq fun K20 hK20 => ?_
        refine we_region [(0, 0), (1, 0), (2, 2)] rfl ?_
        refine ge_batch [0, 1] (ans := []) (vs := [(52, .agg #[.int .i64 3, .int .i64 (i1 : Int)]), (51, .int .i64 (i1 : Int))]) (l := []) (by kernel_rfl) trivial ?_
        have hS25 := hS.bring 1 rfl
        refine ge_set (b := b1) (j := 0) (cs := #[.int .i64 0, .int .i64 0]) (t := 29) (vs := [.int .i64 3, .int .i64 (i1 : Int)]) hS25 (by kernel_rfl) rfl rfl fun w11 hS26 => ?_
        have hS27 : St w0 w11 [Own.blk b1 (.cells #[.int .i64 3, .int .i64 (i1 : Int)] 29 (0, 0)), Own.blk b3 (.cells #[.int .i64 e1.Task, .int .i64 e1.At] 33 (0, 0)), Own.of (.slice Z1 m1.length cz1) 3 m1] := hS26
        refine ge_nil fun a hF => hK20 _ _ ?_ a hF
        have hS28 := hS27.takeN 0
        obtain rfl := Option.some.inj h
        exact we_ret fun a hF => hQ _ _ _ (Outs.out nofun ⟨rfl, (post_ret (rs := [.cell 4 29]) (ans := [.val (.int .i64 3), .val (.int .i64 (i1 : Int))]) (vs := [.agg #[.int .i64 3, .int .i64 (i1 : Int)]]) (l := [.loaded ⟨b1, 0, none⟩ (.int .i64 3), .loaded ⟨b1, 1, none⟩ (.int .i64 (i1 : Int))]) rfl (by kernel_rfl) ⟨hS27.cell 0 rfl rfl, hS27.cell 0 rfl rfl, trivial⟩ ⟨rfl, hS28⟩) a hF⟩)
      · rw [if_neg hc7] at h
        refine ge_known (t := 46) (b := decide (e1.At < 0)) (c := false) (by kernel_rfl) (decide_eq_false hc7) ?_
        refine ge_batch [4, 5, 6, 7, 8] (ans := [.val (.int .i64 e1.At)]) (vs := [(42, .bool (decide (e1.At > 20000))), (50, .bool (decide (e1.At > 20000))), (49, .bool (decide (e1.At > 20000))), (48, .int .i64 e1.At), (47, .pointer (some ⟨b3, 1, none⟩))]) (l := [.loaded ⟨b3, 1, none⟩ (.int .i64 e1.At)]) (by kernel_rfl) ⟨hS.cell 0 rfl rfl, trivial⟩ ?_
        refine ge_nil fun a hF => hK19 _ _ ?_ a hF
        by_cases hc8 : e1.At > 20000
        · rw [if_pos hc8] at h
          refine we_known (t := 42) (b := decide (e1.At > 20000)) (v := true) (by kernel_rfl) (decide_eq_true hc8) ?_
          refine we_true (by kernel_rfl) ?_
          refine we_seq fun K21 hK21 => ?_
          refine we_region [(0, 0), (1, 0), (2, 2)] rfl ?_
          refine ge_batch [0, 1] (ans := []) (vs := [(52, .agg #[.int .i64 3, .int .i64 (i1 : Int)]), (51, .int .i64 (i1 : Int))]) (l := []) (by kernel_rfl) trivial ?_
          have hS29 := hS.bring 1 rfl
          refine ge_set (b := b1) (j := 0) (cs := #[.int .i64 0, .int .i64 0]) (t := 29) (vs := [.int .i64 3, .int .i64 (i1 : Int)]) hS29 (by kernel_rfl) rfl rfl fun w12 hS30 => ?_
          have hS31 : St w0 w12 [Own.blk b1 (.cells #[.int .i64 3, .int .i64 (i1 : Int)] 29 (0, 0)), Own.blk b3 (.cells #[.int .i64 e1.Task, .int .i64 e1.At] 33 (0, 0)), Own.of (.slice Z1 m1.length cz1) 3 m1] := hS30
          refine ge_nil fun a hF => hK21 _ _ ?_ a hF
          have hS32 := hS31.takeN 0
          obtain rfl := Option.some.inj h
          exact we_ret fun a hF => hQ _ _ _ (Outs.out nofun ⟨rfl, (post_ret (rs := [.cell 4 29]) (ans := [.val (.int .i64 3), .val (.int .i64 (i1 : Int))]) (vs := [.agg #[.int .i64 3, .int .i64 (i1 : Int)]]) (l := [.loaded ⟨b1, 0, none⟩ (.int .i64 3), .loaded ⟨b1, 1, none⟩ (.int .i64 (i1 : Int))]) rfl (by kernel_rfl) ⟨hS31.cell 0 rfl rfl, hS31.cell 0 rfl rfl, trivial⟩ ⟨rfl, hS32⟩) a hF⟩)
        · rw [if_neg hc8] at h
          refine we_known (t := 42) (b := decide (e1.At > 20000)) (v := false) (by kernel_rfl) (decide_eq_false hc8) ?_
          refine we_false (by kernel_rfl) ?_
          refine we_seq fun K22 hK22 => ?_
          refine we_draws (by kernel_rfl) [(0, 0), (1, 0), (2, 0), (3, 0), (4, 0), (5, 0), (6, 0), (7, 0), (8, 0), (9, 0), (10, 0), (11, 0), (12, 0), (13, 0), (14, 0), (15, 0), (16, 0), (17, 0), (18, 0), (19, 0), (20, 0), (21, 0), (22, 0), (23, 0)] (by kernel_rfl) ?_
          have hS33 := hS.drew
          refine ge_batch [0, 1, 2] (ans := []) (vs := [(56, .bool (decide ((i1 : Int) > 0))), (55, .bool (decide ((i1 : Int) > 0))), (54, .int .i64 (i1 : Int))]) (l := []) (by kernel_rfl) trivial ?_
          by_cases hc9 : (i1 : Int) > 0
          · rw [if_pos hc9] at h
            refine ge_known (t := 56) (b := decide ((i1 : Int) > 0)) (c := true) (by kernel_rfl) (decide_eq_true hc9) ?_
            refine ge_batch [3, 4, 5, 6, 7] (ans := [.val (.int .i64 e1.At)]) (vs := [(61, .int .i64 (IntKind.i64.wrap ((i1 : Int) - 1))), (60, .int .i64 (i1 : Int)), (59, .slice A1 l1.length c1), (58, .int .i64 e1.At), (57, .pointer (some ⟨b3, 1, none⟩))]) (l := [.loaded ⟨b3, 1, none⟩ (.int .i64 e1.At)]) (by kernel_rfl) ⟨hS33.cell 0 rfl rfl, trivial⟩ ?_
            by_cases hc10 : 0 ≤ (IntKind.i64.wrap ((i1 : Int) - 1))
            · rw [if_pos hc10] at h
              rcases hx5 : l1[(IntKind.i64.wrap ((i1 : Int) - 1)).toNat]? with _ | e2
              · rw [hx5] at h; cases h
              rw [hx5] at h
              simp only [] at h
              refine ge_index (d := 62) (ty := 0) (t := 23) (el := 33) (sz := 2) (m := l1.length) (c := c1) (x := (.tmp 59)) (y := (.tmp 61)) (A := A1) (k' := .i64) (j := (IntKind.i64.wrap ((i1 : Int) - 1))) (jn := ((IntKind.i64.wrap ((i1 : Int) - 1)).toNat)) (b0 := blkOf A1) (o0 := offOf A1) (by kernel_rfl) (by kernel_rfl) (by kernel_rfl) (by kernel_rfl) (by kernel_rfl) ((hS33.rd hR1).eqSome (pos_of_get hx5)) (Int.toNat_of_nonneg hc10).symm (lt_of_get hx5) ?_
              refine ge_batch [9, 10, 11, 12, 13] (ans := [.val (.int .i64 e2.At)]) (vs := [(67, .bool (decide (e1.At < e2.At))), (66, .bool (decide (e1.At < e2.At))), (65, .bool (decide (e1.At < e2.At))), (64, .int .i64 e2.At), (63, .pointer (some ⟨blkOf A1, offOf A1 + (IntKind.i64.wrap ((i1 : Int) - 1)).toNat * 2 + 1, none⟩))]) (l := [.loaded ⟨blkOf A1, offOf A1 + ((IntKind.i64.wrap ((i1 : Int) - 1)).toNat) * 2 + 1, none⟩ (.int .i64 e2.At)]) (by kernel_rfl) ⟨RdL.cell (j := 1) (hS33.rd hR1) hx5 rfl, trivial⟩ ?_
              by_cases hc11 : e1.At < e2.At
              · rw [if_pos hc11] at h
                refine ge_known (t := 67) (b := decide (e1.At < e2.At)) (c := true) (by kernel_rfl) (decide_eq_true hc11) ?_
                refine ge_batch [14, 15, 16, 17, 18, 19, 20, 21, 22, 23] (ans := []) (vs := [(53, .bool true), (76, .bool true), (75, undef), (74, undef), (73, undef), (72, undef), (71, undef), (70, undef), (69, undef), (68, undef)]) (l := []) (by kernel_rfl) trivial ?_
                refine ge_nil fun a hF => hK22 _ _ ?_ a hF
                refine we_true (by kernel_rfl) ?_
                refine we_seq fun K23 hK23 => ?_
                refine we_region [(0, 0), (1, 0), (2, 2)] rfl ?_
                refine ge_batch [0, 1] (ans := []) (vs := [(78, .agg #[.int .i64 12, .int .i64 (i1 : Int)]), (77, .int .i64 (i1 : Int))]) (l := []) (by kernel_rfl) trivial ?_
                have hS34 := hS33.bring 1 rfl
                refine ge_set (b := b1) (j := 0) (cs := #[.int .i64 0, .int .i64 0]) (t := 29) (vs := [.int .i64 12, .int .i64 (i1 : Int)]) hS34 (by kernel_rfl) rfl rfl fun w13 hS35 => ?_
                have hS36 : St w0 w13 [Own.blk b1 (.cells #[.int .i64 12, .int .i64 (i1 : Int)] 29 (0, 0)), Own.blk b3 (.cells #[.int .i64 e1.Task, .int .i64 e1.At] 33 (0, 0)), Own.of (.slice Z1 m1.length cz1) 3 m1] := hS35
                refine ge_nil fun a hF => hK23 _ _ ?_ a hF
                have hS37 := hS36.takeN 0
                obtain rfl := Option.some.inj h
                exact we_ret fun a hF => hQ _ _ _ (Outs.out nofun ⟨rfl, (post_ret (rs := [.cell 4 29]) (ans := [.val (.int .i64 12), .val (.int .i64 (i1 : Int))]) (vs := [.agg #[.int .i64 12, .int .i64 (i1 : Int)]]) (l := [.loaded ⟨b1, 0, none⟩ (.int .i64 12), .loaded ⟨b1, 1, none⟩ (.int .i64 (i1 : Int))]) rfl (by kernel_rfl) ⟨hS36.cell 0 rfl rfl, hS36.cell 0 rfl rfl, trivial⟩ ⟨rfl, hS37⟩) a hF⟩)
              · rw [if_neg hc11] at h
                refine ge_known (t := 67) (b := decide (e1.At < e2.At)) (c := false) (by kernel_rfl) (decide_eq_false hc11) ?_
                refine ge_batch [14, 15, 16, 17, 18] (ans := [.val (.int .i64 e1.At), .val (.int .i64 e1.Task)]) (vs := [(72, .int .i64 e1.Task), (71, .pointer (some ⟨b3, 0, none⟩)), (70, (.slice Z1 m1.length cz1)), (69, .int .i64 e1.At), (68, .pointer (some ⟨b3, 1, none⟩))]) (l := [.loaded ⟨b3, 1, none⟩ (.int .i64 e1.At), .loaded ⟨b3, 0, none⟩ (.int .i64 e1.Task)]) (by kernel_rfl) ⟨hS33.cell 0 rfl rfl, hS33.cell 0 rfl rfl, trivial⟩ ?_
                by_cases hc12 : 0 ≤ e1.Task
                · rw [if_pos hc12] at h
                  rcases hx6 : m1[(e1.Task).toNat]? with _ | e3
                  · rw [hx6] at h; cases h
                  rw [hx6] at h
                  simp only [] at h
                  refine ge_index (d := 73) (ty := 0) (t := 24) (el := 3) (sz := 1) (m := m1.length) (c := cz1) (x := (.tmp 70)) (y := (.tmp 72)) (A := Z1) (k' := .i64) (j := e1.Task) (jn := ((e1.Task).toNat)) (b0 := blkOf Z1) (o0 := offOf Z1) (by kernel_rfl) (by kernel_rfl) (by kernel_rfl) (by kernel_rfl) (by kernel_rfl) ((hS33.rdAt 2 rfl).eqSome (pos_of_get hx6)) (Int.toNat_of_nonneg hc12).symm (lt_of_get hx6) ?_
                  refine ge_batch [20, 21, 22, 23] (ans := [.val (.int .i64 e3)]) (vs := [(53, .bool (decide (e1.At < e3))), (76, .bool (decide (e1.At < e3))), (75, .bool (decide (e1.At < e3))), (74, .int .i64 e3)]) (l := [.loaded ⟨blkOf Z1, offOf Z1 + ((e1.Task).toNat) * 1, none⟩ (.int .i64 e3)]) (by kernel_rfl) ⟨RdL.cell (j := 0) (hS33.rdAt 2 rfl) hx6 rfl, trivial⟩ ?_
                  refine ge_nil fun a hF => hK22 _ _ ?_ a hF
                  by_cases hc13 : e1.At < e3
                  · rw [if_pos hc13] at h
                    refine we_known (t := 53) (b := decide (e1.At < e3)) (v := true) (by kernel_rfl) (decide_eq_true hc13) ?_
                    refine we_true (by kernel_rfl) ?_
                    refine we_seq fun K24 hK24 => ?_
                    refine we_region [(0, 0), (1, 0), (2, 2)] rfl ?_
                    refine ge_batch [0, 1] (ans := []) (vs := [(78, .agg #[.int .i64 12, .int .i64 (i1 : Int)]), (77, .int .i64 (i1 : Int))]) (l := []) (by kernel_rfl) trivial ?_
                    have hS38 := hS33.bring 1 rfl
                    refine ge_set (b := b1) (j := 0) (cs := #[.int .i64 0, .int .i64 0]) (t := 29) (vs := [.int .i64 12, .int .i64 (i1 : Int)]) hS38 (by kernel_rfl) rfl rfl fun w14 hS39 => ?_
                    have hS40 : St w0 w14 [Own.blk b1 (.cells #[.int .i64 12, .int .i64 (i1 : Int)] 29 (0, 0)), Own.blk b3 (.cells #[.int .i64 e1.Task, .int .i64 e1.At] 33 (0, 0)), Own.of (.slice Z1 m1.length cz1) 3 m1] := hS39
                    refine ge_nil fun a hF => hK24 _ _ ?_ a hF
                    have hS41 := hS40.takeN 0
                    obtain rfl := Option.some.inj h
                    exact we_ret fun a hF => hQ _ _ _ (Outs.out nofun ⟨rfl, (post_ret (rs := [.cell 4 29]) (ans := [.val (.int .i64 12), .val (.int .i64 (i1 : Int))]) (vs := [.agg #[.int .i64 12, .int .i64 (i1 : Int)]]) (l := [.loaded ⟨b1, 0, none⟩ (.int .i64 12), .loaded ⟨b1, 1, none⟩ (.int .i64 (i1 : Int))]) rfl (by kernel_rfl) ⟨hS40.cell 0 rfl rfl, hS40.cell 0 rfl rfl, trivial⟩ ⟨rfl, hS41⟩) a hF⟩)
                  · rw [if_neg hc13] at h
                    refine we_known (t := 53) (b := decide (e1.At < e3)) (v := false) (by kernel_rfl) (decide_eq_false hc13) ?_
                    refine we_false (by kernel_rfl) ?_
                    have hS42 := hS33.bring 2 rfl
                    have hS43 := hS42.bring 2 rfl
                    have hS44 := hS43.bring 2 rfl
                    obtain rfl := Option.some.inj h
                    exact we_skip fun a hF => hQ _ _ _ (Outs.again ⟨hS44, hF.weaken ⟨by kernel_rfl, by kernel_rfl, by kernel_rfl, by kernel_rfl, by kernel_rfl, by kernel_rfl, by kernel_rfl, by kernel_rfl, trivial⟩⟩)
                · rw [if_neg hc12] at h
                  cases h
            · rw [if_neg hc10] at h
              cases h
          · rw [if_neg hc9] at h
            refine ge_known (t := 56) (b := decide ((i1 : Int) > 0)) (c := false) (by kernel_rfl) (decide_eq_false hc9) ?_
            refine ge_batch [3, 4, 5, 6, 7, 8, 9, 10, 11, 12, 13, 14, 15, 16, 17, 18] (ans := [.val (.int .i64 e1.At), .val (.int .i64 e1.Task)]) (vs := [(72, .int .i64 e1.Task), (71, .pointer (some ⟨b3, 0, none⟩)), (70, (.slice Z1 m1.length cz1)), (69, .int .i64 e1.At), (68, .pointer (some ⟨b3, 1, none⟩)), (67, .bool false), (66, .bool false), (65, undef), (64, undef), (63, undef), (62, undef), (61, undef), (60, undef), (59, undef), (58, undef), (57, undef)]) (l := [.loaded ⟨b3, 1, none⟩ (.int .i64 e1.At), .loaded ⟨b3, 0, none⟩ (.int .i64 e1.Task)]) (by kernel_rfl) ⟨hS33.cell 0 rfl rfl, hS33.cell 0 rfl rfl, trivial⟩ ?_
            by_cases hc14 : 0 ≤ e1.Task
            · rw [if_pos hc14] at h
              rcases hx7 : m1[(e1.Task).toNat]? with _ | e4
              · rw [hx7] at h; cases h
              rw [hx7] at h
              simp only [] at h
              refine ge_index (d := 73) (ty := 0) (t := 24) (el := 3) (sz := 1) (m := m1.length) (c := cz1) (x := (.tmp 70)) (y := (.tmp 72)) (A := Z1) (k' := .i64) (j := e1.Task) (jn := ((e1.Task).toNat)) (b0 := blkOf Z1) (o0 := offOf Z1) (by kernel_rfl) (by kernel_rfl) (by kernel_rfl) (by kernel_rfl) (by kernel_rfl) ((hS33.rdAt 2 rfl).eqSome (pos_of_get hx7)) (Int.toNat_of_nonneg hc14).symm (lt_of_get hx7) ?_
              refine ge_batch [20, 21, 22, 23] (ans := [.val (.int .i64 e4)]) (vs := [(53, .bool (decide (e1.At < e4))), (76, .bool (decide (e1.At < e4))), (75, .bool (decide (e1.At < e4))), (74, .int .i64 e4)]) (l := [.loaded ⟨blkOf Z1, offOf Z1 + ((e1.Task).toNat) * 1, none⟩ (.int .i64 e4)]) (by kernel_rfl) ⟨RdL.cell (j := 0) (hS33.rdAt 2 rfl) hx7 rfl, trivial⟩ ?_
              refine ge_nil fun a hF => hK22 _ _ ?_ a hF
              by_cases hc15 : e1.At < e4
              · rw [if_pos hc15] at h
                refine we_known (t := 53) (b := decide (e1.At < e4)) (v := true) (by kernel_rfl) (decide_eq_true hc15) ?_
                refine we_true (by kernel_rfl) ?_
                refine we_seq fun K25 hK25 => ?_
                refine we_region [(0, 0), (1, 0), (2, 2)] rfl ?_
                refine ge_batch [0, 1] (ans := []) (vs := [(78, .agg #[.int .i64 12, .int .i64 (i1 : Int)]), (77, .int .i64 (i1 : Int))]) (l := []) (by kernel_rfl) trivial ?_
                have hS45 := hS33.bring 1 rfl
                refine ge_set (b := b1) (j := 0) (cs := #[.int .i64 0, .int .i64 0]) (t := 29) (vs := [.int .i64 12, .int .i64 (i1 : Int)]) hS45 (by kernel_rfl) rfl rfl fun w15 hS46 => ?_
                have hS47 : St w0 w15 [Own.blk b1 (.cells #[.int .i64 12, .int .i64 (i1 : Int)] 29 (0, 0)), Own.blk b3 (.cells #[.int .i64 e1.Task, .int .i64 e1.At] 33 (0, 0)), Own.of (.slice Z1 m1.length cz1) 3 m1] := hS46
                refine ge_nil fun a hF => hK25 _ _ ?_ a hF
                have hS48 := hS47.takeN 0
                obtain rfl := Option.some.inj h
                exact we_ret fun a hF => hQ _ _ _ (Outs.out nofun ⟨rfl, (post_ret (rs := [.cell 4 29]) (ans := [.val (.int .i64 12), .val (.int .i64 (i1 : Int))]) (vs := [.agg #[.int .i64 12, .int .i64 (i1 : Int)]]) (l := [.loaded ⟨b1, 0, none⟩ (.int .i64 12), .loaded ⟨b1, 1, none⟩ (.int .i64 (i1 : Int))]) rfl (by kernel_rfl) ⟨hS47.cell 0 rfl rfl, hS47.cell 0 rfl rfl, trivial⟩ ⟨rfl, hS48⟩) a hF⟩)
              · rw [if_neg hc15] at h
                refine we_known (t := 53) (b := decide (e1.At < e4)) (v := false) (by kernel_rfl) (decide_eq_false hc15) ?_
                refine we_false (by kernel_rfl) ?_
                have hS49 := hS33.bring 2 rfl
                have hS50 := hS49.bring 2 rfl
                have hS51 := hS50.bring 2 rfl
                obtain rfl := Option.some.inj h
                exact we_skip fun a hF => hQ _ _ _ (Outs.again ⟨hS51, hF.weaken ⟨by kernel_rfl, by kernel_rfl, by kernel_rfl, by kernel_rfl, by kernel_rfl, by kernel_rfl, by kernel_rfl, by kernel_rfl, trivial⟩⟩)
            · rw [if_neg hc14] at h
              cases h
abbrev tasks_Legal.A0 (K : Nat) (w0 : World) (l0 : List STask) (A0 : Option Addr) (c0 : Nat) (l1 : List SCome) (A1 : Option Addr) (c1 : Nat) (hR0 : RdL w0 A0 l0) (hL0 : l0.length ≤ c0) (hR1 : RdL w0 A1 l1) (hL1 : l1.length ≤ c1) (b1 : Nat) (r1 : SFault) (b2 : Nat) (hc1 : r1.Code = 0) (hc2 : ¬ ((l1.length : Int) > 4000)) (hc3 : l0.length ≤ 17592186044416) (Z1 : Option Addr) (cz1 : Nat) : (Nat × (List Int)) → Act → World → Prop := fun (s : Nat × (List Int)) a w => St w0 w [Own.blk b1 (.cells #[.int .i64 0, .int .i64 0] 29 (0, 0)), Own.of (.slice Z1 s.2.length cz1) 3 s.2] ∧ Frm 94 a [(0, .slice A0 l0.length c0), (1, .slice A1 l1.length c1), (4, .pointer (some ⟨b1, 0, none⟩)), (6, (.slice Z1 s.2.length cz1)), (22, .slice A1 l1.length c1), (23, .int .i64 (l1.length : Int)), (24, .int .i64 (s.1 : Int))]
abbrev tasks_Legal.B0 (K : Nat) (w0 : World) (l0 : List STask) (A0 : Option Addr) (c0 : Nat) (l1 : List SCome) (A1 : Option Addr) (c1 : Nat) (hR0 : RdL w0 A0 l0) (hL0 : l0.length ≤ c0) (hR1 : RdL w0 A1 l1) (hL1 : l1.length ≤ c1) (b1 : Nat) (r1 : SFault) (b2 : Nat) (hc1 : r1.Code = 0) (hc2 : ¬ ((l1.length : Int) > 4000)) (hc3 : l0.length ≤ 17592186044416) (Z1 : Option Addr) (cz1 : Nat) : (Unit ⊕ SFault) → Exit → Act → World → Prop := Exits 0 (fun (s : Unit) a w => St w0 w [Own.blk b1 (.cells #[.int .i64 0, .int .i64 0] 29 (0, 0))] ∧ Frm 94 a [(4, .pointer (some ⟨b1, 0, none⟩))]) (Rets Try.prog Try.f52 (tasks_Legal.Post w0))
theorem tasks_Legal_r0 (K : Nat) (w0 : World) (l0 : List STask) (A0 : Option Addr) (c0 : Nat) (l1 : List SCome) (A1 : Option Addr) (c1 : Nat) (hR0 : RdL w0 A0 l0) (hL0 : l0.length ≤ c0) (hR1 : RdL w0 A1 l1) (hL1 : l1.length ≤ c1) (b1 : Nat) (r1 : SFault) (b2 : Nat) (hc1 : r1.Code = 0) (hc2 : ¬ ((l1.length : Int) > 4000)) (hc3 : l0.length ≤ 17592186044416) (Z1 : Option Addr) (cz1 : Nat) (s : Nat × (List Int)) (o : (Nat × (List Int)) ⊕ (Unit ⊕ SFault)) (h : tasks_Legal.r0 l0 l1 s = some o) (a : Act) (w : World) (hA : tasks_Legal.A0 K w0 l0 A0 c0 l1 A1 c1 hR0 hL0 hR1 hL1 b1 r1 b2 hc1 hc2 hc3 Z1 cz1 s a w) (Q : Exit → Act → World → Prop) (hQ : ∀ x a w, Outs (tasks_Legal.A0 K w0 l0 A0 c0 l1 A1 c1 hR0 hL0 hR1 hL1 b1 r1 b2 hc1 hc2 hc3 Z1 cz1) (tasks_Legal.B0 K w0 l0 A0 c0 l1 A1 c1 hR0 hL0 hR1 hL1 b1 r1 b2 hc1 hc2 hc3 Z1 cz1) o x a w → Q x a w) : (subF Try.f52 [1, 1, 1, 1, 0, 1, 0, 0]).wp Try.prog Q a w := by
  obtain ⟨i1, m1⟩ := s
  obtain ⟨hS, hF⟩ := hA
  replace hS : St w0 w [Own.blk b1 (.cells #[.int .i64 0, .int .i64 0] 29 (0, 0)), Own.of (.slice Z1 m1.length cz1) 3 m1] := hS
  simp only [tasks_Legal.r0] at h
  refine (?_ : WE Try.prog 94 (subF Try.f52 [1, 1, 1, 1, 0, 1, 0, 0]) Q [(0, .slice A0 l0.length c0), (1, .slice A1 l1.length c1), (4, .pointer (some ⟨b1, 0, none⟩)), (6, (.slice Z1 m1.length cz1)), (22, .slice A1 l1.length c1), (23, .int .i64 (l1.length : Int)), (24, .int .i64 (i1 : Int))] w) a hF
  clear hF a
  refine we_seq fun K11 hK11 => ?_
  refine we_region [(0, 0)] rfl ?_
  refine ge_batch [0] (ans := []) (vs := [(25, .bool (decide ((i1 : Int) < (l1.length : Int))))]) (l := []) (by kernel_rfl) trivial ?_
  refine ge_nil fun a hF => hK11 _ _ ?_ a hF
  refine we_seq fun K12 hK12 => ?_
  by_cases hc4 : (i1 : Int) < (l1.length : Int)
  · rw [if_pos hc4] at h
    refine we_known (t := 25) (b := decide ((i1 : Int) < (l1.length : Int))) (v := true) (by kernel_rfl) (decide_eq_true hc4) ?_
    refine we_true (by kernel_rfl) ?_
    refine we_skip fun a hF => hK12 _ _ ?_ a hF
    refine we_seq fun K13 hK13 => ?_
    refine we_block ?_
    refine we_seq fun K14 hK14 => ?_
    refine we_region [(0, 0), (1, 0), (2, 0), (3, 1), (4, 0), (5, 2)] rfl ?_
    refine ge_batch [0] (ans := []) (vs := [(26, .int .i64 (i1 : Int))]) (l := []) (by kernel_rfl) trivial ?_
    rcases hx3 : l1[i1]? with _ | e1
    · rw [hx3] at h; cases h
    rw [hx3] at h
    simp only [] at h
    refine ge_index (d := 27) (ty := 0) (t := 23) (el := 33) (sz := 2) (m := l1.length) (c := c1) (x := (.tmp 22)) (y := (.tmp 24)) (A := A1) (k' := .i64) (j := (i1 : Int)) (jn := i1) (b0 := blkOf A1) (o0 := offOf A1) (by kernel_rfl) (by kernel_rfl) (by kernel_rfl) (by kernel_rfl) (by kernel_rfl) ((hS.rd hR1).eqSome (pos_of_get hx3)) rfl (lt_of_get hx3) ?_
    refine ge_batch [2] (ans := [.val (.int .i64 e1.Task), .val (.int .i64 e1.At)]) (vs := [(28, .agg #[.int .i64 e1.Task, .int .i64 e1.At])]) (l := [.loaded ⟨blkOf A1, offOf A1 + i1 * 2, none⟩ (.int .i64 e1.Task), .loaded ⟨blkOf A1, offOf A1 + i1 * 2 + 1, none⟩ (.int .i64 e1.At)]) (by kernel_rfl) ⟨RdL.cell (j := 0) (hS.rd hR1) hx3 rfl, RdL.cell (j := 1) (hS.rd hR1) hx3 rfl, trivial⟩ ?_
    refine ge_new (d := some 8) (o := .cells #[.int .i64 0, .int .i64 0] 33) (v := fun b => .pointer (some ⟨b, 0, none⟩)) hS (fun b => by kernel_rfl) fun b3 w7 hx4 hS14 => ?_
    refine ge_batch [4] (ans := []) (vs := [(7, .int .i64 (i1 : Int))]) (l := []) (by kernel_rfl) trivial ?_
    refine ge_set (b := b3) (j := 0) (cs := #[.int .i64 0, .int .i64 0]) (t := 33) (vs := [.int .i64 e1.Task, .int .i64 e1.At]) hS14 (by kernel_rfl) rfl rfl fun w8 hS15 => ?_
    have hS16 : St w0 w8 [Own.blk b3 (.cells #[.int .i64 e1.Task, .int .i64 e1.At] 33 (0, 0)), Own.blk b1 (.cells #[.int .i64 0, .int .i64 0] 29 (0, 0)), Own.of (.slice Z1 m1.length cz1) 3 m1] := hS15
    refine ge_nil fun a hF => hK14 _ _ ?_ a hF
    refine we_seq fun K15 hK15 => ?_
    rcases hq2 : tasks_Legal.p1 l0 l1 i1 m1 e1 with _ | (_ | rr1)
    · rw [hq2] at h; cases h
    · rw [hq2] at h
      simp only [] at h
      refine we_keep (e' := [(0, .slice A0 l0.length c0), (1, .slice A1 l1.length c1), (4, .pointer (some ⟨b1, 0, none⟩)), (6, (.slice Z1 m1.length cz1)), (7, .int .i64 (i1 : Int)), (8, .pointer (some ⟨b3, 0, none⟩)), (22, .slice A1 l1.length c1), (23, .int .i64 (l1.length : Int)), (24, .int .i64 (i1 : Int)), (25, .bool true), (26, .int .i64 (i1 : Int)), (27, .pointer (some ⟨blkOf A1, offOf A1 + i1 * 2, none⟩)), (28, .agg #[.int .i64 e1.Task, .int .i64 e1.At])]) ⟨by kernel_rfl, by kernel_rfl, by kernel_rfl, by kernel_rfl, by kernel_rfl, by kernel_rfl, by kernel_rfl, by kernel_rfl, by kernel_rfl, by kernel_rfl, by kernel_rfl, by kernel_rfl, by kernel_rfl, trivial⟩ (tasks_Legal_p1 K w0 l0 A0 c0 l1 A1 c1 hR0 hL0 hR1 hL1 b1 r1 b2 hc1 hc2 hc3 Z1 cz1 i1 m1 hc4 e1 hx3 b3 _ hq2 _ hS16 _ ?_)
      rintro _ a w16 ⟨rfl, hS52, hF⟩
      replace hS52 : St w0 w16 [Own.blk b3 (.cells #[.int .i64 e1.Task, .int .i64 e1.At] 33 (0, 0)), Own.blk b1 (.cells #[.int .i64 0, .int .i64 0] 29 (0, 0)), Own.of (.slice Z1 m1.length cz1) 3 m1] := hS52
      refine hK15 [(0, .slice A0 l0.length c0), (1, .slice A1 l1.length c1), (4, .pointer (some ⟨b1, 0, none⟩)), (6, (.slice Z1 m1.length cz1)), (8, .pointer (some ⟨b3, 0, none⟩)), (22, .slice A1 l1.length c1), (23, .int .i64 (l1.length : Int)), (24, .int .i64 (i1 : Int))] w16 ?_ a hF
      refine we_draws (by kernel_rfl) [(0, 0), (1, 0), (2, 0), (3, 0), (4, 0), (5, 0), (6, 0), (7, 0), (8, 0), (9, 0), (10, 0), (11, 0), (12, 0), (13, 2)] (by kernel_rfl) ?_
      have hS53 := hS52.drew
      refine ge_batch [0, 1, 2, 3, 4, 5, 6, 7] (ans := [.val (.int .i64 e1.Task), .val (.int .i64 e1.At), .val (.int .i64 e1.Task)]) (vs := [(86, .int .i64 e1.Task), (85, .pointer (some ⟨b3, 0, none⟩)), (84, .slice A0 l0.length c0), (83, .int .i64 e1.At), (82, .pointer (some ⟨b3, 1, none⟩)), (81, .int .i64 e1.Task), (80, .pointer (some ⟨b3, 0, none⟩)), (79, (.slice Z1 m1.length cz1))]) (l := [.loaded ⟨b3, 0, none⟩ (.int .i64 e1.Task), .loaded ⟨b3, 1, none⟩ (.int .i64 e1.At), .loaded ⟨b3, 0, none⟩ (.int .i64 e1.Task)]) (by kernel_rfl) ⟨hS53.cell 0 rfl rfl, hS53.cell 0 rfl rfl, hS53.cell 0 rfl rfl, trivial⟩ ?_
      by_cases hc16 : 0 ≤ e1.Task
      · rw [if_pos hc16] at h
        rcases hx8 : l0[(e1.Task).toNat]? with _ | e5
        · rw [hx8] at h; cases h
        rw [hx8] at h
        simp only [] at h
        refine ge_index (d := 87) (ty := 0) (t := 73) (el := 117) (sz := 7) (m := l0.length) (c := c0) (x := (.tmp 84)) (y := (.tmp 86)) (A := A0) (k' := .i64) (j := e1.Task) (jn := ((e1.Task).toNat)) (b0 := blkOf A0) (o0 := offOf A0) (by kernel_rfl) (by kernel_rfl) (by kernel_rfl) (by kernel_rfl) (by kernel_rfl) ((hS53.rd hR0).eqSome (pos_of_get hx8)) (Int.toNat_of_nonneg hc16).symm (lt_of_get hx8) ?_
        refine ge_batch [9, 10, 11] (ans := [.val (.int .i64 e5.T)]) (vs := [(90, .int .i64 (IntKind.i64.wrap (e1.At + e5.T))), (89, .int .i64 e5.T), (88, .pointer (some ⟨blkOf A0, offOf A0 + (e1.Task).toNat * 7 + 2, none⟩))]) (l := [.loaded ⟨blkOf A0, offOf A0 + ((e1.Task).toNat) * 7 + 2, none⟩ (.int .i64 e5.T)]) (by kernel_rfl) ⟨RdL.cell (j := 2) (hS53.rd hR0) hx8 rfl, trivial⟩ ?_
        rcases hx9 : m1[(e1.Task).toNat]? with _ | e6
        · rw [hx9] at h; cases h
        rw [hx9] at h
        simp only [] at h
        refine ge_index (d := 91) (ty := 0) (t := 24) (el := 3) (sz := 1) (m := m1.length) (c := cz1) (x := (.tmp 79)) (y := (.tmp 81)) (A := Z1) (k' := .i64) (j := e1.Task) (jn := ((e1.Task).toNat)) (b0 := blkOf Z1) (o0 := offOf Z1) (by kernel_rfl) (by kernel_rfl) (by kernel_rfl) (by kernel_rfl) (by kernel_rfl) ((hS53.rdAt 2 rfl).eqSome (pos_of_get hx9)) (Int.toNat_of_nonneg hc16).symm (lt_of_get hx9) ?_
        have hS54 := hS53.bring 2 rfl
        refine ge_seti (α := Int) (A := Z1) (nn := m1.length) (c := cz1) (t := 3) (l := m1) (x := e6) (x' := (IntKind.i64.wrap (e1.At + e5.T))) (jn := ((e1.Task).toNat)) (j := 0) (vs := [.int .i64 (IntKind.i64.wrap (e1.At + e5.T))]) (l' := [.stored ⟨blkOf Z1, offOf Z1 + ((e1.Task).toNat) * 1, none⟩ (.int .i64 (IntKind.i64.wrap (e1.At + e5.T)))]) hS54 (by kernel_rfl) (by kernel_rfl) hx9 rfl rfl rfl fun w17 hS55 => ?_
        have hS56 : St w0 w17 [Own.of (.slice Z1 m1.length cz1) 3 (m1.set ((e1.Task).toNat) (IntKind.i64.wrap (e1.At + e5.T))), Own.blk b3 (.cells #[.int .i64 e1.Task, .int .i64 e1.At] 33 (0, 0)), Own.blk b1 (.cells #[.int .i64 0, .int .i64 0] 29 (0, 0))] := hS55
        have hE1 : m1.length = (m1.set ((e1.Task).toNat) (IntKind.i64.wrap (e1.At + e5.T))).length := hS56.lenAt 0 rfl
        have hS57 : St w0 w17 [Own.of (.slice Z1 (m1.set ((e1.Task).toNat) (IntKind.i64.wrap (e1.At + e5.T))).length cz1) 3 (m1.set ((e1.Task).toNat) (IntKind.i64.wrap (e1.At + e5.T))), Own.blk b3 (.cells #[.int .i64 e1.Task, .int .i64 e1.At] 33 (0, 0)), Own.blk b1 (.cells #[.int .i64 0, .int .i64 0] 29 (0, 0))] := by rw [← hE1]; exact hS56
        refine ge_same (t := 6) (v := (.slice Z1 m1.length cz1)) (v' := (.slice Z1 (m1.set ((e1.Task).toNat) (IntKind.i64.wrap (e1.At + e5.T))).length cz1)) (by kernel_rfl) (by rw [hE1]) ?_
        refine ge_same (t := 79) (v := (.slice Z1 m1.length cz1)) (v' := (.slice Z1 (m1.set ((e1.Task).toNat) (IntKind.i64.wrap (e1.At + e5.T))).length cz1)) (by kernel_rfl) (by rw [hE1]) ?_
        refine ge_nil fun a hF => hK13 _ _ ?_ a hF
        refine we_region [(0, 0), (1, 0)] rfl ?_
        refine ge_addn (d := 92) (ty := 3) (x := (.tmp 24)) (y := (.const (.int .i64 1))) (t := 3) (t2 := 3) (k := .i64) (m := i1) (by kernel_rfl) (by kernel_rfl) (by kernel_rfl) (by have h0 := hR1.small; omega) ?_
        refine ge_batch [1] (ans := []) (vs := [(24, .int .i64 ((i1 + 1 : Nat) : Int))]) (l := []) (by kernel_rfl) trivial ?_
        have hS58 := hS57.bring 2 rfl
        have hS59 := hS58.takeN 2
        obtain rfl := Option.some.inj h
        exact ge_nil fun a hF => hQ _ _ _ (Outs.again ⟨hS59, hF.weaken ⟨by kernel_rfl, by kernel_rfl, by kernel_rfl, by kernel_rfl, by kernel_rfl, by kernel_rfl, by kernel_rfl, trivial⟩⟩)
      · rw [if_neg hc16] at h
        cases h
    · rw [hq2] at h
      simp only [] at h
      refine we_keep (e' := [(0, .slice A0 l0.length c0), (1, .slice A1 l1.length c1), (4, .pointer (some ⟨b1, 0, none⟩)), (6, (.slice Z1 m1.length cz1)), (7, .int .i64 (i1 : Int)), (8, .pointer (some ⟨b3, 0, none⟩)), (22, .slice A1 l1.length c1), (23, .int .i64 (l1.length : Int)), (24, .int .i64 (i1 : Int)), (25, .bool true), (26, .int .i64 (i1 : Int)), (27, .pointer (some ⟨blkOf A1, offOf A1 + i1 * 2, none⟩)), (28, .agg #[.int .i64 e1.Task, .int .i64 e1.At])]) ⟨by kernel_rfl, by kernel_rfl, by kernel_rfl, by kernel_rfl, by kernel_rfl, by kernel_rfl, by kernel_rfl, by kernel_rfl, by kernel_rfl, by kernel_rfl, by kernel_rfl, by kernel_rfl, by kernel_rfl, trivial⟩ (tasks_Legal_p1 K w0 l0 A0 c0 l1 A1 c1 hR0 hL0 hR1 hL1 b1 r1 b2 hc1 hc2 hc3 Z1 cz1 i1 m1 hc4 e1 hx3 b3 _ hq2 _ hS16 _ ?_)
      rintro _ a w1 ⟨_, rfl, hb⟩
      obtain rfl := Option.some.inj h
      exact hQ _ _ _ (Outs.out nofun (Exits.on ⟨rfl, hb⟩))
  · rw [if_neg hc4] at h
    refine we_known (t := 25) (b := decide ((i1 : Int) < (l1.length : Int))) (v := false) (by kernel_rfl) (decide_eq_false hc4) ?_
    refine we_false (by kernel_rfl) ?_
    have hS60 := hS.takeN 1
    obtain rfl := Option.some.inj h
    exact we_exit fun a hF => hQ _ _ _ (Outs.out nofun (Exits.here ⟨hS60, hF.weaken ⟨by kernel_rfl, trivial⟩⟩))
theorem tasks_Legal_ok (K : Nat) (l0 : List STask) (A0 : Option Addr) (c0 : Nat) (l1 : List SCome) (A1 : Option Addr) (c1 : Nat) (w0 : World) (hR0 : RdL w0 A0 l0) (hL0 : l0.length ≤ c0) (hR1 : RdL w0 A1 l1) (hL1 : l1.length ≤ c1) (r : SFault) (h : tasks_Legal.f K l0 l1 = some r) :
    Calls Try.prog 52 #[.slice A0 l0.length c0, .slice A1 l1.length c1] w0 (tasks_Legal.Post w0 r) := by
  have hS := St.start w0
  unfold tasks_Legal.f at h
  refine calls_enter (n := 94) (args := [.slice A0 l0.length c0, .slice A1 l1.length c1]) (fn := Try.f52) rfl rfl rfl rfl ?_
  show WE _ _ _ _ [(0, .slice A0 l0.length c0), (1, .slice A1 l1.length c1)] _
  refine we_seq fun K1 hK1 => ?_
  refine we_region [(0, 1)] rfl ?_
  refine ge_new (d := some 4) (o := .cells #[.int .i64 0, .int .i64 0] 29) (v := fun b => .pointer (some ⟨b, 0, none⟩)) hS (fun b => by kernel_rfl) fun b1 w1 hx1 hS1 => ?_
  refine ge_nil fun a hF => hK1 _ _ ?_ a hF
  refine we_seq fun K2 hK2 => ?_
  refine we_seq fun K3 hK3 => ?_
  refine we_region [(0, 0), (1, 1), (2, 1), (3, 2)] rfl ?_
  rcases hq1 : tasks_Check.f K l0 with _ | r1
  · rw [hq1] at h; cases h
  rw [hq1] at h
  simp only [] at h
  refine ge_batch [0] (ans := []) (vs := [(9, .slice A0 l0.length c0)]) (l := []) (by kernel_rfl) trivial ?_
  refine ge_call (d := some 10) (f := 75) (args := #[.slice A0 l0.length c0]) (by kernel_rfl) (tasks_Check_ok K l0 A0 c0 _ (hS1.rd hR0) hL0 _ hq1) ?_
  rintro _ w2 ⟨rfl, hS2⟩
  refine ⟨_, rfl, hS2.below, ?_⟩
  have hS3 := hS1.call hS2
  refine ge_new (d := some 5) (o := .cells #[.int .i64 0, .int .i64 0] 29) (v := fun b => .pointer (some ⟨b, 0, none⟩)) hS3 (fun b => by kernel_rfl) fun b2 w3 hx2 hS4 => ?_
  refine ge_set (b := b2) (j := 0) (cs := #[.int .i64 0, .int .i64 0]) (t := 29) (vs := [.int .i64 r1.Code, .int .i64 r1.At]) hS4 (by kernel_rfl) rfl rfl fun w4 hS5 => ?_
  have hS6 : St w0 w4 [Own.blk b2 (.cells #[.int .i64 r1.Code, .int .i64 r1.At] 29 (0, 0)), Own.blk b1 (.cells #[.int .i64 0, .int .i64 0] 29 (0, 0))] := hS5
  refine ge_nil fun a hF => hK3 _ _ ?_ a hF
  refine we_seq fun K4 hK4 => ?_
  refine we_region [(0, 0), (1, 0), (2, 0)] rfl ?_
  refine ge_batch [0, 1, 2] (ans := [.val (.int .i64 r1.Code)]) (vs := [(13, .bool (r1.Code != 0)), (12, .int .i64 r1.Code), (11, .pointer (some ⟨b2, 0, none⟩))]) (l := [.loaded ⟨b2, 0, none⟩ (.int .i64 r1.Code)]) (by kernel_rfl) ⟨hS6.cell 0 rfl rfl, trivial⟩ ?_
  refine ge_nil fun a hF => hK4 _ _ ?_ a hF
  by_cases hc1 : r1.Code = 0
  · rw [if_pos hc1] at h
    refine we_known (t := 13) (b := (r1.Code != 0)) (v := false) (by kernel_rfl) (bne_eq_false_iff_eq.2 hc1) ?_
    refine we_false (by kernel_rfl) ?_
    refine we_skip fun a hF => hK2 _ _ ?_ a hF
    refine we_seq fun K5 hK5 => ?_
    refine we_seq fun K6 hK6 => ?_
    refine we_region [(0, 0), (1, 0), (2, 0)] rfl ?_
    refine ge_batch [0, 1, 2] (ans := []) (vs := [(17, .bool (decide ((l1.length : Int) > 4000))), (16, .int .i64 (l1.length : Int)), (15, .slice A1 l1.length c1)]) (l := []) (by kernel_rfl) trivial ?_
    refine ge_nil fun a hF => hK6 _ _ ?_ a hF
    by_cases hc2 : (l1.length : Int) > 4000
    · rw [if_pos hc2] at h
      refine we_known (t := 17) (b := decide ((l1.length : Int) > 4000)) (v := true) (by kernel_rfl) (decide_eq_true hc2) ?_
      refine we_true (by kernel_rfl) ?_
      refine we_seq fun K7 hK7 => ?_
      refine we_region [(0, 0), (1, 2)] rfl ?_
      refine ge_batch [0] (ans := []) (vs := [(18, .agg #[.int .i64 2, .int .i64 0])]) (l := []) (by kernel_rfl) trivial ?_
      have hS7 := hS6.bring 1 rfl
      refine ge_set (b := b1) (j := 0) (cs := #[.int .i64 0, .int .i64 0]) (t := 29) (vs := [.int .i64 2, .int .i64 0]) hS7 (by kernel_rfl) rfl rfl fun w5 hS8 => ?_
      have hS9 : St w0 w5 [Own.blk b1 (.cells #[.int .i64 2, .int .i64 0] 29 (0, 0)), Own.blk b2 (.cells #[.int .i64 r1.Code, .int .i64 r1.At] 29 (0, 0))] := hS8
      refine ge_nil fun a hF => hK7 _ _ ?_ a hF
      have hS10 := hS9.takeN 0
      obtain rfl := Option.some.inj h
      exact we_ret (post_ret (rs := [.cell 4 29]) (ans := [.val (.int .i64 2), .val (.int .i64 0)]) (vs := [.agg #[.int .i64 2, .int .i64 0]]) (l := [.loaded ⟨b1, 0, none⟩ (.int .i64 2), .loaded ⟨b1, 1, none⟩ (.int .i64 0)]) rfl (by kernel_rfl) ⟨hS9.cell 0 rfl rfl, hS9.cell 0 rfl rfl, trivial⟩ ⟨rfl, hS10⟩)
    · rw [if_neg hc2] at h
      refine we_known (t := 17) (b := decide ((l1.length : Int) > 4000)) (v := false) (by kernel_rfl) (decide_eq_false hc2) ?_
      refine we_false (by kernel_rfl) ?_
      refine we_skip fun a hF => hK5 _ _ ?_ a hF
      refine we_seq fun K8 hK8 => ?_
      refine we_region [(0, 0), (1, 0), (2, 1), (3, 0)] rfl ?_
      refine ge_batch [0, 1] (ans := []) (vs := [(20, .int .i64 (l0.length : Int)), (19, .slice A0 l0.length c0)]) (l := []) (by kernel_rfl) trivial ?_
      by_cases hc3 : l0.length ≤ 17592186044416
      · rw [if_pos hc3] at h
        refine ge_make (α := Int) (d := 21) (t := 24) (el := 3) (bytes := 8) (l := l0.length) (c := l0.length) (x := (.tmp 20)) (y := (.tmp 20)) (ty := 24) (k1 := .i64) (k2 := .i64) (li := (l0.length : Int)) (ci := (l0.length : Int)) (z := .int .i64 0) (z' := (0 : Int)) (by kernel_rfl) (by kernel_rfl) (by kernel_rfl) rfl rfl (by kernel_rfl) (by kernel_rfl) rfl hS6 (Nat.le_refl _) rfl (by omega) fun v1 w6 _ hS11 => ?_
        refine ge_batch [3] (ans := []) (vs := [(6, v1)]) (l := []) (by kernel_rfl) trivial ?_
        refine ge_nil fun a hF => hK8 _ _ ?_ a hF
        refine we_seq fun K9 hK9 => ?_
        refine we_seq fun K10 hK10 => ?_
        refine we_region [(0, 0), (1, 0), (2, 0)] rfl ?_
        refine ge_batch [0, 1, 2] (ans := []) (vs := [(24, .int .i64 0), (23, .int .i64 (l1.length : Int)), (22, .slice A1 l1.length c1)]) (l := []) (by kernel_rfl) trivial ?_
        refine ge_nil fun a hF => hK10 _ _ ?_ a hF
        refine we_block ?_
        obtain ⟨Z1, cz1, rfl⟩ := hS11.open 0 rfl
        have hS12 := hS11.bring 2 rfl
        have hS13 := hS12.takeN 2
        rcases hq3 : iter (tasks_Legal.r0 l0 l1) K (0, (List.replicate l0.length (0 : Int))) with _ | (_ | rr2)
        · rw [hq3] at h; cases h
        · rw [hq3] at h
          simp only [] at h
          refine we_iter (A := tasks_Legal.A0 K w0 l0 A0 c0 l1 A1 c1 hR0 hL0 hR1 hL1 b1 r1 b2 hc1 hc2 hc3 Z1 cz1) (B := tasks_Legal.B0 K w0 l0 A0 c0 l1 A1 c1 hR0 hL0 hR1 hL1 b1 r1 b2 hc1 hc2 hc3 Z1 cz1) hq3 (fun a hF => ⟨hS13, hF.weaken ⟨by kernel_rfl, by kernel_rfl, by kernel_rfl, by kernel_rfl, by kernel_rfl, by kernel_rfl, by kernel_rfl, trivial⟩⟩) (fun s o hf a w hA Q hQ => tasks_Legal_r0 K w0 l0 A0 c0 l1 A1 c1 hR0 hL0 hR1 hL1 b1 r1 b2 hc1 hc2 hc3 Z1 cz1 s o hf a w hA Q hQ) ?_
          rintro _ a w18 _ ⟨rfl, hS61, hF⟩
          replace hS61 : St w0 w18 [Own.blk b1 (.cells #[.int .i64 0, .int .i64 0] 29 (0, 0))] := hS61
          refine hK9 [(4, .pointer (some ⟨b1, 0, none⟩))] w18 ?_ a hF
          refine we_seq fun K26 hK26 => ?_
          refine we_region [(0, 0), (1, 2)] rfl ?_
          refine ge_batch [0] (ans := []) (vs := [(93, .agg #[.int .i64 0, .int .i64 0])]) (l := []) (by kernel_rfl) trivial ?_
          refine ge_set (b := b1) (j := 0) (cs := #[.int .i64 0, .int .i64 0]) (t := 29) (vs := [.int .i64 0, .int .i64 0]) hS61 (by kernel_rfl) rfl rfl fun w19 hS62 => ?_
          have hS63 : St w0 w19 [Own.blk b1 (.cells #[.int .i64 0, .int .i64 0] 29 (0, 0))] := hS62
          refine ge_nil fun a hF => hK26 _ _ ?_ a hF
          have hS64 := hS63.takeN 0
          obtain rfl := Option.some.inj h
          exact we_ret (post_ret (rs := [.cell 4 29]) (ans := [.val (.int .i64 0), .val (.int .i64 0)]) (vs := [.agg #[.int .i64 0, .int .i64 0]]) (l := [.loaded ⟨b1, 0, none⟩ (.int .i64 0), .loaded ⟨b1, 1, none⟩ (.int .i64 0)]) rfl (by kernel_rfl) ⟨hS63.cell 0 rfl rfl, hS63.cell 0 rfl rfl, trivial⟩ ⟨rfl, hS64⟩)
        · rw [hq3] at h
          simp only [] at h
          refine we_iter (A := tasks_Legal.A0 K w0 l0 A0 c0 l1 A1 c1 hR0 hL0 hR1 hL1 b1 r1 b2 hc1 hc2 hc3 Z1 cz1) (B := tasks_Legal.B0 K w0 l0 A0 c0 l1 A1 c1 hR0 hL0 hR1 hL1 b1 r1 b2 hc1 hc2 hc3 Z1 cz1) hq3 (fun a hF => ⟨hS13, hF.weaken ⟨by kernel_rfl, by kernel_rfl, by kernel_rfl, by kernel_rfl, by kernel_rfl, by kernel_rfl, by kernel_rfl, trivial⟩⟩) (fun s o hf a w hA Q hQ => tasks_Legal_r0 K w0 l0 A0 c0 l1 A1 c1 hR0 hL0 hR1 hL1 b1 r1 b2 hc1 hc2 hc3 Z1 cz1 s o hf a w hA Q hQ) ?_
          rintro _ a w1 _ ⟨rfl, hb⟩
          obtain rfl := Option.some.inj h
          exact hb
      · rw [if_neg hc3] at h
        cases h
  · rw [if_neg hc1] at h
    refine we_known (t := 13) (b := (r1.Code != 0)) (v := true) (by kernel_rfl) (bne_iff_ne.2 hc1) ?_
    refine we_true (by kernel_rfl) ?_
    refine we_seq fun K27 hK27 => ?_
    refine we_region [(0, 0), (1, 2)] rfl ?_
    refine ge_batch [0] (ans := [.val (.int .i64 r1.Code), .val (.int .i64 r1.At)]) (vs := [(14, .agg #[.int .i64 r1.Code, .int .i64 r1.At])]) (l := [.loaded ⟨b2, 0, none⟩ (.int .i64 r1.Code), .loaded ⟨b2, 1, none⟩ (.int .i64 r1.At)]) (by kernel_rfl) ⟨hS6.cell 0 rfl rfl, hS6.cell 0 rfl rfl, trivial⟩ ?_
    have hS65 := hS6.bring 1 rfl
    refine ge_set (b := b1) (j := 0) (cs := #[.int .i64 0, .int .i64 0]) (t := 29) (vs := [.int .i64 r1.Code, .int .i64 r1.At]) hS65 (by kernel_rfl) rfl rfl fun w20 hS66 => ?_
    have hS67 : St w0 w20 [Own.blk b1 (.cells #[.int .i64 r1.Code, .int .i64 r1.At] 29 (0, 0)), Own.blk b2 (.cells #[.int .i64 r1.Code, .int .i64 r1.At] 29 (0, 0))] := hS66
    refine ge_nil fun a hF => hK27 _ _ ?_ a hF
    have hS68 := hS67.takeN 0
    obtain rfl := Option.some.inj h
    exact we_ret (post_ret (rs := [.cell 4 29]) (ans := [.val (.int .i64 r1.Code), .val (.int .i64 r1.At)]) (vs := [.agg #[.int .i64 r1.Code, .int .i64 r1.At]]) (l := [.loaded ⟨b1, 0, none⟩ (.int .i64 r1.Code), .loaded ⟨b1, 1, none⟩ (.int .i64 r1.At)]) rfl (by kernel_rfl) ⟨hS67.cell 0 rfl rfl, hS67.cell 0 rfl rfl, trivial⟩ ⟨rfl, hS68⟩)

/-! punctual/tasks.Jobs -/
abbrev tasks_Jobs.Post (w0 : World) (r : (List SJob) × SFault) (e : Ending) (w : World) : Prop := ∃ (v0 : Value), e = .returned (.tuple #[v0, .agg #[.int .i64 r.2.Code, .int .i64 r.2.At]]) ∧ St w0 w [Own.of v0 88 r.1]
def tasks_Jobs.p0 (l1 : List SCome) (l2 : List Int) (l3 : List Int) : Option (Unit ⊕ ((List SJob) × SFault)) :=
    if (l2.length : Int) = (l1.length : Int) then
      if (l3.length : Int) = (l1.length : Int) then
        some (.inl ())
      else
        some (.inr (([] : List SJob), (⟨2, 0⟩ : SFault)))
    else
      some (.inr (([] : List SJob), (⟨2, 0⟩ : SFault)))
def tasks_Jobs.p2 (l2 : List Int) (l3 : List Int) (i1 : Nat) (e2 : STask) : Option (Unit ⊕ ((List SJob) × SFault)) :=
    match l2[i1]? with
    | none => none
    | some e3 =>
      if e3 < 0 then
        some (.inr (([] : List SJob), (⟨3, (i1 : Int)⟩ : SFault)))
      else
        if e3 > e2.J then
          some (.inr (([] : List SJob), (⟨3, (i1 : Int)⟩ : SFault)))
        else
          match l3[i1]? with
          | none => none
          | some e4 =>
            if e4 < 1 then
              some (.inr (([] : List SJob), (⟨3, (i1 : Int)⟩ : SFault)))
            else
              if e4 > e2.C then
                some (.inr (([] : List SJob), (⟨3, (i1 : Int)⟩ : SFault)))
              else
                some (.inl ())
def tasks_Jobs.r1 (l0 : List STask) (l1 : List SCome) (l2 : List Int) (l3 : List Int) : (List SJob) × Nat → Option (((List SJob) × Nat) ⊕ ((List SJob) ⊕ ((List SJob) × SFault)))
  | (m1, i1) =>
    if (i1 : Int) < (l1.length : Int) then
      match l1[i1]? with
      | none => none
      | some e1 =>
        if 0 ≤ e1.Task then
          match l0[(e1.Task).toNat]? with
          | none => none
          | some e2 =>
            match tasks_Jobs.p2 l2 l3 i1 e2 with
            | none => none
            | some (.inl _) =>
              match l2[i1]? with
              | none => none
              | some e5 =>
                match l3[i1]? with
                | none => none
                | some e6 =>
                  if m1.length < 3518437208883 then
                    some (.inl ((m1 ++ [(⟨e1.Task, IntKind.i64.wrap (e1.At + e5), e6, IntKind.i64.wrap (e1.At + e2.D), e2.P⟩ : SJob)]), (i1 + 1)))
                  else
                    none
            | some (.inr rr1) =>
              some (.inr (.inr rr1))
        else
          none
    else
      some (.inr (.inl m1))
def tasks_Jobs.f (K : Nat) (l0 : List STask) (l1 : List SCome) (l2 : List Int) (l3 : List Int) : Option ((List SJob) × SFault) :=
  match tasks_Legal.f K l0 l1 with
  | none => none
  | some r1 =>
    if r1.Code = 0 then
      match tasks_Jobs.p0 l1 l2 l3 with
      | none => none
      | some (.inl _) =>
        match iter (tasks_Jobs.r1 l0 l1 l2 l3) K (([] : List SJob), 0) with
        | none => none
        | some (.inl m3) =>
          some (m3, (⟨0, 0⟩ : SFault))
        | some (.inr rr2) =>
          some rr2
      | some (.inr rr3) =>
        some rr3
    else
      some (([] : List SJob), r1)
abbrev tasks_Jobs.A0 (K : Nat) (w0 : World) (l0 : List STask) (A0 : Option Addr) (c0 : Nat) (l1 : List SCome) (A1 : Option Addr) (c1 : Nat) (l2 : List Int) (A2 : Option Addr) (c2 : Nat) (l3 : List Int) (A3 : Option Addr) (c3 : Nat) (hR0 : RdL w0 A0 l0) (hL0 : l0.length ≤ c0) (hR1 : RdL w0 A1 l1) (hL1 : l1.length ≤ c1) (hR2 : RdL w0 A2 l2) (hL2 : l2.length ≤ c2) (hR3 : RdL w0 A3 l3) (hL3 : l3.length ≤ c3) (b1 : Nat) (r1 : SFault) (b2 : Nat) (hc1 : r1.Code = 0) : Unit → Act → World → Prop := fun (s : Unit) a w => St w0 w [Own.blk b1 (.cells #[.int .i64 0, .int .i64 0] 29 (0, 0))] ∧ Frm 106 a [(0, .slice A0 l0.length c0), (1, .slice A1 l1.length c1), (2, .slice A2 l2.length c2), (3, .slice A3 l3.length c3), (9, .pointer (some ⟨b1, 0, none⟩))]
abbrev tasks_Jobs.B0 (K : Nat) (w0 : World) (l0 : List STask) (A0 : Option Addr) (c0 : Nat) (l1 : List SCome) (A1 : Option Addr) (c1 : Nat) (l2 : List Int) (A2 : Option Addr) (c2 : Nat) (l3 : List Int) (A3 : Option Addr) (c3 : Nat) (hR0 : RdL w0 A0 l0) (hL0 : l0.length ≤ c0) (hR1 : RdL w0 A1 l1) (hL1 : l1.length ≤ c1) (hR2 : RdL w0 A2 l2) (hL2 : l2.length ≤ c2) (hR3 : RdL w0 A3 l3) (hL3 : l3.length ≤ c3) (b1 : Nat) (r1 : SFault) (b2 : Nat) (hc1 : r1.Code = 0) : ((List SJob) × SFault) → Exit → Act → World → Prop := Rets Try.prog Try.f27 (tasks_Jobs.Post w0)
theorem tasks_Jobs_p0 (K : Nat) (w0 : World) (l0 : List STask) (A0 : Option Addr) (c0 : Nat) (l1 : List SCome) (A1 : Option Addr) (c1 : Nat) (l2 : List Int) (A2 : Option Addr) (c2 : Nat) (l3 : List Int) (A3 : Option Addr) (c3 : Nat) (hR0 : RdL w0 A0 l0) (hL0 : l0.length ≤ c0) (hR1 : RdL w0 A1 l1) (hL1 : l1.length ≤ c1) (hR2 : RdL w0 A2 l2) (hL2 : l2.length ≤ c2) (hR3 : RdL w0 A3 l3) (hL3 : l3.length ≤ c3) (b1 : Nat) (r1 : SFault) (b2 : Nat) (hc1 : r1.Code = 0) (o : Unit ⊕ ((List SJob) × SFault)) (h : tasks_Jobs.p0 l1 l2 l3 = some o) (w : World) (hS : St w0 w [Own.blk b2 (.cells #[.int .i64 r1.Code, .int .i64 r1.At] 29 (0, 0)), Own.blk b1 (.cells #[.int .i64 0, .int .i64 0] 29 (0, 0))]) (Q : Exit → Act → World → Prop) (hQ : ∀ x a w, Outs (tasks_Jobs.A0 K w0 l0 A0 c0 l1 A1 c1 l2 A2 c2 l3 A3 c3 hR0 hL0 hR1 hL1 hR2 hL2 hR3 hL3 b1 r1 b2 hc1) (tasks_Jobs.B0 K w0 l0 A0 c0 l1 A1 c1 l2 A2 c2 l3 A3 c3 hR0 hL0 hR1 hL1 hR2 hL2 hR3 hL3 b1 r1 b2 hc1) o x a w → Q x a w) : WE Try.prog 106 (subF Try.f27 [1, 1, 0]) Q [(0, .slice A0 l0.length c0), (1, .slice A1 l1.length c1), (2, .slice A2 l2.length c2), (3, .slice A3 l3.length c3), (8, .slice none 0 0), (9, .pointer (some ⟨b1, 0, none⟩)), (10, .pointer (some ⟨b2, 0, none⟩)), (15, .slice A0 l0.length c0), (16, .slice A1 l1.length c1), (17, .agg #[.int .i64 r1.Code, .int .i64 r1.At]), (18, .pointer (some ⟨b2, 0, none⟩)), (19, .int .i64 r1.Code), (20, .bool false)] w := by
  simp only [tasks_Jobs.p0] at h
  refine we_seq fun K6 hK6 => ?_
  refine we_region [(0, 0), (1, 0), (2, 0), (3, 0), (4, 0), (5, 0), (6, 0), (7, 0), (8, 0), (9, 0), (10, 0), (11, 0)] rfl ?_
  refine ge_batch [0, 1, 2, 3, 4, 5] (ans := []) (vs := [(27, .bool ((l2.length : Int) != (l1.length : Int))), (26, .bool ((l2.length : Int) != (l1.length : Int))), (25, .int .i64 (l1.length : Int)), (24, .slice A1 l1.length c1), (23, .int .i64 (l2.length : Int)), (22, .slice A2 l2.length c2)]) (l := []) (by kernel_rfl) trivial ?_
  by_cases hc2 : (l2.length : Int) = (l1.length : Int)
  · rw [if_pos hc2] at h
    refine ge_known (t := 27) (b := ((l2.length : Int) != (l1.length : Int))) (c := false) (by kernel_rfl) (bne_eq_false_iff_eq.2 hc2) ?_
    refine ge_batch [6, 7, 8, 9, 10, 11] (ans := []) (vs := [(33, .bool ((l3.length : Int) != (l1.length : Int))), (32, .bool ((l3.length : Int) != (l1.length : Int))), (31, .int .i64 (l1.length : Int)), (30, .slice A1 l1.length c1), (29, .int .i64 (l3.length : Int)), (28, .slice A3 l3.length c3)]) (l := []) (by kernel_rfl) trivial ?_
    refine ge_nil fun a hF => hK6 _ _ ?_ a hF
    by_cases hc3 : (l3.length : Int) = (l1.length : Int)
    · rw [if_pos hc3] at h
      refine we_known (t := 33) (b := ((l3.length : Int) != (l1.length : Int))) (v := false) (by kernel_rfl) (bne_eq_false_iff_eq.2 hc3) ?_
      refine we_false (by kernel_rfl) ?_
      have hS7 := hS.bring 1 rfl
      have hS8 := hS7.takeN 1
      obtain rfl := Option.some.inj h
      exact we_skip fun a hF => hQ _ _ _ (Outs.again ⟨hS8, hF.weaken ⟨by kernel_rfl, by kernel_rfl, by kernel_rfl, by kernel_rfl, by kernel_rfl, trivial⟩⟩)
    · rw [if_neg hc3] at h
      refine we_known (t := 33) (b := ((l3.length : Int) != (l1.length : Int))) (v := true) (by kernel_rfl) (bne_iff_ne.2 hc3) ?_
      refine we_true (by kernel_rfl) ?_
      refine we_seq fun K7 hK7 => ?_
      refine we_region [(0, 0), (1, 0), (2, 2)] rfl ?_
      refine ge_batch [0, 1] (ans := []) (vs := [(8, .slice none 0 0), (34, .agg #[.int .i64 2, .int .i64 0])]) (l := []) (by kernel_rfl) trivial ?_
      have hS9 := hS.bring 1 rfl
      refine ge_set (b := b1) (j := 0) (cs := #[.int .i64 0, .int .i64 0]) (t := 29) (vs := [.int .i64 2, .int .i64 0]) hS9 (by kernel_rfl) rfl rfl fun w5 hS10 => ?_
      have hS11 : St w0 w5 [Own.blk b1 (.cells #[.int .i64 2, .int .i64 0] 29 (0, 0)), Own.blk b2 (.cells #[.int .i64 r1.Code, .int .i64 r1.At] 29 (0, 0))] := hS10
      refine ge_nil fun a hF => hK7 _ _ ?_ a hF
      have hS12 := hS11.nil (α := SJob) 88
      have hS13 := hS12.takeN 1
      obtain rfl := Option.some.inj h
      exact we_ret fun a hF => hQ _ _ _ (Outs.out nofun ⟨rfl, (post_ret (rs := [.tmp 8, .cell 9 29]) (ans := [.val (.int .i64 2), .val (.int .i64 0)]) (vs := [(.slice none 0 0), .agg #[.int .i64 2, .int .i64 0]]) (l := [.loaded ⟨b1, 0, none⟩ (.int .i64 2), .loaded ⟨b1, 1, none⟩ (.int .i64 0)]) rfl (by kernel_rfl) ⟨hS12.cell 1 rfl rfl, hS12.cell 1 rfl rfl, trivial⟩ ⟨(.slice none 0 0), rfl, hS13⟩) a hF⟩)
  · rw [if_neg hc2] at h
    refine ge_known (t := 27) (b := ((l2.length : Int) != (l1.length : Int))) (c := true) (by kernel_rfl) (bne_iff_ne.2 hc2) ?_
    refine ge_batch [6, 7, 8, 9, 10, 11] (ans := []) (vs := [(33, .bool true), (32, undef), (31, undef), (30, undef), (29, undef), (28, undef)]) (l := []) (by kernel_rfl) trivial ?_
    refine ge_nil fun a hF => hK6 _ _ ?_ a hF
    refine we_true (by kernel_rfl) ?_
    refine we_seq fun K8 hK8 => ?_
    refine we_region [(0, 0), (1, 0), (2, 2)] rfl ?_
    refine ge_batch [0, 1] (ans := []) (vs := [(8, .slice none 0 0), (34, .agg #[.int .i64 2, .int .i64 0])]) (l := []) (by kernel_rfl) trivial ?_
    have hS14 := hS.bring 1 rfl
    refine ge_set (b := b1) (j := 0) (cs := #[.int .i64 0, .int .i64 0]) (t := 29) (vs := [.int .i64 2, .int .i64 0]) hS14 (by kernel_rfl) rfl rfl fun w6 hS15 => ?_
    have hS16 : St w0 w6 [Own.blk b1 (.cells #[.int .i64 2, .int .i64 0] 29 (0, 0)), Own.blk b2 (.cells #[.int .i64 r1.Code, .int .i64 r1.At] 29 (0, 0))] := hS15
    refine ge_nil fun a hF => hK8 _ _ ?_ a hF
    have hS17 := hS16.nil (α := SJob) 88
    have hS18 := hS17.takeN 1
    obtain rfl := Option.some.inj h
    exact we_ret fun a hF => hQ _ _ _ (Outs.out nofun ⟨rfl, (post_ret (rs := [.tmp 8, .cell 9 29]) (ans := [.val (.int .i64 2), .val (.int .i64 0)]) (vs := [(.slice none 0 0), .agg #[.int .i64 2, .int .i64 0]]) (l := [.loaded ⟨b1, 0, none⟩ (.int .i64 2), .loaded ⟨b1, 1, none⟩ (.int .i64 0)]) rfl (by kernel_rfl) ⟨hS17.cell 1 rfl rfl, hS17.cell 1 rfl rfl, trivial⟩ ⟨(.slice none 0 0), rfl, hS18⟩) a hF⟩)
abbrev tasks_Jobs.A2 (K : Nat) (w0 : World) (l0 : List STask) (A0 : Option Addr) (c0 : Nat) (l1 : List SCome) (A1 : Option Addr) (c1 : Nat) (l2 : List Int) (A2 : Option Addr) (c2 : Nat) (l3 : List Int) (A3 : Option Addr) (c3 : Nat) (hR0 : RdL w0 A0 l0) (hL0 : l0.length ≤ c0) (hR1 : RdL w0 A1 l1) (hL1 : l1.length ≤ c1) (hR2 : RdL w0 A2 l2) (hL2 : l2.length ≤ c2) (hR3 : RdL w0 A3 l3) (hL3 : l3.length ≤ c3) (b1 : Nat) (r1 : SFault) (b2 : Nat) (hc1 : r1.Code = 0) (m1 : List SJob) (i1 : Nat) (hc4 : (i1 : Int) < (l1.length : Int)) (e1 : SCome) (hx3 : l1[i1]? = some e1) (b3 : Nat) (hc5 : 0 ≤ e1.Task) (e2 : STask) (hx5 : l0[(e1.Task).toNat]? = some e2) (b4 : Nat) (Z1 : Option Addr) (cz1 : Nat) : Unit → Act → World → Prop := fun (s : Unit) a w => St w0 w [Own.blk b4 (.cells #[.string e2.Name, .int .i64 e2.C, .int .i64 e2.T, .int .i64 e2.D, .int .i64 e2.J, .int .i64 e2.O, .int .i64 e2.P] 117 (0, 0)), Own.blk b3 (.cells #[.int .i64 e1.Task, .int .i64 e1.At] 33 (0, 0)), Own.blk b1 (.cells #[.int .i64 0, .int .i64 0] 29 (0, 0)), Own.of (.slice Z1 m1.length cz1) 88 m1] ∧ Frm 106 a [(0, .slice A0 l0.length c0), (2, .slice A2 l2.length c2), (3, .slice A3 l3.length c3), (9, .pointer (some ⟨b1, 0, none⟩)), (11, (.slice Z1 m1.length cz1)), (12, .int .i64 (i1 : Int)), (13, .pointer (some ⟨b3, 0, none⟩)), (14, .pointer (some ⟨b4, 0, none⟩)), (35, .slice A1 l1.length c1), (36, .int .i64 (l1.length : Int)), (37, .int .i64 (i1 : Int))]
abbrev tasks_Jobs.B2 (K : Nat) (w0 : World) (l0 : List STask) (A0 : Option Addr) (c0 : Nat) (l1 : List SCome) (A1 : Option Addr) (c1 : Nat) (l2 : List Int) (A2 : Option Addr) (c2 : Nat) (l3 : List Int) (A3 : Option Addr) (c3 : Nat) (hR0 : RdL w0 A0 l0) (hL0 : l0.length ≤ c0) (hR1 : RdL w0 A1 l1) (hL1 : l1.length ≤ c1) (hR2 : RdL w0 A2 l2) (hL2 : l2.length ≤ c2) (hR3 : RdL w0 A3 l3) (hL3 : l3.length ≤ c3) (b1 : Nat) (r1 : SFault) (b2 : Nat) (hc1 : r1.Code = 0) (m1 : List SJob) (i1 : Nat) (hc4 : (i1 : Int) < (l1.length : Int)) (e1 : SCome) (hx3 : l1[i1]? = some e1) (b3 : Nat) (hc5 : 0 ≤ e1.Task) (e2 : STask) (hx5 : l0[(e1.Task).toNat]? = some e2) (b4 : Nat) (Z1 : Option Addr) (cz1 : Nat) : ((List SJob) × SFault) → Exit → Act → World → Prop := Rets Try.prog Try.f27 (tasks_Jobs.Post w0)
theorem tasks_Jobs_p2 (K : Nat) (w0 : World) (l0 : List STask) (A0 : Option Addr) (c0 : Nat) (l1 : List SCome) (A1 : Option Addr) (c1 : Nat) (l2 : List Int) (A2 : Option Addr) (c2 : Nat) (l3 : List Int) (A3 : Option Addr) (c3 : Nat) (hR0 : RdL w0 A0 l0) (hL0 : l0.length ≤ c0) (hR1 : RdL w0 A1 l1) (hL1 : l1.length ≤ c1) (hR2 : RdL w0 A2 l2) (hL2 : l2.length ≤ c2) (hR3 : RdL w0 A3 l3) (hL3 : l3.length ≤ c3) (b1 : Nat) (r1 : SFault) (b2 : Nat) (hc1 : r1.Code = 0) (m1 : List SJob) (i1 : Nat) (hc4 : (i1 : Int) < (l1.length : Int)) (e1 : SCome) (hx3 : l1[i1]? = some e1) (b3 : Nat) (hc5 : 0 ≤ e1.Task) (e2 : STask) (hx5 : l0[(e1.Task).toNat]? = some e2) (b4 : Nat) (Z1 : Option Addr) (cz1 : Nat) (o : Unit ⊕ ((List SJob) × SFault)) (h : tasks_Jobs.p2 l2 l3 i1 e2 = some o) (w : World) (hS : St w0 w [Own.blk b4 (.cells #[.string e2.Name, .int .i64 e2.C, .int .i64 e2.T, .int .i64 e2.D, .int .i64 e2.J, .int .i64 e2.O, .int .i64 e2.P] 117 (0, 0)), Own.blk b3 (.cells #[.int .i64 e1.Task, .int .i64 e1.At] 33 (0, 0)), Own.blk b1 (.cells #[.int .i64 0, .int .i64 0] 29 (0, 0)), Own.of (.slice Z1 m1.length cz1) 88 m1]) (Q : Exit → Act → World → Prop) (hQ : ∀ x a w, Outs (tasks_Jobs.A2 K w0 l0 A0 c0 l1 A1 c1 l2 A2 c2 l3 A3 c3 hR0 hL0 hR1 hL1 hR2 hL2 hR3 hL3 b1 r1 b2 hc1 m1 i1 hc4 e1 hx3 b3 hc5 e2 hx5 b4 Z1 cz1) (tasks_Jobs.B2 K w0 l0 A0 c0 l1 A1 c1 l2 A2 c2 l3 A3 c3 hR0 hL0 hR1 hL1 hR2 hL2 hR3 hL3 b1 r1 b2 hc1 m1 i1 hc4 e1 hx3 b3 hc5 e2 hx5 b4 Z1 cz1) o x a w → Q x a w) : WE Try.prog 106 (subF Try.f27 [1, 1, 1, 1, 0, 1, 0, 0, 1, 1, 0, 0, 1, 1, 0]) Q [(0, .slice A0 l0.length c0), (2, .slice A2 l2.length c2), (3, .slice A3 l3.length c3), (9, .pointer (some ⟨b1, 0, none⟩)), (11, (.slice Z1 m1.length cz1)), (12, .int .i64 (i1 : Int)), (13, .pointer (some ⟨b3, 0, none⟩)), (14, .pointer (some ⟨b4, 0, none⟩)), (35, .slice A1 l1.length c1), (36, .int .i64 (l1.length : Int)), (37, .int .i64 (i1 : Int)), (38, .bool true), (39, .int .i64 (i1 : Int)), (40, .pointer (some ⟨blkOf A1, offOf A1 + i1 * 2, none⟩)), (41, .agg #[.int .i64 e1.Task, .int .i64 e1.At]), (42, .slice A0 l0.length c0), (43, .pointer (some ⟨b3, 0, none⟩)), (44, .int .i64 e1.Task), (45, .pointer (some ⟨blkOf A0, offOf A0 + (e1.Task).toNat * 7, none⟩)), (46, .agg #[.string e2.Name, .int .i64 e2.C, .int .i64 e2.T, .int .i64 e2.D, .int .i64 e2.J, .int .i64 e2.O, .int .i64 e2.P])] w := by
  simp only [tasks_Jobs.p2] at h
  refine we_seq fun K18 hK18 => ?_
  refine we_draws (by kernel_rfl) [(0, 0), (1, 0), (2, 0), (3, 0), (4, 0), (5, 0), (6, 0), (7, 0), (8, 0), (9, 0), (10, 0), (11, 0), (12, 0), (13, 0), (14, 0), (15, 0), (16, 0), (17, 0), (18, 0), (19, 0), (20, 0), (21, 0), (22, 0), (23, 0), (24, 0), (25, 0), (26, 0), (27, 0), (28, 0), (29, 0)] (by kernel_rfl) ?_
  have hS28 := hS.drew
  refine ge_batch [0, 1] (ans := []) (vs := [(48, .int .i64 (i1 : Int)), (47, .slice A2 l2.length c2)]) (l := []) (by kernel_rfl) trivial ?_
  rcases hx7 : l2[i1]? with _ | e3
  · rw [hx7] at h; cases h
  rw [hx7] at h
  simp only [] at h
  refine ge_index (d := 49) (ty := 0) (t := 24) (el := 3) (sz := 1) (m := l2.length) (c := c2) (x := (.tmp 47)) (y := (.tmp 48)) (A := A2) (k' := .i64) (j := (i1 : Int)) (jn := i1) (b0 := blkOf A2) (o0 := offOf A2) (by kernel_rfl) (by kernel_rfl) (by kernel_rfl) (by kernel_rfl) (by kernel_rfl) ((hS28.rd hR2).eqSome (pos_of_get hx7)) rfl (lt_of_get hx7) ?_
  refine ge_batch [3, 4, 5] (ans := [.val (.int .i64 e3)]) (vs := [(52, .bool (decide (e3 < 0))), (51, .bool (decide (e3 < 0))), (50, .int .i64 e3)]) (l := [.loaded ⟨blkOf A2, offOf A2 + i1 * 1, none⟩ (.int .i64 e3)]) (by kernel_rfl) ⟨RdL.cell (j := 0) (hS28.rd hR2) hx7 rfl, trivial⟩ ?_
  by_cases hc6 : e3 < 0
  · rw [if_pos hc6] at h
    refine ge_known (t := 52) (b := decide (e3 < 0)) (c := true) (by kernel_rfl) (decide_eq_true hc6) ?_
    refine ge_batch [6, 7, 8, 9, 10, 11, 12, 13, 14, 15, 16, 17, 18, 19, 20, 21, 22, 23, 24, 25, 26, 27, 28, 29] (ans := []) (vs := [(76, .bool true), (75, undef), (74, undef), (73, undef), (72, undef), (71, undef), (70, undef), (69, undef), (68, .bool true), (67, .bool true), (66, undef), (65, undef), (64, undef), (63, undef), (62, undef), (61, .bool true), (60, .bool true), (59, undef), (58, undef), (57, undef), (56, undef), (55, undef), (54, undef), (53, undef)]) (l := []) (by kernel_rfl) trivial ?_
    refine ge_nil fun a hF => hK18 _ _ ?_ a hF
    refine we_true (by kernel_rfl) ?_
    refine we_seq fun K19 hK19 => ?_
    refine we_region [(0, 0), (1, 0), (2, 0), (3, 2)] rfl ?_
    refine ge_batch [0, 1, 2] (ans := []) (vs := [(8, .slice none 0 0), (78, .agg #[.int .i64 3, .int .i64 (i1 : Int)]), (77, .int .i64 (i1 : Int))]) (l := []) (by kernel_rfl) trivial ?_
    have hS29 := hS28.bring 2 rfl
    refine ge_set (b := b1) (j := 0) (cs := #[.int .i64 0, .int .i64 0]) (t := 29) (vs := [.int .i64 3, .int .i64 (i1 : Int)]) hS29 (by kernel_rfl) rfl rfl fun w12 hS30 => ?_
    have hS31 : St w0 w12 [Own.blk b1 (.cells #[.int .i64 3, .int .i64 (i1 : Int)] 29 (0, 0)), Own.blk b4 (.cells #[.string e2.Name, .int .i64 e2.C, .int .i64 e2.T, .int .i64 e2.D, .int .i64 e2.J, .int .i64 e2.O, .int .i64 e2.P] 117 (0, 0)), Own.blk b3 (.cells #[.int .i64 e1.Task, .int .i64 e1.At] 33 (0, 0)), Own.of (.slice Z1 m1.length cz1) 88 m1] := hS30
    refine ge_nil fun a hF => hK19 _ _ ?_ a hF
    have hS32 := hS31.nil (α := SJob) 88
    have hS33 := hS32.takeN 1
    obtain rfl := Option.some.inj h
    exact we_ret fun a hF => hQ _ _ _ (Outs.out nofun ⟨rfl, (post_ret (rs := [.tmp 8, .cell 9 29]) (ans := [.val (.int .i64 3), .val (.int .i64 (i1 : Int))]) (vs := [(.slice none 0 0), .agg #[.int .i64 3, .int .i64 (i1 : Int)]]) (l := [.loaded ⟨b1, 0, none⟩ (.int .i64 3), .loaded ⟨b1, 1, none⟩ (.int .i64 (i1 : Int))]) rfl (by kernel_rfl) ⟨hS32.cell 1 rfl rfl, hS32.cell 1 rfl rfl, trivial⟩ ⟨(.slice none 0 0), rfl, hS33⟩) a hF⟩)
  · rw [if_neg hc6] at h
    refine ge_known (t := 52) (b := decide (e3 < 0)) (c := false) (by kernel_rfl) (decide_eq_false hc6) ?_
    refine ge_batch [6, 7] (ans := []) (vs := [(54, .int .i64 (i1 : Int)), (53, .slice A2 l2.length c2)]) (l := []) (by kernel_rfl) trivial ?_
    refine ge_index (d := 55) (ty := 0) (t := 24) (el := 3) (sz := 1) (m := l2.length) (c := c2) (x := (.tmp 53)) (y := (.tmp 54)) (A := A2) (k' := .i64) (j := (i1 : Int)) (jn := i1) (b0 := blkOf A2) (o0 := offOf A2) (by kernel_rfl) (by kernel_rfl) (by kernel_rfl) (by kernel_rfl) (by kernel_rfl) ((hS28.rd hR2).eqSome (pos_of_get hx7)) rfl (lt_of_get hx7) ?_
    refine ge_batch [9, 10, 11, 12, 13, 14] (ans := [.val (.int .i64 e3), .val (.int .i64 e2.J)]) (vs := [(61, .bool (decide (e3 > e2.J))), (60, .bool (decide (e3 > e2.J))), (59, .bool (decide (e3 > e2.J))), (58, .int .i64 e2.J), (57, .pointer (some ⟨b4, 4, none⟩)), (56, .int .i64 e3)]) (l := [.loaded ⟨blkOf A2, offOf A2 + i1 * 1, none⟩ (.int .i64 e3), .loaded ⟨b4, 4, none⟩ (.int .i64 e2.J)]) (by kernel_rfl) ⟨RdL.cell (j := 0) (hS28.rd hR2) hx7 rfl, hS28.cell 0 rfl rfl, trivial⟩ ?_
    by_cases hc7 : e3 > e2.J
    · rw [if_pos hc7] at h
      refine ge_known (t := 61) (b := decide (e3 > e2.J)) (c := true) (by kernel_rfl) (decide_eq_true hc7) ?_
      refine ge_batch [15, 16, 17, 18, 19, 20, 21, 22, 23, 24, 25, 26, 27, 28, 29] (ans := []) (vs := [(76, .bool true), (75, undef), (74, undef), (73, undef), (72, undef), (71, undef), (70, undef), (69, undef), (68, .bool true), (67, .bool true), (66, undef), (65, undef), (64, undef), (63, undef), (62, undef)]) (l := []) (by kernel_rfl) trivial ?_
      refine ge_nil fun a hF => hK18 _ _ ?_ a hF
      refine we_true (by kernel_rfl) ?_
      refine we_seq fun K20 hK20 => ?_
      refine we_region [(0, 0), (1, 0), (2, 0), (3, 2)] rfl ?_
      refine ge_batch [0, 1, 2] (ans := []) (vs := [(8, .slice none 0 0), (78, .agg #[.int .i64 3, .int .i64 (i1 : Int)]), (77, .int .i64 (i1 : Int))]) (l := []) (by kernel_rfl) trivial ?_
      have hS34 := hS28.bring 2 rfl
      refine ge_set (b := b1) (j := 0) (cs := #[.int .i64 0, .int .i64 0]) (t := 29) (vs := [.int .i64 3, .int .i64 (i1 : Int)]) hS34 (by kernel_rfl) rfl rfl fun w13 hS35 => ?_
      have hS36 : St w0 w13 [Own.blk b1 (.cells #[.int .i64 3, .int .i64 (i1 : Int)] 29 (0, 0)), Own.blk b4 (.cells #[.string e2.Name, .int .i64 e2.C, .int .i64 e2.T, .int .i64 e2.D, .int .i64 e2.J, .int .i64 e2.O, .int .i64 e2.P] 117 (0, 0)), Own.blk b3 (.cells #[.int .i64 e1.Task, .int .i64 e1.At] 33 (0, 0)), Own.of (.slice Z1 m1.length cz1) 88 m1] := hS35
      refine ge_nil fun a hF => hK20 _ _ ?_ a hF
      have hS37 := hS36.nil (α := SJob) 88
      have hS38 := hS37.takeN 1
      obtain rfl := Option.some.inj h
      exact we_ret fun a hF => hQ _ _ _ (Outs.out nofun ⟨rfl, (post_ret (rs := [.tmp 8, .cell 9 29]) (ans := [.val (.int .i64 3), .val (.int .i64 (i1 : Int))]) (vs := [(.slice none 0 0), .agg #[.int .i64 3, .int .i64 (i1 : Int)]]) (l := [.loaded ⟨b1, 0, none⟩ (.int .i64 3), .loaded ⟨b1, 1, none⟩ (.int .i64 (i1 : Int))]) rfl (by kernel_rfl) ⟨hS37.cell 1 rfl rfl, hS37.cell 1 rfl rfl, trivial⟩ ⟨(.slice none 0 0), rfl, hS38⟩) a hF⟩)
    · rw [if_neg hc7] at h
      refine ge_known (t := 61) (b := decide (e3 > e2.J)) (c := false) (by kernel_rfl) (decide_eq_false hc7) ?_
      refine ge_batch [15, 16] (ans := []) (vs := [(63, .int .i64 (i1 : Int)), (62, .slice A3 l3.length c3)]) (l := []) (by kernel_rfl) trivial ?_
      rcases hx8 : l3[i1]? with _ | e4
      · rw [hx8] at h; cases h
      rw [hx8] at h
      simp only [] at h
      refine ge_index (d := 64) (ty := 0) (t := 24) (el := 3) (sz := 1) (m := l3.length) (c := c3) (x := (.tmp 62)) (y := (.tmp 63)) (A := A3) (k' := .i64) (j := (i1 : Int)) (jn := i1) (b0 := blkOf A3) (o0 := offOf A3) (by kernel_rfl) (by kernel_rfl) (by kernel_rfl) (by kernel_rfl) (by kernel_rfl) ((hS28.rd hR3).eqSome (pos_of_get hx8)) rfl (lt_of_get hx8) ?_
      refine ge_batch [18, 19, 20, 21] (ans := [.val (.int .i64 e4)]) (vs := [(68, .bool (decide (e4 < 1))), (67, .bool (decide (e4 < 1))), (66, .bool (decide (e4 < 1))), (65, .int .i64 e4)]) (l := [.loaded ⟨blkOf A3, offOf A3 + i1 * 1, none⟩ (.int .i64 e4)]) (by kernel_rfl) ⟨RdL.cell (j := 0) (hS28.rd hR3) hx8 rfl, trivial⟩ ?_
      by_cases hc8 : e4 < 1
      · rw [if_pos hc8] at h
        refine ge_known (t := 68) (b := decide (e4 < 1)) (c := true) (by kernel_rfl) (decide_eq_true hc8) ?_
        refine ge_batch [22, 23, 24, 25, 26, 27, 28, 29] (ans := []) (vs := [(76, .bool true), (75, undef), (74, undef), (73, undef), (72, undef), (71, undef), (70, undef), (69, undef)]) (l := []) (by kernel_rfl) trivial ?_
        refine ge_nil fun a hF => hK18 _ _ ?_ a hF
        refine we_true (by kernel_rfl) ?_
        refine we_seq fun K21 hK21 => ?_
        refine we_region [(0, 0), (1, 0), (2, 0), (3, 2)] rfl ?_
        refine ge_batch [0, 1, 2] (ans := []) (vs := [(8, .slice none 0 0), (78, .agg #[.int .i64 3, .int .i64 (i1 : Int)]), (77, .int .i64 (i1 : Int))]) (l := []) (by kernel_rfl) trivial ?_
        have hS39 := hS28.bring 2 rfl
        refine ge_set (b := b1) (j := 0) (cs := #[.int .i64 0, .int .i64 0]) (t := 29) (vs := [.int .i64 3, .int .i64 (i1 : Int)]) hS39 (by kernel_rfl) rfl rfl fun w14 hS40 => ?_
        have hS41 : St w0 w14 [Own.blk b1 (.cells #[.int .i64 3, .int .i64 (i1 : Int)] 29 (0, 0)), Own.blk b4 (.cells #[.string e2.Name, .int .i64 e2.C, .int .i64 e2.T, .int .i64 e2.D, .int .i64 e2.J, .int .i64 e2.O, .int .i64 e2.P] 117 (0, 0)), Own.blk b3 (.cells #[.int .i64 e1.Task, .int .i64 e1.At] 33 (0, 0)), Own.of (.slice Z1 m1.length cz1) 88 m1] := hS40
        refine ge_nil fun a hF => hK21 _ _ ?_ a hF
        have hS42 := hS41.nil (α := SJob) 88
        have hS43 := hS42.takeN 1
        obtain rfl := Option.some.inj h
        exact we_ret fun a hF => hQ _ _ _ (Outs.out nofun ⟨rfl, (post_ret (rs := [.tmp 8, .cell 9 29]) (ans := [.val (.int .i64 3), .val (.int .i64 (i1 : Int))]) (vs := [(.slice none 0 0), .agg #[.int .i64 3, .int .i64 (i1 : Int)]]) (l := [.loaded ⟨b1, 0, none⟩ (.int .i64 3), .loaded ⟨b1, 1, none⟩ (.int .i64 (i1 : Int))]) rfl (by kernel_rfl) ⟨hS42.cell 1 rfl rfl, hS42.cell 1 rfl rfl, trivial⟩ ⟨(.slice none 0 0), rfl, hS43⟩) a hF⟩)
      · rw [if_neg hc8] at h
        refine ge_known (t := 68) (b := decide (e4 < 1)) (c := false) (by kernel_rfl) (decide_eq_false hc8) ?_
        refine ge_batch [22, 23] (ans := []) (vs := [(70, .int .i64 (i1 : Int)), (69, .slice A3 l3.length c3)]) (l := []) (by kernel_rfl) trivial ?_
        refine ge_index (d := 71) (ty := 0) (t := 24) (el := 3) (sz := 1) (m := l3.length) (c := c3) (x := (.tmp 69)) (y := (.tmp 70)) (A := A3) (k' := .i64) (j := (i1 : Int)) (jn := i1) (b0 := blkOf A3) (o0 := offOf A3) (by kernel_rfl) (by kernel_rfl) (by kernel_rfl) (by kernel_rfl) (by kernel_rfl) ((hS28.rd hR3).eqSome (pos_of_get hx8)) rfl (lt_of_get hx8) ?_
        refine ge_batch [25, 26, 27, 28, 29] (ans := [.val (.int .i64 e4), .val (.int .i64 e2.C)]) (vs := [(76, .bool (decide (e4 > e2.C))), (75, .bool (decide (e4 > e2.C))), (74, .int .i64 e2.C), (73, .pointer (some ⟨b4, 1, none⟩)), (72, .int .i64 e4)]) (l := [.loaded ⟨blkOf A3, offOf A3 + i1 * 1, none⟩ (.int .i64 e4), .loaded ⟨b4, 1, none⟩ (.int .i64 e2.C)]) (by kernel_rfl) ⟨RdL.cell (j := 0) (hS28.rd hR3) hx8 rfl, hS28.cell 0 rfl rfl, trivial⟩ ?_
        refine ge_nil fun a hF => hK18 _ _ ?_ a hF
        by_cases hc9 : e4 > e2.C
        · rw [if_pos hc9] at h
          refine we_known (t := 76) (b := decide (e4 > e2.C)) (v := true) (by kernel_rfl) (decide_eq_true hc9) ?_
          refine we_true (by kernel_rfl) ?_
          refine we_seq fun K22 hK22 => ?_
          refine we_region [(0, 0), (1, 0), (2, 0), (3, 2)] rfl ?_
          refine ge_batch [0, 1, 2] (ans := []) (vs := [(8, .slice none 0 0), (78, .agg #[.int .i64 3, .int .i64 (i1 : Int)]), (77, .int .i64 (i1 : Int))]) (l := []) (by kernel_rfl) trivial ?_
          have hS44 := hS28.bring 2 rfl
          refine ge_set (b := b1) (j := 0) (cs := #[.int .i64 0, .int .i64 0]) (t := 29) (vs := [.int .i64 3, .int .i64 (i1 : Int)]) hS44 (by kernel_rfl) rfl rfl fun w15 hS45 => ?_
          have hS46 : St w0 w15 [Own.blk b1 (.cells #[.int .i64 3, .int .i64 (i1 : Int)] 29 (0, 0)), Own.blk b4 (.cells #[.string e2.Name, .int .i64 e2.C, .int .i64 e2.T, .int .i64 e2.D, .int .i64 e2.J, .int .i64 e2.O, .int .i64 e2.P] 117 (0, 0)), Own.blk b3 (.cells #[.int .i64 e1.Task, .int .i64 e1.At] 33 (0, 0)), Own.of (.slice Z1 m1.length cz1) 88 m1] := hS45
          refine ge_nil fun a hF => hK22 _ _ ?_ a hF
          have hS47 := hS46.nil (α := SJob) 88
          have hS48 := hS47.takeN 1
          obtain rfl := Option.some.inj h
          exact we_ret fun a hF => hQ _ _ _ (Outs.out nofun ⟨rfl, (post_ret (rs := [.tmp 8, .cell 9 29]) (ans := [.val (.int .i64 3), .val (.int .i64 (i1 : Int))]) (vs := [(.slice none 0 0), .agg #[.int .i64 3, .int .i64 (i1 : Int)]]) (l := [.loaded ⟨b1, 0, none⟩ (.int .i64 3), .loaded ⟨b1, 1, none⟩ (.int .i64 (i1 : Int))]) rfl (by kernel_rfl) ⟨hS47.cell 1 rfl rfl, hS47.cell 1 rfl rfl, trivial⟩ ⟨(.slice none 0 0), rfl, hS48⟩) a hF⟩)
        · rw [if_neg hc9] at h
          refine we_known (t := 76) (b := decide (e4 > e2.C)) (v := false) (by kernel_rfl) (decide_eq_false hc9) ?_
          refine we_false (by kernel_rfl) ?_
          have hS49 := hS28.bring 3 rfl
          have hS50 := hS49.bring 3 rfl
          have hS51 := hS50.bring 3 rfl
          have hS52 := hS51.bring 3 rfl
          obtain rfl := Option.some.inj h
          exact we_skip fun a hF => hQ _ _ _ (Outs.again ⟨hS52, hF.weaken ⟨by kernel_rfl, by kernel_rfl, by kernel_rfl, by kernel_rfl, by kernel_rfl, by kernel_rfl, by kernel_rfl, by kernel_rfl, by kernel_rfl, by kernel_rfl, by kernel_rfl, trivial⟩⟩)
abbrev tasks_Jobs.A1 (K : Nat) (w0 : World) (l0 : List STask) (A0 : Option Addr) (c0 : Nat) (l1 : List SCome) (A1 : Option Addr) (c1 : Nat) (l2 : List Int) (A2 : Option Addr) (c2 : Nat) (l3 : List Int) (A3 : Option Addr) (c3 : Nat) (hR0 : RdL w0 A0 l0) (hL0 : l0.length ≤ c0) (hR1 : RdL w0 A1 l1) (hL1 : l1.length ≤ c1) (hR2 : RdL w0 A2 l2) (hL2 : l2.length ≤ c2) (hR3 : RdL w0 A3 l3) (hL3 : l3.length ≤ c3) (b1 : Nat) (r1 : SFault) (b2 : Nat) (hc1 : r1.Code = 0) : ((List SJob) × Nat) → Act → World → Prop := fun (s : (List SJob) × Nat) a w => ∃ (v1 : Value), St w0 w [Own.blk b1 (.cells #[.int .i64 0, .int .i64 0] 29 (0, 0)), Own.of v1 88 s.1] ∧ Frm 106 a [(0, .slice A0 l0.length c0), (2, .slice A2 l2.length c2), (3, .slice A3 l3.length c3), (9, .pointer (some ⟨b1, 0, none⟩)), (11, v1), (35, .slice A1 l1.length c1), (36, .int .i64 (l1.length : Int)), (37, .int .i64 (s.2 : Int))]
abbrev tasks_Jobs.B1 (K : Nat) (w0 : World) (l0 : List STask) (A0 : Option Addr) (c0 : Nat) (l1 : List SCome) (A1 : Option Addr) (c1 : Nat) (l2 : List Int) (A2 : Option Addr) (c2 : Nat) (l3 : List Int) (A3 : Option Addr) (c3 : Nat) (hR0 : RdL w0 A0 l0) (hL0 : l0.length ≤ c0) (hR1 : RdL w0 A1 l1) (hL1 : l1.length ≤ c1) (hR2 : RdL w0 A2 l2) (hL2 : l2.length ≤ c2) (hR3 : RdL w0 A3 l3) (hL3 : l3.length ≤ c3) (b1 : Nat) (r1 : SFault) (b2 : Nat) (hc1 : r1.Code = 0) : ((List SJob) ⊕ ((List SJob) × SFault)) → Exit → Act → World → Prop := Exits 0 (fun (s : (List SJob)) a w => ∃ (v2 : Value), St w0 w [Own.blk b1 (.cells #[.int .i64 0, .int .i64 0] 29 (0, 0)), Own.of v2 88 s] ∧ Frm 106 a [(9, .pointer (some ⟨b1, 0, none⟩)), (11, v2)]) (Rets Try.prog Try.f27 (tasks_Jobs.Post w0))
theorem tasks_Jobs_r1 (K : Nat) (w0 : World) (l0 : List STask) (A0 : Option Addr) (c0 : Nat) (l1 : List SCome) (A1 : Option Addr) (c1 : Nat) (l2 : List Int) (A2 : Option Addr) (c2 : Nat) (l3 : List Int) (A3 : Option Addr) (c3 : Nat) (hR0 : RdL w0 A0 l0) (hL0 : l0.length ≤ c0) (hR1 : RdL w0 A1 l1) (hL1 : l1.length ≤ c1) (hR2 : RdL w0 A2 l2) (hL2 : l2.length ≤ c2) (hR3 : RdL w0 A3 l3) (hL3 : l3.length ≤ c3) (b1 : Nat) (r1 : SFault) (b2 : Nat) (hc1 : r1.Code = 0) (s : (List SJob) × Nat) (o : ((List SJob) × Nat) ⊕ ((List SJob) ⊕ ((List SJob) × SFault))) (h : tasks_Jobs.r1 l0 l1 l2 l3 s = some o) (a : Act) (w : World) (hA : tasks_Jobs.A1 K w0 l0 A0 c0 l1 A1 c1 l2 A2 c2 l3 A3 c3 hR0 hL0 hR1 hL1 hR2 hL2 hR3 hL3 b1 r1 b2 hc1 s a w) (Q : Exit → Act → World → Prop) (hQ : ∀ x a w, Outs (tasks_Jobs.A1 K w0 l0 A0 c0 l1 A1 c1 l2 A2 c2 l3 A3 c3 hR0 hL0 hR1 hL1 hR2 hL2 hR3 hL3 b1 r1 b2 hc1) (tasks_Jobs.B1 K w0 l0 A0 c0 l1 A1 c1 l2 A2 c2 l3 A3 c3 hR0 hL0 hR1 hL1 hR2 hL2 hR3 hL3 b1 r1 b2 hc1) o x a w → Q x a w) : (subF Try.f27 [1, 1, 1, 1, 0, 1, 0, 0]).wp Try.prog Q a w := by
  obtain ⟨m1, i1⟩ := s
  obtain ⟨v1, hS, hF⟩ := hA
  replace hS : St w0 w [Own.blk b1 (.cells #[.int .i64 0, .int .i64 0] 29 (0, 0)), Own.of v1 88 m1] := hS
  simp only [tasks_Jobs.r1] at h
  refine (?_ : WE Try.prog 106 (subF Try.f27 [1, 1, 1, 1, 0, 1, 0, 0]) Q [(0, .slice A0 l0.length c0), (2, .slice A2 l2.length c2), (3, .slice A3 l3.length c3), (9, .pointer (some ⟨b1, 0, none⟩)), (11, v1), (35, .slice A1 l1.length c1), (36, .int .i64 (l1.length : Int)), (37, .int .i64 (i1 : Int))] w) a hF
  clear hF a
  refine we_seq fun K12 hK12 => ?_
  refine we_region [(0, 0)] rfl ?_
  refine ge_batch [0] (ans := []) (vs := [(38, .bool (decide ((i1 : Int) < (l1.length : Int))))]) (l := []) (by kernel_rfl) trivial ?_
  refine ge_nil fun a hF => hK12 _ _ ?_ a hF
  refine we_seq fun K13 hK13 => ?_
  by_cases hc4 : (i1 : Int) < (l1.length : Int)
  · rw [if_pos hc4] at h
    refine we_known (t := 38) (b := decide ((i1 : Int) < (l1.length : Int))) (v := true) (by kernel_rfl) (decide_eq_true hc4) ?_
    refine we_true (by kernel_rfl) ?_
    refine we_skip fun a hF => hK13 _ _ ?_ a hF
    refine we_seq fun K14 hK14 => ?_
    refine we_block ?_
    refine we_seq fun K15 hK15 => ?_
    refine we_region [(0, 0), (1, 0), (2, 0), (3, 1), (4, 0), (5, 2)] rfl ?_
    refine ge_batch [0] (ans := []) (vs := [(39, .int .i64 (i1 : Int))]) (l := []) (by kernel_rfl) trivial ?_
    rcases hx3 : l1[i1]? with _ | e1
    · rw [hx3] at h; cases h
    rw [hx3] at h
    simp only [] at h
    refine ge_index (d := 40) (ty := 0) (t := 23) (el := 33) (sz := 2) (m := l1.length) (c := c1) (x := (.tmp 35)) (y := (.tmp 37)) (A := A1) (k' := .i64) (j := (i1 : Int)) (jn := i1) (b0 := blkOf A1) (o0 := offOf A1) (by kernel_rfl) (by kernel_rfl) (by kernel_rfl) (by kernel_rfl) (by kernel_rfl) ((hS.rd hR1).eqSome (pos_of_get hx3)) rfl (lt_of_get hx3) ?_
    refine ge_batch [2] (ans := [.val (.int .i64 e1.Task), .val (.int .i64 e1.At)]) (vs := [(41, .agg #[.int .i64 e1.Task, .int .i64 e1.At])]) (l := [.loaded ⟨blkOf A1, offOf A1 + i1 * 2, none⟩ (.int .i64 e1.Task), .loaded ⟨blkOf A1, offOf A1 + i1 * 2 + 1, none⟩ (.int .i64 e1.At)]) (by kernel_rfl) ⟨RdL.cell (j := 0) (hS.rd hR1) hx3 rfl, RdL.cell (j := 1) (hS.rd hR1) hx3 rfl, trivial⟩ ?_
    refine ge_new (d := some 13) (o := .cells #[.int .i64 0, .int .i64 0] 33) (v := fun b => .pointer (some ⟨b, 0, none⟩)) hS (fun b => by kernel_rfl) fun b3 w8 hx4 hS22 => ?_
    refine ge_batch [4] (ans := []) (vs := [(12, .int .i64 (i1 : Int))]) (l := []) (by kernel_rfl) trivial ?_
    refine ge_set (b := b3) (j := 0) (cs := #[.int .i64 0, .int .i64 0]) (t := 33) (vs := [.int .i64 e1.Task, .int .i64 e1.At]) hS22 (by kernel_rfl) rfl rfl fun w9 hS23 => ?_
    have hS24 : St w0 w9 [Own.blk b3 (.cells #[.int .i64 e1.Task, .int .i64 e1.At] 33 (0, 0)), Own.blk b1 (.cells #[.int .i64 0, .int .i64 0] 29 (0, 0)), Own.of v1 88 m1] := hS23
    refine ge_nil fun a hF => hK15 _ _ ?_ a hF
    refine we_seq fun K16 hK16 => ?_
    refine we_region [(0, 0), (1, 0), (2, 0), (3, 0), (4, 0), (5, 1), (6, 2)] rfl ?_
    refine ge_batch [0, 1, 2] (ans := [.val (.int .i64 e1.Task)]) (vs := [(44, .int .i64 e1.Task), (43, .pointer (some ⟨b3, 0, none⟩)), (42, .slice A0 l0.length c0)]) (l := [.loaded ⟨b3, 0, none⟩ (.int .i64 e1.Task)]) (by kernel_rfl) ⟨hS24.cell 0 rfl rfl, trivial⟩ ?_
    by_cases hc5 : 0 ≤ e1.Task
    · rw [if_pos hc5] at h
      rcases hx5 : l0[(e1.Task).toNat]? with _ | e2
      · rw [hx5] at h; cases h
      rw [hx5] at h
      simp only [] at h
      refine ge_index (d := 45) (ty := 0) (t := 73) (el := 117) (sz := 7) (m := l0.length) (c := c0) (x := (.tmp 42)) (y := (.tmp 44)) (A := A0) (k' := .i64) (j := e1.Task) (jn := ((e1.Task).toNat)) (b0 := blkOf A0) (o0 := offOf A0) (by kernel_rfl) (by kernel_rfl) (by kernel_rfl) (by kernel_rfl) (by kernel_rfl) ((hS24.rd hR0).eqSome (pos_of_get hx5)) (Int.toNat_of_nonneg hc5).symm (lt_of_get hx5) ?_
      refine ge_batch [4] (ans := [.val (.string e2.Name), .val (.int .i64 e2.C), .val (.int .i64 e2.T), .val (.int .i64 e2.D), .val (.int .i64 e2.J), .val (.int .i64 e2.O), .val (.int .i64 e2.P)]) (vs := [(46, .agg #[.string e2.Name, .int .i64 e2.C, .int .i64 e2.T, .int .i64 e2.D, .int .i64 e2.J, .int .i64 e2.O, .int .i64 e2.P])]) (l := [.loaded ⟨blkOf A0, offOf A0 + ((e1.Task).toNat) * 7, none⟩ (.string e2.Name), .loaded ⟨blkOf A0, offOf A0 + ((e1.Task).toNat) * 7 + 1, none⟩ (.int .i64 e2.C), .loaded ⟨blkOf A0, offOf A0 + ((e1.Task).toNat) * 7 + 2, none⟩ (.int .i64 e2.T), .loaded ⟨blkOf A0, offOf A0 + ((e1.Task).toNat) * 7 + 3, none⟩ (.int .i64 e2.D), .loaded ⟨blkOf A0, offOf A0 + ((e1.Task).toNat) * 7 + 4, none⟩ (.int .i64 e2.J), .loaded ⟨blkOf A0, offOf A0 + ((e1.Task).toNat) * 7 + 5, none⟩ (.int .i64 e2.O), .loaded ⟨blkOf A0, offOf A0 + ((e1.Task).toNat) * 7 + 6, none⟩ (.int .i64 e2.P)]) (by kernel_rfl) ⟨RdL.cell (j := 0) (hS24.rd hR0) hx5 rfl, RdL.cell (j := 1) (hS24.rd hR0) hx5 rfl, RdL.cell (j := 2) (hS24.rd hR0) hx5 rfl, RdL.cell (j := 3) (hS24.rd hR0) hx5 rfl, RdL.cell (j := 4) (hS24.rd hR0) hx5 rfl, RdL.cell (j := 5) (hS24.rd hR0) hx5 rfl, RdL.cell (j := 6) (hS24.rd hR0) hx5 rfl, trivial⟩ ?_
      refine ge_new (d := some 14) (o := .cells #[.string (⟨#[]⟩), .int .i64 0, .int .i64 0, .int .i64 0, .int .i64 0, .int .i64 0, .int .i64 0] 117) (v := fun b => .pointer (some ⟨b, 0, none⟩)) hS24 (fun b => by kernel_rfl) fun b4 w10 hx6 hS25 => ?_
      refine ge_set (b := b4) (j := 0) (cs := #[.string (⟨#[]⟩), .int .i64 0, .int .i64 0, .int .i64 0, .int .i64 0, .int .i64 0, .int .i64 0]) (t := 117) (vs := [.string e2.Name, .int .i64 e2.C, .int .i64 e2.T, .int .i64 e2.D, .int .i64 e2.J, .int .i64 e2.O, .int .i64 e2.P]) hS25 (by kernel_rfl) rfl rfl fun w11 hS26 => ?_
      have hS27 : St w0 w11 [Own.blk b4 (.cells #[.string e2.Name, .int .i64 e2.C, .int .i64 e2.T, .int .i64 e2.D, .int .i64 e2.J, .int .i64 e2.O, .int .i64 e2.P] 117 (0, 0)), Own.blk b3 (.cells #[.int .i64 e1.Task, .int .i64 e1.At] 33 (0, 0)), Own.blk b1 (.cells #[.int .i64 0, .int .i64 0] 29 (0, 0)), Own.of v1 88 m1] := hS26
      refine ge_nil fun a hF => hK16 _ _ ?_ a hF
      refine we_seq fun K17 hK17 => ?_
      obtain ⟨Z1, cz1, rfl⟩ := hS27.open 3 rfl
      rcases hq3 : tasks_Jobs.p2 l2 l3 i1 e2 with _ | (_ | rr1)
      · rw [hq3] at h; cases h
      · rw [hq3] at h
        simp only [] at h
        refine we_keep (e' := [(0, .slice A0 l0.length c0), (2, .slice A2 l2.length c2), (3, .slice A3 l3.length c3), (9, .pointer (some ⟨b1, 0, none⟩)), (11, (.slice Z1 m1.length cz1)), (12, .int .i64 (i1 : Int)), (13, .pointer (some ⟨b3, 0, none⟩)), (14, .pointer (some ⟨b4, 0, none⟩)), (35, .slice A1 l1.length c1), (36, .int .i64 (l1.length : Int)), (37, .int .i64 (i1 : Int)), (38, .bool true), (39, .int .i64 (i1 : Int)), (40, .pointer (some ⟨blkOf A1, offOf A1 + i1 * 2, none⟩)), (41, .agg #[.int .i64 e1.Task, .int .i64 e1.At]), (42, .slice A0 l0.length c0), (43, .pointer (some ⟨b3, 0, none⟩)), (44, .int .i64 e1.Task), (45, .pointer (some ⟨blkOf A0, offOf A0 + (e1.Task).toNat * 7, none⟩)), (46, .agg #[.string e2.Name, .int .i64 e2.C, .int .i64 e2.T, .int .i64 e2.D, .int .i64 e2.J, .int .i64 e2.O, .int .i64 e2.P])]) ⟨by kernel_rfl, by kernel_rfl, by kernel_rfl, by kernel_rfl, by kernel_rfl, by kernel_rfl, by kernel_rfl, by kernel_rfl, by kernel_rfl, by kernel_rfl, by kernel_rfl, by kernel_rfl, by kernel_rfl, by kernel_rfl, by kernel_rfl, by kernel_rfl, by kernel_rfl, by kernel_rfl, by kernel_rfl, by kernel_rfl, trivial⟩ (tasks_Jobs_p2 K w0 l0 A0 c0 l1 A1 c1 l2 A2 c2 l3 A3 c3 hR0 hL0 hR1 hL1 hR2 hL2 hR3 hL3 b1 r1 b2 hc1 m1 i1 hc4 e1 hx3 b3 hc5 e2 hx5 b4 Z1 cz1 _ hq3 _ hS27 _ ?_)
        rintro _ a w16 ⟨rfl, hS53, hF⟩
        replace hS53 : St w0 w16 [Own.blk b4 (.cells #[.string e2.Name, .int .i64 e2.C, .int .i64 e2.T, .int .i64 e2.D, .int .i64 e2.J, .int .i64 e2.O, .int .i64 e2.P] 117 (0, 0)), Own.blk b3 (.cells #[.int .i64 e1.Task, .int .i64 e1.At] 33 (0, 0)), Own.blk b1 (.cells #[.int .i64 0, .int .i64 0] 29 (0, 0)), Own.of (.slice Z1 m1.length cz1) 88 m1] := hS53
        refine hK17 [(0, .slice A0 l0.length c0), (2, .slice A2 l2.length c2), (3, .slice A3 l3.length c3), (9, .pointer (some ⟨b1, 0, none⟩)), (11, (.slice Z1 m1.length cz1)), (12, .int .i64 (i1 : Int)), (13, .pointer (some ⟨b3, 0, none⟩)), (14, .pointer (some ⟨b4, 0, none⟩)), (35, .slice A1 l1.length c1), (36, .int .i64 (l1.length : Int)), (37, .int .i64 (i1 : Int))] w16 ?_ a hF
        refine we_orders2 (by kernel_rfl) [(2, [⟨b3, 0, none⟩]), (4, [⟨b3, 1, none⟩]), (8, [⟨blkOf A2, offOf A2 + i1 * 1, none⟩]), (13, [⟨blkOf A3, offOf A3 + i1 * 1, none⟩]), (15, [⟨b3, 1, none⟩]), (17, [⟨b4, 3, none⟩]), (20, [⟨b4, 6, none⟩])] (.vals [0] (.vals [1] (.vals [2] (.vals [3] (.vals [4] (.vals [5] (.vals [6] (.vals [7] (.vals [8] (.vals [9] (.vals [10] (.vals [11] (.vals [12] (.vals [13] (.vals [14] (.vals [15] (.vals [16] (.vals [17] (.vals [18] (.vals [19] (.vals [20] (.vals [21] (.alt 22 1 (.alt 23 2 (.vals [24] .fin) .nomore) .nomore))))))))))))))))))))))) (by kernel_rfl) ?_
        have hS54 := hS53.drew
        refine go2_batch [0, 1] (ans := []) (vs := [(80, .pointer (some ⟨b3, 0, none⟩)), (79, (.slice Z1 m1.length cz1))]) (l := []) (by kernel_rfl) trivial mem_nil ?_
        refine go2_batch [2] (ans := [.val (.int .i64 e1.Task)]) (vs := [(81, .int .i64 e1.Task)]) (l := [.loaded ⟨b3, 0, none⟩ (.int .i64 e1.Task)]) (by kernel_rfl) ⟨hS54.cell 1 rfl rfl, trivial⟩ (mem_one (by kernel_rfl)) ?_
        refine go2_batch [3] (ans := []) (vs := [(82, .pointer (some ⟨b3, 1, none⟩))]) (l := []) (by kernel_rfl) trivial mem_nil ?_
        refine go2_batch [4] (ans := [.val (.int .i64 e1.At)]) (vs := [(83, .int .i64 e1.At)]) (l := [.loaded ⟨b3, 1, none⟩ (.int .i64 e1.At)]) (by kernel_rfl) ⟨hS54.cell 1 rfl rfl, trivial⟩ (mem_one (by kernel_rfl)) ?_
        refine go2_batch [5, 6] (ans := []) (vs := [(85, .int .i64 (i1 : Int)), (84, .slice A2 l2.length c2)]) (l := []) (by kernel_rfl) trivial mem_nil ?_
        rcases hx9 : l2[i1]? with _ | e5
        · rw [hx9] at h; cases h
        rw [hx9] at h
        simp only [] at h
        refine go2_index (d := 86) (ty := 0) (t := 24) (el := 3) (sz := 1) (m := l2.length) (c := c2) (x := (.tmp 84)) (y := (.tmp 85)) (A := A2) (k' := .i64) (j := (i1 : Int)) (jn := i1) (b0 := blkOf A2) (o0 := offOf A2) (by kernel_rfl) (by kernel_rfl) (by kernel_rfl) (by kernel_rfl) (by kernel_rfl) ((hS54.rd hR2).eqSome (pos_of_get hx9)) rfl (lt_of_get hx9) ?_
        refine go2_batch [8] (ans := [.val (.int .i64 e5)]) (vs := [(87, .int .i64 e5)]) (l := [.loaded ⟨blkOf A2, offOf A2 + i1 * 1, none⟩ (.int .i64 e5)]) (by kernel_rfl) ⟨RdL.cell (j := 0) (hS54.rd hR2) hx9 rfl, trivial⟩ (mem_one (by kernel_rfl)) ?_
        refine go2_batch [9, 10, 11] (ans := []) (vs := [(90, .int .i64 (i1 : Int)), (89, .slice A3 l3.length c3), (88, .int .i64 (IntKind.i64.wrap (e1.At + e5)))]) (l := []) (by kernel_rfl) trivial mem_nil ?_
        rcases hx10 : l3[i1]? with _ | e6
        · rw [hx10] at h; cases h
        rw [hx10] at h
        simp only [] at h
        refine go2_index (d := 91) (ty := 0) (t := 24) (el := 3) (sz := 1) (m := l3.length) (c := c3) (x := (.tmp 89)) (y := (.tmp 90)) (A := A3) (k' := .i64) (j := (i1 : Int)) (jn := i1) (b0 := blkOf A3) (o0 := offOf A3) (by kernel_rfl) (by kernel_rfl) (by kernel_rfl) (by kernel_rfl) (by kernel_rfl) ((hS54.rd hR3).eqSome (pos_of_get hx10)) rfl (lt_of_get hx10) ?_
        refine go2_batch [13] (ans := [.val (.int .i64 e6)]) (vs := [(92, .int .i64 e6)]) (l := [.loaded ⟨blkOf A3, offOf A3 + i1 * 1, none⟩ (.int .i64 e6)]) (by kernel_rfl) ⟨RdL.cell (j := 0) (hS54.rd hR3) hx10 rfl, trivial⟩ (mem_one (by kernel_rfl)) ?_
        refine go2_batch [14] (ans := []) (vs := [(93, .pointer (some ⟨b3, 1, none⟩))]) (l := []) (by kernel_rfl) trivial mem_nil ?_
        refine go2_batch [15] (ans := [.val (.int .i64 e1.At)]) (vs := [(94, .int .i64 e1.At)]) (l := [.loaded ⟨b3, 1, none⟩ (.int .i64 e1.At)]) (by kernel_rfl) ⟨hS54.cell 1 rfl rfl, trivial⟩ (mem_one (by kernel_rfl)) ?_
        refine go2_batch [16] (ans := []) (vs := [(95, .pointer (some ⟨b4, 3, none⟩))]) (l := []) (by kernel_rfl) trivial mem_nil ?_
        refine go2_batch [17] (ans := [.val (.int .i64 e2.D)]) (vs := [(96, .int .i64 e2.D)]) (l := [.loaded ⟨b4, 3, none⟩ (.int .i64 e2.D)]) (by kernel_rfl) ⟨hS54.cell 0 rfl rfl, trivial⟩ (mem_one (by kernel_rfl)) ?_
        refine go2_batch [18, 19] (ans := []) (vs := [(98, .pointer (some ⟨b4, 6, none⟩)), (97, .int .i64 (IntKind.i64.wrap (e1.At + e2.D)))]) (l := []) (by kernel_rfl) trivial mem_nil ?_
        refine go2_batch [20] (ans := [.val (.int .i64 e2.P)]) (vs := [(99, .int .i64 e2.P)]) (l := [.loaded ⟨b4, 6, none⟩ (.int .i64 e2.P)]) (by kernel_rfl) ⟨hS54.cell 0 rfl rfl, trivial⟩ (mem_one (by kernel_rfl)) ?_
        refine go2_batch [21] (ans := []) (vs := [(100, .agg #[.int .i64 e1.Task, .int .i64 (IntKind.i64.wrap (e1.At + e5)), .int .i64 e6, .int .i64 (IntKind.i64.wrap (e1.At + e2.D)), .int .i64 e2.P])]) (l := []) (by kernel_rfl) trivial mem_nil ?_
        refine go_alt2 (fun KK hKK => ?_) ?_
        · refine ge_one2 ?_
          refine ge_new (d := some 101) (o := .cells #[.int .i64 e1.Task, .int .i64 (IntKind.i64.wrap (e1.At + e5)), .int .i64 e6, .int .i64 (IntKind.i64.wrap (e1.At + e2.D)), .int .i64 e2.P] 88) (v := fun b => .slice (some ⟨b, 0, none⟩) 1 1) hS54 (fun b => by kernel_rfl) fun b5 w17 hx11 hS55 => ?_
          refine ge_nil fun a hF => hKK _ _ (RS.of2 (l := [.loaded ⟨b3, 0, none⟩ (.int .i64 e1.Task), .loaded ⟨b3, 1, none⟩ (.int .i64 e1.At), .loaded ⟨blkOf A2, offOf A2 + i1 * 1, none⟩ (.int .i64 e5), .loaded ⟨blkOf A3, offOf A3 + i1 * 1, none⟩ (.int .i64 e6), .loaded ⟨b3, 1, none⟩ (.int .i64 e1.At), .loaded ⟨b4, 3, none⟩ (.int .i64 e2.D), .loaded ⟨b4, 6, none⟩ (.int .i64 e2.P)]) (by kernel_rfl) ⟨hS54.cell 1 rfl rfl, hS54.cell 1 rfl rfl, RdL.cell (j := 0) (hS54.rd hR2) hx9 rfl, RdL.cell (j := 0) (hS54.rd hR3) hx10 rfl, hS54.cell 1 rfl rfl, hS54.cell 0 rfl rfl, hS54.cell 0 rfl rfl, trivial⟩ ⟨hS55.cell 2 rfl rfl, hS55.cell 2 rfl rfl, RdL.cell (j := 0) (hS55.rd hR2) hx9 rfl, RdL.cell (j := 0) (hS55.rd hR3) hx10 rfl, hS55.cell 2 rfl rfl, hS55.cell 1 rfl rfl, hS55.cell 1 rfl rfl, trivial⟩) ?_ a hF
          refine go_alt2 (fun KK hKK => ?_) ?_
          · have hS56 := hS55.bring 4 rfl
            by_cases hc10 : m1.length < 3518437208883
            · rw [if_pos hc10] at h
              refine ge_append (α := SJob) (m := 0) (d := 102) (t := 74) (el := 88) (bytes := 40) (c1 := 1) (b1 := b5) (x := (.tmp 79)) (y := (.tmp 101)) (ty := 74) (v := (.slice Z1 m1.length cz1)) (z := .agg #[.int .i64 0, .int .i64 0, .int .i64 0, .int .i64 0, .int .i64 0]) (l := m1) (u := (⟨e1.Task, IntKind.i64.wrap (e1.At + e5), e6, IntKind.i64.wrap (e1.At + e2.D), e2.P⟩ : SJob)) (by kernel_rfl) (by kernel_rfl) (by kernel_rfl) (by kernel_rfl) (by kernel_rfl) rfl hS56 rfl (by omega) fun v3 w18 hS57 => ?_
              refine ge_nil fun a hF => hKK _ _ (RS.of2 (l := [.loaded ⟨b3, 0, none⟩ (.int .i64 e1.Task), .loaded ⟨b3, 1, none⟩ (.int .i64 e1.At), .loaded ⟨blkOf A2, offOf A2 + i1 * 1, none⟩ (.int .i64 e5), .loaded ⟨blkOf A3, offOf A3 + i1 * 1, none⟩ (.int .i64 e6), .loaded ⟨b3, 1, none⟩ (.int .i64 e1.At), .loaded ⟨b4, 3, none⟩ (.int .i64 e2.D), .loaded ⟨b4, 6, none⟩ (.int .i64 e2.P)]) (by kernel_rfl) ⟨hS55.cell 2 rfl rfl, hS55.cell 2 rfl rfl, RdL.cell (j := 0) (hS55.rd hR2) hx9 rfl, RdL.cell (j := 0) (hS55.rd hR3) hx10 rfl, hS55.cell 2 rfl rfl, hS55.cell 1 rfl rfl, hS55.cell 1 rfl rfl, trivial⟩ ⟨hS57.cell 2 rfl rfl, hS57.cell 2 rfl rfl, RdL.cell (j := 0) (hS57.rd hR2) hx9 rfl, RdL.cell (j := 0) (hS57.rd hR3) hx10 rfl, hS57.cell 2 rfl rfl, hS57.cell 1 rfl rfl, hS57.cell 1 rfl rfl, trivial⟩) ?_ a hF
              refine go2_batch [24] (ans := []) (vs := [(11, v3)]) (l := []) (by kernel_rfl) trivial mem_nil ?_
              refine go_fin2 fun a hF => hK14 _ _ ?_ a hF
              refine we_region [(0, 0), (1, 0)] rfl ?_
              refine ge_addn (d := 103) (ty := 3) (x := (.tmp 37)) (y := (.const (.int .i64 1))) (t := 3) (t2 := 3) (k := .i64) (m := i1) (by kernel_rfl) (by kernel_rfl) (by kernel_rfl) (by have h0 := hR1.small; omega) ?_
              refine ge_batch [1] (ans := []) (vs := [(37, .int .i64 ((i1 + 1 : Nat) : Int))]) (l := []) (by kernel_rfl) trivial ?_
              have hS58 := hS57.bring 3 rfl
              have hS59 := hS58.takeN 2
              obtain rfl := Option.some.inj h
              exact ge_nil fun a hF => hQ _ _ _ (Outs.again ⟨v3, hS59, hF.weaken ⟨by kernel_rfl, by kernel_rfl, by kernel_rfl, by kernel_rfl, by kernel_rfl, by kernel_rfl, by kernel_rfl, by kernel_rfl, trivial⟩⟩)
            · rw [if_neg hc10] at h
              cases h
          exact go_nomore2
        exact go_nomore2
      · rw [hq3] at h
        simp only [] at h
        refine we_keep (e' := [(0, .slice A0 l0.length c0), (2, .slice A2 l2.length c2), (3, .slice A3 l3.length c3), (9, .pointer (some ⟨b1, 0, none⟩)), (11, (.slice Z1 m1.length cz1)), (12, .int .i64 (i1 : Int)), (13, .pointer (some ⟨b3, 0, none⟩)), (14, .pointer (some ⟨b4, 0, none⟩)), (35, .slice A1 l1.length c1), (36, .int .i64 (l1.length : Int)), (37, .int .i64 (i1 : Int)), (38, .bool true), (39, .int .i64 (i1 : Int)), (40, .pointer (some ⟨blkOf A1, offOf A1 + i1 * 2, none⟩)), (41, .agg #[.int .i64 e1.Task, .int .i64 e1.At]), (42, .slice A0 l0.length c0), (43, .pointer (some ⟨b3, 0, none⟩)), (44, .int .i64 e1.Task), (45, .pointer (some ⟨blkOf A0, offOf A0 + (e1.Task).toNat * 7, none⟩)), (46, .agg #[.string e2.Name, .int .i64 e2.C, .int .i64 e2.T, .int .i64 e2.D, .int .i64 e2.J, .int .i64 e2.O, .int .i64 e2.P])]) ⟨by kernel_rfl, by kernel_rfl, by kernel_rfl, by kernel_rfl, by kernel_rfl, by kernel_rfl, by kernel_rfl, by kernel_rfl, by kernel_rfl, by kernel_rfl, by kernel_rfl, by kernel_rfl, by kernel_rfl, by kernel_rfl, by kernel_rfl, by kernel_rfl, by kernel_rfl, by kernel_rfl, by kernel_rfl, by kernel_rfl, trivial⟩ (tasks_Jobs_p2 K w0 l0 A0 c0 l1 A1 c1 l2 A2 c2 l3 A3 c3 hR0 hL0 hR1 hL1 hR2 hL2 hR3 hL3 b1 r1 b2 hc1 m1 i1 hc4 e1 hx3 b3 hc5 e2 hx5 b4 Z1 cz1 _ hq3 _ hS27 _ ?_)
        rintro _ a w1 ⟨_, rfl, hb⟩
        obtain rfl := Option.some.inj h
        exact hQ _ _ _ (Outs.out nofun (Exits.on ⟨rfl, hb⟩))
    · rw [if_neg hc5] at h
      cases h
  · rw [if_neg hc4] at h
    refine we_known (t := 38) (b := decide ((i1 : Int) < (l1.length : Int))) (v := false) (by kernel_rfl) (decide_eq_false hc4) ?_
    refine we_false (by kernel_rfl) ?_
    have hS60 := hS.bring 1 rfl
    have hS61 := hS60.bring 1 rfl
    obtain rfl := Option.some.inj h
    exact we_exit fun a hF => hQ _ _ _ (Outs.out nofun (Exits.here ⟨v1, hS61, hF.weaken ⟨by kernel_rfl, by kernel_rfl, trivial⟩⟩))
theorem tasks_Jobs_ok (K : Nat) (l0 : List STask) (A0 : Option Addr) (c0 : Nat) (l1 : List SCome) (A1 : Option Addr) (c1 : Nat) (l2 : List Int) (A2 : Option Addr) (c2 : Nat) (l3 : List Int) (A3 : Option Addr) (c3 : Nat) (w0 : World) (hR0 : RdL w0 A0 l0) (hL0 : l0.length ≤ c0) (hR1 : RdL w0 A1 l1) (hL1 : l1.length ≤ c1) (hR2 : RdL w0 A2 l2) (hL2 : l2.length ≤ c2) (hR3 : RdL w0 A3 l3) (hL3 : l3.length ≤ c3) (r : (List SJob) × SFault) (h : tasks_Jobs.f K l0 l1 l2 l3 = some r) :
    Calls Try.prog 27 #[.slice A0 l0.length c0, .slice A1 l1.length c1, .slice A2 l2.length c2, .slice A3 l3.length c3] w0 (tasks_Jobs.Post w0 r) := by
  have hS := St.start w0
  unfold tasks_Jobs.f at h
  refine calls_enter (n := 106) (args := [.slice A0 l0.length c0, .slice A1 l1.length c1, .slice A2 l2.length c2, .slice A3 l3.length c3]) (fn := Try.f27) rfl rfl rfl rfl ?_
  show WE _ _ _ _ [(0, .slice A0 l0.length c0), (1, .slice A1 l1.length c1), (2, .slice A2 l2.length c2), (3, .slice A3 l3.length c3)] _
  refine we_seq fun K1 hK1 => ?_
  refine we_region [(0, 0), (1, 1)] rfl ?_
  refine ge_batch [0] (ans := []) (vs := [(8, .slice none 0 0)]) (l := []) (by kernel_rfl) trivial ?_
  refine ge_new (d := some 9) (o := .cells #[.int .i64 0, .int .i64 0] 29) (v := fun b => .pointer (some ⟨b, 0, none⟩)) hS (fun b => by kernel_rfl) fun b1 w1 hx1 hS1 => ?_
  refine ge_nil fun a hF => hK1 _ _ ?_ a hF
  refine we_seq fun K2 hK2 => ?_
  refine we_seq fun K3 hK3 => ?_
  refine we_region [(0, 0), (1, 0), (2, 1), (3, 1), (4, 2)] rfl ?_
  rcases hq1 : tasks_Legal.f K l0 l1 with _ | r1
  · rw [hq1] at h; cases h
  rw [hq1] at h
  simp only [] at h
  refine ge_batch [0, 1] (ans := []) (vs := [(16, .slice A1 l1.length c1), (15, .slice A0 l0.length c0)]) (l := []) (by kernel_rfl) trivial ?_
  refine ge_call (d := some 17) (f := 52) (args := #[.slice A0 l0.length c0, .slice A1 l1.length c1]) (by kernel_rfl) (tasks_Legal_ok K l0 A0 c0 l1 A1 c1 _ (hS1.rd hR0) hL0 (hS1.rd hR1) hL1 _ hq1) ?_
  rintro _ w2 ⟨rfl, hS2⟩
  refine ⟨_, rfl, hS2.below, ?_⟩
  have hS3 := hS1.call hS2
  refine ge_new (d := some 10) (o := .cells #[.int .i64 0, .int .i64 0] 29) (v := fun b => .pointer (some ⟨b, 0, none⟩)) hS3 (fun b => by kernel_rfl) fun b2 w3 hx2 hS4 => ?_
  refine ge_set (b := b2) (j := 0) (cs := #[.int .i64 0, .int .i64 0]) (t := 29) (vs := [.int .i64 r1.Code, .int .i64 r1.At]) hS4 (by kernel_rfl) rfl rfl fun w4 hS5 => ?_
  have hS6 : St w0 w4 [Own.blk b2 (.cells #[.int .i64 r1.Code, .int .i64 r1.At] 29 (0, 0)), Own.blk b1 (.cells #[.int .i64 0, .int .i64 0] 29 (0, 0))] := hS5
  refine ge_nil fun a hF => hK3 _ _ ?_ a hF
  refine we_seq fun K4 hK4 => ?_
  refine we_region [(0, 0), (1, 0), (2, 0)] rfl ?_
  refine ge_batch [0, 1, 2] (ans := [.val (.int .i64 r1.Code)]) (vs := [(20, .bool (r1.Code != 0)), (19, .int .i64 r1.Code), (18, .pointer (some ⟨b2, 0, none⟩))]) (l := [.loaded ⟨b2, 0, none⟩ (.int .i64 r1.Code)]) (by kernel_rfl) ⟨hS6.cell 0 rfl rfl, trivial⟩ ?_
  refine ge_nil fun a hF => hK4 _ _ ?_ a hF
  by_cases hc1 : r1.Code = 0
  · rw [if_pos hc1] at h
    refine we_known (t := 20) (b := (r1.Code != 0)) (v := false) (by kernel_rfl) (bne_eq_false_iff_eq.2 hc1) ?_
    refine we_false (by kernel_rfl) ?_
    refine we_skip fun a hF => hK2 _ _ ?_ a hF
    refine we_seq fun K5 hK5 => ?_
    rcases hq2 : tasks_Jobs.p0 l1 l2 l3 with _ | (_ | rr3)
    · rw [hq2] at h; cases h
    · rw [hq2] at h
      simp only [] at h
      refine we_keep (e' := [(0, .slice A0 l0.length c0), (1, .slice A1 l1.length c1), (2, .slice A2 l2.length c2), (3, .slice A3 l3.length c3), (8, .slice none 0 0), (9, .pointer (some ⟨b1, 0, none⟩)), (10, .pointer (some ⟨b2, 0, none⟩)), (15, .slice A0 l0.length c0), (16, .slice A1 l1.length c1), (17, .agg #[.int .i64 r1.Code, .int .i64 r1.At]), (18, .pointer (some ⟨b2, 0, none⟩)), (19, .int .i64 r1.Code), (20, .bool false)]) ⟨by kernel_rfl, by kernel_rfl, by kernel_rfl, by kernel_rfl, by kernel_rfl, by kernel_rfl, by kernel_rfl, by kernel_rfl, by kernel_rfl, by kernel_rfl, by kernel_rfl, by kernel_rfl, by kernel_rfl, trivial⟩ (tasks_Jobs_p0 K w0 l0 A0 c0 l1 A1 c1 l2 A2 c2 l3 A3 c3 hR0 hL0 hR1 hL1 hR2 hL2 hR3 hL3 b1 r1 b2 hc1 _ hq2 _ hS6 _ ?_)
      rintro _ a w7 ⟨rfl, hS19, hF⟩
      replace hS19 : St w0 w7 [Own.blk b1 (.cells #[.int .i64 0, .int .i64 0] 29 (0, 0))] := hS19
      refine hK5 [(0, .slice A0 l0.length c0), (1, .slice A1 l1.length c1), (2, .slice A2 l2.length c2), (3, .slice A3 l3.length c3), (9, .pointer (some ⟨b1, 0, none⟩))] w7 ?_ a hF
      refine we_seq fun K9 hK9 => ?_
      refine we_region [(0, 0)] rfl ?_
      refine ge_batch [0] (ans := []) (vs := [(11, .slice none 0 0)]) (l := []) (by kernel_rfl) trivial ?_
      refine ge_nil fun a hF => hK9 _ _ ?_ a hF
      refine we_seq fun K10 hK10 => ?_
      refine we_seq fun K11 hK11 => ?_
      refine we_region [(0, 0), (1, 0), (2, 0)] rfl ?_
      refine ge_batch [0, 1, 2] (ans := []) (vs := [(37, .int .i64 0), (36, .int .i64 (l1.length : Int)), (35, .slice A1 l1.length c1)]) (l := []) (by kernel_rfl) trivial ?_
      refine ge_nil fun a hF => hK11 _ _ ?_ a hF
      refine we_block ?_
      have hS20 := hS19.nil (α := SJob) 88
      have hS21 := hS20.bring 1 rfl
      rcases hq4 : iter (tasks_Jobs.r1 l0 l1 l2 l3) K (([] : List SJob), 0) with _ | (m3 | rr2)
      · rw [hq4] at h; cases h
      · rw [hq4] at h
        simp only [] at h
        refine we_iter (A := tasks_Jobs.A1 K w0 l0 A0 c0 l1 A1 c1 l2 A2 c2 l3 A3 c3 hR0 hL0 hR1 hL1 hR2 hL2 hR3 hL3 b1 r1 b2 hc1) (B := tasks_Jobs.B1 K w0 l0 A0 c0 l1 A1 c1 l2 A2 c2 l3 A3 c3 hR0 hL0 hR1 hL1 hR2 hL2 hR3 hL3 b1 r1 b2 hc1) hq4 (fun a hF => ⟨(.slice none 0 0), hS21, hF.weaken ⟨by kernel_rfl, by kernel_rfl, by kernel_rfl, by kernel_rfl, by kernel_rfl, by kernel_rfl, by kernel_rfl, by kernel_rfl, trivial⟩⟩) (fun s o hf a w hA Q hQ => tasks_Jobs_r1 K w0 l0 A0 c0 l1 A1 c1 l2 A2 c2 l3 A3 c3 hR0 hL0 hR1 hL1 hR2 hL2 hR3 hL3 b1 r1 b2 hc1 s o hf a w hA Q hQ) ?_
        rintro _ a w19 _ ⟨rfl, v4, hS62, hF⟩
        replace hS62 : St w0 w19 [Own.blk b1 (.cells #[.int .i64 0, .int .i64 0] 29 (0, 0)), Own.of v4 88 m3] := hS62
        refine hK10 [(9, .pointer (some ⟨b1, 0, none⟩)), (11, v4)] w19 ?_ a hF
        refine we_seq fun K23 hK23 => ?_
        refine we_region [(0, 0), (1, 0), (2, 0), (3, 2)] rfl ?_
        refine ge_batch [0, 1, 2] (ans := []) (vs := [(8, v4), (105, .agg #[.int .i64 0, .int .i64 0]), (104, v4)]) (l := []) (by kernel_rfl) trivial ?_
        refine ge_set (b := b1) (j := 0) (cs := #[.int .i64 0, .int .i64 0]) (t := 29) (vs := [.int .i64 0, .int .i64 0]) hS62 (by kernel_rfl) rfl rfl fun w20 hS63 => ?_
        have hS64 : St w0 w20 [Own.blk b1 (.cells #[.int .i64 0, .int .i64 0] 29 (0, 0)), Own.of v4 88 m3] := hS63
        refine ge_nil fun a hF => hK23 _ _ ?_ a hF
        have hS65 := hS64.bring 1 rfl
        have hS66 := hS65.takeN 1
        obtain rfl := Option.some.inj h
        exact we_ret (post_ret (rs := [.tmp 8, .cell 9 29]) (ans := [.val (.int .i64 0), .val (.int .i64 0)]) (vs := [v4, .agg #[.int .i64 0, .int .i64 0]]) (l := [.loaded ⟨b1, 0, none⟩ (.int .i64 0), .loaded ⟨b1, 1, none⟩ (.int .i64 0)]) rfl (by kernel_rfl) ⟨hS64.cell 0 rfl rfl, hS64.cell 0 rfl rfl, trivial⟩ ⟨v4, rfl, hS66⟩)
      · rw [hq4] at h
        simp only [] at h
        refine we_iter (A := tasks_Jobs.A1 K w0 l0 A0 c0 l1 A1 c1 l2 A2 c2 l3 A3 c3 hR0 hL0 hR1 hL1 hR2 hL2 hR3 hL3 b1 r1 b2 hc1) (B := tasks_Jobs.B1 K w0 l0 A0 c0 l1 A1 c1 l2 A2 c2 l3 A3 c3 hR0 hL0 hR1 hL1 hR2 hL2 hR3 hL3 b1 r1 b2 hc1) hq4 (fun a hF => ⟨(.slice none 0 0), hS21, hF.weaken ⟨by kernel_rfl, by kernel_rfl, by kernel_rfl, by kernel_rfl, by kernel_rfl, by kernel_rfl, by kernel_rfl, by kernel_rfl, trivial⟩⟩) (fun s o hf a w hA Q hQ => tasks_Jobs_r1 K w0 l0 A0 c0 l1 A1 c1 l2 A2 c2 l3 A3 c3 hR0 hL0 hR1 hL1 hR2 hL2 hR3 hL3 b1 r1 b2 hc1 s o hf a w hA Q hQ) ?_
        rintro _ a w1 _ ⟨rfl, hb⟩
        obtain rfl := Option.some.inj h
        exact hb
    · rw [hq2] at h
      simp only [] at h
      refine we_keep (e' := [(0, .slice A0 l0.length c0), (1, .slice A1 l1.length c1), (2, .slice A2 l2.length c2), (3, .slice A3 l3.length c3), (8, .slice none 0 0), (9, .pointer (some ⟨b1, 0, none⟩)), (10, .pointer (some ⟨b2, 0, none⟩)), (15, .slice A0 l0.length c0), (16, .slice A1 l1.length c1), (17, .agg #[.int .i64 r1.Code, .int .i64 r1.At]), (18, .pointer (some ⟨b2, 0, none⟩)), (19, .int .i64 r1.Code), (20, .bool false)]) ⟨by kernel_rfl, by kernel_rfl, by kernel_rfl, by kernel_rfl, by kernel_rfl, by kernel_rfl, by kernel_rfl, by kernel_rfl, by kernel_rfl, by kernel_rfl, by kernel_rfl, by kernel_rfl, by kernel_rfl, trivial⟩ (tasks_Jobs_p0 K w0 l0 A0 c0 l1 A1 c1 l2 A2 c2 l3 A3 c3 hR0 hL0 hR1 hL1 hR2 hL2 hR3 hL3 b1 r1 b2 hc1 _ hq2 _ hS6 _ ?_)
      rintro _ a w1 ⟨_, rfl, hb⟩
      obtain rfl := Option.some.inj h
      exact hb
  · rw [if_neg hc1] at h
    refine we_known (t := 20) (b := (r1.Code != 0)) (v := true) (by kernel_rfl) (bne_iff_ne.2 hc1) ?_
    refine we_true (by kernel_rfl) ?_
    refine we_seq fun K24 hK24 => ?_
    refine we_draws (by kernel_rfl) [(0, 0), (1, 0), (2, 2)] (by kernel_rfl) ?_
    have hS67 := hS6.drew
    refine ge_batch [0, 1] (ans := [.val (.int .i64 r1.Code), .val (.int .i64 r1.At)]) (vs := [(8, .slice none 0 0), (21, .agg #[.int .i64 r1.Code, .int .i64 r1.At])]) (l := [.loaded ⟨b2, 0, none⟩ (.int .i64 r1.Code), .loaded ⟨b2, 1, none⟩ (.int .i64 r1.At)]) (by kernel_rfl) ⟨hS67.cell 0 rfl rfl, hS67.cell 0 rfl rfl, trivial⟩ ?_
    have hS68 := hS67.bring 1 rfl
    refine ge_set (b := b1) (j := 0) (cs := #[.int .i64 0, .int .i64 0]) (t := 29) (vs := [.int .i64 r1.Code, .int .i64 r1.At]) hS68 (by kernel_rfl) rfl rfl fun w21 hS69 => ?_
    have hS70 : St w0 w21 [Own.blk b1 (.cells #[.int .i64 r1.Code, .int .i64 r1.At] 29 (0, 0)), Own.blk b2 (.cells #[.int .i64 r1.Code, .int .i64 r1.At] 29 (0, 0))] := hS69
    refine ge_nil fun a hF => hK24 _ _ ?_ a hF
    have hS71 := hS70.nil (α := SJob) 88
    have hS72 := hS71.takeN 1
    obtain rfl := Option.some.inj h
    exact we_ret (post_ret (rs := [.tmp 8, .cell 9 29]) (ans := [.val (.int .i64 r1.Code), .val (.int .i64 r1.At)]) (vs := [(.slice none 0 0), .agg #[.int .i64 r1.Code, .int .i64 r1.At]]) (l := [.loaded ⟨b1, 0, none⟩ (.int .i64 r1.Code), .loaded ⟨b1, 1, none⟩ (.int .i64 r1.At)]) rfl (by kernel_rfl) ⟨hS71.cell 1 rfl rfl, hS71.cell 1 rfl rfl, trivial⟩ ⟨(.slice none 0 0), rfl, hS72⟩)

/-! punctual/punctuallaw.lasts -/
abbrev lasts.Post (w0 : World) (r : Int) (e : Ending) (w : World) : Prop := e = .returned (.int .i64 r) ∧ St w0 w []
def lasts.r0 (l0 : List STask) (l1 : List SCome) : Int × Nat → Option ((Int × Nat) ⊕ (Int ⊕ Int))
  | (z1, i1) =>
    if (i1 : Int) < (l1.length : Int) then
      match l1[i1]? with
      | none => none
      | some e1 =>
        if 0 ≤ e1.Task then
          match l0[(e1.Task).toNat]? with
          | none => none
          | some e2 =>
            some (.inl (gmax z1 (IntKind.i64.wrap (e1.At + e2.D)), (i1 + 1)))
        else
          none
    else
      some (.inr (.inl z1))
def lasts.f (K : Nat) (l0 : List STask) (l1 : List SCome) : Option Int :=
  match iter (lasts.r0 l0 l1) K (0, 0) with
  | none => none
  | some (.inl z3) =>
    if z3 > 3000 then
      some (-1)
    else
      if (l1.length : Int) > 300 then
        some (-1)
      else
        some z3
  | some (.inr rr1) =>
    some rr1
abbrev lasts.A0 (K : Nat) (w0 : World) (l0 : List STask) (A0 : Option Addr) (c0 : Nat) (l1 : List SCome) (A1 : Option Addr) (c1 : Nat) (hR0 : RdL w0 A0 l0) (hL0 : l0.length ≤ c0) (hR1 : RdL w0 A1 l1) (hL1 : l1.length ≤ c1) : (Int × Nat) → Act → World → Prop := fun (s : Int × Nat) a w => St w0 w [] ∧ Frm 34 a [(0, .slice A0 l0.length c0), (1, .slice A1 l1.length c1), (5, .int .i64 s.1), (8, .slice A1 l1.length c1), (9, .int .i64 (l1.length : Int)), (10, .int .i64 (s.2 : Int))]
abbrev lasts.B0 (K : Nat) (w0 : World) (l0 : List STask) (A0 : Option Addr) (c0 : Nat) (l1 : List SCome) (A1 : Option Addr) (c1 : Nat) (hR0 : RdL w0 A0 l0) (hL0 : l0.length ≤ c0) (hR1 : RdL w0 A1 l1) (hL1 : l1.length ≤ c1) : (Int ⊕ Int) → Exit → Act → World → Prop := Exits 0 (fun (s : Int) a w => St w0 w [] ∧ Frm 34 a [(1, .slice A1 l1.length c1), (5, .int .i64 s)]) (Rets Try.prog Try.f28 (lasts.Post w0))
theorem lasts_r0 (K : Nat) (w0 : World) (l0 : List STask) (A0 : Option Addr) (c0 : Nat) (l1 : List SCome) (A1 : Option Addr) (c1 : Nat) (hR0 : RdL w0 A0 l0) (hL0 : l0.length ≤ c0) (hR1 : RdL w0 A1 l1) (hL1 : l1.length ≤ c1) (s : Int × Nat) (o : (Int × Nat) ⊕ (Int ⊕ Int)) (h : lasts.r0 l0 l1 s = some o) (a : Act) (w : World) (hA : lasts.A0 K w0 l0 A0 c0 l1 A1 c1 hR0 hL0 hR1 hL1 s a w) (Q : Exit → Act → World → Prop) (hQ : ∀ x a w, Outs (lasts.A0 K w0 l0 A0 c0 l1 A1 c1 hR0 hL0 hR1 hL1) (lasts.B0 K w0 l0 A0 c0 l1 A1 c1 hR0 hL0 hR1 hL1) o x a w → Q x a w) : (subF Try.f28 [1, 1, 0, 1, 0, 0]).wp Try.prog Q a w := by
  obtain ⟨z1, i1⟩ := s
  obtain ⟨hS, hF⟩ := hA
  replace hS : St w0 w [] := hS
  simp only [lasts.r0] at h
  refine (?_ : WE Try.prog 34 (subF Try.f28 [1, 1, 0, 1, 0, 0]) Q [(0, .slice A0 l0.length c0), (1, .slice A1 l1.length c1), (5, .int .i64 z1), (8, .slice A1 l1.length c1), (9, .int .i64 (l1.length : Int)), (10, .int .i64 (i1 : Int))] w) a hF
  clear hF a
  refine we_seq fun K5 hK5 => ?_
  refine we_region [(0, 0)] rfl ?_
  refine ge_batch [0] (ans := []) (vs := [(11, .bool (decide ((i1 : Int) < (l1.length : Int))))]) (l := []) (by kernel_rfl) trivial ?_
  refine ge_nil fun a hF => hK5 _ _ ?_ a hF
  refine we_seq fun K6 hK6 => ?_
  by_cases hc1 : (i1 : Int) < (l1.length : Int)
  · rw [if_pos hc1] at h
    refine we_known (t := 11) (b := decide ((i1 : Int) < (l1.length : Int))) (v := true) (by kernel_rfl) (decide_eq_true hc1) ?_
    refine we_true (by kernel_rfl) ?_
    refine we_skip fun a hF => hK6 _ _ ?_ a hF
    refine we_seq fun K7 hK7 => ?_
    refine we_block ?_
    refine we_seq fun K8 hK8 => ?_
    refine we_region [(0, 0), (1, 0), (2, 1), (3, 2)] rfl ?_
    rcases hx1 : l1[i1]? with _ | e1
    · rw [hx1] at h; cases h
    rw [hx1] at h
    simp only [] at h
    refine ge_index (d := 12) (ty := 0) (t := 23) (el := 33) (sz := 2) (m := l1.length) (c := c1) (x := (.tmp 8)) (y := (.tmp 10)) (A := A1) (k' := .i64) (j := (i1 : Int)) (jn := i1) (b0 := blkOf A1) (o0 := offOf A1) (by kernel_rfl) (by kernel_rfl) (by kernel_rfl) (by kernel_rfl) (by kernel_rfl) ((hS.rd hR1).eqSome (pos_of_get hx1)) rfl (lt_of_get hx1) ?_
    refine ge_batch [1] (ans := [.val (.int .i64 e1.Task), .val (.int .i64 e1.At)]) (vs := [(13, .agg #[.int .i64 e1.Task, .int .i64 e1.At])]) (l := [.loaded ⟨blkOf A1, offOf A1 + i1 * 2, none⟩ (.int .i64 e1.Task), .loaded ⟨blkOf A1, offOf A1 + i1 * 2 + 1, none⟩ (.int .i64 e1.At)]) (by kernel_rfl) ⟨RdL.cell (j := 0) (hS.rd hR1) hx1 rfl, RdL.cell (j := 1) (hS.rd hR1) hx1 rfl, trivial⟩ ?_
    refine ge_new (d := some 7) (o := .cells #[.int .i64 0, .int .i64 0] 33) (v := fun b => .pointer (some ⟨b, 0, none⟩)) hS (fun b => by kernel_rfl) fun b1 w1 hx2 hS1 => ?_
    refine ge_set (b := b1) (j := 0) (cs := #[.int .i64 0, .int .i64 0]) (t := 33) (vs := [.int .i64 e1.Task, .int .i64 e1.At]) hS1 (by kernel_rfl) rfl rfl fun w2 hS2 => ?_
    have hS3 : St w0 w2 [Own.blk b1 (.cells #[.int .i64 e1.Task, .int .i64 e1.At] 33 (0, 0))] := hS2
    refine ge_nil fun a hF => hK8 _ _ ?_ a hF
    refine we_draws (by kernel_rfl) [(0, 0), (1, 0), (2, 0), (3, 0), (4, 0), (5, 0), (6, 0), (7, 0), (8, 0), (9, 0), (10, 0), (11, 0)] (by kernel_rfl) ?_
    have hS4 := hS3.drew
    refine ge_batch [0, 1, 2, 3, 4, 5] (ans := [.val (.int .i64 e1.At), .val (.int .i64 e1.Task)]) (vs := [(19, .int .i64 e1.Task), (18, .pointer (some ⟨b1, 0, none⟩)), (17, .slice A0 l0.length c0), (16, .int .i64 e1.At), (15, .pointer (some ⟨b1, 1, none⟩)), (14, .int .i64 z1)]) (l := [.loaded ⟨b1, 1, none⟩ (.int .i64 e1.At), .loaded ⟨b1, 0, none⟩ (.int .i64 e1.Task)]) (by kernel_rfl) ⟨hS4.cell 0 rfl rfl, hS4.cell 0 rfl rfl, trivial⟩ ?_
    by_cases hc2 : 0 ≤ e1.Task
    · rw [if_pos hc2] at h
      rcases hx3 : l0[(e1.Task).toNat]? with _ | e2
      · rw [hx3] at h; cases h
      rw [hx3] at h
      simp only [] at h
      refine ge_index (d := 20) (ty := 0) (t := 73) (el := 117) (sz := 7) (m := l0.length) (c := c0) (x := (.tmp 17)) (y := (.tmp 19)) (A := A0) (k' := .i64) (j := e1.Task) (jn := ((e1.Task).toNat)) (b0 := blkOf A0) (o0 := offOf A0) (by kernel_rfl) (by kernel_rfl) (by kernel_rfl) (by kernel_rfl) (by kernel_rfl) ((hS4.rd hR0).eqSome (pos_of_get hx3)) (Int.toNat_of_nonneg hc2).symm (lt_of_get hx3) ?_
      refine ge_batch [7, 8, 9, 10, 11] (ans := [.val (.int .i64 e2.D)]) (vs := [(5, .int .i64 (gmax z1 (IntKind.i64.wrap (e1.At + e2.D)))), (24, .int .i64 (gmax z1 (IntKind.i64.wrap (e1.At + e2.D)))), (23, .int .i64 (IntKind.i64.wrap (e1.At + e2.D))), (22, .int .i64 e2.D), (21, .pointer (some ⟨blkOf A0, offOf A0 + (e1.Task).toNat * 7 + 3, none⟩))]) (l := [.loaded ⟨blkOf A0, offOf A0 + ((e1.Task).toNat) * 7 + 3, none⟩ (.int .i64 e2.D)]) (by kernel_rfl) ⟨RdL.cell (j := 3) (hS4.rd hR0) hx3 rfl, trivial⟩ ?_
      refine ge_nil fun a hF => hK7 _ _ ?_ a hF
      refine we_region [(0, 0), (1, 0)] rfl ?_
      refine ge_addn (d := 25) (ty := 3) (x := (.tmp 10)) (y := (.const (.int .i64 1))) (t := 3) (t2 := 3) (k := .i64) (m := i1) (by kernel_rfl) (by kernel_rfl) (by kernel_rfl) (by have h0 := hR1.small; omega) ?_
      refine ge_batch [1] (ans := []) (vs := [(10, .int .i64 ((i1 + 1 : Nat) : Int))]) (l := []) (by kernel_rfl) trivial ?_
      have hS5 := hS4.takeN 0
      obtain rfl := Option.some.inj h
      exact ge_nil fun a hF => hQ _ _ _ (Outs.again ⟨hS5, hF.weaken ⟨by kernel_rfl, by kernel_rfl, by kernel_rfl, by kernel_rfl, by kernel_rfl, by kernel_rfl, trivial⟩⟩)
    · rw [if_neg hc2] at h
      cases h
  · rw [if_neg hc1] at h
    refine we_known (t := 11) (b := decide ((i1 : Int) < (l1.length : Int))) (v := false) (by kernel_rfl) (decide_eq_false hc1) ?_
    refine we_false (by kernel_rfl) ?_
    obtain rfl := Option.some.inj h
    exact we_exit fun a hF => hQ _ _ _ (Outs.out nofun (Exits.here ⟨hS, hF.weaken ⟨by kernel_rfl, by kernel_rfl, trivial⟩⟩))
theorem lasts_ok (K : Nat) (l0 : List STask) (A0 : Option Addr) (c0 : Nat) (l1 : List SCome) (A1 : Option Addr) (c1 : Nat) (w0 : World) (hR0 : RdL w0 A0 l0) (hL0 : l0.length ≤ c0) (hR1 : RdL w0 A1 l1) (hL1 : l1.length ≤ c1) (r : Int) (h : lasts.f K l0 l1 = some r) :
    Calls Try.prog 28 #[.slice A0 l0.length c0, .slice A1 l1.length c1] w0 (lasts.Post w0 r) := by
  have hS := St.start w0
  unfold lasts.f at h
  refine calls_enter (n := 34) (args := [.slice A0 l0.length c0, .slice A1 l1.length c1]) (fn := Try.f28) rfl rfl rfl rfl ?_
  show WE _ _ _ _ [(0, .slice A0 l0.length c0), (1, .slice A1 l1.length c1)] _
  refine we_seq fun K1 hK1 => ?_
  refine we_region [(0, 0)] rfl ?_
  refine ge_batch [0] (ans := []) (vs := [(4, .int .i64 0)]) (l := []) (by kernel_rfl) trivial ?_
  refine ge_nil fun a hF => hK1 _ _ ?_ a hF
  refine we_seq fun K2 hK2 => ?_
  refine we_region [(0, 0)] rfl ?_
  refine ge_batch [0] (ans := []) (vs := [(5, .int .i64 0)]) (l := []) (by kernel_rfl) trivial ?_
  refine ge_nil fun a hF => hK2 _ _ ?_ a hF
  refine we_seq fun K3 hK3 => ?_
  refine we_seq fun K4 hK4 => ?_
  refine we_region [(0, 0), (1, 0), (2, 0)] rfl ?_
  refine ge_batch [0, 1, 2] (ans := []) (vs := [(10, .int .i64 0), (9, .int .i64 (l1.length : Int)), (8, .slice A1 l1.length c1)]) (l := []) (by kernel_rfl) trivial ?_
  refine ge_nil fun a hF => hK4 _ _ ?_ a hF
  refine we_block ?_
  rcases hq1 : iter (lasts.r0 l0 l1) K (0, 0) with _ | (z3 | rr1)
  · rw [hq1] at h; cases h
  · rw [hq1] at h
    simp only [] at h
    refine we_iter (A := lasts.A0 K w0 l0 A0 c0 l1 A1 c1 hR0 hL0 hR1 hL1) (B := lasts.B0 K w0 l0 A0 c0 l1 A1 c1 hR0 hL0 hR1 hL1) hq1 (fun a hF => ⟨hS, hF.weaken ⟨by kernel_rfl, by kernel_rfl, by kernel_rfl, by kernel_rfl, by kernel_rfl, by kernel_rfl, trivial⟩⟩) (fun s o hf a w hA Q hQ => lasts_r0 K w0 l0 A0 c0 l1 A1 c1 hR0 hL0 hR1 hL1 s o hf a w hA Q hQ) ?_
    rintro _ a w3 _ ⟨rfl, hS6, hF⟩
    replace hS6 : St w0 w3 [] := hS6
    refine hK3 [(1, .slice A1 l1.length c1), (5, .int .i64 z3)] w3 ?_ a hF
    refine we_seq fun K9 hK9 => ?_
    refine we_seq fun K10 hK10 => ?_
    refine we_region [(0, 0), (1, 0), (2, 0), (3, 0), (4, 0), (5, 0), (6, 0)] rfl ?_
    refine ge_batch [0, 1, 2] (ans := []) (vs := [(28, .bool (decide (z3 > 3000))), (27, .bool (decide (z3 > 3000))), (26, .int .i64 z3)]) (l := []) (by kernel_rfl) trivial ?_
    by_cases hc3 : z3 > 3000
    · rw [if_pos hc3] at h
      refine ge_known (t := 28) (b := decide (z3 > 3000)) (c := true) (by kernel_rfl) (decide_eq_true hc3) ?_
      refine ge_batch [3, 4, 5, 6] (ans := []) (vs := [(32, .bool true), (31, undef), (30, undef), (29, undef)]) (l := []) (by kernel_rfl) trivial ?_
      refine ge_nil fun a hF => hK10 _ _ ?_ a hF
      refine we_true (by kernel_rfl) ?_
      refine we_seq fun K11 hK11 => ?_
      refine we_region [(0, 0)] rfl ?_
      refine ge_batch [0] (ans := []) (vs := [(4, .int .i64 (-1))]) (l := []) (by kernel_rfl) trivial ?_
      refine ge_nil fun a hF => hK11 _ _ ?_ a hF
      obtain rfl := Option.some.inj h
      exact we_ret (post_ret (rs := [.tmp 4]) (ans := []) (vs := [.int .i64 (-1)]) (l := []) rfl (by kernel_rfl) trivial ⟨rfl, hS6⟩)
    · rw [if_neg hc3] at h
      refine ge_known (t := 28) (b := decide (z3 > 3000)) (c := false) (by kernel_rfl) (decide_eq_false hc3) ?_
      refine ge_batch [3, 4, 5, 6] (ans := []) (vs := [(32, .bool (decide ((l1.length : Int) > 300))), (31, .bool (decide ((l1.length : Int) > 300))), (30, .int .i64 (l1.length : Int)), (29, .slice A1 l1.length c1)]) (l := []) (by kernel_rfl) trivial ?_
      refine ge_nil fun a hF => hK10 _ _ ?_ a hF
      by_cases hc4 : (l1.length : Int) > 300
      · rw [if_pos hc4] at h
        refine we_known (t := 32) (b := decide ((l1.length : Int) > 300)) (v := true) (by kernel_rfl) (decide_eq_true hc4) ?_
        refine we_true (by kernel_rfl) ?_
        refine we_seq fun K12 hK12 => ?_
        refine we_region [(0, 0)] rfl ?_
        refine ge_batch [0] (ans := []) (vs := [(4, .int .i64 (-1))]) (l := []) (by kernel_rfl) trivial ?_
        refine ge_nil fun a hF => hK12 _ _ ?_ a hF
        obtain rfl := Option.some.inj h
        exact we_ret (post_ret (rs := [.tmp 4]) (ans := []) (vs := [.int .i64 (-1)]) (l := []) rfl (by kernel_rfl) trivial ⟨rfl, hS6⟩)
      · rw [if_neg hc4] at h
        refine we_known (t := 32) (b := decide ((l1.length : Int) > 300)) (v := false) (by kernel_rfl) (decide_eq_false hc4) ?_
        refine we_false (by kernel_rfl) ?_
        refine we_skip fun a hF => hK9 _ _ ?_ a hF
        refine we_seq fun K13 hK13 => ?_
        refine we_region [(0, 0), (1, 0)] rfl ?_
        refine ge_batch [0, 1] (ans := []) (vs := [(4, .int .i64 z3), (33, .int .i64 z3)]) (l := []) (by kernel_rfl) trivial ?_
        refine ge_nil fun a hF => hK13 _ _ ?_ a hF
        obtain rfl := Option.some.inj h
        exact we_ret (post_ret (rs := [.tmp 4]) (ans := []) (vs := [.int .i64 z3]) (l := []) rfl (by kernel_rfl) trivial ⟨rfl, hS6⟩)
  · rw [hq1] at h
    simp only [] at h
    refine we_iter (A := lasts.A0 K w0 l0 A0 c0 l1 A1 c1 hR0 hL0 hR1 hL1) (B := lasts.B0 K w0 l0 A0 c0 l1 A1 c1 hR0 hL0 hR1 hL1) hq1 (fun a hF => ⟨hS, hF.weaken ⟨by kernel_rfl, by kernel_rfl, by kernel_rfl, by kernel_rfl, by kernel_rfl, by kernel_rfl, trivial⟩⟩) (fun s o hf a w hA Q hQ => lasts_r0 K w0 l0 A0 c0 l1 A1 c1 hR0 hL0 hR1 hL1 s o hf a w hA Q hQ) ?_
    rintro _ a w1 _ ⟨rfl, hb⟩
    obtain rfl := Option.some.inj h
    exact hb
end Go.Proofs.Ytccfilmiboepjaa.GV
