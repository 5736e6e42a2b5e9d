/- Walks of single functions, written by a program of this work. -/
import Derived.Test.YtcogbnkioobmkaaDoorGWRedoPlays3
namespace Go.Proofs.YtcogbnkioobmkaaDoor.GV
open Go Go.RowKit
set_option linter.unusedVariables false
set_option linter.unusedSimpArgs false
set_option maxRecDepth 100000

/-! punctual/redo.Response -/
abbrev redo_Response.Post (w0 : World) (r : Int × SFault) (e : Ending) (w : World) : Prop := e = .returned (.tuple #[.int .i64 r.1, .agg #[.int .i64 r.2.Code, .int .i64 r.2.At]]) ∧ St w0 w []
def redo_Response.p0 (x2 : Int) (x3 : Int) : Option (Unit ⊕ (Int × SFault)) :=
    if x2 < 1 then
      some (.inr (0, (⟨3, 0⟩ : SFault)))
    else
      if x2 > 20000 then
        some (.inr (0, (⟨3, 0⟩ : SFault)))
      else
        if x3 < 0 then
          some (.inr (0, (⟨3, 0⟩ : SFault)))
        else
          if x3 > 10000 then
            some (.inr (0, (⟨3, 0⟩ : SFault)))
          else
            some (.inl ())
def redo_Response.r1 (l0 : List STask) (x3 : Int) (e1 : STask) : Nat × Int → Option ((Nat × Int) ⊕ (Int ⊕ (Int × SFault)))
  | (i1, z1) =>
    if (i1 : Int) < (l0.length : Int) then
      match l0[i1]? with
      | none => none
      | some e2 =>
        if e2.P ≥ e1.P then
          some (.inl ((i1 + 1), gmax z1 (redo_undone.f e2.C x3)))
        else
          some (.inl ((i1 + 1), z1))
    else
      some (.inr (.inl z1))
def redo_Response.f (K : Nat) (l0 : List STask) (x1 : Int) (x2 : Int) (x3 : Int) : Option (Int × SFault) :=
  match fixed_Response.f K l0 x1 0 with
  | none => none
  | some r1 =>
    if r1.2.Code = 0 then
      match redo_Response.p0 x2 x3 with
      | none => none
      | some (.inl _) =>
        if 0 ≤ x1 then
          match l0[(x1).toNat]? with
          | none => none
          | some e1 =>
            match iter (redo_Response.r1 l0 x3 e1) K (0, 0) with
            | none => none
            | some (.inl z3) =>
              match fixed_Settle_1.f K e1.C (IntKind.i64.wrap (e1.D - e1.J)) e1 x2 z3 l0 x1 with
              | none => none
              | some r2 =>
                if r2 = 0 then
                  some (0, (⟨13, x1⟩ : SFault))
                else
                  some (IntKind.i64.wrap (r2 + e1.J), (⟨0, 0⟩ : SFault))
            | some (.inr rr1) =>
              some rr1
        else
          none
      | some (.inr rr2) =>
        some rr2
    else
      some (0, r1.2)
abbrev redo_Response.A0 (K : Nat) (w0 : World) (l0 : List STask) (A0 : Option Addr) (c0 : Nat) (x1 : Int) (x2 : Int) (x3 : Int) (hR0 : RdL w0 A0 l0) (hL0 : l0.length ≤ c0) (b1 : Nat) (b2 : Nat) (b3 : Nat) (b4 : Nat) (r1 : Int × SFault) (b5 : Nat) (hc1 : r1.2.Code = 0) : Unit → Act → World → Prop := fun (s : Unit) a w => St w0 w [Own.blk b4 (.cells #[.int .i64 0, .int .i64 0] 39 (0, 0)), Own.blk b3 (.cells #[.int .i64 x2] 3 (0, 0)), Own.blk b2 (.cells #[.int .i64 x1] 3 (0, 0)), Own.blk b1 (.cells #[.slice A0 l0.length c0] 47 (0, 0))] ∧ Frm 82 a [(3, .int .i64 x3), (4, .pointer (some ⟨b1, 0, none⟩)), (5, .pointer (some ⟨b2, 0, none⟩)), (6, .pointer (some ⟨b3, 0, none⟩)), (9, .pointer (some ⟨b4, 0, none⟩))]
abbrev redo_Response.B0 (K : Nat) (w0 : World) (l0 : List STask) (A0 : Option Addr) (c0 : Nat) (x1 : Int) (x2 : Int) (x3 : Int) (hR0 : RdL w0 A0 l0) (hL0 : l0.length ≤ c0) (b1 : Nat) (b2 : Nat) (b3 : Nat) (b4 : Nat) (r1 : Int × SFault) (b5 : Nat) (hc1 : r1.2.Code = 0) : (Int × SFault) → Exit → Act → World → Prop := Rets Tryd.prog Tryd.f125 (redo_Response.Post w0)
theorem redo_Response_p0 (K : Nat) (w0 : World) (l0 : List STask) (A0 : Option Addr) (c0 : Nat) (x1 : Int) (x2 : Int) (x3 : Int) (hR0 : RdL w0 A0 l0) (hL0 : l0.length ≤ c0) (b1 : Nat) (b2 : Nat) (b3 : Nat) (b4 : Nat) (r1 : Int × SFault) (b5 : Nat) (hc1 : r1.2.Code = 0) (o : Unit ⊕ (Int × SFault)) (h : redo_Response.p0 x2 x3 = some o) (w : World) (hS : St w0 w [Own.blk b5 (.cells #[.int .i64 r1.2.Code, .int .i64 r1.2.At] 39 (0, 0)), Own.blk b4 (.cells #[.int .i64 0, .int .i64 0] 39 (0, 0)), Own.blk b3 (.cells #[.int .i64 x2] 3 (0, 0)), Own.blk b2 (.cells #[.int .i64 x1] 3 (0, 0)), Own.blk b1 (.cells #[.slice A0 l0.length c0] 47 (0, 0))]) (Q : Exit → Act → World → Prop) (hQ : ∀ x a w, Outs (redo_Response.A0 K w0 l0 A0 c0 x1 x2 x3 hR0 hL0 b1 b2 b3 b4 r1 b5 hc1) (redo_Response.B0 K w0 l0 A0 c0 x1 x2 x3 hR0 hL0 b1 b2 b3 b4 r1 b5 hc1) o x a w → Q x a w) : WE Tryd.prog 82 (subF Tryd.f125 [1, 1, 0]) Q [(0, .slice A0 l0.length c0), (1, .int .i64 x1), (2, .int .i64 x2), (3, .int .i64 x3), (4, .pointer (some ⟨b1, 0, none⟩)), (5, .pointer (some ⟨b2, 0, none⟩)), (6, .pointer (some ⟨b3, 0, none⟩)), (8, .int .i64 0), (9, .pointer (some ⟨b4, 0, none⟩)), (10, .int .i64 r1.1), (11, .pointer (some ⟨b5, 0, none⟩)), (17, .tuple #[.int .i64 r1.1, .agg #[.int .i64 r1.2.Code, .int .i64 r1.2.At]]), (18, .slice A0 l0.length c0), (19, .int .i64 x1), (20, .tuple #[.int .i64 r1.1, .agg #[.int .i64 r1.2.Code, .int .i64 r1.2.At]]), (21, .int .i64 r1.1), (22, .agg #[.int .i64 r1.2.Code, .int .i64 r1.2.At]), (23, .pointer (some ⟨b5, 0, none⟩)), (24, .int .i64 r1.2.Code), (25, .bool false)] w := by
  simp only [redo_Response.p0] at h
  refine we_seq fun K6 hK6 => ?_
  refine we_region [(0, 0), (1, 0), (2, 0), (3, 0), (4, 0), (5, 0), (6, 0), (7, 0), (8, 0), (9, 0), (10, 0), (11, 0), (12, 0), (13, 0)] rfl ?_
  refine ge_batch [0, 1, 2] (ans := [.val (.int .i64 x2)]) (vs := [(29, .bool (decide (x2 < 1))), (28, .bool (decide (x2 < 1))), (27, .int .i64 x2)]) (l := [.loaded ⟨b3, 0, none⟩ (.int .i64 x2)]) (by kernel_rfl) ⟨hS.cell 2 rfl rfl, trivial⟩ ?_
  by_cases hc2 : x2 < 1
  · rw [if_pos hc2] at h
    refine ge_known (t := 29) (b := decide (x2 < 1)) (c := true) (by kernel_rfl) (decide_eq_true hc2) ?_
    refine ge_batch [3, 4, 5, 6, 7, 8, 9, 10, 11, 12, 13] (ans := []) (vs := [(40, .bool true), (39, undef), (38, undef), (37, .bool true), (36, .bool true), (35, undef), (34, undef), (33, .bool true), (32, .bool true), (31, undef), (30, undef)]) (l := []) (by kernel_rfl) trivial ?_
    refine ge_nil fun a hF => hK6 _ _ ?_ a hF
    refine we_true (by kernel_rfl) ?_
    refine we_seq fun K7 hK7 => ?_
    refine we_region [(0, 0), (1, 0), (2, 2)] rfl ?_
    refine ge_batch [0, 1] (ans := []) (vs := [(8, .int .i64 0), (41, .agg #[.int .i64 3, .int .i64 0])]) (l := []) (by kernel_rfl) trivial ?_
    have hS10 := hS.bring 1 rfl
    refine ge_set (b := b4) (j := 0) (cs := #[.int .i64 0, .int .i64 0]) (t := 39) (vs := [.int .i64 3, .int .i64 0]) hS10 (by kernel_rfl) rfl rfl fun w8 hS11 => ?_
    have hS12 : St w0 w8 [Own.blk b4 (.cells #[.int .i64 3, .int .i64 0] 39 (0, 0)), Own.blk b5 (.cells #[.int .i64 r1.2.Code, .int .i64 r1.2.At] 39 (0, 0)), Own.blk b3 (.cells #[.int .i64 x2] 3 (0, 0)), Own.blk b2 (.cells #[.int .i64 x1] 3 (0, 0)), Own.blk b1 (.cells #[.slice A0 l0.length c0] 47 (0, 0))] := hS11
    refine ge_nil fun a hF => hK7 _ _ ?_ a hF
    have hS13 := hS12.takeN 0
    obtain rfl := Option.some.inj h
    exact we_ret fun a hF => hQ _ _ _ (Outs.out nofun ⟨rfl, (post_ret (rs := [.tmp 8, .cell 9 39]) (ans := [.val (.int .i64 3), .val (.int .i64 0)]) (vs := [.int .i64 0, .agg #[.int .i64 3, .int .i64 0]]) (l := [.loaded ⟨b4, 0, none⟩ (.int .i64 3), .loaded ⟨b4, 1, none⟩ (.int .i64 0)]) rfl (by kernel_rfl) ⟨hS12.cell 0 rfl rfl, hS12.cell 0 rfl rfl, trivial⟩ ⟨rfl, hS13⟩) a hF⟩)
  · rw [if_neg hc2] at h
    refine ge_known (t := 29) (b := decide (x2 < 1)) (c := false) (by kernel_rfl) (decide_eq_false hc2) ?_
    refine ge_batch [3, 4, 5, 6] (ans := [.val (.int .i64 x2)]) (vs := [(33, .bool (decide (x2 > 20000))), (32, .bool (decide (x2 > 20000))), (31, .bool (decide (x2 > 20000))), (30, .int .i64 x2)]) (l := [.loaded ⟨b3, 0, none⟩ (.int .i64 x2)]) (by kernel_rfl) ⟨hS.cell 2 rfl rfl, trivial⟩ ?_
    by_cases hc3 : x2 > 20000
    · rw [if_pos hc3] at h
      refine ge_known (t := 33) (b := decide (x2 > 20000)) (c := true) (by kernel_rfl) (decide_eq_true hc3) ?_
      refine ge_batch [7, 8, 9, 10, 11, 12, 13] (ans := []) (vs := [(40, .bool true), (39, undef), (38, undef), (37, .bool true), (36, .bool true), (35, undef), (34, undef)]) (l := []) (by kernel_rfl) trivial ?_
      refine ge_nil fun a hF => hK6 _ _ ?_ a hF
      refine we_true (by kernel_rfl) ?_
      refine we_seq fun K8 hK8 => ?_
      refine we_region [(0, 0), (1, 0), (2, 2)] rfl ?_
      refine ge_batch [0, 1] (ans := []) (vs := [(8, .int .i64 0), (41, .agg #[.int .i64 3, .int .i64 0])]) (l := []) (by kernel_rfl) trivial ?_
      have hS14 := hS.bring 1 rfl
      refine ge_set (b := b4) (j := 0) (cs := #[.int .i64 0, .int .i64 0]) (t := 39) (vs := [.int .i64 3, .int .i64 0]) hS14 (by kernel_rfl) rfl rfl fun w9 hS15 => ?_
      have hS16 : St w0 w9 [Own.blk b4 (.cells #[.int .i64 3, .int .i64 0] 39 (0, 0)), Own.blk b5 (.cells #[.int .i64 r1.2.Code, .int .i64 r1.2.At] 39 (0, 0)), Own.blk b3 (.cells #[.int .i64 x2] 3 (0, 0)), Own.blk b2 (.cells #[.int .i64 x1] 3 (0, 0)), Own.blk b1 (.cells #[.slice A0 l0.length c0] 47 (0, 0))] := hS15
      refine ge_nil fun a hF => hK8 _ _ ?_ a hF
      have hS17 := hS16.takeN 0
      obtain rfl := Option.some.inj h
      exact we_ret fun a hF => hQ _ _ _ (Outs.out nofun ⟨rfl, (post_ret (rs := [.tmp 8, .cell 9 39]) (ans := [.val (.int .i64 3), .val (.int .i64 0)]) (vs := [.int .i64 0, .agg #[.int .i64 3, .int .i64 0]]) (l := [.loaded ⟨b4, 0, none⟩ (.int .i64 3), .loaded ⟨b4, 1, none⟩ (.int .i64 0)]) rfl (by kernel_rfl) ⟨hS16.cell 0 rfl rfl, hS16.cell 0 rfl rfl, trivial⟩ ⟨rfl, hS17⟩) a hF⟩)
    · rw [if_neg hc3] at h
      refine ge_known (t := 33) (b := decide (x2 > 20000)) (c := false) (by kernel_rfl) (decide_eq_false hc3) ?_
      refine ge_batch [7, 8, 9, 10] (ans := []) (vs := [(37, .bool (decide (x3 < 0))), (36, .bool (decide (x3 < 0))), (35, .bool (decide (x3 < 0))), (34, .int .i64 x3)]) (l := []) (by kernel_rfl) trivial ?_
      by_cases hc4 : x3 < 0
      · rw [if_pos hc4] at h
        refine ge_known (t := 37) (b := decide (x3 < 0)) (c := true) (by kernel_rfl) (decide_eq_true hc4) ?_
        refine ge_batch [11, 12, 13] (ans := []) (vs := [(40, .bool true), (39, undef), (38, undef)]) (l := []) (by kernel_rfl) trivial ?_
        refine ge_nil fun a hF => hK6 _ _ ?_ a hF
        refine we_true (by kernel_rfl) ?_
        refine we_seq fun K9 hK9 => ?_
        refine we_region [(0, 0), (1, 0), (2, 2)] rfl ?_
        refine ge_batch [0, 1] (ans := []) (vs := [(8, .int .i64 0), (41, .agg #[.int .i64 3, .int .i64 0])]) (l := []) (by kernel_rfl) trivial ?_
        have hS18 := hS.bring 1 rfl
        refine ge_set (b := b4) (j := 0) (cs := #[.int .i64 0, .int .i64 0]) (t := 39) (vs := [.int .i64 3, .int .i64 0]) hS18 (by kernel_rfl) rfl rfl fun w10 hS19 => ?_
        have hS20 : St w0 w10 [Own.blk b4 (.cells #[.int .i64 3, .int .i64 0] 39 (0, 0)), Own.blk b5 (.cells #[.int .i64 r1.2.Code, .int .i64 r1.2.At] 39 (0, 0)), Own.blk b3 (.cells #[.int .i64 x2] 3 (0, 0)), Own.blk b2 (.cells #[.int .i64 x1] 3 (0, 0)), Own.blk b1 (.cells #[.slice A0 l0.length c0] 47 (0, 0))] := hS19
        refine ge_nil fun a hF => hK9 _ _ ?_ a hF
        have hS21 := hS20.takeN 0
        obtain rfl := Option.some.inj h
        exact we_ret fun a hF => hQ _ _ _ (Outs.out nofun ⟨rfl, (post_ret (rs := [.tmp 8, .cell 9 39]) (ans := [.val (.int .i64 3), .val (.int .i64 0)]) (vs := [.int .i64 0, .agg #[.int .i64 3, .int .i64 0]]) (l := [.loaded ⟨b4, 0, none⟩ (.int .i64 3), .loaded ⟨b4, 1, none⟩ (.int .i64 0)]) rfl (by kernel_rfl) ⟨hS20.cell 0 rfl rfl, hS20.cell 0 rfl rfl, trivial⟩ ⟨rfl, hS21⟩) a hF⟩)
      · rw [if_neg hc4] at h
        refine ge_known (t := 37) (b := decide (x3 < 0)) (c := false) (by kernel_rfl) (decide_eq_false hc4) ?_
        refine ge_batch [11, 12, 13] (ans := []) (vs := [(40, .bool (decide (x3 > 10000))), (39, .bool (decide (x3 > 10000))), (38, .int .i64 x3)]) (l := []) (by kernel_rfl) trivial ?_
        refine ge_nil fun a hF => hK6 _ _ ?_ a hF
        by_cases hc5 : x3 > 10000
        · rw [if_pos hc5] at h
          refine we_known (t := 40) (b := decide (x3 > 10000)) (v := true) (by kernel_rfl) (decide_eq_true hc5) ?_
          refine we_true (by kernel_rfl) ?_
          refine we_seq fun K10 hK10 => ?_
          refine we_region [(0, 0), (1, 0), (2, 2)] rfl ?_
          refine ge_batch [0, 1] (ans := []) (vs := [(8, .int .i64 0), (41, .agg #[.int .i64 3, .int .i64 0])]) (l := []) (by kernel_rfl) trivial ?_
          have hS22 := hS.bring 1 rfl
          refine ge_set (b := b4) (j := 0) (cs := #[.int .i64 0, .int .i64 0]) (t := 39) (vs := [.int .i64 3, .int .i64 0]) hS22 (by kernel_rfl) rfl rfl fun w11 hS23 => ?_
          have hS24 : St w0 w11 [Own.blk b4 (.cells #[.int .i64 3, .int .i64 0] 39 (0, 0)), Own.blk b5 (.cells #[.int .i64 r1.2.Code, .int .i64 r1.2.At] 39 (0, 0)), Own.blk b3 (.cells #[.int .i64 x2] 3 (0, 0)), Own.blk b2 (.cells #[.int .i64 x1] 3 (0, 0)), Own.blk b1 (.cells #[.slice A0 l0.length c0] 47 (0, 0))] := hS23
          refine ge_nil fun a hF => hK10 _ _ ?_ a hF
          have hS25 := hS24.takeN 0
          obtain rfl := Option.some.inj h
          exact we_ret fun a hF => hQ _ _ _ (Outs.out nofun ⟨rfl, (post_ret (rs := [.tmp 8, .cell 9 39]) (ans := [.val (.int .i64 3), .val (.int .i64 0)]) (vs := [.int .i64 0, .agg #[.int .i64 3, .int .i64 0]]) (l := [.loaded ⟨b4, 0, none⟩ (.int .i64 3), .loaded ⟨b4, 1, none⟩ (.int .i64 0)]) rfl (by kernel_rfl) ⟨hS24.cell 0 rfl rfl, hS24.cell 0 rfl rfl, trivial⟩ ⟨rfl, hS25⟩) a hF⟩)
        · rw [if_neg hc5] at h
          refine we_known (t := 40) (b := decide (x3 > 10000)) (v := false) (by kernel_rfl) (decide_eq_false hc5) ?_
          refine we_false (by kernel_rfl) ?_
          have hS26 := hS.bring 4 rfl
          have hS27 := hS26.bring 4 rfl
          have hS28 := hS27.bring 4 rfl
          have hS29 := hS28.bring 4 rfl
          have hS30 := hS29.takeN 4
          obtain rfl := Option.some.inj h
          exact we_skip fun a hF => hQ _ _ _ (Outs.again ⟨hS30, hF.weaken ⟨by kernel_rfl, by kernel_rfl, by kernel_rfl, by kernel_rfl, by kernel_rfl, trivial⟩⟩)
abbrev redo_Response.A1 (K : Nat) (w0 : World) (l0 : List STask) (A0 : Option Addr) (c0 : Nat) (x1 : Int) (x2 : Int) (x3 : Int) (hR0 : RdL w0 A0 l0) (hL0 : l0.length ≤ c0) (b1 : Nat) (b2 : Nat) (b3 : Nat) (b4 : Nat) (r1 : Int × SFault) (b5 : Nat) (hc1 : r1.2.Code = 0) (hc6 : 0 ≤ x1) (e1 : STask) (hx6 : l0[(x1).toNat]? = some e1) (b6 : Nat) (b7 : Nat) : (Nat × Int) → Act → World → Prop := fun (s : Nat × Int) a w => St w0 w [Own.blk b7 (.cells #[.int .i64 s.2] 3 (0, 0)), Own.blk b6 (.cells #[.string e1.Name, .int .i64 e1.C, .int .i64 e1.T, .int .i64 e1.D, .int .i64 e1.J, .int .i64 e1.O, .int .i64 e1.P] 51 (0, 0)), Own.blk b4 (.cells #[.int .i64 0, .int .i64 0] 39 (0, 0)), Own.blk b3 (.cells #[.int .i64 x2] 3 (0, 0)), Own.blk b2 (.cells #[.int .i64 x1] 3 (0, 0)), Own.blk b1 (.cells #[.slice A0 l0.length c0] 47 (0, 0))] ∧ Frm 82 a [(3, .int .i64 x3), (4, .pointer (some ⟨b1, 0, none⟩)), (5, .pointer (some ⟨b2, 0, none⟩)), (6, .pointer (some ⟨b3, 0, none⟩)), (9, .pointer (some ⟨b4, 0, none⟩)), (12, .pointer (some ⟨b6, 0, none⟩)), (13, .pointer (some ⟨b7, 0, none⟩)), (46, .slice A0 l0.length c0), (47, .int .i64 (l0.length : Int)), (48, .int .i64 (s.1 : Int))]
abbrev redo_Response.B1 (K : Nat) (w0 : World) (l0 : List STask) (A0 : Option Addr) (c0 : Nat) (x1 : Int) (x2 : Int) (x3 : Int) (hR0 : RdL w0 A0 l0) (hL0 : l0.length ≤ c0) (b1 : Nat) (b2 : Nat) (b3 : Nat) (b4 : Nat) (r1 : Int × SFault) (b5 : Nat) (hc1 : r1.2.Code = 0) (hc6 : 0 ≤ x1) (e1 : STask) (hx6 : l0[(x1).toNat]? = some e1) (b6 : Nat) (b7 : Nat) : (Int ⊕ (Int × SFault)) → Exit → Act → World → Prop := Exits 0 (fun (s : Int) a w => St w0 w [Own.blk b7 (.cells #[.int .i64 s] 3 (0, 0)), Own.blk b6 (.cells #[.string e1.Name, .int .i64 e1.C, .int .i64 e1.T, .int .i64 e1.D, .int .i64 e1.J, .int .i64 e1.O, .int .i64 e1.P] 51 (0, 0)), Own.blk b4 (.cells #[.int .i64 0, .int .i64 0] 39 (0, 0)), Own.blk b3 (.cells #[.int .i64 x2] 3 (0, 0)), Own.blk b2 (.cells #[.int .i64 x1] 3 (0, 0)), Own.blk b1 (.cells #[.slice A0 l0.length c0] 47 (0, 0))] ∧ Frm 82 a [(4, .pointer (some ⟨b1, 0, none⟩)), (5, .pointer (some ⟨b2, 0, none⟩)), (6, .pointer (some ⟨b3, 0, none⟩)), (9, .pointer (some ⟨b4, 0, none⟩)), (12, .pointer (some ⟨b6, 0, none⟩)), (13, .pointer (some ⟨b7, 0, none⟩))]) (Rets Tryd.prog Tryd.f125 (redo_Response.Post w0))
theorem redo_Response_r1 (K : Nat) (w0 : World) (l0 : List STask) (A0 : Option Addr) (c0 : Nat) (x1 : Int) (x2 : Int) (x3 : Int) (hR0 : RdL w0 A0 l0) (hL0 : l0.length ≤ c0) (b1 : Nat) (b2 : Nat) (b3 : Nat) (b4 : Nat) (r1 : Int × SFault) (b5 : Nat) (hc1 : r1.2.Code = 0) (hc6 : 0 ≤ x1) (e1 : STask) (hx6 : l0[(x1).toNat]? = some e1) (b6 : Nat) (b7 : Nat) (s : Nat × Int) (o : (Nat × Int) ⊕ (Int ⊕ (Int × SFault))) (h : redo_Response.r1 l0 x3 e1 s = some o) (a : Act) (w : World) (hA : redo_Response.A1 K w0 l0 A0 c0 x1 x2 x3 hR0 hL0 b1 b2 b3 b4 r1 b5 hc1 hc6 e1 hx6 b6 b7 s a w) (Q : Exit → Act → World → Prop) (hQ : ∀ x a w, Outs (redo_Response.A1 K w0 l0 A0 c0 x1 x2 x3 hR0 hL0 b1 b2 b3 b4 r1 b5 hc1 hc6 e1 hx6 b6 b7) (redo_Response.B1 K w0 l0 A0 c0 x1 x2 x3 hR0 hL0 b1 b2 b3 b4 r1 b5 hc1 hc6 e1 hx6 b6 b7) o x a w → Q x a w) : (subF Tryd.f125 [1, 1, 1, 1, 1, 0, 1, 0, 0]).wp Tryd.prog Q a w := by
  obtain ⟨i1, z1⟩ := s
  obtain ⟨hS, hF⟩ := hA
  replace hS : St w0 w [Own.blk b7 (.cells #[.int .i64 z1] 3 (0, 0)), Own.blk b6 (.cells #[.string e1.Name, .int .i64 e1.C, .int .i64 e1.T, .int .i64 e1.D, .int .i64 e1.J, .int .i64 e1.O, .int .i64 e1.P] 51 (0, 0)), Own.blk b4 (.cells #[.int .i64 0, .int .i64 0] 39 (0, 0)), Own.blk b3 (.cells #[.int .i64 x2] 3 (0, 0)), Own.blk b2 (.cells #[.int .i64 x1] 3 (0, 0)), Own.blk b1 (.cells #[.slice A0 l0.length c0] 47 (0, 0))] := hS
  simp only [redo_Response.r1] at h
  refine (?_ : WE Tryd.prog 82 (subF Tryd.f125 [1, 1, 1, 1, 1, 0, 1, 0, 0]) Q [(3, .int .i64 x3), (4, .pointer (some ⟨b1, 0, none⟩)), (5, .pointer (some ⟨b2, 0, none⟩)), (6, .pointer (some ⟨b3, 0, none⟩)), (9, .pointer (some ⟨b4, 0, none⟩)), (12, .pointer (some ⟨b6, 0, none⟩)), (13, .pointer (some ⟨b7, 0, none⟩)), (46, .slice A0 l0.length c0), (47, .int .i64 (l0.length : Int)), (48, .int .i64 (i1 : Int))] w) a hF
  clear hF a
  refine we_seq fun K15 hK15 => ?_
  refine we_region [(0, 0)] rfl ?_
  refine ge_batch [0] (ans := []) (vs := [(49, .bool (decide ((i1 : Int) < (l0.length : Int))))]) (l := []) (by kernel_rfl) trivial ?_
  refine ge_nil fun a hF => hK15 _ _ ?_ a hF
  refine we_seq fun K16 hK16 => ?_
  by_cases hc7 : (i1 : Int) < (l0.length : Int)
  · rw [if_pos hc7] at h
    refine we_known (t := 49) (b := decide ((i1 : Int) < (l0.length : Int))) (v := true) (by kernel_rfl) (decide_eq_true hc7) ?_
    refine we_true (by kernel_rfl) ?_
    refine we_skip fun a hF => hK16 _ _ ?_ a hF
    refine we_seq fun K17 hK17 => ?_
    refine we_block ?_
    refine we_seq fun K18 hK18 => ?_
    refine we_region [(0, 0), (1, 0), (2, 1), (3, 2)] rfl ?_
    rcases hx9 : l0[i1]? with _ | e2
    · rw [hx9] at h; cases h
    rw [hx9] at h
    simp only [] at h
    refine ge_index (d := 50) (ty := 0) (t := 47) (el := 51) (sz := 7) (m := l0.length) (c := c0) (x := (.tmp 46)) (y := (.tmp 48)) (A := A0) (k' := .i64) (j := (i1 : Int)) (jn := i1) (b0 := blkOf A0) (o0 := offOf A0) (by kernel_rfl) (by kernel_rfl) (by kernel_rfl) (by kernel_rfl) (by kernel_rfl) ((hS.rd hR0).eqSome (pos_of_get hx9)) rfl (lt_of_get hx9) ?_
    refine ge_batch [1] (ans := [.val (.string e2.Name), .val (.int .i64 e2.C), .val (.int .i64 e2.T), .val (.int .i64 e2.D), .val (.int .i64 e2.J), .val (.int .i64 e2.O), .val (.int .i64 e2.P)]) (vs := [(51, .agg #[.string e2.Name, .int .i64 e2.C, .int .i64 e2.T, .int .i64 e2.D, .int .i64 e2.J, .int .i64 e2.O, .int .i64 e2.P])]) (l := [.loaded ⟨blkOf A0, offOf A0 + i1 * 7, none⟩ (.string e2.Name), .loaded ⟨blkOf A0, offOf A0 + i1 * 7 + 1, none⟩ (.int .i64 e2.C), .loaded ⟨blkOf A0, offOf A0 + i1 * 7 + 2, none⟩ (.int .i64 e2.T), .loaded ⟨blkOf A0, offOf A0 + i1 * 7 + 3, none⟩ (.int .i64 e2.D), .loaded ⟨blkOf A0, offOf A0 + i1 * 7 + 4, none⟩ (.int .i64 e2.J), .loaded ⟨blkOf A0, offOf A0 + i1 * 7 + 5, none⟩ (.int .i64 e2.O), .loaded ⟨blkOf A0, offOf A0 + i1 * 7 + 6, none⟩ (.int .i64 e2.P)]) (by kernel_rfl) ⟨RdL.cell (j := 0) (hS.rd hR0) hx9 rfl, RdL.cell (j := 1) (hS.rd hR0) hx9 rfl, RdL.cell (j := 2) (hS.rd hR0) hx9 rfl, RdL.cell (j := 3) (hS.rd hR0) hx9 rfl, RdL.cell (j := 4) (hS.rd hR0) hx9 rfl, RdL.cell (j := 5) (hS.rd hR0) hx9 rfl, RdL.cell (j := 6) (hS.rd hR0) hx9 rfl, trivial⟩ ?_
    refine ge_new (d := some 15) (o := .cells #[.string (⟨#[]⟩), .int .i64 0, .int .i64 0, .int .i64 0, .int .i64 0, .int .i64 0, .int .i64 0] 51) (v := fun b => .pointer (some ⟨b, 0, none⟩)) hS (fun b => by kernel_rfl) fun b8 w17 hx10 hS44 => ?_
    refine ge_set (b := b8) (j := 0) (cs := #[.string (⟨#[]⟩), .int .i64 0, .int .i64 0, .int .i64 0, .int .i64 0, .int .i64 0, .int .i64 0]) (t := 51) (vs := [.string e2.Name, .int .i64 e2.C, .int .i64 e2.T, .int .i64 e2.D, .int .i64 e2.J, .int .i64 e2.O, .int .i64 e2.P]) hS44 (by kernel_rfl) rfl rfl fun w18 hS45 => ?_
    have hS46 : St w0 w18 [Own.blk b8 (.cells #[.string e2.Name, .int .i64 e2.C, .int .i64 e2.T, .int .i64 e2.D, .int .i64 e2.J, .int .i64 e2.O, .int .i64 e2.P] 51 (0, 0)), Own.blk b7 (.cells #[.int .i64 z1] 3 (0, 0)), Own.blk b6 (.cells #[.string e1.Name, .int .i64 e1.C, .int .i64 e1.T, .int .i64 e1.D, .int .i64 e1.J, .int .i64 e1.O, .int .i64 e1.P] 51 (0, 0)), Own.blk b4 (.cells #[.int .i64 0, .int .i64 0] 39 (0, 0)), Own.blk b3 (.cells #[.int .i64 x2] 3 (0, 0)), Own.blk b2 (.cells #[.int .i64 x1] 3 (0, 0)), Own.blk b1 (.cells #[.slice A0 l0.length c0] 47 (0, 0))] := hS45
    refine ge_nil fun a hF => hK18 _ _ ?_ a hF
    refine we_seq fun K19 hK19 => ?_
    refine we_region [(0, 0), (1, 0), (2, 0), (3, 0), (4, 0)] rfl ?_
    refine ge_batch [0, 1, 2, 3, 4] (ans := [.val (.int .i64 e2.P), .val (.int .i64 e1.P)]) (vs := [(56, .bool (decide (e2.P ≥ e1.P))), (55, .int .i64 e1.P), (54, .pointer (some ⟨b6, 6, none⟩)), (53, .int .i64 e2.P), (52, .pointer (some ⟨b8, 6, none⟩))]) (l := [.loaded ⟨b8, 6, none⟩ (.int .i64 e2.P), .loaded ⟨b6, 6, none⟩ (.int .i64 e1.P)]) (by kernel_rfl) ⟨hS46.cell 0 rfl rfl, hS46.cell 2 rfl rfl, trivial⟩ ?_
    refine ge_nil fun a hF => hK19 _ _ ?_ a hF
    by_cases hc8 : e2.P ≥ e1.P
    · rw [if_pos hc8] at h
      refine we_known (t := 56) (b := decide (e2.P ≥ e1.P)) (v := true) (by kernel_rfl) (decide_eq_true hc8) ?_
      refine we_true (by kernel_rfl) ?_
      refine we_draws (by kernel_rfl) [(0, 0), (1, 0), (2, 0), (3, 0), (4, 1), (5, 0), (6, 2)] (by kernel_rfl) ?_
      have hS47 := hS46.drew
      refine ge_batch [0, 1, 2, 3] (ans := [.val (.int .i64 z1), .val (.int .i64 e2.C)]) (vs := [(60, .int .i64 x3), (59, .int .i64 e2.C), (58, .pointer (some ⟨b8, 1, none⟩)), (57, .int .i64 z1)]) (l := [.loaded ⟨b7, 0, none⟩ (.int .i64 z1), .loaded ⟨b8, 1, none⟩ (.int .i64 e2.C)]) (by kernel_rfl) ⟨hS47.cell 1 rfl rfl, hS47.cell 0 rfl rfl, trivial⟩ ?_
      refine ge_call (d := some 61) (f := 160) (args := #[.int .i64 e2.C, .int .i64 x3]) (by kernel_rfl) (redo_undone_ok e2.C x3 _ _ rfl) ?_
      rintro _ w19 ⟨rfl, hS48⟩
      refine ⟨_, rfl, hS48.below, ?_⟩
      have hS49 := hS47.call hS48
      refine ge_batch [5] (ans := []) (vs := [(62, .int .i64 (gmax z1 (redo_undone.f e2.C x3)))]) (l := []) (by kernel_rfl) trivial ?_
      have hS50 := hS49.bring 1 rfl
      refine ge_set (b := b7) (j := 0) (cs := #[.int .i64 z1]) (t := 3) (vs := [.int .i64 (gmax z1 (redo_undone.f e2.C x3))]) hS50 (by kernel_rfl) rfl rfl fun w20 hS51 => ?_
      have hS52 : St w0 w20 [Own.blk b7 (.cells #[.int .i64 (gmax z1 (redo_undone.f e2.C x3))] 3 (0, 0)), Own.blk b8 (.cells #[.string e2.Name, .int .i64 e2.C, .int .i64 e2.T, .int .i64 e2.D, .int .i64 e2.J, .int .i64 e2.O, .int .i64 e2.P] 51 (0, 0)), Own.blk b6 (.cells #[.string e1.Name, .int .i64 e1.C, .int .i64 e1.T, .int .i64 e1.D, .int .i64 e1.J, .int .i64 e1.O, .int .i64 e1.P] 51 (0, 0)), Own.blk b4 (.cells #[.int .i64 0, .int .i64 0] 39 (0, 0)), Own.blk b3 (.cells #[.int .i64 x2] 3 (0, 0)), Own.blk b2 (.cells #[.int .i64 x1] 3 (0, 0)), Own.blk b1 (.cells #[.slice A0 l0.length c0] 47 (0, 0))] := hS51
      refine ge_nil fun a hF => hK17 _ _ ?_ a hF
      refine we_region [(0, 0), (1, 0)] rfl ?_
      refine ge_addn (d := 63) (ty := 3) (x := (.tmp 48)) (y := (.const (.int .i64 1))) (t := 3) (t2 := 3) (k := .i64) (m := i1) (by kernel_rfl) (by kernel_rfl) (by kernel_rfl) (by have h0 := hR0.small; omega) ?_
      refine ge_batch [1] (ans := []) (vs := [(48, .int .i64 ((i1 + 1 : Nat) : Int))]) (l := []) (by kernel_rfl) trivial ?_
      have hS53 := hS52.bring 6 rfl
      have hS54 := hS53.bring 6 rfl
      have hS55 := hS54.bring 6 rfl
      have hS56 := hS55.bring 6 rfl
      have hS57 := hS56.bring 6 rfl
      have hS58 := hS57.bring 5 rfl
      have hS59 := hS58.takeN 6
      obtain rfl := Option.some.inj h
      exact ge_nil fun a hF => hQ _ _ _ (Outs.again ⟨hS59, hF.weaken ⟨by kernel_rfl, by kernel_rfl, by kernel_rfl, by kernel_rfl, by kernel_rfl, by kernel_rfl, by kernel_rfl, by kernel_rfl, by kernel_rfl, by kernel_rfl, trivial⟩⟩)
    · rw [if_neg hc8] at h
      refine we_known (t := 56) (b := decide (e2.P ≥ e1.P)) (v := false) (by kernel_rfl) (decide_eq_false hc8) ?_
      refine we_false (by kernel_rfl) ?_
      refine we_skip fun a hF => hK17 _ _ ?_ a hF
      refine we_region [(0, 0), (1, 0)] rfl ?_
      refine ge_addn (d := 63) (ty := 3) (x := (.tmp 48)) (y := (.const (.int .i64 1))) (t := 3) (t2 := 3) (k := .i64) (m := i1) (by kernel_rfl) (by kernel_rfl) (by kernel_rfl) (by have h0 := hR0.small; omega) ?_
      refine ge_batch [1] (ans := []) (vs := [(48, .int .i64 ((i1 + 1 : Nat) : Int))]) (l := []) (by kernel_rfl) trivial ?_
      have hS60 := hS46.bring 6 rfl
      have hS61 := hS60.bring 6 rfl
      have hS62 := hS61.bring 6 rfl
      have hS63 := hS62.bring 6 rfl
      have hS64 := hS63.bring 6 rfl
      have hS65 := hS64.bring 6 rfl
      have hS66 := hS65.takeN 6
      obtain rfl := Option.some.inj h
      exact ge_nil fun a hF => hQ _ _ _ (Outs.again ⟨hS66, hF.weaken ⟨by kernel_rfl, by kernel_rfl, by kernel_rfl, by kernel_rfl, by kernel_rfl, by kernel_rfl, by kernel_rfl, by kernel_rfl, by kernel_rfl, by kernel_rfl, trivial⟩⟩)
  · rw [if_neg hc7] at h
    refine we_known (t := 49) (b := decide ((i1 : Int) < (l0.length : Int))) (v := false) (by kernel_rfl) (decide_eq_false hc7) ?_
    refine we_false (by kernel_rfl) ?_
    have hS67 := hS.bring 5 rfl
    have hS68 := hS67.bring 5 rfl
    have hS69 := hS68.bring 5 rfl
    have hS70 := hS69.bring 5 rfl
    have hS71 := hS70.bring 5 rfl
    have hS72 := hS71.bring 5 rfl
    obtain rfl := Option.some.inj h
    exact we_exit fun a hF => hQ _ _ _ (Outs.out nofun (Exits.here ⟨hS72, hF.weaken ⟨by kernel_rfl, by kernel_rfl, by kernel_rfl, by kernel_rfl, by kernel_rfl, by kernel_rfl, trivial⟩⟩))
theorem redo_Response_ok (K : Nat) (l0 : List STask) (A0 : Option Addr) (c0 : Nat) (x1 : Int) (x2 : Int) (x3 : Int) (w0 : World) (hR0 : RdL w0 A0 l0) (hL0 : l0.length ≤ c0) (r : Int × SFault) (h : redo_Response.f K l0 x1 x2 x3 = some r) :
    Calls Tryd.prog 125 #[.slice A0 l0.length c0, .int .i64 x1, .int .i64 x2, .int .i64 x3] w0 (redo_Response.Post w0 r) := by
  have hS := St.start w0
  unfold redo_Response.f at h
  refine calls_enter (n := 82) (args := [.slice A0 l0.length c0, .int .i64 x1, .int .i64 x2, .int .i64 x3]) (fn := Tryd.f125) rfl rfl rfl rfl ?_
  show WE _ _ _ _ [(0, .slice A0 l0.length c0), (1, .int .i64 x1), (2, .int .i64 x2), (3, .int .i64 x3)] _
  refine we_seq fun K1 hK1 => ?_
  refine we_region [(0, 1), (1, 1), (2, 1), (3, 0), (4, 1)] rfl ?_
  refine ge_new (d := some 4) (o := .cells #[.slice A0 l0.length c0] 47) (v := fun b => .pointer (some ⟨b, 0, none⟩)) hS (fun b => by kernel_rfl) fun b1 w1 hx1 hS1 => ?_
  refine ge_new (d := some 5) (o := .cells #[.int .i64 x1] 3) (v := fun b => .pointer (some ⟨b, 0, none⟩)) hS1 (fun b => by kernel_rfl) fun b2 w2 hx2 hS2 => ?_
  refine ge_new (d := some 6) (o := .cells #[.int .i64 x2] 3) (v := fun b => .pointer (some ⟨b, 0, none⟩)) hS2 (fun b => by kernel_rfl) fun b3 w3 hx3 hS3 => ?_
  refine ge_batch [3] (ans := []) (vs := [(8, .int .i64 0)]) (l := []) (by kernel_rfl) trivial ?_
  refine ge_new (d := some 9) (o := .cells #[.int .i64 0, .int .i64 0] 39) (v := fun b => .pointer (some ⟨b, 0, none⟩)) hS3 (fun b => by kernel_rfl) fun b4 w4 hx4 hS4 => ?_
  refine ge_nil fun a hF => hK1 _ _ ?_ a hF
  refine we_seq fun K2 hK2 => ?_
  refine we_seq fun K3 hK3 => ?_
  refine we_region [(0, 0), (1, 0), (2, 1), (3, 0), (4, 0), (5, 0), (6, 1), (7, 0), (8, 2)] rfl ?_
  rcases hq1 : fixed_Response.f K l0 x1 0 with _ | r1
  · rw [hq1] at h; cases h
  rw [hq1] at h
  simp only [] at h
  refine ge_batch [0, 1] (ans := [.val (.slice A0 l0.length c0), .val (.int .i64 x1)]) (vs := [(19, .int .i64 x1), (18, .slice A0 l0.length c0)]) (l := [.loaded ⟨b1, 0, none⟩ (.slice A0 l0.length c0), .loaded ⟨b2, 0, none⟩ (.int .i64 x1)]) (by kernel_rfl) ⟨hS4.cell 3 rfl rfl, hS4.cell 2 rfl rfl, trivial⟩ ?_
  refine ge_call (d := some 20) (f := 79) (args := #[.slice A0 l0.length c0, .int .i64 x1, .int .i64 0]) (by kernel_rfl) (fixed_Response_ok K l0 A0 c0 x1 0 _ (hS4.rd hR0) hL0 _ hq1) ?_
  rintro _ w5 ⟨rfl, hS5⟩
  refine ⟨_, rfl, hS5.below, ?_⟩
  have hS6 := hS4.call hS5
  refine ge_batch [3, 4, 5] (ans := []) (vs := [(22, .agg #[.int .i64 r1.2.Code, .int .i64 r1.2.At]), (21, .int .i64 r1.1), (17, .tuple #[.int .i64 r1.1, .agg #[.int .i64 r1.2.Code, .int .i64 r1.2.At]])]) (l := []) (by kernel_rfl) trivial ?_
  refine ge_new (d := some 11) (o := .cells #[.int .i64 0, .int .i64 0] 39) (v := fun b => .pointer (some ⟨b, 0, none⟩)) hS6 (fun b => by kernel_rfl) fun b5 w6 hx5 hS7 => ?_
  refine ge_batch [7] (ans := []) (vs := [(10, .int .i64 r1.1)]) (l := []) (by kernel_rfl) trivial ?_
  refine ge_set (b := b5) (j := 0) (cs := #[.int .i64 0, .int .i64 0]) (t := 39) (vs := [.int .i64 r1.2.Code, .int .i64 r1.2.At]) hS7 (by kernel_rfl) rfl rfl fun w7 hS8 => ?_
  have hS9 : St w0 w7 [Own.blk b5 (.cells #[.int .i64 r1.2.Code, .int .i64 r1.2.At] 39 (0, 0)), Own.blk b4 (.cells #[.int .i64 0, .int .i64 0] 39 (0, 0)), Own.blk b3 (.cells #[.int .i64 x2] 3 (0, 0)), Own.blk b2 (.cells #[.int .i64 x1] 3 (0, 0)), Own.blk b1 (.cells #[.slice A0 l0.length c0] 47 (0, 0))] := hS8
  refine ge_nil fun a hF => hK3 _ _ ?_ a hF
  refine we_seq fun K4 hK4 => ?_
  refine we_region [(0, 0), (1, 0), (2, 0)] rfl ?_
  refine ge_batch [0, 1, 2] (ans := [.val (.int .i64 r1.2.Code)]) (vs := [(25, .bool (r1.2.Code != 0)), (24, .int .i64 r1.2.Code), (23, .pointer (some ⟨b5, 0, none⟩))]) (l := [.loaded ⟨b5, 0, none⟩ (.int .i64 r1.2.Code)]) (by kernel_rfl) ⟨hS9.cell 0 rfl rfl, trivial⟩ ?_
  refine ge_nil fun a hF => hK4 _ _ ?_ a hF
  by_cases hc1 : r1.2.Code = 0
  · rw [if_pos hc1] at h
    refine we_known (t := 25) (b := (r1.2.Code != 0)) (v := false) (by kernel_rfl) (bne_eq_false_iff_eq.2 hc1) ?_
    refine we_false (by kernel_rfl) ?_
    refine we_skip fun a hF => hK2 _ _ ?_ a hF
    refine we_seq fun K5 hK5 => ?_
    rcases hq2 : redo_Response.p0 x2 x3 with _ | (_ | rr2)
    · rw [hq2] at h; cases h
    · rw [hq2] at h
      simp only [] at h
      refine we_keep (e' := [(0, .slice A0 l0.length c0), (1, .int .i64 x1), (2, .int .i64 x2), (3, .int .i64 x3), (4, .pointer (some ⟨b1, 0, none⟩)), (5, .pointer (some ⟨b2, 0, none⟩)), (6, .pointer (some ⟨b3, 0, none⟩)), (8, .int .i64 0), (9, .pointer (some ⟨b4, 0, none⟩)), (10, .int .i64 r1.1), (11, .pointer (some ⟨b5, 0, none⟩)), (17, .tuple #[.int .i64 r1.1, .agg #[.int .i64 r1.2.Code, .int .i64 r1.2.At]]), (18, .slice A0 l0.length c0), (19, .int .i64 x1), (20, .tuple #[.int .i64 r1.1, .agg #[.int .i64 r1.2.Code, .int .i64 r1.2.At]]), (21, .int .i64 r1.1), (22, .agg #[.int .i64 r1.2.Code, .int .i64 r1.2.At]), (23, .pointer (some ⟨b5, 0, none⟩)), (24, .int .i64 r1.2.Code), (25, .bool false)]) ⟨by kernel_rfl, by kernel_rfl, by kernel_rfl, by kernel_rfl, by kernel_rfl, by kernel_rfl, by kernel_rfl, by kernel_rfl, by kernel_rfl, by kernel_rfl, by kernel_rfl, by kernel_rfl, by kernel_rfl, by kernel_rfl, by kernel_rfl, by kernel_rfl, by kernel_rfl, by kernel_rfl, by kernel_rfl, by kernel_rfl, trivial⟩ (redo_Response_p0 K w0 l0 A0 c0 x1 x2 x3 hR0 hL0 b1 b2 b3 b4 r1 b5 hc1 _ hq2 _ hS9 _ ?_)
      rintro _ a w12 ⟨rfl, hS31, hF⟩
      replace hS31 : St w0 w12 [Own.blk b4 (.cells #[.int .i64 0, .int .i64 0] 39 (0, 0)), Own.blk b3 (.cells #[.int .i64 x2] 3 (0, 0)), Own.blk b2 (.cells #[.int .i64 x1] 3 (0, 0)), Own.blk b1 (.cells #[.slice A0 l0.length c0] 47 (0, 0))] := hS31
      refine hK5 [(3, .int .i64 x3), (4, .pointer (some ⟨b1, 0, none⟩)), (5, .pointer (some ⟨b2, 0, none⟩)), (6, .pointer (some ⟨b3, 0, none⟩)), (9, .pointer (some ⟨b4, 0, none⟩))] w12 ?_ a hF
      refine we_seq fun K11 hK11 => ?_
      refine we_region [(0, 0), (1, 0), (2, 0), (3, 0), (4, 1), (5, 2)] rfl ?_
      refine ge_batch [0, 1] (ans := [.val (.slice A0 l0.length c0), .val (.int .i64 x1)]) (vs := [(43, .int .i64 x1), (42, .slice A0 l0.length c0)]) (l := [.loaded ⟨b1, 0, none⟩ (.slice A0 l0.length c0), .loaded ⟨b2, 0, none⟩ (.int .i64 x1)]) (by kernel_rfl) ⟨hS31.cell 3 rfl rfl, hS31.cell 2 rfl rfl, trivial⟩ ?_
      by_cases hc6 : 0 ≤ x1
      · rw [if_pos hc6] at h
        rcases hx6 : l0[(x1).toNat]? with _ | e1
        · rw [hx6] at h; cases h
        rw [hx6] at h
        simp only [] at h
        refine ge_index (d := 44) (ty := 0) (t := 47) (el := 51) (sz := 7) (m := l0.length) (c := c0) (x := (.tmp 42)) (y := (.tmp 43)) (A := A0) (k' := .i64) (j := x1) (jn := ((x1).toNat)) (b0 := blkOf A0) (o0 := offOf A0) (by kernel_rfl) (by kernel_rfl) (by kernel_rfl) (by kernel_rfl) (by kernel_rfl) ((hS31.rd hR0).eqSome (pos_of_get hx6)) (Int.toNat_of_nonneg hc6).symm (lt_of_get hx6) ?_
        refine ge_batch [3] (ans := [.val (.string e1.Name), .val (.int .i64 e1.C), .val (.int .i64 e1.T), .val (.int .i64 e1.D), .val (.int .i64 e1.J), .val (.int .i64 e1.O), .val (.int .i64 e1.P)]) (vs := [(45, .agg #[.string e1.Name, .int .i64 e1.C, .int .i64 e1.T, .int .i64 e1.D, .int .i64 e1.J, .int .i64 e1.O, .int .i64 e1.P])]) (l := [.loaded ⟨blkOf A0, offOf A0 + ((x1).toNat) * 7, none⟩ (.string e1.Name), .loaded ⟨blkOf A0, offOf A0 + ((x1).toNat) * 7 + 1, none⟩ (.int .i64 e1.C), .loaded ⟨blkOf A0, offOf A0 + ((x1).toNat) * 7 + 2, none⟩ (.int .i64 e1.T), .loaded ⟨blkOf A0, offOf A0 + ((x1).toNat) * 7 + 3, none⟩ (.int .i64 e1.D), .loaded ⟨blkOf A0, offOf A0 + ((x1).toNat) * 7 + 4, none⟩ (.int .i64 e1.J), .loaded ⟨blkOf A0, offOf A0 + ((x1).toNat) * 7 + 5, none⟩ (.int .i64 e1.O), .loaded ⟨blkOf A0, offOf A0 + ((x1).toNat) * 7 + 6, none⟩ (.int .i64 e1.P)]) (by kernel_rfl) ⟨RdL.cell (j := 0) (hS31.rd hR0) hx6 rfl, RdL.cell (j := 1) (hS31.rd hR0) hx6 rfl, RdL.cell (j := 2) (hS31.rd hR0) hx6 rfl, RdL.cell (j := 3) (hS31.rd hR0) hx6 rfl, RdL.cell (j := 4) (hS31.rd hR0) hx6 rfl, RdL.cell (j := 5) (hS31.rd hR0) hx6 rfl, RdL.cell (j := 6) (hS31.rd hR0) hx6 rfl, trivial⟩ ?_
        refine ge_new (d := some 12) (o := .cells #[.string (⟨#[]⟩), .int .i64 0, .int .i64 0, .int .i64 0, .int .i64 0, .int .i64 0, .int .i64 0] 51) (v := fun b => .pointer (some ⟨b, 0, none⟩)) hS31 (fun b => by kernel_rfl) fun b6 w13 hx7 hS32 => ?_
        refine ge_set (b := b6) (j := 0) (cs := #[.string (⟨#[]⟩), .int .i64 0, .int .i64 0, .int .i64 0, .int .i64 0, .int .i64 0, .int .i64 0]) (t := 51) (vs := [.string e1.Name, .int .i64 e1.C, .int .i64 e1.T, .int .i64 e1.D, .int .i64 e1.J, .int .i64 e1.O, .int .i64 e1.P]) hS32 (by kernel_rfl) rfl rfl fun w14 hS33 => ?_
        have hS34 : St w0 w14 [Own.blk b6 (.cells #[.string e1.Name, .int .i64 e1.C, .int .i64 e1.T, .int .i64 e1.D, .int .i64 e1.J, .int .i64 e1.O, .int .i64 e1.P] 51 (0, 0)), Own.blk b4 (.cells #[.int .i64 0, .int .i64 0] 39 (0, 0)), Own.blk b3 (.cells #[.int .i64 x2] 3 (0, 0)), Own.blk b2 (.cells #[.int .i64 x1] 3 (0, 0)), Own.blk b1 (.cells #[.slice A0 l0.length c0] 47 (0, 0))] := hS33
        refine ge_nil fun a hF => hK11 _ _ ?_ a hF
        refine we_seq fun K12 hK12 => ?_
        refine we_region [(0, 1), (1, 2)] rfl ?_
        refine ge_new (d := some 13) (o := .cells #[.int .i64 0] 3) (v := fun b => .pointer (some ⟨b, 0, none⟩)) hS34 (fun b => by kernel_rfl) fun b7 w15 hx8 hS35 => ?_
        refine ge_set (b := b7) (j := 0) (cs := #[.int .i64 0]) (t := 3) (vs := [.int .i64 0]) hS35 (by kernel_rfl) rfl rfl fun w16 hS36 => ?_
        have hS37 : St w0 w16 [Own.blk b7 (.cells #[.int .i64 0] 3 (0, 0)), Own.blk b6 (.cells #[.string e1.Name, .int .i64 e1.C, .int .i64 e1.T, .int .i64 e1.D, .int .i64 e1.J, .int .i64 e1.O, .int .i64 e1.P] 51 (0, 0)), Own.blk b4 (.cells #[.int .i64 0, .int .i64 0] 39 (0, 0)), Own.blk b3 (.cells #[.int .i64 x2] 3 (0, 0)), Own.blk b2 (.cells #[.int .i64 x1] 3 (0, 0)), Own.blk b1 (.cells #[.slice A0 l0.length c0] 47 (0, 0))] := hS36
        refine ge_nil fun a hF => hK12 _ _ ?_ a hF
        refine we_seq fun K13 hK13 => ?_
        refine we_seq fun K14 hK14 => ?_
        refine we_region [(0, 0), (1, 0), (2, 0)] rfl ?_
        refine ge_batch [0, 1, 2] (ans := [.val (.slice A0 l0.length c0)]) (vs := [(48, .int .i64 0), (47, .int .i64 (l0.length : Int)), (46, .slice A0 l0.length c0)]) (l := [.loaded ⟨b1, 0, none⟩ (.slice A0 l0.length c0)]) (by kernel_rfl) ⟨hS37.cell 5 rfl rfl, trivial⟩ ?_
        refine ge_nil fun a hF => hK14 _ _ ?_ a hF
        refine we_block ?_
        have hS38 := hS37.bring 5 rfl
        have hS39 := hS38.bring 5 rfl
        have hS40 := hS39.bring 5 rfl
        have hS41 := hS40.bring 5 rfl
        have hS42 := hS41.bring 5 rfl
        have hS43 := hS42.bring 5 rfl
        rcases hq4 : iter (redo_Response.r1 l0 x3 e1) K (0, 0) with _ | (z3 | rr1)
        · rw [hq4] at h; cases h
        · rw [hq4] at h
          simp only [] at h
          refine we_iter (A := redo_Response.A1 K w0 l0 A0 c0 x1 x2 x3 hR0 hL0 b1 b2 b3 b4 r1 b5 hc1 hc6 e1 hx6 b6 b7) (B := redo_Response.B1 K w0 l0 A0 c0 x1 x2 x3 hR0 hL0 b1 b2 b3 b4 r1 b5 hc1 hc6 e1 hx6 b6 b7) hq4 (fun a hF => ⟨hS43, hF.weaken ⟨by kernel_rfl, by kernel_rfl, by kernel_rfl, by kernel_rfl, by kernel_rfl, by kernel_rfl, by kernel_rfl, by kernel_rfl, by kernel_rfl, by kernel_rfl, trivial⟩⟩) (fun s o hf a w hA Q hQ => redo_Response_r1 K w0 l0 A0 c0 x1 x2 x3 hR0 hL0 b1 b2 b3 b4 r1 b5 hc1 hc6 e1 hx6 b6 b7 s o hf a w hA Q hQ) ?_
          rintro _ a w21 _ ⟨rfl, hS73, hF⟩
          replace hS73 : St w0 w21 [Own.blk b7 (.cells #[.int .i64 z3] 3 (0, 0)), Own.blk b6 (.cells #[.string e1.Name, .int .i64 e1.C, .int .i64 e1.T, .int .i64 e1.D, .int .i64 e1.J, .int .i64 e1.O, .int .i64 e1.P] 51 (0, 0)), Own.blk b4 (.cells #[.int .i64 0, .int .i64 0] 39 (0, 0)), Own.blk b3 (.cells #[.int .i64 x2] 3 (0, 0)), Own.blk b2 (.cells #[.int .i64 x1] 3 (0, 0)), Own.blk b1 (.cells #[.slice A0 l0.length c0] 47 (0, 0))] := hS73
          refine hK13 [(4, .pointer (some ⟨b1, 0, none⟩)), (5, .pointer (some ⟨b2, 0, none⟩)), (6, .pointer (some ⟨b3, 0, none⟩)), (9, .pointer (some ⟨b4, 0, none⟩)), (12, .pointer (some ⟨b6, 0, none⟩)), (13, .pointer (some ⟨b7, 0, none⟩))] w21 ?_ a hF
          refine we_seq fun K20 hK20 => ?_
          refine we_region [(0, 0), (1, 0), (2, 0), (3, 0), (4, 0), (5, 0), (6, 0), (7, 0), (8, 1), (9, 0)] rfl ?_
          rcases hq5 : fixed_Settle_1.f K e1.C (IntKind.i64.wrap (e1.D - e1.J)) e1 x2 z3 l0 x1 with _ | r2
          · rw [hq5] at h; cases h
          rw [hq5] at h
          simp only [] at h
          refine ge_batch [0, 1, 2, 3, 4, 5, 6, 7] (ans := [.val (.int .i64 e1.C), .val (.int .i64 e1.D), .val (.int .i64 e1.J)]) (vs := [(71, .func (.func 161) #[] #[.pointer (some ⟨b6, 0, none⟩), .pointer (some ⟨b3, 0, none⟩), .pointer (some ⟨b7, 0, none⟩), .pointer (some ⟨b1, 0, none⟩), .pointer (some ⟨b2, 0, none⟩)]), (70, .int .i64 (IntKind.i64.wrap (e1.D - e1.J))), (69, .int .i64 e1.J), (68, .pointer (some ⟨b6, 4, none⟩)), (67, .int .i64 e1.D), (66, .pointer (some ⟨b6, 3, none⟩)), (65, .int .i64 e1.C), (64, .pointer (some ⟨b6, 1, none⟩))]) (l := [.loaded ⟨b6, 1, none⟩ (.int .i64 e1.C), .loaded ⟨b6, 3, none⟩ (.int .i64 e1.D), .loaded ⟨b6, 4, none⟩ (.int .i64 e1.J)]) (by kernel_rfl) ⟨hS73.cell 1 rfl rfl, hS73.cell 1 rfl rfl, hS73.cell 1 rfl rfl, trivial⟩ ?_
          refine ge_call (d := some 72) (f := 142) (args := #[.int .i64 e1.C, .int .i64 (IntKind.i64.wrap (e1.D - e1.J)), .func (.func 161) #[] #[.pointer (some ⟨b6, 0, none⟩), .pointer (some ⟨b3, 0, none⟩), .pointer (some ⟨b7, 0, none⟩), .pointer (some ⟨b1, 0, none⟩), .pointer (some ⟨b2, 0, none⟩)]]) (by kernel_rfl) (fixed_Settle_1_ok K e1.C (IntKind.i64.wrap (e1.D - e1.J)) b6 e1 b3 x2 b7 z3 b1 l0 A0 c0 b2 x1 _ (hS73.globOf 1 rfl) (hS73.globOf 3 rfl) (hS73.globOf 0 rfl) (hS73.rd hR0) hL0 (hS73.globOf 5 rfl) (hS73.globOf 4 rfl) _ hq5) ?_
          rintro _ w22 ⟨rfl, hS74⟩
          refine ⟨_, rfl, hS74.below, ?_⟩
          have hS75 := hS73.call hS74
          refine ge_batch [9] (ans := []) (vs := [(16, .int .i64 r2)]) (l := []) (by kernel_rfl) trivial ?_
          refine ge_nil fun a hF => hK20 _ _ ?_ a hF
          refine we_seq fun K21 hK21 => ?_
          refine we_seq fun K22 hK22 => ?_
          refine we_region [(0, 0), (1, 0)] rfl ?_
          refine ge_batch [0, 1] (ans := []) (vs := [(74, .bool (r2 == 0)), (73, .int .i64 r2)]) (l := []) (by kernel_rfl) trivial ?_
          refine ge_nil fun a hF => hK22 _ _ ?_ a hF
          by_cases hc9 : r2 = 0
          · rw [if_pos hc9] at h
            refine we_known (t := 74) (b := (r2 == 0)) (v := true) (by kernel_rfl) (beq_iff_eq.2 hc9) ?_
            refine we_true (by kernel_rfl) ?_
            refine we_seq fun K23 hK23 => ?_
            refine we_draws (by kernel_rfl) [(0, 0), (1, 0), (2, 0), (3, 2)] (by kernel_rfl) ?_
            have hS76 := hS75.drew
            refine ge_batch [0, 1, 2] (ans := [.val (.int .i64 x1)]) (vs := [(8, .int .i64 0), (76, .agg #[.int .i64 13, .int .i64 x1]), (75, .int .i64 x1)]) (l := [.loaded ⟨b2, 0, none⟩ (.int .i64 x1)]) (by kernel_rfl) ⟨hS76.cell 4 rfl rfl, trivial⟩ ?_
            have hS77 := hS76.bring 2 rfl
            refine ge_set (b := b4) (j := 0) (cs := #[.int .i64 0, .int .i64 0]) (t := 39) (vs := [.int .i64 13, .int .i64 x1]) hS77 (by kernel_rfl) rfl rfl fun w23 hS78 => ?_
            have hS79 : St w0 w23 [Own.blk b4 (.cells #[.int .i64 13, .int .i64 x1] 39 (0, 0)), Own.blk b7 (.cells #[.int .i64 z3] 3 (0, 0)), Own.blk b6 (.cells #[.string e1.Name, .int .i64 e1.C, .int .i64 e1.T, .int .i64 e1.D, .int .i64 e1.J, .int .i64 e1.O, .int .i64 e1.P] 51 (0, 0)), Own.blk b3 (.cells #[.int .i64 x2] 3 (0, 0)), Own.blk b2 (.cells #[.int .i64 x1] 3 (0, 0)), Own.blk b1 (.cells #[.slice A0 l0.length c0] 47 (0, 0))] := hS78
            refine ge_nil fun a hF => hK23 _ _ ?_ a hF
            have hS80 := hS79.takeN 0
            obtain rfl := Option.some.inj h
            exact we_ret (post_ret (rs := [.tmp 8, .cell 9 39]) (ans := [.val (.int .i64 13), .val (.int .i64 x1)]) (vs := [.int .i64 0, .agg #[.int .i64 13, .int .i64 x1]]) (l := [.loaded ⟨b4, 0, none⟩ (.int .i64 13), .loaded ⟨b4, 1, none⟩ (.int .i64 x1)]) rfl (by kernel_rfl) ⟨hS79.cell 0 rfl rfl, hS79.cell 0 rfl rfl, trivial⟩ ⟨rfl, hS80⟩)
          · rw [if_neg hc9] at h
            refine we_known (t := 74) (b := (r2 == 0)) (v := false) (by kernel_rfl) (beq_eq_false_iff_ne.2 hc9) ?_
            refine we_false (by kernel_rfl) ?_
            refine we_skip fun a hF => hK21 _ _ ?_ a hF
            refine we_seq fun K24 hK24 => ?_
            refine we_region [(0, 0), (1, 0), (2, 0), (3, 0), (4, 0), (5, 0), (6, 2)] rfl ?_
            refine ge_batch [0, 1, 2, 3, 4, 5] (ans := [.val (.int .i64 e1.J)]) (vs := [(8, .int .i64 (IntKind.i64.wrap (r2 + e1.J))), (81, .agg #[.int .i64 0, .int .i64 0]), (80, .int .i64 (IntKind.i64.wrap (r2 + e1.J))), (79, .int .i64 e1.J), (78, .pointer (some ⟨b6, 4, none⟩)), (77, .int .i64 r2)]) (l := [.loaded ⟨b6, 4, none⟩ (.int .i64 e1.J)]) (by kernel_rfl) ⟨hS75.cell 1 rfl rfl, trivial⟩ ?_
            have hS81 := hS75.bring 2 rfl
            refine ge_set (b := b4) (j := 0) (cs := #[.int .i64 0, .int .i64 0]) (t := 39) (vs := [.int .i64 0, .int .i64 0]) hS81 (by kernel_rfl) rfl rfl fun w24 hS82 => ?_
            have hS83 : St w0 w24 [Own.blk b4 (.cells #[.int .i64 0, .int .i64 0] 39 (0, 0)), Own.blk b7 (.cells #[.int .i64 z3] 3 (0, 0)), Own.blk b6 (.cells #[.string e1.Name, .int .i64 e1.C, .int .i64 e1.T, .int .i64 e1.D, .int .i64 e1.J, .int .i64 e1.O, .int .i64 e1.P] 51 (0, 0)), Own.blk b3 (.cells #[.int .i64 x2] 3 (0, 0)), Own.blk b2 (.cells #[.int .i64 x1] 3 (0, 0)), Own.blk b1 (.cells #[.slice A0 l0.length c0] 47 (0, 0))] := hS82
            refine ge_nil fun a hF => hK24 _ _ ?_ a hF
            have hS84 := hS83.takeN 0
            obtain rfl := Option.some.inj h
            exact we_ret (post_ret (rs := [.tmp 8, .cell 9 39]) (ans := [.val (.int .i64 0), .val (.int .i64 0)]) (vs := [.int .i64 (IntKind.i64.wrap (r2 + e1.J)), .agg #[.int .i64 0, .int .i64 0]]) (l := [.loaded ⟨b4, 0, none⟩ (.int .i64 0), .loaded ⟨b4, 1, none⟩ (.int .i64 0)]) rfl (by kernel_rfl) ⟨hS83.cell 0 rfl rfl, hS83.cell 0 rfl rfl, trivial⟩ ⟨rfl, hS84⟩)
        · rw [hq4] at h
          simp only [] at h
          refine we_iter (A := redo_Response.A1 K w0 l0 A0 c0 x1 x2 x3 hR0 hL0 b1 b2 b3 b4 r1 b5 hc1 hc6 e1 hx6 b6 b7) (B := redo_Response.B1 K w0 l0 A0 c0 x1 x2 x3 hR0 hL0 b1 b2 b3 b4 r1 b5 hc1 hc6 e1 hx6 b6 b7) hq4 (fun a hF => ⟨hS43, hF.weaken ⟨by kernel_rfl, by kernel_rfl, by kernel_rfl, by kernel_rfl, by kernel_rfl, by kernel_rfl, by kernel_rfl, by kernel_rfl, by kernel_rfl, by kernel_rfl, trivial⟩⟩) (fun s o hf a w hA Q hQ => redo_Response_r1 K w0 l0 A0 c0 x1 x2 x3 hR0 hL0 b1 b2 b3 b4 r1 b5 hc1 hc6 e1 hx6 b6 b7 s o hf a w hA Q hQ) ?_
          rintro _ a w1 _ ⟨rfl, hb⟩
          obtain rfl := Option.some.inj h
          exact hb
      · rw [if_neg hc6] at h
        cases h
    · rw [hq2] at h
      simp only [] at h
      refine we_keep (e' := [(0, .slice A0 l0.length c0), (1, .int .i64 x1), (2, .int .i64 x2), (3, .int .i64 x3), (4, .pointer (some ⟨b1, 0, none⟩)), (5, .pointer (some ⟨b2, 0, none⟩)), (6, .pointer (some ⟨b3, 0, none⟩)), (8, .int .i64 0), (9, .pointer (some ⟨b4, 0, none⟩)), (10, .int .i64 r1.1), (11, .pointer (some ⟨b5, 0, none⟩)), (17, .tuple #[.int .i64 r1.1, .agg #[.int .i64 r1.2.Code, .int .i64 r1.2.At]]), (18, .slice A0 l0.length c0), (19, .int .i64 x1), (20, .tuple #[.int .i64 r1.1, .agg #[.int .i64 r1.2.Code, .int .i64 r1.2.At]]), (21, .int .i64 r1.1), (22, .agg #[.int .i64 r1.2.Code, .int .i64 r1.2.At]), (23, .pointer (some ⟨b5, 0, none⟩)), (24, .int .i64 r1.2.Code), (25, .bool false)]) ⟨by kernel_rfl, by kernel_rfl, by kernel_rfl, by kernel_rfl, by kernel_rfl, by kernel_rfl, by kernel_rfl, by kernel_rfl, by kernel_rfl, by kernel_rfl, by kernel_rfl, by kernel_rfl, by kernel_rfl, by kernel_rfl, by kernel_rfl, by kernel_rfl, by kernel_rfl, by kernel_rfl, by kernel_rfl, by kernel_rfl, trivial⟩ (redo_Response_p0 K w0 l0 A0 c0 x1 x2 x3 hR0 hL0 b1 b2 b3 b4 r1 b5 hc1 _ hq2 _ hS9 _ ?_)
      rintro _ a w1 ⟨_, rfl, hb⟩
      obtain rfl := Option.some.inj h
      exact hb
  · rw [if_neg hc1] at h
    refine we_known (t := 25) (b := (r1.2.Code != 0)) (v := true) (by kernel_rfl) (bne_iff_ne.2 hc1) ?_
    refine we_true (by kernel_rfl) ?_
    refine we_seq fun K25 hK25 => ?_
    refine we_draws (by kernel_rfl) [(0, 0), (1, 0), (2, 2)] (by kernel_rfl) ?_
    have hS85 := hS9.drew
    refine ge_batch [0, 1] (ans := [.val (.int .i64 r1.2.Code), .val (.int .i64 r1.2.At)]) (vs := [(8, .int .i64 0), (26, .agg #[.int .i64 r1.2.Code, .int .i64 r1.2.At])]) (l := [.loaded ⟨b5, 0, none⟩ (.int .i64 r1.2.Code), .loaded ⟨b5, 1, none⟩ (.int .i64 r1.2.At)]) (by kernel_rfl) ⟨hS85.cell 0 rfl rfl, hS85.cell 0 rfl rfl, trivial⟩ ?_
    have hS86 := hS85.bring 1 rfl
    refine ge_set (b := b4) (j := 0) (cs := #[.int .i64 0, .int .i64 0]) (t := 39) (vs := [.int .i64 r1.2.Code, .int .i64 r1.2.At]) hS86 (by kernel_rfl) rfl rfl fun w25 hS87 => ?_
    have hS88 : St w0 w25 [Own.blk b4 (.cells #[.int .i64 r1.2.Code, .int .i64 r1.2.At] 39 (0, 0)), Own.blk b5 (.cells #[.int .i64 r1.2.Code, .int .i64 r1.2.At] 39 (0, 0)), Own.blk b3 (.cells #[.int .i64 x2] 3 (0, 0)), Own.blk b2 (.cells #[.int .i64 x1] 3 (0, 0)), Own.blk b1 (.cells #[.slice A0 l0.length c0] 47 (0, 0))] := hS87
    refine ge_nil fun a hF => hK25 _ _ ?_ a hF
    have hS89 := hS88.takeN 0
    obtain rfl := Option.some.inj h
    exact we_ret (post_ret (rs := [.tmp 8, .cell 9 39]) (ans := [.val (.int .i64 r1.2.Code), .val (.int .i64 r1.2.At)]) (vs := [.int .i64 0, .agg #[.int .i64 r1.2.Code, .int .i64 r1.2.At]]) (l := [.loaded ⟨b4, 0, none⟩ (.int .i64 r1.2.Code), .loaded ⟨b4, 1, none⟩ (.int .i64 r1.2.At)]) rfl (by kernel_rfl) ⟨hS88.cell 0 rfl rfl, hS88.cell 0 rfl rfl, trivial⟩ ⟨rfl, hS89⟩)

/-! punctual/punctualsame.Same[int] -/
abbrev punctualsame_Same_int.Post (w0 : World) (r : Bool) (e : Ending) (w : World) : Prop := e = .returned (.bool r) ∧ St w0 w []
def punctualsame_Same_int.r0 (l0 : List Int) (l1 : List Int) : Nat → Option (Nat ⊕ (Unit ⊕ Bool))
  | i1 =>
    if (i1 : Int) < (l0.length : Int) then
      match l0[i1]? with
      | none => none
      | some e1 =>
        match l1[i1]? with
        | none => none
        | some e2 =>
          if e1 = e2 then
            some (.inl (i1 + 1))
          else
            some (.inr (.inr false))
    else
      some (.inr (.inl ()))
def punctualsame_Same_int.f (K : Nat) (l0 : List Int) (l1 : List Int) : Option Bool :=
  if (l0.length : Int) = (l1.length : Int) then
    match iter (punctualsame_Same_int.r0 l0 l1) K 0 with
    | none => none
    | some (.inl _) =>
      some true
    | some (.inr rr1) =>
      some rr1
  else
    some false
abbrev punctualsame_Same_int.A0 (K : Nat) (w0 : World) (l0 : List Int) (A0 : Option Addr) (c0 : Nat) (l1 : List Int) (A1 : Option Addr) (c1 : Nat) (hR0 : RdL w0 A0 l0) (hL0 : l0.length ≤ c0) (hR1 : RdL w0 A1 l1) (hL1 : l1.length ≤ c1) (hc1 : (l0.length : Int) = (l1.length : Int)) : Nat → Act → World → Prop := fun (s : Nat) a w => St w0 w [] ∧ Frm 26 a [(0, .slice A0 l0.length c0), (1, .slice A1 l1.length c1), (12, .int .i64 (l0.length : Int)), (13, .int .i64 (s : Int))]
abbrev punctualsame_Same_int.B0 (K : Nat) (w0 : World) (l0 : List Int) (A0 : Option Addr) (c0 : Nat) (l1 : List Int) (A1 : Option Addr) (c1 : Nat) (hR0 : RdL w0 A0 l0) (hL0 : l0.length ≤ c0) (hR1 : RdL w0 A1 l1) (hL1 : l1.length ≤ c1) (hc1 : (l0.length : Int) = (l1.length : Int)) : (Unit ⊕ Bool) → Exit → Act → World → Prop := Exits 0 (fun (s : Unit) a w => St w0 w [] ∧ Frm 26 a []) (Rets Tryd.prog Tryd.f40 (punctualsame_Same_int.Post w0))
theorem punctualsame_Same_int_r0 (K : Nat) (w0 : World) (l0 : List Int) (A0 : Option Addr) (c0 : Nat) (l1 : List Int) (A1 : Option Addr) (c1 : Nat) (hR0 : RdL w0 A0 l0) (hL0 : l0.length ≤ c0) (hR1 : RdL w0 A1 l1) (hL1 : l1.length ≤ c1) (hc1 : (l0.length : Int) = (l1.length : Int)) (s : Nat) (o : Nat ⊕ (Unit ⊕ Bool)) (h : punctualsame_Same_int.r0 l0 l1 s = some o) (a : Act) (w : World) (hA : punctualsame_Same_int.A0 K w0 l0 A0 c0 l1 A1 c1 hR0 hL0 hR1 hL1 hc1 s a w) (Q : Exit → Act → World → Prop) (hQ : ∀ x a w, Outs (punctualsame_Same_int.A0 K w0 l0 A0 c0 l1 A1 c1 hR0 hL0 hR1 hL1 hc1) (punctualsame_Same_int.B0 K w0 l0 A0 c0 l1 A1 c1 hR0 hL0 hR1 hL1 hc1) o x a w → Q x a w) : (subF Tryd.f40 [1, 1, 0, 1, 0, 0]).wp Tryd.prog Q a w := by
  obtain ⟨i1, hs⟩ : ∃ z, z = s := ⟨s, rfl⟩
  subst hs
  obtain ⟨hS, hF⟩ := hA
  replace hS : St w0 w [] := hS
  simp only [punctualsame_Same_int.r0] at h
  refine (?_ : WE Tryd.prog 26 (subF Tryd.f40 [1, 1, 0, 1, 0, 0]) Q [(0, .slice A0 l0.length c0), (1, .slice A1 l1.length c1), (12, .int .i64 (l0.length : Int)), (13, .int .i64 (i1 : Int))] w) a hF
  clear hF a
  refine we_seq fun K6 hK6 => ?_
  refine we_region [(0, 0)] rfl ?_
  refine ge_batch [0] (ans := []) (vs := [(14, .bool (decide ((i1 : Int) < (l0.length : Int))))]) (l := []) (by kernel_rfl) trivial ?_
  refine ge_nil fun a hF => hK6 _ _ ?_ a hF
  refine we_seq fun K7 hK7 => ?_
  by_cases hc2 : (i1 : Int) < (l0.length : Int)
  · rw [if_pos hc2] at h
    refine we_known (t := 14) (b := decide ((i1 : Int) < (l0.length : Int))) (v := true) (by kernel_rfl) (decide_eq_true hc2) ?_
    refine we_true (by kernel_rfl) ?_
    refine we_skip fun a hF => hK7 _ _ ?_ a hF
    refine we_seq fun K8 hK8 => ?_
    refine we_block ?_
    refine we_seq fun K9 hK9 => ?_
    refine we_region [(0, 0), (1, 0)] rfl ?_
    refine ge_batch [0, 1] (ans := []) (vs := [(5, .int .i64 (i1 : Int)), (15, .int .i64 (i1 : Int))]) (l := []) (by kernel_rfl) trivial ?_
    refine ge_nil fun a hF => hK9 _ _ ?_ a hF
    refine we_seq fun K10 hK10 => ?_
    refine we_draws (by kernel_rfl) [(0, 0), (1, 0), (2, 0), (3, 0), (4, 0), (5, 0), (6, 0), (7, 0), (8, 0)] (by kernel_rfl) ?_
    have hS1 := hS.drew
    refine ge_batch [0, 1] (ans := []) (vs := [(17, .int .i64 (i1 : Int)), (16, .slice A0 l0.length c0)]) (l := []) (by kernel_rfl) trivial ?_
    rcases hx1 : l0[i1]? with _ | e1
    · rw [hx1] at h; cases h
    rw [hx1] at h
    simp only [] at h
    refine ge_index (d := 18) (ty := 0) (t := 24) (el := 3) (sz := 1) (m := l0.length) (c := c0) (x := (.tmp 16)) (y := (.tmp 17)) (A := A0) (k' := .i64) (j := (i1 : Int)) (jn := i1) (b0 := blkOf A0) (o0 := offOf A0) (by kernel_rfl) (by kernel_rfl) (by kernel_rfl) (by kernel_rfl) (by kernel_rfl) ((hS1.rd hR0).eqSome (pos_of_get hx1)) rfl (lt_of_get hx1) ?_
    refine ge_batch [3, 4, 5] (ans := [.val (.int .i64 e1)]) (vs := [(21, .int .i64 (i1 : Int)), (20, .slice A1 l1.length c1), (19, .int .i64 e1)]) (l := [.loaded ⟨blkOf A0, offOf A0 + i1 * 1, none⟩ (.int .i64 e1)]) (by kernel_rfl) ⟨RdL.cell (j := 0) (hS1.rd hR0) hx1 rfl, trivial⟩ ?_
    rcases hx2 : l1[i1]? with _ | e2
    · rw [hx2] at h; cases h
    rw [hx2] at h
    simp only [] at h
    refine ge_index (d := 22) (ty := 0) (t := 24) (el := 3) (sz := 1) (m := l1.length) (c := c1) (x := (.tmp 20)) (y := (.tmp 21)) (A := A1) (k' := .i64) (j := (i1 : Int)) (jn := i1) (b0 := blkOf A1) (o0 := offOf A1) (by kernel_rfl) (by kernel_rfl) (by kernel_rfl) (by kernel_rfl) (by kernel_rfl) ((hS1.rd hR1).eqSome (pos_of_get hx2)) rfl (lt_of_get hx2) ?_
    refine ge_batch [7, 8] (ans := [.val (.int .i64 e2)]) (vs := [(24, .bool (e1 != e2)), (23, .int .i64 e2)]) (l := [.loaded ⟨blkOf A1, offOf A1 + i1 * 1, none⟩ (.int .i64 e2)]) (by kernel_rfl) ⟨RdL.cell (j := 0) (hS1.rd hR1) hx2 rfl, trivial⟩ ?_
    refine ge_nil fun a hF => hK10 _ _ ?_ a hF
    by_cases hc3 : e1 = e2
    · rw [if_pos hc3] at h
      refine we_known (t := 24) (b := (e1 != e2)) (v := false) (by kernel_rfl) (bne_eq_false_iff_eq.2 hc3) ?_
      refine we_false (by kernel_rfl) ?_
      refine we_skip fun a hF => hK8 _ _ ?_ a hF
      refine we_region [(0, 0), (1, 0)] rfl ?_
      refine ge_addn (d := 25) (ty := 3) (x := (.tmp 13)) (y := (.const (.int .i64 1))) (t := 3) (t2 := 3) (k := .i64) (m := i1) (by kernel_rfl) (by kernel_rfl) (by kernel_rfl) (by have h0 := hR0.small; omega) ?_
      refine ge_batch [1] (ans := []) (vs := [(13, .int .i64 ((i1 + 1 : Nat) : Int))]) (l := []) (by kernel_rfl) trivial ?_
      obtain rfl := Option.some.inj h
      exact ge_nil fun a hF => hQ _ _ _ (Outs.again ⟨hS1, hF.weaken ⟨by kernel_rfl, by kernel_rfl, by kernel_rfl, by kernel_rfl, trivial⟩⟩)
    · rw [if_neg hc3] at h
      refine we_known (t := 24) (b := (e1 != e2)) (v := true) (by kernel_rfl) (bne_iff_ne.2 hc3) ?_
      refine we_true (by kernel_rfl) ?_
      refine we_seq fun K11 hK11 => ?_
      refine we_region [(0, 0)] rfl ?_
      refine ge_batch [0] (ans := []) (vs := [(4, .bool false)]) (l := []) (by kernel_rfl) trivial ?_
      refine ge_nil fun a hF => hK11 _ _ ?_ a hF
      obtain rfl := Option.some.inj h
      exact we_ret fun a hF => hQ _ _ _ (Outs.out nofun (Exits.on ⟨rfl, (post_ret (rs := [.tmp 4]) (ans := []) (vs := [.bool false]) (l := []) rfl (by kernel_rfl) trivial ⟨rfl, hS1⟩) a hF⟩))
  · rw [if_neg hc2] at h
    refine we_known (t := 14) (b := decide ((i1 : Int) < (l0.length : Int))) (v := false) (by kernel_rfl) (decide_eq_false hc2) ?_
    refine we_false (by kernel_rfl) ?_
    obtain rfl := Option.some.inj h
    exact we_exit fun a hF => hQ _ _ _ (Outs.out nofun (Exits.here ⟨hS, hF.weaken trivial⟩))
theorem punctualsame_Same_int_ok (K : Nat) (l0 : List Int) (A0 : Option Addr) (c0 : Nat) (l1 : List Int) (A1 : Option Addr) (c1 : Nat) (w0 : World) (hR0 : RdL w0 A0 l0) (hL0 : l0.length ≤ c0) (hR1 : RdL w0 A1 l1) (hL1 : l1.length ≤ c1) (r : Bool) (h : punctualsame_Same_int.f K l0 l1 = some r) :
    Calls Tryd.prog 40 #[.slice A0 l0.length c0, .slice A1 l1.length c1] w0 (punctualsame_Same_int.Post w0 r) := by
  have hS := St.start w0
  unfold punctualsame_Same_int.f at h
  refine calls_enter (n := 26) (args := [.slice A0 l0.length c0, .slice A1 l1.length c1]) (fn := Tryd.f40) rfl rfl rfl rfl ?_
  show WE _ _ _ _ [(0, .slice A0 l0.length c0), (1, .slice A1 l1.length c1)] _
  refine we_seq fun K1 hK1 => ?_
  refine we_region [(0, 0)] rfl ?_
  refine ge_batch [0] (ans := []) (vs := [(4, .bool false)]) (l := []) (by kernel_rfl) trivial ?_
  refine ge_nil fun a hF => hK1 _ _ ?_ a hF
  refine we_seq fun K2 hK2 => ?_
  refine we_seq fun K3 hK3 => ?_
  refine we_region [(0, 0), (1, 0), (2, 0), (3, 0), (4, 0)] rfl ?_
  refine ge_batch [0, 1, 2, 3, 4] (ans := []) (vs := [(10, .bool ((l0.length : Int) != (l1.length : Int))), (9, .int .i64 (l1.length : Int)), (8, .slice A1 l1.length c1), (7, .int .i64 (l0.length : Int)), (6, .slice A0 l0.length c0)]) (l := []) (by kernel_rfl) trivial ?_
  refine ge_nil fun a hF => hK3 _ _ ?_ a hF
  by_cases hc1 : (l0.length : Int) = (l1.length : Int)
  · rw [if_pos hc1] at h
    refine we_known (t := 10) (b := ((l0.length : Int) != (l1.length : Int))) (v := false) (by kernel_rfl) (bne_eq_false_iff_eq.2 hc1) ?_
    refine we_false (by kernel_rfl) ?_
    refine we_skip fun a hF => hK2 _ _ ?_ a hF
    refine we_seq fun K4 hK4 => ?_
    refine we_seq fun K5 hK5 => ?_
    refine we_region [(0, 0), (1, 0), (2, 0)] rfl ?_
    refine ge_batch [0, 1, 2] (ans := []) (vs := [(13, .int .i64 0), (12, .int .i64 (l0.length : Int)), (11, .slice A0 l0.length c0)]) (l := []) (by kernel_rfl) trivial ?_
    refine ge_nil fun a hF => hK5 _ _ ?_ a hF
    refine we_block ?_
    rcases hq1 : iter (punctualsame_Same_int.r0 l0 l1) K 0 with _ | (_ | rr1)
    · rw [hq1] at h; cases h
    · rw [hq1] at h
      simp only [] at h
      refine we_iter (A := punctualsame_Same_int.A0 K w0 l0 A0 c0 l1 A1 c1 hR0 hL0 hR1 hL1 hc1) (B := punctualsame_Same_int.B0 K w0 l0 A0 c0 l1 A1 c1 hR0 hL0 hR1 hL1 hc1) hq1 (fun a hF => ⟨hS, hF.weaken ⟨by kernel_rfl, by kernel_rfl, by kernel_rfl, by kernel_rfl, trivial⟩⟩) (fun s o hf a w hA Q hQ => punctualsame_Same_int_r0 K w0 l0 A0 c0 l1 A1 c1 hR0 hL0 hR1 hL1 hc1 s o hf a w hA Q hQ) ?_
      rintro _ a w1 _ ⟨rfl, hS2, hF⟩
      replace hS2 : St w0 w1 [] := hS2
      refine hK4 [] w1 ?_ a hF
      refine we_seq fun K12 hK12 => ?_
      refine we_region [(0, 0)] rfl ?_
      refine ge_batch [0] (ans := []) (vs := [(4, .bool true)]) (l := []) (by kernel_rfl) trivial ?_
      refine ge_nil fun a hF => hK12 _ _ ?_ a hF
      obtain rfl := Option.some.inj h
      exact we_ret (post_ret (rs := [.tmp 4]) (ans := []) (vs := [.bool true]) (l := []) rfl (by kernel_rfl) trivial ⟨rfl, hS2⟩)
    · rw [hq1] at h
      simp only [] at h
      refine we_iter (A := punctualsame_Same_int.A0 K w0 l0 A0 c0 l1 A1 c1 hR0 hL0 hR1 hL1 hc1) (B := punctualsame_Same_int.B0 K w0 l0 A0 c0 l1 A1 c1 hR0 hL0 hR1 hL1 hc1) hq1 (fun a hF => ⟨hS, hF.weaken ⟨by kernel_rfl, by kernel_rfl, by kernel_rfl, by kernel_rfl, trivial⟩⟩) (fun s o hf a w hA Q hQ => punctualsame_Same_int_r0 K w0 l0 A0 c0 l1 A1 c1 hR0 hL0 hR1 hL1 hc1 s o hf a w hA Q hQ) ?_
      rintro _ a w1 _ ⟨rfl, hb⟩
      obtain rfl := Option.some.inj h
      exact hb
  · rw [if_neg hc1] at h
    refine we_known (t := 10) (b := ((l0.length : Int) != (l1.length : Int))) (v := true) (by kernel_rfl) (bne_iff_ne.2 hc1) ?_
    refine we_true (by kernel_rfl) ?_
    refine we_seq fun K13 hK13 => ?_
    refine we_region [(0, 0)] rfl ?_
    refine ge_batch [0] (ans := []) (vs := [(4, .bool false)]) (l := []) (by kernel_rfl) trivial ?_
    refine ge_nil fun a hF => hK13 _ _ ?_ a hF
    obtain rfl := Option.some.inj h
    exact we_ret (post_ret (rs := [.tmp 4]) (ans := []) (vs := [.bool false]) (l := []) rfl (by kernel_rfl) trivial ⟨rfl, hS⟩)

/-! punctual/punctuallaw.anew -/
abbrev anew.Post (w0 : World) (r : Bool) (e : Ending) (w : World) : Prop := e = .returned (.bool r) ∧ St w0 w []
def anew.f (K : Nat) : Option Bool :=
  match redo_Play.f K ([(⟨0, 0, 4, 9, 1⟩ : SJob)] : List SJob) 2 ([1, 3] : List Int) 9 with
  | none => none
  | some r1 =>
    match redo_Play.f K ([(⟨0, 0, 4, 9, 1⟩ : SJob)] : List SJob) 0 ([2] : List Int) 9 with
    | none => none
    | some r2 =>
      match redo_Response.f K three.f 1 100 0 with
      | none => none
      | some r3 =>
        if r1.2.Code = 0 then
          if r2.2.Code = 0 then
            if r3.2.Code = 0 then
              match punctualsame_Same_int.f K r1.1.Runs ([0, 0, 0, 0, 0, 0, 0, 0, (-1)] : List Int) with
              | none => none
              | some r4 =>
                if r4 = true then
                  match punctualsame_Same_int.f K r1.1.Ends ([8] : List Int) with
                  | none => none
                  | some r5 =>
                    if r5 = true then
                      match punctualsame_Same_int.f K r2.1.Ends ([7] : List Int) with
                      | none => none
                      | some r6 =>
                        if r6 = true then
                          some (r3.1 == 6)
                        else
                          some false
                    else
                      some false
                else
                  some false
            else
              some false
          else
            some false
        else
          some false
theorem anew_ok (K : Nat)  (w0 : World) (r : Bool) (h : anew.f K = some r) :
    Calls Tryd.prog 67 #[] w0 (anew.Post w0 r) := by
  have hS := St.start w0
  unfold anew.f at h
  refine calls_enter (n := 61) (args := []) (fn := Tryd.f67) rfl rfl rfl rfl ?_
  show WE _ _ _ _ [] _
  refine we_seq fun K1 hK1 => ?_
  refine we_region [(0, 0)] rfl ?_
  refine ge_batch [0] (ans := []) (vs := [(0, .bool false)]) (l := []) (by kernel_rfl) trivial ?_
  refine ge_nil fun a hF => hK1 _ _ ?_ a hF
  refine we_seq fun K2 hK2 => ?_
  refine we_region [(0, 0), (1, 1), (2, 1), (3, 1), (4, 0), (5, 0), (6, 0), (7, 1), (8, 1), (9, 2), (10, 2)] rfl ?_
  refine ge_batch [0] (ans := []) (vs := [(8, .agg #[.int .i64 0, .int .i64 0, .int .i64 4, .int .i64 9, .int .i64 1])]) (l := []) (by kernel_rfl) trivial ?_
  refine ge_new (d := some 9) (o := .cells #[.int .i64 0, .int .i64 0, .int .i64 4, .int .i64 9, .int .i64 1] 58) (v := fun b => .slice (some ⟨b, 0, none⟩) 1 1) hS (fun b => by kernel_rfl) fun b1 w1 hx1 hS1 => ?_
  refine ge_new (d := some 10) (o := .cells #[.int .i64 1, .int .i64 3] 3) (v := fun b => .slice (some ⟨b, 0, none⟩) 2 2) hS1 (fun b => by kernel_rfl) fun b2 w2 hx2 hS2 => ?_
  rcases hq1 : redo_Play.f K ([(⟨0, 0, 4, 9, 1⟩ : SJob)] : List SJob) 2 ([1, 3] : List Int) 9 with _ | r1
  · rw [hq1] at h; cases h
  rw [hq1] at h
  simp only [] at h
  refine ge_call (d := some 11) (f := 69) (args := #[.slice (some ⟨b1, 0, none⟩) 1 1, .int .i64 2, .slice (some ⟨b2, 0, none⟩) 2 2, .int .i64 9]) (by kernel_rfl) (redo_Play_ok K ([(⟨0, 0, 4, 9, 1⟩ : SJob)] : List SJob) (some ⟨b1, 0, none⟩) 1 2 ([1, 3] : List Int) (some ⟨b2, 0, none⟩) 2 9 _ (hS2.rdBlk 1 ([(⟨0, 0, 4, 9, 1⟩ : SJob)] : List SJob) rfl rfl rfl) (Nat.le_refl _) (hS2.rdBlk 0 ([1, 3] : List Int) rfl rfl rfl) (Nat.le_refl _) _ hq1) ?_
  rintro _ w3 ⟨v1, v2, rfl, hS3⟩
  refine ⟨_, rfl, hS3.below, ?_⟩
  have hS4 := hS2.call hS3
  refine ge_batch [4, 5, 6] (ans := []) (vs := [(13, .agg #[.int .i64 r1.2.Code, .int .i64 r1.2.At]), (12, .agg #[v1, v2]), (7, .tuple #[.agg #[v1, v2], .agg #[.int .i64 r1.2.Code, .int .i64 r1.2.At]])]) (l := []) (by kernel_rfl) trivial ?_
  refine ge_new (d := some 1) (o := .cells #[.slice none 0 0, .slice none 0 0] 36) (v := fun b => .pointer (some ⟨b, 0, none⟩)) hS4 (fun b => by kernel_rfl) fun b3 w4 hx3 hS5 => ?_
  refine ge_new (d := some 2) (o := .cells #[.int .i64 0, .int .i64 0] 39) (v := fun b => .pointer (some ⟨b, 0, none⟩)) hS5 (fun b => by kernel_rfl) fun b4 w5 hx4 hS6 => ?_
  obtain ⟨Z1, cz1, rfl⟩ := hS6.open 2 rfl
  obtain ⟨Z2, cz2, rfl⟩ := hS6.open 3 rfl
  have hS7 := hS6.bring 1 rfl
  refine ge_set (b := b3) (j := 0) (cs := #[.slice none 0 0, .slice none 0 0]) (t := 36) (vs := [(.slice Z1 r1.1.Runs.length cz1), (.slice Z2 r1.1.Ends.length cz2)]) hS7 (by kernel_rfl) rfl rfl fun w6 hS8 => ?_
  have hS9 : St w0 w6 [Own.blk b3 (.cells #[(.slice Z1 r1.1.Runs.length cz1), (.slice Z2 r1.1.Ends.length cz2)] 36 (0, 0)), Own.blk b4 (.cells #[.int .i64 0, .int .i64 0] 39 (0, 0)), Own.of (.slice Z1 r1.1.Runs.length cz1) 3 r1.1.Runs, Own.of (.slice Z2 r1.1.Ends.length cz2) 3 r1.1.Ends, Own.blk b2 (.cells #[.int .i64 1, .int .i64 3] 3 (0, 0)), Own.blk b1 (.cells #[.int .i64 0, .int .i64 0, .int .i64 4, .int .i64 9, .int .i64 1] 58 (0, 0))] := hS8
  have hS10 := hS9.bring 1 rfl
  refine ge_set (b := b4) (j := 0) (cs := #[.int .i64 0, .int .i64 0]) (t := 39) (vs := [.int .i64 r1.2.Code, .int .i64 r1.2.At]) hS10 (by kernel_rfl) rfl rfl fun w7 hS11 => ?_
  have hS12 : St w0 w7 [Own.blk b4 (.cells #[.int .i64 r1.2.Code, .int .i64 r1.2.At] 39 (0, 0)), Own.blk b3 (.cells #[(.slice Z1 r1.1.Runs.length cz1), (.slice Z2 r1.1.Ends.length cz2)] 36 (0, 0)), Own.of (.slice Z1 r1.1.Runs.length cz1) 3 r1.1.Runs, Own.of (.slice Z2 r1.1.Ends.length cz2) 3 r1.1.Ends, Own.blk b2 (.cells #[.int .i64 1, .int .i64 3] 3 (0, 0)), Own.blk b1 (.cells #[.int .i64 0, .int .i64 0, .int .i64 4, .int .i64 9, .int .i64 1] 58 (0, 0))] := hS11
  refine ge_nil fun a hF => hK2 _ _ ?_ a hF
  refine we_seq fun K3 hK3 => ?_
  refine we_region [(0, 0), (1, 1), (2, 1), (3, 1), (4, 0), (5, 0), (6, 0), (7, 1), (8, 1), (9, 2), (10, 2)] rfl ?_
  refine ge_batch [0] (ans := []) (vs := [(15, .agg #[.int .i64 0, .int .i64 0, .int .i64 4, .int .i64 9, .int .i64 1])]) (l := []) (by kernel_rfl) trivial ?_
  refine ge_new (d := some 16) (o := .cells #[.int .i64 0, .int .i64 0, .int .i64 4, .int .i64 9, .int .i64 1] 58) (v := fun b => .slice (some ⟨b, 0, none⟩) 1 1) hS12 (fun b => by kernel_rfl) fun b5 w8 hx5 hS13 => ?_
  refine ge_new (d := some 17) (o := .cells #[.int .i64 2] 3) (v := fun b => .slice (some ⟨b, 0, none⟩) 1 1) hS13 (fun b => by kernel_rfl) fun b6 w9 hx6 hS14 => ?_
  rcases hq2 : redo_Play.f K ([(⟨0, 0, 4, 9, 1⟩ : SJob)] : List SJob) 0 ([2] : List Int) 9 with _ | r2
  · rw [hq2] at h; cases h
  rw [hq2] at h
  simp only [] at h
  refine ge_call (d := some 18) (f := 69) (args := #[.slice (some ⟨b5, 0, none⟩) 1 1, .int .i64 0, .slice (some ⟨b6, 0, none⟩) 1 1, .int .i64 9]) (by kernel_rfl) (redo_Play_ok K ([(⟨0, 0, 4, 9, 1⟩ : SJob)] : List SJob) (some ⟨b5, 0, none⟩) 1 0 ([2] : List Int) (some ⟨b6, 0, none⟩) 1 9 _ (hS14.rdBlk 1 ([(⟨0, 0, 4, 9, 1⟩ : SJob)] : List SJob) rfl rfl rfl) (Nat.le_refl _) (hS14.rdBlk 0 ([2] : List Int) rfl rfl rfl) (Nat.le_refl _) _ hq2) ?_
  rintro _ w10 ⟨v3, v4, rfl, hS15⟩
  refine ⟨_, rfl, hS15.below, ?_⟩
  have hS16 := hS14.call hS15
  refine ge_batch [4, 5, 6] (ans := []) (vs := [(20, .agg #[.int .i64 r2.2.Code, .int .i64 r2.2.At]), (19, .agg #[v3, v4]), (14, .tuple #[.agg #[v3, v4], .agg #[.int .i64 r2.2.Code, .int .i64 r2.2.At]])]) (l := []) (by kernel_rfl) trivial ?_
  refine ge_new (d := some 3) (o := .cells #[.slice none 0 0, .slice none 0 0] 36) (v := fun b => .pointer (some ⟨b, 0, none⟩)) hS16 (fun b => by kernel_rfl) fun b7 w11 hx7 hS17 => ?_
  refine ge_new (d := some 4) (o := .cells #[.int .i64 0, .int .i64 0] 39) (v := fun b => .pointer (some ⟨b, 0, none⟩)) hS17 (fun b => by kernel_rfl) fun b8 w12 hx8 hS18 => ?_
  obtain ⟨Z3, cz3, rfl⟩ := hS18.open 2 rfl
  obtain ⟨Z4, cz4, rfl⟩ := hS18.open 3 rfl
  have hS19 := hS18.bring 1 rfl
  refine ge_set (b := b7) (j := 0) (cs := #[.slice none 0 0, .slice none 0 0]) (t := 36) (vs := [(.slice Z3 r2.1.Runs.length cz3), (.slice Z4 r2.1.Ends.length cz4)]) hS19 (by kernel_rfl) rfl rfl fun w13 hS20 => ?_
  have hS21 : St w0 w13 [Own.blk b7 (.cells #[(.slice Z3 r2.1.Runs.length cz3), (.slice Z4 r2.1.Ends.length cz4)] 36 (0, 0)), Own.blk b8 (.cells #[.int .i64 0, .int .i64 0] 39 (0, 0)), Own.of (.slice Z3 r2.1.Runs.length cz3) 3 r2.1.Runs, Own.of (.slice Z4 r2.1.Ends.length cz4) 3 r2.1.Ends, Own.blk b6 (.cells #[.int .i64 2] 3 (0, 0)), Own.blk b5 (.cells #[.int .i64 0, .int .i64 0, .int .i64 4, .int .i64 9, .int .i64 1] 58 (0, 0)), Own.blk b4 (.cells #[.int .i64 r1.2.Code, .int .i64 r1.2.At] 39 (0, 0)), Own.blk b3 (.cells #[(.slice Z1 r1.1.Runs.length cz1), (.slice Z2 r1.1.Ends.length cz2)] 36 (0, 0)), Own.of (.slice Z1 r1.1.Runs.length cz1) 3 r1.1.Runs, Own.of (.slice Z2 r1.1.Ends.length cz2) 3 r1.1.Ends, Own.blk b2 (.cells #[.int .i64 1, .int .i64 3] 3 (0, 0)), Own.blk b1 (.cells #[.int .i64 0, .int .i64 0, .int .i64 4, .int .i64 9, .int .i64 1] 58 (0, 0))] := hS20
  have hS22 := hS21.bring 1 rfl
  refine ge_set (b := b8) (j := 0) (cs := #[.int .i64 0, .int .i64 0]) (t := 39) (vs := [.int .i64 r2.2.Code, .int .i64 r2.2.At]) hS22 (by kernel_rfl) rfl rfl fun w14 hS23 => ?_
  have hS24 : St w0 w14 [Own.blk b8 (.cells #[.int .i64 r2.2.Code, .int .i64 r2.2.At] 39 (0, 0)), Own.blk b7 (.cells #[(.slice Z3 r2.1.Runs.length cz3), (.slice Z4 r2.1.Ends.length cz4)] 36 (0, 0)), Own.of (.slice Z3 r2.1.Runs.length cz3) 3 r2.1.Runs, Own.of (.slice Z4 r2.1.Ends.length cz4) 3 r2.1.Ends, Own.blk b6 (.cells #[.int .i64 2] 3 (0, 0)), Own.blk b5 (.cells #[.int .i64 0, .int .i64 0, .int .i64 4, .int .i64 9, .int .i64 1] 58 (0, 0)), Own.blk b4 (.cells #[.int .i64 r1.2.Code, .int .i64 r1.2.At] 39 (0, 0)), Own.blk b3 (.cells #[(.slice Z1 r1.1.Runs.length cz1), (.slice Z2 r1.1.Ends.length cz2)] 36 (0, 0)), Own.of (.slice Z1 r1.1.Runs.length cz1) 3 r1.1.Runs, Own.of (.slice Z2 r1.1.Ends.length cz2) 3 r1.1.Ends, Own.blk b2 (.cells #[.int .i64 1, .int .i64 3] 3 (0, 0)), Own.blk b1 (.cells #[.int .i64 0, .int .i64 0, .int .i64 4, .int .i64 9, .int .i64 1] 58 (0, 0))] := hS23
  refine ge_nil fun a hF => hK3 _ _ ?_ a hF
  refine we_seq fun K4 hK4 => ?_
  refine we_region [(0, 1), (1, 1), (2, 0), (3, 0), (4, 0), (5, 1), (6, 0), (7, 2)] rfl ?_
  refine ge_call (d := some 22) (f := 126) (args := #[]) (by kernel_rfl) (three_ok _ _ rfl) ?_
  rintro _ w15 ⟨v5, rfl, hS25⟩
  refine ⟨_, rfl, hS25.below, ?_⟩
  have hS26 := hS24.call hS25
  obtain ⟨Z5, cz5, rfl⟩ := hS26.open 0 rfl
  rcases hq4 : redo_Response.f K three.f 1 100 0 with _ | r3
  · rw [hq4] at h; cases h
  rw [hq4] at h
  simp only [] at h
  refine ge_call (d := some 23) (f := 125) (args := #[(.slice Z5 three.f.length cz5), .int .i64 1, .int .i64 100, .int .i64 0]) (by kernel_rfl) (redo_Response_ok K three.f Z5 cz5 1 100 0 _ (hS26.rdAt 0 rfl) (hS26.capAt 0 rfl) _ hq4) ?_
  rintro _ w16 ⟨rfl, hS27⟩
  refine ⟨_, rfl, hS27.below, ?_⟩
  have hS28 := hS26.call hS27
  refine ge_batch [2, 3, 4] (ans := []) (vs := [(25, .agg #[.int .i64 r3.2.Code, .int .i64 r3.2.At]), (24, .int .i64 r3.1), (21, .tuple #[.int .i64 r3.1, .agg #[.int .i64 r3.2.Code, .int .i64 r3.2.At]])]) (l := []) (by kernel_rfl) trivial ?_
  refine ge_new (d := some 6) (o := .cells #[.int .i64 0, .int .i64 0] 39) (v := fun b => .pointer (some ⟨b, 0, none⟩)) hS28 (fun b => by kernel_rfl) fun b9 w17 hx9 hS29 => ?_
  refine ge_batch [6] (ans := []) (vs := [(5, .int .i64 r3.1)]) (l := []) (by kernel_rfl) trivial ?_
  refine ge_set (b := b9) (j := 0) (cs := #[.int .i64 0, .int .i64 0]) (t := 39) (vs := [.int .i64 r3.2.Code, .int .i64 r3.2.At]) hS29 (by kernel_rfl) rfl rfl fun w18 hS30 => ?_
  have hS31 : St w0 w18 [Own.blk b9 (.cells #[.int .i64 r3.2.Code, .int .i64 r3.2.At] 39 (0, 0)), Own.of (.slice Z5 three.f.length cz5) 51 three.f, Own.blk b8 (.cells #[.int .i64 r2.2.Code, .int .i64 r2.2.At] 39 (0, 0)), Own.blk b7 (.cells #[(.slice Z3 r2.1.Runs.length cz3), (.slice Z4 r2.1.Ends.length cz4)] 36 (0, 0)), Own.of (.slice Z3 r2.1.Runs.length cz3) 3 r2.1.Runs, Own.of (.slice Z4 r2.1.Ends.length cz4) 3 r2.1.Ends, Own.blk b6 (.cells #[.int .i64 2] 3 (0, 0)), Own.blk b5 (.cells #[.int .i64 0, .int .i64 0, .int .i64 4, .int .i64 9, .int .i64 1] 58 (0, 0)), Own.blk b4 (.cells #[.int .i64 r1.2.Code, .int .i64 r1.2.At] 39 (0, 0)), Own.blk b3 (.cells #[(.slice Z1 r1.1.Runs.length cz1), (.slice Z2 r1.1.Ends.length cz2)] 36 (0, 0)), Own.of (.slice Z1 r1.1.Runs.length cz1) 3 r1.1.Runs, Own.of (.slice Z2 r1.1.Ends.length cz2) 3 r1.1.Ends, Own.blk b2 (.cells #[.int .i64 1, .int .i64 3] 3 (0, 0)), Own.blk b1 (.cells #[.int .i64 0, .int .i64 0, .int .i64 4, .int .i64 9, .int .i64 1] 58 (0, 0))] := hS30
  refine ge_nil fun a hF => hK4 _ _ ?_ a hF
  refine we_seq fun K5 hK5 => ?_
  refine we_region [(0, 0), (1, 0), (2, 0), (3, 0), (4, 0), (5, 0), (6, 0), (7, 0), (8, 0), (9, 0), (10, 0), (11, 0), (12, 0), (13, 0), (14, 0), (15, 0), (16, 1), (17, 1), (18, 0), (19, 0), (20, 0), (21, 0), (22, 1), (23, 1), (24, 0), (25, 0), (26, 0), (27, 0), (28, 1), (29, 1), (30, 0), (31, 0), (32, 0), (33, 0), (34, 0), (35, 0)] rfl ?_
  refine ge_batch [0, 1, 2, 3] (ans := [.val (.int .i64 r1.2.Code)]) (vs := [(29, .bool (r1.2.Code == 0)), (28, .bool (r1.2.Code == 0)), (27, .int .i64 r1.2.Code), (26, .pointer (some ⟨b4, 0, none⟩))]) (l := [.loaded ⟨b4, 0, none⟩ (.int .i64 r1.2.Code)]) (by kernel_rfl) ⟨hS31.cell 8 rfl rfl, trivial⟩ ?_
  by_cases hc1 : r1.2.Code = 0
  · rw [if_pos hc1] at h
    refine ge_known (t := 29) (b := (r1.2.Code == 0)) (c := true) (by kernel_rfl) (beq_iff_eq.2 hc1) ?_
    refine ge_batch [4, 5, 6, 7, 8] (ans := [.val (.int .i64 r2.2.Code)]) (vs := [(34, .bool (r2.2.Code == 0)), (33, .bool (r2.2.Code == 0)), (32, .bool (r2.2.Code == 0)), (31, .int .i64 r2.2.Code), (30, .pointer (some ⟨b8, 0, none⟩))]) (l := [.loaded ⟨b8, 0, none⟩ (.int .i64 r2.2.Code)]) (by kernel_rfl) ⟨hS31.cell 2 rfl rfl, trivial⟩ ?_
    by_cases hc2 : r2.2.Code = 0
    · rw [if_pos hc2] at h
      refine ge_known (t := 34) (b := (r2.2.Code == 0)) (c := true) (by kernel_rfl) (beq_iff_eq.2 hc2) ?_
      refine ge_batch [9, 10, 11, 12, 13] (ans := [.val (.int .i64 r3.2.Code)]) (vs := [(39, .bool (r3.2.Code == 0)), (38, .bool (r3.2.Code == 0)), (37, .bool (r3.2.Code == 0)), (36, .int .i64 r3.2.Code), (35, .pointer (some ⟨b9, 0, none⟩))]) (l := [.loaded ⟨b9, 0, none⟩ (.int .i64 r3.2.Code)]) (by kernel_rfl) ⟨hS31.cell 0 rfl rfl, trivial⟩ ?_
      by_cases hc3 : r3.2.Code = 0
      · rw [if_pos hc3] at h
        refine ge_known (t := 39) (b := (r3.2.Code == 0)) (c := true) (by kernel_rfl) (beq_iff_eq.2 hc3) ?_
        refine ge_batch [14, 15] (ans := [.val ((.slice Z1 r1.1.Runs.length cz1))]) (vs := [(41, (.slice Z1 r1.1.Runs.length cz1)), (40, .pointer (some ⟨b3, 0, none⟩))]) (l := [.loaded ⟨b3, 0, none⟩ ((.slice Z1 r1.1.Runs.length cz1))]) (by kernel_rfl) ⟨hS31.cell 9 rfl rfl, trivial⟩ ?_
        refine ge_new (d := some 42) (o := .cells #[.int .i64 0, .int .i64 0, .int .i64 0, .int .i64 0, .int .i64 0, .int .i64 0, .int .i64 0, .int .i64 0, .int .i64 (-1)] 3) (v := fun b => .slice (some ⟨b, 0, none⟩) 9 9) hS31 (fun b => by kernel_rfl) fun b10 w19 hx10 hS32 => ?_
        rcases hq5 : punctualsame_Same_int.f K r1.1.Runs ([0, 0, 0, 0, 0, 0, 0, 0, (-1)] : List Int) with _ | r4
        · rw [hq5] at h; cases h
        rw [hq5] at h
        simp only [] at h
        refine ge_call (d := some 43) (f := 40) (args := #[(.slice Z1 r1.1.Runs.length cz1), .slice (some ⟨b10, 0, none⟩) 9 9]) (by kernel_rfl) (punctualsame_Same_int_ok K r1.1.Runs Z1 cz1 ([0, 0, 0, 0, 0, 0, 0, 0, (-1)] : List Int) (some ⟨b10, 0, none⟩) 9 _ (hS32.rdAt 11 rfl) (hS32.capAt 11 rfl) (hS32.rdBlk 0 ([0, 0, 0, 0, 0, 0, 0, 0, (-1)] : List Int) rfl rfl rfl) (Nat.le_refl _) _ hq5) ?_
        rintro _ w20 ⟨rfl, hS33⟩
        refine ⟨_, rfl, hS33.below, ?_⟩
        have hS34 := hS32.call hS33
        refine ge_batch [18, 19] (ans := []) (vs := [(45, .bool r4), (44, .bool r4)]) (l := []) (by kernel_rfl) trivial ?_
        by_cases hc4 : r4 = true
        · rw [if_pos hc4] at h
          refine ge_known (t := 45) (b := r4) (c := true) (by kernel_rfl) hc4 ?_
          refine ge_batch [20, 21] (ans := [.val ((.slice Z2 r1.1.Ends.length cz2))]) (vs := [(47, (.slice Z2 r1.1.Ends.length cz2)), (46, .pointer (some ⟨b3, 1, none⟩))]) (l := [.loaded ⟨b3, 1, none⟩ ((.slice Z2 r1.1.Ends.length cz2))]) (by kernel_rfl) ⟨hS34.cell 10 rfl rfl, trivial⟩ ?_
          refine ge_new (d := some 48) (o := .cells #[.int .i64 8] 3) (v := fun b => .slice (some ⟨b, 0, none⟩) 1 1) hS34 (fun b => by kernel_rfl) fun b11 w21 hx11 hS35 => ?_
          rcases hq6 : punctualsame_Same_int.f K r1.1.Ends ([8] : List Int) with _ | r5
          · rw [hq6] at h; cases h
          rw [hq6] at h
          simp only [] at h
          refine ge_call (d := some 49) (f := 40) (args := #[(.slice Z2 r1.1.Ends.length cz2), .slice (some ⟨b11, 0, none⟩) 1 1]) (by kernel_rfl) (punctualsame_Same_int_ok K r1.1.Ends Z2 cz2 ([8] : List Int) (some ⟨b11, 0, none⟩) 1 _ (hS35.rdAt 13 rfl) (hS35.capAt 13 rfl) (hS35.rdBlk 0 ([8] : List Int) rfl rfl rfl) (Nat.le_refl _) _ hq6) ?_
          rintro _ w22 ⟨rfl, hS36⟩
          refine ⟨_, rfl, hS36.below, ?_⟩
          have hS37 := hS35.call hS36
          refine ge_batch [24, 25] (ans := []) (vs := [(51, .bool r5), (50, .bool r5)]) (l := []) (by kernel_rfl) trivial ?_
          by_cases hc5 : r5 = true
          · rw [if_pos hc5] at h
            refine ge_known (t := 51) (b := r5) (c := true) (by kernel_rfl) hc5 ?_
            refine ge_batch [26, 27] (ans := [.val ((.slice Z4 r2.1.Ends.length cz4))]) (vs := [(53, (.slice Z4 r2.1.Ends.length cz4)), (52, .pointer (some ⟨b7, 1, none⟩))]) (l := [.loaded ⟨b7, 1, none⟩ ((.slice Z4 r2.1.Ends.length cz4))]) (by kernel_rfl) ⟨hS37.cell 5 rfl rfl, trivial⟩ ?_
            refine ge_new (d := some 54) (o := .cells #[.int .i64 7] 3) (v := fun b => .slice (some ⟨b, 0, none⟩) 1 1) hS37 (fun b => by kernel_rfl) fun b12 w23 hx12 hS38 => ?_
            rcases hq7 : punctualsame_Same_int.f K r2.1.Ends ([7] : List Int) with _ | r6
            · rw [hq7] at h; cases h
            rw [hq7] at h
            simp only [] at h
            refine ge_call (d := some 55) (f := 40) (args := #[(.slice Z4 r2.1.Ends.length cz4), .slice (some ⟨b12, 0, none⟩) 1 1]) (by kernel_rfl) (punctualsame_Same_int_ok K r2.1.Ends Z4 cz4 ([7] : List Int) (some ⟨b12, 0, none⟩) 1 _ (hS38.rdAt 8 rfl) (hS38.capAt 8 rfl) (hS38.rdBlk 0 ([7] : List Int) rfl rfl rfl) (Nat.le_refl _) _ hq7) ?_
            rintro _ w24 ⟨rfl, hS39⟩
            refine ⟨_, rfl, hS39.below, ?_⟩
            have hS40 := hS38.call hS39
            refine ge_batch [30, 31] (ans := []) (vs := [(57, .bool r6), (56, .bool r6)]) (l := []) (by kernel_rfl) trivial ?_
            by_cases hc6 : r6 = true
            · rw [if_pos hc6] at h
              refine ge_known (t := 57) (b := r6) (c := true) (by kernel_rfl) hc6 ?_
              refine ge_batch [32, 33, 34, 35] (ans := []) (vs := [(0, .bool (r3.1 == 6)), (60, .bool (r3.1 == 6)), (59, .bool (r3.1 == 6)), (58, .int .i64 r3.1)]) (l := []) (by kernel_rfl) trivial ?_
              refine ge_nil fun a hF => hK5 _ _ ?_ a hF
              have hS41 := hS40.takeN 0
              obtain rfl := Option.some.inj h
              exact we_ret (post_ret (rs := [.tmp 0]) (ans := []) (vs := [.bool (r3.1 == 6)]) (l := []) rfl (by kernel_rfl) trivial ⟨rfl, hS41⟩)
            · rw [if_neg hc6] at h
              refine ge_known (t := 57) (b := r6) (c := false) (by kernel_rfl) (Bool.eq_false_iff.2 hc6) ?_
              refine ge_batch [32, 33, 34, 35] (ans := []) (vs := [(0, .bool false), (60, .bool false), (59, undef), (58, undef)]) (l := []) (by kernel_rfl) trivial ?_
              refine ge_nil fun a hF => hK5 _ _ ?_ a hF
              have hS42 := hS40.takeN 0
              obtain rfl := Option.some.inj h
              exact we_ret (post_ret (rs := [.tmp 0]) (ans := []) (vs := [.bool false]) (l := []) rfl (by kernel_rfl) trivial ⟨rfl, hS42⟩)
          · rw [if_neg hc5] at h
            refine ge_known (t := 51) (b := r5) (c := false) (by kernel_rfl) (Bool.eq_false_iff.2 hc5) ?_
            refine ge_batch [26, 27] (ans := []) (vs := [(53, undef), (52, undef)]) (l := []) (by kernel_rfl) trivial ?_
            refine ge_off rfl rfl rfl (by kernel_rfl) ?_
            refine ge_off rfl rfl rfl (by kernel_rfl) ?_
            refine ge_batch [30, 31, 32, 33, 34, 35] (ans := []) (vs := [(0, .bool false), (60, .bool false), (59, undef), (58, undef), (57, .bool false), (56, .bool false)]) (l := []) (by kernel_rfl) trivial ?_
            refine ge_nil fun a hF => hK5 _ _ ?_ a hF
            have hS43 := hS37.takeN 0
            obtain rfl := Option.some.inj h
            exact we_ret (post_ret (rs := [.tmp 0]) (ans := []) (vs := [.bool false]) (l := []) rfl (by kernel_rfl) trivial ⟨rfl, hS43⟩)
        · rw [if_neg hc4] at h
          refine ge_known (t := 45) (b := r4) (c := false) (by kernel_rfl) (Bool.eq_false_iff.2 hc4) ?_
          refine ge_batch [20, 21] (ans := []) (vs := [(47, undef), (46, undef)]) (l := []) (by kernel_rfl) trivial ?_
          refine ge_off rfl rfl rfl (by kernel_rfl) ?_
          refine ge_off rfl rfl rfl (by kernel_rfl) ?_
          refine ge_batch [24, 25, 26, 27] (ans := []) (vs := [(53, undef), (52, undef), (51, .bool false), (50, .bool false)]) (l := []) (by kernel_rfl) trivial ?_
          refine ge_off rfl rfl rfl (by kernel_rfl) ?_
          refine ge_off rfl rfl rfl (by kernel_rfl) ?_
          refine ge_batch [30, 31, 32, 33, 34, 35] (ans := []) (vs := [(0, .bool false), (60, .bool false), (59, undef), (58, undef), (57, .bool false), (56, .bool false)]) (l := []) (by kernel_rfl) trivial ?_
          refine ge_nil fun a hF => hK5 _ _ ?_ a hF
          have hS44 := hS34.takeN 0
          obtain rfl := Option.some.inj h
          exact we_ret (post_ret (rs := [.tmp 0]) (ans := []) (vs := [.bool false]) (l := []) rfl (by kernel_rfl) trivial ⟨rfl, hS44⟩)
      · rw [if_neg hc3] at h
        refine ge_known (t := 39) (b := (r3.2.Code == 0)) (c := false) (by kernel_rfl) (beq_eq_false_iff_ne.2 hc3) ?_
        refine ge_batch [14, 15] (ans := []) (vs := [(41, undef), (40, undef)]) (l := []) (by kernel_rfl) trivial ?_
        refine ge_off rfl rfl rfl (by kernel_rfl) ?_
        refine ge_off rfl rfl rfl (by kernel_rfl) ?_
        refine ge_batch [18, 19, 20, 21] (ans := []) (vs := [(47, undef), (46, undef), (45, .bool false), (44, .bool false)]) (l := []) (by kernel_rfl) trivial ?_
        refine ge_off rfl rfl rfl (by kernel_rfl) ?_
        refine ge_off rfl rfl rfl (by kernel_rfl) ?_
        refine ge_batch [24, 25, 26, 27] (ans := []) (vs := [(53, undef), (52, undef), (51, .bool false), (50, .bool false)]) (l := []) (by kernel_rfl) trivial ?_
        refine ge_off rfl rfl rfl (by kernel_rfl) ?_
        refine ge_off rfl rfl rfl (by kernel_rfl) ?_
        refine ge_batch [30, 31, 32, 33, 34, 35] (ans := []) (vs := [(0, .bool false), (60, .bool false), (59, undef), (58, undef), (57, .bool false), (56, .bool false)]) (l := []) (by kernel_rfl) trivial ?_
        refine ge_nil fun a hF => hK5 _ _ ?_ a hF
        have hS45 := hS31.takeN 0
        obtain rfl := Option.some.inj h
        exact we_ret (post_ret (rs := [.tmp 0]) (ans := []) (vs := [.bool false]) (l := []) rfl (by kernel_rfl) trivial ⟨rfl, hS45⟩)
    · rw [if_neg hc2] at h
      refine ge_known (t := 34) (b := (r2.2.Code == 0)) (c := false) (by kernel_rfl) (beq_eq_false_iff_ne.2 hc2) ?_
      refine ge_batch [9, 10, 11, 12, 13, 14, 15] (ans := []) (vs := [(41, undef), (40, undef), (39, .bool false), (38, .bool false), (37, undef), (36, undef), (35, undef)]) (l := []) (by kernel_rfl) trivial ?_
      refine ge_off rfl rfl rfl (by kernel_rfl) ?_
      refine ge_off rfl rfl rfl (by kernel_rfl) ?_
      refine ge_batch [18, 19, 20, 21] (ans := []) (vs := [(47, undef), (46, undef), (45, .bool false), (44, .bool false)]) (l := []) (by kernel_rfl) trivial ?_
      refine ge_off rfl rfl rfl (by kernel_rfl) ?_
      refine ge_off rfl rfl rfl (by kernel_rfl) ?_
      refine ge_batch [24, 25, 26, 27] (ans := []) (vs := [(53, undef), (52, undef), (51, .bool false), (50, .bool false)]) (l := []) (by kernel_rfl) trivial ?_
      refine ge_off rfl rfl rfl (by kernel_rfl) ?_
      refine ge_off rfl rfl rfl (by kernel_rfl) ?_
      refine ge_batch [30, 31, 32, 33, 34, 35] (ans := []) (vs := [(0, .bool false), (60, .bool false), (59, undef), (58, undef), (57, .bool false), (56, .bool false)]) (l := []) (by kernel_rfl) trivial ?_
      refine ge_nil fun a hF => hK5 _ _ ?_ a hF
      have hS46 := hS31.takeN 0
      obtain rfl := Option.some.inj h
      exact we_ret (post_ret (rs := [.tmp 0]) (ans := []) (vs := [.bool false]) (l := []) rfl (by kernel_rfl) trivial ⟨rfl, hS46⟩)
  · rw [if_neg hc1] at h
    refine ge_known (t := 29) (b := (r1.2.Code == 0)) (c := false) (by kernel_rfl) (beq_eq_false_iff_ne.2 hc1) ?_
    refine ge_batch [4, 5, 6, 7, 8, 9, 10, 11, 12, 13, 14, 15] (ans := []) (vs := [(41, undef), (40, undef), (39, .bool false), (38, .bool false), (37, undef), (36, undef), (35, undef), (34, .bool false), (33, .bool false), (32, undef), (31, undef), (30, undef)]) (l := []) (by kernel_rfl) trivial ?_
    refine ge_off rfl rfl rfl (by kernel_rfl) ?_
    refine ge_off rfl rfl rfl (by kernel_rfl) ?_
    refine ge_batch [18, 19, 20, 21] (ans := []) (vs := [(47, undef), (46, undef), (45, .bool false), (44, .bool false)]) (l := []) (by kernel_rfl) trivial ?_
    refine ge_off rfl rfl rfl (by kernel_rfl) ?_
    refine ge_off rfl rfl rfl (by kernel_rfl) ?_
    refine ge_batch [24, 25, 26, 27] (ans := []) (vs := [(53, undef), (52, undef), (51, .bool false), (50, .bool false)]) (l := []) (by kernel_rfl) trivial ?_
    refine ge_off rfl rfl rfl (by kernel_rfl) ?_
    refine ge_off rfl rfl rfl (by kernel_rfl) ?_
    refine ge_batch [30, 31, 32, 33, 34, 35] (ans := []) (vs := [(0, .bool false), (60, .bool false), (59, undef), (58, undef), (57, .bool false), (56, .bool false)]) (l := []) (by kernel_rfl) trivial ?_
    refine ge_nil fun a hF => hK5 _ _ ?_ a hF
    have hS47 := hS31.takeN 0
    obtain rfl := Option.some.inj h
    exact we_ret (post_ret (rs := [.tmp 0]) (ans := []) (vs := [.bool false]) (l := []) rfl (by kernel_rfl) trivial ⟨rfl, hS47⟩)

/-! punctual/punctuallaw.few -/
abbrev few.Post (w0 : World) (r : Bool) (e : Ending) (w : World) : Prop := e = .returned (.bool r) ∧ St w0 w []
def few.f (x0 : Int) : Bool :=
  decide (x0 ≤ 5000)
theorem few_ok (x0 : Int) (w0 : World) (r : Bool) (h : few.f x0 = r) :
    Calls Tryd.prog 11 #[.int .i64 x0] w0 (few.Post w0 r) := by
  have hS := St.start w0
  unfold few.f at h
  refine calls_enter (n := 5) (args := [.int .i64 x0]) (fn := Tryd.f11) rfl rfl rfl rfl ?_
  show WE _ _ _ _ [(0, .int .i64 x0)] _
  refine we_seq fun K1 hK1 => ?_
  refine we_region [(0, 0)] rfl ?_
  refine ge_batch [0] (ans := []) (vs := [(2, .bool false)]) (l := []) (by kernel_rfl) trivial ?_
  refine ge_nil fun a hF => hK1 _ _ ?_ a hF
  refine we_seq fun K2 hK2 => ?_
  refine we_region [(0, 0), (1, 0), (2, 0)] rfl ?_
  refine ge_batch [0, 1, 2] (ans := []) (vs := [(2, .bool (decide (x0 ≤ 5000))), (4, .bool (decide (x0 ≤ 5000))), (3, .int .i64 x0)]) (l := []) (by kernel_rfl) trivial ?_
  refine ge_nil fun a hF => hK2 _ _ ?_ a hF
  subst h
  exact we_ret (post_ret (rs := [.tmp 2]) (ans := []) (vs := [.bool (decide (x0 ≤ 5000))]) (l := []) rfl (by kernel_rfl) trivial ⟨rfl, hS⟩)

/-! punctual/punctuallaw.small -/
abbrev small.Post (w0 : World) (r : Bool) (e : Ending) (w : World) : Prop := e = .returned (.bool r) ∧ St w0 w []
def small.f (x0 : Int) (x1 : Int) : Bool :=
  if x0 ≤ 300 then
    if x1 ≤ 3000 then
      true
    else
      if x0 > 4000 then
        true
      else
        decide (x1 > 20000)
  else
    if x0 > 4000 then
      true
    else
      decide (x1 > 20000)
theorem small_ok (x0 : Int) (x1 : Int) (w0 : World) (r : Bool) (h : small.f x0 x1 = r) :
    Calls Tryd.prog 12 #[.int .i64 x0, .int .i64 x1] w0 (small.Post w0 r) := by
  have hS := St.start w0
  unfold small.f at h
  refine calls_enter (n := 19) (args := [.int .i64 x0, .int .i64 x1]) (fn := Tryd.f12) rfl rfl rfl rfl ?_
  show WE _ _ _ _ [(0, .int .i64 x0), (1, .int .i64 x1)] _
  refine we_seq fun K1 hK1 => ?_
  refine we_region [(0, 0)] rfl ?_
  refine ge_batch [0] (ans := []) (vs := [(4, .bool false)]) (l := []) (by kernel_rfl) trivial ?_
  refine ge_nil fun a hF => hK1 _ _ ?_ a hF
  refine we_seq fun K2 hK2 => ?_
  refine we_region [(0, 0), (1, 0), (2, 0), (3, 0), (4, 0), (5, 0), (6, 0), (7, 0), (8, 0), (9, 0), (10, 0), (11, 0), (12, 0), (13, 0), (14, 0)] rfl ?_
  refine ge_batch [0, 1, 2] (ans := []) (vs := [(7, .bool (decide (x0 ≤ 300))), (6, .bool (decide (x0 ≤ 300))), (5, .int .i64 x0)]) (l := []) (by kernel_rfl) trivial ?_
  by_cases hc1 : x0 ≤ 300
  · rw [if_pos hc1] at h
    refine ge_known (t := 7) (b := decide (x0 ≤ 300)) (c := true) (by kernel_rfl) (decide_eq_true hc1) ?_
    refine ge_batch [3, 4, 5, 6] (ans := []) (vs := [(11, .bool (decide (x1 ≤ 3000))), (10, .bool (decide (x1 ≤ 3000))), (9, .bool (decide (x1 ≤ 3000))), (8, .int .i64 x1)]) (l := []) (by kernel_rfl) trivial ?_
    by_cases hc2 : x1 ≤ 3000
    · rw [if_pos hc2] at h
      refine ge_known (t := 11) (b := decide (x1 ≤ 3000)) (c := true) (by kernel_rfl) (decide_eq_true hc2) ?_
      refine ge_batch [7, 8, 9, 10, 11, 12, 13, 14] (ans := []) (vs := [(4, .bool true), (18, .bool true), (17, undef), (16, undef), (15, .bool true), (14, .bool true), (13, undef), (12, undef)]) (l := []) (by kernel_rfl) trivial ?_
      refine ge_nil fun a hF => hK2 _ _ ?_ a hF
      subst h
      exact we_ret (post_ret (rs := [.tmp 4]) (ans := []) (vs := [.bool true]) (l := []) rfl (by kernel_rfl) trivial ⟨rfl, hS⟩)
    · rw [if_neg hc2] at h
      refine ge_known (t := 11) (b := decide (x1 ≤ 3000)) (c := false) (by kernel_rfl) (decide_eq_false hc2) ?_
      refine ge_batch [7, 8, 9, 10] (ans := []) (vs := [(15, .bool (decide (x0 > 4000))), (14, .bool (decide (x0 > 4000))), (13, .bool (decide (x0 > 4000))), (12, .int .i64 x0)]) (l := []) (by kernel_rfl) trivial ?_
      by_cases hc3 : x0 > 4000
      · rw [if_pos hc3] at h
        refine ge_known (t := 15) (b := decide (x0 > 4000)) (c := true) (by kernel_rfl) (decide_eq_true hc3) ?_
        refine ge_batch [11, 12, 13, 14] (ans := []) (vs := [(4, .bool true), (18, .bool true), (17, undef), (16, undef)]) (l := []) (by kernel_rfl) trivial ?_
        refine ge_nil fun a hF => hK2 _ _ ?_ a hF
        subst h
        exact we_ret (post_ret (rs := [.tmp 4]) (ans := []) (vs := [.bool true]) (l := []) rfl (by kernel_rfl) trivial ⟨rfl, hS⟩)
      · rw [if_neg hc3] at h
        refine ge_known (t := 15) (b := decide (x0 > 4000)) (c := false) (by kernel_rfl) (decide_eq_false hc3) ?_
        refine ge_batch [11, 12, 13, 14] (ans := []) (vs := [(4, .bool (decide (x1 > 20000))), (18, .bool (decide (x1 > 20000))), (17, .bool (decide (x1 > 20000))), (16, .int .i64 x1)]) (l := []) (by kernel_rfl) trivial ?_
        refine ge_nil fun a hF => hK2 _ _ ?_ a hF
        subst h
        exact we_ret (post_ret (rs := [.tmp 4]) (ans := []) (vs := [.bool (decide (x1 > 20000))]) (l := []) rfl (by kernel_rfl) trivial ⟨rfl, hS⟩)
  · rw [if_neg hc1] at h
    refine ge_known (t := 7) (b := decide (x0 ≤ 300)) (c := false) (by kernel_rfl) (decide_eq_false hc1) ?_
    refine ge_batch [3, 4, 5, 6, 7, 8, 9, 10] (ans := []) (vs := [(15, .bool (decide (x0 > 4000))), (14, .bool (decide (x0 > 4000))), (13, .bool (decide (x0 > 4000))), (12, .int .i64 x0), (11, .bool false), (10, .bool false), (9, undef), (8, undef)]) (l := []) (by kernel_rfl) trivial ?_
    by_cases hc4 : x0 > 4000
    · rw [if_pos hc4] at h
      refine ge_known (t := 15) (b := decide (x0 > 4000)) (c := true) (by kernel_rfl) (decide_eq_true hc4) ?_
      refine ge_batch [11, 12, 13, 14] (ans := []) (vs := [(4, .bool true), (18, .bool true), (17, undef), (16, undef)]) (l := []) (by kernel_rfl) trivial ?_
      refine ge_nil fun a hF => hK2 _ _ ?_ a hF
      subst h
      exact we_ret (post_ret (rs := [.tmp 4]) (ans := []) (vs := [.bool true]) (l := []) rfl (by kernel_rfl) trivial ⟨rfl, hS⟩)
    · rw [if_neg hc4] at h
      refine ge_known (t := 15) (b := decide (x0 > 4000)) (c := false) (by kernel_rfl) (decide_eq_false hc4) ?_
      refine ge_batch [11, 12, 13, 14] (ans := []) (vs := [(4, .bool (decide (x1 > 20000))), (18, .bool (decide (x1 > 20000))), (17, .bool (decide (x1 > 20000))), (16, .int .i64 x1)]) (l := []) (by kernel_rfl) trivial ?_
      refine ge_nil fun a hF => hK2 _ _ ?_ a hF
      subst h
      exact we_ret (post_ret (rs := [.tmp 4]) (ans := []) (vs := [.bool (decide (x1 > 20000))]) (l := []) rfl (by kernel_rfl) trivial ⟨rfl, hS⟩)

/-! punctual/punctualsame.Lend[punctual/api.Job] -/
abbrev punctualsame_Lend_api_Job.Post (w0 : World) (n : Nat) (r : List SJob) (e : Ending) (w : World) : Prop := ∃ (A : Option Addr) (c : Nat), e = .returned (.slice A n c) ∧ r.length ≤ c ∧ St w0 w [Own.of (.slice A r.length c) 58 r]
def punctualsame_Lend_api_Job.f (l0 : List SJob) (x1 : SJob) : Option (List SJob) :=
  if 0 ≤ (IntKind.i64.wrap ((l0.length : Int) + 3)) then
    if ((IntKind.i64.wrap ((l0.length : Int) + 3)).toNat) ≤ 3518437208883 then
      if (List.replicate 0 (⟨0, 0, 0, 0, 0⟩ : SJob)).length + l0.length ≤ 3518437208883 then
        if ((List.replicate 0 (⟨0, 0, 0, 0, 0⟩ : SJob)) ++ l0).length + 3 ≤ 3518437208883 then
          some (((List.replicate 0 (⟨0, 0, 0, 0, 0⟩ : SJob)) ++ l0) ++ ([x1, x1, x1] : List SJob))
        else
          none
      else
        none
    else
      none
  else
    none
theorem punctualsame_Lend_api_Job_ok (l0 : List SJob) (A0 : Option Addr) (c0 : Nat) (x1 : SJob) (w0 : World) (hR0 : RdL w0 A0 l0) (hL0 : l0.length ≤ c0) (r : List SJob) (h : punctualsame_Lend_api_Job.f l0 x1 = some r) :
    Calls Tryd.prog 25 #[.slice A0 l0.length c0, .agg #[.int .i64 x1.Task, .int .i64 x1.At, .int .i64 x1.C, .int .i64 x1.Due, .int .i64 x1.P]] w0 (punctualsame_Lend_api_Job.Post w0 l0.length r) := by
  have hS := St.start w0
  unfold punctualsame_Lend_api_Job.f at h
  refine calls_enter (n := 21) (args := [.slice A0 l0.length c0, .agg #[.int .i64 x1.Task, .int .i64 x1.At, .int .i64 x1.C, .int .i64 x1.Due, .int .i64 x1.P]]) (fn := Tryd.f25) rfl rfl rfl rfl ?_
  show WE _ _ _ _ [(0, .slice A0 l0.length c0), (1, .agg #[.int .i64 x1.Task, .int .i64 x1.At, .int .i64 x1.C, .int .i64 x1.Due, .int .i64 x1.P])] _
  refine we_seq fun K1 hK1 => ?_
  refine we_region [(0, 1), (1, 0)] rfl ?_
  refine ge_new (d := some 3) (o := .cells #[.int .i64 x1.Task, .int .i64 x1.At, .int .i64 x1.C, .int .i64 x1.Due, .int .i64 x1.P] 58) (v := fun b => .pointer (some ⟨b, 0, none⟩)) hS (fun b => by kernel_rfl) fun b1 w1 hx1 hS1 => ?_
  refine ge_batch [1] (ans := []) (vs := [(4, .slice none 0 0)]) (l := []) (by kernel_rfl) trivial ?_
  refine ge_nil fun a hF => hK1 _ _ ?_ a hF
  refine we_seq fun K2 hK2 => ?_
  refine we_orders2 (by kernel_rfl) [(6, [⟨b1, 0, none⟩, ⟨b1, 1, none⟩, ⟨b1, 2, none⟩, ⟨b1, 3, none⟩, ⟨b1, 4, none⟩]), (7, [⟨b1, 0, none⟩, ⟨b1, 1, none⟩, ⟨b1, 2, none⟩, ⟨b1, 3, none⟩, ⟨b1, 4, none⟩]), (8, [⟨b1, 0, none⟩, ⟨b1, 1, none⟩, ⟨b1, 2, none⟩, ⟨b1, 3, none⟩, ⟨b1, 4, none⟩])] (.vals [0] (.vals [1] (.vals [2] (.vals [4] (.vals [6] (.vals [7] (.vals [8] (.alt 3 1 (.alt 5 2 (.alt 9 1 (.alt 10 2 (.vals [11] .fin) .nomore) .nomore) (.alt 9 1 (.alt 5 2 (.alt 10 2 (.vals [11] .fin) .nomore) .nomore) .nomore)) (.alt 9 1 (.alt 3 1 (.alt 5 2 (.alt 10 2 (.vals [11] .fin) .nomore) .nomore) .nomore) .nomore))))))))) (by kernel_rfl) ?_
  have hS2 := hS1.drew
  refine go2_batch [0, 1, 2, 4] (ans := []) (vs := [(10, .slice A0 l0.length c0), (8, .int .i64 (IntKind.i64.wrap ((l0.length : Int) + 3))), (7, .int .i64 (l0.length : Int)), (6, .slice A0 l0.length c0)]) (l := []) (by kernel_rfl) trivial mem_nil ?_
  refine go2_batch [6] (ans := [.val (.int .i64 x1.Task), .val (.int .i64 x1.At), .val (.int .i64 x1.C), .val (.int .i64 x1.Due), .val (.int .i64 x1.P)]) (vs := [(12, .agg #[.int .i64 x1.Task, .int .i64 x1.At, .int .i64 x1.C, .int .i64 x1.Due, .int .i64 x1.P])]) (l := [.loaded ⟨b1, 0, none⟩ (.int .i64 x1.Task), .loaded ⟨b1, 1, none⟩ (.int .i64 x1.At), .loaded ⟨b1, 2, none⟩ (.int .i64 x1.C), .loaded ⟨b1, 3, none⟩ (.int .i64 x1.Due), .loaded ⟨b1, 4, none⟩ (.int .i64 x1.P)]) (by kernel_rfl) ⟨hS2.cell 0 rfl rfl, hS2.cell 0 rfl rfl, hS2.cell 0 rfl rfl, hS2.cell 0 rfl rfl, hS2.cell 0 rfl rfl, trivial⟩ (mem_one (by kernel_rfl)) ?_
  refine go2_batch [7] (ans := [.val (.int .i64 x1.Task), .val (.int .i64 x1.At), .val (.int .i64 x1.C), .val (.int .i64 x1.Due), .val (.int .i64 x1.P)]) (vs := [(13, .agg #[.int .i64 x1.Task, .int .i64 x1.At, .int .i64 x1.C, .int .i64 x1.Due, .int .i64 x1.P])]) (l := [.loaded ⟨b1, 0, none⟩ (.int .i64 x1.Task), .loaded ⟨b1, 1, none⟩ (.int .i64 x1.At), .loaded ⟨b1, 2, none⟩ (.int .i64 x1.C), .loaded ⟨b1, 3, none⟩ (.int .i64 x1.Due), .loaded ⟨b1, 4, none⟩ (.int .i64 x1.P)]) (by kernel_rfl) ⟨hS2.cell 0 rfl rfl, hS2.cell 0 rfl rfl, hS2.cell 0 rfl rfl, hS2.cell 0 rfl rfl, hS2.cell 0 rfl rfl, trivial⟩ (mem_one (by kernel_rfl)) ?_
  refine go2_batch [8] (ans := [.val (.int .i64 x1.Task), .val (.int .i64 x1.At), .val (.int .i64 x1.C), .val (.int .i64 x1.Due), .val (.int .i64 x1.P)]) (vs := [(14, .agg #[.int .i64 x1.Task, .int .i64 x1.At, .int .i64 x1.C, .int .i64 x1.Due, .int .i64 x1.P])]) (l := [.loaded ⟨b1, 0, none⟩ (.int .i64 x1.Task), .loaded ⟨b1, 1, none⟩ (.int .i64 x1.At), .loaded ⟨b1, 2, none⟩ (.int .i64 x1.C), .loaded ⟨b1, 3, none⟩ (.int .i64 x1.Due), .loaded ⟨b1, 4, none⟩ (.int .i64 x1.P)]) (by kernel_rfl) ⟨hS2.cell 0 rfl rfl, hS2.cell 0 rfl rfl, hS2.cell 0 rfl rfl, hS2.cell 0 rfl rfl, hS2.cell 0 rfl rfl, trivial⟩ (mem_one (by kernel_rfl)) ?_
  by_cases hc1 : 0 ≤ (IntKind.i64.wrap ((l0.length : Int) + 3))
  · rw [if_pos hc1] at h
    by_cases hc2 : ((IntKind.i64.wrap ((l0.length : Int) + 3)).toNat) ≤ 3518437208883
    · rw [if_pos hc2] at h
      refine go_alt2 (fun KK hKK => ?_) ?_
      · refine ge_one2 ?_
        refine ge_make (α := SJob) (d := 9) (t := 49) (el := 58) (bytes := 40) (l := 0) (c := ((IntKind.i64.wrap ((l0.length : Int) + 3)).toNat)) (x := (.const (.int .i64 0))) (y := (.tmp 8)) (ty := 49) (k1 := .i64) (k2 := .i64) (li := 0) (ci := (IntKind.i64.wrap ((l0.length : Int) + 3))) (z := .agg #[.int .i64 0, .int .i64 0, .int .i64 0, .int .i64 0, .int .i64 0]) (z' := (⟨0, 0, 0, 0, 0⟩ : SJob)) (by kernel_rfl) (by kernel_rfl) (by kernel_rfl) rfl (Int.toNat_of_nonneg hc1).symm (by kernel_rfl) (by kernel_rfl) rfl hS2 (Nat.zero_le _) rfl (by omega) fun v1 w2 _ hS3 => ?_
        refine ge_nil fun a hF => hKK _ _ (RS.of2 (l := [.loaded ⟨b1, 0, none⟩ (.int .i64 x1.Task), .loaded ⟨b1, 1, none⟩ (.int .i64 x1.At), .loaded ⟨b1, 2, none⟩ (.int .i64 x1.C), .loaded ⟨b1, 3, none⟩ (.int .i64 x1.Due), .loaded ⟨b1, 4, none⟩ (.int .i64 x1.P), .loaded ⟨b1, 0, none⟩ (.int .i64 x1.Task), .loaded ⟨b1, 1, none⟩ (.int .i64 x1.At), .loaded ⟨b1, 2, none⟩ (.int .i64 x1.C), .loaded ⟨b1, 3, none⟩ (.int .i64 x1.Due), .loaded ⟨b1, 4, none⟩ (.int .i64 x1.P), .loaded ⟨b1, 0, none⟩ (.int .i64 x1.Task), .loaded ⟨b1, 1, none⟩ (.int .i64 x1.At), .loaded ⟨b1, 2, none⟩ (.int .i64 x1.C), .loaded ⟨b1, 3, none⟩ (.int .i64 x1.Due), .loaded ⟨b1, 4, none⟩ (.int .i64 x1.P)]) (by kernel_rfl) ⟨hS2.cell 0 rfl rfl, hS2.cell 0 rfl rfl, hS2.cell 0 rfl rfl, hS2.cell 0 rfl rfl, hS2.cell 0 rfl rfl, hS2.cell 0 rfl rfl, hS2.cell 0 rfl rfl, hS2.cell 0 rfl rfl, hS2.cell 0 rfl rfl, hS2.cell 0 rfl rfl, hS2.cell 0 rfl rfl, hS2.cell 0 rfl rfl, hS2.cell 0 rfl rfl, hS2.cell 0 rfl rfl, hS2.cell 0 rfl rfl, trivial⟩ ⟨hS3.cell 1 rfl rfl, hS3.cell 1 rfl rfl, hS3.cell 1 rfl rfl, hS3.cell 1 rfl rfl, hS3.cell 1 rfl rfl, hS3.cell 1 rfl rfl, hS3.cell 1 rfl rfl, hS3.cell 1 rfl rfl, hS3.cell 1 rfl rfl, hS3.cell 1 rfl rfl, hS3.cell 1 rfl rfl, hS3.cell 1 rfl rfl, hS3.cell 1 rfl rfl, hS3.cell 1 rfl rfl, hS3.cell 1 rfl rfl, trivial⟩) ?_ a hF
        refine go_alt2 (fun KK hKK => ?_) ?_
        · by_cases hc3 : (List.replicate 0 (⟨0, 0, 0, 0, 0⟩ : SJob)).length + l0.length ≤ 3518437208883
          · rw [if_pos hc3] at h
            refine ge_appendL (α := SJob) (m := 0) (d := 11) (t := 49) (el := 58) (bytes := 40) (c1 := c0) (A1 := A0) (x := (.tmp 9)) (y := (.tmp 10)) (ty := 49) (v := v1) (z := .agg #[.int .i64 0, .int .i64 0, .int .i64 0, .int .i64 0, .int .i64 0]) (l := (List.replicate 0 (⟨0, 0, 0, 0, 0⟩ : SJob))) (us := l0) (by kernel_rfl) (by kernel_rfl) (by kernel_rfl) (by kernel_rfl) (by kernel_rfl) rfl hS3 (hS3.rd hR0) rfl (Nat.mul_le_of_le_div _ _ _ hc3) fun v2 w3 hS4 => ?_
            have hS5 : St w0 w3 [Own.of v2 58 ((List.replicate 0 (⟨0, 0, 0, 0, 0⟩ : SJob)) ++ l0), Own.blk b1 (.cells #[.int .i64 x1.Task, .int .i64 x1.At, .int .i64 x1.C, .int .i64 x1.Due, .int .i64 x1.P] 58 (0, 0))] := hS4
            refine ge_nil fun a hF => hKK _ _ (RS.of2 (l := [.loaded ⟨b1, 0, none⟩ (.int .i64 x1.Task), .loaded ⟨b1, 1, none⟩ (.int .i64 x1.At), .loaded ⟨b1, 2, none⟩ (.int .i64 x1.C), .loaded ⟨b1, 3, none⟩ (.int .i64 x1.Due), .loaded ⟨b1, 4, none⟩ (.int .i64 x1.P), .loaded ⟨b1, 0, none⟩ (.int .i64 x1.Task), .loaded ⟨b1, 1, none⟩ (.int .i64 x1.At), .loaded ⟨b1, 2, none⟩ (.int .i64 x1.C), .loaded ⟨b1, 3, none⟩ (.int .i64 x1.Due), .loaded ⟨b1, 4, none⟩ (.int .i64 x1.P), .loaded ⟨b1, 0, none⟩ (.int .i64 x1.Task), .loaded ⟨b1, 1, none⟩ (.int .i64 x1.At), .loaded ⟨b1, 2, none⟩ (.int .i64 x1.C), .loaded ⟨b1, 3, none⟩ (.int .i64 x1.Due), .loaded ⟨b1, 4, none⟩ (.int .i64 x1.P)]) (by kernel_rfl) ⟨hS3.cell 1 rfl rfl, hS3.cell 1 rfl rfl, hS3.cell 1 rfl rfl, hS3.cell 1 rfl rfl, hS3.cell 1 rfl rfl, hS3.cell 1 rfl rfl, hS3.cell 1 rfl rfl, hS3.cell 1 rfl rfl, hS3.cell 1 rfl rfl, hS3.cell 1 rfl rfl, hS3.cell 1 rfl rfl, hS3.cell 1 rfl rfl, hS3.cell 1 rfl rfl, hS3.cell 1 rfl rfl, hS3.cell 1 rfl rfl, trivial⟩ ⟨hS5.cell 1 rfl rfl, hS5.cell 1 rfl rfl, hS5.cell 1 rfl rfl, hS5.cell 1 rfl rfl, hS5.cell 1 rfl rfl, hS5.cell 1 rfl rfl, hS5.cell 1 rfl rfl, hS5.cell 1 rfl rfl, hS5.cell 1 rfl rfl, hS5.cell 1 rfl rfl, hS5.cell 1 rfl rfl, hS5.cell 1 rfl rfl, hS5.cell 1 rfl rfl, hS5.cell 1 rfl rfl, hS5.cell 1 rfl rfl, trivial⟩) ?_ a hF
            refine go_alt2 (fun KK hKK => ?_) ?_
            · refine ge_one2 ?_
              refine ge_new (d := some 15) (o := .cells #[.int .i64 x1.Task, .int .i64 x1.At, .int .i64 x1.C, .int .i64 x1.Due, .int .i64 x1.P, .int .i64 x1.Task, .int .i64 x1.At, .int .i64 x1.C, .int .i64 x1.Due, .int .i64 x1.P, .int .i64 x1.Task, .int .i64 x1.At, .int .i64 x1.C, .int .i64 x1.Due, .int .i64 x1.P] 58) (v := fun b => .slice (some ⟨b, 0, none⟩) 3 3) hS5 (fun b => by kernel_rfl) fun b2 w4 hx2 hS6 => ?_
              refine ge_nil fun a hF => hKK _ _ (RS.of2 (l := []) (by kernel_rfl) trivial trivial) ?_ a hF
              refine go_alt2 (fun KK hKK => ?_) ?_
              · have hS7 := hS6.bring 1 rfl
                by_cases hc4 : ((List.replicate 0 (⟨0, 0, 0, 0, 0⟩ : SJob)) ++ l0).length + 3 ≤ 3518437208883
                · rw [if_pos hc4] at h
                  refine ge_appendL (α := SJob) (m := 0) (d := 16) (t := 49) (el := 58) (bytes := 40) (c1 := 3) (A1 := (some ⟨b2, 0, none⟩)) (x := (.tmp 11)) (y := (.tmp 15)) (ty := 49) (v := v2) (z := .agg #[.int .i64 0, .int .i64 0, .int .i64 0, .int .i64 0, .int .i64 0]) (l := ((List.replicate 0 (⟨0, 0, 0, 0, 0⟩ : SJob)) ++ l0)) (us := ([x1, x1, x1] : List SJob)) (by kernel_rfl) (by kernel_rfl) (by kernel_rfl) (by kernel_rfl) (by kernel_rfl) rfl hS7 (hS7.rdBlk 1 ([x1, x1, x1] : List SJob) rfl rfl rfl) rfl (Nat.mul_le_of_le_div _ _ _ hc4) fun v3 w5 hS8 => ?_
                  have hS9 : St w0 w5 [Own.of v3 58 (((List.replicate 0 (⟨0, 0, 0, 0, 0⟩ : SJob)) ++ l0) ++ ([x1, x1, x1] : List SJob)), Own.blk b2 (.cells #[.int .i64 x1.Task, .int .i64 x1.At, .int .i64 x1.C, .int .i64 x1.Due, .int .i64 x1.P, .int .i64 x1.Task, .int .i64 x1.At, .int .i64 x1.C, .int .i64 x1.Due, .int .i64 x1.P, .int .i64 x1.Task, .int .i64 x1.At, .int .i64 x1.C, .int .i64 x1.Due, .int .i64 x1.P] 58 (0, 0)), Own.blk b1 (.cells #[.int .i64 x1.Task, .int .i64 x1.At, .int .i64 x1.C, .int .i64 x1.Due, .int .i64 x1.P] 58 (0, 0))] := hS8
                  refine ge_nil fun a hF => hKK _ _ (RS.of2 (l := [.loaded ⟨b1, 0, none⟩ (.int .i64 x1.Task), .loaded ⟨b1, 1, none⟩ (.int .i64 x1.At), .loaded ⟨b1, 2, none⟩ (.int .i64 x1.C), .loaded ⟨b1, 3, none⟩ (.int .i64 x1.Due), .loaded ⟨b1, 4, none⟩ (.int .i64 x1.P), .loaded ⟨b1, 0, none⟩ (.int .i64 x1.Task), .loaded ⟨b1, 1, none⟩ (.int .i64 x1.At), .loaded ⟨b1, 2, none⟩ (.int .i64 x1.C), .loaded ⟨b1, 3, none⟩ (.int .i64 x1.Due), .loaded ⟨b1, 4, none⟩ (.int .i64 x1.P), .loaded ⟨b1, 0, none⟩ (.int .i64 x1.Task), .loaded ⟨b1, 1, none⟩ (.int .i64 x1.At), .loaded ⟨b1, 2, none⟩ (.int .i64 x1.C), .loaded ⟨b1, 3, none⟩ (.int .i64 x1.Due), .loaded ⟨b1, 4, none⟩ (.int .i64 x1.P)]) (by kernel_rfl) ⟨hS6.cell 2 rfl rfl, hS6.cell 2 rfl rfl, hS6.cell 2 rfl rfl, hS6.cell 2 rfl rfl, hS6.cell 2 rfl rfl, hS6.cell 2 rfl rfl, hS6.cell 2 rfl rfl, hS6.cell 2 rfl rfl, hS6.cell 2 rfl rfl, hS6.cell 2 rfl rfl, hS6.cell 2 rfl rfl, hS6.cell 2 rfl rfl, hS6.cell 2 rfl rfl, hS6.cell 2 rfl rfl, hS6.cell 2 rfl rfl, trivial⟩ ⟨hS9.cell 2 rfl rfl, hS9.cell 2 rfl rfl, hS9.cell 2 rfl rfl, hS9.cell 2 rfl rfl, hS9.cell 2 rfl rfl, hS9.cell 2 rfl rfl, hS9.cell 2 rfl rfl, hS9.cell 2 rfl rfl, hS9.cell 2 rfl rfl, hS9.cell 2 rfl rfl, hS9.cell 2 rfl rfl, hS9.cell 2 rfl rfl, hS9.cell 2 rfl rfl, hS9.cell 2 rfl rfl, hS9.cell 2 rfl rfl, trivial⟩) ?_ a hF
                  refine go2_batch [11] (ans := []) (vs := [(5, v3)]) (l := []) (by kernel_rfl) trivial mem_nil ?_
                  refine go_fin2 fun a hF => hK2 _ _ ?_ a hF
                  refine we_seq fun K3 hK3 => ?_
                  refine we_region [(0, 0), (1, 0), (2, 0), (3, 0), (4, 0)] rfl ?_
                  refine ge_batch [0, 1, 2] (ans := []) (vs := [(19, .int .i64 (l0.length : Int)), (18, .slice A0 l0.length c0), (17, v3)]) (l := []) (by kernel_rfl) trivial ?_
                  obtain ⟨Z1, cz1, rfl, hcp1⟩ := hS9.open2 0 rfl
                  refine ge_sliceHi (d := 20) (ty := 49) (t := 49) (el := 58) (sz := 5) (m := ((((List.replicate 0 (⟨0, 0, 0, 0, 0⟩ : SJob)) ++ l0) ++ ([x1, x1, x1] : List SJob)).length)) (c := cz1) (hn := l0.length) (x := (.tmp 17)) (y := (.tmp 19)) (A := Z1) (k' := .i64) (hi := (l0.length : Int)) (by kernel_rfl) (by kernel_rfl) (by kernel_rfl) rfl (by kernel_rfl) (by kernel_rfl) (by have h0 := hcp1; simp only [List.length_append, List.length_cons, List.length_nil] at h0; omega) ?_
                  refine ge_batch [4] (ans := []) (vs := [(4, .slice Z1 l0.length cz1)]) (l := []) (by kernel_rfl) trivial ?_
                  refine ge_nil fun a hF => hK3 _ _ ?_ a hF
                  have hS10 := hS9.takeN 1
                  obtain rfl := Option.some.inj h
                  exact we_ret (post_ret (rs := [.tmp 4]) (ans := []) (vs := [.slice Z1 l0.length cz1]) (l := []) rfl (by kernel_rfl) trivial ⟨Z1, cz1, rfl, hcp1, hS10⟩)
                · rw [if_neg hc4] at h
                  cases h
              exact go_nomore2
            exact go_nomore2
          · rw [if_neg hc3] at h
            cases h
        refine go_alt2 (fun KK hKK => ?_) ?_
        · refine ge_one2 ?_
          refine ge_new (d := some 15) (o := .cells #[.int .i64 x1.Task, .int .i64 x1.At, .int .i64 x1.C, .int .i64 x1.Due, .int .i64 x1.P, .int .i64 x1.Task, .int .i64 x1.At, .int .i64 x1.C, .int .i64 x1.Due, .int .i64 x1.P, .int .i64 x1.Task, .int .i64 x1.At, .int .i64 x1.C, .int .i64 x1.Due, .int .i64 x1.P] 58) (v := fun b => .slice (some ⟨b, 0, none⟩) 3 3) hS3 (fun b => by kernel_rfl) fun b2 w3 hx2 hS4 => ?_
          refine ge_nil fun a hF => hKK _ _ (RS.of2 (l := []) (by kernel_rfl) trivial trivial) ?_ a hF
          refine go_alt2 (fun KK hKK => ?_) ?_
          · have hS5 := hS4.bring 1 rfl
            by_cases hc3 : (List.replicate 0 (⟨0, 0, 0, 0, 0⟩ : SJob)).length + l0.length ≤ 3518437208883
            · rw [if_pos hc3] at h
              refine ge_appendL (α := SJob) (m := 0) (d := 11) (t := 49) (el := 58) (bytes := 40) (c1 := c0) (A1 := A0) (x := (.tmp 9)) (y := (.tmp 10)) (ty := 49) (v := v1) (z := .agg #[.int .i64 0, .int .i64 0, .int .i64 0, .int .i64 0, .int .i64 0]) (l := (List.replicate 0 (⟨0, 0, 0, 0, 0⟩ : SJob))) (us := l0) (by kernel_rfl) (by kernel_rfl) (by kernel_rfl) (by kernel_rfl) (by kernel_rfl) rfl hS5 (hS5.rd hR0) rfl (Nat.mul_le_of_le_div _ _ _ hc3) fun v2 w4 hS6 => ?_
              have hS7 : St w0 w4 [Own.of v2 58 ((List.replicate 0 (⟨0, 0, 0, 0, 0⟩ : SJob)) ++ l0), Own.blk b2 (.cells #[.int .i64 x1.Task, .int .i64 x1.At, .int .i64 x1.C, .int .i64 x1.Due, .int .i64 x1.P, .int .i64 x1.Task, .int .i64 x1.At, .int .i64 x1.C, .int .i64 x1.Due, .int .i64 x1.P, .int .i64 x1.Task, .int .i64 x1.At, .int .i64 x1.C, .int .i64 x1.Due, .int .i64 x1.P] 58 (0, 0)), Own.blk b1 (.cells #[.int .i64 x1.Task, .int .i64 x1.At, .int .i64 x1.C, .int .i64 x1.Due, .int .i64 x1.P] 58 (0, 0))] := hS6
              refine ge_nil fun a hF => hKK _ _ (RS.of2 (l := [.loaded ⟨b1, 0, none⟩ (.int .i64 x1.Task), .loaded ⟨b1, 1, none⟩ (.int .i64 x1.At), .loaded ⟨b1, 2, none⟩ (.int .i64 x1.C), .loaded ⟨b1, 3, none⟩ (.int .i64 x1.Due), .loaded ⟨b1, 4, none⟩ (.int .i64 x1.P), .loaded ⟨b1, 0, none⟩ (.int .i64 x1.Task), .loaded ⟨b1, 1, none⟩ (.int .i64 x1.At), .loaded ⟨b1, 2, none⟩ (.int .i64 x1.C), .loaded ⟨b1, 3, none⟩ (.int .i64 x1.Due), .loaded ⟨b1, 4, none⟩ (.int .i64 x1.P), .loaded ⟨b1, 0, none⟩ (.int .i64 x1.Task), .loaded ⟨b1, 1, none⟩ (.int .i64 x1.At), .loaded ⟨b1, 2, none⟩ (.int .i64 x1.C), .loaded ⟨b1, 3, none⟩ (.int .i64 x1.Due), .loaded ⟨b1, 4, none⟩ (.int .i64 x1.P)]) (by kernel_rfl) ⟨hS4.cell 2 rfl rfl, hS4.cell 2 rfl rfl, hS4.cell 2 rfl rfl, hS4.cell 2 rfl rfl, hS4.cell 2 rfl rfl, hS4.cell 2 rfl rfl, hS4.cell 2 rfl rfl, hS4.cell 2 rfl rfl, hS4.cell 2 rfl rfl, hS4.cell 2 rfl rfl, hS4.cell 2 rfl rfl, hS4.cell 2 rfl rfl, hS4.cell 2 rfl rfl, hS4.cell 2 rfl rfl, hS4.cell 2 rfl rfl, trivial⟩ ⟨hS7.cell 2 rfl rfl, hS7.cell 2 rfl rfl, hS7.cell 2 rfl rfl, hS7.cell 2 rfl rfl, hS7.cell 2 rfl rfl, hS7.cell 2 rfl rfl, hS7.cell 2 rfl rfl, hS7.cell 2 rfl rfl, hS7.cell 2 rfl rfl, hS7.cell 2 rfl rfl, hS7.cell 2 rfl rfl, hS7.cell 2 rfl rfl, hS7.cell 2 rfl rfl, hS7.cell 2 rfl rfl, hS7.cell 2 rfl rfl, trivial⟩) ?_ a hF
              refine go_alt2 (fun KK hKK => ?_) ?_
              · by_cases hc4 : ((List.replicate 0 (⟨0, 0, 0, 0, 0⟩ : SJob)) ++ l0).length + 3 ≤ 3518437208883
                · rw [if_pos hc4] at h
                  refine ge_appendL (α := SJob) (m := 0) (d := 16) (t := 49) (el := 58) (bytes := 40) (c1 := 3) (A1 := (some ⟨b2, 0, none⟩)) (x := (.tmp 11)) (y := (.tmp 15)) (ty := 49) (v := v2) (z := .agg #[.int .i64 0, .int .i64 0, .int .i64 0, .int .i64 0, .int .i64 0]) (l := ((List.replicate 0 (⟨0, 0, 0, 0, 0⟩ : SJob)) ++ l0)) (us := ([x1, x1, x1] : List SJob)) (by kernel_rfl) (by kernel_rfl) (by kernel_rfl) (by kernel_rfl) (by kernel_rfl) rfl hS7 (hS7.rdBlk 1 ([x1, x1, x1] : List SJob) rfl rfl rfl) rfl (Nat.mul_le_of_le_div _ _ _ hc4) fun v3 w5 hS8 => ?_
                  have hS9 : St w0 w5 [Own.of v3 58 (((List.replicate 0 (⟨0, 0, 0, 0, 0⟩ : SJob)) ++ l0) ++ ([x1, x1, x1] : List SJob)), Own.blk b2 (.cells #[.int .i64 x1.Task, .int .i64 x1.At, .int .i64 x1.C, .int .i64 x1.Due, .int .i64 x1.P, .int .i64 x1.Task, .int .i64 x1.At, .int .i64 x1.C, .int .i64 x1.Due, .int .i64 x1.P, .int .i64 x1.Task, .int .i64 x1.At, .int .i64 x1.C, .int .i64 x1.Due, .int .i64 x1.P] 58 (0, 0)), Own.blk b1 (.cells #[.int .i64 x1.Task, .int .i64 x1.At, .int .i64 x1.C, .int .i64 x1.Due, .int .i64 x1.P] 58 (0, 0))] := hS8
                  refine ge_nil fun a hF => hKK _ _ (RS.of2 (l := [.loaded ⟨b1, 0, none⟩ (.int .i64 x1.Task), .loaded ⟨b1, 1, none⟩ (.int .i64 x1.At), .loaded ⟨b1, 2, none⟩ (.int .i64 x1.C), .loaded ⟨b1, 3, none⟩ (.int .i64 x1.Due), .loaded ⟨b1, 4, none⟩ (.int .i64 x1.P), .loaded ⟨b1, 0, none⟩ (.int .i64 x1.Task), .loaded ⟨b1, 1, none⟩ (.int .i64 x1.At), .loaded ⟨b1, 2, none⟩ (.int .i64 x1.C), .loaded ⟨b1, 3, none⟩ (.int .i64 x1.Due), .loaded ⟨b1, 4, none⟩ (.int .i64 x1.P), .loaded ⟨b1, 0, none⟩ (.int .i64 x1.Task), .loaded ⟨b1, 1, none⟩ (.int .i64 x1.At), .loaded ⟨b1, 2, none⟩ (.int .i64 x1.C), .loaded ⟨b1, 3, none⟩ (.int .i64 x1.Due), .loaded ⟨b1, 4, none⟩ (.int .i64 x1.P)]) (by kernel_rfl) ⟨hS7.cell 2 rfl rfl, hS7.cell 2 rfl rfl, hS7.cell 2 rfl rfl, hS7.cell 2 rfl rfl, hS7.cell 2 rfl rfl, hS7.cell 2 rfl rfl, hS7.cell 2 rfl rfl, hS7.cell 2 rfl rfl, hS7.cell 2 rfl rfl, hS7.cell 2 rfl rfl, hS7.cell 2 rfl rfl, hS7.cell 2 rfl rfl, hS7.cell 2 rfl rfl, hS7.cell 2 rfl rfl, hS7.cell 2 rfl rfl, trivial⟩ ⟨hS9.cell 2 rfl rfl, hS9.cell 2 rfl rfl, hS9.cell 2 rfl rfl, hS9.cell 2 rfl rfl, hS9.cell 2 rfl rfl, hS9.cell 2 rfl rfl, hS9.cell 2 rfl rfl, hS9.cell 2 rfl rfl, hS9.cell 2 rfl rfl, hS9.cell 2 rfl rfl, hS9.cell 2 rfl rfl, hS9.cell 2 rfl rfl, hS9.cell 2 rfl rfl, hS9.cell 2 rfl rfl, hS9.cell 2 rfl rfl, trivial⟩) ?_ a hF
                  refine go2_batch [11] (ans := []) (vs := [(5, v3)]) (l := []) (by kernel_rfl) trivial mem_nil ?_
                  refine go_fin2 fun a hF => hK2 _ _ ?_ a hF
                  refine we_seq fun K3 hK3 => ?_
                  refine we_region [(0, 0), (1, 0), (2, 0), (3, 0), (4, 0)] rfl ?_
                  refine ge_batch [0, 1, 2] (ans := []) (vs := [(19, .int .i64 (l0.length : Int)), (18, .slice A0 l0.length c0), (17, v3)]) (l := []) (by kernel_rfl) trivial ?_
                  obtain ⟨Z1, cz1, rfl, hcp1⟩ := hS9.open2 0 rfl
                  refine ge_sliceHi (d := 20) (ty := 49) (t := 49) (el := 58) (sz := 5) (m := ((((List.replicate 0 (⟨0, 0, 0, 0, 0⟩ : SJob)) ++ l0) ++ ([x1, x1, x1] : List SJob)).length)) (c := cz1) (hn := l0.length) (x := (.tmp 17)) (y := (.tmp 19)) (A := Z1) (k' := .i64) (hi := (l0.length : Int)) (by kernel_rfl) (by kernel_rfl) (by kernel_rfl) rfl (by kernel_rfl) (by kernel_rfl) (by have h0 := hcp1; simp only [List.length_append, List.length_cons, List.length_nil] at h0; omega) ?_
                  refine ge_batch [4] (ans := []) (vs := [(4, .slice Z1 l0.length cz1)]) (l := []) (by kernel_rfl) trivial ?_
                  refine ge_nil fun a hF => hK3 _ _ ?_ a hF
                  have hS10 := hS9.takeN 1
                  obtain rfl := Option.some.inj h
                  exact we_ret (post_ret (rs := [.tmp 4]) (ans := []) (vs := [.slice Z1 l0.length cz1]) (l := []) rfl (by kernel_rfl) trivial ⟨Z1, cz1, rfl, hcp1, hS10⟩)
                · rw [if_neg hc4] at h
                  cases h
              exact go_nomore2
            · rw [if_neg hc3] at h
              cases h
          exact go_nomore2
        exact go_nomore2
      refine go_alt2 (fun KK hKK => ?_) ?_
      · refine ge_one2 ?_
        refine ge_new (d := some 15) (o := .cells #[.int .i64 x1.Task, .int .i64 x1.At, .int .i64 x1.C, .int .i64 x1.Due, .int .i64 x1.P, .int .i64 x1.Task, .int .i64 x1.At, .int .i64 x1.C, .int .i64 x1.Due, .int .i64 x1.P, .int .i64 x1.Task, .int .i64 x1.At, .int .i64 x1.C, .int .i64 x1.Due, .int .i64 x1.P] 58) (v := fun b => .slice (some ⟨b, 0, none⟩) 3 3) hS2 (fun b => by kernel_rfl) fun b2 w2 hx2 hS3 => ?_
        refine ge_nil fun a hF => hKK _ _ (RS.of2 (l := []) (by kernel_rfl) trivial trivial) ?_ a hF
        refine go_alt2 (fun KK hKK => ?_) ?_
        · refine ge_one2 ?_
          refine ge_make (α := SJob) (d := 9) (t := 49) (el := 58) (bytes := 40) (l := 0) (c := ((IntKind.i64.wrap ((l0.length : Int) + 3)).toNat)) (x := (.const (.int .i64 0))) (y := (.tmp 8)) (ty := 49) (k1 := .i64) (k2 := .i64) (li := 0) (ci := (IntKind.i64.wrap ((l0.length : Int) + 3))) (z := .agg #[.int .i64 0, .int .i64 0, .int .i64 0, .int .i64 0, .int .i64 0]) (z' := (⟨0, 0, 0, 0, 0⟩ : SJob)) (by kernel_rfl) (by kernel_rfl) (by kernel_rfl) rfl (Int.toNat_of_nonneg hc1).symm (by kernel_rfl) (by kernel_rfl) rfl hS3 (Nat.zero_le _) rfl (by omega) fun v1 w3 _ hS4 => ?_
          refine ge_nil fun a hF => hKK _ _ (RS.of2 (l := [.loaded ⟨b1, 0, none⟩ (.int .i64 x1.Task), .loaded ⟨b1, 1, none⟩ (.int .i64 x1.At), .loaded ⟨b1, 2, none⟩ (.int .i64 x1.C), .loaded ⟨b1, 3, none⟩ (.int .i64 x1.Due), .loaded ⟨b1, 4, none⟩ (.int .i64 x1.P), .loaded ⟨b1, 0, none⟩ (.int .i64 x1.Task), .loaded ⟨b1, 1, none⟩ (.int .i64 x1.At), .loaded ⟨b1, 2, none⟩ (.int .i64 x1.C), .loaded ⟨b1, 3, none⟩ (.int .i64 x1.Due), .loaded ⟨b1, 4, none⟩ (.int .i64 x1.P), .loaded ⟨b1, 0, none⟩ (.int .i64 x1.Task), .loaded ⟨b1, 1, none⟩ (.int .i64 x1.At), .loaded ⟨b1, 2, none⟩ (.int .i64 x1.C), .loaded ⟨b1, 3, none⟩ (.int .i64 x1.Due), .loaded ⟨b1, 4, none⟩ (.int .i64 x1.P)]) (by kernel_rfl) ⟨hS3.cell 1 rfl rfl, hS3.cell 1 rfl rfl, hS3.cell 1 rfl rfl, hS3.cell 1 rfl rfl, hS3.cell 1 rfl rfl, hS3.cell 1 rfl rfl, hS3.cell 1 rfl rfl, hS3.cell 1 rfl rfl, hS3.cell 1 rfl rfl, hS3.cell 1 rfl rfl, hS3.cell 1 rfl rfl, hS3.cell 1 rfl rfl, hS3.cell 1 rfl rfl, hS3.cell 1 rfl rfl, hS3.cell 1 rfl rfl, trivial⟩ ⟨hS4.cell 2 rfl rfl, hS4.cell 2 rfl rfl, hS4.cell 2 rfl rfl, hS4.cell 2 rfl rfl, hS4.cell 2 rfl rfl, hS4.cell 2 rfl rfl, hS4.cell 2 rfl rfl, hS4.cell 2 rfl rfl, hS4.cell 2 rfl rfl, hS4.cell 2 rfl rfl, hS4.cell 2 rfl rfl, hS4.cell 2 rfl rfl, hS4.cell 2 rfl rfl, hS4.cell 2 rfl rfl, hS4.cell 2 rfl rfl, trivial⟩) ?_ a hF
          refine go_alt2 (fun KK hKK => ?_) ?_
          · by_cases hc3 : (List.replicate 0 (⟨0, 0, 0, 0, 0⟩ : SJob)).length + l0.length ≤ 3518437208883
            · rw [if_pos hc3] at h
              refine ge_appendL (α := SJob) (m := 0) (d := 11) (t := 49) (el := 58) (bytes := 40) (c1 := c0) (A1 := A0) (x := (.tmp 9)) (y := (.tmp 10)) (ty := 49) (v := v1) (z := .agg #[.int .i64 0, .int .i64 0, .int .i64 0, .int .i64 0, .int .i64 0]) (l := (List.replicate 0 (⟨0, 0, 0, 0, 0⟩ : SJob))) (us := l0) (by kernel_rfl) (by kernel_rfl) (by kernel_rfl) (by kernel_rfl) (by kernel_rfl) rfl hS4 (hS4.rd hR0) rfl (Nat.mul_le_of_le_div _ _ _ hc3) fun v2 w4 hS5 => ?_
              have hS6 : St w0 w4 [Own.of v2 58 ((List.replicate 0 (⟨0, 0, 0, 0, 0⟩ : SJob)) ++ l0), Own.blk b2 (.cells #[.int .i64 x1.Task, .int .i64 x1.At, .int .i64 x1.C, .int .i64 x1.Due, .int .i64 x1.P, .int .i64 x1.Task, .int .i64 x1.At, .int .i64 x1.C, .int .i64 x1.Due, .int .i64 x1.P, .int .i64 x1.Task, .int .i64 x1.At, .int .i64 x1.C, .int .i64 x1.Due, .int .i64 x1.P] 58 (0, 0)), Own.blk b1 (.cells #[.int .i64 x1.Task, .int .i64 x1.At, .int .i64 x1.C, .int .i64 x1.Due, .int .i64 x1.P] 58 (0, 0))] := hS5
              refine ge_nil fun a hF => hKK _ _ (RS.of2 (l := [.loaded ⟨b1, 0, none⟩ (.int .i64 x1.Task), .loaded ⟨b1, 1, none⟩ (.int .i64 x1.At), .loaded ⟨b1, 2, none⟩ (.int .i64 x1.C), .loaded ⟨b1, 3, none⟩ (.int .i64 x1.Due), .loaded ⟨b1, 4, none⟩ (.int .i64 x1.P), .loaded ⟨b1, 0, none⟩ (.int .i64 x1.Task), .loaded ⟨b1, 1, none⟩ (.int .i64 x1.At), .loaded ⟨b1, 2, none⟩ (.int .i64 x1.C), .loaded ⟨b1, 3, none⟩ (.int .i64 x1.Due), .loaded ⟨b1, 4, none⟩ (.int .i64 x1.P), .loaded ⟨b1, 0, none⟩ (.int .i64 x1.Task), .loaded ⟨b1, 1, none⟩ (.int .i64 x1.At), .loaded ⟨b1, 2, none⟩ (.int .i64 x1.C), .loaded ⟨b1, 3, none⟩ (.int .i64 x1.Due), .loaded ⟨b1, 4, none⟩ (.int .i64 x1.P)]) (by kernel_rfl) ⟨hS4.cell 2 rfl rfl, hS4.cell 2 rfl rfl, hS4.cell 2 rfl rfl, hS4.cell 2 rfl rfl, hS4.cell 2 rfl rfl, hS4.cell 2 rfl rfl, hS4.cell 2 rfl rfl, hS4.cell 2 rfl rfl, hS4.cell 2 rfl rfl, hS4.cell 2 rfl rfl, hS4.cell 2 rfl rfl, hS4.cell 2 rfl rfl, hS4.cell 2 rfl rfl, hS4.cell 2 rfl rfl, hS4.cell 2 rfl rfl, trivial⟩ ⟨hS6.cell 2 rfl rfl, hS6.cell 2 rfl rfl, hS6.cell 2 rfl rfl, hS6.cell 2 rfl rfl, hS6.cell 2 rfl rfl, hS6.cell 2 rfl rfl, hS6.cell 2 rfl rfl, hS6.cell 2 rfl rfl, hS6.cell 2 rfl rfl, hS6.cell 2 rfl rfl, hS6.cell 2 rfl rfl, hS6.cell 2 rfl rfl, hS6.cell 2 rfl rfl, hS6.cell 2 rfl rfl, hS6.cell 2 rfl rfl, trivial⟩) ?_ a hF
              refine go_alt2 (fun KK hKK => ?_) ?_
              · by_cases hc4 : ((List.replicate 0 (⟨0, 0, 0, 0, 0⟩ : SJob)) ++ l0).length + 3 ≤ 3518437208883
                · rw [if_pos hc4] at h
                  refine ge_appendL (α := SJob) (m := 0) (d := 16) (t := 49) (el := 58) (bytes := 40) (c1 := 3) (A1 := (some ⟨b2, 0, none⟩)) (x := (.tmp 11)) (y := (.tmp 15)) (ty := 49) (v := v2) (z := .agg #[.int .i64 0, .int .i64 0, .int .i64 0, .int .i64 0, .int .i64 0]) (l := ((List.replicate 0 (⟨0, 0, 0, 0, 0⟩ : SJob)) ++ l0)) (us := ([x1, x1, x1] : List SJob)) (by kernel_rfl) (by kernel_rfl) (by kernel_rfl) (by kernel_rfl) (by kernel_rfl) rfl hS6 (hS6.rdBlk 1 ([x1, x1, x1] : List SJob) rfl rfl rfl) rfl (Nat.mul_le_of_le_div _ _ _ hc4) fun v3 w5 hS7 => ?_
                  have hS8 : St w0 w5 [Own.of v3 58 (((List.replicate 0 (⟨0, 0, 0, 0, 0⟩ : SJob)) ++ l0) ++ ([x1, x1, x1] : List SJob)), Own.blk b2 (.cells #[.int .i64 x1.Task, .int .i64 x1.At, .int .i64 x1.C, .int .i64 x1.Due, .int .i64 x1.P, .int .i64 x1.Task, .int .i64 x1.At, .int .i64 x1.C, .int .i64 x1.Due, .int .i64 x1.P, .int .i64 x1.Task, .int .i64 x1.At, .int .i64 x1.C, .int .i64 x1.Due, .int .i64 x1.P] 58 (0, 0)), Own.blk b1 (.cells #[.int .i64 x1.Task, .int .i64 x1.At, .int .i64 x1.C, .int .i64 x1.Due, .int .i64 x1.P] 58 (0, 0))] := hS7
                  refine ge_nil fun a hF => hKK _ _ (RS.of2 (l := [.loaded ⟨b1, 0, none⟩ (.int .i64 x1.Task), .loaded ⟨b1, 1, none⟩ (.int .i64 x1.At), .loaded ⟨b1, 2, none⟩ (.int .i64 x1.C), .loaded ⟨b1, 3, none⟩ (.int .i64 x1.Due), .loaded ⟨b1, 4, none⟩ (.int .i64 x1.P), .loaded ⟨b1, 0, none⟩ (.int .i64 x1.Task), .loaded ⟨b1, 1, none⟩ (.int .i64 x1.At), .loaded ⟨b1, 2, none⟩ (.int .i64 x1.C), .loaded ⟨b1, 3, none⟩ (.int .i64 x1.Due), .loaded ⟨b1, 4, none⟩ (.int .i64 x1.P), .loaded ⟨b1, 0, none⟩ (.int .i64 x1.Task), .loaded ⟨b1, 1, none⟩ (.int .i64 x1.At), .loaded ⟨b1, 2, none⟩ (.int .i64 x1.C), .loaded ⟨b1, 3, none⟩ (.int .i64 x1.Due), .loaded ⟨b1, 4, none⟩ (.int .i64 x1.P)]) (by kernel_rfl) ⟨hS6.cell 2 rfl rfl, hS6.cell 2 rfl rfl, hS6.cell 2 rfl rfl, hS6.cell 2 rfl rfl, hS6.cell 2 rfl rfl, hS6.cell 2 rfl rfl, hS6.cell 2 rfl rfl, hS6.cell 2 rfl rfl, hS6.cell 2 rfl rfl, hS6.cell 2 rfl rfl, hS6.cell 2 rfl rfl, hS6.cell 2 rfl rfl, hS6.cell 2 rfl rfl, hS6.cell 2 rfl rfl, hS6.cell 2 rfl rfl, trivial⟩ ⟨hS8.cell 2 rfl rfl, hS8.cell 2 rfl rfl, hS8.cell 2 rfl rfl, hS8.cell 2 rfl rfl, hS8.cell 2 rfl rfl, hS8.cell 2 rfl rfl, hS8.cell 2 rfl rfl, hS8.cell 2 rfl rfl, hS8.cell 2 rfl rfl, hS8.cell 2 rfl rfl, hS8.cell 2 rfl rfl, hS8.cell 2 rfl rfl, hS8.cell 2 rfl rfl, hS8.cell 2 rfl rfl, hS8.cell 2 rfl rfl, trivial⟩) ?_ a hF
                  refine go2_batch [11] (ans := []) (vs := [(5, v3)]) (l := []) (by kernel_rfl) trivial mem_nil ?_
                  refine go_fin2 fun a hF => hK2 _ _ ?_ a hF
                  refine we_seq fun K3 hK3 => ?_
                  refine we_region [(0, 0), (1, 0), (2, 0), (3, 0), (4, 0)] rfl ?_
                  refine ge_batch [0, 1, 2] (ans := []) (vs := [(19, .int .i64 (l0.length : Int)), (18, .slice A0 l0.length c0), (17, v3)]) (l := []) (by kernel_rfl) trivial ?_
                  obtain ⟨Z1, cz1, rfl, hcp1⟩ := hS8.open2 0 rfl
                  refine ge_sliceHi (d := 20) (ty := 49) (t := 49) (el := 58) (sz := 5) (m := ((((List.replicate 0 (⟨0, 0, 0, 0, 0⟩ : SJob)) ++ l0) ++ ([x1, x1, x1] : List SJob)).length)) (c := cz1) (hn := l0.length) (x := (.tmp 17)) (y := (.tmp 19)) (A := Z1) (k' := .i64) (hi := (l0.length : Int)) (by kernel_rfl) (by kernel_rfl) (by kernel_rfl) rfl (by kernel_rfl) (by kernel_rfl) (by have h0 := hcp1; simp only [List.length_append, List.length_cons, List.length_nil] at h0; omega) ?_
                  refine ge_batch [4] (ans := []) (vs := [(4, .slice Z1 l0.length cz1)]) (l := []) (by kernel_rfl) trivial ?_
                  refine ge_nil fun a hF => hK3 _ _ ?_ a hF
                  have hS9 := hS8.takeN 1
                  obtain rfl := Option.some.inj h
                  exact we_ret (post_ret (rs := [.tmp 4]) (ans := []) (vs := [.slice Z1 l0.length cz1]) (l := []) rfl (by kernel_rfl) trivial ⟨Z1, cz1, rfl, hcp1, hS9⟩)
                · rw [if_neg hc4] at h
                  cases h
              exact go_nomore2
            · rw [if_neg hc3] at h
              cases h
          exact go_nomore2
        exact go_nomore2
      exact go_nomore2
    · rw [if_neg hc2] at h
      cases h
  · rw [if_neg hc1] at h
    cases h
theorem punctualsame_Lend_api_Job_full (l0 : List SJob) (x1 : SJob) {r : List SJob} (h : punctualsame_Lend_api_Job.f l0 x1 = some r) : r = l0 ++ [x1, x1, x1] := by
  unfold punctualsame_Lend_api_Job.f at h
  repeat' split at h
  all_goals first | (exact (Option.some.inj h).symm) | cases h

/-! punctual/punctualsame.Lend[int] -/
abbrev punctualsame_Lend_int.Post (w0 : World) (n : Nat) (r : List Int) (e : Ending) (w : World) : Prop := ∃ (A : Option Addr) (c : Nat), e = .returned (.slice A n c) ∧ r.length ≤ c ∧ St w0 w [Own.of (.slice A r.length c) 3 r]
def punctualsame_Lend_int.f (l0 : List Int) (x1 : Int) : Option (List Int) :=
  if 0 ≤ (IntKind.i64.wrap ((l0.length : Int) + 3)) then
    if ((IntKind.i64.wrap ((l0.length : Int) + 3)).toNat) ≤ 17592186044416 then
      if (List.replicate 0 (0 : Int)).length + l0.length ≤ 17592186044416 then
        if ((List.replicate 0 (0 : Int)) ++ l0).length + 3 ≤ 17592186044416 then
          some (((List.replicate 0 (0 : Int)) ++ l0) ++ ([x1, x1, x1] : List Int))
        else
          none
      else
        none
    else
      none
  else
    none
theorem punctualsame_Lend_int_ok (l0 : List Int) (A0 : Option Addr) (c0 : Nat) (x1 : Int) (w0 : World) (hR0 : RdL w0 A0 l0) (hL0 : l0.length ≤ c0) (r : List Int) (h : punctualsame_Lend_int.f l0 x1 = some r) :
    Calls Tryd.prog 15 #[.slice A0 l0.length c0, .int .i64 x1] w0 (punctualsame_Lend_int.Post w0 l0.length r) := by
  have hS := St.start w0
  unfold punctualsame_Lend_int.f at h
  refine calls_enter (n := 21) (args := [.slice A0 l0.length c0, .int .i64 x1]) (fn := Tryd.f15) rfl rfl rfl rfl ?_
  show WE _ _ _ _ [(0, .slice A0 l0.length c0), (1, .int .i64 x1)] _
  refine we_seq fun K1 hK1 => ?_
  refine we_region [(0, 0)] rfl ?_
  refine ge_batch [0] (ans := []) (vs := [(4, .slice none 0 0)]) (l := []) (by kernel_rfl) trivial ?_
  refine ge_nil fun a hF => hK1 _ _ ?_ a hF
  refine we_seq fun K2 hK2 => ?_
  refine we_region [(0, 0), (1, 0), (2, 0), (3, 1), (4, 0), (5, 2), (6, 0), (7, 0), (8, 0), (9, 1), (10, 2), (11, 0)] rfl ?_
  refine ge_batch [0, 1, 2] (ans := []) (vs := [(8, .int .i64 (IntKind.i64.wrap ((l0.length : Int) + 3))), (7, .int .i64 (l0.length : Int)), (6, .slice A0 l0.length c0)]) (l := []) (by kernel_rfl) trivial ?_
  by_cases hc1 : 0 ≤ (IntKind.i64.wrap ((l0.length : Int) + 3))
  · rw [if_pos hc1] at h
    by_cases hc2 : ((IntKind.i64.wrap ((l0.length : Int) + 3)).toNat) ≤ 17592186044416
    · rw [if_pos hc2] at h
      refine ge_make (α := Int) (d := 9) (t := 24) (el := 3) (bytes := 8) (l := 0) (c := ((IntKind.i64.wrap ((l0.length : Int) + 3)).toNat)) (x := (.const (.int .i64 0))) (y := (.tmp 8)) (ty := 24) (k1 := .i64) (k2 := .i64) (li := 0) (ci := (IntKind.i64.wrap ((l0.length : Int) + 3))) (z := .int .i64 0) (z' := (0 : Int)) (by kernel_rfl) (by kernel_rfl) (by kernel_rfl) rfl (Int.toNat_of_nonneg hc1).symm (by kernel_rfl) (by kernel_rfl) rfl hS (Nat.zero_le _) rfl (by omega) fun v1 w1 _ hS1 => ?_
      refine ge_batch [4] (ans := []) (vs := [(10, .slice A0 l0.length c0)]) (l := []) (by kernel_rfl) trivial ?_
      by_cases hc3 : (List.replicate 0 (0 : Int)).length + l0.length ≤ 17592186044416
      · rw [if_pos hc3] at h
        refine ge_appendL (α := Int) (m := 0) (d := 11) (t := 24) (el := 3) (bytes := 8) (c1 := c0) (A1 := A0) (x := (.tmp 9)) (y := (.tmp 10)) (ty := 24) (v := v1) (z := .int .i64 0) (l := (List.replicate 0 (0 : Int))) (us := l0) (by kernel_rfl) (by kernel_rfl) (by kernel_rfl) (by kernel_rfl) (by kernel_rfl) rfl hS1 (hS1.rd hR0) rfl (Nat.mul_le_of_le_div _ _ _ hc3) fun v2 w2 hS2 => ?_
        have hS3 : St w0 w2 [Own.of v2 3 ((List.replicate 0 (0 : Int)) ++ l0)] := hS2
        refine ge_batch [6, 7, 8] (ans := []) (vs := [(14, .int .i64 x1), (13, .int .i64 x1), (12, .int .i64 x1)]) (l := []) (by kernel_rfl) trivial ?_
        refine ge_new (d := some 15) (o := .cells #[.int .i64 x1, .int .i64 x1, .int .i64 x1] 3) (v := fun b => .slice (some ⟨b, 0, none⟩) 3 3) hS3 (fun b => by kernel_rfl) fun b1 w3 hx1 hS4 => ?_
        have hS5 := hS4.bring 1 rfl
        by_cases hc4 : ((List.replicate 0 (0 : Int)) ++ l0).length + 3 ≤ 17592186044416
        · rw [if_pos hc4] at h
          refine ge_appendL (α := Int) (m := 0) (d := 16) (t := 24) (el := 3) (bytes := 8) (c1 := 3) (A1 := (some ⟨b1, 0, none⟩)) (x := (.tmp 11)) (y := (.tmp 15)) (ty := 24) (v := v2) (z := .int .i64 0) (l := ((List.replicate 0 (0 : Int)) ++ l0)) (us := ([x1, x1, x1] : List Int)) (by kernel_rfl) (by kernel_rfl) (by kernel_rfl) (by kernel_rfl) (by kernel_rfl) rfl hS5 (hS5.rdBlk 1 ([x1, x1, x1] : List Int) rfl rfl rfl) rfl (Nat.mul_le_of_le_div _ _ _ hc4) fun v3 w4 hS6 => ?_
          have hS7 : St w0 w4 [Own.of v3 3 (((List.replicate 0 (0 : Int)) ++ l0) ++ ([x1, x1, x1] : List Int)), Own.blk b1 (.cells #[.int .i64 x1, .int .i64 x1, .int .i64 x1] 3 (0, 0))] := hS6
          refine ge_batch [11] (ans := []) (vs := [(5, v3)]) (l := []) (by kernel_rfl) trivial ?_
          refine ge_nil fun a hF => hK2 _ _ ?_ a hF
          refine we_seq fun K3 hK3 => ?_
          refine we_region [(0, 0), (1, 0), (2, 0), (3, 0), (4, 0)] rfl ?_
          refine ge_batch [0, 1, 2] (ans := []) (vs := [(19, .int .i64 (l0.length : Int)), (18, .slice A0 l0.length c0), (17, v3)]) (l := []) (by kernel_rfl) trivial ?_
          obtain ⟨Z1, cz1, rfl, hcp1⟩ := hS7.open2 0 rfl
          refine ge_sliceHi (d := 20) (ty := 24) (t := 24) (el := 3) (sz := 1) (m := ((((List.replicate 0 (0 : Int)) ++ l0) ++ ([x1, x1, x1] : List Int)).length)) (c := cz1) (hn := l0.length) (x := (.tmp 17)) (y := (.tmp 19)) (A := Z1) (k' := .i64) (hi := (l0.length : Int)) (by kernel_rfl) (by kernel_rfl) (by kernel_rfl) rfl (by kernel_rfl) (by kernel_rfl) (by have h0 := hcp1; simp only [List.length_append, List.length_cons, List.length_nil] at h0; omega) ?_
          refine ge_batch [4] (ans := []) (vs := [(4, .slice Z1 l0.length cz1)]) (l := []) (by kernel_rfl) trivial ?_
          refine ge_nil fun a hF => hK3 _ _ ?_ a hF
          have hS8 := hS7.takeN 1
          obtain rfl := Option.some.inj h
          exact we_ret (post_ret (rs := [.tmp 4]) (ans := []) (vs := [.slice Z1 l0.length cz1]) (l := []) rfl (by kernel_rfl) trivial ⟨Z1, cz1, rfl, hcp1, hS8⟩)
        · rw [if_neg hc4] at h
          cases h
      · rw [if_neg hc3] at h
        cases h
    · rw [if_neg hc2] at h
      cases h
  · rw [if_neg hc1] at h
    cases h
theorem punctualsame_Lend_int_full (l0 : List Int) (x1 : Int) {r : List Int} (h : punctualsame_Lend_int.f l0 x1 = some r) : r = l0 ++ [x1, x1, x1] := by
  unfold punctualsame_Lend_int.f at h
  repeat' split at h
  all_goals first | (exact (Option.some.inj h).symm) | cases h

/-! punctual/punctualref.F -/
abbrev punctualref_F.Post (w0 : World) (r : SFault) (e : Ending) (w : World) : Prop := e = .returned (.agg #[.int .i64 r.Code, .int .i64 r.At]) ∧ St w0 w []
def punctualref_F.f (x0 : Int) (x1 : Int) : SFault :=
  (⟨x0, x1⟩ : SFault)
theorem punctualref_F_ok (x0 : Int) (x1 : Int) (w0 : World) (r : SFault) (h : punctualref_F.f x0 x1 = r) :
    Calls Tryd.prog 74 #[.int .i64 x0, .int .i64 x1] w0 (punctualref_F.Post w0 r) := by
  have hS := St.start w0
  unfold punctualref_F.f at h
  refine calls_enter (n := 8) (args := [.int .i64 x0, .int .i64 x1]) (fn := Tryd.f74) rfl rfl rfl rfl ?_
  show WE _ _ _ _ [(0, .int .i64 x0), (1, .int .i64 x1)] _
  refine we_seq fun K1 hK1 => ?_
  refine we_region [(0, 1)] rfl ?_
  refine ge_new (d := some 4) (o := .cells #[.int .i64 0, .int .i64 0] 39) (v := fun b => .pointer (some ⟨b, 0, none⟩)) hS (fun b => by kernel_rfl) fun b1 w1 hx1 hS1 => ?_
  refine ge_nil fun a hF => hK1 _ _ ?_ a hF
  refine we_seq fun K2 hK2 => ?_
  refine we_region [(0, 0), (1, 0), (2, 0), (3, 2)] rfl ?_
  refine ge_batch [0, 1, 2] (ans := []) (vs := [(7, .agg #[.int .i64 x0, .int .i64 x1]), (6, .int .i64 x1), (5, .int .i64 x0)]) (l := []) (by kernel_rfl) trivial ?_
  refine ge_set (b := b1) (j := 0) (cs := #[.int .i64 0, .int .i64 0]) (t := 39) (vs := [.int .i64 x0, .int .i64 x1]) hS1 (by kernel_rfl) rfl rfl fun w2 hS2 => ?_
  have hS3 : St w0 w2 [Own.blk b1 (.cells #[.int .i64 x0, .int .i64 x1] 39 (0, 0))] := hS2
  refine ge_nil fun a hF => hK2 _ _ ?_ a hF
  have hS4 := hS3.takeN 0
  subst h
  exact we_ret (post_ret (rs := [.cell 4 39]) (ans := [.val (.int .i64 x0), .val (.int .i64 x1)]) (vs := [.agg #[.int .i64 x0, .int .i64 x1]]) (l := [.loaded ⟨b1, 0, none⟩ (.int .i64 x0), .loaded ⟨b1, 1, none⟩ (.int .i64 x1)]) rfl (by kernel_rfl) ⟨hS3.cell 0 rfl rfl, hS3.cell 0 rfl rfl, trivial⟩ ⟨rfl, hS4⟩)

/-! punctual/punctualref.CheckJobs -/
abbrev punctualref_CheckJobs.Post (w0 : World) (r : SFault) (e : Ending) (w : World) : Prop := e = .returned (.agg #[.int .i64 r.Code, .int .i64 r.At]) ∧ St w0 w []
def punctualref_CheckJobs.r0 (l0 : List SJob) : Nat → Option (Nat ⊕ (Unit ⊕ SFault))
  | i1 =>
    if (i1 : Int) < (l0.length : Int) then
      match l0[i1]? with
      | none => none
      | some e1 =>
        if e1.At < 0 then
          some (.inr (.inr (punctualref_F.f 3 (i1 : Int))))
        else
          if e1.At > 60000 then
            some (.inr (.inr (punctualref_F.f 3 (i1 : Int))))
          else
            if e1.C < 1 then
              some (.inr (.inr (punctualref_F.f 3 (i1 : Int))))
            else
              if e1.C > 10000 then
                some (.inr (.inr (punctualref_F.f 3 (i1 : Int))))
              else
                if e1.Due < 0 then
                  some (.inr (.inr (punctualref_F.f 3 (i1 : Int))))
                else
                  if e1.Due > 80000 then
                    some (.inr (.inr (punctualref_F.f 3 (i1 : Int))))
                  else
                    some (.inl (i1 + 1))
    else
      some (.inr (.inl ()))
def punctualref_CheckJobs.f (K : Nat) (l0 : List SJob) : Option SFault :=
  if (l0.length : Int) > 4000 then
    some (punctualref_F.f 2 0)
  else
    match iter (punctualref_CheckJobs.r0 l0) K 0 with
    | none => none
    | some (.inl _) =>
      some (⟨0, 0⟩ : SFault)
    | some (.inr rr1) =>
      some rr1
abbrev punctualref_CheckJobs.A0 (K : Nat) (w0 : World) (l0 : List SJob) (A0 : Option Addr) (c0 : Nat) (hR0 : RdL w0 A0 l0) (hL0 : l0.length ≤ c0) (b1 : Nat) (hc1 : ¬ ((l0.length : Int) > 4000)) : Nat → Act → World → Prop := fun (s : Nat) a w => St w0 w [Own.blk b1 (.cells #[.int .i64 0, .int .i64 0] 39 (0, 0))] ∧ Frm 48 a [(2, .pointer (some ⟨b1, 0, none⟩)), (9, .slice A0 l0.length c0), (10, .int .i64 (l0.length : Int)), (11, .int .i64 (s : Int))]
abbrev punctualref_CheckJobs.B0 (K : Nat) (w0 : World) (l0 : List SJob) (A0 : Option Addr) (c0 : Nat) (hR0 : RdL w0 A0 l0) (hL0 : l0.length ≤ c0) (b1 : Nat) (hc1 : ¬ ((l0.length : Int) > 4000)) : (Unit ⊕ SFault) → Exit → Act → World → Prop := Exits 0 (fun (s : Unit) a w => St w0 w [Own.blk b1 (.cells #[.int .i64 0, .int .i64 0] 39 (0, 0))] ∧ Frm 48 a [(2, .pointer (some ⟨b1, 0, none⟩))]) (Rets Tryd.prog Tryd.f87 (punctualref_CheckJobs.Post w0))
theorem punctualref_CheckJobs_r0 (K : Nat) (w0 : World) (l0 : List SJob) (A0 : Option Addr) (c0 : Nat) (hR0 : RdL w0 A0 l0) (hL0 : l0.length ≤ c0) (b1 : Nat) (hc1 : ¬ ((l0.length : Int) > 4000)) (s : Nat) (o : Nat ⊕ (Unit ⊕ SFault)) (h : punctualref_CheckJobs.r0 l0 s = some o) (a : Act) (w : World) (hA : punctualref_CheckJobs.A0 K w0 l0 A0 c0 hR0 hL0 b1 hc1 s a w) (Q : Exit → Act → World → Prop) (hQ : ∀ x a w, Outs (punctualref_CheckJobs.A0 K w0 l0 A0 c0 hR0 hL0 b1 hc1) (punctualref_CheckJobs.B0 K w0 l0 A0 c0 hR0 hL0 b1 hc1) o x a w → Q x a w) : (subF Tryd.f87 [1, 1, 0, 1, 0, 0]).wp Tryd.prog Q a w := by
  obtain ⟨i1, hs⟩ : ∃ z, z = s := ⟨s, rfl⟩
  subst hs
  obtain ⟨hS, hF⟩ := hA
  replace hS : St w0 w [Own.blk b1 (.cells #[.int .i64 0, .int .i64 0] 39 (0, 0))] := hS
  simp only [punctualref_CheckJobs.r0] at h
  refine (?_ : WE Tryd.prog 48 (subF Tryd.f87 [1, 1, 0, 1, 0, 0]) Q [(2, .pointer (some ⟨b1, 0, none⟩)), (9, .slice A0 l0.length c0), (10, .int .i64 (l0.length : Int)), (11, .int .i64 (i1 : Int))] w) a hF
  clear hF a
  refine we_seq fun K7 hK7 => ?_
  refine we_region [(0, 0)] rfl ?_
  refine ge_batch [0] (ans := []) (vs := [(12, .bool (decide ((i1 : Int) < (l0.length : Int))))]) (l := []) (by kernel_rfl) trivial ?_
  refine ge_nil fun a hF => hK7 _ _ ?_ a hF
  refine we_seq fun K8 hK8 => ?_
  by_cases hc2 : (i1 : Int) < (l0.length : Int)
  · rw [if_pos hc2] at h
    refine we_known (t := 12) (b := decide ((i1 : Int) < (l0.length : Int))) (v := true) (by kernel_rfl) (decide_eq_true hc2) ?_
    refine we_true (by kernel_rfl) ?_
    refine we_skip fun a hF => hK8 _ _ ?_ a hF
    refine we_seq fun K9 hK9 => ?_
    refine we_block ?_
    refine we_seq fun K10 hK10 => ?_
    refine we_region [(0, 0), (1, 0), (2, 0), (3, 1), (4, 0), (5, 2)] rfl ?_
    refine ge_batch [0] (ans := []) (vs := [(13, .int .i64 (i1 : Int))]) (l := []) (by kernel_rfl) trivial ?_
    rcases hx2 : l0[i1]? with _ | e1
    · rw [hx2] at h; cases h
    rw [hx2] at h
    simp only [] at h
    refine ge_index (d := 14) (ty := 0) (t := 49) (el := 58) (sz := 5) (m := l0.length) (c := c0) (x := (.tmp 9)) (y := (.tmp 11)) (A := A0) (k' := .i64) (j := (i1 : Int)) (jn := i1) (b0 := blkOf A0) (o0 := offOf A0) (by kernel_rfl) (by kernel_rfl) (by kernel_rfl) (by kernel_rfl) (by kernel_rfl) ((hS.rd hR0).eqSome (pos_of_get hx2)) rfl (lt_of_get hx2) ?_
    refine ge_batch [2] (ans := [.val (.int .i64 e1.Task), .val (.int .i64 e1.At), .val (.int .i64 e1.C), .val (.int .i64 e1.Due), .val (.int .i64 e1.P)]) (vs := [(15, .agg #[.int .i64 e1.Task, .int .i64 e1.At, .int .i64 e1.C, .int .i64 e1.Due, .int .i64 e1.P])]) (l := [.loaded ⟨blkOf A0, offOf A0 + i1 * 5, none⟩ (.int .i64 e1.Task), .loaded ⟨blkOf A0, offOf A0 + i1 * 5 + 1, none⟩ (.int .i64 e1.At), .loaded ⟨blkOf A0, offOf A0 + i1 * 5 + 2, none⟩ (.int .i64 e1.C), .loaded ⟨blkOf A0, offOf A0 + i1 * 5 + 3, none⟩ (.int .i64 e1.Due), .loaded ⟨blkOf A0, offOf A0 + i1 * 5 + 4, none⟩ (.int .i64 e1.P)]) (by kernel_rfl) ⟨RdL.cell (j := 0) (hS.rd hR0) hx2 rfl, RdL.cell (j := 1) (hS.rd hR0) hx2 rfl, RdL.cell (j := 2) (hS.rd hR0) hx2 rfl, RdL.cell (j := 3) (hS.rd hR0) hx2 rfl, RdL.cell (j := 4) (hS.rd hR0) hx2 rfl, trivial⟩ ?_
    refine ge_new (d := some 4) (o := .cells #[.int .i64 0, .int .i64 0, .int .i64 0, .int .i64 0, .int .i64 0] 58) (v := fun b => .pointer (some ⟨b, 0, none⟩)) hS (fun b => by kernel_rfl) fun b2 w4 hx3 hS7 => ?_
    refine ge_batch [4] (ans := []) (vs := [(3, .int .i64 (i1 : Int))]) (l := []) (by kernel_rfl) trivial ?_
    refine ge_set (b := b2) (j := 0) (cs := #[.int .i64 0, .int .i64 0, .int .i64 0, .int .i64 0, .int .i64 0]) (t := 58) (vs := [.int .i64 e1.Task, .int .i64 e1.At, .int .i64 e1.C, .int .i64 e1.Due, .int .i64 e1.P]) hS7 (by kernel_rfl) rfl rfl fun w5 hS8 => ?_
    have hS9 : St w0 w5 [Own.blk b2 (.cells #[.int .i64 e1.Task, .int .i64 e1.At, .int .i64 e1.C, .int .i64 e1.Due, .int .i64 e1.P] 58 (0, 0)), Own.blk b1 (.cells #[.int .i64 0, .int .i64 0] 39 (0, 0))] := hS8
    refine ge_nil fun a hF => hK10 _ _ ?_ a hF
    refine we_seq fun K11 hK11 => ?_
    refine we_region [(0, 0), (1, 0), (2, 0), (3, 0), (4, 0), (5, 0), (6, 0), (7, 0), (8, 0), (9, 0), (10, 0), (11, 0), (12, 0), (13, 0), (14, 0), (15, 0), (16, 0), (17, 0), (18, 0), (19, 0), (20, 0), (21, 0), (22, 0), (23, 0), (24, 0), (25, 0), (26, 0), (27, 0)] rfl ?_
    refine ge_batch [0, 1, 2, 3] (ans := [.val (.int .i64 e1.At)]) (vs := [(19, .bool (decide (e1.At < 0))), (18, .bool (decide (e1.At < 0))), (17, .int .i64 e1.At), (16, .pointer (some ⟨b2, 1, none⟩))]) (l := [.loaded ⟨b2, 1, none⟩ (.int .i64 e1.At)]) (by kernel_rfl) ⟨hS9.cell 0 rfl rfl, trivial⟩ ?_
    by_cases hc3 : e1.At < 0
    · rw [if_pos hc3] at h
      refine ge_known (t := 19) (b := decide (e1.At < 0)) (c := true) (by kernel_rfl) (decide_eq_true hc3) ?_
      refine ge_batch [4, 5, 6, 7, 8, 9, 10, 11, 12, 13, 14, 15, 16, 17, 18, 19, 20, 21, 22, 23, 24, 25, 26, 27] (ans := []) (vs := [(43, .bool true), (42, undef), (41, undef), (40, undef), (39, .bool true), (38, .bool true), (37, undef), (36, undef), (35, undef), (34, .bool true), (33, .bool true), (32, undef), (31, undef), (30, undef), (29, .bool true), (28, .bool true), (27, undef), (26, undef), (25, undef), (24, .bool true), (23, .bool true), (22, undef), (21, undef), (20, undef)]) (l := []) (by kernel_rfl) trivial ?_
      refine ge_nil fun a hF => hK11 _ _ ?_ a hF
      refine we_true (by kernel_rfl) ?_
      refine we_seq fun K12 hK12 => ?_
      refine we_region [(0, 0), (1, 1), (2, 2)] rfl ?_
      refine ge_batch [0] (ans := []) (vs := [(44, .int .i64 (i1 : Int))]) (l := []) (by kernel_rfl) trivial ?_
      refine ge_call (d := some 45) (f := 74) (args := #[.int .i64 3, .int .i64 (i1 : Int)]) (by kernel_rfl) (punctualref_F_ok 3 (i1 : Int) _ _ rfl) ?_
      rintro _ w6 ⟨rfl, hS10⟩
      refine ⟨_, rfl, hS10.below, ?_⟩
      have hS11 := hS9.call hS10
      have hS12 := hS11.bring 1 rfl
      refine ge_set (b := b1) (j := 0) (cs := #[.int .i64 0, .int .i64 0]) (t := 39) (vs := [.int .i64 ((punctualref_F.f 3 (i1 : Int)).Code), .int .i64 ((punctualref_F.f 3 (i1 : Int)).At)]) hS12 (by kernel_rfl) rfl rfl fun w7 hS13 => ?_
      have hS14 : St w0 w7 [Own.blk b1 (.cells #[.int .i64 ((punctualref_F.f 3 (i1 : Int)).Code), .int .i64 ((punctualref_F.f 3 (i1 : Int)).At)] 39 (0, 0)), Own.blk b2 (.cells #[.int .i64 e1.Task, .int .i64 e1.At, .int .i64 e1.C, .int .i64 e1.Due, .int .i64 e1.P] 58 (0, 0))] := hS13
      refine ge_nil fun a hF => hK12 _ _ ?_ a hF
      have hS15 := hS14.takeN 0
      obtain rfl := Option.some.inj h
      exact we_ret fun a hF => hQ _ _ _ (Outs.out nofun (Exits.on ⟨rfl, (post_ret (rs := [.cell 2 39]) (ans := [.val (.int .i64 ((punctualref_F.f 3 (i1 : Int)).Code)), .val (.int .i64 ((punctualref_F.f 3 (i1 : Int)).At))]) (vs := [.agg #[.int .i64 ((punctualref_F.f 3 (i1 : Int)).Code), .int .i64 ((punctualref_F.f 3 (i1 : Int)).At)]]) (l := [.loaded ⟨b1, 0, none⟩ (.int .i64 ((punctualref_F.f 3 (i1 : Int)).Code)), .loaded ⟨b1, 1, none⟩ (.int .i64 ((punctualref_F.f 3 (i1 : Int)).At))]) rfl (by kernel_rfl) ⟨hS14.cell 0 rfl rfl, hS14.cell 0 rfl rfl, trivial⟩ ⟨rfl, hS15⟩) a hF⟩))
    · rw [if_neg hc3] at h
      refine ge_known (t := 19) (b := decide (e1.At < 0)) (c := false) (by kernel_rfl) (decide_eq_false hc3) ?_
      refine ge_batch [4, 5, 6, 7, 8] (ans := [.val (.int .i64 e1.At)]) (vs := [(24, .bool (decide (e1.At > 60000))), (23, .bool (decide (e1.At > 60000))), (22, .bool (decide (e1.At > 60000))), (21, .int .i64 e1.At), (20, .pointer (some ⟨b2, 1, none⟩))]) (l := [.loaded ⟨b2, 1, none⟩ (.int .i64 e1.At)]) (by kernel_rfl) ⟨hS9.cell 0 rfl rfl, trivial⟩ ?_
      by_cases hc4 : e1.At > 60000
      · rw [if_pos hc4] at h
        refine ge_known (t := 24) (b := decide (e1.At > 60000)) (c := true) (by kernel_rfl) (decide_eq_true hc4) ?_
        refine ge_batch [9, 10, 11, 12, 13, 14, 15, 16, 17, 18, 19, 20, 21, 22, 23, 24, 25, 26, 27] (ans := []) (vs := [(43, .bool true), (42, undef), (41, undef), (40, undef), (39, .bool true), (38, .bool true), (37, undef), (36, undef), (35, undef), (34, .bool true), (33, .bool true), (32, undef), (31, undef), (30, undef), (29, .bool true), (28, .bool true), (27, undef), (26, undef), (25, undef)]) (l := []) (by kernel_rfl) trivial ?_
        refine ge_nil fun a hF => hK11 _ _ ?_ a hF
        refine we_true (by kernel_rfl) ?_
        refine we_seq fun K13 hK13 => ?_
        refine we_region [(0, 0), (1, 1), (2, 2)] rfl ?_
        refine ge_batch [0] (ans := []) (vs := [(44, .int .i64 (i1 : Int))]) (l := []) (by kernel_rfl) trivial ?_
        refine ge_call (d := some 45) (f := 74) (args := #[.int .i64 3, .int .i64 (i1 : Int)]) (by kernel_rfl) (punctualref_F_ok 3 (i1 : Int) _ _ rfl) ?_
        rintro _ w8 ⟨rfl, hS16⟩
        refine ⟨_, rfl, hS16.below, ?_⟩
        have hS17 := hS9.call hS16
        have hS18 := hS17.bring 1 rfl
        refine ge_set (b := b1) (j := 0) (cs := #[.int .i64 0, .int .i64 0]) (t := 39) (vs := [.int .i64 ((punctualref_F.f 3 (i1 : Int)).Code), .int .i64 ((punctualref_F.f 3 (i1 : Int)).At)]) hS18 (by kernel_rfl) rfl rfl fun w9 hS19 => ?_
        have hS20 : St w0 w9 [Own.blk b1 (.cells #[.int .i64 ((punctualref_F.f 3 (i1 : Int)).Code), .int .i64 ((punctualref_F.f 3 (i1 : Int)).At)] 39 (0, 0)), Own.blk b2 (.cells #[.int .i64 e1.Task, .int .i64 e1.At, .int .i64 e1.C, .int .i64 e1.Due, .int .i64 e1.P] 58 (0, 0))] := hS19
        refine ge_nil fun a hF => hK13 _ _ ?_ a hF
        have hS21 := hS20.takeN 0
        obtain rfl := Option.some.inj h
        exact we_ret fun a hF => hQ _ _ _ (Outs.out nofun (Exits.on ⟨rfl, (post_ret (rs := [.cell 2 39]) (ans := [.val (.int .i64 ((punctualref_F.f 3 (i1 : Int)).Code)), .val (.int .i64 ((punctualref_F.f 3 (i1 : Int)).At))]) (vs := [.agg #[.int .i64 ((punctualref_F.f 3 (i1 : Int)).Code), .int .i64 ((punctualref_F.f 3 (i1 : Int)).At)]]) (l := [.loaded ⟨b1, 0, none⟩ (.int .i64 ((punctualref_F.f 3 (i1 : Int)).Code)), .loaded ⟨b1, 1, none⟩ (.int .i64 ((punctualref_F.f 3 (i1 : Int)).At))]) rfl (by kernel_rfl) ⟨hS20.cell 0 rfl rfl, hS20.cell 0 rfl rfl, trivial⟩ ⟨rfl, hS21⟩) a hF⟩))
      · rw [if_neg hc4] at h
        refine ge_known (t := 24) (b := decide (e1.At > 60000)) (c := false) (by kernel_rfl) (decide_eq_false hc4) ?_
        refine ge_batch [9, 10, 11, 12, 13] (ans := [.val (.int .i64 e1.C)]) (vs := [(29, .bool (decide (e1.C < 1))), (28, .bool (decide (e1.C < 1))), (27, .bool (decide (e1.C < 1))), (26, .int .i64 e1.C), (25, .pointer (some ⟨b2, 2, none⟩))]) (l := [.loaded ⟨b2, 2, none⟩ (.int .i64 e1.C)]) (by kernel_rfl) ⟨hS9.cell 0 rfl rfl, trivial⟩ ?_
        by_cases hc5 : e1.C < 1
        · rw [if_pos hc5] at h
          refine ge_known (t := 29) (b := decide (e1.C < 1)) (c := true) (by kernel_rfl) (decide_eq_true hc5) ?_
          refine ge_batch [14, 15, 16, 17, 18, 19, 20, 21, 22, 23, 24, 25, 26, 27] (ans := []) (vs := [(43, .bool true), (42, undef), (41, undef), (40, undef), (39, .bool true), (38, .bool true), (37, undef), (36, undef), (35, undef), (34, .bool true), (33, .bool true), (32, undef), (31, undef), (30, undef)]) (l := []) (by kernel_rfl) trivial ?_
          refine ge_nil fun a hF => hK11 _ _ ?_ a hF
          refine we_true (by kernel_rfl) ?_
          refine we_seq fun K14 hK14 => ?_
          refine we_region [(0, 0), (1, 1), (2, 2)] rfl ?_
          refine ge_batch [0] (ans := []) (vs := [(44, .int .i64 (i1 : Int))]) (l := []) (by kernel_rfl) trivial ?_
          refine ge_call (d := some 45) (f := 74) (args := #[.int .i64 3, .int .i64 (i1 : Int)]) (by kernel_rfl) (punctualref_F_ok 3 (i1 : Int) _ _ rfl) ?_
          rintro _ w10 ⟨rfl, hS22⟩
          refine ⟨_, rfl, hS22.below, ?_⟩
          have hS23 := hS9.call hS22
          have hS24 := hS23.bring 1 rfl
          refine ge_set (b := b1) (j := 0) (cs := #[.int .i64 0, .int .i64 0]) (t := 39) (vs := [.int .i64 ((punctualref_F.f 3 (i1 : Int)).Code), .int .i64 ((punctualref_F.f 3 (i1 : Int)).At)]) hS24 (by kernel_rfl) rfl rfl fun w11 hS25 => ?_
          have hS26 : St w0 w11 [Own.blk b1 (.cells #[.int .i64 ((punctualref_F.f 3 (i1 : Int)).Code), .int .i64 ((punctualref_F.f 3 (i1 : Int)).At)] 39 (0, 0)), Own.blk b2 (.cells #[.int .i64 e1.Task, .int .i64 e1.At, .int .i64 e1.C, .int .i64 e1.Due, .int .i64 e1.P] 58 (0, 0))] := hS25
          refine ge_nil fun a hF => hK14 _ _ ?_ a hF
          have hS27 := hS26.takeN 0
          obtain rfl := Option.some.inj h
          exact we_ret fun a hF => hQ _ _ _ (Outs.out nofun (Exits.on ⟨rfl, (post_ret (rs := [.cell 2 39]) (ans := [.val (.int .i64 ((punctualref_F.f 3 (i1 : Int)).Code)), .val (.int .i64 ((punctualref_F.f 3 (i1 : Int)).At))]) (vs := [.agg #[.int .i64 ((punctualref_F.f 3 (i1 : Int)).Code), .int .i64 ((punctualref_F.f 3 (i1 : Int)).At)]]) (l := [.loaded ⟨b1, 0, none⟩ (.int .i64 ((punctualref_F.f 3 (i1 : Int)).Code)), .loaded ⟨b1, 1, none⟩ (.int .i64 ((punctualref_F.f 3 (i1 : Int)).At))]) rfl (by kernel_rfl) ⟨hS26.cell 0 rfl rfl, hS26.cell 0 rfl rfl, trivial⟩ ⟨rfl, hS27⟩) a hF⟩))
        · rw [if_neg hc5] at h
          refine ge_known (t := 29) (b := decide (e1.C < 1)) (c := false) (by kernel_rfl) (decide_eq_false hc5) ?_
          refine ge_batch [14, 15, 16, 17, 18] (ans := [.val (.int .i64 e1.C)]) (vs := [(34, .bool (decide (e1.C > 10000))), (33, .bool (decide (e1.C > 10000))), (32, .bool (decide (e1.C > 10000))), (31, .int .i64 e1.C), (30, .pointer (some ⟨b2, 2, none⟩))]) (l := [.loaded ⟨b2, 2, none⟩ (.int .i64 e1.C)]) (by kernel_rfl) ⟨hS9.cell 0 rfl rfl, trivial⟩ ?_
          by_cases hc6 : e1.C > 10000
          · rw [if_pos hc6] at h
            refine ge_known (t := 34) (b := decide (e1.C > 10000)) (c := true) (by kernel_rfl) (decide_eq_true hc6) ?_
            refine ge_batch [19, 20, 21, 22, 23, 24, 25, 26, 27] (ans := []) (vs := [(43, .bool true), (42, undef), (41, undef), (40, undef), (39, .bool true), (38, .bool true), (37, undef), (36, undef), (35, undef)]) (l := []) (by kernel_rfl) trivial ?_
            refine ge_nil fun a hF => hK11 _ _ ?_ a hF
            refine we_true (by kernel_rfl) ?_
            refine we_seq fun K15 hK15 => ?_
            refine we_region [(0, 0), (1, 1), (2, 2)] rfl ?_
            refine ge_batch [0] (ans := []) (vs := [(44, .int .i64 (i1 : Int))]) (l := []) (by kernel_rfl) trivial ?_
            refine ge_call (d := some 45) (f := 74) (args := #[.int .i64 3, .int .i64 (i1 : Int)]) (by kernel_rfl) (punctualref_F_ok 3 (i1 : Int) _ _ rfl) ?_
            rintro _ w12 ⟨rfl, hS28⟩
            refine ⟨_, rfl, hS28.below, ?_⟩
            have hS29 := hS9.call hS28
            have hS30 := hS29.bring 1 rfl
            refine ge_set (b := b1) (j := 0) (cs := #[.int .i64 0, .int .i64 0]) (t := 39) (vs := [.int .i64 ((punctualref_F.f 3 (i1 : Int)).Code), .int .i64 ((punctualref_F.f 3 (i1 : Int)).At)]) hS30 (by kernel_rfl) rfl rfl fun w13 hS31 => ?_
            have hS32 : St w0 w13 [Own.blk b1 (.cells #[.int .i64 ((punctualref_F.f 3 (i1 : Int)).Code), .int .i64 ((punctualref_F.f 3 (i1 : Int)).At)] 39 (0, 0)), Own.blk b2 (.cells #[.int .i64 e1.Task, .int .i64 e1.At, .int .i64 e1.C, .int .i64 e1.Due, .int .i64 e1.P] 58 (0, 0))] := hS31
            refine ge_nil fun a hF => hK15 _ _ ?_ a hF
            have hS33 := hS32.takeN 0
            obtain rfl := Option.some.inj h
            exact we_ret fun a hF => hQ _ _ _ (Outs.out nofun (Exits.on ⟨rfl, (post_ret (rs := [.cell 2 39]) (ans := [.val (.int .i64 ((punctualref_F.f 3 (i1 : Int)).Code)), .val (.int .i64 ((punctualref_F.f 3 (i1 : Int)).At))]) (vs := [.agg #[.int .i64 ((punctualref_F.f 3 (i1 : Int)).Code), .int .i64 ((punctualref_F.f 3 (i1 : Int)).At)]]) (l := [.loaded ⟨b1, 0, none⟩ (.int .i64 ((punctualref_F.f 3 (i1 : Int)).Code)), .loaded ⟨b1, 1, none⟩ (.int .i64 ((punctualref_F.f 3 (i1 : Int)).At))]) rfl (by kernel_rfl) ⟨hS32.cell 0 rfl rfl, hS32.cell 0 rfl rfl, trivial⟩ ⟨rfl, hS33⟩) a hF⟩))
          · rw [if_neg hc6] at h
            refine ge_known (t := 34) (b := decide (e1.C > 10000)) (c := false) (by kernel_rfl) (decide_eq_false hc6) ?_
            refine ge_batch [19, 20, 21, 22, 23] (ans := [.val (.int .i64 e1.Due)]) (vs := [(39, .bool (decide (e1.Due < 0))), (38, .bool (decide (e1.Due < 0))), (37, .bool (decide (e1.Due < 0))), (36, .int .i64 e1.Due), (35, .pointer (some ⟨b2, 3, none⟩))]) (l := [.loaded ⟨b2, 3, none⟩ (.int .i64 e1.Due)]) (by kernel_rfl) ⟨hS9.cell 0 rfl rfl, trivial⟩ ?_
            by_cases hc7 : e1.Due < 0
            · rw [if_pos hc7] at h
              refine ge_known (t := 39) (b := decide (e1.Due < 0)) (c := true) (by kernel_rfl) (decide_eq_true hc7) ?_
              refine ge_batch [24, 25, 26, 27] (ans := []) (vs := [(43, .bool true), (42, undef), (41, undef), (40, undef)]) (l := []) (by kernel_rfl) trivial ?_
              refine ge_nil fun a hF => hK11 _ _ ?_ a hF
              refine we_true (by kernel_rfl) ?_
              refine we_seq fun K16 hK16 => ?_
              refine we_region [(0, 0), (1, 1), (2, 2)] rfl ?_
              refine ge_batch [0] (ans := []) (vs := [(44, .int .i64 (i1 : Int))]) (l := []) (by kernel_rfl) trivial ?_
              refine ge_call (d := some 45) (f := 74) (args := #[.int .i64 3, .int .i64 (i1 : Int)]) (by kernel_rfl) (punctualref_F_ok 3 (i1 : Int) _ _ rfl) ?_
              rintro _ w14 ⟨rfl, hS34⟩
              refine ⟨_, rfl, hS34.below, ?_⟩
              have hS35 := hS9.call hS34
              have hS36 := hS35.bring 1 rfl
              refine ge_set (b := b1) (j := 0) (cs := #[.int .i64 0, .int .i64 0]) (t := 39) (vs := [.int .i64 ((punctualref_F.f 3 (i1 : Int)).Code), .int .i64 ((punctualref_F.f 3 (i1 : Int)).At)]) hS36 (by kernel_rfl) rfl rfl fun w15 hS37 => ?_
              have hS38 : St w0 w15 [Own.blk b1 (.cells #[.int .i64 ((punctualref_F.f 3 (i1 : Int)).Code), .int .i64 ((punctualref_F.f 3 (i1 : Int)).At)] 39 (0, 0)), Own.blk b2 (.cells #[.int .i64 e1.Task, .int .i64 e1.At, .int .i64 e1.C, .int .i64 e1.Due, .int .i64 e1.P] 58 (0, 0))] := hS37
              refine ge_nil fun a hF => hK16 _ _ ?_ a hF
              have hS39 := hS38.takeN 0
              obtain rfl := Option.some.inj h
              exact we_ret fun a hF => hQ _ _ _ (Outs.out nofun (Exits.on ⟨rfl, (post_ret (rs := [.cell 2 39]) (ans := [.val (.int .i64 ((punctualref_F.f 3 (i1 : Int)).Code)), .val (.int .i64 ((punctualref_F.f 3 (i1 : Int)).At))]) (vs := [.agg #[.int .i64 ((punctualref_F.f 3 (i1 : Int)).Code), .int .i64 ((punctualref_F.f 3 (i1 : Int)).At)]]) (l := [.loaded ⟨b1, 0, none⟩ (.int .i64 ((punctualref_F.f 3 (i1 : Int)).Code)), .loaded ⟨b1, 1, none⟩ (.int .i64 ((punctualref_F.f 3 (i1 : Int)).At))]) rfl (by kernel_rfl) ⟨hS38.cell 0 rfl rfl, hS38.cell 0 rfl rfl, trivial⟩ ⟨rfl, hS39⟩) a hF⟩))
            · rw [if_neg hc7] at h
              refine ge_known (t := 39) (b := decide (e1.Due < 0)) (c := false) (by kernel_rfl) (decide_eq_false hc7) ?_
              refine ge_batch [24, 25, 26, 27] (ans := [.val (.int .i64 e1.Due)]) (vs := [(43, .bool (decide (e1.Due > 80000))), (42, .bool (decide (e1.Due > 80000))), (41, .int .i64 e1.Due), (40, .pointer (some ⟨b2, 3, none⟩))]) (l := [.loaded ⟨b2, 3, none⟩ (.int .i64 e1.Due)]) (by kernel_rfl) ⟨hS9.cell 0 rfl rfl, trivial⟩ ?_
              refine ge_nil fun a hF => hK11 _ _ ?_ a hF
              by_cases hc8 : e1.Due > 80000
              · rw [if_pos hc8] at h
                refine we_known (t := 43) (b := decide (e1.Due > 80000)) (v := true) (by kernel_rfl) (decide_eq_true hc8) ?_
                refine we_true (by kernel_rfl) ?_
                refine we_seq fun K17 hK17 => ?_
                refine we_region [(0, 0), (1, 1), (2, 2)] rfl ?_
                refine ge_batch [0] (ans := []) (vs := [(44, .int .i64 (i1 : Int))]) (l := []) (by kernel_rfl) trivial ?_
                refine ge_call (d := some 45) (f := 74) (args := #[.int .i64 3, .int .i64 (i1 : Int)]) (by kernel_rfl) (punctualref_F_ok 3 (i1 : Int) _ _ rfl) ?_
                rintro _ w16 ⟨rfl, hS40⟩
                refine ⟨_, rfl, hS40.below, ?_⟩
                have hS41 := hS9.call hS40
                have hS42 := hS41.bring 1 rfl
                refine ge_set (b := b1) (j := 0) (cs := #[.int .i64 0, .int .i64 0]) (t := 39) (vs := [.int .i64 ((punctualref_F.f 3 (i1 : Int)).Code), .int .i64 ((punctualref_F.f 3 (i1 : Int)).At)]) hS42 (by kernel_rfl) rfl rfl fun w17 hS43 => ?_
                have hS44 : St w0 w17 [Own.blk b1 (.cells #[.int .i64 ((punctualref_F.f 3 (i1 : Int)).Code), .int .i64 ((punctualref_F.f 3 (i1 : Int)).At)] 39 (0, 0)), Own.blk b2 (.cells #[.int .i64 e1.Task, .int .i64 e1.At, .int .i64 e1.C, .int .i64 e1.Due, .int .i64 e1.P] 58 (0, 0))] := hS43
                refine ge_nil fun a hF => hK17 _ _ ?_ a hF
                have hS45 := hS44.takeN 0
                obtain rfl := Option.some.inj h
                exact we_ret fun a hF => hQ _ _ _ (Outs.out nofun (Exits.on ⟨rfl, (post_ret (rs := [.cell 2 39]) (ans := [.val (.int .i64 ((punctualref_F.f 3 (i1 : Int)).Code)), .val (.int .i64 ((punctualref_F.f 3 (i1 : Int)).At))]) (vs := [.agg #[.int .i64 ((punctualref_F.f 3 (i1 : Int)).Code), .int .i64 ((punctualref_F.f 3 (i1 : Int)).At)]]) (l := [.loaded ⟨b1, 0, none⟩ (.int .i64 ((punctualref_F.f 3 (i1 : Int)).Code)), .loaded ⟨b1, 1, none⟩ (.int .i64 ((punctualref_F.f 3 (i1 : Int)).At))]) rfl (by kernel_rfl) ⟨hS44.cell 0 rfl rfl, hS44.cell 0 rfl rfl, trivial⟩ ⟨rfl, hS45⟩) a hF⟩))
              · rw [if_neg hc8] at h
                refine we_known (t := 43) (b := decide (e1.Due > 80000)) (v := false) (by kernel_rfl) (decide_eq_false hc8) ?_
                refine we_false (by kernel_rfl) ?_
                refine we_skip fun a hF => hK9 _ _ ?_ a hF
                refine we_region [(0, 0), (1, 0)] rfl ?_
                refine ge_addn (d := 46) (ty := 3) (x := (.tmp 11)) (y := (.const (.int .i64 1))) (t := 3) (t2 := 3) (k := .i64) (m := i1) (by kernel_rfl) (by kernel_rfl) (by kernel_rfl) (by have h0 := hR0.small; omega) ?_
                refine ge_batch [1] (ans := []) (vs := [(11, .int .i64 ((i1 + 1 : Nat) : Int))]) (l := []) (by kernel_rfl) trivial ?_
                have hS46 := hS9.bring 1 rfl
                have hS47 := hS46.takeN 1
                obtain rfl := Option.some.inj h
                exact ge_nil fun a hF => hQ _ _ _ (Outs.again ⟨hS47, hF.weaken ⟨by kernel_rfl, by kernel_rfl, by kernel_rfl, by kernel_rfl, trivial⟩⟩)
  · rw [if_neg hc2] at h
    refine we_known (t := 12) (b := decide ((i1 : Int) < (l0.length : Int))) (v := false) (by kernel_rfl) (decide_eq_false hc2) ?_
    refine we_false (by kernel_rfl) ?_
    obtain rfl := Option.some.inj h
    exact we_exit fun a hF => hQ _ _ _ (Outs.out nofun (Exits.here ⟨hS, hF.weaken ⟨by kernel_rfl, trivial⟩⟩))
theorem punctualref_CheckJobs_ok (K : Nat) (l0 : List SJob) (A0 : Option Addr) (c0 : Nat) (w0 : World) (hR0 : RdL w0 A0 l0) (hL0 : l0.length ≤ c0) (r : SFault) (h : punctualref_CheckJobs.f K l0 = some r) :
    Calls Tryd.prog 87 #[.slice A0 l0.length c0] w0 (punctualref_CheckJobs.Post w0 r) := by
  have hS := St.start w0
  unfold punctualref_CheckJobs.f at h
  refine calls_enter (n := 48) (args := [.slice A0 l0.length c0]) (fn := Tryd.f87) rfl rfl rfl rfl ?_
  show WE _ _ _ _ [(0, .slice A0 l0.length c0)] _
  refine we_seq fun K1 hK1 => ?_
  refine we_region [(0, 1)] rfl ?_
  refine ge_new (d := some 2) (o := .cells #[.int .i64 0, .int .i64 0] 39) (v := fun b => .pointer (some ⟨b, 0, none⟩)) hS (fun b => by kernel_rfl) fun b1 w1 hx1 hS1 => ?_
  refine ge_nil fun a hF => hK1 _ _ ?_ a hF
  refine we_seq fun K2 hK2 => ?_
  refine we_seq fun K3 hK3 => ?_
  refine we_region [(0, 0), (1, 0), (2, 0)] rfl ?_
  refine ge_batch [0, 1, 2] (ans := []) (vs := [(7, .bool (decide ((l0.length : Int) > 4000))), (6, .int .i64 (l0.length : Int)), (5, .slice A0 l0.length c0)]) (l := []) (by kernel_rfl) trivial ?_
  refine ge_nil fun a hF => hK3 _ _ ?_ a hF
  by_cases hc1 : (l0.length : Int) > 4000
  · rw [if_pos hc1] at h
    refine we_known (t := 7) (b := decide ((l0.length : Int) > 4000)) (v := true) (by kernel_rfl) (decide_eq_true hc1) ?_
    refine we_true (by kernel_rfl) ?_
    refine we_seq fun K4 hK4 => ?_
    refine we_region [(0, 1), (1, 2)] rfl ?_
    refine ge_call (d := some 8) (f := 74) (args := #[.int .i64 2, .int .i64 0]) (by kernel_rfl) (punctualref_F_ok 2 0 _ _ rfl) ?_
    rintro _ w2 ⟨rfl, hS2⟩
    refine ⟨_, rfl, hS2.below, ?_⟩
    have hS3 := hS1.call hS2
    refine ge_set (b := b1) (j := 0) (cs := #[.int .i64 0, .int .i64 0]) (t := 39) (vs := [.int .i64 ((punctualref_F.f 2 0).Code), .int .i64 ((punctualref_F.f 2 0).At)]) hS3 (by kernel_rfl) rfl rfl fun w3 hS4 => ?_
    have hS5 : St w0 w3 [Own.blk b1 (.cells #[.int .i64 ((punctualref_F.f 2 0).Code), .int .i64 ((punctualref_F.f 2 0).At)] 39 (0, 0))] := hS4
    refine ge_nil fun a hF => hK4 _ _ ?_ a hF
    have hS6 := hS5.takeN 0
    obtain rfl := Option.some.inj h
    exact we_ret (post_ret (rs := [.cell 2 39]) (ans := [.val (.int .i64 ((punctualref_F.f 2 0).Code)), .val (.int .i64 ((punctualref_F.f 2 0).At))]) (vs := [.agg #[.int .i64 ((punctualref_F.f 2 0).Code), .int .i64 ((punctualref_F.f 2 0).At)]]) (l := [.loaded ⟨b1, 0, none⟩ (.int .i64 ((punctualref_F.f 2 0).Code)), .loaded ⟨b1, 1, none⟩ (.int .i64 ((punctualref_F.f 2 0).At))]) rfl (by kernel_rfl) ⟨hS5.cell 0 rfl rfl, hS5.cell 0 rfl rfl, trivial⟩ ⟨rfl, hS6⟩)
  · rw [if_neg hc1] at h
    refine we_known (t := 7) (b := decide ((l0.length : Int) > 4000)) (v := false) (by kernel_rfl) (decide_eq_false hc1) ?_
    refine we_false (by kernel_rfl) ?_
    refine we_skip fun a hF => hK2 _ _ ?_ a hF
    refine we_seq fun K5 hK5 => ?_
    refine we_seq fun K6 hK6 => ?_
    refine we_region [(0, 0), (1, 0), (2, 0)] rfl ?_
    refine ge_batch [0, 1, 2] (ans := []) (vs := [(11, .int .i64 0), (10, .int .i64 (l0.length : Int)), (9, .slice A0 l0.length c0)]) (l := []) (by kernel_rfl) trivial ?_
    refine ge_nil fun a hF => hK6 _ _ ?_ a hF
    refine we_block ?_
    rcases hq8 : iter (punctualref_CheckJobs.r0 l0) K 0 with _ | (_ | rr1)
    · rw [hq8] at h; cases h
    · rw [hq8] at h
      simp only [] at h
      refine we_iter (A := punctualref_CheckJobs.A0 K w0 l0 A0 c0 hR0 hL0 b1 hc1) (B := punctualref_CheckJobs.B0 K w0 l0 A0 c0 hR0 hL0 b1 hc1) hq8 (fun a hF => ⟨hS1, hF.weaken ⟨by kernel_rfl, by kernel_rfl, by kernel_rfl, by kernel_rfl, trivial⟩⟩) (fun s o hf a w hA Q hQ => punctualref_CheckJobs_r0 K w0 l0 A0 c0 hR0 hL0 b1 hc1 s o hf a w hA Q hQ) ?_
      rintro _ a w18 _ ⟨rfl, hS48, hF⟩
      replace hS48 : St w0 w18 [Own.blk b1 (.cells #[.int .i64 0, .int .i64 0] 39 (0, 0))] := hS48
      refine hK5 [(2, .pointer (some ⟨b1, 0, none⟩))] w18 ?_ a hF
      refine we_seq fun K18 hK18 => ?_
      refine we_region [(0, 0), (1, 2)] rfl ?_
      refine ge_batch [0] (ans := []) (vs := [(47, .agg #[.int .i64 0, .int .i64 0])]) (l := []) (by kernel_rfl) trivial ?_
      refine ge_set (b := b1) (j := 0) (cs := #[.int .i64 0, .int .i64 0]) (t := 39) (vs := [.int .i64 0, .int .i64 0]) hS48 (by kernel_rfl) rfl rfl fun w19 hS49 => ?_
      have hS50 : St w0 w19 [Own.blk b1 (.cells #[.int .i64 0, .int .i64 0] 39 (0, 0))] := hS49
      refine ge_nil fun a hF => hK18 _ _ ?_ a hF
      have hS51 := hS50.takeN 0
      obtain rfl := Option.some.inj h
      exact we_ret (post_ret (rs := [.cell 2 39]) (ans := [.val (.int .i64 0), .val (.int .i64 0)]) (vs := [.agg #[.int .i64 0, .int .i64 0]]) (l := [.loaded ⟨b1, 0, none⟩ (.int .i64 0), .loaded ⟨b1, 1, none⟩ (.int .i64 0)]) rfl (by kernel_rfl) ⟨hS50.cell 0 rfl rfl, hS50.cell 0 rfl rfl, trivial⟩ ⟨rfl, hS51⟩)
    · rw [hq8] at h
      simp only [] at h
      refine we_iter (A := punctualref_CheckJobs.A0 K w0 l0 A0 c0 hR0 hL0 b1 hc1) (B := punctualref_CheckJobs.B0 K w0 l0 A0 c0 hR0 hL0 b1 hc1) hq8 (fun a hF => ⟨hS1, hF.weaken ⟨by kernel_rfl, by kernel_rfl, by kernel_rfl, by kernel_rfl, trivial⟩⟩) (fun s o hf a w hA Q hQ => punctualref_CheckJobs_r0 K w0 l0 A0 c0 hR0 hL0 b1 hc1 s o hf a w hA Q hQ) ?_
      rintro _ a w1 _ ⟨rfl, hb⟩
      obtain rfl := Option.some.inj h
      exact hb

/-! punctual/punctualref.Goes -/
abbrev punctualref_Goes.Post (w0 : World) (r : Bool) (e : Ending) (w : World) : Prop := e = .returned (.bool r) ∧ St w0 w []
def punctualref_Goes.p0 (l0 : List SJob) (x1 : Int) (x2 : Int) : Option ((Int × Int × Int × Int × Int × Int × Int × Int × Int × Int) ⊕ Bool) :=
    if 0 ≤ x1 then
      match l0[(x1).toNat]? with
      | none => none
      | some e1 =>
        if 0 ≤ x2 then
          match l0[(x2).toNat]? with
          | none => none
          | some e2 =>
            some (.inl (e1.Task, e1.At, e1.C, e1.Due, e1.P, e2.Task, e2.At, e2.C, e2.Due, e2.P))
        else
          none
    else
      none
def punctualref_Goes.f (l0 : List SJob) (x1 : Int) (x2 : Int) (x3 : Int) : Option Bool :=
  match punctualref_Goes.p0 l0 x1 x2 with
  | none => none
  | some (.inl (z11, z12, z13, z14, z15, z16, z17, z18, z19, z20)) =>
    if x3 = 1 then
      if z15 = z20 then
        if x3 = 2 then
          if z14 = z19 then
            if z12 = z17 then
              some (decide (x1 < x2))
            else
              some (decide (z12 < z17))
          else
            some (decide (z14 < z19))
        else
          if z12 = z17 then
            some (decide (x1 < x2))
          else
            some (decide (z12 < z17))
      else
        some (decide (z15 > z20))
    else
      if x3 = 2 then
        if z14 = z19 then
          if z12 = z17 then
            some (decide (x1 < x2))
          else
            some (decide (z12 < z17))
        else
          some (decide (z14 < z19))
      else
        if z12 = z17 then
          some (decide (x1 < x2))
        else
          some (decide (z12 < z17))
  | some (.inr rr1) =>
    some rr1
abbrev punctualref_Goes.A0 (K : Nat) (w0 : World) (l0 : List SJob) (A0 : Option Addr) (c0 : Nat) (x1 : Int) (x2 : Int) (x3 : Int) (hR0 : RdL w0 A0 l0) (hL0 : l0.length ≤ c0) : (Int × Int × Int × Int × Int × Int × Int × Int × Int × Int) → Act → World → Prop := fun (s : Int × Int × Int × Int × Int × Int × Int × Int × Int × Int) a w => ∃ (b1 : Nat) (b2 : Nat), St w0 w [Own.blk b1 (.cells #[.int .i64 s.1, .int .i64 s.2.1, .int .i64 s.2.2.1, .int .i64 s.2.2.2.1, .int .i64 s.2.2.2.2.1] 58 (0, 0)), Own.blk b2 (.cells #[.int .i64 s.2.2.2.2.2.1, .int .i64 s.2.2.2.2.2.2.1, .int .i64 s.2.2.2.2.2.2.2.1, .int .i64 s.2.2.2.2.2.2.2.2.1, .int .i64 s.2.2.2.2.2.2.2.2.2] 58 (0, 0))] ∧ Frm 60 a [(1, .int .i64 x1), (2, .int .i64 x2), (3, .int .i64 x3), (9, .pointer (some ⟨b1, 0, none⟩)), (10, .pointer (some ⟨b2, 0, none⟩))]
abbrev punctualref_Goes.B0 (K : Nat) (w0 : World) (l0 : List SJob) (A0 : Option Addr) (c0 : Nat) (x1 : Int) (x2 : Int) (x3 : Int) (hR0 : RdL w0 A0 l0) (hL0 : l0.length ≤ c0) : Bool → Exit → Act → World → Prop := Rets Tryd.prog Tryd.f127 (punctualref_Goes.Post w0)
theorem punctualref_Goes_p0 (K : Nat) (w0 : World) (l0 : List SJob) (A0 : Option Addr) (c0 : Nat) (x1 : Int) (x2 : Int) (x3 : Int) (hR0 : RdL w0 A0 l0) (hL0 : l0.length ≤ c0) (o : (Int × Int × Int × Int × Int × Int × Int × Int × Int × Int) ⊕ Bool) (h : punctualref_Goes.p0 l0 x1 x2 = some o) (w : World) (hS : St w0 w []) (Q : Exit → Act → World → Prop) (hQ : ∀ x a w, Outs (punctualref_Goes.A0 K w0 l0 A0 c0 x1 x2 x3 hR0 hL0) (punctualref_Goes.B0 K w0 l0 A0 c0 x1 x2 x3 hR0 hL0) o x a w → Q x a w) : WE Tryd.prog 60 (subF Tryd.f127 [1, 0]) Q [(0, .slice A0 l0.length c0), (1, .int .i64 x1), (2, .int .i64 x2), (3, .int .i64 x3), (8, .bool false)] w := by
  simp only [punctualref_Goes.p0] at h
  refine we_orders2 (by kernel_rfl) [(3, [⟨blkOf A0, offOf A0 + ((x1).toNat) * 5, none⟩, ⟨blkOf A0, offOf A0 + ((x1).toNat) * 5 + 1, none⟩, ⟨blkOf A0, offOf A0 + ((x1).toNat) * 5 + 2, none⟩, ⟨blkOf A0, offOf A0 + ((x1).toNat) * 5 + 3, none⟩, ⟨blkOf A0, offOf A0 + ((x1).toNat) * 5 + 4, none⟩]), (7, [⟨blkOf A0, offOf A0 + ((x2).toNat) * 5, none⟩, ⟨blkOf A0, offOf A0 + ((x2).toNat) * 5 + 1, none⟩, ⟨blkOf A0, offOf A0 + ((x2).toNat) * 5 + 2, none⟩, ⟨blkOf A0, offOf A0 + ((x2).toNat) * 5 + 3, none⟩, ⟨blkOf A0, offOf A0 + ((x2).toNat) * 5 + 4, none⟩])] (.vals [0] (.vals [1] (.vals [2] (.vals [3] (.vals [4] (.vals [5] (.vals [6] (.vals [7] (.alt 8 1 (.alt 9 1 (.alt 10 2 (.alt 11 2 .fin .nomore) .nomore) .nomore) (.alt 9 1 (.alt 8 1 (.alt 10 2 (.alt 11 2 .fin .nomore) .nomore) .nomore) .nomore)))))))))) (by kernel_rfl) ?_
  have hS1 := hS.drew
  refine go2_batch [0, 1] (ans := []) (vs := [(12, .int .i64 x1), (11, .slice A0 l0.length c0)]) (l := []) (by kernel_rfl) trivial mem_nil ?_
  by_cases hc1 : 0 ≤ x1
  · rw [if_pos hc1] at h
    rcases hx1 : l0[(x1).toNat]? with _ | e1
    · rw [hx1] at h; cases h
    rw [hx1] at h
    simp only [] at h
    refine go2_index (d := 13) (ty := 0) (t := 49) (el := 58) (sz := 5) (m := l0.length) (c := c0) (x := (.tmp 11)) (y := (.tmp 12)) (A := A0) (k' := .i64) (j := x1) (jn := ((x1).toNat)) (b0 := blkOf A0) (o0 := offOf A0) (by kernel_rfl) (by kernel_rfl) (by kernel_rfl) (by kernel_rfl) (by kernel_rfl) ((hS1.rd hR0).eqSome (pos_of_get hx1)) (Int.toNat_of_nonneg hc1).symm (lt_of_get hx1) ?_
    refine go2_batch [3] (ans := [.val (.int .i64 e1.Task), .val (.int .i64 e1.At), .val (.int .i64 e1.C), .val (.int .i64 e1.Due), .val (.int .i64 e1.P)]) (vs := [(14, .agg #[.int .i64 e1.Task, .int .i64 e1.At, .int .i64 e1.C, .int .i64 e1.Due, .int .i64 e1.P])]) (l := [.loaded ⟨blkOf A0, offOf A0 + ((x1).toNat) * 5, none⟩ (.int .i64 e1.Task), .loaded ⟨blkOf A0, offOf A0 + ((x1).toNat) * 5 + 1, none⟩ (.int .i64 e1.At), .loaded ⟨blkOf A0, offOf A0 + ((x1).toNat) * 5 + 2, none⟩ (.int .i64 e1.C), .loaded ⟨blkOf A0, offOf A0 + ((x1).toNat) * 5 + 3, none⟩ (.int .i64 e1.Due), .loaded ⟨blkOf A0, offOf A0 + ((x1).toNat) * 5 + 4, none⟩ (.int .i64 e1.P)]) (by kernel_rfl) ⟨RdL.cell (j := 0) (hS1.rd hR0) hx1 rfl, RdL.cell (j := 1) (hS1.rd hR0) hx1 rfl, RdL.cell (j := 2) (hS1.rd hR0) hx1 rfl, RdL.cell (j := 3) (hS1.rd hR0) hx1 rfl, RdL.cell (j := 4) (hS1.rd hR0) hx1 rfl, trivial⟩ (mem_one (by kernel_rfl)) ?_
    refine go2_batch [4, 5] (ans := []) (vs := [(16, .int .i64 x2), (15, .slice A0 l0.length c0)]) (l := []) (by kernel_rfl) trivial mem_nil ?_
    by_cases hc2 : 0 ≤ x2
    · rw [if_pos hc2] at h
      rcases hx2 : l0[(x2).toNat]? with _ | e2
      · rw [hx2] at h; cases h
      rw [hx2] at h
      simp only [] at h
      refine go2_index (d := 17) (ty := 0) (t := 49) (el := 58) (sz := 5) (m := l0.length) (c := c0) (x := (.tmp 15)) (y := (.tmp 16)) (A := A0) (k' := .i64) (j := x2) (jn := ((x2).toNat)) (b0 := blkOf A0) (o0 := offOf A0) (by kernel_rfl) (by kernel_rfl) (by kernel_rfl) (by kernel_rfl) (by kernel_rfl) ((hS1.rd hR0).eqSome (pos_of_get hx2)) (Int.toNat_of_nonneg hc2).symm (lt_of_get hx2) ?_
      refine go2_batch [7] (ans := [.val (.int .i64 e2.Task), .val (.int .i64 e2.At), .val (.int .i64 e2.C), .val (.int .i64 e2.Due), .val (.int .i64 e2.P)]) (vs := [(18, .agg #[.int .i64 e2.Task, .int .i64 e2.At, .int .i64 e2.C, .int .i64 e2.Due, .int .i64 e2.P])]) (l := [.loaded ⟨blkOf A0, offOf A0 + ((x2).toNat) * 5, none⟩ (.int .i64 e2.Task), .loaded ⟨blkOf A0, offOf A0 + ((x2).toNat) * 5 + 1, none⟩ (.int .i64 e2.At), .loaded ⟨blkOf A0, offOf A0 + ((x2).toNat) * 5 + 2, none⟩ (.int .i64 e2.C), .loaded ⟨blkOf A0, offOf A0 + ((x2).toNat) * 5 + 3, none⟩ (.int .i64 e2.Due), .loaded ⟨blkOf A0, offOf A0 + ((x2).toNat) * 5 + 4, none⟩ (.int .i64 e2.P)]) (by kernel_rfl) ⟨RdL.cell (j := 0) (hS1.rd hR0) hx2 rfl, RdL.cell (j := 1) (hS1.rd hR0) hx2 rfl, RdL.cell (j := 2) (hS1.rd hR0) hx2 rfl, RdL.cell (j := 3) (hS1.rd hR0) hx2 rfl, RdL.cell (j := 4) (hS1.rd hR0) hx2 rfl, trivial⟩ (mem_one (by kernel_rfl)) ?_
      refine go_alt2 (fun KK hKK => ?_) ?_
      · refine ge_one2 ?_
        refine ge_new (d := some 9) (o := .cells #[.int .i64 0, .int .i64 0, .int .i64 0, .int .i64 0, .int .i64 0] 58) (v := fun b => .pointer (some ⟨b, 0, none⟩)) hS1 (fun b => by kernel_rfl) fun b3 w1 hx3 hS2 => ?_
        refine ge_nil fun a hF => hKK _ _ (RS.of2 (l := [.loaded ⟨blkOf A0, offOf A0 + ((x1).toNat) * 5, none⟩ (.int .i64 e1.Task), .loaded ⟨blkOf A0, offOf A0 + ((x1).toNat) * 5 + 1, none⟩ (.int .i64 e1.At), .loaded ⟨blkOf A0, offOf A0 + ((x1).toNat) * 5 + 2, none⟩ (.int .i64 e1.C), .loaded ⟨blkOf A0, offOf A0 + ((x1).toNat) * 5 + 3, none⟩ (.int .i64 e1.Due), .loaded ⟨blkOf A0, offOf A0 + ((x1).toNat) * 5 + 4, none⟩ (.int .i64 e1.P), .loaded ⟨blkOf A0, offOf A0 + ((x2).toNat) * 5, none⟩ (.int .i64 e2.Task), .loaded ⟨blkOf A0, offOf A0 + ((x2).toNat) * 5 + 1, none⟩ (.int .i64 e2.At), .loaded ⟨blkOf A0, offOf A0 + ((x2).toNat) * 5 + 2, none⟩ (.int .i64 e2.C), .loaded ⟨blkOf A0, offOf A0 + ((x2).toNat) * 5 + 3, none⟩ (.int .i64 e2.Due), .loaded ⟨blkOf A0, offOf A0 + ((x2).toNat) * 5 + 4, none⟩ (.int .i64 e2.P)]) (by kernel_rfl) ⟨RdL.cell (j := 0) (hS1.rd hR0) hx1 rfl, RdL.cell (j := 1) (hS1.rd hR0) hx1 rfl, RdL.cell (j := 2) (hS1.rd hR0) hx1 rfl, RdL.cell (j := 3) (hS1.rd hR0) hx1 rfl, RdL.cell (j := 4) (hS1.rd hR0) hx1 rfl, RdL.cell (j := 0) (hS1.rd hR0) hx2 rfl, RdL.cell (j := 1) (hS1.rd hR0) hx2 rfl, RdL.cell (j := 2) (hS1.rd hR0) hx2 rfl, RdL.cell (j := 3) (hS1.rd hR0) hx2 rfl, RdL.cell (j := 4) (hS1.rd hR0) hx2 rfl, trivial⟩ ⟨RdL.cell (j := 0) (hS2.rd hR0) hx1 rfl, RdL.cell (j := 1) (hS2.rd hR0) hx1 rfl, RdL.cell (j := 2) (hS2.rd hR0) hx1 rfl, RdL.cell (j := 3) (hS2.rd hR0) hx1 rfl, RdL.cell (j := 4) (hS2.rd hR0) hx1 rfl, RdL.cell (j := 0) (hS2.rd hR0) hx2 rfl, RdL.cell (j := 1) (hS2.rd hR0) hx2 rfl, RdL.cell (j := 2) (hS2.rd hR0) hx2 rfl, RdL.cell (j := 3) (hS2.rd hR0) hx2 rfl, RdL.cell (j := 4) (hS2.rd hR0) hx2 rfl, trivial⟩) ?_ a hF
        refine go_alt2 (fun KK hKK => ?_) ?_
        · refine ge_one2 ?_
          refine ge_new (d := some 10) (o := .cells #[.int .i64 0, .int .i64 0, .int .i64 0, .int .i64 0, .int .i64 0] 58) (v := fun b => .pointer (some ⟨b, 0, none⟩)) hS2 (fun b => by kernel_rfl) fun b4 w2 hx4 hS3 => ?_
          refine ge_nil fun a hF => hKK _ _ (RS.of2 (l := [.loaded ⟨blkOf A0, offOf A0 + ((x1).toNat) * 5, none⟩ (.int .i64 e1.Task), .loaded ⟨blkOf A0, offOf A0 + ((x1).toNat) * 5 + 1, none⟩ (.int .i64 e1.At), .loaded ⟨blkOf A0, offOf A0 + ((x1).toNat) * 5 + 2, none⟩ (.int .i64 e1.C), .loaded ⟨blkOf A0, offOf A0 + ((x1).toNat) * 5 + 3, none⟩ (.int .i64 e1.Due), .loaded ⟨blkOf A0, offOf A0 + ((x1).toNat) * 5 + 4, none⟩ (.int .i64 e1.P), .loaded ⟨blkOf A0, offOf A0 + ((x2).toNat) * 5, none⟩ (.int .i64 e2.Task), .loaded ⟨blkOf A0, offOf A0 + ((x2).toNat) * 5 + 1, none⟩ (.int .i64 e2.At), .loaded ⟨blkOf A0, offOf A0 + ((x2).toNat) * 5 + 2, none⟩ (.int .i64 e2.C), .loaded ⟨blkOf A0, offOf A0 + ((x2).toNat) * 5 + 3, none⟩ (.int .i64 e2.Due), .loaded ⟨blkOf A0, offOf A0 + ((x2).toNat) * 5 + 4, none⟩ (.int .i64 e2.P)]) (by kernel_rfl) ⟨RdL.cell (j := 0) (hS2.rd hR0) hx1 rfl, RdL.cell (j := 1) (hS2.rd hR0) hx1 rfl, RdL.cell (j := 2) (hS2.rd hR0) hx1 rfl, RdL.cell (j := 3) (hS2.rd hR0) hx1 rfl, RdL.cell (j := 4) (hS2.rd hR0) hx1 rfl, RdL.cell (j := 0) (hS2.rd hR0) hx2 rfl, RdL.cell (j := 1) (hS2.rd hR0) hx2 rfl, RdL.cell (j := 2) (hS2.rd hR0) hx2 rfl, RdL.cell (j := 3) (hS2.rd hR0) hx2 rfl, RdL.cell (j := 4) (hS2.rd hR0) hx2 rfl, trivial⟩ ⟨RdL.cell (j := 0) (hS3.rd hR0) hx1 rfl, RdL.cell (j := 1) (hS3.rd hR0) hx1 rfl, RdL.cell (j := 2) (hS3.rd hR0) hx1 rfl, RdL.cell (j := 3) (hS3.rd hR0) hx1 rfl, RdL.cell (j := 4) (hS3.rd hR0) hx1 rfl, RdL.cell (j := 0) (hS3.rd hR0) hx2 rfl, RdL.cell (j := 1) (hS3.rd hR0) hx2 rfl, RdL.cell (j := 2) (hS3.rd hR0) hx2 rfl, RdL.cell (j := 3) (hS3.rd hR0) hx2 rfl, RdL.cell (j := 4) (hS3.rd hR0) hx2 rfl, trivial⟩) ?_ a hF
          refine go_alt2 (fun KK hKK => ?_) ?_
          · have hS4 := hS3.bring 1 rfl
            refine ge_set (b := b3) (j := 0) (cs := #[.int .i64 0, .int .i64 0, .int .i64 0, .int .i64 0, .int .i64 0]) (t := 58) (vs := [.int .i64 e1.Task, .int .i64 e1.At, .int .i64 e1.C, .int .i64 e1.Due, .int .i64 e1.P]) hS4 (by kernel_rfl) rfl rfl fun w3 hS5 => ?_
            have hS6 : St w0 w3 [Own.blk b3 (.cells #[.int .i64 e1.Task, .int .i64 e1.At, .int .i64 e1.C, .int .i64 e1.Due, .int .i64 e1.P] 58 (0, 0)), Own.blk b4 (.cells #[.int .i64 0, .int .i64 0, .int .i64 0, .int .i64 0, .int .i64 0] 58 (0, 0))] := hS5
            refine ge_nil fun a hF => hKK _ _ (RS.of2 (l := [.loaded ⟨blkOf A0, offOf A0 + ((x2).toNat) * 5, none⟩ (.int .i64 e2.Task), .loaded ⟨blkOf A0, offOf A0 + ((x2).toNat) * 5 + 1, none⟩ (.int .i64 e2.At), .loaded ⟨blkOf A0, offOf A0 + ((x2).toNat) * 5 + 2, none⟩ (.int .i64 e2.C), .loaded ⟨blkOf A0, offOf A0 + ((x2).toNat) * 5 + 3, none⟩ (.int .i64 e2.Due), .loaded ⟨blkOf A0, offOf A0 + ((x2).toNat) * 5 + 4, none⟩ (.int .i64 e2.P)]) (by kernel_rfl) ⟨RdL.cell (j := 0) (hS3.rd hR0) hx2 rfl, RdL.cell (j := 1) (hS3.rd hR0) hx2 rfl, RdL.cell (j := 2) (hS3.rd hR0) hx2 rfl, RdL.cell (j := 3) (hS3.rd hR0) hx2 rfl, RdL.cell (j := 4) (hS3.rd hR0) hx2 rfl, trivial⟩ ⟨RdL.cell (j := 0) (hS6.rd hR0) hx2 rfl, RdL.cell (j := 1) (hS6.rd hR0) hx2 rfl, RdL.cell (j := 2) (hS6.rd hR0) hx2 rfl, RdL.cell (j := 3) (hS6.rd hR0) hx2 rfl, RdL.cell (j := 4) (hS6.rd hR0) hx2 rfl, trivial⟩) ?_ a hF
            refine go_alt2 (fun KK hKK => ?_) ?_
            · have hS7 := hS6.bring 1 rfl
              refine ge_set (b := b4) (j := 0) (cs := #[.int .i64 0, .int .i64 0, .int .i64 0, .int .i64 0, .int .i64 0]) (t := 58) (vs := [.int .i64 e2.Task, .int .i64 e2.At, .int .i64 e2.C, .int .i64 e2.Due, .int .i64 e2.P]) hS7 (by kernel_rfl) rfl rfl fun w4 hS8 => ?_
              have hS9 : St w0 w4 [Own.blk b4 (.cells #[.int .i64 e2.Task, .int .i64 e2.At, .int .i64 e2.C, .int .i64 e2.Due, .int .i64 e2.P] 58 (0, 0)), Own.blk b3 (.cells #[.int .i64 e1.Task, .int .i64 e1.At, .int .i64 e1.C, .int .i64 e1.Due, .int .i64 e1.P] 58 (0, 0))] := hS8
              refine ge_nil fun a hF => hKK _ _ (RS.of2 (l := []) (by kernel_rfl) trivial trivial) ?_ a hF
              have hS10 := hS9.bring 1 rfl
              obtain rfl := Option.some.inj h
              exact go_fin2 fun a hF => hQ _ _ _ (Outs.again ⟨b3, b4, hS10, hF.weaken ⟨by kernel_rfl, by kernel_rfl, by kernel_rfl, by kernel_rfl, by kernel_rfl, trivial⟩⟩)
            exact go_nomore2
          exact go_nomore2
        exact go_nomore2
      refine go_alt2 (fun KK hKK => ?_) ?_
      · refine ge_one2 ?_
        refine ge_new (d := some 10) (o := .cells #[.int .i64 0, .int .i64 0, .int .i64 0, .int .i64 0, .int .i64 0] 58) (v := fun b => .pointer (some ⟨b, 0, none⟩)) hS1 (fun b => by kernel_rfl) fun b3 w1 hx3 hS2 => ?_
        refine ge_nil fun a hF => hKK _ _ (RS.of2 (l := [.loaded ⟨blkOf A0, offOf A0 + ((x1).toNat) * 5, none⟩ (.int .i64 e1.Task), .loaded ⟨blkOf A0, offOf A0 + ((x1).toNat) * 5 + 1, none⟩ (.int .i64 e1.At), .loaded ⟨blkOf A0, offOf A0 + ((x1).toNat) * 5 + 2, none⟩ (.int .i64 e1.C), .loaded ⟨blkOf A0, offOf A0 + ((x1).toNat) * 5 + 3, none⟩ (.int .i64 e1.Due), .loaded ⟨blkOf A0, offOf A0 + ((x1).toNat) * 5 + 4, none⟩ (.int .i64 e1.P), .loaded ⟨blkOf A0, offOf A0 + ((x2).toNat) * 5, none⟩ (.int .i64 e2.Task), .loaded ⟨blkOf A0, offOf A0 + ((x2).toNat) * 5 + 1, none⟩ (.int .i64 e2.At), .loaded ⟨blkOf A0, offOf A0 + ((x2).toNat) * 5 + 2, none⟩ (.int .i64 e2.C), .loaded ⟨blkOf A0, offOf A0 + ((x2).toNat) * 5 + 3, none⟩ (.int .i64 e2.Due), .loaded ⟨blkOf A0, offOf A0 + ((x2).toNat) * 5 + 4, none⟩ (.int .i64 e2.P)]) (by kernel_rfl) ⟨RdL.cell (j := 0) (hS1.rd hR0) hx1 rfl, RdL.cell (j := 1) (hS1.rd hR0) hx1 rfl, RdL.cell (j := 2) (hS1.rd hR0) hx1 rfl, RdL.cell (j := 3) (hS1.rd hR0) hx1 rfl, RdL.cell (j := 4) (hS1.rd hR0) hx1 rfl, RdL.cell (j := 0) (hS1.rd hR0) hx2 rfl, RdL.cell (j := 1) (hS1.rd hR0) hx2 rfl, RdL.cell (j := 2) (hS1.rd hR0) hx2 rfl, RdL.cell (j := 3) (hS1.rd hR0) hx2 rfl, RdL.cell (j := 4) (hS1.rd hR0) hx2 rfl, trivial⟩ ⟨RdL.cell (j := 0) (hS2.rd hR0) hx1 rfl, RdL.cell (j := 1) (hS2.rd hR0) hx1 rfl, RdL.cell (j := 2) (hS2.rd hR0) hx1 rfl, RdL.cell (j := 3) (hS2.rd hR0) hx1 rfl, RdL.cell (j := 4) (hS2.rd hR0) hx1 rfl, RdL.cell (j := 0) (hS2.rd hR0) hx2 rfl, RdL.cell (j := 1) (hS2.rd hR0) hx2 rfl, RdL.cell (j := 2) (hS2.rd hR0) hx2 rfl, RdL.cell (j := 3) (hS2.rd hR0) hx2 rfl, RdL.cell (j := 4) (hS2.rd hR0) hx2 rfl, trivial⟩) ?_ a hF
        refine go_alt2 (fun KK hKK => ?_) ?_
        · refine ge_one2 ?_
          refine ge_new (d := some 9) (o := .cells #[.int .i64 0, .int .i64 0, .int .i64 0, .int .i64 0, .int .i64 0] 58) (v := fun b => .pointer (some ⟨b, 0, none⟩)) hS2 (fun b => by kernel_rfl) fun b4 w2 hx4 hS3 => ?_
          refine ge_nil fun a hF => hKK _ _ (RS.of2 (l := [.loaded ⟨blkOf A0, offOf A0 + ((x1).toNat) * 5, none⟩ (.int .i64 e1.Task), .loaded ⟨blkOf A0, offOf A0 + ((x1).toNat) * 5 + 1, none⟩ (.int .i64 e1.At), .loaded ⟨blkOf A0, offOf A0 + ((x1).toNat) * 5 + 2, none⟩ (.int .i64 e1.C), .loaded ⟨blkOf A0, offOf A0 + ((x1).toNat) * 5 + 3, none⟩ (.int .i64 e1.Due), .loaded ⟨blkOf A0, offOf A0 + ((x1).toNat) * 5 + 4, none⟩ (.int .i64 e1.P), .loaded ⟨blkOf A0, offOf A0 + ((x2).toNat) * 5, none⟩ (.int .i64 e2.Task), .loaded ⟨blkOf A0, offOf A0 + ((x2).toNat) * 5 + 1, none⟩ (.int .i64 e2.At), .loaded ⟨blkOf A0, offOf A0 + ((x2).toNat) * 5 + 2, none⟩ (.int .i64 e2.C), .loaded ⟨blkOf A0, offOf A0 + ((x2).toNat) * 5 + 3, none⟩ (.int .i64 e2.Due), .loaded ⟨blkOf A0, offOf A0 + ((x2).toNat) * 5 + 4, none⟩ (.int .i64 e2.P)]) (by kernel_rfl) ⟨RdL.cell (j := 0) (hS2.rd hR0) hx1 rfl, RdL.cell (j := 1) (hS2.rd hR0) hx1 rfl, RdL.cell (j := 2) (hS2.rd hR0) hx1 rfl, RdL.cell (j := 3) (hS2.rd hR0) hx1 rfl, RdL.cell (j := 4) (hS2.rd hR0) hx1 rfl, RdL.cell (j := 0) (hS2.rd hR0) hx2 rfl, RdL.cell (j := 1) (hS2.rd hR0) hx2 rfl, RdL.cell (j := 2) (hS2.rd hR0) hx2 rfl, RdL.cell (j := 3) (hS2.rd hR0) hx2 rfl, RdL.cell (j := 4) (hS2.rd hR0) hx2 rfl, trivial⟩ ⟨RdL.cell (j := 0) (hS3.rd hR0) hx1 rfl, RdL.cell (j := 1) (hS3.rd hR0) hx1 rfl, RdL.cell (j := 2) (hS3.rd hR0) hx1 rfl, RdL.cell (j := 3) (hS3.rd hR0) hx1 rfl, RdL.cell (j := 4) (hS3.rd hR0) hx1 rfl, RdL.cell (j := 0) (hS3.rd hR0) hx2 rfl, RdL.cell (j := 1) (hS3.rd hR0) hx2 rfl, RdL.cell (j := 2) (hS3.rd hR0) hx2 rfl, RdL.cell (j := 3) (hS3.rd hR0) hx2 rfl, RdL.cell (j := 4) (hS3.rd hR0) hx2 rfl, trivial⟩) ?_ a hF
          refine go_alt2 (fun KK hKK => ?_) ?_
          · refine ge_set (b := b4) (j := 0) (cs := #[.int .i64 0, .int .i64 0, .int .i64 0, .int .i64 0, .int .i64 0]) (t := 58) (vs := [.int .i64 e1.Task, .int .i64 e1.At, .int .i64 e1.C, .int .i64 e1.Due, .int .i64 e1.P]) hS3 (by kernel_rfl) rfl rfl fun w3 hS4 => ?_
            have hS5 : St w0 w3 [Own.blk b4 (.cells #[.int .i64 e1.Task, .int .i64 e1.At, .int .i64 e1.C, .int .i64 e1.Due, .int .i64 e1.P] 58 (0, 0)), Own.blk b3 (.cells #[.int .i64 0, .int .i64 0, .int .i64 0, .int .i64 0, .int .i64 0] 58 (0, 0))] := hS4
            refine ge_nil fun a hF => hKK _ _ (RS.of2 (l := [.loaded ⟨blkOf A0, offOf A0 + ((x2).toNat) * 5, none⟩ (.int .i64 e2.Task), .loaded ⟨blkOf A0, offOf A0 + ((x2).toNat) * 5 + 1, none⟩ (.int .i64 e2.At), .loaded ⟨blkOf A0, offOf A0 + ((x2).toNat) * 5 + 2, none⟩ (.int .i64 e2.C), .loaded ⟨blkOf A0, offOf A0 + ((x2).toNat) * 5 + 3, none⟩ (.int .i64 e2.Due), .loaded ⟨blkOf A0, offOf A0 + ((x2).toNat) * 5 + 4, none⟩ (.int .i64 e2.P)]) (by kernel_rfl) ⟨RdL.cell (j := 0) (hS3.rd hR0) hx2 rfl, RdL.cell (j := 1) (hS3.rd hR0) hx2 rfl, RdL.cell (j := 2) (hS3.rd hR0) hx2 rfl, RdL.cell (j := 3) (hS3.rd hR0) hx2 rfl, RdL.cell (j := 4) (hS3.rd hR0) hx2 rfl, trivial⟩ ⟨RdL.cell (j := 0) (hS5.rd hR0) hx2 rfl, RdL.cell (j := 1) (hS5.rd hR0) hx2 rfl, RdL.cell (j := 2) (hS5.rd hR0) hx2 rfl, RdL.cell (j := 3) (hS5.rd hR0) hx2 rfl, RdL.cell (j := 4) (hS5.rd hR0) hx2 rfl, trivial⟩) ?_ a hF
            refine go_alt2 (fun KK hKK => ?_) ?_
            · have hS6 := hS5.bring 1 rfl
              refine ge_set (b := b3) (j := 0) (cs := #[.int .i64 0, .int .i64 0, .int .i64 0, .int .i64 0, .int .i64 0]) (t := 58) (vs := [.int .i64 e2.Task, .int .i64 e2.At, .int .i64 e2.C, .int .i64 e2.Due, .int .i64 e2.P]) hS6 (by kernel_rfl) rfl rfl fun w4 hS7 => ?_
              have hS8 : St w0 w4 [Own.blk b3 (.cells #[.int .i64 e2.Task, .int .i64 e2.At, .int .i64 e2.C, .int .i64 e2.Due, .int .i64 e2.P] 58 (0, 0)), Own.blk b4 (.cells #[.int .i64 e1.Task, .int .i64 e1.At, .int .i64 e1.C, .int .i64 e1.Due, .int .i64 e1.P] 58 (0, 0))] := hS7
              refine ge_nil fun a hF => hKK _ _ (RS.of2 (l := []) (by kernel_rfl) trivial trivial) ?_ a hF
              have hS9 := hS8.bring 1 rfl
              obtain rfl := Option.some.inj h
              exact go_fin2 fun a hF => hQ _ _ _ (Outs.again ⟨b4, b3, hS9, hF.weaken ⟨by kernel_rfl, by kernel_rfl, by kernel_rfl, by kernel_rfl, by kernel_rfl, trivial⟩⟩)
            exact go_nomore2
          exact go_nomore2
        exact go_nomore2
      exact go_nomore2
    · rw [if_neg hc2] at h
      cases h
  · rw [if_neg hc1] at h
    cases h
theorem punctualref_Goes_ok (l0 : List SJob) (A0 : Option Addr) (c0 : Nat) (x1 : Int) (x2 : Int) (x3 : Int) (w0 : World) (hR0 : RdL w0 A0 l0) (hL0 : l0.length ≤ c0) (r : Bool) (h : punctualref_Goes.f l0 x1 x2 x3 = some r) :
    Calls Tryd.prog 127 #[.slice A0 l0.length c0, .int .i64 x1, .int .i64 x2, .int .i64 x3] w0 (punctualref_Goes.Post w0 r) := by
  have hS := St.start w0
  unfold punctualref_Goes.f at h
  refine calls_enter (n := 60) (args := [.slice A0 l0.length c0, .int .i64 x1, .int .i64 x2, .int .i64 x3]) (fn := Tryd.f127) rfl rfl rfl rfl ?_
  show WE _ _ _ _ [(0, .slice A0 l0.length c0), (1, .int .i64 x1), (2, .int .i64 x2), (3, .int .i64 x3)] _
  refine we_seq fun K1 hK1 => ?_
  refine we_region [(0, 0)] rfl ?_
  refine ge_batch [0] (ans := []) (vs := [(8, .bool false)]) (l := []) (by kernel_rfl) trivial ?_
  refine ge_nil fun a hF => hK1 _ _ ?_ a hF
  refine we_seq fun K2 hK2 => ?_
  rcases hq1 : punctualref_Goes.p0 l0 x1 x2 with _ | (⟨z11, z12, z13, z14, z15, z16, z17, z18, z19, z20⟩ | rr1)
  · rw [hq1] at h; cases h
  · rw [hq1] at h
    simp only [] at h
    refine we_keep (e' := [(0, .slice A0 l0.length c0), (1, .int .i64 x1), (2, .int .i64 x2), (3, .int .i64 x3), (8, .bool false)]) ⟨by kernel_rfl, by kernel_rfl, by kernel_rfl, by kernel_rfl, by kernel_rfl, trivial⟩ (punctualref_Goes_p0 0 w0 l0 A0 c0 x1 x2 x3 hR0 hL0 _ hq1 _ hS _ ?_)
    rintro _ a w5 ⟨rfl, b5, b6, hS10, hF⟩
    replace hS10 : St w0 w5 [Own.blk b5 (.cells #[.int .i64 z11, .int .i64 z12, .int .i64 z13, .int .i64 z14, .int .i64 z15] 58 (0, 0)), Own.blk b6 (.cells #[.int .i64 z16, .int .i64 z17, .int .i64 z18, .int .i64 z19, .int .i64 z20] 58 (0, 0))] := hS10
    refine hK2 [(1, .int .i64 x1), (2, .int .i64 x2), (3, .int .i64 x3), (9, .pointer (some ⟨b5, 0, none⟩)), (10, .pointer (some ⟨b6, 0, none⟩))] w5 ?_ a hF
    refine we_seq fun K3 hK3 => ?_
    refine we_seq fun K4 hK4 => ?_
    refine we_region [(0, 0), (1, 0), (2, 0), (3, 0), (4, 0), (5, 0), (6, 0), (7, 0), (8, 0)] rfl ?_
    refine ge_batch [0, 1, 2] (ans := []) (vs := [(21, .bool (x3 == 1)), (20, .bool (x3 == 1)), (19, .int .i64 x3)]) (l := []) (by kernel_rfl) trivial ?_
    by_cases hc3 : x3 = 1
    · rw [if_pos hc3] at h
      refine ge_known (t := 21) (b := (x3 == 1)) (c := true) (by kernel_rfl) (beq_iff_eq.2 hc3) ?_
      refine ge_batch [3, 4, 5, 6, 7, 8] (ans := [.val (.int .i64 z15), .val (.int .i64 z20)]) (vs := [(27, .bool (z15 != z20)), (26, .bool (z15 != z20)), (25, .int .i64 z20), (24, .pointer (some ⟨b6, 4, none⟩)), (23, .int .i64 z15), (22, .pointer (some ⟨b5, 4, none⟩))]) (l := [.loaded ⟨b5, 4, none⟩ (.int .i64 z15), .loaded ⟨b6, 4, none⟩ (.int .i64 z20)]) (by kernel_rfl) ⟨hS10.cell 0 rfl rfl, hS10.cell 1 rfl rfl, trivial⟩ ?_
      refine ge_nil fun a hF => hK4 _ _ ?_ a hF
      by_cases hc4 : z15 = z20
      · rw [if_pos hc4] at h
        refine we_known (t := 27) (b := (z15 != z20)) (v := false) (by kernel_rfl) (bne_eq_false_iff_eq.2 hc4) ?_
        refine we_false (by kernel_rfl) ?_
        refine we_skip fun a hF => hK3 _ _ ?_ a hF
        refine we_seq fun K5 hK5 => ?_
        refine we_seq fun K6 hK6 => ?_
        refine we_region [(0, 0), (1, 0), (2, 0), (3, 0), (4, 0), (5, 0), (6, 0), (7, 0), (8, 0)] rfl ?_
        refine ge_batch [0, 1, 2] (ans := []) (vs := [(35, .bool (x3 == 2)), (34, .bool (x3 == 2)), (33, .int .i64 x3)]) (l := []) (by kernel_rfl) trivial ?_
        by_cases hc5 : x3 = 2
        · rw [if_pos hc5] at h
          refine ge_known (t := 35) (b := (x3 == 2)) (c := true) (by kernel_rfl) (beq_iff_eq.2 hc5) ?_
          refine ge_batch [3, 4, 5, 6, 7, 8] (ans := [.val (.int .i64 z14), .val (.int .i64 z19)]) (vs := [(41, .bool (z14 != z19)), (40, .bool (z14 != z19)), (39, .int .i64 z19), (38, .pointer (some ⟨b6, 3, none⟩)), (37, .int .i64 z14), (36, .pointer (some ⟨b5, 3, none⟩))]) (l := [.loaded ⟨b5, 3, none⟩ (.int .i64 z14), .loaded ⟨b6, 3, none⟩ (.int .i64 z19)]) (by kernel_rfl) ⟨hS10.cell 0 rfl rfl, hS10.cell 1 rfl rfl, trivial⟩ ?_
          refine ge_nil fun a hF => hK6 _ _ ?_ a hF
          by_cases hc6 : z14 = z19
          · rw [if_pos hc6] at h
            refine we_known (t := 41) (b := (z14 != z19)) (v := false) (by kernel_rfl) (bne_eq_false_iff_eq.2 hc6) ?_
            refine we_false (by kernel_rfl) ?_
            refine we_skip fun a hF => hK5 _ _ ?_ a hF
            refine we_seq fun K7 hK7 => ?_
            refine we_seq fun K8 hK8 => ?_
            refine we_region [(0, 0), (1, 0), (2, 0), (3, 0), (4, 0)] rfl ?_
            refine ge_batch [0, 1, 2, 3, 4] (ans := [.val (.int .i64 z12), .val (.int .i64 z17)]) (vs := [(51, .bool (z12 != z17)), (50, .int .i64 z17), (49, .pointer (some ⟨b6, 1, none⟩)), (48, .int .i64 z12), (47, .pointer (some ⟨b5, 1, none⟩))]) (l := [.loaded ⟨b5, 1, none⟩ (.int .i64 z12), .loaded ⟨b6, 1, none⟩ (.int .i64 z17)]) (by kernel_rfl) ⟨hS10.cell 0 rfl rfl, hS10.cell 1 rfl rfl, trivial⟩ ?_
            refine ge_nil fun a hF => hK8 _ _ ?_ a hF
            by_cases hc7 : z12 = z17
            · rw [if_pos hc7] at h
              refine we_known (t := 51) (b := (z12 != z17)) (v := false) (by kernel_rfl) (bne_eq_false_iff_eq.2 hc7) ?_
              refine we_false (by kernel_rfl) ?_
              refine we_skip fun a hF => hK7 _ _ ?_ a hF
              refine we_seq fun K9 hK9 => ?_
              refine we_region [(0, 0), (1, 0), (2, 0), (3, 0)] rfl ?_
              refine ge_batch [0, 1, 2, 3] (ans := []) (vs := [(8, .bool (decide (x1 < x2))), (59, .bool (decide (x1 < x2))), (58, .int .i64 x2), (57, .int .i64 x1)]) (l := []) (by kernel_rfl) trivial ?_
              refine ge_nil fun a hF => hK9 _ _ ?_ a hF
              have hS11 := hS10.takeN 0
              obtain rfl := Option.some.inj h
              exact we_ret (post_ret (rs := [.tmp 8]) (ans := []) (vs := [.bool (decide (x1 < x2))]) (l := []) rfl (by kernel_rfl) trivial ⟨rfl, hS11⟩)
            · rw [if_neg hc7] at h
              refine we_known (t := 51) (b := (z12 != z17)) (v := true) (by kernel_rfl) (bne_iff_ne.2 hc7) ?_
              refine we_true (by kernel_rfl) ?_
              refine we_seq fun K10 hK10 => ?_
              refine we_region [(0, 0), (1, 0), (2, 0), (3, 0), (4, 0), (5, 0)] rfl ?_
              refine ge_batch [0, 1, 2, 3, 4, 5] (ans := [.val (.int .i64 z12), .val (.int .i64 z17)]) (vs := [(8, .bool (decide (z12 < z17))), (56, .bool (decide (z12 < z17))), (55, .int .i64 z17), (54, .pointer (some ⟨b6, 1, none⟩)), (53, .int .i64 z12), (52, .pointer (some ⟨b5, 1, none⟩))]) (l := [.loaded ⟨b5, 1, none⟩ (.int .i64 z12), .loaded ⟨b6, 1, none⟩ (.int .i64 z17)]) (by kernel_rfl) ⟨hS10.cell 0 rfl rfl, hS10.cell 1 rfl rfl, trivial⟩ ?_
              refine ge_nil fun a hF => hK10 _ _ ?_ a hF
              have hS12 := hS10.takeN 0
              obtain rfl := Option.some.inj h
              exact we_ret (post_ret (rs := [.tmp 8]) (ans := []) (vs := [.bool (decide (z12 < z17))]) (l := []) rfl (by kernel_rfl) trivial ⟨rfl, hS12⟩)
          · rw [if_neg hc6] at h
            refine we_known (t := 41) (b := (z14 != z19)) (v := true) (by kernel_rfl) (bne_iff_ne.2 hc6) ?_
            refine we_true (by kernel_rfl) ?_
            refine we_seq fun K11 hK11 => ?_
            refine we_region [(0, 0), (1, 0), (2, 0), (3, 0), (4, 0), (5, 0)] rfl ?_
            refine ge_batch [0, 1, 2, 3, 4, 5] (ans := [.val (.int .i64 z14), .val (.int .i64 z19)]) (vs := [(8, .bool (decide (z14 < z19))), (46, .bool (decide (z14 < z19))), (45, .int .i64 z19), (44, .pointer (some ⟨b6, 3, none⟩)), (43, .int .i64 z14), (42, .pointer (some ⟨b5, 3, none⟩))]) (l := [.loaded ⟨b5, 3, none⟩ (.int .i64 z14), .loaded ⟨b6, 3, none⟩ (.int .i64 z19)]) (by kernel_rfl) ⟨hS10.cell 0 rfl rfl, hS10.cell 1 rfl rfl, trivial⟩ ?_
            refine ge_nil fun a hF => hK11 _ _ ?_ a hF
            have hS13 := hS10.takeN 0
            obtain rfl := Option.some.inj h
            exact we_ret (post_ret (rs := [.tmp 8]) (ans := []) (vs := [.bool (decide (z14 < z19))]) (l := []) rfl (by kernel_rfl) trivial ⟨rfl, hS13⟩)
        · rw [if_neg hc5] at h
          refine ge_known (t := 35) (b := (x3 == 2)) (c := false) (by kernel_rfl) (beq_eq_false_iff_ne.2 hc5) ?_
          refine ge_batch [3, 4, 5, 6, 7, 8] (ans := []) (vs := [(41, .bool false), (40, undef), (39, undef), (38, undef), (37, undef), (36, undef)]) (l := []) (by kernel_rfl) trivial ?_
          refine ge_nil fun a hF => hK6 _ _ ?_ a hF
          refine we_false (by kernel_rfl) ?_
          refine we_skip fun a hF => hK5 _ _ ?_ a hF
          refine we_seq fun K12 hK12 => ?_
          refine we_seq fun K13 hK13 => ?_
          refine we_region [(0, 0), (1, 0), (2, 0), (3, 0), (4, 0)] rfl ?_
          refine ge_batch [0, 1, 2, 3, 4] (ans := [.val (.int .i64 z12), .val (.int .i64 z17)]) (vs := [(51, .bool (z12 != z17)), (50, .int .i64 z17), (49, .pointer (some ⟨b6, 1, none⟩)), (48, .int .i64 z12), (47, .pointer (some ⟨b5, 1, none⟩))]) (l := [.loaded ⟨b5, 1, none⟩ (.int .i64 z12), .loaded ⟨b6, 1, none⟩ (.int .i64 z17)]) (by kernel_rfl) ⟨hS10.cell 0 rfl rfl, hS10.cell 1 rfl rfl, trivial⟩ ?_
          refine ge_nil fun a hF => hK13 _ _ ?_ a hF
          by_cases hc8 : z12 = z17
          · rw [if_pos hc8] at h
            refine we_known (t := 51) (b := (z12 != z17)) (v := false) (by kernel_rfl) (bne_eq_false_iff_eq.2 hc8) ?_
            refine we_false (by kernel_rfl) ?_
            refine we_skip fun a hF => hK12 _ _ ?_ a hF
            refine we_seq fun K14 hK14 => ?_
            refine we_region [(0, 0), (1, 0), (2, 0), (3, 0)] rfl ?_
            refine ge_batch [0, 1, 2, 3] (ans := []) (vs := [(8, .bool (decide (x1 < x2))), (59, .bool (decide (x1 < x2))), (58, .int .i64 x2), (57, .int .i64 x1)]) (l := []) (by kernel_rfl) trivial ?_
            refine ge_nil fun a hF => hK14 _ _ ?_ a hF
            have hS14 := hS10.takeN 0
            obtain rfl := Option.some.inj h
            exact we_ret (post_ret (rs := [.tmp 8]) (ans := []) (vs := [.bool (decide (x1 < x2))]) (l := []) rfl (by kernel_rfl) trivial ⟨rfl, hS14⟩)
          · rw [if_neg hc8] at h
            refine we_known (t := 51) (b := (z12 != z17)) (v := true) (by kernel_rfl) (bne_iff_ne.2 hc8) ?_
            refine we_true (by kernel_rfl) ?_
            refine we_seq fun K15 hK15 => ?_
            refine we_region [(0, 0), (1, 0), (2, 0), (3, 0), (4, 0), (5, 0)] rfl ?_
            refine ge_batch [0, 1, 2, 3, 4, 5] (ans := [.val (.int .i64 z12), .val (.int .i64 z17)]) (vs := [(8, .bool (decide (z12 < z17))), (56, .bool (decide (z12 < z17))), (55, .int .i64 z17), (54, .pointer (some ⟨b6, 1, none⟩)), (53, .int .i64 z12), (52, .pointer (some ⟨b5, 1, none⟩))]) (l := [.loaded ⟨b5, 1, none⟩ (.int .i64 z12), .loaded ⟨b6, 1, none⟩ (.int .i64 z17)]) (by kernel_rfl) ⟨hS10.cell 0 rfl rfl, hS10.cell 1 rfl rfl, trivial⟩ ?_
            refine ge_nil fun a hF => hK15 _ _ ?_ a hF
            have hS15 := hS10.takeN 0
            obtain rfl := Option.some.inj h
            exact we_ret (post_ret (rs := [.tmp 8]) (ans := []) (vs := [.bool (decide (z12 < z17))]) (l := []) rfl (by kernel_rfl) trivial ⟨rfl, hS15⟩)
      · rw [if_neg hc4] at h
        refine we_known (t := 27) (b := (z15 != z20)) (v := true) (by kernel_rfl) (bne_iff_ne.2 hc4) ?_
        refine we_true (by kernel_rfl) ?_
        refine we_seq fun K16 hK16 => ?_
        refine we_region [(0, 0), (1, 0), (2, 0), (3, 0), (4, 0), (5, 0)] rfl ?_
        refine ge_batch [0, 1, 2, 3, 4, 5] (ans := [.val (.int .i64 z15), .val (.int .i64 z20)]) (vs := [(8, .bool (decide (z15 > z20))), (32, .bool (decide (z15 > z20))), (31, .int .i64 z20), (30, .pointer (some ⟨b6, 4, none⟩)), (29, .int .i64 z15), (28, .pointer (some ⟨b5, 4, none⟩))]) (l := [.loaded ⟨b5, 4, none⟩ (.int .i64 z15), .loaded ⟨b6, 4, none⟩ (.int .i64 z20)]) (by kernel_rfl) ⟨hS10.cell 0 rfl rfl, hS10.cell 1 rfl rfl, trivial⟩ ?_
        refine ge_nil fun a hF => hK16 _ _ ?_ a hF
        have hS16 := hS10.takeN 0
        obtain rfl := Option.some.inj h
        exact we_ret (post_ret (rs := [.tmp 8]) (ans := []) (vs := [.bool (decide (z15 > z20))]) (l := []) rfl (by kernel_rfl) trivial ⟨rfl, hS16⟩)
    · rw [if_neg hc3] at h
      refine ge_known (t := 21) (b := (x3 == 1)) (c := false) (by kernel_rfl) (beq_eq_false_iff_ne.2 hc3) ?_
      refine ge_batch [3, 4, 5, 6, 7, 8] (ans := []) (vs := [(27, .bool false), (26, undef), (25, undef), (24, undef), (23, undef), (22, undef)]) (l := []) (by kernel_rfl) trivial ?_
      refine ge_nil fun a hF => hK4 _ _ ?_ a hF
      refine we_false (by kernel_rfl) ?_
      refine we_skip fun a hF => hK3 _ _ ?_ a hF
      refine we_seq fun K17 hK17 => ?_
      refine we_seq fun K18 hK18 => ?_
      refine we_region [(0, 0), (1, 0), (2, 0), (3, 0), (4, 0), (5, 0), (6, 0), (7, 0), (8, 0)] rfl ?_
      refine ge_batch [0, 1, 2] (ans := []) (vs := [(35, .bool (x3 == 2)), (34, .bool (x3 == 2)), (33, .int .i64 x3)]) (l := []) (by kernel_rfl) trivial ?_
      by_cases hc9 : x3 = 2
      · rw [if_pos hc9] at h
        refine ge_known (t := 35) (b := (x3 == 2)) (c := true) (by kernel_rfl) (beq_iff_eq.2 hc9) ?_
        refine ge_batch [3, 4, 5, 6, 7, 8] (ans := [.val (.int .i64 z14), .val (.int .i64 z19)]) (vs := [(41, .bool (z14 != z19)), (40, .bool (z14 != z19)), (39, .int .i64 z19), (38, .pointer (some ⟨b6, 3, none⟩)), (37, .int .i64 z14), (36, .pointer (some ⟨b5, 3, none⟩))]) (l := [.loaded ⟨b5, 3, none⟩ (.int .i64 z14), .loaded ⟨b6, 3, none⟩ (.int .i64 z19)]) (by kernel_rfl) ⟨hS10.cell 0 rfl rfl, hS10.cell 1 rfl rfl, trivial⟩ ?_
        refine ge_nil fun a hF => hK18 _ _ ?_ a hF
        by_cases hc10 : z14 = z19
        · rw [if_pos hc10] at h
          refine we_known (t := 41) (b := (z14 != z19)) (v := false) (by kernel_rfl) (bne_eq_false_iff_eq.2 hc10) ?_
          refine we_false (by kernel_rfl) ?_
          refine we_skip fun a hF => hK17 _ _ ?_ a hF
          refine we_seq fun K19 hK19 => ?_
          refine we_seq fun K20 hK20 => ?_
          refine we_region [(0, 0), (1, 0), (2, 0), (3, 0), (4, 0)] rfl ?_
          refine ge_batch [0, 1, 2, 3, 4] (ans := [.val (.int .i64 z12), .val (.int .i64 z17)]) (vs := [(51, .bool (z12 != z17)), (50, .int .i64 z17), (49, .pointer (some ⟨b6, 1, none⟩)), (48, .int .i64 z12), (47, .pointer (some ⟨b5, 1, none⟩))]) (l := [.loaded ⟨b5, 1, none⟩ (.int .i64 z12), .loaded ⟨b6, 1, none⟩ (.int .i64 z17)]) (by kernel_rfl) ⟨hS10.cell 0 rfl rfl, hS10.cell 1 rfl rfl, trivial⟩ ?_
          refine ge_nil fun a hF => hK20 _ _ ?_ a hF
          by_cases hc11 : z12 = z17
          · rw [if_pos hc11] at h
            refine we_known (t := 51) (b := (z12 != z17)) (v := false) (by kernel_rfl) (bne_eq_false_iff_eq.2 hc11) ?_
            refine we_false (by kernel_rfl) ?_
            refine we_skip fun a hF => hK19 _ _ ?_ a hF
            refine we_seq fun K21 hK21 => ?_
            refine we_region [(0, 0), (1, 0), (2, 0), (3, 0)] rfl ?_
            refine ge_batch [0, 1, 2, 3] (ans := []) (vs := [(8, .bool (decide (x1 < x2))), (59, .bool (decide (x1 < x2))), (58, .int .i64 x2), (57, .int .i64 x1)]) (l := []) (by kernel_rfl) trivial ?_
            refine ge_nil fun a hF => hK21 _ _ ?_ a hF
            have hS17 := hS10.takeN 0
            obtain rfl := Option.some.inj h
            exact we_ret (post_ret (rs := [.tmp 8]) (ans := []) (vs := [.bool (decide (x1 < x2))]) (l := []) rfl (by kernel_rfl) trivial ⟨rfl, hS17⟩)
          · rw [if_neg hc11] at h
            refine we_known (t := 51) (b := (z12 != z17)) (v := true) (by kernel_rfl) (bne_iff_ne.2 hc11) ?_
            refine we_true (by kernel_rfl) ?_
            refine we_seq fun K22 hK22 => ?_
            refine we_region [(0, 0), (1, 0), (2, 0), (3, 0), (4, 0), (5, 0)] rfl ?_
            refine ge_batch [0, 1, 2, 3, 4, 5] (ans := [.val (.int .i64 z12), .val (.int .i64 z17)]) (vs := [(8, .bool (decide (z12 < z17))), (56, .bool (decide (z12 < z17))), (55, .int .i64 z17), (54, .pointer (some ⟨b6, 1, none⟩)), (53, .int .i64 z12), (52, .pointer (some ⟨b5, 1, none⟩))]) (l := [.loaded ⟨b5, 1, none⟩ (.int .i64 z12), .loaded ⟨b6, 1, none⟩ (.int .i64 z17)]) (by kernel_rfl) ⟨hS10.cell 0 rfl rfl, hS10.cell 1 rfl rfl, trivial⟩ ?_
            refine ge_nil fun a hF => hK22 _ _ ?_ a hF
            have hS18 := hS10.takeN 0
            obtain rfl := Option.some.inj h
            exact we_ret (post_ret (rs := [.tmp 8]) (ans := []) (vs := [.bool (decide (z12 < z17))]) (l := []) rfl (by kernel_rfl) trivial ⟨rfl, hS18⟩)
        · rw [if_neg hc10] at h
          refine we_known (t := 41) (b := (z14 != z19)) (v := true) (by kernel_rfl) (bne_iff_ne.2 hc10) ?_
          refine we_true (by kernel_rfl) ?_
          refine we_seq fun K23 hK23 => ?_
          refine we_region [(0, 0), (1, 0), (2, 0), (3, 0), (4, 0), (5, 0)] rfl ?_
          refine ge_batch [0, 1, 2, 3, 4, 5] (ans := [.val (.int .i64 z14), .val (.int .i64 z19)]) (vs := [(8, .bool (decide (z14 < z19))), (46, .bool (decide (z14 < z19))), (45, .int .i64 z19), (44, .pointer (some ⟨b6, 3, none⟩)), (43, .int .i64 z14), (42, .pointer (some ⟨b5, 3, none⟩))]) (l := [.loaded ⟨b5, 3, none⟩ (.int .i64 z14), .loaded ⟨b6, 3, none⟩ (.int .i64 z19)]) (by kernel_rfl) ⟨hS10.cell 0 rfl rfl, hS10.cell 1 rfl rfl, trivial⟩ ?_
          refine ge_nil fun a hF => hK23 _ _ ?_ a hF
          have hS19 := hS10.takeN 0
          obtain rfl := Option.some.inj h
          exact we_ret (post_ret (rs := [.tmp 8]) (ans := []) (vs := [.bool (decide (z14 < z19))]) (l := []) rfl (by kernel_rfl) trivial ⟨rfl, hS19⟩)
      · rw [if_neg hc9] at h
        refine ge_known (t := 35) (b := (x3 == 2)) (c := false) (by kernel_rfl) (beq_eq_false_iff_ne.2 hc9) ?_
        refine ge_batch [3, 4, 5, 6, 7, 8] (ans := []) (vs := [(41, .bool false), (40, undef), (39, undef), (38, undef), (37, undef), (36, undef)]) (l := []) (by kernel_rfl) trivial ?_
        refine ge_nil fun a hF => hK18 _ _ ?_ a hF
        refine we_false (by kernel_rfl) ?_
        refine we_skip fun a hF => hK17 _ _ ?_ a hF
        refine we_seq fun K24 hK24 => ?_
        refine we_seq fun K25 hK25 => ?_
        refine we_region [(0, 0), (1, 0), (2, 0), (3, 0), (4, 0)] rfl ?_
        refine ge_batch [0, 1, 2, 3, 4] (ans := [.val (.int .i64 z12), .val (.int .i64 z17)]) (vs := [(51, .bool (z12 != z17)), (50, .int .i64 z17), (49, .pointer (some ⟨b6, 1, none⟩)), (48, .int .i64 z12), (47, .pointer (some ⟨b5, 1, none⟩))]) (l := [.loaded ⟨b5, 1, none⟩ (.int .i64 z12), .loaded ⟨b6, 1, none⟩ (.int .i64 z17)]) (by kernel_rfl) ⟨hS10.cell 0 rfl rfl, hS10.cell 1 rfl rfl, trivial⟩ ?_
        refine ge_nil fun a hF => hK25 _ _ ?_ a hF
        by_cases hc12 : z12 = z17
        · rw [if_pos hc12] at h
          refine we_known (t := 51) (b := (z12 != z17)) (v := false) (by kernel_rfl) (bne_eq_false_iff_eq.2 hc12) ?_
          refine we_false (by kernel_rfl) ?_
          refine we_skip fun a hF => hK24 _ _ ?_ a hF
          refine we_seq fun K26 hK26 => ?_
          refine we_region [(0, 0), (1, 0), (2, 0), (3, 0)] rfl ?_
          refine ge_batch [0, 1, 2, 3] (ans := []) (vs := [(8, .bool (decide (x1 < x2))), (59, .bool (decide (x1 < x2))), (58, .int .i64 x2), (57, .int .i64 x1)]) (l := []) (by kernel_rfl) trivial ?_
          refine ge_nil fun a hF => hK26 _ _ ?_ a hF
          have hS20 := hS10.takeN 0
          obtain rfl := Option.some.inj h
          exact we_ret (post_ret (rs := [.tmp 8]) (ans := []) (vs := [.bool (decide (x1 < x2))]) (l := []) rfl (by kernel_rfl) trivial ⟨rfl, hS20⟩)
        · rw [if_neg hc12] at h
          refine we_known (t := 51) (b := (z12 != z17)) (v := true) (by kernel_rfl) (bne_iff_ne.2 hc12) ?_
          refine we_true (by kernel_rfl) ?_
          refine we_seq fun K27 hK27 => ?_
          refine we_region [(0, 0), (1, 0), (2, 0), (3, 0), (4, 0), (5, 0)] rfl ?_
          refine ge_batch [0, 1, 2, 3, 4, 5] (ans := [.val (.int .i64 z12), .val (.int .i64 z17)]) (vs := [(8, .bool (decide (z12 < z17))), (56, .bool (decide (z12 < z17))), (55, .int .i64 z17), (54, .pointer (some ⟨b6, 1, none⟩)), (53, .int .i64 z12), (52, .pointer (some ⟨b5, 1, none⟩))]) (l := [.loaded ⟨b5, 1, none⟩ (.int .i64 z12), .loaded ⟨b6, 1, none⟩ (.int .i64 z17)]) (by kernel_rfl) ⟨hS10.cell 0 rfl rfl, hS10.cell 1 rfl rfl, trivial⟩ ?_
          refine ge_nil fun a hF => hK27 _ _ ?_ a hF
          have hS21 := hS10.takeN 0
          obtain rfl := Option.some.inj h
          exact we_ret (post_ret (rs := [.tmp 8]) (ans := []) (vs := [.bool (decide (z12 < z17))]) (l := []) rfl (by kernel_rfl) trivial ⟨rfl, hS21⟩)
  · rw [hq1] at h
    simp only [] at h
    refine we_keep (e' := [(0, .slice A0 l0.length c0), (1, .int .i64 x1), (2, .int .i64 x2), (3, .int .i64 x3), (8, .bool false)]) ⟨by kernel_rfl, by kernel_rfl, by kernel_rfl, by kernel_rfl, by kernel_rfl, trivial⟩ (punctualref_Goes_p0 0 w0 l0 A0 c0 x1 x2 x3 hR0 hL0 _ hq1 _ hS _ ?_)
    rintro _ a w1 ⟨_, rfl, hb⟩
    obtain rfl := Option.some.inj h
    exact hb

/-! sort.SearchInts$1 -/
abbrev sort_SearchInts_1.Post (w0 : World) (r : Bool) (e : Ending) (w : World) : Prop := e = .returned (.bool r) ∧ St w0 w []
def sort_SearchInts_1.f (x0 : Int) (lf_0 : List Int) (xf_1 : Int) : Option Bool :=
  if 0 ≤ x0 then
    match lf_0[(x0).toNat]? with
    | none => none
    | some e1 =>
      some (decide (e1 ≥ xf_1))
  else
    none
theorem sort_SearchInts_1_ok (x0 : Int) (bf_0 : Nat) (lf_0 : List Int) (Af_0 : Option Addr) (cf_0 : Nat) (bf_1 : Nat) (xf_1 : Int) (w0 : World) (hRf_0 : RdL w0 Af_0 lf_0) (hLf_0 : lf_0.length ≤ cf_0) (hBf_0 : Glob w0 bf_0 [.slice Af_0 lf_0.length cf_0]) (hBf_1 : Glob w0 bf_1 [.int .i64 xf_1]) (r : Bool) (h : sort_SearchInts_1.f x0 lf_0 xf_1 = some r) :
    Calls Tryd.prog 163 #[.int .i64 x0, .pointer (some ⟨bf_0, 0, none⟩), .pointer (some ⟨bf_1, 0, none⟩)] w0 (sort_SearchInts_1.Post w0 r) := by
  have hS := St.start w0
  unfold sort_SearchInts_1.f at h
  refine calls_enter (n := 11) (args := [.int .i64 x0, .pointer (some ⟨bf_0, 0, none⟩), .pointer (some ⟨bf_1, 0, none⟩)]) (fn := Tryd.f163) rfl rfl rfl rfl ?_
  show WE _ _ _ _ [(0, .int .i64 x0), (1, .pointer (some ⟨bf_0, 0, none⟩)), (2, .pointer (some ⟨bf_1, 0, none⟩))] _
  refine we_seq fun K1 hK1 => ?_
  refine we_region [(0, 0)] rfl ?_
  refine ge_batch [0] (ans := []) (vs := [(4, .bool false)]) (l := []) (by kernel_rfl) trivial ?_
  refine ge_nil fun a hF => hK1 _ _ ?_ a hF
  refine we_seq fun K2 hK2 => ?_
  refine we_draws (by kernel_rfl) [(0, 0), (1, 0), (2, 0), (3, 0), (4, 0), (5, 0), (6, 0)] (by kernel_rfl) ?_
  have hS1 := hS.drew
  refine ge_batch [0, 1] (ans := [.val (.slice Af_0 lf_0.length cf_0)]) (vs := [(6, .int .i64 x0), (5, .slice Af_0 lf_0.length cf_0)]) (l := [.loaded ⟨bf_0, 0, none⟩ (.slice Af_0 lf_0.length cf_0)]) (by kernel_rfl) ⟨hS1.glob hBf_0 rfl, trivial⟩ ?_
  by_cases hc1 : 0 ≤ x0
  · rw [if_pos hc1] at h
    rcases hx1 : lf_0[(x0).toNat]? with _ | e1
    · rw [hx1] at h; cases h
    rw [hx1] at h
    simp only [] at h
    refine ge_index (d := 7) (ty := 0) (t := 24) (el := 3) (sz := 1) (m := lf_0.length) (c := cf_0) (x := (.tmp 5)) (y := (.tmp 6)) (A := Af_0) (k' := .i64) (j := x0) (jn := ((x0).toNat)) (b0 := blkOf Af_0) (o0 := offOf Af_0) (by kernel_rfl) (by kernel_rfl) (by kernel_rfl) (by kernel_rfl) (by kernel_rfl) ((hS1.rd hRf_0).eqSome (pos_of_get hx1)) (Int.toNat_of_nonneg hc1).symm (lt_of_get hx1) ?_
    refine ge_batch [3, 4, 5, 6] (ans := [.val (.int .i64 e1), .val (.int .i64 xf_1)]) (vs := [(4, .bool (decide (e1 ≥ xf_1))), (10, .bool (decide (e1 ≥ xf_1))), (9, .int .i64 xf_1), (8, .int .i64 e1)]) (l := [.loaded ⟨blkOf Af_0, offOf Af_0 + ((x0).toNat) * 1, none⟩ (.int .i64 e1), .loaded ⟨bf_1, 0, none⟩ (.int .i64 xf_1)]) (by kernel_rfl) ⟨RdL.cell (j := 0) (hS1.rd hRf_0) hx1 rfl, hS1.glob hBf_1 rfl, trivial⟩ ?_
    refine ge_nil fun a hF => hK2 _ _ ?_ a hF
    obtain rfl := Option.some.inj h
    exact we_ret (post_ret (rs := [.tmp 4]) (ans := []) (vs := [.bool (decide (e1 ≥ xf_1))]) (l := []) rfl (by kernel_rfl) trivial ⟨rfl, hS1⟩)
  · rw [if_neg hc1] at h
    cases h

/-! sort.Search -/
abbrev sort_Search.Post (w0 : World) (r : Int) (e : Ending) (w : World) : Prop := e = .returned (.int .i64 r) ∧ St w0 w []
def sort_Search.r0 (lg1_0 : List Int) (xg1_1 : Int) : Int × Int → Option ((Int × Int) ⊕ (Int ⊕ Int))
  | (z1, z2) =>
    if z1 < z2 then
      match sort_SearchInts_1.f (IntKind.i64.wrap (Int.fdiv (IntKind.u64.wrap (IntKind.i64.wrap (z1 + z2))) (2 ^ 1))) lg1_0 xg1_1 with
      | none => none
      | some r1 =>
        if r1 = true then
          some (.inl (z1, IntKind.i64.wrap (Int.fdiv (IntKind.u64.wrap (IntKind.i64.wrap (z1 + z2))) (2 ^ 1))))
        else
          some (.inl (IntKind.i64.wrap ((IntKind.i64.wrap (Int.fdiv (IntKind.u64.wrap (IntKind.i64.wrap (z1 + z2))) (2 ^ 1))) + 1), z2))
    else
      some (.inr (.inl z1))
def sort_Search.f (K : Nat) (x0 : Int) (lg1_0 : List Int) (xg1_1 : Int) : Option Int :=
  match iter (sort_Search.r0 lg1_0 xg1_1) K (0, x0) with
  | none => none
  | some (.inl z4) =>
    some z4
  | some (.inr rr1) =>
    some rr1
abbrev sort_Search.A0 (K : Nat) (w0 : World) (x0 : Int) (bg1_0 : Nat) (lg1_0 : List Int) (Ag1_0 : Option Addr) (cg1_0 : Nat) (bg1_1 : Nat) (xg1_1 : Int) (hRg1_0 : RdL w0 Ag1_0 lg1_0) (hLg1_0 : lg1_0.length ≤ cg1_0) (hBg1_0 : Glob w0 bg1_0 [.slice Ag1_0 lg1_0.length cg1_0]) (hBg1_1 : Glob w0 bg1_1 [.int .i64 xg1_1]) : (Int × Int) → Act → World → Prop := fun (s : Int × Int) a w => St w0 w [] ∧ Frm 26 a [(1, .func (.func 163) #[] #[.pointer (some ⟨bg1_0, 0, none⟩), .pointer (some ⟨bg1_1, 0, none⟩)]), (5, .int .i64 s.1), (6, .int .i64 s.2)]
abbrev sort_Search.B0 (K : Nat) (w0 : World) (x0 : Int) (bg1_0 : Nat) (lg1_0 : List Int) (Ag1_0 : Option Addr) (cg1_0 : Nat) (bg1_1 : Nat) (xg1_1 : Int) (hRg1_0 : RdL w0 Ag1_0 lg1_0) (hLg1_0 : lg1_0.length ≤ cg1_0) (hBg1_0 : Glob w0 bg1_0 [.slice Ag1_0 lg1_0.length cg1_0]) (hBg1_1 : Glob w0 bg1_1 [.int .i64 xg1_1]) : (Int ⊕ Int) → Exit → Act → World → Prop := Exits 0 (fun (s : Int) a w => St w0 w [] ∧ Frm 26 a [(5, .int .i64 s)]) (Rets Tryd.prog Tryd.f162 (sort_Search.Post w0))
theorem sort_Search_r0 (K : Nat) (w0 : World) (x0 : Int) (bg1_0 : Nat) (lg1_0 : List Int) (Ag1_0 : Option Addr) (cg1_0 : Nat) (bg1_1 : Nat) (xg1_1 : Int) (hRg1_0 : RdL w0 Ag1_0 lg1_0) (hLg1_0 : lg1_0.length ≤ cg1_0) (hBg1_0 : Glob w0 bg1_0 [.slice Ag1_0 lg1_0.length cg1_0]) (hBg1_1 : Glob w0 bg1_1 [.int .i64 xg1_1]) (s : Int × Int) (o : (Int × Int) ⊕ (Int ⊕ Int)) (h : sort_Search.r0 lg1_0 xg1_1 s = some o) (a : Act) (w : World) (hA : sort_Search.A0 K w0 x0 bg1_0 lg1_0 Ag1_0 cg1_0 bg1_1 xg1_1 hRg1_0 hLg1_0 hBg1_0 hBg1_1 s a w) (Q : Exit → Act → World → Prop) (hQ : ∀ x a w, Outs (sort_Search.A0 K w0 x0 bg1_0 lg1_0 Ag1_0 cg1_0 bg1_1 xg1_1 hRg1_0 hLg1_0 hBg1_0 hBg1_1) (sort_Search.B0 K w0 x0 bg1_0 lg1_0 Ag1_0 cg1_0 bg1_1 xg1_1 hRg1_0 hLg1_0 hBg1_0 hBg1_1) o x a w → Q x a w) : (subF Tryd.f162 [1, 1, 0, 0, 0]).wp Tryd.prog Q a w := by
  obtain ⟨z1, z2⟩ := s
  obtain ⟨hS, hF⟩ := hA
  replace hS : St w0 w [] := hS
  simp only [sort_Search.r0] at h
  refine (?_ : WE Tryd.prog 26 (subF Tryd.f162 [1, 1, 0, 0, 0]) Q [(1, .func (.func 163) #[] #[.pointer (some ⟨bg1_0, 0, none⟩), .pointer (some ⟨bg1_1, 0, none⟩)]), (5, .int .i64 z1), (6, .int .i64 z2)] w) a hF
  clear hF a
  refine we_seq fun K4 hK4 => ?_
  refine we_seq fun K5 hK5 => ?_
  refine we_region [(0, 0), (1, 0), (2, 0)] rfl ?_
  refine ge_batch [0, 1, 2] (ans := []) (vs := [(11, .bool (decide (z1 < z2))), (10, .int .i64 z2), (9, .int .i64 z1)]) (l := []) (by kernel_rfl) trivial ?_
  refine ge_nil fun a hF => hK5 _ _ ?_ a hF
  by_cases hc1 : z1 < z2
  · rw [if_pos hc1] at h
    refine we_known (t := 11) (b := decide (z1 < z2)) (v := true) (by kernel_rfl) (decide_eq_true hc1) ?_
    refine we_true (by kernel_rfl) ?_
    refine we_skip fun a hF => hK4 _ _ ?_ a hF
    refine we_block ?_
    refine we_seq fun K6 hK6 => ?_
    refine we_region [(0, 0), (1, 0), (2, 0), (3, 0), (4, 0), (5, 0), (6, 0)] rfl ?_
    refine ge_batch [0, 1, 2, 3, 4, 5, 6] (ans := []) (vs := [(7, .int .i64 (IntKind.i64.wrap (Int.fdiv (IntKind.u64.wrap (IntKind.i64.wrap (z1 + z2))) (2 ^ 1)))), (17, .int .i64 (IntKind.i64.wrap (Int.fdiv (IntKind.u64.wrap (IntKind.i64.wrap (z1 + z2))) (2 ^ 1)))), (16, .int .u64 (Int.fdiv (IntKind.u64.wrap (IntKind.i64.wrap (z1 + z2))) (2 ^ 1))), (15, .int .u64 (IntKind.u64.wrap (IntKind.i64.wrap (z1 + z2)))), (14, .int .i64 (IntKind.i64.wrap (z1 + z2))), (13, .int .i64 z2), (12, .int .i64 z1)]) (l := []) (by kernel_rfl) trivial ?_
    refine ge_nil fun a hF => hK6 _ _ ?_ a hF
    refine we_seq fun K7 hK7 => ?_
    refine we_region [(0, 0), (1, 0), (2, 1), (3, 0)] rfl ?_
    rcases hq1 : sort_SearchInts_1.f (IntKind.i64.wrap (Int.fdiv (IntKind.u64.wrap (IntKind.i64.wrap (z1 + z2))) (2 ^ 1))) lg1_0 xg1_1 with _ | r1
    · rw [hq1] at h; cases h
    rw [hq1] at h
    simp only [] at h
    refine ge_batch [0, 1] (ans := []) (vs := [(19, .int .i64 (IntKind.i64.wrap (Int.fdiv (IntKind.u64.wrap (IntKind.i64.wrap (z1 + z2))) (2 ^ 1)))), (18, .func (.func 163) #[] #[.pointer (some ⟨bg1_0, 0, none⟩), .pointer (some ⟨bg1_1, 0, none⟩)])]) (l := []) (by kernel_rfl) trivial ?_
    refine ge_call (d := some 20) (f := 163) (args := #[.int .i64 (IntKind.i64.wrap (Int.fdiv (IntKind.u64.wrap (IntKind.i64.wrap (z1 + z2))) (2 ^ 1))), .pointer (some ⟨bg1_0, 0, none⟩), .pointer (some ⟨bg1_1, 0, none⟩)]) (by kernel_rfl) (sort_SearchInts_1_ok (IntKind.i64.wrap (Int.fdiv (IntKind.u64.wrap (IntKind.i64.wrap (z1 + z2))) (2 ^ 1))) bg1_0 lg1_0 Ag1_0 cg1_0 bg1_1 xg1_1 _ (hS.rd hRg1_0) hLg1_0 (Glob.ext hBg1_0 hS.below) (Glob.ext hBg1_1 hS.below) _ hq1) ?_
    rintro _ w1 ⟨rfl, hS1⟩
    refine ⟨_, rfl, hS1.below, ?_⟩
    have hS2 := hS.call hS1
    refine ge_batch [3] (ans := []) (vs := [(21, .bool (!r1))]) (l := []) (by kernel_rfl) trivial ?_
    refine ge_nil fun a hF => hK7 _ _ ?_ a hF
    by_cases hc2 : r1 = true
    · rw [if_pos hc2] at h
      refine we_known (t := 21) (b := !r1) (v := false) (by kernel_rfl) (congrArg (fun z => !z) hc2) ?_
      refine we_false (by kernel_rfl) ?_
      refine we_region [(0, 0), (1, 0)] rfl ?_
      refine ge_batch [0, 1] (ans := []) (vs := [(6, .int .i64 (IntKind.i64.wrap (Int.fdiv (IntKind.u64.wrap (IntKind.i64.wrap (z1 + z2))) (2 ^ 1)))), (24, .int .i64 (IntKind.i64.wrap (Int.fdiv (IntKind.u64.wrap (IntKind.i64.wrap (z1 + z2))) (2 ^ 1))))]) (l := []) (by kernel_rfl) trivial ?_
      obtain rfl := Option.some.inj h
      exact ge_nil fun a hF => hQ _ _ _ (Outs.again ⟨hS2, hF.weaken ⟨by kernel_rfl, by kernel_rfl, by kernel_rfl, trivial⟩⟩)
    · rw [if_neg hc2] at h
      refine we_known (t := 21) (b := !r1) (v := true) (by kernel_rfl) (congrArg (fun z => !z) (Bool.eq_false_iff.2 hc2)) ?_
      refine we_true (by kernel_rfl) ?_
      refine we_region [(0, 0), (1, 0), (2, 0)] rfl ?_
      refine ge_batch [0, 1, 2] (ans := []) (vs := [(5, .int .i64 (IntKind.i64.wrap ((IntKind.i64.wrap (Int.fdiv (IntKind.u64.wrap (IntKind.i64.wrap (z1 + z2))) (2 ^ 1))) + 1))), (23, .int .i64 (IntKind.i64.wrap ((IntKind.i64.wrap (Int.fdiv (IntKind.u64.wrap (IntKind.i64.wrap (z1 + z2))) (2 ^ 1))) + 1))), (22, .int .i64 (IntKind.i64.wrap (Int.fdiv (IntKind.u64.wrap (IntKind.i64.wrap (z1 + z2))) (2 ^ 1))))]) (l := []) (by kernel_rfl) trivial ?_
      obtain rfl := Option.some.inj h
      exact ge_nil fun a hF => hQ _ _ _ (Outs.again ⟨hS2, hF.weaken ⟨by kernel_rfl, by kernel_rfl, by kernel_rfl, trivial⟩⟩)
  · rw [if_neg hc1] at h
    refine we_known (t := 11) (b := decide (z1 < z2)) (v := false) (by kernel_rfl) (decide_eq_false hc1) ?_
    refine we_false (by kernel_rfl) ?_
    obtain rfl := Option.some.inj h
    exact we_exit fun a hF => hQ _ _ _ (Outs.out nofun (Exits.here ⟨hS, hF.weaken ⟨by kernel_rfl, trivial⟩⟩))
theorem sort_Search_ok (K : Nat) (x0 : Int) (bg1_0 : Nat) (lg1_0 : List Int) (Ag1_0 : Option Addr) (cg1_0 : Nat) (bg1_1 : Nat) (xg1_1 : Int) (w0 : World) (hRg1_0 : RdL w0 Ag1_0 lg1_0) (hLg1_0 : lg1_0.length ≤ cg1_0) (hBg1_0 : Glob w0 bg1_0 [.slice Ag1_0 lg1_0.length cg1_0]) (hBg1_1 : Glob w0 bg1_1 [.int .i64 xg1_1]) (r : Int) (h : sort_Search.f K x0 lg1_0 xg1_1 = some r) :
    Calls Tryd.prog 162 #[.int .i64 x0, .func (.func 163) #[] #[.pointer (some ⟨bg1_0, 0, none⟩), .pointer (some ⟨bg1_1, 0, none⟩)]] w0 (sort_Search.Post w0 r) := by
  have hS := St.start w0
  unfold sort_Search.f at h
  refine calls_enter (n := 26) (args := [.int .i64 x0, .func (.func 163) #[] #[.pointer (some ⟨bg1_0, 0, none⟩), .pointer (some ⟨bg1_1, 0, none⟩)]]) (fn := Tryd.f162) rfl rfl rfl rfl ?_
  show WE _ _ _ _ [(0, .int .i64 x0), (1, .func (.func 163) #[] #[.pointer (some ⟨bg1_0, 0, none⟩), .pointer (some ⟨bg1_1, 0, none⟩)])] _
  refine we_seq fun K1 hK1 => ?_
  refine we_region [(0, 0)] rfl ?_
  refine ge_batch [0] (ans := []) (vs := [(4, .int .i64 0)]) (l := []) (by kernel_rfl) trivial ?_
  refine ge_nil fun a hF => hK1 _ _ ?_ a hF
  refine we_seq fun K2 hK2 => ?_
  refine we_region [(0, 0), (1, 0), (2, 0)] rfl ?_
  refine ge_batch [0, 1, 2] (ans := []) (vs := [(6, .int .i64 x0), (5, .int .i64 0), (8, .int .i64 x0)]) (l := []) (by kernel_rfl) trivial ?_
  refine ge_nil fun a hF => hK2 _ _ ?_ a hF
  refine we_seq fun K3 hK3 => ?_
  refine we_block ?_
  rcases hq2 : iter (sort_Search.r0 lg1_0 xg1_1) K (0, x0) with _ | (z4 | rr1)
  · rw [hq2] at h; cases h
  · rw [hq2] at h
    simp only [] at h
    refine we_iter (A := sort_Search.A0 K w0 x0 bg1_0 lg1_0 Ag1_0 cg1_0 bg1_1 xg1_1 hRg1_0 hLg1_0 hBg1_0 hBg1_1) (B := sort_Search.B0 K w0 x0 bg1_0 lg1_0 Ag1_0 cg1_0 bg1_1 xg1_1 hRg1_0 hLg1_0 hBg1_0 hBg1_1) hq2 (fun a hF => ⟨hS, hF.weaken ⟨by kernel_rfl, by kernel_rfl, by kernel_rfl, trivial⟩⟩) (fun s o hf a w hA Q hQ => sort_Search_r0 K w0 x0 bg1_0 lg1_0 Ag1_0 cg1_0 bg1_1 xg1_1 hRg1_0 hLg1_0 hBg1_0 hBg1_1 s o hf a w hA Q hQ) ?_
    rintro _ a w2 _ ⟨rfl, hS3, hF⟩
    replace hS3 : St w0 w2 [] := hS3
    refine hK3 [(5, .int .i64 z4)] w2 ?_ a hF
    refine we_seq fun K8 hK8 => ?_
    refine we_region [(0, 0), (1, 0)] rfl ?_
    refine ge_batch [0, 1] (ans := []) (vs := [(4, .int .i64 z4), (25, .int .i64 z4)]) (l := []) (by kernel_rfl) trivial ?_
    refine ge_nil fun a hF => hK8 _ _ ?_ a hF
    obtain rfl := Option.some.inj h
    exact we_ret (post_ret (rs := [.tmp 4]) (ans := []) (vs := [.int .i64 z4]) (l := []) rfl (by kernel_rfl) trivial ⟨rfl, hS3⟩)
  · rw [hq2] at h
    simp only [] at h
    refine we_iter (A := sort_Search.A0 K w0 x0 bg1_0 lg1_0 Ag1_0 cg1_0 bg1_1 xg1_1 hRg1_0 hLg1_0 hBg1_0 hBg1_1) (B := sort_Search.B0 K w0 x0 bg1_0 lg1_0 Ag1_0 cg1_0 bg1_1 xg1_1 hRg1_0 hLg1_0 hBg1_0 hBg1_1) hq2 (fun a hF => ⟨hS, hF.weaken ⟨by kernel_rfl, by kernel_rfl, by kernel_rfl, trivial⟩⟩) (fun s o hf a w hA Q hQ => sort_Search_r0 K w0 x0 bg1_0 lg1_0 Ag1_0 cg1_0 bg1_1 xg1_1 hRg1_0 hLg1_0 hBg1_0 hBg1_1 s o hf a w hA Q hQ) ?_
    rintro _ a w1 _ ⟨rfl, hb⟩
    obtain rfl := Option.some.inj h
    exact hb

/-! sort.SearchInts -/
abbrev sort_SearchInts.Post (w0 : World) (r : Int) (e : Ending) (w : World) : Prop := e = .returned (.int .i64 r) ∧ St w0 w []
def sort_SearchInts.f (K : Nat) (l0 : List Int) (x1 : Int) : Option Int :=
  match sort_Search.f K (l0.length : Int) l0 x1 with
  | none => none
  | some r1 =>
    some r1
theorem sort_SearchInts_ok (K : Nat) (l0 : List Int) (A0 : Option Addr) (c0 : Nat) (x1 : Int) (w0 : World) (hR0 : RdL w0 A0 l0) (hL0 : l0.length ≤ c0) (r : Int) (h : sort_SearchInts.f K l0 x1 = some r) :
    Calls Tryd.prog 128 #[.slice A0 l0.length c0, .int .i64 x1] w0 (sort_SearchInts.Post w0 r) := by
  have hS := St.start w0
  unfold sort_SearchInts.f at h
  refine calls_enter (n := 9) (args := [.slice A0 l0.length c0, .int .i64 x1]) (fn := Tryd.f128) rfl rfl rfl rfl ?_
  show WE _ _ _ _ [(0, .slice A0 l0.length c0), (1, .int .i64 x1)] _
  refine we_seq fun K1 hK1 => ?_
  refine we_region [(0, 1), (1, 1), (2, 0)] rfl ?_
  refine ge_new (d := some 2) (o := .cells #[.slice A0 l0.length c0] 24) (v := fun b => .pointer (some ⟨b, 0, none⟩)) hS (fun b => by kernel_rfl) fun b1 w1 hx1 hS1 => ?_
  refine ge_new (d := some 3) (o := .cells #[.int .i64 x1] 3) (v := fun b => .pointer (some ⟨b, 0, none⟩)) hS1 (fun b => by kernel_rfl) fun b2 w2 hx2 hS2 => ?_
  refine ge_batch [2] (ans := []) (vs := [(4, .int .i64 0)]) (l := []) (by kernel_rfl) trivial ?_
  refine ge_nil fun a hF => hK1 _ _ ?_ a hF
  refine we_seq fun K2 hK2 => ?_
  refine we_region [(0, 0), (1, 0), (2, 0), (3, 1), (4, 0)] rfl ?_
  rcases hq1 : sort_Search.f K (l0.length : Int) l0 x1 with _ | r1
  · rw [hq1] at h; cases h
  rw [hq1] at h
  simp only [] at h
  refine ge_batch [0, 1, 2] (ans := [.val (.slice A0 l0.length c0)]) (vs := [(7, .func (.func 163) #[] #[.pointer (some ⟨b1, 0, none⟩), .pointer (some ⟨b2, 0, none⟩)]), (6, .int .i64 (l0.length : Int)), (5, .slice A0 l0.length c0)]) (l := [.loaded ⟨b1, 0, none⟩ (.slice A0 l0.length c0)]) (by kernel_rfl) ⟨hS2.cell 1 rfl rfl, trivial⟩ ?_
  refine ge_call (d := some 8) (f := 162) (args := #[.int .i64 (l0.length : Int), .func (.func 163) #[] #[.pointer (some ⟨b1, 0, none⟩), .pointer (some ⟨b2, 0, none⟩)]]) (by kernel_rfl) (sort_Search_ok K (l0.length : Int) b1 l0 A0 c0 b2 x1 _ (hS2.rd hR0) hL0 (hS2.globOf 1 rfl) (hS2.globOf 0 rfl) _ hq1) ?_
  rintro _ w3 ⟨rfl, hS3⟩
  refine ⟨_, rfl, hS3.below, ?_⟩
  have hS4 := hS2.call hS3
  refine ge_batch [4] (ans := []) (vs := [(4, .int .i64 r1)]) (l := []) (by kernel_rfl) trivial ?_
  refine ge_nil fun a hF => hK2 _ _ ?_ a hF
  have hS5 := hS4.takeN 0
  obtain rfl := Option.some.inj h
  exact we_ret (post_ret (rs := [.tmp 4]) (ans := []) (vs := [.int .i64 r1]) (l := []) rfl (by kernel_rfl) trivial ⟨rfl, hS5⟩)
end Go.Proofs.YtcogbnkioobmkaaDoor.GV
