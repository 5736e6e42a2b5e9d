/- Walks of single functions, written by a program of this work. -/
import Derived.Test.YtccfilmiboepjaaDoorGWRedoResponds3
namespace Go.Proofs.YtccfilmiboepjaaDoor.GV
open Go Go.RowKit
set_option linter.unusedVariables false
set_option linter.unusedSimpArgs false
set_option maxRecDepth 100000

/-! punctual/redo.Response -/
abbrev redo_Response.Post (w0 : World) (r : Int × SFault) (e : Ending) (w : World) : Prop := e = .returned (.tuple #[.int .i64 r.1, .agg #[.int .i64 r.2.Code, .int .i64 r.2.At]]) ∧ St w0 w []
def redo_Response.p0 (x2 : Int) (x3 : Int) : Option (Unit ⊕ (Int × SFault)) :=
    if x2 < 1 then
      some (.inr (0, (⟨3, 0⟩ : SFault)))
    else
      if x2 > 20000 then
        some (.inr (0, (⟨3, 0⟩ : SFault)))
      else
        if x3 < 0 then
          some (.inr (0, (⟨3, 0⟩ : SFault)))
        else
          if x3 > 10000 then
            some (.inr (0, (⟨3, 0⟩ : SFault)))
          else
            some (.inl ())
def redo_Response.r1 (l0 : List STask) (x3 : Int) (e1 : STask) : Nat × Int → Option ((Nat × Int) ⊕ (Int ⊕ (Int × SFault)))
  | (i1, z1) =>
    if (i1 : Int) < (l0.length : Int) then
      match l0[i1]? with
      | none => none
      | some e2 =>
        if e2.P ≥ e1.P then
          some (.inl ((i1 + 1), gmax z1 (redo_undone.f e2.C x3)))
        else
          some (.inl ((i1 + 1), z1))
    else
      some (.inr (.inl z1))
def redo_Response.f (K : Nat) (l0 : List STask) (x1 : Int) (x2 : Int) (x3 : Int) : Option (Int × SFault) :=
  match fixed_Response.f K l0 x1 0 with
  | none => none
  | some r1 =>
    if r1.2.Code = 0 then
      match redo_Response.p0 x2 x3 with
      | none => none
      | some (.inl _) =>
        if 0 ≤ x1 then
          match l0[(x1).toNat]? with
          | none => none
          | some e1 =>
            match iter (redo_Response.r1 l0 x3 e1) K (0, 0) with
            | none => none
            | some (.inl z3) =>
              match fixed_Settle_1.f K e1.C (IntKind.i64.wrap (e1.D - e1.J)) e1 x2 z3 l0 x1 with
              | none => none
              | some r2 =>
                if r2 = 0 then
                  some (0, (⟨13, x1⟩ : SFault))
                else
                  some (IntKind.i64.wrap (r2 + e1.J), (⟨0, 0⟩ : SFault))
            | some (.inr rr1) =>
              some rr1
        else
          none
      | some (.inr rr2) =>
        some rr2
    else
      some (0, r1.2)
abbrev redo_Response.A0 (K : Nat) (w0 : World) (l0 : List STask) (A0 : Option Addr) (c0 : Nat) (x1 : Int) (x2 : Int) (x3 : Int) (hR0 : RdL w0 A0 l0) (hL0 : l0.length ≤ c0) (b1 : Nat) (b2 : Nat) (b3 : Nat) (b4 : Nat) (r1 : Int × SFault) (b5 : Nat) (hc1 : r1.2.Code = 0) : Unit → Act → World → Prop := fun (s : Unit) a w => St w0 w [Own.blk b4 (.cells #[.int .i64 0, .int .i64 0] 27 (0, 0)), Own.blk b3 (.cells #[.int .i64 x2] 3 (0, 0)), Own.blk b2 (.cells #[.int .i64 x1] 3 (0, 0)), Own.blk b1 (.cells #[.slice A0 l0.length c0] 82 (0, 0))] ∧ Frm 82 a [(3, .int .i64 x3), (4, .pointer (some ⟨b1, 0, none⟩)), (5, .pointer (some ⟨b2, 0, none⟩)), (6, .pointer (some ⟨b3, 0, none⟩)), (9, .pointer (some ⟨b4, 0, none⟩))]
abbrev redo_Response.B0 (K : Nat) (w0 : World) (l0 : List STask) (A0 : Option Addr) (c0 : Nat) (x1 : Int) (x2 : Int) (x3 : Int) (hR0 : RdL w0 A0 l0) (hL0 : l0.length ≤ c0) (b1 : Nat) (b2 : Nat) (b3 : Nat) (b4 : Nat) (r1 : Int × SFault) (b5 : Nat) (hc1 : r1.2.Code = 0) : (Int × SFault) → Exit → Act → World → Prop := Rets Tryd.prog Tryd.f49 (redo_Response.Post w0)
theorem redo_Response_p0 (K : Nat) (w0 : World) (l0 : List STask) (A0 : Option Addr) (c0 : Nat) (x1 : Int) (x2 : Int) (x3 : Int) (hR0 : RdL w0 A0 l0) (hL0 : l0.length ≤ c0) (b1 : Nat) (b2 : Nat) (b3 : Nat) (b4 : Nat) (r1 : Int × SFault) (b5 : Nat) (hc1 : r1.2.Code = 0) (o : Unit ⊕ (Int × SFault)) (h : redo_Response.p0 x2 x3 = some o) (w : World) (hS : St w0 w [Own.blk b5 (.cells #[.int .i64 r1.2.Code, .int .i64 r1.2.At] 27 (0, 0)), Own.blk b4 (.cells #[.int .i64 0, .int .i64 0] 27 (0, 0)), Own.blk b3 (.cells #[.int .i64 x2] 3 (0, 0)), Own.blk b2 (.cells #[.int .i64 x1] 3 (0, 0)), Own.blk b1 (.cells #[.slice A0 l0.length c0] 82 (0, 0))]) (Q : Exit → Act → World → Prop) (hQ : ∀ x a w, Outs (redo_Response.A0 K w0 l0 A0 c0 x1 x2 x3 hR0 hL0 b1 b2 b3 b4 r1 b5 hc1) (redo_Response.B0 K w0 l0 A0 c0 x1 x2 x3 hR0 hL0 b1 b2 b3 b4 r1 b5 hc1) o x a w → Q x a w) : WE Tryd.prog 82 (subF Tryd.f49 [1, 1, 0]) Q [(0, .slice A0 l0.length c0), (1, .int .i64 x1), (2, .int .i64 x2), (3, .int .i64 x3), (4, .pointer (some ⟨b1, 0, none⟩)), (5, .pointer (some ⟨b2, 0, none⟩)), (6, .pointer (some ⟨b3, 0, none⟩)), (8, .int .i64 0), (9, .pointer (some ⟨b4, 0, none⟩)), (10, .int .i64 r1.1), (11, .pointer (some ⟨b5, 0, none⟩)), (17, .tuple #[.int .i64 r1.1, .agg #[.int .i64 r1.2.Code, .int .i64 r1.2.At]]), (18, .slice A0 l0.length c0), (19, .int .i64 x1), (20, .tuple #[.int .i64 r1.1, .agg #[.int .i64 r1.2.Code, .int .i64 r1.2.At]]), (21, .int .i64 r1.1), (22, .agg #[.int .i64 r1.2.Code, .int .i64 r1.2.At]), (23, .pointer (some ⟨b5, 0, none⟩)), (24, .int .i64 r1.2.Code), (25, .bool false)] w := by
  simp only [redo_Response.p0] at h
  refine we_seq fun K6 hK6 => ?_
  refine we_region [(0, 0), (1, 0), (2, 0), (3, 0), (4, 0), (5, 0), (6, 0), (7, 0), (8, 0), (9, 0), (10, 0), (11, 0), (12, 0), (13, 0)] rfl ?_
  refine ge_batch [0, 1, 2] (ans := [.val (.int .i64 x2)]) (vs := [(29, .bool (decide (x2 < 1))), (28, .bool (decide (x2 < 1))), (27, .int .i64 x2)]) (l := [.loaded ⟨b3, 0, none⟩ (.int .i64 x2)]) (by kernel_rfl) ⟨hS.cell 2 rfl rfl, trivial⟩ ?_
  by_cases hc2 : x2 < 1
  · rw [if_pos hc2] at h
    refine ge_known (t := 29) (b := decide (x2 < 1)) (c := true) (by kernel_rfl) (decide_eq_true hc2) ?_
    refine ge_batch [3, 4, 5, 6, 7, 8, 9, 10, 11, 12, 13] (ans := []) (vs := [(40, .bool true), (39, undef), (38, undef), (37, .bool true), (36, .bool true), (35, undef), (34, undef), (33, .bool true), (32, .bool true), (31, undef), (30, undef)]) (l := []) (by kernel_rfl) trivial ?_
    refine ge_nil fun a hF => hK6 _ _ ?_ a hF
    refine we_true (by kernel_rfl) ?_
    refine we_seq fun K7 hK7 => ?_
    refine we_region [(0, 0), (1, 0), (2, 2)] rfl ?_
    refine ge_batch [0, 1] (ans := []) (vs := [(8, .int .i64 0), (41, .agg #[.int .i64 3, .int .i64 0])]) (l := []) (by kernel_rfl) trivial ?_
    have hS10 := hS.bring 1 rfl
    refine ge_set (b := b4) (j := 0) (cs := #[.int .i64 0, .int .i64 0]) (t := 27) (vs := [.int .i64 3, .int .i64 0]) hS10 (by kernel_rfl) rfl rfl fun w8 hS11 => ?_
    have hS12 : St w0 w8 [Own.blk b4 (.cells #[.int .i64 3, .int .i64 0] 27 (0, 0)), Own.blk b5 (.cells #[.int .i64 r1.2.Code, .int .i64 r1.2.At] 27 (0, 0)), Own.blk b3 (.cells #[.int .i64 x2] 3 (0, 0)), Own.blk b2 (.cells #[.int .i64 x1] 3 (0, 0)), Own.blk b1 (.cells #[.slice A0 l0.length c0] 82 (0, 0))] := hS11
    refine ge_nil fun a hF => hK7 _ _ ?_ a hF
    have hS13 := hS12.takeN 0
    obtain rfl := Option.some.inj h
    exact we_ret fun a hF => hQ _ _ _ (Outs.out nofun ⟨rfl, (post_ret (rs := [.tmp 8, .cell 9 27]) (ans := [.val (.int .i64 3), .val (.int .i64 0)]) (vs := [.int .i64 0, .agg #[.int .i64 3, .int .i64 0]]) (l := [.loaded ⟨b4, 0, none⟩ (.int .i64 3), .loaded ⟨b4, 1, none⟩ (.int .i64 0)]) rfl (by kernel_rfl) ⟨hS12.cell 0 rfl rfl, hS12.cell 0 rfl rfl, trivial⟩ ⟨rfl, hS13⟩) a hF⟩)
  · rw [if_neg hc2] at h
    refine ge_known (t := 29) (b := decide (x2 < 1)) (c := false) (by kernel_rfl) (decide_eq_false hc2) ?_
    refine ge_batch [3, 4, 5, 6] (ans := [.val (.int .i64 x2)]) (vs := [(33, .bool (decide (x2 > 20000))), (32, .bool (decide (x2 > 20000))), (31, .bool (decide (x2 > 20000))), (30, .int .i64 x2)]) (l := [.loaded ⟨b3, 0, none⟩ (.int .i64 x2)]) (by kernel_rfl) ⟨hS.cell 2 rfl rfl, trivial⟩ ?_
    by_cases hc3 : x2 > 20000
    · rw [if_pos hc3] at h
      refine ge_known (t := 33) (b := decide (x2 > 20000)) (c := true) (by kernel_rfl) (decide_eq_true hc3) ?_
      refine ge_batch [7, 8, 9, 10, 11, 12, 13] (ans := []) (vs := [(40, .bool true), (39, undef), (38, undef), (37, .bool true), (36, .bool true), (35, undef), (34, undef)]) (l := []) (by kernel_rfl) trivial ?_
      refine ge_nil fun a hF => hK6 _ _ ?_ a hF
      refine we_true (by kernel_rfl) ?_
      refine we_seq fun K8 hK8 => ?_
      refine we_region [(0, 0), (1, 0), (2, 2)] rfl ?_
      refine ge_batch [0, 1] (ans := []) (vs := [(8, .int .i64 0), (41, .agg #[.int .i64 3, .int .i64 0])]) (l := []) (by kernel_rfl) trivial ?_
      have hS14 := hS.bring 1 rfl
      refine ge_set (b := b4) (j := 0) (cs := #[.int .i64 0, .int .i64 0]) (t := 27) (vs := [.int .i64 3, .int .i64 0]) hS14 (by kernel_rfl) rfl rfl fun w9 hS15 => ?_
      have hS16 : St w0 w9 [Own.blk b4 (.cells #[.int .i64 3, .int .i64 0] 27 (0, 0)), Own.blk b5 (.cells #[.int .i64 r1.2.Code, .int .i64 r1.2.At] 27 (0, 0)), Own.blk b3 (.cells #[.int .i64 x2] 3 (0, 0)), Own.blk b2 (.cells #[.int .i64 x1] 3 (0, 0)), Own.blk b1 (.cells #[.slice A0 l0.length c0] 82 (0, 0))] := hS15
      refine ge_nil fun a hF => hK8 _ _ ?_ a hF
      have hS17 := hS16.takeN 0
      obtain rfl := Option.some.inj h
      exact we_ret fun a hF => hQ _ _ _ (Outs.out nofun ⟨rfl, (post_ret (rs := [.tmp 8, .cell 9 27]) (ans := [.val (.int .i64 3), .val (.int .i64 0)]) (vs := [.int .i64 0, .agg #[.int .i64 3, .int .i64 0]]) (l := [.loaded ⟨b4, 0, none⟩ (.int .i64 3), .loaded ⟨b4, 1, none⟩ (.int .i64 0)]) rfl (by kernel_rfl) ⟨hS16.cell 0 rfl rfl, hS16.cell 0 rfl rfl, trivial⟩ ⟨rfl, hS17⟩) a hF⟩)
    · rw [if_neg hc3] at h
      refine ge_known (t := 33) (b := decide (x2 > 20000)) (c := false) (by kernel_rfl) (decide_eq_false hc3) ?_
      refine ge_batch [7, 8, 9, 10] (ans := []) (vs := [(37, .bool (decide (x3 < 0))), (36, .bool (decide (x3 < 0))), (35, .bool (decide (x3 < 0))), (34, .int .i64 x3)]) (l := []) (by kernel_rfl) trivial ?_
      by_cases hc4 : x3 < 0
      · rw [if_pos hc4] at h
        refine ge_known (t := 37) (b := decide (x3 < 0)) (c := true) (by kernel_rfl) (decide_eq_true hc4) ?_
        refine ge_batch [11, 12, 13] (ans := []) (vs := [(40, .bool true), (39, undef), (38, undef)]) (l := []) (by kernel_rfl) trivial ?_
        refine ge_nil fun a hF => hK6 _ _ ?_ a hF
        refine we_true (by kernel_rfl) ?_
        refine we_seq fun K9 hK9 => ?_
        refine we_region [(0, 0), (1, 0), (2, 2)] rfl ?_
        refine ge_batch [0, 1] (ans := []) (vs := [(8, .int .i64 0), (41, .agg #[.int .i64 3, .int .i64 0])]) (l := []) (by kernel_rfl) trivial ?_
        have hS18 := hS.bring 1 rfl
        refine ge_set (b := b4) (j := 0) (cs := #[.int .i64 0, .int .i64 0]) (t := 27) (vs := [.int .i64 3, .int .i64 0]) hS18 (by kernel_rfl) rfl rfl fun w10 hS19 => ?_
        have hS20 : St w0 w10 [Own.blk b4 (.cells #[.int .i64 3, .int .i64 0] 27 (0, 0)), Own.blk b5 (.cells #[.int .i64 r1.2.Code, .int .i64 r1.2.At] 27 (0, 0)), Own.blk b3 (.cells #[.int .i64 x2] 3 (0, 0)), Own.blk b2 (.cells #[.int .i64 x1] 3 (0, 0)), Own.blk b1 (.cells #[.slice A0 l0.length c0] 82 (0, 0))] := hS19
        refine ge_nil fun a hF => hK9 _ _ ?_ a hF
        have hS21 := hS20.takeN 0
        obtain rfl := Option.some.inj h
        exact we_ret fun a hF => hQ _ _ _ (Outs.out nofun ⟨rfl, (post_ret (rs := [.tmp 8, .cell 9 27]) (ans := [.val (.int .i64 3), .val (.int .i64 0)]) (vs := [.int .i64 0, .agg #[.int .i64 3, .int .i64 0]]) (l := [.loaded ⟨b4, 0, none⟩ (.int .i64 3), .loaded ⟨b4, 1, none⟩ (.int .i64 0)]) rfl (by kernel_rfl) ⟨hS20.cell 0 rfl rfl, hS20.cell 0 rfl rfl, trivial⟩ ⟨rfl, hS21⟩) a hF⟩)
      · rw [if_neg hc4] at h
        refine ge_known (t := 37) (b := decide (x3 < 0)) (c := false) (by kernel_rfl) (decide_eq_false hc4) ?_
        refine ge_batch [11, 12, 13] (ans := []) (vs := [(40, .bool (decide (x3 > 10000))), (39, .bool (decide (x3 > 10000))), (38, .int .i64 x3)]) (l := []) (by kernel_rfl) trivial ?_
        refine ge_nil fun a hF => hK6 _ _ ?_ a hF
        by_cases hc5 : x3 > 10000
        · rw [if_pos hc5] at h
          refine we_known (t := 40) (b := decide (x3 > 10000)) (v := true) (by kernel_rfl) (decide_eq_true hc5) ?_
          refine we_true (by kernel_rfl) ?_
          refine we_seq fun K10 hK10 => ?_
          refine we_region [(0, 0), (1, 0), (2, 2)] rfl ?_
          refine ge_batch [0, 1] (ans := []) (vs := [(8, .int .i64 0), (41, .agg #[.int .i64 3, .int .i64 0])]) (l := []) (by kernel_rfl) trivial ?_
          have hS22 := hS.bring 1 rfl
          refine ge_set (b := b4) (j := 0) (cs := #[.int .i64 0, .int .i64 0]) (t := 27) (vs := [.int .i64 3, .int .i64 0]) hS22 (by kernel_rfl) rfl rfl fun w11 hS23 => ?_
          have hS24 : St w0 w11 [Own.blk b4 (.cells #[.int .i64 3, .int .i64 0] 27 (0, 0)), Own.blk b5 (.cells #[.int .i64 r1.2.Code, .int .i64 r1.2.At] 27 (0, 0)), Own.blk b3 (.cells #[.int .i64 x2] 3 (0, 0)), Own.blk b2 (.cells #[.int .i64 x1] 3 (0, 0)), Own.blk b1 (.cells #[.slice A0 l0.length c0] 82 (0, 0))] := hS23
          refine ge_nil fun a hF => hK10 _ _ ?_ a hF
          have hS25 := hS24.takeN 0
          obtain rfl := Option.some.inj h
          exact we_ret fun a hF => hQ _ _ _ (Outs.out nofun ⟨rfl, (post_ret (rs := [.tmp 8, .cell 9 27]) (ans := [.val (.int .i64 3), .val (.int .i64 0)]) (vs := [.int .i64 0, .agg #[.int .i64 3, .int .i64 0]]) (l := [.loaded ⟨b4, 0, none⟩ (.int .i64 3), .loaded ⟨b4, 1, none⟩ (.int .i64 0)]) rfl (by kernel_rfl) ⟨hS24.cell 0 rfl rfl, hS24.cell 0 rfl rfl, trivial⟩ ⟨rfl, hS25⟩) a hF⟩)
        · rw [if_neg hc5] at h
          refine we_known (t := 40) (b := decide (x3 > 10000)) (v := false) (by kernel_rfl) (decide_eq_false hc5) ?_
          refine we_false (by kernel_rfl) ?_
          have hS26 := hS.bring 4 rfl
          have hS27 := hS26.bring 4 rfl
          have hS28 := hS27.bring 4 rfl
          have hS29 := hS28.bring 4 rfl
          have hS30 := hS29.takeN 4
          obtain rfl := Option.some.inj h
          exact we_skip fun a hF => hQ _ _ _ (Outs.again ⟨hS30, hF.weaken ⟨by kernel_rfl, by kernel_rfl, by kernel_rfl, by kernel_rfl, by kernel_rfl, trivial⟩⟩)
abbrev redo_Response.A1 (K : Nat) (w0 : World) (l0 : List STask) (A0 : Option Addr) (c0 : Nat) (x1 : Int) (x2 : Int) (x3 : Int) (hR0 : RdL w0 A0 l0) (hL0 : l0.length ≤ c0) (b1 : Nat) (b2 : Nat) (b3 : Nat) (b4 : Nat) (r1 : Int × SFault) (b5 : Nat) (hc1 : r1.2.Code = 0) (hc6 : 0 ≤ x1) (e1 : STask) (hx6 : l0[(x1).toNat]? = some e1) (b6 : Nat) (b7 : Nat) : (Nat × Int) → Act → World → Prop := fun (s : Nat × Int) a w => St w0 w [Own.blk b7 (.cells #[.int .i64 s.2] 3 (0, 0)), Own.blk b6 (.cells #[.string e1.Name, .int .i64 e1.C, .int .i64 e1.T, .int .i64 e1.D, .int .i64 e1.J, .int .i64 e1.O, .int .i64 e1.P] 85 (0, 0)), Own.blk b4 (.cells #[.int .i64 0, .int .i64 0] 27 (0, 0)), Own.blk b3 (.cells #[.int .i64 x2] 3 (0, 0)), Own.blk b2 (.cells #[.int .i64 x1] 3 (0, 0)), Own.blk b1 (.cells #[.slice A0 l0.length c0] 82 (0, 0))] ∧ Frm 82 a [(3, .int .i64 x3), (4, .pointer (some ⟨b1, 0, none⟩)), (5, .pointer (some ⟨b2, 0, none⟩)), (6, .pointer (some ⟨b3, 0, none⟩)), (9, .pointer (some ⟨b4, 0, none⟩)), (12, .pointer (some ⟨b6, 0, none⟩)), (13, .pointer (some ⟨b7, 0, none⟩)), (46, .slice A0 l0.length c0), (47, .int .i64 (l0.length : Int)), (48, .int .i64 (s.1 : Int))]
abbrev redo_Response.B1 (K : Nat) (w0 : World) (l0 : List STask) (A0 : Option Addr) (c0 : Nat) (x1 : Int) (x2 : Int) (x3 : Int) (hR0 : RdL w0 A0 l0) (hL0 : l0.length ≤ c0) (b1 : Nat) (b2 : Nat) (b3 : Nat) (b4 : Nat) (r1 : Int × SFault) (b5 : Nat) (hc1 : r1.2.Code = 0) (hc6 : 0 ≤ x1) (e1 : STask) (hx6 : l0[(x1).toNat]? = some e1) (b6 : Nat) (b7 : Nat) : (Int ⊕ (Int × SFault)) → Exit → Act → World → Prop := Exits 0 (fun (s : Int) a w => St w0 w [Own.blk b7 (.cells #[.int .i64 s] 3 (0, 0)), Own.blk b6 (.cells #[.string e1.Name, .int .i64 e1.C, .int .i64 e1.T, .int .i64 e1.D, .int .i64 e1.J, .int .i64 e1.O, .int .i64 e1.P] 85 (0, 0)), Own.blk b4 (.cells #[.int .i64 0, .int .i64 0] 27 (0, 0)), Own.blk b3 (.cells #[.int .i64 x2] 3 (0, 0)), Own.blk b2 (.cells #[.int .i64 x1] 3 (0, 0)), Own.blk b1 (.cells #[.slice A0 l0.length c0] 82 (0, 0))] ∧ Frm 82 a [(4, .pointer (some ⟨b1, 0, none⟩)), (5, .pointer (some ⟨b2, 0, none⟩)), (6, .pointer (some ⟨b3, 0, none⟩)), (9, .pointer (some ⟨b4, 0, none⟩)), (12, .pointer (some ⟨b6, 0, none⟩)), (13, .pointer (some ⟨b7, 0, none⟩))]) (Rets Tryd.prog Tryd.f49 (redo_Response.Post w0))
theorem redo_Response_r1 (K : Nat) (w0 : World) (l0 : List STask) (A0 : Option Addr) (c0 : Nat) (x1 : Int) (x2 : Int) (x3 : Int) (hR0 : RdL w0 A0 l0) (hL0 : l0.length ≤ c0) (b1 : Nat) (b2 : Nat) (b3 : Nat) (b4 : Nat) (r1 : Int × SFault) (b5 : Nat) (hc1 : r1.2.Code = 0) (hc6 : 0 ≤ x1) (e1 : STask) (hx6 : l0[(x1).toNat]? = some e1) (b6 : Nat) (b7 : Nat) (s : Nat × Int) (o : (Nat × Int) ⊕ (Int ⊕ (Int × SFault))) (h : redo_Response.r1 l0 x3 e1 s = some o) (a : Act) (w : World) (hA : redo_Response.A1 K w0 l0 A0 c0 x1 x2 x3 hR0 hL0 b1 b2 b3 b4 r1 b5 hc1 hc6 e1 hx6 b6 b7 s a w) (Q : Exit → Act → World → Prop) (hQ : ∀ x a w, Outs (redo_Response.A1 K w0 l0 A0 c0 x1 x2 x3 hR0 hL0 b1 b2 b3 b4 r1 b5 hc1 hc6 e1 hx6 b6 b7) (redo_Response.B1 K w0 l0 A0 c0 x1 x2 x3 hR0 hL0 b1 b2 b3 b4 r1 b5 hc1 hc6 e1 hx6 b6 b7) o x a w → Q x a w) : (subF Tryd.f49 [1, 1, 1, 1, 1, 0, 1, 0, 0]).wp Tryd.prog Q a w := by
  obtain ⟨i1, z1⟩ := s
  obtain ⟨hS, hF⟩ := hA
  replace hS : St w0 w [Own.blk b7 (.cells #[.int .i64 z1] 3 (0, 0)), Own.blk b6 (.cells #[.string e1.Name, .int .i64 e1.C, .int .i64 e1.T, .int .i64 e1.D, .int .i64 e1.J, .int .i64 e1.O, .int .i64 e1.P] 85 (0, 0)), Own.blk b4 (.cells #[.int .i64 0, .int .i64 0] 27 (0, 0)), Own.blk b3 (.cells #[.int .i64 x2] 3 (0, 0)), Own.blk b2 (.cells #[.int .i64 x1] 3 (0, 0)), Own.blk b1 (.cells #[.slice A0 l0.length c0] 82 (0, 0))] := hS
  simp only [redo_Response.r1] at h
  refine (?_ : WE Tryd.prog 82 (subF Tryd.f49 [1, 1, 1, 1, 1, 0, 1, 0, 0]) Q [(3, .int .i64 x3), (4, .pointer (some ⟨b1, 0, none⟩)), (5, .pointer (some ⟨b2, 0, none⟩)), (6, .pointer (some ⟨b3, 0, none⟩)), (9, .pointer (some ⟨b4, 0, none⟩)), (12, .pointer (some ⟨b6, 0, none⟩)), (13, .pointer (some ⟨b7, 0, none⟩)), (46, .slice A0 l0.length c0), (47, .int .i64 (l0.length : Int)), (48, .int .i64 (i1 : Int))] w) a hF
  clear hF a
  refine we_seq fun K15 hK15 => ?_
  refine we_region [(0, 0)] rfl ?_
  refine ge_batch [0] (ans := []) (vs := [(49, .bool (decide ((i1 : Int) < (l0.length : Int))))]) (l := []) (by kernel_rfl) trivial ?_
  refine ge_nil fun a hF => hK15 _ _ ?_ a hF
  refine we_seq fun K16 hK16 => ?_
  by_cases hc7 : (i1 : Int) < (l0.length : Int)
  · rw [if_pos hc7] at h
    refine we_known (t := 49) (b := decide ((i1 : Int) < (l0.length : Int))) (v := true) (by kernel_rfl) (decide_eq_true hc7) ?_
    refine we_true (by kernel_rfl) ?_
    refine we_skip fun a hF => hK16 _ _ ?_ a hF
    refine we_seq fun K17 hK17 => ?_
    refine we_block ?_
    refine we_seq fun K18 hK18 => ?_
    refine we_region [(0, 0), (1, 0), (2, 1), (3, 2)] rfl ?_
    rcases hx9 : l0[i1]? with _ | e2
    · rw [hx9] at h; cases h
    rw [hx9] at h
    simp only [] at h
    refine ge_index (d := 50) (ty := 0) (t := 82) (el := 85) (sz := 7) (m := l0.length) (c := c0) (x := (.tmp 46)) (y := (.tmp 48)) (A := A0) (k' := .i64) (j := (i1 : Int)) (jn := i1) (b0 := blkOf A0) (o0 := offOf A0) (by kernel_rfl) (by kernel_rfl) (by kernel_rfl) (by kernel_rfl) (by kernel_rfl) ((hS.rd hR0).eqSome (pos_of_get hx9)) rfl (lt_of_get hx9) ?_
    refine ge_batch [1] (ans := [.val (.string e2.Name), .val (.int .i64 e2.C), .val (.int .i64 e2.T), .val (.int .i64 e2.D), .val (.int .i64 e2.J), .val (.int .i64 e2.O), .val (.int .i64 e2.P)]) (vs := [(51, .agg #[.string e2.Name, .int .i64 e2.C, .int .i64 e2.T, .int .i64 e2.D, .int .i64 e2.J, .int .i64 e2.O, .int .i64 e2.P])]) (l := [.loaded ⟨blkOf A0, offOf A0 + i1 * 7, none⟩ (.string e2.Name), .loaded ⟨blkOf A0, offOf A0 + i1 * 7 + 1, none⟩ (.int .i64 e2.C), .loaded ⟨blkOf A0, offOf A0 + i1 * 7 + 2, none⟩ (.int .i64 e2.T), .loaded ⟨blkOf A0, offOf A0 + i1 * 7 + 3, none⟩ (.int .i64 e2.D), .loaded ⟨blkOf A0, offOf A0 + i1 * 7 + 4, none⟩ (.int .i64 e2.J), .loaded ⟨blkOf A0, offOf A0 + i1 * 7 + 5, none⟩ (.int .i64 e2.O), .loaded ⟨blkOf A0, offOf A0 + i1 * 7 + 6, none⟩ (.int .i64 e2.P)]) (by kernel_rfl) ⟨RdL.cell (j := 0) (hS.rd hR0) hx9 rfl, RdL.cell (j := 1) (hS.rd hR0) hx9 rfl, RdL.cell (j := 2) (hS.rd hR0) hx9 rfl, RdL.cell (j := 3) (hS.rd hR0) hx9 rfl, RdL.cell (j := 4) (hS.rd hR0) hx9 rfl, RdL.cell (j := 5) (hS.rd hR0) hx9 rfl, RdL.cell (j := 6) (hS.rd hR0) hx9 rfl, trivial⟩ ?_
    refine ge_new (d := some 15) (o := .cells #[.string (⟨#[]⟩), .int .i64 0, .int .i64 0, .int .i64 0, .int .i64 0, .int .i64 0, .int .i64 0] 85) (v := fun b => .pointer (some ⟨b, 0, none⟩)) hS (fun b => by kernel_rfl) fun b8 w17 hx10 hS44 => ?_
    refine ge_set (b := b8) (j := 0) (cs := #[.string (⟨#[]⟩), .int .i64 0, .int .i64 0, .int .i64 0, .int .i64 0, .int .i64 0, .int .i64 0]) (t := 85) (vs := [.string e2.Name, .int .i64 e2.C, .int .i64 e2.T, .int .i64 e2.D, .int .i64 e2.J, .int .i64 e2.O, .int .i64 e2.P]) hS44 (by kernel_rfl) rfl rfl fun w18 hS45 => ?_
    have hS46 : St w0 w18 [Own.blk b8 (.cells #[.string e2.Name, .int .i64 e2.C, .int .i64 e2.T, .int .i64 e2.D, .int .i64 e2.J, .int .i64 e2.O, .int .i64 e2.P] 85 (0, 0)), Own.blk b7 (.cells #[.int .i64 z1] 3 (0, 0)), Own.blk b6 (.cells #[.string e1.Name, .int .i64 e1.C, .int .i64 e1.T, .int .i64 e1.D, .int .i64 e1.J, .int .i64 e1.O, .int .i64 e1.P] 85 (0, 0)), Own.blk b4 (.cells #[.int .i64 0, .int .i64 0] 27 (0, 0)), Own.blk b3 (.cells #[.int .i64 x2] 3 (0, 0)), Own.blk b2 (.cells #[.int .i64 x1] 3 (0, 0)), Own.blk b1 (.cells #[.slice A0 l0.length c0] 82 (0, 0))] := hS45
    refine ge_nil fun a hF => hK18 _ _ ?_ a hF
    refine we_seq fun K19 hK19 => ?_
    refine we_region [(0, 0), (1, 0), (2, 0), (3, 0), (4, 0)] rfl ?_
    refine ge_batch [0, 1, 2, 3, 4] (ans := [.val (.int .i64 e2.P), .val (.int .i64 e1.P)]) (vs := [(56, .bool (decide (e2.P ≥ e1.P))), (55, .int .i64 e1.P), (54, .pointer (some ⟨b6, 6, none⟩)), (53, .int .i64 e2.P), (52, .pointer (some ⟨b8, 6, none⟩))]) (l := [.loaded ⟨b8, 6, none⟩ (.int .i64 e2.P), .loaded ⟨b6, 6, none⟩ (.int .i64 e1.P)]) (by kernel_rfl) ⟨hS46.cell 0 rfl rfl, hS46.cell 2 rfl rfl, trivial⟩ ?_
    refine ge_nil fun a hF => hK19 _ _ ?_ a hF
    by_cases hc8 : e2.P ≥ e1.P
    · rw [if_pos hc8] at h
      refine we_known (t := 56) (b := decide (e2.P ≥ e1.P)) (v := true) (by kernel_rfl) (decide_eq_true hc8) ?_
      refine we_true (by kernel_rfl) ?_
      refine we_draws (by kernel_rfl) [(0, 0), (1, 0), (2, 0), (3, 0), (4, 1), (5, 0), (6, 2)] (by kernel_rfl) ?_
      have hS47 := hS46.drew
      refine ge_batch [0, 1, 2, 3] (ans := [.val (.int .i64 z1), .val (.int .i64 e2.C)]) (vs := [(60, .int .i64 x3), (59, .int .i64 e2.C), (58, .pointer (some ⟨b8, 1, none⟩)), (57, .int .i64 z1)]) (l := [.loaded ⟨b7, 0, none⟩ (.int .i64 z1), .loaded ⟨b8, 1, none⟩ (.int .i64 e2.C)]) (by kernel_rfl) ⟨hS47.cell 1 rfl rfl, hS47.cell 0 rfl rfl, trivial⟩ ?_
      refine ge_call (d := some 61) (f := 81) (args := #[.int .i64 e2.C, .int .i64 x3]) (by kernel_rfl) (redo_undone_ok e2.C x3 _ _ rfl) ?_
      rintro _ w19 ⟨rfl, hS48⟩
      refine ⟨_, rfl, hS48.below, ?_⟩
      have hS49 := hS47.call hS48
      refine ge_batch [5] (ans := []) (vs := [(62, .int .i64 (gmax z1 (redo_undone.f e2.C x3)))]) (l := []) (by kernel_rfl) trivial ?_
      have hS50 := hS49.bring 1 rfl
      refine ge_set (b := b7) (j := 0) (cs := #[.int .i64 z1]) (t := 3) (vs := [.int .i64 (gmax z1 (redo_undone.f e2.C x3))]) hS50 (by kernel_rfl) rfl rfl fun w20 hS51 => ?_
      have hS52 : St w0 w20 [Own.blk b7 (.cells #[.int .i64 (gmax z1 (redo_undone.f e2.C x3))] 3 (0, 0)), Own.blk b8 (.cells #[.string e2.Name, .int .i64 e2.C, .int .i64 e2.T, .int .i64 e2.D, .int .i64 e2.J, .int .i64 e2.O, .int .i64 e2.P] 85 (0, 0)), Own.blk b6 (.cells #[.string e1.Name, .int .i64 e1.C, .int .i64 e1.T, .int .i64 e1.D, .int .i64 e1.J, .int .i64 e1.O, .int .i64 e1.P] 85 (0, 0)), Own.blk b4 (.cells #[.int .i64 0, .int .i64 0] 27 (0, 0)), Own.blk b3 (.cells #[.int .i64 x2] 3 (0, 0)), Own.blk b2 (.cells #[.int .i64 x1] 3 (0, 0)), Own.blk b1 (.cells #[.slice A0 l0.length c0] 82 (0, 0))] := hS51
      refine ge_nil fun a hF => hK17 _ _ ?_ a hF
      refine we_region [(0, 0), (1, 0)] rfl ?_
      refine ge_addn (d := 63) (ty := 3) (x := (.tmp 48)) (y := (.const (.int .i64 1))) (t := 3) (t2 := 3) (k := .i64) (m := i1) (by kernel_rfl) (by kernel_rfl) (by kernel_rfl) (by have h0 := hR0.small; omega) ?_
      refine ge_batch [1] (ans := []) (vs := [(48, .int .i64 ((i1 + 1 : Nat) : Int))]) (l := []) (by kernel_rfl) trivial ?_
      have hS53 := hS52.bring 6 rfl
      have hS54 := hS53.bring 6 rfl
      have hS55 := hS54.bring 6 rfl
      have hS56 := hS55.bring 6 rfl
      have hS57 := hS56.bring 6 rfl
      have hS58 := hS57.bring 5 rfl
      have hS59 := hS58.takeN 6
      obtain rfl := Option.some.inj h
      exact ge_nil fun a hF => hQ _ _ _ (Outs.again ⟨hS59, hF.weaken ⟨by kernel_rfl, by kernel_rfl, by kernel_rfl, by kernel_rfl, by kernel_rfl, by kernel_rfl, by kernel_rfl, by kernel_rfl, by kernel_rfl, by kernel_rfl, trivial⟩⟩)
    · rw [if_neg hc8] at h
      refine we_known (t := 56) (b := decide (e2.P ≥ e1.P)) (v := false) (by kernel_rfl) (decide_eq_false hc8) ?_
      refine we_false (by kernel_rfl) ?_
      refine we_skip fun a hF => hK17 _ _ ?_ a hF
      refine we_region [(0, 0), (1, 0)] rfl ?_
      refine ge_addn (d := 63) (ty := 3) (x := (.tmp 48)) (y := (.const (.int .i64 1))) (t := 3) (t2 := 3) (k := .i64) (m := i1) (by kernel_rfl) (by kernel_rfl) (by kernel_rfl) (by have h0 := hR0.small; omega) ?_
      refine ge_batch [1] (ans := []) (vs := [(48, .int .i64 ((i1 + 1 : Nat) : Int))]) (l := []) (by kernel_rfl) trivial ?_
      have hS60 := hS46.bring 6 rfl
      have hS61 := hS60.bring 6 rfl
      have hS62 := hS61.bring 6 rfl
      have hS63 := hS62.bring 6 rfl
      have hS64 := hS63.bring 6 rfl
      have hS65 := hS64.bring 6 rfl
      have hS66 := hS65.takeN 6
      obtain rfl := Option.some.inj h
      exact ge_nil fun a hF => hQ _ _ _ (Outs.again ⟨hS66, hF.weaken ⟨by kernel_rfl, by kernel_rfl, by kernel_rfl, by kernel_rfl, by kernel_rfl, by kernel_rfl, by kernel_rfl, by kernel_rfl, by kernel_rfl, by kernel_rfl, trivial⟩⟩)
  · rw [if_neg hc7] at h
    refine we_known (t := 49) (b := decide ((i1 : Int) < (l0.length : Int))) (v := false) (by kernel_rfl) (decide_eq_false hc7) ?_
    refine we_false (by kernel_rfl) ?_
    have hS67 := hS.bring 5 rfl
    have hS68 := hS67.bring 5 rfl
    have hS69 := hS68.bring 5 rfl
    have hS70 := hS69.bring 5 rfl
    have hS71 := hS70.bring 5 rfl
    have hS72 := hS71.bring 5 rfl
    obtain rfl := Option.some.inj h
    exact we_exit fun a hF => hQ _ _ _ (Outs.out nofun (Exits.here ⟨hS72, hF.weaken ⟨by kernel_rfl, by kernel_rfl, by kernel_rfl, by kernel_rfl, by kernel_rfl, by kernel_rfl, trivial⟩⟩))
theorem redo_Response_ok (K : Nat) (l0 : List STask) (A0 : Option Addr) (c0 : Nat) (x1 : Int) (x2 : Int) (x3 : Int) (w0 : World) (hR0 : RdL w0 A0 l0) (hL0 : l0.length ≤ c0) (r : Int × SFault) (h : redo_Response.f K l0 x1 x2 x3 = some r) :
    Calls Tryd.prog 49 #[.slice A0 l0.length c0, .int .i64 x1, .int .i64 x2, .int .i64 x3] w0 (redo_Response.Post w0 r) := by
  have hS := St.start w0
  unfold redo_Response.f at h
  refine calls_enter (n := 82) (args := [.slice A0 l0.length c0, .int .i64 x1, .int .i64 x2, .int .i64 x3]) (fn := Tryd.f49) rfl rfl rfl rfl ?_
  show WE _ _ _ _ [(0, .slice A0 l0.length c0), (1, .int .i64 x1), (2, .int .i64 x2), (3, .int .i64 x3)] _
  refine we_seq fun K1 hK1 => ?_
  refine we_region [(0, 1), (1, 1), (2, 1), (3, 0), (4, 1)] rfl ?_
  refine ge_new (d := some 4) (o := .cells #[.slice A0 l0.length c0] 82) (v := fun b => .pointer (some ⟨b, 0, none⟩)) hS (fun b => by kernel_rfl) fun b1 w1 hx1 hS1 => ?_
  refine ge_new (d := some 5) (o := .cells #[.int .i64 x1] 3) (v := fun b => .pointer (some ⟨b, 0, none⟩)) hS1 (fun b => by kernel_rfl) fun b2 w2 hx2 hS2 => ?_
  refine ge_new (d := some 6) (o := .cells #[.int .i64 x2] 3) (v := fun b => .pointer (some ⟨b, 0, none⟩)) hS2 (fun b => by kernel_rfl) fun b3 w3 hx3 hS3 => ?_
  refine ge_batch [3] (ans := []) (vs := [(8, .int .i64 0)]) (l := []) (by kernel_rfl) trivial ?_
  refine ge_new (d := some 9) (o := .cells #[.int .i64 0, .int .i64 0] 27) (v := fun b => .pointer (some ⟨b, 0, none⟩)) hS3 (fun b => by kernel_rfl) fun b4 w4 hx4 hS4 => ?_
  refine ge_nil fun a hF => hK1 _ _ ?_ a hF
  refine we_seq fun K2 hK2 => ?_
  refine we_seq fun K3 hK3 => ?_
  refine we_region [(0, 0), (1, 0), (2, 1), (3, 0), (4, 0), (5, 0), (6, 1), (7, 0), (8, 2)] rfl ?_
  rcases hq1 : fixed_Response.f K l0 x1 0 with _ | r1
  · rw [hq1] at h; cases h
  rw [hq1] at h
  simp only [] at h
  refine ge_batch [0, 1] (ans := [.val (.slice A0 l0.length c0), .val (.int .i64 x1)]) (vs := [(19, .int .i64 x1), (18, .slice A0 l0.length c0)]) (l := [.loaded ⟨b1, 0, none⟩ (.slice A0 l0.length c0), .loaded ⟨b2, 0, none⟩ (.int .i64 x1)]) (by kernel_rfl) ⟨hS4.cell 3 rfl rfl, hS4.cell 2 rfl rfl, trivial⟩ ?_
  refine ge_call (d := some 20) (f := 80) (args := #[.slice A0 l0.length c0, .int .i64 x1, .int .i64 0]) (by kernel_rfl) (fixed_Response_ok K l0 A0 c0 x1 0 _ (hS4.rd hR0) hL0 _ hq1) ?_
  rintro _ w5 ⟨rfl, hS5⟩
  refine ⟨_, rfl, hS5.below, ?_⟩
  have hS6 := hS4.call hS5
  refine ge_batch [3, 4, 5] (ans := []) (vs := [(22, .agg #[.int .i64 r1.2.Code, .int .i64 r1.2.At]), (21, .int .i64 r1.1), (17, .tuple #[.int .i64 r1.1, .agg #[.int .i64 r1.2.Code, .int .i64 r1.2.At]])]) (l := []) (by kernel_rfl) trivial ?_
  refine ge_new (d := some 11) (o := .cells #[.int .i64 0, .int .i64 0] 27) (v := fun b => .pointer (some ⟨b, 0, none⟩)) hS6 (fun b => by kernel_rfl) fun b5 w6 hx5 hS7 => ?_
  refine ge_batch [7] (ans := []) (vs := [(10, .int .i64 r1.1)]) (l := []) (by kernel_rfl) trivial ?_
  refine ge_set (b := b5) (j := 0) (cs := #[.int .i64 0, .int .i64 0]) (t := 27) (vs := [.int .i64 r1.2.Code, .int .i64 r1.2.At]) hS7 (by kernel_rfl) rfl rfl fun w7 hS8 => ?_
  have hS9 : St w0 w7 [Own.blk b5 (.cells #[.int .i64 r1.2.Code, .int .i64 r1.2.At] 27 (0, 0)), Own.blk b4 (.cells #[.int .i64 0, .int .i64 0] 27 (0, 0)), Own.blk b3 (.cells #[.int .i64 x2] 3 (0, 0)), Own.blk b2 (.cells #[.int .i64 x1] 3 (0, 0)), Own.blk b1 (.cells #[.slice A0 l0.length c0] 82 (0, 0))] := hS8
  refine ge_nil fun a hF => hK3 _ _ ?_ a hF
  refine we_seq fun K4 hK4 => ?_
  refine we_region [(0, 0), (1, 0), (2, 0)] rfl ?_
  refine ge_batch [0, 1, 2] (ans := [.val (.int .i64 r1.2.Code)]) (vs := [(25, .bool (r1.2.Code != 0)), (24, .int .i64 r1.2.Code), (23, .pointer (some ⟨b5, 0, none⟩))]) (l := [.loaded ⟨b5, 0, none⟩ (.int .i64 r1.2.Code)]) (by kernel_rfl) ⟨hS9.cell 0 rfl rfl, trivial⟩ ?_
  refine ge_nil fun a hF => hK4 _ _ ?_ a hF
  by_cases hc1 : r1.2.Code = 0
  · rw [if_pos hc1] at h
    refine we_known (t := 25) (b := (r1.2.Code != 0)) (v := false) (by kernel_rfl) (bne_eq_false_iff_eq.2 hc1) ?_
    refine we_false (by kernel_rfl) ?_
    refine we_skip fun a hF => hK2 _ _ ?_ a hF
    refine we_seq fun K5 hK5 => ?_
    rcases hq2 : redo_Response.p0 x2 x3 with _ | (_ | rr2)
    · rw [hq2] at h; cases h
    · rw [hq2] at h
      simp only [] at h
      refine we_keep (e' := [(0, .slice A0 l0.length c0), (1, .int .i64 x1), (2, .int .i64 x2), (3, .int .i64 x3), (4, .pointer (some ⟨b1, 0, none⟩)), (5, .pointer (some ⟨b2, 0, none⟩)), (6, .pointer (some ⟨b3, 0, none⟩)), (8, .int .i64 0), (9, .pointer (some ⟨b4, 0, none⟩)), (10, .int .i64 r1.1), (11, .pointer (some ⟨b5, 0, none⟩)), (17, .tuple #[.int .i64 r1.1, .agg #[.int .i64 r1.2.Code, .int .i64 r1.2.At]]), (18, .slice A0 l0.length c0), (19, .int .i64 x1), (20, .tuple #[.int .i64 r1.1, .agg #[.int .i64 r1.2.Code, .int .i64 r1.2.At]]), (21, .int .i64 r1.1), (22, .agg #[.int .i64 r1.2.Code, .int .i64 r1.2.At]), (23, .pointer (some ⟨b5, 0, none⟩)), (24, .int .i64 r1.2.Code), (25, .bool false)]) ⟨by kernel_rfl, by kernel_rfl, by kernel_rfl, by kernel_rfl, by kernel_rfl, by kernel_rfl, by kernel_rfl, by kernel_rfl, by kernel_rfl, by kernel_rfl, by kernel_rfl, by kernel_rfl, by kernel_rfl, by kernel_rfl, by kernel_rfl, by kernel_rfl, by kernel_rfl, by kernel_rfl, by kernel_rfl, by kernel_rfl, trivial⟩ (redo_Response_p0 K w0 l0 A0 c0 x1 x2 x3 hR0 hL0 b1 b2 b3 b4 r1 b5 hc1 _ hq2 _ hS9 _ ?_)
      rintro _ a w12 ⟨rfl, hS31, hF⟩
      replace hS31 : St w0 w12 [Own.blk b4 (.cells #[.int .i64 0, .int .i64 0] 27 (0, 0)), Own.blk b3 (.cells #[.int .i64 x2] 3 (0, 0)), Own.blk b2 (.cells #[.int .i64 x1] 3 (0, 0)), Own.blk b1 (.cells #[.slice A0 l0.length c0] 82 (0, 0))] := hS31
      refine hK5 [(3, .int .i64 x3), (4, .pointer (some ⟨b1, 0, none⟩)), (5, .pointer (some ⟨b2, 0, none⟩)), (6, .pointer (some ⟨b3, 0, none⟩)), (9, .pointer (some ⟨b4, 0, none⟩))] w12 ?_ a hF
      refine we_seq fun K11 hK11 => ?_
      refine we_region [(0, 0), (1, 0), (2, 0), (3, 0), (4, 1), (5, 2)] rfl ?_
      refine ge_batch [0, 1] (ans := [.val (.slice A0 l0.length c0), .val (.int .i64 x1)]) (vs := [(43, .int .i64 x1), (42, .slice A0 l0.length c0)]) (l := [.loaded ⟨b1, 0, none⟩ (.slice A0 l0.length c0), .loaded ⟨b2, 0, none⟩ (.int .i64 x1)]) (by kernel_rfl) ⟨hS31.cell 3 rfl rfl, hS31.cell 2 rfl rfl, trivial⟩ ?_
      by_cases hc6 : 0 ≤ x1
      · rw [if_pos hc6] at h
        rcases hx6 : l0[(x1).toNat]? with _ | e1
        · rw [hx6] at h; cases h
        rw [hx6] at h
        simp only [] at h
        refine ge_index (d := 44) (ty := 0) (t := 82) (el := 85) (sz := 7) (m := l0.length) (c := c0) (x := (.tmp 42)) (y := (.tmp 43)) (A := A0) (k' := .i64) (j := x1) (jn := ((x1).toNat)) (b0 := blkOf A0) (o0 := offOf A0) (by kernel_rfl) (by kernel_rfl) (by kernel_rfl) (by kernel_rfl) (by kernel_rfl) ((hS31.rd hR0).eqSome (pos_of_get hx6)) (Int.toNat_of_nonneg hc6).symm (lt_of_get hx6) ?_
        refine ge_batch [3] (ans := [.val (.string e1.Name), .val (.int .i64 e1.C), .val (.int .i64 e1.T), .val (.int .i64 e1.D), .val (.int .i64 e1.J), .val (.int .i64 e1.O), .val (.int .i64 e1.P)]) (vs := [(45, .agg #[.string e1.Name, .int .i64 e1.C, .int .i64 e1.T, .int .i64 e1.D, .int .i64 e1.J, .int .i64 e1.O, .int .i64 e1.P])]) (l := [.loaded ⟨blkOf A0, offOf A0 + ((x1).toNat) * 7, none⟩ (.string e1.Name), .loaded ⟨blkOf A0, offOf A0 + ((x1).toNat) * 7 + 1, none⟩ (.int .i64 e1.C), .loaded ⟨blkOf A0, offOf A0 + ((x1).toNat) * 7 + 2, none⟩ (.int .i64 e1.T), .loaded ⟨blkOf A0, offOf A0 + ((x1).toNat) * 7 + 3, none⟩ (.int .i64 e1.D), .loaded ⟨blkOf A0, offOf A0 + ((x1).toNat) * 7 + 4, none⟩ (.int .i64 e1.J), .loaded ⟨blkOf A0, offOf A0 + ((x1).toNat) * 7 + 5, none⟩ (.int .i64 e1.O), .loaded ⟨blkOf A0, offOf A0 + ((x1).toNat) * 7 + 6, none⟩ (.int .i64 e1.P)]) (by kernel_rfl) ⟨RdL.cell (j := 0) (hS31.rd hR0) hx6 rfl, RdL.cell (j := 1) (hS31.rd hR0) hx6 rfl, RdL.cell (j := 2) (hS31.rd hR0) hx6 rfl, RdL.cell (j := 3) (hS31.rd hR0) hx6 rfl, RdL.cell (j := 4) (hS31.rd hR0) hx6 rfl, RdL.cell (j := 5) (hS31.rd hR0) hx6 rfl, RdL.cell (j := 6) (hS31.rd hR0) hx6 rfl, trivial⟩ ?_
        refine ge_new (d := some 12) (o := .cells #[.string (⟨#[]⟩), .int .i64 0, .int .i64 0, .int .i64 0, .int .i64 0, .int .i64 0, .int .i64 0] 85) (v := fun b => .pointer (some ⟨b, 0, none⟩)) hS31 (fun b => by kernel_rfl) fun b6 w13 hx7 hS32 => ?_
        refine ge_set (b := b6) (j := 0) (cs := #[.string (⟨#[]⟩), .int .i64 0, .int .i64 0, .int .i64 0, .int .i64 0, .int .i64 0, .int .i64 0]) (t := 85) (vs := [.string e1.Name, .int .i64 e1.C, .int .i64 e1.T, .int .i64 e1.D, .int .i64 e1.J, .int .i64 e1.O, .int .i64 e1.P]) hS32 (by kernel_rfl) rfl rfl fun w14 hS33 => ?_
        have hS34 : St w0 w14 [Own.blk b6 (.cells #[.string e1.Name, .int .i64 e1.C, .int .i64 e1.T, .int .i64 e1.D, .int .i64 e1.J, .int .i64 e1.O, .int .i64 e1.P] 85 (0, 0)), Own.blk b4 (.cells #[.int .i64 0, .int .i64 0] 27 (0, 0)), Own.blk b3 (.cells #[.int .i64 x2] 3 (0, 0)), Own.blk b2 (.cells #[.int .i64 x1] 3 (0, 0)), Own.blk b1 (.cells #[.slice A0 l0.length c0] 82 (0, 0))] := hS33
        refine ge_nil fun a hF => hK11 _ _ ?_ a hF
        refine we_seq fun K12 hK12 => ?_
        refine we_region [(0, 1), (1, 2)] rfl ?_
        refine ge_new (d := some 13) (o := .cells #[.int .i64 0] 3) (v := fun b => .pointer (some ⟨b, 0, none⟩)) hS34 (fun b => by kernel_rfl) fun b7 w15 hx8 hS35 => ?_
        refine ge_set (b := b7) (j := 0) (cs := #[.int .i64 0]) (t := 3) (vs := [.int .i64 0]) hS35 (by kernel_rfl) rfl rfl fun w16 hS36 => ?_
        have hS37 : St w0 w16 [Own.blk b7 (.cells #[.int .i64 0] 3 (0, 0)), Own.blk b6 (.cells #[.string e1.Name, .int .i64 e1.C, .int .i64 e1.T, .int .i64 e1.D, .int .i64 e1.J, .int .i64 e1.O, .int .i64 e1.P] 85 (0, 0)), Own.blk b4 (.cells #[.int .i64 0, .int .i64 0] 27 (0, 0)), Own.blk b3 (.cells #[.int .i64 x2] 3 (0, 0)), Own.blk b2 (.cells #[.int .i64 x1] 3 (0, 0)), Own.blk b1 (.cells #[.slice A0 l0.length c0] 82 (0, 0))] := hS36
        refine ge_nil fun a hF => hK12 _ _ ?_ a hF
        refine we_seq fun K13 hK13 => ?_
        refine we_seq fun K14 hK14 => ?_
        refine we_region [(0, 0), (1, 0), (2, 0)] rfl ?_
        refine ge_batch [0, 1, 2] (ans := [.val (.slice A0 l0.length c0)]) (vs := [(48, .int .i64 0), (47, .int .i64 (l0.length : Int)), (46, .slice A0 l0.length c0)]) (l := [.loaded ⟨b1, 0, none⟩ (.slice A0 l0.length c0)]) (by kernel_rfl) ⟨hS37.cell 5 rfl rfl, trivial⟩ ?_
        refine ge_nil fun a hF => hK14 _ _ ?_ a hF
        refine we_block ?_
        have hS38 := hS37.bring 5 rfl
        have hS39 := hS38.bring 5 rfl
        have hS40 := hS39.bring 5 rfl
        have hS41 := hS40.bring 5 rfl
        have hS42 := hS41.bring 5 rfl
        have hS43 := hS42.bring 5 rfl
        rcases hq4 : iter (redo_Response.r1 l0 x3 e1) K (0, 0) with _ | (z3 | rr1)
        · rw [hq4] at h; cases h
        · rw [hq4] at h
          simp only [] at h
          refine we_iter (A := redo_Response.A1 K w0 l0 A0 c0 x1 x2 x3 hR0 hL0 b1 b2 b3 b4 r1 b5 hc1 hc6 e1 hx6 b6 b7) (B := redo_Response.B1 K w0 l0 A0 c0 x1 x2 x3 hR0 hL0 b1 b2 b3 b4 r1 b5 hc1 hc6 e1 hx6 b6 b7) hq4 (fun a hF => ⟨hS43, hF.weaken ⟨by kernel_rfl, by kernel_rfl, by kernel_rfl, by kernel_rfl, by kernel_rfl, by kernel_rfl, by kernel_rfl, by kernel_rfl, by kernel_rfl, by kernel_rfl, trivial⟩⟩) (fun s o hf a w hA Q hQ => redo_Response_r1 K w0 l0 A0 c0 x1 x2 x3 hR0 hL0 b1 b2 b3 b4 r1 b5 hc1 hc6 e1 hx6 b6 b7 s o hf a w hA Q hQ) ?_
          rintro _ a w21 _ ⟨rfl, hS73, hF⟩
          replace hS73 : St w0 w21 [Own.blk b7 (.cells #[.int .i64 z3] 3 (0, 0)), Own.blk b6 (.cells #[.string e1.Name, .int .i64 e1.C, .int .i64 e1.T, .int .i64 e1.D, .int .i64 e1.J, .int .i64 e1.O, .int .i64 e1.P] 85 (0, 0)), Own.blk b4 (.cells #[.int .i64 0, .int .i64 0] 27 (0, 0)), Own.blk b3 (.cells #[.int .i64 x2] 3 (0, 0)), Own.blk b2 (.cells #[.int .i64 x1] 3 (0, 0)), Own.blk b1 (.cells #[.slice A0 l0.length c0] 82 (0, 0))] := hS73
          refine hK13 [(4, .pointer (some ⟨b1, 0, none⟩)), (5, .pointer (some ⟨b2, 0, none⟩)), (6, .pointer (some ⟨b3, 0, none⟩)), (9, .pointer (some ⟨b4, 0, none⟩)), (12, .pointer (some ⟨b6, 0, none⟩)), (13, .pointer (some ⟨b7, 0, none⟩))] w21 ?_ a hF
          refine we_seq fun K20 hK20 => ?_
          refine we_region [(0, 0), (1, 0), (2, 0), (3, 0), (4, 0), (5, 0), (6, 0), (7, 0), (8, 1), (9, 0)] rfl ?_
          rcases hq5 : fixed_Settle_1.f K e1.C (IntKind.i64.wrap (e1.D - e1.J)) e1 x2 z3 l0 x1 with _ | r2
          · rw [hq5] at h; cases h
          rw [hq5] at h
          simp only [] at h
          refine ge_batch [0, 1, 2, 3, 4, 5, 6, 7] (ans := [.val (.int .i64 e1.C), .val (.int .i64 e1.D), .val (.int .i64 e1.J)]) (vs := [(71, .func (.func 83) #[] #[.pointer (some ⟨b6, 0, none⟩), .pointer (some ⟨b3, 0, none⟩), .pointer (some ⟨b7, 0, none⟩), .pointer (some ⟨b1, 0, none⟩), .pointer (some ⟨b2, 0, none⟩)]), (70, .int .i64 (IntKind.i64.wrap (e1.D - e1.J))), (69, .int .i64 e1.J), (68, .pointer (some ⟨b6, 4, none⟩)), (67, .int .i64 e1.D), (66, .pointer (some ⟨b6, 3, none⟩)), (65, .int .i64 e1.C), (64, .pointer (some ⟨b6, 1, none⟩))]) (l := [.loaded ⟨b6, 1, none⟩ (.int .i64 e1.C), .loaded ⟨b6, 3, none⟩ (.int .i64 e1.D), .loaded ⟨b6, 4, none⟩ (.int .i64 e1.J)]) (by kernel_rfl) ⟨hS73.cell 1 rfl rfl, hS73.cell 1 rfl rfl, hS73.cell 1 rfl rfl, trivial⟩ ?_
          refine ge_call (d := some 72) (f := 82) (args := #[.int .i64 e1.C, .int .i64 (IntKind.i64.wrap (e1.D - e1.J)), .func (.func 83) #[] #[.pointer (some ⟨b6, 0, none⟩), .pointer (some ⟨b3, 0, none⟩), .pointer (some ⟨b7, 0, none⟩), .pointer (some ⟨b1, 0, none⟩), .pointer (some ⟨b2, 0, none⟩)]]) (by kernel_rfl) (fixed_Settle_1_ok K e1.C (IntKind.i64.wrap (e1.D - e1.J)) b6 e1 b3 x2 b7 z3 b1 l0 A0 c0 b2 x1 _ (hS73.globOf 1 rfl) (hS73.globOf 3 rfl) (hS73.globOf 0 rfl) (hS73.rd hR0) hL0 (hS73.globOf 5 rfl) (hS73.globOf 4 rfl) _ hq5) ?_
          rintro _ w22 ⟨rfl, hS74⟩
          refine ⟨_, rfl, hS74.below, ?_⟩
          have hS75 := hS73.call hS74
          refine ge_batch [9] (ans := []) (vs := [(16, .int .i64 r2)]) (l := []) (by kernel_rfl) trivial ?_
          refine ge_nil fun a hF => hK20 _ _ ?_ a hF
          refine we_seq fun K21 hK21 => ?_
          refine we_seq fun K22 hK22 => ?_
          refine we_region [(0, 0), (1, 0)] rfl ?_
          refine ge_batch [0, 1] (ans := []) (vs := [(74, .bool (r2 == 0)), (73, .int .i64 r2)]) (l := []) (by kernel_rfl) trivial ?_
          refine ge_nil fun a hF => hK22 _ _ ?_ a hF
          by_cases hc9 : r2 = 0
          · rw [if_pos hc9] at h
            refine we_known (t := 74) (b := (r2 == 0)) (v := true) (by kernel_rfl) (beq_iff_eq.2 hc9) ?_
            refine we_true (by kernel_rfl) ?_
            refine we_seq fun K23 hK23 => ?_
            refine we_draws (by kernel_rfl) [(0, 0), (1, 0), (2, 0), (3, 2)] (by kernel_rfl) ?_
            have hS76 := hS75.drew
            refine ge_batch [0, 1, 2] (ans := [.val (.int .i64 x1)]) (vs := [(8, .int .i64 0), (76, .agg #[.int .i64 13, .int .i64 x1]), (75, .int .i64 x1)]) (l := [.loaded ⟨b2, 0, none⟩ (.int .i64 x1)]) (by kernel_rfl) ⟨hS76.cell 4 rfl rfl, trivial⟩ ?_
            have hS77 := hS76.bring 2 rfl
            refine ge_set (b := b4) (j := 0) (cs := #[.int .i64 0, .int .i64 0]) (t := 27) (vs := [.int .i64 13, .int .i64 x1]) hS77 (by kernel_rfl) rfl rfl fun w23 hS78 => ?_
            have hS79 : St w0 w23 [Own.blk b4 (.cells #[.int .i64 13, .int .i64 x1] 27 (0, 0)), Own.blk b7 (.cells #[.int .i64 z3] 3 (0, 0)), Own.blk b6 (.cells #[.string e1.Name, .int .i64 e1.C, .int .i64 e1.T, .int .i64 e1.D, .int .i64 e1.J, .int .i64 e1.O, .int .i64 e1.P] 85 (0, 0)), Own.blk b3 (.cells #[.int .i64 x2] 3 (0, 0)), Own.blk b2 (.cells #[.int .i64 x1] 3 (0, 0)), Own.blk b1 (.cells #[.slice A0 l0.length c0] 82 (0, 0))] := hS78
            refine ge_nil fun a hF => hK23 _ _ ?_ a hF
            have hS80 := hS79.takeN 0
            obtain rfl := Option.some.inj h
            exact we_ret (post_ret (rs := [.tmp 8, .cell 9 27]) (ans := [.val (.int .i64 13), .val (.int .i64 x1)]) (vs := [.int .i64 0, .agg #[.int .i64 13, .int .i64 x1]]) (l := [.loaded ⟨b4, 0, none⟩ (.int .i64 13), .loaded ⟨b4, 1, none⟩ (.int .i64 x1)]) rfl (by kernel_rfl) ⟨hS79.cell 0 rfl rfl, hS79.cell 0 rfl rfl, trivial⟩ ⟨rfl, hS80⟩)
          · rw [if_neg hc9] at h
            refine we_known (t := 74) (b := (r2 == 0)) (v := false) (by kernel_rfl) (beq_eq_false_iff_ne.2 hc9) ?_
            refine we_false (by kernel_rfl) ?_
            refine we_skip fun a hF => hK21 _ _ ?_ a hF
            refine we_seq fun K24 hK24 => ?_
            refine we_region [(0, 0), (1, 0), (2, 0), (3, 0), (4, 0), (5, 0), (6, 2)] rfl ?_
            refine ge_batch [0, 1, 2, 3, 4, 5] (ans := [.val (.int .i64 e1.J)]) (vs := [(8, .int .i64 (IntKind.i64.wrap (r2 + e1.J))), (81, .agg #[.int .i64 0, .int .i64 0]), (80, .int .i64 (IntKind.i64.wrap (r2 + e1.J))), (79, .int .i64 e1.J), (78, .pointer (some ⟨b6, 4, none⟩)), (77, .int .i64 r2)]) (l := [.loaded ⟨b6, 4, none⟩ (.int .i64 e1.J)]) (by kernel_rfl) ⟨hS75.cell 1 rfl rfl, trivial⟩ ?_
            have hS81 := hS75.bring 2 rfl
            refine ge_set (b := b4) (j := 0) (cs := #[.int .i64 0, .int .i64 0]) (t := 27) (vs := [.int .i64 0, .int .i64 0]) hS81 (by kernel_rfl) rfl rfl fun w24 hS82 => ?_
            have hS83 : St w0 w24 [Own.blk b4 (.cells #[.int .i64 0, .int .i64 0] 27 (0, 0)), Own.blk b7 (.cells #[.int .i64 z3] 3 (0, 0)), Own.blk b6 (.cells #[.string e1.Name, .int .i64 e1.C, .int .i64 e1.T, .int .i64 e1.D, .int .i64 e1.J, .int .i64 e1.O, .int .i64 e1.P] 85 (0, 0)), Own.blk b3 (.cells #[.int .i64 x2] 3 (0, 0)), Own.blk b2 (.cells #[.int .i64 x1] 3 (0, 0)), Own.blk b1 (.cells #[.slice A0 l0.length c0] 82 (0, 0))] := hS82
            refine ge_nil fun a hF => hK24 _ _ ?_ a hF
            have hS84 := hS83.takeN 0
            obtain rfl := Option.some.inj h
            exact we_ret (post_ret (rs := [.tmp 8, .cell 9 27]) (ans := [.val (.int .i64 0), .val (.int .i64 0)]) (vs := [.int .i64 (IntKind.i64.wrap (r2 + e1.J)), .agg #[.int .i64 0, .int .i64 0]]) (l := [.loaded ⟨b4, 0, none⟩ (.int .i64 0), .loaded ⟨b4, 1, none⟩ (.int .i64 0)]) rfl (by kernel_rfl) ⟨hS83.cell 0 rfl rfl, hS83.cell 0 rfl rfl, trivial⟩ ⟨rfl, hS84⟩)
        · rw [hq4] at h
          simp only [] at h
          refine we_iter (A := redo_Response.A1 K w0 l0 A0 c0 x1 x2 x3 hR0 hL0 b1 b2 b3 b4 r1 b5 hc1 hc6 e1 hx6 b6 b7) (B := redo_Response.B1 K w0 l0 A0 c0 x1 x2 x3 hR0 hL0 b1 b2 b3 b4 r1 b5 hc1 hc6 e1 hx6 b6 b7) hq4 (fun a hF => ⟨hS43, hF.weaken ⟨by kernel_rfl, by kernel_rfl, by kernel_rfl, by kernel_rfl, by kernel_rfl, by kernel_rfl, by kernel_rfl, by kernel_rfl, by kernel_rfl, by kernel_rfl, trivial⟩⟩) (fun s o hf a w hA Q hQ => redo_Response_r1 K w0 l0 A0 c0 x1 x2 x3 hR0 hL0 b1 b2 b3 b4 r1 b5 hc1 hc6 e1 hx6 b6 b7 s o hf a w hA Q hQ) ?_
          rintro _ a w1 _ ⟨rfl, hb⟩
          obtain rfl := Option.some.inj h
          exact hb
      · rw [if_neg hc6] at h
        cases h
    · rw [hq2] at h
      simp only [] at h
      refine we_keep (e' := [(0, .slice A0 l0.length c0), (1, .int .i64 x1), (2, .int .i64 x2), (3, .int .i64 x3), (4, .pointer (some ⟨b1, 0, none⟩)), (5, .pointer (some ⟨b2, 0, none⟩)), (6, .pointer (some ⟨b3, 0, none⟩)), (8, .int .i64 0), (9, .pointer (some ⟨b4, 0, none⟩)), (10, .int .i64 r1.1), (11, .pointer (some ⟨b5, 0, none⟩)), (17, .tuple #[.int .i64 r1.1, .agg #[.int .i64 r1.2.Code, .int .i64 r1.2.At]]), (18, .slice A0 l0.length c0), (19, .int .i64 x1), (20, .tuple #[.int .i64 r1.1, .agg #[.int .i64 r1.2.Code, .int .i64 r1.2.At]]), (21, .int .i64 r1.1), (22, .agg #[.int .i64 r1.2.Code, .int .i64 r1.2.At]), (23, .pointer (some ⟨b5, 0, none⟩)), (24, .int .i64 r1.2.Code), (25, .bool false)]) ⟨by kernel_rfl, by kernel_rfl, by kernel_rfl, by kernel_rfl, by kernel_rfl, by kernel_rfl, by kernel_rfl, by kernel_rfl, by kernel_rfl, by kernel_rfl, by kernel_rfl, by kernel_rfl, by kernel_rfl, by kernel_rfl, by kernel_rfl, by kernel_rfl, by kernel_rfl, by kernel_rfl, by kernel_rfl, by kernel_rfl, trivial⟩ (redo_Response_p0 K w0 l0 A0 c0 x1 x2 x3 hR0 hL0 b1 b2 b3 b4 r1 b5 hc1 _ hq2 _ hS9 _ ?_)
      rintro _ a w1 ⟨_, rfl, hb⟩
      obtain rfl := Option.some.inj h
      exact hb
  · rw [if_neg hc1] at h
    refine we_known (t := 25) (b := (r1.2.Code != 0)) (v := true) (by kernel_rfl) (bne_iff_ne.2 hc1) ?_
    refine we_true (by kernel_rfl) ?_
    refine we_seq fun K25 hK25 => ?_
    refine we_draws (by kernel_rfl) [(0, 0), (1, 0), (2, 2)] (by kernel_rfl) ?_
    have hS85 := hS9.drew
    refine ge_batch [0, 1] (ans := [.val (.int .i64 r1.2.Code), .val (.int .i64 r1.2.At)]) (vs := [(8, .int .i64 0), (26, .agg #[.int .i64 r1.2.Code, .int .i64 r1.2.At])]) (l := [.loaded ⟨b5, 0, none⟩ (.int .i64 r1.2.Code), .loaded ⟨b5, 1, none⟩ (.int .i64 r1.2.At)]) (by kernel_rfl) ⟨hS85.cell 0 rfl rfl, hS85.cell 0 rfl rfl, trivial⟩ ?_
    have hS86 := hS85.bring 1 rfl
    refine ge_set (b := b4) (j := 0) (cs := #[.int .i64 0, .int .i64 0]) (t := 27) (vs := [.int .i64 r1.2.Code, .int .i64 r1.2.At]) hS86 (by kernel_rfl) rfl rfl fun w25 hS87 => ?_
    have hS88 : St w0 w25 [Own.blk b4 (.cells #[.int .i64 r1.2.Code, .int .i64 r1.2.At] 27 (0, 0)), Own.blk b5 (.cells #[.int .i64 r1.2.Code, .int .i64 r1.2.At] 27 (0, 0)), Own.blk b3 (.cells #[.int .i64 x2] 3 (0, 0)), Own.blk b2 (.cells #[.int .i64 x1] 3 (0, 0)), Own.blk b1 (.cells #[.slice A0 l0.length c0] 82 (0, 0))] := hS87
    refine ge_nil fun a hF => hK25 _ _ ?_ a hF
    have hS89 := hS88.takeN 0
    obtain rfl := Option.some.inj h
    exact we_ret (post_ret (rs := [.tmp 8, .cell 9 27]) (ans := [.val (.int .i64 r1.2.Code), .val (.int .i64 r1.2.At)]) (vs := [.int .i64 0, .agg #[.int .i64 r1.2.Code, .int .i64 r1.2.At]]) (l := [.loaded ⟨b4, 0, none⟩ (.int .i64 r1.2.Code), .loaded ⟨b4, 1, none⟩ (.int .i64 r1.2.At)]) rfl (by kernel_rfl) ⟨hS88.cell 0 rfl rfl, hS88.cell 0 rfl rfl, trivial⟩ ⟨rfl, hS89⟩)

/-! punctual/punctualsame.Same[int] -/
abbrev punctualsame_Same_int.Post (w0 : World) (r : Bool) (e : Ending) (w : World) : Prop := e = .returned (.bool r) ∧ St w0 w []
def punctualsame_Same_int.r0 (l0 : List Int) (l1 : List Int) : Nat → Option (Nat ⊕ (Unit ⊕ Bool))
  | i1 =>
    if (i1 : Int) < (l0.length : Int) then
      match l0[i1]? with
      | none => none
      | some e1 =>
        match l1[i1]? with
        | none => none
        | some e2 =>
          if e1 = e2 then
            some (.inl (i1 + 1))
          else
            some (.inr (.inr false))
    else
      some (.inr (.inl ()))
def punctualsame_Same_int.f (K : Nat) (l0 : List Int) (l1 : List Int) : Option Bool :=
  if (l0.length : Int) = (l1.length : Int) then
    match iter (punctualsame_Same_int.r0 l0 l1) K 0 with
    | none => none
    | some (.inl _) =>
      some true
    | some (.inr rr1) =>
      some rr1
  else
    some false
abbrev punctualsame_Same_int.A0 (K : Nat) (w0 : World) (l0 : List Int) (A0 : Option Addr) (c0 : Nat) (l1 : List Int) (A1 : Option Addr) (c1 : Nat) (hR0 : RdL w0 A0 l0) (hL0 : l0.length ≤ c0) (hR1 : RdL w0 A1 l1) (hL1 : l1.length ≤ c1) (hc1 : (l0.length : Int) = (l1.length : Int)) : Nat → Act → World → Prop := fun (s : Nat) a w => St w0 w [] ∧ Frm 26 a [(0, .slice A0 l0.length c0), (1, .slice A1 l1.length c1), (12, .int .i64 (l0.length : Int)), (13, .int .i64 (s : Int))]
abbrev punctualsame_Same_int.B0 (K : Nat) (w0 : World) (l0 : List Int) (A0 : Option Addr) (c0 : Nat) (l1 : List Int) (A1 : Option Addr) (c1 : Nat) (hR0 : RdL w0 A0 l0) (hL0 : l0.length ≤ c0) (hR1 : RdL w0 A1 l1) (hL1 : l1.length ≤ c1) (hc1 : (l0.length : Int) = (l1.length : Int)) : (Unit ⊕ Bool) → Exit → Act → World → Prop := Exits 0 (fun (s : Unit) a w => St w0 w [] ∧ Frm 26 a []) (Rets Tryd.prog Tryd.f13 (punctualsame_Same_int.Post w0))
theorem punctualsame_Same_int_r0 (K : Nat) (w0 : World) (l0 : List Int) (A0 : Option Addr) (c0 : Nat) (l1 : List Int) (A1 : Option Addr) (c1 : Nat) (hR0 : RdL w0 A0 l0) (hL0 : l0.length ≤ c0) (hR1 : RdL w0 A1 l1) (hL1 : l1.length ≤ c1) (hc1 : (l0.length : Int) = (l1.length : Int)) (s : Nat) (o : Nat ⊕ (Unit ⊕ Bool)) (h : punctualsame_Same_int.r0 l0 l1 s = some o) (a : Act) (w : World) (hA : punctualsame_Same_int.A0 K w0 l0 A0 c0 l1 A1 c1 hR0 hL0 hR1 hL1 hc1 s a w) (Q : Exit → Act → World → Prop) (hQ : ∀ x a w, Outs (punctualsame_Same_int.A0 K w0 l0 A0 c0 l1 A1 c1 hR0 hL0 hR1 hL1 hc1) (punctualsame_Same_int.B0 K w0 l0 A0 c0 l1 A1 c1 hR0 hL0 hR1 hL1 hc1) o x a w → Q x a w) : (subF Tryd.f13 [1, 1, 0, 1, 0, 0]).wp Tryd.prog Q a w := by
  obtain ⟨i1, hs⟩ : ∃ z, z = s := ⟨s, rfl⟩
  subst hs
  obtain ⟨hS, hF⟩ := hA
  replace hS : St w0 w [] := hS
  simp only [punctualsame_Same_int.r0] at h
  refine (?_ : WE Tryd.prog 26 (subF Tryd.f13 [1, 1, 0, 1, 0, 0]) Q [(0, .slice A0 l0.length c0), (1, .slice A1 l1.length c1), (12, .int .i64 (l0.length : Int)), (13, .int .i64 (i1 : Int))] w) a hF
  clear hF a
  refine we_seq fun K6 hK6 => ?_
  refine we_region [(0, 0)] rfl ?_
  refine ge_batch [0] (ans := []) (vs := [(14, .bool (decide ((i1 : Int) < (l0.length : Int))))]) (l := []) (by kernel_rfl) trivial ?_
  refine ge_nil fun a hF => hK6 _ _ ?_ a hF
  refine we_seq fun K7 hK7 => ?_
  by_cases hc2 : (i1 : Int) < (l0.length : Int)
  · rw [if_pos hc2] at h
    refine we_known (t := 14) (b := decide ((i1 : Int) < (l0.length : Int))) (v := true) (by kernel_rfl) (decide_eq_true hc2) ?_
    refine we_true (by kernel_rfl) ?_
    refine we_skip fun a hF => hK7 _ _ ?_ a hF
    refine we_seq fun K8 hK8 => ?_
    refine we_block ?_
    refine we_seq fun K9 hK9 => ?_
    refine we_region [(0, 0), (1, 0)] rfl ?_
    refine ge_batch [0, 1] (ans := []) (vs := [(5, .int .i64 (i1 : Int)), (15, .int .i64 (i1 : Int))]) (l := []) (by kernel_rfl) trivial ?_
    refine ge_nil fun a hF => hK9 _ _ ?_ a hF
    refine we_seq fun K10 hK10 => ?_
    refine we_draws (by kernel_rfl) [(0, 0), (1, 0), (2, 0), (3, 0), (4, 0), (5, 0), (6, 0), (7, 0), (8, 0)] (by kernel_rfl) ?_
    have hS1 := hS.drew
    refine ge_batch [0, 1] (ans := []) (vs := [(17, .int .i64 (i1 : Int)), (16, .slice A0 l0.length c0)]) (l := []) (by kernel_rfl) trivial ?_
    rcases hx1 : l0[i1]? with _ | e1
    · rw [hx1] at h; cases h
    rw [hx1] at h
    simp only [] at h
    refine ge_index (d := 18) (ty := 0) (t := 24) (el := 3) (sz := 1) (m := l0.length) (c := c0) (x := (.tmp 16)) (y := (.tmp 17)) (A := A0) (k' := .i64) (j := (i1 : Int)) (jn := i1) (b0 := blkOf A0) (o0 := offOf A0) (by kernel_rfl) (by kernel_rfl) (by kernel_rfl) (by kernel_rfl) (by kernel_rfl) ((hS1.rd hR0).eqSome (pos_of_get hx1)) rfl (lt_of_get hx1) ?_
    refine ge_batch [3, 4, 5] (ans := [.val (.int .i64 e1)]) (vs := [(21, .int .i64 (i1 : Int)), (20, .slice A1 l1.length c1), (19, .int .i64 e1)]) (l := [.loaded ⟨blkOf A0, offOf A0 + i1 * 1, none⟩ (.int .i64 e1)]) (by kernel_rfl) ⟨RdL.cell (j := 0) (hS1.rd hR0) hx1 rfl, trivial⟩ ?_
    rcases hx2 : l1[i1]? with _ | e2
    · rw [hx2] at h; cases h
    rw [hx2] at h
    simp only [] at h
    refine ge_index (d := 22) (ty := 0) (t := 24) (el := 3) (sz := 1) (m := l1.length) (c := c1) (x := (.tmp 20)) (y := (.tmp 21)) (A := A1) (k' := .i64) (j := (i1 : Int)) (jn := i1) (b0 := blkOf A1) (o0 := offOf A1) (by kernel_rfl) (by kernel_rfl) (by kernel_rfl) (by kernel_rfl) (by kernel_rfl) ((hS1.rd hR1).eqSome (pos_of_get hx2)) rfl (lt_of_get hx2) ?_
    refine ge_batch [7, 8] (ans := [.val (.int .i64 e2)]) (vs := [(24, .bool (e1 != e2)), (23, .int .i64 e2)]) (l := [.loaded ⟨blkOf A1, offOf A1 + i1 * 1, none⟩ (.int .i64 e2)]) (by kernel_rfl) ⟨RdL.cell (j := 0) (hS1.rd hR1) hx2 rfl, trivial⟩ ?_
    refine ge_nil fun a hF => hK10 _ _ ?_ a hF
    by_cases hc3 : e1 = e2
    · rw [if_pos hc3] at h
      refine we_known (t := 24) (b := (e1 != e2)) (v := false) (by kernel_rfl) (bne_eq_false_iff_eq.2 hc3) ?_
      refine we_false (by kernel_rfl) ?_
      refine we_skip fun a hF => hK8 _ _ ?_ a hF
      refine we_region [(0, 0), (1, 0)] rfl ?_
      refine ge_addn (d := 25) (ty := 3) (x := (.tmp 13)) (y := (.const (.int .i64 1))) (t := 3) (t2 := 3) (k := .i64) (m := i1) (by kernel_rfl) (by kernel_rfl) (by kernel_rfl) (by have h0 := hR0.small; omega) ?_
      refine ge_batch [1] (ans := []) (vs := [(13, .int .i64 ((i1 + 1 : Nat) : Int))]) (l := []) (by kernel_rfl) trivial ?_
      obtain rfl := Option.some.inj h
      exact ge_nil fun a hF => hQ _ _ _ (Outs.again ⟨hS1, hF.weaken ⟨by kernel_rfl, by kernel_rfl, by kernel_rfl, by kernel_rfl, trivial⟩⟩)
    · rw [if_neg hc3] at h
      refine we_known (t := 24) (b := (e1 != e2)) (v := true) (by kernel_rfl) (bne_iff_ne.2 hc3) ?_
      refine we_true (by kernel_rfl) ?_
      refine we_seq fun K11 hK11 => ?_
      refine we_region [(0, 0)] rfl ?_
      refine ge_batch [0] (ans := []) (vs := [(4, .bool false)]) (l := []) (by kernel_rfl) trivial ?_
      refine ge_nil fun a hF => hK11 _ _ ?_ a hF
      obtain rfl := Option.some.inj h
      exact we_ret fun a hF => hQ _ _ _ (Outs.out nofun (Exits.on ⟨rfl, (post_ret (rs := [.tmp 4]) (ans := []) (vs := [.bool false]) (l := []) rfl (by kernel_rfl) trivial ⟨rfl, hS1⟩) a hF⟩))
  · rw [if_neg hc2] at h
    refine we_known (t := 14) (b := decide ((i1 : Int) < (l0.length : Int))) (v := false) (by kernel_rfl) (decide_eq_false hc2) ?_
    refine we_false (by kernel_rfl) ?_
    obtain rfl := Option.some.inj h
    exact we_exit fun a hF => hQ _ _ _ (Outs.out nofun (Exits.here ⟨hS, hF.weaken trivial⟩))
theorem punctualsame_Same_int_ok (K : Nat) (l0 : List Int) (A0 : Option Addr) (c0 : Nat) (l1 : List Int) (A1 : Option Addr) (c1 : Nat) (w0 : World) (hR0 : RdL w0 A0 l0) (hL0 : l0.length ≤ c0) (hR1 : RdL w0 A1 l1) (hL1 : l1.length ≤ c1) (r : Bool) (h : punctualsame_Same_int.f K l0 l1 = some r) :
    Calls Tryd.prog 13 #[.slice A0 l0.length c0, .slice A1 l1.length c1] w0 (punctualsame_Same_int.Post w0 r) := by
  have hS := St.start w0
  unfold punctualsame_Same_int.f at h
  refine calls_enter (n := 26) (args := [.slice A0 l0.length c0, .slice A1 l1.length c1]) (fn := Tryd.f13) rfl rfl rfl rfl ?_
  show WE _ _ _ _ [(0, .slice A0 l0.length c0), (1, .slice A1 l1.length c1)] _
  refine we_seq fun K1 hK1 => ?_
  refine we_region [(0, 0)] rfl ?_
  refine ge_batch [0] (ans := []) (vs := [(4, .bool false)]) (l := []) (by kernel_rfl) trivial ?_
  refine ge_nil fun a hF => hK1 _ _ ?_ a hF
  refine we_seq fun K2 hK2 => ?_
  refine we_seq fun K3 hK3 => ?_
  refine we_region [(0, 0), (1, 0), (2, 0), (3, 0), (4, 0)] rfl ?_
  refine ge_batch [0, 1, 2, 3, 4] (ans := []) (vs := [(10, .bool ((l0.length : Int) != (l1.length : Int))), (9, .int .i64 (l1.length : Int)), (8, .slice A1 l1.length c1), (7, .int .i64 (l0.length : Int)), (6, .slice A0 l0.length c0)]) (l := []) (by kernel_rfl) trivial ?_
  refine ge_nil fun a hF => hK3 _ _ ?_ a hF
  by_cases hc1 : (l0.length : Int) = (l1.length : Int)
  · rw [if_pos hc1] at h
    refine we_known (t := 10) (b := ((l0.length : Int) != (l1.length : Int))) (v := false) (by kernel_rfl) (bne_eq_false_iff_eq.2 hc1) ?_
    refine we_false (by kernel_rfl) ?_
    refine we_skip fun a hF => hK2 _ _ ?_ a hF
    refine we_seq fun K4 hK4 => ?_
    refine we_seq fun K5 hK5 => ?_
    refine we_region [(0, 0), (1, 0), (2, 0)] rfl ?_
    refine ge_batch [0, 1, 2] (ans := []) (vs := [(13, .int .i64 0), (12, .int .i64 (l0.length : Int)), (11, .slice A0 l0.length c0)]) (l := []) (by kernel_rfl) trivial ?_
    refine ge_nil fun a hF => hK5 _ _ ?_ a hF
    refine we_block ?_
    rcases hq1 : iter (punctualsame_Same_int.r0 l0 l1) K 0 with _ | (_ | rr1)
    · rw [hq1] at h; cases h
    · rw [hq1] at h
      simp only [] at h
      refine we_iter (A := punctualsame_Same_int.A0 K w0 l0 A0 c0 l1 A1 c1 hR0 hL0 hR1 hL1 hc1) (B := punctualsame_Same_int.B0 K w0 l0 A0 c0 l1 A1 c1 hR0 hL0 hR1 hL1 hc1) hq1 (fun a hF => ⟨hS, hF.weaken ⟨by kernel_rfl, by kernel_rfl, by kernel_rfl, by kernel_rfl, trivial⟩⟩) (fun s o hf a w hA Q hQ => punctualsame_Same_int_r0 K w0 l0 A0 c0 l1 A1 c1 hR0 hL0 hR1 hL1 hc1 s o hf a w hA Q hQ) ?_
      rintro _ a w1 _ ⟨rfl, hS2, hF⟩
      replace hS2 : St w0 w1 [] := hS2
      refine hK4 [] w1 ?_ a hF
      refine we_seq fun K12 hK12 => ?_
      refine we_region [(0, 0)] rfl ?_
      refine ge_batch [0] (ans := []) (vs := [(4, .bool true)]) (l := []) (by kernel_rfl) trivial ?_
      refine ge_nil fun a hF => hK12 _ _ ?_ a hF
      obtain rfl := Option.some.inj h
      exact we_ret (post_ret (rs := [.tmp 4]) (ans := []) (vs := [.bool true]) (l := []) rfl (by kernel_rfl) trivial ⟨rfl, hS2⟩)
    · rw [hq1] at h
      simp only [] at h
      refine we_iter (A := punctualsame_Same_int.A0 K w0 l0 A0 c0 l1 A1 c1 hR0 hL0 hR1 hL1 hc1) (B := punctualsame_Same_int.B0 K w0 l0 A0 c0 l1 A1 c1 hR0 hL0 hR1 hL1 hc1) hq1 (fun a hF => ⟨hS, hF.weaken ⟨by kernel_rfl, by kernel_rfl, by kernel_rfl, by kernel_rfl, trivial⟩⟩) (fun s o hf a w hA Q hQ => punctualsame_Same_int_r0 K w0 l0 A0 c0 l1 A1 c1 hR0 hL0 hR1 hL1 hc1 s o hf a w hA Q hQ) ?_
      rintro _ a w1 _ ⟨rfl, hb⟩
      obtain rfl := Option.some.inj h
      exact hb
  · rw [if_neg hc1] at h
    refine we_known (t := 10) (b := ((l0.length : Int) != (l1.length : Int))) (v := true) (by kernel_rfl) (bne_iff_ne.2 hc1) ?_
    refine we_true (by kernel_rfl) ?_
    refine we_seq fun K13 hK13 => ?_
    refine we_region [(0, 0)] rfl ?_
    refine ge_batch [0] (ans := []) (vs := [(4, .bool false)]) (l := []) (by kernel_rfl) trivial ?_
    refine ge_nil fun a hF => hK13 _ _ ?_ a hF
    obtain rfl := Option.some.inj h
    exact we_ret (post_ret (rs := [.tmp 4]) (ans := []) (vs := [.bool false]) (l := []) rfl (by kernel_rfl) trivial ⟨rfl, hS⟩)

/-! punctual/punctuallaw.anew -/
abbrev anew.Post (w0 : World) (r : Bool) (e : Ending) (w : World) : Prop := e = .returned (.bool r) ∧ St w0 w []
def anew.f (K : Nat) : Option Bool :=
  match redo_Play.f K ([(⟨0, 0, 4, 9, 1⟩ : SJob)] : List SJob) 2 ([1, 3] : List Int) 9 with
  | none => none
  | some r1 =>
    match redo_Play.f K ([(⟨0, 0, 4, 9, 1⟩ : SJob)] : List SJob) 0 ([2] : List Int) 9 with
    | none => none
    | some r2 =>
      match redo_Response.f K three.f 1 100 0 with
      | none => none
      | some r3 =>
        if r1.2.Code = 0 then
          if r2.2.Code = 0 then
            if r3.2.Code = 0 then
              match punctualsame_Same_int.f K r1.1.Runs ([0, 0, 0, 0, 0, 0, 0, 0, (-1)] : List Int) with
              | none => none
              | some r4 =>
                if r4 = true then
                  match punctualsame_Same_int.f K r1.1.Ends ([8] : List Int) with
                  | none => none
                  | some r5 =>
                    if r5 = true then
                      match punctualsame_Same_int.f K r2.1.Ends ([7] : List Int) with
                      | none => none
                      | some r6 =>
                        if r6 = true then
                          some (r3.1 == 6)
                        else
                          some false
                    else
                      some false
                else
                  some false
            else
              some false
          else
            some false
        else
          some false
theorem anew_ok (K : Nat)  (w0 : World) (r : Bool) (h : anew.f K = some r) :
    Calls Tryd.prog 47 #[] w0 (anew.Post w0 r) := by
  have hS := St.start w0
  unfold anew.f at h
  refine calls_enter (n := 61) (args := []) (fn := Tryd.f47) rfl rfl rfl rfl ?_
  show WE _ _ _ _ [] _
  refine we_seq fun K1 hK1 => ?_
  refine we_region [(0, 0)] rfl ?_
  refine ge_batch [0] (ans := []) (vs := [(0, .bool false)]) (l := []) (by kernel_rfl) trivial ?_
  refine ge_nil fun a hF => hK1 _ _ ?_ a hF
  refine we_seq fun K2 hK2 => ?_
  refine we_region [(0, 0), (1, 1), (2, 1), (3, 1), (4, 0), (5, 0), (6, 0), (7, 1), (8, 1), (9, 2), (10, 2)] rfl ?_
  refine ge_batch [0] (ans := []) (vs := [(8, .agg #[.int .i64 0, .int .i64 0, .int .i64 4, .int .i64 9, .int .i64 1])]) (l := []) (by kernel_rfl) trivial ?_
  refine ge_new (d := some 9) (o := .cells #[.int .i64 0, .int .i64 0, .int .i64 4, .int .i64 9, .int .i64 1] 92) (v := fun b => .slice (some ⟨b, 0, none⟩) 1 1) hS (fun b => by kernel_rfl) fun b1 w1 hx1 hS1 => ?_
  refine ge_new (d := some 10) (o := .cells #[.int .i64 1, .int .i64 3] 3) (v := fun b => .slice (some ⟨b, 0, none⟩) 2 2) hS1 (fun b => by kernel_rfl) fun b2 w2 hx2 hS2 => ?_
  rcases hq1 : redo_Play.f K ([(⟨0, 0, 4, 9, 1⟩ : SJob)] : List SJob) 2 ([1, 3] : List Int) 9 with _ | r1
  · rw [hq1] at h; cases h
  rw [hq1] at h
  simp only [] at h
  refine ge_call (d := some 11) (f := 54) (args := #[.slice (some ⟨b1, 0, none⟩) 1 1, .int .i64 2, .slice (some ⟨b2, 0, none⟩) 2 2, .int .i64 9]) (by kernel_rfl) (redo_Play_ok K ([(⟨0, 0, 4, 9, 1⟩ : SJob)] : List SJob) (some ⟨b1, 0, none⟩) 1 2 ([1, 3] : List Int) (some ⟨b2, 0, none⟩) 2 9 _ (hS2.rdBlk 1 ([(⟨0, 0, 4, 9, 1⟩ : SJob)] : List SJob) rfl rfl rfl) (Nat.le_refl _) (hS2.rdBlk 0 ([1, 3] : List Int) rfl rfl rfl) (Nat.le_refl _) _ hq1) ?_
  rintro _ w3 ⟨v1, v2, rfl, hS3⟩
  refine ⟨_, rfl, hS3.below, ?_⟩
  have hS4 := hS2.call hS3
  refine ge_batch [4, 5, 6] (ans := []) (vs := [(13, .agg #[.int .i64 r1.2.Code, .int .i64 r1.2.At]), (12, .agg #[v1, v2]), (7, .tuple #[.agg #[v1, v2], .agg #[.int .i64 r1.2.Code, .int .i64 r1.2.At]])]) (l := []) (by kernel_rfl) trivial ?_
  refine ge_new (d := some 1) (o := .cells #[.slice none 0 0, .slice none 0 0] 75) (v := fun b => .pointer (some ⟨b, 0, none⟩)) hS4 (fun b => by kernel_rfl) fun b3 w4 hx3 hS5 => ?_
  refine ge_new (d := some 2) (o := .cells #[.int .i64 0, .int .i64 0] 27) (v := fun b => .pointer (some ⟨b, 0, none⟩)) hS5 (fun b => by kernel_rfl) fun b4 w5 hx4 hS6 => ?_
  obtain ⟨Z1, cz1, rfl⟩ := hS6.open 2 rfl
  obtain ⟨Z2, cz2, rfl⟩ := hS6.open 3 rfl
  have hS7 := hS6.bring 1 rfl
  refine ge_set (b := b3) (j := 0) (cs := #[.slice none 0 0, .slice none 0 0]) (t := 75) (vs := [(.slice Z1 r1.1.Runs.length cz1), (.slice Z2 r1.1.Ends.length cz2)]) hS7 (by kernel_rfl) rfl rfl fun w6 hS8 => ?_
  have hS9 : St w0 w6 [Own.blk b3 (.cells #[(.slice Z1 r1.1.Runs.length cz1), (.slice Z2 r1.1.Ends.length cz2)] 75 (0, 0)), Own.blk b4 (.cells #[.int .i64 0, .int .i64 0] 27 (0, 0)), Own.of (.slice Z1 r1.1.Runs.length cz1) 3 r1.1.Runs, Own.of (.slice Z2 r1.1.Ends.length cz2) 3 r1.1.Ends, Own.blk b2 (.cells #[.int .i64 1, .int .i64 3] 3 (0, 0)), Own.blk b1 (.cells #[.int .i64 0, .int .i64 0, .int .i64 4, .int .i64 9, .int .i64 1] 92 (0, 0))] := hS8
  have hS10 := hS9.bring 1 rfl
  refine ge_set (b := b4) (j := 0) (cs := #[.int .i64 0, .int .i64 0]) (t := 27) (vs := [.int .i64 r1.2.Code, .int .i64 r1.2.At]) hS10 (by kernel_rfl) rfl rfl fun w7 hS11 => ?_
  have hS12 : St w0 w7 [Own.blk b4 (.cells #[.int .i64 r1.2.Code, .int .i64 r1.2.At] 27 (0, 0)), Own.blk b3 (.cells #[(.slice Z1 r1.1.Runs.length cz1), (.slice Z2 r1.1.Ends.length cz2)] 75 (0, 0)), Own.of (.slice Z1 r1.1.Runs.length cz1) 3 r1.1.Runs, Own.of (.slice Z2 r1.1.Ends.length cz2) 3 r1.1.Ends, Own.blk b2 (.cells #[.int .i64 1, .int .i64 3] 3 (0, 0)), Own.blk b1 (.cells #[.int .i64 0, .int .i64 0, .int .i64 4, .int .i64 9, .int .i64 1] 92 (0, 0))] := hS11
  refine ge_nil fun a hF => hK2 _ _ ?_ a hF
  refine we_seq fun K3 hK3 => ?_
  refine we_region [(0, 0), (1, 1), (2, 1), (3, 1), (4, 0), (5, 0), (6, 0), (7, 1), (8, 1), (9, 2), (10, 2)] rfl ?_
  refine ge_batch [0] (ans := []) (vs := [(15, .agg #[.int .i64 0, .int .i64 0, .int .i64 4, .int .i64 9, .int .i64 1])]) (l := []) (by kernel_rfl) trivial ?_
  refine ge_new (d := some 16) (o := .cells #[.int .i64 0, .int .i64 0, .int .i64 4, .int .i64 9, .int .i64 1] 92) (v := fun b => .slice (some ⟨b, 0, none⟩) 1 1) hS12 (fun b => by kernel_rfl) fun b5 w8 hx5 hS13 => ?_
  refine ge_new (d := some 17) (o := .cells #[.int .i64 2] 3) (v := fun b => .slice (some ⟨b, 0, none⟩) 1 1) hS13 (fun b => by kernel_rfl) fun b6 w9 hx6 hS14 => ?_
  rcases hq2 : redo_Play.f K ([(⟨0, 0, 4, 9, 1⟩ : SJob)] : List SJob) 0 ([2] : List Int) 9 with _ | r2
  · rw [hq2] at h; cases h
  rw [hq2] at h
  simp only [] at h
  refine ge_call (d := some 18) (f := 54) (args := #[.slice (some ⟨b5, 0, none⟩) 1 1, .int .i64 0, .slice (some ⟨b6, 0, none⟩) 1 1, .int .i64 9]) (by kernel_rfl) (redo_Play_ok K ([(⟨0, 0, 4, 9, 1⟩ : SJob)] : List SJob) (some ⟨b5, 0, none⟩) 1 0 ([2] : List Int) (some ⟨b6, 0, none⟩) 1 9 _ (hS14.rdBlk 1 ([(⟨0, 0, 4, 9, 1⟩ : SJob)] : List SJob) rfl rfl rfl) (Nat.le_refl _) (hS14.rdBlk 0 ([2] : List Int) rfl rfl rfl) (Nat.le_refl _) _ hq2) ?_
  rintro _ w10 ⟨v3, v4, rfl, hS15⟩
  refine ⟨_, rfl, hS15.below, ?_⟩
  have hS16 := hS14.call hS15
  refine ge_batch [4, 5, 6] (ans := []) (vs := [(20, .agg #[.int .i64 r2.2.Code, .int .i64 r2.2.At]), (19, .agg #[v3, v4]), (14, .tuple #[.agg #[v3, v4], .agg #[.int .i64 r2.2.Code, .int .i64 r2.2.At]])]) (l := []) (by kernel_rfl) trivial ?_
  refine ge_new (d := some 3) (o := .cells #[.slice none 0 0, .slice none 0 0] 75) (v := fun b => .pointer (some ⟨b, 0, none⟩)) hS16 (fun b => by kernel_rfl) fun b7 w11 hx7 hS17 => ?_
  refine ge_new (d := some 4) (o := .cells #[.int .i64 0, .int .i64 0] 27) (v := fun b => .pointer (some ⟨b, 0, none⟩)) hS17 (fun b => by kernel_rfl) fun b8 w12 hx8 hS18 => ?_
  obtain ⟨Z3, cz3, rfl⟩ := hS18.open 2 rfl
  obtain ⟨Z4, cz4, rfl⟩ := hS18.open 3 rfl
  have hS19 := hS18.bring 1 rfl
  refine ge_set (b := b7) (j := 0) (cs := #[.slice none 0 0, .slice none 0 0]) (t := 75) (vs := [(.slice Z3 r2.1.Runs.length cz3), (.slice Z4 r2.1.Ends.length cz4)]) hS19 (by kernel_rfl) rfl rfl fun w13 hS20 => ?_
  have hS21 : St w0 w13 [Own.blk b7 (.cells #[(.slice Z3 r2.1.Runs.length cz3), (.slice Z4 r2.1.Ends.length cz4)] 75 (0, 0)), Own.blk b8 (.cells #[.int .i64 0, .int .i64 0] 27 (0, 0)), Own.of (.slice Z3 r2.1.Runs.length cz3) 3 r2.1.Runs, Own.of (.slice Z4 r2.1.Ends.length cz4) 3 r2.1.Ends, Own.blk b6 (.cells #[.int .i64 2] 3 (0, 0)), Own.blk b5 (.cells #[.int .i64 0, .int .i64 0, .int .i64 4, .int .i64 9, .int .i64 1] 92 (0, 0)), Own.blk b4 (.cells #[.int .i64 r1.2.Code, .int .i64 r1.2.At] 27 (0, 0)), Own.blk b3 (.cells #[(.slice Z1 r1.1.Runs.length cz1), (.slice Z2 r1.1.Ends.length cz2)] 75 (0, 0)), Own.of (.slice Z1 r1.1.Runs.length cz1) 3 r1.1.Runs, Own.of (.slice Z2 r1.1.Ends.length cz2) 3 r1.1.Ends, Own.blk b2 (.cells #[.int .i64 1, .int .i64 3] 3 (0, 0)), Own.blk b1 (.cells #[.int .i64 0, .int .i64 0, .int .i64 4, .int .i64 9, .int .i64 1] 92 (0, 0))] := hS20
  have hS22 := hS21.bring 1 rfl
  refine ge_set (b := b8) (j := 0) (cs := #[.int .i64 0, .int .i64 0]) (t := 27) (vs := [.int .i64 r2.2.Code, .int .i64 r2.2.At]) hS22 (by kernel_rfl) rfl rfl fun w14 hS23 => ?_
  have hS24 : St w0 w14 [Own.blk b8 (.cells #[.int .i64 r2.2.Code, .int .i64 r2.2.At] 27 (0, 0)), Own.blk b7 (.cells #[(.slice Z3 r2.1.Runs.length cz3), (.slice Z4 r2.1.Ends.length cz4)] 75 (0, 0)), Own.of (.slice Z3 r2.1.Runs.length cz3) 3 r2.1.Runs, Own.of (.slice Z4 r2.1.Ends.length cz4) 3 r2.1.Ends, Own.blk b6 (.cells #[.int .i64 2] 3 (0, 0)), Own.blk b5 (.cells #[.int .i64 0, .int .i64 0, .int .i64 4, .int .i64 9, .int .i64 1] 92 (0, 0)), Own.blk b4 (.cells #[.int .i64 r1.2.Code, .int .i64 r1.2.At] 27 (0, 0)), Own.blk b3 (.cells #[(.slice Z1 r1.1.Runs.length cz1), (.slice Z2 r1.1.Ends.length cz2)] 75 (0, 0)), Own.of (.slice Z1 r1.1.Runs.length cz1) 3 r1.1.Runs, Own.of (.slice Z2 r1.1.Ends.length cz2) 3 r1.1.Ends, Own.blk b2 (.cells #[.int .i64 1, .int .i64 3] 3 (0, 0)), Own.blk b1 (.cells #[.int .i64 0, .int .i64 0, .int .i64 4, .int .i64 9, .int .i64 1] 92 (0, 0))] := hS23
  refine ge_nil fun a hF => hK3 _ _ ?_ a hF
  refine we_seq fun K4 hK4 => ?_
  refine we_region [(0, 1), (1, 1), (2, 0), (3, 0), (4, 0), (5, 1), (6, 0), (7, 2)] rfl ?_
  refine ge_call (d := some 22) (f := 79) (args := #[]) (by kernel_rfl) (three_ok _ _ rfl) ?_
  rintro _ w15 ⟨v5, rfl, hS25⟩
  refine ⟨_, rfl, hS25.below, ?_⟩
  have hS26 := hS24.call hS25
  obtain ⟨Z5, cz5, rfl⟩ := hS26.open 0 rfl
  rcases hq4 : redo_Response.f K three.f 1 100 0 with _ | r3
  · rw [hq4] at h; cases h
  rw [hq4] at h
  simp only [] at h
  refine ge_call (d := some 23) (f := 49) (args := #[(.slice Z5 three.f.length cz5), .int .i64 1, .int .i64 100, .int .i64 0]) (by kernel_rfl) (redo_Response_ok K three.f Z5 cz5 1 100 0 _ (hS26.rdAt 0 rfl) (hS26.capAt 0 rfl) _ hq4) ?_
  rintro _ w16 ⟨rfl, hS27⟩
  refine ⟨_, rfl, hS27.below, ?_⟩
  have hS28 := hS26.call hS27
  refine ge_batch [2, 3, 4] (ans := []) (vs := [(25, .agg #[.int .i64 r3.2.Code, .int .i64 r3.2.At]), (24, .int .i64 r3.1), (21, .tuple #[.int .i64 r3.1, .agg #[.int .i64 r3.2.Code, .int .i64 r3.2.At]])]) (l := []) (by kernel_rfl) trivial ?_
  refine ge_new (d := some 6) (o := .cells #[.int .i64 0, .int .i64 0] 27) (v := fun b => .pointer (some ⟨b, 0, none⟩)) hS28 (fun b => by kernel_rfl) fun b9 w17 hx9 hS29 => ?_
  refine ge_batch [6] (ans := []) (vs := [(5, .int .i64 r3.1)]) (l := []) (by kernel_rfl) trivial ?_
  refine ge_set (b := b9) (j := 0) (cs := #[.int .i64 0, .int .i64 0]) (t := 27) (vs := [.int .i64 r3.2.Code, .int .i64 r3.2.At]) hS29 (by kernel_rfl) rfl rfl fun w18 hS30 => ?_
  have hS31 : St w0 w18 [Own.blk b9 (.cells #[.int .i64 r3.2.Code, .int .i64 r3.2.At] 27 (0, 0)), Own.of (.slice Z5 three.f.length cz5) 85 three.f, Own.blk b8 (.cells #[.int .i64 r2.2.Code, .int .i64 r2.2.At] 27 (0, 0)), Own.blk b7 (.cells #[(.slice Z3 r2.1.Runs.length cz3), (.slice Z4 r2.1.Ends.length cz4)] 75 (0, 0)), Own.of (.slice Z3 r2.1.Runs.length cz3) 3 r2.1.Runs, Own.of (.slice Z4 r2.1.Ends.length cz4) 3 r2.1.Ends, Own.blk b6 (.cells #[.int .i64 2] 3 (0, 0)), Own.blk b5 (.cells #[.int .i64 0, .int .i64 0, .int .i64 4, .int .i64 9, .int .i64 1] 92 (0, 0)), Own.blk b4 (.cells #[.int .i64 r1.2.Code, .int .i64 r1.2.At] 27 (0, 0)), Own.blk b3 (.cells #[(.slice Z1 r1.1.Runs.length cz1), (.slice Z2 r1.1.Ends.length cz2)] 75 (0, 0)), Own.of (.slice Z1 r1.1.Runs.length cz1) 3 r1.1.Runs, Own.of (.slice Z2 r1.1.Ends.length cz2) 3 r1.1.Ends, Own.blk b2 (.cells #[.int .i64 1, .int .i64 3] 3 (0, 0)), Own.blk b1 (.cells #[.int .i64 0, .int .i64 0, .int .i64 4, .int .i64 9, .int .i64 1] 92 (0, 0))] := hS30
  refine ge_nil fun a hF => hK4 _ _ ?_ a hF
  refine we_seq fun K5 hK5 => ?_
  refine we_region [(0, 0), (1, 0), (2, 0), (3, 0), (4, 0), (5, 0), (6, 0), (7, 0), (8, 0), (9, 0), (10, 0), (11, 0), (12, 0), (13, 0), (14, 0), (15, 0), (16, 1), (17, 1), (18, 0), (19, 0), (20, 0), (21, 0), (22, 1), (23, 1), (24, 0), (25, 0), (26, 0), (27, 0), (28, 1), (29, 1), (30, 0), (31, 0), (32, 0), (33, 0), (34, 0), (35, 0)] rfl ?_
  refine ge_batch [0, 1, 2, 3] (ans := [.val (.int .i64 r1.2.Code)]) (vs := [(29, .bool (r1.2.Code == 0)), (28, .bool (r1.2.Code == 0)), (27, .int .i64 r1.2.Code), (26, .pointer (some ⟨b4, 0, none⟩))]) (l := [.loaded ⟨b4, 0, none⟩ (.int .i64 r1.2.Code)]) (by kernel_rfl) ⟨hS31.cell 8 rfl rfl, trivial⟩ ?_
  by_cases hc1 : r1.2.Code = 0
  · rw [if_pos hc1] at h
    refine ge_known (t := 29) (b := (r1.2.Code == 0)) (c := true) (by kernel_rfl) (beq_iff_eq.2 hc1) ?_
    refine ge_batch [4, 5, 6, 7, 8] (ans := [.val (.int .i64 r2.2.Code)]) (vs := [(34, .bool (r2.2.Code == 0)), (33, .bool (r2.2.Code == 0)), (32, .bool (r2.2.Code == 0)), (31, .int .i64 r2.2.Code), (30, .pointer (some ⟨b8, 0, none⟩))]) (l := [.loaded ⟨b8, 0, none⟩ (.int .i64 r2.2.Code)]) (by kernel_rfl) ⟨hS31.cell 2 rfl rfl, trivial⟩ ?_
    by_cases hc2 : r2.2.Code = 0
    · rw [if_pos hc2] at h
      refine ge_known (t := 34) (b := (r2.2.Code == 0)) (c := true) (by kernel_rfl) (beq_iff_eq.2 hc2) ?_
      refine ge_batch [9, 10, 11, 12, 13] (ans := [.val (.int .i64 r3.2.Code)]) (vs := [(39, .bool (r3.2.Code == 0)), (38, .bool (r3.2.Code == 0)), (37, .bool (r3.2.Code == 0)), (36, .int .i64 r3.2.Code), (35, .pointer (some ⟨b9, 0, none⟩))]) (l := [.loaded ⟨b9, 0, none⟩ (.int .i64 r3.2.Code)]) (by kernel_rfl) ⟨hS31.cell 0 rfl rfl, trivial⟩ ?_
      by_cases hc3 : r3.2.Code = 0
      · rw [if_pos hc3] at h
        refine ge_known (t := 39) (b := (r3.2.Code == 0)) (c := true) (by kernel_rfl) (beq_iff_eq.2 hc3) ?_
        refine ge_batch [14, 15] (ans := [.val ((.slice Z1 r1.1.Runs.length cz1))]) (vs := [(41, (.slice Z1 r1.1.Runs.length cz1)), (40, .pointer (some ⟨b3, 0, none⟩))]) (l := [.loaded ⟨b3, 0, none⟩ ((.slice Z1 r1.1.Runs.length cz1))]) (by kernel_rfl) ⟨hS31.cell 9 rfl rfl, trivial⟩ ?_
        refine ge_new (d := some 42) (o := .cells #[.int .i64 0, .int .i64 0, .int .i64 0, .int .i64 0, .int .i64 0, .int .i64 0, .int .i64 0, .int .i64 0, .int .i64 (-1)] 3) (v := fun b => .slice (some ⟨b, 0, none⟩) 9 9) hS31 (fun b => by kernel_rfl) fun b10 w19 hx10 hS32 => ?_
        rcases hq5 : punctualsame_Same_int.f K r1.1.Runs ([0, 0, 0, 0, 0, 0, 0, 0, (-1)] : List Int) with _ | r4
        · rw [hq5] at h; cases h
        rw [hq5] at h
        simp only [] at h
        refine ge_call (d := some 43) (f := 13) (args := #[(.slice Z1 r1.1.Runs.length cz1), .slice (some ⟨b10, 0, none⟩) 9 9]) (by kernel_rfl) (punctualsame_Same_int_ok K r1.1.Runs Z1 cz1 ([0, 0, 0, 0, 0, 0, 0, 0, (-1)] : List Int) (some ⟨b10, 0, none⟩) 9 _ (hS32.rdAt 11 rfl) (hS32.capAt 11 rfl) (hS32.rdBlk 0 ([0, 0, 0, 0, 0, 0, 0, 0, (-1)] : List Int) rfl rfl rfl) (Nat.le_refl _) _ hq5) ?_
        rintro _ w20 ⟨rfl, hS33⟩
        refine ⟨_, rfl, hS33.below, ?_⟩
        have hS34 := hS32.call hS33
        refine ge_batch [18, 19] (ans := []) (vs := [(45, .bool r4), (44, .bool r4)]) (l := []) (by kernel_rfl) trivial ?_
        by_cases hc4 : r4 = true
        · rw [if_pos hc4] at h
          refine ge_known (t := 45) (b := r4) (c := true) (by kernel_rfl) hc4 ?_
          refine ge_batch [20, 21] (ans := [.val ((.slice Z2 r1.1.Ends.length cz2))]) (vs := [(47, (.slice Z2 r1.1.Ends.length cz2)), (46, .pointer (some ⟨b3, 1, none⟩))]) (l := [.loaded ⟨b3, 1, none⟩ ((.slice Z2 r1.1.Ends.length cz2))]) (by kernel_rfl) ⟨hS34.cell 10 rfl rfl, trivial⟩ ?_
          refine ge_new (d := some 48) (o := .cells #[.int .i64 8] 3) (v := fun b => .slice (some ⟨b, 0, none⟩) 1 1) hS34 (fun b => by kernel_rfl) fun b11 w21 hx11 hS35 => ?_
          rcases hq6 : punctualsame_Same_int.f K r1.1.Ends ([8] : List Int) with _ | r5
          · rw [hq6] at h; cases h
          rw [hq6] at h
          simp only [] at h
          refine ge_call (d := some 49) (f := 13) (args := #[(.slice Z2 r1.1.Ends.length cz2), .slice (some ⟨b11, 0, none⟩) 1 1]) (by kernel_rfl) (punctualsame_Same_int_ok K r1.1.Ends Z2 cz2 ([8] : List Int) (some ⟨b11, 0, none⟩) 1 _ (hS35.rdAt 13 rfl) (hS35.capAt 13 rfl) (hS35.rdBlk 0 ([8] : List Int) rfl rfl rfl) (Nat.le_refl _) _ hq6) ?_
          rintro _ w22 ⟨rfl, hS36⟩
          refine ⟨_, rfl, hS36.below, ?_⟩
          have hS37 := hS35.call hS36
          refine ge_batch [24, 25] (ans := []) (vs := [(51, .bool r5), (50, .bool r5)]) (l := []) (by kernel_rfl) trivial ?_
          by_cases hc5 : r5 = true
          · rw [if_pos hc5] at h
            refine ge_known (t := 51) (b := r5) (c := true) (by kernel_rfl) hc5 ?_
            refine ge_batch [26, 27] (ans := [.val ((.slice Z4 r2.1.Ends.length cz4))]) (vs := [(53, (.slice Z4 r2.1.Ends.length cz4)), (52, .pointer (some ⟨b7, 1, none⟩))]) (l := [.loaded ⟨b7, 1, none⟩ ((.slice Z4 r2.1.Ends.length cz4))]) (by kernel_rfl) ⟨hS37.cell 5 rfl rfl, trivial⟩ ?_
            refine ge_new (d := some 54) (o := .cells #[.int .i64 7] 3) (v := fun b => .slice (some ⟨b, 0, none⟩) 1 1) hS37 (fun b => by kernel_rfl) fun b12 w23 hx12 hS38 => ?_
            rcases hq7 : punctualsame_Same_int.f K r2.1.Ends ([7] : List Int) with _ | r6
            · rw [hq7] at h; cases h
            rw [hq7] at h
            simp only [] at h
            refine ge_call (d := some 55) (f := 13) (args := #[(.slice Z4 r2.1.Ends.length cz4), .slice (some ⟨b12, 0, none⟩) 1 1]) (by kernel_rfl) (punctualsame_Same_int_ok K r2.1.Ends Z4 cz4 ([7] : List Int) (some ⟨b12, 0, none⟩) 1 _ (hS38.rdAt 8 rfl) (hS38.capAt 8 rfl) (hS38.rdBlk 0 ([7] : List Int) rfl rfl rfl) (Nat.le_refl _) _ hq7) ?_
            rintro _ w24 ⟨rfl, hS39⟩
            refine ⟨_, rfl, hS39.below, ?_⟩
            have hS40 := hS38.call hS39
            refine ge_batch [30, 31] (ans := []) (vs := [(57, .bool r6), (56, .bool r6)]) (l := []) (by kernel_rfl) trivial ?_
            by_cases hc6 : r6 = true
            · rw [if_pos hc6] at h
              refine ge_known (t := 57) (b := r6) (c := true) (by kernel_rfl) hc6 ?_
              refine ge_batch [32, 33, 34, 35] (ans := []) (vs := [(0, .bool (r3.1 == 6)), (60, .bool (r3.1 == 6)), (59, .bool (r3.1 == 6)), (58, .int .i64 r3.1)]) (l := []) (by kernel_rfl) trivial ?_
              refine ge_nil fun a hF => hK5 _ _ ?_ a hF
              have hS41 := hS40.takeN 0
              obtain rfl := Option.some.inj h
              exact we_ret (post_ret (rs := [.tmp 0]) (ans := []) (vs := [.bool (r3.1 == 6)]) (l := []) rfl (by kernel_rfl) trivial ⟨rfl, hS41⟩)
            · rw [if_neg hc6] at h
              refine ge_known (t := 57) (b := r6) (c := false) (by kernel_rfl) (Bool.eq_false_iff.2 hc6) ?_
              refine ge_batch [32, 33, 34, 35] (ans := []) (vs := [(0, .bool false), (60, .bool false), (59, undef), (58, undef)]) (l := []) (by kernel_rfl) trivial ?_
              refine ge_nil fun a hF => hK5 _ _ ?_ a hF
              have hS42 := hS40.takeN 0
              obtain rfl := Option.some.inj h
              exact we_ret (post_ret (rs := [.tmp 0]) (ans := []) (vs := [.bool false]) (l := []) rfl (by kernel_rfl) trivial ⟨rfl, hS42⟩)
          · rw [if_neg hc5] at h
            refine ge_known (t := 51) (b := r5) (c := false) (by kernel_rfl) (Bool.eq_false_iff.2 hc5) ?_
            refine ge_batch [26, 27] (ans := []) (vs := [(53, undef), (52, undef)]) (l := []) (by kernel_rfl) trivial ?_
            refine ge_off rfl rfl rfl (by kernel_rfl) ?_
            refine ge_off rfl rfl rfl (by kernel_rfl) ?_
            refine ge_batch [30, 31, 32, 33, 34, 35] (ans := []) (vs := [(0, .bool false), (60, .bool false), (59, undef), (58, undef), (57, .bool false), (56, .bool false)]) (l := []) (by kernel_rfl) trivial ?_
            refine ge_nil fun a hF => hK5 _ _ ?_ a hF
            have hS43 := hS37.takeN 0
            obtain rfl := Option.some.inj h
            exact we_ret (post_ret (rs := [.tmp 0]) (ans := []) (vs := [.bool false]) (l := []) rfl (by kernel_rfl) trivial ⟨rfl, hS43⟩)
        · rw [if_neg hc4] at h
          refine ge_known (t := 45) (b := r4) (c := false) (by kernel_rfl) (Bool.eq_false_iff.2 hc4) ?_
          refine ge_batch [20, 21] (ans := []) (vs := [(47, undef), (46, undef)]) (l := []) (by kernel_rfl) trivial ?_
          refine ge_off rfl rfl rfl (by kernel_rfl) ?_
          refine ge_off rfl rfl rfl (by kernel_rfl) ?_
          refine ge_batch [24, 25, 26, 27] (ans := []) (vs := [(53, undef), (52, undef), (51, .bool false), (50, .bool false)]) (l := []) (by kernel_rfl) trivial ?_
          refine ge_off rfl rfl rfl (by kernel_rfl) ?_
          refine ge_off rfl rfl rfl (by kernel_rfl) ?_
          refine ge_batch [30, 31, 32, 33, 34, 35] (ans := []) (vs := [(0, .bool false), (60, .bool false), (59, undef), (58, undef), (57, .bool false), (56, .bool false)]) (l := []) (by kernel_rfl) trivial ?_
          refine ge_nil fun a hF => hK5 _ _ ?_ a hF
          have hS44 := hS34.takeN 0
          obtain rfl := Option.some.inj h
          exact we_ret (post_ret (rs := [.tmp 0]) (ans := []) (vs := [.bool false]) (l := []) rfl (by kernel_rfl) trivial ⟨rfl, hS44⟩)
      · rw [if_neg hc3] at h
        refine ge_known (t := 39) (b := (r3.2.Code == 0)) (c := false) (by kernel_rfl) (beq_eq_false_iff_ne.2 hc3) ?_
        refine ge_batch [14, 15] (ans := []) (vs := [(41, undef), (40, undef)]) (l := []) (by kernel_rfl) trivial ?_
        refine ge_off rfl rfl rfl (by kernel_rfl) ?_
        refine ge_off rfl rfl rfl (by kernel_rfl) ?_
        refine ge_batch [18, 19, 20, 21] (ans := []) (vs := [(47, undef), (46, undef), (45, .bool false), (44, .bool false)]) (l := []) (by kernel_rfl) trivial ?_
        refine ge_off rfl rfl rfl (by kernel_rfl) ?_
        refine ge_off rfl rfl rfl (by kernel_rfl) ?_
        refine ge_batch [24, 25, 26, 27] (ans := []) (vs := [(53, undef), (52, undef), (51, .bool false), (50, .bool false)]) (l := []) (by kernel_rfl) trivial ?_
        refine ge_off rfl rfl rfl (by kernel_rfl) ?_
        refine ge_off rfl rfl rfl (by kernel_rfl) ?_
        refine ge_batch [30, 31, 32, 33, 34, 35] (ans := []) (vs := [(0, .bool false), (60, .bool false), (59, undef), (58, undef), (57, .bool false), (56, .bool false)]) (l := []) (by kernel_rfl) trivial ?_
        refine ge_nil fun a hF => hK5 _ _ ?_ a hF
        have hS45 := hS31.takeN 0
        obtain rfl := Option.some.inj h
        exact we_ret (post_ret (rs := [.tmp 0]) (ans := []) (vs := [.bool false]) (l := []) rfl (by kernel_rfl) trivial ⟨rfl, hS45⟩)
    · rw [if_neg hc2] at h
      refine ge_known (t := 34) (b := (r2.2.Code == 0)) (c := false) (by kernel_rfl) (beq_eq_false_iff_ne.2 hc2) ?_
      refine ge_batch [9, 10, 11, 12, 13, 14, 15] (ans := []) (vs := [(41, undef), (40, undef), (39, .bool false), (38, .bool false), (37, undef), (36, undef), (35, undef)]) (l := []) (by kernel_rfl) trivial ?_
      refine ge_off rfl rfl rfl (by kernel_rfl) ?_
      refine ge_off rfl rfl rfl (by kernel_rfl) ?_
      refine ge_batch [18, 19, 20, 21] (ans := []) (vs := [(47, undef), (46, undef), (45, .bool false), (44, .bool false)]) (l := []) (by kernel_rfl) trivial ?_
      refine ge_off rfl rfl rfl (by kernel_rfl) ?_
      refine ge_off rfl rfl rfl (by kernel_rfl) ?_
      refine ge_batch [24, 25, 26, 27] (ans := []) (vs := [(53, undef), (52, undef), (51, .bool false), (50, .bool false)]) (l := []) (by kernel_rfl) trivial ?_
      refine ge_off rfl rfl rfl (by kernel_rfl) ?_
      refine ge_off rfl rfl rfl (by kernel_rfl) ?_
      refine ge_batch [30, 31, 32, 33, 34, 35] (ans := []) (vs := [(0, .bool false), (60, .bool false), (59, undef), (58, undef), (57, .bool false), (56, .bool false)]) (l := []) (by kernel_rfl) trivial ?_
      refine ge_nil fun a hF => hK5 _ _ ?_ a hF
      have hS46 := hS31.takeN 0
      obtain rfl := Option.some.inj h
      exact we_ret (post_ret (rs := [.tmp 0]) (ans := []) (vs := [.bool false]) (l := []) rfl (by kernel_rfl) trivial ⟨rfl, hS46⟩)
  · rw [if_neg hc1] at h
    refine ge_known (t := 29) (b := (r1.2.Code == 0)) (c := false) (by kernel_rfl) (beq_eq_false_iff_ne.2 hc1) ?_
    refine ge_batch [4, 5, 6, 7, 8, 9, 10, 11, 12, 13, 14, 15] (ans := []) (vs := [(41, undef), (40, undef), (39, .bool false), (38, .bool false), (37, undef), (36, undef), (35, undef), (34, .bool false), (33, .bool false), (32, undef), (31, undef), (30, undef)]) (l := []) (by kernel_rfl) trivial ?_
    refine ge_off rfl rfl rfl (by kernel_rfl) ?_
    refine ge_off rfl rfl rfl (by kernel_rfl) ?_
    refine ge_batch [18, 19, 20, 21] (ans := []) (vs := [(47, undef), (46, undef), (45, .bool false), (44, .bool false)]) (l := []) (by kernel_rfl) trivial ?_
    refine ge_off rfl rfl rfl (by kernel_rfl) ?_
    refine ge_off rfl rfl rfl (by kernel_rfl) ?_
    refine ge_batch [24, 25, 26, 27] (ans := []) (vs := [(53, undef), (52, undef), (51, .bool false), (50, .bool false)]) (l := []) (by kernel_rfl) trivial ?_
    refine ge_off rfl rfl rfl (by kernel_rfl) ?_
    refine ge_off rfl rfl rfl (by kernel_rfl) ?_
    refine ge_batch [30, 31, 32, 33, 34, 35] (ans := []) (vs := [(0, .bool false), (60, .bool false), (59, undef), (58, undef), (57, .bool false), (56, .bool false)]) (l := []) (by kernel_rfl) trivial ?_
    refine ge_nil fun a hF => hK5 _ _ ?_ a hF
    have hS47 := hS31.takeN 0
    obtain rfl := Option.some.inj h
    exact we_ret (post_ret (rs := [.tmp 0]) (ans := []) (vs := [.bool false]) (l := []) rfl (by kernel_rfl) trivial ⟨rfl, hS47⟩)

/-! punctual/punctuallaw.few -/
abbrev few.Post (w0 : World) (r : Bool) (e : Ending) (w : World) : Prop := e = .returned (.bool r) ∧ St w0 w []
def few.f (x0 : Int) : Bool :=
  decide (x0 ≤ 5000)
theorem few_ok (x0 : Int) (w0 : World) (r : Bool) (h : few.f x0 = r) :
    Calls Tryd.prog 14 #[.int .i64 x0] w0 (few.Post w0 r) := by
  have hS := St.start w0
  unfold few.f at h
  refine calls_enter (n := 5) (args := [.int .i64 x0]) (fn := Tryd.f14) rfl rfl rfl rfl ?_
  show WE _ _ _ _ [(0, .int .i64 x0)] _
  refine we_seq fun K1 hK1 => ?_
  refine we_region [(0, 0)] rfl ?_
  refine ge_batch [0] (ans := []) (vs := [(2, .bool false)]) (l := []) (by kernel_rfl) trivial ?_
  refine ge_nil fun a hF => hK1 _ _ ?_ a hF
  refine we_seq fun K2 hK2 => ?_
  refine we_region [(0, 0), (1, 0), (2, 0)] rfl ?_
  refine ge_batch [0, 1, 2] (ans := []) (vs := [(2, .bool (decide (x0 ≤ 5000))), (4, .bool (decide (x0 ≤ 5000))), (3, .int .i64 x0)]) (l := []) (by kernel_rfl) trivial ?_
  refine ge_nil fun a hF => hK2 _ _ ?_ a hF
  subst h
  exact we_ret (post_ret (rs := [.tmp 2]) (ans := []) (vs := [.bool (decide (x0 ≤ 5000))]) (l := []) rfl (by kernel_rfl) trivial ⟨rfl, hS⟩)

/-! punctual/punctualsame.Lend[punctual/api.Task] -/
abbrev punctualsame_Lend_api_Task.Post (w0 : World) (n : Nat) (r : List STask) (e : Ending) (w : World) : Prop := ∃ (A : Option Addr) (c : Nat), e = .returned (.slice A n c) ∧ r.length ≤ c ∧ St w0 w [Own.of (.slice A r.length c) 85 r]
def punctualsame_Lend_api_Task.f (l0 : List STask) (x1 : STask) : Option (List STask) :=
  if 0 ≤ (IntKind.i64.wrap ((l0.length : Int) + 3)) then
    if ((IntKind.i64.wrap ((l0.length : Int) + 3)).toNat) ≤ 2199023255552 then
      if (List.replicate 0 (⟨⟨#[]⟩, 0, 0, 0, 0, 0, 0⟩ : STask)).length + l0.length ≤ 2199023255552 then
        if ((List.replicate 0 (⟨⟨#[]⟩, 0, 0, 0, 0, 0, 0⟩ : STask)) ++ l0).length + 3 ≤ 2199023255552 then
          some (((List.replicate 0 (⟨⟨#[]⟩, 0, 0, 0, 0, 0, 0⟩ : STask)) ++ l0) ++ ([x1, x1, x1] : List STask))
        else
          none
      else
        none
    else
      none
  else
    none
theorem punctualsame_Lend_api_Task_ok (l0 : List STask) (A0 : Option Addr) (c0 : Nat) (x1 : STask) (w0 : World) (hR0 : RdL w0 A0 l0) (hL0 : l0.length ≤ c0) (r : List STask) (h : punctualsame_Lend_api_Task.f l0 x1 = some r) :
    Calls Tryd.prog 48 #[.slice A0 l0.length c0, .agg #[.string x1.Name, .int .i64 x1.C, .int .i64 x1.T, .int .i64 x1.D, .int .i64 x1.J, .int .i64 x1.O, .int .i64 x1.P]] w0 (punctualsame_Lend_api_Task.Post w0 l0.length r) := by
  have hS := St.start w0
  unfold punctualsame_Lend_api_Task.f at h
  refine calls_enter (n := 21) (args := [.slice A0 l0.length c0, .agg #[.string x1.Name, .int .i64 x1.C, .int .i64 x1.T, .int .i64 x1.D, .int .i64 x1.J, .int .i64 x1.O, .int .i64 x1.P]]) (fn := Tryd.f48) rfl rfl rfl rfl ?_
  show WE _ _ _ _ [(0, .slice A0 l0.length c0), (1, .agg #[.string x1.Name, .int .i64 x1.C, .int .i64 x1.T, .int .i64 x1.D, .int .i64 x1.J, .int .i64 x1.O, .int .i64 x1.P])] _
  refine we_seq fun K1 hK1 => ?_
  refine we_region [(0, 1), (1, 0)] rfl ?_
  refine ge_new (d := some 3) (o := .cells #[.string x1.Name, .int .i64 x1.C, .int .i64 x1.T, .int .i64 x1.D, .int .i64 x1.J, .int .i64 x1.O, .int .i64 x1.P] 85) (v := fun b => .pointer (some ⟨b, 0, none⟩)) hS (fun b => by kernel_rfl) fun b1 w1 hx1 hS1 => ?_
  refine ge_batch [1] (ans := []) (vs := [(4, .slice none 0 0)]) (l := []) (by kernel_rfl) trivial ?_
  refine ge_nil fun a hF => hK1 _ _ ?_ a hF
  refine we_seq fun K2 hK2 => ?_
  refine we_orders2 (by kernel_rfl) [(6, [⟨b1, 0, none⟩, ⟨b1, 1, none⟩, ⟨b1, 2, none⟩, ⟨b1, 3, none⟩, ⟨b1, 4, none⟩, ⟨b1, 5, none⟩, ⟨b1, 6, none⟩]), (7, [⟨b1, 0, none⟩, ⟨b1, 1, none⟩, ⟨b1, 2, none⟩, ⟨b1, 3, none⟩, ⟨b1, 4, none⟩, ⟨b1, 5, none⟩, ⟨b1, 6, none⟩]), (8, [⟨b1, 0, none⟩, ⟨b1, 1, none⟩, ⟨b1, 2, none⟩, ⟨b1, 3, none⟩, ⟨b1, 4, none⟩, ⟨b1, 5, none⟩, ⟨b1, 6, none⟩])] (.vals [0] (.vals [1] (.vals [2] (.vals [4] (.vals [6] (.vals [7] (.vals [8] (.alt 3 1 (.alt 5 2 (.alt 9 1 (.alt 10 2 (.vals [11] .fin) .nomore) .nomore) (.alt 9 1 (.alt 5 2 (.alt 10 2 (.vals [11] .fin) .nomore) .nomore) .nomore)) (.alt 9 1 (.alt 3 1 (.alt 5 2 (.alt 10 2 (.vals [11] .fin) .nomore) .nomore) .nomore) .nomore))))))))) (by kernel_rfl) ?_
  have hS2 := hS1.drew
  refine go2_batch [0, 1, 2, 4] (ans := []) (vs := [(10, .slice A0 l0.length c0), (8, .int .i64 (IntKind.i64.wrap ((l0.length : Int) + 3))), (7, .int .i64 (l0.length : Int)), (6, .slice A0 l0.length c0)]) (l := []) (by kernel_rfl) trivial mem_nil ?_
  refine go2_batch [6] (ans := [.val (.string x1.Name), .val (.int .i64 x1.C), .val (.int .i64 x1.T), .val (.int .i64 x1.D), .val (.int .i64 x1.J), .val (.int .i64 x1.O), .val (.int .i64 x1.P)]) (vs := [(12, .agg #[.string x1.Name, .int .i64 x1.C, .int .i64 x1.T, .int .i64 x1.D, .int .i64 x1.J, .int .i64 x1.O, .int .i64 x1.P])]) (l := [.loaded ⟨b1, 0, none⟩ (.string x1.Name), .loaded ⟨b1, 1, none⟩ (.int .i64 x1.C), .loaded ⟨b1, 2, none⟩ (.int .i64 x1.T), .loaded ⟨b1, 3, none⟩ (.int .i64 x1.D), .loaded ⟨b1, 4, none⟩ (.int .i64 x1.J), .loaded ⟨b1, 5, none⟩ (.int .i64 x1.O), .loaded ⟨b1, 6, none⟩ (.int .i64 x1.P)]) (by kernel_rfl) ⟨hS2.cell 0 rfl rfl, hS2.cell 0 rfl rfl, hS2.cell 0 rfl rfl, hS2.cell 0 rfl rfl, hS2.cell 0 rfl rfl, hS2.cell 0 rfl rfl, hS2.cell 0 rfl rfl, trivial⟩ (mem_one (by kernel_rfl)) ?_
  refine go2_batch [7] (ans := [.val (.string x1.Name), .val (.int .i64 x1.C), .val (.int .i64 x1.T), .val (.int .i64 x1.D), .val (.int .i64 x1.J), .val (.int .i64 x1.O), .val (.int .i64 x1.P)]) (vs := [(13, .agg #[.string x1.Name, .int .i64 x1.C, .int .i64 x1.T, .int .i64 x1.D, .int .i64 x1.J, .int .i64 x1.O, .int .i64 x1.P])]) (l := [.loaded ⟨b1, 0, none⟩ (.string x1.Name), .loaded ⟨b1, 1, none⟩ (.int .i64 x1.C), .loaded ⟨b1, 2, none⟩ (.int .i64 x1.T), .loaded ⟨b1, 3, none⟩ (.int .i64 x1.D), .loaded ⟨b1, 4, none⟩ (.int .i64 x1.J), .loaded ⟨b1, 5, none⟩ (.int .i64 x1.O), .loaded ⟨b1, 6, none⟩ (.int .i64 x1.P)]) (by kernel_rfl) ⟨hS2.cell 0 rfl rfl, hS2.cell 0 rfl rfl, hS2.cell 0 rfl rfl, hS2.cell 0 rfl rfl, hS2.cell 0 rfl rfl, hS2.cell 0 rfl rfl, hS2.cell 0 rfl rfl, trivial⟩ (mem_one (by kernel_rfl)) ?_
  refine go2_batch [8] (ans := [.val (.string x1.Name), .val (.int .i64 x1.C), .val (.int .i64 x1.T), .val (.int .i64 x1.D), .val (.int .i64 x1.J), .val (.int .i64 x1.O), .val (.int .i64 x1.P)]) (vs := [(14, .agg #[.string x1.Name, .int .i64 x1.C, .int .i64 x1.T, .int .i64 x1.D, .int .i64 x1.J, .int .i64 x1.O, .int .i64 x1.P])]) (l := [.loaded ⟨b1, 0, none⟩ (.string x1.Name), .loaded ⟨b1, 1, none⟩ (.int .i64 x1.C), .loaded ⟨b1, 2, none⟩ (.int .i64 x1.T), .loaded ⟨b1, 3, none⟩ (.int .i64 x1.D), .loaded ⟨b1, 4, none⟩ (.int .i64 x1.J), .loaded ⟨b1, 5, none⟩ (.int .i64 x1.O), .loaded ⟨b1, 6, none⟩ (.int .i64 x1.P)]) (by kernel_rfl) ⟨hS2.cell 0 rfl rfl, hS2.cell 0 rfl rfl, hS2.cell 0 rfl rfl, hS2.cell 0 rfl rfl, hS2.cell 0 rfl rfl, hS2.cell 0 rfl rfl, hS2.cell 0 rfl rfl, trivial⟩ (mem_one (by kernel_rfl)) ?_
  by_cases hc1 : 0 ≤ (IntKind.i64.wrap ((l0.length : Int) + 3))
  · rw [if_pos hc1] at h
    by_cases hc2 : ((IntKind.i64.wrap ((l0.length : Int) + 3)).toNat) ≤ 2199023255552
    · rw [if_pos hc2] at h
      refine go_alt2 (fun KK hKK => ?_) ?_
      · refine ge_one2 ?_
        refine ge_make (α := STask) (d := 9) (t := 82) (el := 85) (bytes := 64) (l := 0) (c := ((IntKind.i64.wrap ((l0.length : Int) + 3)).toNat)) (x := (.const (.int .i64 0))) (y := (.tmp 8)) (ty := 82) (k1 := .i64) (k2 := .i64) (li := 0) (ci := (IntKind.i64.wrap ((l0.length : Int) + 3))) (z := .agg #[.string (⟨#[]⟩), .int .i64 0, .int .i64 0, .int .i64 0, .int .i64 0, .int .i64 0, .int .i64 0]) (z' := (⟨⟨#[]⟩, 0, 0, 0, 0, 0, 0⟩ : STask)) (by kernel_rfl) (by kernel_rfl) (by kernel_rfl) rfl (Int.toNat_of_nonneg hc1).symm (by kernel_rfl) (by kernel_rfl) rfl hS2 (Nat.zero_le _) rfl (by omega) fun v1 w2 _ hS3 => ?_
        refine ge_nil fun a hF => hKK _ _ (RS.of2 (l := [.loaded ⟨b1, 0, none⟩ (.string x1.Name), .loaded ⟨b1, 1, none⟩ (.int .i64 x1.C), .loaded ⟨b1, 2, none⟩ (.int .i64 x1.T), .loaded ⟨b1, 3, none⟩ (.int .i64 x1.D), .loaded ⟨b1, 4, none⟩ (.int .i64 x1.J), .loaded ⟨b1, 5, none⟩ (.int .i64 x1.O), .loaded ⟨b1, 6, none⟩ (.int .i64 x1.P), .loaded ⟨b1, 0, none⟩ (.string x1.Name), .loaded ⟨b1, 1, none⟩ (.int .i64 x1.C), .loaded ⟨b1, 2, none⟩ (.int .i64 x1.T), .loaded ⟨b1, 3, none⟩ (.int .i64 x1.D), .loaded ⟨b1, 4, none⟩ (.int .i64 x1.J), .loaded ⟨b1, 5, none⟩ (.int .i64 x1.O), .loaded ⟨b1, 6, none⟩ (.int .i64 x1.P), .loaded ⟨b1, 0, none⟩ (.string x1.Name), .loaded ⟨b1, 1, none⟩ (.int .i64 x1.C), .loaded ⟨b1, 2, none⟩ (.int .i64 x1.T), .loaded ⟨b1, 3, none⟩ (.int .i64 x1.D), .loaded ⟨b1, 4, none⟩ (.int .i64 x1.J), .loaded ⟨b1, 5, none⟩ (.int .i64 x1.O), .loaded ⟨b1, 6, none⟩ (.int .i64 x1.P)]) (by kernel_rfl) ⟨hS2.cell 0 rfl rfl, hS2.cell 0 rfl rfl, hS2.cell 0 rfl rfl, hS2.cell 0 rfl rfl, hS2.cell 0 rfl rfl, hS2.cell 0 rfl rfl, hS2.cell 0 rfl rfl, hS2.cell 0 rfl rfl, hS2.cell 0 rfl rfl, hS2.cell 0 rfl rfl, hS2.cell 0 rfl rfl, hS2.cell 0 rfl rfl, hS2.cell 0 rfl rfl, hS2.cell 0 rfl rfl, hS2.cell 0 rfl rfl, hS2.cell 0 rfl rfl, hS2.cell 0 rfl rfl, hS2.cell 0 rfl rfl, hS2.cell 0 rfl rfl, hS2.cell 0 rfl rfl, hS2.cell 0 rfl rfl, trivial⟩ ⟨hS3.cell 1 rfl rfl, hS3.cell 1 rfl rfl, hS3.cell 1 rfl rfl, hS3.cell 1 rfl rfl, hS3.cell 1 rfl rfl, hS3.cell 1 rfl rfl, hS3.cell 1 rfl rfl, hS3.cell 1 rfl rfl, hS3.cell 1 rfl rfl, hS3.cell 1 rfl rfl, hS3.cell 1 rfl rfl, hS3.cell 1 rfl rfl, hS3.cell 1 rfl rfl, hS3.cell 1 rfl rfl, hS3.cell 1 rfl rfl, hS3.cell 1 rfl rfl, hS3.cell 1 rfl rfl, hS3.cell 1 rfl rfl, hS3.cell 1 rfl rfl, hS3.cell 1 rfl rfl, hS3.cell 1 rfl rfl, trivial⟩) ?_ a hF
        refine go_alt2 (fun KK hKK => ?_) ?_
        · by_cases hc3 : (List.replicate 0 (⟨⟨#[]⟩, 0, 0, 0, 0, 0, 0⟩ : STask)).length + l0.length ≤ 2199023255552
          · rw [if_pos hc3] at h
            refine ge_appendL (α := STask) (m := 0) (d := 11) (t := 82) (el := 85) (bytes := 64) (c1 := c0) (A1 := A0) (x := (.tmp 9)) (y := (.tmp 10)) (ty := 82) (v := v1) (z := .agg #[.string (⟨#[]⟩), .int .i64 0, .int .i64 0, .int .i64 0, .int .i64 0, .int .i64 0, .int .i64 0]) (l := (List.replicate 0 (⟨⟨#[]⟩, 0, 0, 0, 0, 0, 0⟩ : STask))) (us := l0) (by kernel_rfl) (by kernel_rfl) (by kernel_rfl) (by kernel_rfl) (by kernel_rfl) rfl hS3 (hS3.rd hR0) rfl (Nat.mul_le_of_le_div _ _ _ hc3) fun v2 w3 hS4 => ?_
            have hS5 : St w0 w3 [Own.of v2 85 ((List.replicate 0 (⟨⟨#[]⟩, 0, 0, 0, 0, 0, 0⟩ : STask)) ++ l0), Own.blk b1 (.cells #[.string x1.Name, .int .i64 x1.C, .int .i64 x1.T, .int .i64 x1.D, .int .i64 x1.J, .int .i64 x1.O, .int .i64 x1.P] 85 (0, 0))] := hS4
            refine ge_nil fun a hF => hKK _ _ (RS.of2 (l := [.loaded ⟨b1, 0, none⟩ (.string x1.Name), .loaded ⟨b1, 1, none⟩ (.int .i64 x1.C), .loaded ⟨b1, 2, none⟩ (.int .i64 x1.T), .loaded ⟨b1, 3, none⟩ (.int .i64 x1.D), .loaded ⟨b1, 4, none⟩ (.int .i64 x1.J), .loaded ⟨b1, 5, none⟩ (.int .i64 x1.O), .loaded ⟨b1, 6, none⟩ (.int .i64 x1.P), .loaded ⟨b1, 0, none⟩ (.string x1.Name), .loaded ⟨b1, 1, none⟩ (.int .i64 x1.C), .loaded ⟨b1, 2, none⟩ (.int .i64 x1.T), .loaded ⟨b1, 3, none⟩ (.int .i64 x1.D), .loaded ⟨b1, 4, none⟩ (.int .i64 x1.J), .loaded ⟨b1, 5, none⟩ (.int .i64 x1.O), .loaded ⟨b1, 6, none⟩ (.int .i64 x1.P), .loaded ⟨b1, 0, none⟩ (.string x1.Name), .loaded ⟨b1, 1, none⟩ (.int .i64 x1.C), .loaded ⟨b1, 2, none⟩ (.int .i64 x1.T), .loaded ⟨b1, 3, none⟩ (.int .i64 x1.D), .loaded ⟨b1, 4, none⟩ (.int .i64 x1.J), .loaded ⟨b1, 5, none⟩ (.int .i64 x1.O), .loaded ⟨b1, 6, none⟩ (.int .i64 x1.P)]) (by kernel_rfl) ⟨hS3.cell 1 rfl rfl, hS3.cell 1 rfl rfl, hS3.cell 1 rfl rfl, hS3.cell 1 rfl rfl, hS3.cell 1 rfl rfl, hS3.cell 1 rfl rfl, hS3.cell 1 rfl rfl, hS3.cell 1 rfl rfl, hS3.cell 1 rfl rfl, hS3.cell 1 rfl rfl, hS3.cell 1 rfl rfl, hS3.cell 1 rfl rfl, hS3.cell 1 rfl rfl, hS3.cell 1 rfl rfl, hS3.cell 1 rfl rfl, hS3.cell 1 rfl rfl, hS3.cell 1 rfl rfl, hS3.cell 1 rfl rfl, hS3.cell 1 rfl rfl, hS3.cell 1 rfl rfl, hS3.cell 1 rfl rfl, trivial⟩ ⟨hS5.cell 1 rfl rfl, hS5.cell 1 rfl rfl, hS5.cell 1 rfl rfl, hS5.cell 1 rfl rfl, hS5.cell 1 rfl rfl, hS5.cell 1 rfl rfl, hS5.cell 1 rfl rfl, hS5.cell 1 rfl rfl, hS5.cell 1 rfl rfl, hS5.cell 1 rfl rfl, hS5.cell 1 rfl rfl, hS5.cell 1 rfl rfl, hS5.cell 1 rfl rfl, hS5.cell 1 rfl rfl, hS5.cell 1 rfl rfl, hS5.cell 1 rfl rfl, hS5.cell 1 rfl rfl, hS5.cell 1 rfl rfl, hS5.cell 1 rfl rfl, hS5.cell 1 rfl rfl, hS5.cell 1 rfl rfl, trivial⟩) ?_ a hF
            refine go_alt2 (fun KK hKK => ?_) ?_
            · refine ge_one2 ?_
              refine ge_new (d := some 15) (o := .cells #[.string x1.Name, .int .i64 x1.C, .int .i64 x1.T, .int .i64 x1.D, .int .i64 x1.J, .int .i64 x1.O, .int .i64 x1.P, .string x1.Name, .int .i64 x1.C, .int .i64 x1.T, .int .i64 x1.D, .int .i64 x1.J, .int .i64 x1.O, .int .i64 x1.P, .string x1.Name, .int .i64 x1.C, .int .i64 x1.T, .int .i64 x1.D, .int .i64 x1.J, .int .i64 x1.O, .int .i64 x1.P] 85) (v := fun b => .slice (some ⟨b, 0, none⟩) 3 3) hS5 (fun b => by kernel_rfl) fun b2 w4 hx2 hS6 => ?_
              refine ge_nil fun a hF => hKK _ _ (RS.of2 (l := []) (by kernel_rfl) trivial trivial) ?_ a hF
              refine go_alt2 (fun KK hKK => ?_) ?_
              · have hS7 := hS6.bring 1 rfl
                by_cases hc4 : ((List.replicate 0 (⟨⟨#[]⟩, 0, 0, 0, 0, 0, 0⟩ : STask)) ++ l0).length + 3 ≤ 2199023255552
                · rw [if_pos hc4] at h
                  refine ge_appendL (α := STask) (m := 0) (d := 16) (t := 82) (el := 85) (bytes := 64) (c1 := 3) (A1 := (some ⟨b2, 0, none⟩)) (x := (.tmp 11)) (y := (.tmp 15)) (ty := 82) (v := v2) (z := .agg #[.string (⟨#[]⟩), .int .i64 0, .int .i64 0, .int .i64 0, .int .i64 0, .int .i64 0, .int .i64 0]) (l := ((List.replicate 0 (⟨⟨#[]⟩, 0, 0, 0, 0, 0, 0⟩ : STask)) ++ l0)) (us := ([x1, x1, x1] : List STask)) (by kernel_rfl) (by kernel_rfl) (by kernel_rfl) (by kernel_rfl) (by kernel_rfl) rfl hS7 (hS7.rdBlk 1 ([x1, x1, x1] : List STask) rfl rfl rfl) rfl (Nat.mul_le_of_le_div _ _ _ hc4) fun v3 w5 hS8 => ?_
                  have hS9 : St w0 w5 [Own.of v3 85 (((List.replicate 0 (⟨⟨#[]⟩, 0, 0, 0, 0, 0, 0⟩ : STask)) ++ l0) ++ ([x1, x1, x1] : List STask)), Own.blk b2 (.cells #[.string x1.Name, .int .i64 x1.C, .int .i64 x1.T, .int .i64 x1.D, .int .i64 x1.J, .int .i64 x1.O, .int .i64 x1.P, .string x1.Name, .int .i64 x1.C, .int .i64 x1.T, .int .i64 x1.D, .int .i64 x1.J, .int .i64 x1.O, .int .i64 x1.P, .string x1.Name, .int .i64 x1.C, .int .i64 x1.T, .int .i64 x1.D, .int .i64 x1.J, .int .i64 x1.O, .int .i64 x1.P] 85 (0, 0)), Own.blk b1 (.cells #[.string x1.Name, .int .i64 x1.C, .int .i64 x1.T, .int .i64 x1.D, .int .i64 x1.J, .int .i64 x1.O, .int .i64 x1.P] 85 (0, 0))] := hS8
                  refine ge_nil fun a hF => hKK _ _ (RS.of2 (l := [.loaded ⟨b1, 0, none⟩ (.string x1.Name), .loaded ⟨b1, 1, none⟩ (.int .i64 x1.C), .loaded ⟨b1, 2, none⟩ (.int .i64 x1.T), .loaded ⟨b1, 3, none⟩ (.int .i64 x1.D), .loaded ⟨b1, 4, none⟩ (.int .i64 x1.J), .loaded ⟨b1, 5, none⟩ (.int .i64 x1.O), .loaded ⟨b1, 6, none⟩ (.int .i64 x1.P), .loaded ⟨b1, 0, none⟩ (.string x1.Name), .loaded ⟨b1, 1, none⟩ (.int .i64 x1.C), .loaded ⟨b1, 2, none⟩ (.int .i64 x1.T), .loaded ⟨b1, 3, none⟩ (.int .i64 x1.D), .loaded ⟨b1, 4, none⟩ (.int .i64 x1.J), .loaded ⟨b1, 5, none⟩ (.int .i64 x1.O), .loaded ⟨b1, 6, none⟩ (.int .i64 x1.P), .loaded ⟨b1, 0, none⟩ (.string x1.Name), .loaded ⟨b1, 1, none⟩ (.int .i64 x1.C), .loaded ⟨b1, 2, none⟩ (.int .i64 x1.T), .loaded ⟨b1, 3, none⟩ (.int .i64 x1.D), .loaded ⟨b1, 4, none⟩ (.int .i64 x1.J), .loaded ⟨b1, 5, none⟩ (.int .i64 x1.O), .loaded ⟨b1, 6, none⟩ (.int .i64 x1.P)]) (by kernel_rfl) ⟨hS6.cell 2 rfl rfl, hS6.cell 2 rfl rfl, hS6.cell 2 rfl rfl, hS6.cell 2 rfl rfl, hS6.cell 2 rfl rfl, hS6.cell 2 rfl rfl, hS6.cell 2 rfl rfl, hS6.cell 2 rfl rfl, hS6.cell 2 rfl rfl, hS6.cell 2 rfl rfl, hS6.cell 2 rfl rfl, hS6.cell 2 rfl rfl, hS6.cell 2 rfl rfl, hS6.cell 2 rfl rfl, hS6.cell 2 rfl rfl, hS6.cell 2 rfl rfl, hS6.cell 2 rfl rfl, hS6.cell 2 rfl rfl, hS6.cell 2 rfl rfl, hS6.cell 2 rfl rfl, hS6.cell 2 rfl rfl, trivial⟩ ⟨hS9.cell 2 rfl rfl, hS9.cell 2 rfl rfl, hS9.cell 2 rfl rfl, hS9.cell 2 rfl rfl, hS9.cell 2 rfl rfl, hS9.cell 2 rfl rfl, hS9.cell 2 rfl rfl, hS9.cell 2 rfl rfl, hS9.cell 2 rfl rfl, hS9.cell 2 rfl rfl, hS9.cell 2 rfl rfl, hS9.cell 2 rfl rfl, hS9.cell 2 rfl rfl, hS9.cell 2 rfl rfl, hS9.cell 2 rfl rfl, hS9.cell 2 rfl rfl, hS9.cell 2 rfl rfl, hS9.cell 2 rfl rfl, hS9.cell 2 rfl rfl, hS9.cell 2 rfl rfl, hS9.cell 2 rfl rfl, trivial⟩) ?_ a hF
                  refine go2_batch [11] (ans := []) (vs := [(5, v3)]) (l := []) (by kernel_rfl) trivial mem_nil ?_
                  refine go_fin2 fun a hF => hK2 _ _ ?_ a hF
                  refine we_seq fun K3 hK3 => ?_
                  refine we_region [(0, 0), (1, 0), (2, 0), (3, 0), (4, 0)] rfl ?_
                  refine ge_batch [0, 1, 2] (ans := []) (vs := [(19, .int .i64 (l0.length : Int)), (18, .slice A0 l0.length c0), (17, v3)]) (l := []) (by kernel_rfl) trivial ?_
                  obtain ⟨Z1, cz1, rfl, hcp1⟩ := hS9.open2 0 rfl
                  refine ge_sliceHi (d := 20) (ty := 82) (t := 82) (el := 85) (sz := 7) (m := ((((List.replicate 0 (⟨⟨#[]⟩, 0, 0, 0, 0, 0, 0⟩ : STask)) ++ l0) ++ ([x1, x1, x1] : List STask)).length)) (c := cz1) (hn := l0.length) (x := (.tmp 17)) (y := (.tmp 19)) (A := Z1) (k' := .i64) (hi := (l0.length : Int)) (by kernel_rfl) (by kernel_rfl) (by kernel_rfl) rfl (by kernel_rfl) (by kernel_rfl) (by have h0 := hcp1; simp only [List.length_append, List.length_cons, List.length_nil] at h0; omega) ?_
                  refine ge_batch [4] (ans := []) (vs := [(4, .slice Z1 l0.length cz1)]) (l := []) (by kernel_rfl) trivial ?_
                  refine ge_nil fun a hF => hK3 _ _ ?_ a hF
                  have hS10 := hS9.takeN 1
                  obtain rfl := Option.some.inj h
                  exact we_ret (post_ret (rs := [.tmp 4]) (ans := []) (vs := [.slice Z1 l0.length cz1]) (l := []) rfl (by kernel_rfl) trivial ⟨Z1, cz1, rfl, hcp1, hS10⟩)
                · rw [if_neg hc4] at h
                  cases h
              exact go_nomore2
            exact go_nomore2
          · rw [if_neg hc3] at h
            cases h
        refine go_alt2 (fun KK hKK => ?_) ?_
        · refine ge_one2 ?_
          refine ge_new (d := some 15) (o := .cells #[.string x1.Name, .int .i64 x1.C, .int .i64 x1.T, .int .i64 x1.D, .int .i64 x1.J, .int .i64 x1.O, .int .i64 x1.P, .string x1.Name, .int .i64 x1.C, .int .i64 x1.T, .int .i64 x1.D, .int .i64 x1.J, .int .i64 x1.O, .int .i64 x1.P, .string x1.Name, .int .i64 x1.C, .int .i64 x1.T, .int .i64 x1.D, .int .i64 x1.J, .int .i64 x1.O, .int .i64 x1.P] 85) (v := fun b => .slice (some ⟨b, 0, none⟩) 3 3) hS3 (fun b => by kernel_rfl) fun b2 w3 hx2 hS4 => ?_
          refine ge_nil fun a hF => hKK _ _ (RS.of2 (l := []) (by kernel_rfl) trivial trivial) ?_ a hF
          refine go_alt2 (fun KK hKK => ?_) ?_
          · have hS5 := hS4.bring 1 rfl
            by_cases hc3 : (List.replicate 0 (⟨⟨#[]⟩, 0, 0, 0, 0, 0, 0⟩ : STask)).length + l0.length ≤ 2199023255552
            · rw [if_pos hc3] at h
              refine ge_appendL (α := STask) (m := 0) (d := 11) (t := 82) (el := 85) (bytes := 64) (c1 := c0) (A1 := A0) (x := (.tmp 9)) (y := (.tmp 10)) (ty := 82) (v := v1) (z := .agg #[.string (⟨#[]⟩), .int .i64 0, .int .i64 0, .int .i64 0, .int .i64 0, .int .i64 0, .int .i64 0]) (l := (List.replicate 0 (⟨⟨#[]⟩, 0, 0, 0, 0, 0, 0⟩ : STask))) (us := l0) (by kernel_rfl) (by kernel_rfl) (by kernel_rfl) (by kernel_rfl) (by kernel_rfl) rfl hS5 (hS5.rd hR0) rfl (Nat.mul_le_of_le_div _ _ _ hc3) fun v2 w4 hS6 => ?_
              have hS7 : St w0 w4 [Own.of v2 85 ((List.replicate 0 (⟨⟨#[]⟩, 0, 0, 0, 0, 0, 0⟩ : STask)) ++ l0), Own.blk b2 (.cells #[.string x1.Name, .int .i64 x1.C, .int .i64 x1.T, .int .i64 x1.D, .int .i64 x1.J, .int .i64 x1.O, .int .i64 x1.P, .string x1.Name, .int .i64 x1.C, .int .i64 x1.T, .int .i64 x1.D, .int .i64 x1.J, .int .i64 x1.O, .int .i64 x1.P, .string x1.Name, .int .i64 x1.C, .int .i64 x1.T, .int .i64 x1.D, .int .i64 x1.J, .int .i64 x1.O, .int .i64 x1.P] 85 (0, 0)), Own.blk b1 (.cells #[.string x1.Name, .int .i64 x1.C, .int .i64 x1.T, .int .i64 x1.D, .int .i64 x1.J, .int .i64 x1.O, .int .i64 x1.P] 85 (0, 0))] := hS6
              refine ge_nil fun a hF => hKK _ _ (RS.of2 (l := [.loaded ⟨b1, 0, none⟩ (.string x1.Name), .loaded ⟨b1, 1, none⟩ (.int .i64 x1.C), .loaded ⟨b1, 2, none⟩ (.int .i64 x1.T), .loaded ⟨b1, 3, none⟩ (.int .i64 x1.D), .loaded ⟨b1, 4, none⟩ (.int .i64 x1.J), .loaded ⟨b1, 5, none⟩ (.int .i64 x1.O), .loaded ⟨b1, 6, none⟩ (.int .i64 x1.P), .loaded ⟨b1, 0, none⟩ (.string x1.Name), .loaded ⟨b1, 1, none⟩ (.int .i64 x1.C), .loaded ⟨b1, 2, none⟩ (.int .i64 x1.T), .loaded ⟨b1, 3, none⟩ (.int .i64 x1.D), .loaded ⟨b1, 4, none⟩ (.int .i64 x1.J), .loaded ⟨b1, 5, none⟩ (.int .i64 x1.O), .loaded ⟨b1, 6, none⟩ (.int .i64 x1.P), .loaded ⟨b1, 0, none⟩ (.string x1.Name), .loaded ⟨b1, 1, none⟩ (.int .i64 x1.C), .loaded ⟨b1, 2, none⟩ (.int .i64 x1.T), .loaded ⟨b1, 3, none⟩ (.int .i64 x1.D), .loaded ⟨b1, 4, none⟩ (.int .i64 x1.J), .loaded ⟨b1, 5, none⟩ (.int .i64 x1.O), .loaded ⟨b1, 6, none⟩ (.int .i64 x1.P)]) (by kernel_rfl) ⟨hS4.cell 2 rfl rfl, hS4.cell 2 rfl rfl, hS4.cell 2 rfl rfl, hS4.cell 2 rfl rfl, hS4.cell 2 rfl rfl, hS4.cell 2 rfl rfl, hS4.cell 2 rfl rfl, hS4.cell 2 rfl rfl, hS4.cell 2 rfl rfl, hS4.cell 2 rfl rfl, hS4.cell 2 rfl rfl, hS4.cell 2 rfl rfl, hS4.cell 2 rfl rfl, hS4.cell 2 rfl rfl, hS4.cell 2 rfl rfl, hS4.cell 2 rfl rfl, hS4.cell 2 rfl rfl, hS4.cell 2 rfl rfl, hS4.cell 2 rfl rfl, hS4.cell 2 rfl rfl, hS4.cell 2 rfl rfl, trivial⟩ ⟨hS7.cell 2 rfl rfl, hS7.cell 2 rfl rfl, hS7.cell 2 rfl rfl, hS7.cell 2 rfl rfl, hS7.cell 2 rfl rfl, hS7.cell 2 rfl rfl, hS7.cell 2 rfl rfl, hS7.cell 2 rfl rfl, hS7.cell 2 rfl rfl, hS7.cell 2 rfl rfl, hS7.cell 2 rfl rfl, hS7.cell 2 rfl rfl, hS7.cell 2 rfl rfl, hS7.cell 2 rfl rfl, hS7.cell 2 rfl rfl, hS7.cell 2 rfl rfl, hS7.cell 2 rfl rfl, hS7.cell 2 rfl rfl, hS7.cell 2 rfl rfl, hS7.cell 2 rfl rfl, hS7.cell 2 rfl rfl, trivial⟩) ?_ a hF
              refine go_alt2 (fun KK hKK => ?_) ?_
              · by_cases hc4 : ((List.replicate 0 (⟨⟨#[]⟩, 0, 0, 0, 0, 0, 0⟩ : STask)) ++ l0).length + 3 ≤ 2199023255552
                · rw [if_pos hc4] at h
                  refine ge_appendL (α := STask) (m := 0) (d := 16) (t := 82) (el := 85) (bytes := 64) (c1 := 3) (A1 := (some ⟨b2, 0, none⟩)) (x := (.tmp 11)) (y := (.tmp 15)) (ty := 82) (v := v2) (z := .agg #[.string (⟨#[]⟩), .int .i64 0, .int .i64 0, .int .i64 0, .int .i64 0, .int .i64 0, .int .i64 0]) (l := ((List.replicate 0 (⟨⟨#[]⟩, 0, 0, 0, 0, 0, 0⟩ : STask)) ++ l0)) (us := ([x1, x1, x1] : List STask)) (by kernel_rfl) (by kernel_rfl) (by kernel_rfl) (by kernel_rfl) (by kernel_rfl) rfl hS7 (hS7.rdBlk 1 ([x1, x1, x1] : List STask) rfl rfl rfl) rfl (Nat.mul_le_of_le_div _ _ _ hc4) fun v3 w5 hS8 => ?_
                  have hS9 : St w0 w5 [Own.of v3 85 (((List.replicate 0 (⟨⟨#[]⟩, 0, 0, 0, 0, 0, 0⟩ : STask)) ++ l0) ++ ([x1, x1, x1] : List STask)), Own.blk b2 (.cells #[.string x1.Name, .int .i64 x1.C, .int .i64 x1.T, .int .i64 x1.D, .int .i64 x1.J, .int .i64 x1.O, .int .i64 x1.P, .string x1.Name, .int .i64 x1.C, .int .i64 x1.T, .int .i64 x1.D, .int .i64 x1.J, .int .i64 x1.O, .int .i64 x1.P, .string x1.Name, .int .i64 x1.C, .int .i64 x1.T, .int .i64 x1.D, .int .i64 x1.J, .int .i64 x1.O, .int .i64 x1.P] 85 (0, 0)), Own.blk b1 (.cells #[.string x1.Name, .int .i64 x1.C, .int .i64 x1.T, .int .i64 x1.D, .int .i64 x1.J, .int .i64 x1.O, .int .i64 x1.P] 85 (0, 0))] := hS8
                  refine ge_nil fun a hF => hKK _ _ (RS.of2 (l := [.loaded ⟨b1, 0, none⟩ (.string x1.Name), .loaded ⟨b1, 1, none⟩ (.int .i64 x1.C), .loaded ⟨b1, 2, none⟩ (.int .i64 x1.T), .loaded ⟨b1, 3, none⟩ (.int .i64 x1.D), .loaded ⟨b1, 4, none⟩ (.int .i64 x1.J), .loaded ⟨b1, 5, none⟩ (.int .i64 x1.O), .loaded ⟨b1, 6, none⟩ (.int .i64 x1.P), .loaded ⟨b1, 0, none⟩ (.string x1.Name), .loaded ⟨b1, 1, none⟩ (.int .i64 x1.C), .loaded ⟨b1, 2, none⟩ (.int .i64 x1.T), .loaded ⟨b1, 3, none⟩ (.int .i64 x1.D), .loaded ⟨b1, 4, none⟩ (.int .i64 x1.J), .loaded ⟨b1, 5, none⟩ (.int .i64 x1.O), .loaded ⟨b1, 6, none⟩ (.int .i64 x1.P), .loaded ⟨b1, 0, none⟩ (.string x1.Name), .loaded ⟨b1, 1, none⟩ (.int .i64 x1.C), .loaded ⟨b1, 2, none⟩ (.int .i64 x1.T), .loaded ⟨b1, 3, none⟩ (.int .i64 x1.D), .loaded ⟨b1, 4, none⟩ (.int .i64 x1.J), .loaded ⟨b1, 5, none⟩ (.int .i64 x1.O), .loaded ⟨b1, 6, none⟩ (.int .i64 x1.P)]) (by kernel_rfl) ⟨hS7.cell 2 rfl rfl, hS7.cell 2 rfl rfl, hS7.cell 2 rfl rfl, hS7.cell 2 rfl rfl, hS7.cell 2 rfl rfl, hS7.cell 2 rfl rfl, hS7.cell 2 rfl rfl, hS7.cell 2 rfl rfl, hS7.cell 2 rfl rfl, hS7.cell 2 rfl rfl, hS7.cell 2 rfl rfl, hS7.cell 2 rfl rfl, hS7.cell 2 rfl rfl, hS7.cell 2 rfl rfl, hS7.cell 2 rfl rfl, hS7.cell 2 rfl rfl, hS7.cell 2 rfl rfl, hS7.cell 2 rfl rfl, hS7.cell 2 rfl rfl, hS7.cell 2 rfl rfl, hS7.cell 2 rfl rfl, trivial⟩ ⟨hS9.cell 2 rfl rfl, hS9.cell 2 rfl rfl, hS9.cell 2 rfl rfl, hS9.cell 2 rfl rfl, hS9.cell 2 rfl rfl, hS9.cell 2 rfl rfl, hS9.cell 2 rfl rfl, hS9.cell 2 rfl rfl, hS9.cell 2 rfl rfl, hS9.cell 2 rfl rfl, hS9.cell 2 rfl rfl, hS9.cell 2 rfl rfl, hS9.cell 2 rfl rfl, hS9.cell 2 rfl rfl, hS9.cell 2 rfl rfl, hS9.cell 2 rfl rfl, hS9.cell 2 rfl rfl, hS9.cell 2 rfl rfl, hS9.cell 2 rfl rfl, hS9.cell 2 rfl rfl, hS9.cell 2 rfl rfl, trivial⟩) ?_ a hF
                  refine go2_batch [11] (ans := []) (vs := [(5, v3)]) (l := []) (by kernel_rfl) trivial mem_nil ?_
                  refine go_fin2 fun a hF => hK2 _ _ ?_ a hF
                  refine we_seq fun K3 hK3 => ?_
                  refine we_region [(0, 0), (1, 0), (2, 0), (3, 0), (4, 0)] rfl ?_
                  refine ge_batch [0, 1, 2] (ans := []) (vs := [(19, .int .i64 (l0.length : Int)), (18, .slice A0 l0.length c0), (17, v3)]) (l := []) (by kernel_rfl) trivial ?_
                  obtain ⟨Z1, cz1, rfl, hcp1⟩ := hS9.open2 0 rfl
                  refine ge_sliceHi (d := 20) (ty := 82) (t := 82) (el := 85) (sz := 7) (m := ((((List.replicate 0 (⟨⟨#[]⟩, 0, 0, 0, 0, 0, 0⟩ : STask)) ++ l0) ++ ([x1, x1, x1] : List STask)).length)) (c := cz1) (hn := l0.length) (x := (.tmp 17)) (y := (.tmp 19)) (A := Z1) (k' := .i64) (hi := (l0.length : Int)) (by kernel_rfl) (by kernel_rfl) (by kernel_rfl) rfl (by kernel_rfl) (by kernel_rfl) (by have h0 := hcp1; simp only [List.length_append, List.length_cons, List.length_nil] at h0; omega) ?_
                  refine ge_batch [4] (ans := []) (vs := [(4, .slice Z1 l0.length cz1)]) (l := []) (by kernel_rfl) trivial ?_
                  refine ge_nil fun a hF => hK3 _ _ ?_ a hF
                  have hS10 := hS9.takeN 1
                  obtain rfl := Option.some.inj h
                  exact we_ret (post_ret (rs := [.tmp 4]) (ans := []) (vs := [.slice Z1 l0.length cz1]) (l := []) rfl (by kernel_rfl) trivial ⟨Z1, cz1, rfl, hcp1, hS10⟩)
                · rw [if_neg hc4] at h
                  cases h
              exact go_nomore2
            · rw [if_neg hc3] at h
              cases h
          exact go_nomore2
        exact go_nomore2
      refine go_alt2 (fun KK hKK => ?_) ?_
      · refine ge_one2 ?_
        refine ge_new (d := some 15) (o := .cells #[.string x1.Name, .int .i64 x1.C, .int .i64 x1.T, .int .i64 x1.D, .int .i64 x1.J, .int .i64 x1.O, .int .i64 x1.P, .string x1.Name, .int .i64 x1.C, .int .i64 x1.T, .int .i64 x1.D, .int .i64 x1.J, .int .i64 x1.O, .int .i64 x1.P, .string x1.Name, .int .i64 x1.C, .int .i64 x1.T, .int .i64 x1.D, .int .i64 x1.J, .int .i64 x1.O, .int .i64 x1.P] 85) (v := fun b => .slice (some ⟨b, 0, none⟩) 3 3) hS2 (fun b => by kernel_rfl) fun b2 w2 hx2 hS3 => ?_
        refine ge_nil fun a hF => hKK _ _ (RS.of2 (l := []) (by kernel_rfl) trivial trivial) ?_ a hF
        refine go_alt2 (fun KK hKK => ?_) ?_
        · refine ge_one2 ?_
          refine ge_make (α := STask) (d := 9) (t := 82) (el := 85) (bytes := 64) (l := 0) (c := ((IntKind.i64.wrap ((l0.length : Int) + 3)).toNat)) (x := (.const (.int .i64 0))) (y := (.tmp 8)) (ty := 82) (k1 := .i64) (k2 := .i64) (li := 0) (ci := (IntKind.i64.wrap ((l0.length : Int) + 3))) (z := .agg #[.string (⟨#[]⟩), .int .i64 0, .int .i64 0, .int .i64 0, .int .i64 0, .int .i64 0, .int .i64 0]) (z' := (⟨⟨#[]⟩, 0, 0, 0, 0, 0, 0⟩ : STask)) (by kernel_rfl) (by kernel_rfl) (by kernel_rfl) rfl (Int.toNat_of_nonneg hc1).symm (by kernel_rfl) (by kernel_rfl) rfl hS3 (Nat.zero_le _) rfl (by omega) fun v1 w3 _ hS4 => ?_
          refine ge_nil fun a hF => hKK _ _ (RS.of2 (l := [.loaded ⟨b1, 0, none⟩ (.string x1.Name), .loaded ⟨b1, 1, none⟩ (.int .i64 x1.C), .loaded ⟨b1, 2, none⟩ (.int .i64 x1.T), .loaded ⟨b1, 3, none⟩ (.int .i64 x1.D), .loaded ⟨b1, 4, none⟩ (.int .i64 x1.J), .loaded ⟨b1, 5, none⟩ (.int .i64 x1.O), .loaded ⟨b1, 6, none⟩ (.int .i64 x1.P), .loaded ⟨b1, 0, none⟩ (.string x1.Name), .loaded ⟨b1, 1, none⟩ (.int .i64 x1.C), .loaded ⟨b1, 2, none⟩ (.int .i64 x1.T), .loaded ⟨b1, 3, none⟩ (.int .i64 x1.D), .loaded ⟨b1, 4, none⟩ (.int .i64 x1.J), .loaded ⟨b1, 5, none⟩ (.int .i64 x1.O), .loaded ⟨b1, 6, none⟩ (.int .i64 x1.P), .loaded ⟨b1, 0, none⟩ (.string x1.Name), .loaded ⟨b1, 1, none⟩ (.int .i64 x1.C), .loaded ⟨b1, 2, none⟩ (.int .i64 x1.T), .loaded ⟨b1, 3, none⟩ (.int .i64 x1.D), .loaded ⟨b1, 4, none⟩ (.int .i64 x1.J), .loaded ⟨b1, 5, none⟩ (.int .i64 x1.O), .loaded ⟨b1, 6, none⟩ (.int .i64 x1.P)]) (by kernel_rfl) ⟨hS3.cell 1 rfl rfl, hS3.cell 1 rfl rfl, hS3.cell 1 rfl rfl, hS3.cell 1 rfl rfl, hS3.cell 1 rfl rfl, hS3.cell 1 rfl rfl, hS3.cell 1 rfl rfl, hS3.cell 1 rfl rfl, hS3.cell 1 rfl rfl, hS3.cell 1 rfl rfl, hS3.cell 1 rfl rfl, hS3.cell 1 rfl rfl, hS3.cell 1 rfl rfl, hS3.cell 1 rfl rfl, hS3.cell 1 rfl rfl, hS3.cell 1 rfl rfl, hS3.cell 1 rfl rfl, hS3.cell 1 rfl rfl, hS3.cell 1 rfl rfl, hS3.cell 1 rfl rfl, hS3.cell 1 rfl rfl, trivial⟩ ⟨hS4.cell 2 rfl rfl, hS4.cell 2 rfl rfl, hS4.cell 2 rfl rfl, hS4.cell 2 rfl rfl, hS4.cell 2 rfl rfl, hS4.cell 2 rfl rfl, hS4.cell 2 rfl rfl, hS4.cell 2 rfl rfl, hS4.cell 2 rfl rfl, hS4.cell 2 rfl rfl, hS4.cell 2 rfl rfl, hS4.cell 2 rfl rfl, hS4.cell 2 rfl rfl, hS4.cell 2 rfl rfl, hS4.cell 2 rfl rfl, hS4.cell 2 rfl rfl, hS4.cell 2 rfl rfl, hS4.cell 2 rfl rfl, hS4.cell 2 rfl rfl, hS4.cell 2 rfl rfl, hS4.cell 2 rfl rfl, trivial⟩) ?_ a hF
          refine go_alt2 (fun KK hKK => ?_) ?_
          · by_cases hc3 : (List.replicate 0 (⟨⟨#[]⟩, 0, 0, 0, 0, 0, 0⟩ : STask)).length + l0.length ≤ 2199023255552
            · rw [if_pos hc3] at h
              refine ge_appendL (α := STask) (m := 0) (d := 11) (t := 82) (el := 85) (bytes := 64) (c1 := c0) (A1 := A0) (x := (.tmp 9)) (y := (.tmp 10)) (ty := 82) (v := v1) (z := .agg #[.string (⟨#[]⟩), .int .i64 0, .int .i64 0, .int .i64 0, .int .i64 0, .int .i64 0, .int .i64 0]) (l := (List.replicate 0 (⟨⟨#[]⟩, 0, 0, 0, 0, 0, 0⟩ : STask))) (us := l0) (by kernel_rfl) (by kernel_rfl) (by kernel_rfl) (by kernel_rfl) (by kernel_rfl) rfl hS4 (hS4.rd hR0) rfl (Nat.mul_le_of_le_div _ _ _ hc3) fun v2 w4 hS5 => ?_
              have hS6 : St w0 w4 [Own.of v2 85 ((List.replicate 0 (⟨⟨#[]⟩, 0, 0, 0, 0, 0, 0⟩ : STask)) ++ l0), Own.blk b2 (.cells #[.string x1.Name, .int .i64 x1.C, .int .i64 x1.T, .int .i64 x1.D, .int .i64 x1.J, .int .i64 x1.O, .int .i64 x1.P, .string x1.Name, .int .i64 x1.C, .int .i64 x1.T, .int .i64 x1.D, .int .i64 x1.J, .int .i64 x1.O, .int .i64 x1.P, .string x1.Name, .int .i64 x1.C, .int .i64 x1.T, .int .i64 x1.D, .int .i64 x1.J, .int .i64 x1.O, .int .i64 x1.P] 85 (0, 0)), Own.blk b1 (.cells #[.string x1.Name, .int .i64 x1.C, .int .i64 x1.T, .int .i64 x1.D, .int .i64 x1.J, .int .i64 x1.O, .int .i64 x1.P] 85 (0, 0))] := hS5
              refine ge_nil fun a hF => hKK _ _ (RS.of2 (l := [.loaded ⟨b1, 0, none⟩ (.string x1.Name), .loaded ⟨b1, 1, none⟩ (.int .i64 x1.C), .loaded ⟨b1, 2, none⟩ (.int .i64 x1.T), .loaded ⟨b1, 3, none⟩ (.int .i64 x1.D), .loaded ⟨b1, 4, none⟩ (.int .i64 x1.J), .loaded ⟨b1, 5, none⟩ (.int .i64 x1.O), .loaded ⟨b1, 6, none⟩ (.int .i64 x1.P), .loaded ⟨b1, 0, none⟩ (.string x1.Name), .loaded ⟨b1, 1, none⟩ (.int .i64 x1.C), .loaded ⟨b1, 2, none⟩ (.int .i64 x1.T), .loaded ⟨b1, 3, none⟩ (.int .i64 x1.D), .loaded ⟨b1, 4, none⟩ (.int .i64 x1.J), .loaded ⟨b1, 5, none⟩ (.int .i64 x1.O), .loaded ⟨b1, 6, none⟩ (.int .i64 x1.P), .loaded ⟨b1, 0, none⟩ (.string x1.Name), .loaded ⟨b1, 1, none⟩ (.int .i64 x1.C), .loaded ⟨b1, 2, none⟩ (.int .i64 x1.T), .loaded ⟨b1, 3, none⟩ (.int .i64 x1.D), .loaded ⟨b1, 4, none⟩ (.int .i64 x1.J), .loaded ⟨b1, 5, none⟩ (.int .i64 x1.O), .loaded ⟨b1, 6, none⟩ (.int .i64 x1.P)]) (by kernel_rfl) ⟨hS4.cell 2 rfl rfl, hS4.cell 2 rfl rfl, hS4.cell 2 rfl rfl, hS4.cell 2 rfl rfl, hS4.cell 2 rfl rfl, hS4.cell 2 rfl rfl, hS4.cell 2 rfl rfl, hS4.cell 2 rfl rfl, hS4.cell 2 rfl rfl, hS4.cell 2 rfl rfl, hS4.cell 2 rfl rfl, hS4.cell 2 rfl rfl, hS4.cell 2 rfl rfl, hS4.cell 2 rfl rfl, hS4.cell 2 rfl rfl, hS4.cell 2 rfl rfl, hS4.cell 2 rfl rfl, hS4.cell 2 rfl rfl, hS4.cell 2 rfl rfl, hS4.cell 2 rfl rfl, hS4.cell 2 rfl rfl, trivial⟩ ⟨hS6.cell 2 rfl rfl, hS6.cell 2 rfl rfl, hS6.cell 2 rfl rfl, hS6.cell 2 rfl rfl, hS6.cell 2 rfl rfl, hS6.cell 2 rfl rfl, hS6.cell 2 rfl rfl, hS6.cell 2 rfl rfl, hS6.cell 2 rfl rfl, hS6.cell 2 rfl rfl, hS6.cell 2 rfl rfl, hS6.cell 2 rfl rfl, hS6.cell 2 rfl rfl, hS6.cell 2 rfl rfl, hS6.cell 2 rfl rfl, hS6.cell 2 rfl rfl, hS6.cell 2 rfl rfl, hS6.cell 2 rfl rfl, hS6.cell 2 rfl rfl, hS6.cell 2 rfl rfl, hS6.cell 2 rfl rfl, trivial⟩) ?_ a hF
              refine go_alt2 (fun KK hKK => ?_) ?_
              · by_cases hc4 : ((List.replicate 0 (⟨⟨#[]⟩, 0, 0, 0, 0, 0, 0⟩ : STask)) ++ l0).length + 3 ≤ 2199023255552
                · rw [if_pos hc4] at h
                  refine ge_appendL (α := STask) (m := 0) (d := 16) (t := 82) (el := 85) (bytes := 64) (c1 := 3) (A1 := (some ⟨b2, 0, none⟩)) (x := (.tmp 11)) (y := (.tmp 15)) (ty := 82) (v := v2) (z := .agg #[.string (⟨#[]⟩), .int .i64 0, .int .i64 0, .int .i64 0, .int .i64 0, .int .i64 0, .int .i64 0]) (l := ((List.replicate 0 (⟨⟨#[]⟩, 0, 0, 0, 0, 0, 0⟩ : STask)) ++ l0)) (us := ([x1, x1, x1] : List STask)) (by kernel_rfl) (by kernel_rfl) (by kernel_rfl) (by kernel_rfl) (by kernel_rfl) rfl hS6 (hS6.rdBlk 1 ([x1, x1, x1] : List STask) rfl rfl rfl) rfl (Nat.mul_le_of_le_div _ _ _ hc4) fun v3 w5 hS7 => ?_
                  have hS8 : St w0 w5 [Own.of v3 85 (((List.replicate 0 (⟨⟨#[]⟩, 0, 0, 0, 0, 0, 0⟩ : STask)) ++ l0) ++ ([x1, x1, x1] : List STask)), Own.blk b2 (.cells #[.string x1.Name, .int .i64 x1.C, .int .i64 x1.T, .int .i64 x1.D, .int .i64 x1.J, .int .i64 x1.O, .int .i64 x1.P, .string x1.Name, .int .i64 x1.C, .int .i64 x1.T, .int .i64 x1.D, .int .i64 x1.J, .int .i64 x1.O, .int .i64 x1.P, .string x1.Name, .int .i64 x1.C, .int .i64 x1.T, .int .i64 x1.D, .int .i64 x1.J, .int .i64 x1.O, .int .i64 x1.P] 85 (0, 0)), Own.blk b1 (.cells #[.string x1.Name, .int .i64 x1.C, .int .i64 x1.T, .int .i64 x1.D, .int .i64 x1.J, .int .i64 x1.O, .int .i64 x1.P] 85 (0, 0))] := hS7
                  refine ge_nil fun a hF => hKK _ _ (RS.of2 (l := [.loaded ⟨b1, 0, none⟩ (.string x1.Name), .loaded ⟨b1, 1, none⟩ (.int .i64 x1.C), .loaded ⟨b1, 2, none⟩ (.int .i64 x1.T), .loaded ⟨b1, 3, none⟩ (.int .i64 x1.D), .loaded ⟨b1, 4, none⟩ (.int .i64 x1.J), .loaded ⟨b1, 5, none⟩ (.int .i64 x1.O), .loaded ⟨b1, 6, none⟩ (.int .i64 x1.P), .loaded ⟨b1, 0, none⟩ (.string x1.Name), .loaded ⟨b1, 1, none⟩ (.int .i64 x1.C), .loaded ⟨b1, 2, none⟩ (.int .i64 x1.T), .loaded ⟨b1, 3, none⟩ (.int .i64 x1.D), .loaded ⟨b1, 4, none⟩ (.int .i64 x1.J), .loaded ⟨b1, 5, none⟩ (.int .i64 x1.O), .loaded ⟨b1, 6, none⟩ (.int .i64 x1.P), .loaded ⟨b1, 0, none⟩ (.string x1.Name), .loaded ⟨b1, 1, none⟩ (.int .i64 x1.C), .loaded ⟨b1, 2, none⟩ (.int .i64 x1.T), .loaded ⟨b1, 3, none⟩ (.int .i64 x1.D), .loaded ⟨b1, 4, none⟩ (.int .i64 x1.J), .loaded ⟨b1, 5, none⟩ (.int .i64 x1.O), .loaded ⟨b1, 6, none⟩ (.int .i64 x1.P)]) (by kernel_rfl) ⟨hS6.cell 2 rfl rfl, hS6.cell 2 rfl rfl, hS6.cell 2 rfl rfl, hS6.cell 2 rfl rfl, hS6.cell 2 rfl rfl, hS6.cell 2 rfl rfl, hS6.cell 2 rfl rfl, hS6.cell 2 rfl rfl, hS6.cell 2 rfl rfl, hS6.cell 2 rfl rfl, hS6.cell 2 rfl rfl, hS6.cell 2 rfl rfl, hS6.cell 2 rfl rfl, hS6.cell 2 rfl rfl, hS6.cell 2 rfl rfl, hS6.cell 2 rfl rfl, hS6.cell 2 rfl rfl, hS6.cell 2 rfl rfl, hS6.cell 2 rfl rfl, hS6.cell 2 rfl rfl, hS6.cell 2 rfl rfl, trivial⟩ ⟨hS8.cell 2 rfl rfl, hS8.cell 2 rfl rfl, hS8.cell 2 rfl rfl, hS8.cell 2 rfl rfl, hS8.cell 2 rfl rfl, hS8.cell 2 rfl rfl, hS8.cell 2 rfl rfl, hS8.cell 2 rfl rfl, hS8.cell 2 rfl rfl, hS8.cell 2 rfl rfl, hS8.cell 2 rfl rfl, hS8.cell 2 rfl rfl, hS8.cell 2 rfl rfl, hS8.cell 2 rfl rfl, hS8.cell 2 rfl rfl, hS8.cell 2 rfl rfl, hS8.cell 2 rfl rfl, hS8.cell 2 rfl rfl, hS8.cell 2 rfl rfl, hS8.cell 2 rfl rfl, hS8.cell 2 rfl rfl, trivial⟩) ?_ a hF
                  refine go2_batch [11] (ans := []) (vs := [(5, v3)]) (l := []) (by kernel_rfl) trivial mem_nil ?_
                  refine go_fin2 fun a hF => hK2 _ _ ?_ a hF
                  refine we_seq fun K3 hK3 => ?_
                  refine we_region [(0, 0), (1, 0), (2, 0), (3, 0), (4, 0)] rfl ?_
                  refine ge_batch [0, 1, 2] (ans := []) (vs := [(19, .int .i64 (l0.length : Int)), (18, .slice A0 l0.length c0), (17, v3)]) (l := []) (by kernel_rfl) trivial ?_
                  obtain ⟨Z1, cz1, rfl, hcp1⟩ := hS8.open2 0 rfl
                  refine ge_sliceHi (d := 20) (ty := 82) (t := 82) (el := 85) (sz := 7) (m := ((((List.replicate 0 (⟨⟨#[]⟩, 0, 0, 0, 0, 0, 0⟩ : STask)) ++ l0) ++ ([x1, x1, x1] : List STask)).length)) (c := cz1) (hn := l0.length) (x := (.tmp 17)) (y := (.tmp 19)) (A := Z1) (k' := .i64) (hi := (l0.length : Int)) (by kernel_rfl) (by kernel_rfl) (by kernel_rfl) rfl (by kernel_rfl) (by kernel_rfl) (by have h0 := hcp1; simp only [List.length_append, List.length_cons, List.length_nil] at h0; omega) ?_
                  refine ge_batch [4] (ans := []) (vs := [(4, .slice Z1 l0.length cz1)]) (l := []) (by kernel_rfl) trivial ?_
                  refine ge_nil fun a hF => hK3 _ _ ?_ a hF
                  have hS9 := hS8.takeN 1
                  obtain rfl := Option.some.inj h
                  exact we_ret (post_ret (rs := [.tmp 4]) (ans := []) (vs := [.slice Z1 l0.length cz1]) (l := []) rfl (by kernel_rfl) trivial ⟨Z1, cz1, rfl, hcp1, hS9⟩)
                · rw [if_neg hc4] at h
                  cases h
              exact go_nomore2
            · rw [if_neg hc3] at h
              cases h
          exact go_nomore2
        exact go_nomore2
      exact go_nomore2
    · rw [if_neg hc2] at h
      cases h
  · rw [if_neg hc1] at h
    cases h
theorem punctualsame_Lend_api_Task_full (l0 : List STask) (x1 : STask) {r : List STask} (h : punctualsame_Lend_api_Task.f l0 x1 = some r) : r = l0 ++ [x1, x1, x1] := by
  unfold punctualsame_Lend_api_Task.f at h
  repeat' split at h
  all_goals first | (exact (Option.some.inj h).symm) | cases h

/-! punctual/punctualref.F -/
abbrev punctualref_F.Post (w0 : World) (r : SFault) (e : Ending) (w : World) : Prop := e = .returned (.agg #[.int .i64 r.Code, .int .i64 r.At]) ∧ St w0 w []
def punctualref_F.f (x0 : Int) (x1 : Int) : SFault :=
  (⟨x0, x1⟩ : SFault)
theorem punctualref_F_ok (x0 : Int) (x1 : Int) (w0 : World) (r : SFault) (h : punctualref_F.f x0 x1 = r) :
    Calls Tryd.prog 61 #[.int .i64 x0, .int .i64 x1] w0 (punctualref_F.Post w0 r) := by
  have hS := St.start w0
  unfold punctualref_F.f at h
  refine calls_enter (n := 8) (args := [.int .i64 x0, .int .i64 x1]) (fn := Tryd.f61) rfl rfl rfl rfl ?_
  show WE _ _ _ _ [(0, .int .i64 x0), (1, .int .i64 x1)] _
  refine we_seq fun K1 hK1 => ?_
  refine we_region [(0, 1)] rfl ?_
  refine ge_new (d := some 4) (o := .cells #[.int .i64 0, .int .i64 0] 27) (v := fun b => .pointer (some ⟨b, 0, none⟩)) hS (fun b => by kernel_rfl) fun b1 w1 hx1 hS1 => ?_
  refine ge_nil fun a hF => hK1 _ _ ?_ a hF
  refine we_seq fun K2 hK2 => ?_
  refine we_region [(0, 0), (1, 0), (2, 0), (3, 2)] rfl ?_
  refine ge_batch [0, 1, 2] (ans := []) (vs := [(7, .agg #[.int .i64 x0, .int .i64 x1]), (6, .int .i64 x1), (5, .int .i64 x0)]) (l := []) (by kernel_rfl) trivial ?_
  refine ge_set (b := b1) (j := 0) (cs := #[.int .i64 0, .int .i64 0]) (t := 27) (vs := [.int .i64 x0, .int .i64 x1]) hS1 (by kernel_rfl) rfl rfl fun w2 hS2 => ?_
  have hS3 : St w0 w2 [Own.blk b1 (.cells #[.int .i64 x0, .int .i64 x1] 27 (0, 0))] := hS2
  refine ge_nil fun a hF => hK2 _ _ ?_ a hF
  have hS4 := hS3.takeN 0
  subst h
  exact we_ret (post_ret (rs := [.cell 4 27]) (ans := [.val (.int .i64 x0), .val (.int .i64 x1)]) (vs := [.agg #[.int .i64 x0, .int .i64 x1]]) (l := [.loaded ⟨b1, 0, none⟩ (.int .i64 x0), .loaded ⟨b1, 1, none⟩ (.int .i64 x1)]) rfl (by kernel_rfl) ⟨hS3.cell 0 rfl rfl, hS3.cell 0 rfl rfl, trivial⟩ ⟨rfl, hS4⟩)

structure A6Int where
  a0 : Int
  a1 : Int
  a2 : Int
  a3 : Int
  a4 : Int
  a5 : Int
def A6Int.eqb (x y : A6Int) : Bool := ((x.a0 == y.a0) && ((x.a1 == y.a1) && ((x.a2 == y.a2) && ((x.a3 == y.a3) && ((x.a4 == y.a4) && ((x.a5 == y.a5) && true))))))
instance : Ok A6Int := ⟨fun x => Ok.ok x.a0 ∧ Ok.ok x.a1 ∧ Ok.ok x.a2 ∧ Ok.ok x.a3 ∧ Ok.ok x.a4 ∧ Ok.ok x.a5 ∧ True⟩
instance : Flat A6Int := ⟨6, fun x => [.int .i64 x.a0, .int .i64 x.a1, .int .i64 x.a2, .int .i64 x.a3, .int .i64 x.a4, .int .i64 x.a5], fun _ => rfl, fun _ => rfl, by decide⟩

/-! punctual/punctualref.sixOf -/
abbrev punctualref_sixOf.Post (w0 : World) (r : A6Int) (e : Ending) (w : World) : Prop := e = .returned (.agg #[.int .i64 r.a0, .int .i64 r.a1, .int .i64 r.a2, .int .i64 r.a3, .int .i64 r.a4, .int .i64 r.a5]) ∧ St w0 w []
def punctualref_sixOf.f (x0 : STask) : A6Int :=
  (⟨x0.C, x0.T, x0.D, x0.J, x0.O, x0.P⟩ : A6Int)
theorem punctualref_sixOf_ok (x0 : STask) (w0 : World) (r : A6Int) (h : punctualref_sixOf.f x0 = r) :
    Calls Tryd.prog 144 #[.agg #[.string x0.Name, .int .i64 x0.C, .int .i64 x0.T, .int .i64 x0.D, .int .i64 x0.J, .int .i64 x0.O, .int .i64 x0.P]] w0 (punctualref_sixOf.Post w0 r) := by
  have hS := St.start w0
  unfold punctualref_sixOf.f at h
  refine calls_enter (n := 16) (args := [.agg #[.string x0.Name, .int .i64 x0.C, .int .i64 x0.T, .int .i64 x0.D, .int .i64 x0.J, .int .i64 x0.O, .int .i64 x0.P]]) (fn := Tryd.f144) rfl rfl rfl rfl ?_
  show WE _ _ _ _ [(0, .agg #[.string x0.Name, .int .i64 x0.C, .int .i64 x0.T, .int .i64 x0.D, .int .i64 x0.J, .int .i64 x0.O, .int .i64 x0.P])] _
  refine we_seq fun K1 hK1 => ?_
  refine we_region [(0, 1), (1, 1)] rfl ?_
  refine ge_new (d := some 1) (o := .cells #[.string x0.Name, .int .i64 x0.C, .int .i64 x0.T, .int .i64 x0.D, .int .i64 x0.J, .int .i64 x0.O, .int .i64 x0.P] 85) (v := fun b => .pointer (some ⟨b, 0, none⟩)) hS (fun b => by kernel_rfl) fun b1 w1 hx1 hS1 => ?_
  refine ge_new (d := some 2) (o := .cells #[.int .i64 0, .int .i64 0, .int .i64 0, .int .i64 0, .int .i64 0, .int .i64 0] 162) (v := fun b => .pointer (some ⟨b, 0, none⟩)) hS1 (fun b => by kernel_rfl) fun b2 w2 hx2 hS2 => ?_
  refine ge_nil fun a hF => hK1 _ _ ?_ a hF
  refine we_seq fun K2 hK2 => ?_
  refine we_region [(0, 0), (1, 0), (2, 0), (3, 0), (4, 0), (5, 0), (6, 0), (7, 0), (8, 0), (9, 0), (10, 0), (11, 0), (12, 0), (13, 2)] rfl ?_
  refine ge_batch [0, 1, 2, 3, 4, 5, 6, 7, 8, 9, 10, 11, 12] (ans := [.val (.int .i64 x0.C), .val (.int .i64 x0.T), .val (.int .i64 x0.D), .val (.int .i64 x0.J), .val (.int .i64 x0.O), .val (.int .i64 x0.P)]) (vs := [(15, .agg #[.int .i64 x0.C, .int .i64 x0.T, .int .i64 x0.D, .int .i64 x0.J, .int .i64 x0.O, .int .i64 x0.P]), (14, .int .i64 x0.P), (13, .pointer (some ⟨b1, 6, none⟩)), (12, .int .i64 x0.O), (11, .pointer (some ⟨b1, 5, none⟩)), (10, .int .i64 x0.J), (9, .pointer (some ⟨b1, 4, none⟩)), (8, .int .i64 x0.D), (7, .pointer (some ⟨b1, 3, none⟩)), (6, .int .i64 x0.T), (5, .pointer (some ⟨b1, 2, none⟩)), (4, .int .i64 x0.C), (3, .pointer (some ⟨b1, 1, none⟩))]) (l := [.loaded ⟨b1, 1, none⟩ (.int .i64 x0.C), .loaded ⟨b1, 2, none⟩ (.int .i64 x0.T), .loaded ⟨b1, 3, none⟩ (.int .i64 x0.D), .loaded ⟨b1, 4, none⟩ (.int .i64 x0.J), .loaded ⟨b1, 5, none⟩ (.int .i64 x0.O), .loaded ⟨b1, 6, none⟩ (.int .i64 x0.P)]) (by kernel_rfl) ⟨hS2.cell 1 rfl rfl, hS2.cell 1 rfl rfl, hS2.cell 1 rfl rfl, hS2.cell 1 rfl rfl, hS2.cell 1 rfl rfl, hS2.cell 1 rfl rfl, trivial⟩ ?_
  refine ge_set (b := b2) (j := 0) (cs := #[.int .i64 0, .int .i64 0, .int .i64 0, .int .i64 0, .int .i64 0, .int .i64 0]) (t := 162) (vs := [.int .i64 x0.C, .int .i64 x0.T, .int .i64 x0.D, .int .i64 x0.J, .int .i64 x0.O, .int .i64 x0.P]) hS2 (by kernel_rfl) rfl rfl fun w3 hS3 => ?_
  have hS4 : St w0 w3 [Own.blk b2 (.cells #[.int .i64 x0.C, .int .i64 x0.T, .int .i64 x0.D, .int .i64 x0.J, .int .i64 x0.O, .int .i64 x0.P] 162 (0, 0)), Own.blk b1 (.cells #[.string x0.Name, .int .i64 x0.C, .int .i64 x0.T, .int .i64 x0.D, .int .i64 x0.J, .int .i64 x0.O, .int .i64 x0.P] 85 (0, 0))] := hS3
  refine ge_nil fun a hF => hK2 _ _ ?_ a hF
  have hS5 := hS4.takeN 0
  subst h
  exact we_ret (post_ret (rs := [.cell 2 162]) (ans := [.val (.int .i64 x0.C), .val (.int .i64 x0.T), .val (.int .i64 x0.D), .val (.int .i64 x0.J), .val (.int .i64 x0.O), .val (.int .i64 x0.P)]) (vs := [.agg #[.int .i64 x0.C, .int .i64 x0.T, .int .i64 x0.D, .int .i64 x0.J, .int .i64 x0.O, .int .i64 x0.P]]) (l := [.loaded ⟨b2, 0, none⟩ (.int .i64 x0.C), .loaded ⟨b2, 1, none⟩ (.int .i64 x0.T), .loaded ⟨b2, 2, none⟩ (.int .i64 x0.D), .loaded ⟨b2, 3, none⟩ (.int .i64 x0.J), .loaded ⟨b2, 4, none⟩ (.int .i64 x0.O), .loaded ⟨b2, 5, none⟩ (.int .i64 x0.P)]) rfl (by kernel_rfl) ⟨hS4.cell 0 rfl rfl, hS4.cell 0 rfl rfl, hS4.cell 0 rfl rfl, hS4.cell 0 rfl rfl, hS4.cell 0 rfl rfl, hS4.cell 0 rfl rfl, trivial⟩ ⟨rfl, hS5⟩)

/-! punctual/punctualref.CheckSet -/
abbrev punctualref_CheckSet.Post (w0 : World) (r : SFault) (e : Ending) (w : World) : Prop := e = .returned (.agg #[.int .i64 r.Code, .int .i64 r.At]) ∧ St w0 w []
def punctualref_CheckSet.p0 (l0 : List STask) : Option (Unit ⊕ SFault) :=
    if (l0.length : Int) = 0 then
      some (.inr (punctualref_F.f 2 0))
    else
      if (l0.length : Int) > 8 then
        some (.inr (punctualref_F.f 2 0))
      else
        some (.inl ())
def punctualref_CheckSet.p2 (e1 : STask) : Option (Bool ⊕ SFault) :=
    if (e1.Name.size : Int) ≥ 1 then
      some (.inl (decide ((e1.Name.size : Int) ≤ 10)))
    else
      some (.inl false)
def punctualref_CheckSet.r3 (e1 : STask) : Bool × Int → Option ((Bool × Int) ⊕ (Bool ⊕ SFault))
  | (q3, z1) =>
    if z1 < (e1.Name.size : Int) then
      if q3 = true then
        if 0 ≤ z1 then
          match e1.Name[(z1).toNat]? with
          | none => none
          | some b3 =>
            if (b3.toNat : Int) ≥ 97 then
              some (.inl (decide ((b3.toNat : Int) ≤ 122), IntKind.i64.wrap (z1 + 1)))
            else
              some (.inl (false, IntKind.i64.wrap (z1 + 1)))
        else
          none
      else
        some (.inl (false, IntKind.i64.wrap (z1 + 1)))
    else
      some (.inr (.inl q3))
def punctualref_CheckSet.r4 (l0 : List STask) (i1 : Nat) (e1 : STask) : Nat → Option (Nat ⊕ (Unit ⊕ SFault))
  | i2 =>
    if (i2 : Int) < (((l0.take i1).drop 0).length : Int) then
      match ((l0.take i1).drop 0)[i2]? with
      | none => none
      | some e2 =>
        if e2.Name.toList = e1.Name.toList then
          some (.inr (.inr (punctualref_F.f 5 (i1 : Int))))
        else
          some (.inl (i2 + 1))
    else
      some (.inr (.inl ()))
def punctualref_CheckSet.r5 (i1 : Nat) (e1 : STask) : Nat → Option (Nat ⊕ (Unit ⊕ SFault))
  | i3 =>
    if (i3 : Int) < 6 then
      match ([(punctualref_sixOf.f e1).a0, (punctualref_sixOf.f e1).a1, (punctualref_sixOf.f e1).a2, (punctualref_sixOf.f e1).a3, (punctualref_sixOf.f e1).a4, (punctualref_sixOf.f e1).a5] : List Int)[i3]? with
      | none => none
      | some e3 =>
        match ([1, 1, 1, 0, 0, 0] : List Int)[i3]? with
        | none => none
        | some e4 =>
          if e3 < e4 then
            some (.inr (.inr (punctualref_F.f 3 (i1 : Int))))
          else
            match ([10000, 10000, 10000, 10000, 10000, 1000] : List Int)[i3]? with
            | none => none
            | some e5 =>
              if e3 > e5 then
                some (.inr (.inr (punctualref_F.f 3 (i1 : Int))))
              else
                some (.inl (i3 + 1))
    else
      some (.inr (.inl ()))
def punctualref_CheckSet.r1 (K : Nat) (l0 : List STask) : Nat → Option (Nat ⊕ (Unit ⊕ SFault))
  | i1 =>
    if (i1 : Int) < (l0.length : Int) then
      match l0[i1]? with
      | none => none
      | some e1 =>
        match punctualref_CheckSet.p2 e1 with
        | none => none
        | some (.inl q2) =>
          match iter (punctualref_CheckSet.r3 e1) K (q2, 0) with
          | none => none
          | some (.inl q5) =>
            if q5 = true then
              if i1 ≤ l0.length then
                match iter (punctualref_CheckSet.r4 l0 i1 e1) K 0 with
                | none => none
                | some (.inl _) =>
                  match iter (punctualref_CheckSet.r5 i1 e1) K 0 with
                  | none => none
                  | some (.inl _) =>
                    if e1.D < e1.C then
                      some (.inr (.inr (punctualref_F.f 12 (i1 : Int))))
                    else
                      some (.inl (i1 + 1))
                  | some (.inr rr1) =>
                    some (.inr (.inr rr1))
                | some (.inr rr2) =>
                  some (.inr (.inr rr2))
              else
                none
            else
              some (.inr (.inr (punctualref_F.f 4 (i1 : Int))))
          | some (.inr rr3) =>
            some (.inr (.inr rr3))
        | some (.inr rr4) =>
          some (.inr (.inr rr4))
    else
      some (.inr (.inl ()))
def punctualref_CheckSet.f (K : Nat) (l0 : List STask) : Option SFault :=
  match punctualref_CheckSet.p0 l0 with
  | none => none
  | some (.inl _) =>
    match iter (punctualref_CheckSet.r1 K l0) K 0 with
    | none => none
    | some (.inl _) =>
      some (⟨0, 0⟩ : SFault)
    | some (.inr rr5) =>
      some rr5
  | some (.inr rr6) =>
    some rr6
abbrev punctualref_CheckSet.A0 (K : Nat) (w0 : World) (l0 : List STask) (A0 : Option Addr) (c0 : Nat) (hR0 : RdL w0 A0 l0) (hL0 : l0.length ≤ c0) (b1 : Nat) : Unit → Act → World → Prop := fun (s : Unit) a w => St w0 w [Own.blk b1 (.cells #[.int .i64 0, .int .i64 0] 27 (0, 0))] ∧ Frm 113 a [(0, .slice A0 l0.length c0), (2, .pointer (some ⟨b1, 0, none⟩))]
abbrev punctualref_CheckSet.B0 (K : Nat) (w0 : World) (l0 : List STask) (A0 : Option Addr) (c0 : Nat) (hR0 : RdL w0 A0 l0) (hL0 : l0.length ≤ c0) (b1 : Nat) : SFault → Exit → Act → World → Prop := Rets Tryd.prog Tryd.f126 (punctualref_CheckSet.Post w0)
theorem punctualref_CheckSet_p0 (K : Nat) (w0 : World) (l0 : List STask) (A0 : Option Addr) (c0 : Nat) (hR0 : RdL w0 A0 l0) (hL0 : l0.length ≤ c0) (b1 : Nat) (o : Unit ⊕ SFault) (h : punctualref_CheckSet.p0 l0 = some o) (w : World) (hS : St w0 w [Own.blk b1 (.cells #[.int .i64 0, .int .i64 0] 27 (0, 0))]) (Q : Exit → Act → World → Prop) (hQ : ∀ x a w, Outs (punctualref_CheckSet.A0 K w0 l0 A0 c0 hR0 hL0 b1) (punctualref_CheckSet.B0 K w0 l0 A0 c0 hR0 hL0 b1) o x a w → Q x a w) : WE Tryd.prog 113 (subF Tryd.f126 [1, 0]) Q [(0, .slice A0 l0.length c0), (2, .pointer (some ⟨b1, 0, none⟩))] w := by
  simp only [punctualref_CheckSet.p0] at h
  refine we_seq fun K3 hK3 => ?_
  refine we_region [(0, 0), (1, 0), (2, 0), (3, 0), (4, 0), (5, 0), (6, 0), (7, 0)] rfl ?_
  refine ge_batch [0, 1, 2, 3] (ans := []) (vs := [(16, .bool ((l0.length : Int) == 0)), (15, .bool ((l0.length : Int) == 0)), (14, .int .i64 (l0.length : Int)), (13, .slice A0 l0.length c0)]) (l := []) (by kernel_rfl) trivial ?_
  by_cases hc1 : (l0.length : Int) = 0
  · rw [if_pos hc1] at h
    refine ge_known (t := 16) (b := ((l0.length : Int) == 0)) (c := true) (by kernel_rfl) (beq_iff_eq.2 hc1) ?_
    refine ge_batch [4, 5, 6, 7] (ans := []) (vs := [(20, .bool true), (19, undef), (18, undef), (17, undef)]) (l := []) (by kernel_rfl) trivial ?_
    refine ge_nil fun a hF => hK3 _ _ ?_ a hF
    refine we_true (by kernel_rfl) ?_
    refine we_seq fun K4 hK4 => ?_
    refine we_region [(0, 1), (1, 2)] rfl ?_
    refine ge_call (d := some 21) (f := 61) (args := #[.int .i64 2, .int .i64 0]) (by kernel_rfl) (punctualref_F_ok 2 0 _ _ rfl) ?_
    rintro _ w2 ⟨rfl, hS2⟩
    refine ⟨_, rfl, hS2.below, ?_⟩
    have hS3 := hS.call hS2
    refine ge_set (b := b1) (j := 0) (cs := #[.int .i64 0, .int .i64 0]) (t := 27) (vs := [.int .i64 ((punctualref_F.f 2 0).Code), .int .i64 ((punctualref_F.f 2 0).At)]) hS3 (by kernel_rfl) rfl rfl fun w3 hS4 => ?_
    have hS5 : St w0 w3 [Own.blk b1 (.cells #[.int .i64 ((punctualref_F.f 2 0).Code), .int .i64 ((punctualref_F.f 2 0).At)] 27 (0, 0))] := hS4
    refine ge_nil fun a hF => hK4 _ _ ?_ a hF
    have hS6 := hS5.takeN 0
    obtain rfl := Option.some.inj h
    exact we_ret fun a hF => hQ _ _ _ (Outs.out nofun ⟨rfl, (post_ret (rs := [.cell 2 27]) (ans := [.val (.int .i64 ((punctualref_F.f 2 0).Code)), .val (.int .i64 ((punctualref_F.f 2 0).At))]) (vs := [.agg #[.int .i64 ((punctualref_F.f 2 0).Code), .int .i64 ((punctualref_F.f 2 0).At)]]) (l := [.loaded ⟨b1, 0, none⟩ (.int .i64 ((punctualref_F.f 2 0).Code)), .loaded ⟨b1, 1, none⟩ (.int .i64 ((punctualref_F.f 2 0).At))]) rfl (by kernel_rfl) ⟨hS5.cell 0 rfl rfl, hS5.cell 0 rfl rfl, trivial⟩ ⟨rfl, hS6⟩) a hF⟩)
  · rw [if_neg hc1] at h
    refine ge_known (t := 16) (b := ((l0.length : Int) == 0)) (c := false) (by kernel_rfl) (beq_eq_false_iff_ne.2 hc1) ?_
    refine ge_batch [4, 5, 6, 7] (ans := []) (vs := [(20, .bool (decide ((l0.length : Int) > 8))), (19, .bool (decide ((l0.length : Int) > 8))), (18, .int .i64 (l0.length : Int)), (17, .slice A0 l0.length c0)]) (l := []) (by kernel_rfl) trivial ?_
    refine ge_nil fun a hF => hK3 _ _ ?_ a hF
    by_cases hc2 : (l0.length : Int) > 8
    · rw [if_pos hc2] at h
      refine we_known (t := 20) (b := decide ((l0.length : Int) > 8)) (v := true) (by kernel_rfl) (decide_eq_true hc2) ?_
      refine we_true (by kernel_rfl) ?_
      refine we_seq fun K5 hK5 => ?_
      refine we_region [(0, 1), (1, 2)] rfl ?_
      refine ge_call (d := some 21) (f := 61) (args := #[.int .i64 2, .int .i64 0]) (by kernel_rfl) (punctualref_F_ok 2 0 _ _ rfl) ?_
      rintro _ w4 ⟨rfl, hS7⟩
      refine ⟨_, rfl, hS7.below, ?_⟩
      have hS8 := hS.call hS7
      refine ge_set (b := b1) (j := 0) (cs := #[.int .i64 0, .int .i64 0]) (t := 27) (vs := [.int .i64 ((punctualref_F.f 2 0).Code), .int .i64 ((punctualref_F.f 2 0).At)]) hS8 (by kernel_rfl) rfl rfl fun w5 hS9 => ?_
      have hS10 : St w0 w5 [Own.blk b1 (.cells #[.int .i64 ((punctualref_F.f 2 0).Code), .int .i64 ((punctualref_F.f 2 0).At)] 27 (0, 0))] := hS9
      refine ge_nil fun a hF => hK5 _ _ ?_ a hF
      have hS11 := hS10.takeN 0
      obtain rfl := Option.some.inj h
      exact we_ret fun a hF => hQ _ _ _ (Outs.out nofun ⟨rfl, (post_ret (rs := [.cell 2 27]) (ans := [.val (.int .i64 ((punctualref_F.f 2 0).Code)), .val (.int .i64 ((punctualref_F.f 2 0).At))]) (vs := [.agg #[.int .i64 ((punctualref_F.f 2 0).Code), .int .i64 ((punctualref_F.f 2 0).At)]]) (l := [.loaded ⟨b1, 0, none⟩ (.int .i64 ((punctualref_F.f 2 0).Code)), .loaded ⟨b1, 1, none⟩ (.int .i64 ((punctualref_F.f 2 0).At))]) rfl (by kernel_rfl) ⟨hS10.cell 0 rfl rfl, hS10.cell 0 rfl rfl, trivial⟩ ⟨rfl, hS11⟩) a hF⟩)
    · rw [if_neg hc2] at h
      refine we_known (t := 20) (b := decide ((l0.length : Int) > 8)) (v := false) (by kernel_rfl) (decide_eq_false hc2) ?_
      refine we_false (by kernel_rfl) ?_
      obtain rfl := Option.some.inj h
      exact we_skip fun a hF => hQ _ _ _ (Outs.again ⟨hS, hF.weaken ⟨by kernel_rfl, by kernel_rfl, trivial⟩⟩)
abbrev punctualref_CheckSet.A2 (K : Nat) (w0 : World) (l0 : List STask) (A0 : Option Addr) (c0 : Nat) (hR0 : RdL w0 A0 l0) (hL0 : l0.length ≤ c0) (b1 : Nat) (i1 : Nat) (hc3 : (i1 : Int) < (l0.length : Int)) (e1 : STask) (hx2 : l0[i1]? = some e1) (b2 : Nat) : Bool → Act → World → Prop := fun (s : Bool) a w => St w0 w [Own.blk b2 (.cells #[.string e1.Name, .int .i64 e1.C, .int .i64 e1.T, .int .i64 e1.D, .int .i64 e1.J, .int .i64 e1.O, .int .i64 e1.P] 85 (0, 0)), Own.blk b1 (.cells #[.int .i64 0, .int .i64 0] 27 (0, 0))] ∧ Frm 113 a [(0, .slice A0 l0.length c0), (2, .pointer (some ⟨b1, 0, none⟩)), (3, .int .i64 (i1 : Int)), (4, .pointer (some ⟨b2, 0, none⟩)), (5, .bool s), (22, .slice A0 l0.length c0), (23, .int .i64 (l0.length : Int)), (24, .int .i64 (i1 : Int))]
abbrev punctualref_CheckSet.B2 (K : Nat) (w0 : World) (l0 : List STask) (A0 : Option Addr) (c0 : Nat) (hR0 : RdL w0 A0 l0) (hL0 : l0.length ≤ c0) (b1 : Nat) (i1 : Nat) (hc3 : (i1 : Int) < (l0.length : Int)) (e1 : STask) (hx2 : l0[i1]? = some e1) (b2 : Nat) : SFault → Exit → Act → World → Prop := Rets Tryd.prog Tryd.f126 (punctualref_CheckSet.Post w0)
theorem punctualref_CheckSet_p2 (K : Nat) (w0 : World) (l0 : List STask) (A0 : Option Addr) (c0 : Nat) (hR0 : RdL w0 A0 l0) (hL0 : l0.length ≤ c0) (b1 : Nat) (i1 : Nat) (hc3 : (i1 : Int) < (l0.length : Int)) (e1 : STask) (hx2 : l0[i1]? = some e1) (b2 : Nat) (o : Bool ⊕ SFault) (h : punctualref_CheckSet.p2 e1 = some o) (w : World) (hS : St w0 w [Own.blk b2 (.cells #[.string e1.Name, .int .i64 e1.C, .int .i64 e1.T, .int .i64 e1.D, .int .i64 e1.J, .int .i64 e1.O, .int .i64 e1.P] 85 (0, 0)), Own.blk b1 (.cells #[.int .i64 0, .int .i64 0] 27 (0, 0))]) (Q : Exit → Act → World → Prop) (hQ : ∀ x a w, Outs (punctualref_CheckSet.A2 K w0 l0 A0 c0 hR0 hL0 b1 i1 hc3 e1 hx2 b2) (punctualref_CheckSet.B2 K w0 l0 A0 c0 hR0 hL0 b1 i1 hc3 e1 hx2 b2) o x a w → Q x a w) : WE Tryd.prog 113 (subF Tryd.f126 [1, 1, 0, 1, 0, 0, 1, 1, 0, 0, 1, 0]) Q [(0, .slice A0 l0.length c0), (2, .pointer (some ⟨b1, 0, none⟩)), (3, .int .i64 (i1 : Int)), (4, .pointer (some ⟨b2, 0, none⟩)), (22, .slice A0 l0.length c0), (23, .int .i64 (l0.length : Int)), (24, .int .i64 (i1 : Int)), (25, .bool true), (26, .int .i64 (i1 : Int)), (27, .pointer (some ⟨blkOf A0, offOf A0 + i1 * 7, none⟩)), (28, .agg #[.string e1.Name, .int .i64 e1.C, .int .i64 e1.T, .int .i64 e1.D, .int .i64 e1.J, .int .i64 e1.O, .int .i64 e1.P])] w := by
  simp only [punctualref_CheckSet.p2] at h
  refine we_region [(0, 0), (1, 0), (2, 0), (3, 0), (4, 0), (5, 0), (6, 0), (7, 0), (8, 0), (9, 0), (10, 0)] rfl ?_
  refine ge_batch [0, 1, 2, 3, 4] (ans := [.val (.string e1.Name)]) (vs := [(33, .bool (decide ((e1.Name.size : Int) ≥ 1))), (32, .bool (decide ((e1.Name.size : Int) ≥ 1))), (31, .int .i64 (e1.Name.size : Int)), (30, .string e1.Name), (29, .pointer (some ⟨b2, 0, none⟩))]) (l := [.loaded ⟨b2, 0, none⟩ (.string e1.Name)]) (by kernel_rfl) ⟨hS.cell 0 rfl rfl, trivial⟩ ?_
  by_cases hc4 : (e1.Name.size : Int) ≥ 1
  · rw [if_pos hc4] at h
    refine ge_known (t := 33) (b := decide ((e1.Name.size : Int) ≥ 1)) (c := true) (by kernel_rfl) (decide_eq_true hc4) ?_
    refine ge_batch [5, 6, 7, 8, 9, 10] (ans := [.val (.string e1.Name)]) (vs := [(5, .bool (decide ((e1.Name.size : Int) ≤ 10))), (38, .bool (decide ((e1.Name.size : Int) ≤ 10))), (37, .bool (decide ((e1.Name.size : Int) ≤ 10))), (36, .int .i64 (e1.Name.size : Int)), (35, .string e1.Name), (34, .pointer (some ⟨b2, 0, none⟩))]) (l := [.loaded ⟨b2, 0, none⟩ (.string e1.Name)]) (by kernel_rfl) ⟨hS.cell 0 rfl rfl, trivial⟩ ?_
    have hS16 := hS.bring 1 rfl
    have hS17 := hS16.bring 1 rfl
    obtain rfl := Option.some.inj h
    exact ge_nil fun a hF => hQ _ _ _ (Outs.again ⟨hS17, hF.weaken ⟨by kernel_rfl, by kernel_rfl, by kernel_rfl, by kernel_rfl, by kernel_rfl, by kernel_rfl, by kernel_rfl, by kernel_rfl, trivial⟩⟩)
  · rw [if_neg hc4] at h
    refine ge_known (t := 33) (b := decide ((e1.Name.size : Int) ≥ 1)) (c := false) (by kernel_rfl) (decide_eq_false hc4) ?_
    refine ge_batch [5, 6, 7, 8, 9, 10] (ans := []) (vs := [(5, .bool false), (38, .bool false), (37, undef), (36, undef), (35, undef), (34, undef)]) (l := []) (by kernel_rfl) trivial ?_
    have hS18 := hS.bring 1 rfl
    have hS19 := hS18.bring 1 rfl
    obtain rfl := Option.some.inj h
    exact ge_nil fun a hF => hQ _ _ _ (Outs.again ⟨hS19, hF.weaken ⟨by kernel_rfl, by kernel_rfl, by kernel_rfl, by kernel_rfl, by kernel_rfl, by kernel_rfl, by kernel_rfl, by kernel_rfl, trivial⟩⟩)
abbrev punctualref_CheckSet.A3 (K : Nat) (w0 : World) (l0 : List STask) (A0 : Option Addr) (c0 : Nat) (hR0 : RdL w0 A0 l0) (hL0 : l0.length ≤ c0) (b1 : Nat) (i1 : Nat) (hc3 : (i1 : Int) < (l0.length : Int)) (e1 : STask) (hx2 : l0[i1]? = some e1) (b2 : Nat) (q2 : Bool) : (Bool × Int) → Act → World → Prop := fun (s : Bool × Int) a w => St w0 w [Own.blk b2 (.cells #[.string e1.Name, .int .i64 e1.C, .int .i64 e1.T, .int .i64 e1.D, .int .i64 e1.J, .int .i64 e1.O, .int .i64 e1.P] 85 (0, 0)), Own.blk b1 (.cells #[.int .i64 0, .int .i64 0] 27 (0, 0))] ∧ Frm 113 a [(0, .slice A0 l0.length c0), (2, .pointer (some ⟨b1, 0, none⟩)), (3, .int .i64 (i1 : Int)), (4, .pointer (some ⟨b2, 0, none⟩)), (5, .bool s.1), (6, .int .i64 s.2), (22, .slice A0 l0.length c0), (23, .int .i64 (l0.length : Int)), (24, .int .i64 (i1 : Int))]
abbrev punctualref_CheckSet.B3 (K : Nat) (w0 : World) (l0 : List STask) (A0 : Option Addr) (c0 : Nat) (hR0 : RdL w0 A0 l0) (hL0 : l0.length ≤ c0) (b1 : Nat) (i1 : Nat) (hc3 : (i1 : Int) < (l0.length : Int)) (e1 : STask) (hx2 : l0[i1]? = some e1) (b2 : Nat) (q2 : Bool) : (Bool ⊕ SFault) → Exit → Act → World → Prop := Exits 2 (fun (s : Bool) a w => St w0 w [Own.blk b2 (.cells #[.string e1.Name, .int .i64 e1.C, .int .i64 e1.T, .int .i64 e1.D, .int .i64 e1.J, .int .i64 e1.O, .int .i64 e1.P] 85 (0, 0)), Own.blk b1 (.cells #[.int .i64 0, .int .i64 0] 27 (0, 0))] ∧ Frm 113 a [(0, .slice A0 l0.length c0), (2, .pointer (some ⟨b1, 0, none⟩)), (3, .int .i64 (i1 : Int)), (4, .pointer (some ⟨b2, 0, none⟩)), (5, .bool s), (22, .slice A0 l0.length c0), (23, .int .i64 (l0.length : Int)), (24, .int .i64 (i1 : Int))]) (Rets Tryd.prog Tryd.f126 (punctualref_CheckSet.Post w0))
theorem punctualref_CheckSet_r3 (K : Nat) (w0 : World) (l0 : List STask) (A0 : Option Addr) (c0 : Nat) (hR0 : RdL w0 A0 l0) (hL0 : l0.length ≤ c0) (b1 : Nat) (i1 : Nat) (hc3 : (i1 : Int) < (l0.length : Int)) (e1 : STask) (hx2 : l0[i1]? = some e1) (b2 : Nat) (q2 : Bool) (s : Bool × Int) (o : (Bool × Int) ⊕ (Bool ⊕ SFault)) (h : punctualref_CheckSet.r3 e1 s = some o) (a : Act) (w : World) (hA : punctualref_CheckSet.A3 K w0 l0 A0 c0 hR0 hL0 b1 i1 hc3 e1 hx2 b2 q2 s a w) (Q : Exit → Act → World → Prop) (hQ : ∀ x a w, Outs (punctualref_CheckSet.A3 K w0 l0 A0 c0 hR0 hL0 b1 i1 hc3 e1 hx2 b2 q2) (punctualref_CheckSet.B3 K w0 l0 A0 c0 hR0 hL0 b1 i1 hc3 e1 hx2 b2 q2) o x a w → Q x a w) : (subF Tryd.f126 [1, 1, 0, 1, 0, 0, 1, 1, 0, 0, 1, 1, 0, 1, 0, 0]).wp Tryd.prog Q a w := by
  obtain ⟨q3, z1⟩ := s
  obtain ⟨hS, hF⟩ := hA
  replace hS : St w0 w [Own.blk b2 (.cells #[.string e1.Name, .int .i64 e1.C, .int .i64 e1.T, .int .i64 e1.D, .int .i64 e1.J, .int .i64 e1.O, .int .i64 e1.P] 85 (0, 0)), Own.blk b1 (.cells #[.int .i64 0, .int .i64 0] 27 (0, 0))] := hS
  simp only [punctualref_CheckSet.r3] at h
  refine (?_ : WE Tryd.prog 113 (subF Tryd.f126 [1, 1, 0, 1, 0, 0, 1, 1, 0, 0, 1, 1, 0, 1, 0, 0]) Q [(0, .slice A0 l0.length c0), (2, .pointer (some ⟨b1, 0, none⟩)), (3, .int .i64 (i1 : Int)), (4, .pointer (some ⟨b2, 0, none⟩)), (5, .bool q3), (6, .int .i64 z1), (22, .slice A0 l0.length c0), (23, .int .i64 (l0.length : Int)), (24, .int .i64 (i1 : Int))] w) a hF
  clear hF a
  refine we_seq fun K15 hK15 => ?_
  refine we_seq fun K16 hK16 => ?_
  refine we_region [(0, 0), (1, 0), (2, 0), (3, 0), (4, 0)] rfl ?_
  refine ge_batch [0, 1, 2, 3, 4] (ans := [.val (.string e1.Name)]) (vs := [(43, .bool (decide (z1 < (e1.Name.size : Int)))), (42, .int .i64 (e1.Name.size : Int)), (41, .string e1.Name), (40, .pointer (some ⟨b2, 0, none⟩)), (39, .int .i64 z1)]) (l := [.loaded ⟨b2, 0, none⟩ (.string e1.Name)]) (by kernel_rfl) ⟨hS.cell 0 rfl rfl, trivial⟩ ?_
  refine ge_nil fun a hF => hK16 _ _ ?_ a hF
  by_cases hc5 : z1 < (e1.Name.size : Int)
  · rw [if_pos hc5] at h
    refine we_known (t := 43) (b := decide (z1 < (e1.Name.size : Int))) (v := true) (by kernel_rfl) (decide_eq_true hc5) ?_
    refine we_true (by kernel_rfl) ?_
    refine we_skip fun a hF => hK15 _ _ ?_ a hF
    refine we_seq fun K17 hK17 => ?_
    refine we_block ?_
    refine we_region [(0, 0), (1, 0), (2, 0), (3, 0), (4, 0), (5, 0), (6, 0), (7, 0), (8, 0), (9, 0), (10, 0), (11, 0), (12, 0), (13, 0), (14, 0), (15, 0)] rfl ?_
    refine ge_batch [0, 1] (ans := []) (vs := [(47, .bool q3), (46, .bool q3)]) (l := []) (by kernel_rfl) trivial ?_
    by_cases hc6 : q3 = true
    · rw [if_pos hc6] at h
      refine ge_known (t := 47) (b := q3) (c := true) (by kernel_rfl) hc6 ?_
      refine ge_batch [2, 3, 4] (ans := [.val (.string e1.Name)]) (vs := [(50, .int .i64 z1), (49, .string e1.Name), (48, .pointer (some ⟨b2, 0, none⟩))]) (l := [.loaded ⟨b2, 0, none⟩ (.string e1.Name)]) (by kernel_rfl) ⟨hS.cell 0 rfl rfl, trivial⟩ ?_
      by_cases hc7 : 0 ≤ z1
      · rw [if_pos hc7] at h
        rcases hx4 : e1.Name[(z1).toNat]? with _ | b3
        · rw [hx4] at h; cases h
        rw [hx4] at h
        simp only [] at h
        refine ge_letter (d := 51) (ty := 5) (t := 9) (x := (.tmp 49)) (y := (.tmp 50)) (k' := .i64) (j := z1) (jn := ((z1).toNat)) (s := e1.Name) (b := b3) (by kernel_rfl) (by kernel_rfl) (by kernel_rfl) (by kernel_rfl) (Int.toNat_of_nonneg hc7).symm hx4 ?_
        refine ge_batch [6, 7, 8] (ans := []) (vs := [(54, .bool (decide ((b3.toNat : Int) ≥ 97))), (53, .bool (decide ((b3.toNat : Int) ≥ 97))), (52, .bool (decide ((b3.toNat : Int) ≥ 97)))]) (l := []) (by kernel_rfl) trivial ?_
        by_cases hc8 : (b3.toNat : Int) ≥ 97
        · rw [if_pos hc8] at h
          refine ge_known (t := 54) (b := decide ((b3.toNat : Int) ≥ 97)) (c := true) (by kernel_rfl) (decide_eq_true hc8) ?_
          refine ge_batch [9, 10, 11] (ans := [.val (.string e1.Name)]) (vs := [(57, .int .i64 z1), (56, .string e1.Name), (55, .pointer (some ⟨b2, 0, none⟩))]) (l := [.loaded ⟨b2, 0, none⟩ (.string e1.Name)]) (by kernel_rfl) ⟨hS.cell 0 rfl rfl, trivial⟩ ?_
          refine ge_letter (d := 58) (ty := 5) (t := 9) (x := (.tmp 56)) (y := (.tmp 57)) (k' := .i64) (j := z1) (jn := ((z1).toNat)) (s := e1.Name) (b := b3) (by kernel_rfl) (by kernel_rfl) (by kernel_rfl) (by kernel_rfl) (Int.toNat_of_nonneg hc7).symm hx4 ?_
          refine ge_batch [13, 14, 15] (ans := []) (vs := [(5, .bool (decide ((b3.toNat : Int) ≤ 122))), (60, .bool (decide ((b3.toNat : Int) ≤ 122))), (59, .bool (decide ((b3.toNat : Int) ≤ 122)))]) (l := []) (by kernel_rfl) trivial ?_
          refine ge_nil fun a hF => hK17 _ _ ?_ a hF
          refine we_region [(0, 0), (1, 0), (2, 0)] rfl ?_
          refine ge_batch [0, 1, 2] (ans := []) (vs := [(6, .int .i64 (IntKind.i64.wrap (z1 + 1))), (45, .int .i64 (IntKind.i64.wrap (z1 + 1))), (44, .int .i64 z1)]) (l := []) (by kernel_rfl) trivial ?_
          have hS23 := hS.bring 1 rfl
          have hS24 := hS23.bring 1 rfl
          obtain rfl := Option.some.inj h
          exact ge_nil fun a hF => hQ _ _ _ (Outs.again ⟨hS24, hF.weaken ⟨by kernel_rfl, by kernel_rfl, by kernel_rfl, by kernel_rfl, by kernel_rfl, by kernel_rfl, by kernel_rfl, by kernel_rfl, by kernel_rfl, trivial⟩⟩)
        · rw [if_neg hc8] at h
          refine ge_known (t := 54) (b := decide ((b3.toNat : Int) ≥ 97)) (c := false) (by kernel_rfl) (decide_eq_false hc8) ?_
          refine ge_batch [9, 10, 11, 12, 13, 14, 15] (ans := []) (vs := [(5, .bool false), (60, .bool false), (59, undef), (58, undef), (57, undef), (56, undef), (55, undef)]) (l := []) (by kernel_rfl) trivial ?_
          refine ge_nil fun a hF => hK17 _ _ ?_ a hF
          refine we_region [(0, 0), (1, 0), (2, 0)] rfl ?_
          refine ge_batch [0, 1, 2] (ans := []) (vs := [(6, .int .i64 (IntKind.i64.wrap (z1 + 1))), (45, .int .i64 (IntKind.i64.wrap (z1 + 1))), (44, .int .i64 z1)]) (l := []) (by kernel_rfl) trivial ?_
          have hS25 := hS.bring 1 rfl
          have hS26 := hS25.bring 1 rfl
          obtain rfl := Option.some.inj h
          exact ge_nil fun a hF => hQ _ _ _ (Outs.again ⟨hS26, hF.weaken ⟨by kernel_rfl, by kernel_rfl, by kernel_rfl, by kernel_rfl, by kernel_rfl, by kernel_rfl, by kernel_rfl, by kernel_rfl, by kernel_rfl, trivial⟩⟩)
      · rw [if_neg hc7] at h
        cases h
    · rw [if_neg hc6] at h
      refine ge_known (t := 47) (b := q3) (c := false) (by kernel_rfl) (Bool.eq_false_iff.2 hc6) ?_
      refine ge_batch [2, 3, 4, 5, 6, 7, 8, 9, 10, 11, 12, 13, 14, 15] (ans := []) (vs := [(5, .bool false), (60, .bool false), (59, undef), (58, undef), (57, undef), (56, undef), (55, undef), (54, .bool false), (53, .bool false), (52, undef), (51, undef), (50, undef), (49, undef), (48, undef)]) (l := []) (by kernel_rfl) trivial ?_
      refine ge_nil fun a hF => hK17 _ _ ?_ a hF
      refine we_region [(0, 0), (1, 0), (2, 0)] rfl ?_
      refine ge_batch [0, 1, 2] (ans := []) (vs := [(6, .int .i64 (IntKind.i64.wrap (z1 + 1))), (45, .int .i64 (IntKind.i64.wrap (z1 + 1))), (44, .int .i64 z1)]) (l := []) (by kernel_rfl) trivial ?_
      have hS27 := hS.bring 1 rfl
      have hS28 := hS27.bring 1 rfl
      obtain rfl := Option.some.inj h
      exact ge_nil fun a hF => hQ _ _ _ (Outs.again ⟨hS28, hF.weaken ⟨by kernel_rfl, by kernel_rfl, by kernel_rfl, by kernel_rfl, by kernel_rfl, by kernel_rfl, by kernel_rfl, by kernel_rfl, by kernel_rfl, trivial⟩⟩)
  · rw [if_neg hc5] at h
    refine we_known (t := 43) (b := decide (z1 < (e1.Name.size : Int))) (v := false) (by kernel_rfl) (decide_eq_false hc5) ?_
    refine we_false (by kernel_rfl) ?_
    have hS29 := hS.bring 1 rfl
    have hS30 := hS29.bring 1 rfl
    obtain rfl := Option.some.inj h
    exact we_exit fun a hF => hQ _ _ _ (Outs.out nofun (Exits.here ⟨hS30, hF.weaken ⟨by kernel_rfl, by kernel_rfl, by kernel_rfl, by kernel_rfl, by kernel_rfl, by kernel_rfl, by kernel_rfl, by kernel_rfl, trivial⟩⟩))
abbrev punctualref_CheckSet.A4 (K : Nat) (w0 : World) (l0 : List STask) (A0 : Option Addr) (c0 : Nat) (hR0 : RdL w0 A0 l0) (hL0 : l0.length ≤ c0) (b1 : Nat) (i1 : Nat) (hc3 : (i1 : Int) < (l0.length : Int)) (e1 : STask) (hx2 : l0[i1]? = some e1) (b2 : Nat) (q2 : Bool) (q5 : Bool) (hc9 : q5 = true) (hc10 : i1 ≤ l0.length) : Nat → Act → World → Prop := fun (s : Nat) a w => St w0 w [Own.blk b2 (.cells #[.string e1.Name, .int .i64 e1.C, .int .i64 e1.T, .int .i64 e1.D, .int .i64 e1.J, .int .i64 e1.O, .int .i64 e1.P] 85 (0, 0)), Own.blk b1 (.cells #[.int .i64 0, .int .i64 0] 27 (0, 0))] ∧ Frm 113 a [(0, .slice A0 l0.length c0), (2, .pointer (some ⟨b1, 0, none⟩)), (3, .int .i64 (i1 : Int)), (4, .pointer (some ⟨b2, 0, none⟩)), (22, .slice A0 l0.length c0), (23, .int .i64 (l0.length : Int)), (24, .int .i64 (i1 : Int)), (67, .slice (subA A0 c0 0 7) (((l0.take i1).drop 0).length) (c0 - 0)), (68, .int .i64 (((l0.take i1).drop 0).length : Int)), (69, .int .i64 (s : Int))]
abbrev punctualref_CheckSet.B4 (K : Nat) (w0 : World) (l0 : List STask) (A0 : Option Addr) (c0 : Nat) (hR0 : RdL w0 A0 l0) (hL0 : l0.length ≤ c0) (b1 : Nat) (i1 : Nat) (hc3 : (i1 : Int) < (l0.length : Int)) (e1 : STask) (hx2 : l0[i1]? = some e1) (b2 : Nat) (q2 : Bool) (q5 : Bool) (hc9 : q5 = true) (hc10 : i1 ≤ l0.length) : (Unit ⊕ SFault) → Exit → Act → World → Prop := Exits 4 (fun (s : Unit) a w => St w0 w [Own.blk b2 (.cells #[.string e1.Name, .int .i64 e1.C, .int .i64 e1.T, .int .i64 e1.D, .int .i64 e1.J, .int .i64 e1.O, .int .i64 e1.P] 85 (0, 0)), Own.blk b1 (.cells #[.int .i64 0, .int .i64 0] 27 (0, 0))] ∧ Frm 113 a [(0, .slice A0 l0.length c0), (2, .pointer (some ⟨b1, 0, none⟩)), (3, .int .i64 (i1 : Int)), (4, .pointer (some ⟨b2, 0, none⟩)), (22, .slice A0 l0.length c0), (23, .int .i64 (l0.length : Int)), (24, .int .i64 (i1 : Int))]) (Rets Tryd.prog Tryd.f126 (punctualref_CheckSet.Post w0))
theorem punctualref_CheckSet_r4 (K : Nat) (w0 : World) (l0 : List STask) (A0 : Option Addr) (c0 : Nat) (hR0 : RdL w0 A0 l0) (hL0 : l0.length ≤ c0) (b1 : Nat) (i1 : Nat) (hc3 : (i1 : Int) < (l0.length : Int)) (e1 : STask) (hx2 : l0[i1]? = some e1) (b2 : Nat) (q2 : Bool) (q5 : Bool) (hc9 : q5 = true) (hc10 : i1 ≤ l0.length) (s : Nat) (o : Nat ⊕ (Unit ⊕ SFault)) (h : punctualref_CheckSet.r4 l0 i1 e1 s = some o) (a : Act) (w : World) (hA : punctualref_CheckSet.A4 K w0 l0 A0 c0 hR0 hL0 b1 i1 hc3 e1 hx2 b2 q2 q5 hc9 hc10 s a w) (Q : Exit → Act → World → Prop) (hQ : ∀ x a w, Outs (punctualref_CheckSet.A4 K w0 l0 A0 c0 hR0 hL0 b1 i1 hc3 e1 hx2 b2 q2 q5 hc9 hc10) (punctualref_CheckSet.B4 K w0 l0 A0 c0 hR0 hL0 b1 i1 hc3 e1 hx2 b2 q2 q5 hc9 hc10) o x a w → Q x a w) : (subF Tryd.f126 [1, 1, 0, 1, 0, 0, 1, 1, 0, 0, 1, 1, 1, 1, 0, 1, 0, 0]).wp Tryd.prog Q a w := by
  obtain ⟨i2, hs⟩ : ∃ z, z = s := ⟨s, rfl⟩
  subst hs
  obtain ⟨hS, hF⟩ := hA
  replace hS : St w0 w [Own.blk b2 (.cells #[.string e1.Name, .int .i64 e1.C, .int .i64 e1.T, .int .i64 e1.D, .int .i64 e1.J, .int .i64 e1.O, .int .i64 e1.P] 85 (0, 0)), Own.blk b1 (.cells #[.int .i64 0, .int .i64 0] 27 (0, 0))] := hS
  simp only [punctualref_CheckSet.r4] at h
  refine (?_ : WE Tryd.prog 113 (subF Tryd.f126 [1, 1, 0, 1, 0, 0, 1, 1, 0, 0, 1, 1, 1, 1, 0, 1, 0, 0]) Q [(0, .slice A0 l0.length c0), (2, .pointer (some ⟨b1, 0, none⟩)), (3, .int .i64 (i1 : Int)), (4, .pointer (some ⟨b2, 0, none⟩)), (22, .slice A0 l0.length c0), (23, .int .i64 (l0.length : Int)), (24, .int .i64 (i1 : Int)), (67, .slice (subA A0 c0 0 7) (((l0.take i1).drop 0).length) (c0 - 0)), (68, .int .i64 (((l0.take i1).drop 0).length : Int)), (69, .int .i64 (i2 : Int))] w) a hF
  clear hF a
  refine we_seq fun K22 hK22 => ?_
  refine we_region [(0, 0)] rfl ?_
  refine ge_batch [0] (ans := []) (vs := [(70, .bool (decide ((i2 : Int) < (((l0.take i1).drop 0).length : Int))))]) (l := []) (by kernel_rfl) trivial ?_
  refine ge_nil fun a hF => hK22 _ _ ?_ a hF
  refine we_seq fun K23 hK23 => ?_
  by_cases hc11 : (i2 : Int) < (((l0.take i1).drop 0).length : Int)
  · rw [if_pos hc11] at h
    refine we_known (t := 70) (b := decide ((i2 : Int) < (((l0.take i1).drop 0).length : Int))) (v := true) (by kernel_rfl) (decide_eq_true hc11) ?_
    refine we_true (by kernel_rfl) ?_
    refine we_skip fun a hF => hK23 _ _ ?_ a hF
    refine we_seq fun K24 hK24 => ?_
    refine we_block ?_
    refine we_seq fun K25 hK25 => ?_
    refine we_region [(0, 0), (1, 0), (2, 1), (3, 2)] rfl ?_
    rcases hx5 : ((l0.take i1).drop 0)[i2]? with _ | e2
    · rw [hx5] at h; cases h
    rw [hx5] at h
    simp only [] at h
    refine ge_index (d := 71) (ty := 0) (t := 82) (el := 85) (sz := 7) (m := ((l0.take i1).drop 0).length) (c := (c0 - 0)) (x := (.tmp 67)) (y := (.tmp 69)) (A := (subA A0 c0 0 7)) (k' := .i64) (j := (i2 : Int)) (jn := i2) (b0 := blkOf (subA A0 c0 0 7)) (o0 := offOf (subA A0 c0 0 7)) (by kernel_rfl) (by kernel_rfl) (by kernel_rfl) (by kernel_rfl) (by kernel_rfl) ((hS.rd (RdL.part hR0 hL0 0 i1)).eqSome (pos_of_get hx5)) rfl (lt_of_get hx5) ?_
    refine ge_batch [1] (ans := [.val (.string e2.Name), .val (.int .i64 e2.C), .val (.int .i64 e2.T), .val (.int .i64 e2.D), .val (.int .i64 e2.J), .val (.int .i64 e2.O), .val (.int .i64 e2.P)]) (vs := [(72, .agg #[.string e2.Name, .int .i64 e2.C, .int .i64 e2.T, .int .i64 e2.D, .int .i64 e2.J, .int .i64 e2.O, .int .i64 e2.P])]) (l := [.loaded ⟨blkOf (subA A0 c0 0 7), offOf (subA A0 c0 0 7) + i2 * 7, none⟩ (.string e2.Name), .loaded ⟨blkOf (subA A0 c0 0 7), offOf (subA A0 c0 0 7) + i2 * 7 + 1, none⟩ (.int .i64 e2.C), .loaded ⟨blkOf (subA A0 c0 0 7), offOf (subA A0 c0 0 7) + i2 * 7 + 2, none⟩ (.int .i64 e2.T), .loaded ⟨blkOf (subA A0 c0 0 7), offOf (subA A0 c0 0 7) + i2 * 7 + 3, none⟩ (.int .i64 e2.D), .loaded ⟨blkOf (subA A0 c0 0 7), offOf (subA A0 c0 0 7) + i2 * 7 + 4, none⟩ (.int .i64 e2.J), .loaded ⟨blkOf (subA A0 c0 0 7), offOf (subA A0 c0 0 7) + i2 * 7 + 5, none⟩ (.int .i64 e2.O), .loaded ⟨blkOf (subA A0 c0 0 7), offOf (subA A0 c0 0 7) + i2 * 7 + 6, none⟩ (.int .i64 e2.P)]) (by kernel_rfl) ⟨RdL.cell (j := 0) (hS.rd (RdL.part hR0 hL0 0 i1)) hx5 rfl, RdL.cell (j := 1) (hS.rd (RdL.part hR0 hL0 0 i1)) hx5 rfl, RdL.cell (j := 2) (hS.rd (RdL.part hR0 hL0 0 i1)) hx5 rfl, RdL.cell (j := 3) (hS.rd (RdL.part hR0 hL0 0 i1)) hx5 rfl, RdL.cell (j := 4) (hS.rd (RdL.part hR0 hL0 0 i1)) hx5 rfl, RdL.cell (j := 5) (hS.rd (RdL.part hR0 hL0 0 i1)) hx5 rfl, RdL.cell (j := 6) (hS.rd (RdL.part hR0 hL0 0 i1)) hx5 rfl, trivial⟩ ?_
    refine ge_new (d := some 8) (o := .cells #[.string (⟨#[]⟩), .int .i64 0, .int .i64 0, .int .i64 0, .int .i64 0, .int .i64 0, .int .i64 0] 85) (v := fun b => .pointer (some ⟨b, 0, none⟩)) hS (fun b => by kernel_rfl) fun b4 w11 hx6 hS34 => ?_
    refine ge_set (b := b4) (j := 0) (cs := #[.string (⟨#[]⟩), .int .i64 0, .int .i64 0, .int .i64 0, .int .i64 0, .int .i64 0, .int .i64 0]) (t := 85) (vs := [.string e2.Name, .int .i64 e2.C, .int .i64 e2.T, .int .i64 e2.D, .int .i64 e2.J, .int .i64 e2.O, .int .i64 e2.P]) hS34 (by kernel_rfl) rfl rfl fun w12 hS35 => ?_
    have hS36 : St w0 w12 [Own.blk b4 (.cells #[.string e2.Name, .int .i64 e2.C, .int .i64 e2.T, .int .i64 e2.D, .int .i64 e2.J, .int .i64 e2.O, .int .i64 e2.P] 85 (0, 0)), Own.blk b2 (.cells #[.string e1.Name, .int .i64 e1.C, .int .i64 e1.T, .int .i64 e1.D, .int .i64 e1.J, .int .i64 e1.O, .int .i64 e1.P] 85 (0, 0)), Own.blk b1 (.cells #[.int .i64 0, .int .i64 0] 27 (0, 0))] := hS35
    refine ge_nil fun a hF => hK25 _ _ ?_ a hF
    refine we_seq fun K26 hK26 => ?_
    refine we_region [(0, 0), (1, 0), (2, 0), (3, 0), (4, 0)] rfl ?_
    refine ge_batch [0, 1, 2, 3, 4] (ans := [.val (.string e2.Name), .val (.string e1.Name)]) (vs := [(77, .bool (e2.Name.toList == e1.Name.toList)), (76, .string e1.Name), (75, .pointer (some ⟨b2, 0, none⟩)), (74, .string e2.Name), (73, .pointer (some ⟨b4, 0, none⟩))]) (l := [.loaded ⟨b4, 0, none⟩ (.string e2.Name), .loaded ⟨b2, 0, none⟩ (.string e1.Name)]) (by kernel_rfl) ⟨hS36.cell 0 rfl rfl, hS36.cell 1 rfl rfl, trivial⟩ ?_
    refine ge_nil fun a hF => hK26 _ _ ?_ a hF
    by_cases hc12 : e2.Name.toList = e1.Name.toList
    · rw [if_pos hc12] at h
      refine we_known (t := 77) (b := (e2.Name.toList == e1.Name.toList)) (v := true) (by kernel_rfl) (beq_iff_eq.2 hc12) ?_
      refine we_true (by kernel_rfl) ?_
      refine we_seq fun K27 hK27 => ?_
      refine we_region [(0, 0), (1, 1), (2, 2)] rfl ?_
      refine ge_batch [0] (ans := []) (vs := [(78, .int .i64 (i1 : Int))]) (l := []) (by kernel_rfl) trivial ?_
      refine ge_call (d := some 79) (f := 61) (args := #[.int .i64 5, .int .i64 (i1 : Int)]) (by kernel_rfl) (punctualref_F_ok 5 (i1 : Int) _ _ rfl) ?_
      rintro _ w13 ⟨rfl, hS37⟩
      refine ⟨_, rfl, hS37.below, ?_⟩
      have hS38 := hS36.call hS37
      have hS39 := hS38.bring 2 rfl
      refine ge_set (b := b1) (j := 0) (cs := #[.int .i64 0, .int .i64 0]) (t := 27) (vs := [.int .i64 ((punctualref_F.f 5 (i1 : Int)).Code), .int .i64 ((punctualref_F.f 5 (i1 : Int)).At)]) hS39 (by kernel_rfl) rfl rfl fun w14 hS40 => ?_
      have hS41 : St w0 w14 [Own.blk b1 (.cells #[.int .i64 ((punctualref_F.f 5 (i1 : Int)).Code), .int .i64 ((punctualref_F.f 5 (i1 : Int)).At)] 27 (0, 0)), Own.blk b4 (.cells #[.string e2.Name, .int .i64 e2.C, .int .i64 e2.T, .int .i64 e2.D, .int .i64 e2.J, .int .i64 e2.O, .int .i64 e2.P] 85 (0, 0)), Own.blk b2 (.cells #[.string e1.Name, .int .i64 e1.C, .int .i64 e1.T, .int .i64 e1.D, .int .i64 e1.J, .int .i64 e1.O, .int .i64 e1.P] 85 (0, 0))] := hS40
      refine ge_nil fun a hF => hK27 _ _ ?_ a hF
      have hS42 := hS41.takeN 0
      obtain rfl := Option.some.inj h
      exact we_ret fun a hF => hQ _ _ _ (Outs.out nofun (Exits.on ⟨rfl, (post_ret (rs := [.cell 2 27]) (ans := [.val (.int .i64 ((punctualref_F.f 5 (i1 : Int)).Code)), .val (.int .i64 ((punctualref_F.f 5 (i1 : Int)).At))]) (vs := [.agg #[.int .i64 ((punctualref_F.f 5 (i1 : Int)).Code), .int .i64 ((punctualref_F.f 5 (i1 : Int)).At)]]) (l := [.loaded ⟨b1, 0, none⟩ (.int .i64 ((punctualref_F.f 5 (i1 : Int)).Code)), .loaded ⟨b1, 1, none⟩ (.int .i64 ((punctualref_F.f 5 (i1 : Int)).At))]) rfl (by kernel_rfl) ⟨hS41.cell 0 rfl rfl, hS41.cell 0 rfl rfl, trivial⟩ ⟨rfl, hS42⟩) a hF⟩))
    · rw [if_neg hc12] at h
      refine we_known (t := 77) (b := (e2.Name.toList == e1.Name.toList)) (v := false) (by kernel_rfl) (beq_eq_false_iff_ne.2 hc12) ?_
      refine we_false (by kernel_rfl) ?_
      refine we_skip fun a hF => hK24 _ _ ?_ a hF
      refine we_region [(0, 0), (1, 0)] rfl ?_
      refine ge_addn (d := 80) (ty := 3) (x := (.tmp 69)) (y := (.const (.int .i64 1))) (t := 3) (t2 := 3) (k := .i64) (m := i2) (by kernel_rfl) (by kernel_rfl) (by kernel_rfl) (by have h0 := hR0.small; have h1 : ((l0.take i1).drop 0).length ≤ l0.length := (by simp only [List.length_drop, List.length_take]; omega); omega) ?_
      refine ge_batch [1] (ans := []) (vs := [(69, .int .i64 ((i2 + 1 : Nat) : Int))]) (l := []) (by kernel_rfl) trivial ?_
      have hS43 := hS36.bring 2 rfl
      have hS44 := hS43.bring 2 rfl
      have hS45 := hS44.takeN 2
      obtain rfl := Option.some.inj h
      exact ge_nil fun a hF => hQ _ _ _ (Outs.again ⟨hS45, hF.weaken ⟨by kernel_rfl, by kernel_rfl, by kernel_rfl, by kernel_rfl, by kernel_rfl, by kernel_rfl, by kernel_rfl, by kernel_rfl, by kernel_rfl, by kernel_rfl, trivial⟩⟩)
  · rw [if_neg hc11] at h
    refine we_known (t := 70) (b := decide ((i2 : Int) < (((l0.take i1).drop 0).length : Int))) (v := false) (by kernel_rfl) (decide_eq_false hc11) ?_
    refine we_false (by kernel_rfl) ?_
    have hS46 := hS.bring 1 rfl
    have hS47 := hS46.bring 1 rfl
    obtain rfl := Option.some.inj h
    exact we_exit fun a hF => hQ _ _ _ (Outs.out nofun (Exits.here ⟨hS47, hF.weaken ⟨by kernel_rfl, by kernel_rfl, by kernel_rfl, by kernel_rfl, by kernel_rfl, by kernel_rfl, by kernel_rfl, trivial⟩⟩))
abbrev punctualref_CheckSet.A5 (K : Nat) (w0 : World) (l0 : List STask) (A0 : Option Addr) (c0 : Nat) (hR0 : RdL w0 A0 l0) (hL0 : l0.length ≤ c0) (b1 : Nat) (i1 : Nat) (hc3 : (i1 : Int) < (l0.length : Int)) (e1 : STask) (hx2 : l0[i1]? = some e1) (b2 : Nat) (q2 : Bool) (q5 : Bool) (hc9 : q5 = true) (hc10 : i1 ≤ l0.length) (b5 : Nat) (b6 : Nat) : Nat → Act → World → Prop := fun (s : Nat) a w => St w0 w [Own.blk b6 (.cells #[.int .i64 10000, .int .i64 10000, .int .i64 10000, .int .i64 10000, .int .i64 10000, .int .i64 1000] 162 (0, 0)), Own.blk b5 (.cells #[.int .i64 1, .int .i64 1, .int .i64 1, .int .i64 0, .int .i64 0, .int .i64 0] 162 (0, 0)), Own.blk b2 (.cells #[.string e1.Name, .int .i64 e1.C, .int .i64 e1.T, .int .i64 e1.D, .int .i64 e1.J, .int .i64 e1.O, .int .i64 e1.P] 85 (0, 0)), Own.blk b1 (.cells #[.int .i64 0, .int .i64 0] 27 (0, 0))] ∧ Frm 113 a [(0, .slice A0 l0.length c0), (2, .pointer (some ⟨b1, 0, none⟩)), (3, .int .i64 (i1 : Int)), (4, .pointer (some ⟨b2, 0, none⟩)), (9, .pointer (some ⟨b5, 0, none⟩)), (10, .pointer (some ⟨b6, 0, none⟩)), (22, .slice A0 l0.length c0), (23, .int .i64 (l0.length : Int)), (24, .int .i64 (i1 : Int)), (84, .agg #[.int .i64 ((punctualref_sixOf.f e1).a0), .int .i64 ((punctualref_sixOf.f e1).a1), .int .i64 ((punctualref_sixOf.f e1).a2), .int .i64 ((punctualref_sixOf.f e1).a3), .int .i64 ((punctualref_sixOf.f e1).a4), .int .i64 ((punctualref_sixOf.f e1).a5)]), (85, .int .i64 (s : Int))]
abbrev punctualref_CheckSet.B5 (K : Nat) (w0 : World) (l0 : List STask) (A0 : Option Addr) (c0 : Nat) (hR0 : RdL w0 A0 l0) (hL0 : l0.length ≤ c0) (b1 : Nat) (i1 : Nat) (hc3 : (i1 : Int) < (l0.length : Int)) (e1 : STask) (hx2 : l0[i1]? = some e1) (b2 : Nat) (q2 : Bool) (q5 : Bool) (hc9 : q5 = true) (hc10 : i1 ≤ l0.length) (b5 : Nat) (b6 : Nat) : (Unit ⊕ SFault) → Exit → Act → World → Prop := Exits 6 (fun (s : Unit) a w => St w0 w [Own.blk b2 (.cells #[.string e1.Name, .int .i64 e1.C, .int .i64 e1.T, .int .i64 e1.D, .int .i64 e1.J, .int .i64 e1.O, .int .i64 e1.P] 85 (0, 0)), Own.blk b1 (.cells #[.int .i64 0, .int .i64 0] 27 (0, 0))] ∧ Frm 113 a [(0, .slice A0 l0.length c0), (2, .pointer (some ⟨b1, 0, none⟩)), (3, .int .i64 (i1 : Int)), (4, .pointer (some ⟨b2, 0, none⟩)), (22, .slice A0 l0.length c0), (23, .int .i64 (l0.length : Int)), (24, .int .i64 (i1 : Int))]) (Rets Tryd.prog Tryd.f126 (punctualref_CheckSet.Post w0))
theorem punctualref_CheckSet_r5 (K : Nat) (w0 : World) (l0 : List STask) (A0 : Option Addr) (c0 : Nat) (hR0 : RdL w0 A0 l0) (hL0 : l0.length ≤ c0) (b1 : Nat) (i1 : Nat) (hc3 : (i1 : Int) < (l0.length : Int)) (e1 : STask) (hx2 : l0[i1]? = some e1) (b2 : Nat) (q2 : Bool) (q5 : Bool) (hc9 : q5 = true) (hc10 : i1 ≤ l0.length) (b5 : Nat) (b6 : Nat) (s : Nat) (o : Nat ⊕ (Unit ⊕ SFault)) (h : punctualref_CheckSet.r5 i1 e1 s = some o) (a : Act) (w : World) (hA : punctualref_CheckSet.A5 K w0 l0 A0 c0 hR0 hL0 b1 i1 hc3 e1 hx2 b2 q2 q5 hc9 hc10 b5 b6 s a w) (Q : Exit → Act → World → Prop) (hQ : ∀ x a w, Outs (punctualref_CheckSet.A5 K w0 l0 A0 c0 hR0 hL0 b1 i1 hc3 e1 hx2 b2 q2 q5 hc9 hc10 b5 b6) (punctualref_CheckSet.B5 K w0 l0 A0 c0 hR0 hL0 b1 i1 hc3 e1 hx2 b2 q2 q5 hc9 hc10 b5 b6) o x a w → Q x a w) : (subF Tryd.f126 [1, 1, 0, 1, 0, 0, 1, 1, 0, 0, 1, 1, 1, 1, 1, 1, 0, 1, 0, 0]).wp Tryd.prog Q a w := by
  obtain ⟨i3, hs⟩ : ∃ z, z = s := ⟨s, rfl⟩
  subst hs
  obtain ⟨hS, hF⟩ := hA
  replace hS : St w0 w [Own.blk b6 (.cells #[.int .i64 10000, .int .i64 10000, .int .i64 10000, .int .i64 10000, .int .i64 10000, .int .i64 1000] 162 (0, 0)), Own.blk b5 (.cells #[.int .i64 1, .int .i64 1, .int .i64 1, .int .i64 0, .int .i64 0, .int .i64 0] 162 (0, 0)), Own.blk b2 (.cells #[.string e1.Name, .int .i64 e1.C, .int .i64 e1.T, .int .i64 e1.D, .int .i64 e1.J, .int .i64 e1.O, .int .i64 e1.P] 85 (0, 0)), Own.blk b1 (.cells #[.int .i64 0, .int .i64 0] 27 (0, 0))] := hS
  simp only [punctualref_CheckSet.r5] at h
  refine (?_ : WE Tryd.prog 113 (subF Tryd.f126 [1, 1, 0, 1, 0, 0, 1, 1, 0, 0, 1, 1, 1, 1, 1, 1, 0, 1, 0, 0]) Q [(0, .slice A0 l0.length c0), (2, .pointer (some ⟨b1, 0, none⟩)), (3, .int .i64 (i1 : Int)), (4, .pointer (some ⟨b2, 0, none⟩)), (9, .pointer (some ⟨b5, 0, none⟩)), (10, .pointer (some ⟨b6, 0, none⟩)), (22, .slice A0 l0.length c0), (23, .int .i64 (l0.length : Int)), (24, .int .i64 (i1 : Int)), (84, .agg #[.int .i64 ((punctualref_sixOf.f e1).a0), .int .i64 ((punctualref_sixOf.f e1).a1), .int .i64 ((punctualref_sixOf.f e1).a2), .int .i64 ((punctualref_sixOf.f e1).a3), .int .i64 ((punctualref_sixOf.f e1).a4), .int .i64 ((punctualref_sixOf.f e1).a5)]), (85, .int .i64 (i3 : Int))] w) a hF
  clear hF a
  refine we_seq fun K31 hK31 => ?_
  refine we_region [(0, 0)] rfl ?_
  refine ge_batch [0] (ans := []) (vs := [(86, .bool (decide ((i3 : Int) < 6)))]) (l := []) (by kernel_rfl) trivial ?_
  refine ge_nil fun a hF => hK31 _ _ ?_ a hF
  refine we_seq fun K32 hK32 => ?_
  by_cases hc13 : (i3 : Int) < 6
  · rw [if_pos hc13] at h
    refine we_known (t := 86) (b := decide ((i3 : Int) < 6)) (v := true) (by kernel_rfl) (decide_eq_true hc13) ?_
    refine we_true (by kernel_rfl) ?_
    refine we_skip fun a hF => hK32 _ _ ?_ a hF
    refine we_seq fun K33 hK33 => ?_
    refine we_block ?_
    refine we_seq fun K34 hK34 => ?_
    refine we_region [(0, 0), (1, 0), (2, 0), (3, 0)] rfl ?_
    refine ge_batch [0] (ans := []) (vs := [(87, .int .i64 (i3 : Int))]) (l := []) (by kernel_rfl) trivial ?_
    rcases hx9 : ([(punctualref_sixOf.f e1).a0, (punctualref_sixOf.f e1).a1, (punctualref_sixOf.f e1).a2, (punctualref_sixOf.f e1).a3, (punctualref_sixOf.f e1).a4, (punctualref_sixOf.f e1).a5] : List Int)[i3]? with _ | e3
    · rw [hx9] at h; cases h
    rw [hx9] at h
    simp only [] at h
    refine ge_arr2 (α := Int) (d := 88) (ty := 3) (t := 162) (len := 6) (el := 3) (x := (.tmp 84)) (y := (.tmp 85)) (k' := .i64) (j := (i3 : Int)) (jn := i3) (l := ([(punctualref_sixOf.f e1).a0, (punctualref_sixOf.f e1).a1, (punctualref_sixOf.f e1).a2, (punctualref_sixOf.f e1).a3, (punctualref_sixOf.f e1).a4, (punctualref_sixOf.f e1).a5] : List Int)) (u := e3) (cs := #[.int .i64 ((punctualref_sixOf.f e1).a0), .int .i64 ((punctualref_sixOf.f e1).a1), .int .i64 ((punctualref_sixOf.f e1).a2), .int .i64 ((punctualref_sixOf.f e1).a3), .int .i64 ((punctualref_sixOf.f e1).a4), .int .i64 ((punctualref_sixOf.f e1).a5)]) (v := .int .i64 e3) (by kernel_rfl) (by kernel_rfl) rfl (by kernel_rfl) (by kernel_rfl) (by kernel_rfl) rfl rfl rfl hx9 rfl (fun w' => by kernel_rfl) ?_
    refine ge_batch [2, 3] (ans := []) (vs := [(12, .int .i64 e3), (11, .int .i64 (i3 : Int))]) (l := []) (by kernel_rfl) trivial ?_
    refine ge_nil fun a hF => hK34 _ _ ?_ a hF
    refine we_seq fun K35 hK35 => ?_
    refine we_region [(0, 0), (1, 0), (2, 0), (3, 0), (4, 0), (5, 0), (6, 0), (7, 0), (8, 0), (9, 0), (10, 0), (11, 0)] rfl ?_
    refine ge_batch [0, 1] (ans := []) (vs := [(90, .int .i64 (i3 : Int)), (89, .int .i64 e3)]) (l := []) (by kernel_rfl) trivial ?_
    rcases hx10 : ([1, 1, 1, 0, 0, 0] : List Int)[i3]? with _ | e4
    · rw [hx10] at h; cases h
    rw [hx10] at h
    simp only [] at h
    refine ge_arrAddr (d := 91) (ty := 0) (t := 162) (len := 6) (el := 3) (b := b5) (o0 := 0) (sz := 1) (x := (.tmp 9)) (y := (.tmp 90)) (k' := .i64) (j := (i3 : Int)) (jn := i3) (by kernel_rfl) (by kernel_rfl) (by kernel_rfl) (by kernel_rfl) (by kernel_rfl) rfl (lt_of_get hx10) ?_
    refine ge_batch [3, 4, 5] (ans := [.val (.int .i64 e4)]) (vs := [(94, .bool (decide (e3 < e4))), (93, .bool (decide (e3 < e4))), (92, .int .i64 e4)]) (l := [.loaded ⟨b5, 0 + i3 * 1, none⟩ (.int .i64 e4)]) (by kernel_rfl) ⟨hS.cellA 1 (pre := []) (post := []) (l := ([1, 1, 1, 0, 0, 0] : List Int)) rfl rfl rfl hx10 rfl rfl, trivial⟩ ?_
    by_cases hc14 : e3 < e4
    · rw [if_pos hc14] at h
      refine ge_known (t := 94) (b := decide (e3 < e4)) (c := true) (by kernel_rfl) (decide_eq_true hc14) ?_
      refine ge_batch [6, 7, 8, 9, 10, 11] (ans := []) (vs := [(100, .bool true), (99, undef), (98, undef), (97, undef), (96, undef), (95, undef)]) (l := []) (by kernel_rfl) trivial ?_
      refine ge_nil fun a hF => hK35 _ _ ?_ a hF
      refine we_true (by kernel_rfl) ?_
      refine we_seq fun K36 hK36 => ?_
      refine we_region [(0, 0), (1, 1), (2, 2)] rfl ?_
      refine ge_batch [0] (ans := []) (vs := [(101, .int .i64 (i1 : Int))]) (l := []) (by kernel_rfl) trivial ?_
      refine ge_call (d := some 102) (f := 61) (args := #[.int .i64 3, .int .i64 (i1 : Int)]) (by kernel_rfl) (punctualref_F_ok 3 (i1 : Int) _ _ rfl) ?_
      rintro _ w21 ⟨rfl, hS63⟩
      refine ⟨_, rfl, hS63.below, ?_⟩
      have hS64 := hS.call hS63
      have hS65 := hS64.bring 3 rfl
      refine ge_set (b := b1) (j := 0) (cs := #[.int .i64 0, .int .i64 0]) (t := 27) (vs := [.int .i64 ((punctualref_F.f 3 (i1 : Int)).Code), .int .i64 ((punctualref_F.f 3 (i1 : Int)).At)]) hS65 (by kernel_rfl) rfl rfl fun w22 hS66 => ?_
      have hS67 : St w0 w22 [Own.blk b1 (.cells #[.int .i64 ((punctualref_F.f 3 (i1 : Int)).Code), .int .i64 ((punctualref_F.f 3 (i1 : Int)).At)] 27 (0, 0)), Own.blk b6 (.cells #[.int .i64 10000, .int .i64 10000, .int .i64 10000, .int .i64 10000, .int .i64 10000, .int .i64 1000] 162 (0, 0)), Own.blk b5 (.cells #[.int .i64 1, .int .i64 1, .int .i64 1, .int .i64 0, .int .i64 0, .int .i64 0] 162 (0, 0)), Own.blk b2 (.cells #[.string e1.Name, .int .i64 e1.C, .int .i64 e1.T, .int .i64 e1.D, .int .i64 e1.J, .int .i64 e1.O, .int .i64 e1.P] 85 (0, 0))] := hS66
      refine ge_nil fun a hF => hK36 _ _ ?_ a hF
      have hS68 := hS67.takeN 0
      obtain rfl := Option.some.inj h
      exact we_ret fun a hF => hQ _ _ _ (Outs.out nofun (Exits.on ⟨rfl, (post_ret (rs := [.cell 2 27]) (ans := [.val (.int .i64 ((punctualref_F.f 3 (i1 : Int)).Code)), .val (.int .i64 ((punctualref_F.f 3 (i1 : Int)).At))]) (vs := [.agg #[.int .i64 ((punctualref_F.f 3 (i1 : Int)).Code), .int .i64 ((punctualref_F.f 3 (i1 : Int)).At)]]) (l := [.loaded ⟨b1, 0, none⟩ (.int .i64 ((punctualref_F.f 3 (i1 : Int)).Code)), .loaded ⟨b1, 1, none⟩ (.int .i64 ((punctualref_F.f 3 (i1 : Int)).At))]) rfl (by kernel_rfl) ⟨hS67.cell 0 rfl rfl, hS67.cell 0 rfl rfl, trivial⟩ ⟨rfl, hS68⟩) a hF⟩))
    · rw [if_neg hc14] at h
      refine ge_known (t := 94) (b := decide (e3 < e4)) (c := false) (by kernel_rfl) (decide_eq_false hc14) ?_
      refine ge_batch [6, 7] (ans := []) (vs := [(96, .int .i64 (i3 : Int)), (95, .int .i64 e3)]) (l := []) (by kernel_rfl) trivial ?_
      rcases hx11 : ([10000, 10000, 10000, 10000, 10000, 1000] : List Int)[i3]? with _ | e5
      · rw [hx11] at h; cases h
      rw [hx11] at h
      simp only [] at h
      refine ge_arrAddr (d := 97) (ty := 0) (t := 162) (len := 6) (el := 3) (b := b6) (o0 := 0) (sz := 1) (x := (.tmp 10)) (y := (.tmp 96)) (k' := .i64) (j := (i3 : Int)) (jn := i3) (by kernel_rfl) (by kernel_rfl) (by kernel_rfl) (by kernel_rfl) (by kernel_rfl) rfl (lt_of_get hx11) ?_
      refine ge_batch [9, 10, 11] (ans := [.val (.int .i64 e5)]) (vs := [(100, .bool (decide (e3 > e5))), (99, .bool (decide (e3 > e5))), (98, .int .i64 e5)]) (l := [.loaded ⟨b6, 0 + i3 * 1, none⟩ (.int .i64 e5)]) (by kernel_rfl) ⟨hS.cellA 0 (pre := []) (post := []) (l := ([10000, 10000, 10000, 10000, 10000, 1000] : List Int)) rfl rfl rfl hx11 rfl rfl, trivial⟩ ?_
      refine ge_nil fun a hF => hK35 _ _ ?_ a hF
      by_cases hc15 : e3 > e5
      · rw [if_pos hc15] at h
        refine we_known (t := 100) (b := decide (e3 > e5)) (v := true) (by kernel_rfl) (decide_eq_true hc15) ?_
        refine we_true (by kernel_rfl) ?_
        refine we_seq fun K37 hK37 => ?_
        refine we_region [(0, 0), (1, 1), (2, 2)] rfl ?_
        refine ge_batch [0] (ans := []) (vs := [(101, .int .i64 (i1 : Int))]) (l := []) (by kernel_rfl) trivial ?_
        refine ge_call (d := some 102) (f := 61) (args := #[.int .i64 3, .int .i64 (i1 : Int)]) (by kernel_rfl) (punctualref_F_ok 3 (i1 : Int) _ _ rfl) ?_
        rintro _ w23 ⟨rfl, hS69⟩
        refine ⟨_, rfl, hS69.below, ?_⟩
        have hS70 := hS.call hS69
        have hS71 := hS70.bring 3 rfl
        refine ge_set (b := b1) (j := 0) (cs := #[.int .i64 0, .int .i64 0]) (t := 27) (vs := [.int .i64 ((punctualref_F.f 3 (i1 : Int)).Code), .int .i64 ((punctualref_F.f 3 (i1 : Int)).At)]) hS71 (by kernel_rfl) rfl rfl fun w24 hS72 => ?_
        have hS73 : St w0 w24 [Own.blk b1 (.cells #[.int .i64 ((punctualref_F.f 3 (i1 : Int)).Code), .int .i64 ((punctualref_F.f 3 (i1 : Int)).At)] 27 (0, 0)), Own.blk b6 (.cells #[.int .i64 10000, .int .i64 10000, .int .i64 10000, .int .i64 10000, .int .i64 10000, .int .i64 1000] 162 (0, 0)), Own.blk b5 (.cells #[.int .i64 1, .int .i64 1, .int .i64 1, .int .i64 0, .int .i64 0, .int .i64 0] 162 (0, 0)), Own.blk b2 (.cells #[.string e1.Name, .int .i64 e1.C, .int .i64 e1.T, .int .i64 e1.D, .int .i64 e1.J, .int .i64 e1.O, .int .i64 e1.P] 85 (0, 0))] := hS72
        refine ge_nil fun a hF => hK37 _ _ ?_ a hF
        have hS74 := hS73.takeN 0
        obtain rfl := Option.some.inj h
        exact we_ret fun a hF => hQ _ _ _ (Outs.out nofun (Exits.on ⟨rfl, (post_ret (rs := [.cell 2 27]) (ans := [.val (.int .i64 ((punctualref_F.f 3 (i1 : Int)).Code)), .val (.int .i64 ((punctualref_F.f 3 (i1 : Int)).At))]) (vs := [.agg #[.int .i64 ((punctualref_F.f 3 (i1 : Int)).Code), .int .i64 ((punctualref_F.f 3 (i1 : Int)).At)]]) (l := [.loaded ⟨b1, 0, none⟩ (.int .i64 ((punctualref_F.f 3 (i1 : Int)).Code)), .loaded ⟨b1, 1, none⟩ (.int .i64 ((punctualref_F.f 3 (i1 : Int)).At))]) rfl (by kernel_rfl) ⟨hS73.cell 0 rfl rfl, hS73.cell 0 rfl rfl, trivial⟩ ⟨rfl, hS74⟩) a hF⟩))
      · rw [if_neg hc15] at h
        refine we_known (t := 100) (b := decide (e3 > e5)) (v := false) (by kernel_rfl) (decide_eq_false hc15) ?_
        refine we_false (by kernel_rfl) ?_
        refine we_skip fun a hF => hK33 _ _ ?_ a hF
        refine we_region [(0, 0), (1, 0)] rfl ?_
        refine ge_addn (d := 103) (ty := 3) (x := (.tmp 85)) (y := (.const (.int .i64 1))) (t := 3) (t2 := 3) (k := .i64) (m := i3) (by kernel_rfl) (by kernel_rfl) (by kernel_rfl) (by omega) ?_
        refine ge_batch [1] (ans := []) (vs := [(85, .int .i64 ((i3 + 1 : Nat) : Int))]) (l := []) (by kernel_rfl) trivial ?_
        have hS75 := hS.bring 3 rfl
        have hS76 := hS75.bring 3 rfl
        have hS77 := hS76.bring 3 rfl
        have hS78 := hS77.bring 3 rfl
        obtain rfl := Option.some.inj h
        exact ge_nil fun a hF => hQ _ _ _ (Outs.again ⟨hS78, hF.weaken ⟨by kernel_rfl, by kernel_rfl, by kernel_rfl, by kernel_rfl, by kernel_rfl, by kernel_rfl, by kernel_rfl, by kernel_rfl, by kernel_rfl, by kernel_rfl, by kernel_rfl, trivial⟩⟩)
  · rw [if_neg hc13] at h
    refine we_known (t := 86) (b := decide ((i3 : Int) < 6)) (v := false) (by kernel_rfl) (decide_eq_false hc13) ?_
    refine we_false (by kernel_rfl) ?_
    have hS79 := hS.bring 3 rfl
    have hS80 := hS79.bring 3 rfl
    have hS81 := hS80.takeN 2
    obtain rfl := Option.some.inj h
    exact we_exit fun a hF => hQ _ _ _ (Outs.out nofun (Exits.here ⟨hS81, hF.weaken ⟨by kernel_rfl, by kernel_rfl, by kernel_rfl, by kernel_rfl, by kernel_rfl, by kernel_rfl, by kernel_rfl, trivial⟩⟩))
abbrev punctualref_CheckSet.A1 (K : Nat) (w0 : World) (l0 : List STask) (A0 : Option Addr) (c0 : Nat) (hR0 : RdL w0 A0 l0) (hL0 : l0.length ≤ c0) (b1 : Nat) : Nat → Act → World → Prop := fun (s : Nat) a w => St w0 w [Own.blk b1 (.cells #[.int .i64 0, .int .i64 0] 27 (0, 0))] ∧ Frm 113 a [(0, .slice A0 l0.length c0), (2, .pointer (some ⟨b1, 0, none⟩)), (22, .slice A0 l0.length c0), (23, .int .i64 (l0.length : Int)), (24, .int .i64 (s : Int))]
abbrev punctualref_CheckSet.B1 (K : Nat) (w0 : World) (l0 : List STask) (A0 : Option Addr) (c0 : Nat) (hR0 : RdL w0 A0 l0) (hL0 : l0.length ≤ c0) (b1 : Nat) : (Unit ⊕ SFault) → Exit → Act → World → Prop := Exits 0 (fun (s : Unit) a w => St w0 w [Own.blk b1 (.cells #[.int .i64 0, .int .i64 0] 27 (0, 0))] ∧ Frm 113 a [(2, .pointer (some ⟨b1, 0, none⟩))]) (Rets Tryd.prog Tryd.f126 (punctualref_CheckSet.Post w0))
theorem punctualref_CheckSet_r1 (K : Nat) (w0 : World) (l0 : List STask) (A0 : Option Addr) (c0 : Nat) (hR0 : RdL w0 A0 l0) (hL0 : l0.length ≤ c0) (b1 : Nat) (s : Nat) (o : Nat ⊕ (Unit ⊕ SFault)) (h : punctualref_CheckSet.r1 K l0 s = some o) (a : Act) (w : World) (hA : punctualref_CheckSet.A1 K w0 l0 A0 c0 hR0 hL0 b1 s a w) (Q : Exit → Act → World → Prop) (hQ : ∀ x a w, Outs (punctualref_CheckSet.A1 K w0 l0 A0 c0 hR0 hL0 b1) (punctualref_CheckSet.B1 K w0 l0 A0 c0 hR0 hL0 b1) o x a w → Q x a w) : (subF Tryd.f126 [1, 1, 0, 1, 0, 0]).wp Tryd.prog Q a w := by
  obtain ⟨i1, hs⟩ : ∃ z, z = s := ⟨s, rfl⟩
  subst hs
  obtain ⟨hS, hF⟩ := hA
  replace hS : St w0 w [Own.blk b1 (.cells #[.int .i64 0, .int .i64 0] 27 (0, 0))] := hS
  simp only [punctualref_CheckSet.r1] at h
  refine (?_ : WE Tryd.prog 113 (subF Tryd.f126 [1, 1, 0, 1, 0, 0]) Q [(0, .slice A0 l0.length c0), (2, .pointer (some ⟨b1, 0, none⟩)), (22, .slice A0 l0.length c0), (23, .int .i64 (l0.length : Int)), (24, .int .i64 (i1 : Int))] w) a hF
  clear hF a
  refine we_seq fun K8 hK8 => ?_
  refine we_region [(0, 0)] rfl ?_
  refine ge_batch [0] (ans := []) (vs := [(25, .bool (decide ((i1 : Int) < (l0.length : Int))))]) (l := []) (by kernel_rfl) trivial ?_
  refine ge_nil fun a hF => hK8 _ _ ?_ a hF
  refine we_seq fun K9 hK9 => ?_
  by_cases hc3 : (i1 : Int) < (l0.length : Int)
  · rw [if_pos hc3] at h
    refine we_known (t := 25) (b := decide ((i1 : Int) < (l0.length : Int))) (v := true) (by kernel_rfl) (decide_eq_true hc3) ?_
    refine we_true (by kernel_rfl) ?_
    refine we_skip fun a hF => hK9 _ _ ?_ a hF
    refine we_seq fun K10 hK10 => ?_
    refine we_block ?_
    refine we_seq fun K11 hK11 => ?_
    refine we_region [(0, 0), (1, 0), (2, 0), (3, 1), (4, 0), (5, 2)] rfl ?_
    refine ge_batch [0] (ans := []) (vs := [(26, .int .i64 (i1 : Int))]) (l := []) (by kernel_rfl) trivial ?_
    rcases hx2 : l0[i1]? with _ | e1
    · rw [hx2] at h; cases h
    rw [hx2] at h
    simp only [] at h
    refine ge_index (d := 27) (ty := 0) (t := 82) (el := 85) (sz := 7) (m := l0.length) (c := c0) (x := (.tmp 22)) (y := (.tmp 24)) (A := A0) (k' := .i64) (j := (i1 : Int)) (jn := i1) (b0 := blkOf A0) (o0 := offOf A0) (by kernel_rfl) (by kernel_rfl) (by kernel_rfl) (by kernel_rfl) (by kernel_rfl) ((hS.rd hR0).eqSome (pos_of_get hx2)) rfl (lt_of_get hx2) ?_
    refine ge_batch [2] (ans := [.val (.string e1.Name), .val (.int .i64 e1.C), .val (.int .i64 e1.T), .val (.int .i64 e1.D), .val (.int .i64 e1.J), .val (.int .i64 e1.O), .val (.int .i64 e1.P)]) (vs := [(28, .agg #[.string e1.Name, .int .i64 e1.C, .int .i64 e1.T, .int .i64 e1.D, .int .i64 e1.J, .int .i64 e1.O, .int .i64 e1.P])]) (l := [.loaded ⟨blkOf A0, offOf A0 + i1 * 7, none⟩ (.string e1.Name), .loaded ⟨blkOf A0, offOf A0 + i1 * 7 + 1, none⟩ (.int .i64 e1.C), .loaded ⟨blkOf A0, offOf A0 + i1 * 7 + 2, none⟩ (.int .i64 e1.T), .loaded ⟨blkOf A0, offOf A0 + i1 * 7 + 3, none⟩ (.int .i64 e1.D), .loaded ⟨blkOf A0, offOf A0 + i1 * 7 + 4, none⟩ (.int .i64 e1.J), .loaded ⟨blkOf A0, offOf A0 + i1 * 7 + 5, none⟩ (.int .i64 e1.O), .loaded ⟨blkOf A0, offOf A0 + i1 * 7 + 6, none⟩ (.int .i64 e1.P)]) (by kernel_rfl) ⟨RdL.cell (j := 0) (hS.rd hR0) hx2 rfl, RdL.cell (j := 1) (hS.rd hR0) hx2 rfl, RdL.cell (j := 2) (hS.rd hR0) hx2 rfl, RdL.cell (j := 3) (hS.rd hR0) hx2 rfl, RdL.cell (j := 4) (hS.rd hR0) hx2 rfl, RdL.cell (j := 5) (hS.rd hR0) hx2 rfl, RdL.cell (j := 6) (hS.rd hR0) hx2 rfl, trivial⟩ ?_
    refine ge_new (d := some 4) (o := .cells #[.string (⟨#[]⟩), .int .i64 0, .int .i64 0, .int .i64 0, .int .i64 0, .int .i64 0, .int .i64 0] 85) (v := fun b => .pointer (some ⟨b, 0, none⟩)) hS (fun b => by kernel_rfl) fun b2 w7 hx3 hS13 => ?_
    refine ge_batch [4] (ans := []) (vs := [(3, .int .i64 (i1 : Int))]) (l := []) (by kernel_rfl) trivial ?_
    refine ge_set (b := b2) (j := 0) (cs := #[.string (⟨#[]⟩), .int .i64 0, .int .i64 0, .int .i64 0, .int .i64 0, .int .i64 0, .int .i64 0]) (t := 85) (vs := [.string e1.Name, .int .i64 e1.C, .int .i64 e1.T, .int .i64 e1.D, .int .i64 e1.J, .int .i64 e1.O, .int .i64 e1.P]) hS13 (by kernel_rfl) rfl rfl fun w8 hS14 => ?_
    have hS15 : St w0 w8 [Own.blk b2 (.cells #[.string e1.Name, .int .i64 e1.C, .int .i64 e1.T, .int .i64 e1.D, .int .i64 e1.J, .int .i64 e1.O, .int .i64 e1.P] 85 (0, 0)), Own.blk b1 (.cells #[.int .i64 0, .int .i64 0] 27 (0, 0))] := hS14
    refine ge_nil fun a hF => hK11 _ _ ?_ a hF
    refine we_seq fun K12 hK12 => ?_
    rcases hq4 : punctualref_CheckSet.p2 e1 with _ | (q2 | rr4)
    · rw [hq4] at h; cases h
    · rw [hq4] at h
      simp only [] at h
      refine we_keep (e' := [(0, .slice A0 l0.length c0), (2, .pointer (some ⟨b1, 0, none⟩)), (3, .int .i64 (i1 : Int)), (4, .pointer (some ⟨b2, 0, none⟩)), (22, .slice A0 l0.length c0), (23, .int .i64 (l0.length : Int)), (24, .int .i64 (i1 : Int)), (25, .bool true), (26, .int .i64 (i1 : Int)), (27, .pointer (some ⟨blkOf A0, offOf A0 + i1 * 7, none⟩)), (28, .agg #[.string e1.Name, .int .i64 e1.C, .int .i64 e1.T, .int .i64 e1.D, .int .i64 e1.J, .int .i64 e1.O, .int .i64 e1.P])]) ⟨by kernel_rfl, by kernel_rfl, by kernel_rfl, by kernel_rfl, by kernel_rfl, by kernel_rfl, by kernel_rfl, by kernel_rfl, by kernel_rfl, by kernel_rfl, by kernel_rfl, trivial⟩ (punctualref_CheckSet_p2 K w0 l0 A0 c0 hR0 hL0 b1 i1 hc3 e1 hx2 b2 _ hq4 _ hS15 _ ?_)
      rintro _ a w9 ⟨rfl, hS20, hF⟩
      replace hS20 : St w0 w9 [Own.blk b2 (.cells #[.string e1.Name, .int .i64 e1.C, .int .i64 e1.T, .int .i64 e1.D, .int .i64 e1.J, .int .i64 e1.O, .int .i64 e1.P] 85 (0, 0)), Own.blk b1 (.cells #[.int .i64 0, .int .i64 0] 27 (0, 0))] := hS20
      refine hK12 [(0, .slice A0 l0.length c0), (2, .pointer (some ⟨b1, 0, none⟩)), (3, .int .i64 (i1 : Int)), (4, .pointer (some ⟨b2, 0, none⟩)), (5, .bool q2), (22, .slice A0 l0.length c0), (23, .int .i64 (l0.length : Int)), (24, .int .i64 (i1 : Int))] w9 ?_ a hF
      refine we_seq fun K13 hK13 => ?_
      refine we_seq fun K14 hK14 => ?_
      refine we_region [(0, 0)] rfl ?_
      refine ge_batch [0] (ans := []) (vs := [(6, .int .i64 0)]) (l := []) (by kernel_rfl) trivial ?_
      refine ge_nil fun a hF => hK14 _ _ ?_ a hF
      refine we_block ?_
      have hS21 := hS20.bring 1 rfl
      have hS22 := hS21.bring 1 rfl
      rcases hq5 : iter (punctualref_CheckSet.r3 e1) K (q2, 0) with _ | (q5 | rr3)
      · rw [hq5] at h; cases h
      · rw [hq5] at h
        simp only [] at h
        refine we_iter (A := punctualref_CheckSet.A3 K w0 l0 A0 c0 hR0 hL0 b1 i1 hc3 e1 hx2 b2 q2) (B := punctualref_CheckSet.B3 K w0 l0 A0 c0 hR0 hL0 b1 i1 hc3 e1 hx2 b2 q2) hq5 (fun a hF => ⟨hS22, hF.weaken ⟨by kernel_rfl, by kernel_rfl, by kernel_rfl, by kernel_rfl, by kernel_rfl, by kernel_rfl, by kernel_rfl, by kernel_rfl, by kernel_rfl, trivial⟩⟩) (fun s o hf a w hA Q hQ => punctualref_CheckSet_r3 K w0 l0 A0 c0 hR0 hL0 b1 i1 hc3 e1 hx2 b2 q2 s o hf a w hA Q hQ) ?_
        rintro _ a w10 _ ⟨rfl, hS31, hF⟩
        replace hS31 : St w0 w10 [Own.blk b2 (.cells #[.string e1.Name, .int .i64 e1.C, .int .i64 e1.T, .int .i64 e1.D, .int .i64 e1.J, .int .i64 e1.O, .int .i64 e1.P] 85 (0, 0)), Own.blk b1 (.cells #[.int .i64 0, .int .i64 0] 27 (0, 0))] := hS31
        refine hK13 [(0, .slice A0 l0.length c0), (2, .pointer (some ⟨b1, 0, none⟩)), (3, .int .i64 (i1 : Int)), (4, .pointer (some ⟨b2, 0, none⟩)), (5, .bool q5), (22, .slice A0 l0.length c0), (23, .int .i64 (l0.length : Int)), (24, .int .i64 (i1 : Int))] w10 ?_ a hF
        refine we_seq fun K18 hK18 => ?_
        refine we_seq fun K19 hK19 => ?_
        refine we_region [(0, 0), (1, 0)] rfl ?_
        refine ge_batch [0, 1] (ans := []) (vs := [(62, .bool (!q5)), (61, .bool q5)]) (l := []) (by kernel_rfl) trivial ?_
        refine ge_nil fun a hF => hK19 _ _ ?_ a hF
        by_cases hc9 : q5 = true
        · rw [if_pos hc9] at h
          refine we_known (t := 62) (b := !q5) (v := false) (by kernel_rfl) (congrArg (fun z => !z) hc9) ?_
          refine we_false (by kernel_rfl) ?_
          refine we_skip fun a hF => hK18 _ _ ?_ a hF
          refine we_seq fun K20 hK20 => ?_
          refine we_seq fun K21 hK21 => ?_
          refine we_region [(0, 0), (1, 0), (2, 0), (3, 0), (4, 0)] rfl ?_
          refine ge_batch [0, 1] (ans := []) (vs := [(66, .int .i64 (i1 : Int)), (65, .slice A0 l0.length c0)]) (l := []) (by kernel_rfl) trivial ?_
          by_cases hc10 : i1 ≤ l0.length
          · rw [if_pos hc10] at h
            refine ge_part (d := 67) (ty := 82) (t := 82) (el := 85) (sz := 7) (m := l0.length) (c := c0) (lo := 0) (hi := i1) (x := (.tmp 65)) (xl := none) (xh := some (.tmp 66)) (A := A0) (by kernel_rfl) (by kernel_rfl) rfl ⟨.i64, (i1 : Int), by kernel_rfl, rfl⟩ (by kernel_rfl) (by kernel_rfl) (by have f0 := hc10; have f1 := hL0; omega) (by have f0 := hc10; have f1 := hL0; omega) ?_
            refine ge_same (t := 67) (v := .slice (subA A0 c0 0 7) (i1 - 0) (c0 - 0)) (v' := .slice (subA A0 c0 0 7) (((l0.take i1).drop 0).length) (c0 - 0)) (by kernel_rfl) (by have f0 := hc10; have f1 := hL0; rw [show i1 - 0 = ((l0.take i1).drop 0).length by simp only [List.length_drop, List.length_take]; omega]) ?_
            refine ge_batch [3, 4] (ans := []) (vs := [(69, .int .i64 0), (68, .int .i64 (((l0.take i1).drop 0).length : Int))]) (l := []) (by kernel_rfl) trivial ?_
            refine ge_nil fun a hF => hK21 _ _ ?_ a hF
            refine we_block ?_
            have hS32 := hS31.bring 1 rfl
            have hS33 := hS32.bring 1 rfl
            rcases hq7 : iter (punctualref_CheckSet.r4 l0 i1 e1) K 0 with _ | (_ | rr2)
            · rw [hq7] at h; cases h
            · rw [hq7] at h
              simp only [] at h
              refine we_iter (A := punctualref_CheckSet.A4 K w0 l0 A0 c0 hR0 hL0 b1 i1 hc3 e1 hx2 b2 q2 q5 hc9 hc10) (B := punctualref_CheckSet.B4 K w0 l0 A0 c0 hR0 hL0 b1 i1 hc3 e1 hx2 b2 q2 q5 hc9 hc10) hq7 (fun a hF => ⟨hS33, hF.weaken ⟨by kernel_rfl, by kernel_rfl, by kernel_rfl, by kernel_rfl, by kernel_rfl, by kernel_rfl, by kernel_rfl, by kernel_rfl, by kernel_rfl, by kernel_rfl, trivial⟩⟩) (fun s o hf a w hA Q hQ => punctualref_CheckSet_r4 K w0 l0 A0 c0 hR0 hL0 b1 i1 hc3 e1 hx2 b2 q2 q5 hc9 hc10 s o hf a w hA Q hQ) ?_
              rintro _ a w15 _ ⟨rfl, hS48, hF⟩
              replace hS48 : St w0 w15 [Own.blk b2 (.cells #[.string e1.Name, .int .i64 e1.C, .int .i64 e1.T, .int .i64 e1.D, .int .i64 e1.J, .int .i64 e1.O, .int .i64 e1.P] 85 (0, 0)), Own.blk b1 (.cells #[.int .i64 0, .int .i64 0] 27 (0, 0))] := hS48
              refine hK20 [(0, .slice A0 l0.length c0), (2, .pointer (some ⟨b1, 0, none⟩)), (3, .int .i64 (i1 : Int)), (4, .pointer (some ⟨b2, 0, none⟩)), (22, .slice A0 l0.length c0), (23, .int .i64 (l0.length : Int)), (24, .int .i64 (i1 : Int))] w15 ?_ a hF
              refine we_seq fun K28 hK28 => ?_
              refine we_region [(0, 0), (1, 0), (2, 1), (3, 1), (4, 2), (5, 2)] rfl ?_
              refine ge_batch [0, 1] (ans := []) (vs := [(82, .agg #[.int .i64 10000, .int .i64 10000, .int .i64 10000, .int .i64 10000, .int .i64 10000, .int .i64 1000]), (81, .agg #[.int .i64 1, .int .i64 1, .int .i64 1, .int .i64 0, .int .i64 0, .int .i64 0])]) (l := []) (by kernel_rfl) trivial ?_
              refine ge_new (d := some 9) (o := .cells #[.int .i64 0, .int .i64 0, .int .i64 0, .int .i64 0, .int .i64 0, .int .i64 0] 162) (v := fun b => .pointer (some ⟨b, 0, none⟩)) hS48 (fun b => by kernel_rfl) fun b5 w16 hx7 hS49 => ?_
              refine ge_new (d := some 10) (o := .cells #[.int .i64 0, .int .i64 0, .int .i64 0, .int .i64 0, .int .i64 0, .int .i64 0] 162) (v := fun b => .pointer (some ⟨b, 0, none⟩)) hS49 (fun b => by kernel_rfl) fun b6 w17 hx8 hS50 => ?_
              have hS51 := hS50.bring 1 rfl
              refine ge_set (b := b5) (j := 0) (cs := #[.int .i64 0, .int .i64 0, .int .i64 0, .int .i64 0, .int .i64 0, .int .i64 0]) (t := 162) (vs := [.int .i64 1, .int .i64 1, .int .i64 1, .int .i64 0, .int .i64 0, .int .i64 0]) hS51 (by kernel_rfl) rfl rfl fun w18 hS52 => ?_
              have hS53 : St w0 w18 [Own.blk b5 (.cells #[.int .i64 1, .int .i64 1, .int .i64 1, .int .i64 0, .int .i64 0, .int .i64 0] 162 (0, 0)), Own.blk b6 (.cells #[.int .i64 0, .int .i64 0, .int .i64 0, .int .i64 0, .int .i64 0, .int .i64 0] 162 (0, 0)), Own.blk b2 (.cells #[.string e1.Name, .int .i64 e1.C, .int .i64 e1.T, .int .i64 e1.D, .int .i64 e1.J, .int .i64 e1.O, .int .i64 e1.P] 85 (0, 0)), Own.blk b1 (.cells #[.int .i64 0, .int .i64 0] 27 (0, 0))] := hS52
              have hS54 := hS53.bring 1 rfl
              refine ge_set (b := b6) (j := 0) (cs := #[.int .i64 0, .int .i64 0, .int .i64 0, .int .i64 0, .int .i64 0, .int .i64 0]) (t := 162) (vs := [.int .i64 10000, .int .i64 10000, .int .i64 10000, .int .i64 10000, .int .i64 10000, .int .i64 1000]) hS54 (by kernel_rfl) rfl rfl fun w19 hS55 => ?_
              have hS56 : St w0 w19 [Own.blk b6 (.cells #[.int .i64 10000, .int .i64 10000, .int .i64 10000, .int .i64 10000, .int .i64 10000, .int .i64 1000] 162 (0, 0)), Own.blk b5 (.cells #[.int .i64 1, .int .i64 1, .int .i64 1, .int .i64 0, .int .i64 0, .int .i64 0] 162 (0, 0)), Own.blk b2 (.cells #[.string e1.Name, .int .i64 e1.C, .int .i64 e1.T, .int .i64 e1.D, .int .i64 e1.J, .int .i64 e1.O, .int .i64 e1.P] 85 (0, 0)), Own.blk b1 (.cells #[.int .i64 0, .int .i64 0] 27 (0, 0))] := hS55
              refine ge_nil fun a hF => hK28 _ _ ?_ a hF
              refine we_seq fun K29 hK29 => ?_
              refine we_seq fun K30 hK30 => ?_
              refine we_region [(0, 0), (1, 1), (2, 0)] rfl ?_
              refine ge_batch [0] (ans := [.val (.string e1.Name), .val (.int .i64 e1.C), .val (.int .i64 e1.T), .val (.int .i64 e1.D), .val (.int .i64 e1.J), .val (.int .i64 e1.O), .val (.int .i64 e1.P)]) (vs := [(83, .agg #[.string e1.Name, .int .i64 e1.C, .int .i64 e1.T, .int .i64 e1.D, .int .i64 e1.J, .int .i64 e1.O, .int .i64 e1.P])]) (l := [.loaded ⟨b2, 0, none⟩ (.string e1.Name), .loaded ⟨b2, 1, none⟩ (.int .i64 e1.C), .loaded ⟨b2, 2, none⟩ (.int .i64 e1.T), .loaded ⟨b2, 3, none⟩ (.int .i64 e1.D), .loaded ⟨b2, 4, none⟩ (.int .i64 e1.J), .loaded ⟨b2, 5, none⟩ (.int .i64 e1.O), .loaded ⟨b2, 6, none⟩ (.int .i64 e1.P)]) (by kernel_rfl) ⟨hS56.cell 2 rfl rfl, hS56.cell 2 rfl rfl, hS56.cell 2 rfl rfl, hS56.cell 2 rfl rfl, hS56.cell 2 rfl rfl, hS56.cell 2 rfl rfl, hS56.cell 2 rfl rfl, trivial⟩ ?_
              refine ge_call (d := some 84) (f := 144) (args := #[.agg #[.string e1.Name, .int .i64 e1.C, .int .i64 e1.T, .int .i64 e1.D, .int .i64 e1.J, .int .i64 e1.O, .int .i64 e1.P]]) (by kernel_rfl) (punctualref_sixOf_ok e1 _ _ rfl) ?_
              rintro _ w20 ⟨rfl, hS57⟩
              refine ⟨_, rfl, hS57.below, ?_⟩
              have hS58 := hS56.call hS57
              refine ge_batch [2] (ans := []) (vs := [(85, .int .i64 0)]) (l := []) (by kernel_rfl) trivial ?_
              refine ge_nil fun a hF => hK30 _ _ ?_ a hF
              refine we_block ?_
              have hS59 := hS58.bring 3 rfl
              have hS60 := hS59.bring 3 rfl
              have hS61 := hS60.bring 3 rfl
              have hS62 := hS61.bring 3 rfl
              rcases hq11 : iter (punctualref_CheckSet.r5 i1 e1) K 0 with _ | (_ | rr1)
              · rw [hq11] at h; cases h
              · rw [hq11] at h
                simp only [] at h
                refine we_iter (A := punctualref_CheckSet.A5 K w0 l0 A0 c0 hR0 hL0 b1 i1 hc3 e1 hx2 b2 q2 q5 hc9 hc10 b5 b6) (B := punctualref_CheckSet.B5 K w0 l0 A0 c0 hR0 hL0 b1 i1 hc3 e1 hx2 b2 q2 q5 hc9 hc10 b5 b6) hq11 (fun a hF => ⟨hS62, hF.weaken ⟨by kernel_rfl, by kernel_rfl, by kernel_rfl, by kernel_rfl, by kernel_rfl, by kernel_rfl, by kernel_rfl, by kernel_rfl, by kernel_rfl, by kernel_rfl, by kernel_rfl, trivial⟩⟩) (fun s o hf a w hA Q hQ => punctualref_CheckSet_r5 K w0 l0 A0 c0 hR0 hL0 b1 i1 hc3 e1 hx2 b2 q2 q5 hc9 hc10 b5 b6 s o hf a w hA Q hQ) ?_
                rintro _ a w25 _ ⟨rfl, hS82, hF⟩
                replace hS82 : St w0 w25 [Own.blk b2 (.cells #[.string e1.Name, .int .i64 e1.C, .int .i64 e1.T, .int .i64 e1.D, .int .i64 e1.J, .int .i64 e1.O, .int .i64 e1.P] 85 (0, 0)), Own.blk b1 (.cells #[.int .i64 0, .int .i64 0] 27 (0, 0))] := hS82
                refine hK29 [(0, .slice A0 l0.length c0), (2, .pointer (some ⟨b1, 0, none⟩)), (3, .int .i64 (i1 : Int)), (4, .pointer (some ⟨b2, 0, none⟩)), (22, .slice A0 l0.length c0), (23, .int .i64 (l0.length : Int)), (24, .int .i64 (i1 : Int))] w25 ?_ a hF
                refine we_seq fun K38 hK38 => ?_
                refine we_region [(0, 0), (1, 0), (2, 0), (3, 0), (4, 0)] rfl ?_
                refine ge_batch [0, 1, 2, 3, 4] (ans := [.val (.int .i64 e1.D), .val (.int .i64 e1.C)]) (vs := [(108, .bool (decide (e1.D < e1.C))), (107, .int .i64 e1.C), (106, .pointer (some ⟨b2, 1, none⟩)), (105, .int .i64 e1.D), (104, .pointer (some ⟨b2, 3, none⟩))]) (l := [.loaded ⟨b2, 3, none⟩ (.int .i64 e1.D), .loaded ⟨b2, 1, none⟩ (.int .i64 e1.C)]) (by kernel_rfl) ⟨hS82.cell 0 rfl rfl, hS82.cell 0 rfl rfl, trivial⟩ ?_
                refine ge_nil fun a hF => hK38 _ _ ?_ a hF
                by_cases hc16 : e1.D < e1.C
                · rw [if_pos hc16] at h
                  refine we_known (t := 108) (b := decide (e1.D < e1.C)) (v := true) (by kernel_rfl) (decide_eq_true hc16) ?_
                  refine we_true (by kernel_rfl) ?_
                  refine we_seq fun K39 hK39 => ?_
                  refine we_region [(0, 0), (1, 1), (2, 2)] rfl ?_
                  refine ge_batch [0] (ans := []) (vs := [(109, .int .i64 (i1 : Int))]) (l := []) (by kernel_rfl) trivial ?_
                  refine ge_call (d := some 110) (f := 61) (args := #[.int .i64 12, .int .i64 (i1 : Int)]) (by kernel_rfl) (punctualref_F_ok 12 (i1 : Int) _ _ rfl) ?_
                  rintro _ w26 ⟨rfl, hS83⟩
                  refine ⟨_, rfl, hS83.below, ?_⟩
                  have hS84 := hS82.call hS83
                  have hS85 := hS84.bring 1 rfl
                  refine ge_set (b := b1) (j := 0) (cs := #[.int .i64 0, .int .i64 0]) (t := 27) (vs := [.int .i64 ((punctualref_F.f 12 (i1 : Int)).Code), .int .i64 ((punctualref_F.f 12 (i1 : Int)).At)]) hS85 (by kernel_rfl) rfl rfl fun w27 hS86 => ?_
                  have hS87 : St w0 w27 [Own.blk b1 (.cells #[.int .i64 ((punctualref_F.f 12 (i1 : Int)).Code), .int .i64 ((punctualref_F.f 12 (i1 : Int)).At)] 27 (0, 0)), Own.blk b2 (.cells #[.string e1.Name, .int .i64 e1.C, .int .i64 e1.T, .int .i64 e1.D, .int .i64 e1.J, .int .i64 e1.O, .int .i64 e1.P] 85 (0, 0))] := hS86
                  refine ge_nil fun a hF => hK39 _ _ ?_ a hF
                  have hS88 := hS87.takeN 0
                  obtain rfl := Option.some.inj h
                  exact we_ret fun a hF => hQ _ _ _ (Outs.out nofun (Exits.on ⟨rfl, (post_ret (rs := [.cell 2 27]) (ans := [.val (.int .i64 ((punctualref_F.f 12 (i1 : Int)).Code)), .val (.int .i64 ((punctualref_F.f 12 (i1 : Int)).At))]) (vs := [.agg #[.int .i64 ((punctualref_F.f 12 (i1 : Int)).Code), .int .i64 ((punctualref_F.f 12 (i1 : Int)).At)]]) (l := [.loaded ⟨b1, 0, none⟩ (.int .i64 ((punctualref_F.f 12 (i1 : Int)).Code)), .loaded ⟨b1, 1, none⟩ (.int .i64 ((punctualref_F.f 12 (i1 : Int)).At))]) rfl (by kernel_rfl) ⟨hS87.cell 0 rfl rfl, hS87.cell 0 rfl rfl, trivial⟩ ⟨rfl, hS88⟩) a hF⟩))
                · rw [if_neg hc16] at h
                  refine we_known (t := 108) (b := decide (e1.D < e1.C)) (v := false) (by kernel_rfl) (decide_eq_false hc16) ?_
                  refine we_false (by kernel_rfl) ?_
                  refine we_skip fun a hF => hK10 _ _ ?_ a hF
                  refine we_region [(0, 0), (1, 0)] rfl ?_
                  refine ge_addn (d := 111) (ty := 3) (x := (.tmp 24)) (y := (.const (.int .i64 1))) (t := 3) (t2 := 3) (k := .i64) (m := i1) (by kernel_rfl) (by kernel_rfl) (by kernel_rfl) (by have h0 := hR0.small; omega) ?_
                  refine ge_batch [1] (ans := []) (vs := [(24, .int .i64 ((i1 + 1 : Nat) : Int))]) (l := []) (by kernel_rfl) trivial ?_
                  have hS89 := hS82.bring 1 rfl
                  have hS90 := hS89.takeN 1
                  obtain rfl := Option.some.inj h
                  exact ge_nil fun a hF => hQ _ _ _ (Outs.again ⟨hS90, hF.weaken ⟨by kernel_rfl, by kernel_rfl, by kernel_rfl, by kernel_rfl, by kernel_rfl, trivial⟩⟩)
              · rw [hq11] at h
                simp only [] at h
                refine we_iter (A := punctualref_CheckSet.A5 K w0 l0 A0 c0 hR0 hL0 b1 i1 hc3 e1 hx2 b2 q2 q5 hc9 hc10 b5 b6) (B := punctualref_CheckSet.B5 K w0 l0 A0 c0 hR0 hL0 b1 i1 hc3 e1 hx2 b2 q2 q5 hc9 hc10 b5 b6) hq11 (fun a hF => ⟨hS62, hF.weaken ⟨by kernel_rfl, by kernel_rfl, by kernel_rfl, by kernel_rfl, by kernel_rfl, by kernel_rfl, by kernel_rfl, by kernel_rfl, by kernel_rfl, by kernel_rfl, by kernel_rfl, trivial⟩⟩) (fun s o hf a w hA Q hQ => punctualref_CheckSet_r5 K w0 l0 A0 c0 hR0 hL0 b1 i1 hc3 e1 hx2 b2 q2 q5 hc9 hc10 b5 b6 s o hf a w hA Q hQ) ?_
                rintro _ a w1 _ ⟨rfl, hb⟩
                obtain rfl := Option.some.inj h
                exact hQ _ _ _ (Outs.out nofun (Exits.on ⟨rfl, hb⟩))
            · rw [hq7] at h
              simp only [] at h
              refine we_iter (A := punctualref_CheckSet.A4 K w0 l0 A0 c0 hR0 hL0 b1 i1 hc3 e1 hx2 b2 q2 q5 hc9 hc10) (B := punctualref_CheckSet.B4 K w0 l0 A0 c0 hR0 hL0 b1 i1 hc3 e1 hx2 b2 q2 q5 hc9 hc10) hq7 (fun a hF => ⟨hS33, hF.weaken ⟨by kernel_rfl, by kernel_rfl, by kernel_rfl, by kernel_rfl, by kernel_rfl, by kernel_rfl, by kernel_rfl, by kernel_rfl, by kernel_rfl, by kernel_rfl, trivial⟩⟩) (fun s o hf a w hA Q hQ => punctualref_CheckSet_r4 K w0 l0 A0 c0 hR0 hL0 b1 i1 hc3 e1 hx2 b2 q2 q5 hc9 hc10 s o hf a w hA Q hQ) ?_
              rintro _ a w1 _ ⟨rfl, hb⟩
              obtain rfl := Option.some.inj h
              exact hQ _ _ _ (Outs.out nofun (Exits.on ⟨rfl, hb⟩))
          · rw [if_neg hc10] at h
            cases h
        · rw [if_neg hc9] at h
          refine we_known (t := 62) (b := !q5) (v := true) (by kernel_rfl) (congrArg (fun z => !z) (Bool.eq_false_iff.2 hc9)) ?_
          refine we_true (by kernel_rfl) ?_
          refine we_seq fun K40 hK40 => ?_
          refine we_region [(0, 0), (1, 1), (2, 2)] rfl ?_
          refine ge_batch [0] (ans := []) (vs := [(63, .int .i64 (i1 : Int))]) (l := []) (by kernel_rfl) trivial ?_
          refine ge_call (d := some 64) (f := 61) (args := #[.int .i64 4, .int .i64 (i1 : Int)]) (by kernel_rfl) (punctualref_F_ok 4 (i1 : Int) _ _ rfl) ?_
          rintro _ w28 ⟨rfl, hS91⟩
          refine ⟨_, rfl, hS91.below, ?_⟩
          have hS92 := hS31.call hS91
          have hS93 := hS92.bring 1 rfl
          refine ge_set (b := b1) (j := 0) (cs := #[.int .i64 0, .int .i64 0]) (t := 27) (vs := [.int .i64 ((punctualref_F.f 4 (i1 : Int)).Code), .int .i64 ((punctualref_F.f 4 (i1 : Int)).At)]) hS93 (by kernel_rfl) rfl rfl fun w29 hS94 => ?_
          have hS95 : St w0 w29 [Own.blk b1 (.cells #[.int .i64 ((punctualref_F.f 4 (i1 : Int)).Code), .int .i64 ((punctualref_F.f 4 (i1 : Int)).At)] 27 (0, 0)), Own.blk b2 (.cells #[.string e1.Name, .int .i64 e1.C, .int .i64 e1.T, .int .i64 e1.D, .int .i64 e1.J, .int .i64 e1.O, .int .i64 e1.P] 85 (0, 0))] := hS94
          refine ge_nil fun a hF => hK40 _ _ ?_ a hF
          have hS96 := hS95.takeN 0
          obtain rfl := Option.some.inj h
          exact we_ret fun a hF => hQ _ _ _ (Outs.out nofun (Exits.on ⟨rfl, (post_ret (rs := [.cell 2 27]) (ans := [.val (.int .i64 ((punctualref_F.f 4 (i1 : Int)).Code)), .val (.int .i64 ((punctualref_F.f 4 (i1 : Int)).At))]) (vs := [.agg #[.int .i64 ((punctualref_F.f 4 (i1 : Int)).Code), .int .i64 ((punctualref_F.f 4 (i1 : Int)).At)]]) (l := [.loaded ⟨b1, 0, none⟩ (.int .i64 ((punctualref_F.f 4 (i1 : Int)).Code)), .loaded ⟨b1, 1, none⟩ (.int .i64 ((punctualref_F.f 4 (i1 : Int)).At))]) rfl (by kernel_rfl) ⟨hS95.cell 0 rfl rfl, hS95.cell 0 rfl rfl, trivial⟩ ⟨rfl, hS96⟩) a hF⟩))
      · rw [hq5] at h
        simp only [] at h
        refine we_iter (A := punctualref_CheckSet.A3 K w0 l0 A0 c0 hR0 hL0 b1 i1 hc3 e1 hx2 b2 q2) (B := punctualref_CheckSet.B3 K w0 l0 A0 c0 hR0 hL0 b1 i1 hc3 e1 hx2 b2 q2) hq5 (fun a hF => ⟨hS22, hF.weaken ⟨by kernel_rfl, by kernel_rfl, by kernel_rfl, by kernel_rfl, by kernel_rfl, by kernel_rfl, by kernel_rfl, by kernel_rfl, by kernel_rfl, trivial⟩⟩) (fun s o hf a w hA Q hQ => punctualref_CheckSet_r3 K w0 l0 A0 c0 hR0 hL0 b1 i1 hc3 e1 hx2 b2 q2 s o hf a w hA Q hQ) ?_
        rintro _ a w1 _ ⟨rfl, hb⟩
        obtain rfl := Option.some.inj h
        exact hQ _ _ _ (Outs.out nofun (Exits.on ⟨rfl, hb⟩))
    · rw [hq4] at h
      simp only [] at h
      refine we_keep (e' := [(0, .slice A0 l0.length c0), (2, .pointer (some ⟨b1, 0, none⟩)), (3, .int .i64 (i1 : Int)), (4, .pointer (some ⟨b2, 0, none⟩)), (22, .slice A0 l0.length c0), (23, .int .i64 (l0.length : Int)), (24, .int .i64 (i1 : Int)), (25, .bool true), (26, .int .i64 (i1 : Int)), (27, .pointer (some ⟨blkOf A0, offOf A0 + i1 * 7, none⟩)), (28, .agg #[.string e1.Name, .int .i64 e1.C, .int .i64 e1.T, .int .i64 e1.D, .int .i64 e1.J, .int .i64 e1.O, .int .i64 e1.P])]) ⟨by kernel_rfl, by kernel_rfl, by kernel_rfl, by kernel_rfl, by kernel_rfl, by kernel_rfl, by kernel_rfl, by kernel_rfl, by kernel_rfl, by kernel_rfl, by kernel_rfl, trivial⟩ (punctualref_CheckSet_p2 K w0 l0 A0 c0 hR0 hL0 b1 i1 hc3 e1 hx2 b2 _ hq4 _ hS15 _ ?_)
      rintro _ a w1 ⟨_, rfl, hb⟩
      obtain rfl := Option.some.inj h
      exact hQ _ _ _ (Outs.out nofun (Exits.on ⟨rfl, hb⟩))
  · rw [if_neg hc3] at h
    refine we_known (t := 25) (b := decide ((i1 : Int) < (l0.length : Int))) (v := false) (by kernel_rfl) (decide_eq_false hc3) ?_
    refine we_false (by kernel_rfl) ?_
    obtain rfl := Option.some.inj h
    exact we_exit fun a hF => hQ _ _ _ (Outs.out nofun (Exits.here ⟨hS, hF.weaken ⟨by kernel_rfl, trivial⟩⟩))
theorem punctualref_CheckSet_ok (K : Nat) (l0 : List STask) (A0 : Option Addr) (c0 : Nat) (w0 : World) (hR0 : RdL w0 A0 l0) (hL0 : l0.length ≤ c0) (r : SFault) (h : punctualref_CheckSet.f K l0 = some r) :
    Calls Tryd.prog 126 #[.slice A0 l0.length c0] w0 (punctualref_CheckSet.Post w0 r) := by
  have hS := St.start w0
  unfold punctualref_CheckSet.f at h
  refine calls_enter (n := 113) (args := [.slice A0 l0.length c0]) (fn := Tryd.f126) rfl rfl rfl rfl ?_
  show WE _ _ _ _ [(0, .slice A0 l0.length c0)] _
  refine we_seq fun K1 hK1 => ?_
  refine we_region [(0, 1)] rfl ?_
  refine ge_new (d := some 2) (o := .cells #[.int .i64 0, .int .i64 0] 27) (v := fun b => .pointer (some ⟨b, 0, none⟩)) hS (fun b => by kernel_rfl) fun b1 w1 hx1 hS1 => ?_
  refine ge_nil fun a hF => hK1 _ _ ?_ a hF
  refine we_seq fun K2 hK2 => ?_
  rcases hq3 : punctualref_CheckSet.p0 l0 with _ | (_ | rr6)
  · rw [hq3] at h; cases h
  · rw [hq3] at h
    simp only [] at h
    refine we_keep (e' := [(0, .slice A0 l0.length c0), (2, .pointer (some ⟨b1, 0, none⟩))]) ⟨by kernel_rfl, by kernel_rfl, trivial⟩ (punctualref_CheckSet_p0 K w0 l0 A0 c0 hR0 hL0 b1 _ hq3 _ hS1 _ ?_)
    rintro _ a w6 ⟨rfl, hS12, hF⟩
    replace hS12 : St w0 w6 [Own.blk b1 (.cells #[.int .i64 0, .int .i64 0] 27 (0, 0))] := hS12
    refine hK2 [(0, .slice A0 l0.length c0), (2, .pointer (some ⟨b1, 0, none⟩))] w6 ?_ a hF
    refine we_seq fun K6 hK6 => ?_
    refine we_seq fun K7 hK7 => ?_
    refine we_region [(0, 0), (1, 0), (2, 0)] rfl ?_
    refine ge_batch [0, 1, 2] (ans := []) (vs := [(24, .int .i64 0), (23, .int .i64 (l0.length : Int)), (22, .slice A0 l0.length c0)]) (l := []) (by kernel_rfl) trivial ?_
    refine ge_nil fun a hF => hK7 _ _ ?_ a hF
    refine we_block ?_
    rcases hq14 : iter (punctualref_CheckSet.r1 K l0) K 0 with _ | (_ | rr5)
    · rw [hq14] at h; cases h
    · rw [hq14] at h
      simp only [] at h
      refine we_iter (A := punctualref_CheckSet.A1 K w0 l0 A0 c0 hR0 hL0 b1) (B := punctualref_CheckSet.B1 K w0 l0 A0 c0 hR0 hL0 b1) hq14 (fun a hF => ⟨hS12, hF.weaken ⟨by kernel_rfl, by kernel_rfl, by kernel_rfl, by kernel_rfl, by kernel_rfl, trivial⟩⟩) (fun s o hf a w hA Q hQ => punctualref_CheckSet_r1 K w0 l0 A0 c0 hR0 hL0 b1 s o hf a w hA Q hQ) ?_
      rintro _ a w30 _ ⟨rfl, hS97, hF⟩
      replace hS97 : St w0 w30 [Own.blk b1 (.cells #[.int .i64 0, .int .i64 0] 27 (0, 0))] := hS97
      refine hK6 [(2, .pointer (some ⟨b1, 0, none⟩))] w30 ?_ a hF
      refine we_seq fun K41 hK41 => ?_
      refine we_region [(0, 0), (1, 2)] rfl ?_
      refine ge_batch [0] (ans := []) (vs := [(112, .agg #[.int .i64 0, .int .i64 0])]) (l := []) (by kernel_rfl) trivial ?_
      refine ge_set (b := b1) (j := 0) (cs := #[.int .i64 0, .int .i64 0]) (t := 27) (vs := [.int .i64 0, .int .i64 0]) hS97 (by kernel_rfl) rfl rfl fun w31 hS98 => ?_
      have hS99 : St w0 w31 [Own.blk b1 (.cells #[.int .i64 0, .int .i64 0] 27 (0, 0))] := hS98
      refine ge_nil fun a hF => hK41 _ _ ?_ a hF
      have hS100 := hS99.takeN 0
      obtain rfl := Option.some.inj h
      exact we_ret (post_ret (rs := [.cell 2 27]) (ans := [.val (.int .i64 0), .val (.int .i64 0)]) (vs := [.agg #[.int .i64 0, .int .i64 0]]) (l := [.loaded ⟨b1, 0, none⟩ (.int .i64 0), .loaded ⟨b1, 1, none⟩ (.int .i64 0)]) rfl (by kernel_rfl) ⟨hS99.cell 0 rfl rfl, hS99.cell 0 rfl rfl, trivial⟩ ⟨rfl, hS100⟩)
    · rw [hq14] at h
      simp only [] at h
      refine we_iter (A := punctualref_CheckSet.A1 K w0 l0 A0 c0 hR0 hL0 b1) (B := punctualref_CheckSet.B1 K w0 l0 A0 c0 hR0 hL0 b1) hq14 (fun a hF => ⟨hS12, hF.weaken ⟨by kernel_rfl, by kernel_rfl, by kernel_rfl, by kernel_rfl, by kernel_rfl, trivial⟩⟩) (fun s o hf a w hA Q hQ => punctualref_CheckSet_r1 K w0 l0 A0 c0 hR0 hL0 b1 s o hf a w hA Q hQ) ?_
      rintro _ a w1 _ ⟨rfl, hb⟩
      obtain rfl := Option.some.inj h
      exact hb
  · rw [hq3] at h
    simp only [] at h
    refine we_keep (e' := [(0, .slice A0 l0.length c0), (2, .pointer (some ⟨b1, 0, none⟩))]) ⟨by kernel_rfl, by kernel_rfl, trivial⟩ (punctualref_CheckSet_p0 K w0 l0 A0 c0 hR0 hL0 b1 _ hq3 _ hS1 _ ?_)
    rintro _ a w1 ⟨_, rfl, hb⟩
    obtain rfl := Option.some.inj h
    exact hb

/-! punctual/punctualref.CheckFixed -/
abbrev punctualref_CheckFixed.Post (w0 : World) (r : SFault) (e : Ending) (w : World) : Prop := e = .returned (.agg #[.int .i64 r.Code, .int .i64 r.At]) ∧ St w0 w []
def punctualref_CheckFixed.r0 (l0 : List STask) : Nat → Option (Nat ⊕ (Unit ⊕ SFault))
  | i1 =>
    if (i1 : Int) < (l0.length : Int) then
      match l0[i1]? with
      | none => none
      | some e1 =>
        if e1.D > e1.T then
          some (.inr (.inr (punctualref_F.f 12 (i1 : Int))))
        else
          some (.inl (i1 + 1))
    else
      some (.inr (.inl ()))
def punctualref_CheckFixed.f (K : Nat) (l0 : List STask) : Option SFault :=
  match punctualref_CheckSet.f K l0 with
  | none => none
  | some r1 =>
    if r1.Code = 0 then
      match iter (punctualref_CheckFixed.r0 l0) K 0 with
      | none => none
      | some (.inl _) =>
        some (⟨0, 0⟩ : SFault)
      | some (.inr rr1) =>
        some rr1
    else
      some r1
abbrev punctualref_CheckFixed.A0 (K : Nat) (w0 : World) (l0 : List STask) (A0 : Option Addr) (c0 : Nat) (hR0 : RdL w0 A0 l0) (hL0 : l0.length ≤ c0) (b1 : Nat) (r1 : SFault) (b2 : Nat) (hc1 : r1.Code = 0) : Nat → Act → World → Prop := fun (s : Nat) a w => St w0 w [Own.blk b1 (.cells #[.int .i64 0, .int .i64 0] 27 (0, 0))] ∧ Frm 28 a [(2, .pointer (some ⟨b1, 0, none⟩)), (12, .slice A0 l0.length c0), (13, .int .i64 (l0.length : Int)), (14, .int .i64 (s : Int))]
abbrev punctualref_CheckFixed.B0 (K : Nat) (w0 : World) (l0 : List STask) (A0 : Option Addr) (c0 : Nat) (hR0 : RdL w0 A0 l0) (hL0 : l0.length ≤ c0) (b1 : Nat) (r1 : SFault) (b2 : Nat) (hc1 : r1.Code = 0) : (Unit ⊕ SFault) → Exit → Act → World → Prop := Exits 0 (fun (s : Unit) a w => St w0 w [Own.blk b1 (.cells #[.int .i64 0, .int .i64 0] 27 (0, 0))] ∧ Frm 28 a [(2, .pointer (some ⟨b1, 0, none⟩))]) (Rets Tryd.prog Tryd.f111 (punctualref_CheckFixed.Post w0))
theorem punctualref_CheckFixed_r0 (K : Nat) (w0 : World) (l0 : List STask) (A0 : Option Addr) (c0 : Nat) (hR0 : RdL w0 A0 l0) (hL0 : l0.length ≤ c0) (b1 : Nat) (r1 : SFault) (b2 : Nat) (hc1 : r1.Code = 0) (s : Nat) (o : Nat ⊕ (Unit ⊕ SFault)) (h : punctualref_CheckFixed.r0 l0 s = some o) (a : Act) (w : World) (hA : punctualref_CheckFixed.A0 K w0 l0 A0 c0 hR0 hL0 b1 r1 b2 hc1 s a w) (Q : Exit → Act → World → Prop) (hQ : ∀ x a w, Outs (punctualref_CheckFixed.A0 K w0 l0 A0 c0 hR0 hL0 b1 r1 b2 hc1) (punctualref_CheckFixed.B0 K w0 l0 A0 c0 hR0 hL0 b1 r1 b2 hc1) o x a w → Q x a w) : (subF Tryd.f111 [1, 1, 0, 1, 0, 0]).wp Tryd.prog Q a w := by
  obtain ⟨i1, hs⟩ : ∃ z, z = s := ⟨s, rfl⟩
  subst hs
  obtain ⟨hS, hF⟩ := hA
  replace hS : St w0 w [Own.blk b1 (.cells #[.int .i64 0, .int .i64 0] 27 (0, 0))] := hS
  simp only [punctualref_CheckFixed.r0] at h
  refine (?_ : WE Tryd.prog 28 (subF Tryd.f111 [1, 1, 0, 1, 0, 0]) Q [(2, .pointer (some ⟨b1, 0, none⟩)), (12, .slice A0 l0.length c0), (13, .int .i64 (l0.length : Int)), (14, .int .i64 (i1 : Int))] w) a hF
  clear hF a
  refine we_seq fun K7 hK7 => ?_
  refine we_region [(0, 0)] rfl ?_
  refine ge_batch [0] (ans := []) (vs := [(15, .bool (decide ((i1 : Int) < (l0.length : Int))))]) (l := []) (by kernel_rfl) trivial ?_
  refine ge_nil fun a hF => hK7 _ _ ?_ a hF
  refine we_seq fun K8 hK8 => ?_
  by_cases hc2 : (i1 : Int) < (l0.length : Int)
  · rw [if_pos hc2] at h
    refine we_known (t := 15) (b := decide ((i1 : Int) < (l0.length : Int))) (v := true) (by kernel_rfl) (decide_eq_true hc2) ?_
    refine we_true (by kernel_rfl) ?_
    refine we_skip fun a hF => hK8 _ _ ?_ a hF
    refine we_seq fun K9 hK9 => ?_
    refine we_block ?_
    refine we_seq fun K10 hK10 => ?_
    refine we_region [(0, 0), (1, 0), (2, 0), (3, 1), (4, 0), (5, 2)] rfl ?_
    refine ge_batch [0] (ans := []) (vs := [(16, .int .i64 (i1 : Int))]) (l := []) (by kernel_rfl) trivial ?_
    rcases hx3 : l0[i1]? with _ | e1
    · rw [hx3] at h; cases h
    rw [hx3] at h
    simp only [] at h
    refine ge_index (d := 17) (ty := 0) (t := 82) (el := 85) (sz := 7) (m := l0.length) (c := c0) (x := (.tmp 12)) (y := (.tmp 14)) (A := A0) (k' := .i64) (j := (i1 : Int)) (jn := i1) (b0 := blkOf A0) (o0 := offOf A0) (by kernel_rfl) (by kernel_rfl) (by kernel_rfl) (by kernel_rfl) (by kernel_rfl) ((hS.rd hR0).eqSome (pos_of_get hx3)) rfl (lt_of_get hx3) ?_
    refine ge_batch [2] (ans := [.val (.string e1.Name), .val (.int .i64 e1.C), .val (.int .i64 e1.T), .val (.int .i64 e1.D), .val (.int .i64 e1.J), .val (.int .i64 e1.O), .val (.int .i64 e1.P)]) (vs := [(18, .agg #[.string e1.Name, .int .i64 e1.C, .int .i64 e1.T, .int .i64 e1.D, .int .i64 e1.J, .int .i64 e1.O, .int .i64 e1.P])]) (l := [.loaded ⟨blkOf A0, offOf A0 + i1 * 7, none⟩ (.string e1.Name), .loaded ⟨blkOf A0, offOf A0 + i1 * 7 + 1, none⟩ (.int .i64 e1.C), .loaded ⟨blkOf A0, offOf A0 + i1 * 7 + 2, none⟩ (.int .i64 e1.T), .loaded ⟨blkOf A0, offOf A0 + i1 * 7 + 3, none⟩ (.int .i64 e1.D), .loaded ⟨blkOf A0, offOf A0 + i1 * 7 + 4, none⟩ (.int .i64 e1.J), .loaded ⟨blkOf A0, offOf A0 + i1 * 7 + 5, none⟩ (.int .i64 e1.O), .loaded ⟨blkOf A0, offOf A0 + i1 * 7 + 6, none⟩ (.int .i64 e1.P)]) (by kernel_rfl) ⟨RdL.cell (j := 0) (hS.rd hR0) hx3 rfl, RdL.cell (j := 1) (hS.rd hR0) hx3 rfl, RdL.cell (j := 2) (hS.rd hR0) hx3 rfl, RdL.cell (j := 3) (hS.rd hR0) hx3 rfl, RdL.cell (j := 4) (hS.rd hR0) hx3 rfl, RdL.cell (j := 5) (hS.rd hR0) hx3 rfl, RdL.cell (j := 6) (hS.rd hR0) hx3 rfl, trivial⟩ ?_
    refine ge_new (d := some 5) (o := .cells #[.string (⟨#[]⟩), .int .i64 0, .int .i64 0, .int .i64 0, .int .i64 0, .int .i64 0, .int .i64 0] 85) (v := fun b => .pointer (some ⟨b, 0, none⟩)) hS (fun b => by kernel_rfl) fun b3 w5 hx4 hS9 => ?_
    refine ge_batch [4] (ans := []) (vs := [(4, .int .i64 (i1 : Int))]) (l := []) (by kernel_rfl) trivial ?_
    refine ge_set (b := b3) (j := 0) (cs := #[.string (⟨#[]⟩), .int .i64 0, .int .i64 0, .int .i64 0, .int .i64 0, .int .i64 0, .int .i64 0]) (t := 85) (vs := [.string e1.Name, .int .i64 e1.C, .int .i64 e1.T, .int .i64 e1.D, .int .i64 e1.J, .int .i64 e1.O, .int .i64 e1.P]) hS9 (by kernel_rfl) rfl rfl fun w6 hS10 => ?_
    have hS11 : St w0 w6 [Own.blk b3 (.cells #[.string e1.Name, .int .i64 e1.C, .int .i64 e1.T, .int .i64 e1.D, .int .i64 e1.J, .int .i64 e1.O, .int .i64 e1.P] 85 (0, 0)), Own.blk b1 (.cells #[.int .i64 0, .int .i64 0] 27 (0, 0))] := hS10
    refine ge_nil fun a hF => hK10 _ _ ?_ a hF
    refine we_seq fun K11 hK11 => ?_
    refine we_region [(0, 0), (1, 0), (2, 0), (3, 0), (4, 0)] rfl ?_
    refine ge_batch [0, 1, 2, 3, 4] (ans := [.val (.int .i64 e1.D), .val (.int .i64 e1.T)]) (vs := [(23, .bool (decide (e1.D > e1.T))), (22, .int .i64 e1.T), (21, .pointer (some ⟨b3, 2, none⟩)), (20, .int .i64 e1.D), (19, .pointer (some ⟨b3, 3, none⟩))]) (l := [.loaded ⟨b3, 3, none⟩ (.int .i64 e1.D), .loaded ⟨b3, 2, none⟩ (.int .i64 e1.T)]) (by kernel_rfl) ⟨hS11.cell 0 rfl rfl, hS11.cell 0 rfl rfl, trivial⟩ ?_
    refine ge_nil fun a hF => hK11 _ _ ?_ a hF
    by_cases hc3 : e1.D > e1.T
    · rw [if_pos hc3] at h
      refine we_known (t := 23) (b := decide (e1.D > e1.T)) (v := true) (by kernel_rfl) (decide_eq_true hc3) ?_
      refine we_true (by kernel_rfl) ?_
      refine we_seq fun K12 hK12 => ?_
      refine we_region [(0, 0), (1, 1), (2, 2)] rfl ?_
      refine ge_batch [0] (ans := []) (vs := [(24, .int .i64 (i1 : Int))]) (l := []) (by kernel_rfl) trivial ?_
      refine ge_call (d := some 25) (f := 61) (args := #[.int .i64 12, .int .i64 (i1 : Int)]) (by kernel_rfl) (punctualref_F_ok 12 (i1 : Int) _ _ rfl) ?_
      rintro _ w7 ⟨rfl, hS12⟩
      refine ⟨_, rfl, hS12.below, ?_⟩
      have hS13 := hS11.call hS12
      have hS14 := hS13.bring 1 rfl
      refine ge_set (b := b1) (j := 0) (cs := #[.int .i64 0, .int .i64 0]) (t := 27) (vs := [.int .i64 ((punctualref_F.f 12 (i1 : Int)).Code), .int .i64 ((punctualref_F.f 12 (i1 : Int)).At)]) hS14 (by kernel_rfl) rfl rfl fun w8 hS15 => ?_
      have hS16 : St w0 w8 [Own.blk b1 (.cells #[.int .i64 ((punctualref_F.f 12 (i1 : Int)).Code), .int .i64 ((punctualref_F.f 12 (i1 : Int)).At)] 27 (0, 0)), Own.blk b3 (.cells #[.string e1.Name, .int .i64 e1.C, .int .i64 e1.T, .int .i64 e1.D, .int .i64 e1.J, .int .i64 e1.O, .int .i64 e1.P] 85 (0, 0))] := hS15
      refine ge_nil fun a hF => hK12 _ _ ?_ a hF
      have hS17 := hS16.takeN 0
      obtain rfl := Option.some.inj h
      exact we_ret fun a hF => hQ _ _ _ (Outs.out nofun (Exits.on ⟨rfl, (post_ret (rs := [.cell 2 27]) (ans := [.val (.int .i64 ((punctualref_F.f 12 (i1 : Int)).Code)), .val (.int .i64 ((punctualref_F.f 12 (i1 : Int)).At))]) (vs := [.agg #[.int .i64 ((punctualref_F.f 12 (i1 : Int)).Code), .int .i64 ((punctualref_F.f 12 (i1 : Int)).At)]]) (l := [.loaded ⟨b1, 0, none⟩ (.int .i64 ((punctualref_F.f 12 (i1 : Int)).Code)), .loaded ⟨b1, 1, none⟩ (.int .i64 ((punctualref_F.f 12 (i1 : Int)).At))]) rfl (by kernel_rfl) ⟨hS16.cell 0 rfl rfl, hS16.cell 0 rfl rfl, trivial⟩ ⟨rfl, hS17⟩) a hF⟩))
    · rw [if_neg hc3] at h
      refine we_known (t := 23) (b := decide (e1.D > e1.T)) (v := false) (by kernel_rfl) (decide_eq_false hc3) ?_
      refine we_false (by kernel_rfl) ?_
      refine we_skip fun a hF => hK9 _ _ ?_ a hF
      refine we_region [(0, 0), (1, 0)] rfl ?_
      refine ge_addn (d := 26) (ty := 3) (x := (.tmp 14)) (y := (.const (.int .i64 1))) (t := 3) (t2 := 3) (k := .i64) (m := i1) (by kernel_rfl) (by kernel_rfl) (by kernel_rfl) (by have h0 := hR0.small; omega) ?_
      refine ge_batch [1] (ans := []) (vs := [(14, .int .i64 ((i1 + 1 : Nat) : Int))]) (l := []) (by kernel_rfl) trivial ?_
      have hS18 := hS11.bring 1 rfl
      have hS19 := hS18.takeN 1
      obtain rfl := Option.some.inj h
      exact ge_nil fun a hF => hQ _ _ _ (Outs.again ⟨hS19, hF.weaken ⟨by kernel_rfl, by kernel_rfl, by kernel_rfl, by kernel_rfl, trivial⟩⟩)
  · rw [if_neg hc2] at h
    refine we_known (t := 15) (b := decide ((i1 : Int) < (l0.length : Int))) (v := false) (by kernel_rfl) (decide_eq_false hc2) ?_
    refine we_false (by kernel_rfl) ?_
    obtain rfl := Option.some.inj h
    exact we_exit fun a hF => hQ _ _ _ (Outs.out nofun (Exits.here ⟨hS, hF.weaken ⟨by kernel_rfl, trivial⟩⟩))
theorem punctualref_CheckFixed_ok (K : Nat) (l0 : List STask) (A0 : Option Addr) (c0 : Nat) (w0 : World) (hR0 : RdL w0 A0 l0) (hL0 : l0.length ≤ c0) (r : SFault) (h : punctualref_CheckFixed.f K l0 = some r) :
    Calls Tryd.prog 111 #[.slice A0 l0.length c0] w0 (punctualref_CheckFixed.Post w0 r) := by
  have hS := St.start w0
  unfold punctualref_CheckFixed.f at h
  refine calls_enter (n := 28) (args := [.slice A0 l0.length c0]) (fn := Tryd.f111) rfl rfl rfl rfl ?_
  show WE _ _ _ _ [(0, .slice A0 l0.length c0)] _
  refine we_seq fun K1 hK1 => ?_
  refine we_region [(0, 1)] rfl ?_
  refine ge_new (d := some 2) (o := .cells #[.int .i64 0, .int .i64 0] 27) (v := fun b => .pointer (some ⟨b, 0, none⟩)) hS (fun b => by kernel_rfl) fun b1 w1 hx1 hS1 => ?_
  refine ge_nil fun a hF => hK1 _ _ ?_ a hF
  refine we_seq fun K2 hK2 => ?_
  refine we_seq fun K3 hK3 => ?_
  refine we_region [(0, 0), (1, 1), (2, 1), (3, 2)] rfl ?_
  rcases hq1 : punctualref_CheckSet.f K l0 with _ | r1
  · rw [hq1] at h; cases h
  rw [hq1] at h
  simp only [] at h
  refine ge_batch [0] (ans := []) (vs := [(6, .slice A0 l0.length c0)]) (l := []) (by kernel_rfl) trivial ?_
  refine ge_call (d := some 7) (f := 126) (args := #[.slice A0 l0.length c0]) (by kernel_rfl) (punctualref_CheckSet_ok K l0 A0 c0 _ (hS1.rd hR0) hL0 _ hq1) ?_
  rintro _ w2 ⟨rfl, hS2⟩
  refine ⟨_, rfl, hS2.below, ?_⟩
  have hS3 := hS1.call hS2
  refine ge_new (d := some 3) (o := .cells #[.int .i64 0, .int .i64 0] 27) (v := fun b => .pointer (some ⟨b, 0, none⟩)) hS3 (fun b => by kernel_rfl) fun b2 w3 hx2 hS4 => ?_
  refine ge_set (b := b2) (j := 0) (cs := #[.int .i64 0, .int .i64 0]) (t := 27) (vs := [.int .i64 r1.Code, .int .i64 r1.At]) hS4 (by kernel_rfl) rfl rfl fun w4 hS5 => ?_
  have hS6 : St w0 w4 [Own.blk b2 (.cells #[.int .i64 r1.Code, .int .i64 r1.At] 27 (0, 0)), Own.blk b1 (.cells #[.int .i64 0, .int .i64 0] 27 (0, 0))] := hS5
  refine ge_nil fun a hF => hK3 _ _ ?_ a hF
  refine we_seq fun K4 hK4 => ?_
  refine we_region [(0, 0), (1, 0), (2, 0)] rfl ?_
  refine ge_batch [0, 1, 2] (ans := [.val (.int .i64 r1.Code)]) (vs := [(10, .bool (r1.Code != 0)), (9, .int .i64 r1.Code), (8, .pointer (some ⟨b2, 0, none⟩))]) (l := [.loaded ⟨b2, 0, none⟩ (.int .i64 r1.Code)]) (by kernel_rfl) ⟨hS6.cell 0 rfl rfl, trivial⟩ ?_
  refine ge_nil fun a hF => hK4 _ _ ?_ a hF
  by_cases hc1 : r1.Code = 0
  · rw [if_pos hc1] at h
    refine we_known (t := 10) (b := (r1.Code != 0)) (v := false) (by kernel_rfl) (bne_eq_false_iff_eq.2 hc1) ?_
    refine we_false (by kernel_rfl) ?_
    refine we_skip fun a hF => hK2 _ _ ?_ a hF
    refine we_seq fun K5 hK5 => ?_
    refine we_seq fun K6 hK6 => ?_
    refine we_region [(0, 0), (1, 0), (2, 0)] rfl ?_
    refine ge_batch [0, 1, 2] (ans := []) (vs := [(14, .int .i64 0), (13, .int .i64 (l0.length : Int)), (12, .slice A0 l0.length c0)]) (l := []) (by kernel_rfl) trivial ?_
    refine ge_nil fun a hF => hK6 _ _ ?_ a hF
    refine we_block ?_
    have hS7 := hS6.bring 1 rfl
    have hS8 := hS7.takeN 1
    rcases hq3 : iter (punctualref_CheckFixed.r0 l0) K 0 with _ | (_ | rr1)
    · rw [hq3] at h; cases h
    · rw [hq3] at h
      simp only [] at h
      refine we_iter (A := punctualref_CheckFixed.A0 K w0 l0 A0 c0 hR0 hL0 b1 r1 b2 hc1) (B := punctualref_CheckFixed.B0 K w0 l0 A0 c0 hR0 hL0 b1 r1 b2 hc1) hq3 (fun a hF => ⟨hS8, hF.weaken ⟨by kernel_rfl, by kernel_rfl, by kernel_rfl, by kernel_rfl, trivial⟩⟩) (fun s o hf a w hA Q hQ => punctualref_CheckFixed_r0 K w0 l0 A0 c0 hR0 hL0 b1 r1 b2 hc1 s o hf a w hA Q hQ) ?_
      rintro _ a w9 _ ⟨rfl, hS20, hF⟩
      replace hS20 : St w0 w9 [Own.blk b1 (.cells #[.int .i64 0, .int .i64 0] 27 (0, 0))] := hS20
      refine hK5 [(2, .pointer (some ⟨b1, 0, none⟩))] w9 ?_ a hF
      refine we_seq fun K13 hK13 => ?_
      refine we_region [(0, 0), (1, 2)] rfl ?_
      refine ge_batch [0] (ans := []) (vs := [(27, .agg #[.int .i64 0, .int .i64 0])]) (l := []) (by kernel_rfl) trivial ?_
      refine ge_set (b := b1) (j := 0) (cs := #[.int .i64 0, .int .i64 0]) (t := 27) (vs := [.int .i64 0, .int .i64 0]) hS20 (by kernel_rfl) rfl rfl fun w10 hS21 => ?_
      have hS22 : St w0 w10 [Own.blk b1 (.cells #[.int .i64 0, .int .i64 0] 27 (0, 0))] := hS21
      refine ge_nil fun a hF => hK13 _ _ ?_ a hF
      have hS23 := hS22.takeN 0
      obtain rfl := Option.some.inj h
      exact we_ret (post_ret (rs := [.cell 2 27]) (ans := [.val (.int .i64 0), .val (.int .i64 0)]) (vs := [.agg #[.int .i64 0, .int .i64 0]]) (l := [.loaded ⟨b1, 0, none⟩ (.int .i64 0), .loaded ⟨b1, 1, none⟩ (.int .i64 0)]) rfl (by kernel_rfl) ⟨hS22.cell 0 rfl rfl, hS22.cell 0 rfl rfl, trivial⟩ ⟨rfl, hS23⟩)
    · rw [hq3] at h
      simp only [] at h
      refine we_iter (A := punctualref_CheckFixed.A0 K w0 l0 A0 c0 hR0 hL0 b1 r1 b2 hc1) (B := punctualref_CheckFixed.B0 K w0 l0 A0 c0 hR0 hL0 b1 r1 b2 hc1) hq3 (fun a hF => ⟨hS8, hF.weaken ⟨by kernel_rfl, by kernel_rfl, by kernel_rfl, by kernel_rfl, trivial⟩⟩) (fun s o hf a w hA Q hQ => punctualref_CheckFixed_r0 K w0 l0 A0 c0 hR0 hL0 b1 r1 b2 hc1 s o hf a w hA Q hQ) ?_
      rintro _ a w1 _ ⟨rfl, hb⟩
      obtain rfl := Option.some.inj h
      exact hb
  · rw [if_neg hc1] at h
    refine we_known (t := 10) (b := (r1.Code != 0)) (v := true) (by kernel_rfl) (bne_iff_ne.2 hc1) ?_
    refine we_true (by kernel_rfl) ?_
    refine we_seq fun K14 hK14 => ?_
    refine we_region [(0, 0), (1, 2)] rfl ?_
    refine ge_batch [0] (ans := [.val (.int .i64 r1.Code), .val (.int .i64 r1.At)]) (vs := [(11, .agg #[.int .i64 r1.Code, .int .i64 r1.At])]) (l := [.loaded ⟨b2, 0, none⟩ (.int .i64 r1.Code), .loaded ⟨b2, 1, none⟩ (.int .i64 r1.At)]) (by kernel_rfl) ⟨hS6.cell 0 rfl rfl, hS6.cell 0 rfl rfl, trivial⟩ ?_
    have hS24 := hS6.bring 1 rfl
    refine ge_set (b := b1) (j := 0) (cs := #[.int .i64 0, .int .i64 0]) (t := 27) (vs := [.int .i64 r1.Code, .int .i64 r1.At]) hS24 (by kernel_rfl) rfl rfl fun w11 hS25 => ?_
    have hS26 : St w0 w11 [Own.blk b1 (.cells #[.int .i64 r1.Code, .int .i64 r1.At] 27 (0, 0)), Own.blk b2 (.cells #[.int .i64 r1.Code, .int .i64 r1.At] 27 (0, 0))] := hS25
    refine ge_nil fun a hF => hK14 _ _ ?_ a hF
    have hS27 := hS26.takeN 0
    obtain rfl := Option.some.inj h
    exact we_ret (post_ret (rs := [.cell 2 27]) (ans := [.val (.int .i64 r1.Code), .val (.int .i64 r1.At)]) (vs := [.agg #[.int .i64 r1.Code, .int .i64 r1.At]]) (l := [.loaded ⟨b1, 0, none⟩ (.int .i64 r1.Code), .loaded ⟨b1, 1, none⟩ (.int .i64 r1.At)]) rfl (by kernel_rfl) ⟨hS26.cell 0 rfl rfl, hS26.cell 0 rfl rfl, trivial⟩ ⟨rfl, hS27⟩)

/-! punctual/punctualref.up -/
abbrev punctualref_up.Post (w0 : World) (r : Int) (e : Ending) (w : World) : Prop := e = .returned (.int .i64 r) ∧ St w0 w []
def punctualref_up.f (x0 : Int) (x1 : Int) : Option Int :=
  if x1 = 0 then
    none
  else
    if (IntKind.i64.wrap ((IntKind.i64.wrap (Int.tdiv x0 x1)) * x1)) < x0 then
      some (IntKind.i64.wrap ((IntKind.i64.wrap (Int.tdiv x0 x1)) + 1))
    else
      some (IntKind.i64.wrap (Int.tdiv x0 x1))
theorem punctualref_up_ok (x0 : Int) (x1 : Int) (w0 : World) (r : Int) (h : punctualref_up.f x0 x1 = some r) :
    Calls Tryd.prog 69 #[.int .i64 x0, .int .i64 x1] w0 (punctualref_up.Post w0 r) := by
  have hS := St.start w0
  unfold punctualref_up.f at h
  refine calls_enter (n := 17) (args := [.int .i64 x0, .int .i64 x1]) (fn := Tryd.f69) rfl rfl rfl rfl ?_
  show WE _ _ _ _ [(0, .int .i64 x0), (1, .int .i64 x1)] _
  refine we_seq fun K1 hK1 => ?_
  refine we_region [(0, 0)] rfl ?_
  refine ge_batch [0] (ans := []) (vs := [(4, .int .i64 0)]) (l := []) (by kernel_rfl) trivial ?_
  refine ge_nil fun a hF => hK1 _ _ ?_ a hF
  refine we_seq fun K2 hK2 => ?_
  refine we_region [(0, 0), (1, 0), (2, 0), (3, 0)] rfl ?_
  refine ge_batch [0, 1] (ans := []) (vs := [(7, .int .i64 x1), (6, .int .i64 x0)]) (l := []) (by kernel_rfl) trivial ?_
  by_cases hc1 : x1 = 0
  · rw [if_pos hc1] at h
    cases h
  · rw [if_neg hc1] at h
    refine ge_div (d := 8) (ty := 3) (op := .quo) (x := (.tmp 6)) (y := (.tmp 7)) (t := 3) (t2 := 3) (k := .i64) (p := x0) (q := x1) (v := .int .i64 (IntKind.i64.wrap (Int.tdiv x0 x1))) (by kernel_rfl) (by kernel_rfl) (by kernel_rfl) hc1 rfl ?_
    refine ge_batch [3] (ans := []) (vs := [(5, .int .i64 (IntKind.i64.wrap (Int.tdiv x0 x1)))]) (l := []) (by kernel_rfl) trivial ?_
    refine ge_nil fun a hF => hK2 _ _ ?_ a hF
    refine we_seq fun K3 hK3 => ?_
    refine we_seq fun K4 hK4 => ?_
    refine we_region [(0, 0), (1, 0), (2, 0), (3, 0), (4, 0)] rfl ?_
    refine ge_batch [0, 1, 2, 3, 4] (ans := []) (vs := [(13, .bool (decide ((IntKind.i64.wrap ((IntKind.i64.wrap (Int.tdiv x0 x1)) * x1)) < x0))), (12, .int .i64 x0), (11, .int .i64 (IntKind.i64.wrap ((IntKind.i64.wrap (Int.tdiv x0 x1)) * x1))), (10, .int .i64 x1), (9, .int .i64 (IntKind.i64.wrap (Int.tdiv x0 x1)))]) (l := []) (by kernel_rfl) trivial ?_
    refine ge_nil fun a hF => hK4 _ _ ?_ a hF
    by_cases hc2 : (IntKind.i64.wrap ((IntKind.i64.wrap (Int.tdiv x0 x1)) * x1)) < x0
    · rw [if_pos hc2] at h
      refine we_known (t := 13) (b := decide ((IntKind.i64.wrap ((IntKind.i64.wrap (Int.tdiv x0 x1)) * x1)) < x0)) (v := true) (by kernel_rfl) (decide_eq_true hc2) ?_
      refine we_true (by kernel_rfl) ?_
      refine we_region [(0, 0), (1, 0), (2, 0)] rfl ?_
      refine ge_batch [0, 1, 2] (ans := []) (vs := [(5, .int .i64 (IntKind.i64.wrap ((IntKind.i64.wrap (Int.tdiv x0 x1)) + 1))), (15, .int .i64 (IntKind.i64.wrap ((IntKind.i64.wrap (Int.tdiv x0 x1)) + 1))), (14, .int .i64 (IntKind.i64.wrap (Int.tdiv x0 x1)))]) (l := []) (by kernel_rfl) trivial ?_
      refine ge_nil fun a hF => hK3 _ _ ?_ a hF
      refine we_seq fun K5 hK5 => ?_
      refine we_region [(0, 0), (1, 0)] rfl ?_
      refine ge_batch [0, 1] (ans := []) (vs := [(4, .int .i64 (IntKind.i64.wrap ((IntKind.i64.wrap (Int.tdiv x0 x1)) + 1))), (16, .int .i64 (IntKind.i64.wrap ((IntKind.i64.wrap (Int.tdiv x0 x1)) + 1)))]) (l := []) (by kernel_rfl) trivial ?_
      refine ge_nil fun a hF => hK5 _ _ ?_ a hF
      obtain rfl := Option.some.inj h
      exact we_ret (post_ret (rs := [.tmp 4]) (ans := []) (vs := [.int .i64 (IntKind.i64.wrap ((IntKind.i64.wrap (Int.tdiv x0 x1)) + 1))]) (l := []) rfl (by kernel_rfl) trivial ⟨rfl, hS⟩)
    · rw [if_neg hc2] at h
      refine we_known (t := 13) (b := decide ((IntKind.i64.wrap ((IntKind.i64.wrap (Int.tdiv x0 x1)) * x1)) < x0)) (v := false) (by kernel_rfl) (decide_eq_false hc2) ?_
      refine we_false (by kernel_rfl) ?_
      refine we_skip fun a hF => hK3 _ _ ?_ a hF
      refine we_seq fun K6 hK6 => ?_
      refine we_region [(0, 0), (1, 0)] rfl ?_
      refine ge_batch [0, 1] (ans := []) (vs := [(4, .int .i64 (IntKind.i64.wrap (Int.tdiv x0 x1))), (16, .int .i64 (IntKind.i64.wrap (Int.tdiv x0 x1)))]) (l := []) (by kernel_rfl) trivial ?_
      refine ge_nil fun a hF => hK6 _ _ ?_ a hF
      obtain rfl := Option.some.inj h
      exact we_ret (post_ret (rs := [.tmp 4]) (ans := []) (vs := [.int .i64 (IntKind.i64.wrap (Int.tdiv x0 x1))]) (l := []) rfl (by kernel_rfl) trivial ⟨rfl, hS⟩)
end Go.Proofs.YtccfilmiboepjaaDoor.GV
