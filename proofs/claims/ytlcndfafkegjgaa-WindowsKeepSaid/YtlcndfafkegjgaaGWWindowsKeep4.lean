/- Walks of single functions, written by a program of this work. -/
import Derived.Test.YtlcndfafkegjgaaGWWindowsKeep3
namespace Go.Proofs.Ytlcndfafkegjgaa.GV
open Go Go.RowKit
set_option linter.unusedVariables false
set_option linter.unusedSimpArgs false
set_option maxRecDepth 100000

/-! punctual/punctualref.CheckFrame -/
abbrev punctualref_CheckFrame.Post (w0 : World) (r : SFault) (e : Ending) (w : World) : Prop := e = .returned (.agg #[.int .i64 r.Code, .int .i64 r.At]) ∧ St w0 w []
def punctualref_CheckFrame.p0 (x0 : Int) : Option (Unit ⊕ SFault) :=
    if x0 < 1 then
      some (.inr (punctualref_F.f 3 0))
    else
      if x0 > 10000 then
        some (.inr (punctualref_F.f 3 0))
      else
        some (.inl ())
def punctualref_CheckFrame.p2 (x0 : Int) (i1 : Nat) (e1 : SWindow) : Option (Unit ⊕ SFault) :=
    if e1.At < 0 then
      some (.inr (punctualref_F.f 3 (i1 : Int)))
    else
      if e1.At > x0 then
        some (.inr (punctualref_F.f 3 (i1 : Int)))
      else
        if e1.Len < 1 then
          some (.inr (punctualref_F.f 3 (i1 : Int)))
        else
          if e1.Len > x0 then
            some (.inr (punctualref_F.f 3 (i1 : Int)))
          else
            if (IntKind.i64.wrap (e1.At + e1.Len)) > x0 then
              some (.inr (punctualref_F.f 3 (i1 : Int)))
            else
              some (.inl ())
def punctualref_CheckFrame.r1 (x0 : Int) (l1 : List SWindow) : Nat → Option (Nat ⊕ (Unit ⊕ SFault))
  | i1 =>
    if (i1 : Int) < (l1.length : Int) then
      match l1[i1]? with
      | none => none
      | some e1 =>
        match punctualref_CheckFrame.p2 x0 i1 e1 with
        | none => none
        | some (.inl _) =>
          if (i1 : Int) > 0 then
            if 0 ≤ (IntKind.i64.wrap ((i1 : Int) - 1)) then
              match l1[(IntKind.i64.wrap ((i1 : Int) - 1)).toNat]? with
              | none => none
              | some e2 =>
                if e1.At < (IntKind.i64.wrap (e2.At + e2.Len)) then
                  some (.inr (.inr (punctualref_F.f 12 (i1 : Int))))
                else
                  some (.inl (i1 + 1))
            else
              none
          else
            some (.inl (i1 + 1))
        | some (.inr rr1) =>
          some (.inr (.inr rr1))
    else
      some (.inr (.inl ()))
def punctualref_CheckFrame.f (K : Nat) (x0 : Int) (l1 : List SWindow) : Option SFault :=
  match punctualref_CheckFrame.p0 x0 with
  | none => none
  | some (.inl _) =>
    if (l1.length : Int) > 20 then
      some (punctualref_F.f 2 0)
    else
      match iter (punctualref_CheckFrame.r1 x0 l1) K 0 with
      | none => none
      | some (.inl _) =>
        some (⟨0, 0⟩ : SFault)
      | some (.inr rr2) =>
        some rr2
  | some (.inr rr3) =>
    some rr3
abbrev punctualref_CheckFrame.A0 (K : Nat) (w0 : World) (x0 : Int) (l1 : List SWindow) (A1 : Option Addr) (c1 : Nat) (hR1 : RdL w0 A1 l1) (hL1 : l1.length ≤ c1) (b1 : Nat) : Unit → Act → World → Prop := fun (s : Unit) a w => St w0 w [Own.blk b1 (.cells #[.int .i64 0, .int .i64 0] 31 (0, 0))] ∧ Frm 80 a [(0, .int .i64 x0), (1, .slice A1 l1.length c1), (4, .pointer (some ⟨b1, 0, none⟩))]
abbrev punctualref_CheckFrame.B0 (K : Nat) (w0 : World) (x0 : Int) (l1 : List SWindow) (A1 : Option Addr) (c1 : Nat) (hR1 : RdL w0 A1 l1) (hL1 : l1.length ≤ c1) (b1 : Nat) : SFault → Exit → Act → World → Prop := Rets Try.prog Try.f15 (punctualref_CheckFrame.Post w0)
theorem punctualref_CheckFrame_p0 (K : Nat) (w0 : World) (x0 : Int) (l1 : List SWindow) (A1 : Option Addr) (c1 : Nat) (hR1 : RdL w0 A1 l1) (hL1 : l1.length ≤ c1) (b1 : Nat) (o : Unit ⊕ SFault) (h : punctualref_CheckFrame.p0 x0 = some o) (w : World) (hS : St w0 w [Own.blk b1 (.cells #[.int .i64 0, .int .i64 0] 31 (0, 0))]) (Q : Exit → Act → World → Prop) (hQ : ∀ x a w, Outs (punctualref_CheckFrame.A0 K w0 x0 l1 A1 c1 hR1 hL1 b1) (punctualref_CheckFrame.B0 K w0 x0 l1 A1 c1 hR1 hL1 b1) o x a w → Q x a w) : WE Try.prog 80 (subF Try.f15 [1, 0]) Q [(0, .int .i64 x0), (1, .slice A1 l1.length c1), (4, .pointer (some ⟨b1, 0, none⟩))] w := by
  simp only [punctualref_CheckFrame.p0] at h
  refine we_seq fun K3 hK3 => ?_
  refine we_region [(0, 0), (1, 0), (2, 0), (3, 0), (4, 0), (5, 0)] rfl ?_
  refine ge_batch [0, 1, 2] (ans := []) (vs := [(9, .bool (decide (x0 < 1))), (8, .bool (decide (x0 < 1))), (7, .int .i64 x0)]) (l := []) (by kernel_rfl) trivial ?_
  by_cases hc1 : x0 < 1
  · rw [if_pos hc1] at h
    refine ge_known (t := 9) (b := decide (x0 < 1)) (c := true) (by kernel_rfl) (decide_eq_true hc1) ?_
    refine ge_batch [3, 4, 5] (ans := []) (vs := [(12, .bool true), (11, undef), (10, undef)]) (l := []) (by kernel_rfl) trivial ?_
    refine ge_nil fun a hF => hK3 _ _ ?_ a hF
    refine we_true (by kernel_rfl) ?_
    refine we_seq fun K4 hK4 => ?_
    refine we_region [(0, 1), (1, 2)] rfl ?_
    refine ge_call (d := some 13) (f := 55) (args := #[.int .i64 3, .int .i64 0]) (by kernel_rfl) (punctualref_F_ok 3 0 _ _ rfl) ?_
    rintro _ w2 ⟨rfl, hS2⟩
    refine ⟨_, rfl, hS2.below, ?_⟩
    have hS3 := hS.call hS2
    refine ge_set (b := b1) (j := 0) (cs := #[.int .i64 0, .int .i64 0]) (t := 31) (vs := [.int .i64 ((punctualref_F.f 3 0).Code), .int .i64 ((punctualref_F.f 3 0).At)]) hS3 (by kernel_rfl) rfl rfl fun w3 hS4 => ?_
    have hS5 : St w0 w3 [Own.blk b1 (.cells #[.int .i64 ((punctualref_F.f 3 0).Code), .int .i64 ((punctualref_F.f 3 0).At)] 31 (0, 0))] := hS4
    refine ge_nil fun a hF => hK4 _ _ ?_ a hF
    have hS6 := hS5.takeN 0
    obtain rfl := Option.some.inj h
    exact we_ret fun a hF => hQ _ _ _ (Outs.out nofun ⟨rfl, (post_ret (rs := [.cell 4 31]) (ans := [.val (.int .i64 ((punctualref_F.f 3 0).Code)), .val (.int .i64 ((punctualref_F.f 3 0).At))]) (vs := [.agg #[.int .i64 ((punctualref_F.f 3 0).Code), .int .i64 ((punctualref_F.f 3 0).At)]]) (l := [.loaded ⟨b1, 0, none⟩ (.int .i64 ((punctualref_F.f 3 0).Code)), .loaded ⟨b1, 1, none⟩ (.int .i64 ((punctualref_F.f 3 0).At))]) rfl (by kernel_rfl) ⟨hS5.cell 0 rfl rfl, hS5.cell 0 rfl rfl, trivial⟩ ⟨rfl, hS6⟩) a hF⟩)
  · rw [if_neg hc1] at h
    refine ge_known (t := 9) (b := decide (x0 < 1)) (c := false) (by kernel_rfl) (decide_eq_false hc1) ?_
    refine ge_batch [3, 4, 5] (ans := []) (vs := [(12, .bool (decide (x0 > 10000))), (11, .bool (decide (x0 > 10000))), (10, .int .i64 x0)]) (l := []) (by kernel_rfl) trivial ?_
    refine ge_nil fun a hF => hK3 _ _ ?_ a hF
    by_cases hc2 : x0 > 10000
    · rw [if_pos hc2] at h
      refine we_known (t := 12) (b := decide (x0 > 10000)) (v := true) (by kernel_rfl) (decide_eq_true hc2) ?_
      refine we_true (by kernel_rfl) ?_
      refine we_seq fun K5 hK5 => ?_
      refine we_region [(0, 1), (1, 2)] rfl ?_
      refine ge_call (d := some 13) (f := 55) (args := #[.int .i64 3, .int .i64 0]) (by kernel_rfl) (punctualref_F_ok 3 0 _ _ rfl) ?_
      rintro _ w4 ⟨rfl, hS7⟩
      refine ⟨_, rfl, hS7.below, ?_⟩
      have hS8 := hS.call hS7
      refine ge_set (b := b1) (j := 0) (cs := #[.int .i64 0, .int .i64 0]) (t := 31) (vs := [.int .i64 ((punctualref_F.f 3 0).Code), .int .i64 ((punctualref_F.f 3 0).At)]) hS8 (by kernel_rfl) rfl rfl fun w5 hS9 => ?_
      have hS10 : St w0 w5 [Own.blk b1 (.cells #[.int .i64 ((punctualref_F.f 3 0).Code), .int .i64 ((punctualref_F.f 3 0).At)] 31 (0, 0))] := hS9
      refine ge_nil fun a hF => hK5 _ _ ?_ a hF
      have hS11 := hS10.takeN 0
      obtain rfl := Option.some.inj h
      exact we_ret fun a hF => hQ _ _ _ (Outs.out nofun ⟨rfl, (post_ret (rs := [.cell 4 31]) (ans := [.val (.int .i64 ((punctualref_F.f 3 0).Code)), .val (.int .i64 ((punctualref_F.f 3 0).At))]) (vs := [.agg #[.int .i64 ((punctualref_F.f 3 0).Code), .int .i64 ((punctualref_F.f 3 0).At)]]) (l := [.loaded ⟨b1, 0, none⟩ (.int .i64 ((punctualref_F.f 3 0).Code)), .loaded ⟨b1, 1, none⟩ (.int .i64 ((punctualref_F.f 3 0).At))]) rfl (by kernel_rfl) ⟨hS10.cell 0 rfl rfl, hS10.cell 0 rfl rfl, trivial⟩ ⟨rfl, hS11⟩) a hF⟩)
    · rw [if_neg hc2] at h
      refine we_known (t := 12) (b := decide (x0 > 10000)) (v := false) (by kernel_rfl) (decide_eq_false hc2) ?_
      refine we_false (by kernel_rfl) ?_
      obtain rfl := Option.some.inj h
      exact we_skip fun a hF => hQ _ _ _ (Outs.again ⟨hS, hF.weaken ⟨by kernel_rfl, by kernel_rfl, by kernel_rfl, trivial⟩⟩)
abbrev punctualref_CheckFrame.A2 (K : Nat) (w0 : World) (x0 : Int) (l1 : List SWindow) (A1 : Option Addr) (c1 : Nat) (hR1 : RdL w0 A1 l1) (hL1 : l1.length ≤ c1) (b1 : Nat) (hc3 : ¬ ((l1.length : Int) > 20)) (i1 : Nat) (hc4 : (i1 : Int) < (l1.length : Int)) (e1 : SWindow) (hx2 : l1[i1]? = some e1) (b2 : Nat) : Unit → Act → World → Prop := fun (s : Unit) a w => St w0 w [Own.blk b2 (.cells #[.int .i64 e1.At, .int .i64 e1.Len] 98 (0, 0)), Own.blk b1 (.cells #[.int .i64 0, .int .i64 0] 31 (0, 0))] ∧ Frm 80 a [(0, .int .i64 x0), (1, .slice A1 l1.length c1), (4, .pointer (some ⟨b1, 0, none⟩)), (5, .int .i64 (i1 : Int)), (6, .pointer (some ⟨b2, 0, none⟩)), (18, .slice A1 l1.length c1), (19, .int .i64 (l1.length : Int)), (20, .int .i64 (i1 : Int))]
abbrev punctualref_CheckFrame.B2 (K : Nat) (w0 : World) (x0 : Int) (l1 : List SWindow) (A1 : Option Addr) (c1 : Nat) (hR1 : RdL w0 A1 l1) (hL1 : l1.length ≤ c1) (b1 : Nat) (hc3 : ¬ ((l1.length : Int) > 20)) (i1 : Nat) (hc4 : (i1 : Int) < (l1.length : Int)) (e1 : SWindow) (hx2 : l1[i1]? = some e1) (b2 : Nat) : SFault → Exit → Act → World → Prop := Rets Try.prog Try.f15 (punctualref_CheckFrame.Post w0)
theorem punctualref_CheckFrame_p2 (K : Nat) (w0 : World) (x0 : Int) (l1 : List SWindow) (A1 : Option Addr) (c1 : Nat) (hR1 : RdL w0 A1 l1) (hL1 : l1.length ≤ c1) (b1 : Nat) (hc3 : ¬ ((l1.length : Int) > 20)) (i1 : Nat) (hc4 : (i1 : Int) < (l1.length : Int)) (e1 : SWindow) (hx2 : l1[i1]? = some e1) (b2 : Nat) (o : Unit ⊕ SFault) (h : punctualref_CheckFrame.p2 x0 i1 e1 = some o) (w : World) (hS : St w0 w [Own.blk b2 (.cells #[.int .i64 e1.At, .int .i64 e1.Len] 98 (0, 0)), Own.blk b1 (.cells #[.int .i64 0, .int .i64 0] 31 (0, 0))]) (Q : Exit → Act → World → Prop) (hQ : ∀ x a w, Outs (punctualref_CheckFrame.A2 K w0 x0 l1 A1 c1 hR1 hL1 b1 hc3 i1 hc4 e1 hx2 b2) (punctualref_CheckFrame.B2 K w0 x0 l1 A1 c1 hR1 hL1 b1 hc3 i1 hc4 e1 hx2 b2) o x a w → Q x a w) : WE Try.prog 80 (subF Try.f15 [1, 1, 1, 0, 1, 0, 0, 1, 1, 0, 0, 1, 0]) Q [(0, .int .i64 x0), (1, .slice A1 l1.length c1), (4, .pointer (some ⟨b1, 0, none⟩)), (5, .int .i64 (i1 : Int)), (6, .pointer (some ⟨b2, 0, none⟩)), (18, .slice A1 l1.length c1), (19, .int .i64 (l1.length : Int)), (20, .int .i64 (i1 : Int)), (21, .bool true), (22, .int .i64 (i1 : Int)), (23, .pointer (some ⟨blkOf A1, offOf A1 + i1 * 2, none⟩)), (24, .agg #[.int .i64 e1.At, .int .i64 e1.Len])] w := by
  simp only [punctualref_CheckFrame.p2] at h
  refine we_seq fun K16 hK16 => ?_
  refine we_region [(0, 0), (1, 0), (2, 0), (3, 0), (4, 0), (5, 0), (6, 0), (7, 0), (8, 0), (9, 0), (10, 0), (11, 0), (12, 0), (13, 0), (14, 0), (15, 0), (16, 0), (17, 0), (18, 0), (19, 0), (20, 0), (21, 0), (22, 0), (23, 0), (24, 0), (25, 0), (26, 0), (27, 0), (28, 0)] rfl ?_
  refine ge_batch [0, 1, 2, 3] (ans := [.val (.int .i64 e1.At)]) (vs := [(28, .bool (decide (e1.At < 0))), (27, .bool (decide (e1.At < 0))), (26, .int .i64 e1.At), (25, .pointer (some ⟨b2, 0, none⟩))]) (l := [.loaded ⟨b2, 0, none⟩ (.int .i64 e1.At)]) (by kernel_rfl) ⟨hS.cell 0 rfl rfl, trivial⟩ ?_
  by_cases hc5 : e1.At < 0
  · rw [if_pos hc5] at h
    refine ge_known (t := 28) (b := decide (e1.At < 0)) (c := true) (by kernel_rfl) (decide_eq_true hc5) ?_
    refine ge_batch [4, 5, 6, 7, 8, 9, 10, 11, 12, 13, 14, 15, 16, 17, 18, 19, 20, 21, 22, 23, 24, 25, 26, 27, 28] (ans := []) (vs := [(53, .bool true), (52, undef), (51, undef), (50, undef), (49, undef), (48, undef), (47, undef), (46, undef), (45, .bool true), (44, .bool true), (43, undef), (42, undef), (41, undef), (40, undef), (39, .bool true), (38, .bool true), (37, undef), (36, undef), (35, undef), (34, .bool true), (33, .bool true), (32, undef), (31, undef), (30, undef), (29, undef)]) (l := []) (by kernel_rfl) trivial ?_
    refine ge_nil fun a hF => hK16 _ _ ?_ a hF
    refine we_true (by kernel_rfl) ?_
    refine we_seq fun K17 hK17 => ?_
    refine we_region [(0, 0), (1, 1), (2, 2)] rfl ?_
    refine ge_batch [0] (ans := []) (vs := [(54, .int .i64 (i1 : Int))]) (l := []) (by kernel_rfl) trivial ?_
    refine ge_call (d := some 55) (f := 55) (args := #[.int .i64 3, .int .i64 (i1 : Int)]) (by kernel_rfl) (punctualref_F_ok 3 (i1 : Int) _ _ rfl) ?_
    rintro _ w11 ⟨rfl, hS21⟩
    refine ⟨_, rfl, hS21.below, ?_⟩
    have hS22 := hS.call hS21
    have hS23 := hS22.bring 1 rfl
    refine ge_set (b := b1) (j := 0) (cs := #[.int .i64 0, .int .i64 0]) (t := 31) (vs := [.int .i64 ((punctualref_F.f 3 (i1 : Int)).Code), .int .i64 ((punctualref_F.f 3 (i1 : Int)).At)]) hS23 (by kernel_rfl) rfl rfl fun w12 hS24 => ?_
    have hS25 : St w0 w12 [Own.blk b1 (.cells #[.int .i64 ((punctualref_F.f 3 (i1 : Int)).Code), .int .i64 ((punctualref_F.f 3 (i1 : Int)).At)] 31 (0, 0)), Own.blk b2 (.cells #[.int .i64 e1.At, .int .i64 e1.Len] 98 (0, 0))] := hS24
    refine ge_nil fun a hF => hK17 _ _ ?_ a hF
    have hS26 := hS25.takeN 0
    obtain rfl := Option.some.inj h
    exact we_ret fun a hF => hQ _ _ _ (Outs.out nofun ⟨rfl, (post_ret (rs := [.cell 4 31]) (ans := [.val (.int .i64 ((punctualref_F.f 3 (i1 : Int)).Code)), .val (.int .i64 ((punctualref_F.f 3 (i1 : Int)).At))]) (vs := [.agg #[.int .i64 ((punctualref_F.f 3 (i1 : Int)).Code), .int .i64 ((punctualref_F.f 3 (i1 : Int)).At)]]) (l := [.loaded ⟨b1, 0, none⟩ (.int .i64 ((punctualref_F.f 3 (i1 : Int)).Code)), .loaded ⟨b1, 1, none⟩ (.int .i64 ((punctualref_F.f 3 (i1 : Int)).At))]) rfl (by kernel_rfl) ⟨hS25.cell 0 rfl rfl, hS25.cell 0 rfl rfl, trivial⟩ ⟨rfl, hS26⟩) a hF⟩)
  · rw [if_neg hc5] at h
    refine ge_known (t := 28) (b := decide (e1.At < 0)) (c := false) (by kernel_rfl) (decide_eq_false hc5) ?_
    refine ge_batch [4, 5, 6, 7, 8, 9] (ans := [.val (.int .i64 e1.At)]) (vs := [(34, .bool (decide (e1.At > x0))), (33, .bool (decide (e1.At > x0))), (32, .bool (decide (e1.At > x0))), (31, .int .i64 x0), (30, .int .i64 e1.At), (29, .pointer (some ⟨b2, 0, none⟩))]) (l := [.loaded ⟨b2, 0, none⟩ (.int .i64 e1.At)]) (by kernel_rfl) ⟨hS.cell 0 rfl rfl, trivial⟩ ?_
    by_cases hc6 : e1.At > x0
    · rw [if_pos hc6] at h
      refine ge_known (t := 34) (b := decide (e1.At > x0)) (c := true) (by kernel_rfl) (decide_eq_true hc6) ?_
      refine ge_batch [10, 11, 12, 13, 14, 15, 16, 17, 18, 19, 20, 21, 22, 23, 24, 25, 26, 27, 28] (ans := []) (vs := [(53, .bool true), (52, undef), (51, undef), (50, undef), (49, undef), (48, undef), (47, undef), (46, undef), (45, .bool true), (44, .bool true), (43, undef), (42, undef), (41, undef), (40, undef), (39, .bool true), (38, .bool true), (37, undef), (36, undef), (35, undef)]) (l := []) (by kernel_rfl) trivial ?_
      refine ge_nil fun a hF => hK16 _ _ ?_ a hF
      refine we_true (by kernel_rfl) ?_
      refine we_seq fun K18 hK18 => ?_
      refine we_region [(0, 0), (1, 1), (2, 2)] rfl ?_
      refine ge_batch [0] (ans := []) (vs := [(54, .int .i64 (i1 : Int))]) (l := []) (by kernel_rfl) trivial ?_
      refine ge_call (d := some 55) (f := 55) (args := #[.int .i64 3, .int .i64 (i1 : Int)]) (by kernel_rfl) (punctualref_F_ok 3 (i1 : Int) _ _ rfl) ?_
      rintro _ w13 ⟨rfl, hS27⟩
      refine ⟨_, rfl, hS27.below, ?_⟩
      have hS28 := hS.call hS27
      have hS29 := hS28.bring 1 rfl
      refine ge_set (b := b1) (j := 0) (cs := #[.int .i64 0, .int .i64 0]) (t := 31) (vs := [.int .i64 ((punctualref_F.f 3 (i1 : Int)).Code), .int .i64 ((punctualref_F.f 3 (i1 : Int)).At)]) hS29 (by kernel_rfl) rfl rfl fun w14 hS30 => ?_
      have hS31 : St w0 w14 [Own.blk b1 (.cells #[.int .i64 ((punctualref_F.f 3 (i1 : Int)).Code), .int .i64 ((punctualref_F.f 3 (i1 : Int)).At)] 31 (0, 0)), Own.blk b2 (.cells #[.int .i64 e1.At, .int .i64 e1.Len] 98 (0, 0))] := hS30
      refine ge_nil fun a hF => hK18 _ _ ?_ a hF
      have hS32 := hS31.takeN 0
      obtain rfl := Option.some.inj h
      exact we_ret fun a hF => hQ _ _ _ (Outs.out nofun ⟨rfl, (post_ret (rs := [.cell 4 31]) (ans := [.val (.int .i64 ((punctualref_F.f 3 (i1 : Int)).Code)), .val (.int .i64 ((punctualref_F.f 3 (i1 : Int)).At))]) (vs := [.agg #[.int .i64 ((punctualref_F.f 3 (i1 : Int)).Code), .int .i64 ((punctualref_F.f 3 (i1 : Int)).At)]]) (l := [.loaded ⟨b1, 0, none⟩ (.int .i64 ((punctualref_F.f 3 (i1 : Int)).Code)), .loaded ⟨b1, 1, none⟩ (.int .i64 ((punctualref_F.f 3 (i1 : Int)).At))]) rfl (by kernel_rfl) ⟨hS31.cell 0 rfl rfl, hS31.cell 0 rfl rfl, trivial⟩ ⟨rfl, hS32⟩) a hF⟩)
    · rw [if_neg hc6] at h
      refine ge_known (t := 34) (b := decide (e1.At > x0)) (c := false) (by kernel_rfl) (decide_eq_false hc6) ?_
      refine ge_batch [10, 11, 12, 13, 14] (ans := [.val (.int .i64 e1.Len)]) (vs := [(39, .bool (decide (e1.Len < 1))), (38, .bool (decide (e1.Len < 1))), (37, .bool (decide (e1.Len < 1))), (36, .int .i64 e1.Len), (35, .pointer (some ⟨b2, 1, none⟩))]) (l := [.loaded ⟨b2, 1, none⟩ (.int .i64 e1.Len)]) (by kernel_rfl) ⟨hS.cell 0 rfl rfl, trivial⟩ ?_
      by_cases hc7 : e1.Len < 1
      · rw [if_pos hc7] at h
        refine ge_known (t := 39) (b := decide (e1.Len < 1)) (c := true) (by kernel_rfl) (decide_eq_true hc7) ?_
        refine ge_batch [15, 16, 17, 18, 19, 20, 21, 22, 23, 24, 25, 26, 27, 28] (ans := []) (vs := [(53, .bool true), (52, undef), (51, undef), (50, undef), (49, undef), (48, undef), (47, undef), (46, undef), (45, .bool true), (44, .bool true), (43, undef), (42, undef), (41, undef), (40, undef)]) (l := []) (by kernel_rfl) trivial ?_
        refine ge_nil fun a hF => hK16 _ _ ?_ a hF
        refine we_true (by kernel_rfl) ?_
        refine we_seq fun K19 hK19 => ?_
        refine we_region [(0, 0), (1, 1), (2, 2)] rfl ?_
        refine ge_batch [0] (ans := []) (vs := [(54, .int .i64 (i1 : Int))]) (l := []) (by kernel_rfl) trivial ?_
        refine ge_call (d := some 55) (f := 55) (args := #[.int .i64 3, .int .i64 (i1 : Int)]) (by kernel_rfl) (punctualref_F_ok 3 (i1 : Int) _ _ rfl) ?_
        rintro _ w15 ⟨rfl, hS33⟩
        refine ⟨_, rfl, hS33.below, ?_⟩
        have hS34 := hS.call hS33
        have hS35 := hS34.bring 1 rfl
        refine ge_set (b := b1) (j := 0) (cs := #[.int .i64 0, .int .i64 0]) (t := 31) (vs := [.int .i64 ((punctualref_F.f 3 (i1 : Int)).Code), .int .i64 ((punctualref_F.f 3 (i1 : Int)).At)]) hS35 (by kernel_rfl) rfl rfl fun w16 hS36 => ?_
        have hS37 : St w0 w16 [Own.blk b1 (.cells #[.int .i64 ((punctualref_F.f 3 (i1 : Int)).Code), .int .i64 ((punctualref_F.f 3 (i1 : Int)).At)] 31 (0, 0)), Own.blk b2 (.cells #[.int .i64 e1.At, .int .i64 e1.Len] 98 (0, 0))] := hS36
        refine ge_nil fun a hF => hK19 _ _ ?_ a hF
        have hS38 := hS37.takeN 0
        obtain rfl := Option.some.inj h
        exact we_ret fun a hF => hQ _ _ _ (Outs.out nofun ⟨rfl, (post_ret (rs := [.cell 4 31]) (ans := [.val (.int .i64 ((punctualref_F.f 3 (i1 : Int)).Code)), .val (.int .i64 ((punctualref_F.f 3 (i1 : Int)).At))]) (vs := [.agg #[.int .i64 ((punctualref_F.f 3 (i1 : Int)).Code), .int .i64 ((punctualref_F.f 3 (i1 : Int)).At)]]) (l := [.loaded ⟨b1, 0, none⟩ (.int .i64 ((punctualref_F.f 3 (i1 : Int)).Code)), .loaded ⟨b1, 1, none⟩ (.int .i64 ((punctualref_F.f 3 (i1 : Int)).At))]) rfl (by kernel_rfl) ⟨hS37.cell 0 rfl rfl, hS37.cell 0 rfl rfl, trivial⟩ ⟨rfl, hS38⟩) a hF⟩)
      · rw [if_neg hc7] at h
        refine ge_known (t := 39) (b := decide (e1.Len < 1)) (c := false) (by kernel_rfl) (decide_eq_false hc7) ?_
        refine ge_batch [15, 16, 17, 18, 19, 20] (ans := [.val (.int .i64 e1.Len)]) (vs := [(45, .bool (decide (e1.Len > x0))), (44, .bool (decide (e1.Len > x0))), (43, .bool (decide (e1.Len > x0))), (42, .int .i64 x0), (41, .int .i64 e1.Len), (40, .pointer (some ⟨b2, 1, none⟩))]) (l := [.loaded ⟨b2, 1, none⟩ (.int .i64 e1.Len)]) (by kernel_rfl) ⟨hS.cell 0 rfl rfl, trivial⟩ ?_
        by_cases hc8 : e1.Len > x0
        · rw [if_pos hc8] at h
          refine ge_known (t := 45) (b := decide (e1.Len > x0)) (c := true) (by kernel_rfl) (decide_eq_true hc8) ?_
          refine ge_batch [21, 22, 23, 24, 25, 26, 27, 28] (ans := []) (vs := [(53, .bool true), (52, undef), (51, undef), (50, undef), (49, undef), (48, undef), (47, undef), (46, undef)]) (l := []) (by kernel_rfl) trivial ?_
          refine ge_nil fun a hF => hK16 _ _ ?_ a hF
          refine we_true (by kernel_rfl) ?_
          refine we_seq fun K20 hK20 => ?_
          refine we_region [(0, 0), (1, 1), (2, 2)] rfl ?_
          refine ge_batch [0] (ans := []) (vs := [(54, .int .i64 (i1 : Int))]) (l := []) (by kernel_rfl) trivial ?_
          refine ge_call (d := some 55) (f := 55) (args := #[.int .i64 3, .int .i64 (i1 : Int)]) (by kernel_rfl) (punctualref_F_ok 3 (i1 : Int) _ _ rfl) ?_
          rintro _ w17 ⟨rfl, hS39⟩
          refine ⟨_, rfl, hS39.below, ?_⟩
          have hS40 := hS.call hS39
          have hS41 := hS40.bring 1 rfl
          refine ge_set (b := b1) (j := 0) (cs := #[.int .i64 0, .int .i64 0]) (t := 31) (vs := [.int .i64 ((punctualref_F.f 3 (i1 : Int)).Code), .int .i64 ((punctualref_F.f 3 (i1 : Int)).At)]) hS41 (by kernel_rfl) rfl rfl fun w18 hS42 => ?_
          have hS43 : St w0 w18 [Own.blk b1 (.cells #[.int .i64 ((punctualref_F.f 3 (i1 : Int)).Code), .int .i64 ((punctualref_F.f 3 (i1 : Int)).At)] 31 (0, 0)), Own.blk b2 (.cells #[.int .i64 e1.At, .int .i64 e1.Len] 98 (0, 0))] := hS42
          refine ge_nil fun a hF => hK20 _ _ ?_ a hF
          have hS44 := hS43.takeN 0
          obtain rfl := Option.some.inj h
          exact we_ret fun a hF => hQ _ _ _ (Outs.out nofun ⟨rfl, (post_ret (rs := [.cell 4 31]) (ans := [.val (.int .i64 ((punctualref_F.f 3 (i1 : Int)).Code)), .val (.int .i64 ((punctualref_F.f 3 (i1 : Int)).At))]) (vs := [.agg #[.int .i64 ((punctualref_F.f 3 (i1 : Int)).Code), .int .i64 ((punctualref_F.f 3 (i1 : Int)).At)]]) (l := [.loaded ⟨b1, 0, none⟩ (.int .i64 ((punctualref_F.f 3 (i1 : Int)).Code)), .loaded ⟨b1, 1, none⟩ (.int .i64 ((punctualref_F.f 3 (i1 : Int)).At))]) rfl (by kernel_rfl) ⟨hS43.cell 0 rfl rfl, hS43.cell 0 rfl rfl, trivial⟩ ⟨rfl, hS44⟩) a hF⟩)
        · rw [if_neg hc8] at h
          refine ge_known (t := 45) (b := decide (e1.Len > x0)) (c := false) (by kernel_rfl) (decide_eq_false hc8) ?_
          refine ge_batch [21, 22, 23, 24, 25, 26, 27, 28] (ans := [.val (.int .i64 e1.At), .val (.int .i64 e1.Len)]) (vs := [(53, .bool (decide ((IntKind.i64.wrap (e1.At + e1.Len)) > x0))), (52, .bool (decide ((IntKind.i64.wrap (e1.At + e1.Len)) > x0))), (51, .int .i64 x0), (50, .int .i64 (IntKind.i64.wrap (e1.At + e1.Len))), (49, .int .i64 e1.Len), (48, .pointer (some ⟨b2, 1, none⟩)), (47, .int .i64 e1.At), (46, .pointer (some ⟨b2, 0, none⟩))]) (l := [.loaded ⟨b2, 0, none⟩ (.int .i64 e1.At), .loaded ⟨b2, 1, none⟩ (.int .i64 e1.Len)]) (by kernel_rfl) ⟨hS.cell 0 rfl rfl, hS.cell 0 rfl rfl, trivial⟩ ?_
          refine ge_nil fun a hF => hK16 _ _ ?_ a hF
          by_cases hc9 : (IntKind.i64.wrap (e1.At + e1.Len)) > x0
          · rw [if_pos hc9] at h
            refine we_known (t := 53) (b := decide ((IntKind.i64.wrap (e1.At + e1.Len)) > x0)) (v := true) (by kernel_rfl) (decide_eq_true hc9) ?_
            refine we_true (by kernel_rfl) ?_
            refine we_seq fun K21 hK21 => ?_
            refine we_region [(0, 0), (1, 1), (2, 2)] rfl ?_
            refine ge_batch [0] (ans := []) (vs := [(54, .int .i64 (i1 : Int))]) (l := []) (by kernel_rfl) trivial ?_
            refine ge_call (d := some 55) (f := 55) (args := #[.int .i64 3, .int .i64 (i1 : Int)]) (by kernel_rfl) (punctualref_F_ok 3 (i1 : Int) _ _ rfl) ?_
            rintro _ w19 ⟨rfl, hS45⟩
            refine ⟨_, rfl, hS45.below, ?_⟩
            have hS46 := hS.call hS45
            have hS47 := hS46.bring 1 rfl
            refine ge_set (b := b1) (j := 0) (cs := #[.int .i64 0, .int .i64 0]) (t := 31) (vs := [.int .i64 ((punctualref_F.f 3 (i1 : Int)).Code), .int .i64 ((punctualref_F.f 3 (i1 : Int)).At)]) hS47 (by kernel_rfl) rfl rfl fun w20 hS48 => ?_
            have hS49 : St w0 w20 [Own.blk b1 (.cells #[.int .i64 ((punctualref_F.f 3 (i1 : Int)).Code), .int .i64 ((punctualref_F.f 3 (i1 : Int)).At)] 31 (0, 0)), Own.blk b2 (.cells #[.int .i64 e1.At, .int .i64 e1.Len] 98 (0, 0))] := hS48
            refine ge_nil fun a hF => hK21 _ _ ?_ a hF
            have hS50 := hS49.takeN 0
            obtain rfl := Option.some.inj h
            exact we_ret fun a hF => hQ _ _ _ (Outs.out nofun ⟨rfl, (post_ret (rs := [.cell 4 31]) (ans := [.val (.int .i64 ((punctualref_F.f 3 (i1 : Int)).Code)), .val (.int .i64 ((punctualref_F.f 3 (i1 : Int)).At))]) (vs := [.agg #[.int .i64 ((punctualref_F.f 3 (i1 : Int)).Code), .int .i64 ((punctualref_F.f 3 (i1 : Int)).At)]]) (l := [.loaded ⟨b1, 0, none⟩ (.int .i64 ((punctualref_F.f 3 (i1 : Int)).Code)), .loaded ⟨b1, 1, none⟩ (.int .i64 ((punctualref_F.f 3 (i1 : Int)).At))]) rfl (by kernel_rfl) ⟨hS49.cell 0 rfl rfl, hS49.cell 0 rfl rfl, trivial⟩ ⟨rfl, hS50⟩) a hF⟩)
          · rw [if_neg hc9] at h
            refine we_known (t := 53) (b := decide ((IntKind.i64.wrap (e1.At + e1.Len)) > x0)) (v := false) (by kernel_rfl) (decide_eq_false hc9) ?_
            refine we_false (by kernel_rfl) ?_
            have hS51 := hS.bring 1 rfl
            have hS52 := hS51.bring 1 rfl
            obtain rfl := Option.some.inj h
            exact we_skip fun a hF => hQ _ _ _ (Outs.again ⟨hS52, hF.weaken ⟨by kernel_rfl, by kernel_rfl, by kernel_rfl, by kernel_rfl, by kernel_rfl, by kernel_rfl, by kernel_rfl, by kernel_rfl, trivial⟩⟩)
abbrev punctualref_CheckFrame.A1 (K : Nat) (w0 : World) (x0 : Int) (l1 : List SWindow) (A1 : Option Addr) (c1 : Nat) (hR1 : RdL w0 A1 l1) (hL1 : l1.length ≤ c1) (b1 : Nat) (hc3 : ¬ ((l1.length : Int) > 20)) : Nat → Act → World → Prop := fun (s : Nat) a w => St w0 w [Own.blk b1 (.cells #[.int .i64 0, .int .i64 0] 31 (0, 0))] ∧ Frm 80 a [(0, .int .i64 x0), (1, .slice A1 l1.length c1), (4, .pointer (some ⟨b1, 0, none⟩)), (18, .slice A1 l1.length c1), (19, .int .i64 (l1.length : Int)), (20, .int .i64 (s : Int))]
abbrev punctualref_CheckFrame.B1 (K : Nat) (w0 : World) (x0 : Int) (l1 : List SWindow) (A1 : Option Addr) (c1 : Nat) (hR1 : RdL w0 A1 l1) (hL1 : l1.length ≤ c1) (b1 : Nat) (hc3 : ¬ ((l1.length : Int) > 20)) : (Unit ⊕ SFault) → Exit → Act → World → Prop := Exits 0 (fun (s : Unit) a w => St w0 w [Own.blk b1 (.cells #[.int .i64 0, .int .i64 0] 31 (0, 0))] ∧ Frm 80 a [(4, .pointer (some ⟨b1, 0, none⟩))]) (Rets Try.prog Try.f15 (punctualref_CheckFrame.Post w0))
theorem punctualref_CheckFrame_r1 (K : Nat) (w0 : World) (x0 : Int) (l1 : List SWindow) (A1 : Option Addr) (c1 : Nat) (hR1 : RdL w0 A1 l1) (hL1 : l1.length ≤ c1) (b1 : Nat) (hc3 : ¬ ((l1.length : Int) > 20)) (s : Nat) (o : Nat ⊕ (Unit ⊕ SFault)) (h : punctualref_CheckFrame.r1 x0 l1 s = some o) (a : Act) (w : World) (hA : punctualref_CheckFrame.A1 K w0 x0 l1 A1 c1 hR1 hL1 b1 hc3 s a w) (Q : Exit → Act → World → Prop) (hQ : ∀ x a w, Outs (punctualref_CheckFrame.A1 K w0 x0 l1 A1 c1 hR1 hL1 b1 hc3) (punctualref_CheckFrame.B1 K w0 x0 l1 A1 c1 hR1 hL1 b1 hc3) o x a w → Q x a w) : (subF Try.f15 [1, 1, 1, 0, 1, 0, 0]).wp Try.prog Q a w := by
  obtain ⟨i1, hs⟩ : ∃ z, z = s := ⟨s, rfl⟩
  subst hs
  obtain ⟨hS, hF⟩ := hA
  replace hS : St w0 w [Own.blk b1 (.cells #[.int .i64 0, .int .i64 0] 31 (0, 0))] := hS
  simp only [punctualref_CheckFrame.r1] at h
  refine (?_ : WE Try.prog 80 (subF Try.f15 [1, 1, 1, 0, 1, 0, 0]) Q [(0, .int .i64 x0), (1, .slice A1 l1.length c1), (4, .pointer (some ⟨b1, 0, none⟩)), (18, .slice A1 l1.length c1), (19, .int .i64 (l1.length : Int)), (20, .int .i64 (i1 : Int))] w) a hF
  clear hF a
  refine we_seq fun K11 hK11 => ?_
  refine we_region [(0, 0)] rfl ?_
  refine ge_batch [0] (ans := []) (vs := [(21, .bool (decide ((i1 : Int) < (l1.length : Int))))]) (l := []) (by kernel_rfl) trivial ?_
  refine ge_nil fun a hF => hK11 _ _ ?_ a hF
  refine we_seq fun K12 hK12 => ?_
  by_cases hc4 : (i1 : Int) < (l1.length : Int)
  · rw [if_pos hc4] at h
    refine we_known (t := 21) (b := decide ((i1 : Int) < (l1.length : Int))) (v := true) (by kernel_rfl) (decide_eq_true hc4) ?_
    refine we_true (by kernel_rfl) ?_
    refine we_skip fun a hF => hK12 _ _ ?_ a hF
    refine we_seq fun K13 hK13 => ?_
    refine we_block ?_
    refine we_seq fun K14 hK14 => ?_
    refine we_region [(0, 0), (1, 0), (2, 0), (3, 1), (4, 0), (5, 2)] rfl ?_
    refine ge_batch [0] (ans := []) (vs := [(22, .int .i64 (i1 : Int))]) (l := []) (by kernel_rfl) trivial ?_
    rcases hx2 : l1[i1]? with _ | e1
    · rw [hx2] at h; cases h
    rw [hx2] at h
    simp only [] at h
    refine ge_index (d := 23) (ty := 0) (t := 23) (el := 98) (sz := 2) (m := l1.length) (c := c1) (x := (.tmp 18)) (y := (.tmp 20)) (A := A1) (k' := .i64) (j := (i1 : Int)) (jn := i1) (b0 := blkOf A1) (o0 := offOf A1) (by kernel_rfl) (by kernel_rfl) (by kernel_rfl) (by kernel_rfl) (by kernel_rfl) ((hS.rd hR1).eqSome (pos_of_get hx2)) rfl (lt_of_get hx2) ?_
    refine ge_batch [2] (ans := [.val (.int .i64 e1.At), .val (.int .i64 e1.Len)]) (vs := [(24, .agg #[.int .i64 e1.At, .int .i64 e1.Len])]) (l := [.loaded ⟨blkOf A1, offOf A1 + i1 * 2, none⟩ (.int .i64 e1.At), .loaded ⟨blkOf A1, offOf A1 + i1 * 2 + 1, none⟩ (.int .i64 e1.Len)]) (by kernel_rfl) ⟨RdL.cell (j := 0) (hS.rd hR1) hx2 rfl, RdL.cell (j := 1) (hS.rd hR1) hx2 rfl, trivial⟩ ?_
    refine ge_new (d := some 6) (o := .cells #[.int .i64 0, .int .i64 0] 98) (v := fun b => .pointer (some ⟨b, 0, none⟩)) hS (fun b => by kernel_rfl) fun b2 w9 hx3 hS18 => ?_
    refine ge_batch [4] (ans := []) (vs := [(5, .int .i64 (i1 : Int))]) (l := []) (by kernel_rfl) trivial ?_
    refine ge_set (b := b2) (j := 0) (cs := #[.int .i64 0, .int .i64 0]) (t := 98) (vs := [.int .i64 e1.At, .int .i64 e1.Len]) hS18 (by kernel_rfl) rfl rfl fun w10 hS19 => ?_
    have hS20 : St w0 w10 [Own.blk b2 (.cells #[.int .i64 e1.At, .int .i64 e1.Len] 98 (0, 0)), Own.blk b1 (.cells #[.int .i64 0, .int .i64 0] 31 (0, 0))] := hS19
    refine ge_nil fun a hF => hK14 _ _ ?_ a hF
    refine we_seq fun K15 hK15 => ?_
    rcases hq10 : punctualref_CheckFrame.p2 x0 i1 e1 with _ | (_ | rr1)
    · rw [hq10] at h; cases h
    · rw [hq10] at h
      simp only [] at h
      refine we_keep (e' := [(0, .int .i64 x0), (1, .slice A1 l1.length c1), (4, .pointer (some ⟨b1, 0, none⟩)), (5, .int .i64 (i1 : Int)), (6, .pointer (some ⟨b2, 0, none⟩)), (18, .slice A1 l1.length c1), (19, .int .i64 (l1.length : Int)), (20, .int .i64 (i1 : Int)), (21, .bool true), (22, .int .i64 (i1 : Int)), (23, .pointer (some ⟨blkOf A1, offOf A1 + i1 * 2, none⟩)), (24, .agg #[.int .i64 e1.At, .int .i64 e1.Len])]) ⟨by kernel_rfl, by kernel_rfl, by kernel_rfl, by kernel_rfl, by kernel_rfl, by kernel_rfl, by kernel_rfl, by kernel_rfl, by kernel_rfl, by kernel_rfl, by kernel_rfl, by kernel_rfl, trivial⟩ (punctualref_CheckFrame_p2 K w0 x0 l1 A1 c1 hR1 hL1 b1 hc3 i1 hc4 e1 hx2 b2 _ hq10 _ hS20 _ ?_)
      rintro _ a w21 ⟨rfl, hS53, hF⟩
      replace hS53 : St w0 w21 [Own.blk b2 (.cells #[.int .i64 e1.At, .int .i64 e1.Len] 98 (0, 0)), Own.blk b1 (.cells #[.int .i64 0, .int .i64 0] 31 (0, 0))] := hS53
      refine hK15 [(0, .int .i64 x0), (1, .slice A1 l1.length c1), (4, .pointer (some ⟨b1, 0, none⟩)), (5, .int .i64 (i1 : Int)), (6, .pointer (some ⟨b2, 0, none⟩)), (18, .slice A1 l1.length c1), (19, .int .i64 (l1.length : Int)), (20, .int .i64 (i1 : Int))] w21 ?_ a hF
      refine we_seq fun K22 hK22 => ?_
      refine we_draws (by kernel_rfl) [(0, 0), (1, 0), (2, 0), (3, 0), (4, 0), (5, 0), (6, 0), (7, 0), (8, 0), (9, 0), (10, 0), (11, 0), (12, 0), (13, 0), (14, 0), (15, 0), (16, 0), (17, 0), (18, 0), (19, 0)] (by kernel_rfl) ?_
      have hS54 := hS53.drew
      refine ge_batch [0, 1, 2] (ans := []) (vs := [(58, .bool (decide ((i1 : Int) > 0))), (57, .bool (decide ((i1 : Int) > 0))), (56, .int .i64 (i1 : Int))]) (l := []) (by kernel_rfl) trivial ?_
      by_cases hc10 : (i1 : Int) > 0
      · rw [if_pos hc10] at h
        refine ge_known (t := 58) (b := decide ((i1 : Int) > 0)) (c := true) (by kernel_rfl) (decide_eq_true hc10) ?_
        refine ge_batch [3, 4, 5, 6, 7] (ans := [.val (.int .i64 e1.At)]) (vs := [(63, .int .i64 (IntKind.i64.wrap ((i1 : Int) - 1))), (62, .int .i64 (i1 : Int)), (61, .slice A1 l1.length c1), (60, .int .i64 e1.At), (59, .pointer (some ⟨b2, 0, none⟩))]) (l := [.loaded ⟨b2, 0, none⟩ (.int .i64 e1.At)]) (by kernel_rfl) ⟨hS54.cell 0 rfl rfl, trivial⟩ ?_
        by_cases hc11 : 0 ≤ (IntKind.i64.wrap ((i1 : Int) - 1))
        · rw [if_pos hc11] at h
          rcases hx4 : l1[(IntKind.i64.wrap ((i1 : Int) - 1)).toNat]? with _ | e2
          · rw [hx4] at h; cases h
          rw [hx4] at h
          simp only [] at h
          refine ge_index (d := 64) (ty := 0) (t := 23) (el := 98) (sz := 2) (m := l1.length) (c := c1) (x := (.tmp 61)) (y := (.tmp 63)) (A := A1) (k' := .i64) (j := (IntKind.i64.wrap ((i1 : Int) - 1))) (jn := ((IntKind.i64.wrap ((i1 : Int) - 1)).toNat)) (b0 := blkOf A1) (o0 := offOf A1) (by kernel_rfl) (by kernel_rfl) (by kernel_rfl) (by kernel_rfl) (by kernel_rfl) ((hS54.rd hR1).eqSome (pos_of_get hx4)) (Int.toNat_of_nonneg hc11).symm (lt_of_get hx4) ?_
          refine ge_batch [9, 10, 11, 12, 13] (ans := [.val (.int .i64 e2.At)]) (vs := [(69, .int .i64 (IntKind.i64.wrap ((i1 : Int) - 1))), (68, .int .i64 (i1 : Int)), (67, .slice A1 l1.length c1), (66, .int .i64 e2.At), (65, .pointer (some ⟨blkOf A1, offOf A1 + (IntKind.i64.wrap ((i1 : Int) - 1)).toNat * 2, none⟩))]) (l := [.loaded ⟨blkOf A1, offOf A1 + ((IntKind.i64.wrap ((i1 : Int) - 1)).toNat) * 2, none⟩ (.int .i64 e2.At)]) (by kernel_rfl) ⟨RdL.cell (j := 0) (hS54.rd hR1) hx4 rfl, trivial⟩ ?_
          refine ge_index (d := 70) (ty := 0) (t := 23) (el := 98) (sz := 2) (m := l1.length) (c := c1) (x := (.tmp 67)) (y := (.tmp 69)) (A := A1) (k' := .i64) (j := (IntKind.i64.wrap ((i1 : Int) - 1))) (jn := ((IntKind.i64.wrap ((i1 : Int) - 1)).toNat)) (b0 := blkOf A1) (o0 := offOf A1) (by kernel_rfl) (by kernel_rfl) (by kernel_rfl) (by kernel_rfl) (by kernel_rfl) ((hS54.rd hR1).eqSome (pos_of_get hx4)) (Int.toNat_of_nonneg hc11).symm (lt_of_get hx4) ?_
          refine ge_batch [15, 16, 17, 18, 19] (ans := [.val (.int .i64 e2.Len)]) (vs := [(75, .bool (decide (e1.At < (IntKind.i64.wrap (e2.At + e2.Len))))), (74, .bool (decide (e1.At < (IntKind.i64.wrap (e2.At + e2.Len))))), (73, .int .i64 (IntKind.i64.wrap (e2.At + e2.Len))), (72, .int .i64 e2.Len), (71, .pointer (some ⟨blkOf A1, offOf A1 + (IntKind.i64.wrap ((i1 : Int) - 1)).toNat * 2 + 1, none⟩))]) (l := [.loaded ⟨blkOf A1, offOf A1 + ((IntKind.i64.wrap ((i1 : Int) - 1)).toNat) * 2 + 1, none⟩ (.int .i64 e2.Len)]) (by kernel_rfl) ⟨RdL.cell (j := 1) (hS54.rd hR1) hx4 rfl, trivial⟩ ?_
          refine ge_nil fun a hF => hK22 _ _ ?_ a hF
          by_cases hc12 : e1.At < (IntKind.i64.wrap (e2.At + e2.Len))
          · rw [if_pos hc12] at h
            refine we_known (t := 75) (b := decide (e1.At < (IntKind.i64.wrap (e2.At + e2.Len)))) (v := true) (by kernel_rfl) (decide_eq_true hc12) ?_
            refine we_true (by kernel_rfl) ?_
            refine we_seq fun K23 hK23 => ?_
            refine we_region [(0, 0), (1, 1), (2, 2)] rfl ?_
            refine ge_batch [0] (ans := []) (vs := [(76, .int .i64 (i1 : Int))]) (l := []) (by kernel_rfl) trivial ?_
            refine ge_call (d := some 77) (f := 55) (args := #[.int .i64 12, .int .i64 (i1 : Int)]) (by kernel_rfl) (punctualref_F_ok 12 (i1 : Int) _ _ rfl) ?_
            rintro _ w22 ⟨rfl, hS55⟩
            refine ⟨_, rfl, hS55.below, ?_⟩
            have hS56 := hS54.call hS55
            have hS57 := hS56.bring 1 rfl
            refine ge_set (b := b1) (j := 0) (cs := #[.int .i64 0, .int .i64 0]) (t := 31) (vs := [.int .i64 ((punctualref_F.f 12 (i1 : Int)).Code), .int .i64 ((punctualref_F.f 12 (i1 : Int)).At)]) hS57 (by kernel_rfl) rfl rfl fun w23 hS58 => ?_
            have hS59 : St w0 w23 [Own.blk b1 (.cells #[.int .i64 ((punctualref_F.f 12 (i1 : Int)).Code), .int .i64 ((punctualref_F.f 12 (i1 : Int)).At)] 31 (0, 0)), Own.blk b2 (.cells #[.int .i64 e1.At, .int .i64 e1.Len] 98 (0, 0))] := hS58
            refine ge_nil fun a hF => hK23 _ _ ?_ a hF
            have hS60 := hS59.takeN 0
            obtain rfl := Option.some.inj h
            exact we_ret fun a hF => hQ _ _ _ (Outs.out nofun (Exits.on ⟨rfl, (post_ret (rs := [.cell 4 31]) (ans := [.val (.int .i64 ((punctualref_F.f 12 (i1 : Int)).Code)), .val (.int .i64 ((punctualref_F.f 12 (i1 : Int)).At))]) (vs := [.agg #[.int .i64 ((punctualref_F.f 12 (i1 : Int)).Code), .int .i64 ((punctualref_F.f 12 (i1 : Int)).At)]]) (l := [.loaded ⟨b1, 0, none⟩ (.int .i64 ((punctualref_F.f 12 (i1 : Int)).Code)), .loaded ⟨b1, 1, none⟩ (.int .i64 ((punctualref_F.f 12 (i1 : Int)).At))]) rfl (by kernel_rfl) ⟨hS59.cell 0 rfl rfl, hS59.cell 0 rfl rfl, trivial⟩ ⟨rfl, hS60⟩) a hF⟩))
          · rw [if_neg hc12] at h
            refine we_known (t := 75) (b := decide (e1.At < (IntKind.i64.wrap (e2.At + e2.Len)))) (v := false) (by kernel_rfl) (decide_eq_false hc12) ?_
            refine we_false (by kernel_rfl) ?_
            refine we_skip fun a hF => hK13 _ _ ?_ a hF
            refine we_region [(0, 0), (1, 0)] rfl ?_
            refine ge_addn (d := 78) (ty := 3) (x := (.tmp 20)) (y := (.const (.int .i64 1))) (t := 3) (t2 := 3) (k := .i64) (m := i1) (by kernel_rfl) (by kernel_rfl) (by kernel_rfl) (by have h0 := hR1.small; omega) ?_
            refine ge_batch [1] (ans := []) (vs := [(20, .int .i64 ((i1 + 1 : Nat) : Int))]) (l := []) (by kernel_rfl) trivial ?_
            have hS61 := hS54.bring 1 rfl
            have hS62 := hS61.takeN 1
            obtain rfl := Option.some.inj h
            exact ge_nil fun a hF => hQ _ _ _ (Outs.again ⟨hS62, hF.weaken ⟨by kernel_rfl, by kernel_rfl, by kernel_rfl, by kernel_rfl, by kernel_rfl, by kernel_rfl, trivial⟩⟩)
        · rw [if_neg hc11] at h
          cases h
      · rw [if_neg hc10] at h
        refine ge_known (t := 58) (b := decide ((i1 : Int) > 0)) (c := false) (by kernel_rfl) (decide_eq_false hc10) ?_
        refine ge_batch [3, 4, 5, 6, 7, 8, 9, 10, 11, 12, 13, 14, 15, 16, 17, 18, 19] (ans := []) (vs := [(75, .bool false), (74, undef), (73, undef), (72, undef), (71, undef), (70, undef), (69, undef), (68, undef), (67, undef), (66, undef), (65, undef), (64, undef), (63, undef), (62, undef), (61, undef), (60, undef), (59, undef)]) (l := []) (by kernel_rfl) trivial ?_
        refine ge_nil fun a hF => hK22 _ _ ?_ a hF
        refine we_false (by kernel_rfl) ?_
        refine we_skip fun a hF => hK13 _ _ ?_ a hF
        refine we_region [(0, 0), (1, 0)] rfl ?_
        refine ge_addn (d := 78) (ty := 3) (x := (.tmp 20)) (y := (.const (.int .i64 1))) (t := 3) (t2 := 3) (k := .i64) (m := i1) (by kernel_rfl) (by kernel_rfl) (by kernel_rfl) (by have h0 := hR1.small; omega) ?_
        refine ge_batch [1] (ans := []) (vs := [(20, .int .i64 ((i1 + 1 : Nat) : Int))]) (l := []) (by kernel_rfl) trivial ?_
        have hS63 := hS54.bring 1 rfl
        have hS64 := hS63.takeN 1
        obtain rfl := Option.some.inj h
        exact ge_nil fun a hF => hQ _ _ _ (Outs.again ⟨hS64, hF.weaken ⟨by kernel_rfl, by kernel_rfl, by kernel_rfl, by kernel_rfl, by kernel_rfl, by kernel_rfl, trivial⟩⟩)
    · rw [hq10] at h
      simp only [] at h
      refine we_keep (e' := [(0, .int .i64 x0), (1, .slice A1 l1.length c1), (4, .pointer (some ⟨b1, 0, none⟩)), (5, .int .i64 (i1 : Int)), (6, .pointer (some ⟨b2, 0, none⟩)), (18, .slice A1 l1.length c1), (19, .int .i64 (l1.length : Int)), (20, .int .i64 (i1 : Int)), (21, .bool true), (22, .int .i64 (i1 : Int)), (23, .pointer (some ⟨blkOf A1, offOf A1 + i1 * 2, none⟩)), (24, .agg #[.int .i64 e1.At, .int .i64 e1.Len])]) ⟨by kernel_rfl, by kernel_rfl, by kernel_rfl, by kernel_rfl, by kernel_rfl, by kernel_rfl, by kernel_rfl, by kernel_rfl, by kernel_rfl, by kernel_rfl, by kernel_rfl, by kernel_rfl, trivial⟩ (punctualref_CheckFrame_p2 K w0 x0 l1 A1 c1 hR1 hL1 b1 hc3 i1 hc4 e1 hx2 b2 _ hq10 _ hS20 _ ?_)
      rintro _ a w1 ⟨_, rfl, hb⟩
      obtain rfl := Option.some.inj h
      exact hQ _ _ _ (Outs.out nofun (Exits.on ⟨rfl, hb⟩))
  · rw [if_neg hc4] at h
    refine we_known (t := 21) (b := decide ((i1 : Int) < (l1.length : Int))) (v := false) (by kernel_rfl) (decide_eq_false hc4) ?_
    refine we_false (by kernel_rfl) ?_
    obtain rfl := Option.some.inj h
    exact we_exit fun a hF => hQ _ _ _ (Outs.out nofun (Exits.here ⟨hS, hF.weaken ⟨by kernel_rfl, trivial⟩⟩))
theorem punctualref_CheckFrame_ok (K : Nat) (x0 : Int) (l1 : List SWindow) (A1 : Option Addr) (c1 : Nat) (w0 : World) (hR1 : RdL w0 A1 l1) (hL1 : l1.length ≤ c1) (r : SFault) (h : punctualref_CheckFrame.f K x0 l1 = some r) :
    Calls Try.prog 15 #[.int .i64 x0, .slice A1 l1.length c1] w0 (punctualref_CheckFrame.Post w0 r) := by
  have hS := St.start w0
  unfold punctualref_CheckFrame.f at h
  refine calls_enter (n := 80) (args := [.int .i64 x0, .slice A1 l1.length c1]) (fn := Try.f15) rfl rfl rfl rfl ?_
  show WE _ _ _ _ [(0, .int .i64 x0), (1, .slice A1 l1.length c1)] _
  refine we_seq fun K1 hK1 => ?_
  refine we_region [(0, 1)] rfl ?_
  refine ge_new (d := some 4) (o := .cells #[.int .i64 0, .int .i64 0] 31) (v := fun b => .pointer (some ⟨b, 0, none⟩)) hS (fun b => by kernel_rfl) fun b1 w1 hx1 hS1 => ?_
  refine ge_nil fun a hF => hK1 _ _ ?_ a hF
  refine we_seq fun K2 hK2 => ?_
  rcases hq3 : punctualref_CheckFrame.p0 x0 with _ | (_ | rr3)
  · rw [hq3] at h; cases h
  · rw [hq3] at h
    simp only [] at h
    refine we_keep (e' := [(0, .int .i64 x0), (1, .slice A1 l1.length c1), (4, .pointer (some ⟨b1, 0, none⟩))]) ⟨by kernel_rfl, by kernel_rfl, by kernel_rfl, trivial⟩ (punctualref_CheckFrame_p0 K w0 x0 l1 A1 c1 hR1 hL1 b1 _ hq3 _ hS1 _ ?_)
    rintro _ a w6 ⟨rfl, hS12, hF⟩
    replace hS12 : St w0 w6 [Own.blk b1 (.cells #[.int .i64 0, .int .i64 0] 31 (0, 0))] := hS12
    refine hK2 [(0, .int .i64 x0), (1, .slice A1 l1.length c1), (4, .pointer (some ⟨b1, 0, none⟩))] w6 ?_ a hF
    refine we_seq fun K6 hK6 => ?_
    refine we_seq fun K7 hK7 => ?_
    refine we_region [(0, 0), (1, 0), (2, 0)] rfl ?_
    refine ge_batch [0, 1, 2] (ans := []) (vs := [(16, .bool (decide ((l1.length : Int) > 20))), (15, .int .i64 (l1.length : Int)), (14, .slice A1 l1.length c1)]) (l := []) (by kernel_rfl) trivial ?_
    refine ge_nil fun a hF => hK7 _ _ ?_ a hF
    by_cases hc3 : (l1.length : Int) > 20
    · rw [if_pos hc3] at h
      refine we_known (t := 16) (b := decide ((l1.length : Int) > 20)) (v := true) (by kernel_rfl) (decide_eq_true hc3) ?_
      refine we_true (by kernel_rfl) ?_
      refine we_seq fun K8 hK8 => ?_
      refine we_region [(0, 1), (1, 2)] rfl ?_
      refine ge_call (d := some 17) (f := 55) (args := #[.int .i64 2, .int .i64 0]) (by kernel_rfl) (punctualref_F_ok 2 0 _ _ rfl) ?_
      rintro _ w7 ⟨rfl, hS13⟩
      refine ⟨_, rfl, hS13.below, ?_⟩
      have hS14 := hS12.call hS13
      refine ge_set (b := b1) (j := 0) (cs := #[.int .i64 0, .int .i64 0]) (t := 31) (vs := [.int .i64 ((punctualref_F.f 2 0).Code), .int .i64 ((punctualref_F.f 2 0).At)]) hS14 (by kernel_rfl) rfl rfl fun w8 hS15 => ?_
      have hS16 : St w0 w8 [Own.blk b1 (.cells #[.int .i64 ((punctualref_F.f 2 0).Code), .int .i64 ((punctualref_F.f 2 0).At)] 31 (0, 0))] := hS15
      refine ge_nil fun a hF => hK8 _ _ ?_ a hF
      have hS17 := hS16.takeN 0
      obtain rfl := Option.some.inj h
      exact we_ret (post_ret (rs := [.cell 4 31]) (ans := [.val (.int .i64 ((punctualref_F.f 2 0).Code)), .val (.int .i64 ((punctualref_F.f 2 0).At))]) (vs := [.agg #[.int .i64 ((punctualref_F.f 2 0).Code), .int .i64 ((punctualref_F.f 2 0).At)]]) (l := [.loaded ⟨b1, 0, none⟩ (.int .i64 ((punctualref_F.f 2 0).Code)), .loaded ⟨b1, 1, none⟩ (.int .i64 ((punctualref_F.f 2 0).At))]) rfl (by kernel_rfl) ⟨hS16.cell 0 rfl rfl, hS16.cell 0 rfl rfl, trivial⟩ ⟨rfl, hS17⟩)
    · rw [if_neg hc3] at h
      refine we_known (t := 16) (b := decide ((l1.length : Int) > 20)) (v := false) (by kernel_rfl) (decide_eq_false hc3) ?_
      refine we_false (by kernel_rfl) ?_
      refine we_skip fun a hF => hK6 _ _ ?_ a hF
      refine we_seq fun K9 hK9 => ?_
      refine we_seq fun K10 hK10 => ?_
      refine we_region [(0, 0), (1, 0), (2, 0)] rfl ?_
      refine ge_batch [0, 1, 2] (ans := []) (vs := [(20, .int .i64 0), (19, .int .i64 (l1.length : Int)), (18, .slice A1 l1.length c1)]) (l := []) (by kernel_rfl) trivial ?_
      refine ge_nil fun a hF => hK10 _ _ ?_ a hF
      refine we_block ?_
      rcases hq12 : iter (punctualref_CheckFrame.r1 x0 l1) K 0 with _ | (_ | rr2)
      · rw [hq12] at h; cases h
      · rw [hq12] at h
        simp only [] at h
        refine we_iter (A := punctualref_CheckFrame.A1 K w0 x0 l1 A1 c1 hR1 hL1 b1 hc3) (B := punctualref_CheckFrame.B1 K w0 x0 l1 A1 c1 hR1 hL1 b1 hc3) hq12 (fun a hF => ⟨hS12, hF.weaken ⟨by kernel_rfl, by kernel_rfl, by kernel_rfl, by kernel_rfl, by kernel_rfl, by kernel_rfl, trivial⟩⟩) (fun s o hf a w hA Q hQ => punctualref_CheckFrame_r1 K w0 x0 l1 A1 c1 hR1 hL1 b1 hc3 s o hf a w hA Q hQ) ?_
        rintro _ a w24 _ ⟨rfl, hS65, hF⟩
        replace hS65 : St w0 w24 [Own.blk b1 (.cells #[.int .i64 0, .int .i64 0] 31 (0, 0))] := hS65
        refine hK9 [(4, .pointer (some ⟨b1, 0, none⟩))] w24 ?_ a hF
        refine we_seq fun K24 hK24 => ?_
        refine we_region [(0, 0), (1, 2)] rfl ?_
        refine ge_batch [0] (ans := []) (vs := [(79, .agg #[.int .i64 0, .int .i64 0])]) (l := []) (by kernel_rfl) trivial ?_
        refine ge_set (b := b1) (j := 0) (cs := #[.int .i64 0, .int .i64 0]) (t := 31) (vs := [.int .i64 0, .int .i64 0]) hS65 (by kernel_rfl) rfl rfl fun w25 hS66 => ?_
        have hS67 : St w0 w25 [Own.blk b1 (.cells #[.int .i64 0, .int .i64 0] 31 (0, 0))] := hS66
        refine ge_nil fun a hF => hK24 _ _ ?_ a hF
        have hS68 := hS67.takeN 0
        obtain rfl := Option.some.inj h
        exact we_ret (post_ret (rs := [.cell 4 31]) (ans := [.val (.int .i64 0), .val (.int .i64 0)]) (vs := [.agg #[.int .i64 0, .int .i64 0]]) (l := [.loaded ⟨b1, 0, none⟩ (.int .i64 0), .loaded ⟨b1, 1, none⟩ (.int .i64 0)]) rfl (by kernel_rfl) ⟨hS67.cell 0 rfl rfl, hS67.cell 0 rfl rfl, trivial⟩ ⟨rfl, hS68⟩)
      · rw [hq12] at h
        simp only [] at h
        refine we_iter (A := punctualref_CheckFrame.A1 K w0 x0 l1 A1 c1 hR1 hL1 b1 hc3) (B := punctualref_CheckFrame.B1 K w0 x0 l1 A1 c1 hR1 hL1 b1 hc3) hq12 (fun a hF => ⟨hS12, hF.weaken ⟨by kernel_rfl, by kernel_rfl, by kernel_rfl, by kernel_rfl, by kernel_rfl, by kernel_rfl, trivial⟩⟩) (fun s o hf a w hA Q hQ => punctualref_CheckFrame_r1 K w0 x0 l1 A1 c1 hR1 hL1 b1 hc3 s o hf a w hA Q hQ) ?_
        rintro _ a w1 _ ⟨rfl, hb⟩
        obtain rfl := Option.some.inj h
        exact hb
  · rw [hq3] at h
    simp only [] at h
    refine we_keep (e' := [(0, .int .i64 x0), (1, .slice A1 l1.length c1), (4, .pointer (some ⟨b1, 0, none⟩))]) ⟨by kernel_rfl, by kernel_rfl, by kernel_rfl, trivial⟩ (punctualref_CheckFrame_p0 K w0 x0 l1 A1 c1 hR1 hL1 b1 _ hq3 _ hS1 _ ?_)
    rintro _ a w1 ⟨_, rfl, hb⟩
    obtain rfl := Option.some.inj h
    exact hb

/-! punctual/punctuallaw.WindowsKeep -/
abbrev WindowsKeep.Post (w0 : World) (r : Bool) (e : Ending) (w : World) : Prop := e = .returned (.bool r) ∧ St w0 w []
def WindowsKeep.p0 (l0 : List STask) (l2 : List SWindow) (l3 : List SCome) : Option (Unit ⊕ Bool) :=
    if (few.f (l0.length : Int)) = true then
      if (few.f (l3.length : Int)) = true then
        if (few.f (l2.length : Int)) = true then
          some (.inl ())
        else
          some (.inr true)
      else
        some (.inr true)
    else
      some (.inr true)
def WindowsKeep.r2 (l3 : List SCome) (r4 : SPlayed × SFault) (i1 : Nat) (r5 : Int × SFault) : Nat → Option (Nat ⊕ (Unit ⊕ Bool))
  | i2 =>
    if (i2 : Int) < (l3.length : Int) then
      match l3[i2]? with
      | none => none
      | some e1 =>
        if e1.Task = (i1 : Int) then
          match r4.1.Ends[i2]? with
          | none => none
          | some e2 =>
            if e2 < 0 then
              some (.inr (.inr false))
            else
              if (IntKind.i64.wrap (e2 - e1.At)) > r5.1 then
                some (.inr (.inr false))
              else
                some (.inl (i2 + 1))
        else
          some (.inl (i2 + 1))
    else
      some (.inr (.inl ()))
def WindowsKeep.r1 (K : Nat) (l0 : List STask) (x1 : Int) (l2 : List SWindow) (l3 : List SCome) (r2 : (List SJob) × SFault) (r4 : SPlayed × SFault) : Nat → Option (Nat ⊕ (Unit ⊕ Bool))
  | i1 =>
    if (i1 : Int) < (l0.length : Int) then
      match modes_Within.f K l0 (i1 : Int) x1 l2 with
      | none => none
      | some r5 =>
        if r5.2.Code = 0 then
          match iter (WindowsKeep.r2 l3 r4 i1 r5) K 0 with
          | none => none
          | some (.inl _) =>
            some (.inl (i1 + 1))
          | some (.inr rr1) =>
            some (.inr (.inr rr1))
        else
          some (.inl (i1 + 1))
    else
      some (.inr (.inl ()))
def WindowsKeep.f (K : Nat) (l0 : List STask) (x1 : Int) (l2 : List SWindow) (l3 : List SCome) (l4 : List Int) (l5 : List Int) : Option Bool :=
  match opens.f K with
  | none => none
  | some r1 =>
    if r1 = true then
      match WindowsKeep.p0 l0 l2 l3 with
      | none => none
      | some (.inl _) =>
        match tasks_Jobs.f K l0 l3 l4 l5 with
        | none => none
        | some r2 =>
          if r2.2.Code = 0 then
            match lasts.f K l0 l3 with
            | none => none
            | some r3 =>
              if r3 < 0 then
                some true
              else
                match modes_Hosted.f K r2.1 x1 l2 r3 with
                | none => none
                | some r4 =>
                  if r4.2.Code = 0 then
                    if (r4.1.Ends.length : Int) = (l3.length : Int) then
                      match iter (WindowsKeep.r1 K l0 x1 l2 l3 r2 r4) K 0 with
                      | none => none
                      | some (.inl _) =>
                        some true
                      | some (.inr rr2) =>
                        some rr2
                    else
                      some false
                  else
                    match punctualref_CheckFrame.f K x1 l2 with
                    | none => none
                    | some r6 =>
                      some (r6.Code != 0)
          else
            some true
      | some (.inr rr3) =>
        some rr3
    else
      some false
abbrev WindowsKeep.A0 (K : Nat) (w0 : World) (l0 : List STask) (A0 : Option Addr) (c0 : Nat) (x1 : Int) (l2 : List SWindow) (A2 : Option Addr) (c2 : Nat) (l3 : List SCome) (A3 : Option Addr) (c3 : Nat) (l4 : List Int) (A4 : Option Addr) (c4 : Nat) (l5 : List Int) (A5 : Option Addr) (c5 : Nat) (hR0 : RdL w0 A0 l0) (hL0 : l0.length ≤ c0) (hR2 : RdL w0 A2 l2) (hL2 : l2.length ≤ c2) (hR3 : RdL w0 A3 l3) (hL3 : l3.length ≤ c3) (hR4 : RdL w0 A4 l4) (hL4 : l4.length ≤ c4) (hR5 : RdL w0 A5 l5) (hL5 : l5.length ≤ c5) (r1 : Bool) (hc1 : r1 = true) : Unit → Act → World → Prop := fun (s : Unit) a w => St w0 w [] ∧ Frm 127 a [(0, .slice A0 l0.length c0), (1, .int .i64 x1), (2, .slice A2 l2.length c2), (3, .slice A3 l3.length c3), (4, .slice A4 l4.length c4), (5, .slice A5 l5.length c5)]
abbrev WindowsKeep.B0 (K : Nat) (w0 : World) (l0 : List STask) (A0 : Option Addr) (c0 : Nat) (x1 : Int) (l2 : List SWindow) (A2 : Option Addr) (c2 : Nat) (l3 : List SCome) (A3 : Option Addr) (c3 : Nat) (l4 : List Int) (A4 : Option Addr) (c4 : Nat) (l5 : List Int) (A5 : Option Addr) (c5 : Nat) (hR0 : RdL w0 A0 l0) (hL0 : l0.length ≤ c0) (hR2 : RdL w0 A2 l2) (hL2 : l2.length ≤ c2) (hR3 : RdL w0 A3 l3) (hL3 : l3.length ≤ c3) (hR4 : RdL w0 A4 l4) (hL4 : l4.length ≤ c4) (hR5 : RdL w0 A5 l5) (hL5 : l5.length ≤ c5) (r1 : Bool) (hc1 : r1 = true) : Bool → Exit → Act → World → Prop := Rets Try.prog Try.f3 (WindowsKeep.Post w0)
theorem WindowsKeep_p0 (K : Nat) (w0 : World) (l0 : List STask) (A0 : Option Addr) (c0 : Nat) (x1 : Int) (l2 : List SWindow) (A2 : Option Addr) (c2 : Nat) (l3 : List SCome) (A3 : Option Addr) (c3 : Nat) (l4 : List Int) (A4 : Option Addr) (c4 : Nat) (l5 : List Int) (A5 : Option Addr) (c5 : Nat) (hR0 : RdL w0 A0 l0) (hL0 : l0.length ≤ c0) (hR2 : RdL w0 A2 l2) (hL2 : l2.length ≤ c2) (hR3 : RdL w0 A3 l3) (hL3 : l3.length ≤ c3) (hR4 : RdL w0 A4 l4) (hL4 : l4.length ≤ c4) (hR5 : RdL w0 A5 l5) (hL5 : l5.length ≤ c5) (r1 : Bool) (hc1 : r1 = true) (o : Unit ⊕ Bool) (h : WindowsKeep.p0 l0 l2 l3 = some o) (w : World) (hS : St w0 w []) (Q : Exit → Act → World → Prop) (hQ : ∀ x a w, Outs (WindowsKeep.A0 K w0 l0 A0 c0 x1 l2 A2 c2 l3 A3 c3 l4 A4 c4 l5 A5 c5 hR0 hL0 hR2 hL2 hR3 hL3 hR4 hL4 hR5 hL5 r1 hc1) (WindowsKeep.B0 K w0 l0 A0 c0 x1 l2 A2 c2 l3 A3 c3 l4 A4 c4 l5 A5 c5 hR0 hL0 hR2 hL2 hR3 hL3 hR4 hL4 hR5 hL5 r1 hc1) o x a w → Q x a w) : WE Try.prog 127 (subF Try.f3 [1, 1, 0]) Q [(0, .slice A0 l0.length c0), (1, .int .i64 x1), (2, .slice A2 l2.length c2), (3, .slice A3 l3.length c3), (4, .slice A4 l4.length c4), (5, .slice A5 l5.length c5), (12, .bool false), (22, .bool r1), (23, .bool false)] w := by
  simp only [WindowsKeep.p0] at h
  refine we_seq fun K5 hK5 => ?_
  refine we_region [(0, 0), (1, 0), (2, 1), (3, 0), (4, 0), (5, 0), (6, 0), (7, 1), (8, 0), (9, 0), (10, 0), (11, 0), (12, 0), (13, 1), (14, 0), (15, 0)] rfl ?_
  refine ge_batch [0, 1] (ans := []) (vs := [(25, .int .i64 (l0.length : Int)), (24, .slice A0 l0.length c0)]) (l := []) (by kernel_rfl) trivial ?_
  refine ge_call (d := some 26) (f := 11) (args := #[.int .i64 (l0.length : Int)]) (by kernel_rfl) (few_ok (l0.length : Int) _ _ rfl) ?_
  rintro _ w2 ⟨rfl, hS3⟩
  refine ⟨_, rfl, hS3.below, ?_⟩
  have hS4 := hS.call hS3
  refine ge_batch [3, 4] (ans := []) (vs := [(28, .bool (!(few.f (l0.length : Int)))), (27, .bool (!(few.f (l0.length : Int))))]) (l := []) (by kernel_rfl) trivial ?_
  by_cases hc2 : (few.f (l0.length : Int)) = true
  · rw [if_pos hc2] at h
    refine ge_known (t := 28) (b := !(few.f (l0.length : Int))) (c := false) (by kernel_rfl) (congrArg (fun z => !z) hc2) ?_
    refine ge_batch [5, 6] (ans := []) (vs := [(30, .int .i64 (l3.length : Int)), (29, .slice A3 l3.length c3)]) (l := []) (by kernel_rfl) trivial ?_
    refine ge_call (d := some 31) (f := 11) (args := #[.int .i64 (l3.length : Int)]) (by kernel_rfl) (few_ok (l3.length : Int) _ _ rfl) ?_
    rintro _ w3 ⟨rfl, hS5⟩
    refine ⟨_, rfl, hS5.below, ?_⟩
    have hS6 := hS4.call hS5
    refine ge_batch [8, 9, 10] (ans := []) (vs := [(34, .bool (!(few.f (l3.length : Int)))), (33, .bool (!(few.f (l3.length : Int)))), (32, .bool (!(few.f (l3.length : Int))))]) (l := []) (by kernel_rfl) trivial ?_
    by_cases hc3 : (few.f (l3.length : Int)) = true
    · rw [if_pos hc3] at h
      refine ge_known (t := 34) (b := !(few.f (l3.length : Int))) (c := false) (by kernel_rfl) (congrArg (fun z => !z) hc3) ?_
      refine ge_batch [11, 12] (ans := []) (vs := [(36, .int .i64 (l2.length : Int)), (35, .slice A2 l2.length c2)]) (l := []) (by kernel_rfl) trivial ?_
      refine ge_call (d := some 37) (f := 11) (args := #[.int .i64 (l2.length : Int)]) (by kernel_rfl) (few_ok (l2.length : Int) _ _ rfl) ?_
      rintro _ w4 ⟨rfl, hS7⟩
      refine ⟨_, rfl, hS7.below, ?_⟩
      have hS8 := hS6.call hS7
      refine ge_batch [14, 15] (ans := []) (vs := [(39, .bool (!(few.f (l2.length : Int)))), (38, .bool (!(few.f (l2.length : Int))))]) (l := []) (by kernel_rfl) trivial ?_
      refine ge_nil fun a hF => hK5 _ _ ?_ a hF
      by_cases hc4 : (few.f (l2.length : Int)) = true
      · rw [if_pos hc4] at h
        refine we_known (t := 39) (b := !(few.f (l2.length : Int))) (v := false) (by kernel_rfl) (congrArg (fun z => !z) hc4) ?_
        refine we_false (by kernel_rfl) ?_
        obtain rfl := Option.some.inj h
        exact we_skip fun a hF => hQ _ _ _ (Outs.again ⟨hS8, hF.weaken ⟨by kernel_rfl, by kernel_rfl, by kernel_rfl, by kernel_rfl, by kernel_rfl, by kernel_rfl, trivial⟩⟩)
      · rw [if_neg hc4] at h
        refine we_known (t := 39) (b := !(few.f (l2.length : Int))) (v := true) (by kernel_rfl) (congrArg (fun z => !z) (Bool.eq_false_iff.2 hc4)) ?_
        refine we_true (by kernel_rfl) ?_
        refine we_seq fun K6 hK6 => ?_
        refine we_region [(0, 0)] rfl ?_
        refine ge_batch [0] (ans := []) (vs := [(12, .bool true)]) (l := []) (by kernel_rfl) trivial ?_
        refine ge_nil fun a hF => hK6 _ _ ?_ a hF
        obtain rfl := Option.some.inj h
        exact we_ret fun a hF => hQ _ _ _ (Outs.out nofun ⟨rfl, (post_ret (rs := [.tmp 12]) (ans := []) (vs := [.bool true]) (l := []) rfl (by kernel_rfl) trivial ⟨rfl, hS8⟩) a hF⟩)
    · rw [if_neg hc3] at h
      refine ge_known (t := 34) (b := !(few.f (l3.length : Int))) (c := true) (by kernel_rfl) (congrArg (fun z => !z) (Bool.eq_false_iff.2 hc3)) ?_
      refine ge_batch [11, 12] (ans := []) (vs := [(36, undef), (35, undef)]) (l := []) (by kernel_rfl) trivial ?_
      refine ge_off rfl rfl rfl (by kernel_rfl) ?_
      refine ge_batch [14, 15] (ans := []) (vs := [(39, .bool true), (38, undef)]) (l := []) (by kernel_rfl) trivial ?_
      refine ge_nil fun a hF => hK5 _ _ ?_ a hF
      refine we_true (by kernel_rfl) ?_
      refine we_seq fun K7 hK7 => ?_
      refine we_region [(0, 0)] rfl ?_
      refine ge_batch [0] (ans := []) (vs := [(12, .bool true)]) (l := []) (by kernel_rfl) trivial ?_
      refine ge_nil fun a hF => hK7 _ _ ?_ a hF
      obtain rfl := Option.some.inj h
      exact we_ret fun a hF => hQ _ _ _ (Outs.out nofun ⟨rfl, (post_ret (rs := [.tmp 12]) (ans := []) (vs := [.bool true]) (l := []) rfl (by kernel_rfl) trivial ⟨rfl, hS6⟩) a hF⟩)
  · rw [if_neg hc2] at h
    refine ge_known (t := 28) (b := !(few.f (l0.length : Int))) (c := true) (by kernel_rfl) (congrArg (fun z => !z) (Bool.eq_false_iff.2 hc2)) ?_
    refine ge_batch [5, 6] (ans := []) (vs := [(30, undef), (29, undef)]) (l := []) (by kernel_rfl) trivial ?_
    refine ge_off rfl rfl rfl (by kernel_rfl) ?_
    refine ge_batch [8, 9, 10, 11, 12] (ans := []) (vs := [(36, undef), (35, undef), (34, .bool true), (33, .bool true), (32, undef)]) (l := []) (by kernel_rfl) trivial ?_
    refine ge_off rfl rfl rfl (by kernel_rfl) ?_
    refine ge_batch [14, 15] (ans := []) (vs := [(39, .bool true), (38, undef)]) (l := []) (by kernel_rfl) trivial ?_
    refine ge_nil fun a hF => hK5 _ _ ?_ a hF
    refine we_true (by kernel_rfl) ?_
    refine we_seq fun K8 hK8 => ?_
    refine we_region [(0, 0)] rfl ?_
    refine ge_batch [0] (ans := []) (vs := [(12, .bool true)]) (l := []) (by kernel_rfl) trivial ?_
    refine ge_nil fun a hF => hK8 _ _ ?_ a hF
    obtain rfl := Option.some.inj h
    exact we_ret fun a hF => hQ _ _ _ (Outs.out nofun ⟨rfl, (post_ret (rs := [.tmp 12]) (ans := []) (vs := [.bool true]) (l := []) rfl (by kernel_rfl) trivial ⟨rfl, hS4⟩) a hF⟩)
abbrev WindowsKeep.A2 (K : Nat) (w0 : World) (l0 : List STask) (A0 : Option Addr) (c0 : Nat) (x1 : Int) (l2 : List SWindow) (A2 : Option Addr) (c2 : Nat) (l3 : List SCome) (A3 : Option Addr) (c3 : Nat) (l4 : List Int) (A4 : Option Addr) (c4 : Nat) (l5 : List Int) (A5 : Option Addr) (c5 : Nat) (hR0 : RdL w0 A0 l0) (hL0 : l0.length ≤ c0) (hR2 : RdL w0 A2 l2) (hL2 : l2.length ≤ c2) (hR3 : RdL w0 A3 l3) (hL3 : l3.length ≤ c3) (hR4 : RdL w0 A4 l4) (hL4 : l4.length ≤ c4) (hR5 : RdL w0 A5 l5) (hL5 : l5.length ≤ c5) (r1 : Bool) (hc1 : r1 = true) (r2 : (List SJob) × SFault) (b1 : Nat) (hc5 : r2.2.Code = 0) (r3 : Int) (hc6 : ¬ (r3 < 0)) (Z1 : Option Addr) (cz1 : Nat) (r4 : SPlayed × SFault) (b2 : Nat) (Z2 : Option Addr) (cz2 : Nat) (Z3 : Option Addr) (cz3 : Nat) (hc7 : r4.2.Code = 0) (hc8 : (r4.1.Ends.length : Int) = (l3.length : Int)) (i1 : Nat) (hc9 : (i1 : Int) < (l0.length : Int)) (r5 : Int × SFault) (b3 : Nat) (hc10 : r5.2.Code = 0) : Nat → Act → World → Prop := fun (s : Nat) a w => St w0 w [Own.blk b2 (.cells #[(.slice Z2 r4.1.Runs.length cz2), (.slice Z3 r4.1.Ends.length cz3)] 36 (0, 0)), Own.of (.slice Z2 r4.1.Runs.length cz2) 3 r4.1.Runs, Own.of (.slice Z3 r4.1.Ends.length cz3) 3 r4.1.Ends] ∧ Frm 127 a [(0, .slice A0 l0.length c0), (1, .int .i64 x1), (2, .slice A2 l2.length c2), (3, .slice A3 l3.length c3), (16, .pointer (some ⟨b2, 0, none⟩)), (17, .int .i64 (i1 : Int)), (18, .int .i64 r5.1), (79, .int .i64 (l0.length : Int)), (80, .int .i64 (i1 : Int)), (94, .slice A3 l3.length c3), (95, .int .i64 (l3.length : Int)), (96, .int .i64 (s : Int))]
abbrev WindowsKeep.B2 (K : Nat) (w0 : World) (l0 : List STask) (A0 : Option Addr) (c0 : Nat) (x1 : Int) (l2 : List SWindow) (A2 : Option Addr) (c2 : Nat) (l3 : List SCome) (A3 : Option Addr) (c3 : Nat) (l4 : List Int) (A4 : Option Addr) (c4 : Nat) (l5 : List Int) (A5 : Option Addr) (c5 : Nat) (hR0 : RdL w0 A0 l0) (hL0 : l0.length ≤ c0) (hR2 : RdL w0 A2 l2) (hL2 : l2.length ≤ c2) (hR3 : RdL w0 A3 l3) (hL3 : l3.length ≤ c3) (hR4 : RdL w0 A4 l4) (hL4 : l4.length ≤ c4) (hR5 : RdL w0 A5 l5) (hL5 : l5.length ≤ c5) (r1 : Bool) (hc1 : r1 = true) (r2 : (List SJob) × SFault) (b1 : Nat) (hc5 : r2.2.Code = 0) (r3 : Int) (hc6 : ¬ (r3 < 0)) (Z1 : Option Addr) (cz1 : Nat) (r4 : SPlayed × SFault) (b2 : Nat) (Z2 : Option Addr) (cz2 : Nat) (Z3 : Option Addr) (cz3 : Nat) (hc7 : r4.2.Code = 0) (hc8 : (r4.1.Ends.length : Int) = (l3.length : Int)) (i1 : Nat) (hc9 : (i1 : Int) < (l0.length : Int)) (r5 : Int × SFault) (b3 : Nat) (hc10 : r5.2.Code = 0) : (Unit ⊕ Bool) → Exit → Act → World → Prop := Exits 2 (fun (s : Unit) a w => St w0 w [Own.blk b2 (.cells #[(.slice Z2 r4.1.Runs.length cz2), (.slice Z3 r4.1.Ends.length cz3)] 36 (0, 0)), Own.of (.slice Z2 r4.1.Runs.length cz2) 3 r4.1.Runs, Own.of (.slice Z3 r4.1.Ends.length cz3) 3 r4.1.Ends] ∧ Frm 127 a [(0, .slice A0 l0.length c0), (1, .int .i64 x1), (2, .slice A2 l2.length c2), (3, .slice A3 l3.length c3), (16, .pointer (some ⟨b2, 0, none⟩)), (79, .int .i64 (l0.length : Int)), (80, .int .i64 (i1 : Int))]) (Rets Try.prog Try.f3 (WindowsKeep.Post w0))
theorem WindowsKeep_r2 (K : Nat) (w0 : World) (l0 : List STask) (A0 : Option Addr) (c0 : Nat) (x1 : Int) (l2 : List SWindow) (A2 : Option Addr) (c2 : Nat) (l3 : List SCome) (A3 : Option Addr) (c3 : Nat) (l4 : List Int) (A4 : Option Addr) (c4 : Nat) (l5 : List Int) (A5 : Option Addr) (c5 : Nat) (hR0 : RdL w0 A0 l0) (hL0 : l0.length ≤ c0) (hR2 : RdL w0 A2 l2) (hL2 : l2.length ≤ c2) (hR3 : RdL w0 A3 l3) (hL3 : l3.length ≤ c3) (hR4 : RdL w0 A4 l4) (hL4 : l4.length ≤ c4) (hR5 : RdL w0 A5 l5) (hL5 : l5.length ≤ c5) (r1 : Bool) (hc1 : r1 = true) (r2 : (List SJob) × SFault) (b1 : Nat) (hc5 : r2.2.Code = 0) (r3 : Int) (hc6 : ¬ (r3 < 0)) (Z1 : Option Addr) (cz1 : Nat) (r4 : SPlayed × SFault) (b2 : Nat) (Z2 : Option Addr) (cz2 : Nat) (Z3 : Option Addr) (cz3 : Nat) (hc7 : r4.2.Code = 0) (hc8 : (r4.1.Ends.length : Int) = (l3.length : Int)) (i1 : Nat) (hc9 : (i1 : Int) < (l0.length : Int)) (r5 : Int × SFault) (b3 : Nat) (hc10 : r5.2.Code = 0) (s : Nat) (o : Nat ⊕ (Unit ⊕ Bool)) (h : WindowsKeep.r2 l3 r4 i1 r5 s = some o) (a : Act) (w : World) (hA : WindowsKeep.A2 K w0 l0 A0 c0 x1 l2 A2 c2 l3 A3 c3 l4 A4 c4 l5 A5 c5 hR0 hL0 hR2 hL2 hR3 hL3 hR4 hL4 hR5 hL5 r1 hc1 r2 b1 hc5 r3 hc6 Z1 cz1 r4 b2 Z2 cz2 Z3 cz3 hc7 hc8 i1 hc9 r5 b3 hc10 s a w) (Q : Exit → Act → World → Prop) (hQ : ∀ x a w, Outs (WindowsKeep.A2 K w0 l0 A0 c0 x1 l2 A2 c2 l3 A3 c3 l4 A4 c4 l5 A5 c5 hR0 hL0 hR2 hL2 hR3 hL3 hR4 hL4 hR5 hL5 r1 hc1 r2 b1 hc5 r3 hc6 Z1 cz1 r4 b2 Z2 cz2 Z3 cz3 hc7 hc8 i1 hc9 r5 b3 hc10) (WindowsKeep.B2 K w0 l0 A0 c0 x1 l2 A2 c2 l3 A3 c3 l4 A4 c4 l5 A5 c5 hR0 hL0 hR2 hL2 hR3 hL3 hR4 hL4 hR5 hL5 r1 hc1 r2 b1 hc5 r3 hc6 Z1 cz1 r4 b2 Z2 cz2 Z3 cz3 hc7 hc8 i1 hc9 r5 b3 hc10) o x a w → Q x a w) : (subF Try.f3 [1, 1, 1, 1, 1, 1, 1, 1, 1, 1, 0, 1, 0, 0, 1, 1, 0, 0, 1, 1, 1, 1, 0, 0]).wp Try.prog Q a w := by
  obtain ⟨i2, hs⟩ : ∃ z, z = s := ⟨s, rfl⟩
  subst hs
  obtain ⟨hS, hF⟩ := hA
  replace hS : St w0 w [Own.blk b2 (.cells #[(.slice Z2 r4.1.Runs.length cz2), (.slice Z3 r4.1.Ends.length cz3)] 36 (0, 0)), Own.of (.slice Z2 r4.1.Runs.length cz2) 3 r4.1.Runs, Own.of (.slice Z3 r4.1.Ends.length cz3) 3 r4.1.Ends] := hS
  simp only [WindowsKeep.r2] at h
  refine (?_ : WE Try.prog 127 (subF Try.f3 [1, 1, 1, 1, 1, 1, 1, 1, 1, 1, 0, 1, 0, 0, 1, 1, 0, 0, 1, 1, 1, 1, 0, 0]) Q [(0, .slice A0 l0.length c0), (1, .int .i64 x1), (2, .slice A2 l2.length c2), (3, .slice A3 l3.length c3), (16, .pointer (some ⟨b2, 0, none⟩)), (17, .int .i64 (i1 : Int)), (18, .int .i64 r5.1), (79, .int .i64 (l0.length : Int)), (80, .int .i64 (i1 : Int)), (94, .slice A3 l3.length c3), (95, .int .i64 (l3.length : Int)), (96, .int .i64 (i2 : Int))] w) a hF
  clear hF a
  refine we_seq fun K31 hK31 => ?_
  refine we_region [(0, 0)] rfl ?_
  refine ge_batch [0] (ans := []) (vs := [(97, .bool (decide ((i2 : Int) < (l3.length : Int))))]) (l := []) (by kernel_rfl) trivial ?_
  refine ge_nil fun a hF => hK31 _ _ ?_ a hF
  refine we_seq fun K32 hK32 => ?_
  by_cases hc11 : (i2 : Int) < (l3.length : Int)
  · rw [if_pos hc11] at h
    refine we_known (t := 97) (b := decide ((i2 : Int) < (l3.length : Int))) (v := true) (by kernel_rfl) (decide_eq_true hc11) ?_
    refine we_true (by kernel_rfl) ?_
    refine we_skip fun a hF => hK32 _ _ ?_ a hF
    refine we_seq fun K33 hK33 => ?_
    refine we_block ?_
    refine we_seq fun K34 hK34 => ?_
    refine we_region [(0, 0), (1, 0), (2, 0), (3, 1), (4, 0), (5, 2)] rfl ?_
    refine ge_batch [0] (ans := []) (vs := [(98, .int .i64 (i2 : Int))]) (l := []) (by kernel_rfl) trivial ?_
    rcases hx4 : l3[i2]? with _ | e1
    · rw [hx4] at h; cases h
    rw [hx4] at h
    simp only [] at h
    refine ge_index (d := 99) (ty := 0) (t := 24) (el := 43) (sz := 2) (m := l3.length) (c := c3) (x := (.tmp 94)) (y := (.tmp 96)) (A := A3) (k' := .i64) (j := (i2 : Int)) (jn := i2) (b0 := blkOf A3) (o0 := offOf A3) (by kernel_rfl) (by kernel_rfl) (by kernel_rfl) (by kernel_rfl) (by kernel_rfl) ((hS.rd hR3).eqSome (pos_of_get hx4)) rfl (lt_of_get hx4) ?_
    refine ge_batch [2] (ans := [.val (.int .i64 e1.Task), .val (.int .i64 e1.At)]) (vs := [(100, .agg #[.int .i64 e1.Task, .int .i64 e1.At])]) (l := [.loaded ⟨blkOf A3, offOf A3 + i2 * 2, none⟩ (.int .i64 e1.Task), .loaded ⟨blkOf A3, offOf A3 + i2 * 2 + 1, none⟩ (.int .i64 e1.At)]) (by kernel_rfl) ⟨RdL.cell (j := 0) (hS.rd hR3) hx4 rfl, RdL.cell (j := 1) (hS.rd hR3) hx4 rfl, trivial⟩ ?_
    refine ge_new (d := some 21) (o := .cells #[.int .i64 0, .int .i64 0] 43) (v := fun b => .pointer (some ⟨b, 0, none⟩)) hS (fun b => by kernel_rfl) fun b4 w17 hx5 hS39 => ?_
    refine ge_batch [4] (ans := []) (vs := [(20, .int .i64 (i2 : Int))]) (l := []) (by kernel_rfl) trivial ?_
    refine ge_set (b := b4) (j := 0) (cs := #[.int .i64 0, .int .i64 0]) (t := 43) (vs := [.int .i64 e1.Task, .int .i64 e1.At]) hS39 (by kernel_rfl) rfl rfl fun w18 hS40 => ?_
    have hS41 : St w0 w18 [Own.blk b4 (.cells #[.int .i64 e1.Task, .int .i64 e1.At] 43 (0, 0)), Own.blk b2 (.cells #[(.slice Z2 r4.1.Runs.length cz2), (.slice Z3 r4.1.Ends.length cz3)] 36 (0, 0)), Own.of (.slice Z2 r4.1.Runs.length cz2) 3 r4.1.Runs, Own.of (.slice Z3 r4.1.Ends.length cz3) 3 r4.1.Ends] := hS40
    refine ge_nil fun a hF => hK34 _ _ ?_ a hF
    refine we_seq fun K35 hK35 => ?_
    refine we_draws (by kernel_rfl) [(0, 0), (1, 0), (2, 0), (3, 0), (4, 0), (5, 0), (6, 0), (7, 0), (8, 0), (9, 0), (10, 0), (11, 0), (12, 0), (13, 0), (14, 0), (15, 0), (16, 0), (17, 0), (18, 0), (19, 0), (20, 0), (21, 0), (22, 0), (23, 0)] (by kernel_rfl) ?_
    have hS42 := hS41.drew
    refine ge_batch [0, 1, 2, 3, 4] (ans := [.val (.int .i64 e1.Task)]) (vs := [(105, .bool (e1.Task == (i1 : Int))), (104, .bool (e1.Task == (i1 : Int))), (103, .int .i64 (i1 : Int)), (102, .int .i64 e1.Task), (101, .pointer (some ⟨b4, 0, none⟩))]) (l := [.loaded ⟨b4, 0, none⟩ (.int .i64 e1.Task)]) (by kernel_rfl) ⟨hS42.cell 0 rfl rfl, trivial⟩ ?_
    by_cases hc12 : e1.Task = (i1 : Int)
    · rw [if_pos hc12] at h
      refine ge_known (t := 105) (b := (e1.Task == (i1 : Int))) (c := true) (by kernel_rfl) (beq_iff_eq.2 hc12) ?_
      refine ge_batch [5, 6, 7] (ans := [.val ((.slice Z3 r4.1.Ends.length cz3))]) (vs := [(108, .int .i64 (i2 : Int)), (107, (.slice Z3 r4.1.Ends.length cz3)), (106, .pointer (some ⟨b2, 1, none⟩))]) (l := [.loaded ⟨b2, 1, none⟩ ((.slice Z3 r4.1.Ends.length cz3))]) (by kernel_rfl) ⟨hS42.cell 1 rfl rfl, trivial⟩ ?_
      rcases hx6 : r4.1.Ends[i2]? with _ | e2
      · rw [hx6] at h; cases h
      rw [hx6] at h
      simp only [] at h
      refine ge_index (d := 109) (ty := 0) (t := 25) (el := 3) (sz := 1) (m := r4.1.Ends.length) (c := cz3) (x := (.tmp 107)) (y := (.tmp 108)) (A := Z3) (k' := .i64) (j := (i2 : Int)) (jn := i2) (b0 := blkOf Z3) (o0 := offOf Z3) (by kernel_rfl) (by kernel_rfl) (by kernel_rfl) (by kernel_rfl) (by kernel_rfl) ((hS42.rdAt 3 rfl).eqSome (pos_of_get hx6)) rfl (lt_of_get hx6) ?_
      refine ge_batch [9, 10, 11] (ans := [.val (.int .i64 e2)]) (vs := [(112, .bool (decide (e2 < 0))), (111, .bool (decide (e2 < 0))), (110, .int .i64 e2)]) (l := [.loaded ⟨blkOf Z3, offOf Z3 + i2 * 1, none⟩ (.int .i64 e2)]) (by kernel_rfl) ⟨RdL.cell (j := 0) (hS42.rdAt 3 rfl) hx6 rfl, trivial⟩ ?_
      by_cases hc13 : e2 < 0
      · rw [if_pos hc13] at h
        refine ge_known (t := 112) (b := decide (e2 < 0)) (c := true) (by kernel_rfl) (decide_eq_true hc13) ?_
        refine ge_batch [12, 13, 14, 15, 16, 17, 18, 19, 20, 21, 22, 23] (ans := []) (vs := [(124, .bool true), (123, .bool true), (122, undef), (121, undef), (120, undef), (119, undef), (118, undef), (117, undef), (116, undef), (115, undef), (114, undef), (113, undef)]) (l := []) (by kernel_rfl) trivial ?_
        refine ge_nil fun a hF => hK35 _ _ ?_ a hF
        refine we_true (by kernel_rfl) ?_
        refine we_seq fun K36 hK36 => ?_
        refine we_region [(0, 0)] rfl ?_
        refine ge_batch [0] (ans := []) (vs := [(12, .bool false)]) (l := []) (by kernel_rfl) trivial ?_
        refine ge_nil fun a hF => hK36 _ _ ?_ a hF
        have hS43 := hS42.takeN 0
        obtain rfl := Option.some.inj h
        exact we_ret fun a hF => hQ _ _ _ (Outs.out nofun (Exits.on ⟨rfl, (post_ret (rs := [.tmp 12]) (ans := []) (vs := [.bool false]) (l := []) rfl (by kernel_rfl) trivial ⟨rfl, hS43⟩) a hF⟩))
      · rw [if_neg hc13] at h
        refine ge_known (t := 112) (b := decide (e2 < 0)) (c := false) (by kernel_rfl) (decide_eq_false hc13) ?_
        refine ge_batch [12, 13, 14] (ans := [.val ((.slice Z3 r4.1.Ends.length cz3))]) (vs := [(115, .int .i64 (i2 : Int)), (114, (.slice Z3 r4.1.Ends.length cz3)), (113, .pointer (some ⟨b2, 1, none⟩))]) (l := [.loaded ⟨b2, 1, none⟩ ((.slice Z3 r4.1.Ends.length cz3))]) (by kernel_rfl) ⟨hS42.cell 1 rfl rfl, trivial⟩ ?_
        refine ge_index (d := 116) (ty := 0) (t := 25) (el := 3) (sz := 1) (m := r4.1.Ends.length) (c := cz3) (x := (.tmp 114)) (y := (.tmp 115)) (A := Z3) (k' := .i64) (j := (i2 : Int)) (jn := i2) (b0 := blkOf Z3) (o0 := offOf Z3) (by kernel_rfl) (by kernel_rfl) (by kernel_rfl) (by kernel_rfl) (by kernel_rfl) ((hS42.rdAt 3 rfl).eqSome (pos_of_get hx6)) rfl (lt_of_get hx6) ?_
        refine ge_batch [16, 17, 18, 19, 20, 21, 22, 23] (ans := [.val (.int .i64 e2), .val (.int .i64 e1.At)]) (vs := [(124, .bool (decide ((IntKind.i64.wrap (e2 - e1.At)) > r5.1))), (123, .bool (decide ((IntKind.i64.wrap (e2 - e1.At)) > r5.1))), (122, .bool (decide ((IntKind.i64.wrap (e2 - e1.At)) > r5.1))), (121, .int .i64 r5.1), (120, .int .i64 (IntKind.i64.wrap (e2 - e1.At))), (119, .int .i64 e1.At), (118, .pointer (some ⟨b4, 1, none⟩)), (117, .int .i64 e2)]) (l := [.loaded ⟨blkOf Z3, offOf Z3 + i2 * 1, none⟩ (.int .i64 e2), .loaded ⟨b4, 1, none⟩ (.int .i64 e1.At)]) (by kernel_rfl) ⟨RdL.cell (j := 0) (hS42.rdAt 3 rfl) hx6 rfl, hS42.cell 0 rfl rfl, trivial⟩ ?_
        refine ge_nil fun a hF => hK35 _ _ ?_ a hF
        by_cases hc14 : (IntKind.i64.wrap (e2 - e1.At)) > r5.1
        · rw [if_pos hc14] at h
          refine we_known (t := 124) (b := decide ((IntKind.i64.wrap (e2 - e1.At)) > r5.1)) (v := true) (by kernel_rfl) (decide_eq_true hc14) ?_
          refine we_true (by kernel_rfl) ?_
          refine we_seq fun K37 hK37 => ?_
          refine we_region [(0, 0)] rfl ?_
          refine ge_batch [0] (ans := []) (vs := [(12, .bool false)]) (l := []) (by kernel_rfl) trivial ?_
          refine ge_nil fun a hF => hK37 _ _ ?_ a hF
          have hS44 := hS42.takeN 0
          obtain rfl := Option.some.inj h
          exact we_ret fun a hF => hQ _ _ _ (Outs.out nofun (Exits.on ⟨rfl, (post_ret (rs := [.tmp 12]) (ans := []) (vs := [.bool false]) (l := []) rfl (by kernel_rfl) trivial ⟨rfl, hS44⟩) a hF⟩))
        · rw [if_neg hc14] at h
          refine we_known (t := 124) (b := decide ((IntKind.i64.wrap (e2 - e1.At)) > r5.1)) (v := false) (by kernel_rfl) (decide_eq_false hc14) ?_
          refine we_false (by kernel_rfl) ?_
          refine we_skip fun a hF => hK33 _ _ ?_ a hF
          refine we_region [(0, 0), (1, 0)] rfl ?_
          refine ge_addn (d := 125) (ty := 3) (x := (.tmp 96)) (y := (.const (.int .i64 1))) (t := 3) (t2 := 3) (k := .i64) (m := i2) (by kernel_rfl) (by kernel_rfl) (by kernel_rfl) (by have h0 := hR3.small; omega) ?_
          refine ge_batch [1] (ans := []) (vs := [(96, .int .i64 ((i2 + 1 : Nat) : Int))]) (l := []) (by kernel_rfl) trivial ?_
          have hS45 := hS42.bring 3 rfl
          have hS46 := hS45.bring 3 rfl
          have hS47 := hS46.bring 3 rfl
          have hS48 := hS47.takeN 3
          obtain rfl := Option.some.inj h
          exact ge_nil fun a hF => hQ _ _ _ (Outs.again ⟨hS48, hF.weaken ⟨by kernel_rfl, by kernel_rfl, by kernel_rfl, by kernel_rfl, by kernel_rfl, by kernel_rfl, by kernel_rfl, by kernel_rfl, by kernel_rfl, by kernel_rfl, by kernel_rfl, by kernel_rfl, trivial⟩⟩)
    · rw [if_neg hc12] at h
      refine ge_known (t := 105) (b := (e1.Task == (i1 : Int))) (c := false) (by kernel_rfl) (beq_eq_false_iff_ne.2 hc12) ?_
      refine ge_batch [5, 6, 7, 8, 9, 10, 11, 12, 13, 14, 15, 16, 17, 18, 19, 20, 21, 22, 23] (ans := []) (vs := [(124, .bool false), (123, undef), (122, undef), (121, undef), (120, undef), (119, undef), (118, undef), (117, undef), (116, undef), (115, undef), (114, undef), (113, undef), (112, undef), (111, undef), (110, undef), (109, undef), (108, undef), (107, undef), (106, undef)]) (l := []) (by kernel_rfl) trivial ?_
      refine ge_nil fun a hF => hK35 _ _ ?_ a hF
      refine we_false (by kernel_rfl) ?_
      refine we_skip fun a hF => hK33 _ _ ?_ a hF
      refine we_region [(0, 0), (1, 0)] rfl ?_
      refine ge_addn (d := 125) (ty := 3) (x := (.tmp 96)) (y := (.const (.int .i64 1))) (t := 3) (t2 := 3) (k := .i64) (m := i2) (by kernel_rfl) (by kernel_rfl) (by kernel_rfl) (by have h0 := hR3.small; omega) ?_
      refine ge_batch [1] (ans := []) (vs := [(96, .int .i64 ((i2 + 1 : Nat) : Int))]) (l := []) (by kernel_rfl) trivial ?_
      have hS49 := hS42.bring 3 rfl
      have hS50 := hS49.bring 3 rfl
      have hS51 := hS50.bring 3 rfl
      have hS52 := hS51.takeN 3
      obtain rfl := Option.some.inj h
      exact ge_nil fun a hF => hQ _ _ _ (Outs.again ⟨hS52, hF.weaken ⟨by kernel_rfl, by kernel_rfl, by kernel_rfl, by kernel_rfl, by kernel_rfl, by kernel_rfl, by kernel_rfl, by kernel_rfl, by kernel_rfl, by kernel_rfl, by kernel_rfl, by kernel_rfl, trivial⟩⟩)
  · rw [if_neg hc11] at h
    refine we_known (t := 97) (b := decide ((i2 : Int) < (l3.length : Int))) (v := false) (by kernel_rfl) (decide_eq_false hc11) ?_
    refine we_false (by kernel_rfl) ?_
    have hS53 := hS.bring 2 rfl
    have hS54 := hS53.bring 2 rfl
    have hS55 := hS54.bring 2 rfl
    obtain rfl := Option.some.inj h
    exact we_exit fun a hF => hQ _ _ _ (Outs.out nofun (Exits.here ⟨hS55, hF.weaken ⟨by kernel_rfl, by kernel_rfl, by kernel_rfl, by kernel_rfl, by kernel_rfl, by kernel_rfl, by kernel_rfl, trivial⟩⟩))
abbrev WindowsKeep.A1 (K : Nat) (w0 : World) (l0 : List STask) (A0 : Option Addr) (c0 : Nat) (x1 : Int) (l2 : List SWindow) (A2 : Option Addr) (c2 : Nat) (l3 : List SCome) (A3 : Option Addr) (c3 : Nat) (l4 : List Int) (A4 : Option Addr) (c4 : Nat) (l5 : List Int) (A5 : Option Addr) (c5 : Nat) (hR0 : RdL w0 A0 l0) (hL0 : l0.length ≤ c0) (hR2 : RdL w0 A2 l2) (hL2 : l2.length ≤ c2) (hR3 : RdL w0 A3 l3) (hL3 : l3.length ≤ c3) (hR4 : RdL w0 A4 l4) (hL4 : l4.length ≤ c4) (hR5 : RdL w0 A5 l5) (hL5 : l5.length ≤ c5) (r1 : Bool) (hc1 : r1 = true) (r2 : (List SJob) × SFault) (b1 : Nat) (hc5 : r2.2.Code = 0) (r3 : Int) (hc6 : ¬ (r3 < 0)) (Z1 : Option Addr) (cz1 : Nat) (r4 : SPlayed × SFault) (b2 : Nat) (Z2 : Option Addr) (cz2 : Nat) (Z3 : Option Addr) (cz3 : Nat) (hc7 : r4.2.Code = 0) (hc8 : (r4.1.Ends.length : Int) = (l3.length : Int)) : Nat → Act → World → Prop := fun (s : Nat) a w => St w0 w [Own.blk b2 (.cells #[(.slice Z2 r4.1.Runs.length cz2), (.slice Z3 r4.1.Ends.length cz3)] 36 (0, 0)), Own.of (.slice Z2 r4.1.Runs.length cz2) 3 r4.1.Runs, Own.of (.slice Z3 r4.1.Ends.length cz3) 3 r4.1.Ends] ∧ Frm 127 a [(0, .slice A0 l0.length c0), (1, .int .i64 x1), (2, .slice A2 l2.length c2), (3, .slice A3 l3.length c3), (16, .pointer (some ⟨b2, 0, none⟩)), (79, .int .i64 (l0.length : Int)), (80, .int .i64 (s : Int))]
abbrev WindowsKeep.B1 (K : Nat) (w0 : World) (l0 : List STask) (A0 : Option Addr) (c0 : Nat) (x1 : Int) (l2 : List SWindow) (A2 : Option Addr) (c2 : Nat) (l3 : List SCome) (A3 : Option Addr) (c3 : Nat) (l4 : List Int) (A4 : Option Addr) (c4 : Nat) (l5 : List Int) (A5 : Option Addr) (c5 : Nat) (hR0 : RdL w0 A0 l0) (hL0 : l0.length ≤ c0) (hR2 : RdL w0 A2 l2) (hL2 : l2.length ≤ c2) (hR3 : RdL w0 A3 l3) (hL3 : l3.length ≤ c3) (hR4 : RdL w0 A4 l4) (hL4 : l4.length ≤ c4) (hR5 : RdL w0 A5 l5) (hL5 : l5.length ≤ c5) (r1 : Bool) (hc1 : r1 = true) (r2 : (List SJob) × SFault) (b1 : Nat) (hc5 : r2.2.Code = 0) (r3 : Int) (hc6 : ¬ (r3 < 0)) (Z1 : Option Addr) (cz1 : Nat) (r4 : SPlayed × SFault) (b2 : Nat) (Z2 : Option Addr) (cz2 : Nat) (Z3 : Option Addr) (cz3 : Nat) (hc7 : r4.2.Code = 0) (hc8 : (r4.1.Ends.length : Int) = (l3.length : Int)) : (Unit ⊕ Bool) → Exit → Act → World → Prop := Exits 0 (fun (s : Unit) a w => St w0 w [] ∧ Frm 127 a []) (Rets Try.prog Try.f3 (WindowsKeep.Post w0))
theorem WindowsKeep_r1 (K : Nat) (w0 : World) (l0 : List STask) (A0 : Option Addr) (c0 : Nat) (x1 : Int) (l2 : List SWindow) (A2 : Option Addr) (c2 : Nat) (l3 : List SCome) (A3 : Option Addr) (c3 : Nat) (l4 : List Int) (A4 : Option Addr) (c4 : Nat) (l5 : List Int) (A5 : Option Addr) (c5 : Nat) (hR0 : RdL w0 A0 l0) (hL0 : l0.length ≤ c0) (hR2 : RdL w0 A2 l2) (hL2 : l2.length ≤ c2) (hR3 : RdL w0 A3 l3) (hL3 : l3.length ≤ c3) (hR4 : RdL w0 A4 l4) (hL4 : l4.length ≤ c4) (hR5 : RdL w0 A5 l5) (hL5 : l5.length ≤ c5) (r1 : Bool) (hc1 : r1 = true) (r2 : (List SJob) × SFault) (b1 : Nat) (hc5 : r2.2.Code = 0) (r3 : Int) (hc6 : ¬ (r3 < 0)) (Z1 : Option Addr) (cz1 : Nat) (r4 : SPlayed × SFault) (b2 : Nat) (Z2 : Option Addr) (cz2 : Nat) (Z3 : Option Addr) (cz3 : Nat) (hc7 : r4.2.Code = 0) (hc8 : (r4.1.Ends.length : Int) = (l3.length : Int)) (s : Nat) (o : Nat ⊕ (Unit ⊕ Bool)) (h : WindowsKeep.r1 K l0 x1 l2 l3 r2 r4 s = some o) (a : Act) (w : World) (hA : WindowsKeep.A1 K w0 l0 A0 c0 x1 l2 A2 c2 l3 A3 c3 l4 A4 c4 l5 A5 c5 hR0 hL0 hR2 hL2 hR3 hL3 hR4 hL4 hR5 hL5 r1 hc1 r2 b1 hc5 r3 hc6 Z1 cz1 r4 b2 Z2 cz2 Z3 cz3 hc7 hc8 s a w) (Q : Exit → Act → World → Prop) (hQ : ∀ x a w, Outs (WindowsKeep.A1 K w0 l0 A0 c0 x1 l2 A2 c2 l3 A3 c3 l4 A4 c4 l5 A5 c5 hR0 hL0 hR2 hL2 hR3 hL3 hR4 hL4 hR5 hL5 r1 hc1 r2 b1 hc5 r3 hc6 Z1 cz1 r4 b2 Z2 cz2 Z3 cz3 hc7 hc8) (WindowsKeep.B1 K w0 l0 A0 c0 x1 l2 A2 c2 l3 A3 c3 l4 A4 c4 l5 A5 c5 hR0 hL0 hR2 hL2 hR3 hL3 hR4 hL4 hR5 hL5 r1 hc1 r2 b1 hc5 r3 hc6 Z1 cz1 r4 b2 Z2 cz2 Z3 cz3 hc7 hc8) o x a w → Q x a w) : (subF Try.f3 [1, 1, 1, 1, 1, 1, 1, 1, 1, 1, 0, 1, 0, 0]).wp Try.prog Q a w := by
  obtain ⟨i1, hs⟩ : ∃ z, z = s := ⟨s, rfl⟩
  subst hs
  obtain ⟨hS, hF⟩ := hA
  replace hS : St w0 w [Own.blk b2 (.cells #[(.slice Z2 r4.1.Runs.length cz2), (.slice Z3 r4.1.Ends.length cz3)] 36 (0, 0)), Own.of (.slice Z2 r4.1.Runs.length cz2) 3 r4.1.Runs, Own.of (.slice Z3 r4.1.Ends.length cz3) 3 r4.1.Ends] := hS
  simp only [WindowsKeep.r1] at h
  refine (?_ : WE Try.prog 127 (subF Try.f3 [1, 1, 1, 1, 1, 1, 1, 1, 1, 1, 0, 1, 0, 0]) Q [(0, .slice A0 l0.length c0), (1, .int .i64 x1), (2, .slice A2 l2.length c2), (3, .slice A3 l3.length c3), (16, .pointer (some ⟨b2, 0, none⟩)), (79, .int .i64 (l0.length : Int)), (80, .int .i64 (i1 : Int))] w) a hF
  clear hF a
  refine we_seq fun K23 hK23 => ?_
  refine we_region [(0, 0)] rfl ?_
  refine ge_batch [0] (ans := []) (vs := [(81, .bool (decide ((i1 : Int) < (l0.length : Int))))]) (l := []) (by kernel_rfl) trivial ?_
  refine ge_nil fun a hF => hK23 _ _ ?_ a hF
  refine we_seq fun K24 hK24 => ?_
  by_cases hc9 : (i1 : Int) < (l0.length : Int)
  · rw [if_pos hc9] at h
    refine we_known (t := 81) (b := decide ((i1 : Int) < (l0.length : Int))) (v := true) (by kernel_rfl) (decide_eq_true hc9) ?_
    refine we_true (by kernel_rfl) ?_
    refine we_skip fun a hF => hK24 _ _ ?_ a hF
    refine we_seq fun K25 hK25 => ?_
    refine we_block ?_
    refine we_seq fun K26 hK26 => ?_
    refine we_region [(0, 0), (1, 0)] rfl ?_
    refine ge_batch [0, 1] (ans := []) (vs := [(17, .int .i64 (i1 : Int)), (82, .int .i64 (i1 : Int))]) (l := []) (by kernel_rfl) trivial ?_
    refine ge_nil fun a hF => hK26 _ _ ?_ a hF
    refine we_seq fun K27 hK27 => ?_
    refine we_region [(0, 0), (1, 0), (2, 0), (3, 0), (4, 1), (5, 0), (6, 0), (7, 0), (8, 1), (9, 0), (10, 2)] rfl ?_
    rcases hq9 : modes_Within.f K l0 (i1 : Int) x1 l2 with _ | r5
    · rw [hq9] at h; cases h
    rw [hq9] at h
    simp only [] at h
    refine ge_batch [0, 1, 2, 3] (ans := []) (vs := [(87, .slice A2 l2.length c2), (86, .int .i64 x1), (85, .int .i64 (i1 : Int)), (84, .slice A0 l0.length c0)]) (l := []) (by kernel_rfl) trivial ?_
    refine ge_call (d := some 88) (f := 16) (args := #[.slice A0 l0.length c0, .int .i64 (i1 : Int), .int .i64 x1, .slice A2 l2.length c2]) (by kernel_rfl) (modes_Within_ok K l0 A0 c0 (i1 : Int) x1 l2 A2 c2 _ (hS.rd hR0) hL0 (hS.rd hR2) hL2 _ hq9) ?_
    rintro _ w14 ⟨rfl, hS30⟩
    refine ⟨_, rfl, hS30.below, ?_⟩
    have hS31 := hS.call hS30
    refine ge_batch [5, 6, 7] (ans := []) (vs := [(90, .agg #[.int .i64 r5.2.Code, .int .i64 r5.2.At]), (89, .int .i64 r5.1), (83, .tuple #[.int .i64 r5.1, .agg #[.int .i64 r5.2.Code, .int .i64 r5.2.At]])]) (l := []) (by kernel_rfl) trivial ?_
    refine ge_new (d := some 19) (o := .cells #[.int .i64 0, .int .i64 0] 31) (v := fun b => .pointer (some ⟨b, 0, none⟩)) hS31 (fun b => by kernel_rfl) fun b3 w15 hx3 hS32 => ?_
    refine ge_batch [9] (ans := []) (vs := [(18, .int .i64 r5.1)]) (l := []) (by kernel_rfl) trivial ?_
    refine ge_set (b := b3) (j := 0) (cs := #[.int .i64 0, .int .i64 0]) (t := 31) (vs := [.int .i64 r5.2.Code, .int .i64 r5.2.At]) hS32 (by kernel_rfl) rfl rfl fun w16 hS33 => ?_
    have hS34 : St w0 w16 [Own.blk b3 (.cells #[.int .i64 r5.2.Code, .int .i64 r5.2.At] 31 (0, 0)), Own.blk b2 (.cells #[(.slice Z2 r4.1.Runs.length cz2), (.slice Z3 r4.1.Ends.length cz3)] 36 (0, 0)), Own.of (.slice Z2 r4.1.Runs.length cz2) 3 r4.1.Runs, Own.of (.slice Z3 r4.1.Ends.length cz3) 3 r4.1.Ends] := hS33
    refine ge_nil fun a hF => hK27 _ _ ?_ a hF
    refine we_seq fun K28 hK28 => ?_
    refine we_seq fun K29 hK29 => ?_
    refine we_region [(0, 0), (1, 0), (2, 0)] rfl ?_
    refine ge_batch [0, 1, 2] (ans := [.val (.int .i64 r5.2.Code)]) (vs := [(93, .bool (r5.2.Code != 0)), (92, .int .i64 r5.2.Code), (91, .pointer (some ⟨b3, 0, none⟩))]) (l := [.loaded ⟨b3, 0, none⟩ (.int .i64 r5.2.Code)]) (by kernel_rfl) ⟨hS34.cell 0 rfl rfl, trivial⟩ ?_
    refine ge_nil fun a hF => hK29 _ _ ?_ a hF
    by_cases hc10 : r5.2.Code = 0
    · rw [if_pos hc10] at h
      refine we_known (t := 93) (b := (r5.2.Code != 0)) (v := false) (by kernel_rfl) (bne_eq_false_iff_eq.2 hc10) ?_
      refine we_false (by kernel_rfl) ?_
      refine we_skip fun a hF => hK28 _ _ ?_ a hF
      refine we_seq fun K30 hK30 => ?_
      refine we_region [(0, 0), (1, 0), (2, 0)] rfl ?_
      refine ge_batch [0, 1, 2] (ans := []) (vs := [(96, .int .i64 0), (95, .int .i64 (l3.length : Int)), (94, .slice A3 l3.length c3)]) (l := []) (by kernel_rfl) trivial ?_
      refine ge_nil fun a hF => hK30 _ _ ?_ a hF
      refine we_block ?_
      have hS35 := hS34.bring 3 rfl
      have hS36 := hS35.bring 3 rfl
      have hS37 := hS36.bring 3 rfl
      have hS38 := hS37.takeN 3
      rcases hq10 : iter (WindowsKeep.r2 l3 r4 i1 r5) K 0 with _ | (_ | rr1)
      · rw [hq10] at h; cases h
      · rw [hq10] at h
        simp only [] at h
        refine we_iter (A := WindowsKeep.A2 K w0 l0 A0 c0 x1 l2 A2 c2 l3 A3 c3 l4 A4 c4 l5 A5 c5 hR0 hL0 hR2 hL2 hR3 hL3 hR4 hL4 hR5 hL5 r1 hc1 r2 b1 hc5 r3 hc6 Z1 cz1 r4 b2 Z2 cz2 Z3 cz3 hc7 hc8 i1 hc9 r5 b3 hc10) (B := WindowsKeep.B2 K w0 l0 A0 c0 x1 l2 A2 c2 l3 A3 c3 l4 A4 c4 l5 A5 c5 hR0 hL0 hR2 hL2 hR3 hL3 hR4 hL4 hR5 hL5 r1 hc1 r2 b1 hc5 r3 hc6 Z1 cz1 r4 b2 Z2 cz2 Z3 cz3 hc7 hc8 i1 hc9 r5 b3 hc10) hq10 (fun a hF => ⟨hS38, hF.weaken ⟨by kernel_rfl, by kernel_rfl, by kernel_rfl, by kernel_rfl, by kernel_rfl, by kernel_rfl, by kernel_rfl, by kernel_rfl, by kernel_rfl, by kernel_rfl, by kernel_rfl, by kernel_rfl, trivial⟩⟩) (fun s o hf a w hA Q hQ => WindowsKeep_r2 K w0 l0 A0 c0 x1 l2 A2 c2 l3 A3 c3 l4 A4 c4 l5 A5 c5 hR0 hL0 hR2 hL2 hR3 hL3 hR4 hL4 hR5 hL5 r1 hc1 r2 b1 hc5 r3 hc6 Z1 cz1 r4 b2 Z2 cz2 Z3 cz3 hc7 hc8 i1 hc9 r5 b3 hc10 s o hf a w hA Q hQ) ?_
        rintro _ a w19 _ ⟨rfl, hS56, hF⟩
        replace hS56 : St w0 w19 [Own.blk b2 (.cells #[(.slice Z2 r4.1.Runs.length cz2), (.slice Z3 r4.1.Ends.length cz3)] 36 (0, 0)), Own.of (.slice Z2 r4.1.Runs.length cz2) 3 r4.1.Runs, Own.of (.slice Z3 r4.1.Ends.length cz3) 3 r4.1.Ends] := hS56
        refine hK25 [(0, .slice A0 l0.length c0), (1, .int .i64 x1), (2, .slice A2 l2.length c2), (3, .slice A3 l3.length c3), (16, .pointer (some ⟨b2, 0, none⟩)), (79, .int .i64 (l0.length : Int)), (80, .int .i64 (i1 : Int))] w19 ?_ a hF
        refine we_region [(0, 0), (1, 0)] rfl ?_
        refine ge_addn (d := 126) (ty := 3) (x := (.tmp 80)) (y := (.const (.int .i64 1))) (t := 3) (t2 := 3) (k := .i64) (m := i1) (by kernel_rfl) (by kernel_rfl) (by kernel_rfl) (by have h0 := hR0.small; omega) ?_
        refine ge_batch [1] (ans := []) (vs := [(80, .int .i64 ((i1 + 1 : Nat) : Int))]) (l := []) (by kernel_rfl) trivial ?_
        have hS57 := hS56.bring 2 rfl
        have hS58 := hS57.bring 2 rfl
        have hS59 := hS58.bring 2 rfl
        obtain rfl := Option.some.inj h
        exact ge_nil fun a hF => hQ _ _ _ (Outs.again ⟨hS59, hF.weaken ⟨by kernel_rfl, by kernel_rfl, by kernel_rfl, by kernel_rfl, by kernel_rfl, by kernel_rfl, by kernel_rfl, trivial⟩⟩)
      · rw [hq10] at h
        simp only [] at h
        refine we_iter (A := WindowsKeep.A2 K w0 l0 A0 c0 x1 l2 A2 c2 l3 A3 c3 l4 A4 c4 l5 A5 c5 hR0 hL0 hR2 hL2 hR3 hL3 hR4 hL4 hR5 hL5 r1 hc1 r2 b1 hc5 r3 hc6 Z1 cz1 r4 b2 Z2 cz2 Z3 cz3 hc7 hc8 i1 hc9 r5 b3 hc10) (B := WindowsKeep.B2 K w0 l0 A0 c0 x1 l2 A2 c2 l3 A3 c3 l4 A4 c4 l5 A5 c5 hR0 hL0 hR2 hL2 hR3 hL3 hR4 hL4 hR5 hL5 r1 hc1 r2 b1 hc5 r3 hc6 Z1 cz1 r4 b2 Z2 cz2 Z3 cz3 hc7 hc8 i1 hc9 r5 b3 hc10) hq10 (fun a hF => ⟨hS38, hF.weaken ⟨by kernel_rfl, by kernel_rfl, by kernel_rfl, by kernel_rfl, by kernel_rfl, by kernel_rfl, by kernel_rfl, by kernel_rfl, by kernel_rfl, by kernel_rfl, by kernel_rfl, by kernel_rfl, trivial⟩⟩) (fun s o hf a w hA Q hQ => WindowsKeep_r2 K w0 l0 A0 c0 x1 l2 A2 c2 l3 A3 c3 l4 A4 c4 l5 A5 c5 hR0 hL0 hR2 hL2 hR3 hL3 hR4 hL4 hR5 hL5 r1 hc1 r2 b1 hc5 r3 hc6 Z1 cz1 r4 b2 Z2 cz2 Z3 cz3 hc7 hc8 i1 hc9 r5 b3 hc10 s o hf a w hA Q hQ) ?_
        rintro _ a w1 _ ⟨rfl, hb⟩
        obtain rfl := Option.some.inj h
        exact hQ _ _ _ (Outs.out nofun (Exits.on ⟨rfl, hb⟩))
    · rw [if_neg hc10] at h
      refine we_known (t := 93) (b := (r5.2.Code != 0)) (v := true) (by kernel_rfl) (bne_iff_ne.2 hc10) ?_
      refine we_true (by kernel_rfl) ?_
      refine we_exit fun a hF => hK25 _ _ ?_ a hF
      refine we_region [(0, 0), (1, 0)] rfl ?_
      refine ge_addn (d := 126) (ty := 3) (x := (.tmp 80)) (y := (.const (.int .i64 1))) (t := 3) (t2 := 3) (k := .i64) (m := i1) (by kernel_rfl) (by kernel_rfl) (by kernel_rfl) (by have h0 := hR0.small; omega) ?_
      refine ge_batch [1] (ans := []) (vs := [(80, .int .i64 ((i1 + 1 : Nat) : Int))]) (l := []) (by kernel_rfl) trivial ?_
      have hS60 := hS34.bring 3 rfl
      have hS61 := hS60.bring 3 rfl
      have hS62 := hS61.bring 3 rfl
      have hS63 := hS62.takeN 3
      obtain rfl := Option.some.inj h
      exact ge_nil fun a hF => hQ _ _ _ (Outs.again ⟨hS63, hF.weaken ⟨by kernel_rfl, by kernel_rfl, by kernel_rfl, by kernel_rfl, by kernel_rfl, by kernel_rfl, by kernel_rfl, trivial⟩⟩)
  · rw [if_neg hc9] at h
    refine we_known (t := 81) (b := decide ((i1 : Int) < (l0.length : Int))) (v := false) (by kernel_rfl) (decide_eq_false hc9) ?_
    refine we_false (by kernel_rfl) ?_
    have hS64 := hS.takeN 0
    obtain rfl := Option.some.inj h
    exact we_exit fun a hF => hQ _ _ _ (Outs.out nofun (Exits.here ⟨hS64, hF.weaken trivial⟩))
theorem WindowsKeep_ok (K : Nat) (l0 : List STask) (A0 : Option Addr) (c0 : Nat) (x1 : Int) (l2 : List SWindow) (A2 : Option Addr) (c2 : Nat) (l3 : List SCome) (A3 : Option Addr) (c3 : Nat) (l4 : List Int) (A4 : Option Addr) (c4 : Nat) (l5 : List Int) (A5 : Option Addr) (c5 : Nat) (w0 : World) (hR0 : RdL w0 A0 l0) (hL0 : l0.length ≤ c0) (hR2 : RdL w0 A2 l2) (hL2 : l2.length ≤ c2) (hR3 : RdL w0 A3 l3) (hL3 : l3.length ≤ c3) (hR4 : RdL w0 A4 l4) (hL4 : l4.length ≤ c4) (hR5 : RdL w0 A5 l5) (hL5 : l5.length ≤ c5) (r : Bool) (h : WindowsKeep.f K l0 x1 l2 l3 l4 l5 = some r) :
    Calls Try.prog 3 #[.slice A0 l0.length c0, .int .i64 x1, .slice A2 l2.length c2, .slice A3 l3.length c3, .slice A4 l4.length c4, .slice A5 l5.length c5] w0 (WindowsKeep.Post w0 r) := by
  have hS := St.start w0
  unfold WindowsKeep.f at h
  refine calls_enter (n := 127) (args := [.slice A0 l0.length c0, .int .i64 x1, .slice A2 l2.length c2, .slice A3 l3.length c3, .slice A4 l4.length c4, .slice A5 l5.length c5]) (fn := Try.f3) rfl rfl rfl rfl ?_
  show WE _ _ _ _ [(0, .slice A0 l0.length c0), (1, .int .i64 x1), (2, .slice A2 l2.length c2), (3, .slice A3 l3.length c3), (4, .slice A4 l4.length c4), (5, .slice A5 l5.length c5)] _
  refine we_seq fun K1 hK1 => ?_
  refine we_region [(0, 0)] rfl ?_
  refine ge_batch [0] (ans := []) (vs := [(12, .bool false)]) (l := []) (by kernel_rfl) trivial ?_
  refine ge_nil fun a hF => hK1 _ _ ?_ a hF
  refine we_seq fun K2 hK2 => ?_
  refine we_seq fun K3 hK3 => ?_
  refine we_region [(0, 1), (1, 0)] rfl ?_
  rcases hq1 : opens.f K with _ | r1
  · rw [hq1] at h; cases h
  rw [hq1] at h
  simp only [] at h
  refine ge_call (d := some 22) (f := 10) (args := #[]) (by kernel_rfl) (opens_ok K _ _ hq1) ?_
  rintro _ w1 ⟨rfl, hS1⟩
  refine ⟨_, rfl, hS1.below, ?_⟩
  have hS2 := hS.call hS1
  refine ge_batch [1] (ans := []) (vs := [(23, .bool (!r1))]) (l := []) (by kernel_rfl) trivial ?_
  refine ge_nil fun a hF => hK3 _ _ ?_ a hF
  by_cases hc1 : r1 = true
  · rw [if_pos hc1] at h
    refine we_known (t := 23) (b := !r1) (v := false) (by kernel_rfl) (congrArg (fun z => !z) hc1) ?_
    refine we_false (by kernel_rfl) ?_
    refine we_skip fun a hF => hK2 _ _ ?_ a hF
    refine we_seq fun K4 hK4 => ?_
    rcases hq5 : WindowsKeep.p0 l0 l2 l3 with _ | (_ | rr3)
    · rw [hq5] at h; cases h
    · rw [hq5] at h
      simp only [] at h
      refine we_keep (e' := [(0, .slice A0 l0.length c0), (1, .int .i64 x1), (2, .slice A2 l2.length c2), (3, .slice A3 l3.length c3), (4, .slice A4 l4.length c4), (5, .slice A5 l5.length c5), (12, .bool false), (22, .bool r1), (23, .bool false)]) ⟨by kernel_rfl, by kernel_rfl, by kernel_rfl, by kernel_rfl, by kernel_rfl, by kernel_rfl, by kernel_rfl, by kernel_rfl, by kernel_rfl, trivial⟩ (WindowsKeep_p0 K w0 l0 A0 c0 x1 l2 A2 c2 l3 A3 c3 l4 A4 c4 l5 A5 c5 hR0 hL0 hR2 hL2 hR3 hL3 hR4 hL4 hR5 hL5 r1 hc1 _ hq5 _ hS2 _ ?_)
      rintro _ a w5 ⟨rfl, hS9, hF⟩
      replace hS9 : St w0 w5 [] := hS9
      refine hK4 [(0, .slice A0 l0.length c0), (1, .int .i64 x1), (2, .slice A2 l2.length c2), (3, .slice A3 l3.length c3), (4, .slice A4 l4.length c4), (5, .slice A5 l5.length c5)] w5 ?_ a hF
      refine we_seq fun K9 hK9 => ?_
      refine we_region [(0, 0), (1, 0), (2, 0), (3, 0), (4, 1), (5, 0), (6, 0), (7, 0), (8, 1), (9, 0), (10, 2)] rfl ?_
      rcases hq6 : tasks_Jobs.f K l0 l3 l4 l5 with _ | r2
      · rw [hq6] at h; cases h
      rw [hq6] at h
      simp only [] at h
      refine ge_batch [0, 1, 2, 3] (ans := []) (vs := [(44, .slice A5 l5.length c5), (43, .slice A4 l4.length c4), (42, .slice A3 l3.length c3), (41, .slice A0 l0.length c0)]) (l := []) (by kernel_rfl) trivial ?_
      refine ge_call (d := some 45) (f := 12) (args := #[.slice A0 l0.length c0, .slice A3 l3.length c3, .slice A4 l4.length c4, .slice A5 l5.length c5]) (by kernel_rfl) (tasks_Jobs_ok K l0 A0 c0 l3 A3 c3 l4 A4 c4 l5 A5 c5 _ (hS9.rd hR0) hL0 (hS9.rd hR3) hL3 (hS9.rd hR4) hL4 (hS9.rd hR5) hL5 _ hq6) ?_
      rintro _ w6 ⟨v1, rfl, hS10⟩
      refine ⟨_, rfl, hS10.below, ?_⟩
      have hS11 := hS9.call hS10
      refine ge_batch [5, 6, 7] (ans := []) (vs := [(47, .agg #[.int .i64 r2.2.Code, .int .i64 r2.2.At]), (46, v1), (40, .tuple #[v1, .agg #[.int .i64 r2.2.Code, .int .i64 r2.2.At]])]) (l := []) (by kernel_rfl) trivial ?_
      refine ge_new (d := some 14) (o := .cells #[.int .i64 0, .int .i64 0] 31) (v := fun b => .pointer (some ⟨b, 0, none⟩)) hS11 (fun b => by kernel_rfl) fun b1 w7 hx1 hS12 => ?_
      refine ge_batch [9] (ans := []) (vs := [(13, v1)]) (l := []) (by kernel_rfl) trivial ?_
      refine ge_set (b := b1) (j := 0) (cs := #[.int .i64 0, .int .i64 0]) (t := 31) (vs := [.int .i64 r2.2.Code, .int .i64 r2.2.At]) hS12 (by kernel_rfl) rfl rfl fun w8 hS13 => ?_
      have hS14 : St w0 w8 [Own.blk b1 (.cells #[.int .i64 r2.2.Code, .int .i64 r2.2.At] 31 (0, 0)), Own.of v1 106 r2.1] := hS13
      refine ge_nil fun a hF => hK9 _ _ ?_ a hF
      refine we_seq fun K10 hK10 => ?_
      refine we_seq fun K11 hK11 => ?_
      refine we_region [(0, 0), (1, 0), (2, 0)] rfl ?_
      refine ge_batch [0, 1, 2] (ans := [.val (.int .i64 r2.2.Code)]) (vs := [(50, .bool (r2.2.Code != 0)), (49, .int .i64 r2.2.Code), (48, .pointer (some ⟨b1, 0, none⟩))]) (l := [.loaded ⟨b1, 0, none⟩ (.int .i64 r2.2.Code)]) (by kernel_rfl) ⟨hS14.cell 0 rfl rfl, trivial⟩ ?_
      refine ge_nil fun a hF => hK11 _ _ ?_ a hF
      by_cases hc5 : r2.2.Code = 0
      · rw [if_pos hc5] at h
        refine we_known (t := 50) (b := (r2.2.Code != 0)) (v := false) (by kernel_rfl) (bne_eq_false_iff_eq.2 hc5) ?_
        refine we_false (by kernel_rfl) ?_
        refine we_skip fun a hF => hK10 _ _ ?_ a hF
        refine we_seq fun K12 hK12 => ?_
        refine we_region [(0, 0), (1, 0), (2, 1), (3, 0)] rfl ?_
        rcases hq7 : lasts.f K l0 l3 with _ | r3
        · rw [hq7] at h; cases h
        rw [hq7] at h
        simp only [] at h
        refine ge_batch [0, 1] (ans := []) (vs := [(52, .slice A3 l3.length c3), (51, .slice A0 l0.length c0)]) (l := []) (by kernel_rfl) trivial ?_
        refine ge_call (d := some 53) (f := 13) (args := #[.slice A0 l0.length c0, .slice A3 l3.length c3]) (by kernel_rfl) (lasts_ok K l0 A0 c0 l3 A3 c3 _ (hS14.rd hR0) hL0 (hS14.rd hR3) hL3 _ hq7) ?_
        rintro _ w9 ⟨rfl, hS15⟩
        refine ⟨_, rfl, hS15.below, ?_⟩
        have hS16 := hS14.call hS15
        refine ge_batch [3] (ans := []) (vs := [(15, .int .i64 r3)]) (l := []) (by kernel_rfl) trivial ?_
        refine ge_nil fun a hF => hK12 _ _ ?_ a hF
        refine we_seq fun K13 hK13 => ?_
        refine we_seq fun K14 hK14 => ?_
        refine we_region [(0, 0), (1, 0)] rfl ?_
        refine ge_batch [0, 1] (ans := []) (vs := [(55, .bool (decide (r3 < 0))), (54, .int .i64 r3)]) (l := []) (by kernel_rfl) trivial ?_
        refine ge_nil fun a hF => hK14 _ _ ?_ a hF
        by_cases hc6 : r3 < 0
        · rw [if_pos hc6] at h
          refine we_known (t := 55) (b := decide (r3 < 0)) (v := true) (by kernel_rfl) (decide_eq_true hc6) ?_
          refine we_true (by kernel_rfl) ?_
          refine we_seq fun K15 hK15 => ?_
          refine we_region [(0, 0)] rfl ?_
          refine ge_batch [0] (ans := []) (vs := [(12, .bool true)]) (l := []) (by kernel_rfl) trivial ?_
          refine ge_nil fun a hF => hK15 _ _ ?_ a hF
          have hS17 := hS16.takeN 0
          obtain rfl := Option.some.inj h
          exact we_ret (post_ret (rs := [.tmp 12]) (ans := []) (vs := [.bool true]) (l := []) rfl (by kernel_rfl) trivial ⟨rfl, hS17⟩)
        · rw [if_neg hc6] at h
          refine we_known (t := 55) (b := decide (r3 < 0)) (v := false) (by kernel_rfl) (decide_eq_false hc6) ?_
          refine we_false (by kernel_rfl) ?_
          refine we_skip fun a hF => hK13 _ _ ?_ a hF
          refine we_seq fun K16 hK16 => ?_
          refine we_region [(0, 0), (1, 0), (2, 0), (3, 0), (4, 1), (5, 0), (6, 0), (7, 0), (8, 1), (9, 2), (10, 2)] rfl ?_
          refine ge_batch [0, 1, 2, 3] (ans := []) (vs := [(60, .int .i64 r3), (59, .slice A2 l2.length c2), (58, .int .i64 x1), (57, v1)]) (l := []) (by kernel_rfl) trivial ?_
          obtain ⟨Z1, cz1, rfl⟩ := hS16.open 1 rfl
          rcases hq8 : modes_Hosted.f K r2.1 x1 l2 r3 with _ | r4
          · rw [hq8] at h; cases h
          rw [hq8] at h
          simp only [] at h
          refine ge_call (d := some 61) (f := 14) (args := #[(.slice Z1 r2.1.length cz1), .int .i64 x1, .slice A2 l2.length c2, .int .i64 r3]) (by kernel_rfl) (modes_Hosted_ok K r2.1 Z1 cz1 x1 l2 A2 c2 r3 _ (hS16.rdAt 1 rfl) (hS16.capAt 1 rfl) (hS16.rd hR2) hL2 _ hq8) ?_
          rintro _ w10 ⟨v2, v3, rfl, hS18⟩
          refine ⟨_, rfl, hS18.below, ?_⟩
          have hS19 := hS16.call hS18
          refine ge_batch [5, 6, 7] (ans := []) (vs := [(63, .agg #[.int .i64 r4.2.Code, .int .i64 r4.2.At]), (62, .agg #[v2, v3]), (56, .tuple #[.agg #[v2, v3], .agg #[.int .i64 r4.2.Code, .int .i64 r4.2.At]])]) (l := []) (by kernel_rfl) trivial ?_
          refine ge_new (d := some 16) (o := .cells #[.slice none 0 0, .slice none 0 0] 36) (v := fun b => .pointer (some ⟨b, 0, none⟩)) hS19 (fun b => by kernel_rfl) fun b2 w11 hx2 hS20 => ?_
          obtain ⟨Z2, cz2, rfl⟩ := hS20.open 1 rfl
          obtain ⟨Z3, cz3, rfl⟩ := hS20.open 2 rfl
          refine ge_set (b := b2) (j := 0) (cs := #[.slice none 0 0, .slice none 0 0]) (t := 36) (vs := [(.slice Z2 r4.1.Runs.length cz2), (.slice Z3 r4.1.Ends.length cz3)]) hS20 (by kernel_rfl) rfl rfl fun w12 hS21 => ?_
          have hS22 : St w0 w12 [Own.blk b2 (.cells #[(.slice Z2 r4.1.Runs.length cz2), (.slice Z3 r4.1.Ends.length cz3)] 36 (0, 0)), Own.of (.slice Z2 r4.1.Runs.length cz2) 3 r4.1.Runs, Own.of (.slice Z3 r4.1.Ends.length cz3) 3 r4.1.Ends, Own.blk b1 (.cells #[.int .i64 r2.2.Code, .int .i64 r2.2.At] 31 (0, 0)), Own.of (.slice Z1 r2.1.length cz1) 106 r2.1] := hS21
          have hS23 := hS22.bring 3 rfl
          refine ge_set (b := b1) (j := 0) (cs := #[.int .i64 r2.2.Code, .int .i64 r2.2.At]) (t := 31) (vs := [.int .i64 r4.2.Code, .int .i64 r4.2.At]) hS23 (by kernel_rfl) rfl rfl fun w13 hS24 => ?_
          have hS25 : St w0 w13 [Own.blk b1 (.cells #[.int .i64 r4.2.Code, .int .i64 r4.2.At] 31 (0, 0)), Own.blk b2 (.cells #[(.slice Z2 r4.1.Runs.length cz2), (.slice Z3 r4.1.Ends.length cz3)] 36 (0, 0)), Own.of (.slice Z2 r4.1.Runs.length cz2) 3 r4.1.Runs, Own.of (.slice Z3 r4.1.Ends.length cz3) 3 r4.1.Ends, Own.of (.slice Z1 r2.1.length cz1) 106 r2.1] := hS24
          refine ge_nil fun a hF => hK16 _ _ ?_ a hF
          refine we_seq fun K17 hK17 => ?_
          refine we_seq fun K18 hK18 => ?_
          refine we_region [(0, 0), (1, 0), (2, 0)] rfl ?_
          refine ge_batch [0, 1, 2] (ans := [.val (.int .i64 r4.2.Code)]) (vs := [(66, .bool (r4.2.Code != 0)), (65, .int .i64 r4.2.Code), (64, .pointer (some ⟨b1, 0, none⟩))]) (l := [.loaded ⟨b1, 0, none⟩ (.int .i64 r4.2.Code)]) (by kernel_rfl) ⟨hS25.cell 0 rfl rfl, trivial⟩ ?_
          refine ge_nil fun a hF => hK18 _ _ ?_ a hF
          by_cases hc7 : r4.2.Code = 0
          · rw [if_pos hc7] at h
            refine we_known (t := 66) (b := (r4.2.Code != 0)) (v := false) (by kernel_rfl) (bne_eq_false_iff_eq.2 hc7) ?_
            refine we_false (by kernel_rfl) ?_
            refine we_skip fun a hF => hK17 _ _ ?_ a hF
            refine we_seq fun K19 hK19 => ?_
            refine we_seq fun K20 hK20 => ?_
            refine we_region [(0, 0), (1, 0), (2, 0), (3, 0), (4, 0), (5, 0)] rfl ?_
            refine ge_batch [0, 1, 2, 3, 4, 5] (ans := [.val ((.slice Z3 r4.1.Ends.length cz3))]) (vs := [(77, .bool ((r4.1.Ends.length : Int) != (l3.length : Int))), (76, .int .i64 (l3.length : Int)), (75, .slice A3 l3.length c3), (74, .int .i64 (r4.1.Ends.length : Int)), (73, (.slice Z3 r4.1.Ends.length cz3)), (72, .pointer (some ⟨b2, 1, none⟩))]) (l := [.loaded ⟨b2, 1, none⟩ ((.slice Z3 r4.1.Ends.length cz3))]) (by kernel_rfl) ⟨hS25.cell 1 rfl rfl, trivial⟩ ?_
            refine ge_nil fun a hF => hK20 _ _ ?_ a hF
            by_cases hc8 : (r4.1.Ends.length : Int) = (l3.length : Int)
            · rw [if_pos hc8] at h
              refine we_known (t := 77) (b := ((r4.1.Ends.length : Int) != (l3.length : Int))) (v := false) (by kernel_rfl) (bne_eq_false_iff_eq.2 hc8) ?_
              refine we_false (by kernel_rfl) ?_
              refine we_skip fun a hF => hK19 _ _ ?_ a hF
              refine we_seq fun K21 hK21 => ?_
              refine we_seq fun K22 hK22 => ?_
              refine we_region [(0, 0), (1, 0), (2, 0)] rfl ?_
              refine ge_batch [0, 1, 2] (ans := []) (vs := [(80, .int .i64 0), (79, .int .i64 (l0.length : Int)), (78, .slice A0 l0.length c0)]) (l := []) (by kernel_rfl) trivial ?_
              refine ge_nil fun a hF => hK22 _ _ ?_ a hF
              refine we_block ?_
              have hS26 := hS25.bring 3 rfl
              have hS27 := hS26.bring 3 rfl
              have hS28 := hS27.bring 3 rfl
              have hS29 := hS28.takeN 3
              rcases hq11 : iter (WindowsKeep.r1 K l0 x1 l2 l3 r2 r4) K 0 with _ | (_ | rr2)
              · rw [hq11] at h; cases h
              · rw [hq11] at h
                simp only [] at h
                refine we_iter (A := WindowsKeep.A1 K w0 l0 A0 c0 x1 l2 A2 c2 l3 A3 c3 l4 A4 c4 l5 A5 c5 hR0 hL0 hR2 hL2 hR3 hL3 hR4 hL4 hR5 hL5 r1 hc1 r2 b1 hc5 r3 hc6 Z1 cz1 r4 b2 Z2 cz2 Z3 cz3 hc7 hc8) (B := WindowsKeep.B1 K w0 l0 A0 c0 x1 l2 A2 c2 l3 A3 c3 l4 A4 c4 l5 A5 c5 hR0 hL0 hR2 hL2 hR3 hL3 hR4 hL4 hR5 hL5 r1 hc1 r2 b1 hc5 r3 hc6 Z1 cz1 r4 b2 Z2 cz2 Z3 cz3 hc7 hc8) hq11 (fun a hF => ⟨hS29, hF.weaken ⟨by kernel_rfl, by kernel_rfl, by kernel_rfl, by kernel_rfl, by kernel_rfl, by kernel_rfl, by kernel_rfl, trivial⟩⟩) (fun s o hf a w hA Q hQ => WindowsKeep_r1 K w0 l0 A0 c0 x1 l2 A2 c2 l3 A3 c3 l4 A4 c4 l5 A5 c5 hR0 hL0 hR2 hL2 hR3 hL3 hR4 hL4 hR5 hL5 r1 hc1 r2 b1 hc5 r3 hc6 Z1 cz1 r4 b2 Z2 cz2 Z3 cz3 hc7 hc8 s o hf a w hA Q hQ) ?_
                rintro _ a w20 _ ⟨rfl, hS65, hF⟩
                replace hS65 : St w0 w20 [] := hS65
                refine hK21 [] w20 ?_ a hF
                refine we_seq fun K38 hK38 => ?_
                refine we_region [(0, 0)] rfl ?_
                refine ge_batch [0] (ans := []) (vs := [(12, .bool true)]) (l := []) (by kernel_rfl) trivial ?_
                refine ge_nil fun a hF => hK38 _ _ ?_ a hF
                obtain rfl := Option.some.inj h
                exact we_ret (post_ret (rs := [.tmp 12]) (ans := []) (vs := [.bool true]) (l := []) rfl (by kernel_rfl) trivial ⟨rfl, hS65⟩)
              · rw [hq11] at h
                simp only [] at h
                refine we_iter (A := WindowsKeep.A1 K w0 l0 A0 c0 x1 l2 A2 c2 l3 A3 c3 l4 A4 c4 l5 A5 c5 hR0 hL0 hR2 hL2 hR3 hL3 hR4 hL4 hR5 hL5 r1 hc1 r2 b1 hc5 r3 hc6 Z1 cz1 r4 b2 Z2 cz2 Z3 cz3 hc7 hc8) (B := WindowsKeep.B1 K w0 l0 A0 c0 x1 l2 A2 c2 l3 A3 c3 l4 A4 c4 l5 A5 c5 hR0 hL0 hR2 hL2 hR3 hL3 hR4 hL4 hR5 hL5 r1 hc1 r2 b1 hc5 r3 hc6 Z1 cz1 r4 b2 Z2 cz2 Z3 cz3 hc7 hc8) hq11 (fun a hF => ⟨hS29, hF.weaken ⟨by kernel_rfl, by kernel_rfl, by kernel_rfl, by kernel_rfl, by kernel_rfl, by kernel_rfl, by kernel_rfl, trivial⟩⟩) (fun s o hf a w hA Q hQ => WindowsKeep_r1 K w0 l0 A0 c0 x1 l2 A2 c2 l3 A3 c3 l4 A4 c4 l5 A5 c5 hR0 hL0 hR2 hL2 hR3 hL3 hR4 hL4 hR5 hL5 r1 hc1 r2 b1 hc5 r3 hc6 Z1 cz1 r4 b2 Z2 cz2 Z3 cz3 hc7 hc8 s o hf a w hA Q hQ) ?_
                rintro _ a w1 _ ⟨rfl, hb⟩
                obtain rfl := Option.some.inj h
                exact hb
            · rw [if_neg hc8] at h
              refine we_known (t := 77) (b := ((r4.1.Ends.length : Int) != (l3.length : Int))) (v := true) (by kernel_rfl) (bne_iff_ne.2 hc8) ?_
              refine we_true (by kernel_rfl) ?_
              refine we_seq fun K39 hK39 => ?_
              refine we_region [(0, 0)] rfl ?_
              refine ge_batch [0] (ans := []) (vs := [(12, .bool false)]) (l := []) (by kernel_rfl) trivial ?_
              refine ge_nil fun a hF => hK39 _ _ ?_ a hF
              have hS66 := hS25.takeN 0
              obtain rfl := Option.some.inj h
              exact we_ret (post_ret (rs := [.tmp 12]) (ans := []) (vs := [.bool false]) (l := []) rfl (by kernel_rfl) trivial ⟨rfl, hS66⟩)
          · rw [if_neg hc7] at h
            refine we_known (t := 66) (b := (r4.2.Code != 0)) (v := true) (by kernel_rfl) (bne_iff_ne.2 hc7) ?_
            refine we_true (by kernel_rfl) ?_
            refine we_seq fun K40 hK40 => ?_
            refine we_region [(0, 0), (1, 0), (2, 1), (3, 0), (4, 0), (5, 0)] rfl ?_
            rcases hq12 : punctualref_CheckFrame.f K x1 l2 with _ | r6
            · rw [hq12] at h; cases h
            rw [hq12] at h
            simp only [] at h
            refine ge_batch [0, 1] (ans := []) (vs := [(68, .slice A2 l2.length c2), (67, .int .i64 x1)]) (l := []) (by kernel_rfl) trivial ?_
            refine ge_call (d := some 69) (f := 15) (args := #[.int .i64 x1, .slice A2 l2.length c2]) (by kernel_rfl) (punctualref_CheckFrame_ok K x1 l2 A2 c2 _ (hS25.rd hR2) hL2 _ hq12) ?_
            rintro _ w21 ⟨rfl, hS67⟩
            refine ⟨_, rfl, hS67.below, ?_⟩
            have hS68 := hS25.call hS67
            refine ge_batch [3, 4, 5] (ans := []) (vs := [(12, .bool (r6.Code != 0)), (71, .bool (r6.Code != 0)), (70, .int .i64 r6.Code)]) (l := []) (by kernel_rfl) trivial ?_
            refine ge_nil fun a hF => hK40 _ _ ?_ a hF
            have hS69 := hS68.takeN 0
            obtain rfl := Option.some.inj h
            exact we_ret (post_ret (rs := [.tmp 12]) (ans := []) (vs := [.bool (r6.Code != 0)]) (l := []) rfl (by kernel_rfl) trivial ⟨rfl, hS69⟩)
      · rw [if_neg hc5] at h
        refine we_known (t := 50) (b := (r2.2.Code != 0)) (v := true) (by kernel_rfl) (bne_iff_ne.2 hc5) ?_
        refine we_true (by kernel_rfl) ?_
        refine we_seq fun K41 hK41 => ?_
        refine we_region [(0, 0)] rfl ?_
        refine ge_batch [0] (ans := []) (vs := [(12, .bool true)]) (l := []) (by kernel_rfl) trivial ?_
        refine ge_nil fun a hF => hK41 _ _ ?_ a hF
        have hS70 := hS14.takeN 0
        obtain rfl := Option.some.inj h
        exact we_ret (post_ret (rs := [.tmp 12]) (ans := []) (vs := [.bool true]) (l := []) rfl (by kernel_rfl) trivial ⟨rfl, hS70⟩)
    · rw [hq5] at h
      simp only [] at h
      refine we_keep (e' := [(0, .slice A0 l0.length c0), (1, .int .i64 x1), (2, .slice A2 l2.length c2), (3, .slice A3 l3.length c3), (4, .slice A4 l4.length c4), (5, .slice A5 l5.length c5), (12, .bool false), (22, .bool r1), (23, .bool false)]) ⟨by kernel_rfl, by kernel_rfl, by kernel_rfl, by kernel_rfl, by kernel_rfl, by kernel_rfl, by kernel_rfl, by kernel_rfl, by kernel_rfl, trivial⟩ (WindowsKeep_p0 K w0 l0 A0 c0 x1 l2 A2 c2 l3 A3 c3 l4 A4 c4 l5 A5 c5 hR0 hL0 hR2 hL2 hR3 hL3 hR4 hL4 hR5 hL5 r1 hc1 _ hq5 _ hS2 _ ?_)
      rintro _ a w1 ⟨_, rfl, hb⟩
      obtain rfl := Option.some.inj h
      exact hb
  · rw [if_neg hc1] at h
    refine we_known (t := 23) (b := !r1) (v := true) (by kernel_rfl) (congrArg (fun z => !z) (Bool.eq_false_iff.2 hc1)) ?_
    refine we_true (by kernel_rfl) ?_
    refine we_seq fun K42 hK42 => ?_
    refine we_region [(0, 0)] rfl ?_
    refine ge_batch [0] (ans := []) (vs := [(12, .bool false)]) (l := []) (by kernel_rfl) trivial ?_
    refine ge_nil fun a hF => hK42 _ _ ?_ a hF
    obtain rfl := Option.some.inj h
    exact we_ret (post_ret (rs := [.tmp 12]) (ans := []) (vs := [.bool false]) (l := []) rfl (by kernel_rfl) trivial ⟨rfl, hS2⟩)
end Go.Proofs.Ytlcndfafkegjgaa.GV
