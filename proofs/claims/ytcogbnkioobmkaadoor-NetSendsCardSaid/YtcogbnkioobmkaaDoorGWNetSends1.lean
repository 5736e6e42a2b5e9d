/- Walks of single functions, written by a program of this work. -/
import Derived.Test.YtcogbnkioobmkaaDoorGv24
import Derived.Test.YtcogbnkioobmkaaDoorProg
namespace Go.Proofs.YtcogbnkioobmkaaDoor.GV
open Go Go.RowKit
set_option linter.unusedVariables false
set_option linter.unusedSimpArgs false
set_option maxRecDepth 100000

structure SFault where
  Code : Int
  At : Int
def SFault.eqb (x y : SFault) : Bool := ((x.Code == y.Code) && ((x.At == y.At) && true))
instance : Ok SFault := ⟨fun x => Ok.ok x.Code ∧ Ok.ok x.At ∧ True⟩
instance : Flat SFault := ⟨2, fun x => [.int .i64 x.Code, .int .i64 x.At], fun _ => rfl, fun _ => rfl, by decide⟩

structure SFrame where
  C : Int
  T : Int
  D : Int
  J : Int
def SFrame.eqb (x y : SFrame) : Bool := ((x.C == y.C) && ((x.T == y.T) && ((x.D == y.D) && ((x.J == y.J) && true))))
instance : Ok SFrame := ⟨fun x => Ok.ok x.C ∧ Ok.ok x.T ∧ Ok.ok x.D ∧ Ok.ok x.J ∧ True⟩
instance : Flat SFrame := ⟨4, fun x => [.int .i64 x.C, .int .i64 x.T, .int .i64 x.D, .int .i64 x.J], fun _ => rfl, fun _ => rfl, by decide⟩

/-! punctual/net.Check -/
abbrev net_Check.Post (w0 : World) (r : SFault) (e : Ending) (w : World) : Prop := e = .returned (.agg #[.int .i64 r.Code, .int .i64 r.At]) ∧ St w0 w []
def net_Check.p0 (l0 : List SFrame) : Option (Unit ⊕ SFault) :=
    if (l0.length : Int) < 1 then
      some (.inr (⟨2, 0⟩ : SFault))
    else
      if (l0.length : Int) > 8 then
        some (.inr (⟨2, 0⟩ : SFault))
      else
        some (.inl ())
def net_Check.p2 (i1 : Nat) (e1 : SFrame) : Option (Unit ⊕ SFault) :=
    if e1.C < 1 then
      some (.inr (⟨3, (i1 : Int)⟩ : SFault))
    else
      if e1.C > 10000 then
        some (.inr (⟨3, (i1 : Int)⟩ : SFault))
      else
        if e1.T < 1 then
          some (.inr (⟨3, (i1 : Int)⟩ : SFault))
        else
          if e1.T > 10000 then
            some (.inr (⟨3, (i1 : Int)⟩ : SFault))
          else
            if e1.D < 1 then
              some (.inr (⟨3, (i1 : Int)⟩ : SFault))
            else
              if e1.D > 10000 then
                some (.inr (⟨3, (i1 : Int)⟩ : SFault))
              else
                if e1.J < 0 then
                  some (.inr (⟨3, (i1 : Int)⟩ : SFault))
                else
                  if e1.J > 10000 then
                    some (.inr (⟨3, (i1 : Int)⟩ : SFault))
                  else
                    some (.inl ())
def net_Check.r1 (l0 : List SFrame) : Nat → Option (Nat ⊕ (Unit ⊕ SFault))
  | i1 =>
    if (i1 : Int) < (l0.length : Int) then
      match l0[i1]? with
      | none => none
      | some e1 =>
        match net_Check.p2 i1 e1 with
        | none => none
        | some (.inl _) =>
          if e1.J > e1.T then
            some (.inr (.inr (⟨12, (i1 : Int)⟩ : SFault)))
          else
            some (.inl (i1 + 1))
        | some (.inr rr1) =>
          some (.inr (.inr rr1))
    else
      some (.inr (.inl ()))
def net_Check.f (K : Nat) (l0 : List SFrame) : Option SFault :=
  match net_Check.p0 l0 with
  | none => none
  | some (.inl _) =>
    match iter (net_Check.r1 l0) K 0 with
    | none => none
    | some (.inl _) =>
      some (⟨0, 0⟩ : SFault)
    | some (.inr rr2) =>
      some rr2
  | some (.inr rr3) =>
    some rr3
abbrev net_Check.A0 (K : Nat) (w0 : World) (l0 : List SFrame) (A0 : Option Addr) (c0 : Nat) (hR0 : RdL w0 A0 l0) (hL0 : l0.length ≤ c0) (b1 : Nat) : Unit → Act → World → Prop := fun (s : Unit) a w => St w0 w [Own.blk b1 (.cells #[.int .i64 0, .int .i64 0] 39 (0, 0))] ∧ Frm 70 a [(0, .slice A0 l0.length c0), (2, .pointer (some ⟨b1, 0, none⟩))]
abbrev net_Check.B0 (K : Nat) (w0 : World) (l0 : List SFrame) (A0 : Option Addr) (c0 : Nat) (hR0 : RdL w0 A0 l0) (hL0 : l0.length ≤ c0) (b1 : Nat) : SFault → Exit → Act → World → Prop := Rets Tryd.prog Tryd.f71 (net_Check.Post w0)
theorem net_Check_p0 (K : Nat) (w0 : World) (l0 : List SFrame) (A0 : Option Addr) (c0 : Nat) (hR0 : RdL w0 A0 l0) (hL0 : l0.length ≤ c0) (b1 : Nat) (o : Unit ⊕ SFault) (h : net_Check.p0 l0 = some o) (w : World) (hS : St w0 w [Own.blk b1 (.cells #[.int .i64 0, .int .i64 0] 39 (0, 0))]) (Q : Exit → Act → World → Prop) (hQ : ∀ x a w, Outs (net_Check.A0 K w0 l0 A0 c0 hR0 hL0 b1) (net_Check.B0 K w0 l0 A0 c0 hR0 hL0 b1) o x a w → Q x a w) : WE Tryd.prog 70 (subF Tryd.f71 [1, 0]) Q [(0, .slice A0 l0.length c0), (2, .pointer (some ⟨b1, 0, none⟩))] w := by
  simp only [net_Check.p0] at h
  refine we_seq fun K3 hK3 => ?_
  refine we_region [(0, 0), (1, 0), (2, 0), (3, 0), (4, 0), (5, 0), (6, 0), (7, 0)] rfl ?_
  refine ge_batch [0, 1, 2, 3] (ans := []) (vs := [(8, .bool (decide ((l0.length : Int) < 1))), (7, .bool (decide ((l0.length : Int) < 1))), (6, .int .i64 (l0.length : Int)), (5, .slice A0 l0.length c0)]) (l := []) (by kernel_rfl) trivial ?_
  by_cases hc1 : (l0.length : Int) < 1
  · rw [if_pos hc1] at h
    refine ge_known (t := 8) (b := decide ((l0.length : Int) < 1)) (c := true) (by kernel_rfl) (decide_eq_true hc1) ?_
    refine ge_batch [4, 5, 6, 7] (ans := []) (vs := [(12, .bool true), (11, undef), (10, undef), (9, undef)]) (l := []) (by kernel_rfl) trivial ?_
    refine ge_nil fun a hF => hK3 _ _ ?_ a hF
    refine we_true (by kernel_rfl) ?_
    refine we_seq fun K4 hK4 => ?_
    refine we_region [(0, 0), (1, 2)] rfl ?_
    refine ge_batch [0] (ans := []) (vs := [(13, .agg #[.int .i64 2, .int .i64 0])]) (l := []) (by kernel_rfl) trivial ?_
    refine ge_set (b := b1) (j := 0) (cs := #[.int .i64 0, .int .i64 0]) (t := 39) (vs := [.int .i64 2, .int .i64 0]) hS (by kernel_rfl) rfl rfl fun w2 hS2 => ?_
    have hS3 : St w0 w2 [Own.blk b1 (.cells #[.int .i64 2, .int .i64 0] 39 (0, 0))] := hS2
    refine ge_nil fun a hF => hK4 _ _ ?_ a hF
    have hS4 := hS3.takeN 0
    obtain rfl := Option.some.inj h
    exact we_ret fun a hF => hQ _ _ _ (Outs.out nofun ⟨rfl, (post_ret (rs := [.cell 2 39]) (ans := [.val (.int .i64 2), .val (.int .i64 0)]) (vs := [.agg #[.int .i64 2, .int .i64 0]]) (l := [.loaded ⟨b1, 0, none⟩ (.int .i64 2), .loaded ⟨b1, 1, none⟩ (.int .i64 0)]) rfl (by kernel_rfl) ⟨hS3.cell 0 rfl rfl, hS3.cell 0 rfl rfl, trivial⟩ ⟨rfl, hS4⟩) a hF⟩)
  · rw [if_neg hc1] at h
    refine ge_known (t := 8) (b := decide ((l0.length : Int) < 1)) (c := false) (by kernel_rfl) (decide_eq_false hc1) ?_
    refine ge_batch [4, 5, 6, 7] (ans := []) (vs := [(12, .bool (decide ((l0.length : Int) > 8))), (11, .bool (decide ((l0.length : Int) > 8))), (10, .int .i64 (l0.length : Int)), (9, .slice A0 l0.length c0)]) (l := []) (by kernel_rfl) trivial ?_
    refine ge_nil fun a hF => hK3 _ _ ?_ a hF
    by_cases hc2 : (l0.length : Int) > 8
    · rw [if_pos hc2] at h
      refine we_known (t := 12) (b := decide ((l0.length : Int) > 8)) (v := true) (by kernel_rfl) (decide_eq_true hc2) ?_
      refine we_true (by kernel_rfl) ?_
      refine we_seq fun K5 hK5 => ?_
      refine we_region [(0, 0), (1, 2)] rfl ?_
      refine ge_batch [0] (ans := []) (vs := [(13, .agg #[.int .i64 2, .int .i64 0])]) (l := []) (by kernel_rfl) trivial ?_
      refine ge_set (b := b1) (j := 0) (cs := #[.int .i64 0, .int .i64 0]) (t := 39) (vs := [.int .i64 2, .int .i64 0]) hS (by kernel_rfl) rfl rfl fun w3 hS5 => ?_
      have hS6 : St w0 w3 [Own.blk b1 (.cells #[.int .i64 2, .int .i64 0] 39 (0, 0))] := hS5
      refine ge_nil fun a hF => hK5 _ _ ?_ a hF
      have hS7 := hS6.takeN 0
      obtain rfl := Option.some.inj h
      exact we_ret fun a hF => hQ _ _ _ (Outs.out nofun ⟨rfl, (post_ret (rs := [.cell 2 39]) (ans := [.val (.int .i64 2), .val (.int .i64 0)]) (vs := [.agg #[.int .i64 2, .int .i64 0]]) (l := [.loaded ⟨b1, 0, none⟩ (.int .i64 2), .loaded ⟨b1, 1, none⟩ (.int .i64 0)]) rfl (by kernel_rfl) ⟨hS6.cell 0 rfl rfl, hS6.cell 0 rfl rfl, trivial⟩ ⟨rfl, hS7⟩) a hF⟩)
    · rw [if_neg hc2] at h
      refine we_known (t := 12) (b := decide ((l0.length : Int) > 8)) (v := false) (by kernel_rfl) (decide_eq_false hc2) ?_
      refine we_false (by kernel_rfl) ?_
      obtain rfl := Option.some.inj h
      exact we_skip fun a hF => hQ _ _ _ (Outs.again ⟨hS, hF.weaken ⟨by kernel_rfl, by kernel_rfl, trivial⟩⟩)
abbrev net_Check.A2 (K : Nat) (w0 : World) (l0 : List SFrame) (A0 : Option Addr) (c0 : Nat) (hR0 : RdL w0 A0 l0) (hL0 : l0.length ≤ c0) (b1 : Nat) (i1 : Nat) (hc3 : (i1 : Int) < (l0.length : Int)) (e1 : SFrame) (hx2 : l0[i1]? = some e1) (b2 : Nat) : Unit → Act → World → Prop := fun (s : Unit) a w => St w0 w [Own.blk b2 (.cells #[.int .i64 e1.C, .int .i64 e1.T, .int .i64 e1.D, .int .i64 e1.J] 30 (0, 0)), Own.blk b1 (.cells #[.int .i64 0, .int .i64 0] 39 (0, 0))] ∧ Frm 70 a [(2, .pointer (some ⟨b1, 0, none⟩)), (3, .int .i64 (i1 : Int)), (4, .pointer (some ⟨b2, 0, none⟩)), (14, .slice A0 l0.length c0), (15, .int .i64 (l0.length : Int)), (16, .int .i64 (i1 : Int))]
abbrev net_Check.B2 (K : Nat) (w0 : World) (l0 : List SFrame) (A0 : Option Addr) (c0 : Nat) (hR0 : RdL w0 A0 l0) (hL0 : l0.length ≤ c0) (b1 : Nat) (i1 : Nat) (hc3 : (i1 : Int) < (l0.length : Int)) (e1 : SFrame) (hx2 : l0[i1]? = some e1) (b2 : Nat) : SFault → Exit → Act → World → Prop := Rets Tryd.prog Tryd.f71 (net_Check.Post w0)
theorem net_Check_p2 (K : Nat) (w0 : World) (l0 : List SFrame) (A0 : Option Addr) (c0 : Nat) (hR0 : RdL w0 A0 l0) (hL0 : l0.length ≤ c0) (b1 : Nat) (i1 : Nat) (hc3 : (i1 : Int) < (l0.length : Int)) (e1 : SFrame) (hx2 : l0[i1]? = some e1) (b2 : Nat) (o : Unit ⊕ SFault) (h : net_Check.p2 i1 e1 = some o) (w : World) (hS : St w0 w [Own.blk b2 (.cells #[.int .i64 e1.C, .int .i64 e1.T, .int .i64 e1.D, .int .i64 e1.J] 30 (0, 0)), Own.blk b1 (.cells #[.int .i64 0, .int .i64 0] 39 (0, 0))]) (Q : Exit → Act → World → Prop) (hQ : ∀ x a w, Outs (net_Check.A2 K w0 l0 A0 c0 hR0 hL0 b1 i1 hc3 e1 hx2 b2) (net_Check.B2 K w0 l0 A0 c0 hR0 hL0 b1 i1 hc3 e1 hx2 b2) o x a w → Q x a w) : WE Tryd.prog 70 (subF Tryd.f71 [1, 1, 0, 1, 0, 0, 1, 1, 0, 0, 1, 0]) Q [(2, .pointer (some ⟨b1, 0, none⟩)), (3, .int .i64 (i1 : Int)), (4, .pointer (some ⟨b2, 0, none⟩)), (14, .slice A0 l0.length c0), (15, .int .i64 (l0.length : Int)), (16, .int .i64 (i1 : Int)), (17, .bool true), (18, .int .i64 (i1 : Int)), (19, .pointer (some ⟨blkOf A0, offOf A0 + i1 * 4, none⟩)), (20, .agg #[.int .i64 e1.C, .int .i64 e1.T, .int .i64 e1.D, .int .i64 e1.J])] w := by
  simp only [net_Check.p2] at h
  refine we_seq fun K13 hK13 => ?_
  refine we_region [(0, 0), (1, 0), (2, 0), (3, 0), (4, 0), (5, 0), (6, 0), (7, 0), (8, 0), (9, 0), (10, 0), (11, 0), (12, 0), (13, 0), (14, 0), (15, 0), (16, 0), (17, 0), (18, 0), (19, 0), (20, 0), (21, 0), (22, 0), (23, 0), (24, 0), (25, 0), (26, 0), (27, 0), (28, 0), (29, 0), (30, 0), (31, 0), (32, 0), (33, 0), (34, 0), (35, 0), (36, 0), (37, 0)] rfl ?_
  refine ge_batch [0, 1, 2, 3] (ans := [.val (.int .i64 e1.C)]) (vs := [(24, .bool (decide (e1.C < 1))), (23, .bool (decide (e1.C < 1))), (22, .int .i64 e1.C), (21, .pointer (some ⟨b2, 0, none⟩))]) (l := [.loaded ⟨b2, 0, none⟩ (.int .i64 e1.C)]) (by kernel_rfl) ⟨hS.cell 0 rfl rfl, trivial⟩ ?_
  by_cases hc4 : e1.C < 1
  · rw [if_pos hc4] at h
    refine ge_known (t := 24) (b := decide (e1.C < 1)) (c := true) (by kernel_rfl) (decide_eq_true hc4) ?_
    refine ge_batch [4, 5, 6, 7, 8, 9, 10, 11, 12, 13, 14, 15, 16, 17, 18, 19, 20, 21, 22, 23, 24, 25, 26, 27, 28, 29, 30, 31, 32, 33, 34, 35, 36, 37] (ans := []) (vs := [(58, .bool true), (57, undef), (56, undef), (55, undef), (54, .bool true), (53, .bool true), (52, undef), (51, undef), (50, undef), (49, .bool true), (48, .bool true), (47, undef), (46, undef), (45, undef), (44, .bool true), (43, .bool true), (42, undef), (41, undef), (40, undef), (39, .bool true), (38, .bool true), (37, undef), (36, undef), (35, undef), (34, .bool true), (33, .bool true), (32, undef), (31, undef), (30, undef), (29, .bool true), (28, .bool true), (27, undef), (26, undef), (25, undef)]) (l := []) (by kernel_rfl) trivial ?_
    refine ge_nil fun a hF => hK13 _ _ ?_ a hF
    refine we_true (by kernel_rfl) ?_
    refine we_seq fun K14 hK14 => ?_
    refine we_region [(0, 0), (1, 0), (2, 2)] rfl ?_
    refine ge_batch [0, 1] (ans := []) (vs := [(60, .agg #[.int .i64 3, .int .i64 (i1 : Int)]), (59, .int .i64 (i1 : Int))]) (l := []) (by kernel_rfl) trivial ?_
    have hS12 := hS.bring 1 rfl
    refine ge_set (b := b1) (j := 0) (cs := #[.int .i64 0, .int .i64 0]) (t := 39) (vs := [.int .i64 3, .int .i64 (i1 : Int)]) hS12 (by kernel_rfl) rfl rfl fun w7 hS13 => ?_
    have hS14 : St w0 w7 [Own.blk b1 (.cells #[.int .i64 3, .int .i64 (i1 : Int)] 39 (0, 0)), Own.blk b2 (.cells #[.int .i64 e1.C, .int .i64 e1.T, .int .i64 e1.D, .int .i64 e1.J] 30 (0, 0))] := hS13
    refine ge_nil fun a hF => hK14 _ _ ?_ a hF
    have hS15 := hS14.takeN 0
    obtain rfl := Option.some.inj h
    exact we_ret fun a hF => hQ _ _ _ (Outs.out nofun ⟨rfl, (post_ret (rs := [.cell 2 39]) (ans := [.val (.int .i64 3), .val (.int .i64 (i1 : Int))]) (vs := [.agg #[.int .i64 3, .int .i64 (i1 : Int)]]) (l := [.loaded ⟨b1, 0, none⟩ (.int .i64 3), .loaded ⟨b1, 1, none⟩ (.int .i64 (i1 : Int))]) rfl (by kernel_rfl) ⟨hS14.cell 0 rfl rfl, hS14.cell 0 rfl rfl, trivial⟩ ⟨rfl, hS15⟩) a hF⟩)
  · rw [if_neg hc4] at h
    refine ge_known (t := 24) (b := decide (e1.C < 1)) (c := false) (by kernel_rfl) (decide_eq_false hc4) ?_
    refine ge_batch [4, 5, 6, 7, 8] (ans := [.val (.int .i64 e1.C)]) (vs := [(29, .bool (decide (e1.C > 10000))), (28, .bool (decide (e1.C > 10000))), (27, .bool (decide (e1.C > 10000))), (26, .int .i64 e1.C), (25, .pointer (some ⟨b2, 0, none⟩))]) (l := [.loaded ⟨b2, 0, none⟩ (.int .i64 e1.C)]) (by kernel_rfl) ⟨hS.cell 0 rfl rfl, trivial⟩ ?_
    by_cases hc5 : e1.C > 10000
    · rw [if_pos hc5] at h
      refine ge_known (t := 29) (b := decide (e1.C > 10000)) (c := true) (by kernel_rfl) (decide_eq_true hc5) ?_
      refine ge_batch [9, 10, 11, 12, 13, 14, 15, 16, 17, 18, 19, 20, 21, 22, 23, 24, 25, 26, 27, 28, 29, 30, 31, 32, 33, 34, 35, 36, 37] (ans := []) (vs := [(58, .bool true), (57, undef), (56, undef), (55, undef), (54, .bool true), (53, .bool true), (52, undef), (51, undef), (50, undef), (49, .bool true), (48, .bool true), (47, undef), (46, undef), (45, undef), (44, .bool true), (43, .bool true), (42, undef), (41, undef), (40, undef), (39, .bool true), (38, .bool true), (37, undef), (36, undef), (35, undef), (34, .bool true), (33, .bool true), (32, undef), (31, undef), (30, undef)]) (l := []) (by kernel_rfl) trivial ?_
      refine ge_nil fun a hF => hK13 _ _ ?_ a hF
      refine we_true (by kernel_rfl) ?_
      refine we_seq fun K15 hK15 => ?_
      refine we_region [(0, 0), (1, 0), (2, 2)] rfl ?_
      refine ge_batch [0, 1] (ans := []) (vs := [(60, .agg #[.int .i64 3, .int .i64 (i1 : Int)]), (59, .int .i64 (i1 : Int))]) (l := []) (by kernel_rfl) trivial ?_
      have hS16 := hS.bring 1 rfl
      refine ge_set (b := b1) (j := 0) (cs := #[.int .i64 0, .int .i64 0]) (t := 39) (vs := [.int .i64 3, .int .i64 (i1 : Int)]) hS16 (by kernel_rfl) rfl rfl fun w8 hS17 => ?_
      have hS18 : St w0 w8 [Own.blk b1 (.cells #[.int .i64 3, .int .i64 (i1 : Int)] 39 (0, 0)), Own.blk b2 (.cells #[.int .i64 e1.C, .int .i64 e1.T, .int .i64 e1.D, .int .i64 e1.J] 30 (0, 0))] := hS17
      refine ge_nil fun a hF => hK15 _ _ ?_ a hF
      have hS19 := hS18.takeN 0
      obtain rfl := Option.some.inj h
      exact we_ret fun a hF => hQ _ _ _ (Outs.out nofun ⟨rfl, (post_ret (rs := [.cell 2 39]) (ans := [.val (.int .i64 3), .val (.int .i64 (i1 : Int))]) (vs := [.agg #[.int .i64 3, .int .i64 (i1 : Int)]]) (l := [.loaded ⟨b1, 0, none⟩ (.int .i64 3), .loaded ⟨b1, 1, none⟩ (.int .i64 (i1 : Int))]) rfl (by kernel_rfl) ⟨hS18.cell 0 rfl rfl, hS18.cell 0 rfl rfl, trivial⟩ ⟨rfl, hS19⟩) a hF⟩)
    · rw [if_neg hc5] at h
      refine ge_known (t := 29) (b := decide (e1.C > 10000)) (c := false) (by kernel_rfl) (decide_eq_false hc5) ?_
      refine ge_batch [9, 10, 11, 12, 13] (ans := [.val (.int .i64 e1.T)]) (vs := [(34, .bool (decide (e1.T < 1))), (33, .bool (decide (e1.T < 1))), (32, .bool (decide (e1.T < 1))), (31, .int .i64 e1.T), (30, .pointer (some ⟨b2, 1, none⟩))]) (l := [.loaded ⟨b2, 1, none⟩ (.int .i64 e1.T)]) (by kernel_rfl) ⟨hS.cell 0 rfl rfl, trivial⟩ ?_
      by_cases hc6 : e1.T < 1
      · rw [if_pos hc6] at h
        refine ge_known (t := 34) (b := decide (e1.T < 1)) (c := true) (by kernel_rfl) (decide_eq_true hc6) ?_
        refine ge_batch [14, 15, 16, 17, 18, 19, 20, 21, 22, 23, 24, 25, 26, 27, 28, 29, 30, 31, 32, 33, 34, 35, 36, 37] (ans := []) (vs := [(58, .bool true), (57, undef), (56, undef), (55, undef), (54, .bool true), (53, .bool true), (52, undef), (51, undef), (50, undef), (49, .bool true), (48, .bool true), (47, undef), (46, undef), (45, undef), (44, .bool true), (43, .bool true), (42, undef), (41, undef), (40, undef), (39, .bool true), (38, .bool true), (37, undef), (36, undef), (35, undef)]) (l := []) (by kernel_rfl) trivial ?_
        refine ge_nil fun a hF => hK13 _ _ ?_ a hF
        refine we_true (by kernel_rfl) ?_
        refine we_seq fun K16 hK16 => ?_
        refine we_region [(0, 0), (1, 0), (2, 2)] rfl ?_
        refine ge_batch [0, 1] (ans := []) (vs := [(60, .agg #[.int .i64 3, .int .i64 (i1 : Int)]), (59, .int .i64 (i1 : Int))]) (l := []) (by kernel_rfl) trivial ?_
        have hS20 := hS.bring 1 rfl
        refine ge_set (b := b1) (j := 0) (cs := #[.int .i64 0, .int .i64 0]) (t := 39) (vs := [.int .i64 3, .int .i64 (i1 : Int)]) hS20 (by kernel_rfl) rfl rfl fun w9 hS21 => ?_
        have hS22 : St w0 w9 [Own.blk b1 (.cells #[.int .i64 3, .int .i64 (i1 : Int)] 39 (0, 0)), Own.blk b2 (.cells #[.int .i64 e1.C, .int .i64 e1.T, .int .i64 e1.D, .int .i64 e1.J] 30 (0, 0))] := hS21
        refine ge_nil fun a hF => hK16 _ _ ?_ a hF
        have hS23 := hS22.takeN 0
        obtain rfl := Option.some.inj h
        exact we_ret fun a hF => hQ _ _ _ (Outs.out nofun ⟨rfl, (post_ret (rs := [.cell 2 39]) (ans := [.val (.int .i64 3), .val (.int .i64 (i1 : Int))]) (vs := [.agg #[.int .i64 3, .int .i64 (i1 : Int)]]) (l := [.loaded ⟨b1, 0, none⟩ (.int .i64 3), .loaded ⟨b1, 1, none⟩ (.int .i64 (i1 : Int))]) rfl (by kernel_rfl) ⟨hS22.cell 0 rfl rfl, hS22.cell 0 rfl rfl, trivial⟩ ⟨rfl, hS23⟩) a hF⟩)
      · rw [if_neg hc6] at h
        refine ge_known (t := 34) (b := decide (e1.T < 1)) (c := false) (by kernel_rfl) (decide_eq_false hc6) ?_
        refine ge_batch [14, 15, 16, 17, 18] (ans := [.val (.int .i64 e1.T)]) (vs := [(39, .bool (decide (e1.T > 10000))), (38, .bool (decide (e1.T > 10000))), (37, .bool (decide (e1.T > 10000))), (36, .int .i64 e1.T), (35, .pointer (some ⟨b2, 1, none⟩))]) (l := [.loaded ⟨b2, 1, none⟩ (.int .i64 e1.T)]) (by kernel_rfl) ⟨hS.cell 0 rfl rfl, trivial⟩ ?_
        by_cases hc7 : e1.T > 10000
        · rw [if_pos hc7] at h
          refine ge_known (t := 39) (b := decide (e1.T > 10000)) (c := true) (by kernel_rfl) (decide_eq_true hc7) ?_
          refine ge_batch [19, 20, 21, 22, 23, 24, 25, 26, 27, 28, 29, 30, 31, 32, 33, 34, 35, 36, 37] (ans := []) (vs := [(58, .bool true), (57, undef), (56, undef), (55, undef), (54, .bool true), (53, .bool true), (52, undef), (51, undef), (50, undef), (49, .bool true), (48, .bool true), (47, undef), (46, undef), (45, undef), (44, .bool true), (43, .bool true), (42, undef), (41, undef), (40, undef)]) (l := []) (by kernel_rfl) trivial ?_
          refine ge_nil fun a hF => hK13 _ _ ?_ a hF
          refine we_true (by kernel_rfl) ?_
          refine we_seq fun K17 hK17 => ?_
          refine we_region [(0, 0), (1, 0), (2, 2)] rfl ?_
          refine ge_batch [0, 1] (ans := []) (vs := [(60, .agg #[.int .i64 3, .int .i64 (i1 : Int)]), (59, .int .i64 (i1 : Int))]) (l := []) (by kernel_rfl) trivial ?_
          have hS24 := hS.bring 1 rfl
          refine ge_set (b := b1) (j := 0) (cs := #[.int .i64 0, .int .i64 0]) (t := 39) (vs := [.int .i64 3, .int .i64 (i1 : Int)]) hS24 (by kernel_rfl) rfl rfl fun w10 hS25 => ?_
          have hS26 : St w0 w10 [Own.blk b1 (.cells #[.int .i64 3, .int .i64 (i1 : Int)] 39 (0, 0)), Own.blk b2 (.cells #[.int .i64 e1.C, .int .i64 e1.T, .int .i64 e1.D, .int .i64 e1.J] 30 (0, 0))] := hS25
          refine ge_nil fun a hF => hK17 _ _ ?_ a hF
          have hS27 := hS26.takeN 0
          obtain rfl := Option.some.inj h
          exact we_ret fun a hF => hQ _ _ _ (Outs.out nofun ⟨rfl, (post_ret (rs := [.cell 2 39]) (ans := [.val (.int .i64 3), .val (.int .i64 (i1 : Int))]) (vs := [.agg #[.int .i64 3, .int .i64 (i1 : Int)]]) (l := [.loaded ⟨b1, 0, none⟩ (.int .i64 3), .loaded ⟨b1, 1, none⟩ (.int .i64 (i1 : Int))]) rfl (by kernel_rfl) ⟨hS26.cell 0 rfl rfl, hS26.cell 0 rfl rfl, trivial⟩ ⟨rfl, hS27⟩) a hF⟩)
        · rw [if_neg hc7] at h
          refine ge_known (t := 39) (b := decide (e1.T > 10000)) (c := false) (by kernel_rfl) (decide_eq_false hc7) ?_
          refine ge_batch [19, 20, 21, 22, 23] (ans := [.val (.int .i64 e1.D)]) (vs := [(44, .bool (decide (e1.D < 1))), (43, .bool (decide (e1.D < 1))), (42, .bool (decide (e1.D < 1))), (41, .int .i64 e1.D), (40, .pointer (some ⟨b2, 2, none⟩))]) (l := [.loaded ⟨b2, 2, none⟩ (.int .i64 e1.D)]) (by kernel_rfl) ⟨hS.cell 0 rfl rfl, trivial⟩ ?_
          by_cases hc8 : e1.D < 1
          · rw [if_pos hc8] at h
            refine ge_known (t := 44) (b := decide (e1.D < 1)) (c := true) (by kernel_rfl) (decide_eq_true hc8) ?_
            refine ge_batch [24, 25, 26, 27, 28, 29, 30, 31, 32, 33, 34, 35, 36, 37] (ans := []) (vs := [(58, .bool true), (57, undef), (56, undef), (55, undef), (54, .bool true), (53, .bool true), (52, undef), (51, undef), (50, undef), (49, .bool true), (48, .bool true), (47, undef), (46, undef), (45, undef)]) (l := []) (by kernel_rfl) trivial ?_
            refine ge_nil fun a hF => hK13 _ _ ?_ a hF
            refine we_true (by kernel_rfl) ?_
            refine we_seq fun K18 hK18 => ?_
            refine we_region [(0, 0), (1, 0), (2, 2)] rfl ?_
            refine ge_batch [0, 1] (ans := []) (vs := [(60, .agg #[.int .i64 3, .int .i64 (i1 : Int)]), (59, .int .i64 (i1 : Int))]) (l := []) (by kernel_rfl) trivial ?_
            have hS28 := hS.bring 1 rfl
            refine ge_set (b := b1) (j := 0) (cs := #[.int .i64 0, .int .i64 0]) (t := 39) (vs := [.int .i64 3, .int .i64 (i1 : Int)]) hS28 (by kernel_rfl) rfl rfl fun w11 hS29 => ?_
            have hS30 : St w0 w11 [Own.blk b1 (.cells #[.int .i64 3, .int .i64 (i1 : Int)] 39 (0, 0)), Own.blk b2 (.cells #[.int .i64 e1.C, .int .i64 e1.T, .int .i64 e1.D, .int .i64 e1.J] 30 (0, 0))] := hS29
            refine ge_nil fun a hF => hK18 _ _ ?_ a hF
            have hS31 := hS30.takeN 0
            obtain rfl := Option.some.inj h
            exact we_ret fun a hF => hQ _ _ _ (Outs.out nofun ⟨rfl, (post_ret (rs := [.cell 2 39]) (ans := [.val (.int .i64 3), .val (.int .i64 (i1 : Int))]) (vs := [.agg #[.int .i64 3, .int .i64 (i1 : Int)]]) (l := [.loaded ⟨b1, 0, none⟩ (.int .i64 3), .loaded ⟨b1, 1, none⟩ (.int .i64 (i1 : Int))]) rfl (by kernel_rfl) ⟨hS30.cell 0 rfl rfl, hS30.cell 0 rfl rfl, trivial⟩ ⟨rfl, hS31⟩) a hF⟩)
          · rw [if_neg hc8] at h
            refine ge_known (t := 44) (b := decide (e1.D < 1)) (c := false) (by kernel_rfl) (decide_eq_false hc8) ?_
            refine ge_batch [24, 25, 26, 27, 28] (ans := [.val (.int .i64 e1.D)]) (vs := [(49, .bool (decide (e1.D > 10000))), (48, .bool (decide (e1.D > 10000))), (47, .bool (decide (e1.D > 10000))), (46, .int .i64 e1.D), (45, .pointer (some ⟨b2, 2, none⟩))]) (l := [.loaded ⟨b2, 2, none⟩ (.int .i64 e1.D)]) (by kernel_rfl) ⟨hS.cell 0 rfl rfl, trivial⟩ ?_
            by_cases hc9 : e1.D > 10000
            · rw [if_pos hc9] at h
              refine ge_known (t := 49) (b := decide (e1.D > 10000)) (c := true) (by kernel_rfl) (decide_eq_true hc9) ?_
              refine ge_batch [29, 30, 31, 32, 33, 34, 35, 36, 37] (ans := []) (vs := [(58, .bool true), (57, undef), (56, undef), (55, undef), (54, .bool true), (53, .bool true), (52, undef), (51, undef), (50, undef)]) (l := []) (by kernel_rfl) trivial ?_
              refine ge_nil fun a hF => hK13 _ _ ?_ a hF
              refine we_true (by kernel_rfl) ?_
              refine we_seq fun K19 hK19 => ?_
              refine we_region [(0, 0), (1, 0), (2, 2)] rfl ?_
              refine ge_batch [0, 1] (ans := []) (vs := [(60, .agg #[.int .i64 3, .int .i64 (i1 : Int)]), (59, .int .i64 (i1 : Int))]) (l := []) (by kernel_rfl) trivial ?_
              have hS32 := hS.bring 1 rfl
              refine ge_set (b := b1) (j := 0) (cs := #[.int .i64 0, .int .i64 0]) (t := 39) (vs := [.int .i64 3, .int .i64 (i1 : Int)]) hS32 (by kernel_rfl) rfl rfl fun w12 hS33 => ?_
              have hS34 : St w0 w12 [Own.blk b1 (.cells #[.int .i64 3, .int .i64 (i1 : Int)] 39 (0, 0)), Own.blk b2 (.cells #[.int .i64 e1.C, .int .i64 e1.T, .int .i64 e1.D, .int .i64 e1.J] 30 (0, 0))] := hS33
              refine ge_nil fun a hF => hK19 _ _ ?_ a hF
              have hS35 := hS34.takeN 0
              obtain rfl := Option.some.inj h
              exact we_ret fun a hF => hQ _ _ _ (Outs.out nofun ⟨rfl, (post_ret (rs := [.cell 2 39]) (ans := [.val (.int .i64 3), .val (.int .i64 (i1 : Int))]) (vs := [.agg #[.int .i64 3, .int .i64 (i1 : Int)]]) (l := [.loaded ⟨b1, 0, none⟩ (.int .i64 3), .loaded ⟨b1, 1, none⟩ (.int .i64 (i1 : Int))]) rfl (by kernel_rfl) ⟨hS34.cell 0 rfl rfl, hS34.cell 0 rfl rfl, trivial⟩ ⟨rfl, hS35⟩) a hF⟩)
            · rw [if_neg hc9] at h
              refine ge_known (t := 49) (b := decide (e1.D > 10000)) (c := false) (by kernel_rfl) (decide_eq_false hc9) ?_
              refine ge_batch [29, 30, 31, 32, 33] (ans := [.val (.int .i64 e1.J)]) (vs := [(54, .bool (decide (e1.J < 0))), (53, .bool (decide (e1.J < 0))), (52, .bool (decide (e1.J < 0))), (51, .int .i64 e1.J), (50, .pointer (some ⟨b2, 3, none⟩))]) (l := [.loaded ⟨b2, 3, none⟩ (.int .i64 e1.J)]) (by kernel_rfl) ⟨hS.cell 0 rfl rfl, trivial⟩ ?_
              by_cases hc10 : e1.J < 0
              · rw [if_pos hc10] at h
                refine ge_known (t := 54) (b := decide (e1.J < 0)) (c := true) (by kernel_rfl) (decide_eq_true hc10) ?_
                refine ge_batch [34, 35, 36, 37] (ans := []) (vs := [(58, .bool true), (57, undef), (56, undef), (55, undef)]) (l := []) (by kernel_rfl) trivial ?_
                refine ge_nil fun a hF => hK13 _ _ ?_ a hF
                refine we_true (by kernel_rfl) ?_
                refine we_seq fun K20 hK20 => ?_
                refine we_region [(0, 0), (1, 0), (2, 2)] rfl ?_
                refine ge_batch [0, 1] (ans := []) (vs := [(60, .agg #[.int .i64 3, .int .i64 (i1 : Int)]), (59, .int .i64 (i1 : Int))]) (l := []) (by kernel_rfl) trivial ?_
                have hS36 := hS.bring 1 rfl
                refine ge_set (b := b1) (j := 0) (cs := #[.int .i64 0, .int .i64 0]) (t := 39) (vs := [.int .i64 3, .int .i64 (i1 : Int)]) hS36 (by kernel_rfl) rfl rfl fun w13 hS37 => ?_
                have hS38 : St w0 w13 [Own.blk b1 (.cells #[.int .i64 3, .int .i64 (i1 : Int)] 39 (0, 0)), Own.blk b2 (.cells #[.int .i64 e1.C, .int .i64 e1.T, .int .i64 e1.D, .int .i64 e1.J] 30 (0, 0))] := hS37
                refine ge_nil fun a hF => hK20 _ _ ?_ a hF
                have hS39 := hS38.takeN 0
                obtain rfl := Option.some.inj h
                exact we_ret fun a hF => hQ _ _ _ (Outs.out nofun ⟨rfl, (post_ret (rs := [.cell 2 39]) (ans := [.val (.int .i64 3), .val (.int .i64 (i1 : Int))]) (vs := [.agg #[.int .i64 3, .int .i64 (i1 : Int)]]) (l := [.loaded ⟨b1, 0, none⟩ (.int .i64 3), .loaded ⟨b1, 1, none⟩ (.int .i64 (i1 : Int))]) rfl (by kernel_rfl) ⟨hS38.cell 0 rfl rfl, hS38.cell 0 rfl rfl, trivial⟩ ⟨rfl, hS39⟩) a hF⟩)
              · rw [if_neg hc10] at h
                refine ge_known (t := 54) (b := decide (e1.J < 0)) (c := false) (by kernel_rfl) (decide_eq_false hc10) ?_
                refine ge_batch [34, 35, 36, 37] (ans := [.val (.int .i64 e1.J)]) (vs := [(58, .bool (decide (e1.J > 10000))), (57, .bool (decide (e1.J > 10000))), (56, .int .i64 e1.J), (55, .pointer (some ⟨b2, 3, none⟩))]) (l := [.loaded ⟨b2, 3, none⟩ (.int .i64 e1.J)]) (by kernel_rfl) ⟨hS.cell 0 rfl rfl, trivial⟩ ?_
                refine ge_nil fun a hF => hK13 _ _ ?_ a hF
                by_cases hc11 : e1.J > 10000
                · rw [if_pos hc11] at h
                  refine we_known (t := 58) (b := decide (e1.J > 10000)) (v := true) (by kernel_rfl) (decide_eq_true hc11) ?_
                  refine we_true (by kernel_rfl) ?_
                  refine we_seq fun K21 hK21 => ?_
                  refine we_region [(0, 0), (1, 0), (2, 2)] rfl ?_
                  refine ge_batch [0, 1] (ans := []) (vs := [(60, .agg #[.int .i64 3, .int .i64 (i1 : Int)]), (59, .int .i64 (i1 : Int))]) (l := []) (by kernel_rfl) trivial ?_
                  have hS40 := hS.bring 1 rfl
                  refine ge_set (b := b1) (j := 0) (cs := #[.int .i64 0, .int .i64 0]) (t := 39) (vs := [.int .i64 3, .int .i64 (i1 : Int)]) hS40 (by kernel_rfl) rfl rfl fun w14 hS41 => ?_
                  have hS42 : St w0 w14 [Own.blk b1 (.cells #[.int .i64 3, .int .i64 (i1 : Int)] 39 (0, 0)), Own.blk b2 (.cells #[.int .i64 e1.C, .int .i64 e1.T, .int .i64 e1.D, .int .i64 e1.J] 30 (0, 0))] := hS41
                  refine ge_nil fun a hF => hK21 _ _ ?_ a hF
                  have hS43 := hS42.takeN 0
                  obtain rfl := Option.some.inj h
                  exact we_ret fun a hF => hQ _ _ _ (Outs.out nofun ⟨rfl, (post_ret (rs := [.cell 2 39]) (ans := [.val (.int .i64 3), .val (.int .i64 (i1 : Int))]) (vs := [.agg #[.int .i64 3, .int .i64 (i1 : Int)]]) (l := [.loaded ⟨b1, 0, none⟩ (.int .i64 3), .loaded ⟨b1, 1, none⟩ (.int .i64 (i1 : Int))]) rfl (by kernel_rfl) ⟨hS42.cell 0 rfl rfl, hS42.cell 0 rfl rfl, trivial⟩ ⟨rfl, hS43⟩) a hF⟩)
                · rw [if_neg hc11] at h
                  refine we_known (t := 58) (b := decide (e1.J > 10000)) (v := false) (by kernel_rfl) (decide_eq_false hc11) ?_
                  refine we_false (by kernel_rfl) ?_
                  have hS44 := hS.bring 1 rfl
                  have hS45 := hS44.bring 1 rfl
                  obtain rfl := Option.some.inj h
                  exact we_skip fun a hF => hQ _ _ _ (Outs.again ⟨hS45, hF.weaken ⟨by kernel_rfl, by kernel_rfl, by kernel_rfl, by kernel_rfl, by kernel_rfl, by kernel_rfl, trivial⟩⟩)
abbrev net_Check.A1 (K : Nat) (w0 : World) (l0 : List SFrame) (A0 : Option Addr) (c0 : Nat) (hR0 : RdL w0 A0 l0) (hL0 : l0.length ≤ c0) (b1 : Nat) : Nat → Act → World → Prop := fun (s : Nat) a w => St w0 w [Own.blk b1 (.cells #[.int .i64 0, .int .i64 0] 39 (0, 0))] ∧ Frm 70 a [(2, .pointer (some ⟨b1, 0, none⟩)), (14, .slice A0 l0.length c0), (15, .int .i64 (l0.length : Int)), (16, .int .i64 (s : Int))]
abbrev net_Check.B1 (K : Nat) (w0 : World) (l0 : List SFrame) (A0 : Option Addr) (c0 : Nat) (hR0 : RdL w0 A0 l0) (hL0 : l0.length ≤ c0) (b1 : Nat) : (Unit ⊕ SFault) → Exit → Act → World → Prop := Exits 0 (fun (s : Unit) a w => St w0 w [Own.blk b1 (.cells #[.int .i64 0, .int .i64 0] 39 (0, 0))] ∧ Frm 70 a [(2, .pointer (some ⟨b1, 0, none⟩))]) (Rets Tryd.prog Tryd.f71 (net_Check.Post w0))
theorem net_Check_r1 (K : Nat) (w0 : World) (l0 : List SFrame) (A0 : Option Addr) (c0 : Nat) (hR0 : RdL w0 A0 l0) (hL0 : l0.length ≤ c0) (b1 : Nat) (s : Nat) (o : Nat ⊕ (Unit ⊕ SFault)) (h : net_Check.r1 l0 s = some o) (a : Act) (w : World) (hA : net_Check.A1 K w0 l0 A0 c0 hR0 hL0 b1 s a w) (Q : Exit → Act → World → Prop) (hQ : ∀ x a w, Outs (net_Check.A1 K w0 l0 A0 c0 hR0 hL0 b1) (net_Check.B1 K w0 l0 A0 c0 hR0 hL0 b1) o x a w → Q x a w) : (subF Tryd.f71 [1, 1, 0, 1, 0, 0]).wp Tryd.prog Q a w := by
  obtain ⟨i1, hs⟩ : ∃ z, z = s := ⟨s, rfl⟩
  subst hs
  obtain ⟨hS, hF⟩ := hA
  replace hS : St w0 w [Own.blk b1 (.cells #[.int .i64 0, .int .i64 0] 39 (0, 0))] := hS
  simp only [net_Check.r1] at h
  refine (?_ : WE Tryd.prog 70 (subF Tryd.f71 [1, 1, 0, 1, 0, 0]) Q [(2, .pointer (some ⟨b1, 0, none⟩)), (14, .slice A0 l0.length c0), (15, .int .i64 (l0.length : Int)), (16, .int .i64 (i1 : Int))] w) a hF
  clear hF a
  refine we_seq fun K8 hK8 => ?_
  refine we_region [(0, 0)] rfl ?_
  refine ge_batch [0] (ans := []) (vs := [(17, .bool (decide ((i1 : Int) < (l0.length : Int))))]) (l := []) (by kernel_rfl) trivial ?_
  refine ge_nil fun a hF => hK8 _ _ ?_ a hF
  refine we_seq fun K9 hK9 => ?_
  by_cases hc3 : (i1 : Int) < (l0.length : Int)
  · rw [if_pos hc3] at h
    refine we_known (t := 17) (b := decide ((i1 : Int) < (l0.length : Int))) (v := true) (by kernel_rfl) (decide_eq_true hc3) ?_
    refine we_true (by kernel_rfl) ?_
    refine we_skip fun a hF => hK9 _ _ ?_ a hF
    refine we_seq fun K10 hK10 => ?_
    refine we_block ?_
    refine we_seq fun K11 hK11 => ?_
    refine we_region [(0, 0), (1, 0), (2, 0), (3, 1), (4, 0), (5, 2)] rfl ?_
    refine ge_batch [0] (ans := []) (vs := [(18, .int .i64 (i1 : Int))]) (l := []) (by kernel_rfl) trivial ?_
    rcases hx2 : l0[i1]? with _ | e1
    · rw [hx2] at h; cases h
    rw [hx2] at h
    simp only [] at h
    refine ge_index (d := 19) (ty := 0) (t := 22) (el := 30) (sz := 4) (m := l0.length) (c := c0) (x := (.tmp 14)) (y := (.tmp 16)) (A := A0) (k' := .i64) (j := (i1 : Int)) (jn := i1) (b0 := blkOf A0) (o0 := offOf A0) (by kernel_rfl) (by kernel_rfl) (by kernel_rfl) (by kernel_rfl) (by kernel_rfl) ((hS.rd hR0).eqSome (pos_of_get hx2)) rfl (lt_of_get hx2) ?_
    refine ge_batch [2] (ans := [.val (.int .i64 e1.C), .val (.int .i64 e1.T), .val (.int .i64 e1.D), .val (.int .i64 e1.J)]) (vs := [(20, .agg #[.int .i64 e1.C, .int .i64 e1.T, .int .i64 e1.D, .int .i64 e1.J])]) (l := [.loaded ⟨blkOf A0, offOf A0 + i1 * 4, none⟩ (.int .i64 e1.C), .loaded ⟨blkOf A0, offOf A0 + i1 * 4 + 1, none⟩ (.int .i64 e1.T), .loaded ⟨blkOf A0, offOf A0 + i1 * 4 + 2, none⟩ (.int .i64 e1.D), .loaded ⟨blkOf A0, offOf A0 + i1 * 4 + 3, none⟩ (.int .i64 e1.J)]) (by kernel_rfl) ⟨RdL.cell (j := 0) (hS.rd hR0) hx2 rfl, RdL.cell (j := 1) (hS.rd hR0) hx2 rfl, RdL.cell (j := 2) (hS.rd hR0) hx2 rfl, RdL.cell (j := 3) (hS.rd hR0) hx2 rfl, trivial⟩ ?_
    refine ge_new (d := some 4) (o := .cells #[.int .i64 0, .int .i64 0, .int .i64 0, .int .i64 0] 30) (v := fun b => .pointer (some ⟨b, 0, none⟩)) hS (fun b => by kernel_rfl) fun b2 w5 hx3 hS9 => ?_
    refine ge_batch [4] (ans := []) (vs := [(3, .int .i64 (i1 : Int))]) (l := []) (by kernel_rfl) trivial ?_
    refine ge_set (b := b2) (j := 0) (cs := #[.int .i64 0, .int .i64 0, .int .i64 0, .int .i64 0]) (t := 30) (vs := [.int .i64 e1.C, .int .i64 e1.T, .int .i64 e1.D, .int .i64 e1.J]) hS9 (by kernel_rfl) rfl rfl fun w6 hS10 => ?_
    have hS11 : St w0 w6 [Own.blk b2 (.cells #[.int .i64 e1.C, .int .i64 e1.T, .int .i64 e1.D, .int .i64 e1.J] 30 (0, 0)), Own.blk b1 (.cells #[.int .i64 0, .int .i64 0] 39 (0, 0))] := hS10
    refine ge_nil fun a hF => hK11 _ _ ?_ a hF
    refine we_seq fun K12 hK12 => ?_
    rcases hq2 : net_Check.p2 i1 e1 with _ | (_ | rr1)
    · rw [hq2] at h; cases h
    · rw [hq2] at h
      simp only [] at h
      refine we_keep (e' := [(2, .pointer (some ⟨b1, 0, none⟩)), (3, .int .i64 (i1 : Int)), (4, .pointer (some ⟨b2, 0, none⟩)), (14, .slice A0 l0.length c0), (15, .int .i64 (l0.length : Int)), (16, .int .i64 (i1 : Int)), (17, .bool true), (18, .int .i64 (i1 : Int)), (19, .pointer (some ⟨blkOf A0, offOf A0 + i1 * 4, none⟩)), (20, .agg #[.int .i64 e1.C, .int .i64 e1.T, .int .i64 e1.D, .int .i64 e1.J])]) ⟨by kernel_rfl, by kernel_rfl, by kernel_rfl, by kernel_rfl, by kernel_rfl, by kernel_rfl, by kernel_rfl, by kernel_rfl, by kernel_rfl, by kernel_rfl, trivial⟩ (net_Check_p2 K w0 l0 A0 c0 hR0 hL0 b1 i1 hc3 e1 hx2 b2 _ hq2 _ hS11 _ ?_)
      rintro _ a w15 ⟨rfl, hS46, hF⟩
      replace hS46 : St w0 w15 [Own.blk b2 (.cells #[.int .i64 e1.C, .int .i64 e1.T, .int .i64 e1.D, .int .i64 e1.J] 30 (0, 0)), Own.blk b1 (.cells #[.int .i64 0, .int .i64 0] 39 (0, 0))] := hS46
      refine hK12 [(2, .pointer (some ⟨b1, 0, none⟩)), (3, .int .i64 (i1 : Int)), (4, .pointer (some ⟨b2, 0, none⟩)), (14, .slice A0 l0.length c0), (15, .int .i64 (l0.length : Int)), (16, .int .i64 (i1 : Int))] w15 ?_ a hF
      refine we_seq fun K22 hK22 => ?_
      refine we_region [(0, 0), (1, 0), (2, 0), (3, 0), (4, 0)] rfl ?_
      refine ge_batch [0, 1, 2, 3, 4] (ans := [.val (.int .i64 e1.J), .val (.int .i64 e1.T)]) (vs := [(65, .bool (decide (e1.J > e1.T))), (64, .int .i64 e1.T), (63, .pointer (some ⟨b2, 1, none⟩)), (62, .int .i64 e1.J), (61, .pointer (some ⟨b2, 3, none⟩))]) (l := [.loaded ⟨b2, 3, none⟩ (.int .i64 e1.J), .loaded ⟨b2, 1, none⟩ (.int .i64 e1.T)]) (by kernel_rfl) ⟨hS46.cell 0 rfl rfl, hS46.cell 0 rfl rfl, trivial⟩ ?_
      refine ge_nil fun a hF => hK22 _ _ ?_ a hF
      by_cases hc12 : e1.J > e1.T
      · rw [if_pos hc12] at h
        refine we_known (t := 65) (b := decide (e1.J > e1.T)) (v := true) (by kernel_rfl) (decide_eq_true hc12) ?_
        refine we_true (by kernel_rfl) ?_
        refine we_seq fun K23 hK23 => ?_
        refine we_region [(0, 0), (1, 0), (2, 2)] rfl ?_
        refine ge_batch [0, 1] (ans := []) (vs := [(67, .agg #[.int .i64 12, .int .i64 (i1 : Int)]), (66, .int .i64 (i1 : Int))]) (l := []) (by kernel_rfl) trivial ?_
        have hS47 := hS46.bring 1 rfl
        refine ge_set (b := b1) (j := 0) (cs := #[.int .i64 0, .int .i64 0]) (t := 39) (vs := [.int .i64 12, .int .i64 (i1 : Int)]) hS47 (by kernel_rfl) rfl rfl fun w16 hS48 => ?_
        have hS49 : St w0 w16 [Own.blk b1 (.cells #[.int .i64 12, .int .i64 (i1 : Int)] 39 (0, 0)), Own.blk b2 (.cells #[.int .i64 e1.C, .int .i64 e1.T, .int .i64 e1.D, .int .i64 e1.J] 30 (0, 0))] := hS48
        refine ge_nil fun a hF => hK23 _ _ ?_ a hF
        have hS50 := hS49.takeN 0
        obtain rfl := Option.some.inj h
        exact we_ret fun a hF => hQ _ _ _ (Outs.out nofun (Exits.on ⟨rfl, (post_ret (rs := [.cell 2 39]) (ans := [.val (.int .i64 12), .val (.int .i64 (i1 : Int))]) (vs := [.agg #[.int .i64 12, .int .i64 (i1 : Int)]]) (l := [.loaded ⟨b1, 0, none⟩ (.int .i64 12), .loaded ⟨b1, 1, none⟩ (.int .i64 (i1 : Int))]) rfl (by kernel_rfl) ⟨hS49.cell 0 rfl rfl, hS49.cell 0 rfl rfl, trivial⟩ ⟨rfl, hS50⟩) a hF⟩))
      · rw [if_neg hc12] at h
        refine we_known (t := 65) (b := decide (e1.J > e1.T)) (v := false) (by kernel_rfl) (decide_eq_false hc12) ?_
        refine we_false (by kernel_rfl) ?_
        refine we_skip fun a hF => hK10 _ _ ?_ a hF
        refine we_region [(0, 0), (1, 0)] rfl ?_
        refine ge_addn (d := 68) (ty := 3) (x := (.tmp 16)) (y := (.const (.int .i64 1))) (t := 3) (t2 := 3) (k := .i64) (m := i1) (by kernel_rfl) (by kernel_rfl) (by kernel_rfl) (by have h0 := hR0.small; omega) ?_
        refine ge_batch [1] (ans := []) (vs := [(16, .int .i64 ((i1 + 1 : Nat) : Int))]) (l := []) (by kernel_rfl) trivial ?_
        have hS51 := hS46.bring 1 rfl
        have hS52 := hS51.takeN 1
        obtain rfl := Option.some.inj h
        exact ge_nil fun a hF => hQ _ _ _ (Outs.again ⟨hS52, hF.weaken ⟨by kernel_rfl, by kernel_rfl, by kernel_rfl, by kernel_rfl, trivial⟩⟩)
    · rw [hq2] at h
      simp only [] at h
      refine we_keep (e' := [(2, .pointer (some ⟨b1, 0, none⟩)), (3, .int .i64 (i1 : Int)), (4, .pointer (some ⟨b2, 0, none⟩)), (14, .slice A0 l0.length c0), (15, .int .i64 (l0.length : Int)), (16, .int .i64 (i1 : Int)), (17, .bool true), (18, .int .i64 (i1 : Int)), (19, .pointer (some ⟨blkOf A0, offOf A0 + i1 * 4, none⟩)), (20, .agg #[.int .i64 e1.C, .int .i64 e1.T, .int .i64 e1.D, .int .i64 e1.J])]) ⟨by kernel_rfl, by kernel_rfl, by kernel_rfl, by kernel_rfl, by kernel_rfl, by kernel_rfl, by kernel_rfl, by kernel_rfl, by kernel_rfl, by kernel_rfl, trivial⟩ (net_Check_p2 K w0 l0 A0 c0 hR0 hL0 b1 i1 hc3 e1 hx2 b2 _ hq2 _ hS11 _ ?_)
      rintro _ a w1 ⟨_, rfl, hb⟩
      obtain rfl := Option.some.inj h
      exact hQ _ _ _ (Outs.out nofun (Exits.on ⟨rfl, hb⟩))
  · rw [if_neg hc3] at h
    refine we_known (t := 17) (b := decide ((i1 : Int) < (l0.length : Int))) (v := false) (by kernel_rfl) (decide_eq_false hc3) ?_
    refine we_false (by kernel_rfl) ?_
    obtain rfl := Option.some.inj h
    exact we_exit fun a hF => hQ _ _ _ (Outs.out nofun (Exits.here ⟨hS, hF.weaken ⟨by kernel_rfl, trivial⟩⟩))
theorem net_Check_ok (K : Nat) (l0 : List SFrame) (A0 : Option Addr) (c0 : Nat) (w0 : World) (hR0 : RdL w0 A0 l0) (hL0 : l0.length ≤ c0) (r : SFault) (h : net_Check.f K l0 = some r) :
    Calls Tryd.prog 71 #[.slice A0 l0.length c0] w0 (net_Check.Post w0 r) := by
  have hS := St.start w0
  unfold net_Check.f at h
  refine calls_enter (n := 70) (args := [.slice A0 l0.length c0]) (fn := Tryd.f71) rfl rfl rfl rfl ?_
  show WE _ _ _ _ [(0, .slice A0 l0.length c0)] _
  refine we_seq fun K1 hK1 => ?_
  refine we_region [(0, 1)] rfl ?_
  refine ge_new (d := some 2) (o := .cells #[.int .i64 0, .int .i64 0] 39) (v := fun b => .pointer (some ⟨b, 0, none⟩)) hS (fun b => by kernel_rfl) fun b1 w1 hx1 hS1 => ?_
  refine ge_nil fun a hF => hK1 _ _ ?_ a hF
  refine we_seq fun K2 hK2 => ?_
  rcases hq1 : net_Check.p0 l0 with _ | (_ | rr3)
  · rw [hq1] at h; cases h
  · rw [hq1] at h
    simp only [] at h
    refine we_keep (e' := [(0, .slice A0 l0.length c0), (2, .pointer (some ⟨b1, 0, none⟩))]) ⟨by kernel_rfl, by kernel_rfl, trivial⟩ (net_Check_p0 K w0 l0 A0 c0 hR0 hL0 b1 _ hq1 _ hS1 _ ?_)
    rintro _ a w4 ⟨rfl, hS8, hF⟩
    replace hS8 : St w0 w4 [Own.blk b1 (.cells #[.int .i64 0, .int .i64 0] 39 (0, 0))] := hS8
    refine hK2 [(0, .slice A0 l0.length c0), (2, .pointer (some ⟨b1, 0, none⟩))] w4 ?_ a hF
    refine we_seq fun K6 hK6 => ?_
    refine we_seq fun K7 hK7 => ?_
    refine we_region [(0, 0), (1, 0), (2, 0)] rfl ?_
    refine ge_batch [0, 1, 2] (ans := []) (vs := [(16, .int .i64 0), (15, .int .i64 (l0.length : Int)), (14, .slice A0 l0.length c0)]) (l := []) (by kernel_rfl) trivial ?_
    refine ge_nil fun a hF => hK7 _ _ ?_ a hF
    refine we_block ?_
    rcases hq3 : iter (net_Check.r1 l0) K 0 with _ | (_ | rr2)
    · rw [hq3] at h; cases h
    · rw [hq3] at h
      simp only [] at h
      refine we_iter (A := net_Check.A1 K w0 l0 A0 c0 hR0 hL0 b1) (B := net_Check.B1 K w0 l0 A0 c0 hR0 hL0 b1) hq3 (fun a hF => ⟨hS8, hF.weaken ⟨by kernel_rfl, by kernel_rfl, by kernel_rfl, by kernel_rfl, trivial⟩⟩) (fun s o hf a w hA Q hQ => net_Check_r1 K w0 l0 A0 c0 hR0 hL0 b1 s o hf a w hA Q hQ) ?_
      rintro _ a w17 _ ⟨rfl, hS53, hF⟩
      replace hS53 : St w0 w17 [Own.blk b1 (.cells #[.int .i64 0, .int .i64 0] 39 (0, 0))] := hS53
      refine hK6 [(2, .pointer (some ⟨b1, 0, none⟩))] w17 ?_ a hF
      refine we_seq fun K24 hK24 => ?_
      refine we_region [(0, 0), (1, 2)] rfl ?_
      refine ge_batch [0] (ans := []) (vs := [(69, .agg #[.int .i64 0, .int .i64 0])]) (l := []) (by kernel_rfl) trivial ?_
      refine ge_set (b := b1) (j := 0) (cs := #[.int .i64 0, .int .i64 0]) (t := 39) (vs := [.int .i64 0, .int .i64 0]) hS53 (by kernel_rfl) rfl rfl fun w18 hS54 => ?_
      have hS55 : St w0 w18 [Own.blk b1 (.cells #[.int .i64 0, .int .i64 0] 39 (0, 0))] := hS54
      refine ge_nil fun a hF => hK24 _ _ ?_ a hF
      have hS56 := hS55.takeN 0
      obtain rfl := Option.some.inj h
      exact we_ret (post_ret (rs := [.cell 2 39]) (ans := [.val (.int .i64 0), .val (.int .i64 0)]) (vs := [.agg #[.int .i64 0, .int .i64 0]]) (l := [.loaded ⟨b1, 0, none⟩ (.int .i64 0), .loaded ⟨b1, 1, none⟩ (.int .i64 0)]) rfl (by kernel_rfl) ⟨hS55.cell 0 rfl rfl, hS55.cell 0 rfl rfl, trivial⟩ ⟨rfl, hS56⟩)
    · rw [hq3] at h
      simp only [] at h
      refine we_iter (A := net_Check.A1 K w0 l0 A0 c0 hR0 hL0 b1) (B := net_Check.B1 K w0 l0 A0 c0 hR0 hL0 b1) hq3 (fun a hF => ⟨hS8, hF.weaken ⟨by kernel_rfl, by kernel_rfl, by kernel_rfl, by kernel_rfl, trivial⟩⟩) (fun s o hf a w hA Q hQ => net_Check_r1 K w0 l0 A0 c0 hR0 hL0 b1 s o hf a w hA Q hQ) ?_
      rintro _ a w1 _ ⟨rfl, hb⟩
      obtain rfl := Option.some.inj h
      exact hb
  · rw [hq1] at h
    simp only [] at h
    refine we_keep (e' := [(0, .slice A0 l0.length c0), (2, .pointer (some ⟨b1, 0, none⟩))]) ⟨by kernel_rfl, by kernel_rfl, trivial⟩ (net_Check_p0 K w0 l0 A0 c0 hR0 hL0 b1 _ hq1 _ hS1 _ ?_)
    rintro _ a w1 ⟨_, rfl, hb⟩
    obtain rfl := Option.some.inj h
    exact hb

/-! punctual/net.held -/
abbrev net_held.Post (w0 : World) (r : Int) (e : Ending) (w : World) : Prop := e = .returned (.int .i64 r) ∧ St w0 w []
def net_held.r0 (l0 : List SFrame) (x1 : Int) : Int × Nat → Option ((Int × Nat) ⊕ (Int ⊕ Int))
  | (z1, i1) =>
    if (i1 : Int) < (((l0.take l0.length).drop ((IntKind.i64.wrap (x1 + 1)).toNat)).length : Int) then
      match ((l0.take l0.length).drop ((IntKind.i64.wrap (x1 + 1)).toNat))[i1]? with
      | none => none
      | some e1 =>
        some (.inl (gmax z1 (IntKind.i64.wrap (e1.C - 1)), (i1 + 1)))
    else
      some (.inr (.inl z1))
def net_held.f (K : Nat) (l0 : List SFrame) (x1 : Int) : Option Int :=
  if 0 ≤ (IntKind.i64.wrap (x1 + 1)) then
    if ((IntKind.i64.wrap (x1 + 1)).toNat) ≤ l0.length then
      match iter (net_held.r0 l0 x1) K (0, 0) with
      | none => none
      | some (.inl z3) =>
        some z3
      | some (.inr rr1) =>
        some rr1
    else
      none
  else
    none
abbrev net_held.A0 (K : Nat) (w0 : World) (l0 : List SFrame) (A0 : Option Addr) (c0 : Nat) (x1 : Int) (hR0 : RdL w0 A0 l0) (hL0 : l0.length ≤ c0) (hc1 : 0 ≤ (IntKind.i64.wrap (x1 + 1))) (hc2 : ((IntKind.i64.wrap (x1 + 1)).toNat) ≤ l0.length) : (Int × Nat) → Act → World → Prop := fun (s : Int × Nat) a w => St w0 w [] ∧ Frm 24 a [(5, .int .i64 s.1), (11, .slice (subA A0 c0 ((IntKind.i64.wrap (x1 + 1)).toNat) 4) (((l0.take l0.length).drop ((IntKind.i64.wrap (x1 + 1)).toNat)).length) (c0 - ((IntKind.i64.wrap (x1 + 1)).toNat))), (12, .int .i64 (((l0.take l0.length).drop ((IntKind.i64.wrap (x1 + 1)).toNat)).length : Int)), (13, .int .i64 (s.2 : Int))]
abbrev net_held.B0 (K : Nat) (w0 : World) (l0 : List SFrame) (A0 : Option Addr) (c0 : Nat) (x1 : Int) (hR0 : RdL w0 A0 l0) (hL0 : l0.length ≤ c0) (hc1 : 0 ≤ (IntKind.i64.wrap (x1 + 1))) (hc2 : ((IntKind.i64.wrap (x1 + 1)).toNat) ≤ l0.length) : (Int ⊕ Int) → Exit → Act → World → Prop := Exits 0 (fun (s : Int) a w => St w0 w [] ∧ Frm 24 a [(5, .int .i64 s)]) (Rets Tryd.prog Tryd.f166 (net_held.Post w0))
theorem net_held_r0 (K : Nat) (w0 : World) (l0 : List SFrame) (A0 : Option Addr) (c0 : Nat) (x1 : Int) (hR0 : RdL w0 A0 l0) (hL0 : l0.length ≤ c0) (hc1 : 0 ≤ (IntKind.i64.wrap (x1 + 1))) (hc2 : ((IntKind.i64.wrap (x1 + 1)).toNat) ≤ l0.length) (s : Int × Nat) (o : (Int × Nat) ⊕ (Int ⊕ Int)) (h : net_held.r0 l0 x1 s = some o) (a : Act) (w : World) (hA : net_held.A0 K w0 l0 A0 c0 x1 hR0 hL0 hc1 hc2 s a w) (Q : Exit → Act → World → Prop) (hQ : ∀ x a w, Outs (net_held.A0 K w0 l0 A0 c0 x1 hR0 hL0 hc1 hc2) (net_held.B0 K w0 l0 A0 c0 x1 hR0 hL0 hc1 hc2) o x a w → Q x a w) : (subF Tryd.f166 [1, 1, 0, 1, 0, 0]).wp Tryd.prog Q a w := by
  obtain ⟨z1, i1⟩ := s
  obtain ⟨hS, hF⟩ := hA
  replace hS : St w0 w [] := hS
  simp only [net_held.r0] at h
  refine (?_ : WE Tryd.prog 24 (subF Tryd.f166 [1, 1, 0, 1, 0, 0]) Q [(5, .int .i64 z1), (11, .slice (subA A0 c0 ((IntKind.i64.wrap (x1 + 1)).toNat) 4) (((l0.take l0.length).drop ((IntKind.i64.wrap (x1 + 1)).toNat)).length) (c0 - ((IntKind.i64.wrap (x1 + 1)).toNat))), (12, .int .i64 (((l0.take l0.length).drop ((IntKind.i64.wrap (x1 + 1)).toNat)).length : Int)), (13, .int .i64 (i1 : Int))] w) a hF
  clear hF a
  refine we_seq fun K5 hK5 => ?_
  refine we_region [(0, 0)] rfl ?_
  refine ge_batch [0] (ans := []) (vs := [(14, .bool (decide ((i1 : Int) < (((l0.take l0.length).drop ((IntKind.i64.wrap (x1 + 1)).toNat)).length : Int))))]) (l := []) (by kernel_rfl) trivial ?_
  refine ge_nil fun a hF => hK5 _ _ ?_ a hF
  refine we_seq fun K6 hK6 => ?_
  by_cases hc3 : (i1 : Int) < (((l0.take l0.length).drop ((IntKind.i64.wrap (x1 + 1)).toNat)).length : Int)
  · rw [if_pos hc3] at h
    refine we_known (t := 14) (b := decide ((i1 : Int) < (((l0.take l0.length).drop ((IntKind.i64.wrap (x1 + 1)).toNat)).length : Int))) (v := true) (by kernel_rfl) (decide_eq_true hc3) ?_
    refine we_true (by kernel_rfl) ?_
    refine we_skip fun a hF => hK6 _ _ ?_ a hF
    refine we_seq fun K7 hK7 => ?_
    refine we_block ?_
    refine we_seq fun K8 hK8 => ?_
    refine we_region [(0, 0), (1, 0), (2, 1), (3, 2)] rfl ?_
    rcases hx1 : ((l0.take l0.length).drop ((IntKind.i64.wrap (x1 + 1)).toNat))[i1]? with _ | e1
    · rw [hx1] at h; cases h
    rw [hx1] at h
    simp only [] at h
    refine ge_index (d := 15) (ty := 0) (t := 22) (el := 30) (sz := 4) (m := ((l0.take l0.length).drop ((IntKind.i64.wrap (x1 + 1)).toNat)).length) (c := (c0 - ((IntKind.i64.wrap (x1 + 1)).toNat))) (x := (.tmp 11)) (y := (.tmp 13)) (A := (subA A0 c0 ((IntKind.i64.wrap (x1 + 1)).toNat) 4)) (k' := .i64) (j := (i1 : Int)) (jn := i1) (b0 := blkOf (subA A0 c0 ((IntKind.i64.wrap (x1 + 1)).toNat) 4)) (o0 := offOf (subA A0 c0 ((IntKind.i64.wrap (x1 + 1)).toNat) 4)) (by kernel_rfl) (by kernel_rfl) (by kernel_rfl) (by kernel_rfl) (by kernel_rfl) ((hS.rd (RdL.part hR0 hL0 ((IntKind.i64.wrap (x1 + 1)).toNat) l0.length)).eqSome (pos_of_get hx1)) rfl (lt_of_get hx1) ?_
    refine ge_batch [1] (ans := [.val (.int .i64 e1.C), .val (.int .i64 e1.T), .val (.int .i64 e1.D), .val (.int .i64 e1.J)]) (vs := [(16, .agg #[.int .i64 e1.C, .int .i64 e1.T, .int .i64 e1.D, .int .i64 e1.J])]) (l := [.loaded ⟨blkOf (subA A0 c0 ((IntKind.i64.wrap (x1 + 1)).toNat) 4), offOf (subA A0 c0 ((IntKind.i64.wrap (x1 + 1)).toNat) 4) + i1 * 4, none⟩ (.int .i64 e1.C), .loaded ⟨blkOf (subA A0 c0 ((IntKind.i64.wrap (x1 + 1)).toNat) 4), offOf (subA A0 c0 ((IntKind.i64.wrap (x1 + 1)).toNat) 4) + i1 * 4 + 1, none⟩ (.int .i64 e1.T), .loaded ⟨blkOf (subA A0 c0 ((IntKind.i64.wrap (x1 + 1)).toNat) 4), offOf (subA A0 c0 ((IntKind.i64.wrap (x1 + 1)).toNat) 4) + i1 * 4 + 2, none⟩ (.int .i64 e1.D), .loaded ⟨blkOf (subA A0 c0 ((IntKind.i64.wrap (x1 + 1)).toNat) 4), offOf (subA A0 c0 ((IntKind.i64.wrap (x1 + 1)).toNat) 4) + i1 * 4 + 3, none⟩ (.int .i64 e1.J)]) (by kernel_rfl) ⟨RdL.cell (j := 0) (hS.rd (RdL.part hR0 hL0 ((IntKind.i64.wrap (x1 + 1)).toNat) l0.length)) hx1 rfl, RdL.cell (j := 1) (hS.rd (RdL.part hR0 hL0 ((IntKind.i64.wrap (x1 + 1)).toNat) l0.length)) hx1 rfl, RdL.cell (j := 2) (hS.rd (RdL.part hR0 hL0 ((IntKind.i64.wrap (x1 + 1)).toNat) l0.length)) hx1 rfl, RdL.cell (j := 3) (hS.rd (RdL.part hR0 hL0 ((IntKind.i64.wrap (x1 + 1)).toNat) l0.length)) hx1 rfl, trivial⟩ ?_
    refine ge_new (d := some 7) (o := .cells #[.int .i64 0, .int .i64 0, .int .i64 0, .int .i64 0] 30) (v := fun b => .pointer (some ⟨b, 0, none⟩)) hS (fun b => by kernel_rfl) fun b1 w1 hx2 hS1 => ?_
    refine ge_set (b := b1) (j := 0) (cs := #[.int .i64 0, .int .i64 0, .int .i64 0, .int .i64 0]) (t := 30) (vs := [.int .i64 e1.C, .int .i64 e1.T, .int .i64 e1.D, .int .i64 e1.J]) hS1 (by kernel_rfl) rfl rfl fun w2 hS2 => ?_
    have hS3 : St w0 w2 [Own.blk b1 (.cells #[.int .i64 e1.C, .int .i64 e1.T, .int .i64 e1.D, .int .i64 e1.J] 30 (0, 0))] := hS2
    refine ge_nil fun a hF => hK8 _ _ ?_ a hF
    refine we_region [(0, 0), (1, 0), (2, 0), (3, 0), (4, 0), (5, 0)] rfl ?_
    refine ge_batch [0, 1, 2, 3, 4, 5] (ans := [.val (.int .i64 e1.C)]) (vs := [(5, .int .i64 (gmax z1 (IntKind.i64.wrap (e1.C - 1)))), (21, .int .i64 (gmax z1 (IntKind.i64.wrap (e1.C - 1)))), (20, .int .i64 (IntKind.i64.wrap (e1.C - 1))), (19, .int .i64 e1.C), (18, .pointer (some ⟨b1, 0, none⟩)), (17, .int .i64 z1)]) (l := [.loaded ⟨b1, 0, none⟩ (.int .i64 e1.C)]) (by kernel_rfl) ⟨hS3.cell 0 rfl rfl, trivial⟩ ?_
    refine ge_nil fun a hF => hK7 _ _ ?_ a hF
    refine we_region [(0, 0), (1, 0)] rfl ?_
    refine ge_addn (d := 22) (ty := 3) (x := (.tmp 13)) (y := (.const (.int .i64 1))) (t := 3) (t2 := 3) (k := .i64) (m := i1) (by kernel_rfl) (by kernel_rfl) (by kernel_rfl) (by have h0 := hR0.small; have h1 : ((l0.take l0.length).drop ((IntKind.i64.wrap (x1 + 1)).toNat)).length ≤ l0.length := (by simp only [List.length_drop, List.length_take]; omega); omega) ?_
    refine ge_batch [1] (ans := []) (vs := [(13, .int .i64 ((i1 + 1 : Nat) : Int))]) (l := []) (by kernel_rfl) trivial ?_
    have hS4 := hS3.takeN 0
    obtain rfl := Option.some.inj h
    exact ge_nil fun a hF => hQ _ _ _ (Outs.again ⟨hS4, hF.weaken ⟨by kernel_rfl, by kernel_rfl, by kernel_rfl, by kernel_rfl, trivial⟩⟩)
  · rw [if_neg hc3] at h
    refine we_known (t := 14) (b := decide ((i1 : Int) < (((l0.take l0.length).drop ((IntKind.i64.wrap (x1 + 1)).toNat)).length : Int))) (v := false) (by kernel_rfl) (decide_eq_false hc3) ?_
    refine we_false (by kernel_rfl) ?_
    obtain rfl := Option.some.inj h
    exact we_exit fun a hF => hQ _ _ _ (Outs.out nofun (Exits.here ⟨hS, hF.weaken ⟨by kernel_rfl, trivial⟩⟩))
theorem net_held_ok (K : Nat) (l0 : List SFrame) (A0 : Option Addr) (c0 : Nat) (x1 : Int) (w0 : World) (hR0 : RdL w0 A0 l0) (hL0 : l0.length ≤ c0) (r : Int) (h : net_held.f K l0 x1 = some r) :
    Calls Tryd.prog 166 #[.slice A0 l0.length c0, .int .i64 x1] w0 (net_held.Post w0 r) := by
  have hS := St.start w0
  unfold net_held.f at h
  refine calls_enter (n := 24) (args := [.slice A0 l0.length c0, .int .i64 x1]) (fn := Tryd.f166) rfl rfl rfl rfl ?_
  show WE _ _ _ _ [(0, .slice A0 l0.length c0), (1, .int .i64 x1)] _
  refine we_seq fun K1 hK1 => ?_
  refine we_region [(0, 0)] rfl ?_
  refine ge_batch [0] (ans := []) (vs := [(4, .int .i64 0)]) (l := []) (by kernel_rfl) trivial ?_
  refine ge_nil fun a hF => hK1 _ _ ?_ a hF
  refine we_seq fun K2 hK2 => ?_
  refine we_region [(0, 0)] rfl ?_
  refine ge_batch [0] (ans := []) (vs := [(5, .int .i64 0)]) (l := []) (by kernel_rfl) trivial ?_
  refine ge_nil fun a hF => hK2 _ _ ?_ a hF
  refine we_seq fun K3 hK3 => ?_
  refine we_seq fun K4 hK4 => ?_
  refine we_region [(0, 0), (1, 0), (2, 0), (3, 0), (4, 0), (5, 0)] rfl ?_
  refine ge_batch [0, 1, 2] (ans := []) (vs := [(10, .int .i64 (IntKind.i64.wrap (x1 + 1))), (9, .int .i64 x1), (8, .slice A0 l0.length c0)]) (l := []) (by kernel_rfl) trivial ?_
  by_cases hc1 : 0 ≤ (IntKind.i64.wrap (x1 + 1))
  · rw [if_pos hc1] at h
    by_cases hc2 : ((IntKind.i64.wrap (x1 + 1)).toNat) ≤ l0.length
    · rw [if_pos hc2] at h
      refine ge_part (d := 11) (ty := 22) (t := 22) (el := 30) (sz := 4) (m := l0.length) (c := c0) (lo := ((IntKind.i64.wrap (x1 + 1)).toNat)) (hi := l0.length) (x := (.tmp 8)) (xl := some (.tmp 10)) (xh := none) (A := A0) (by kernel_rfl) (by kernel_rfl) ⟨.i64, (IntKind.i64.wrap (x1 + 1)), by kernel_rfl, (Int.toNat_of_nonneg hc1).symm⟩ rfl (by kernel_rfl) (by kernel_rfl) (by have f0 := hc2; have f1 := hL0; omega) (by have f0 := hc2; have f1 := hL0; omega) ?_
      refine ge_same (t := 11) (v := .slice (subA A0 c0 ((IntKind.i64.wrap (x1 + 1)).toNat) 4) (l0.length - ((IntKind.i64.wrap (x1 + 1)).toNat)) (c0 - ((IntKind.i64.wrap (x1 + 1)).toNat))) (v' := .slice (subA A0 c0 ((IntKind.i64.wrap (x1 + 1)).toNat) 4) (((l0.take l0.length).drop ((IntKind.i64.wrap (x1 + 1)).toNat)).length) (c0 - ((IntKind.i64.wrap (x1 + 1)).toNat))) (by kernel_rfl) (by have f0 := hc2; have f1 := hL0; rw [show l0.length - ((IntKind.i64.wrap (x1 + 1)).toNat) = ((l0.take l0.length).drop ((IntKind.i64.wrap (x1 + 1)).toNat)).length by simp only [List.length_drop, List.length_take]; omega]) ?_
      refine ge_batch [4, 5] (ans := []) (vs := [(13, .int .i64 0), (12, .int .i64 (((l0.take l0.length).drop ((IntKind.i64.wrap (x1 + 1)).toNat)).length : Int))]) (l := []) (by kernel_rfl) trivial ?_
      refine ge_nil fun a hF => hK4 _ _ ?_ a hF
      refine we_block ?_
      rcases hq1 : iter (net_held.r0 l0 x1) K (0, 0) with _ | (z3 | rr1)
      · rw [hq1] at h; cases h
      · rw [hq1] at h
        simp only [] at h
        refine we_iter (A := net_held.A0 K w0 l0 A0 c0 x1 hR0 hL0 hc1 hc2) (B := net_held.B0 K w0 l0 A0 c0 x1 hR0 hL0 hc1 hc2) hq1 (fun a hF => ⟨hS, hF.weaken ⟨by kernel_rfl, by kernel_rfl, by kernel_rfl, by kernel_rfl, trivial⟩⟩) (fun s o hf a w hA Q hQ => net_held_r0 K w0 l0 A0 c0 x1 hR0 hL0 hc1 hc2 s o hf a w hA Q hQ) ?_
        rintro _ a w3 _ ⟨rfl, hS5, hF⟩
        replace hS5 : St w0 w3 [] := hS5
        refine hK3 [(5, .int .i64 z3)] w3 ?_ a hF
        refine we_seq fun K9 hK9 => ?_
        refine we_region [(0, 0), (1, 0)] rfl ?_
        refine ge_batch [0, 1] (ans := []) (vs := [(4, .int .i64 z3), (23, .int .i64 z3)]) (l := []) (by kernel_rfl) trivial ?_
        refine ge_nil fun a hF => hK9 _ _ ?_ a hF
        obtain rfl := Option.some.inj h
        exact we_ret (post_ret (rs := [.tmp 4]) (ans := []) (vs := [.int .i64 z3]) (l := []) rfl (by kernel_rfl) trivial ⟨rfl, hS5⟩)
      · rw [hq1] at h
        simp only [] at h
        refine we_iter (A := net_held.A0 K w0 l0 A0 c0 x1 hR0 hL0 hc1 hc2) (B := net_held.B0 K w0 l0 A0 c0 x1 hR0 hL0 hc1 hc2) hq1 (fun a hF => ⟨hS, hF.weaken ⟨by kernel_rfl, by kernel_rfl, by kernel_rfl, by kernel_rfl, trivial⟩⟩) (fun s o hf a w hA Q hQ => net_held_r0 K w0 l0 A0 c0 x1 hR0 hL0 hc1 hc2 s o hf a w hA Q hQ) ?_
        rintro _ a w1 _ ⟨rfl, hb⟩
        obtain rfl := Option.some.inj h
        exact hb
    · rw [if_neg hc2] at h
      cases h
  · rw [if_neg hc1] at h
    cases h

/-! punctual/net.ceil -/
abbrev net_ceil.Post (w0 : World) (r : Int) (e : Ending) (w : World) : Prop := e = .returned (.int .i64 r) ∧ St w0 w []
def net_ceil.f (x0 : Int) (x1 : Int) : Option Int :=
  if x1 = 0 then
    none
  else
    some (IntKind.i64.wrap (Int.tdiv (IntKind.i64.wrap ((IntKind.i64.wrap (x0 + x1)) - 1)) x1))
theorem net_ceil_ok (x0 : Int) (x1 : Int) (w0 : World) (r : Int) (h : net_ceil.f x0 x1 = some r) :
    Calls Tryd.prog 169 #[.int .i64 x0, .int .i64 x1] w0 (net_ceil.Post w0 r) := by
  have hS := St.start w0
  unfold net_ceil.f at h
  refine calls_enter (n := 11) (args := [.int .i64 x0, .int .i64 x1]) (fn := Tryd.f169) rfl rfl rfl rfl ?_
  show WE _ _ _ _ [(0, .int .i64 x0), (1, .int .i64 x1)] _
  refine we_seq fun K1 hK1 => ?_
  refine we_region [(0, 0)] rfl ?_
  refine ge_batch [0] (ans := []) (vs := [(4, .int .i64 0)]) (l := []) (by kernel_rfl) trivial ?_
  refine ge_nil fun a hF => hK1 _ _ ?_ a hF
  refine we_seq fun K2 hK2 => ?_
  refine we_region [(0, 0), (1, 0), (2, 0), (3, 0), (4, 0), (5, 0), (6, 0)] rfl ?_
  refine ge_batch [0, 1, 2, 3, 4] (ans := []) (vs := [(9, .int .i64 x1), (8, .int .i64 (IntKind.i64.wrap ((IntKind.i64.wrap (x0 + x1)) - 1))), (7, .int .i64 (IntKind.i64.wrap (x0 + x1))), (6, .int .i64 x1), (5, .int .i64 x0)]) (l := []) (by kernel_rfl) trivial ?_
  by_cases hc1 : x1 = 0
  · rw [if_pos hc1] at h
    cases h
  · rw [if_neg hc1] at h
    refine ge_div (d := 10) (ty := 3) (op := .quo) (x := (.tmp 8)) (y := (.tmp 9)) (t := 3) (t2 := 3) (k := .i64) (p := (IntKind.i64.wrap ((IntKind.i64.wrap (x0 + x1)) - 1))) (q := x1) (v := .int .i64 (IntKind.i64.wrap (Int.tdiv (IntKind.i64.wrap ((IntKind.i64.wrap (x0 + x1)) - 1)) x1))) (by kernel_rfl) (by kernel_rfl) (by kernel_rfl) hc1 rfl ?_
    refine ge_batch [6] (ans := []) (vs := [(4, .int .i64 (IntKind.i64.wrap (Int.tdiv (IntKind.i64.wrap ((IntKind.i64.wrap (x0 + x1)) - 1)) x1)))]) (l := []) (by kernel_rfl) trivial ?_
    refine ge_nil fun a hF => hK2 _ _ ?_ a hF
    obtain rfl := Option.some.inj h
    exact we_ret (post_ret (rs := [.tmp 4]) (ans := []) (vs := [.int .i64 (IntKind.i64.wrap (Int.tdiv (IntKind.i64.wrap ((IntKind.i64.wrap (x0 + x1)) - 1)) x1))]) (l := []) rfl (by kernel_rfl) trivial ⟨rfl, hS⟩)

/-! punctual/net.time$1 -/
abbrev net_time_1.Post (w0 : World) (r : Int) (e : Ending) (w : World) : Prop := e = .returned (.int .i64 r) ∧ St w0 w []
def net_time_1.r0 (x0 : Int) (lf_1 : List SFrame) (xf_2 : Int) : Int × Nat → Option ((Int × Nat) ⊕ (Int ⊕ Int))
  | (z1, i1) =>
    if (i1 : Int) < (((lf_1.take ((IntKind.i64.wrap (xf_2 + 1)).toNat)).drop 0).length : Int) then
      match ((lf_1.take ((IntKind.i64.wrap (xf_2 + 1)).toNat)).drop 0)[i1]? with
      | none => none
      | some e1 =>
        match net_ceil.f (IntKind.i64.wrap (x0 + e1.J)) e1.T with
        | none => none
        | some r1 =>
          some (.inl (IntKind.i64.wrap (z1 + (IntKind.i64.wrap (r1 * e1.C))), (i1 + 1)))
    else
      some (.inr (.inl z1))
def net_time_1.f (K : Nat) (x0 : Int) (xf_0 : Int) (lf_1 : List SFrame) (xf_2 : Int) : Option Int :=
  if 0 ≤ (IntKind.i64.wrap (xf_2 + 1)) then
    if ((IntKind.i64.wrap (xf_2 + 1)).toNat) ≤ lf_1.length then
      match iter (net_time_1.r0 x0 lf_1 xf_2) K (xf_0, 0) with
      | none => none
      | some (.inl z3) =>
        some z3
      | some (.inr rr1) =>
        some rr1
    else
      none
  else
    none
abbrev net_time_1.A0 (K : Nat) (w0 : World) (x0 : Int) (bf_0 : Nat) (xf_0 : Int) (bf_1 : Nat) (lf_1 : List SFrame) (Af_1 : Option Addr) (cf_1 : Nat) (bf_2 : Nat) (xf_2 : Int) (hBf_0 : Glob w0 bf_0 [.int .i64 xf_0]) (hRf_1 : RdL w0 Af_1 lf_1) (hLf_1 : lf_1.length ≤ cf_1) (hBf_1 : Glob w0 bf_1 [.slice Af_1 lf_1.length cf_1]) (hBf_2 : Glob w0 bf_2 [.int .i64 xf_2]) (hc1 : 0 ≤ (IntKind.i64.wrap (xf_2 + 1))) (hc2 : ((IntKind.i64.wrap (xf_2 + 1)).toNat) ≤ lf_1.length) : (Int × Nat) → Act → World → Prop := fun (s : Int × Nat) a w => St w0 w [] ∧ Frm 33 a [(0, .int .i64 x0), (6, .int .i64 s.1), (13, .slice (subA Af_1 cf_1 0 4) (((lf_1.take ((IntKind.i64.wrap (xf_2 + 1)).toNat)).drop 0).length) (cf_1 - 0)), (14, .int .i64 (((lf_1.take ((IntKind.i64.wrap (xf_2 + 1)).toNat)).drop 0).length : Int)), (15, .int .i64 (s.2 : Int))]
abbrev net_time_1.B0 (K : Nat) (w0 : World) (x0 : Int) (bf_0 : Nat) (xf_0 : Int) (bf_1 : Nat) (lf_1 : List SFrame) (Af_1 : Option Addr) (cf_1 : Nat) (bf_2 : Nat) (xf_2 : Int) (hBf_0 : Glob w0 bf_0 [.int .i64 xf_0]) (hRf_1 : RdL w0 Af_1 lf_1) (hLf_1 : lf_1.length ≤ cf_1) (hBf_1 : Glob w0 bf_1 [.slice Af_1 lf_1.length cf_1]) (hBf_2 : Glob w0 bf_2 [.int .i64 xf_2]) (hc1 : 0 ≤ (IntKind.i64.wrap (xf_2 + 1))) (hc2 : ((IntKind.i64.wrap (xf_2 + 1)).toNat) ≤ lf_1.length) : (Int ⊕ Int) → Exit → Act → World → Prop := Exits 0 (fun (s : Int) a w => St w0 w [] ∧ Frm 33 a [(6, .int .i64 s)]) (Rets Tryd.prog Tryd.f168 (net_time_1.Post w0))
theorem net_time_1_r0 (K : Nat) (w0 : World) (x0 : Int) (bf_0 : Nat) (xf_0 : Int) (bf_1 : Nat) (lf_1 : List SFrame) (Af_1 : Option Addr) (cf_1 : Nat) (bf_2 : Nat) (xf_2 : Int) (hBf_0 : Glob w0 bf_0 [.int .i64 xf_0]) (hRf_1 : RdL w0 Af_1 lf_1) (hLf_1 : lf_1.length ≤ cf_1) (hBf_1 : Glob w0 bf_1 [.slice Af_1 lf_1.length cf_1]) (hBf_2 : Glob w0 bf_2 [.int .i64 xf_2]) (hc1 : 0 ≤ (IntKind.i64.wrap (xf_2 + 1))) (hc2 : ((IntKind.i64.wrap (xf_2 + 1)).toNat) ≤ lf_1.length) (s : Int × Nat) (o : (Int × Nat) ⊕ (Int ⊕ Int)) (h : net_time_1.r0 x0 lf_1 xf_2 s = some o) (a : Act) (w : World) (hA : net_time_1.A0 K w0 x0 bf_0 xf_0 bf_1 lf_1 Af_1 cf_1 bf_2 xf_2 hBf_0 hRf_1 hLf_1 hBf_1 hBf_2 hc1 hc2 s a w) (Q : Exit → Act → World → Prop) (hQ : ∀ x a w, Outs (net_time_1.A0 K w0 x0 bf_0 xf_0 bf_1 lf_1 Af_1 cf_1 bf_2 xf_2 hBf_0 hRf_1 hLf_1 hBf_1 hBf_2 hc1 hc2) (net_time_1.B0 K w0 x0 bf_0 xf_0 bf_1 lf_1 Af_1 cf_1 bf_2 xf_2 hBf_0 hRf_1 hLf_1 hBf_1 hBf_2 hc1 hc2) o x a w → Q x a w) : (subF Tryd.f168 [1, 1, 0, 1, 0, 0]).wp Tryd.prog Q a w := by
  obtain ⟨z1, i1⟩ := s
  obtain ⟨hS, hF⟩ := hA
  replace hS : St w0 w [] := hS
  simp only [net_time_1.r0] at h
  refine (?_ : WE Tryd.prog 33 (subF Tryd.f168 [1, 1, 0, 1, 0, 0]) Q [(0, .int .i64 x0), (6, .int .i64 z1), (13, .slice (subA Af_1 cf_1 0 4) (((lf_1.take ((IntKind.i64.wrap (xf_2 + 1)).toNat)).drop 0).length) (cf_1 - 0)), (14, .int .i64 (((lf_1.take ((IntKind.i64.wrap (xf_2 + 1)).toNat)).drop 0).length : Int)), (15, .int .i64 (i1 : Int))] w) a hF
  clear hF a
  refine we_seq fun K5 hK5 => ?_
  refine we_region [(0, 0)] rfl ?_
  refine ge_batch [0] (ans := []) (vs := [(16, .bool (decide ((i1 : Int) < (((lf_1.take ((IntKind.i64.wrap (xf_2 + 1)).toNat)).drop 0).length : Int))))]) (l := []) (by kernel_rfl) trivial ?_
  refine ge_nil fun a hF => hK5 _ _ ?_ a hF
  refine we_seq fun K6 hK6 => ?_
  by_cases hc3 : (i1 : Int) < (((lf_1.take ((IntKind.i64.wrap (xf_2 + 1)).toNat)).drop 0).length : Int)
  · rw [if_pos hc3] at h
    refine we_known (t := 16) (b := decide ((i1 : Int) < (((lf_1.take ((IntKind.i64.wrap (xf_2 + 1)).toNat)).drop 0).length : Int))) (v := true) (by kernel_rfl) (decide_eq_true hc3) ?_
    refine we_true (by kernel_rfl) ?_
    refine we_skip fun a hF => hK6 _ _ ?_ a hF
    refine we_seq fun K7 hK7 => ?_
    refine we_block ?_
    refine we_seq fun K8 hK8 => ?_
    refine we_region [(0, 0), (1, 0), (2, 1), (3, 2)] rfl ?_
    rcases hx1 : ((lf_1.take ((IntKind.i64.wrap (xf_2 + 1)).toNat)).drop 0)[i1]? with _ | e1
    · rw [hx1] at h; cases h
    rw [hx1] at h
    simp only [] at h
    refine ge_index (d := 17) (ty := 0) (t := 22) (el := 30) (sz := 4) (m := ((lf_1.take ((IntKind.i64.wrap (xf_2 + 1)).toNat)).drop 0).length) (c := (cf_1 - 0)) (x := (.tmp 13)) (y := (.tmp 15)) (A := (subA Af_1 cf_1 0 4)) (k' := .i64) (j := (i1 : Int)) (jn := i1) (b0 := blkOf (subA Af_1 cf_1 0 4)) (o0 := offOf (subA Af_1 cf_1 0 4)) (by kernel_rfl) (by kernel_rfl) (by kernel_rfl) (by kernel_rfl) (by kernel_rfl) ((hS.rd (RdL.part hRf_1 hLf_1 0 ((IntKind.i64.wrap (xf_2 + 1)).toNat))).eqSome (pos_of_get hx1)) rfl (lt_of_get hx1) ?_
    refine ge_batch [1] (ans := [.val (.int .i64 e1.C), .val (.int .i64 e1.T), .val (.int .i64 e1.D), .val (.int .i64 e1.J)]) (vs := [(18, .agg #[.int .i64 e1.C, .int .i64 e1.T, .int .i64 e1.D, .int .i64 e1.J])]) (l := [.loaded ⟨blkOf (subA Af_1 cf_1 0 4), offOf (subA Af_1 cf_1 0 4) + i1 * 4, none⟩ (.int .i64 e1.C), .loaded ⟨blkOf (subA Af_1 cf_1 0 4), offOf (subA Af_1 cf_1 0 4) + i1 * 4 + 1, none⟩ (.int .i64 e1.T), .loaded ⟨blkOf (subA Af_1 cf_1 0 4), offOf (subA Af_1 cf_1 0 4) + i1 * 4 + 2, none⟩ (.int .i64 e1.D), .loaded ⟨blkOf (subA Af_1 cf_1 0 4), offOf (subA Af_1 cf_1 0 4) + i1 * 4 + 3, none⟩ (.int .i64 e1.J)]) (by kernel_rfl) ⟨RdL.cell (j := 0) (hS.rd (RdL.part hRf_1 hLf_1 0 ((IntKind.i64.wrap (xf_2 + 1)).toNat))) hx1 rfl, RdL.cell (j := 1) (hS.rd (RdL.part hRf_1 hLf_1 0 ((IntKind.i64.wrap (xf_2 + 1)).toNat))) hx1 rfl, RdL.cell (j := 2) (hS.rd (RdL.part hRf_1 hLf_1 0 ((IntKind.i64.wrap (xf_2 + 1)).toNat))) hx1 rfl, RdL.cell (j := 3) (hS.rd (RdL.part hRf_1 hLf_1 0 ((IntKind.i64.wrap (xf_2 + 1)).toNat))) hx1 rfl, trivial⟩ ?_
    refine ge_new (d := some 8) (o := .cells #[.int .i64 0, .int .i64 0, .int .i64 0, .int .i64 0] 30) (v := fun b => .pointer (some ⟨b, 0, none⟩)) hS (fun b => by kernel_rfl) fun b1 w1 hx2 hS1 => ?_
    refine ge_set (b := b1) (j := 0) (cs := #[.int .i64 0, .int .i64 0, .int .i64 0, .int .i64 0]) (t := 30) (vs := [.int .i64 e1.C, .int .i64 e1.T, .int .i64 e1.D, .int .i64 e1.J]) hS1 (by kernel_rfl) rfl rfl fun w2 hS2 => ?_
    have hS3 : St w0 w2 [Own.blk b1 (.cells #[.int .i64 e1.C, .int .i64 e1.T, .int .i64 e1.D, .int .i64 e1.J] 30 (0, 0))] := hS2
    refine ge_nil fun a hF => hK8 _ _ ?_ a hF
    refine we_draws (by kernel_rfl) [(0, 0), (1, 0), (2, 0), (3, 0), (4, 0), (5, 0), (6, 0), (8, 0), (9, 0), (7, 1), (10, 0), (11, 0), (12, 0)] (by kernel_rfl) ?_
    have hS4 := hS3.drew
    rcases hq1 : net_ceil.f (IntKind.i64.wrap (x0 + e1.J)) e1.T with _ | r1
    · rw [hq1] at h; cases h
    rw [hq1] at h
    simp only [] at h
    refine ge_batch [0, 1, 2, 3, 4, 5, 6, 8, 9] (ans := [.val (.int .i64 e1.J), .val (.int .i64 e1.T), .val (.int .i64 e1.C)]) (vs := [(28, .int .i64 e1.C), (27, .pointer (some ⟨b1, 0, none⟩)), (25, .int .i64 e1.T), (24, .pointer (some ⟨b1, 1, none⟩)), (23, .int .i64 (IntKind.i64.wrap (x0 + e1.J))), (22, .int .i64 e1.J), (21, .pointer (some ⟨b1, 3, none⟩)), (20, .int .i64 x0), (19, .int .i64 z1)]) (l := [.loaded ⟨b1, 3, none⟩ (.int .i64 e1.J), .loaded ⟨b1, 1, none⟩ (.int .i64 e1.T), .loaded ⟨b1, 0, none⟩ (.int .i64 e1.C)]) (by kernel_rfl) ⟨hS4.cell 0 rfl rfl, hS4.cell 0 rfl rfl, hS4.cell 0 rfl rfl, trivial⟩ ?_
    refine ge_call (d := some 26) (f := 169) (args := #[.int .i64 (IntKind.i64.wrap (x0 + e1.J)), .int .i64 e1.T]) (by kernel_rfl) (net_ceil_ok (IntKind.i64.wrap (x0 + e1.J)) e1.T _ _ hq1) ?_
    rintro _ w3 ⟨rfl, hS5⟩
    refine ⟨_, rfl, hS5.below, ?_⟩
    have hS6 := hS4.call hS5
    refine ge_batch [10, 11, 12] (ans := []) (vs := [(6, .int .i64 (IntKind.i64.wrap (z1 + (IntKind.i64.wrap (r1 * e1.C))))), (30, .int .i64 (IntKind.i64.wrap (z1 + (IntKind.i64.wrap (r1 * e1.C))))), (29, .int .i64 (IntKind.i64.wrap (r1 * e1.C)))]) (l := []) (by kernel_rfl) trivial ?_
    refine ge_nil fun a hF => hK7 _ _ ?_ a hF
    refine we_region [(0, 0), (1, 0)] rfl ?_
    refine ge_addn (d := 31) (ty := 3) (x := (.tmp 15)) (y := (.const (.int .i64 1))) (t := 3) (t2 := 3) (k := .i64) (m := i1) (by kernel_rfl) (by kernel_rfl) (by kernel_rfl) (by have h0 := hRf_1.small; have h1 : ((lf_1.take ((IntKind.i64.wrap (xf_2 + 1)).toNat)).drop 0).length ≤ lf_1.length := (by simp only [List.length_drop, List.length_take]; omega); omega) ?_
    refine ge_batch [1] (ans := []) (vs := [(15, .int .i64 ((i1 + 1 : Nat) : Int))]) (l := []) (by kernel_rfl) trivial ?_
    have hS7 := hS6.takeN 0
    obtain rfl := Option.some.inj h
    exact ge_nil fun a hF => hQ _ _ _ (Outs.again ⟨hS7, hF.weaken ⟨by kernel_rfl, by kernel_rfl, by kernel_rfl, by kernel_rfl, by kernel_rfl, trivial⟩⟩)
  · rw [if_neg hc3] at h
    refine we_known (t := 16) (b := decide ((i1 : Int) < (((lf_1.take ((IntKind.i64.wrap (xf_2 + 1)).toNat)).drop 0).length : Int))) (v := false) (by kernel_rfl) (decide_eq_false hc3) ?_
    refine we_false (by kernel_rfl) ?_
    obtain rfl := Option.some.inj h
    exact we_exit fun a hF => hQ _ _ _ (Outs.out nofun (Exits.here ⟨hS, hF.weaken ⟨by kernel_rfl, trivial⟩⟩))
theorem net_time_1_ok (K : Nat) (x0 : Int) (bf_0 : Nat) (xf_0 : Int) (bf_1 : Nat) (lf_1 : List SFrame) (Af_1 : Option Addr) (cf_1 : Nat) (bf_2 : Nat) (xf_2 : Int) (w0 : World) (hBf_0 : Glob w0 bf_0 [.int .i64 xf_0]) (hRf_1 : RdL w0 Af_1 lf_1) (hLf_1 : lf_1.length ≤ cf_1) (hBf_1 : Glob w0 bf_1 [.slice Af_1 lf_1.length cf_1]) (hBf_2 : Glob w0 bf_2 [.int .i64 xf_2]) (r : Int) (h : net_time_1.f K x0 xf_0 lf_1 xf_2 = some r) :
    Calls Tryd.prog 168 #[.int .i64 x0, .pointer (some ⟨bf_0, 0, none⟩), .pointer (some ⟨bf_1, 0, none⟩), .pointer (some ⟨bf_2, 0, none⟩)] w0 (net_time_1.Post w0 r) := by
  have hS := St.start w0
  unfold net_time_1.f at h
  refine calls_enter (n := 33) (args := [.int .i64 x0, .pointer (some ⟨bf_0, 0, none⟩), .pointer (some ⟨bf_1, 0, none⟩), .pointer (some ⟨bf_2, 0, none⟩)]) (fn := Tryd.f168) rfl rfl rfl rfl ?_
  show WE _ _ _ _ [(0, .int .i64 x0), (1, .pointer (some ⟨bf_0, 0, none⟩)), (2, .pointer (some ⟨bf_1, 0, none⟩)), (3, .pointer (some ⟨bf_2, 0, none⟩))] _
  refine we_seq fun K1 hK1 => ?_
  refine we_region [(0, 0)] rfl ?_
  refine ge_batch [0] (ans := []) (vs := [(5, .int .i64 0)]) (l := []) (by kernel_rfl) trivial ?_
  refine ge_nil fun a hF => hK1 _ _ ?_ a hF
  refine we_seq fun K2 hK2 => ?_
  refine we_region [(0, 0), (1, 0)] rfl ?_
  refine ge_batch [0, 1] (ans := [.val (.int .i64 xf_0)]) (vs := [(6, .int .i64 xf_0), (9, .int .i64 xf_0)]) (l := [.loaded ⟨bf_0, 0, none⟩ (.int .i64 xf_0)]) (by kernel_rfl) ⟨hS.glob hBf_0 rfl, trivial⟩ ?_
  refine ge_nil fun a hF => hK2 _ _ ?_ a hF
  refine we_seq fun K3 hK3 => ?_
  refine we_seq fun K4 hK4 => ?_
  refine we_region [(0, 0), (1, 0), (2, 0), (3, 0), (4, 0), (5, 0)] rfl ?_
  refine ge_batch [0, 1, 2] (ans := [.val (.slice Af_1 lf_1.length cf_1), .val (.int .i64 xf_2)]) (vs := [(12, .int .i64 (IntKind.i64.wrap (xf_2 + 1))), (11, .int .i64 xf_2), (10, .slice Af_1 lf_1.length cf_1)]) (l := [.loaded ⟨bf_1, 0, none⟩ (.slice Af_1 lf_1.length cf_1), .loaded ⟨bf_2, 0, none⟩ (.int .i64 xf_2)]) (by kernel_rfl) ⟨hS.glob hBf_1 rfl, hS.glob hBf_2 rfl, trivial⟩ ?_
  by_cases hc1 : 0 ≤ (IntKind.i64.wrap (xf_2 + 1))
  · rw [if_pos hc1] at h
    by_cases hc2 : ((IntKind.i64.wrap (xf_2 + 1)).toNat) ≤ lf_1.length
    · rw [if_pos hc2] at h
      refine ge_part (d := 13) (ty := 22) (t := 22) (el := 30) (sz := 4) (m := lf_1.length) (c := cf_1) (lo := 0) (hi := ((IntKind.i64.wrap (xf_2 + 1)).toNat)) (x := (.tmp 10)) (xl := none) (xh := some (.tmp 12)) (A := Af_1) (by kernel_rfl) (by kernel_rfl) rfl ⟨.i64, (IntKind.i64.wrap (xf_2 + 1)), by kernel_rfl, (Int.toNat_of_nonneg hc1).symm⟩ (by kernel_rfl) (by kernel_rfl) (by have f0 := hc2; have f1 := hLf_1; omega) (by have f0 := hc2; have f1 := hLf_1; omega) ?_
      refine ge_same (t := 13) (v := .slice (subA Af_1 cf_1 0 4) (((IntKind.i64.wrap (xf_2 + 1)).toNat) - 0) (cf_1 - 0)) (v' := .slice (subA Af_1 cf_1 0 4) (((lf_1.take ((IntKind.i64.wrap (xf_2 + 1)).toNat)).drop 0).length) (cf_1 - 0)) (by kernel_rfl) (by have f0 := hc2; have f1 := hLf_1; rw [show ((IntKind.i64.wrap (xf_2 + 1)).toNat) - 0 = ((lf_1.take ((IntKind.i64.wrap (xf_2 + 1)).toNat)).drop 0).length by simp only [List.length_drop, List.length_take]; omega]) ?_
      refine ge_batch [4, 5] (ans := []) (vs := [(15, .int .i64 0), (14, .int .i64 (((lf_1.take ((IntKind.i64.wrap (xf_2 + 1)).toNat)).drop 0).length : Int))]) (l := []) (by kernel_rfl) trivial ?_
      refine ge_nil fun a hF => hK4 _ _ ?_ a hF
      refine we_block ?_
      rcases hq2 : iter (net_time_1.r0 x0 lf_1 xf_2) K (xf_0, 0) with _ | (z3 | rr1)
      · rw [hq2] at h; cases h
      · rw [hq2] at h
        simp only [] at h
        refine we_iter (A := net_time_1.A0 K w0 x0 bf_0 xf_0 bf_1 lf_1 Af_1 cf_1 bf_2 xf_2 hBf_0 hRf_1 hLf_1 hBf_1 hBf_2 hc1 hc2) (B := net_time_1.B0 K w0 x0 bf_0 xf_0 bf_1 lf_1 Af_1 cf_1 bf_2 xf_2 hBf_0 hRf_1 hLf_1 hBf_1 hBf_2 hc1 hc2) hq2 (fun a hF => ⟨hS, hF.weaken ⟨by kernel_rfl, by kernel_rfl, by kernel_rfl, by kernel_rfl, by kernel_rfl, trivial⟩⟩) (fun s o hf a w hA Q hQ => net_time_1_r0 K w0 x0 bf_0 xf_0 bf_1 lf_1 Af_1 cf_1 bf_2 xf_2 hBf_0 hRf_1 hLf_1 hBf_1 hBf_2 hc1 hc2 s o hf a w hA Q hQ) ?_
        rintro _ a w4 _ ⟨rfl, hS8, hF⟩
        replace hS8 : St w0 w4 [] := hS8
        refine hK3 [(6, .int .i64 z3)] w4 ?_ a hF
        refine we_seq fun K9 hK9 => ?_
        refine we_region [(0, 0), (1, 0)] rfl ?_
        refine ge_batch [0, 1] (ans := []) (vs := [(5, .int .i64 z3), (32, .int .i64 z3)]) (l := []) (by kernel_rfl) trivial ?_
        refine ge_nil fun a hF => hK9 _ _ ?_ a hF
        obtain rfl := Option.some.inj h
        exact we_ret (post_ret (rs := [.tmp 5]) (ans := []) (vs := [.int .i64 z3]) (l := []) rfl (by kernel_rfl) trivial ⟨rfl, hS8⟩)
      · rw [hq2] at h
        simp only [] at h
        refine we_iter (A := net_time_1.A0 K w0 x0 bf_0 xf_0 bf_1 lf_1 Af_1 cf_1 bf_2 xf_2 hBf_0 hRf_1 hLf_1 hBf_1 hBf_2 hc1 hc2) (B := net_time_1.B0 K w0 x0 bf_0 xf_0 bf_1 lf_1 Af_1 cf_1 bf_2 xf_2 hBf_0 hRf_1 hLf_1 hBf_1 hBf_2 hc1 hc2) hq2 (fun a hF => ⟨hS, hF.weaken ⟨by kernel_rfl, by kernel_rfl, by kernel_rfl, by kernel_rfl, by kernel_rfl, trivial⟩⟩) (fun s o hf a w hA Q hQ => net_time_1_r0 K w0 x0 bf_0 xf_0 bf_1 lf_1 Af_1 cf_1 bf_2 xf_2 hBf_0 hRf_1 hLf_1 hBf_1 hBf_2 hc1 hc2 s o hf a w hA Q hQ) ?_
        rintro _ a w1 _ ⟨rfl, hb⟩
        obtain rfl := Option.some.inj h
        exact hb
    · rw [if_neg hc2] at h
      cases h
  · rw [if_neg hc1] at h
    cases h

/-! punctual/net.settle -/
abbrev net_settle.Post (w0 : World) (r : Int) (e : Ending) (w : World) : Prop := e = .returned (.int .i64 r) ∧ St w0 w []
def net_settle.r0 (K : Nat) (x1 : Int) (xg2_0 : Int) (lg2_1 : List SFrame) (xg2_2 : Int) : Int → Option (Int ⊕ (Unit ⊕ Int))
  | z1 =>
    if z1 ≤ x1 then
      match net_time_1.f K z1 xg2_0 lg2_1 xg2_2 with
      | none => none
      | some r1 =>
        if r1 ≤ z1 then
          some (.inr (.inr z1))
        else
          some (.inl r1)
    else
      some (.inr (.inl ()))
def net_settle.f (K : Nat) (x0 : Int) (x1 : Int) (xg2_0 : Int) (lg2_1 : List SFrame) (xg2_2 : Int) : Option Int :=
  match iter (net_settle.r0 K x1 xg2_0 lg2_1 xg2_2) K x0 with
  | none => none
  | some (.inl _) =>
    some (-1)
  | some (.inr rr1) =>
    some rr1
abbrev net_settle.A0 (K : Nat) (w0 : World) (x0 : Int) (x1 : Int) (bg2_0 : Nat) (xg2_0 : Int) (bg2_1 : Nat) (lg2_1 : List SFrame) (Ag2_1 : Option Addr) (cg2_1 : Nat) (bg2_2 : Nat) (xg2_2 : Int) (hBg2_0 : Glob w0 bg2_0 [.int .i64 xg2_0]) (hRg2_1 : RdL w0 Ag2_1 lg2_1) (hLg2_1 : lg2_1.length ≤ cg2_1) (hBg2_1 : Glob w0 bg2_1 [.slice Ag2_1 lg2_1.length cg2_1]) (hBg2_2 : Glob w0 bg2_2 [.int .i64 xg2_2]) : Int → Act → World → Prop := fun (s : Int) a w => St w0 w [] ∧ Frm 21 a [(1, .int .i64 x1), (2, .func (.func 168) #[] #[.pointer (some ⟨bg2_0, 0, none⟩), .pointer (some ⟨bg2_1, 0, none⟩), .pointer (some ⟨bg2_2, 0, none⟩)]), (7, .int .i64 s)]
abbrev net_settle.B0 (K : Nat) (w0 : World) (x0 : Int) (x1 : Int) (bg2_0 : Nat) (xg2_0 : Int) (bg2_1 : Nat) (lg2_1 : List SFrame) (Ag2_1 : Option Addr) (cg2_1 : Nat) (bg2_2 : Nat) (xg2_2 : Int) (hBg2_0 : Glob w0 bg2_0 [.int .i64 xg2_0]) (hRg2_1 : RdL w0 Ag2_1 lg2_1) (hLg2_1 : lg2_1.length ≤ cg2_1) (hBg2_1 : Glob w0 bg2_1 [.slice Ag2_1 lg2_1.length cg2_1]) (hBg2_2 : Glob w0 bg2_2 [.int .i64 xg2_2]) : (Unit ⊕ Int) → Exit → Act → World → Prop := Exits 0 (fun (s : Unit) a w => St w0 w [] ∧ Frm 21 a []) (Rets Tryd.prog Tryd.f167 (net_settle.Post w0))
theorem net_settle_r0 (K : Nat) (w0 : World) (x0 : Int) (x1 : Int) (bg2_0 : Nat) (xg2_0 : Int) (bg2_1 : Nat) (lg2_1 : List SFrame) (Ag2_1 : Option Addr) (cg2_1 : Nat) (bg2_2 : Nat) (xg2_2 : Int) (hBg2_0 : Glob w0 bg2_0 [.int .i64 xg2_0]) (hRg2_1 : RdL w0 Ag2_1 lg2_1) (hLg2_1 : lg2_1.length ≤ cg2_1) (hBg2_1 : Glob w0 bg2_1 [.slice Ag2_1 lg2_1.length cg2_1]) (hBg2_2 : Glob w0 bg2_2 [.int .i64 xg2_2]) (s : Int) (o : Int ⊕ (Unit ⊕ Int)) (h : net_settle.r0 K x1 xg2_0 lg2_1 xg2_2 s = some o) (a : Act) (w : World) (hA : net_settle.A0 K w0 x0 x1 bg2_0 xg2_0 bg2_1 lg2_1 Ag2_1 cg2_1 bg2_2 xg2_2 hBg2_0 hRg2_1 hLg2_1 hBg2_1 hBg2_2 s a w) (Q : Exit → Act → World → Prop) (hQ : ∀ x a w, Outs (net_settle.A0 K w0 x0 x1 bg2_0 xg2_0 bg2_1 lg2_1 Ag2_1 cg2_1 bg2_2 xg2_2 hBg2_0 hRg2_1 hLg2_1 hBg2_1 hBg2_2) (net_settle.B0 K w0 x0 x1 bg2_0 xg2_0 bg2_1 lg2_1 Ag2_1 cg2_1 bg2_2 xg2_2 hBg2_0 hRg2_1 hLg2_1 hBg2_1 hBg2_2) o x a w → Q x a w) : (subF Tryd.f167 [1, 0, 1, 0, 0]).wp Tryd.prog Q a w := by
  obtain ⟨z1, hs⟩ : ∃ z, z = s := ⟨s, rfl⟩
  subst hs
  obtain ⟨hS, hF⟩ := hA
  replace hS : St w0 w [] := hS
  simp only [net_settle.r0] at h
  refine (?_ : WE Tryd.prog 21 (subF Tryd.f167 [1, 0, 1, 0, 0]) Q [(1, .int .i64 x1), (2, .func (.func 168) #[] #[.pointer (some ⟨bg2_0, 0, none⟩), .pointer (some ⟨bg2_1, 0, none⟩), .pointer (some ⟨bg2_2, 0, none⟩)]), (7, .int .i64 z1)] w) a hF
  clear hF a
  refine we_seq fun K4 hK4 => ?_
  refine we_seq fun K5 hK5 => ?_
  refine we_region [(0, 0), (1, 0), (2, 0)] rfl ?_
  refine ge_batch [0, 1, 2] (ans := []) (vs := [(12, .bool (decide (z1 ≤ x1))), (11, .int .i64 x1), (10, .int .i64 z1)]) (l := []) (by kernel_rfl) trivial ?_
  refine ge_nil fun a hF => hK5 _ _ ?_ a hF
  by_cases hc1 : z1 ≤ x1
  · rw [if_pos hc1] at h
    refine we_known (t := 12) (b := decide (z1 ≤ x1)) (v := true) (by kernel_rfl) (decide_eq_true hc1) ?_
    refine we_true (by kernel_rfl) ?_
    refine we_skip fun a hF => hK4 _ _ ?_ a hF
    refine we_block ?_
    refine we_seq fun K6 hK6 => ?_
    refine we_region [(0, 0), (1, 0), (2, 1), (3, 0)] rfl ?_
    rcases hq1 : net_time_1.f K z1 xg2_0 lg2_1 xg2_2 with _ | r1
    · rw [hq1] at h; cases h
    rw [hq1] at h
    simp only [] at h
    refine ge_batch [0, 1] (ans := []) (vs := [(14, .int .i64 z1), (13, .func (.func 168) #[] #[.pointer (some ⟨bg2_0, 0, none⟩), .pointer (some ⟨bg2_1, 0, none⟩), .pointer (some ⟨bg2_2, 0, none⟩)])]) (l := []) (by kernel_rfl) trivial ?_
    refine ge_call (d := some 15) (f := 168) (args := #[.int .i64 z1, .pointer (some ⟨bg2_0, 0, none⟩), .pointer (some ⟨bg2_1, 0, none⟩), .pointer (some ⟨bg2_2, 0, none⟩)]) (by kernel_rfl) (net_time_1_ok K z1 bg2_0 xg2_0 bg2_1 lg2_1 Ag2_1 cg2_1 bg2_2 xg2_2 _ (Glob.ext hBg2_0 hS.below) (hS.rd hRg2_1) hLg2_1 (Glob.ext hBg2_1 hS.below) (Glob.ext hBg2_2 hS.below) _ hq1) ?_
    rintro _ w1 ⟨rfl, hS1⟩
    refine ⟨_, rfl, hS1.below, ?_⟩
    have hS2 := hS.call hS1
    refine ge_batch [3] (ans := []) (vs := [(8, .int .i64 r1)]) (l := []) (by kernel_rfl) trivial ?_
    refine ge_nil fun a hF => hK6 _ _ ?_ a hF
    refine we_seq fun K7 hK7 => ?_
    refine we_seq fun K8 hK8 => ?_
    refine we_region [(0, 0), (1, 0), (2, 0)] rfl ?_
    refine ge_batch [0, 1, 2] (ans := []) (vs := [(18, .bool (decide (r1 ≤ z1))), (17, .int .i64 z1), (16, .int .i64 r1)]) (l := []) (by kernel_rfl) trivial ?_
    refine ge_nil fun a hF => hK8 _ _ ?_ a hF
    by_cases hc2 : r1 ≤ z1
    · rw [if_pos hc2] at h
      refine we_known (t := 18) (b := decide (r1 ≤ z1)) (v := true) (by kernel_rfl) (decide_eq_true hc2) ?_
      refine we_true (by kernel_rfl) ?_
      refine we_seq fun K9 hK9 => ?_
      refine we_region [(0, 0), (1, 0)] rfl ?_
      refine ge_batch [0, 1] (ans := []) (vs := [(6, .int .i64 z1), (19, .int .i64 z1)]) (l := []) (by kernel_rfl) trivial ?_
      refine ge_nil fun a hF => hK9 _ _ ?_ a hF
      obtain rfl := Option.some.inj h
      exact we_ret fun a hF => hQ _ _ _ (Outs.out nofun (Exits.on ⟨rfl, (post_ret (rs := [.tmp 6]) (ans := []) (vs := [.int .i64 z1]) (l := []) rfl (by kernel_rfl) trivial ⟨rfl, hS2⟩) a hF⟩))
    · rw [if_neg hc2] at h
      refine we_known (t := 18) (b := decide (r1 ≤ z1)) (v := false) (by kernel_rfl) (decide_eq_false hc2) ?_
      refine we_false (by kernel_rfl) ?_
      refine we_skip fun a hF => hK7 _ _ ?_ a hF
      refine we_region [(0, 0), (1, 0)] rfl ?_
      refine ge_batch [0, 1] (ans := []) (vs := [(7, .int .i64 r1), (20, .int .i64 r1)]) (l := []) (by kernel_rfl) trivial ?_
      obtain rfl := Option.some.inj h
      exact ge_nil fun a hF => hQ _ _ _ (Outs.again ⟨hS2, hF.weaken ⟨by kernel_rfl, by kernel_rfl, by kernel_rfl, trivial⟩⟩)
  · rw [if_neg hc1] at h
    refine we_known (t := 12) (b := decide (z1 ≤ x1)) (v := false) (by kernel_rfl) (decide_eq_false hc1) ?_
    refine we_false (by kernel_rfl) ?_
    obtain rfl := Option.some.inj h
    exact we_exit fun a hF => hQ _ _ _ (Outs.out nofun (Exits.here ⟨hS, hF.weaken trivial⟩))
theorem net_settle_ok (K : Nat) (x0 : Int) (x1 : Int) (bg2_0 : Nat) (xg2_0 : Int) (bg2_1 : Nat) (lg2_1 : List SFrame) (Ag2_1 : Option Addr) (cg2_1 : Nat) (bg2_2 : Nat) (xg2_2 : Int) (w0 : World) (hBg2_0 : Glob w0 bg2_0 [.int .i64 xg2_0]) (hRg2_1 : RdL w0 Ag2_1 lg2_1) (hLg2_1 : lg2_1.length ≤ cg2_1) (hBg2_1 : Glob w0 bg2_1 [.slice Ag2_1 lg2_1.length cg2_1]) (hBg2_2 : Glob w0 bg2_2 [.int .i64 xg2_2]) (r : Int) (h : net_settle.f K x0 x1 xg2_0 lg2_1 xg2_2 = some r) :
    Calls Tryd.prog 167 #[.int .i64 x0, .int .i64 x1, .func (.func 168) #[] #[.pointer (some ⟨bg2_0, 0, none⟩), .pointer (some ⟨bg2_1, 0, none⟩), .pointer (some ⟨bg2_2, 0, none⟩)]] w0 (net_settle.Post w0 r) := by
  have hS := St.start w0
  unfold net_settle.f at h
  refine calls_enter (n := 21) (args := [.int .i64 x0, .int .i64 x1, .func (.func 168) #[] #[.pointer (some ⟨bg2_0, 0, none⟩), .pointer (some ⟨bg2_1, 0, none⟩), .pointer (some ⟨bg2_2, 0, none⟩)]]) (fn := Tryd.f167) rfl rfl rfl rfl ?_
  show WE _ _ _ _ [(0, .int .i64 x0), (1, .int .i64 x1), (2, .func (.func 168) #[] #[.pointer (some ⟨bg2_0, 0, none⟩), .pointer (some ⟨bg2_1, 0, none⟩), .pointer (some ⟨bg2_2, 0, none⟩)])] _
  refine we_seq fun K1 hK1 => ?_
  refine we_region [(0, 0)] rfl ?_
  refine ge_batch [0] (ans := []) (vs := [(6, .int .i64 0)]) (l := []) (by kernel_rfl) trivial ?_
  refine ge_nil fun a hF => hK1 _ _ ?_ a hF
  refine we_seq fun K2 hK2 => ?_
  refine we_seq fun K3 hK3 => ?_
  refine we_region [(0, 0), (1, 0)] rfl ?_
  refine ge_batch [0, 1] (ans := []) (vs := [(7, .int .i64 x0), (9, .int .i64 x0)]) (l := []) (by kernel_rfl) trivial ?_
  refine ge_nil fun a hF => hK3 _ _ ?_ a hF
  refine we_block ?_
  rcases hq2 : iter (net_settle.r0 K x1 xg2_0 lg2_1 xg2_2) K x0 with _ | (_ | rr1)
  · rw [hq2] at h; cases h
  · rw [hq2] at h
    simp only [] at h
    refine we_iter (A := net_settle.A0 K w0 x0 x1 bg2_0 xg2_0 bg2_1 lg2_1 Ag2_1 cg2_1 bg2_2 xg2_2 hBg2_0 hRg2_1 hLg2_1 hBg2_1 hBg2_2) (B := net_settle.B0 K w0 x0 x1 bg2_0 xg2_0 bg2_1 lg2_1 Ag2_1 cg2_1 bg2_2 xg2_2 hBg2_0 hRg2_1 hLg2_1 hBg2_1 hBg2_2) hq2 (fun a hF => ⟨hS, hF.weaken ⟨by kernel_rfl, by kernel_rfl, by kernel_rfl, trivial⟩⟩) (fun s o hf a w hA Q hQ => net_settle_r0 K w0 x0 x1 bg2_0 xg2_0 bg2_1 lg2_1 Ag2_1 cg2_1 bg2_2 xg2_2 hBg2_0 hRg2_1 hLg2_1 hBg2_1 hBg2_2 s o hf a w hA Q hQ) ?_
    rintro _ a w2 _ ⟨rfl, hS3, hF⟩
    replace hS3 : St w0 w2 [] := hS3
    refine hK2 [] w2 ?_ a hF
    refine we_seq fun K10 hK10 => ?_
    refine we_region [(0, 0)] rfl ?_
    refine ge_batch [0] (ans := []) (vs := [(6, .int .i64 (-1))]) (l := []) (by kernel_rfl) trivial ?_
    refine ge_nil fun a hF => hK10 _ _ ?_ a hF
    obtain rfl := Option.some.inj h
    exact we_ret (post_ret (rs := [.tmp 6]) (ans := []) (vs := [.int .i64 (-1)]) (l := []) rfl (by kernel_rfl) trivial ⟨rfl, hS3⟩)
  · rw [hq2] at h
    simp only [] at h
    refine we_iter (A := net_settle.A0 K w0 x0 x1 bg2_0 xg2_0 bg2_1 lg2_1 Ag2_1 cg2_1 bg2_2 xg2_2 hBg2_0 hRg2_1 hLg2_1 hBg2_1 hBg2_2) (B := net_settle.B0 K w0 x0 x1 bg2_0 xg2_0 bg2_1 lg2_1 Ag2_1 cg2_1 bg2_2 xg2_2 hBg2_0 hRg2_1 hLg2_1 hBg2_1 hBg2_2) hq2 (fun a hF => ⟨hS, hF.weaken ⟨by kernel_rfl, by kernel_rfl, by kernel_rfl, trivial⟩⟩) (fun s o hf a w hA Q hQ => net_settle_r0 K w0 x0 x1 bg2_0 xg2_0 bg2_1 lg2_1 Ag2_1 cg2_1 bg2_2 xg2_2 hBg2_0 hRg2_1 hLg2_1 hBg2_1 hBg2_2 s o hf a w hA Q hQ) ?_
    rintro _ a w1 _ ⟨rfl, hb⟩
    obtain rfl := Option.some.inj h
    exact hb

/-! punctual/net.time$2 -/
abbrev net_time_2.Post (w0 : World) (r : Int) (e : Ending) (w : World) : Prop := e = .returned (.int .i64 r) ∧ St w0 w []
def net_time_2.r0 (x0 : Int) (lf_3 : List SFrame) (xf_4 : Int) : Int × Nat → Option ((Int × Nat) ⊕ (Int ⊕ Int))
  | (z1, i1) =>
    if (i1 : Int) < (((lf_3.take ((xf_4).toNat)).drop 0).length : Int) then
      match ((lf_3.take ((xf_4).toNat)).drop 0)[i1]? with
      | none => none
      | some e1 =>
        if e1.T = 0 then
          none
        else
          some (.inl (IntKind.i64.wrap (z1 + (IntKind.i64.wrap ((IntKind.i64.wrap ((IntKind.i64.wrap (Int.tdiv (IntKind.i64.wrap (x0 + e1.J)) e1.T)) + 1)) * e1.C))), (i1 + 1)))
    else
      some (.inr (.inl z1))
def net_time_2.f (K : Nat) (x0 : Int) (xf_0 : Int) (xf_1 : Int) (xf_2 : SFrame) (lf_3 : List SFrame) (xf_4 : Int) : Option Int :=
  if 0 ≤ xf_4 then
    if ((xf_4).toNat) ≤ lf_3.length then
      match iter (net_time_2.r0 x0 lf_3 xf_4) K (IntKind.i64.wrap (xf_0 + (IntKind.i64.wrap (xf_1 * xf_2.C))), 0) with
      | none => none
      | some (.inl z3) =>
        some z3
      | some (.inr rr1) =>
        some rr1
    else
      none
  else
    none
abbrev net_time_2.A0 (K : Nat) (w0 : World) (x0 : Int) (bf_0 : Nat) (xf_0 : Int) (bf_1 : Nat) (xf_1 : Int) (bf_2 : Nat) (xf_2 : SFrame) (bf_3 : Nat) (lf_3 : List SFrame) (Af_3 : Option Addr) (cf_3 : Nat) (bf_4 : Nat) (xf_4 : Int) (hBf_0 : Glob w0 bf_0 [.int .i64 xf_0]) (hBf_1 : Glob w0 bf_1 [.int .i64 xf_1]) (hBf_2 : Glob w0 bf_2 [.int .i64 xf_2.C, .int .i64 xf_2.T, .int .i64 xf_2.D, .int .i64 xf_2.J]) (hRf_3 : RdL w0 Af_3 lf_3) (hLf_3 : lf_3.length ≤ cf_3) (hBf_3 : Glob w0 bf_3 [.slice Af_3 lf_3.length cf_3]) (hBf_4 : Glob w0 bf_4 [.int .i64 xf_4]) (hc1 : 0 ≤ xf_4) (hc2 : ((xf_4).toNat) ≤ lf_3.length) : (Int × Nat) → Act → World → Prop := fun (s : Int × Nat) a w => St w0 w [] ∧ Frm 40 a [(0, .int .i64 x0), (8, .int .i64 s.1), (19, .slice (subA Af_3 cf_3 0 4) (((lf_3.take ((xf_4).toNat)).drop 0).length) (cf_3 - 0)), (20, .int .i64 (((lf_3.take ((xf_4).toNat)).drop 0).length : Int)), (21, .int .i64 (s.2 : Int))]
abbrev net_time_2.B0 (K : Nat) (w0 : World) (x0 : Int) (bf_0 : Nat) (xf_0 : Int) (bf_1 : Nat) (xf_1 : Int) (bf_2 : Nat) (xf_2 : SFrame) (bf_3 : Nat) (lf_3 : List SFrame) (Af_3 : Option Addr) (cf_3 : Nat) (bf_4 : Nat) (xf_4 : Int) (hBf_0 : Glob w0 bf_0 [.int .i64 xf_0]) (hBf_1 : Glob w0 bf_1 [.int .i64 xf_1]) (hBf_2 : Glob w0 bf_2 [.int .i64 xf_2.C, .int .i64 xf_2.T, .int .i64 xf_2.D, .int .i64 xf_2.J]) (hRf_3 : RdL w0 Af_3 lf_3) (hLf_3 : lf_3.length ≤ cf_3) (hBf_3 : Glob w0 bf_3 [.slice Af_3 lf_3.length cf_3]) (hBf_4 : Glob w0 bf_4 [.int .i64 xf_4]) (hc1 : 0 ≤ xf_4) (hc2 : ((xf_4).toNat) ≤ lf_3.length) : (Int ⊕ Int) → Exit → Act → World → Prop := Exits 0 (fun (s : Int) a w => St w0 w [] ∧ Frm 40 a [(8, .int .i64 s)]) (Rets Tryd.prog Tryd.f170 (net_time_2.Post w0))
theorem net_time_2_r0 (K : Nat) (w0 : World) (x0 : Int) (bf_0 : Nat) (xf_0 : Int) (bf_1 : Nat) (xf_1 : Int) (bf_2 : Nat) (xf_2 : SFrame) (bf_3 : Nat) (lf_3 : List SFrame) (Af_3 : Option Addr) (cf_3 : Nat) (bf_4 : Nat) (xf_4 : Int) (hBf_0 : Glob w0 bf_0 [.int .i64 xf_0]) (hBf_1 : Glob w0 bf_1 [.int .i64 xf_1]) (hBf_2 : Glob w0 bf_2 [.int .i64 xf_2.C, .int .i64 xf_2.T, .int .i64 xf_2.D, .int .i64 xf_2.J]) (hRf_3 : RdL w0 Af_3 lf_3) (hLf_3 : lf_3.length ≤ cf_3) (hBf_3 : Glob w0 bf_3 [.slice Af_3 lf_3.length cf_3]) (hBf_4 : Glob w0 bf_4 [.int .i64 xf_4]) (hc1 : 0 ≤ xf_4) (hc2 : ((xf_4).toNat) ≤ lf_3.length) (s : Int × Nat) (o : (Int × Nat) ⊕ (Int ⊕ Int)) (h : net_time_2.r0 x0 lf_3 xf_4 s = some o) (a : Act) (w : World) (hA : net_time_2.A0 K w0 x0 bf_0 xf_0 bf_1 xf_1 bf_2 xf_2 bf_3 lf_3 Af_3 cf_3 bf_4 xf_4 hBf_0 hBf_1 hBf_2 hRf_3 hLf_3 hBf_3 hBf_4 hc1 hc2 s a w) (Q : Exit → Act → World → Prop) (hQ : ∀ x a w, Outs (net_time_2.A0 K w0 x0 bf_0 xf_0 bf_1 xf_1 bf_2 xf_2 bf_3 lf_3 Af_3 cf_3 bf_4 xf_4 hBf_0 hBf_1 hBf_2 hRf_3 hLf_3 hBf_3 hBf_4 hc1 hc2) (net_time_2.B0 K w0 x0 bf_0 xf_0 bf_1 xf_1 bf_2 xf_2 bf_3 lf_3 Af_3 cf_3 bf_4 xf_4 hBf_0 hBf_1 hBf_2 hRf_3 hLf_3 hBf_3 hBf_4 hc1 hc2) o x a w → Q x a w) : (subF Tryd.f170 [1, 1, 0, 1, 0, 0]).wp Tryd.prog Q a w := by
  obtain ⟨z1, i1⟩ := s
  obtain ⟨hS, hF⟩ := hA
  replace hS : St w0 w [] := hS
  simp only [net_time_2.r0] at h
  refine (?_ : WE Tryd.prog 40 (subF Tryd.f170 [1, 1, 0, 1, 0, 0]) Q [(0, .int .i64 x0), (8, .int .i64 z1), (19, .slice (subA Af_3 cf_3 0 4) (((lf_3.take ((xf_4).toNat)).drop 0).length) (cf_3 - 0)), (20, .int .i64 (((lf_3.take ((xf_4).toNat)).drop 0).length : Int)), (21, .int .i64 (i1 : Int))] w) a hF
  clear hF a
  refine we_seq fun K5 hK5 => ?_
  refine we_region [(0, 0)] rfl ?_
  refine ge_batch [0] (ans := []) (vs := [(22, .bool (decide ((i1 : Int) < (((lf_3.take ((xf_4).toNat)).drop 0).length : Int))))]) (l := []) (by kernel_rfl) trivial ?_
  refine ge_nil fun a hF => hK5 _ _ ?_ a hF
  refine we_seq fun K6 hK6 => ?_
  by_cases hc3 : (i1 : Int) < (((lf_3.take ((xf_4).toNat)).drop 0).length : Int)
  · rw [if_pos hc3] at h
    refine we_known (t := 22) (b := decide ((i1 : Int) < (((lf_3.take ((xf_4).toNat)).drop 0).length : Int))) (v := true) (by kernel_rfl) (decide_eq_true hc3) ?_
    refine we_true (by kernel_rfl) ?_
    refine we_skip fun a hF => hK6 _ _ ?_ a hF
    refine we_seq fun K7 hK7 => ?_
    refine we_block ?_
    refine we_seq fun K8 hK8 => ?_
    refine we_region [(0, 0), (1, 0), (2, 1), (3, 2)] rfl ?_
    rcases hx1 : ((lf_3.take ((xf_4).toNat)).drop 0)[i1]? with _ | e1
    · rw [hx1] at h; cases h
    rw [hx1] at h
    simp only [] at h
    refine ge_index (d := 23) (ty := 0) (t := 22) (el := 30) (sz := 4) (m := ((lf_3.take ((xf_4).toNat)).drop 0).length) (c := (cf_3 - 0)) (x := (.tmp 19)) (y := (.tmp 21)) (A := (subA Af_3 cf_3 0 4)) (k' := .i64) (j := (i1 : Int)) (jn := i1) (b0 := blkOf (subA Af_3 cf_3 0 4)) (o0 := offOf (subA Af_3 cf_3 0 4)) (by kernel_rfl) (by kernel_rfl) (by kernel_rfl) (by kernel_rfl) (by kernel_rfl) ((hS.rd (RdL.part hRf_3 hLf_3 0 ((xf_4).toNat))).eqSome (pos_of_get hx1)) rfl (lt_of_get hx1) ?_
    refine ge_batch [1] (ans := [.val (.int .i64 e1.C), .val (.int .i64 e1.T), .val (.int .i64 e1.D), .val (.int .i64 e1.J)]) (vs := [(24, .agg #[.int .i64 e1.C, .int .i64 e1.T, .int .i64 e1.D, .int .i64 e1.J])]) (l := [.loaded ⟨blkOf (subA Af_3 cf_3 0 4), offOf (subA Af_3 cf_3 0 4) + i1 * 4, none⟩ (.int .i64 e1.C), .loaded ⟨blkOf (subA Af_3 cf_3 0 4), offOf (subA Af_3 cf_3 0 4) + i1 * 4 + 1, none⟩ (.int .i64 e1.T), .loaded ⟨blkOf (subA Af_3 cf_3 0 4), offOf (subA Af_3 cf_3 0 4) + i1 * 4 + 2, none⟩ (.int .i64 e1.D), .loaded ⟨blkOf (subA Af_3 cf_3 0 4), offOf (subA Af_3 cf_3 0 4) + i1 * 4 + 3, none⟩ (.int .i64 e1.J)]) (by kernel_rfl) ⟨RdL.cell (j := 0) (hS.rd (RdL.part hRf_3 hLf_3 0 ((xf_4).toNat))) hx1 rfl, RdL.cell (j := 1) (hS.rd (RdL.part hRf_3 hLf_3 0 ((xf_4).toNat))) hx1 rfl, RdL.cell (j := 2) (hS.rd (RdL.part hRf_3 hLf_3 0 ((xf_4).toNat))) hx1 rfl, RdL.cell (j := 3) (hS.rd (RdL.part hRf_3 hLf_3 0 ((xf_4).toNat))) hx1 rfl, trivial⟩ ?_
    refine ge_new (d := some 10) (o := .cells #[.int .i64 0, .int .i64 0, .int .i64 0, .int .i64 0] 30) (v := fun b => .pointer (some ⟨b, 0, none⟩)) hS (fun b => by kernel_rfl) fun b1 w1 hx2 hS1 => ?_
    refine ge_set (b := b1) (j := 0) (cs := #[.int .i64 0, .int .i64 0, .int .i64 0, .int .i64 0]) (t := 30) (vs := [.int .i64 e1.C, .int .i64 e1.T, .int .i64 e1.D, .int .i64 e1.J]) hS1 (by kernel_rfl) rfl rfl fun w2 hS2 => ?_
    have hS3 : St w0 w2 [Own.blk b1 (.cells #[.int .i64 e1.C, .int .i64 e1.T, .int .i64 e1.D, .int .i64 e1.J] 30 (0, 0))] := hS2
    refine ge_nil fun a hF => hK8 _ _ ?_ a hF
    refine we_draws (by kernel_rfl) [(0, 0), (1, 0), (2, 0), (3, 0), (4, 0), (5, 0), (6, 0), (7, 0), (8, 0), (9, 0), (10, 0), (11, 0), (12, 0), (13, 0)] (by kernel_rfl) ?_
    have hS4 := hS3.drew
    refine ge_batch [0, 1, 2, 3, 4, 5, 6] (ans := [.val (.int .i64 e1.J), .val (.int .i64 e1.T)]) (vs := [(31, .int .i64 e1.T), (30, .pointer (some ⟨b1, 1, none⟩)), (29, .int .i64 (IntKind.i64.wrap (x0 + e1.J))), (28, .int .i64 e1.J), (27, .pointer (some ⟨b1, 3, none⟩)), (26, .int .i64 x0), (25, .int .i64 z1)]) (l := [.loaded ⟨b1, 3, none⟩ (.int .i64 e1.J), .loaded ⟨b1, 1, none⟩ (.int .i64 e1.T)]) (by kernel_rfl) ⟨hS4.cell 0 rfl rfl, hS4.cell 0 rfl rfl, trivial⟩ ?_
    by_cases hc4 : e1.T = 0
    · rw [if_pos hc4] at h
      cases h
    · rw [if_neg hc4] at h
      refine ge_div (d := 32) (ty := 3) (op := .quo) (x := (.tmp 29)) (y := (.tmp 31)) (t := 3) (t2 := 3) (k := .i64) (p := (IntKind.i64.wrap (x0 + e1.J))) (q := e1.T) (v := .int .i64 (IntKind.i64.wrap (Int.tdiv (IntKind.i64.wrap (x0 + e1.J)) e1.T))) (by kernel_rfl) (by kernel_rfl) (by kernel_rfl) hc4 rfl ?_
      refine ge_batch [8, 9, 10, 11, 12, 13] (ans := [.val (.int .i64 e1.C)]) (vs := [(8, .int .i64 (IntKind.i64.wrap (z1 + (IntKind.i64.wrap ((IntKind.i64.wrap ((IntKind.i64.wrap (Int.tdiv (IntKind.i64.wrap (x0 + e1.J)) e1.T)) + 1)) * e1.C))))), (37, .int .i64 (IntKind.i64.wrap (z1 + (IntKind.i64.wrap ((IntKind.i64.wrap ((IntKind.i64.wrap (Int.tdiv (IntKind.i64.wrap (x0 + e1.J)) e1.T)) + 1)) * e1.C))))), (36, .int .i64 (IntKind.i64.wrap ((IntKind.i64.wrap ((IntKind.i64.wrap (Int.tdiv (IntKind.i64.wrap (x0 + e1.J)) e1.T)) + 1)) * e1.C))), (35, .int .i64 e1.C), (34, .pointer (some ⟨b1, 0, none⟩)), (33, .int .i64 (IntKind.i64.wrap ((IntKind.i64.wrap (Int.tdiv (IntKind.i64.wrap (x0 + e1.J)) e1.T)) + 1)))]) (l := [.loaded ⟨b1, 0, none⟩ (.int .i64 e1.C)]) (by kernel_rfl) ⟨hS4.cell 0 rfl rfl, trivial⟩ ?_
      refine ge_nil fun a hF => hK7 _ _ ?_ a hF
      refine we_region [(0, 0), (1, 0)] rfl ?_
      refine ge_addn (d := 38) (ty := 3) (x := (.tmp 21)) (y := (.const (.int .i64 1))) (t := 3) (t2 := 3) (k := .i64) (m := i1) (by kernel_rfl) (by kernel_rfl) (by kernel_rfl) (by have h0 := hRf_3.small; have h1 : ((lf_3.take ((xf_4).toNat)).drop 0).length ≤ lf_3.length := (by simp only [List.length_drop, List.length_take]; omega); omega) ?_
      refine ge_batch [1] (ans := []) (vs := [(21, .int .i64 ((i1 + 1 : Nat) : Int))]) (l := []) (by kernel_rfl) trivial ?_
      have hS5 := hS4.takeN 0
      obtain rfl := Option.some.inj h
      exact ge_nil fun a hF => hQ _ _ _ (Outs.again ⟨hS5, hF.weaken ⟨by kernel_rfl, by kernel_rfl, by kernel_rfl, by kernel_rfl, by kernel_rfl, trivial⟩⟩)
  · rw [if_neg hc3] at h
    refine we_known (t := 22) (b := decide ((i1 : Int) < (((lf_3.take ((xf_4).toNat)).drop 0).length : Int))) (v := false) (by kernel_rfl) (decide_eq_false hc3) ?_
    refine we_false (by kernel_rfl) ?_
    obtain rfl := Option.some.inj h
    exact we_exit fun a hF => hQ _ _ _ (Outs.out nofun (Exits.here ⟨hS, hF.weaken ⟨by kernel_rfl, trivial⟩⟩))
theorem net_time_2_ok (K : Nat) (x0 : Int) (bf_0 : Nat) (xf_0 : Int) (bf_1 : Nat) (xf_1 : Int) (bf_2 : Nat) (xf_2 : SFrame) (bf_3 : Nat) (lf_3 : List SFrame) (Af_3 : Option Addr) (cf_3 : Nat) (bf_4 : Nat) (xf_4 : Int) (w0 : World) (hBf_0 : Glob w0 bf_0 [.int .i64 xf_0]) (hBf_1 : Glob w0 bf_1 [.int .i64 xf_1]) (hBf_2 : Glob w0 bf_2 [.int .i64 xf_2.C, .int .i64 xf_2.T, .int .i64 xf_2.D, .int .i64 xf_2.J]) (hRf_3 : RdL w0 Af_3 lf_3) (hLf_3 : lf_3.length ≤ cf_3) (hBf_3 : Glob w0 bf_3 [.slice Af_3 lf_3.length cf_3]) (hBf_4 : Glob w0 bf_4 [.int .i64 xf_4]) (r : Int) (h : net_time_2.f K x0 xf_0 xf_1 xf_2 lf_3 xf_4 = some r) :
    Calls Tryd.prog 170 #[.int .i64 x0, .pointer (some ⟨bf_0, 0, none⟩), .pointer (some ⟨bf_1, 0, none⟩), .pointer (some ⟨bf_2, 0, none⟩), .pointer (some ⟨bf_3, 0, none⟩), .pointer (some ⟨bf_4, 0, none⟩)] w0 (net_time_2.Post w0 r) := by
  have hS := St.start w0
  unfold net_time_2.f at h
  refine calls_enter (n := 40) (args := [.int .i64 x0, .pointer (some ⟨bf_0, 0, none⟩), .pointer (some ⟨bf_1, 0, none⟩), .pointer (some ⟨bf_2, 0, none⟩), .pointer (some ⟨bf_3, 0, none⟩), .pointer (some ⟨bf_4, 0, none⟩)]) (fn := Tryd.f170) rfl rfl rfl rfl ?_
  show WE _ _ _ _ [(0, .int .i64 x0), (1, .pointer (some ⟨bf_0, 0, none⟩)), (2, .pointer (some ⟨bf_1, 0, none⟩)), (3, .pointer (some ⟨bf_2, 0, none⟩)), (4, .pointer (some ⟨bf_3, 0, none⟩)), (5, .pointer (some ⟨bf_4, 0, none⟩))] _
  refine we_seq fun K1 hK1 => ?_
  refine we_region [(0, 0)] rfl ?_
  refine ge_batch [0] (ans := []) (vs := [(7, .int .i64 0)]) (l := []) (by kernel_rfl) trivial ?_
  refine ge_nil fun a hF => hK1 _ _ ?_ a hF
  refine we_seq fun K2 hK2 => ?_
  refine we_region [(0, 0), (1, 0), (2, 0), (3, 0), (4, 0), (5, 0), (6, 0)] rfl ?_
  refine ge_batch [0, 1, 2, 3, 4, 5, 6] (ans := [.val (.int .i64 xf_0), .val (.int .i64 xf_1), .val (.int .i64 xf_2.C)]) (vs := [(8, .int .i64 (IntKind.i64.wrap (xf_0 + (IntKind.i64.wrap (xf_1 * xf_2.C))))), (16, .int .i64 (IntKind.i64.wrap (xf_0 + (IntKind.i64.wrap (xf_1 * xf_2.C))))), (15, .int .i64 (IntKind.i64.wrap (xf_1 * xf_2.C))), (14, .int .i64 xf_2.C), (13, .pointer (some ⟨bf_2, 0, none⟩)), (12, .int .i64 xf_1), (11, .int .i64 xf_0)]) (l := [.loaded ⟨bf_0, 0, none⟩ (.int .i64 xf_0), .loaded ⟨bf_1, 0, none⟩ (.int .i64 xf_1), .loaded ⟨bf_2, 0, none⟩ (.int .i64 xf_2.C)]) (by kernel_rfl) ⟨hS.glob hBf_0 rfl, hS.glob hBf_1 rfl, hS.glob hBf_2 rfl, trivial⟩ ?_
  refine ge_nil fun a hF => hK2 _ _ ?_ a hF
  refine we_seq fun K3 hK3 => ?_
  refine we_seq fun K4 hK4 => ?_
  refine we_region [(0, 0), (1, 0), (2, 0), (3, 0), (4, 0)] rfl ?_
  refine ge_batch [0, 1] (ans := [.val (.slice Af_3 lf_3.length cf_3), .val (.int .i64 xf_4)]) (vs := [(18, .int .i64 xf_4), (17, .slice Af_3 lf_3.length cf_3)]) (l := [.loaded ⟨bf_3, 0, none⟩ (.slice Af_3 lf_3.length cf_3), .loaded ⟨bf_4, 0, none⟩ (.int .i64 xf_4)]) (by kernel_rfl) ⟨hS.glob hBf_3 rfl, hS.glob hBf_4 rfl, trivial⟩ ?_
  by_cases hc1 : 0 ≤ xf_4
  · rw [if_pos hc1] at h
    by_cases hc2 : ((xf_4).toNat) ≤ lf_3.length
    · rw [if_pos hc2] at h
      refine ge_part (d := 19) (ty := 22) (t := 22) (el := 30) (sz := 4) (m := lf_3.length) (c := cf_3) (lo := 0) (hi := ((xf_4).toNat)) (x := (.tmp 17)) (xl := none) (xh := some (.tmp 18)) (A := Af_3) (by kernel_rfl) (by kernel_rfl) rfl ⟨.i64, xf_4, by kernel_rfl, (Int.toNat_of_nonneg hc1).symm⟩ (by kernel_rfl) (by kernel_rfl) (by have f0 := hc2; have f1 := hLf_3; omega) (by have f0 := hc2; have f1 := hLf_3; omega) ?_
      refine ge_same (t := 19) (v := .slice (subA Af_3 cf_3 0 4) (((xf_4).toNat) - 0) (cf_3 - 0)) (v' := .slice (subA Af_3 cf_3 0 4) (((lf_3.take ((xf_4).toNat)).drop 0).length) (cf_3 - 0)) (by kernel_rfl) (by have f0 := hc2; have f1 := hLf_3; rw [show ((xf_4).toNat) - 0 = ((lf_3.take ((xf_4).toNat)).drop 0).length by simp only [List.length_drop, List.length_take]; omega]) ?_
      refine ge_batch [3, 4] (ans := []) (vs := [(21, .int .i64 0), (20, .int .i64 (((lf_3.take ((xf_4).toNat)).drop 0).length : Int))]) (l := []) (by kernel_rfl) trivial ?_
      refine ge_nil fun a hF => hK4 _ _ ?_ a hF
      refine we_block ?_
      rcases hq1 : iter (net_time_2.r0 x0 lf_3 xf_4) K (IntKind.i64.wrap (xf_0 + (IntKind.i64.wrap (xf_1 * xf_2.C))), 0) with _ | (z3 | rr1)
      · rw [hq1] at h; cases h
      · rw [hq1] at h
        simp only [] at h
        refine we_iter (A := net_time_2.A0 K w0 x0 bf_0 xf_0 bf_1 xf_1 bf_2 xf_2 bf_3 lf_3 Af_3 cf_3 bf_4 xf_4 hBf_0 hBf_1 hBf_2 hRf_3 hLf_3 hBf_3 hBf_4 hc1 hc2) (B := net_time_2.B0 K w0 x0 bf_0 xf_0 bf_1 xf_1 bf_2 xf_2 bf_3 lf_3 Af_3 cf_3 bf_4 xf_4 hBf_0 hBf_1 hBf_2 hRf_3 hLf_3 hBf_3 hBf_4 hc1 hc2) hq1 (fun a hF => ⟨hS, hF.weaken ⟨by kernel_rfl, by kernel_rfl, by kernel_rfl, by kernel_rfl, by kernel_rfl, trivial⟩⟩) (fun s o hf a w hA Q hQ => net_time_2_r0 K w0 x0 bf_0 xf_0 bf_1 xf_1 bf_2 xf_2 bf_3 lf_3 Af_3 cf_3 bf_4 xf_4 hBf_0 hBf_1 hBf_2 hRf_3 hLf_3 hBf_3 hBf_4 hc1 hc2 s o hf a w hA Q hQ) ?_
        rintro _ a w3 _ ⟨rfl, hS6, hF⟩
        replace hS6 : St w0 w3 [] := hS6
        refine hK3 [(8, .int .i64 z3)] w3 ?_ a hF
        refine we_seq fun K9 hK9 => ?_
        refine we_region [(0, 0), (1, 0)] rfl ?_
        refine ge_batch [0, 1] (ans := []) (vs := [(7, .int .i64 z3), (39, .int .i64 z3)]) (l := []) (by kernel_rfl) trivial ?_
        refine ge_nil fun a hF => hK9 _ _ ?_ a hF
        obtain rfl := Option.some.inj h
        exact we_ret (post_ret (rs := [.tmp 7]) (ans := []) (vs := [.int .i64 z3]) (l := []) rfl (by kernel_rfl) trivial ⟨rfl, hS6⟩)
      · rw [hq1] at h
        simp only [] at h
        refine we_iter (A := net_time_2.A0 K w0 x0 bf_0 xf_0 bf_1 xf_1 bf_2 xf_2 bf_3 lf_3 Af_3 cf_3 bf_4 xf_4 hBf_0 hBf_1 hBf_2 hRf_3 hLf_3 hBf_3 hBf_4 hc1 hc2) (B := net_time_2.B0 K w0 x0 bf_0 xf_0 bf_1 xf_1 bf_2 xf_2 bf_3 lf_3 Af_3 cf_3 bf_4 xf_4 hBf_0 hBf_1 hBf_2 hRf_3 hLf_3 hBf_3 hBf_4 hc1 hc2) hq1 (fun a hF => ⟨hS, hF.weaken ⟨by kernel_rfl, by kernel_rfl, by kernel_rfl, by kernel_rfl, by kernel_rfl, trivial⟩⟩) (fun s o hf a w hA Q hQ => net_time_2_r0 K w0 x0 bf_0 xf_0 bf_1 xf_1 bf_2 xf_2 bf_3 lf_3 Af_3 cf_3 bf_4 xf_4 hBf_0 hBf_1 hBf_2 hRf_3 hLf_3 hBf_3 hBf_4 hc1 hc2 s o hf a w hA Q hQ) ?_
        rintro _ a w1 _ ⟨rfl, hb⟩
        obtain rfl := Option.some.inj h
        exact hb
    · rw [if_neg hc2] at h
      cases h
  · rw [if_neg hc1] at h
    cases h

/-! punctual/net.settle -/
abbrev net_settle_1.Post (w0 : World) (r : Int) (e : Ending) (w : World) : Prop := e = .returned (.int .i64 r) ∧ St w0 w []
def net_settle_1.r0 (K : Nat) (x1 : Int) (xg2_0 : Int) (xg2_1 : Int) (xg2_2 : SFrame) (lg2_3 : List SFrame) (xg2_4 : Int) : Int → Option (Int ⊕ (Unit ⊕ Int))
  | z1 =>
    if z1 ≤ x1 then
      match net_time_2.f K z1 xg2_0 xg2_1 xg2_2 lg2_3 xg2_4 with
      | none => none
      | some r1 =>
        if r1 ≤ z1 then
          some (.inr (.inr z1))
        else
          some (.inl r1)
    else
      some (.inr (.inl ()))
def net_settle_1.f (K : Nat) (x0 : Int) (x1 : Int) (xg2_0 : Int) (xg2_1 : Int) (xg2_2 : SFrame) (lg2_3 : List SFrame) (xg2_4 : Int) : Option Int :=
  match iter (net_settle_1.r0 K x1 xg2_0 xg2_1 xg2_2 lg2_3 xg2_4) K x0 with
  | none => none
  | some (.inl _) =>
    some (-1)
  | some (.inr rr1) =>
    some rr1
abbrev net_settle_1.A0 (K : Nat) (w0 : World) (x0 : Int) (x1 : Int) (bg2_0 : Nat) (xg2_0 : Int) (bg2_1 : Nat) (xg2_1 : Int) (bg2_2 : Nat) (xg2_2 : SFrame) (bg2_3 : Nat) (lg2_3 : List SFrame) (Ag2_3 : Option Addr) (cg2_3 : Nat) (bg2_4 : Nat) (xg2_4 : Int) (hBg2_0 : Glob w0 bg2_0 [.int .i64 xg2_0]) (hBg2_1 : Glob w0 bg2_1 [.int .i64 xg2_1]) (hBg2_2 : Glob w0 bg2_2 [.int .i64 xg2_2.C, .int .i64 xg2_2.T, .int .i64 xg2_2.D, .int .i64 xg2_2.J]) (hRg2_3 : RdL w0 Ag2_3 lg2_3) (hLg2_3 : lg2_3.length ≤ cg2_3) (hBg2_3 : Glob w0 bg2_3 [.slice Ag2_3 lg2_3.length cg2_3]) (hBg2_4 : Glob w0 bg2_4 [.int .i64 xg2_4]) : Int → Act → World → Prop := fun (s : Int) a w => St w0 w [] ∧ Frm 21 a [(1, .int .i64 x1), (2, .func (.func 170) #[] #[.pointer (some ⟨bg2_0, 0, none⟩), .pointer (some ⟨bg2_1, 0, none⟩), .pointer (some ⟨bg2_2, 0, none⟩), .pointer (some ⟨bg2_3, 0, none⟩), .pointer (some ⟨bg2_4, 0, none⟩)]), (7, .int .i64 s)]
abbrev net_settle_1.B0 (K : Nat) (w0 : World) (x0 : Int) (x1 : Int) (bg2_0 : Nat) (xg2_0 : Int) (bg2_1 : Nat) (xg2_1 : Int) (bg2_2 : Nat) (xg2_2 : SFrame) (bg2_3 : Nat) (lg2_3 : List SFrame) (Ag2_3 : Option Addr) (cg2_3 : Nat) (bg2_4 : Nat) (xg2_4 : Int) (hBg2_0 : Glob w0 bg2_0 [.int .i64 xg2_0]) (hBg2_1 : Glob w0 bg2_1 [.int .i64 xg2_1]) (hBg2_2 : Glob w0 bg2_2 [.int .i64 xg2_2.C, .int .i64 xg2_2.T, .int .i64 xg2_2.D, .int .i64 xg2_2.J]) (hRg2_3 : RdL w0 Ag2_3 lg2_3) (hLg2_3 : lg2_3.length ≤ cg2_3) (hBg2_3 : Glob w0 bg2_3 [.slice Ag2_3 lg2_3.length cg2_3]) (hBg2_4 : Glob w0 bg2_4 [.int .i64 xg2_4]) : (Unit ⊕ Int) → Exit → Act → World → Prop := Exits 0 (fun (s : Unit) a w => St w0 w [] ∧ Frm 21 a []) (Rets Tryd.prog Tryd.f167 (net_settle_1.Post w0))
theorem net_settle_1_r0 (K : Nat) (w0 : World) (x0 : Int) (x1 : Int) (bg2_0 : Nat) (xg2_0 : Int) (bg2_1 : Nat) (xg2_1 : Int) (bg2_2 : Nat) (xg2_2 : SFrame) (bg2_3 : Nat) (lg2_3 : List SFrame) (Ag2_3 : Option Addr) (cg2_3 : Nat) (bg2_4 : Nat) (xg2_4 : Int) (hBg2_0 : Glob w0 bg2_0 [.int .i64 xg2_0]) (hBg2_1 : Glob w0 bg2_1 [.int .i64 xg2_1]) (hBg2_2 : Glob w0 bg2_2 [.int .i64 xg2_2.C, .int .i64 xg2_2.T, .int .i64 xg2_2.D, .int .i64 xg2_2.J]) (hRg2_3 : RdL w0 Ag2_3 lg2_3) (hLg2_3 : lg2_3.length ≤ cg2_3) (hBg2_3 : Glob w0 bg2_3 [.slice Ag2_3 lg2_3.length cg2_3]) (hBg2_4 : Glob w0 bg2_4 [.int .i64 xg2_4]) (s : Int) (o : Int ⊕ (Unit ⊕ Int)) (h : net_settle_1.r0 K x1 xg2_0 xg2_1 xg2_2 lg2_3 xg2_4 s = some o) (a : Act) (w : World) (hA : net_settle_1.A0 K w0 x0 x1 bg2_0 xg2_0 bg2_1 xg2_1 bg2_2 xg2_2 bg2_3 lg2_3 Ag2_3 cg2_3 bg2_4 xg2_4 hBg2_0 hBg2_1 hBg2_2 hRg2_3 hLg2_3 hBg2_3 hBg2_4 s a w) (Q : Exit → Act → World → Prop) (hQ : ∀ x a w, Outs (net_settle_1.A0 K w0 x0 x1 bg2_0 xg2_0 bg2_1 xg2_1 bg2_2 xg2_2 bg2_3 lg2_3 Ag2_3 cg2_3 bg2_4 xg2_4 hBg2_0 hBg2_1 hBg2_2 hRg2_3 hLg2_3 hBg2_3 hBg2_4) (net_settle_1.B0 K w0 x0 x1 bg2_0 xg2_0 bg2_1 xg2_1 bg2_2 xg2_2 bg2_3 lg2_3 Ag2_3 cg2_3 bg2_4 xg2_4 hBg2_0 hBg2_1 hBg2_2 hRg2_3 hLg2_3 hBg2_3 hBg2_4) o x a w → Q x a w) : (subF Tryd.f167 [1, 0, 1, 0, 0]).wp Tryd.prog Q a w := by
  obtain ⟨z1, hs⟩ : ∃ z, z = s := ⟨s, rfl⟩
  subst hs
  obtain ⟨hS, hF⟩ := hA
  replace hS : St w0 w [] := hS
  simp only [net_settle_1.r0] at h
  refine (?_ : WE Tryd.prog 21 (subF Tryd.f167 [1, 0, 1, 0, 0]) Q [(1, .int .i64 x1), (2, .func (.func 170) #[] #[.pointer (some ⟨bg2_0, 0, none⟩), .pointer (some ⟨bg2_1, 0, none⟩), .pointer (some ⟨bg2_2, 0, none⟩), .pointer (some ⟨bg2_3, 0, none⟩), .pointer (some ⟨bg2_4, 0, none⟩)]), (7, .int .i64 z1)] w) a hF
  clear hF a
  refine we_seq fun K4 hK4 => ?_
  refine we_seq fun K5 hK5 => ?_
  refine we_region [(0, 0), (1, 0), (2, 0)] rfl ?_
  refine ge_batch [0, 1, 2] (ans := []) (vs := [(12, .bool (decide (z1 ≤ x1))), (11, .int .i64 x1), (10, .int .i64 z1)]) (l := []) (by kernel_rfl) trivial ?_
  refine ge_nil fun a hF => hK5 _ _ ?_ a hF
  by_cases hc1 : z1 ≤ x1
  · rw [if_pos hc1] at h
    refine we_known (t := 12) (b := decide (z1 ≤ x1)) (v := true) (by kernel_rfl) (decide_eq_true hc1) ?_
    refine we_true (by kernel_rfl) ?_
    refine we_skip fun a hF => hK4 _ _ ?_ a hF
    refine we_block ?_
    refine we_seq fun K6 hK6 => ?_
    refine we_region [(0, 0), (1, 0), (2, 1), (3, 0)] rfl ?_
    rcases hq1 : net_time_2.f K z1 xg2_0 xg2_1 xg2_2 lg2_3 xg2_4 with _ | r1
    · rw [hq1] at h; cases h
    rw [hq1] at h
    simp only [] at h
    refine ge_batch [0, 1] (ans := []) (vs := [(14, .int .i64 z1), (13, .func (.func 170) #[] #[.pointer (some ⟨bg2_0, 0, none⟩), .pointer (some ⟨bg2_1, 0, none⟩), .pointer (some ⟨bg2_2, 0, none⟩), .pointer (some ⟨bg2_3, 0, none⟩), .pointer (some ⟨bg2_4, 0, none⟩)])]) (l := []) (by kernel_rfl) trivial ?_
    refine ge_call (d := some 15) (f := 170) (args := #[.int .i64 z1, .pointer (some ⟨bg2_0, 0, none⟩), .pointer (some ⟨bg2_1, 0, none⟩), .pointer (some ⟨bg2_2, 0, none⟩), .pointer (some ⟨bg2_3, 0, none⟩), .pointer (some ⟨bg2_4, 0, none⟩)]) (by kernel_rfl) (net_time_2_ok K z1 bg2_0 xg2_0 bg2_1 xg2_1 bg2_2 xg2_2 bg2_3 lg2_3 Ag2_3 cg2_3 bg2_4 xg2_4 _ (Glob.ext hBg2_0 hS.below) (Glob.ext hBg2_1 hS.below) (Glob.ext hBg2_2 hS.below) (hS.rd hRg2_3) hLg2_3 (Glob.ext hBg2_3 hS.below) (Glob.ext hBg2_4 hS.below) _ hq1) ?_
    rintro _ w1 ⟨rfl, hS1⟩
    refine ⟨_, rfl, hS1.below, ?_⟩
    have hS2 := hS.call hS1
    refine ge_batch [3] (ans := []) (vs := [(8, .int .i64 r1)]) (l := []) (by kernel_rfl) trivial ?_
    refine ge_nil fun a hF => hK6 _ _ ?_ a hF
    refine we_seq fun K7 hK7 => ?_
    refine we_seq fun K8 hK8 => ?_
    refine we_region [(0, 0), (1, 0), (2, 0)] rfl ?_
    refine ge_batch [0, 1, 2] (ans := []) (vs := [(18, .bool (decide (r1 ≤ z1))), (17, .int .i64 z1), (16, .int .i64 r1)]) (l := []) (by kernel_rfl) trivial ?_
    refine ge_nil fun a hF => hK8 _ _ ?_ a hF
    by_cases hc2 : r1 ≤ z1
    · rw [if_pos hc2] at h
      refine we_known (t := 18) (b := decide (r1 ≤ z1)) (v := true) (by kernel_rfl) (decide_eq_true hc2) ?_
      refine we_true (by kernel_rfl) ?_
      refine we_seq fun K9 hK9 => ?_
      refine we_region [(0, 0), (1, 0)] rfl ?_
      refine ge_batch [0, 1] (ans := []) (vs := [(6, .int .i64 z1), (19, .int .i64 z1)]) (l := []) (by kernel_rfl) trivial ?_
      refine ge_nil fun a hF => hK9 _ _ ?_ a hF
      obtain rfl := Option.some.inj h
      exact we_ret fun a hF => hQ _ _ _ (Outs.out nofun (Exits.on ⟨rfl, (post_ret (rs := [.tmp 6]) (ans := []) (vs := [.int .i64 z1]) (l := []) rfl (by kernel_rfl) trivial ⟨rfl, hS2⟩) a hF⟩))
    · rw [if_neg hc2] at h
      refine we_known (t := 18) (b := decide (r1 ≤ z1)) (v := false) (by kernel_rfl) (decide_eq_false hc2) ?_
      refine we_false (by kernel_rfl) ?_
      refine we_skip fun a hF => hK7 _ _ ?_ a hF
      refine we_region [(0, 0), (1, 0)] rfl ?_
      refine ge_batch [0, 1] (ans := []) (vs := [(7, .int .i64 r1), (20, .int .i64 r1)]) (l := []) (by kernel_rfl) trivial ?_
      obtain rfl := Option.some.inj h
      exact ge_nil fun a hF => hQ _ _ _ (Outs.again ⟨hS2, hF.weaken ⟨by kernel_rfl, by kernel_rfl, by kernel_rfl, trivial⟩⟩)
  · rw [if_neg hc1] at h
    refine we_known (t := 12) (b := decide (z1 ≤ x1)) (v := false) (by kernel_rfl) (decide_eq_false hc1) ?_
    refine we_false (by kernel_rfl) ?_
    obtain rfl := Option.some.inj h
    exact we_exit fun a hF => hQ _ _ _ (Outs.out nofun (Exits.here ⟨hS, hF.weaken trivial⟩))
theorem net_settle_1_ok (K : Nat) (x0 : Int) (x1 : Int) (bg2_0 : Nat) (xg2_0 : Int) (bg2_1 : Nat) (xg2_1 : Int) (bg2_2 : Nat) (xg2_2 : SFrame) (bg2_3 : Nat) (lg2_3 : List SFrame) (Ag2_3 : Option Addr) (cg2_3 : Nat) (bg2_4 : Nat) (xg2_4 : Int) (w0 : World) (hBg2_0 : Glob w0 bg2_0 [.int .i64 xg2_0]) (hBg2_1 : Glob w0 bg2_1 [.int .i64 xg2_1]) (hBg2_2 : Glob w0 bg2_2 [.int .i64 xg2_2.C, .int .i64 xg2_2.T, .int .i64 xg2_2.D, .int .i64 xg2_2.J]) (hRg2_3 : RdL w0 Ag2_3 lg2_3) (hLg2_3 : lg2_3.length ≤ cg2_3) (hBg2_3 : Glob w0 bg2_3 [.slice Ag2_3 lg2_3.length cg2_3]) (hBg2_4 : Glob w0 bg2_4 [.int .i64 xg2_4]) (r : Int) (h : net_settle_1.f K x0 x1 xg2_0 xg2_1 xg2_2 lg2_3 xg2_4 = some r) :
    Calls Tryd.prog 167 #[.int .i64 x0, .int .i64 x1, .func (.func 170) #[] #[.pointer (some ⟨bg2_0, 0, none⟩), .pointer (some ⟨bg2_1, 0, none⟩), .pointer (some ⟨bg2_2, 0, none⟩), .pointer (some ⟨bg2_3, 0, none⟩), .pointer (some ⟨bg2_4, 0, none⟩)]] w0 (net_settle_1.Post w0 r) := by
  have hS := St.start w0
  unfold net_settle_1.f at h
  refine calls_enter (n := 21) (args := [.int .i64 x0, .int .i64 x1, .func (.func 170) #[] #[.pointer (some ⟨bg2_0, 0, none⟩), .pointer (some ⟨bg2_1, 0, none⟩), .pointer (some ⟨bg2_2, 0, none⟩), .pointer (some ⟨bg2_3, 0, none⟩), .pointer (some ⟨bg2_4, 0, none⟩)]]) (fn := Tryd.f167) rfl rfl rfl rfl ?_
  show WE _ _ _ _ [(0, .int .i64 x0), (1, .int .i64 x1), (2, .func (.func 170) #[] #[.pointer (some ⟨bg2_0, 0, none⟩), .pointer (some ⟨bg2_1, 0, none⟩), .pointer (some ⟨bg2_2, 0, none⟩), .pointer (some ⟨bg2_3, 0, none⟩), .pointer (some ⟨bg2_4, 0, none⟩)])] _
  refine we_seq fun K1 hK1 => ?_
  refine we_region [(0, 0)] rfl ?_
  refine ge_batch [0] (ans := []) (vs := [(6, .int .i64 0)]) (l := []) (by kernel_rfl) trivial ?_
  refine ge_nil fun a hF => hK1 _ _ ?_ a hF
  refine we_seq fun K2 hK2 => ?_
  refine we_seq fun K3 hK3 => ?_
  refine we_region [(0, 0), (1, 0)] rfl ?_
  refine ge_batch [0, 1] (ans := []) (vs := [(7, .int .i64 x0), (9, .int .i64 x0)]) (l := []) (by kernel_rfl) trivial ?_
  refine ge_nil fun a hF => hK3 _ _ ?_ a hF
  refine we_block ?_
  rcases hq2 : iter (net_settle_1.r0 K x1 xg2_0 xg2_1 xg2_2 lg2_3 xg2_4) K x0 with _ | (_ | rr1)
  · rw [hq2] at h; cases h
  · rw [hq2] at h
    simp only [] at h
    refine we_iter (A := net_settle_1.A0 K w0 x0 x1 bg2_0 xg2_0 bg2_1 xg2_1 bg2_2 xg2_2 bg2_3 lg2_3 Ag2_3 cg2_3 bg2_4 xg2_4 hBg2_0 hBg2_1 hBg2_2 hRg2_3 hLg2_3 hBg2_3 hBg2_4) (B := net_settle_1.B0 K w0 x0 x1 bg2_0 xg2_0 bg2_1 xg2_1 bg2_2 xg2_2 bg2_3 lg2_3 Ag2_3 cg2_3 bg2_4 xg2_4 hBg2_0 hBg2_1 hBg2_2 hRg2_3 hLg2_3 hBg2_3 hBg2_4) hq2 (fun a hF => ⟨hS, hF.weaken ⟨by kernel_rfl, by kernel_rfl, by kernel_rfl, trivial⟩⟩) (fun s o hf a w hA Q hQ => net_settle_1_r0 K w0 x0 x1 bg2_0 xg2_0 bg2_1 xg2_1 bg2_2 xg2_2 bg2_3 lg2_3 Ag2_3 cg2_3 bg2_4 xg2_4 hBg2_0 hBg2_1 hBg2_2 hRg2_3 hLg2_3 hBg2_3 hBg2_4 s o hf a w hA Q hQ) ?_
    rintro _ a w2 _ ⟨rfl, hS3, hF⟩
    replace hS3 : St w0 w2 [] := hS3
    refine hK2 [] w2 ?_ a hF
    refine we_seq fun K10 hK10 => ?_
    refine we_region [(0, 0)] rfl ?_
    refine ge_batch [0] (ans := []) (vs := [(6, .int .i64 (-1))]) (l := []) (by kernel_rfl) trivial ?_
    refine ge_nil fun a hF => hK10 _ _ ?_ a hF
    obtain rfl := Option.some.inj h
    exact we_ret (post_ret (rs := [.tmp 6]) (ans := []) (vs := [.int .i64 (-1)]) (l := []) rfl (by kernel_rfl) trivial ⟨rfl, hS3⟩)
  · rw [hq2] at h
    simp only [] at h
    refine we_iter (A := net_settle_1.A0 K w0 x0 x1 bg2_0 xg2_0 bg2_1 xg2_1 bg2_2 xg2_2 bg2_3 lg2_3 Ag2_3 cg2_3 bg2_4 xg2_4 hBg2_0 hBg2_1 hBg2_2 hRg2_3 hLg2_3 hBg2_3 hBg2_4) (B := net_settle_1.B0 K w0 x0 x1 bg2_0 xg2_0 bg2_1 xg2_1 bg2_2 xg2_2 bg2_3 lg2_3 Ag2_3 cg2_3 bg2_4 xg2_4 hBg2_0 hBg2_1 hBg2_2 hRg2_3 hLg2_3 hBg2_3 hBg2_4) hq2 (fun a hF => ⟨hS, hF.weaken ⟨by kernel_rfl, by kernel_rfl, by kernel_rfl, trivial⟩⟩) (fun s o hf a w hA Q hQ => net_settle_1_r0 K w0 x0 x1 bg2_0 xg2_0 bg2_1 xg2_1 bg2_2 xg2_2 bg2_3 lg2_3 Ag2_3 cg2_3 bg2_4 xg2_4 hBg2_0 hBg2_1 hBg2_2 hRg2_3 hLg2_3 hBg2_3 hBg2_4 s o hf a w hA Q hQ) ?_
    rintro _ a w1 _ ⟨rfl, hb⟩
    obtain rfl := Option.some.inj h
    exact hb

/-! punctual/net.time -/
abbrev net_time.Post (w0 : World) (r : Int) (e : Ending) (w : World) : Prop := e = .returned (.int .i64 r) ∧ St w0 w []
def net_time.p0 (K : Nat) (l0 : List SFrame) (x1 : Int) : Option ((Int × Int × Int × Int × Int) ⊕ Int) :=
    if 0 ≤ x1 then
      match l0[(x1).toNat]? with
      | none => none
      | some e1 =>
        match net_held.f K l0 x1 with
        | none => none
        | some r1 =>
          some (.inl (e1.C, e1.T, e1.D, e1.J, r1))
    else
      none
def net_time.r1 (K : Nat) (l0 : List SFrame) (x1 : Int) (z6 : Int) (z7 : Int) (z8 : Int) (z9 : Int) (z10 : Int) (r3 : Int) : Int × Int → Option ((Int × Int) ⊕ (Int ⊕ Int))
  | (z11, z12) =>
    if z12 < r3 then
      match net_settle_1.f K (IntKind.i64.wrap (z10 + (IntKind.i64.wrap (z12 * z6)))) 100000 z10 z12 (⟨z6, z7, z8, z9⟩ : SFrame) l0 x1 with
      | none => none
      | some r4 =>
        if r4 < 0 then
          some (.inr (.inr (-1)))
        else
          some (.inl (gmax z11 (IntKind.i64.wrap ((IntKind.i64.wrap ((IntKind.i64.wrap (z9 + r4)) - (IntKind.i64.wrap (z12 * z7)))) + z6)), IntKind.i64.wrap (z12 + 1)))
    else
      some (.inr (.inl z11))
def net_time.f (K : Nat) (l0 : List SFrame) (x1 : Int) : Option Int :=
  match net_time.p0 K l0 x1 with
  | none => none
  | some (.inl (z6, z7, z8, z9, z10)) =>
    match net_settle.f K (IntKind.i64.wrap (z10 + z6)) 100000 z10 l0 x1 with
    | none => none
    | some r2 =>
      if r2 < 0 then
        some (-1)
      else
        match net_ceil.f (IntKind.i64.wrap (r2 + z9)) z7 with
        | none => none
        | some r3 =>
          match iter (net_time.r1 K l0 x1 z6 z7 z8 z9 z10 r3) K (0, 0) with
          | none => none
          | some (.inl z14) =>
            some z14
          | some (.inr rr1) =>
            some rr1
  | some (.inr rr2) =>
    some rr2
abbrev net_time.A0 (K : Nat) (w0 : World) (l0 : List SFrame) (A0 : Option Addr) (c0 : Nat) (x1 : Int) (hR0 : RdL w0 A0 l0) (hL0 : l0.length ≤ c0) (b1 : Nat) (b2 : Nat) : (Int × Int × Int × Int × Int) → Act → World → Prop := fun (s : Int × Int × Int × Int × Int) a w => ∃ (b3 : Nat) (b4 : Nat), St w0 w [Own.blk b3 (.cells #[.int .i64 s.1, .int .i64 s.2.1, .int .i64 s.2.2.1, .int .i64 s.2.2.2.1] 30 (0, 0)), Own.blk b4 (.cells #[.int .i64 s.2.2.2.2] 3 (0, 0)), Own.blk b2 (.cells #[.int .i64 x1] 3 (0, 0)), Own.blk b1 (.cells #[.slice A0 l0.length c0] 22 (0, 0))] ∧ Frm 62 a [(2, .pointer (some ⟨b1, 0, none⟩)), (3, .pointer (some ⟨b2, 0, none⟩)), (5, .pointer (some ⟨b3, 0, none⟩)), (6, .pointer (some ⟨b4, 0, none⟩))]
abbrev net_time.B0 (K : Nat) (w0 : World) (l0 : List SFrame) (A0 : Option Addr) (c0 : Nat) (x1 : Int) (hR0 : RdL w0 A0 l0) (hL0 : l0.length ≤ c0) (b1 : Nat) (b2 : Nat) : Int → Exit → Act → World → Prop := Rets Tryd.prog Tryd.f132 (net_time.Post w0)
theorem net_time_p0 (K : Nat) (w0 : World) (l0 : List SFrame) (A0 : Option Addr) (c0 : Nat) (x1 : Int) (hR0 : RdL w0 A0 l0) (hL0 : l0.length ≤ c0) (b1 : Nat) (b2 : Nat) (o : (Int × Int × Int × Int × Int) ⊕ Int) (h : net_time.p0 K l0 x1 = some o) (w : World) (hS : St w0 w [Own.blk b2 (.cells #[.int .i64 x1] 3 (0, 0)), Own.blk b1 (.cells #[.slice A0 l0.length c0] 22 (0, 0))]) (Q : Exit → Act → World → Prop) (hQ : ∀ x a w, Outs (net_time.A0 K w0 l0 A0 c0 x1 hR0 hL0 b1 b2) (net_time.B0 K w0 l0 A0 c0 x1 hR0 hL0 b1 b2) o x a w → Q x a w) : WE Tryd.prog 62 (subF Tryd.f132 [1, 0]) Q [(0, .slice A0 l0.length c0), (1, .int .i64 x1), (2, .pointer (some ⟨b1, 0, none⟩)), (3, .pointer (some ⟨b2, 0, none⟩)), (4, .int .i64 0)] w := by
  simp only [net_time.p0] at h
  refine we_orders2 (by kernel_rfl) [(0, [⟨b1, 0, none⟩]), (1, [⟨b2, 0, none⟩]), (3, [⟨blkOf A0, offOf A0 + ((x1).toNat) * 4, none⟩, ⟨blkOf A0, offOf A0 + ((x1).toNat) * 4 + 1, none⟩, ⟨blkOf A0, offOf A0 + ((x1).toNat) * 4 + 2, none⟩, ⟨blkOf A0, offOf A0 + ((x1).toNat) * 4 + 3, none⟩]), (4, [⟨b1, 0, none⟩]), (5, [⟨b2, 0, none⟩])] (.vals [0] (.vals [1] (.vals [2] (.vals [3] (.vals [4] (.vals [5] (.alt 6 1 (.alt 7 1 (.alt 8 1 (.alt 9 2 (.alt 10 2 .fin .nomore) .nomore) .nomore) (.alt 8 1 (.alt 7 1 (.alt 9 2 (.alt 10 2 .fin .nomore) .nomore) .nomore) .nomore)) (.alt 7 1 (.alt 6 1 (.alt 8 1 (.alt 9 2 (.alt 10 2 .fin .nomore) .nomore) .nomore) (.alt 8 1 (.alt 6 1 (.alt 9 2 (.alt 10 2 .fin .nomore) .nomore) .nomore) .nomore)) (.alt 8 1 (.alt 6 1 (.alt 7 1 (.alt 9 2 (.alt 10 2 .fin .nomore) .nomore) .nomore) (.alt 7 1 (.alt 6 1 (.alt 9 2 (.alt 10 2 .fin .nomore) .nomore) .nomore) .nomore)) .nomore))))))))) (by kernel_rfl) ?_
  have hS3 := hS.drew
  refine go2_batch [0] (ans := [.val (.slice A0 l0.length c0)]) (vs := [(11, .slice A0 l0.length c0)]) (l := [.loaded ⟨b1, 0, none⟩ (.slice A0 l0.length c0)]) (by kernel_rfl) ⟨hS3.cell 1 rfl rfl, trivial⟩ (mem_one (by kernel_rfl)) ?_
  refine go2_batch [1] (ans := [.val (.int .i64 x1)]) (vs := [(12, .int .i64 x1)]) (l := [.loaded ⟨b2, 0, none⟩ (.int .i64 x1)]) (by kernel_rfl) ⟨hS3.cell 0 rfl rfl, trivial⟩ (mem_one (by kernel_rfl)) ?_
  by_cases hc1 : 0 ≤ x1
  · rw [if_pos hc1] at h
    rcases hx3 : l0[(x1).toNat]? with _ | e1
    · rw [hx3] at h; cases h
    rw [hx3] at h
    simp only [] at h
    refine go2_index (d := 13) (ty := 0) (t := 22) (el := 30) (sz := 4) (m := l0.length) (c := c0) (x := (.tmp 11)) (y := (.tmp 12)) (A := A0) (k' := .i64) (j := x1) (jn := ((x1).toNat)) (b0 := blkOf A0) (o0 := offOf A0) (by kernel_rfl) (by kernel_rfl) (by kernel_rfl) (by kernel_rfl) (by kernel_rfl) ((hS3.rd hR0).eqSome (pos_of_get hx3)) (Int.toNat_of_nonneg hc1).symm (lt_of_get hx3) ?_
    refine go2_batch [3] (ans := [.val (.int .i64 e1.C), .val (.int .i64 e1.T), .val (.int .i64 e1.D), .val (.int .i64 e1.J)]) (vs := [(14, .agg #[.int .i64 e1.C, .int .i64 e1.T, .int .i64 e1.D, .int .i64 e1.J])]) (l := [.loaded ⟨blkOf A0, offOf A0 + ((x1).toNat) * 4, none⟩ (.int .i64 e1.C), .loaded ⟨blkOf A0, offOf A0 + ((x1).toNat) * 4 + 1, none⟩ (.int .i64 e1.T), .loaded ⟨blkOf A0, offOf A0 + ((x1).toNat) * 4 + 2, none⟩ (.int .i64 e1.D), .loaded ⟨blkOf A0, offOf A0 + ((x1).toNat) * 4 + 3, none⟩ (.int .i64 e1.J)]) (by kernel_rfl) ⟨RdL.cell (j := 0) (hS3.rd hR0) hx3 rfl, RdL.cell (j := 1) (hS3.rd hR0) hx3 rfl, RdL.cell (j := 2) (hS3.rd hR0) hx3 rfl, RdL.cell (j := 3) (hS3.rd hR0) hx3 rfl, trivial⟩ (mem_one (by kernel_rfl)) ?_
    refine go2_batch [4] (ans := [.val (.slice A0 l0.length c0)]) (vs := [(15, .slice A0 l0.length c0)]) (l := [.loaded ⟨b1, 0, none⟩ (.slice A0 l0.length c0)]) (by kernel_rfl) ⟨hS3.cell 1 rfl rfl, trivial⟩ (mem_one (by kernel_rfl)) ?_
    refine go2_batch [5] (ans := [.val (.int .i64 x1)]) (vs := [(16, .int .i64 x1)]) (l := [.loaded ⟨b2, 0, none⟩ (.int .i64 x1)]) (by kernel_rfl) ⟨hS3.cell 0 rfl rfl, trivial⟩ (mem_one (by kernel_rfl)) ?_
    refine go_alt2 (fun KK hKK => ?_) ?_
    · refine ge_one2 ?_
      rcases hq1 : net_held.f K l0 x1 with _ | r1
      · rw [hq1] at h; cases h
      rw [hq1] at h
      simp only [] at h
      refine ge_call (d := some 17) (f := 166) (args := #[.slice A0 l0.length c0, .int .i64 x1]) (by kernel_rfl) (net_held_ok K l0 A0 c0 x1 _ (hS3.rd hR0) hL0 _ hq1) ?_
      rintro _ w3 ⟨rfl, hS4⟩
      refine ⟨_, rfl, hS4.below, ?_⟩
      have hS5 := hS3.call hS4
      refine ge_nil fun a hF => hKK _ _ (RS.of2 (l := [.loaded ⟨b1, 0, none⟩ (.slice A0 l0.length c0), .loaded ⟨b2, 0, none⟩ (.int .i64 x1), .loaded ⟨blkOf A0, offOf A0 + ((x1).toNat) * 4, none⟩ (.int .i64 e1.C), .loaded ⟨blkOf A0, offOf A0 + ((x1).toNat) * 4 + 1, none⟩ (.int .i64 e1.T), .loaded ⟨blkOf A0, offOf A0 + ((x1).toNat) * 4 + 2, none⟩ (.int .i64 e1.D), .loaded ⟨blkOf A0, offOf A0 + ((x1).toNat) * 4 + 3, none⟩ (.int .i64 e1.J)]) (by kernel_rfl) ⟨hS3.cell 1 rfl rfl, hS3.cell 0 rfl rfl, RdL.cell (j := 0) (hS3.rd hR0) hx3 rfl, RdL.cell (j := 1) (hS3.rd hR0) hx3 rfl, RdL.cell (j := 2) (hS3.rd hR0) hx3 rfl, RdL.cell (j := 3) (hS3.rd hR0) hx3 rfl, trivial⟩ ⟨hS5.cell 1 rfl rfl, hS5.cell 0 rfl rfl, RdL.cell (j := 0) (hS5.rd hR0) hx3 rfl, RdL.cell (j := 1) (hS5.rd hR0) hx3 rfl, RdL.cell (j := 2) (hS5.rd hR0) hx3 rfl, RdL.cell (j := 3) (hS5.rd hR0) hx3 rfl, trivial⟩) ?_ a hF
      refine go_alt2 (fun KK hKK => ?_) ?_
      · refine ge_one2 ?_
        refine ge_new (d := some 5) (o := .cells #[.int .i64 0, .int .i64 0, .int .i64 0, .int .i64 0] 30) (v := fun b => .pointer (some ⟨b, 0, none⟩)) hS5 (fun b => by kernel_rfl) fun b5 w4 hx4 hS6 => ?_
        refine ge_nil fun a hF => hKK _ _ (RS.of2 (l := [.loaded ⟨b1, 0, none⟩ (.slice A0 l0.length c0), .loaded ⟨b2, 0, none⟩ (.int .i64 x1), .loaded ⟨blkOf A0, offOf A0 + ((x1).toNat) * 4, none⟩ (.int .i64 e1.C), .loaded ⟨blkOf A0, offOf A0 + ((x1).toNat) * 4 + 1, none⟩ (.int .i64 e1.T), .loaded ⟨blkOf A0, offOf A0 + ((x1).toNat) * 4 + 2, none⟩ (.int .i64 e1.D), .loaded ⟨blkOf A0, offOf A0 + ((x1).toNat) * 4 + 3, none⟩ (.int .i64 e1.J), .loaded ⟨b1, 0, none⟩ (.slice A0 l0.length c0), .loaded ⟨b2, 0, none⟩ (.int .i64 x1)]) (by kernel_rfl) ⟨hS5.cell 1 rfl rfl, hS5.cell 0 rfl rfl, RdL.cell (j := 0) (hS5.rd hR0) hx3 rfl, RdL.cell (j := 1) (hS5.rd hR0) hx3 rfl, RdL.cell (j := 2) (hS5.rd hR0) hx3 rfl, RdL.cell (j := 3) (hS5.rd hR0) hx3 rfl, hS5.cell 1 rfl rfl, hS5.cell 0 rfl rfl, trivial⟩ ⟨hS6.cell 2 rfl rfl, hS6.cell 1 rfl rfl, RdL.cell (j := 0) (hS6.rd hR0) hx3 rfl, RdL.cell (j := 1) (hS6.rd hR0) hx3 rfl, RdL.cell (j := 2) (hS6.rd hR0) hx3 rfl, RdL.cell (j := 3) (hS6.rd hR0) hx3 rfl, hS6.cell 2 rfl rfl, hS6.cell 1 rfl rfl, trivial⟩) ?_ a hF
        refine go_alt2 (fun KK hKK => ?_) ?_
        · refine ge_one2 ?_
          refine ge_new (d := some 6) (o := .cells #[.int .i64 0] 3) (v := fun b => .pointer (some ⟨b, 0, none⟩)) hS6 (fun b => by kernel_rfl) fun b6 w5 hx5 hS7 => ?_
          refine ge_nil fun a hF => hKK _ _ (RS.of2 (l := [.loaded ⟨b1, 0, none⟩ (.slice A0 l0.length c0), .loaded ⟨b2, 0, none⟩ (.int .i64 x1), .loaded ⟨blkOf A0, offOf A0 + ((x1).toNat) * 4, none⟩ (.int .i64 e1.C), .loaded ⟨blkOf A0, offOf A0 + ((x1).toNat) * 4 + 1, none⟩ (.int .i64 e1.T), .loaded ⟨blkOf A0, offOf A0 + ((x1).toNat) * 4 + 2, none⟩ (.int .i64 e1.D), .loaded ⟨blkOf A0, offOf A0 + ((x1).toNat) * 4 + 3, none⟩ (.int .i64 e1.J), .loaded ⟨b1, 0, none⟩ (.slice A0 l0.length c0), .loaded ⟨b2, 0, none⟩ (.int .i64 x1)]) (by kernel_rfl) ⟨hS6.cell 2 rfl rfl, hS6.cell 1 rfl rfl, RdL.cell (j := 0) (hS6.rd hR0) hx3 rfl, RdL.cell (j := 1) (hS6.rd hR0) hx3 rfl, RdL.cell (j := 2) (hS6.rd hR0) hx3 rfl, RdL.cell (j := 3) (hS6.rd hR0) hx3 rfl, hS6.cell 2 rfl rfl, hS6.cell 1 rfl rfl, trivial⟩ ⟨hS7.cell 3 rfl rfl, hS7.cell 2 rfl rfl, RdL.cell (j := 0) (hS7.rd hR0) hx3 rfl, RdL.cell (j := 1) (hS7.rd hR0) hx3 rfl, RdL.cell (j := 2) (hS7.rd hR0) hx3 rfl, RdL.cell (j := 3) (hS7.rd hR0) hx3 rfl, hS7.cell 3 rfl rfl, hS7.cell 2 rfl rfl, trivial⟩) ?_ a hF
          refine go_alt2 (fun KK hKK => ?_) ?_
          · have hS8 := hS7.bring 1 rfl
            refine ge_set (b := b5) (j := 0) (cs := #[.int .i64 0, .int .i64 0, .int .i64 0, .int .i64 0]) (t := 30) (vs := [.int .i64 e1.C, .int .i64 e1.T, .int .i64 e1.D, .int .i64 e1.J]) hS8 (by kernel_rfl) rfl rfl fun w6 hS9 => ?_
            have hS10 : St w0 w6 [Own.blk b5 (.cells #[.int .i64 e1.C, .int .i64 e1.T, .int .i64 e1.D, .int .i64 e1.J] 30 (0, 0)), Own.blk b6 (.cells #[.int .i64 0] 3 (0, 0)), Own.blk b2 (.cells #[.int .i64 x1] 3 (0, 0)), Own.blk b1 (.cells #[.slice A0 l0.length c0] 22 (0, 0))] := hS9
            refine ge_nil fun a hF => hKK _ _ (RS.of2 (l := [.loaded ⟨b1, 0, none⟩ (.slice A0 l0.length c0), .loaded ⟨b2, 0, none⟩ (.int .i64 x1)]) (by kernel_rfl) ⟨hS7.cell 3 rfl rfl, hS7.cell 2 rfl rfl, trivial⟩ ⟨hS10.cell 3 rfl rfl, hS10.cell 2 rfl rfl, trivial⟩) ?_ a hF
            refine go_alt2 (fun KK hKK => ?_) ?_
            · have hS11 := hS10.bring 1 rfl
              refine ge_set (b := b6) (j := 0) (cs := #[.int .i64 0]) (t := 3) (vs := [.int .i64 r1]) hS11 (by kernel_rfl) rfl rfl fun w7 hS12 => ?_
              have hS13 : St w0 w7 [Own.blk b6 (.cells #[.int .i64 r1] 3 (0, 0)), Own.blk b5 (.cells #[.int .i64 e1.C, .int .i64 e1.T, .int .i64 e1.D, .int .i64 e1.J] 30 (0, 0)), Own.blk b2 (.cells #[.int .i64 x1] 3 (0, 0)), Own.blk b1 (.cells #[.slice A0 l0.length c0] 22 (0, 0))] := hS12
              refine ge_nil fun a hF => hKK _ _ (RS.of2 (l := []) (by kernel_rfl) trivial trivial) ?_ a hF
              have hS14 := hS13.bring 3 rfl
              have hS15 := hS14.bring 3 rfl
              have hS16 := hS15.bring 2 rfl
              have hS17 := hS16.bring 3 rfl
              obtain rfl := Option.some.inj h
              exact go_fin2 fun a hF => hQ _ _ _ (Outs.again ⟨b5, b6, hS17, hF.weaken ⟨by kernel_rfl, by kernel_rfl, by kernel_rfl, by kernel_rfl, trivial⟩⟩)
            exact go_nomore2
          exact go_nomore2
        exact go_nomore2
      refine go_alt2 (fun KK hKK => ?_) ?_
      · refine ge_one2 ?_
        refine ge_new (d := some 6) (o := .cells #[.int .i64 0] 3) (v := fun b => .pointer (some ⟨b, 0, none⟩)) hS5 (fun b => by kernel_rfl) fun b5 w4 hx4 hS6 => ?_
        refine ge_nil fun a hF => hKK _ _ (RS.of2 (l := [.loaded ⟨b1, 0, none⟩ (.slice A0 l0.length c0), .loaded ⟨b2, 0, none⟩ (.int .i64 x1), .loaded ⟨blkOf A0, offOf A0 + ((x1).toNat) * 4, none⟩ (.int .i64 e1.C), .loaded ⟨blkOf A0, offOf A0 + ((x1).toNat) * 4 + 1, none⟩ (.int .i64 e1.T), .loaded ⟨blkOf A0, offOf A0 + ((x1).toNat) * 4 + 2, none⟩ (.int .i64 e1.D), .loaded ⟨blkOf A0, offOf A0 + ((x1).toNat) * 4 + 3, none⟩ (.int .i64 e1.J), .loaded ⟨b1, 0, none⟩ (.slice A0 l0.length c0), .loaded ⟨b2, 0, none⟩ (.int .i64 x1)]) (by kernel_rfl) ⟨hS5.cell 1 rfl rfl, hS5.cell 0 rfl rfl, RdL.cell (j := 0) (hS5.rd hR0) hx3 rfl, RdL.cell (j := 1) (hS5.rd hR0) hx3 rfl, RdL.cell (j := 2) (hS5.rd hR0) hx3 rfl, RdL.cell (j := 3) (hS5.rd hR0) hx3 rfl, hS5.cell 1 rfl rfl, hS5.cell 0 rfl rfl, trivial⟩ ⟨hS6.cell 2 rfl rfl, hS6.cell 1 rfl rfl, RdL.cell (j := 0) (hS6.rd hR0) hx3 rfl, RdL.cell (j := 1) (hS6.rd hR0) hx3 rfl, RdL.cell (j := 2) (hS6.rd hR0) hx3 rfl, RdL.cell (j := 3) (hS6.rd hR0) hx3 rfl, hS6.cell 2 rfl rfl, hS6.cell 1 rfl rfl, trivial⟩) ?_ a hF
        refine go_alt2 (fun KK hKK => ?_) ?_
        · refine ge_one2 ?_
          refine ge_new (d := some 5) (o := .cells #[.int .i64 0, .int .i64 0, .int .i64 0, .int .i64 0] 30) (v := fun b => .pointer (some ⟨b, 0, none⟩)) hS6 (fun b => by kernel_rfl) fun b6 w5 hx5 hS7 => ?_
          refine ge_nil fun a hF => hKK _ _ (RS.of2 (l := [.loaded ⟨b1, 0, none⟩ (.slice A0 l0.length c0), .loaded ⟨b2, 0, none⟩ (.int .i64 x1), .loaded ⟨blkOf A0, offOf A0 + ((x1).toNat) * 4, none⟩ (.int .i64 e1.C), .loaded ⟨blkOf A0, offOf A0 + ((x1).toNat) * 4 + 1, none⟩ (.int .i64 e1.T), .loaded ⟨blkOf A0, offOf A0 + ((x1).toNat) * 4 + 2, none⟩ (.int .i64 e1.D), .loaded ⟨blkOf A0, offOf A0 + ((x1).toNat) * 4 + 3, none⟩ (.int .i64 e1.J), .loaded ⟨b1, 0, none⟩ (.slice A0 l0.length c0), .loaded ⟨b2, 0, none⟩ (.int .i64 x1)]) (by kernel_rfl) ⟨hS6.cell 2 rfl rfl, hS6.cell 1 rfl rfl, RdL.cell (j := 0) (hS6.rd hR0) hx3 rfl, RdL.cell (j := 1) (hS6.rd hR0) hx3 rfl, RdL.cell (j := 2) (hS6.rd hR0) hx3 rfl, RdL.cell (j := 3) (hS6.rd hR0) hx3 rfl, hS6.cell 2 rfl rfl, hS6.cell 1 rfl rfl, trivial⟩ ⟨hS7.cell 3 rfl rfl, hS7.cell 2 rfl rfl, RdL.cell (j := 0) (hS7.rd hR0) hx3 rfl, RdL.cell (j := 1) (hS7.rd hR0) hx3 rfl, RdL.cell (j := 2) (hS7.rd hR0) hx3 rfl, RdL.cell (j := 3) (hS7.rd hR0) hx3 rfl, hS7.cell 3 rfl rfl, hS7.cell 2 rfl rfl, trivial⟩) ?_ a hF
          refine go_alt2 (fun KK hKK => ?_) ?_
          · refine ge_set (b := b6) (j := 0) (cs := #[.int .i64 0, .int .i64 0, .int .i64 0, .int .i64 0]) (t := 30) (vs := [.int .i64 e1.C, .int .i64 e1.T, .int .i64 e1.D, .int .i64 e1.J]) hS7 (by kernel_rfl) rfl rfl fun w6 hS8 => ?_
            have hS9 : St w0 w6 [Own.blk b6 (.cells #[.int .i64 e1.C, .int .i64 e1.T, .int .i64 e1.D, .int .i64 e1.J] 30 (0, 0)), Own.blk b5 (.cells #[.int .i64 0] 3 (0, 0)), Own.blk b2 (.cells #[.int .i64 x1] 3 (0, 0)), Own.blk b1 (.cells #[.slice A0 l0.length c0] 22 (0, 0))] := hS8
            refine ge_nil fun a hF => hKK _ _ (RS.of2 (l := [.loaded ⟨b1, 0, none⟩ (.slice A0 l0.length c0), .loaded ⟨b2, 0, none⟩ (.int .i64 x1)]) (by kernel_rfl) ⟨hS7.cell 3 rfl rfl, hS7.cell 2 rfl rfl, trivial⟩ ⟨hS9.cell 3 rfl rfl, hS9.cell 2 rfl rfl, trivial⟩) ?_ a hF
            refine go_alt2 (fun KK hKK => ?_) ?_
            · have hS10 := hS9.bring 1 rfl
              refine ge_set (b := b5) (j := 0) (cs := #[.int .i64 0]) (t := 3) (vs := [.int .i64 r1]) hS10 (by kernel_rfl) rfl rfl fun w7 hS11 => ?_
              have hS12 : St w0 w7 [Own.blk b5 (.cells #[.int .i64 r1] 3 (0, 0)), Own.blk b6 (.cells #[.int .i64 e1.C, .int .i64 e1.T, .int .i64 e1.D, .int .i64 e1.J] 30 (0, 0)), Own.blk b2 (.cells #[.int .i64 x1] 3 (0, 0)), Own.blk b1 (.cells #[.slice A0 l0.length c0] 22 (0, 0))] := hS11
              refine ge_nil fun a hF => hKK _ _ (RS.of2 (l := []) (by kernel_rfl) trivial trivial) ?_ a hF
              have hS13 := hS12.bring 3 rfl
              have hS14 := hS13.bring 3 rfl
              have hS15 := hS14.bring 2 rfl
              have hS16 := hS15.bring 3 rfl
              obtain rfl := Option.some.inj h
              exact go_fin2 fun a hF => hQ _ _ _ (Outs.again ⟨b6, b5, hS16, hF.weaken ⟨by kernel_rfl, by kernel_rfl, by kernel_rfl, by kernel_rfl, trivial⟩⟩)
            exact go_nomore2
          exact go_nomore2
        exact go_nomore2
      exact go_nomore2
    refine go_alt2 (fun KK hKK => ?_) ?_
    · refine ge_one2 ?_
      refine ge_new (d := some 5) (o := .cells #[.int .i64 0, .int .i64 0, .int .i64 0, .int .i64 0] 30) (v := fun b => .pointer (some ⟨b, 0, none⟩)) hS3 (fun b => by kernel_rfl) fun b5 w3 hx4 hS4 => ?_
      refine ge_nil fun a hF => hKK _ _ (RS.of2 (l := [.loaded ⟨b1, 0, none⟩ (.slice A0 l0.length c0), .loaded ⟨b2, 0, none⟩ (.int .i64 x1), .loaded ⟨blkOf A0, offOf A0 + ((x1).toNat) * 4, none⟩ (.int .i64 e1.C), .loaded ⟨blkOf A0, offOf A0 + ((x1).toNat) * 4 + 1, none⟩ (.int .i64 e1.T), .loaded ⟨blkOf A0, offOf A0 + ((x1).toNat) * 4 + 2, none⟩ (.int .i64 e1.D), .loaded ⟨blkOf A0, offOf A0 + ((x1).toNat) * 4 + 3, none⟩ (.int .i64 e1.J), .loaded ⟨b1, 0, none⟩ (.slice A0 l0.length c0), .loaded ⟨b2, 0, none⟩ (.int .i64 x1)]) (by kernel_rfl) ⟨hS3.cell 1 rfl rfl, hS3.cell 0 rfl rfl, RdL.cell (j := 0) (hS3.rd hR0) hx3 rfl, RdL.cell (j := 1) (hS3.rd hR0) hx3 rfl, RdL.cell (j := 2) (hS3.rd hR0) hx3 rfl, RdL.cell (j := 3) (hS3.rd hR0) hx3 rfl, hS3.cell 1 rfl rfl, hS3.cell 0 rfl rfl, trivial⟩ ⟨hS4.cell 2 rfl rfl, hS4.cell 1 rfl rfl, RdL.cell (j := 0) (hS4.rd hR0) hx3 rfl, RdL.cell (j := 1) (hS4.rd hR0) hx3 rfl, RdL.cell (j := 2) (hS4.rd hR0) hx3 rfl, RdL.cell (j := 3) (hS4.rd hR0) hx3 rfl, hS4.cell 2 rfl rfl, hS4.cell 1 rfl rfl, trivial⟩) ?_ a hF
      refine go_alt2 (fun KK hKK => ?_) ?_
      · refine ge_one2 ?_
        rcases hq1 : net_held.f K l0 x1 with _ | r1
        · rw [hq1] at h; cases h
        rw [hq1] at h
        simp only [] at h
        refine ge_call (d := some 17) (f := 166) (args := #[.slice A0 l0.length c0, .int .i64 x1]) (by kernel_rfl) (net_held_ok K l0 A0 c0 x1 _ (hS4.rd hR0) hL0 _ hq1) ?_
        rintro _ w4 ⟨rfl, hS5⟩
        refine ⟨_, rfl, hS5.below, ?_⟩
        have hS6 := hS4.call hS5
        refine ge_nil fun a hF => hKK _ _ (RS.of2 (l := [.loaded ⟨b1, 0, none⟩ (.slice A0 l0.length c0), .loaded ⟨b2, 0, none⟩ (.int .i64 x1), .loaded ⟨blkOf A0, offOf A0 + ((x1).toNat) * 4, none⟩ (.int .i64 e1.C), .loaded ⟨blkOf A0, offOf A0 + ((x1).toNat) * 4 + 1, none⟩ (.int .i64 e1.T), .loaded ⟨blkOf A0, offOf A0 + ((x1).toNat) * 4 + 2, none⟩ (.int .i64 e1.D), .loaded ⟨blkOf A0, offOf A0 + ((x1).toNat) * 4 + 3, none⟩ (.int .i64 e1.J)]) (by kernel_rfl) ⟨hS4.cell 2 rfl rfl, hS4.cell 1 rfl rfl, RdL.cell (j := 0) (hS4.rd hR0) hx3 rfl, RdL.cell (j := 1) (hS4.rd hR0) hx3 rfl, RdL.cell (j := 2) (hS4.rd hR0) hx3 rfl, RdL.cell (j := 3) (hS4.rd hR0) hx3 rfl, trivial⟩ ⟨hS6.cell 2 rfl rfl, hS6.cell 1 rfl rfl, RdL.cell (j := 0) (hS6.rd hR0) hx3 rfl, RdL.cell (j := 1) (hS6.rd hR0) hx3 rfl, RdL.cell (j := 2) (hS6.rd hR0) hx3 rfl, RdL.cell (j := 3) (hS6.rd hR0) hx3 rfl, trivial⟩) ?_ a hF
        refine go_alt2 (fun KK hKK => ?_) ?_
        · refine ge_one2 ?_
          refine ge_new (d := some 6) (o := .cells #[.int .i64 0] 3) (v := fun b => .pointer (some ⟨b, 0, none⟩)) hS6 (fun b => by kernel_rfl) fun b6 w5 hx5 hS7 => ?_
          refine ge_nil fun a hF => hKK _ _ (RS.of2 (l := [.loaded ⟨b1, 0, none⟩ (.slice A0 l0.length c0), .loaded ⟨b2, 0, none⟩ (.int .i64 x1), .loaded ⟨blkOf A0, offOf A0 + ((x1).toNat) * 4, none⟩ (.int .i64 e1.C), .loaded ⟨blkOf A0, offOf A0 + ((x1).toNat) * 4 + 1, none⟩ (.int .i64 e1.T), .loaded ⟨blkOf A0, offOf A0 + ((x1).toNat) * 4 + 2, none⟩ (.int .i64 e1.D), .loaded ⟨blkOf A0, offOf A0 + ((x1).toNat) * 4 + 3, none⟩ (.int .i64 e1.J), .loaded ⟨b1, 0, none⟩ (.slice A0 l0.length c0), .loaded ⟨b2, 0, none⟩ (.int .i64 x1)]) (by kernel_rfl) ⟨hS6.cell 2 rfl rfl, hS6.cell 1 rfl rfl, RdL.cell (j := 0) (hS6.rd hR0) hx3 rfl, RdL.cell (j := 1) (hS6.rd hR0) hx3 rfl, RdL.cell (j := 2) (hS6.rd hR0) hx3 rfl, RdL.cell (j := 3) (hS6.rd hR0) hx3 rfl, hS6.cell 2 rfl rfl, hS6.cell 1 rfl rfl, trivial⟩ ⟨hS7.cell 3 rfl rfl, hS7.cell 2 rfl rfl, RdL.cell (j := 0) (hS7.rd hR0) hx3 rfl, RdL.cell (j := 1) (hS7.rd hR0) hx3 rfl, RdL.cell (j := 2) (hS7.rd hR0) hx3 rfl, RdL.cell (j := 3) (hS7.rd hR0) hx3 rfl, hS7.cell 3 rfl rfl, hS7.cell 2 rfl rfl, trivial⟩) ?_ a hF
          refine go_alt2 (fun KK hKK => ?_) ?_
          · have hS8 := hS7.bring 1 rfl
            refine ge_set (b := b5) (j := 0) (cs := #[.int .i64 0, .int .i64 0, .int .i64 0, .int .i64 0]) (t := 30) (vs := [.int .i64 e1.C, .int .i64 e1.T, .int .i64 e1.D, .int .i64 e1.J]) hS8 (by kernel_rfl) rfl rfl fun w6 hS9 => ?_
            have hS10 : St w0 w6 [Own.blk b5 (.cells #[.int .i64 e1.C, .int .i64 e1.T, .int .i64 e1.D, .int .i64 e1.J] 30 (0, 0)), Own.blk b6 (.cells #[.int .i64 0] 3 (0, 0)), Own.blk b2 (.cells #[.int .i64 x1] 3 (0, 0)), Own.blk b1 (.cells #[.slice A0 l0.length c0] 22 (0, 0))] := hS9
            refine ge_nil fun a hF => hKK _ _ (RS.of2 (l := [.loaded ⟨b1, 0, none⟩ (.slice A0 l0.length c0), .loaded ⟨b2, 0, none⟩ (.int .i64 x1)]) (by kernel_rfl) ⟨hS7.cell 3 rfl rfl, hS7.cell 2 rfl rfl, trivial⟩ ⟨hS10.cell 3 rfl rfl, hS10.cell 2 rfl rfl, trivial⟩) ?_ a hF
            refine go_alt2 (fun KK hKK => ?_) ?_
            · have hS11 := hS10.bring 1 rfl
              refine ge_set (b := b6) (j := 0) (cs := #[.int .i64 0]) (t := 3) (vs := [.int .i64 r1]) hS11 (by kernel_rfl) rfl rfl fun w7 hS12 => ?_
              have hS13 : St w0 w7 [Own.blk b6 (.cells #[.int .i64 r1] 3 (0, 0)), Own.blk b5 (.cells #[.int .i64 e1.C, .int .i64 e1.T, .int .i64 e1.D, .int .i64 e1.J] 30 (0, 0)), Own.blk b2 (.cells #[.int .i64 x1] 3 (0, 0)), Own.blk b1 (.cells #[.slice A0 l0.length c0] 22 (0, 0))] := hS12
              refine ge_nil fun a hF => hKK _ _ (RS.of2 (l := []) (by kernel_rfl) trivial trivial) ?_ a hF
              have hS14 := hS13.bring 3 rfl
              have hS15 := hS14.bring 3 rfl
              have hS16 := hS15.bring 2 rfl
              have hS17 := hS16.bring 3 rfl
              obtain rfl := Option.some.inj h
              exact go_fin2 fun a hF => hQ _ _ _ (Outs.again ⟨b5, b6, hS17, hF.weaken ⟨by kernel_rfl, by kernel_rfl, by kernel_rfl, by kernel_rfl, trivial⟩⟩)
            exact go_nomore2
          exact go_nomore2
        exact go_nomore2
      refine go_alt2 (fun KK hKK => ?_) ?_
      · refine ge_one2 ?_
        refine ge_new (d := some 6) (o := .cells #[.int .i64 0] 3) (v := fun b => .pointer (some ⟨b, 0, none⟩)) hS4 (fun b => by kernel_rfl) fun b6 w4 hx5 hS5 => ?_
        refine ge_nil fun a hF => hKK _ _ (RS.of2 (l := [.loaded ⟨b1, 0, none⟩ (.slice A0 l0.length c0), .loaded ⟨b2, 0, none⟩ (.int .i64 x1), .loaded ⟨blkOf A0, offOf A0 + ((x1).toNat) * 4, none⟩ (.int .i64 e1.C), .loaded ⟨blkOf A0, offOf A0 + ((x1).toNat) * 4 + 1, none⟩ (.int .i64 e1.T), .loaded ⟨blkOf A0, offOf A0 + ((x1).toNat) * 4 + 2, none⟩ (.int .i64 e1.D), .loaded ⟨blkOf A0, offOf A0 + ((x1).toNat) * 4 + 3, none⟩ (.int .i64 e1.J), .loaded ⟨b1, 0, none⟩ (.slice A0 l0.length c0), .loaded ⟨b2, 0, none⟩ (.int .i64 x1)]) (by kernel_rfl) ⟨hS4.cell 2 rfl rfl, hS4.cell 1 rfl rfl, RdL.cell (j := 0) (hS4.rd hR0) hx3 rfl, RdL.cell (j := 1) (hS4.rd hR0) hx3 rfl, RdL.cell (j := 2) (hS4.rd hR0) hx3 rfl, RdL.cell (j := 3) (hS4.rd hR0) hx3 rfl, hS4.cell 2 rfl rfl, hS4.cell 1 rfl rfl, trivial⟩ ⟨hS5.cell 3 rfl rfl, hS5.cell 2 rfl rfl, RdL.cell (j := 0) (hS5.rd hR0) hx3 rfl, RdL.cell (j := 1) (hS5.rd hR0) hx3 rfl, RdL.cell (j := 2) (hS5.rd hR0) hx3 rfl, RdL.cell (j := 3) (hS5.rd hR0) hx3 rfl, hS5.cell 3 rfl rfl, hS5.cell 2 rfl rfl, trivial⟩) ?_ a hF
        refine go_alt2 (fun KK hKK => ?_) ?_
        · refine ge_one2 ?_
          rcases hq1 : net_held.f K l0 x1 with _ | r1
          · rw [hq1] at h; cases h
          rw [hq1] at h
          simp only [] at h
          refine ge_call (d := some 17) (f := 166) (args := #[.slice A0 l0.length c0, .int .i64 x1]) (by kernel_rfl) (net_held_ok K l0 A0 c0 x1 _ (hS5.rd hR0) hL0 _ hq1) ?_
          rintro _ w5 ⟨rfl, hS6⟩
          refine ⟨_, rfl, hS6.below, ?_⟩
          have hS7 := hS5.call hS6
          refine ge_nil fun a hF => hKK _ _ (RS.of2 (l := [.loaded ⟨b1, 0, none⟩ (.slice A0 l0.length c0), .loaded ⟨b2, 0, none⟩ (.int .i64 x1), .loaded ⟨blkOf A0, offOf A0 + ((x1).toNat) * 4, none⟩ (.int .i64 e1.C), .loaded ⟨blkOf A0, offOf A0 + ((x1).toNat) * 4 + 1, none⟩ (.int .i64 e1.T), .loaded ⟨blkOf A0, offOf A0 + ((x1).toNat) * 4 + 2, none⟩ (.int .i64 e1.D), .loaded ⟨blkOf A0, offOf A0 + ((x1).toNat) * 4 + 3, none⟩ (.int .i64 e1.J)]) (by kernel_rfl) ⟨hS5.cell 3 rfl rfl, hS5.cell 2 rfl rfl, RdL.cell (j := 0) (hS5.rd hR0) hx3 rfl, RdL.cell (j := 1) (hS5.rd hR0) hx3 rfl, RdL.cell (j := 2) (hS5.rd hR0) hx3 rfl, RdL.cell (j := 3) (hS5.rd hR0) hx3 rfl, trivial⟩ ⟨hS7.cell 3 rfl rfl, hS7.cell 2 rfl rfl, RdL.cell (j := 0) (hS7.rd hR0) hx3 rfl, RdL.cell (j := 1) (hS7.rd hR0) hx3 rfl, RdL.cell (j := 2) (hS7.rd hR0) hx3 rfl, RdL.cell (j := 3) (hS7.rd hR0) hx3 rfl, trivial⟩) ?_ a hF
          refine go_alt2 (fun KK hKK => ?_) ?_
          · have hS8 := hS7.bring 1 rfl
            refine ge_set (b := b5) (j := 0) (cs := #[.int .i64 0, .int .i64 0, .int .i64 0, .int .i64 0]) (t := 30) (vs := [.int .i64 e1.C, .int .i64 e1.T, .int .i64 e1.D, .int .i64 e1.J]) hS8 (by kernel_rfl) rfl rfl fun w6 hS9 => ?_
            have hS10 : St w0 w6 [Own.blk b5 (.cells #[.int .i64 e1.C, .int .i64 e1.T, .int .i64 e1.D, .int .i64 e1.J] 30 (0, 0)), Own.blk b6 (.cells #[.int .i64 0] 3 (0, 0)), Own.blk b2 (.cells #[.int .i64 x1] 3 (0, 0)), Own.blk b1 (.cells #[.slice A0 l0.length c0] 22 (0, 0))] := hS9
            refine ge_nil fun a hF => hKK _ _ (RS.of2 (l := [.loaded ⟨b1, 0, none⟩ (.slice A0 l0.length c0), .loaded ⟨b2, 0, none⟩ (.int .i64 x1)]) (by kernel_rfl) ⟨hS7.cell 3 rfl rfl, hS7.cell 2 rfl rfl, trivial⟩ ⟨hS10.cell 3 rfl rfl, hS10.cell 2 rfl rfl, trivial⟩) ?_ a hF
            refine go_alt2 (fun KK hKK => ?_) ?_
            · have hS11 := hS10.bring 1 rfl
              refine ge_set (b := b6) (j := 0) (cs := #[.int .i64 0]) (t := 3) (vs := [.int .i64 r1]) hS11 (by kernel_rfl) rfl rfl fun w7 hS12 => ?_
              have hS13 : St w0 w7 [Own.blk b6 (.cells #[.int .i64 r1] 3 (0, 0)), Own.blk b5 (.cells #[.int .i64 e1.C, .int .i64 e1.T, .int .i64 e1.D, .int .i64 e1.J] 30 (0, 0)), Own.blk b2 (.cells #[.int .i64 x1] 3 (0, 0)), Own.blk b1 (.cells #[.slice A0 l0.length c0] 22 (0, 0))] := hS12
              refine ge_nil fun a hF => hKK _ _ (RS.of2 (l := []) (by kernel_rfl) trivial trivial) ?_ a hF
              have hS14 := hS13.bring 3 rfl
              have hS15 := hS14.bring 3 rfl
              have hS16 := hS15.bring 2 rfl
              have hS17 := hS16.bring 3 rfl
              obtain rfl := Option.some.inj h
              exact go_fin2 fun a hF => hQ _ _ _ (Outs.again ⟨b5, b6, hS17, hF.weaken ⟨by kernel_rfl, by kernel_rfl, by kernel_rfl, by kernel_rfl, trivial⟩⟩)
            exact go_nomore2
          exact go_nomore2
        exact go_nomore2
      exact go_nomore2
    refine go_alt2 (fun KK hKK => ?_) ?_
    · refine ge_one2 ?_
      refine ge_new (d := some 6) (o := .cells #[.int .i64 0] 3) (v := fun b => .pointer (some ⟨b, 0, none⟩)) hS3 (fun b => by kernel_rfl) fun b5 w3 hx4 hS4 => ?_
      refine ge_nil fun a hF => hKK _ _ (RS.of2 (l := [.loaded ⟨b1, 0, none⟩ (.slice A0 l0.length c0), .loaded ⟨b2, 0, none⟩ (.int .i64 x1), .loaded ⟨blkOf A0, offOf A0 + ((x1).toNat) * 4, none⟩ (.int .i64 e1.C), .loaded ⟨blkOf A0, offOf A0 + ((x1).toNat) * 4 + 1, none⟩ (.int .i64 e1.T), .loaded ⟨blkOf A0, offOf A0 + ((x1).toNat) * 4 + 2, none⟩ (.int .i64 e1.D), .loaded ⟨blkOf A0, offOf A0 + ((x1).toNat) * 4 + 3, none⟩ (.int .i64 e1.J), .loaded ⟨b1, 0, none⟩ (.slice A0 l0.length c0), .loaded ⟨b2, 0, none⟩ (.int .i64 x1)]) (by kernel_rfl) ⟨hS3.cell 1 rfl rfl, hS3.cell 0 rfl rfl, RdL.cell (j := 0) (hS3.rd hR0) hx3 rfl, RdL.cell (j := 1) (hS3.rd hR0) hx3 rfl, RdL.cell (j := 2) (hS3.rd hR0) hx3 rfl, RdL.cell (j := 3) (hS3.rd hR0) hx3 rfl, hS3.cell 1 rfl rfl, hS3.cell 0 rfl rfl, trivial⟩ ⟨hS4.cell 2 rfl rfl, hS4.cell 1 rfl rfl, RdL.cell (j := 0) (hS4.rd hR0) hx3 rfl, RdL.cell (j := 1) (hS4.rd hR0) hx3 rfl, RdL.cell (j := 2) (hS4.rd hR0) hx3 rfl, RdL.cell (j := 3) (hS4.rd hR0) hx3 rfl, hS4.cell 2 rfl rfl, hS4.cell 1 rfl rfl, trivial⟩) ?_ a hF
      refine go_alt2 (fun KK hKK => ?_) ?_
      · refine ge_one2 ?_
        rcases hq1 : net_held.f K l0 x1 with _ | r1
        · rw [hq1] at h; cases h
        rw [hq1] at h
        simp only [] at h
        refine ge_call (d := some 17) (f := 166) (args := #[.slice A0 l0.length c0, .int .i64 x1]) (by kernel_rfl) (net_held_ok K l0 A0 c0 x1 _ (hS4.rd hR0) hL0 _ hq1) ?_
        rintro _ w4 ⟨rfl, hS5⟩
        refine ⟨_, rfl, hS5.below, ?_⟩
        have hS6 := hS4.call hS5
        refine ge_nil fun a hF => hKK _ _ (RS.of2 (l := [.loaded ⟨b1, 0, none⟩ (.slice A0 l0.length c0), .loaded ⟨b2, 0, none⟩ (.int .i64 x1), .loaded ⟨blkOf A0, offOf A0 + ((x1).toNat) * 4, none⟩ (.int .i64 e1.C), .loaded ⟨blkOf A0, offOf A0 + ((x1).toNat) * 4 + 1, none⟩ (.int .i64 e1.T), .loaded ⟨blkOf A0, offOf A0 + ((x1).toNat) * 4 + 2, none⟩ (.int .i64 e1.D), .loaded ⟨blkOf A0, offOf A0 + ((x1).toNat) * 4 + 3, none⟩ (.int .i64 e1.J)]) (by kernel_rfl) ⟨hS4.cell 2 rfl rfl, hS4.cell 1 rfl rfl, RdL.cell (j := 0) (hS4.rd hR0) hx3 rfl, RdL.cell (j := 1) (hS4.rd hR0) hx3 rfl, RdL.cell (j := 2) (hS4.rd hR0) hx3 rfl, RdL.cell (j := 3) (hS4.rd hR0) hx3 rfl, trivial⟩ ⟨hS6.cell 2 rfl rfl, hS6.cell 1 rfl rfl, RdL.cell (j := 0) (hS6.rd hR0) hx3 rfl, RdL.cell (j := 1) (hS6.rd hR0) hx3 rfl, RdL.cell (j := 2) (hS6.rd hR0) hx3 rfl, RdL.cell (j := 3) (hS6.rd hR0) hx3 rfl, trivial⟩) ?_ a hF
        refine go_alt2 (fun KK hKK => ?_) ?_
        · refine ge_one2 ?_
          refine ge_new (d := some 5) (o := .cells #[.int .i64 0, .int .i64 0, .int .i64 0, .int .i64 0] 30) (v := fun b => .pointer (some ⟨b, 0, none⟩)) hS6 (fun b => by kernel_rfl) fun b6 w5 hx5 hS7 => ?_
          refine ge_nil fun a hF => hKK _ _ (RS.of2 (l := [.loaded ⟨b1, 0, none⟩ (.slice A0 l0.length c0), .loaded ⟨b2, 0, none⟩ (.int .i64 x1), .loaded ⟨blkOf A0, offOf A0 + ((x1).toNat) * 4, none⟩ (.int .i64 e1.C), .loaded ⟨blkOf A0, offOf A0 + ((x1).toNat) * 4 + 1, none⟩ (.int .i64 e1.T), .loaded ⟨blkOf A0, offOf A0 + ((x1).toNat) * 4 + 2, none⟩ (.int .i64 e1.D), .loaded ⟨blkOf A0, offOf A0 + ((x1).toNat) * 4 + 3, none⟩ (.int .i64 e1.J), .loaded ⟨b1, 0, none⟩ (.slice A0 l0.length c0), .loaded ⟨b2, 0, none⟩ (.int .i64 x1)]) (by kernel_rfl) ⟨hS6.cell 2 rfl rfl, hS6.cell 1 rfl rfl, RdL.cell (j := 0) (hS6.rd hR0) hx3 rfl, RdL.cell (j := 1) (hS6.rd hR0) hx3 rfl, RdL.cell (j := 2) (hS6.rd hR0) hx3 rfl, RdL.cell (j := 3) (hS6.rd hR0) hx3 rfl, hS6.cell 2 rfl rfl, hS6.cell 1 rfl rfl, trivial⟩ ⟨hS7.cell 3 rfl rfl, hS7.cell 2 rfl rfl, RdL.cell (j := 0) (hS7.rd hR0) hx3 rfl, RdL.cell (j := 1) (hS7.rd hR0) hx3 rfl, RdL.cell (j := 2) (hS7.rd hR0) hx3 rfl, RdL.cell (j := 3) (hS7.rd hR0) hx3 rfl, hS7.cell 3 rfl rfl, hS7.cell 2 rfl rfl, trivial⟩) ?_ a hF
          refine go_alt2 (fun KK hKK => ?_) ?_
          · refine ge_set (b := b6) (j := 0) (cs := #[.int .i64 0, .int .i64 0, .int .i64 0, .int .i64 0]) (t := 30) (vs := [.int .i64 e1.C, .int .i64 e1.T, .int .i64 e1.D, .int .i64 e1.J]) hS7 (by kernel_rfl) rfl rfl fun w6 hS8 => ?_
            have hS9 : St w0 w6 [Own.blk b6 (.cells #[.int .i64 e1.C, .int .i64 e1.T, .int .i64 e1.D, .int .i64 e1.J] 30 (0, 0)), Own.blk b5 (.cells #[.int .i64 0] 3 (0, 0)), Own.blk b2 (.cells #[.int .i64 x1] 3 (0, 0)), Own.blk b1 (.cells #[.slice A0 l0.length c0] 22 (0, 0))] := hS8
            refine ge_nil fun a hF => hKK _ _ (RS.of2 (l := [.loaded ⟨b1, 0, none⟩ (.slice A0 l0.length c0), .loaded ⟨b2, 0, none⟩ (.int .i64 x1)]) (by kernel_rfl) ⟨hS7.cell 3 rfl rfl, hS7.cell 2 rfl rfl, trivial⟩ ⟨hS9.cell 3 rfl rfl, hS9.cell 2 rfl rfl, trivial⟩) ?_ a hF
            refine go_alt2 (fun KK hKK => ?_) ?_
            · have hS10 := hS9.bring 1 rfl
              refine ge_set (b := b5) (j := 0) (cs := #[.int .i64 0]) (t := 3) (vs := [.int .i64 r1]) hS10 (by kernel_rfl) rfl rfl fun w7 hS11 => ?_
              have hS12 : St w0 w7 [Own.blk b5 (.cells #[.int .i64 r1] 3 (0, 0)), Own.blk b6 (.cells #[.int .i64 e1.C, .int .i64 e1.T, .int .i64 e1.D, .int .i64 e1.J] 30 (0, 0)), Own.blk b2 (.cells #[.int .i64 x1] 3 (0, 0)), Own.blk b1 (.cells #[.slice A0 l0.length c0] 22 (0, 0))] := hS11
              refine ge_nil fun a hF => hKK _ _ (RS.of2 (l := []) (by kernel_rfl) trivial trivial) ?_ a hF
              have hS13 := hS12.bring 3 rfl
              have hS14 := hS13.bring 3 rfl
              have hS15 := hS14.bring 2 rfl
              have hS16 := hS15.bring 3 rfl
              obtain rfl := Option.some.inj h
              exact go_fin2 fun a hF => hQ _ _ _ (Outs.again ⟨b6, b5, hS16, hF.weaken ⟨by kernel_rfl, by kernel_rfl, by kernel_rfl, by kernel_rfl, trivial⟩⟩)
            exact go_nomore2
          exact go_nomore2
        exact go_nomore2
      refine go_alt2 (fun KK hKK => ?_) ?_
      · refine ge_one2 ?_
        refine ge_new (d := some 5) (o := .cells #[.int .i64 0, .int .i64 0, .int .i64 0, .int .i64 0] 30) (v := fun b => .pointer (some ⟨b, 0, none⟩)) hS4 (fun b => by kernel_rfl) fun b6 w4 hx5 hS5 => ?_
        refine ge_nil fun a hF => hKK _ _ (RS.of2 (l := [.loaded ⟨b1, 0, none⟩ (.slice A0 l0.length c0), .loaded ⟨b2, 0, none⟩ (.int .i64 x1), .loaded ⟨blkOf A0, offOf A0 + ((x1).toNat) * 4, none⟩ (.int .i64 e1.C), .loaded ⟨blkOf A0, offOf A0 + ((x1).toNat) * 4 + 1, none⟩ (.int .i64 e1.T), .loaded ⟨blkOf A0, offOf A0 + ((x1).toNat) * 4 + 2, none⟩ (.int .i64 e1.D), .loaded ⟨blkOf A0, offOf A0 + ((x1).toNat) * 4 + 3, none⟩ (.int .i64 e1.J), .loaded ⟨b1, 0, none⟩ (.slice A0 l0.length c0), .loaded ⟨b2, 0, none⟩ (.int .i64 x1)]) (by kernel_rfl) ⟨hS4.cell 2 rfl rfl, hS4.cell 1 rfl rfl, RdL.cell (j := 0) (hS4.rd hR0) hx3 rfl, RdL.cell (j := 1) (hS4.rd hR0) hx3 rfl, RdL.cell (j := 2) (hS4.rd hR0) hx3 rfl, RdL.cell (j := 3) (hS4.rd hR0) hx3 rfl, hS4.cell 2 rfl rfl, hS4.cell 1 rfl rfl, trivial⟩ ⟨hS5.cell 3 rfl rfl, hS5.cell 2 rfl rfl, RdL.cell (j := 0) (hS5.rd hR0) hx3 rfl, RdL.cell (j := 1) (hS5.rd hR0) hx3 rfl, RdL.cell (j := 2) (hS5.rd hR0) hx3 rfl, RdL.cell (j := 3) (hS5.rd hR0) hx3 rfl, hS5.cell 3 rfl rfl, hS5.cell 2 rfl rfl, trivial⟩) ?_ a hF
        refine go_alt2 (fun KK hKK => ?_) ?_
        · refine ge_one2 ?_
          rcases hq1 : net_held.f K l0 x1 with _ | r1
          · rw [hq1] at h; cases h
          rw [hq1] at h
          simp only [] at h
          refine ge_call (d := some 17) (f := 166) (args := #[.slice A0 l0.length c0, .int .i64 x1]) (by kernel_rfl) (net_held_ok K l0 A0 c0 x1 _ (hS5.rd hR0) hL0 _ hq1) ?_
          rintro _ w5 ⟨rfl, hS6⟩
          refine ⟨_, rfl, hS6.below, ?_⟩
          have hS7 := hS5.call hS6
          refine ge_nil fun a hF => hKK _ _ (RS.of2 (l := [.loaded ⟨b1, 0, none⟩ (.slice A0 l0.length c0), .loaded ⟨b2, 0, none⟩ (.int .i64 x1), .loaded ⟨blkOf A0, offOf A0 + ((x1).toNat) * 4, none⟩ (.int .i64 e1.C), .loaded ⟨blkOf A0, offOf A0 + ((x1).toNat) * 4 + 1, none⟩ (.int .i64 e1.T), .loaded ⟨blkOf A0, offOf A0 + ((x1).toNat) * 4 + 2, none⟩ (.int .i64 e1.D), .loaded ⟨blkOf A0, offOf A0 + ((x1).toNat) * 4 + 3, none⟩ (.int .i64 e1.J)]) (by kernel_rfl) ⟨hS5.cell 3 rfl rfl, hS5.cell 2 rfl rfl, RdL.cell (j := 0) (hS5.rd hR0) hx3 rfl, RdL.cell (j := 1) (hS5.rd hR0) hx3 rfl, RdL.cell (j := 2) (hS5.rd hR0) hx3 rfl, RdL.cell (j := 3) (hS5.rd hR0) hx3 rfl, trivial⟩ ⟨hS7.cell 3 rfl rfl, hS7.cell 2 rfl rfl, RdL.cell (j := 0) (hS7.rd hR0) hx3 rfl, RdL.cell (j := 1) (hS7.rd hR0) hx3 rfl, RdL.cell (j := 2) (hS7.rd hR0) hx3 rfl, RdL.cell (j := 3) (hS7.rd hR0) hx3 rfl, trivial⟩) ?_ a hF
          refine go_alt2 (fun KK hKK => ?_) ?_
          · refine ge_set (b := b6) (j := 0) (cs := #[.int .i64 0, .int .i64 0, .int .i64 0, .int .i64 0]) (t := 30) (vs := [.int .i64 e1.C, .int .i64 e1.T, .int .i64 e1.D, .int .i64 e1.J]) hS7 (by kernel_rfl) rfl rfl fun w6 hS8 => ?_
            have hS9 : St w0 w6 [Own.blk b6 (.cells #[.int .i64 e1.C, .int .i64 e1.T, .int .i64 e1.D, .int .i64 e1.J] 30 (0, 0)), Own.blk b5 (.cells #[.int .i64 0] 3 (0, 0)), Own.blk b2 (.cells #[.int .i64 x1] 3 (0, 0)), Own.blk b1 (.cells #[.slice A0 l0.length c0] 22 (0, 0))] := hS8
            refine ge_nil fun a hF => hKK _ _ (RS.of2 (l := [.loaded ⟨b1, 0, none⟩ (.slice A0 l0.length c0), .loaded ⟨b2, 0, none⟩ (.int .i64 x1)]) (by kernel_rfl) ⟨hS7.cell 3 rfl rfl, hS7.cell 2 rfl rfl, trivial⟩ ⟨hS9.cell 3 rfl rfl, hS9.cell 2 rfl rfl, trivial⟩) ?_ a hF
            refine go_alt2 (fun KK hKK => ?_) ?_
            · have hS10 := hS9.bring 1 rfl
              refine ge_set (b := b5) (j := 0) (cs := #[.int .i64 0]) (t := 3) (vs := [.int .i64 r1]) hS10 (by kernel_rfl) rfl rfl fun w7 hS11 => ?_
              have hS12 : St w0 w7 [Own.blk b5 (.cells #[.int .i64 r1] 3 (0, 0)), Own.blk b6 (.cells #[.int .i64 e1.C, .int .i64 e1.T, .int .i64 e1.D, .int .i64 e1.J] 30 (0, 0)), Own.blk b2 (.cells #[.int .i64 x1] 3 (0, 0)), Own.blk b1 (.cells #[.slice A0 l0.length c0] 22 (0, 0))] := hS11
              refine ge_nil fun a hF => hKK _ _ (RS.of2 (l := []) (by kernel_rfl) trivial trivial) ?_ a hF
              have hS13 := hS12.bring 3 rfl
              have hS14 := hS13.bring 3 rfl
              have hS15 := hS14.bring 2 rfl
              have hS16 := hS15.bring 3 rfl
              obtain rfl := Option.some.inj h
              exact go_fin2 fun a hF => hQ _ _ _ (Outs.again ⟨b6, b5, hS16, hF.weaken ⟨by kernel_rfl, by kernel_rfl, by kernel_rfl, by kernel_rfl, trivial⟩⟩)
            exact go_nomore2
          exact go_nomore2
        exact go_nomore2
      exact go_nomore2
    exact go_nomore2
  · rw [if_neg hc1] at h
    cases h
abbrev net_time.A1 (K : Nat) (w0 : World) (l0 : List SFrame) (A0 : Option Addr) (c0 : Nat) (x1 : Int) (hR0 : RdL w0 A0 l0) (hL0 : l0.length ≤ c0) (b1 : Nat) (b2 : Nat) (b7 : Nat) (b8 : Nat) (z6 : Int) (z7 : Int) (z8 : Int) (z9 : Int) (z10 : Int) (r2 : Int) (hc2 : ¬ (r2 < 0)) (r3 : Int) : (Int × Int) → Act → World → Prop := fun (s : Int × Int) a w => St w0 w [Own.blk b7 (.cells #[.int .i64 z6, .int .i64 z7, .int .i64 z8, .int .i64 z9] 30 (0, 0)), Own.blk b8 (.cells #[.int .i64 z10] 3 (0, 0)), Own.blk b2 (.cells #[.int .i64 x1] 3 (0, 0)), Own.blk b1 (.cells #[.slice A0 l0.length c0] 22 (0, 0))] ∧ Frm 62 a [(2, .pointer (some ⟨b1, 0, none⟩)), (3, .pointer (some ⟨b2, 0, none⟩)), (5, .pointer (some ⟨b7, 0, none⟩)), (6, .pointer (some ⟨b8, 0, none⟩)), (8, .int .i64 s.1), (32, .int .i64 r3), (33, .int .i64 s.2)]
abbrev net_time.B1 (K : Nat) (w0 : World) (l0 : List SFrame) (A0 : Option Addr) (c0 : Nat) (x1 : Int) (hR0 : RdL w0 A0 l0) (hL0 : l0.length ≤ c0) (b1 : Nat) (b2 : Nat) (b7 : Nat) (b8 : Nat) (z6 : Int) (z7 : Int) (z8 : Int) (z9 : Int) (z10 : Int) (r2 : Int) (hc2 : ¬ (r2 < 0)) (r3 : Int) : (Int ⊕ Int) → Exit → Act → World → Prop := Exits 0 (fun (s : Int) a w => St w0 w [] ∧ Frm 62 a [(8, .int .i64 s)]) (Rets Tryd.prog Tryd.f132 (net_time.Post w0))
theorem net_time_r1 (K : Nat) (w0 : World) (l0 : List SFrame) (A0 : Option Addr) (c0 : Nat) (x1 : Int) (hR0 : RdL w0 A0 l0) (hL0 : l0.length ≤ c0) (b1 : Nat) (b2 : Nat) (b7 : Nat) (b8 : Nat) (z6 : Int) (z7 : Int) (z8 : Int) (z9 : Int) (z10 : Int) (r2 : Int) (hc2 : ¬ (r2 < 0)) (r3 : Int) (s : Int × Int) (o : (Int × Int) ⊕ (Int ⊕ Int)) (h : net_time.r1 K l0 x1 z6 z7 z8 z9 z10 r3 s = some o) (a : Act) (w : World) (hA : net_time.A1 K w0 l0 A0 c0 x1 hR0 hL0 b1 b2 b7 b8 z6 z7 z8 z9 z10 r2 hc2 r3 s a w) (Q : Exit → Act → World → Prop) (hQ : ∀ x a w, Outs (net_time.A1 K w0 l0 A0 c0 x1 hR0 hL0 b1 b2 b7 b8 z6 z7 z8 z9 z10 r2 hc2 r3) (net_time.B1 K w0 l0 A0 c0 x1 hR0 hL0 b1 b2 b7 b8 z6 z7 z8 z9 z10 r2 hc2 r3) o x a w → Q x a w) : (subF Tryd.f132 [1, 1, 1, 1, 1, 0, 1, 0, 0]).wp Tryd.prog Q a w := by
  obtain ⟨z11, z12⟩ := s
  obtain ⟨hS, hF⟩ := hA
  replace hS : St w0 w [Own.blk b7 (.cells #[.int .i64 z6, .int .i64 z7, .int .i64 z8, .int .i64 z9] 30 (0, 0)), Own.blk b8 (.cells #[.int .i64 z10] 3 (0, 0)), Own.blk b2 (.cells #[.int .i64 x1] 3 (0, 0)), Own.blk b1 (.cells #[.slice A0 l0.length c0] 22 (0, 0))] := hS
  simp only [net_time.r1] at h
  refine (?_ : WE Tryd.prog 62 (subF Tryd.f132 [1, 1, 1, 1, 1, 0, 1, 0, 0]) Q [(2, .pointer (some ⟨b1, 0, none⟩)), (3, .pointer (some ⟨b2, 0, none⟩)), (5, .pointer (some ⟨b7, 0, none⟩)), (6, .pointer (some ⟨b8, 0, none⟩)), (8, .int .i64 z11), (32, .int .i64 r3), (33, .int .i64 z12)] w) a hF
  clear hF a
  refine we_seq fun K10 hK10 => ?_
  refine we_region [(0, 0)] rfl ?_
  refine ge_batch [0] (ans := []) (vs := [(34, .bool (decide (z12 < r3)))]) (l := []) (by kernel_rfl) trivial ?_
  refine ge_nil fun a hF => hK10 _ _ ?_ a hF
  refine we_seq fun K11 hK11 => ?_
  by_cases hc3 : z12 < r3
  · rw [if_pos hc3] at h
    refine we_known (t := 34) (b := decide (z12 < r3)) (v := true) (by kernel_rfl) (decide_eq_true hc3) ?_
    refine we_true (by kernel_rfl) ?_
    refine we_skip fun a hF => hK11 _ _ ?_ a hF
    refine we_seq fun K12 hK12 => ?_
    refine we_block ?_
    refine we_seq fun K13 hK13 => ?_
    refine we_region [(0, 0), (1, 1), (2, 2)] rfl ?_
    refine ge_batch [0] (ans := []) (vs := [(35, .int .i64 z12)]) (l := []) (by kernel_rfl) trivial ?_
    refine ge_new (d := some 9) (o := .cells #[.int .i64 0] 3) (v := fun b => .pointer (some ⟨b, 0, none⟩)) hS (fun b => by kernel_rfl) fun b9 w11 hx6 hS27 => ?_
    refine ge_set (b := b9) (j := 0) (cs := #[.int .i64 0]) (t := 3) (vs := [.int .i64 z12]) hS27 (by kernel_rfl) rfl rfl fun w12 hS28 => ?_
    have hS29 : St w0 w12 [Own.blk b9 (.cells #[.int .i64 z12] 3 (0, 0)), Own.blk b7 (.cells #[.int .i64 z6, .int .i64 z7, .int .i64 z8, .int .i64 z9] 30 (0, 0)), Own.blk b8 (.cells #[.int .i64 z10] 3 (0, 0)), Own.blk b2 (.cells #[.int .i64 x1] 3 (0, 0)), Own.blk b1 (.cells #[.slice A0 l0.length c0] 22 (0, 0))] := hS28
    refine ge_nil fun a hF => hK13 _ _ ?_ a hF
    refine we_seq fun K14 hK14 => ?_
    refine we_region [(0, 0), (1, 0), (2, 0), (3, 0), (4, 0), (5, 0), (6, 0), (7, 1), (8, 0)] rfl ?_
    rcases hq5 : net_settle_1.f K (IntKind.i64.wrap (z10 + (IntKind.i64.wrap (z12 * z6)))) 100000 z10 z12 (⟨z6, z7, z8, z9⟩ : SFrame) l0 x1 with _ | r4
    · rw [hq5] at h; cases h
    rw [hq5] at h
    simp only [] at h
    refine ge_batch [0, 1, 2, 3, 4, 5, 6] (ans := [.val (.int .i64 z10), .val (.int .i64 z12), .val (.int .i64 z6)]) (vs := [(42, .func (.func 170) #[] #[.pointer (some ⟨b8, 0, none⟩), .pointer (some ⟨b9, 0, none⟩), .pointer (some ⟨b7, 0, none⟩), .pointer (some ⟨b1, 0, none⟩), .pointer (some ⟨b2, 0, none⟩)]), (41, .int .i64 (IntKind.i64.wrap (z10 + (IntKind.i64.wrap (z12 * z6))))), (40, .int .i64 (IntKind.i64.wrap (z12 * z6))), (39, .int .i64 z6), (38, .pointer (some ⟨b7, 0, none⟩)), (37, .int .i64 z12), (36, .int .i64 z10)]) (l := [.loaded ⟨b8, 0, none⟩ (.int .i64 z10), .loaded ⟨b9, 0, none⟩ (.int .i64 z12), .loaded ⟨b7, 0, none⟩ (.int .i64 z6)]) (by kernel_rfl) ⟨hS29.cell 2 rfl rfl, hS29.cell 0 rfl rfl, hS29.cell 1 rfl rfl, trivial⟩ ?_
    refine ge_call (d := some 43) (f := 167) (args := #[.int .i64 (IntKind.i64.wrap (z10 + (IntKind.i64.wrap (z12 * z6)))), .int .i64 100000, .func (.func 170) #[] #[.pointer (some ⟨b8, 0, none⟩), .pointer (some ⟨b9, 0, none⟩), .pointer (some ⟨b7, 0, none⟩), .pointer (some ⟨b1, 0, none⟩), .pointer (some ⟨b2, 0, none⟩)]]) (by kernel_rfl) (net_settle_1_ok K (IntKind.i64.wrap (z10 + (IntKind.i64.wrap (z12 * z6)))) 100000 b8 z10 b9 z12 b7 (⟨z6, z7, z8, z9⟩ : SFrame) b1 l0 A0 c0 b2 x1 _ (hS29.globOf 2 rfl) (hS29.globOf 0 rfl) (hS29.globOf 1 rfl) (hS29.rd hR0) hL0 (hS29.globOf 4 rfl) (hS29.globOf 3 rfl) _ hq5) ?_
    rintro _ w13 ⟨rfl, hS30⟩
    refine ⟨_, rfl, hS30.below, ?_⟩
    have hS31 := hS29.call hS30
    refine ge_batch [8] (ans := []) (vs := [(10, .int .i64 r4)]) (l := []) (by kernel_rfl) trivial ?_
    refine ge_nil fun a hF => hK14 _ _ ?_ a hF
    refine we_seq fun K15 hK15 => ?_
    refine we_seq fun K16 hK16 => ?_
    refine we_region [(0, 0), (1, 0)] rfl ?_
    refine ge_batch [0, 1] (ans := []) (vs := [(45, .bool (decide (r4 < 0))), (44, .int .i64 r4)]) (l := []) (by kernel_rfl) trivial ?_
    refine ge_nil fun a hF => hK16 _ _ ?_ a hF
    by_cases hc4 : r4 < 0
    · rw [if_pos hc4] at h
      refine we_known (t := 45) (b := decide (r4 < 0)) (v := true) (by kernel_rfl) (decide_eq_true hc4) ?_
      refine we_true (by kernel_rfl) ?_
      refine we_seq fun K17 hK17 => ?_
      refine we_region [(0, 0)] rfl ?_
      refine ge_batch [0] (ans := []) (vs := [(4, .int .i64 (-1))]) (l := []) (by kernel_rfl) trivial ?_
      refine ge_nil fun a hF => hK17 _ _ ?_ a hF
      have hS32 := hS31.takeN 0
      obtain rfl := Option.some.inj h
      exact we_ret fun a hF => hQ _ _ _ (Outs.out nofun (Exits.on ⟨rfl, (post_ret (rs := [.tmp 4]) (ans := []) (vs := [.int .i64 (-1)]) (l := []) rfl (by kernel_rfl) trivial ⟨rfl, hS32⟩) a hF⟩))
    · rw [if_neg hc4] at h
      refine we_known (t := 45) (b := decide (r4 < 0)) (v := false) (by kernel_rfl) (decide_eq_false hc4) ?_
      refine we_false (by kernel_rfl) ?_
      refine we_skip fun a hF => hK15 _ _ ?_ a hF
      refine we_region [(0, 0), (1, 0), (2, 0), (3, 0), (4, 0), (5, 0), (6, 0), (7, 0), (8, 0), (9, 0), (10, 0), (11, 0), (12, 0), (13, 0), (14, 0)] rfl ?_
      refine ge_batch [0, 1, 2, 3, 4, 5, 6, 7, 8, 9, 10, 11, 12, 13, 14] (ans := [.val (.int .i64 z9), .val (.int .i64 z12), .val (.int .i64 z7), .val (.int .i64 z6)]) (vs := [(8, .int .i64 (gmax z11 (IntKind.i64.wrap ((IntKind.i64.wrap ((IntKind.i64.wrap (z9 + r4)) - (IntKind.i64.wrap (z12 * z7)))) + z6)))), (59, .int .i64 (gmax z11 (IntKind.i64.wrap ((IntKind.i64.wrap ((IntKind.i64.wrap (z9 + r4)) - (IntKind.i64.wrap (z12 * z7)))) + z6)))), (58, .int .i64 (IntKind.i64.wrap ((IntKind.i64.wrap ((IntKind.i64.wrap (z9 + r4)) - (IntKind.i64.wrap (z12 * z7)))) + z6))), (57, .int .i64 z6), (56, .pointer (some ⟨b7, 0, none⟩)), (55, .int .i64 (IntKind.i64.wrap ((IntKind.i64.wrap (z9 + r4)) - (IntKind.i64.wrap (z12 * z7))))), (54, .int .i64 (IntKind.i64.wrap (z12 * z7))), (53, .int .i64 z7), (52, .pointer (some ⟨b7, 1, none⟩)), (51, .int .i64 z12), (50, .int .i64 (IntKind.i64.wrap (z9 + r4))), (49, .int .i64 r4), (48, .int .i64 z9), (47, .pointer (some ⟨b7, 3, none⟩)), (46, .int .i64 z11)]) (l := [.loaded ⟨b7, 3, none⟩ (.int .i64 z9), .loaded ⟨b9, 0, none⟩ (.int .i64 z12), .loaded ⟨b7, 1, none⟩ (.int .i64 z7), .loaded ⟨b7, 0, none⟩ (.int .i64 z6)]) (by kernel_rfl) ⟨hS31.cell 1 rfl rfl, hS31.cell 0 rfl rfl, hS31.cell 1 rfl rfl, hS31.cell 1 rfl rfl, trivial⟩ ?_
      refine ge_nil fun a hF => hK12 _ _ ?_ a hF
      refine we_region [(0, 0), (1, 0)] rfl ?_
      refine ge_batch [0, 1] (ans := []) (vs := [(33, .int .i64 (IntKind.i64.wrap (z12 + 1))), (60, .int .i64 (IntKind.i64.wrap (z12 + 1)))]) (l := []) (by kernel_rfl) trivial ?_
      have hS33 := hS31.bring 4 rfl
      have hS34 := hS33.bring 4 rfl
      have hS35 := hS34.bring 4 rfl
      have hS36 := hS35.bring 4 rfl
      have hS37 := hS36.takeN 4
      obtain rfl := Option.some.inj h
      exact ge_nil fun a hF => hQ _ _ _ (Outs.again ⟨hS37, hF.weaken ⟨by kernel_rfl, by kernel_rfl, by kernel_rfl, by kernel_rfl, by kernel_rfl, by kernel_rfl, by kernel_rfl, trivial⟩⟩)
  · rw [if_neg hc3] at h
    refine we_known (t := 34) (b := decide (z12 < r3)) (v := false) (by kernel_rfl) (decide_eq_false hc3) ?_
    refine we_false (by kernel_rfl) ?_
    have hS38 := hS.takeN 0
    obtain rfl := Option.some.inj h
    exact we_exit fun a hF => hQ _ _ _ (Outs.out nofun (Exits.here ⟨hS38, hF.weaken ⟨by kernel_rfl, trivial⟩⟩))
theorem net_time_ok (K : Nat) (l0 : List SFrame) (A0 : Option Addr) (c0 : Nat) (x1 : Int) (w0 : World) (hR0 : RdL w0 A0 l0) (hL0 : l0.length ≤ c0) (r : Int) (h : net_time.f K l0 x1 = some r) :
    Calls Tryd.prog 132 #[.slice A0 l0.length c0, .int .i64 x1] w0 (net_time.Post w0 r) := by
  have hS := St.start w0
  unfold net_time.f at h
  refine calls_enter (n := 62) (args := [.slice A0 l0.length c0, .int .i64 x1]) (fn := Tryd.f132) rfl rfl rfl rfl ?_
  show WE _ _ _ _ [(0, .slice A0 l0.length c0), (1, .int .i64 x1)] _
  refine we_seq fun K1 hK1 => ?_
  refine we_region [(0, 1), (1, 1), (2, 0)] rfl ?_
  refine ge_new (d := some 2) (o := .cells #[.slice A0 l0.length c0] 22) (v := fun b => .pointer (some ⟨b, 0, none⟩)) hS (fun b => by kernel_rfl) fun b1 w1 hx1 hS1 => ?_
  refine ge_new (d := some 3) (o := .cells #[.int .i64 x1] 3) (v := fun b => .pointer (some ⟨b, 0, none⟩)) hS1 (fun b => by kernel_rfl) fun b2 w2 hx2 hS2 => ?_
  refine ge_batch [2] (ans := []) (vs := [(4, .int .i64 0)]) (l := []) (by kernel_rfl) trivial ?_
  refine ge_nil fun a hF => hK1 _ _ ?_ a hF
  refine we_seq fun K2 hK2 => ?_
  rcases hq2 : net_time.p0 K l0 x1 with _ | (⟨z6, z7, z8, z9, z10⟩ | rr2)
  · rw [hq2] at h; cases h
  · rw [hq2] at h
    simp only [] at h
    refine we_keep (e' := [(0, .slice A0 l0.length c0), (1, .int .i64 x1), (2, .pointer (some ⟨b1, 0, none⟩)), (3, .pointer (some ⟨b2, 0, none⟩)), (4, .int .i64 0)]) ⟨by kernel_rfl, by kernel_rfl, by kernel_rfl, by kernel_rfl, by kernel_rfl, trivial⟩ (net_time_p0 K w0 l0 A0 c0 x1 hR0 hL0 b1 b2 _ hq2 _ hS2 _ ?_)
    rintro _ a w8 ⟨rfl, b7, b8, hS17, hF⟩
    replace hS17 : St w0 w8 [Own.blk b7 (.cells #[.int .i64 z6, .int .i64 z7, .int .i64 z8, .int .i64 z9] 30 (0, 0)), Own.blk b8 (.cells #[.int .i64 z10] 3 (0, 0)), Own.blk b2 (.cells #[.int .i64 x1] 3 (0, 0)), Own.blk b1 (.cells #[.slice A0 l0.length c0] 22 (0, 0))] := hS17
    refine hK2 [(2, .pointer (some ⟨b1, 0, none⟩)), (3, .pointer (some ⟨b2, 0, none⟩)), (5, .pointer (some ⟨b7, 0, none⟩)), (6, .pointer (some ⟨b8, 0, none⟩))] w8 ?_ a hF
    refine we_seq fun K3 hK3 => ?_
    refine we_region [(0, 0), (1, 0), (2, 0), (3, 0), (4, 0), (5, 1), (6, 0)] rfl ?_
    rcases hq3 : net_settle.f K (IntKind.i64.wrap (z10 + z6)) 100000 z10 l0 x1 with _ | r2
    · rw [hq3] at h; cases h
    rw [hq3] at h
    simp only [] at h
    refine ge_batch [0, 1, 2, 3, 4] (ans := [.val (.int .i64 z10), .val (.int .i64 z6)]) (vs := [(22, .func (.func 168) #[] #[.pointer (some ⟨b8, 0, none⟩), .pointer (some ⟨b1, 0, none⟩), .pointer (some ⟨b2, 0, none⟩)]), (21, .int .i64 (IntKind.i64.wrap (z10 + z6))), (20, .int .i64 z6), (19, .pointer (some ⟨b7, 0, none⟩)), (18, .int .i64 z10)]) (l := [.loaded ⟨b8, 0, none⟩ (.int .i64 z10), .loaded ⟨b7, 0, none⟩ (.int .i64 z6)]) (by kernel_rfl) ⟨hS17.cell 1 rfl rfl, hS17.cell 0 rfl rfl, trivial⟩ ?_
    refine ge_call (d := some 23) (f := 167) (args := #[.int .i64 (IntKind.i64.wrap (z10 + z6)), .int .i64 100000, .func (.func 168) #[] #[.pointer (some ⟨b8, 0, none⟩), .pointer (some ⟨b1, 0, none⟩), .pointer (some ⟨b2, 0, none⟩)]]) (by kernel_rfl) (net_settle_ok K (IntKind.i64.wrap (z10 + z6)) 100000 b8 z10 b1 l0 A0 c0 b2 x1 _ (hS17.globOf 1 rfl) (hS17.rd hR0) hL0 (hS17.globOf 3 rfl) (hS17.globOf 2 rfl) _ hq3) ?_
    rintro _ w9 ⟨rfl, hS18⟩
    refine ⟨_, rfl, hS18.below, ?_⟩
    have hS19 := hS17.call hS18
    refine ge_batch [6] (ans := []) (vs := [(7, .int .i64 r2)]) (l := []) (by kernel_rfl) trivial ?_
    refine ge_nil fun a hF => hK3 _ _ ?_ a hF
    refine we_seq fun K4 hK4 => ?_
    refine we_seq fun K5 hK5 => ?_
    refine we_region [(0, 0), (1, 0)] rfl ?_
    refine ge_batch [0, 1] (ans := []) (vs := [(25, .bool (decide (r2 < 0))), (24, .int .i64 r2)]) (l := []) (by kernel_rfl) trivial ?_
    refine ge_nil fun a hF => hK5 _ _ ?_ a hF
    by_cases hc2 : r2 < 0
    · rw [if_pos hc2] at h
      refine we_known (t := 25) (b := decide (r2 < 0)) (v := true) (by kernel_rfl) (decide_eq_true hc2) ?_
      refine we_true (by kernel_rfl) ?_
      refine we_seq fun K6 hK6 => ?_
      refine we_region [(0, 0)] rfl ?_
      refine ge_batch [0] (ans := []) (vs := [(4, .int .i64 (-1))]) (l := []) (by kernel_rfl) trivial ?_
      refine ge_nil fun a hF => hK6 _ _ ?_ a hF
      have hS20 := hS19.takeN 0
      obtain rfl := Option.some.inj h
      exact we_ret (post_ret (rs := [.tmp 4]) (ans := []) (vs := [.int .i64 (-1)]) (l := []) rfl (by kernel_rfl) trivial ⟨rfl, hS20⟩)
    · rw [if_neg hc2] at h
      refine we_known (t := 25) (b := decide (r2 < 0)) (v := false) (by kernel_rfl) (decide_eq_false hc2) ?_
      refine we_false (by kernel_rfl) ?_
      refine we_skip fun a hF => hK4 _ _ ?_ a hF
      refine we_seq fun K7 hK7 => ?_
      refine we_region [(0, 0)] rfl ?_
      refine ge_batch [0] (ans := []) (vs := [(8, .int .i64 0)]) (l := []) (by kernel_rfl) trivial ?_
      refine ge_nil fun a hF => hK7 _ _ ?_ a hF
      refine we_seq fun K8 hK8 => ?_
      refine we_seq fun K9 hK9 => ?_
      refine we_region [(0, 0), (1, 0), (2, 0), (3, 0), (4, 0), (5, 0), (6, 1), (7, 0)] rfl ?_
      rcases hq4 : net_ceil.f (IntKind.i64.wrap (r2 + z9)) z7 with _ | r3
      · rw [hq4] at h; cases h
      rw [hq4] at h
      simp only [] at h
      refine ge_batch [0, 1, 2, 3, 4, 5] (ans := [.val (.int .i64 z9), .val (.int .i64 z7)]) (vs := [(31, .int .i64 z7), (30, .pointer (some ⟨b7, 1, none⟩)), (29, .int .i64 (IntKind.i64.wrap (r2 + z9))), (28, .int .i64 z9), (27, .pointer (some ⟨b7, 3, none⟩)), (26, .int .i64 r2)]) (l := [.loaded ⟨b7, 3, none⟩ (.int .i64 z9), .loaded ⟨b7, 1, none⟩ (.int .i64 z7)]) (by kernel_rfl) ⟨hS19.cell 0 rfl rfl, hS19.cell 0 rfl rfl, trivial⟩ ?_
      refine ge_call (d := some 32) (f := 169) (args := #[.int .i64 (IntKind.i64.wrap (r2 + z9)), .int .i64 z7]) (by kernel_rfl) (net_ceil_ok (IntKind.i64.wrap (r2 + z9)) z7 _ _ hq4) ?_
      rintro _ w10 ⟨rfl, hS21⟩
      refine ⟨_, rfl, hS21.below, ?_⟩
      have hS22 := hS19.call hS21
      refine ge_batch [7] (ans := []) (vs := [(33, .int .i64 0)]) (l := []) (by kernel_rfl) trivial ?_
      refine ge_nil fun a hF => hK9 _ _ ?_ a hF
      refine we_block ?_
      have hS23 := hS22.bring 3 rfl
      have hS24 := hS23.bring 3 rfl
      have hS25 := hS24.bring 3 rfl
      have hS26 := hS25.bring 3 rfl
      rcases hq6 : iter (net_time.r1 K l0 x1 z6 z7 z8 z9 z10 r3) K (0, 0) with _ | (z14 | rr1)
      · rw [hq6] at h; cases h
      · rw [hq6] at h
        simp only [] at h
        refine we_iter (A := net_time.A1 K w0 l0 A0 c0 x1 hR0 hL0 b1 b2 b7 b8 z6 z7 z8 z9 z10 r2 hc2 r3) (B := net_time.B1 K w0 l0 A0 c0 x1 hR0 hL0 b1 b2 b7 b8 z6 z7 z8 z9 z10 r2 hc2 r3) hq6 (fun a hF => ⟨hS26, hF.weaken ⟨by kernel_rfl, by kernel_rfl, by kernel_rfl, by kernel_rfl, by kernel_rfl, by kernel_rfl, by kernel_rfl, trivial⟩⟩) (fun s o hf a w hA Q hQ => net_time_r1 K w0 l0 A0 c0 x1 hR0 hL0 b1 b2 b7 b8 z6 z7 z8 z9 z10 r2 hc2 r3 s o hf a w hA Q hQ) ?_
        rintro _ a w14 _ ⟨rfl, hS39, hF⟩
        replace hS39 : St w0 w14 [] := hS39
        refine hK8 [(8, .int .i64 z14)] w14 ?_ a hF
        refine we_seq fun K18 hK18 => ?_
        refine we_region [(0, 0), (1, 0)] rfl ?_
        refine ge_batch [0, 1] (ans := []) (vs := [(4, .int .i64 z14), (61, .int .i64 z14)]) (l := []) (by kernel_rfl) trivial ?_
        refine ge_nil fun a hF => hK18 _ _ ?_ a hF
        obtain rfl := Option.some.inj h
        exact we_ret (post_ret (rs := [.tmp 4]) (ans := []) (vs := [.int .i64 z14]) (l := []) rfl (by kernel_rfl) trivial ⟨rfl, hS39⟩)
      · rw [hq6] at h
        simp only [] at h
        refine we_iter (A := net_time.A1 K w0 l0 A0 c0 x1 hR0 hL0 b1 b2 b7 b8 z6 z7 z8 z9 z10 r2 hc2 r3) (B := net_time.B1 K w0 l0 A0 c0 x1 hR0 hL0 b1 b2 b7 b8 z6 z7 z8 z9 z10 r2 hc2 r3) hq6 (fun a hF => ⟨hS26, hF.weaken ⟨by kernel_rfl, by kernel_rfl, by kernel_rfl, by kernel_rfl, by kernel_rfl, by kernel_rfl, by kernel_rfl, trivial⟩⟩) (fun s o hf a w hA Q hQ => net_time_r1 K w0 l0 A0 c0 x1 hR0 hL0 b1 b2 b7 b8 z6 z7 z8 z9 z10 r2 hc2 r3 s o hf a w hA Q hQ) ?_
        rintro _ a w1 _ ⟨rfl, hb⟩
        obtain rfl := Option.some.inj h
        exact hb
  · rw [hq2] at h
    simp only [] at h
    refine we_keep (e' := [(0, .slice A0 l0.length c0), (1, .int .i64 x1), (2, .pointer (some ⟨b1, 0, none⟩)), (3, .pointer (some ⟨b2, 0, none⟩)), (4, .int .i64 0)]) ⟨by kernel_rfl, by kernel_rfl, by kernel_rfl, by kernel_rfl, by kernel_rfl, trivial⟩ (net_time_p0 K w0 l0 A0 c0 x1 hR0 hL0 b1 b2 _ hq2 _ hS2 _ ?_)
    rintro _ a w1 ⟨_, rfl, hb⟩
    obtain rfl := Option.some.inj h
    exact hb

/-! punctual/net.Times -/
abbrev net_Times.Post (w0 : World) (r : (List Int) × SFault) (e : Ending) (w : World) : Prop := ∃ (v0 : Value), e = .returned (.tuple #[v0, .agg #[.int .i64 r.2.Code, .int .i64 r.2.At]]) ∧ St w0 w [Own.of v0 3 r.1]
def net_Times.r0 (K : Nat) (l0 : List SFrame) : (List Int) × Nat → Option (((List Int) × Nat) ⊕ ((List Int) ⊕ ((List Int) × SFault)))
  | (m1, i1) =>
    if (i1 : Int) < (l0.length : Int) then
      match l0[i1]? with
      | none => none
      | some e1 =>
        match net_time.f K l0 (i1 : Int) with
        | none => none
        | some r2 =>
          if r2 < 0 then
            some (.inr (.inr (([] : List Int), (⟨13, (i1 : Int)⟩ : SFault))))
          else
            if r2 > e1.D then
              some (.inr (.inr (([] : List Int), (⟨13, (i1 : Int)⟩ : SFault))))
            else
              if m1.length < 17592186044416 then
                some (.inl ((m1 ++ [r2]), (i1 + 1)))
              else
                none
    else
      some (.inr (.inl m1))
def net_Times.f (K : Nat) (l0 : List SFrame) : Option ((List Int) × SFault) :=
  match net_Check.f K l0 with
  | none => none
  | some r1 =>
    if r1.Code = 0 then
      match iter (net_Times.r0 K l0) K (([] : List Int), 0) with
      | none => none
      | some (.inl m3) =>
        some (m3, (⟨0, 0⟩ : SFault))
      | some (.inr rr1) =>
        some rr1
    else
      some (([] : List Int), r1)
abbrev net_Times.A0 (K : Nat) (w0 : World) (l0 : List SFrame) (A0 : Option Addr) (c0 : Nat) (hR0 : RdL w0 A0 l0) (hL0 : l0.length ≤ c0) (b1 : Nat) (r1 : SFault) (b2 : Nat) (hc1 : r1.Code = 0) : ((List Int) × Nat) → Act → World → Prop := fun (s : (List Int) × Nat) a w => ∃ (v1 : Value), St w0 w [Own.blk b1 (.cells #[.int .i64 0, .int .i64 0] 39 (0, 0)), Own.of v1 3 s.1] ∧ Frm 42 a [(0, .slice A0 l0.length c0), (3, .pointer (some ⟨b1, 0, none⟩)), (5, v1), (15, .slice A0 l0.length c0), (16, .int .i64 (l0.length : Int)), (17, .int .i64 (s.2 : Int))]
abbrev net_Times.B0 (K : Nat) (w0 : World) (l0 : List SFrame) (A0 : Option Addr) (c0 : Nat) (hR0 : RdL w0 A0 l0) (hL0 : l0.length ≤ c0) (b1 : Nat) (r1 : SFault) (b2 : Nat) (hc1 : r1.Code = 0) : ((List Int) ⊕ ((List Int) × SFault)) → Exit → Act → World → Prop := Exits 0 (fun (s : (List Int)) a w => ∃ (v2 : Value), St w0 w [Own.blk b1 (.cells #[.int .i64 0, .int .i64 0] 39 (0, 0)), Own.of v2 3 s] ∧ Frm 42 a [(3, .pointer (some ⟨b1, 0, none⟩)), (5, v2)]) (Rets Tryd.prog Tryd.f70 (net_Times.Post w0))
theorem net_Times_r0 (K : Nat) (w0 : World) (l0 : List SFrame) (A0 : Option Addr) (c0 : Nat) (hR0 : RdL w0 A0 l0) (hL0 : l0.length ≤ c0) (b1 : Nat) (r1 : SFault) (b2 : Nat) (hc1 : r1.Code = 0) (s : (List Int) × Nat) (o : ((List Int) × Nat) ⊕ ((List Int) ⊕ ((List Int) × SFault))) (h : net_Times.r0 K l0 s = some o) (a : Act) (w : World) (hA : net_Times.A0 K w0 l0 A0 c0 hR0 hL0 b1 r1 b2 hc1 s a w) (Q : Exit → Act → World → Prop) (hQ : ∀ x a w, Outs (net_Times.A0 K w0 l0 A0 c0 hR0 hL0 b1 r1 b2 hc1) (net_Times.B0 K w0 l0 A0 c0 hR0 hL0 b1 r1 b2 hc1) o x a w → Q x a w) : (subF Tryd.f70 [1, 1, 1, 0, 1, 0, 0]).wp Tryd.prog Q a w := by
  obtain ⟨m1, i1⟩ := s
  obtain ⟨v1, hS, hF⟩ := hA
  replace hS : St w0 w [Own.blk b1 (.cells #[.int .i64 0, .int .i64 0] 39 (0, 0)), Own.of v1 3 m1] := hS
  simp only [net_Times.r0] at h
  refine (?_ : WE Tryd.prog 42 (subF Tryd.f70 [1, 1, 1, 0, 1, 0, 0]) Q [(0, .slice A0 l0.length c0), (3, .pointer (some ⟨b1, 0, none⟩)), (5, v1), (15, .slice A0 l0.length c0), (16, .int .i64 (l0.length : Int)), (17, .int .i64 (i1 : Int))] w) a hF
  clear hF a
  refine we_seq fun K8 hK8 => ?_
  refine we_region [(0, 0)] rfl ?_
  refine ge_batch [0] (ans := []) (vs := [(18, .bool (decide ((i1 : Int) < (l0.length : Int))))]) (l := []) (by kernel_rfl) trivial ?_
  refine ge_nil fun a hF => hK8 _ _ ?_ a hF
  refine we_seq fun K9 hK9 => ?_
  by_cases hc2 : (i1 : Int) < (l0.length : Int)
  · rw [if_pos hc2] at h
    refine we_known (t := 18) (b := decide ((i1 : Int) < (l0.length : Int))) (v := true) (by kernel_rfl) (decide_eq_true hc2) ?_
    refine we_true (by kernel_rfl) ?_
    refine we_skip fun a hF => hK9 _ _ ?_ a hF
    refine we_seq fun K10 hK10 => ?_
    refine we_block ?_
    refine we_seq fun K11 hK11 => ?_
    refine we_region [(0, 0), (1, 0), (2, 0), (3, 1), (4, 0), (5, 2)] rfl ?_
    refine ge_batch [0] (ans := []) (vs := [(19, .int .i64 (i1 : Int))]) (l := []) (by kernel_rfl) trivial ?_
    rcases hx3 : l0[i1]? with _ | e1
    · rw [hx3] at h; cases h
    rw [hx3] at h
    simp only [] at h
    refine ge_index (d := 20) (ty := 0) (t := 22) (el := 30) (sz := 4) (m := l0.length) (c := c0) (x := (.tmp 15)) (y := (.tmp 17)) (A := A0) (k' := .i64) (j := (i1 : Int)) (jn := i1) (b0 := blkOf A0) (o0 := offOf A0) (by kernel_rfl) (by kernel_rfl) (by kernel_rfl) (by kernel_rfl) (by kernel_rfl) ((hS.rd hR0).eqSome (pos_of_get hx3)) rfl (lt_of_get hx3) ?_
    refine ge_batch [2] (ans := [.val (.int .i64 e1.C), .val (.int .i64 e1.T), .val (.int .i64 e1.D), .val (.int .i64 e1.J)]) (vs := [(21, .agg #[.int .i64 e1.C, .int .i64 e1.T, .int .i64 e1.D, .int .i64 e1.J])]) (l := [.loaded ⟨blkOf A0, offOf A0 + i1 * 4, none⟩ (.int .i64 e1.C), .loaded ⟨blkOf A0, offOf A0 + i1 * 4 + 1, none⟩ (.int .i64 e1.T), .loaded ⟨blkOf A0, offOf A0 + i1 * 4 + 2, none⟩ (.int .i64 e1.D), .loaded ⟨blkOf A0, offOf A0 + i1 * 4 + 3, none⟩ (.int .i64 e1.J)]) (by kernel_rfl) ⟨RdL.cell (j := 0) (hS.rd hR0) hx3 rfl, RdL.cell (j := 1) (hS.rd hR0) hx3 rfl, RdL.cell (j := 2) (hS.rd hR0) hx3 rfl, RdL.cell (j := 3) (hS.rd hR0) hx3 rfl, trivial⟩ ?_
    refine ge_new (d := some 7) (o := .cells #[.int .i64 0, .int .i64 0, .int .i64 0, .int .i64 0] 30) (v := fun b => .pointer (some ⟨b, 0, none⟩)) hS (fun b => by kernel_rfl) fun b3 w5 hx4 hS10 => ?_
    refine ge_batch [4] (ans := []) (vs := [(6, .int .i64 (i1 : Int))]) (l := []) (by kernel_rfl) trivial ?_
    refine ge_set (b := b3) (j := 0) (cs := #[.int .i64 0, .int .i64 0, .int .i64 0, .int .i64 0]) (t := 30) (vs := [.int .i64 e1.C, .int .i64 e1.T, .int .i64 e1.D, .int .i64 e1.J]) hS10 (by kernel_rfl) rfl rfl fun w6 hS11 => ?_
    have hS12 : St w0 w6 [Own.blk b3 (.cells #[.int .i64 e1.C, .int .i64 e1.T, .int .i64 e1.D, .int .i64 e1.J] 30 (0, 0)), Own.blk b1 (.cells #[.int .i64 0, .int .i64 0] 39 (0, 0)), Own.of v1 3 m1] := hS11
    refine ge_nil fun a hF => hK11 _ _ ?_ a hF
    refine we_seq fun K12 hK12 => ?_
    refine we_region [(0, 0), (1, 0), (2, 1), (3, 0)] rfl ?_
    rcases hq2 : net_time.f K l0 (i1 : Int) with _ | r2
    · rw [hq2] at h; cases h
    rw [hq2] at h
    simp only [] at h
    refine ge_batch [0, 1] (ans := []) (vs := [(23, .int .i64 (i1 : Int)), (22, .slice A0 l0.length c0)]) (l := []) (by kernel_rfl) trivial ?_
    refine ge_call (d := some 24) (f := 132) (args := #[.slice A0 l0.length c0, .int .i64 (i1 : Int)]) (by kernel_rfl) (net_time_ok K l0 A0 c0 (i1 : Int) _ (hS12.rd hR0) hL0 _ hq2) ?_
    rintro _ w7 ⟨rfl, hS13⟩
    refine ⟨_, rfl, hS13.below, ?_⟩
    have hS14 := hS12.call hS13
    refine ge_batch [3] (ans := []) (vs := [(8, .int .i64 r2)]) (l := []) (by kernel_rfl) trivial ?_
    refine ge_nil fun a hF => hK12 _ _ ?_ a hF
    refine we_seq fun K13 hK13 => ?_
    refine we_seq fun K14 hK14 => ?_
    refine we_region [(0, 0), (1, 0), (2, 0), (3, 0), (4, 0), (5, 0), (6, 0), (7, 0)] rfl ?_
    refine ge_batch [0, 1, 2] (ans := []) (vs := [(27, .bool (decide (r2 < 0))), (26, .bool (decide (r2 < 0))), (25, .int .i64 r2)]) (l := []) (by kernel_rfl) trivial ?_
    by_cases hc3 : r2 < 0
    · rw [if_pos hc3] at h
      refine ge_known (t := 27) (b := decide (r2 < 0)) (c := true) (by kernel_rfl) (decide_eq_true hc3) ?_
      refine ge_batch [3, 4, 5, 6, 7] (ans := []) (vs := [(32, .bool true), (31, undef), (30, undef), (29, undef), (28, undef)]) (l := []) (by kernel_rfl) trivial ?_
      refine ge_nil fun a hF => hK14 _ _ ?_ a hF
      refine we_true (by kernel_rfl) ?_
      refine we_seq fun K15 hK15 => ?_
      refine we_region [(0, 0), (1, 0), (2, 0), (3, 2)] rfl ?_
      refine ge_batch [0, 1, 2] (ans := []) (vs := [(2, .slice none 0 0), (34, .agg #[.int .i64 13, .int .i64 (i1 : Int)]), (33, .int .i64 (i1 : Int))]) (l := []) (by kernel_rfl) trivial ?_
      have hS15 := hS14.bring 1 rfl
      refine ge_set (b := b1) (j := 0) (cs := #[.int .i64 0, .int .i64 0]) (t := 39) (vs := [.int .i64 13, .int .i64 (i1 : Int)]) hS15 (by kernel_rfl) rfl rfl fun w8 hS16 => ?_
      have hS17 : St w0 w8 [Own.blk b1 (.cells #[.int .i64 13, .int .i64 (i1 : Int)] 39 (0, 0)), Own.blk b3 (.cells #[.int .i64 e1.C, .int .i64 e1.T, .int .i64 e1.D, .int .i64 e1.J] 30 (0, 0)), Own.of v1 3 m1] := hS16
      refine ge_nil fun a hF => hK15 _ _ ?_ a hF
      have hS18 := hS17.nil (α := Int) 3
      have hS19 := hS18.takeN 1
      obtain rfl := Option.some.inj h
      exact we_ret fun a hF => hQ _ _ _ (Outs.out nofun (Exits.on ⟨rfl, (post_ret (rs := [.tmp 2, .cell 3 39]) (ans := [.val (.int .i64 13), .val (.int .i64 (i1 : Int))]) (vs := [(.slice none 0 0), .agg #[.int .i64 13, .int .i64 (i1 : Int)]]) (l := [.loaded ⟨b1, 0, none⟩ (.int .i64 13), .loaded ⟨b1, 1, none⟩ (.int .i64 (i1 : Int))]) rfl (by kernel_rfl) ⟨hS18.cell 1 rfl rfl, hS18.cell 1 rfl rfl, trivial⟩ ⟨(.slice none 0 0), rfl, hS19⟩) a hF⟩))
    · rw [if_neg hc3] at h
      refine ge_known (t := 27) (b := decide (r2 < 0)) (c := false) (by kernel_rfl) (decide_eq_false hc3) ?_
      refine ge_batch [3, 4, 5, 6, 7] (ans := [.val (.int .i64 e1.D)]) (vs := [(32, .bool (decide (r2 > e1.D))), (31, .bool (decide (r2 > e1.D))), (30, .int .i64 e1.D), (29, .pointer (some ⟨b3, 2, none⟩)), (28, .int .i64 r2)]) (l := [.loaded ⟨b3, 2, none⟩ (.int .i64 e1.D)]) (by kernel_rfl) ⟨hS14.cell 0 rfl rfl, trivial⟩ ?_
      refine ge_nil fun a hF => hK14 _ _ ?_ a hF
      by_cases hc4 : r2 > e1.D
      · rw [if_pos hc4] at h
        refine we_known (t := 32) (b := decide (r2 > e1.D)) (v := true) (by kernel_rfl) (decide_eq_true hc4) ?_
        refine we_true (by kernel_rfl) ?_
        refine we_seq fun K16 hK16 => ?_
        refine we_region [(0, 0), (1, 0), (2, 0), (3, 2)] rfl ?_
        refine ge_batch [0, 1, 2] (ans := []) (vs := [(2, .slice none 0 0), (34, .agg #[.int .i64 13, .int .i64 (i1 : Int)]), (33, .int .i64 (i1 : Int))]) (l := []) (by kernel_rfl) trivial ?_
        have hS20 := hS14.bring 1 rfl
        refine ge_set (b := b1) (j := 0) (cs := #[.int .i64 0, .int .i64 0]) (t := 39) (vs := [.int .i64 13, .int .i64 (i1 : Int)]) hS20 (by kernel_rfl) rfl rfl fun w9 hS21 => ?_
        have hS22 : St w0 w9 [Own.blk b1 (.cells #[.int .i64 13, .int .i64 (i1 : Int)] 39 (0, 0)), Own.blk b3 (.cells #[.int .i64 e1.C, .int .i64 e1.T, .int .i64 e1.D, .int .i64 e1.J] 30 (0, 0)), Own.of v1 3 m1] := hS21
        refine ge_nil fun a hF => hK16 _ _ ?_ a hF
        have hS23 := hS22.nil (α := Int) 3
        have hS24 := hS23.takeN 1
        obtain rfl := Option.some.inj h
        exact we_ret fun a hF => hQ _ _ _ (Outs.out nofun (Exits.on ⟨rfl, (post_ret (rs := [.tmp 2, .cell 3 39]) (ans := [.val (.int .i64 13), .val (.int .i64 (i1 : Int))]) (vs := [(.slice none 0 0), .agg #[.int .i64 13, .int .i64 (i1 : Int)]]) (l := [.loaded ⟨b1, 0, none⟩ (.int .i64 13), .loaded ⟨b1, 1, none⟩ (.int .i64 (i1 : Int))]) rfl (by kernel_rfl) ⟨hS23.cell 1 rfl rfl, hS23.cell 1 rfl rfl, trivial⟩ ⟨(.slice none 0 0), rfl, hS24⟩) a hF⟩))
      · rw [if_neg hc4] at h
        refine we_known (t := 32) (b := decide (r2 > e1.D)) (v := false) (by kernel_rfl) (decide_eq_false hc4) ?_
        refine we_false (by kernel_rfl) ?_
        refine we_skip fun a hF => hK13 _ _ ?_ a hF
        refine we_region [(0, 0), (1, 0), (2, 1), (3, 2), (4, 0)] rfl ?_
        refine ge_batch [0, 1] (ans := []) (vs := [(36, .int .i64 r2), (35, v1)]) (l := []) (by kernel_rfl) trivial ?_
        refine ge_new (d := some 37) (o := .cells #[.int .i64 r2] 3) (v := fun b => .slice (some ⟨b, 0, none⟩) 1 1) hS14 (fun b => by kernel_rfl) fun b4 w10 hx5 hS25 => ?_
        have hS26 := hS25.bring 3 rfl
        by_cases hc5 : m1.length < 17592186044416
        · rw [if_pos hc5] at h
          refine ge_append (α := Int) (m := 0) (d := 38) (t := 24) (el := 3) (bytes := 8) (c1 := 1) (b1 := b4) (x := (.tmp 35)) (y := (.tmp 37)) (ty := 24) (v := v1) (z := .int .i64 0) (l := m1) (u := r2) (by kernel_rfl) (by kernel_rfl) (by kernel_rfl) (by kernel_rfl) (by kernel_rfl) rfl hS26 rfl (by omega) fun v3 w11 hS27 => ?_
          refine ge_batch [4] (ans := []) (vs := [(5, v3)]) (l := []) (by kernel_rfl) trivial ?_
          refine ge_nil fun a hF => hK10 _ _ ?_ a hF
          refine we_region [(0, 0), (1, 0)] rfl ?_
          refine ge_addn (d := 39) (ty := 3) (x := (.tmp 17)) (y := (.const (.int .i64 1))) (t := 3) (t2 := 3) (k := .i64) (m := i1) (by kernel_rfl) (by kernel_rfl) (by kernel_rfl) (by have h0 := hR0.small; omega) ?_
          refine ge_batch [1] (ans := []) (vs := [(17, .int .i64 ((i1 + 1 : Nat) : Int))]) (l := []) (by kernel_rfl) trivial ?_
          have hS28 := hS27.bring 2 rfl
          have hS29 := hS28.takeN 2
          obtain rfl := Option.some.inj h
          exact ge_nil fun a hF => hQ _ _ _ (Outs.again ⟨v3, hS29, hF.weaken ⟨by kernel_rfl, by kernel_rfl, by kernel_rfl, by kernel_rfl, by kernel_rfl, by kernel_rfl, trivial⟩⟩)
        · rw [if_neg hc5] at h
          cases h
  · rw [if_neg hc2] at h
    refine we_known (t := 18) (b := decide ((i1 : Int) < (l0.length : Int))) (v := false) (by kernel_rfl) (decide_eq_false hc2) ?_
    refine we_false (by kernel_rfl) ?_
    have hS30 := hS.bring 1 rfl
    have hS31 := hS30.bring 1 rfl
    obtain rfl := Option.some.inj h
    exact we_exit fun a hF => hQ _ _ _ (Outs.out nofun (Exits.here ⟨v1, hS31, hF.weaken ⟨by kernel_rfl, by kernel_rfl, trivial⟩⟩))
theorem net_Times_ok (K : Nat) (l0 : List SFrame) (A0 : Option Addr) (c0 : Nat) (w0 : World) (hR0 : RdL w0 A0 l0) (hL0 : l0.length ≤ c0) (r : (List Int) × SFault) (h : net_Times.f K l0 = some r) :
    Calls Tryd.prog 70 #[.slice A0 l0.length c0] w0 (net_Times.Post w0 r) := by
  have hS := St.start w0
  unfold net_Times.f at h
  refine calls_enter (n := 42) (args := [.slice A0 l0.length c0]) (fn := Tryd.f70) rfl rfl rfl rfl ?_
  show WE _ _ _ _ [(0, .slice A0 l0.length c0)] _
  refine we_seq fun K1 hK1 => ?_
  refine we_region [(0, 0), (1, 1)] rfl ?_
  refine ge_batch [0] (ans := []) (vs := [(2, .slice none 0 0)]) (l := []) (by kernel_rfl) trivial ?_
  refine ge_new (d := some 3) (o := .cells #[.int .i64 0, .int .i64 0] 39) (v := fun b => .pointer (some ⟨b, 0, none⟩)) hS (fun b => by kernel_rfl) fun b1 w1 hx1 hS1 => ?_
  refine ge_nil fun a hF => hK1 _ _ ?_ a hF
  refine we_seq fun K2 hK2 => ?_
  refine we_seq fun K3 hK3 => ?_
  refine we_region [(0, 0), (1, 1), (2, 1), (3, 2)] rfl ?_
  rcases hq1 : net_Check.f K l0 with _ | r1
  · rw [hq1] at h; cases h
  rw [hq1] at h
  simp only [] at h
  refine ge_batch [0] (ans := []) (vs := [(9, .slice A0 l0.length c0)]) (l := []) (by kernel_rfl) trivial ?_
  refine ge_call (d := some 10) (f := 71) (args := #[.slice A0 l0.length c0]) (by kernel_rfl) (net_Check_ok K l0 A0 c0 _ (hS1.rd hR0) hL0 _ hq1) ?_
  rintro _ w2 ⟨rfl, hS2⟩
  refine ⟨_, rfl, hS2.below, ?_⟩
  have hS3 := hS1.call hS2
  refine ge_new (d := some 4) (o := .cells #[.int .i64 0, .int .i64 0] 39) (v := fun b => .pointer (some ⟨b, 0, none⟩)) hS3 (fun b => by kernel_rfl) fun b2 w3 hx2 hS4 => ?_
  refine ge_set (b := b2) (j := 0) (cs := #[.int .i64 0, .int .i64 0]) (t := 39) (vs := [.int .i64 r1.Code, .int .i64 r1.At]) hS4 (by kernel_rfl) rfl rfl fun w4 hS5 => ?_
  have hS6 : St w0 w4 [Own.blk b2 (.cells #[.int .i64 r1.Code, .int .i64 r1.At] 39 (0, 0)), Own.blk b1 (.cells #[.int .i64 0, .int .i64 0] 39 (0, 0))] := hS5
  refine ge_nil fun a hF => hK3 _ _ ?_ a hF
  refine we_seq fun K4 hK4 => ?_
  refine we_region [(0, 0), (1, 0), (2, 0)] rfl ?_
  refine ge_batch [0, 1, 2] (ans := [.val (.int .i64 r1.Code)]) (vs := [(13, .bool (r1.Code != 0)), (12, .int .i64 r1.Code), (11, .pointer (some ⟨b2, 0, none⟩))]) (l := [.loaded ⟨b2, 0, none⟩ (.int .i64 r1.Code)]) (by kernel_rfl) ⟨hS6.cell 0 rfl rfl, trivial⟩ ?_
  refine ge_nil fun a hF => hK4 _ _ ?_ a hF
  by_cases hc1 : r1.Code = 0
  · rw [if_pos hc1] at h
    refine we_known (t := 13) (b := (r1.Code != 0)) (v := false) (by kernel_rfl) (bne_eq_false_iff_eq.2 hc1) ?_
    refine we_false (by kernel_rfl) ?_
    refine we_skip fun a hF => hK2 _ _ ?_ a hF
    refine we_seq fun K5 hK5 => ?_
    refine we_region [(0, 0)] rfl ?_
    refine ge_batch [0] (ans := []) (vs := [(5, .slice none 0 0)]) (l := []) (by kernel_rfl) trivial ?_
    refine ge_nil fun a hF => hK5 _ _ ?_ a hF
    refine we_seq fun K6 hK6 => ?_
    refine we_seq fun K7 hK7 => ?_
    refine we_region [(0, 0), (1, 0), (2, 0)] rfl ?_
    refine ge_batch [0, 1, 2] (ans := []) (vs := [(17, .int .i64 0), (16, .int .i64 (l0.length : Int)), (15, .slice A0 l0.length c0)]) (l := []) (by kernel_rfl) trivial ?_
    refine ge_nil fun a hF => hK7 _ _ ?_ a hF
    refine we_block ?_
    have hS7 := hS6.nil (α := Int) 3
    have hS8 := hS7.bring 2 rfl
    have hS9 := hS8.takeN 2
    rcases hq3 : iter (net_Times.r0 K l0) K (([] : List Int), 0) with _ | (m3 | rr1)
    · rw [hq3] at h; cases h
    · rw [hq3] at h
      simp only [] at h
      refine we_iter (A := net_Times.A0 K w0 l0 A0 c0 hR0 hL0 b1 r1 b2 hc1) (B := net_Times.B0 K w0 l0 A0 c0 hR0 hL0 b1 r1 b2 hc1) hq3 (fun a hF => ⟨(.slice none 0 0), hS9, hF.weaken ⟨by kernel_rfl, by kernel_rfl, by kernel_rfl, by kernel_rfl, by kernel_rfl, by kernel_rfl, trivial⟩⟩) (fun s o hf a w hA Q hQ => net_Times_r0 K w0 l0 A0 c0 hR0 hL0 b1 r1 b2 hc1 s o hf a w hA Q hQ) ?_
      rintro _ a w12 _ ⟨rfl, v4, hS32, hF⟩
      replace hS32 : St w0 w12 [Own.blk b1 (.cells #[.int .i64 0, .int .i64 0] 39 (0, 0)), Own.of v4 3 m3] := hS32
      refine hK6 [(3, .pointer (some ⟨b1, 0, none⟩)), (5, v4)] w12 ?_ a hF
      refine we_seq fun K17 hK17 => ?_
      refine we_region [(0, 0), (1, 0), (2, 0), (3, 2)] rfl ?_
      refine ge_batch [0, 1, 2] (ans := []) (vs := [(2, v4), (41, .agg #[.int .i64 0, .int .i64 0]), (40, v4)]) (l := []) (by kernel_rfl) trivial ?_
      refine ge_set (b := b1) (j := 0) (cs := #[.int .i64 0, .int .i64 0]) (t := 39) (vs := [.int .i64 0, .int .i64 0]) hS32 (by kernel_rfl) rfl rfl fun w13 hS33 => ?_
      have hS34 : St w0 w13 [Own.blk b1 (.cells #[.int .i64 0, .int .i64 0] 39 (0, 0)), Own.of v4 3 m3] := hS33
      refine ge_nil fun a hF => hK17 _ _ ?_ a hF
      have hS35 := hS34.bring 1 rfl
      have hS36 := hS35.takeN 1
      obtain rfl := Option.some.inj h
      exact we_ret (post_ret (rs := [.tmp 2, .cell 3 39]) (ans := [.val (.int .i64 0), .val (.int .i64 0)]) (vs := [v4, .agg #[.int .i64 0, .int .i64 0]]) (l := [.loaded ⟨b1, 0, none⟩ (.int .i64 0), .loaded ⟨b1, 1, none⟩ (.int .i64 0)]) rfl (by kernel_rfl) ⟨hS34.cell 0 rfl rfl, hS34.cell 0 rfl rfl, trivial⟩ ⟨v4, rfl, hS36⟩)
    · rw [hq3] at h
      simp only [] at h
      refine we_iter (A := net_Times.A0 K w0 l0 A0 c0 hR0 hL0 b1 r1 b2 hc1) (B := net_Times.B0 K w0 l0 A0 c0 hR0 hL0 b1 r1 b2 hc1) hq3 (fun a hF => ⟨(.slice none 0 0), hS9, hF.weaken ⟨by kernel_rfl, by kernel_rfl, by kernel_rfl, by kernel_rfl, by kernel_rfl, by kernel_rfl, trivial⟩⟩) (fun s o hf a w hA Q hQ => net_Times_r0 K w0 l0 A0 c0 hR0 hL0 b1 r1 b2 hc1 s o hf a w hA Q hQ) ?_
      rintro _ a w1 _ ⟨rfl, hb⟩
      obtain rfl := Option.some.inj h
      exact hb
  · rw [if_neg hc1] at h
    refine we_known (t := 13) (b := (r1.Code != 0)) (v := true) (by kernel_rfl) (bne_iff_ne.2 hc1) ?_
    refine we_true (by kernel_rfl) ?_
    refine we_seq fun K18 hK18 => ?_
    refine we_draws (by kernel_rfl) [(0, 0), (1, 0), (2, 2)] (by kernel_rfl) ?_
    have hS37 := hS6.drew
    refine ge_batch [0, 1] (ans := [.val (.int .i64 r1.Code), .val (.int .i64 r1.At)]) (vs := [(2, .slice none 0 0), (14, .agg #[.int .i64 r1.Code, .int .i64 r1.At])]) (l := [.loaded ⟨b2, 0, none⟩ (.int .i64 r1.Code), .loaded ⟨b2, 1, none⟩ (.int .i64 r1.At)]) (by kernel_rfl) ⟨hS37.cell 0 rfl rfl, hS37.cell 0 rfl rfl, trivial⟩ ?_
    have hS38 := hS37.bring 1 rfl
    refine ge_set (b := b1) (j := 0) (cs := #[.int .i64 0, .int .i64 0]) (t := 39) (vs := [.int .i64 r1.Code, .int .i64 r1.At]) hS38 (by kernel_rfl) rfl rfl fun w14 hS39 => ?_
    have hS40 : St w0 w14 [Own.blk b1 (.cells #[.int .i64 r1.Code, .int .i64 r1.At] 39 (0, 0)), Own.blk b2 (.cells #[.int .i64 r1.Code, .int .i64 r1.At] 39 (0, 0))] := hS39
    refine ge_nil fun a hF => hK18 _ _ ?_ a hF
    have hS41 := hS40.nil (α := Int) 3
    have hS42 := hS41.takeN 1
    obtain rfl := Option.some.inj h
    exact we_ret (post_ret (rs := [.tmp 2, .cell 3 39]) (ans := [.val (.int .i64 r1.Code), .val (.int .i64 r1.At)]) (vs := [(.slice none 0 0), .agg #[.int .i64 r1.Code, .int .i64 r1.At]]) (l := [.loaded ⟨b1, 0, none⟩ (.int .i64 r1.Code), .loaded ⟨b1, 1, none⟩ (.int .i64 r1.At)]) rfl (by kernel_rfl) ⟨hS41.cell 1 rfl rfl, hS41.cell 1 rfl rfl, trivial⟩ ⟨(.slice none 0 0), rfl, hS42⟩)

structure SJob where
  Task : Int
  At : Int
  C : Int
  Due : Int
  P : Int
def SJob.eqb (x y : SJob) : Bool := ((x.Task == y.Task) && ((x.At == y.At) && ((x.C == y.C) && ((x.Due == y.Due) && ((x.P == y.P) && true)))))
instance : Ok SJob := ⟨fun x => Ok.ok x.Task ∧ Ok.ok x.At ∧ Ok.ok x.C ∧ Ok.ok x.Due ∧ Ok.ok x.P ∧ True⟩
instance : Flat SJob := ⟨5, fun x => [.int .i64 x.Task, .int .i64 x.At, .int .i64 x.C, .int .i64 x.Due, .int .i64 x.P], fun _ => rfl, fun _ => rfl, by decide⟩

/-! punctual/sched.Check -/
abbrev sched_Check.Post (w0 : World) (r : SFault) (e : Ending) (w : World) : Prop := e = .returned (.agg #[.int .i64 r.Code, .int .i64 r.At]) ∧ St w0 w []
def sched_Check.r0 (l0 : List SJob) : Nat → Option (Nat ⊕ (Unit ⊕ SFault))
  | i1 =>
    if (i1 : Int) < (l0.length : Int) then
      match l0[i1]? with
      | none => none
      | some e1 =>
        if e1.At < 0 then
          some (.inr (.inr (⟨3, (i1 : Int)⟩ : SFault)))
        else
          if e1.At > 60000 then
            some (.inr (.inr (⟨3, (i1 : Int)⟩ : SFault)))
          else
            if e1.C < 1 then
              some (.inr (.inr (⟨3, (i1 : Int)⟩ : SFault)))
            else
              if e1.C > 10000 then
                some (.inr (.inr (⟨3, (i1 : Int)⟩ : SFault)))
              else
                if e1.Due < 0 then
                  some (.inr (.inr (⟨3, (i1 : Int)⟩ : SFault)))
                else
                  if e1.Due > 80000 then
                    some (.inr (.inr (⟨3, (i1 : Int)⟩ : SFault)))
                  else
                    some (.inl (i1 + 1))
    else
      some (.inr (.inl ()))
def sched_Check.f (K : Nat) (l0 : List SJob) : Option SFault :=
  if (l0.length : Int) > 4000 then
    some (⟨2, 0⟩ : SFault)
  else
    match iter (sched_Check.r0 l0) K 0 with
    | none => none
    | some (.inl _) =>
      some (⟨0, 0⟩ : SFault)
    | some (.inr rr1) =>
      some rr1
abbrev sched_Check.A0 (K : Nat) (w0 : World) (l0 : List SJob) (A0 : Option Addr) (c0 : Nat) (hR0 : RdL w0 A0 l0) (hL0 : l0.length ≤ c0) (b1 : Nat) (hc1 : ¬ ((l0.length : Int) > 4000)) : Nat → Act → World → Prop := fun (s : Nat) a w => St w0 w [Own.blk b1 (.cells #[.int .i64 0, .int .i64 0] 39 (0, 0))] ∧ Frm 48 a [(2, .pointer (some ⟨b1, 0, none⟩)), (9, .slice A0 l0.length c0), (10, .int .i64 (l0.length : Int)), (11, .int .i64 (s : Int))]
abbrev sched_Check.B0 (K : Nat) (w0 : World) (l0 : List SJob) (A0 : Option Addr) (c0 : Nat) (hR0 : RdL w0 A0 l0) (hL0 : l0.length ≤ c0) (b1 : Nat) (hc1 : ¬ ((l0.length : Int) > 4000)) : (Unit ⊕ SFault) → Exit → Act → World → Prop := Exits 0 (fun (s : Unit) a w => St w0 w [Own.blk b1 (.cells #[.int .i64 0, .int .i64 0] 39 (0, 0))] ∧ Frm 48 a [(2, .pointer (some ⟨b1, 0, none⟩))]) (Rets Tryd.prog Tryd.f129 (sched_Check.Post w0))
theorem sched_Check_r0 (K : Nat) (w0 : World) (l0 : List SJob) (A0 : Option Addr) (c0 : Nat) (hR0 : RdL w0 A0 l0) (hL0 : l0.length ≤ c0) (b1 : Nat) (hc1 : ¬ ((l0.length : Int) > 4000)) (s : Nat) (o : Nat ⊕ (Unit ⊕ SFault)) (h : sched_Check.r0 l0 s = some o) (a : Act) (w : World) (hA : sched_Check.A0 K w0 l0 A0 c0 hR0 hL0 b1 hc1 s a w) (Q : Exit → Act → World → Prop) (hQ : ∀ x a w, Outs (sched_Check.A0 K w0 l0 A0 c0 hR0 hL0 b1 hc1) (sched_Check.B0 K w0 l0 A0 c0 hR0 hL0 b1 hc1) o x a w → Q x a w) : (subF Tryd.f129 [1, 1, 0, 1, 0, 0]).wp Tryd.prog Q a w := by
  obtain ⟨i1, hs⟩ : ∃ z, z = s := ⟨s, rfl⟩
  subst hs
  obtain ⟨hS, hF⟩ := hA
  replace hS : St w0 w [Own.blk b1 (.cells #[.int .i64 0, .int .i64 0] 39 (0, 0))] := hS
  simp only [sched_Check.r0] at h
  refine (?_ : WE Tryd.prog 48 (subF Tryd.f129 [1, 1, 0, 1, 0, 0]) Q [(2, .pointer (some ⟨b1, 0, none⟩)), (9, .slice A0 l0.length c0), (10, .int .i64 (l0.length : Int)), (11, .int .i64 (i1 : Int))] w) a hF
  clear hF a
  refine we_seq fun K7 hK7 => ?_
  refine we_region [(0, 0)] rfl ?_
  refine ge_batch [0] (ans := []) (vs := [(12, .bool (decide ((i1 : Int) < (l0.length : Int))))]) (l := []) (by kernel_rfl) trivial ?_
  refine ge_nil fun a hF => hK7 _ _ ?_ a hF
  refine we_seq fun K8 hK8 => ?_
  by_cases hc2 : (i1 : Int) < (l0.length : Int)
  · rw [if_pos hc2] at h
    refine we_known (t := 12) (b := decide ((i1 : Int) < (l0.length : Int))) (v := true) (by kernel_rfl) (decide_eq_true hc2) ?_
    refine we_true (by kernel_rfl) ?_
    refine we_skip fun a hF => hK8 _ _ ?_ a hF
    refine we_seq fun K9 hK9 => ?_
    refine we_block ?_
    refine we_seq fun K10 hK10 => ?_
    refine we_region [(0, 0), (1, 0), (2, 0), (3, 1), (4, 0), (5, 2)] rfl ?_
    refine ge_batch [0] (ans := []) (vs := [(13, .int .i64 (i1 : Int))]) (l := []) (by kernel_rfl) trivial ?_
    rcases hx2 : l0[i1]? with _ | e1
    · rw [hx2] at h; cases h
    rw [hx2] at h
    simp only [] at h
    refine ge_index (d := 14) (ty := 0) (t := 49) (el := 58) (sz := 5) (m := l0.length) (c := c0) (x := (.tmp 9)) (y := (.tmp 11)) (A := A0) (k' := .i64) (j := (i1 : Int)) (jn := i1) (b0 := blkOf A0) (o0 := offOf A0) (by kernel_rfl) (by kernel_rfl) (by kernel_rfl) (by kernel_rfl) (by kernel_rfl) ((hS.rd hR0).eqSome (pos_of_get hx2)) rfl (lt_of_get hx2) ?_
    refine ge_batch [2] (ans := [.val (.int .i64 e1.Task), .val (.int .i64 e1.At), .val (.int .i64 e1.C), .val (.int .i64 e1.Due), .val (.int .i64 e1.P)]) (vs := [(15, .agg #[.int .i64 e1.Task, .int .i64 e1.At, .int .i64 e1.C, .int .i64 e1.Due, .int .i64 e1.P])]) (l := [.loaded ⟨blkOf A0, offOf A0 + i1 * 5, none⟩ (.int .i64 e1.Task), .loaded ⟨blkOf A0, offOf A0 + i1 * 5 + 1, none⟩ (.int .i64 e1.At), .loaded ⟨blkOf A0, offOf A0 + i1 * 5 + 2, none⟩ (.int .i64 e1.C), .loaded ⟨blkOf A0, offOf A0 + i1 * 5 + 3, none⟩ (.int .i64 e1.Due), .loaded ⟨blkOf A0, offOf A0 + i1 * 5 + 4, none⟩ (.int .i64 e1.P)]) (by kernel_rfl) ⟨RdL.cell (j := 0) (hS.rd hR0) hx2 rfl, RdL.cell (j := 1) (hS.rd hR0) hx2 rfl, RdL.cell (j := 2) (hS.rd hR0) hx2 rfl, RdL.cell (j := 3) (hS.rd hR0) hx2 rfl, RdL.cell (j := 4) (hS.rd hR0) hx2 rfl, trivial⟩ ?_
    refine ge_new (d := some 4) (o := .cells #[.int .i64 0, .int .i64 0, .int .i64 0, .int .i64 0, .int .i64 0] 58) (v := fun b => .pointer (some ⟨b, 0, none⟩)) hS (fun b => by kernel_rfl) fun b2 w3 hx3 hS5 => ?_
    refine ge_batch [4] (ans := []) (vs := [(3, .int .i64 (i1 : Int))]) (l := []) (by kernel_rfl) trivial ?_
    refine ge_set (b := b2) (j := 0) (cs := #[.int .i64 0, .int .i64 0, .int .i64 0, .int .i64 0, .int .i64 0]) (t := 58) (vs := [.int .i64 e1.Task, .int .i64 e1.At, .int .i64 e1.C, .int .i64 e1.Due, .int .i64 e1.P]) hS5 (by kernel_rfl) rfl rfl fun w4 hS6 => ?_
    have hS7 : St w0 w4 [Own.blk b2 (.cells #[.int .i64 e1.Task, .int .i64 e1.At, .int .i64 e1.C, .int .i64 e1.Due, .int .i64 e1.P] 58 (0, 0)), Own.blk b1 (.cells #[.int .i64 0, .int .i64 0] 39 (0, 0))] := hS6
    refine ge_nil fun a hF => hK10 _ _ ?_ a hF
    refine we_seq fun K11 hK11 => ?_
    refine we_region [(0, 0), (1, 0), (2, 0), (3, 0), (4, 0), (5, 0), (6, 0), (7, 0), (8, 0), (9, 0), (10, 0), (11, 0), (12, 0), (13, 0), (14, 0), (15, 0), (16, 0), (17, 0), (18, 0), (19, 0), (20, 0), (21, 0), (22, 0), (23, 0), (24, 0), (25, 0), (26, 0), (27, 0)] rfl ?_
    refine ge_batch [0, 1, 2, 3] (ans := [.val (.int .i64 e1.At)]) (vs := [(19, .bool (decide (e1.At < 0))), (18, .bool (decide (e1.At < 0))), (17, .int .i64 e1.At), (16, .pointer (some ⟨b2, 1, none⟩))]) (l := [.loaded ⟨b2, 1, none⟩ (.int .i64 e1.At)]) (by kernel_rfl) ⟨hS7.cell 0 rfl rfl, trivial⟩ ?_
    by_cases hc3 : e1.At < 0
    · rw [if_pos hc3] at h
      refine ge_known (t := 19) (b := decide (e1.At < 0)) (c := true) (by kernel_rfl) (decide_eq_true hc3) ?_
      refine ge_batch [4, 5, 6, 7, 8, 9, 10, 11, 12, 13, 14, 15, 16, 17, 18, 19, 20, 21, 22, 23, 24, 25, 26, 27] (ans := []) (vs := [(43, .bool true), (42, undef), (41, undef), (40, undef), (39, .bool true), (38, .bool true), (37, undef), (36, undef), (35, undef), (34, .bool true), (33, .bool true), (32, undef), (31, undef), (30, undef), (29, .bool true), (28, .bool true), (27, undef), (26, undef), (25, undef), (24, .bool true), (23, .bool true), (22, undef), (21, undef), (20, undef)]) (l := []) (by kernel_rfl) trivial ?_
      refine ge_nil fun a hF => hK11 _ _ ?_ a hF
      refine we_true (by kernel_rfl) ?_
      refine we_seq fun K12 hK12 => ?_
      refine we_region [(0, 0), (1, 0), (2, 2)] rfl ?_
      refine ge_batch [0, 1] (ans := []) (vs := [(45, .agg #[.int .i64 3, .int .i64 (i1 : Int)]), (44, .int .i64 (i1 : Int))]) (l := []) (by kernel_rfl) trivial ?_
      have hS8 := hS7.bring 1 rfl
      refine ge_set (b := b1) (j := 0) (cs := #[.int .i64 0, .int .i64 0]) (t := 39) (vs := [.int .i64 3, .int .i64 (i1 : Int)]) hS8 (by kernel_rfl) rfl rfl fun w5 hS9 => ?_
      have hS10 : St w0 w5 [Own.blk b1 (.cells #[.int .i64 3, .int .i64 (i1 : Int)] 39 (0, 0)), Own.blk b2 (.cells #[.int .i64 e1.Task, .int .i64 e1.At, .int .i64 e1.C, .int .i64 e1.Due, .int .i64 e1.P] 58 (0, 0))] := hS9
      refine ge_nil fun a hF => hK12 _ _ ?_ a hF
      have hS11 := hS10.takeN 0
      obtain rfl := Option.some.inj h
      exact we_ret fun a hF => hQ _ _ _ (Outs.out nofun (Exits.on ⟨rfl, (post_ret (rs := [.cell 2 39]) (ans := [.val (.int .i64 3), .val (.int .i64 (i1 : Int))]) (vs := [.agg #[.int .i64 3, .int .i64 (i1 : Int)]]) (l := [.loaded ⟨b1, 0, none⟩ (.int .i64 3), .loaded ⟨b1, 1, none⟩ (.int .i64 (i1 : Int))]) rfl (by kernel_rfl) ⟨hS10.cell 0 rfl rfl, hS10.cell 0 rfl rfl, trivial⟩ ⟨rfl, hS11⟩) a hF⟩))
    · rw [if_neg hc3] at h
      refine ge_known (t := 19) (b := decide (e1.At < 0)) (c := false) (by kernel_rfl) (decide_eq_false hc3) ?_
      refine ge_batch [4, 5, 6, 7, 8] (ans := [.val (.int .i64 e1.At)]) (vs := [(24, .bool (decide (e1.At > 60000))), (23, .bool (decide (e1.At > 60000))), (22, .bool (decide (e1.At > 60000))), (21, .int .i64 e1.At), (20, .pointer (some ⟨b2, 1, none⟩))]) (l := [.loaded ⟨b2, 1, none⟩ (.int .i64 e1.At)]) (by kernel_rfl) ⟨hS7.cell 0 rfl rfl, trivial⟩ ?_
      by_cases hc4 : e1.At > 60000
      · rw [if_pos hc4] at h
        refine ge_known (t := 24) (b := decide (e1.At > 60000)) (c := true) (by kernel_rfl) (decide_eq_true hc4) ?_
        refine ge_batch [9, 10, 11, 12, 13, 14, 15, 16, 17, 18, 19, 20, 21, 22, 23, 24, 25, 26, 27] (ans := []) (vs := [(43, .bool true), (42, undef), (41, undef), (40, undef), (39, .bool true), (38, .bool true), (37, undef), (36, undef), (35, undef), (34, .bool true), (33, .bool true), (32, undef), (31, undef), (30, undef), (29, .bool true), (28, .bool true), (27, undef), (26, undef), (25, undef)]) (l := []) (by kernel_rfl) trivial ?_
        refine ge_nil fun a hF => hK11 _ _ ?_ a hF
        refine we_true (by kernel_rfl) ?_
        refine we_seq fun K13 hK13 => ?_
        refine we_region [(0, 0), (1, 0), (2, 2)] rfl ?_
        refine ge_batch [0, 1] (ans := []) (vs := [(45, .agg #[.int .i64 3, .int .i64 (i1 : Int)]), (44, .int .i64 (i1 : Int))]) (l := []) (by kernel_rfl) trivial ?_
        have hS12 := hS7.bring 1 rfl
        refine ge_set (b := b1) (j := 0) (cs := #[.int .i64 0, .int .i64 0]) (t := 39) (vs := [.int .i64 3, .int .i64 (i1 : Int)]) hS12 (by kernel_rfl) rfl rfl fun w6 hS13 => ?_
        have hS14 : St w0 w6 [Own.blk b1 (.cells #[.int .i64 3, .int .i64 (i1 : Int)] 39 (0, 0)), Own.blk b2 (.cells #[.int .i64 e1.Task, .int .i64 e1.At, .int .i64 e1.C, .int .i64 e1.Due, .int .i64 e1.P] 58 (0, 0))] := hS13
        refine ge_nil fun a hF => hK13 _ _ ?_ a hF
        have hS15 := hS14.takeN 0
        obtain rfl := Option.some.inj h
        exact we_ret fun a hF => hQ _ _ _ (Outs.out nofun (Exits.on ⟨rfl, (post_ret (rs := [.cell 2 39]) (ans := [.val (.int .i64 3), .val (.int .i64 (i1 : Int))]) (vs := [.agg #[.int .i64 3, .int .i64 (i1 : Int)]]) (l := [.loaded ⟨b1, 0, none⟩ (.int .i64 3), .loaded ⟨b1, 1, none⟩ (.int .i64 (i1 : Int))]) rfl (by kernel_rfl) ⟨hS14.cell 0 rfl rfl, hS14.cell 0 rfl rfl, trivial⟩ ⟨rfl, hS15⟩) a hF⟩))
      · rw [if_neg hc4] at h
        refine ge_known (t := 24) (b := decide (e1.At > 60000)) (c := false) (by kernel_rfl) (decide_eq_false hc4) ?_
        refine ge_batch [9, 10, 11, 12, 13] (ans := [.val (.int .i64 e1.C)]) (vs := [(29, .bool (decide (e1.C < 1))), (28, .bool (decide (e1.C < 1))), (27, .bool (decide (e1.C < 1))), (26, .int .i64 e1.C), (25, .pointer (some ⟨b2, 2, none⟩))]) (l := [.loaded ⟨b2, 2, none⟩ (.int .i64 e1.C)]) (by kernel_rfl) ⟨hS7.cell 0 rfl rfl, trivial⟩ ?_
        by_cases hc5 : e1.C < 1
        · rw [if_pos hc5] at h
          refine ge_known (t := 29) (b := decide (e1.C < 1)) (c := true) (by kernel_rfl) (decide_eq_true hc5) ?_
          refine ge_batch [14, 15, 16, 17, 18, 19, 20, 21, 22, 23, 24, 25, 26, 27] (ans := []) (vs := [(43, .bool true), (42, undef), (41, undef), (40, undef), (39, .bool true), (38, .bool true), (37, undef), (36, undef), (35, undef), (34, .bool true), (33, .bool true), (32, undef), (31, undef), (30, undef)]) (l := []) (by kernel_rfl) trivial ?_
          refine ge_nil fun a hF => hK11 _ _ ?_ a hF
          refine we_true (by kernel_rfl) ?_
          refine we_seq fun K14 hK14 => ?_
          refine we_region [(0, 0), (1, 0), (2, 2)] rfl ?_
          refine ge_batch [0, 1] (ans := []) (vs := [(45, .agg #[.int .i64 3, .int .i64 (i1 : Int)]), (44, .int .i64 (i1 : Int))]) (l := []) (by kernel_rfl) trivial ?_
          have hS16 := hS7.bring 1 rfl
          refine ge_set (b := b1) (j := 0) (cs := #[.int .i64 0, .int .i64 0]) (t := 39) (vs := [.int .i64 3, .int .i64 (i1 : Int)]) hS16 (by kernel_rfl) rfl rfl fun w7 hS17 => ?_
          have hS18 : St w0 w7 [Own.blk b1 (.cells #[.int .i64 3, .int .i64 (i1 : Int)] 39 (0, 0)), Own.blk b2 (.cells #[.int .i64 e1.Task, .int .i64 e1.At, .int .i64 e1.C, .int .i64 e1.Due, .int .i64 e1.P] 58 (0, 0))] := hS17
          refine ge_nil fun a hF => hK14 _ _ ?_ a hF
          have hS19 := hS18.takeN 0
          obtain rfl := Option.some.inj h
          exact we_ret fun a hF => hQ _ _ _ (Outs.out nofun (Exits.on ⟨rfl, (post_ret (rs := [.cell 2 39]) (ans := [.val (.int .i64 3), .val (.int .i64 (i1 : Int))]) (vs := [.agg #[.int .i64 3, .int .i64 (i1 : Int)]]) (l := [.loaded ⟨b1, 0, none⟩ (.int .i64 3), .loaded ⟨b1, 1, none⟩ (.int .i64 (i1 : Int))]) rfl (by kernel_rfl) ⟨hS18.cell 0 rfl rfl, hS18.cell 0 rfl rfl, trivial⟩ ⟨rfl, hS19⟩) a hF⟩))
        · rw [if_neg hc5] at h
          refine ge_known (t := 29) (b := decide (e1.C < 1)) (c := false) (by kernel_rfl) (decide_eq_false hc5) ?_
          refine ge_batch [14, 15, 16, 17, 18] (ans := [.val (.int .i64 e1.C)]) (vs := [(34, .bool (decide (e1.C > 10000))), (33, .bool (decide (e1.C > 10000))), (32, .bool (decide (e1.C > 10000))), (31, .int .i64 e1.C), (30, .pointer (some ⟨b2, 2, none⟩))]) (l := [.loaded ⟨b2, 2, none⟩ (.int .i64 e1.C)]) (by kernel_rfl) ⟨hS7.cell 0 rfl rfl, trivial⟩ ?_
          by_cases hc6 : e1.C > 10000
          · rw [if_pos hc6] at h
            refine ge_known (t := 34) (b := decide (e1.C > 10000)) (c := true) (by kernel_rfl) (decide_eq_true hc6) ?_
            refine ge_batch [19, 20, 21, 22, 23, 24, 25, 26, 27] (ans := []) (vs := [(43, .bool true), (42, undef), (41, undef), (40, undef), (39, .bool true), (38, .bool true), (37, undef), (36, undef), (35, undef)]) (l := []) (by kernel_rfl) trivial ?_
            refine ge_nil fun a hF => hK11 _ _ ?_ a hF
            refine we_true (by kernel_rfl) ?_
            refine we_seq fun K15 hK15 => ?_
            refine we_region [(0, 0), (1, 0), (2, 2)] rfl ?_
            refine ge_batch [0, 1] (ans := []) (vs := [(45, .agg #[.int .i64 3, .int .i64 (i1 : Int)]), (44, .int .i64 (i1 : Int))]) (l := []) (by kernel_rfl) trivial ?_
            have hS20 := hS7.bring 1 rfl
            refine ge_set (b := b1) (j := 0) (cs := #[.int .i64 0, .int .i64 0]) (t := 39) (vs := [.int .i64 3, .int .i64 (i1 : Int)]) hS20 (by kernel_rfl) rfl rfl fun w8 hS21 => ?_
            have hS22 : St w0 w8 [Own.blk b1 (.cells #[.int .i64 3, .int .i64 (i1 : Int)] 39 (0, 0)), Own.blk b2 (.cells #[.int .i64 e1.Task, .int .i64 e1.At, .int .i64 e1.C, .int .i64 e1.Due, .int .i64 e1.P] 58 (0, 0))] := hS21
            refine ge_nil fun a hF => hK15 _ _ ?_ a hF
            have hS23 := hS22.takeN 0
            obtain rfl := Option.some.inj h
            exact we_ret fun a hF => hQ _ _ _ (Outs.out nofun (Exits.on ⟨rfl, (post_ret (rs := [.cell 2 39]) (ans := [.val (.int .i64 3), .val (.int .i64 (i1 : Int))]) (vs := [.agg #[.int .i64 3, .int .i64 (i1 : Int)]]) (l := [.loaded ⟨b1, 0, none⟩ (.int .i64 3), .loaded ⟨b1, 1, none⟩ (.int .i64 (i1 : Int))]) rfl (by kernel_rfl) ⟨hS22.cell 0 rfl rfl, hS22.cell 0 rfl rfl, trivial⟩ ⟨rfl, hS23⟩) a hF⟩))
          · rw [if_neg hc6] at h
            refine ge_known (t := 34) (b := decide (e1.C > 10000)) (c := false) (by kernel_rfl) (decide_eq_false hc6) ?_
            refine ge_batch [19, 20, 21, 22, 23] (ans := [.val (.int .i64 e1.Due)]) (vs := [(39, .bool (decide (e1.Due < 0))), (38, .bool (decide (e1.Due < 0))), (37, .bool (decide (e1.Due < 0))), (36, .int .i64 e1.Due), (35, .pointer (some ⟨b2, 3, none⟩))]) (l := [.loaded ⟨b2, 3, none⟩ (.int .i64 e1.Due)]) (by kernel_rfl) ⟨hS7.cell 0 rfl rfl, trivial⟩ ?_
            by_cases hc7 : e1.Due < 0
            · rw [if_pos hc7] at h
              refine ge_known (t := 39) (b := decide (e1.Due < 0)) (c := true) (by kernel_rfl) (decide_eq_true hc7) ?_
              refine ge_batch [24, 25, 26, 27] (ans := []) (vs := [(43, .bool true), (42, undef), (41, undef), (40, undef)]) (l := []) (by kernel_rfl) trivial ?_
              refine ge_nil fun a hF => hK11 _ _ ?_ a hF
              refine we_true (by kernel_rfl) ?_
              refine we_seq fun K16 hK16 => ?_
              refine we_region [(0, 0), (1, 0), (2, 2)] rfl ?_
              refine ge_batch [0, 1] (ans := []) (vs := [(45, .agg #[.int .i64 3, .int .i64 (i1 : Int)]), (44, .int .i64 (i1 : Int))]) (l := []) (by kernel_rfl) trivial ?_
              have hS24 := hS7.bring 1 rfl
              refine ge_set (b := b1) (j := 0) (cs := #[.int .i64 0, .int .i64 0]) (t := 39) (vs := [.int .i64 3, .int .i64 (i1 : Int)]) hS24 (by kernel_rfl) rfl rfl fun w9 hS25 => ?_
              have hS26 : St w0 w9 [Own.blk b1 (.cells #[.int .i64 3, .int .i64 (i1 : Int)] 39 (0, 0)), Own.blk b2 (.cells #[.int .i64 e1.Task, .int .i64 e1.At, .int .i64 e1.C, .int .i64 e1.Due, .int .i64 e1.P] 58 (0, 0))] := hS25
              refine ge_nil fun a hF => hK16 _ _ ?_ a hF
              have hS27 := hS26.takeN 0
              obtain rfl := Option.some.inj h
              exact we_ret fun a hF => hQ _ _ _ (Outs.out nofun (Exits.on ⟨rfl, (post_ret (rs := [.cell 2 39]) (ans := [.val (.int .i64 3), .val (.int .i64 (i1 : Int))]) (vs := [.agg #[.int .i64 3, .int .i64 (i1 : Int)]]) (l := [.loaded ⟨b1, 0, none⟩ (.int .i64 3), .loaded ⟨b1, 1, none⟩ (.int .i64 (i1 : Int))]) rfl (by kernel_rfl) ⟨hS26.cell 0 rfl rfl, hS26.cell 0 rfl rfl, trivial⟩ ⟨rfl, hS27⟩) a hF⟩))
            · rw [if_neg hc7] at h
              refine ge_known (t := 39) (b := decide (e1.Due < 0)) (c := false) (by kernel_rfl) (decide_eq_false hc7) ?_
              refine ge_batch [24, 25, 26, 27] (ans := [.val (.int .i64 e1.Due)]) (vs := [(43, .bool (decide (e1.Due > 80000))), (42, .bool (decide (e1.Due > 80000))), (41, .int .i64 e1.Due), (40, .pointer (some ⟨b2, 3, none⟩))]) (l := [.loaded ⟨b2, 3, none⟩ (.int .i64 e1.Due)]) (by kernel_rfl) ⟨hS7.cell 0 rfl rfl, trivial⟩ ?_
              refine ge_nil fun a hF => hK11 _ _ ?_ a hF
              by_cases hc8 : e1.Due > 80000
              · rw [if_pos hc8] at h
                refine we_known (t := 43) (b := decide (e1.Due > 80000)) (v := true) (by kernel_rfl) (decide_eq_true hc8) ?_
                refine we_true (by kernel_rfl) ?_
                refine we_seq fun K17 hK17 => ?_
                refine we_region [(0, 0), (1, 0), (2, 2)] rfl ?_
                refine ge_batch [0, 1] (ans := []) (vs := [(45, .agg #[.int .i64 3, .int .i64 (i1 : Int)]), (44, .int .i64 (i1 : Int))]) (l := []) (by kernel_rfl) trivial ?_
                have hS28 := hS7.bring 1 rfl
                refine ge_set (b := b1) (j := 0) (cs := #[.int .i64 0, .int .i64 0]) (t := 39) (vs := [.int .i64 3, .int .i64 (i1 : Int)]) hS28 (by kernel_rfl) rfl rfl fun w10 hS29 => ?_
                have hS30 : St w0 w10 [Own.blk b1 (.cells #[.int .i64 3, .int .i64 (i1 : Int)] 39 (0, 0)), Own.blk b2 (.cells #[.int .i64 e1.Task, .int .i64 e1.At, .int .i64 e1.C, .int .i64 e1.Due, .int .i64 e1.P] 58 (0, 0))] := hS29
                refine ge_nil fun a hF => hK17 _ _ ?_ a hF
                have hS31 := hS30.takeN 0
                obtain rfl := Option.some.inj h
                exact we_ret fun a hF => hQ _ _ _ (Outs.out nofun (Exits.on ⟨rfl, (post_ret (rs := [.cell 2 39]) (ans := [.val (.int .i64 3), .val (.int .i64 (i1 : Int))]) (vs := [.agg #[.int .i64 3, .int .i64 (i1 : Int)]]) (l := [.loaded ⟨b1, 0, none⟩ (.int .i64 3), .loaded ⟨b1, 1, none⟩ (.int .i64 (i1 : Int))]) rfl (by kernel_rfl) ⟨hS30.cell 0 rfl rfl, hS30.cell 0 rfl rfl, trivial⟩ ⟨rfl, hS31⟩) a hF⟩))
              · rw [if_neg hc8] at h
                refine we_known (t := 43) (b := decide (e1.Due > 80000)) (v := false) (by kernel_rfl) (decide_eq_false hc8) ?_
                refine we_false (by kernel_rfl) ?_
                refine we_skip fun a hF => hK9 _ _ ?_ a hF
                refine we_region [(0, 0), (1, 0)] rfl ?_
                refine ge_addn (d := 46) (ty := 3) (x := (.tmp 11)) (y := (.const (.int .i64 1))) (t := 3) (t2 := 3) (k := .i64) (m := i1) (by kernel_rfl) (by kernel_rfl) (by kernel_rfl) (by have h0 := hR0.small; omega) ?_
                refine ge_batch [1] (ans := []) (vs := [(11, .int .i64 ((i1 + 1 : Nat) : Int))]) (l := []) (by kernel_rfl) trivial ?_
                have hS32 := hS7.bring 1 rfl
                have hS33 := hS32.takeN 1
                obtain rfl := Option.some.inj h
                exact ge_nil fun a hF => hQ _ _ _ (Outs.again ⟨hS33, hF.weaken ⟨by kernel_rfl, by kernel_rfl, by kernel_rfl, by kernel_rfl, trivial⟩⟩)
  · rw [if_neg hc2] at h
    refine we_known (t := 12) (b := decide ((i1 : Int) < (l0.length : Int))) (v := false) (by kernel_rfl) (decide_eq_false hc2) ?_
    refine we_false (by kernel_rfl) ?_
    obtain rfl := Option.some.inj h
    exact we_exit fun a hF => hQ _ _ _ (Outs.out nofun (Exits.here ⟨hS, hF.weaken ⟨by kernel_rfl, trivial⟩⟩))
theorem sched_Check_ok (K : Nat) (l0 : List SJob) (A0 : Option Addr) (c0 : Nat) (w0 : World) (hR0 : RdL w0 A0 l0) (hL0 : l0.length ≤ c0) (r : SFault) (h : sched_Check.f K l0 = some r) :
    Calls Tryd.prog 129 #[.slice A0 l0.length c0] w0 (sched_Check.Post w0 r) := by
  have hS := St.start w0
  unfold sched_Check.f at h
  refine calls_enter (n := 48) (args := [.slice A0 l0.length c0]) (fn := Tryd.f129) rfl rfl rfl rfl ?_
  show WE _ _ _ _ [(0, .slice A0 l0.length c0)] _
  refine we_seq fun K1 hK1 => ?_
  refine we_region [(0, 1)] rfl ?_
  refine ge_new (d := some 2) (o := .cells #[.int .i64 0, .int .i64 0] 39) (v := fun b => .pointer (some ⟨b, 0, none⟩)) hS (fun b => by kernel_rfl) fun b1 w1 hx1 hS1 => ?_
  refine ge_nil fun a hF => hK1 _ _ ?_ a hF
  refine we_seq fun K2 hK2 => ?_
  refine we_seq fun K3 hK3 => ?_
  refine we_region [(0, 0), (1, 0), (2, 0)] rfl ?_
  refine ge_batch [0, 1, 2] (ans := []) (vs := [(7, .bool (decide ((l0.length : Int) > 4000))), (6, .int .i64 (l0.length : Int)), (5, .slice A0 l0.length c0)]) (l := []) (by kernel_rfl) trivial ?_
  refine ge_nil fun a hF => hK3 _ _ ?_ a hF
  by_cases hc1 : (l0.length : Int) > 4000
  · rw [if_pos hc1] at h
    refine we_known (t := 7) (b := decide ((l0.length : Int) > 4000)) (v := true) (by kernel_rfl) (decide_eq_true hc1) ?_
    refine we_true (by kernel_rfl) ?_
    refine we_seq fun K4 hK4 => ?_
    refine we_region [(0, 0), (1, 2)] rfl ?_
    refine ge_batch [0] (ans := []) (vs := [(8, .agg #[.int .i64 2, .int .i64 0])]) (l := []) (by kernel_rfl) trivial ?_
    refine ge_set (b := b1) (j := 0) (cs := #[.int .i64 0, .int .i64 0]) (t := 39) (vs := [.int .i64 2, .int .i64 0]) hS1 (by kernel_rfl) rfl rfl fun w2 hS2 => ?_
    have hS3 : St w0 w2 [Own.blk b1 (.cells #[.int .i64 2, .int .i64 0] 39 (0, 0))] := hS2
    refine ge_nil fun a hF => hK4 _ _ ?_ a hF
    have hS4 := hS3.takeN 0
    obtain rfl := Option.some.inj h
    exact we_ret (post_ret (rs := [.cell 2 39]) (ans := [.val (.int .i64 2), .val (.int .i64 0)]) (vs := [.agg #[.int .i64 2, .int .i64 0]]) (l := [.loaded ⟨b1, 0, none⟩ (.int .i64 2), .loaded ⟨b1, 1, none⟩ (.int .i64 0)]) rfl (by kernel_rfl) ⟨hS3.cell 0 rfl rfl, hS3.cell 0 rfl rfl, trivial⟩ ⟨rfl, hS4⟩)
  · rw [if_neg hc1] at h
    refine we_known (t := 7) (b := decide ((l0.length : Int) > 4000)) (v := false) (by kernel_rfl) (decide_eq_false hc1) ?_
    refine we_false (by kernel_rfl) ?_
    refine we_skip fun a hF => hK2 _ _ ?_ a hF
    refine we_seq fun K5 hK5 => ?_
    refine we_seq fun K6 hK6 => ?_
    refine we_region [(0, 0), (1, 0), (2, 0)] rfl ?_
    refine ge_batch [0, 1, 2] (ans := []) (vs := [(11, .int .i64 0), (10, .int .i64 (l0.length : Int)), (9, .slice A0 l0.length c0)]) (l := []) (by kernel_rfl) trivial ?_
    refine ge_nil fun a hF => hK6 _ _ ?_ a hF
    refine we_block ?_
    rcases hq1 : iter (sched_Check.r0 l0) K 0 with _ | (_ | rr1)
    · rw [hq1] at h; cases h
    · rw [hq1] at h
      simp only [] at h
      refine we_iter (A := sched_Check.A0 K w0 l0 A0 c0 hR0 hL0 b1 hc1) (B := sched_Check.B0 K w0 l0 A0 c0 hR0 hL0 b1 hc1) hq1 (fun a hF => ⟨hS1, hF.weaken ⟨by kernel_rfl, by kernel_rfl, by kernel_rfl, by kernel_rfl, trivial⟩⟩) (fun s o hf a w hA Q hQ => sched_Check_r0 K w0 l0 A0 c0 hR0 hL0 b1 hc1 s o hf a w hA Q hQ) ?_
      rintro _ a w11 _ ⟨rfl, hS34, hF⟩
      replace hS34 : St w0 w11 [Own.blk b1 (.cells #[.int .i64 0, .int .i64 0] 39 (0, 0))] := hS34
      refine hK5 [(2, .pointer (some ⟨b1, 0, none⟩))] w11 ?_ a hF
      refine we_seq fun K18 hK18 => ?_
      refine we_region [(0, 0), (1, 2)] rfl ?_
      refine ge_batch [0] (ans := []) (vs := [(47, .agg #[.int .i64 0, .int .i64 0])]) (l := []) (by kernel_rfl) trivial ?_
      refine ge_set (b := b1) (j := 0) (cs := #[.int .i64 0, .int .i64 0]) (t := 39) (vs := [.int .i64 0, .int .i64 0]) hS34 (by kernel_rfl) rfl rfl fun w12 hS35 => ?_
      have hS36 : St w0 w12 [Own.blk b1 (.cells #[.int .i64 0, .int .i64 0] 39 (0, 0))] := hS35
      refine ge_nil fun a hF => hK18 _ _ ?_ a hF
      have hS37 := hS36.takeN 0
      obtain rfl := Option.some.inj h
      exact we_ret (post_ret (rs := [.cell 2 39]) (ans := [.val (.int .i64 0), .val (.int .i64 0)]) (vs := [.agg #[.int .i64 0, .int .i64 0]]) (l := [.loaded ⟨b1, 0, none⟩ (.int .i64 0), .loaded ⟨b1, 1, none⟩ (.int .i64 0)]) rfl (by kernel_rfl) ⟨hS36.cell 0 rfl rfl, hS36.cell 0 rfl rfl, trivial⟩ ⟨rfl, hS37⟩)
    · rw [hq1] at h
      simp only [] at h
      refine we_iter (A := sched_Check.A0 K w0 l0 A0 c0 hR0 hL0 b1 hc1) (B := sched_Check.B0 K w0 l0 A0 c0 hR0 hL0 b1 hc1) hq1 (fun a hF => ⟨hS1, hF.weaken ⟨by kernel_rfl, by kernel_rfl, by kernel_rfl, by kernel_rfl, trivial⟩⟩) (fun s o hf a w hA Q hQ => sched_Check_r0 K w0 l0 A0 c0 hR0 hL0 b1 hc1 s o hf a w hA Q hQ) ?_
      rintro _ a w1 _ ⟨rfl, hb⟩
      obtain rfl := Option.some.inj h
      exact hb

/-! punctual/sched.rule -/
abbrev sched_rule.Post (w0 : World) (r : Nat) (e : Ending) (w : World) : Prop := e = .returned (fnVal r) ∧ St w0 w []
def sched_rule.f (x0 : Int) : Nat :=
  if x0 = 1 then
    172
  else
    if x0 = 2 then
      173
    else
      0
theorem sched_rule_ok (x0 : Int) (w0 : World) (r : Nat) (h : sched_rule.f x0 = r) :
    Calls Tryd.prog 133 #[.int .i64 x0] w0 (sched_rule.Post w0 r) := by
  have hS := St.start w0
  unfold sched_rule.f at h
  refine calls_enter (n := 8) (args := [.int .i64 x0]) (fn := Tryd.f133) rfl rfl rfl rfl ?_
  show WE _ _ _ _ [(0, .int .i64 x0)] _
  refine we_seq fun K1 hK1 => ?_
  refine we_region [(0, 0)] rfl ?_
  refine ge_batch [0] (ans := []) (vs := [(2, .nilFunc)]) (l := []) (by kernel_rfl) trivial ?_
  refine ge_nil fun a hF => hK1 _ _ ?_ a hF
  refine we_seq fun K2 hK2 => ?_
  refine we_seq fun K3 hK3 => ?_
  refine we_region [(0, 0)] rfl ?_
  refine ge_batch [0] (ans := []) (vs := [(3, .int .i64 x0)]) (l := []) (by kernel_rfl) trivial ?_
  refine ge_nil fun a hF => hK3 _ _ ?_ a hF
  refine we_block ?_
  refine we_seq fun K4 hK4 => ?_
  refine we_region [(0, 0), (1, 0)] rfl ?_
  refine ge_batch [0, 1] (ans := []) (vs := [(4, .bool (x0 == 1)), (5, .bool (x0 == 1))]) (l := []) (by kernel_rfl) trivial ?_
  refine ge_nil fun a hF => hK4 _ _ ?_ a hF
  by_cases hc1 : x0 = 1
  · rw [if_pos hc1] at h
    refine we_known (t := 4) (b := (x0 == 1)) (v := true) (by kernel_rfl) (beq_iff_eq.2 hc1) ?_
    refine we_true (by kernel_rfl) ?_
    refine we_seq fun K5 hK5 => ?_
    refine we_region [(0, 0)] rfl ?_
    refine ge_batch [0] (ans := []) (vs := [(2, .func (.func 171) #[] #[])]) (l := []) (by kernel_rfl) trivial ?_
    refine ge_nil fun a hF => hK5 _ _ ?_ a hF
    subst h
    exact we_ret (post_ret (rs := [.tmp 2]) (ans := []) (vs := [.func (.func 171) #[] #[]]) (l := []) rfl (by kernel_rfl) trivial ⟨rfl, hS⟩)
  · rw [if_neg hc1] at h
    refine we_known (t := 4) (b := (x0 == 1)) (v := false) (by kernel_rfl) (beq_eq_false_iff_ne.2 hc1) ?_
    refine we_false (by kernel_rfl) ?_
    refine we_seq fun K6 hK6 => ?_
    refine we_region [(0, 0), (1, 0)] rfl ?_
    refine ge_batch [0, 1] (ans := []) (vs := [(6, .bool (x0 == 2)), (7, .bool (x0 == 2))]) (l := []) (by kernel_rfl) trivial ?_
    refine ge_nil fun a hF => hK6 _ _ ?_ a hF
    by_cases hc2 : x0 = 2
    · rw [if_pos hc2] at h
      refine we_known (t := 6) (b := (x0 == 2)) (v := true) (by kernel_rfl) (beq_iff_eq.2 hc2) ?_
      refine we_true (by kernel_rfl) ?_
      refine we_seq fun K7 hK7 => ?_
      refine we_region [(0, 0)] rfl ?_
      refine ge_batch [0] (ans := []) (vs := [(2, .func (.func 172) #[] #[])]) (l := []) (by kernel_rfl) trivial ?_
      refine ge_nil fun a hF => hK7 _ _ ?_ a hF
      subst h
      exact we_ret (post_ret (rs := [.tmp 2]) (ans := []) (vs := [.func (.func 172) #[] #[]]) (l := []) rfl (by kernel_rfl) trivial ⟨rfl, hS⟩)
    · rw [if_neg hc2] at h
      refine we_known (t := 6) (b := (x0 == 2)) (v := false) (by kernel_rfl) (beq_eq_false_iff_ne.2 hc2) ?_
      refine we_false (by kernel_rfl) ?_
      refine we_skip fun a hF => hK2 _ _ ?_ a hF
      refine we_seq fun K8 hK8 => ?_
      refine we_region [(0, 0)] rfl ?_
      refine ge_batch [0] (ans := []) (vs := [(2, .nilFunc)]) (l := []) (by kernel_rfl) trivial ?_
      refine ge_nil fun a hF => hK8 _ _ ?_ a hF
      subst h
      exact we_ret (post_ret (rs := [.tmp 2]) (ans := []) (vs := [.nilFunc]) (l := []) rfl (by kernel_rfl) trivial ⟨rfl, hS⟩)

/-! punctual/sched.Play$1 -/
abbrev sched_Play_1.Post (w0 : World) (r : Bool) (e : Ending) (w : World) : Prop := e = .returned (.bool r) ∧ St w0 w []
def sched_Play_1.f (x0 : Int) (lf_0 : List SJob) (xf_1 : Int) (lf_2 : List Int) : Option Bool :=
  if 0 ≤ x0 then
    match lf_0[(x0).toNat]? with
    | none => none
    | some e1 =>
      if e1.At ≤ xf_1 then
        match lf_2[(x0).toNat]? with
        | none => none
        | some e2 =>
          some (decide (e2 > 0))
      else
        some false
  else
    none
theorem sched_Play_1_ok (x0 : Int) (bf_0 : Nat) (lf_0 : List SJob) (Af_0 : Option Addr) (cf_0 : Nat) (bf_1 : Nat) (xf_1 : Int) (bf_2 : Nat) (lf_2 : List Int) (Af_2 : Option Addr) (cf_2 : Nat) (w0 : World) (hRf_0 : RdL w0 Af_0 lf_0) (hLf_0 : lf_0.length ≤ cf_0) (hBf_0 : Glob w0 bf_0 [.slice Af_0 lf_0.length cf_0]) (hBf_1 : Glob w0 bf_1 [.int .i64 xf_1]) (hRf_2 : RdL w0 Af_2 lf_2) (hLf_2 : lf_2.length ≤ cf_2) (hBf_2 : Glob w0 bf_2 [.slice Af_2 lf_2.length cf_2]) (r : Bool) (h : sched_Play_1.f x0 lf_0 xf_1 lf_2 = some r) :
    Calls Tryd.prog 134 #[.int .i64 x0, .pointer (some ⟨bf_0, 0, none⟩), .pointer (some ⟨bf_1, 0, none⟩), .pointer (some ⟨bf_2, 0, none⟩)] w0 (sched_Play_1.Post w0 r) := by
  have hS := St.start w0
  unfold sched_Play_1.f at h
  refine calls_enter (n := 20) (args := [.int .i64 x0, .pointer (some ⟨bf_0, 0, none⟩), .pointer (some ⟨bf_1, 0, none⟩), .pointer (some ⟨bf_2, 0, none⟩)]) (fn := Tryd.f134) rfl rfl rfl rfl ?_
  show WE _ _ _ _ [(0, .int .i64 x0), (1, .pointer (some ⟨bf_0, 0, none⟩)), (2, .pointer (some ⟨bf_1, 0, none⟩)), (3, .pointer (some ⟨bf_2, 0, none⟩))] _
  refine we_seq fun K1 hK1 => ?_
  refine we_region [(0, 0)] rfl ?_
  refine ge_batch [0] (ans := []) (vs := [(5, .bool false)]) (l := []) (by kernel_rfl) trivial ?_
  refine ge_nil fun a hF => hK1 _ _ ?_ a hF
  refine we_seq fun K2 hK2 => ?_
  refine we_draws (by kernel_rfl) [(0, 0), (1, 0), (2, 0), (3, 0), (4, 0), (5, 0), (6, 0), (7, 0), (8, 0), (9, 0), (10, 0), (11, 0), (12, 0), (13, 0), (14, 0)] (by kernel_rfl) ?_
  have hS1 := hS.drew
  refine ge_batch [0, 1] (ans := [.val (.slice Af_0 lf_0.length cf_0)]) (vs := [(7, .int .i64 x0), (6, .slice Af_0 lf_0.length cf_0)]) (l := [.loaded ⟨bf_0, 0, none⟩ (.slice Af_0 lf_0.length cf_0)]) (by kernel_rfl) ⟨hS1.glob hBf_0 rfl, trivial⟩ ?_
  by_cases hc1 : 0 ≤ x0
  · rw [if_pos hc1] at h
    rcases hx1 : lf_0[(x0).toNat]? with _ | e1
    · rw [hx1] at h; cases h
    rw [hx1] at h
    simp only [] at h
    refine ge_index (d := 8) (ty := 0) (t := 49) (el := 58) (sz := 5) (m := lf_0.length) (c := cf_0) (x := (.tmp 6)) (y := (.tmp 7)) (A := Af_0) (k' := .i64) (j := x0) (jn := ((x0).toNat)) (b0 := blkOf Af_0) (o0 := offOf Af_0) (by kernel_rfl) (by kernel_rfl) (by kernel_rfl) (by kernel_rfl) (by kernel_rfl) ((hS1.rd hRf_0).eqSome (pos_of_get hx1)) (Int.toNat_of_nonneg hc1).symm (lt_of_get hx1) ?_
    refine ge_batch [3, 4, 5, 6, 7] (ans := [.val (.int .i64 e1.At), .val (.int .i64 xf_1)]) (vs := [(13, .bool (decide (e1.At ≤ xf_1))), (12, .bool (decide (e1.At ≤ xf_1))), (11, .int .i64 xf_1), (10, .int .i64 e1.At), (9, .pointer (some ⟨blkOf Af_0, offOf Af_0 + (x0).toNat * 5 + 1, none⟩))]) (l := [.loaded ⟨blkOf Af_0, offOf Af_0 + ((x0).toNat) * 5 + 1, none⟩ (.int .i64 e1.At), .loaded ⟨bf_1, 0, none⟩ (.int .i64 xf_1)]) (by kernel_rfl) ⟨RdL.cell (j := 1) (hS1.rd hRf_0) hx1 rfl, hS1.glob hBf_1 rfl, trivial⟩ ?_
    by_cases hc2 : e1.At ≤ xf_1
    · rw [if_pos hc2] at h
      refine ge_known (t := 13) (b := decide (e1.At ≤ xf_1)) (c := true) (by kernel_rfl) (decide_eq_true hc2) ?_
      refine ge_batch [8, 9] (ans := [.val (.slice Af_2 lf_2.length cf_2)]) (vs := [(15, .int .i64 x0), (14, .slice Af_2 lf_2.length cf_2)]) (l := [.loaded ⟨bf_2, 0, none⟩ (.slice Af_2 lf_2.length cf_2)]) (by kernel_rfl) ⟨hS1.glob hBf_2 rfl, trivial⟩ ?_
      rcases hx2 : lf_2[(x0).toNat]? with _ | e2
      · rw [hx2] at h; cases h
      rw [hx2] at h
      simp only [] at h
      refine ge_index (d := 16) (ty := 0) (t := 24) (el := 3) (sz := 1) (m := lf_2.length) (c := cf_2) (x := (.tmp 14)) (y := (.tmp 15)) (A := Af_2) (k' := .i64) (j := x0) (jn := ((x0).toNat)) (b0 := blkOf Af_2) (o0 := offOf Af_2) (by kernel_rfl) (by kernel_rfl) (by kernel_rfl) (by kernel_rfl) (by kernel_rfl) ((hS1.rd hRf_2).eqSome (pos_of_get hx2)) (Int.toNat_of_nonneg hc1).symm (lt_of_get hx2) ?_
      refine ge_batch [11, 12, 13, 14] (ans := [.val (.int .i64 e2)]) (vs := [(5, .bool (decide (e2 > 0))), (19, .bool (decide (e2 > 0))), (18, .bool (decide (e2 > 0))), (17, .int .i64 e2)]) (l := [.loaded ⟨blkOf Af_2, offOf Af_2 + ((x0).toNat) * 1, none⟩ (.int .i64 e2)]) (by kernel_rfl) ⟨RdL.cell (j := 0) (hS1.rd hRf_2) hx2 rfl, trivial⟩ ?_
      refine ge_nil fun a hF => hK2 _ _ ?_ a hF
      obtain rfl := Option.some.inj h
      exact we_ret (post_ret (rs := [.tmp 5]) (ans := []) (vs := [.bool (decide (e2 > 0))]) (l := []) rfl (by kernel_rfl) trivial ⟨rfl, hS1⟩)
    · rw [if_neg hc2] at h
      refine ge_known (t := 13) (b := decide (e1.At ≤ xf_1)) (c := false) (by kernel_rfl) (decide_eq_false hc2) ?_
      refine ge_batch [8, 9, 10, 11, 12, 13, 14] (ans := []) (vs := [(5, .bool false), (19, .bool false), (18, undef), (17, undef), (16, undef), (15, undef), (14, undef)]) (l := []) (by kernel_rfl) trivial ?_
      refine ge_nil fun a hF => hK2 _ _ ?_ a hF
      obtain rfl := Option.some.inj h
      exact we_ret (post_ret (rs := [.tmp 5]) (ans := []) (vs := [.bool false]) (l := []) rfl (by kernel_rfl) trivial ⟨rfl, hS1⟩)
  · rw [if_neg hc1] at h
    cases h

/-! cmp.isNaN[int] -/
abbrev cmp_isNaN_int.Post (w0 : World) (r : Bool) (e : Ending) (w : World) : Prop := e = .returned (.bool r) ∧ St w0 w []
def cmp_isNaN_int.f (x0 : Int) : Bool :=
  false
theorem cmp_isNaN_int_ok (x0 : Int) (w0 : World) (r : Bool) (h : cmp_isNaN_int.f x0 = r) :
    Calls Tryd.prog 193 #[.int .i64 x0] w0 (cmp_isNaN_int.Post w0 r) := by
  have hS := St.start w0
  unfold cmp_isNaN_int.f at h
  refine calls_enter (n := 6) (args := [.int .i64 x0]) (fn := Tryd.f193) rfl rfl rfl rfl ?_
  show WE _ _ _ _ [(0, .int .i64 x0)] _
  refine we_seq fun K1 hK1 => ?_
  refine we_region [(0, 0)] rfl ?_
  refine ge_batch [0] (ans := []) (vs := [(2, .bool false)]) (l := []) (by kernel_rfl) trivial ?_
  refine ge_nil fun a hF => hK1 _ _ ?_ a hF
  refine we_seq fun K2 hK2 => ?_
  refine we_region [(0, 0), (1, 0), (2, 0), (3, 0)] rfl ?_
  refine ge_batch [0, 1, 2] (ans := []) (vs := [(5, .bool (x0 != x0)), (4, .int .i64 x0), (3, .int .i64 x0)]) (l := []) (by kernel_rfl) trivial ?_
  refine ge_known (t := 5) (b := (x0 != x0)) (c := false) (by kernel_rfl) (by simp) ?_
  refine ge_batch [3] (ans := []) (vs := [(2, .bool false)]) (l := []) (by kernel_rfl) trivial ?_
  refine ge_nil fun a hF => hK2 _ _ ?_ a hF
  subst h
  exact we_ret (post_ret (rs := [.tmp 2]) (ans := []) (vs := [.bool false]) (l := []) rfl (by kernel_rfl) trivial ⟨rfl, hS⟩)
end Go.Proofs.YtcogbnkioobmkaaDoor.GV
