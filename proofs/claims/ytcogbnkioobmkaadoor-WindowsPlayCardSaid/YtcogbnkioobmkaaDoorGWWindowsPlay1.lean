/- Walks of single functions, written by a program of this work. -/
import Derived.Test.YtcogbnkioobmkaaDoorGv25
import Derived.Test.YtcogbnkioobmkaaDoorProg
namespace Go.Proofs.YtcogbnkioobmkaaDoor.GV
open Go Go.RowKit
set_option linter.unusedVariables false
set_option linter.unusedSimpArgs false
set_option maxRecDepth 100000

structure SFault where
 Code : Int
 At : Int
def SFault.eqb (x y : SFault) : Bool := ((x.Code == y.Code) && ((x.At == y.At) && true))
instance : Ok SFault := ⟨fun x => Ok.ok x.Code ∧ Ok.ok x.At ∧ True⟩
instance : Flat SFault := ⟨2, fun x => [vI x.Code, vI x.At], fun _ => rfl, fun _ => rfl, by decide⟩

structure SWindow where
 At : Int
 Len : Int
def SWindow.eqb (x y : SWindow) : Bool := ((x.At == y.At) && ((x.Len == y.Len) && true))
instance : Ok SWindow := ⟨fun x => Ok.ok x.At ∧ Ok.ok x.Len ∧ True⟩
instance : Flat SWindow := ⟨2, fun x => [vI x.At, vI x.Len], fun _ => rfl, fun _ => rfl, by decide⟩

/-! punctual/modes.Frame -/
abbrev modes_Frame.Post (w0 : World) (r : SFault) (e : Ending) (w : World) : Prop := e = .returned (.agg #[vI r.Code, vI r.At]) ∧ St w0 w []
def modes_Frame.p0 (x0 : Int) : Option (Unit ⊕ SFault) :=
  if x0 < 1 then
   some (.inr (⟨3, 0⟩ : SFault))
  else
   if x0 > 10000 then
    some (.inr (⟨3, 0⟩ : SFault))
   else
    some (.inl ())
def modes_Frame.r1 (x0 : Int) (l1 : List SWindow) : Int × Nat → Option ((Int × Nat) ⊕ (Unit ⊕ SFault))
 | (z1, i1) =>
  if (i1 : Int) < (l1.length : Int) then
   match l1[i1]? with
   | none => none
   | some e1 =>
    if e1.At < 0 then
     some (.inr (.inr (⟨3, (i1 : Int)⟩ : SFault)))
    else
     if e1.At > x0 then
      some (.inr (.inr (⟨3, (i1 : Int)⟩ : SFault)))
     else
      if e1.Len < 1 then
       some (.inr (.inr (⟨3, (i1 : Int)⟩ : SFault)))
      else
       if e1.Len > (IntKind.i64.wrap (x0 - e1.At)) then
        some (.inr (.inr (⟨3, (i1 : Int)⟩ : SFault)))
       else
        if e1.At < z1 then
         some (.inr (.inr (⟨12, (i1 : Int)⟩ : SFault)))
        else
         some (.inl (IntKind.i64.wrap (e1.At + e1.Len), (i1 + 1)))
  else
   some (.inr (.inl ()))
def modes_Frame.f (K : Nat) (x0 : Int) (l1 : List SWindow) : Option SFault :=
 match modes_Frame.p0 x0 with
 | none => none
 | some (.inl _) =>
  if (l1.length : Int) > 20 then
   some (⟨2, 0⟩ : SFault)
  else
   match iter (modes_Frame.r1 x0 l1) K (0, 0) with
   | none => none
   | some (.inl _) =>
    some (⟨0, 0⟩ : SFault)
   | some (.inr rr1) =>
    some rr1
 | some (.inr rr2) =>
  some rr2
abbrev modes_Frame.A0 (w0 : World) (x0 : Int) (l1 : List SWindow) (A1 : Option Addr) (c1 : Nat) (b1 : Nat) : Unit → Act → World → Prop := fun (s : Unit) a w => St w0 w [Own.blk b1 (.cells #[vI 0, vI 0] 39 (0, 0))] ∧ Frm 64 a [(0, vI x0), (1, .slice A1 l1.length c1), (4, pP b1 0)]
abbrev modes_Frame.B0 (w0 : World) : SFault → Exit → Act → World → Prop := Rets Tryd.prog Tryd.f80 (modes_Frame.Post w0)
theorem modes_Frame_p0 (K : Nat) (w0 : World) (x0 : Int) (l1 : List SWindow) (A1 : Option Addr) (c1 : Nat) (hR1 : RdL w0 A1 l1) (hL1 : l1.length ≤ c1) (b1 : Nat) (o : Unit ⊕ SFault) (h : modes_Frame.p0 x0 = some o) (w : World) (hS : St w0 w [Own.blk b1 (.cells #[vI 0, vI 0] 39 (0, 0))]) (Q : Exit → Act → World → Prop) (hQ : ∀ x a w, Outs (modes_Frame.A0 w0 x0 l1 A1 c1 b1) (modes_Frame.B0 w0) o x a w → Q x a w) : WE Tryd.prog 64 (subF Tryd.f80 [1, 0]) Q [(0, vI x0), (1, .slice A1 l1.length c1), (4, pP b1 0)] w := by
 simp only [modes_Frame.p0] at h
 refine ws fun K3 hK3 => ?_
 refine wr [(0, 0), (1, 0), (2, 0), (3, 0), (4, 0), (5, 0)] ?_
 refine gb0 [0, 1, 2] [(10, .bool (decide (x0 < 1))), (9, .bool (decide (x0 < 1))), (8, vI x0)] ?_
 by_cases hc1 : x0 < 1
 ·rw [if_pos hc1] at h
  refine gk 10 (decide (x0 < 1)) true (decide_eq_true hc1) ?_
  refine gb0 [3, 4, 5] [(13, .bool true), (12, undef), (11, undef)] ?_
  refine gn hK3 ?_
  refine we_true (by kernel_rfl) ?_
  refine ws fun K4 hK4 => ?_
  refine wr [(0, 0), (1, 2)] ?_
  refine gb0 [0] [(14, .agg #[vI 3, vI 0])] ?_
  refine gs b1 0 #[vI 0, vI 0] 39 [vI 3, vI 0] hS fun w2 hS2 => ?_
  have hS3 : St w0 w2 [Own.blk b1 (.cells #[vI 3, vI 0] 39 (0, 0))] := hS2
  refine gn hK4 ?_
  have hS4 := hS3.takeN 0
  obtain rfl := si h
  exact we_ret fun a hF => hQ _ _ _ (Outs.out nofun ⟨rfl, (pr [.cell 4 39] [.agg #[vI 3, vI 0]] [.loaded ⟨b1, 0, none⟩ (vI 3), .loaded ⟨b1, 1, none⟩ (vI 0)] ⟨hS3.c 0, hS3.c 0, trivial⟩ ⟨rfl, hS4⟩) a hF⟩)
 ·rw [if_neg hc1] at h
  refine gk 10 (decide (x0 < 1)) false (decide_eq_false hc1) ?_
  refine gb0 [3, 4, 5] [(13, .bool (decide (x0 > 10000))), (12, .bool (decide (x0 > 10000))), (11, vI x0)] ?_
  refine gn hK3 ?_
  by_cases hc2 : x0 > 10000
  ·rw [if_pos hc2] at h
   refine wk 13 (decide (x0 > 10000)) true (decide_eq_true hc2) ?_
   refine we_true (by kernel_rfl) ?_
   refine ws fun K5 hK5 => ?_
   refine wr [(0, 0), (1, 2)] ?_
   refine gb0 [0] [(14, .agg #[vI 3, vI 0])] ?_
   refine gs b1 0 #[vI 0, vI 0] 39 [vI 3, vI 0] hS fun w3 hS5 => ?_
   have hS6 : St w0 w3 [Own.blk b1 (.cells #[vI 3, vI 0] 39 (0, 0))] := hS5
   refine gn hK5 ?_
   have hS7 := hS6.takeN 0
   obtain rfl := si h
   exact we_ret fun a hF => hQ _ _ _ (Outs.out nofun ⟨rfl, (pr [.cell 4 39] [.agg #[vI 3, vI 0]] [.loaded ⟨b1, 0, none⟩ (vI 3), .loaded ⟨b1, 1, none⟩ (vI 0)] ⟨hS6.c 0, hS6.c 0, trivial⟩ ⟨rfl, hS7⟩) a hF⟩)
  ·rw [if_neg hc2] at h
   refine wk 13 (decide (x0 > 10000)) false (decide_eq_false hc2) ?_
   refine we_false (by kernel_rfl) ?_
   obtain rfl := si h
   exact we_skip fun a hF => hQ _ _ _ (Outs.again ⟨hS, hF.weaken ea⟩)
abbrev modes_Frame.A1 (w0 : World) (x0 : Int) (l1 : List SWindow) (A1 : Option Addr) (c1 : Nat) (b1 : Nat) : (Int × Nat) → Act → World → Prop := fun (s : Int × Nat) a w => St w0 w [Own.blk b1 (.cells #[vI 0, vI 0] 39 (0, 0))] ∧ Frm 64 a [(0, vI x0), (4, pP b1 0), (5, vI s.1), (19, .slice A1 l1.length c1), (20, vI (l1.length : Int)), (21, vI (s.2 : Int))]
abbrev modes_Frame.B1 (w0 : World) (b1 : Nat) : (Unit ⊕ SFault) → Exit → Act → World → Prop := Exits 0 (fun (s : Unit) a w => St w0 w [Own.blk b1 (.cells #[vI 0, vI 0] 39 (0, 0))] ∧ Frm 64 a [(4, pP b1 0)]) (Rets Tryd.prog Tryd.f80 (modes_Frame.Post w0))
theorem modes_Frame_r1 (K : Nat) (w0 : World) (x0 : Int) (l1 : List SWindow) (A1 : Option Addr) (c1 : Nat) (hR1 : RdL w0 A1 l1) (hL1 : l1.length ≤ c1) (b1 : Nat) (hc3 : ¬ ((l1.length : Int) > 20)) (s : Int × Nat) (o : (Int × Nat) ⊕ (Unit ⊕ SFault)) (h : modes_Frame.r1 x0 l1 s = some o) (a : Act) (w : World) (hA : modes_Frame.A1 w0 x0 l1 A1 c1 b1 s a w) (Q : Exit → Act → World → Prop) (hQ : ∀ x a w, Outs (modes_Frame.A1 w0 x0 l1 A1 c1 b1) (modes_Frame.B1 w0 b1) o x a w → Q x a w) : (subF Tryd.f80 [1, 1, 1, 1, 0, 1, 0, 0]).wp Tryd.prog Q a w := by
 obtain ⟨z1, i1⟩ := s
 obtain ⟨hS, hF⟩ := hA
 replace hS : St w0 w [Own.blk b1 (.cells #[vI 0, vI 0] 39 (0, 0))] := hS
 simp only [modes_Frame.r1] at h
 refine (?_ : WE Tryd.prog 64 (subF Tryd.f80 [1, 1, 1, 1, 0, 1, 0, 0]) Q [(0, vI x0), (4, pP b1 0), (5, vI z1), (19, .slice A1 l1.length c1), (20, vI (l1.length : Int)), (21, vI (i1 : Int))] w) a hF
 clear hF a
 refine ws fun K12 hK12 => ?_
 refine wr [(0, 0)] ?_
 refine gb0 [0] [(22, .bool (decide ((i1 : Int) < (l1.length : Int))))] ?_
 refine gn hK12 ?_
 refine ws fun K13 hK13 => ?_
 by_cases hc4 : (i1 : Int) < (l1.length : Int)
 ·rw [if_pos hc4] at h
  refine wk 22 (decide ((i1 : Int) < (l1.length : Int))) true (decide_eq_true hc4) ?_
  refine we_true (by kernel_rfl) ?_
  refine we_skip fun a hF => hK13 _ _ ?_ a hF
  refine ws fun K14 hK14 => ?_
  refine we_block ?_
  refine ws fun K15 hK15 => ?_
  refine wr [(0, 0), (1, 0), (2, 0), (3, 1), (4, 0), (5, 2)] ?_
  refine gb0 [0] [(23, vI (i1 : Int))] ?_
  rcases hx2 : l1[i1]? with _ | e1
  ·rw [hx2] at h; cases h
  rw [hx2] at h
  simp only [] at h
  refine gi 24 0 48 55 2 l1.length c1 (.tmp 19) (.tmp 21) A1 .i64 (i1 : Int) i1 ((hS.rd hR1).eqSome (pos_of_get hx2)) rfl (lt_of_get hx2) ?_
  refine gb [2] [(25, .agg #[vI e1.At, vI e1.Len])] [.loaded ⟨blkOf A1, offOf A1 + i1 * 2, none⟩ (vI e1.At), .loaded ⟨blkOf A1, offOf A1 + i1 * 2 + 1, none⟩ (vI e1.Len)] ⟨RdL.cell (j := 0) (hS.rd hR1) hx2 rfl, RdL.cell (j := 1) (hS.rd hR1) hx2 rfl, trivial⟩ ?_
  refine gw (some 7) (.cells #[vI 0, vI 0] 55) (fun b => pP b 0) hS fun b2 w6 hx3 hS12 => ?_
  refine gb0 [4] [(6, vI (i1 : Int))] ?_
  refine gs b2 0 #[vI 0, vI 0] 55 [vI e1.At, vI e1.Len] hS12 fun w7 hS13 => ?_
  have hS14 : St w0 w7 [Own.blk b2 (.cells #[vI e1.At, vI e1.Len] 55 (0, 0)), Own.blk b1 (.cells #[vI 0, vI 0] 39 (0, 0))] := hS13
  refine gn hK15 ?_
  refine ws fun K16 hK16 => ?_
  refine ws fun K17 hK17 => ?_
  refine wr [(0, 0), (1, 0), (2, 0), (3, 0), (4, 0), (5, 0), (6, 0), (7, 0), (8, 0), (9, 0), (10, 0), (11, 0), (12, 0), (13, 0), (14, 0), (15, 0), (16, 0), (17, 0), (18, 0), (19, 0), (20, 0), (21, 0), (22, 0)] ?_
  refine gb [0, 1, 2, 3] [(29, .bool (decide (e1.At < 0))), (28, .bool (decide (e1.At < 0))), (27, vI e1.At), (26, pP b2 0)] [.loaded ⟨b2, 0, none⟩ (vI e1.At)] ⟨hS14.c 0, trivial⟩ ?_
  by_cases hc5 : e1.At < 0
  ·rw [if_pos hc5] at h
   refine gk 29 (decide (e1.At < 0)) true (decide_eq_true hc5) ?_
   refine gb0 [4, 5, 6, 7, 8, 9, 10, 11, 12, 13, 14, 15, 16, 17, 18, 19, 20, 21, 22] [(48, .bool true), (47, undef), (46, undef), (45, undef), (44, undef), (43, undef), (42, undef), (41, undef), (40, .bool true), (39, .bool true), (38, undef), (37, undef), (36, undef), (35, .bool true), (34, .bool true), (33, undef), (32, undef), (31, undef), (30, undef)] ?_
   refine gn hK17 ?_
   refine we_true (by kernel_rfl) ?_
   refine ws fun K18 hK18 => ?_
   refine wr [(0, 0), (1, 0), (2, 2)] ?_
   refine gb0 [0, 1] [(50, .agg #[vI 3, vI (i1 : Int)]), (49, vI (i1 : Int))] ?_
   have hS15 := hS14.bring 1 rfl
   refine gs b1 0 #[vI 0, vI 0] 39 [vI 3, vI (i1 : Int)] hS15 fun w8 hS16 => ?_
   have hS17 : St w0 w8 [Own.blk b1 (.cells #[vI 3, vI (i1 : Int)] 39 (0, 0)), Own.blk b2 (.cells #[vI e1.At, vI e1.Len] 55 (0, 0))] := hS16
   refine gn hK18 ?_
   have hS18 := hS17.takeN 0
   obtain rfl := si h
   exact we_ret fun a hF => hQ _ _ _ (Outs.out nofun (Exits.on ⟨rfl, (pr [.cell 4 39] [.agg #[vI 3, vI (i1 : Int)]] [.loaded ⟨b1, 0, none⟩ (vI 3), .loaded ⟨b1, 1, none⟩ (vI (i1 : Int))] ⟨hS17.c 0, hS17.c 0, trivial⟩ ⟨rfl, hS18⟩) a hF⟩))
  ·rw [if_neg hc5] at h
   refine gk 29 (decide (e1.At < 0)) false (decide_eq_false hc5) ?_
   refine gb [4, 5, 6, 7, 8, 9] [(35, .bool (decide (e1.At > x0))), (34, .bool (decide (e1.At > x0))), (33, .bool (decide (e1.At > x0))), (32, vI x0), (31, vI e1.At), (30, pP b2 0)] [.loaded ⟨b2, 0, none⟩ (vI e1.At)] ⟨hS14.c 0, trivial⟩ ?_
   by_cases hc6 : e1.At > x0
   ·rw [if_pos hc6] at h
    refine gk 35 (decide (e1.At > x0)) true (decide_eq_true hc6) ?_
    refine gb0 [10, 11, 12, 13, 14, 15, 16, 17, 18, 19, 20, 21, 22] [(48, .bool true), (47, undef), (46, undef), (45, undef), (44, undef), (43, undef), (42, undef), (41, undef), (40, .bool true), (39, .bool true), (38, undef), (37, undef), (36, undef)] ?_
    refine gn hK17 ?_
    refine we_true (by kernel_rfl) ?_
    refine ws fun K19 hK19 => ?_
    refine wr [(0, 0), (1, 0), (2, 2)] ?_
    refine gb0 [0, 1] [(50, .agg #[vI 3, vI (i1 : Int)]), (49, vI (i1 : Int))] ?_
    have hS19 := hS14.bring 1 rfl
    refine gs b1 0 #[vI 0, vI 0] 39 [vI 3, vI (i1 : Int)] hS19 fun w9 hS20 => ?_
    have hS21 : St w0 w9 [Own.blk b1 (.cells #[vI 3, vI (i1 : Int)] 39 (0, 0)), Own.blk b2 (.cells #[vI e1.At, vI e1.Len] 55 (0, 0))] := hS20
    refine gn hK19 ?_
    have hS22 := hS21.takeN 0
    obtain rfl := si h
    exact we_ret fun a hF => hQ _ _ _ (Outs.out nofun (Exits.on ⟨rfl, (pr [.cell 4 39] [.agg #[vI 3, vI (i1 : Int)]] [.loaded ⟨b1, 0, none⟩ (vI 3), .loaded ⟨b1, 1, none⟩ (vI (i1 : Int))] ⟨hS21.c 0, hS21.c 0, trivial⟩ ⟨rfl, hS22⟩) a hF⟩))
   ·rw [if_neg hc6] at h
    refine gk 35 (decide (e1.At > x0)) false (decide_eq_false hc6) ?_
    refine gb [10, 11, 12, 13, 14] [(40, .bool (decide (e1.Len < 1))), (39, .bool (decide (e1.Len < 1))), (38, .bool (decide (e1.Len < 1))), (37, vI e1.Len), (36, pP b2 1)] [.loaded ⟨b2, 1, none⟩ (vI e1.Len)] ⟨hS14.c 0, trivial⟩ ?_
    by_cases hc7 : e1.Len < 1
    ·rw [if_pos hc7] at h
     refine gk 40 (decide (e1.Len < 1)) true (decide_eq_true hc7) ?_
     refine gb0 [15, 16, 17, 18, 19, 20, 21, 22] [(48, .bool true), (47, undef), (46, undef), (45, undef), (44, undef), (43, undef), (42, undef), (41, undef)] ?_
     refine gn hK17 ?_
     refine we_true (by kernel_rfl) ?_
     refine ws fun K20 hK20 => ?_
     refine wr [(0, 0), (1, 0), (2, 2)] ?_
     refine gb0 [0, 1] [(50, .agg #[vI 3, vI (i1 : Int)]), (49, vI (i1 : Int))] ?_
     have hS23 := hS14.bring 1 rfl
     refine gs b1 0 #[vI 0, vI 0] 39 [vI 3, vI (i1 : Int)] hS23 fun w10 hS24 => ?_
     have hS25 : St w0 w10 [Own.blk b1 (.cells #[vI 3, vI (i1 : Int)] 39 (0, 0)), Own.blk b2 (.cells #[vI e1.At, vI e1.Len] 55 (0, 0))] := hS24
     refine gn hK20 ?_
     have hS26 := hS25.takeN 0
     obtain rfl := si h
     exact we_ret fun a hF => hQ _ _ _ (Outs.out nofun (Exits.on ⟨rfl, (pr [.cell 4 39] [.agg #[vI 3, vI (i1 : Int)]] [.loaded ⟨b1, 0, none⟩ (vI 3), .loaded ⟨b1, 1, none⟩ (vI (i1 : Int))] ⟨hS25.c 0, hS25.c 0, trivial⟩ ⟨rfl, hS26⟩) a hF⟩))
    ·rw [if_neg hc7] at h
     refine gk 40 (decide (e1.Len < 1)) false (decide_eq_false hc7) ?_
     refine gb [15, 16, 17, 18, 19, 20, 21, 22] [(48, .bool (decide (e1.Len > (IntKind.i64.wrap (x0 - e1.At))))), (47, .bool (decide (e1.Len > (IntKind.i64.wrap (x0 - e1.At))))), (46, vI (IntKind.i64.wrap (x0 - e1.At))), (45, vI e1.At), (44, pP b2 0), (43, vI x0), (42, vI e1.Len), (41, pP b2 1)] [.loaded ⟨b2, 1, none⟩ (vI e1.Len), .loaded ⟨b2, 0, none⟩ (vI e1.At)] ⟨hS14.c 0, hS14.c 0, trivial⟩ ?_
     refine gn hK17 ?_
     by_cases hc8 : e1.Len > (IntKind.i64.wrap (x0 - e1.At))
     ·rw [if_pos hc8] at h
      refine wk 48 (decide (e1.Len > (IntKind.i64.wrap (x0 - e1.At)))) true (decide_eq_true hc8) ?_
      refine we_true (by kernel_rfl) ?_
      refine ws fun K21 hK21 => ?_
      refine wr [(0, 0), (1, 0), (2, 2)] ?_
      refine gb0 [0, 1] [(50, .agg #[vI 3, vI (i1 : Int)]), (49, vI (i1 : Int))] ?_
      have hS27 := hS14.bring 1 rfl
      refine gs b1 0 #[vI 0, vI 0] 39 [vI 3, vI (i1 : Int)] hS27 fun w11 hS28 => ?_
      have hS29 : St w0 w11 [Own.blk b1 (.cells #[vI 3, vI (i1 : Int)] 39 (0, 0)), Own.blk b2 (.cells #[vI e1.At, vI e1.Len] 55 (0, 0))] := hS28
      refine gn hK21 ?_
      have hS30 := hS29.takeN 0
      obtain rfl := si h
      exact we_ret fun a hF => hQ _ _ _ (Outs.out nofun (Exits.on ⟨rfl, (pr [.cell 4 39] [.agg #[vI 3, vI (i1 : Int)]] [.loaded ⟨b1, 0, none⟩ (vI 3), .loaded ⟨b1, 1, none⟩ (vI (i1 : Int))] ⟨hS29.c 0, hS29.c 0, trivial⟩ ⟨rfl, hS30⟩) a hF⟩))
     ·rw [if_neg hc8] at h
      refine wk 48 (decide (e1.Len > (IntKind.i64.wrap (x0 - e1.At)))) false (decide_eq_false hc8) ?_
      refine we_false (by kernel_rfl) ?_
      refine we_skip fun a hF => hK16 _ _ ?_ a hF
      refine ws fun K22 hK22 => ?_
      refine ws fun K23 hK23 => ?_
      refine wr [(0, 0), (1, 0), (2, 0), (3, 0)] ?_
      refine gb [0, 1, 2, 3] [(54, .bool (decide (e1.At < z1))), (53, vI z1), (52, vI e1.At), (51, pP b2 0)] [.loaded ⟨b2, 0, none⟩ (vI e1.At)] ⟨hS14.c 0, trivial⟩ ?_
      refine gn hK23 ?_
      by_cases hc9 : e1.At < z1
      ·rw [if_pos hc9] at h
       refine wk 54 (decide (e1.At < z1)) true (decide_eq_true hc9) ?_
       refine we_true (by kernel_rfl) ?_
       refine ws fun K24 hK24 => ?_
       refine wr [(0, 0), (1, 0), (2, 2)] ?_
       refine gb0 [0, 1] [(56, .agg #[vI 12, vI (i1 : Int)]), (55, vI (i1 : Int))] ?_
       have hS31 := hS14.bring 1 rfl
       refine gs b1 0 #[vI 0, vI 0] 39 [vI 12, vI (i1 : Int)] hS31 fun w12 hS32 => ?_
       have hS33 : St w0 w12 [Own.blk b1 (.cells #[vI 12, vI (i1 : Int)] 39 (0, 0)), Own.blk b2 (.cells #[vI e1.At, vI e1.Len] 55 (0, 0))] := hS32
       refine gn hK24 ?_
       have hS34 := hS33.takeN 0
       obtain rfl := si h
       exact we_ret fun a hF => hQ _ _ _ (Outs.out nofun (Exits.on ⟨rfl, (pr [.cell 4 39] [.agg #[vI 12, vI (i1 : Int)]] [.loaded ⟨b1, 0, none⟩ (vI 12), .loaded ⟨b1, 1, none⟩ (vI (i1 : Int))] ⟨hS33.c 0, hS33.c 0, trivial⟩ ⟨rfl, hS34⟩) a hF⟩))
      ·rw [if_neg hc9] at h
       refine wk 54 (decide (e1.At < z1)) false (decide_eq_false hc9) ?_
       refine we_false (by kernel_rfl) ?_
       refine we_skip fun a hF => hK22 _ _ ?_ a hF
       refine wr [(0, 0), (1, 0), (2, 0), (3, 0), (4, 0), (5, 0)] ?_
       refine gb [0, 1, 2, 3, 4, 5] [(5, vI (IntKind.i64.wrap (e1.At + e1.Len))), (61, vI (IntKind.i64.wrap (e1.At + e1.Len))), (60, vI e1.Len), (59, pP b2 1), (58, vI e1.At), (57, pP b2 0)] [.loaded ⟨b2, 0, none⟩ (vI e1.At), .loaded ⟨b2, 1, none⟩ (vI e1.Len)] ⟨hS14.c 0, hS14.c 0, trivial⟩ ?_
       refine gn hK14 ?_
       refine wr [(0, 0), (1, 0)] ?_
       refine ge_addn (d := 62) (ty := 3) (x := (.tmp 21)) (y := (.const (vI 1))) (t := 3) (t2 := 3) (k := .i64) (m := i1) (by kernel_rfl) (by kernel_rfl) (by kernel_rfl) (by have h0 := hR1.small; omega) ?_
       refine gb0 [1] [(21, vI ((i1 + 1 : Nat) : Int))] ?_
       have hS35 := hS14.bring 1 rfl
       have hS36 := hS35.takeN 1
       obtain rfl := si h
       exact ge_nil fun a hF => hQ _ _ _ (Outs.again ⟨hS36, hF.weaken ea⟩)
 ·rw [if_neg hc4] at h
  refine wk 22 (decide ((i1 : Int) < (l1.length : Int))) false (decide_eq_false hc4) ?_
  refine we_false (by kernel_rfl) ?_
  obtain rfl := si h
  exact we_exit fun a hF => hQ _ _ _ (Outs.out nofun (Exits.here ⟨hS, hF.weaken ea⟩))
theorem modes_Frame_ok (K : Nat) (x0 : Int) (l1 : List SWindow) (A1 : Option Addr) (c1 : Nat) (w0 : World) (hR1 : RdL w0 A1 l1) (hL1 : l1.length ≤ c1) (r : SFault) (h : modes_Frame.f K x0 l1 = some r) :
  Calls Tryd.prog 80 #[vI x0, .slice A1 l1.length c1] w0 (modes_Frame.Post w0 r) := by
 have hS := St.start w0
 unfold modes_Frame.f at h
 refine calls_enter (n := 64) (args := [vI x0, .slice A1 l1.length c1]) (fn := Tryd.f80) rfl rfl rfl rfl ?_
 show WE _ _ _ _ [(0, vI x0), (1, .slice A1 l1.length c1)] _
 refine ws fun K1 hK1 => ?_
 refine wr [(0, 1)] ?_
 refine gw (some 4) (.cells #[vI 0, vI 0] 39) (fun b => pP b 0) hS fun b1 w1 hx1 hS1 => ?_
 refine gn hK1 ?_
 refine ws fun K2 hK2 => ?_
 rcases hq1 : modes_Frame.p0 x0 with _ | (_ | rr2)
 ·rw [hq1] at h; cases h
 ·rw [hq1] at h
  simp only [] at h
  refine we_keep (e' := [(0, vI x0), (1, .slice A1 l1.length c1), (4, pP b1 0)]) ea (modes_Frame_p0 K w0 x0 l1 A1 c1 hR1 hL1 b1 _ hq1 _ hS1 _ ?_)
  rintro _ a w4 ⟨rfl, hS8, hF⟩
  replace hS8 : St w0 w4 [Own.blk b1 (.cells #[vI 0, vI 0] 39 (0, 0))] := hS8
  refine hK2 [(0, vI x0), (1, .slice A1 l1.length c1), (4, pP b1 0)] w4 ?_ a hF
  refine ws fun K6 hK6 => ?_
  refine ws fun K7 hK7 => ?_
  refine wr [(0, 0), (1, 0), (2, 0)] ?_
  refine gb0 [0, 1, 2] [(17, .bool (decide ((l1.length : Int) > 20))), (16, vI (l1.length : Int)), (15, .slice A1 l1.length c1)] ?_
  refine gn hK7 ?_
  by_cases hc3 : (l1.length : Int) > 20
  ·rw [if_pos hc3] at h
   refine wk 17 (decide ((l1.length : Int) > 20)) true (decide_eq_true hc3) ?_
   refine we_true (by kernel_rfl) ?_
   refine ws fun K8 hK8 => ?_
   refine wr [(0, 0), (1, 2)] ?_
   refine gb0 [0] [(18, .agg #[vI 2, vI 0])] ?_
   refine gs b1 0 #[vI 0, vI 0] 39 [vI 2, vI 0] hS8 fun w5 hS9 => ?_
   have hS10 : St w0 w5 [Own.blk b1 (.cells #[vI 2, vI 0] 39 (0, 0))] := hS9
   refine gn hK8 ?_
   have hS11 := hS10.takeN 0
   obtain rfl := si h
   exact we_ret (pr [.cell 4 39] [.agg #[vI 2, vI 0]] [.loaded ⟨b1, 0, none⟩ (vI 2), .loaded ⟨b1, 1, none⟩ (vI 0)] ⟨hS10.c 0, hS10.c 0, trivial⟩ ⟨rfl, hS11⟩)
  ·rw [if_neg hc3] at h
   refine wk 17 (decide ((l1.length : Int) > 20)) false (decide_eq_false hc3) ?_
   refine we_false (by kernel_rfl) ?_
   refine we_skip fun a hF => hK6 _ _ ?_ a hF
   refine ws fun K9 hK9 => ?_
   refine wr [(0, 0)] ?_
   refine gb0 [0] [(5, vI 0)] ?_
   refine gn hK9 ?_
   refine ws fun K10 hK10 => ?_
   refine ws fun K11 hK11 => ?_
   refine wr [(0, 0), (1, 0), (2, 0)] ?_
   refine gb0 [0, 1, 2] [(21, vI 0), (20, vI (l1.length : Int)), (19, .slice A1 l1.length c1)] ?_
   refine gn hK11 ?_
   refine we_block ?_
   rcases hq2 : iter (modes_Frame.r1 x0 l1) K (0, 0) with _ | (_ | rr1)
   ·rw [hq2] at h; cases h
   ·rw [hq2] at h
    simp only [] at h
    refine we_iter (A := modes_Frame.A1 w0 x0 l1 A1 c1 b1) (B := modes_Frame.B1 w0 b1) hq2 (fun a hF => ⟨hS8, hF.weaken ea⟩) (fun s o hf a w hA Q hQ => modes_Frame_r1 K w0 x0 l1 A1 c1 hR1 hL1 b1 hc3 s o hf a w hA Q hQ) ?_
    rintro _ a w13 _ ⟨rfl, hS37, hF⟩
    replace hS37 : St w0 w13 [Own.blk b1 (.cells #[vI 0, vI 0] 39 (0, 0))] := hS37
    refine hK10 [(4, pP b1 0)] w13 ?_ a hF
    refine ws fun K25 hK25 => ?_
    refine wr [(0, 0), (1, 2)] ?_
    refine gb0 [0] [(63, .agg #[vI 0, vI 0])] ?_
    refine gs b1 0 #[vI 0, vI 0] 39 [vI 0, vI 0] hS37 fun w14 hS38 => ?_
    have hS39 : St w0 w14 [Own.blk b1 (.cells #[vI 0, vI 0] 39 (0, 0))] := hS38
    refine gn hK25 ?_
    have hS40 := hS39.takeN 0
    obtain rfl := si h
    exact we_ret (pr [.cell 4 39] [.agg #[vI 0, vI 0]] [.loaded ⟨b1, 0, none⟩ (vI 0), .loaded ⟨b1, 1, none⟩ (vI 0)] ⟨hS39.c 0, hS39.c 0, trivial⟩ ⟨rfl, hS40⟩)
   ·rw [hq2] at h
    simp only [] at h
    refine we_iter (A := modes_Frame.A1 w0 x0 l1 A1 c1 b1) (B := modes_Frame.B1 w0 b1) hq2 (fun a hF => ⟨hS8, hF.weaken ea⟩) (fun s o hf a w hA Q hQ => modes_Frame_r1 K w0 x0 l1 A1 c1 hR1 hL1 b1 hc3 s o hf a w hA Q hQ) ?_
    rintro _ a w1 _ ⟨rfl, hb⟩
    obtain rfl := si h
    exact hb
 ·rw [hq1] at h
  simp only [] at h
  refine we_keep (e' := [(0, vI x0), (1, .slice A1 l1.length c1), (4, pP b1 0)]) ea (modes_Frame_p0 K w0 x0 l1 A1 c1 hR1 hL1 b1 _ hq1 _ hS1 _ ?_)
  rintro _ a w1 ⟨_, rfl, hb⟩
  obtain rfl := si h
  exact hb

/-! punctual/modes.till -/
abbrev modes_till.Post (w0 : World) (r : Int) (e : Ending) (w : World) : Prop := e = .returned (vI r) ∧ St w0 w []
def modes_till.r0 (l0 : List SWindow) (x1 : Int) : Int × Nat → Option ((Int × Nat) ⊕ (Int ⊕ Int))
 | (z1, i1) =>
  if (i1 : Int) < (l0.length : Int) then
   match l0[i1]? with
   | none => none
   | some e1 =>
    some (.inl (IntKind.i64.wrap (z1 + (gmin (gmax (IntKind.i64.wrap (x1 - e1.At)) 0) e1.Len)), (i1 + 1)))
  else
   some (.inr (.inl z1))
def modes_till.f (K : Nat) (l0 : List SWindow) (x1 : Int) : Option Int :=
 match iter (modes_till.r0 l0 x1) K (0, 0) with
 | none => none
 | some (.inl z3) =>
  some z3
 | some (.inr rr1) =>
  some rr1
abbrev modes_till.A0 (w0 : World) (l0 : List SWindow) (A0 : Option Addr) (c0 : Nat) (x1 : Int) : (Int × Nat) → Act → World → Prop := fun (s : Int × Nat) a w => St w0 w [] ∧ Frm 26 a [(1, vI x1), (5, vI s.1), (8, .slice A0 l0.length c0), (9, vI (l0.length : Int)), (10, vI (s.2 : Int))]
abbrev modes_till.B0 (w0 : World) : (Int ⊕ Int) → Exit → Act → World → Prop := Exits 0 (fun (s : Int) a w => St w0 w [] ∧ Frm 26 a [(5, vI s)]) (Rets Tryd.prog Tryd.f174 (modes_till.Post w0))
theorem modes_till_r0 (K : Nat) (w0 : World) (l0 : List SWindow) (A0 : Option Addr) (c0 : Nat) (x1 : Int) (hR0 : RdL w0 A0 l0) (hL0 : l0.length ≤ c0) (s : Int × Nat) (o : (Int × Nat) ⊕ (Int ⊕ Int)) (h : modes_till.r0 l0 x1 s = some o) (a : Act) (w : World) (hA : modes_till.A0 w0 l0 A0 c0 x1 s a w) (Q : Exit → Act → World → Prop) (hQ : ∀ x a w, Outs (modes_till.A0 w0 l0 A0 c0 x1) (modes_till.B0 w0) o x a w → Q x a w) : (subF Tryd.f174 [1, 1, 0, 1, 0, 0]).wp Tryd.prog Q a w := by
 obtain ⟨z1, i1⟩ := s
 obtain ⟨hS, hF⟩ := hA
 replace hS : St w0 w [] := hS
 simp only [modes_till.r0] at h
 refine (?_ : WE Tryd.prog 26 (subF Tryd.f174 [1, 1, 0, 1, 0, 0]) Q [(1, vI x1), (5, vI z1), (8, .slice A0 l0.length c0), (9, vI (l0.length : Int)), (10, vI (i1 : Int))] w) a hF
 clear hF a
 refine ws fun K5 hK5 => ?_
 refine wr [(0, 0)] ?_
 refine gb0 [0] [(11, .bool (decide ((i1 : Int) < (l0.length : Int))))] ?_
 refine gn hK5 ?_
 refine ws fun K6 hK6 => ?_
 by_cases hc1 : (i1 : Int) < (l0.length : Int)
 ·rw [if_pos hc1] at h
  refine wk 11 (decide ((i1 : Int) < (l0.length : Int))) true (decide_eq_true hc1) ?_
  refine we_true (by kernel_rfl) ?_
  refine we_skip fun a hF => hK6 _ _ ?_ a hF
  refine ws fun K7 hK7 => ?_
  refine we_block ?_
  refine ws fun K8 hK8 => ?_
  refine wr [(0, 0), (1, 0), (2, 1), (3, 2)] ?_
  rcases hx1 : l0[i1]? with _ | e1
  ·rw [hx1] at h; cases h
  rw [hx1] at h
  simp only [] at h
  refine gi 12 0 48 55 2 l0.length c0 (.tmp 8) (.tmp 10) A0 .i64 (i1 : Int) i1 ((hS.rd hR0).eqSome (pos_of_get hx1)) rfl (lt_of_get hx1) ?_
  refine gb [1] [(13, .agg #[vI e1.At, vI e1.Len])] [.loaded ⟨blkOf A0, offOf A0 + i1 * 2, none⟩ (vI e1.At), .loaded ⟨blkOf A0, offOf A0 + i1 * 2 + 1, none⟩ (vI e1.Len)] ⟨RdL.cell (j := 0) (hS.rd hR0) hx1 rfl, RdL.cell (j := 1) (hS.rd hR0) hx1 rfl, trivial⟩ ?_
  refine gw (some 7) (.cells #[vI 0, vI 0] 55) (fun b => pP b 0) hS fun b1 w1 hx2 hS1 => ?_
  refine gs b1 0 #[vI 0, vI 0] 55 [vI e1.At, vI e1.Len] hS1 fun w2 hS2 => ?_
  have hS3 : St w0 w2 [Own.blk b1 (.cells #[vI e1.At, vI e1.Len] 55 (0, 0))] := hS2
  refine gn hK8 ?_
  refine wr [(0, 0), (1, 0), (2, 0), (3, 0), (4, 0), (5, 0), (6, 0), (7, 0), (8, 0), (9, 0), (10, 0)] ?_
  refine gb [0, 1, 2, 3, 4, 5, 6, 7, 8, 9, 10] [(5, vI (IntKind.i64.wrap (z1 + (gmin (gmax (IntKind.i64.wrap (x1 - e1.At)) 0) e1.Len)))), (23, vI (IntKind.i64.wrap (z1 + (gmin (gmax (IntKind.i64.wrap (x1 - e1.At)) 0) e1.Len)))), (22, vI (gmin (gmax (IntKind.i64.wrap (x1 - e1.At)) 0) e1.Len)), (21, vI e1.Len), (20, pP b1 1), (19, vI (gmax (IntKind.i64.wrap (x1 - e1.At)) 0)), (18, vI (IntKind.i64.wrap (x1 - e1.At))), (17, vI e1.At), (16, pP b1 0), (15, vI x1), (14, vI z1)] [.loaded ⟨b1, 0, none⟩ (vI e1.At), .loaded ⟨b1, 1, none⟩ (vI e1.Len)] ⟨hS3.c 0, hS3.c 0, trivial⟩ ?_
  refine gn hK7 ?_
  refine wr [(0, 0), (1, 0)] ?_
  refine ge_addn (d := 24) (ty := 3) (x := (.tmp 10)) (y := (.const (vI 1))) (t := 3) (t2 := 3) (k := .i64) (m := i1) (by kernel_rfl) (by kernel_rfl) (by kernel_rfl) (by have h0 := hR0.small; omega) ?_
  refine gb0 [1] [(10, vI ((i1 + 1 : Nat) : Int))] ?_
  have hS4 := hS3.takeN 0
  obtain rfl := si h
  exact ge_nil fun a hF => hQ _ _ _ (Outs.again ⟨hS4, hF.weaken ea⟩)
 ·rw [if_neg hc1] at h
  refine wk 11 (decide ((i1 : Int) < (l0.length : Int))) false (decide_eq_false hc1) ?_
  refine we_false (by kernel_rfl) ?_
  obtain rfl := si h
  exact we_exit fun a hF => hQ _ _ _ (Outs.out nofun (Exits.here ⟨hS, hF.weaken ea⟩))
theorem modes_till_ok (K : Nat) (l0 : List SWindow) (A0 : Option Addr) (c0 : Nat) (x1 : Int) (w0 : World) (hR0 : RdL w0 A0 l0) (hL0 : l0.length ≤ c0) (r : Int) (h : modes_till.f K l0 x1 = some r) :
  Calls Tryd.prog 174 #[.slice A0 l0.length c0, vI x1] w0 (modes_till.Post w0 r) := by
 have hS := St.start w0
 unfold modes_till.f at h
 refine calls_enter (n := 26) (args := [.slice A0 l0.length c0, vI x1]) (fn := Tryd.f174) rfl rfl rfl rfl ?_
 show WE _ _ _ _ [(0, .slice A0 l0.length c0), (1, vI x1)] _
 refine ws fun K1 hK1 => ?_
 refine wr [(0, 0)] ?_
 refine gb0 [0] [(4, vI 0)] ?_
 refine gn hK1 ?_
 refine ws fun K2 hK2 => ?_
 refine wr [(0, 0)] ?_
 refine gb0 [0] [(5, vI 0)] ?_
 refine gn hK2 ?_
 refine ws fun K3 hK3 => ?_
 refine ws fun K4 hK4 => ?_
 refine wr [(0, 0), (1, 0), (2, 0)] ?_
 refine gb0 [0, 1, 2] [(10, vI 0), (9, vI (l0.length : Int)), (8, .slice A0 l0.length c0)] ?_
 refine gn hK4 ?_
 refine we_block ?_
 rcases hq1 : iter (modes_till.r0 l0 x1) K (0, 0) with _ | (z3 | rr1)
 ·rw [hq1] at h; cases h
 ·rw [hq1] at h
  simp only [] at h
  refine we_iter (A := modes_till.A0 w0 l0 A0 c0 x1) (B := modes_till.B0 w0) hq1 (fun a hF => ⟨hS, hF.weaken ea⟩) (fun s o hf a w hA Q hQ => modes_till_r0 K w0 l0 A0 c0 x1 hR0 hL0 s o hf a w hA Q hQ) ?_
  rintro _ a w3 _ ⟨rfl, hS5, hF⟩
  replace hS5 : St w0 w3 [] := hS5
  refine hK3 [(5, vI z3)] w3 ?_ a hF
  refine ws fun K9 hK9 => ?_
  refine wr [(0, 0), (1, 0)] ?_
  refine gb0 [0, 1] [(4, vI z3), (25, vI z3)] ?_
  refine gn hK9 ?_
  obtain rfl := si h
  exact we_ret (pr0 [.tmp 4] [vI z3] ⟨rfl, hS5⟩)
 ·rw [hq1] at h
  simp only [] at h
  refine we_iter (A := modes_till.A0 w0 l0 A0 c0 x1) (B := modes_till.B0 w0) hq1 (fun a hF => ⟨hS, hF.weaken ea⟩) (fun s o hf a w hA Q hQ => modes_till_r0 K w0 l0 A0 c0 x1 hR0 hL0 s o hf a w hA Q hQ) ?_
  rintro _ a w1 _ ⟨rfl, hb⟩
  obtain rfl := si h
  exact hb

/-! punctual/modes.supply$1 -/
abbrev modes_supply_1.Post (w0 : World) (r : Int) (e : Ending) (w : World) : Prop := e = .returned (vI r) ∧ St w0 w []
def modes_supply_1.f (K : Nat) (x0 : Int) (xf_0 : Int) (lf_1 : List SWindow) : Option Int :=
 if xf_0 = 0 then
  none
 else
  match modes_till.f K lf_1 xf_0 with
  | none => none
  | some r1 =>
   match modes_till.f K lf_1 (Int.tmod x0 xf_0) with
   | none => none
   | some r2 =>
    some (IntKind.i64.wrap ((IntKind.i64.wrap ((IntKind.i64.wrap (Int.tdiv x0 xf_0)) * r1)) + r2))
theorem modes_supply_1_ok (K : Nat) (x0 : Int) (bf_0 : Nat) (xf_0 : Int) (bf_1 : Nat) (lf_1 : List SWindow) (Af_1 : Option Addr) (cf_1 : Nat) (w0 : World) (hBf_0 : Glob w0 bf_0 [vI xf_0]) (hRf_1 : RdL w0 Af_1 lf_1) (hLf_1 : lf_1.length ≤ cf_1) (hBf_1 : Glob w0 bf_1 [.slice Af_1 lf_1.length cf_1]) (r : Int) (h : modes_supply_1.f K x0 xf_0 lf_1 = some r) :
  Calls Tryd.prog 173 #[vI x0, pP bf_0 0, pP bf_1 0] w0 (modes_supply_1.Post w0 r) := by
 have hS := St.start w0
 unfold modes_supply_1.f at h
 refine calls_enter (n := 18) (args := [vI x0, pP bf_0 0, pP bf_1 0]) (fn := Tryd.f173) rfl rfl rfl rfl ?_
 show WE _ _ _ _ [(0, vI x0), (1, pP bf_0 0), (2, pP bf_1 0)] _
 refine ws fun K1 hK1 => ?_
 refine wr [(0, 0)] ?_
 refine gb0 [0] [(4, vI 0)] ?_
 refine gn hK1 ?_
 refine ws fun K2 hK2 => ?_
 refine we_draws (by kernel_rfl) [(0, 0), (1, 0), (2, 0), (3, 0), (4, 0), (7, 0), (8, 0), (9, 0), (10, 0), (5, 1), (6, 0), (11, 1), (12, 0), (13, 0)] (by kernel_rfl) ?_
 have hS1 := hS.drew
 refine gb [0, 1] [(6, vI xf_0), (5, vI x0)] [.loaded ⟨bf_0, 0, none⟩ (vI xf_0)] ⟨hS1.glob hBf_0 rfl, trivial⟩ ?_
 by_cases hc1 : xf_0 = 0
 ·rw [if_pos hc1] at h
  cases h
 ·rw [if_neg hc1] at h
  refine ge_div (d := 7) (ty := 3) (op := .quo) (x := (.tmp 5)) (y := (.tmp 6)) (t := 3) (t2 := 3) (k := .i64) (p := x0) (q := xf_0) (v := vI (IntKind.i64.wrap (Int.tdiv x0 xf_0))) (by kernel_rfl) (by kernel_rfl) (by kernel_rfl) hc1 rfl ?_
  refine gb [3, 4, 7, 8, 9] [(14, vI xf_0), (13, vI x0), (12, .slice Af_1 lf_1.length cf_1), (9, vI xf_0), (8, .slice Af_1 lf_1.length cf_1)] [.loaded ⟨bf_1, 0, none⟩ (.slice Af_1 lf_1.length cf_1), .loaded ⟨bf_0, 0, none⟩ (vI xf_0), .loaded ⟨bf_1, 0, none⟩ (.slice Af_1 lf_1.length cf_1), .loaded ⟨bf_0, 0, none⟩ (vI xf_0)] ⟨hS1.glob hBf_1 rfl, hS1.glob hBf_0 rfl, hS1.glob hBf_1 rfl, hS1.glob hBf_0 rfl, trivial⟩ ?_
  refine ge_div (d := 15) (ty := 3) (op := .rem) (x := (.tmp 13)) (y := (.tmp 14)) (t := 3) (t2 := 3) (k := .i64) (p := x0) (q := xf_0) (v := vI (Int.tmod x0 xf_0)) (by kernel_rfl) (by kernel_rfl) (by kernel_rfl) hc1 rfl ?_
  rcases hq1 : modes_till.f K lf_1 xf_0 with _ | r1
  ·rw [hq1] at h; cases h
  rw [hq1] at h
  simp only [] at h
  refine ge_call (d := some 10) (f := 174) (args := #[.slice Af_1 lf_1.length cf_1, vI xf_0]) (by kernel_rfl) (modes_till_ok K lf_1 Af_1 cf_1 xf_0 _ (hS1.rd hRf_1) hLf_1 _ hq1) ?_
  rintro _ w1 ⟨rfl, hS2⟩
  refine ⟨_, rfl, hS2.below, ?_⟩
  have hS3 := hS1.call hS2
  rcases hq2 : modes_till.f K lf_1 (Int.tmod x0 xf_0) with _ | r2
  ·rw [hq2] at h; cases h
  rw [hq2] at h
  simp only [] at h
  refine gb0 [6] [(11, vI (IntKind.i64.wrap ((IntKind.i64.wrap (Int.tdiv x0 xf_0)) * r1)))] ?_
  refine ge_call (d := some 16) (f := 174) (args := #[.slice Af_1 lf_1.length cf_1, vI (Int.tmod x0 xf_0)]) (by kernel_rfl) (modes_till_ok K lf_1 Af_1 cf_1 (Int.tmod x0 xf_0) _ (hS3.rd hRf_1) hLf_1 _ hq2) ?_
  rintro _ w2 ⟨rfl, hS4⟩
  refine ⟨_, rfl, hS4.below, ?_⟩
  have hS5 := hS3.call hS4
  refine gb0 [12, 13] [(4, vI (IntKind.i64.wrap ((IntKind.i64.wrap ((IntKind.i64.wrap (Int.tdiv x0 xf_0)) * r1)) + r2))), (17, vI (IntKind.i64.wrap ((IntKind.i64.wrap ((IntKind.i64.wrap (Int.tdiv x0 xf_0)) * r1)) + r2)))] ?_
  refine gn hK2 ?_
  obtain rfl := si h
  exact we_ret (pr0 [.tmp 4] [vI (IntKind.i64.wrap ((IntKind.i64.wrap ((IntKind.i64.wrap (Int.tdiv x0 xf_0)) * r1)) + r2))] ⟨rfl, hS5⟩)

/-! punctual/modes.supply -/
abbrev modes_supply.Post (w0 : World) (r : Int) (e : Ending) (w : World) : Prop := e = .returned (vI r) ∧ St w0 w []
def modes_supply.f (K : Nat) (x0 : Int) (l1 : List SWindow) (x2 : Int) (x3 : Int) : Option Int :=
 match modes_supply_1.f K (IntKind.i64.wrap (x2 + x3)) x0 l1 with
 | none => none
 | some r1 =>
  match modes_supply_1.f K x2 x0 l1 with
  | none => none
  | some r2 =>
   some (IntKind.i64.wrap (r1 - r2))
theorem modes_supply_ok (K : Nat) (x0 : Int) (l1 : List SWindow) (A1 : Option Addr) (c1 : Nat) (x2 : Int) (x3 : Int) (w0 : World) (hR1 : RdL w0 A1 l1) (hL1 : l1.length ≤ c1) (r : Int) (h : modes_supply.f K x0 l1 x2 x3 = some r) :
  Calls Tryd.prog 136 #[vI x0, .slice A1 l1.length c1, vI x2, vI x3] w0 (modes_supply.Post w0 r) := by
 have hS := St.start w0
 unfold modes_supply.f at h
 refine calls_enter (n := 20) (args := [vI x0, .slice A1 l1.length c1, vI x2, vI x3]) (fn := Tryd.f136) rfl rfl rfl rfl ?_
 show WE _ _ _ _ [(0, vI x0), (1, .slice A1 l1.length c1), (2, vI x2), (3, vI x3)] _
 refine ws fun K1 hK1 => ?_
 refine wr [(0, 1), (1, 1), (2, 0)] ?_
 refine gw (some 4) (.cells #[vI x0] 3) (fun b => pP b 0) hS fun b1 w1 hx1 hS1 => ?_
 refine gw (some 5) (.cells #[.slice A1 l1.length c1] 48) (fun b => pP b 0) hS1 fun b2 w2 hx2 hS2 => ?_
 refine gb0 [2] [(8, vI 0)] ?_
 refine gn hK1 ?_
 refine ws fun K2 hK2 => ?_
 refine wr [(0, 0), (1, 0)] ?_
 refine gb0 [0, 1] [(9, .func (.func 173) #[] #[pP b1 0, pP b2 0]), (10, .func (.func 173) #[] #[pP b1 0, pP b2 0])] ?_
 refine gn hK2 ?_
 refine ws fun K3 hK3 => ?_
 refine wr [(0, 0), (1, 0), (2, 0), (3, 0), (4, 1), (5, 0), (6, 0), (7, 1), (8, 0), (9, 0)] ?_
 rcases hq1 : modes_supply_1.f K (IntKind.i64.wrap (x2 + x3)) x0 l1 with _ | r1
 ·rw [hq1] at h; cases h
 rw [hq1] at h
 simp only [] at h
 refine gb0 [0, 1, 2, 3] [(14, vI (IntKind.i64.wrap (x2 + x3))), (13, vI x3), (12, vI x2), (11, .func (.func 173) #[] #[pP b1 0, pP b2 0])] ?_
 refine ge_call (d := some 15) (f := 173) (args := #[vI (IntKind.i64.wrap (x2 + x3)), pP b1 0, pP b2 0]) (by kernel_rfl) (modes_supply_1_ok K (IntKind.i64.wrap (x2 + x3)) b1 x0 b2 l1 A1 c1 _ (hS2.globOf 1 rfl) (hS2.rd hR1) hL1 (hS2.globOf 0 rfl) _ hq1) ?_
 rintro _ w3 ⟨rfl, hS3⟩
 refine ⟨_, rfl, hS3.below, ?_⟩
 have hS4 := hS2.call hS3
 rcases hq2 : modes_supply_1.f K x2 x0 l1 with _ | r2
 ·rw [hq2] at h; cases h
 rw [hq2] at h
 simp only [] at h
 refine gb0 [5, 6] [(17, vI x2), (16, .func (.func 173) #[] #[pP b1 0, pP b2 0])] ?_
 refine ge_call (d := some 18) (f := 173) (args := #[vI x2, pP b1 0, pP b2 0]) (by kernel_rfl) (modes_supply_1_ok K x2 b1 x0 b2 l1 A1 c1 _ (hS4.globOf 1 rfl) (hS4.rd hR1) hL1 (hS4.globOf 0 rfl) _ hq2) ?_
 rintro _ w4 ⟨rfl, hS5⟩
 refine ⟨_, rfl, hS5.below, ?_⟩
 have hS6 := hS4.call hS5
 refine gb0 [8, 9] [(8, vI (IntKind.i64.wrap (r1 - r2))), (19, vI (IntKind.i64.wrap (r1 - r2)))] ?_
 refine gn hK3 ?_
 have hS7 := hS6.takeN 0
 obtain rfl := si h
 exact we_ret (pr0 [.tmp 8] [vI (IntKind.i64.wrap (r1 - r2))] ⟨rfl, hS7⟩)

/-! punctual/modes.Supply -/
abbrev modes_Supply.Post (w0 : World) (r : Int × SFault) (e : Ending) (w : World) : Prop := e = .returned (.tuple #[vI r.1, .agg #[vI r.2.Code, vI r.2.At]]) ∧ St w0 w []
def modes_Supply.f (K : Nat) (x0 : Int) (l1 : List SWindow) (x2 : Int) (x3 : Int) : Option (Int × SFault) :=
 match modes_Frame.f K x0 l1 with
 | none => none
 | some r1 =>
  if r1.Code = 0 then
   if x2 < 0 then
    some (0, (⟨3, 0⟩ : SFault))
   else
    if x2 > 20000 then
     some (0, (⟨3, 0⟩ : SFault))
    else
     if x3 < 0 then
      some (0, (⟨3, 0⟩ : SFault))
     else
      if x3 > 20000 then
       some (0, (⟨3, 0⟩ : SFault))
      else
       match modes_supply.f K x0 l1 x2 x3 with
       | none => none
       | some r2 =>
        some (r2, (⟨0, 0⟩ : SFault))
  else
   some (0, r1)
theorem modes_Supply_ok (K : Nat) (x0 : Int) (l1 : List SWindow) (A1 : Option Addr) (c1 : Nat) (x2 : Int) (x3 : Int) (w0 : World) (hR1 : RdL w0 A1 l1) (hL1 : l1.length ≤ c1) (r : Int × SFault) (h : modes_Supply.f K x0 l1 x2 x3 = some r) :
  Calls Tryd.prog 76 #[vI x0, .slice A1 l1.length c1, vI x2, vI x3] w0 (modes_Supply.Post w0 r) := by
 have hS := St.start w0
 unfold modes_Supply.f at h
 refine calls_enter (n := 39) (args := [vI x0, .slice A1 l1.length c1, vI x2, vI x3]) (fn := Tryd.f76) rfl rfl rfl rfl ?_
 show WE _ _ _ _ [(0, vI x0), (1, .slice A1 l1.length c1), (2, vI x2), (3, vI x3)] _
 refine ws fun K1 hK1 => ?_
 refine wr [(0, 0), (1, 1)] ?_
 refine gb0 [0] [(8, vI 0)] ?_
 refine gw (some 9) (.cells #[vI 0, vI 0] 39) (fun b => pP b 0) hS fun b1 w1 hx1 hS1 => ?_
 refine gn hK1 ?_
 refine ws fun K2 hK2 => ?_
 refine ws fun K3 hK3 => ?_
 refine wr [(0, 0), (1, 0), (2, 1), (3, 1), (4, 2)] ?_
 rcases hq1 : modes_Frame.f K x0 l1 with _ | r1
 ·rw [hq1] at h; cases h
 rw [hq1] at h
 simp only [] at h
 refine gb0 [0, 1] [(12, .slice A1 l1.length c1), (11, vI x0)] ?_
 refine ge_call (d := some 13) (f := 80) (args := #[vI x0, .slice A1 l1.length c1]) (by kernel_rfl) (modes_Frame_ok K x0 l1 A1 c1 _ (hS1.rd hR1) hL1 _ hq1) ?_
 rintro _ w2 ⟨rfl, hS2⟩
 refine ⟨_, rfl, hS2.below, ?_⟩
 have hS3 := hS1.call hS2
 refine gw (some 10) (.cells #[vI 0, vI 0] 39) (fun b => pP b 0) hS3 fun b2 w3 hx2 hS4 => ?_
 refine gs b2 0 #[vI 0, vI 0] 39 [vI r1.Code, vI r1.At] hS4 fun w4 hS5 => ?_
 have hS6 : St w0 w4 [Own.blk b2 (.cells #[vI r1.Code, vI r1.At] 39 (0, 0)), Own.blk b1 (.cells #[vI 0, vI 0] 39 (0, 0))] := hS5
 refine gn hK3 ?_
 refine ws fun K4 hK4 => ?_
 refine wr [(0, 0), (1, 0), (2, 0)] ?_
 refine gb [0, 1, 2] [(16, .bool (r1.Code != 0)), (15, vI r1.Code), (14, pP b2 0)] [.loaded ⟨b2, 0, none⟩ (vI r1.Code)] ⟨hS6.c 0, trivial⟩ ?_
 refine gn hK4 ?_
 by_cases hc1 : r1.Code = 0
 ·rw [if_pos hc1] at h
  refine wk 16 (r1.Code != 0) false (bne_eq_false_iff_eq.2 hc1) ?_
  refine we_false (by kernel_rfl) ?_
  refine we_skip fun a hF => hK2 _ _ ?_ a hF
  refine ws fun K5 hK5 => ?_
  refine ws fun K6 hK6 => ?_
  refine wr [(0, 0), (1, 0), (2, 0), (3, 0), (4, 0), (5, 0), (6, 0), (7, 0), (8, 0), (9, 0), (10, 0), (11, 0), (12, 0), (13, 0)] ?_
  refine gb0 [0, 1, 2] [(20, .bool (decide (x2 < 0))), (19, .bool (decide (x2 < 0))), (18, vI x2)] ?_
  by_cases hc2 : x2 < 0
  ·rw [if_pos hc2] at h
   refine gk 20 (decide (x2 < 0)) true (decide_eq_true hc2) ?_
   refine gb0 [3, 4, 5, 6, 7, 8, 9, 10, 11, 12, 13] [(31, .bool true), (30, undef), (29, undef), (28, .bool true), (27, .bool true), (26, undef), (25, undef), (24, .bool true), (23, .bool true), (22, undef), (21, undef)] ?_
   refine gn hK6 ?_
   refine we_true (by kernel_rfl) ?_
   refine ws fun K7 hK7 => ?_
   refine wr [(0, 0), (1, 0), (2, 2)] ?_
   refine gb0 [0, 1] [(8, vI 0), (32, .agg #[vI 3, vI 0])] ?_
   have hS7 := hS6.bring 1 rfl
   refine gs b1 0 #[vI 0, vI 0] 39 [vI 3, vI 0] hS7 fun w5 hS8 => ?_
   have hS9 : St w0 w5 [Own.blk b1 (.cells #[vI 3, vI 0] 39 (0, 0)), Own.blk b2 (.cells #[vI r1.Code, vI r1.At] 39 (0, 0))] := hS8
   refine gn hK7 ?_
   have hS10 := hS9.takeN 0
   obtain rfl := si h
   exact we_ret (pr [.tmp 8, .cell 9 39] [vI 0, .agg #[vI 3, vI 0]] [.loaded ⟨b1, 0, none⟩ (vI 3), .loaded ⟨b1, 1, none⟩ (vI 0)] ⟨hS9.c 0, hS9.c 0, trivial⟩ ⟨rfl, hS10⟩)
  ·rw [if_neg hc2] at h
   refine gk 20 (decide (x2 < 0)) false (decide_eq_false hc2) ?_
   refine gb0 [3, 4, 5, 6] [(24, .bool (decide (x2 > 20000))), (23, .bool (decide (x2 > 20000))), (22, .bool (decide (x2 > 20000))), (21, vI x2)] ?_
   by_cases hc3 : x2 > 20000
   ·rw [if_pos hc3] at h
    refine gk 24 (decide (x2 > 20000)) true (decide_eq_true hc3) ?_
    refine gb0 [7, 8, 9, 10, 11, 12, 13] [(31, .bool true), (30, undef), (29, undef), (28, .bool true), (27, .bool true), (26, undef), (25, undef)] ?_
    refine gn hK6 ?_
    refine we_true (by kernel_rfl) ?_
    refine ws fun K8 hK8 => ?_
    refine wr [(0, 0), (1, 0), (2, 2)] ?_
    refine gb0 [0, 1] [(8, vI 0), (32, .agg #[vI 3, vI 0])] ?_
    have hS11 := hS6.bring 1 rfl
    refine gs b1 0 #[vI 0, vI 0] 39 [vI 3, vI 0] hS11 fun w6 hS12 => ?_
    have hS13 : St w0 w6 [Own.blk b1 (.cells #[vI 3, vI 0] 39 (0, 0)), Own.blk b2 (.cells #[vI r1.Code, vI r1.At] 39 (0, 0))] := hS12
    refine gn hK8 ?_
    have hS14 := hS13.takeN 0
    obtain rfl := si h
    exact we_ret (pr [.tmp 8, .cell 9 39] [vI 0, .agg #[vI 3, vI 0]] [.loaded ⟨b1, 0, none⟩ (vI 3), .loaded ⟨b1, 1, none⟩ (vI 0)] ⟨hS13.c 0, hS13.c 0, trivial⟩ ⟨rfl, hS14⟩)
   ·rw [if_neg hc3] at h
    refine gk 24 (decide (x2 > 20000)) false (decide_eq_false hc3) ?_
    refine gb0 [7, 8, 9, 10] [(28, .bool (decide (x3 < 0))), (27, .bool (decide (x3 < 0))), (26, .bool (decide (x3 < 0))), (25, vI x3)] ?_
    by_cases hc4 : x3 < 0
    ·rw [if_pos hc4] at h
     refine gk 28 (decide (x3 < 0)) true (decide_eq_true hc4) ?_
     refine gb0 [11, 12, 13] [(31, .bool true), (30, undef), (29, undef)] ?_
     refine gn hK6 ?_
     refine we_true (by kernel_rfl) ?_
     refine ws fun K9 hK9 => ?_
     refine wr [(0, 0), (1, 0), (2, 2)] ?_
     refine gb0 [0, 1] [(8, vI 0), (32, .agg #[vI 3, vI 0])] ?_
     have hS15 := hS6.bring 1 rfl
     refine gs b1 0 #[vI 0, vI 0] 39 [vI 3, vI 0] hS15 fun w7 hS16 => ?_
     have hS17 : St w0 w7 [Own.blk b1 (.cells #[vI 3, vI 0] 39 (0, 0)), Own.blk b2 (.cells #[vI r1.Code, vI r1.At] 39 (0, 0))] := hS16
     refine gn hK9 ?_
     have hS18 := hS17.takeN 0
     obtain rfl := si h
     exact we_ret (pr [.tmp 8, .cell 9 39] [vI 0, .agg #[vI 3, vI 0]] [.loaded ⟨b1, 0, none⟩ (vI 3), .loaded ⟨b1, 1, none⟩ (vI 0)] ⟨hS17.c 0, hS17.c 0, trivial⟩ ⟨rfl, hS18⟩)
    ·rw [if_neg hc4] at h
     refine gk 28 (decide (x3 < 0)) false (decide_eq_false hc4) ?_
     refine gb0 [11, 12, 13] [(31, .bool (decide (x3 > 20000))), (30, .bool (decide (x3 > 20000))), (29, vI x3)] ?_
     refine gn hK6 ?_
     by_cases hc5 : x3 > 20000
     ·rw [if_pos hc5] at h
      refine wk 31 (decide (x3 > 20000)) true (decide_eq_true hc5) ?_
      refine we_true (by kernel_rfl) ?_
      refine ws fun K10 hK10 => ?_
      refine wr [(0, 0), (1, 0), (2, 2)] ?_
      refine gb0 [0, 1] [(8, vI 0), (32, .agg #[vI 3, vI 0])] ?_
      have hS19 := hS6.bring 1 rfl
      refine gs b1 0 #[vI 0, vI 0] 39 [vI 3, vI 0] hS19 fun w8 hS20 => ?_
      have hS21 : St w0 w8 [Own.blk b1 (.cells #[vI 3, vI 0] 39 (0, 0)), Own.blk b2 (.cells #[vI r1.Code, vI r1.At] 39 (0, 0))] := hS20
      refine gn hK10 ?_
      have hS22 := hS21.takeN 0
      obtain rfl := si h
      exact we_ret (pr [.tmp 8, .cell 9 39] [vI 0, .agg #[vI 3, vI 0]] [.loaded ⟨b1, 0, none⟩ (vI 3), .loaded ⟨b1, 1, none⟩ (vI 0)] ⟨hS21.c 0, hS21.c 0, trivial⟩ ⟨rfl, hS22⟩)
     ·rw [if_neg hc5] at h
      refine wk 31 (decide (x3 > 20000)) false (decide_eq_false hc5) ?_
      refine we_false (by kernel_rfl) ?_
      refine we_skip fun a hF => hK5 _ _ ?_ a hF
      refine ws fun K11 hK11 => ?_
      refine wr [(0, 0), (1, 0), (2, 0), (3, 0), (4, 1), (5, 0), (6, 0), (7, 2)] ?_
      rcases hq2 : modes_supply.f K x0 l1 x2 x3 with _ | r2
      ·rw [hq2] at h; cases h
      rw [hq2] at h
      simp only [] at h
      refine gb0 [0, 1, 2, 3] [(36, vI x3), (35, vI x2), (34, .slice A1 l1.length c1), (33, vI x0)] ?_
      refine ge_call (d := some 37) (f := 136) (args := #[vI x0, .slice A1 l1.length c1, vI x2, vI x3]) (by kernel_rfl) (modes_supply_ok K x0 l1 A1 c1 x2 x3 _ (hS6.rd hR1) hL1 _ hq2) ?_
      rintro _ w9 ⟨rfl, hS23⟩
      refine ⟨_, rfl, hS23.below, ?_⟩
      have hS24 := hS6.call hS23
      refine gb0 [5, 6] [(8, vI r2), (38, .agg #[vI 0, vI 0])] ?_
      have hS25 := hS24.bring 1 rfl
      refine gs b1 0 #[vI 0, vI 0] 39 [vI 0, vI 0] hS25 fun w10 hS26 => ?_
      have hS27 : St w0 w10 [Own.blk b1 (.cells #[vI 0, vI 0] 39 (0, 0)), Own.blk b2 (.cells #[vI r1.Code, vI r1.At] 39 (0, 0))] := hS26
      refine gn hK11 ?_
      have hS28 := hS27.takeN 0
      obtain rfl := si h
      exact we_ret (pr [.tmp 8, .cell 9 39] [vI r2, .agg #[vI 0, vI 0]] [.loaded ⟨b1, 0, none⟩ (vI 0), .loaded ⟨b1, 1, none⟩ (vI 0)] ⟨hS27.c 0, hS27.c 0, trivial⟩ ⟨rfl, hS28⟩)
 ·rw [if_neg hc1] at h
  refine wk 16 (r1.Code != 0) true (bne_iff_ne.2 hc1) ?_
  refine we_true (by kernel_rfl) ?_
  refine ws fun K12 hK12 => ?_
  refine we_draws (by kernel_rfl) [(0, 0), (1, 0), (2, 2)] (by kernel_rfl) ?_
  have hS29 := hS6.drew
  refine gb [0, 1] [(8, vI 0), (17, .agg #[vI r1.Code, vI r1.At])] [.loaded ⟨b2, 0, none⟩ (vI r1.Code), .loaded ⟨b2, 1, none⟩ (vI r1.At)] ⟨hS29.c 0, hS29.c 0, trivial⟩ ?_
  have hS30 := hS29.bring 1 rfl
  refine gs b1 0 #[vI 0, vI 0] 39 [vI r1.Code, vI r1.At] hS30 fun w11 hS31 => ?_
  have hS32 : St w0 w11 [Own.blk b1 (.cells #[vI r1.Code, vI r1.At] 39 (0, 0)), Own.blk b2 (.cells #[vI r1.Code, vI r1.At] 39 (0, 0))] := hS31
  refine gn hK12 ?_
  have hS33 := hS32.takeN 0
  obtain rfl := si h
  exact we_ret (pr [.tmp 8, .cell 9 39] [vI 0, .agg #[vI r1.Code, vI r1.At]] [.loaded ⟨b1, 0, none⟩ (vI r1.Code), .loaded ⟨b1, 1, none⟩ (vI r1.At)] ⟨hS32.c 0, hS32.c 0, trivial⟩ ⟨rfl, hS33⟩)

/-! punctual/modes.least -/
abbrev modes_least.Post (w0 : World) (r : Int) (e : Ending) (w : World) : Prop := e = .returned (vI r) ∧ St w0 w []
def modes_least.r0 (K : Nat) (x0 : Int) (l1 : List SWindow) (x2 : Int) : Int × Nat → Option ((Int × Nat) ⊕ (Int ⊕ Int))
 | (z1, i1) =>
  if (i1 : Int) < (l1.length : Int) then
   match l1[i1]? with
   | none => none
   | some e1 =>
    match modes_supply.f K x0 l1 (IntKind.i64.wrap (e1.At + e1.Len)) x2 with
    | none => none
    | some r2 =>
     some (.inl (gmin z1 r2, (i1 + 1)))
  else
   some (.inr (.inl z1))
def modes_least.f (K : Nat) (x0 : Int) (l1 : List SWindow) (x2 : Int) : Option Int :=
 match modes_supply.f K x0 l1 0 x2 with
 | none => none
 | some r1 =>
  match iter (modes_least.r0 K x0 l1 x2) K (r1, 0) with
  | none => none
  | some (.inl z3) =>
   some z3
  | some (.inr rr1) =>
   some rr1
abbrev modes_least.A0 (w0 : World) (x0 : Int) (l1 : List SWindow) (A1 : Option Addr) (c1 : Nat) (x2 : Int) : (Int × Nat) → Act → World → Prop := fun (s : Int × Nat) a w => St w0 w [] ∧ Frm 33 a [(0, vI x0), (1, .slice A1 l1.length c1), (2, vI x2), (7, vI s.1), (14, .slice A1 l1.length c1), (15, vI (l1.length : Int)), (16, vI (s.2 : Int))]
abbrev modes_least.B0 (w0 : World) : (Int ⊕ Int) → Exit → Act → World → Prop := Exits 0 (fun (s : Int) a w => St w0 w [] ∧ Frm 33 a [(7, vI s)]) (Rets Tryd.prog Tryd.f82 (modes_least.Post w0))
theorem modes_least_r0 (K : Nat) (w0 : World) (x0 : Int) (l1 : List SWindow) (A1 : Option Addr) (c1 : Nat) (x2 : Int) (hR1 : RdL w0 A1 l1) (hL1 : l1.length ≤ c1) (r1 : Int) (s : Int × Nat) (o : (Int × Nat) ⊕ (Int ⊕ Int)) (h : modes_least.r0 K x0 l1 x2 s = some o) (a : Act) (w : World) (hA : modes_least.A0 w0 x0 l1 A1 c1 x2 s a w) (Q : Exit → Act → World → Prop) (hQ : ∀ x a w, Outs (modes_least.A0 w0 x0 l1 A1 c1 x2) (modes_least.B0 w0) o x a w → Q x a w) : (subF Tryd.f82 [1, 1, 0, 1, 0, 0]).wp Tryd.prog Q a w := by
 obtain ⟨z1, i1⟩ := s
 obtain ⟨hS, hF⟩ := hA
 replace hS : St w0 w [] := hS
 simp only [modes_least.r0] at h
 refine (?_ : WE Tryd.prog 33 (subF Tryd.f82 [1, 1, 0, 1, 0, 0]) Q [(0, vI x0), (1, .slice A1 l1.length c1), (2, vI x2), (7, vI z1), (14, .slice A1 l1.length c1), (15, vI (l1.length : Int)), (16, vI (i1 : Int))] w) a hF
 clear hF a
 refine ws fun K5 hK5 => ?_
 refine wr [(0, 0)] ?_
 refine gb0 [0] [(17, .bool (decide ((i1 : Int) < (l1.length : Int))))] ?_
 refine gn hK5 ?_
 refine ws fun K6 hK6 => ?_
 by_cases hc1 : (i1 : Int) < (l1.length : Int)
 ·rw [if_pos hc1] at h
  refine wk 17 (decide ((i1 : Int) < (l1.length : Int))) true (decide_eq_true hc1) ?_
  refine we_true (by kernel_rfl) ?_
  refine we_skip fun a hF => hK6 _ _ ?_ a hF
  refine ws fun K7 hK7 => ?_
  refine we_block ?_
  refine ws fun K8 hK8 => ?_
  refine wr [(0, 0), (1, 0), (2, 1), (3, 2)] ?_
  rcases hx1 : l1[i1]? with _ | e1
  ·rw [hx1] at h; cases h
  rw [hx1] at h
  simp only [] at h
  refine gi 18 0 48 55 2 l1.length c1 (.tmp 14) (.tmp 16) A1 .i64 (i1 : Int) i1 ((hS.rd hR1).eqSome (pos_of_get hx1)) rfl (lt_of_get hx1) ?_
  refine gb [1] [(19, .agg #[vI e1.At, vI e1.Len])] [.loaded ⟨blkOf A1, offOf A1 + i1 * 2, none⟩ (vI e1.At), .loaded ⟨blkOf A1, offOf A1 + i1 * 2 + 1, none⟩ (vI e1.Len)] ⟨RdL.cell (j := 0) (hS.rd hR1) hx1 rfl, RdL.cell (j := 1) (hS.rd hR1) hx1 rfl, trivial⟩ ?_
  refine gw (some 9) (.cells #[vI 0, vI 0] 55) (fun b => pP b 0) hS fun b1 w2 hx2 hS3 => ?_
  refine gs b1 0 #[vI 0, vI 0] 55 [vI e1.At, vI e1.Len] hS3 fun w3 hS4 => ?_
  have hS5 : St w0 w3 [Own.blk b1 (.cells #[vI e1.At, vI e1.Len] 55 (0, 0))] := hS4
  refine gn hK8 ?_
  refine wr [(0, 0), (1, 0), (2, 0), (3, 0), (4, 0), (5, 0), (6, 0), (7, 0), (8, 0), (9, 1), (10, 0), (11, 0)] ?_
  rcases hq2 : modes_supply.f K x0 l1 (IntKind.i64.wrap (e1.At + e1.Len)) x2 with _ | r2
  ·rw [hq2] at h; cases h
  rw [hq2] at h
  simp only [] at h
  refine gb [0, 1, 2, 3, 4, 5, 6, 7, 8] [(28, vI x2), (27, vI (IntKind.i64.wrap (e1.At + e1.Len))), (26, vI e1.Len), (25, pP b1 1), (24, vI e1.At), (23, pP b1 0), (22, .slice A1 l1.length c1), (21, vI x0), (20, vI z1)] [.loaded ⟨b1, 0, none⟩ (vI e1.At), .loaded ⟨b1, 1, none⟩ (vI e1.Len)] ⟨hS5.c 0, hS5.c 0, trivial⟩ ?_
  refine ge_call (d := some 29) (f := 136) (args := #[vI x0, .slice A1 l1.length c1, vI (IntKind.i64.wrap (e1.At + e1.Len)), vI x2]) (by kernel_rfl) (modes_supply_ok K x0 l1 A1 c1 (IntKind.i64.wrap (e1.At + e1.Len)) x2 _ (hS5.rd hR1) hL1 _ hq2) ?_
  rintro _ w4 ⟨rfl, hS6⟩
  refine ⟨_, rfl, hS6.below, ?_⟩
  have hS7 := hS5.call hS6
  refine gb0 [10, 11] [(7, vI (gmin z1 r2)), (30, vI (gmin z1 r2))] ?_
  refine gn hK7 ?_
  refine wr [(0, 0), (1, 0)] ?_
  refine ge_addn (d := 31) (ty := 3) (x := (.tmp 16)) (y := (.const (vI 1))) (t := 3) (t2 := 3) (k := .i64) (m := i1) (by kernel_rfl) (by kernel_rfl) (by kernel_rfl) (by have h0 := hR1.small; omega) ?_
  refine gb0 [1] [(16, vI ((i1 + 1 : Nat) : Int))] ?_
  have hS8 := hS7.takeN 0
  obtain rfl := si h
  exact ge_nil fun a hF => hQ _ _ _ (Outs.again ⟨hS8, hF.weaken ea⟩)
 ·rw [if_neg hc1] at h
  refine wk 17 (decide ((i1 : Int) < (l1.length : Int))) false (decide_eq_false hc1) ?_
  refine we_false (by kernel_rfl) ?_
  obtain rfl := si h
  exact we_exit fun a hF => hQ _ _ _ (Outs.out nofun (Exits.here ⟨hS, hF.weaken ea⟩))
theorem modes_least_ok (K : Nat) (x0 : Int) (l1 : List SWindow) (A1 : Option Addr) (c1 : Nat) (x2 : Int) (w0 : World) (hR1 : RdL w0 A1 l1) (hL1 : l1.length ≤ c1) (r : Int) (h : modes_least.f K x0 l1 x2 = some r) :
  Calls Tryd.prog 82 #[vI x0, .slice A1 l1.length c1, vI x2] w0 (modes_least.Post w0 r) := by
 have hS := St.start w0
 unfold modes_least.f at h
 refine calls_enter (n := 33) (args := [vI x0, .slice A1 l1.length c1, vI x2]) (fn := Tryd.f82) rfl rfl rfl rfl ?_
 show WE _ _ _ _ [(0, vI x0), (1, .slice A1 l1.length c1), (2, vI x2)] _
 refine ws fun K1 hK1 => ?_
 refine wr [(0, 0)] ?_
 refine gb0 [0] [(6, vI 0)] ?_
 refine gn hK1 ?_
 refine ws fun K2 hK2 => ?_
 refine wr [(0, 0), (1, 0), (2, 0), (3, 1), (4, 0)] ?_
 rcases hq1 : modes_supply.f K x0 l1 0 x2 with _ | r1
 ·rw [hq1] at h; cases h
 rw [hq1] at h
 simp only [] at h
 refine gb0 [0, 1, 2] [(12, vI x2), (11, .slice A1 l1.length c1), (10, vI x0)] ?_
 refine ge_call (d := some 13) (f := 136) (args := #[vI x0, .slice A1 l1.length c1, vI 0, vI x2]) (by kernel_rfl) (modes_supply_ok K x0 l1 A1 c1 0 x2 _ (hS.rd hR1) hL1 _ hq1) ?_
 rintro _ w1 ⟨rfl, hS1⟩
 refine ⟨_, rfl, hS1.below, ?_⟩
 have hS2 := hS.call hS1
 refine gb0 [4] [(7, vI r1)] ?_
 refine gn hK2 ?_
 refine ws fun K3 hK3 => ?_
 refine ws fun K4 hK4 => ?_
 refine wr [(0, 0), (1, 0), (2, 0)] ?_
 refine gb0 [0, 1, 2] [(16, vI 0), (15, vI (l1.length : Int)), (14, .slice A1 l1.length c1)] ?_
 refine gn hK4 ?_
 refine we_block ?_
 rcases hq3 : iter (modes_least.r0 K x0 l1 x2) K (r1, 0) with _ | (z3 | rr1)
 ·rw [hq3] at h; cases h
 ·rw [hq3] at h
  simp only [] at h
  refine we_iter (A := modes_least.A0 w0 x0 l1 A1 c1 x2) (B := modes_least.B0 w0) hq3 (fun a hF => ⟨hS2, hF.weaken ea⟩) (fun s o hf a w hA Q hQ => modes_least_r0 K w0 x0 l1 A1 c1 x2 hR1 hL1 r1 s o hf a w hA Q hQ) ?_
  rintro _ a w5 _ ⟨rfl, hS9, hF⟩
  replace hS9 : St w0 w5 [] := hS9
  refine hK3 [(7, vI z3)] w5 ?_ a hF
  refine ws fun K9 hK9 => ?_
  refine wr [(0, 0), (1, 0)] ?_
  refine gb0 [0, 1] [(6, vI z3), (32, vI z3)] ?_
  refine gn hK9 ?_
  obtain rfl := si h
  exact we_ret (pr0 [.tmp 6] [vI z3] ⟨rfl, hS9⟩)
 ·rw [hq3] at h
  simp only [] at h
  refine we_iter (A := modes_least.A0 w0 x0 l1 A1 c1 x2) (B := modes_least.B0 w0) hq3 (fun a hF => ⟨hS2, hF.weaken ea⟩) (fun s o hf a w hA Q hQ => modes_least_r0 K w0 x0 l1 A1 c1 x2 hR1 hL1 r1 s o hf a w hA Q hQ) ?_
  rintro _ a w1 _ ⟨rfl, hb⟩
  obtain rfl := si h
  exact hb

/-! punctual/modes.Least -/
abbrev modes_Least.Post (w0 : World) (r : Int × SFault) (e : Ending) (w : World) : Prop := e = .returned (.tuple #[vI r.1, .agg #[vI r.2.Code, vI r.2.At]]) ∧ St w0 w []
def modes_Least.f (K : Nat) (x0 : Int) (l1 : List SWindow) (x2 : Int) : Option (Int × SFault) :=
 match modes_Frame.f K x0 l1 with
 | none => none
 | some r1 =>
  if r1.Code = 0 then
   if x2 < 0 then
    some (0, (⟨3, 0⟩ : SFault))
   else
    if x2 > 20000 then
     some (0, (⟨3, 0⟩ : SFault))
    else
     match modes_least.f K x0 l1 x2 with
     | none => none
     | some r2 =>
      some (r2, (⟨0, 0⟩ : SFault))
  else
   some (0, r1)
theorem modes_Least_ok (K : Nat) (x0 : Int) (l1 : List SWindow) (A1 : Option Addr) (c1 : Nat) (x2 : Int) (w0 : World) (hR1 : RdL w0 A1 l1) (hL1 : l1.length ≤ c1) (r : Int × SFault) (h : modes_Least.f K x0 l1 x2 = some r) :
  Calls Tryd.prog 77 #[vI x0, .slice A1 l1.length c1, vI x2] w0 (modes_Least.Post w0 r) := by
 have hS := St.start w0
 unfold modes_Least.f at h
 refine calls_enter (n := 28) (args := [vI x0, .slice A1 l1.length c1, vI x2]) (fn := Tryd.f77) rfl rfl rfl rfl ?_
 show WE _ _ _ _ [(0, vI x0), (1, .slice A1 l1.length c1), (2, vI x2)] _
 refine ws fun K1 hK1 => ?_
 refine wr [(0, 0), (1, 1)] ?_
 refine gb0 [0] [(6, vI 0)] ?_
 refine gw (some 7) (.cells #[vI 0, vI 0] 39) (fun b => pP b 0) hS fun b1 w1 hx1 hS1 => ?_
 refine gn hK1 ?_
 refine ws fun K2 hK2 => ?_
 refine ws fun K3 hK3 => ?_
 refine wr [(0, 0), (1, 0), (2, 1), (3, 1), (4, 2)] ?_
 rcases hq1 : modes_Frame.f K x0 l1 with _ | r1
 ·rw [hq1] at h; cases h
 rw [hq1] at h
 simp only [] at h
 refine gb0 [0, 1] [(10, .slice A1 l1.length c1), (9, vI x0)] ?_
 refine ge_call (d := some 11) (f := 80) (args := #[vI x0, .slice A1 l1.length c1]) (by kernel_rfl) (modes_Frame_ok K x0 l1 A1 c1 _ (hS1.rd hR1) hL1 _ hq1) ?_
 rintro _ w2 ⟨rfl, hS2⟩
 refine ⟨_, rfl, hS2.below, ?_⟩
 have hS3 := hS1.call hS2
 refine gw (some 8) (.cells #[vI 0, vI 0] 39) (fun b => pP b 0) hS3 fun b2 w3 hx2 hS4 => ?_
 refine gs b2 0 #[vI 0, vI 0] 39 [vI r1.Code, vI r1.At] hS4 fun w4 hS5 => ?_
 have hS6 : St w0 w4 [Own.blk b2 (.cells #[vI r1.Code, vI r1.At] 39 (0, 0)), Own.blk b1 (.cells #[vI 0, vI 0] 39 (0, 0))] := hS5
 refine gn hK3 ?_
 refine ws fun K4 hK4 => ?_
 refine wr [(0, 0), (1, 0), (2, 0)] ?_
 refine gb [0, 1, 2] [(14, .bool (r1.Code != 0)), (13, vI r1.Code), (12, pP b2 0)] [.loaded ⟨b2, 0, none⟩ (vI r1.Code)] ⟨hS6.c 0, trivial⟩ ?_
 refine gn hK4 ?_
 by_cases hc1 : r1.Code = 0
 ·rw [if_pos hc1] at h
  refine wk 14 (r1.Code != 0) false (bne_eq_false_iff_eq.2 hc1) ?_
  refine we_false (by kernel_rfl) ?_
  refine we_skip fun a hF => hK2 _ _ ?_ a hF
  refine ws fun K5 hK5 => ?_
  refine ws fun K6 hK6 => ?_
  refine wr [(0, 0), (1, 0), (2, 0), (3, 0), (4, 0), (5, 0)] ?_
  refine gb0 [0, 1, 2] [(18, .bool (decide (x2 < 0))), (17, .bool (decide (x2 < 0))), (16, vI x2)] ?_
  by_cases hc2 : x2 < 0
  ·rw [if_pos hc2] at h
   refine gk 18 (decide (x2 < 0)) true (decide_eq_true hc2) ?_
   refine gb0 [3, 4, 5] [(21, .bool true), (20, undef), (19, undef)] ?_
   refine gn hK6 ?_
   refine we_true (by kernel_rfl) ?_
   refine ws fun K7 hK7 => ?_
   refine wr [(0, 0), (1, 0), (2, 2)] ?_
   refine gb0 [0, 1] [(6, vI 0), (22, .agg #[vI 3, vI 0])] ?_
   have hS7 := hS6.bring 1 rfl
   refine gs b1 0 #[vI 0, vI 0] 39 [vI 3, vI 0] hS7 fun w5 hS8 => ?_
   have hS9 : St w0 w5 [Own.blk b1 (.cells #[vI 3, vI 0] 39 (0, 0)), Own.blk b2 (.cells #[vI r1.Code, vI r1.At] 39 (0, 0))] := hS8
   refine gn hK7 ?_
   have hS10 := hS9.takeN 0
   obtain rfl := si h
   exact we_ret (pr [.tmp 6, .cell 7 39] [vI 0, .agg #[vI 3, vI 0]] [.loaded ⟨b1, 0, none⟩ (vI 3), .loaded ⟨b1, 1, none⟩ (vI 0)] ⟨hS9.c 0, hS9.c 0, trivial⟩ ⟨rfl, hS10⟩)
  ·rw [if_neg hc2] at h
   refine gk 18 (decide (x2 < 0)) false (decide_eq_false hc2) ?_
   refine gb0 [3, 4, 5] [(21, .bool (decide (x2 > 20000))), (20, .bool (decide (x2 > 20000))), (19, vI x2)] ?_
   refine gn hK6 ?_
   by_cases hc3 : x2 > 20000
   ·rw [if_pos hc3] at h
    refine wk 21 (decide (x2 > 20000)) true (decide_eq_true hc3) ?_
    refine we_true (by kernel_rfl) ?_
    refine ws fun K8 hK8 => ?_
    refine wr [(0, 0), (1, 0), (2, 2)] ?_
    refine gb0 [0, 1] [(6, vI 0), (22, .agg #[vI 3, vI 0])] ?_
    have hS11 := hS6.bring 1 rfl
    refine gs b1 0 #[vI 0, vI 0] 39 [vI 3, vI 0] hS11 fun w6 hS12 => ?_
    have hS13 : St w0 w6 [Own.blk b1 (.cells #[vI 3, vI 0] 39 (0, 0)), Own.blk b2 (.cells #[vI r1.Code, vI r1.At] 39 (0, 0))] := hS12
    refine gn hK8 ?_
    have hS14 := hS13.takeN 0
    obtain rfl := si h
    exact we_ret (pr [.tmp 6, .cell 7 39] [vI 0, .agg #[vI 3, vI 0]] [.loaded ⟨b1, 0, none⟩ (vI 3), .loaded ⟨b1, 1, none⟩ (vI 0)] ⟨hS13.c 0, hS13.c 0, trivial⟩ ⟨rfl, hS14⟩)
   ·rw [if_neg hc3] at h
    refine wk 21 (decide (x2 > 20000)) false (decide_eq_false hc3) ?_
    refine we_false (by kernel_rfl) ?_
    refine we_skip fun a hF => hK5 _ _ ?_ a hF
    refine ws fun K9 hK9 => ?_
    refine wr [(0, 0), (1, 0), (2, 0), (3, 1), (4, 0), (5, 0), (6, 2)] ?_
    rcases hq2 : modes_least.f K x0 l1 x2 with _ | r2
    ·rw [hq2] at h; cases h
    rw [hq2] at h
    simp only [] at h
    refine gb0 [0, 1, 2] [(25, vI x2), (24, .slice A1 l1.length c1), (23, vI x0)] ?_
    refine ge_call (d := some 26) (f := 82) (args := #[vI x0, .slice A1 l1.length c1, vI x2]) (by kernel_rfl) (modes_least_ok K x0 l1 A1 c1 x2 _ (hS6.rd hR1) hL1 _ hq2) ?_
    rintro _ w7 ⟨rfl, hS15⟩
    refine ⟨_, rfl, hS15.below, ?_⟩
    have hS16 := hS6.call hS15
    refine gb0 [4, 5] [(6, vI r2), (27, .agg #[vI 0, vI 0])] ?_
    have hS17 := hS16.bring 1 rfl
    refine gs b1 0 #[vI 0, vI 0] 39 [vI 0, vI 0] hS17 fun w8 hS18 => ?_
    have hS19 : St w0 w8 [Own.blk b1 (.cells #[vI 0, vI 0] 39 (0, 0)), Own.blk b2 (.cells #[vI r1.Code, vI r1.At] 39 (0, 0))] := hS18
    refine gn hK9 ?_
    have hS20 := hS19.takeN 0
    obtain rfl := si h
    exact we_ret (pr [.tmp 6, .cell 7 39] [vI r2, .agg #[vI 0, vI 0]] [.loaded ⟨b1, 0, none⟩ (vI 0), .loaded ⟨b1, 1, none⟩ (vI 0)] ⟨hS19.c 0, hS19.c 0, trivial⟩ ⟨rfl, hS20⟩)
 ·rw [if_neg hc1] at h
  refine wk 14 (r1.Code != 0) true (bne_iff_ne.2 hc1) ?_
  refine we_true (by kernel_rfl) ?_
  refine ws fun K10 hK10 => ?_
  refine we_draws (by kernel_rfl) [(0, 0), (1, 0), (2, 2)] (by kernel_rfl) ?_
  have hS21 := hS6.drew
  refine gb [0, 1] [(6, vI 0), (15, .agg #[vI r1.Code, vI r1.At])] [.loaded ⟨b2, 0, none⟩ (vI r1.Code), .loaded ⟨b2, 1, none⟩ (vI r1.At)] ⟨hS21.c 0, hS21.c 0, trivial⟩ ?_
  have hS22 := hS21.bring 1 rfl
  refine gs b1 0 #[vI 0, vI 0] 39 [vI r1.Code, vI r1.At] hS22 fun w9 hS23 => ?_
  have hS24 : St w0 w9 [Own.blk b1 (.cells #[vI r1.Code, vI r1.At] 39 (0, 0)), Own.blk b2 (.cells #[vI r1.Code, vI r1.At] 39 (0, 0))] := hS23
  refine gn hK10 ?_
  have hS25 := hS24.takeN 0
  obtain rfl := si h
  exact we_ret (pr [.tmp 6, .cell 7 39] [vI 0, .agg #[vI r1.Code, vI r1.At]] [.loaded ⟨b1, 0, none⟩ (vI r1.Code), .loaded ⟨b1, 1, none⟩ (vI r1.At)] ⟨hS24.c 0, hS24.c 0, trivial⟩ ⟨rfl, hS25⟩)

/-! punctual/tasks.isName -/
abbrev tasks_isName.Post (w0 : World) (r : Bool) (e : Ending) (w : World) : Prop := e = .returned (.bool r) ∧ St w0 w []
def tasks_isName.r0 (x0 : ByteArray) : Nat → Option (Nat ⊕ (Unit ⊕ Bool))
 | i1 =>
  if i1 < x0.size then
   if ((Utf8.decode x0 i1).1 : Int) < 97 then
    some (.inr (.inr false))
   else
    if ((Utf8.decode x0 i1).1 : Int) > 122 then
     some (.inr (.inr false))
    else
     some (.inl (i1 + (Utf8.decode x0 i1).2))
  else
   some (.inr (.inl ()))
def tasks_isName.f (K : Nat) (x0 : ByteArray) : Option Bool :=
 if (x0.size : Int) < 1 then
  some false
 else
  if (x0.size : Int) > 10 then
   some false
  else
   match iter (tasks_isName.r0 x0) K 0 with
   | none => none
   | some (.inl _) =>
    some true
   | some (.inr rr1) =>
    some rr1
abbrev tasks_isName.A0 (w0 : World) (x0 : ByteArray) (b1 : Nat) : Nat → Act → World → Prop := fun (s : Nat) a w => St w0 w [Own.blk b1 (.stringIter x0 s)] ∧ Frm 24 a [(14, pP b1 0)]
abbrev tasks_isName.B0 (w0 : World) : (Unit ⊕ Bool) → Exit → Act → World → Prop := Exits 0 (fun (s : Unit) a w => St w0 w [] ∧ Frm 24 a []) (Rets Tryd.prog Tryd.f194 (tasks_isName.Post w0))
theorem tasks_isName_r0 (K : Nat) (w0 : World) (x0 : ByteArray) (hc1 : ¬ ((x0.size : Int) < 1)) (hc2 : ¬ ((x0.size : Int) > 10)) (b1 : Nat) (s : Nat) (o : Nat ⊕ (Unit ⊕ Bool)) (h : tasks_isName.r0 x0 s = some o) (a : Act) (w : World) (hA : tasks_isName.A0 w0 x0 b1 s a w) (Q : Exit → Act → World → Prop) (hQ : ∀ x a w, Outs (tasks_isName.A0 w0 x0 b1) (tasks_isName.B0 w0) o x a w → Q x a w) : (subF Tryd.f194 [1, 1, 0, 1, 0, 0]).wp Tryd.prog Q a w := by
 obtain ⟨i1, hs⟩ : ∃ z, z = s := ⟨s, rfl⟩
 subst hs
 obtain ⟨hS, hF⟩ := hA
 replace hS : St w0 w [Own.blk b1 (.stringIter x0 i1)] := hS
 simp only [tasks_isName.r0] at h
 refine (?_ : WE Tryd.prog 24 (subF Tryd.f194 [1, 1, 0, 1, 0, 0]) Q [(14, pP b1 0)] w) a hF
 clear hF a
 refine ws fun K8 hK8 => ?_
 refine wr [(0, 2), (1, 0)] ?_
 by_cases hc3 : i1 < x0.size
 ·rw [if_pos hc3] at h
  refine ge_next (m := 0) (d := 15) (b := b1) (x := (.tmp 14)) (ty := 0) (s := x0) (pos := i1) (by kernel_rfl) (by kernel_rfl) hS (fun _ w2 hS2 => ?_) (fun hp => absurd hc3 hp)
  refine gb0 [1] [(16, .bool true)] ?_
  refine gn hK8 ?_
  refine ws fun K9 hK9 => ?_
  refine we_true (by kernel_rfl) ?_
  refine we_skip fun a hF => hK9 _ _ ?_ a hF
  refine we_block ?_
  refine ws fun K10 hK10 => ?_
  refine wr [(0, 0), (1, 0)] ?_
  refine gb0 [0, 1] [(4, .int .i32 ((Utf8.decode x0 i1).1 : Int)), (17, .int .i32 ((Utf8.decode x0 i1).1 : Int))] ?_
  refine gn hK10 ?_
  refine ws fun K11 hK11 => ?_
  refine wr [(0, 0), (1, 0), (2, 0), (3, 0), (4, 0), (5, 0)] ?_
  refine gb0 [0, 1, 2] [(20, .bool (decide (((Utf8.decode x0 i1).1 : Int) < 97))), (19, .bool (decide (((Utf8.decode x0 i1).1 : Int) < 97))), (18, .int .i32 ((Utf8.decode x0 i1).1 : Int))] ?_
  by_cases hc4 : ((Utf8.decode x0 i1).1 : Int) < 97
  ·rw [if_pos hc4] at h
   refine gk 20 (decide (((Utf8.decode x0 i1).1 : Int) < 97)) true (decide_eq_true hc4) ?_
   refine gb0 [3, 4, 5] [(23, .bool true), (22, undef), (21, undef)] ?_
   refine gn hK11 ?_
   refine we_true (by kernel_rfl) ?_
   refine ws fun K12 hK12 => ?_
   refine wr [(0, 0)] ?_
   refine gb0 [0] [(2, .bool false)] ?_
   refine gn hK12 ?_
   have hS3 := hS2.takeN 0
   obtain rfl := si h
   exact we_ret fun a hF => hQ _ _ _ (Outs.out nofun (Exits.on ⟨rfl, (pr0 [.tmp 2] [.bool false] ⟨rfl, hS3⟩) a hF⟩))
  ·rw [if_neg hc4] at h
   refine gk 20 (decide (((Utf8.decode x0 i1).1 : Int) < 97)) false (decide_eq_false hc4) ?_
   refine gb0 [3, 4, 5] [(23, .bool (decide (((Utf8.decode x0 i1).1 : Int) > 122))), (22, .bool (decide (((Utf8.decode x0 i1).1 : Int) > 122))), (21, .int .i32 ((Utf8.decode x0 i1).1 : Int))] ?_
   refine gn hK11 ?_
   by_cases hc5 : ((Utf8.decode x0 i1).1 : Int) > 122
   ·rw [if_pos hc5] at h
    refine wk 23 (decide (((Utf8.decode x0 i1).1 : Int) > 122)) true (decide_eq_true hc5) ?_
    refine we_true (by kernel_rfl) ?_
    refine ws fun K13 hK13 => ?_
    refine wr [(0, 0)] ?_
    refine gb0 [0] [(2, .bool false)] ?_
    refine gn hK13 ?_
    have hS4 := hS2.takeN 0
    obtain rfl := si h
    exact we_ret fun a hF => hQ _ _ _ (Outs.out nofun (Exits.on ⟨rfl, (pr0 [.tmp 2] [.bool false] ⟨rfl, hS4⟩) a hF⟩))
   ·rw [if_neg hc5] at h
    refine wk 23 (decide (((Utf8.decode x0 i1).1 : Int) > 122)) false (decide_eq_false hc5) ?_
    refine we_false (by kernel_rfl) ?_
    obtain rfl := si h
    exact we_skip fun a hF => hQ _ _ _ (Outs.again ⟨hS2, hF.weaken ea⟩)
 ·rw [if_neg hc3] at h
  refine ge_next (m := 0) (d := 15) (b := b1) (x := (.tmp 14)) (ty := 0) (s := x0) (pos := i1) (by kernel_rfl) (by kernel_rfl) hS (fun hp => absurd hp hc3) (fun _ => ?_)
  refine gb0 [1] [(16, .bool false)] ?_
  refine gn hK8 ?_
  refine ws fun K14 hK14 => ?_
  refine we_false (by kernel_rfl) ?_
  have hS5 := hS.takeN 0
  obtain rfl := si h
  exact we_exit fun a hF => hQ _ _ _ (Outs.out nofun (Exits.here ⟨hS5, hF.weaken trivial⟩))
theorem tasks_isName_ok (K : Nat) (x0 : ByteArray) (w0 : World) (r : Bool) (h : tasks_isName.f K x0 = some r) :
  Calls Tryd.prog 194 #[.string x0] w0 (tasks_isName.Post w0 r) := by
 have hS := St.start w0
 unfold tasks_isName.f at h
 refine calls_enter (n := 24) (args := [.string x0]) (fn := Tryd.f194) rfl rfl rfl rfl ?_
 show WE _ _ _ _ [(0, .string x0)] _
 refine ws fun K1 hK1 => ?_
 refine wr [(0, 0)] ?_
 refine gb0 [0] [(2, .bool false)] ?_
 refine gn hK1 ?_
 refine ws fun K2 hK2 => ?_
 refine ws fun K3 hK3 => ?_
 refine wr [(0, 0), (1, 0), (2, 0), (3, 0), (4, 0), (5, 0), (6, 0), (7, 0)] ?_
 refine gb0 [0, 1, 2, 3] [(8, .bool (decide ((x0.size : Int) < 1))), (7, .bool (decide ((x0.size : Int) < 1))), (6, vI (x0.size : Int)), (5, .string x0)] ?_
 by_cases hc1 : (x0.size : Int) < 1
 ·rw [if_pos hc1] at h
  refine gk 8 (decide ((x0.size : Int) < 1)) true (decide_eq_true hc1) ?_
  refine gb0 [4, 5, 6, 7] [(12, .bool true), (11, undef), (10, undef), (9, undef)] ?_
  refine gn hK3 ?_
  refine we_true (by kernel_rfl) ?_
  refine ws fun K4 hK4 => ?_
  refine wr [(0, 0)] ?_
  refine gb0 [0] [(2, .bool false)] ?_
  refine gn hK4 ?_
  obtain rfl := si h
  exact we_ret (pr0 [.tmp 2] [.bool false] ⟨rfl, hS⟩)
 ·rw [if_neg hc1] at h
  refine gk 8 (decide ((x0.size : Int) < 1)) false (decide_eq_false hc1) ?_
  refine gb0 [4, 5, 6, 7] [(12, .bool (decide ((x0.size : Int) > 10))), (11, .bool (decide ((x0.size : Int) > 10))), (10, vI (x0.size : Int)), (9, .string x0)] ?_
  refine gn hK3 ?_
  by_cases hc2 : (x0.size : Int) > 10
  ·rw [if_pos hc2] at h
   refine wk 12 (decide ((x0.size : Int) > 10)) true (decide_eq_true hc2) ?_
   refine we_true (by kernel_rfl) ?_
   refine ws fun K5 hK5 => ?_
   refine wr [(0, 0)] ?_
   refine gb0 [0] [(2, .bool false)] ?_
   refine gn hK5 ?_
   obtain rfl := si h
   exact we_ret (pr0 [.tmp 2] [.bool false] ⟨rfl, hS⟩)
  ·rw [if_neg hc2] at h
   refine wk 12 (decide ((x0.size : Int) > 10)) false (decide_eq_false hc2) ?_
   refine we_false (by kernel_rfl) ?_
   refine we_skip fun a hF => hK2 _ _ ?_ a hF
   refine ws fun K6 hK6 => ?_
   refine ws fun K7 hK7 => ?_
   refine wr [(0, 0), (1, 1)] ?_
   refine gb0 [0] [(13, .string x0)] ?_
   refine gw (some 14) (.stringIter x0 0) (fun b => pP b 0) hS fun b1 w1 hx1 hS1 => ?_
   refine gn hK7 ?_
   refine we_block ?_
   rcases hq1 : iter (tasks_isName.r0 x0) K 0 with _ | (_ | rr1)
   ·rw [hq1] at h; cases h
   ·rw [hq1] at h
    simp only [] at h
    refine we_iter (A := tasks_isName.A0 w0 x0 b1) (B := tasks_isName.B0 w0) hq1 (fun a hF => ⟨hS1, hF.weaken ea⟩) (fun s o hf a w hA Q hQ => tasks_isName_r0 K w0 x0 hc1 hc2 b1 s o hf a w hA Q hQ) ?_
    rintro _ a w3 _ ⟨rfl, hS6, hF⟩
    replace hS6 : St w0 w3 [] := hS6
    refine hK6 [] w3 ?_ a hF
    refine ws fun K15 hK15 => ?_
    refine wr [(0, 0)] ?_
    refine gb0 [0] [(2, .bool true)] ?_
    refine gn hK15 ?_
    obtain rfl := si h
    exact we_ret (pr0 [.tmp 2] [.bool true] ⟨rfl, hS6⟩)
   ·rw [hq1] at h
    simp only [] at h
    refine we_iter (A := tasks_isName.A0 w0 x0 b1) (B := tasks_isName.B0 w0) hq1 (fun a hF => ⟨hS1, hF.weaken ea⟩) (fun s o hf a w hA Q hQ => tasks_isName_r0 K w0 x0 hc1 hc2 b1 s o hf a w hA Q hQ) ?_
    rintro _ a w1 _ ⟨rfl, hb⟩
    obtain rfl := si h
    exact hb

structure STask where
 Name : ByteArray
 C : Int
 T : Int
 D : Int
 J : Int
 O : Int
 P : Int
def STask.eqb (x y : STask) : Bool := ((x.Name.toList == y.Name.toList) && ((x.C == y.C) && ((x.T == y.T) && ((x.D == y.D) && ((x.J == y.J) && ((x.O == y.O) && ((x.P == y.P) && true)))))))
instance : Ok STask := ⟨fun x => Ok.ok x.Name ∧ Ok.ok x.C ∧ Ok.ok x.T ∧ Ok.ok x.D ∧ Ok.ok x.J ∧ Ok.ok x.O ∧ Ok.ok x.P ∧ True⟩
instance : Flat STask := ⟨7, fun x => [.string x.Name, vI x.C, vI x.T, vI x.D, vI x.J, vI x.O, vI x.P], fun _ => rfl, fun _ => rfl, by decide⟩

/-! punctual/tasks.Check$1 -/
abbrev tasks_Check_1.Post (w0 : World) (r : Bool) (e : Ending) (w : World) : Prop := e = .returned (.bool r) ∧ St w0 w []
def tasks_Check_1.f (x0 : STask) (xf_0 : STask) : Bool :=
 (x0.Name.toList == xf_0.Name.toList)
theorem tasks_Check_1_ok (x0 : STask) (bf_0 : Nat) (xf_0 : STask) (w0 : World) (hBf_0 : Glob w0 bf_0 [.string xf_0.Name, vI xf_0.C, vI xf_0.T, vI xf_0.D, vI xf_0.J, vI xf_0.O, vI xf_0.P]) (r : Bool) (h : tasks_Check_1.f x0 xf_0 = r) :
  Calls Tryd.prog 196 #[.agg #[.string x0.Name, vI x0.C, vI x0.T, vI x0.D, vI x0.J, vI x0.O, vI x0.P], pP bf_0 0] w0 (tasks_Check_1.Post w0 r) := by
 have hS := St.start w0
 unfold tasks_Check_1.f at h
 refine calls_enter (n := 9) (args := [.agg #[.string x0.Name, vI x0.C, vI x0.T, vI x0.D, vI x0.J, vI x0.O, vI x0.P], pP bf_0 0]) (fn := Tryd.f196) rfl rfl rfl rfl ?_
 show WE _ _ _ _ [(0, .agg #[.string x0.Name, vI x0.C, vI x0.T, vI x0.D, vI x0.J, vI x0.O, vI x0.P]), (1, pP bf_0 0)] _
 refine ws fun K1 hK1 => ?_
 refine wr [(0, 1), (1, 0)] ?_
 refine gw (some 2) (.cells #[.string x0.Name, vI x0.C, vI x0.T, vI x0.D, vI x0.J, vI x0.O, vI x0.P] 51) (fun b => pP b 0) hS fun b1 w1 hx1 hS1 => ?_
 refine gb0 [1] [(3, .bool false)] ?_
 refine gn hK1 ?_
 refine ws fun K2 hK2 => ?_
 refine wr [(0, 0), (1, 0), (2, 0), (3, 0), (4, 0), (5, 0)] ?_
 refine gb [0, 1, 2, 3, 4, 5] [(3, .bool (x0.Name.toList == xf_0.Name.toList)), (8, .bool (x0.Name.toList == xf_0.Name.toList)), (7, .string xf_0.Name), (6, pP bf_0 0), (5, .string x0.Name), (4, pP b1 0)] [.loaded ⟨b1, 0, none⟩ (.string x0.Name), .loaded ⟨bf_0, 0, none⟩ (.string xf_0.Name)] ⟨hS1.c 0, hS1.glob hBf_0 rfl, trivial⟩ ?_
 refine gn hK2 ?_
 have hS2 := hS1.takeN 0
 subst h
 exact we_ret (pr0 [.tmp 3] [.bool (x0.Name.toList == xf_0.Name.toList)] ⟨rfl, hS2⟩)

/-! slices.IndexFunc[[]punctual/api.Task,punctual/api.Task] -/
abbrev slices_IndexFunc_api_Task_api_Task.Post (w0 : World) (r : Int) (e : Ending) (w : World) : Prop := e = .returned (vI r) ∧ St w0 w []
def slices_IndexFunc_api_Task_api_Task.r0 (l0 : List STask) (xg1_0 : STask) : Nat → Option (Nat ⊕ (Unit ⊕ Int))
 | i1 =>
  if (i1 : Int) < (l0.length : Int) then
   match l0[i1]? with
   | none => none
   | some e1 =>
    if (tasks_Check_1.f e1 xg1_0) = true then
     some (.inr (.inr (i1 : Int)))
    else
     some (.inl (i1 + 1))
  else
   some (.inr (.inl ()))
def slices_IndexFunc_api_Task_api_Task.f (K : Nat) (l0 : List STask) (xg1_0 : STask) : Option Int :=
 match iter (slices_IndexFunc_api_Task_api_Task.r0 l0 xg1_0) K 0 with
 | none => none
 | some (.inl _) =>
  some (-1)
 | some (.inr rr1) =>
  some rr1
abbrev slices_IndexFunc_api_Task_api_Task.A0 (w0 : World) (l0 : List STask) (A0 : Option Addr) (c0 : Nat) (bg1_0 : Nat) : Nat → Act → World → Prop := fun (s : Nat) a w => St w0 w [] ∧ Frm 19 a [(0, .slice A0 l0.length c0), (1, .func (.func 196) #[] #[pP bg1_0 0]), (7, vI (l0.length : Int)), (8, vI (s : Int))]
abbrev slices_IndexFunc_api_Task_api_Task.B0 (w0 : World) : (Unit ⊕ Int) → Exit → Act → World → Prop := Exits 0 (fun (s : Unit) a w => St w0 w [] ∧ Frm 19 a []) (Rets Tryd.prog Tryd.f201 (slices_IndexFunc_api_Task_api_Task.Post w0))
theorem slices_IndexFunc_api_Task_api_Task_r0 (K : Nat) (w0 : World) (l0 : List STask) (A0 : Option Addr) (c0 : Nat) (bg1_0 : Nat) (xg1_0 : STask) (hR0 : RdL w0 A0 l0) (hL0 : l0.length ≤ c0) (hBg1_0 : Glob w0 bg1_0 [.string xg1_0.Name, vI xg1_0.C, vI xg1_0.T, vI xg1_0.D, vI xg1_0.J, vI xg1_0.O, vI xg1_0.P]) (s : Nat) (o : Nat ⊕ (Unit ⊕ Int)) (h : slices_IndexFunc_api_Task_api_Task.r0 l0 xg1_0 s = some o) (a : Act) (w : World) (hA : slices_IndexFunc_api_Task_api_Task.A0 w0 l0 A0 c0 bg1_0 s a w) (Q : Exit → Act → World → Prop) (hQ : ∀ x a w, Outs (slices_IndexFunc_api_Task_api_Task.A0 w0 l0 A0 c0 bg1_0) (slices_IndexFunc_api_Task_api_Task.B0 w0) o x a w → Q x a w) : (subF Tryd.f201 [1, 0, 1, 0, 0]).wp Tryd.prog Q a w := by
 obtain ⟨i1, hs⟩ : ∃ z, z = s := ⟨s, rfl⟩
 subst hs
 obtain ⟨hS, hF⟩ := hA
 replace hS : St w0 w [] := hS
 simp only [slices_IndexFunc_api_Task_api_Task.r0] at h
 refine (?_ : WE Tryd.prog 19 (subF Tryd.f201 [1, 0, 1, 0, 0]) Q [(0, .slice A0 l0.length c0), (1, .func (.func 196) #[] #[pP bg1_0 0]), (7, vI (l0.length : Int)), (8, vI (i1 : Int))] w) a hF
 clear hF a
 refine ws fun K4 hK4 => ?_
 refine wr [(0, 0)] ?_
 refine gb0 [0] [(9, .bool (decide ((i1 : Int) < (l0.length : Int))))] ?_
 refine gn hK4 ?_
 refine ws fun K5 hK5 => ?_
 by_cases hc1 : (i1 : Int) < (l0.length : Int)
 ·rw [if_pos hc1] at h
  refine wk 9 (decide ((i1 : Int) < (l0.length : Int))) true (decide_eq_true hc1) ?_
  refine we_true (by kernel_rfl) ?_
  refine we_skip fun a hF => hK5 _ _ ?_ a hF
  refine ws fun K6 hK6 => ?_
  refine we_block ?_
  refine ws fun K7 hK7 => ?_
  refine wr [(0, 0), (1, 0)] ?_
  refine gb0 [0, 1] [(5, vI (i1 : Int)), (10, vI (i1 : Int))] ?_
  refine gn hK7 ?_
  refine ws fun K8 hK8 => ?_
  refine wr [(0, 0), (1, 0), (2, 0), (3, 0), (4, 0), (5, 1)] ?_
  refine gb0 [0, 1, 2] [(13, vI (i1 : Int)), (12, .slice A0 l0.length c0), (11, .func (.func 196) #[] #[pP bg1_0 0])] ?_
  rcases hx1 : l0[i1]? with _ | e1
  ·rw [hx1] at h; cases h
  rw [hx1] at h
  simp only [] at h
  refine gi 14 0 47 51 7 l0.length c0 (.tmp 12) (.tmp 13) A0 .i64 (i1 : Int) i1 ((hS.rd hR0).eqSome (pos_of_get hx1)) rfl (lt_of_get hx1) ?_
  refine gb [4] [(15, .agg #[.string e1.Name, vI e1.C, vI e1.T, vI e1.D, vI e1.J, vI e1.O, vI e1.P])] [.loaded ⟨blkOf A0, offOf A0 + i1 * 7, none⟩ (.string e1.Name), .loaded ⟨blkOf A0, offOf A0 + i1 * 7 + 1, none⟩ (vI e1.C), .loaded ⟨blkOf A0, offOf A0 + i1 * 7 + 2, none⟩ (vI e1.T), .loaded ⟨blkOf A0, offOf A0 + i1 * 7 + 3, none⟩ (vI e1.D), .loaded ⟨blkOf A0, offOf A0 + i1 * 7 + 4, none⟩ (vI e1.J), .loaded ⟨blkOf A0, offOf A0 + i1 * 7 + 5, none⟩ (vI e1.O), .loaded ⟨blkOf A0, offOf A0 + i1 * 7 + 6, none⟩ (vI e1.P)] ⟨RdL.cell (j := 0) (hS.rd hR0) hx1 rfl, RdL.cell (j := 1) (hS.rd hR0) hx1 rfl, RdL.cell (j := 2) (hS.rd hR0) hx1 rfl, RdL.cell (j := 3) (hS.rd hR0) hx1 rfl, RdL.cell (j := 4) (hS.rd hR0) hx1 rfl, RdL.cell (j := 5) (hS.rd hR0) hx1 rfl, RdL.cell (j := 6) (hS.rd hR0) hx1 rfl, trivial⟩ ?_
  refine ge_call (d := some 16) (f := 196) (args := #[.agg #[.string e1.Name, vI e1.C, vI e1.T, vI e1.D, vI e1.J, vI e1.O, vI e1.P], pP bg1_0 0]) (by kernel_rfl) (tasks_Check_1_ok e1 bg1_0 xg1_0 _ (Glob.ext hBg1_0 hS.below) _ rfl) ?_
  rintro _ w1 ⟨rfl, hS1⟩
  refine ⟨_, rfl, hS1.below, ?_⟩
  have hS2 := hS.call hS1
  refine gn hK8 ?_
  by_cases hc2 : (tasks_Check_1.f e1 xg1_0) = true
  ·rw [if_pos hc2] at h
   refine wk 16 (tasks_Check_1.f e1 xg1_0) true hc2 ?_
   refine we_true (by kernel_rfl) ?_
   refine ws fun K9 hK9 => ?_
   refine wr [(0, 0), (1, 0)] ?_
   refine gb0 [0, 1] [(4, vI (i1 : Int)), (17, vI (i1 : Int))] ?_
   refine gn hK9 ?_
   obtain rfl := si h
   exact we_ret fun a hF => hQ _ _ _ (Outs.out nofun (Exits.on ⟨rfl, (pr0 [.tmp 4] [vI (i1 : Int)] ⟨rfl, hS2⟩) a hF⟩))
  ·rw [if_neg hc2] at h
   refine wk 16 (tasks_Check_1.f e1 xg1_0) false (Bool.eq_false_iff.2 hc2) ?_
   refine we_false (by kernel_rfl) ?_
   refine we_skip fun a hF => hK6 _ _ ?_ a hF
   refine wr [(0, 0), (1, 0)] ?_
   refine ge_addn (d := 18) (ty := 3) (x := (.tmp 8)) (y := (.const (vI 1))) (t := 3) (t2 := 3) (k := .i64) (m := i1) (by kernel_rfl) (by kernel_rfl) (by kernel_rfl) (by have h0 := hR0.small; omega) ?_
   refine gb0 [1] [(8, vI ((i1 + 1 : Nat) : Int))] ?_
   obtain rfl := si h
   exact ge_nil fun a hF => hQ _ _ _ (Outs.again ⟨hS2, hF.weaken ea⟩)
 ·rw [if_neg hc1] at h
  refine wk 9 (decide ((i1 : Int) < (l0.length : Int))) false (decide_eq_false hc1) ?_
  refine we_false (by kernel_rfl) ?_
  obtain rfl := si h
  exact we_exit fun a hF => hQ _ _ _ (Outs.out nofun (Exits.here ⟨hS, hF.weaken trivial⟩))
theorem slices_IndexFunc_api_Task_api_Task_ok (K : Nat) (l0 : List STask) (A0 : Option Addr) (c0 : Nat) (bg1_0 : Nat) (xg1_0 : STask) (w0 : World) (hR0 : RdL w0 A0 l0) (hL0 : l0.length ≤ c0) (hBg1_0 : Glob w0 bg1_0 [.string xg1_0.Name, vI xg1_0.C, vI xg1_0.T, vI xg1_0.D, vI xg1_0.J, vI xg1_0.O, vI xg1_0.P]) (r : Int) (h : slices_IndexFunc_api_Task_api_Task.f K l0 xg1_0 = some r) :
  Calls Tryd.prog 201 #[.slice A0 l0.length c0, .func (.func 196) #[] #[pP bg1_0 0]] w0 (slices_IndexFunc_api_Task_api_Task.Post w0 r) := by
 have hS := St.start w0
 unfold slices_IndexFunc_api_Task_api_Task.f at h
 refine calls_enter (n := 19) (args := [.slice A0 l0.length c0, .func (.func 196) #[] #[pP bg1_0 0]]) (fn := Tryd.f201) rfl rfl rfl rfl ?_
 show WE _ _ _ _ [(0, .slice A0 l0.length c0), (1, .func (.func 196) #[] #[pP bg1_0 0])] _
 refine ws fun K1 hK1 => ?_
 refine wr [(0, 0)] ?_
 refine gb0 [0] [(4, vI 0)] ?_
 refine gn hK1 ?_
 refine ws fun K2 hK2 => ?_
 refine ws fun K3 hK3 => ?_
 refine wr [(0, 0), (1, 0), (2, 0)] ?_
 refine gb0 [0, 1, 2] [(8, vI 0), (7, vI (l0.length : Int)), (6, .slice A0 l0.length c0)] ?_
 refine gn hK3 ?_
 refine we_block ?_
 rcases hq2 : iter (slices_IndexFunc_api_Task_api_Task.r0 l0 xg1_0) K 0 with _ | (_ | rr1)
 ·rw [hq2] at h; cases h
 ·rw [hq2] at h
  simp only [] at h
  refine we_iter (A := slices_IndexFunc_api_Task_api_Task.A0 w0 l0 A0 c0 bg1_0) (B := slices_IndexFunc_api_Task_api_Task.B0 w0) hq2 (fun a hF => ⟨hS, hF.weaken ea⟩) (fun s o hf a w hA Q hQ => slices_IndexFunc_api_Task_api_Task_r0 K w0 l0 A0 c0 bg1_0 xg1_0 hR0 hL0 hBg1_0 s o hf a w hA Q hQ) ?_
  rintro _ a w2 _ ⟨rfl, hS3, hF⟩
  replace hS3 : St w0 w2 [] := hS3
  refine hK2 [] w2 ?_ a hF
  refine ws fun K10 hK10 => ?_
  refine wr [(0, 0)] ?_
  refine gb0 [0] [(4, vI (-1))] ?_
  refine gn hK10 ?_
  obtain rfl := si h
  exact we_ret (pr0 [.tmp 4] [vI (-1)] ⟨rfl, hS3⟩)
 ·rw [hq2] at h
  simp only [] at h
  refine we_iter (A := slices_IndexFunc_api_Task_api_Task.A0 w0 l0 A0 c0 bg1_0) (B := slices_IndexFunc_api_Task_api_Task.B0 w0) hq2 (fun a hF => ⟨hS, hF.weaken ea⟩) (fun s o hf a w hA Q hQ => slices_IndexFunc_api_Task_api_Task_r0 K w0 l0 A0 c0 bg1_0 xg1_0 hR0 hL0 hBg1_0 s o hf a w hA Q hQ) ?_
  rintro _ a w1 _ ⟨rfl, hb⟩
  obtain rfl := si h
  exact hb

/-! slices.ContainsFunc[[]punctual/api.Task,punctual/api.Task] -/
abbrev slices_ContainsFunc_api_Task_api_Task.Post (w0 : World) (r : Bool) (e : Ending) (w : World) : Prop := e = .returned (.bool r) ∧ St w0 w []
def slices_ContainsFunc_api_Task_api_Task.f (K : Nat) (l0 : List STask) (xg1_0 : STask) : Option Bool :=
 match slices_IndexFunc_api_Task_api_Task.f K l0 xg1_0 with
 | none => none
 | some r1 =>
  some (decide (r1 ≥ 0))
theorem slices_ContainsFunc_api_Task_api_Task_ok (K : Nat) (l0 : List STask) (A0 : Option Addr) (c0 : Nat) (bg1_0 : Nat) (xg1_0 : STask) (w0 : World) (hR0 : RdL w0 A0 l0) (hL0 : l0.length ≤ c0) (hBg1_0 : Glob w0 bg1_0 [.string xg1_0.Name, vI xg1_0.C, vI xg1_0.T, vI xg1_0.D, vI xg1_0.J, vI xg1_0.O, vI xg1_0.P]) (r : Bool) (h : slices_ContainsFunc_api_Task_api_Task.f K l0 xg1_0 = some r) :
  Calls Tryd.prog 195 #[.slice A0 l0.length c0, .func (.func 196) #[] #[pP bg1_0 0]] w0 (slices_ContainsFunc_api_Task_api_Task.Post w0 r) := by
 have hS := St.start w0
 unfold slices_ContainsFunc_api_Task_api_Task.f at h
 refine calls_enter (n := 9) (args := [.slice A0 l0.length c0, .func (.func 196) #[] #[pP bg1_0 0]]) (fn := Tryd.f195) rfl rfl rfl rfl ?_
 show WE _ _ _ _ [(0, .slice A0 l0.length c0), (1, .func (.func 196) #[] #[pP bg1_0 0])] _
 refine ws fun K1 hK1 => ?_
 refine wr [(0, 0)] ?_
 refine gb0 [0] [(4, .bool false)] ?_
 refine gn hK1 ?_
 refine ws fun K2 hK2 => ?_
 refine wr [(0, 0), (1, 0), (2, 1), (3, 0), (4, 0)] ?_
 rcases hq1 : slices_IndexFunc_api_Task_api_Task.f K l0 xg1_0 with _ | r1
 ·rw [hq1] at h; cases h
 rw [hq1] at h
 simp only [] at h
 refine gb0 [0, 1] [(6, .func (.func 196) #[] #[pP bg1_0 0]), (5, .slice A0 l0.length c0)] ?_
 refine ge_call (d := some 7) (f := 201) (args := #[.slice A0 l0.length c0, .func (.func 196) #[] #[pP bg1_0 0]]) (by kernel_rfl) (slices_IndexFunc_api_Task_api_Task_ok K l0 A0 c0 bg1_0 xg1_0 _ (hS.rd hR0) hL0 (Glob.ext hBg1_0 hS.below) _ hq1) ?_
 rintro _ w1 ⟨rfl, hS1⟩
 refine ⟨_, rfl, hS1.below, ?_⟩
 have hS2 := hS.call hS1
 refine gb0 [3, 4] [(4, .bool (decide (r1 ≥ 0))), (8, .bool (decide (r1 ≥ 0)))] ?_
 refine gn hK2 ?_
 obtain rfl := si h
 exact we_ret (pr0 [.tmp 4] [.bool (decide (r1 ≥ 0))] ⟨rfl, hS2⟩)

/-! punctual/tasks.numbers -/
abbrev tasks_numbers.Post (w0 : World) (r : List Int) (e : Ending) (w : World) : Prop := ∃ (v0 : Value), e = .returned (v0) ∧ St w0 w [Own.of v0 3 r]
def tasks_numbers.f (x0 : STask) : List Int :=
 ([x0.C, x0.T, x0.D, x0.J, x0.O, x0.P] : List Int)
theorem tasks_numbers_ok (x0 : STask) (w0 : World) (r : List Int) (h : tasks_numbers.f x0 = r) :
  Calls Tryd.prog 197 #[.agg #[.string x0.Name, vI x0.C, vI x0.T, vI x0.D, vI x0.J, vI x0.O, vI x0.P]] w0 (tasks_numbers.Post w0 r) := by
 have hS := St.start w0
 unfold tasks_numbers.f at h
 refine calls_enter (n := 16) (args := [.agg #[.string x0.Name, vI x0.C, vI x0.T, vI x0.D, vI x0.J, vI x0.O, vI x0.P]]) (fn := Tryd.f197) rfl rfl rfl rfl ?_
 show WE _ _ _ _ [(0, .agg #[.string x0.Name, vI x0.C, vI x0.T, vI x0.D, vI x0.J, vI x0.O, vI x0.P])] _
 refine ws fun K1 hK1 => ?_
 refine wr [(0, 1), (1, 0)] ?_
 refine gw (some 1) (.cells #[.string x0.Name, vI x0.C, vI x0.T, vI x0.D, vI x0.J, vI x0.O, vI x0.P] 51) (fun b => pP b 0) hS fun b1 w1 hx1 hS1 => ?_
 refine gb0 [1] [(2, .slice none 0 0)] ?_
 refine gn hK1 ?_
 refine ws fun K2 hK2 => ?_
 refine wr [(0, 0), (1, 0), (2, 0), (3, 0), (4, 0), (5, 0), (6, 0), (7, 0), (8, 0), (9, 0), (10, 0), (11, 0), (12, 1), (13, 0)] ?_
 refine gb [0, 1, 2, 3, 4, 5, 6, 7, 8, 9, 10, 11] [(14, vI x0.P), (13, pP b1 6), (12, vI x0.O), (11, pP b1 5), (10, vI x0.J), (9, pP b1 4), (8, vI x0.D), (7, pP b1 3), (6, vI x0.T), (5, pP b1 2), (4, vI x0.C), (3, pP b1 1)] [.loaded ⟨b1, 1, none⟩ (vI x0.C), .loaded ⟨b1, 2, none⟩ (vI x0.T), .loaded ⟨b1, 3, none⟩ (vI x0.D), .loaded ⟨b1, 4, none⟩ (vI x0.J), .loaded ⟨b1, 5, none⟩ (vI x0.O), .loaded ⟨b1, 6, none⟩ (vI x0.P)] ⟨hS1.c 0, hS1.c 0, hS1.c 0, hS1.c 0, hS1.c 0, hS1.c 0, trivial⟩ ?_
 refine gw (some 15) (.cells #[vI x0.C, vI x0.T, vI x0.D, vI x0.J, vI x0.O, vI x0.P] 3) (fun b => .slice (some ⟨b, 0, none⟩) 6 6) hS1 fun b2 w2 hx2 hS2 => ?_
 refine gb0 [13] [(2, .slice (some ⟨b2, 0, none⟩) 6 6)] ?_
 refine gn hK2 ?_
 have hS3 := hS2.asRow (α := Int) (c := 6) ([x0.C, x0.T, x0.D, x0.J, x0.O, x0.P] : List Int) (Nat.le_refl _) (by decide) rfl rfl
 have hS4 := hS3.takeN 1
 subst h
 exact we_ret (pr0 [.tmp 2] [(.slice (some ⟨b2, 0, none⟩) 6 6)] ⟨(.slice (some ⟨b2, 0, none⟩) 6 6), rfl, hS4⟩)

/-! punctual/tasks.bounds -/
abbrev tasks_bounds.Post (w0 : World) (r : Int × Int) (e : Ending) (w : World) : Prop := e = .returned (.tuple #[vI r.1, vI r.2]) ∧ St w0 w []
def tasks_bounds.f (x0 : Int) : Int × Int :=
 if x0 = 0 then
  (1, 10000)
 else
  if x0 = 1 then
   (1, 10000)
  else
   if x0 = 2 then
    (1, 10000)
   else
    if x0 = 5 then
     (0, 1000)
    else
     (0, 10000)
theorem tasks_bounds_ok (x0 : Int) (w0 : World) (r : Int × Int) (h : tasks_bounds.f x0 = r) :
  Calls Tryd.prog 198 #[vI x0] w0 (tasks_bounds.Post w0 r) := by
 have hS := St.start w0
 unfold tasks_bounds.f at h
 refine calls_enter (n := 11) (args := [vI x0]) (fn := Tryd.f198) rfl rfl rfl rfl ?_
 show WE _ _ _ _ [(0, vI x0)] _
 refine ws fun K1 hK1 => ?_
 refine wr [(0, 0), (1, 0)] ?_
 refine gb0 [0, 1] [(3, vI 0), (2, vI 0)] ?_
 refine gn hK1 ?_
 refine ws fun K2 hK2 => ?_
 refine ws fun K3 hK3 => ?_
 refine wr [(0, 0)] ?_
 refine gb0 [0] [(4, vI x0)] ?_
 refine gn hK3 ?_
 refine we_block ?_
 refine ws fun K4 hK4 => ?_
 refine ws fun K5 hK5 => ?_
 refine wr [(0, 0), (1, 0)] ?_
 refine gb0 [0, 1] [(5, .bool (x0 == 0)), (6, .bool (x0 == 0))] ?_
 refine gn hK5 ?_
 by_cases hc1 : x0 = 0
 ·rw [if_pos hc1] at h
  refine wk 5 (x0 == 0) true (beq_iff_eq.2 hc1) ?_
  refine we_true (by kernel_rfl) ?_
  refine we_skip fun a hF => hK4 _ _ ?_ a hF
  refine we_true (by kernel_rfl) ?_
  refine ws fun K6 hK6 => ?_
  refine wr [(0, 0), (1, 0)] ?_
  refine gb0 [0, 1] [(3, vI 10000), (2, vI 1)] ?_
  refine gn hK6 ?_
  subst h
  exact we_ret (pr0 [.tmp 2, .tmp 3] [vI 1, vI 10000] ⟨rfl, hS⟩)
 ·rw [if_neg hc1] at h
  refine wk 5 (x0 == 0) false (beq_eq_false_iff_ne.2 hc1) ?_
  refine we_false (by kernel_rfl) ?_
  refine ws fun K7 hK7 => ?_
  refine wr [(0, 0), (1, 0)] ?_
  refine gb0 [0, 1] [(5, .bool (x0 == 1)), (7, .bool (x0 == 1))] ?_
  refine gn hK7 ?_
  by_cases hc2 : x0 = 1
  ·rw [if_pos hc2] at h
   refine wk 5 (x0 == 1) true (beq_iff_eq.2 hc2) ?_
   refine we_true (by kernel_rfl) ?_
   refine we_skip fun a hF => hK4 _ _ ?_ a hF
   refine we_true (by kernel_rfl) ?_
   refine ws fun K8 hK8 => ?_
   refine wr [(0, 0), (1, 0)] ?_
   refine gb0 [0, 1] [(3, vI 10000), (2, vI 1)] ?_
   refine gn hK8 ?_
   subst h
   exact we_ret (pr0 [.tmp 2, .tmp 3] [vI 1, vI 10000] ⟨rfl, hS⟩)
  ·rw [if_neg hc2] at h
   refine wk 5 (x0 == 1) false (beq_eq_false_iff_ne.2 hc2) ?_
   refine we_false (by kernel_rfl) ?_
   refine wr [(0, 0), (1, 0)] ?_
   refine gb0 [0, 1] [(5, .bool (x0 == 2)), (8, .bool (x0 == 2))] ?_
   refine gn hK4 ?_
   by_cases hc3 : x0 = 2
   ·rw [if_pos hc3] at h
    refine wk 5 (x0 == 2) true (beq_iff_eq.2 hc3) ?_
    refine we_true (by kernel_rfl) ?_
    refine ws fun K9 hK9 => ?_
    refine wr [(0, 0), (1, 0)] ?_
    refine gb0 [0, 1] [(3, vI 10000), (2, vI 1)] ?_
    refine gn hK9 ?_
    subst h
    exact we_ret (pr0 [.tmp 2, .tmp 3] [vI 1, vI 10000] ⟨rfl, hS⟩)
   ·rw [if_neg hc3] at h
    refine wk 5 (x0 == 2) false (beq_eq_false_iff_ne.2 hc3) ?_
    refine we_false (by kernel_rfl) ?_
    refine ws fun K10 hK10 => ?_
    refine wr [(0, 0), (1, 0)] ?_
    refine gb0 [0, 1] [(9, .bool (x0 == 5)), (10, .bool (x0 == 5))] ?_
    refine gn hK10 ?_
    by_cases hc4 : x0 = 5
    ·rw [if_pos hc4] at h
     refine wk 9 (x0 == 5) true (beq_iff_eq.2 hc4) ?_
     refine we_true (by kernel_rfl) ?_
     refine ws fun K11 hK11 => ?_
     refine wr [(0, 0), (1, 0)] ?_
     refine gb0 [0, 1] [(3, vI 1000), (2, vI 0)] ?_
     refine gn hK11 ?_
     subst h
     exact we_ret (pr0 [.tmp 2, .tmp 3] [vI 0, vI 1000] ⟨rfl, hS⟩)
    ·rw [if_neg hc4] at h
     refine wk 9 (x0 == 5) false (beq_eq_false_iff_ne.2 hc4) ?_
     refine we_false (by kernel_rfl) ?_
     refine we_skip fun a hF => hK2 _ _ ?_ a hF
     refine ws fun K12 hK12 => ?_
     refine wr [(0, 0), (1, 0)] ?_
     refine gb0 [0, 1] [(3, vI 10000), (2, vI 0)] ?_
     refine gn hK12 ?_
     subst h
     exact we_ret (pr0 [.tmp 2, .tmp 3] [vI 0, vI 10000] ⟨rfl, hS⟩)

/-! punctual/tasks.Check -/
abbrev tasks_Check.Post (w0 : World) (r : SFault) (e : Ending) (w : World) : Prop := e = .returned (.agg #[vI r.Code, vI r.At]) ∧ St w0 w []
def tasks_Check.p0 (l0 : List STask) : Option (Unit ⊕ SFault) :=
  if (l0.length : Int) < 1 then
   some (.inr (⟨2, 0⟩ : SFault))
  else
   if (l0.length : Int) > 8 then
    some (.inr (⟨2, 0⟩ : SFault))
   else
    some (.inl ())
def tasks_Check.r2 (i1 : Nat) (e1 : STask) : Nat → Option (Nat ⊕ (Unit ⊕ SFault))
 | i2 =>
  if (i2 : Int) < ((tasks_numbers.f e1).length : Int) then
   match (tasks_numbers.f e1)[i2]? with
   | none => none
   | some e2 =>
    if e2 < ((tasks_bounds.f (i2 : Int)).1) then
     some (.inr (.inr (⟨3, (i1 : Int)⟩ : SFault)))
    else
     if e2 > ((tasks_bounds.f (i2 : Int)).2) then
      some (.inr (.inr (⟨3, (i1 : Int)⟩ : SFault)))
     else
      some (.inl (i2 + 1))
  else
   some (.inr (.inl ()))
def tasks_Check.r1 (K : Nat) (l0 : List STask) : Nat → Option (Nat ⊕ (Unit ⊕ SFault))
 | i1 =>
  if (i1 : Int) < (l0.length : Int) then
   match l0[i1]? with
   | none => none
   | some e1 =>
    match tasks_isName.f K e1.Name with
    | none => none
    | some r1 =>
     if r1 = true then
      if i1 ≤ l0.length then
       match slices_ContainsFunc_api_Task_api_Task.f K ((l0.take i1).drop 0) e1 with
       | none => none
       | some r2 =>
        if r2 = true then
         some (.inr (.inr (⟨5, (i1 : Int)⟩ : SFault)))
        else
         match iter (tasks_Check.r2 i1 e1) K 0 with
         | none => none
         | some (.inl _) =>
          if e1.C > e1.D then
           some (.inr (.inr (⟨12, (i1 : Int)⟩ : SFault)))
          else
           some (.inl (i1 + 1))
         | some (.inr rr1) =>
          some (.inr (.inr rr1))
      else
       none
     else
      some (.inr (.inr (⟨4, (i1 : Int)⟩ : SFault)))
  else
   some (.inr (.inl ()))
def tasks_Check.f (K : Nat) (l0 : List STask) : Option SFault :=
 match tasks_Check.p0 l0 with
 | none => none
 | some (.inl _) =>
  match iter (tasks_Check.r1 K l0) K 0 with
  | none => none
  | some (.inl _) =>
   some (⟨0, 0⟩ : SFault)
  | some (.inr rr2) =>
   some rr2
 | some (.inr rr3) =>
  some rr3
abbrev tasks_Check.A0 (w0 : World) (l0 : List STask) (A0 : Option Addr) (c0 : Nat) (b1 : Nat) : Unit → Act → World → Prop := fun (s : Unit) a w => St w0 w [Own.blk b1 (.cells #[vI 0, vI 0] 39 (0, 0))] ∧ Frm 71 a [(0, .slice A0 l0.length c0), (2, pP b1 0)]
abbrev tasks_Check.B0 (w0 : World) : SFault → Exit → Act → World → Prop := Rets Tryd.prog Tryd.f175 (tasks_Check.Post w0)
theorem tasks_Check_p0 (K : Nat) (w0 : World) (l0 : List STask) (A0 : Option Addr) (c0 : Nat) (hR0 : RdL w0 A0 l0) (hL0 : l0.length ≤ c0) (b1 : Nat) (o : Unit ⊕ SFault) (h : tasks_Check.p0 l0 = some o) (w : World) (hS : St w0 w [Own.blk b1 (.cells #[vI 0, vI 0] 39 (0, 0))]) (Q : Exit → Act → World → Prop) (hQ : ∀ x a w, Outs (tasks_Check.A0 w0 l0 A0 c0 b1) (tasks_Check.B0 w0) o x a w → Q x a w) : WE Tryd.prog 71 (subF Tryd.f175 [1, 0]) Q [(0, .slice A0 l0.length c0), (2, pP b1 0)] w := by
 simp only [tasks_Check.p0] at h
 refine ws fun K3 hK3 => ?_
 refine wr [(0, 0), (1, 0), (2, 0), (3, 0), (4, 0), (5, 0), (6, 0), (7, 0)] ?_
 refine gb0 [0, 1, 2, 3] [(12, .bool (decide ((l0.length : Int) < 1))), (11, .bool (decide ((l0.length : Int) < 1))), (10, vI (l0.length : Int)), (9, .slice A0 l0.length c0)] ?_
 by_cases hc1 : (l0.length : Int) < 1
 ·rw [if_pos hc1] at h
  refine gk 12 (decide ((l0.length : Int) < 1)) true (decide_eq_true hc1) ?_
  refine gb0 [4, 5, 6, 7] [(16, .bool true), (15, undef), (14, undef), (13, undef)] ?_
  refine gn hK3 ?_
  refine we_true (by kernel_rfl) ?_
  refine ws fun K4 hK4 => ?_
  refine wr [(0, 0), (1, 2)] ?_
  refine gb0 [0] [(17, .agg #[vI 2, vI 0])] ?_
  refine gs b1 0 #[vI 0, vI 0] 39 [vI 2, vI 0] hS fun w2 hS2 => ?_
  have hS3 : St w0 w2 [Own.blk b1 (.cells #[vI 2, vI 0] 39 (0, 0))] := hS2
  refine gn hK4 ?_
  have hS4 := hS3.takeN 0
  obtain rfl := si h
  exact we_ret fun a hF => hQ _ _ _ (Outs.out nofun ⟨rfl, (pr [.cell 2 39] [.agg #[vI 2, vI 0]] [.loaded ⟨b1, 0, none⟩ (vI 2), .loaded ⟨b1, 1, none⟩ (vI 0)] ⟨hS3.c 0, hS3.c 0, trivial⟩ ⟨rfl, hS4⟩) a hF⟩)
 ·rw [if_neg hc1] at h
  refine gk 12 (decide ((l0.length : Int) < 1)) false (decide_eq_false hc1) ?_
  refine gb0 [4, 5, 6, 7] [(16, .bool (decide ((l0.length : Int) > 8))), (15, .bool (decide ((l0.length : Int) > 8))), (14, vI (l0.length : Int)), (13, .slice A0 l0.length c0)] ?_
  refine gn hK3 ?_
  by_cases hc2 : (l0.length : Int) > 8
  ·rw [if_pos hc2] at h
   refine wk 16 (decide ((l0.length : Int) > 8)) true (decide_eq_true hc2) ?_
   refine we_true (by kernel_rfl) ?_
   refine ws fun K5 hK5 => ?_
   refine wr [(0, 0), (1, 2)] ?_
   refine gb0 [0] [(17, .agg #[vI 2, vI 0])] ?_
   refine gs b1 0 #[vI 0, vI 0] 39 [vI 2, vI 0] hS fun w3 hS5 => ?_
   have hS6 : St w0 w3 [Own.blk b1 (.cells #[vI 2, vI 0] 39 (0, 0))] := hS5
   refine gn hK5 ?_
   have hS7 := hS6.takeN 0
   obtain rfl := si h
   exact we_ret fun a hF => hQ _ _ _ (Outs.out nofun ⟨rfl, (pr [.cell 2 39] [.agg #[vI 2, vI 0]] [.loaded ⟨b1, 0, none⟩ (vI 2), .loaded ⟨b1, 1, none⟩ (vI 0)] ⟨hS6.c 0, hS6.c 0, trivial⟩ ⟨rfl, hS7⟩) a hF⟩)
  ·rw [if_neg hc2] at h
   refine wk 16 (decide ((l0.length : Int) > 8)) false (decide_eq_false hc2) ?_
   refine we_false (by kernel_rfl) ?_
   obtain rfl := si h
   exact we_skip fun a hF => hQ _ _ _ (Outs.again ⟨hS, hF.weaken ea⟩)
abbrev tasks_Check.A2 (w0 : World) (l0 : List STask) (A0 : Option Addr) (c0 : Nat) (b1 : Nat) (i1 : Nat) (e1 : STask) (b2 : Nat) (Z1 : Option Addr) (cz1 : Nat) : Nat → Act → World → Prop := fun (s : Nat) a w => St w0 w [Own.blk b2 (.cells #[.string e1.Name, vI e1.C, vI e1.T, vI e1.D, vI e1.J, vI e1.O, vI e1.P] 51 (0, 0)), Own.blk b1 (.cells #[vI 0, vI 0] 39 (0, 0)), Own.of (.slice Z1 (tasks_numbers.f e1).length cz1) 3 (tasks_numbers.f e1)] ∧ Frm 71 a [(0, .slice A0 l0.length c0), (2, pP b1 0), (3, vI (i1 : Int)), (4, pP b2 0), (18, .slice A0 l0.length c0), (19, vI (l0.length : Int)), (20, vI (i1 : Int)), (39, (.slice Z1 (tasks_numbers.f e1).length cz1)), (40, vI ((tasks_numbers.f e1).length : Int)), (41, vI (s : Int))]
abbrev tasks_Check.B2 (w0 : World) (l0 : List STask) (A0 : Option Addr) (c0 : Nat) (b1 : Nat) (i1 : Nat) (e1 : STask) (b2 : Nat) : (Unit ⊕ SFault) → Exit → Act → World → Prop := Exits 2 (fun (s : Unit) a w => St w0 w [Own.blk b2 (.cells #[.string e1.Name, vI e1.C, vI e1.T, vI e1.D, vI e1.J, vI e1.O, vI e1.P] 51 (0, 0)), Own.blk b1 (.cells #[vI 0, vI 0] 39 (0, 0))] ∧ Frm 71 a [(0, .slice A0 l0.length c0), (2, pP b1 0), (3, vI (i1 : Int)), (4, pP b2 0), (18, .slice A0 l0.length c0), (19, vI (l0.length : Int)), (20, vI (i1 : Int))]) (Rets Tryd.prog Tryd.f175 (tasks_Check.Post w0))
theorem tasks_Check_r2 (K : Nat) (w0 : World) (l0 : List STask) (A0 : Option Addr) (c0 : Nat) (hR0 : RdL w0 A0 l0) (hL0 : l0.length ≤ c0) (b1 : Nat) (i1 : Nat) (hc3 : (i1 : Int) < (l0.length : Int)) (e1 : STask) (hx2 : l0[i1]? = some e1) (b2 : Nat) (r1 : Bool) (hc4 : r1 = true) (hc5 : i1 ≤ l0.length) (r2 : Bool) (hc6 : ¬ (r2 = true)) (Z1 : Option Addr) (cz1 : Nat) (s : Nat) (o : Nat ⊕ (Unit ⊕ SFault)) (h : tasks_Check.r2 i1 e1 s = some o) (a : Act) (w : World) (hA : tasks_Check.A2 w0 l0 A0 c0 b1 i1 e1 b2 Z1 cz1 s a w) (Q : Exit → Act → World → Prop) (hQ : ∀ x a w, Outs (tasks_Check.A2 w0 l0 A0 c0 b1 i1 e1 b2 Z1 cz1) (tasks_Check.B2 w0 l0 A0 c0 b1 i1 e1 b2) o x a w → Q x a w) : (subF Tryd.f175 [1, 1, 0, 1, 0, 0, 1, 1, 0, 0, 1, 1, 1, 0, 1, 0, 0]).wp Tryd.prog Q a w := by
 obtain ⟨i2, hs⟩ : ∃ z, z = s := ⟨s, rfl⟩
 subst hs
 obtain ⟨hS, hF⟩ := hA
 replace hS : St w0 w [Own.blk b2 (.cells #[.string e1.Name, vI e1.C, vI e1.T, vI e1.D, vI e1.J, vI e1.O, vI e1.P] 51 (0, 0)), Own.blk b1 (.cells #[vI 0, vI 0] 39 (0, 0)), Own.of (.slice Z1 (tasks_numbers.f e1).length cz1) 3 (tasks_numbers.f e1)] := hS
 simp only [tasks_Check.r2] at h
 refine (?_ : WE Tryd.prog 71 (subF Tryd.f175 [1, 1, 0, 1, 0, 0, 1, 1, 0, 0, 1, 1, 1, 0, 1, 0, 0]) Q [(0, .slice A0 l0.length c0), (2, pP b1 0), (3, vI (i1 : Int)), (4, pP b2 0), (18, .slice A0 l0.length c0), (19, vI (l0.length : Int)), (20, vI (i1 : Int)), (39, (.slice Z1 (tasks_numbers.f e1).length cz1)), (40, vI ((tasks_numbers.f e1).length : Int)), (41, vI (i2 : Int))] w) a hF
 clear hF a
 refine ws fun K19 hK19 => ?_
 refine wr [(0, 0)] ?_
 refine gb0 [0] [(42, .bool (decide ((i2 : Int) < ((tasks_numbers.f e1).length : Int))))] ?_
 refine gn hK19 ?_
 refine ws fun K20 hK20 => ?_
 by_cases hc7 : (i2 : Int) < ((tasks_numbers.f e1).length : Int)
 ·rw [if_pos hc7] at h
  refine wk 42 (decide ((i2 : Int) < ((tasks_numbers.f e1).length : Int))) true (decide_eq_true hc7) ?_
  refine we_true (by kernel_rfl) ?_
  refine we_skip fun a hF => hK20 _ _ ?_ a hF
  refine ws fun K21 hK21 => ?_
  refine we_block ?_
  refine ws fun K22 hK22 => ?_
  refine wr [(0, 0), (1, 0), (2, 0), (3, 0), (4, 0)] ?_
  refine gb0 [0] [(43, vI (i2 : Int))] ?_
  rcases hx4 : (tasks_numbers.f e1)[i2]? with _ | e2
  ·rw [hx4] at h; cases h
  rw [hx4] at h
  simp only [] at h
  refine gi 44 0 24 3 1 ((tasks_numbers.f e1).length) cz1 (.tmp 39) (.tmp 41) Z1 .i64 (i2 : Int) i2 ((hS.rdAt 2 rfl).eqSome (pos_of_get hx4)) rfl (lt_of_get hx4) ?_
  refine gb [2, 3, 4] [(6, vI e2), (5, vI (i2 : Int)), (45, vI e2)] [.loaded ⟨blkOf Z1, offOf Z1 + i2 * 1, none⟩ (vI e2)] ⟨RdL.cell (j := 0) (hS.rdAt 2 rfl) hx4 rfl, trivial⟩ ?_
  refine gn hK22 ?_
  refine ws fun K23 hK23 => ?_
  refine wr [(0, 0), (1, 1), (2, 0), (3, 0), (4, 0), (5, 0), (6, 0)] ?_
  refine gb0 [0] [(47, vI (i2 : Int))] ?_
  refine ge_call (d := some 48) (f := 198) (args := #[vI (i2 : Int)]) (by kernel_rfl) (tasks_bounds_ok (i2 : Int) _ _ rfl) ?_
  rintro _ w11 ⟨rfl, hS24⟩
  refine ⟨_, rfl, hS24.below, ?_⟩
  have hS25 := hS.call hS24
  refine gb0 [2, 3, 4, 5, 6] [(8, vI ((tasks_bounds.f (i2 : Int)).2)), (7, vI ((tasks_bounds.f (i2 : Int)).1)), (50, vI ((tasks_bounds.f (i2 : Int)).2)), (49, vI ((tasks_bounds.f (i2 : Int)).1)), (46, .tuple #[vI ((tasks_bounds.f (i2 : Int)).1), vI ((tasks_bounds.f (i2 : Int)).2)])] ?_
  refine gn hK23 ?_
  refine ws fun K24 hK24 => ?_
  refine wr [(0, 0), (1, 0), (2, 0), (3, 0), (4, 0), (5, 0), (6, 0), (7, 0)] ?_
  refine gb0 [0, 1, 2, 3] [(54, .bool (decide (e2 < ((tasks_bounds.f (i2 : Int)).1)))), (53, .bool (decide (e2 < ((tasks_bounds.f (i2 : Int)).1)))), (52, vI ((tasks_bounds.f (i2 : Int)).1)), (51, vI e2)] ?_
  by_cases hc8 : e2 < ((tasks_bounds.f (i2 : Int)).1)
  ·rw [if_pos hc8] at h
   refine gk 54 (decide (e2 < ((tasks_bounds.f (i2 : Int)).1))) true (decide_eq_true hc8) ?_
   refine gb0 [4, 5, 6, 7] [(58, .bool true), (57, undef), (56, undef), (55, undef)] ?_
   refine gn hK24 ?_
   refine we_true (by kernel_rfl) ?_
   refine ws fun K25 hK25 => ?_
   refine wr [(0, 0), (1, 0), (2, 2)] ?_
   refine gb0 [0, 1] [(60, .agg #[vI 3, vI (i1 : Int)]), (59, vI (i1 : Int))] ?_
   have hS26 := hS25.bring 1 rfl
   refine gs b1 0 #[vI 0, vI 0] 39 [vI 3, vI (i1 : Int)] hS26 fun w12 hS27 => ?_
   have hS28 : St w0 w12 [Own.blk b1 (.cells #[vI 3, vI (i1 : Int)] 39 (0, 0)), Own.blk b2 (.cells #[.string e1.Name, vI e1.C, vI e1.T, vI e1.D, vI e1.J, vI e1.O, vI e1.P] 51 (0, 0)), Own.of (.slice Z1 (tasks_numbers.f e1).length cz1) 3 (tasks_numbers.f e1)] := hS27
   refine gn hK25 ?_
   have hS29 := hS28.takeN 0
   obtain rfl := si h
   exact we_ret fun a hF => hQ _ _ _ (Outs.out nofun (Exits.on ⟨rfl, (pr [.cell 2 39] [.agg #[vI 3, vI (i1 : Int)]] [.loaded ⟨b1, 0, none⟩ (vI 3), .loaded ⟨b1, 1, none⟩ (vI (i1 : Int))] ⟨hS28.c 0, hS28.c 0, trivial⟩ ⟨rfl, hS29⟩) a hF⟩))
  ·rw [if_neg hc8] at h
   refine gk 54 (decide (e2 < ((tasks_bounds.f (i2 : Int)).1))) false (decide_eq_false hc8) ?_
   refine gb0 [4, 5, 6, 7] [(58, .bool (decide (e2 > ((tasks_bounds.f (i2 : Int)).2)))), (57, .bool (decide (e2 > ((tasks_bounds.f (i2 : Int)).2)))), (56, vI ((tasks_bounds.f (i2 : Int)).2)), (55, vI e2)] ?_
   refine gn hK24 ?_
   by_cases hc9 : e2 > ((tasks_bounds.f (i2 : Int)).2)
   ·rw [if_pos hc9] at h
    refine wk 58 (decide (e2 > ((tasks_bounds.f (i2 : Int)).2))) true (decide_eq_true hc9) ?_
    refine we_true (by kernel_rfl) ?_
    refine ws fun K26 hK26 => ?_
    refine wr [(0, 0), (1, 0), (2, 2)] ?_
    refine gb0 [0, 1] [(60, .agg #[vI 3, vI (i1 : Int)]), (59, vI (i1 : Int))] ?_
    have hS30 := hS25.bring 1 rfl
    refine gs b1 0 #[vI 0, vI 0] 39 [vI 3, vI (i1 : Int)] hS30 fun w13 hS31 => ?_
    have hS32 : St w0 w13 [Own.blk b1 (.cells #[vI 3, vI (i1 : Int)] 39 (0, 0)), Own.blk b2 (.cells #[.string e1.Name, vI e1.C, vI e1.T, vI e1.D, vI e1.J, vI e1.O, vI e1.P] 51 (0, 0)), Own.of (.slice Z1 (tasks_numbers.f e1).length cz1) 3 (tasks_numbers.f e1)] := hS31
    refine gn hK26 ?_
    have hS33 := hS32.takeN 0
    obtain rfl := si h
    exact we_ret fun a hF => hQ _ _ _ (Outs.out nofun (Exits.on ⟨rfl, (pr [.cell 2 39] [.agg #[vI 3, vI (i1 : Int)]] [.loaded ⟨b1, 0, none⟩ (vI 3), .loaded ⟨b1, 1, none⟩ (vI (i1 : Int))] ⟨hS32.c 0, hS32.c 0, trivial⟩ ⟨rfl, hS33⟩) a hF⟩))
   ·rw [if_neg hc9] at h
    refine wk 58 (decide (e2 > ((tasks_bounds.f (i2 : Int)).2))) false (decide_eq_false hc9) ?_
    refine we_false (by kernel_rfl) ?_
    refine we_skip fun a hF => hK21 _ _ ?_ a hF
    refine wr [(0, 0), (1, 0)] ?_
    refine ge_addn (d := 61) (ty := 3) (x := (.tmp 41)) (y := (.const (vI 1))) (t := 3) (t2 := 3) (k := .i64) (m := i2) (by kernel_rfl) (by kernel_rfl) (by kernel_rfl) (by have h0 := hS25.ofSmall 2 rfl; omega) ?_
    refine gb0 [1] [(41, vI ((i2 + 1 : Nat) : Int))] ?_
    have hS34 := hS25.bring 2 rfl
    have hS35 := hS34.bring 2 rfl
    have hS36 := hS35.bring 2 rfl
    obtain rfl := si h
    exact ge_nil fun a hF => hQ _ _ _ (Outs.again ⟨hS36, hF.weaken ea⟩)
 ·rw [if_neg hc7] at h
  refine wk 42 (decide ((i2 : Int) < ((tasks_numbers.f e1).length : Int))) false (decide_eq_false hc7) ?_
  refine we_false (by kernel_rfl) ?_
  have hS37 := hS.bring 1 rfl
  have hS38 := hS37.bring 1 rfl
  have hS39 := hS38.takeN 2
  obtain rfl := si h
  exact we_exit fun a hF => hQ _ _ _ (Outs.out nofun (Exits.here ⟨hS39, hF.weaken ea⟩))
abbrev tasks_Check.A1 (w0 : World) (l0 : List STask) (A0 : Option Addr) (c0 : Nat) (b1 : Nat) : Nat → Act → World → Prop := fun (s : Nat) a w => St w0 w [Own.blk b1 (.cells #[vI 0, vI 0] 39 (0, 0))] ∧ Frm 71 a [(0, .slice A0 l0.length c0), (2, pP b1 0), (18, .slice A0 l0.length c0), (19, vI (l0.length : Int)), (20, vI (s : Int))]
abbrev tasks_Check.B1 (w0 : World) (b1 : Nat) : (Unit ⊕ SFault) → Exit → Act → World → Prop := Exits 0 (fun (s : Unit) a w => St w0 w [Own.blk b1 (.cells #[vI 0, vI 0] 39 (0, 0))] ∧ Frm 71 a [(2, pP b1 0)]) (Rets Tryd.prog Tryd.f175 (tasks_Check.Post w0))
theorem tasks_Check_r1 (K : Nat) (w0 : World) (l0 : List STask) (A0 : Option Addr) (c0 : Nat) (hR0 : RdL w0 A0 l0) (hL0 : l0.length ≤ c0) (b1 : Nat) (s : Nat) (o : Nat ⊕ (Unit ⊕ SFault)) (h : tasks_Check.r1 K l0 s = some o) (a : Act) (w : World) (hA : tasks_Check.A1 w0 l0 A0 c0 b1 s a w) (Q : Exit → Act → World → Prop) (hQ : ∀ x a w, Outs (tasks_Check.A1 w0 l0 A0 c0 b1) (tasks_Check.B1 w0 b1) o x a w → Q x a w) : (subF Tryd.f175 [1, 1, 0, 1, 0, 0]).wp Tryd.prog Q a w := by
 obtain ⟨i1, hs⟩ : ∃ z, z = s := ⟨s, rfl⟩
 subst hs
 obtain ⟨hS, hF⟩ := hA
 replace hS : St w0 w [Own.blk b1 (.cells #[vI 0, vI 0] 39 (0, 0))] := hS
 simp only [tasks_Check.r1] at h
 refine (?_ : WE Tryd.prog 71 (subF Tryd.f175 [1, 1, 0, 1, 0, 0]) Q [(0, .slice A0 l0.length c0), (2, pP b1 0), (18, .slice A0 l0.length c0), (19, vI (l0.length : Int)), (20, vI (i1 : Int))] w) a hF
 clear hF a
 refine ws fun K8 hK8 => ?_
 refine wr [(0, 0)] ?_
 refine gb0 [0] [(21, .bool (decide ((i1 : Int) < (l0.length : Int))))] ?_
 refine gn hK8 ?_
 refine ws fun K9 hK9 => ?_
 by_cases hc3 : (i1 : Int) < (l0.length : Int)
 ·rw [if_pos hc3] at h
  refine wk 21 (decide ((i1 : Int) < (l0.length : Int))) true (decide_eq_true hc3) ?_
  refine we_true (by kernel_rfl) ?_
  refine we_skip fun a hF => hK9 _ _ ?_ a hF
  refine ws fun K10 hK10 => ?_
  refine we_block ?_
  refine ws fun K11 hK11 => ?_
  refine wr [(0, 0), (1, 0), (2, 0), (3, 1), (4, 0), (5, 2)] ?_
  refine gb0 [0] [(22, vI (i1 : Int))] ?_
  rcases hx2 : l0[i1]? with _ | e1
  ·rw [hx2] at h; cases h
  rw [hx2] at h
  simp only [] at h
  refine gi 23 0 47 51 7 l0.length c0 (.tmp 18) (.tmp 20) A0 .i64 (i1 : Int) i1 ((hS.rd hR0).eqSome (pos_of_get hx2)) rfl (lt_of_get hx2) ?_
  refine gb [2] [(24, .agg #[.string e1.Name, vI e1.C, vI e1.T, vI e1.D, vI e1.J, vI e1.O, vI e1.P])] [.loaded ⟨blkOf A0, offOf A0 + i1 * 7, none⟩ (.string e1.Name), .loaded ⟨blkOf A0, offOf A0 + i1 * 7 + 1, none⟩ (vI e1.C), .loaded ⟨blkOf A0, offOf A0 + i1 * 7 + 2, none⟩ (vI e1.T), .loaded ⟨blkOf A0, offOf A0 + i1 * 7 + 3, none⟩ (vI e1.D), .loaded ⟨blkOf A0, offOf A0 + i1 * 7 + 4, none⟩ (vI e1.J), .loaded ⟨blkOf A0, offOf A0 + i1 * 7 + 5, none⟩ (vI e1.O), .loaded ⟨blkOf A0, offOf A0 + i1 * 7 + 6, none⟩ (vI e1.P)] ⟨RdL.cell (j := 0) (hS.rd hR0) hx2 rfl, RdL.cell (j := 1) (hS.rd hR0) hx2 rfl, RdL.cell (j := 2) (hS.rd hR0) hx2 rfl, RdL.cell (j := 3) (hS.rd hR0) hx2 rfl, RdL.cell (j := 4) (hS.rd hR0) hx2 rfl, RdL.cell (j := 5) (hS.rd hR0) hx2 rfl, RdL.cell (j := 6) (hS.rd hR0) hx2 rfl, trivial⟩ ?_
  refine gw (some 4) (.cells #[.string (⟨#[]⟩), vI 0, vI 0, vI 0, vI 0, vI 0, vI 0] 51) (fun b => pP b 0) hS fun b2 w5 hx3 hS9 => ?_
  refine gb0 [4] [(3, vI (i1 : Int))] ?_
  refine gs b2 0 #[.string (⟨#[]⟩), vI 0, vI 0, vI 0, vI 0, vI 0, vI 0] 51 [.string e1.Name, vI e1.C, vI e1.T, vI e1.D, vI e1.J, vI e1.O, vI e1.P] hS9 fun w6 hS10 => ?_
  have hS11 : St w0 w6 [Own.blk b2 (.cells #[.string e1.Name, vI e1.C, vI e1.T, vI e1.D, vI e1.J, vI e1.O, vI e1.P] 51 (0, 0)), Own.blk b1 (.cells #[vI 0, vI 0] 39 (0, 0))] := hS10
  refine gn hK11 ?_
  refine ws fun K12 hK12 => ?_
  refine ws fun K13 hK13 => ?_
  refine wr [(0, 0), (1, 0), (2, 1), (3, 0)] ?_
  rcases hq2 : tasks_isName.f K e1.Name with _ | r1
  ·rw [hq2] at h; cases h
  rw [hq2] at h
  simp only [] at h
  refine gb [0, 1] [(26, .string e1.Name), (25, pP b2 0)] [.loaded ⟨b2, 0, none⟩ (.string e1.Name)] ⟨hS11.c 0, trivial⟩ ?_
  refine ge_call (d := some 27) (f := 194) (args := #[.string e1.Name]) (by kernel_rfl) (tasks_isName_ok K e1.Name _ _ hq2) ?_
  rintro _ w7 ⟨rfl, hS12⟩
  refine ⟨_, rfl, hS12.below, ?_⟩
  have hS13 := hS11.call hS12
  refine gb0 [3] [(28, .bool (!r1))] ?_
  refine gn hK13 ?_
  by_cases hc4 : r1 = true
  ·rw [if_pos hc4] at h
   refine wk 28 (!r1) false (congrArg (fun z => !z) hc4) ?_
   refine we_false (by kernel_rfl) ?_
   refine we_skip fun a hF => hK12 _ _ ?_ a hF
   refine ws fun K14 hK14 => ?_
   refine ws fun K15 hK15 => ?_
   refine wr [(0, 0), (1, 0), (2, 0), (3, 0), (4, 1)] ?_
   refine gb0 [0, 1] [(32, vI (i1 : Int)), (31, .slice A0 l0.length c0)] ?_
   by_cases hc5 : i1 ≤ l0.length
   ·rw [if_pos hc5] at h
    refine ge_part (d := 33) (ty := 47) (t := 47) (el := 51) (sz := 7) (m := l0.length) (c := c0) (lo := 0) (hi := i1) (x := (.tmp 31)) (xl := none) (xh := some (.tmp 32)) (A := A0) (by kernel_rfl) (by kernel_rfl) rfl ⟨.i64, (i1 : Int), by kernel_rfl, rfl⟩ (by kernel_rfl) (by kernel_rfl) (by have f0 := hc5; have f1 := hL0; omega) (by have f0 := hc5; have f1 := hL0; omega) ?_
    refine ge_same (t := 33) (v := .slice (subA A0 c0 0 7) (i1 - 0) (c0 - 0)) (v' := .slice (subA A0 c0 0 7) (((l0.take i1).drop 0).length) (c0 - 0)) (by kernel_rfl) (by have f0 := hc5; have f1 := hL0; rw [show i1 - 0 = ((l0.take i1).drop 0).length by simp only [List.length_drop, List.length_take]; omega]) ?_
    rcases hq3 : slices_ContainsFunc_api_Task_api_Task.f K ((l0.take i1).drop 0) e1 with _ | r2
    ·rw [hq3] at h; cases h
    rw [hq3] at h
    simp only [] at h
    refine gb0 [3] [(34, .func (.func 196) #[] #[pP b2 0])] ?_
    refine ge_call (d := some 35) (f := 195) (args := #[.slice (subA A0 c0 0 7) (((l0.take i1).drop 0).length) (c0 - 0), .func (.func 196) #[] #[pP b2 0]]) (by kernel_rfl) (slices_ContainsFunc_api_Task_api_Task_ok K ((l0.take i1).drop 0) (subA A0 c0 0 7) (c0 - 0) b2 e1 _ (hS13.rd (RdL.part hR0 hL0 0 i1)) (by have f0 := hc5; have f1 := hL0; simp only [List.length_drop, List.length_take]; omega) (hS13.globOf 0 rfl) _ hq3) ?_
    rintro _ w8 ⟨rfl, hS14⟩
    refine ⟨_, rfl, hS14.below, ?_⟩
    have hS15 := hS13.call hS14
    refine gn hK15 ?_
    by_cases hc6 : r2 = true
    ·rw [if_pos hc6] at h
     refine wk 35 r2 true hc6 ?_
     refine we_true (by kernel_rfl) ?_
     refine ws fun K16 hK16 => ?_
     refine wr [(0, 0), (1, 0), (2, 2)] ?_
     refine gb0 [0, 1] [(37, .agg #[vI 5, vI (i1 : Int)]), (36, vI (i1 : Int))] ?_
     have hS16 := hS15.bring 1 rfl
     refine gs b1 0 #[vI 0, vI 0] 39 [vI 5, vI (i1 : Int)] hS16 fun w9 hS17 => ?_
     have hS18 : St w0 w9 [Own.blk b1 (.cells #[vI 5, vI (i1 : Int)] 39 (0, 0)), Own.blk b2 (.cells #[.string e1.Name, vI e1.C, vI e1.T, vI e1.D, vI e1.J, vI e1.O, vI e1.P] 51 (0, 0))] := hS17
     refine gn hK16 ?_
     have hS19 := hS18.takeN 0
     obtain rfl := si h
     exact we_ret fun a hF => hQ _ _ _ (Outs.out nofun (Exits.on ⟨rfl, (pr [.cell 2 39] [.agg #[vI 5, vI (i1 : Int)]] [.loaded ⟨b1, 0, none⟩ (vI 5), .loaded ⟨b1, 1, none⟩ (vI (i1 : Int))] ⟨hS18.c 0, hS18.c 0, trivial⟩ ⟨rfl, hS19⟩) a hF⟩))
    ·rw [if_neg hc6] at h
     refine wk 35 r2 false (Bool.eq_false_iff.2 hc6) ?_
     refine we_false (by kernel_rfl) ?_
     refine we_skip fun a hF => hK14 _ _ ?_ a hF
     refine ws fun K17 hK17 => ?_
     refine ws fun K18 hK18 => ?_
     refine wr [(0, 0), (1, 1), (2, 0), (3, 0)] ?_
     refine gb [0] [(38, .agg #[.string e1.Name, vI e1.C, vI e1.T, vI e1.D, vI e1.J, vI e1.O, vI e1.P])] [.loaded ⟨b2, 0, none⟩ (.string e1.Name), .loaded ⟨b2, 1, none⟩ (vI e1.C), .loaded ⟨b2, 2, none⟩ (vI e1.T), .loaded ⟨b2, 3, none⟩ (vI e1.D), .loaded ⟨b2, 4, none⟩ (vI e1.J), .loaded ⟨b2, 5, none⟩ (vI e1.O), .loaded ⟨b2, 6, none⟩ (vI e1.P)] ⟨hS15.c 0, hS15.c 0, hS15.c 0, hS15.c 0, hS15.c 0, hS15.c 0, hS15.c 0, trivial⟩ ?_
     refine ge_call (d := some 39) (f := 197) (args := #[.agg #[.string e1.Name, vI e1.C, vI e1.T, vI e1.D, vI e1.J, vI e1.O, vI e1.P]]) (by kernel_rfl) (tasks_numbers_ok e1 _ _ rfl) ?_
     rintro _ w10 ⟨v1, rfl, hS20⟩
     refine ⟨_, rfl, hS20.below, ?_⟩
     have hS21 := hS15.call hS20
     obtain ⟨Z1, cz1, rfl⟩ := hS21.open 0 rfl
     refine gb0 [2, 3] [(41, vI 0), (40, vI ((tasks_numbers.f e1).length : Int))] ?_
     refine gn hK18 ?_
     refine we_block ?_
     have hS22 := hS21.bring 2 rfl
     have hS23 := hS22.bring 2 rfl
     rcases hq6 : iter (tasks_Check.r2 i1 e1) K 0 with _ | (_ | rr1)
     ·rw [hq6] at h; cases h
     ·rw [hq6] at h
      simp only [] at h
      refine we_iter (A := tasks_Check.A2 w0 l0 A0 c0 b1 i1 e1 b2 Z1 cz1) (B := tasks_Check.B2 w0 l0 A0 c0 b1 i1 e1 b2) hq6 (fun a hF => ⟨hS23, hF.weaken ea⟩) (fun s o hf a w hA Q hQ => tasks_Check_r2 K w0 l0 A0 c0 hR0 hL0 b1 i1 hc3 e1 hx2 b2 r1 hc4 hc5 r2 hc6 Z1 cz1 s o hf a w hA Q hQ) ?_
      rintro _ a w14 _ ⟨rfl, hS40, hF⟩
      replace hS40 : St w0 w14 [Own.blk b2 (.cells #[.string e1.Name, vI e1.C, vI e1.T, vI e1.D, vI e1.J, vI e1.O, vI e1.P] 51 (0, 0)), Own.blk b1 (.cells #[vI 0, vI 0] 39 (0, 0))] := hS40
      refine hK17 [(0, .slice A0 l0.length c0), (2, pP b1 0), (3, vI (i1 : Int)), (4, pP b2 0), (18, .slice A0 l0.length c0), (19, vI (l0.length : Int)), (20, vI (i1 : Int))] w14 ?_ a hF
      refine ws fun K27 hK27 => ?_
      refine wr [(0, 0), (1, 0), (2, 0), (3, 0), (4, 0)] ?_
      refine gb [0, 1, 2, 3, 4] [(66, .bool (decide (e1.C > e1.D))), (65, vI e1.D), (64, pP b2 3), (63, vI e1.C), (62, pP b2 1)] [.loaded ⟨b2, 1, none⟩ (vI e1.C), .loaded ⟨b2, 3, none⟩ (vI e1.D)] ⟨hS40.c 0, hS40.c 0, trivial⟩ ?_
      refine gn hK27 ?_
      by_cases hc10 : e1.C > e1.D
      ·rw [if_pos hc10] at h
       refine wk 66 (decide (e1.C > e1.D)) true (decide_eq_true hc10) ?_
       refine we_true (by kernel_rfl) ?_
       refine ws fun K28 hK28 => ?_
       refine wr [(0, 0), (1, 0), (2, 2)] ?_
       refine gb0 [0, 1] [(68, .agg #[vI 12, vI (i1 : Int)]), (67, vI (i1 : Int))] ?_
       have hS41 := hS40.bring 1 rfl
       refine gs b1 0 #[vI 0, vI 0] 39 [vI 12, vI (i1 : Int)] hS41 fun w15 hS42 => ?_
       have hS43 : St w0 w15 [Own.blk b1 (.cells #[vI 12, vI (i1 : Int)] 39 (0, 0)), Own.blk b2 (.cells #[.string e1.Name, vI e1.C, vI e1.T, vI e1.D, vI e1.J, vI e1.O, vI e1.P] 51 (0, 0))] := hS42
       refine gn hK28 ?_
       have hS44 := hS43.takeN 0
       obtain rfl := si h
       exact we_ret fun a hF => hQ _ _ _ (Outs.out nofun (Exits.on ⟨rfl, (pr [.cell 2 39] [.agg #[vI 12, vI (i1 : Int)]] [.loaded ⟨b1, 0, none⟩ (vI 12), .loaded ⟨b1, 1, none⟩ (vI (i1 : Int))] ⟨hS43.c 0, hS43.c 0, trivial⟩ ⟨rfl, hS44⟩) a hF⟩))
      ·rw [if_neg hc10] at h
       refine wk 66 (decide (e1.C > e1.D)) false (decide_eq_false hc10) ?_
       refine we_false (by kernel_rfl) ?_
       refine we_skip fun a hF => hK10 _ _ ?_ a hF
       refine wr [(0, 0), (1, 0)] ?_
       refine ge_addn (d := 69) (ty := 3) (x := (.tmp 20)) (y := (.const (vI 1))) (t := 3) (t2 := 3) (k := .i64) (m := i1) (by kernel_rfl) (by kernel_rfl) (by kernel_rfl) (by have h0 := hR0.small; omega) ?_
       refine gb0 [1] [(20, vI ((i1 + 1 : Nat) : Int))] ?_
       have hS45 := hS40.bring 1 rfl
       have hS46 := hS45.takeN 1
       obtain rfl := si h
       exact ge_nil fun a hF => hQ _ _ _ (Outs.again ⟨hS46, hF.weaken ea⟩)
     ·rw [hq6] at h
      simp only [] at h
      refine we_iter (A := tasks_Check.A2 w0 l0 A0 c0 b1 i1 e1 b2 Z1 cz1) (B := tasks_Check.B2 w0 l0 A0 c0 b1 i1 e1 b2) hq6 (fun a hF => ⟨hS23, hF.weaken ea⟩) (fun s o hf a w hA Q hQ => tasks_Check_r2 K w0 l0 A0 c0 hR0 hL0 b1 i1 hc3 e1 hx2 b2 r1 hc4 hc5 r2 hc6 Z1 cz1 s o hf a w hA Q hQ) ?_
      rintro _ a w1 _ ⟨rfl, hb⟩
      obtain rfl := si h
      exact hQ _ _ _ (Outs.out nofun (Exits.on ⟨rfl, hb⟩))
   ·rw [if_neg hc5] at h
    cases h
  ·rw [if_neg hc4] at h
   refine wk 28 (!r1) true (congrArg (fun z => !z) (Bool.eq_false_iff.2 hc4)) ?_
   refine we_true (by kernel_rfl) ?_
   refine ws fun K29 hK29 => ?_
   refine wr [(0, 0), (1, 0), (2, 2)] ?_
   refine gb0 [0, 1] [(30, .agg #[vI 4, vI (i1 : Int)]), (29, vI (i1 : Int))] ?_
   have hS47 := hS13.bring 1 rfl
   refine gs b1 0 #[vI 0, vI 0] 39 [vI 4, vI (i1 : Int)] hS47 fun w16 hS48 => ?_
   have hS49 : St w0 w16 [Own.blk b1 (.cells #[vI 4, vI (i1 : Int)] 39 (0, 0)), Own.blk b2 (.cells #[.string e1.Name, vI e1.C, vI e1.T, vI e1.D, vI e1.J, vI e1.O, vI e1.P] 51 (0, 0))] := hS48
   refine gn hK29 ?_
   have hS50 := hS49.takeN 0
   obtain rfl := si h
   exact we_ret fun a hF => hQ _ _ _ (Outs.out nofun (Exits.on ⟨rfl, (pr [.cell 2 39] [.agg #[vI 4, vI (i1 : Int)]] [.loaded ⟨b1, 0, none⟩ (vI 4), .loaded ⟨b1, 1, none⟩ (vI (i1 : Int))] ⟨hS49.c 0, hS49.c 0, trivial⟩ ⟨rfl, hS50⟩) a hF⟩))
 ·rw [if_neg hc3] at h
  refine wk 21 (decide ((i1 : Int) < (l0.length : Int))) false (decide_eq_false hc3) ?_
  refine we_false (by kernel_rfl) ?_
  obtain rfl := si h
  exact we_exit fun a hF => hQ _ _ _ (Outs.out nofun (Exits.here ⟨hS, hF.weaken ea⟩))
theorem tasks_Check_ok (K : Nat) (l0 : List STask) (A0 : Option Addr) (c0 : Nat) (w0 : World) (hR0 : RdL w0 A0 l0) (hL0 : l0.length ≤ c0) (r : SFault) (h : tasks_Check.f K l0 = some r) :
  Calls Tryd.prog 175 #[.slice A0 l0.length c0] w0 (tasks_Check.Post w0 r) := by
 have hS := St.start w0
 unfold tasks_Check.f at h
 refine calls_enter (n := 71) (args := [.slice A0 l0.length c0]) (fn := Tryd.f175) rfl rfl rfl rfl ?_
 show WE _ _ _ _ [(0, .slice A0 l0.length c0)] _
 refine ws fun K1 hK1 => ?_
 refine wr [(0, 1)] ?_
 refine gw (some 2) (.cells #[vI 0, vI 0] 39) (fun b => pP b 0) hS fun b1 w1 hx1 hS1 => ?_
 refine gn hK1 ?_
 refine ws fun K2 hK2 => ?_
 rcases hq1 : tasks_Check.p0 l0 with _ | (_ | rr3)
 ·rw [hq1] at h; cases h
 ·rw [hq1] at h
  simp only [] at h
  refine we_keep (e' := [(0, .slice A0 l0.length c0), (2, pP b1 0)]) ea (tasks_Check_p0 K w0 l0 A0 c0 hR0 hL0 b1 _ hq1 _ hS1 _ ?_)
  rintro _ a w4 ⟨rfl, hS8, hF⟩
  replace hS8 : St w0 w4 [Own.blk b1 (.cells #[vI 0, vI 0] 39 (0, 0))] := hS8
  refine hK2 [(0, .slice A0 l0.length c0), (2, pP b1 0)] w4 ?_ a hF
  refine ws fun K6 hK6 => ?_
  refine ws fun K7 hK7 => ?_
  refine wr [(0, 0), (1, 0), (2, 0)] ?_
  refine gb0 [0, 1, 2] [(20, vI 0), (19, vI (l0.length : Int)), (18, .slice A0 l0.length c0)] ?_
  refine gn hK7 ?_
  refine we_block ?_
  rcases hq7 : iter (tasks_Check.r1 K l0) K 0 with _ | (_ | rr2)
  ·rw [hq7] at h; cases h
  ·rw [hq7] at h
   simp only [] at h
   refine we_iter (A := tasks_Check.A1 w0 l0 A0 c0 b1) (B := tasks_Check.B1 w0 b1) hq7 (fun a hF => ⟨hS8, hF.weaken ea⟩) (fun s o hf a w hA Q hQ => tasks_Check_r1 K w0 l0 A0 c0 hR0 hL0 b1 s o hf a w hA Q hQ) ?_
   rintro _ a w17 _ ⟨rfl, hS51, hF⟩
   replace hS51 : St w0 w17 [Own.blk b1 (.cells #[vI 0, vI 0] 39 (0, 0))] := hS51
   refine hK6 [(2, pP b1 0)] w17 ?_ a hF
   refine ws fun K30 hK30 => ?_
   refine wr [(0, 0), (1, 2)] ?_
   refine gb0 [0] [(70, .agg #[vI 0, vI 0])] ?_
   refine gs b1 0 #[vI 0, vI 0] 39 [vI 0, vI 0] hS51 fun w18 hS52 => ?_
   have hS53 : St w0 w18 [Own.blk b1 (.cells #[vI 0, vI 0] 39 (0, 0))] := hS52
   refine gn hK30 ?_
   have hS54 := hS53.takeN 0
   obtain rfl := si h
   exact we_ret (pr [.cell 2 39] [.agg #[vI 0, vI 0]] [.loaded ⟨b1, 0, none⟩ (vI 0), .loaded ⟨b1, 1, none⟩ (vI 0)] ⟨hS53.c 0, hS53.c 0, trivial⟩ ⟨rfl, hS54⟩)
  ·rw [hq7] at h
   simp only [] at h
   refine we_iter (A := tasks_Check.A1 w0 l0 A0 c0 b1) (B := tasks_Check.B1 w0 b1) hq7 (fun a hF => ⟨hS8, hF.weaken ea⟩) (fun s o hf a w hA Q hQ => tasks_Check_r1 K w0 l0 A0 c0 hR0 hL0 b1 s o hf a w hA Q hQ) ?_
   rintro _ a w1 _ ⟨rfl, hb⟩
   obtain rfl := si h
   exact hb
 ·rw [hq1] at h
  simp only [] at h
  refine we_keep (e' := [(0, .slice A0 l0.length c0), (2, pP b1 0)]) ea (tasks_Check_p0 K w0 l0 A0 c0 hR0 hL0 b1 _ hq1 _ hS1 _ ?_)
  rintro _ a w1 ⟨_, rfl, hb⟩
  obtain rfl := si h
  exact hb

/-! punctual/fixed.check -/
abbrev fixed_check.Post (w0 : World) (r : SFault) (e : Ending) (w : World) : Prop := e = .returned (.agg #[vI r.Code, vI r.At]) ∧ St w0 w []
def fixed_check.r0 (l0 : List STask) : Nat → Option (Nat ⊕ (Unit ⊕ SFault))
 | i1 =>
  if (i1 : Int) < (l0.length : Int) then
   match l0[i1]? with
   | none => none
   | some e1 =>
    if e1.D > e1.T then
     some (.inr (.inr (⟨12, (i1 : Int)⟩ : SFault)))
    else
     some (.inl (i1 + 1))
  else
   some (.inr (.inl ()))
def fixed_check.f (K : Nat) (l0 : List STask) : Option SFault :=
 match tasks_Check.f K l0 with
 | none => none
 | some r1 =>
  if r1.Code = 0 then
   match iter (fixed_check.r0 l0) K 0 with
   | none => none
   | some (.inl _) =>
    some (⟨0, 0⟩ : SFault)
   | some (.inr rr1) =>
    some rr1
  else
   some r1
abbrev fixed_check.A0 (w0 : World) (l0 : List STask) (A0 : Option Addr) (c0 : Nat) (b1 : Nat) : Nat → Act → World → Prop := fun (s : Nat) a w => St w0 w [Own.blk b1 (.cells #[vI 0, vI 0] 39 (0, 0))] ∧ Frm 28 a [(2, pP b1 0), (12, .slice A0 l0.length c0), (13, vI (l0.length : Int)), (14, vI (s : Int))]
abbrev fixed_check.B0 (w0 : World) (b1 : Nat) : (Unit ⊕ SFault) → Exit → Act → World → Prop := Exits 0 (fun (s : Unit) a w => St w0 w [Own.blk b1 (.cells #[vI 0, vI 0] 39 (0, 0))] ∧ Frm 28 a [(2, pP b1 0)]) (Rets Tryd.prog Tryd.f137 (fixed_check.Post w0))
theorem fixed_check_r0 (K : Nat) (w0 : World) (l0 : List STask) (A0 : Option Addr) (c0 : Nat) (hR0 : RdL w0 A0 l0) (hL0 : l0.length ≤ c0) (b1 : Nat) (r1 : SFault) (b2 : Nat) (hc1 : r1.Code = 0) (s : Nat) (o : Nat ⊕ (Unit ⊕ SFault)) (h : fixed_check.r0 l0 s = some o) (a : Act) (w : World) (hA : fixed_check.A0 w0 l0 A0 c0 b1 s a w) (Q : Exit → Act → World → Prop) (hQ : ∀ x a w, Outs (fixed_check.A0 w0 l0 A0 c0 b1) (fixed_check.B0 w0 b1) o x a w → Q x a w) : (subF Tryd.f137 [1, 1, 0, 1, 0, 0]).wp Tryd.prog Q a w := by
 obtain ⟨i1, hs⟩ : ∃ z, z = s := ⟨s, rfl⟩
 subst hs
 obtain ⟨hS, hF⟩ := hA
 replace hS : St w0 w [Own.blk b1 (.cells #[vI 0, vI 0] 39 (0, 0))] := hS
 simp only [fixed_check.r0] at h
 refine (?_ : WE Tryd.prog 28 (subF Tryd.f137 [1, 1, 0, 1, 0, 0]) Q [(2, pP b1 0), (12, .slice A0 l0.length c0), (13, vI (l0.length : Int)), (14, vI (i1 : Int))] w) a hF
 clear hF a
 refine ws fun K7 hK7 => ?_
 refine wr [(0, 0)] ?_
 refine gb0 [0] [(15, .bool (decide ((i1 : Int) < (l0.length : Int))))] ?_
 refine gn hK7 ?_
 refine ws fun K8 hK8 => ?_
 by_cases hc2 : (i1 : Int) < (l0.length : Int)
 ·rw [if_pos hc2] at h
  refine wk 15 (decide ((i1 : Int) < (l0.length : Int))) true (decide_eq_true hc2) ?_
  refine we_true (by kernel_rfl) ?_
  refine we_skip fun a hF => hK8 _ _ ?_ a hF
  refine ws fun K9 hK9 => ?_
  refine we_block ?_
  refine ws fun K10 hK10 => ?_
  refine wr [(0, 0), (1, 0), (2, 0), (3, 1), (4, 0), (5, 2)] ?_
  refine gb0 [0] [(16, vI (i1 : Int))] ?_
  rcases hx3 : l0[i1]? with _ | e1
  ·rw [hx3] at h; cases h
  rw [hx3] at h
  simp only [] at h
  refine gi 17 0 47 51 7 l0.length c0 (.tmp 12) (.tmp 14) A0 .i64 (i1 : Int) i1 ((hS.rd hR0).eqSome (pos_of_get hx3)) rfl (lt_of_get hx3) ?_
  refine gb [2] [(18, .agg #[.string e1.Name, vI e1.C, vI e1.T, vI e1.D, vI e1.J, vI e1.O, vI e1.P])] [.loaded ⟨blkOf A0, offOf A0 + i1 * 7, none⟩ (.string e1.Name), .loaded ⟨blkOf A0, offOf A0 + i1 * 7 + 1, none⟩ (vI e1.C), .loaded ⟨blkOf A0, offOf A0 + i1 * 7 + 2, none⟩ (vI e1.T), .loaded ⟨blkOf A0, offOf A0 + i1 * 7 + 3, none⟩ (vI e1.D), .loaded ⟨blkOf A0, offOf A0 + i1 * 7 + 4, none⟩ (vI e1.J), .loaded ⟨blkOf A0, offOf A0 + i1 * 7 + 5, none⟩ (vI e1.O), .loaded ⟨blkOf A0, offOf A0 + i1 * 7 + 6, none⟩ (vI e1.P)] ⟨RdL.cell (j := 0) (hS.rd hR0) hx3 rfl, RdL.cell (j := 1) (hS.rd hR0) hx3 rfl, RdL.cell (j := 2) (hS.rd hR0) hx3 rfl, RdL.cell (j := 3) (hS.rd hR0) hx3 rfl, RdL.cell (j := 4) (hS.rd hR0) hx3 rfl, RdL.cell (j := 5) (hS.rd hR0) hx3 rfl, RdL.cell (j := 6) (hS.rd hR0) hx3 rfl, trivial⟩ ?_
  refine gw (some 5) (.cells #[.string (⟨#[]⟩), vI 0, vI 0, vI 0, vI 0, vI 0, vI 0] 51) (fun b => pP b 0) hS fun b3 w5 hx4 hS9 => ?_
  refine gb0 [4] [(4, vI (i1 : Int))] ?_
  refine gs b3 0 #[.string (⟨#[]⟩), vI 0, vI 0, vI 0, vI 0, vI 0, vI 0] 51 [.string e1.Name, vI e1.C, vI e1.T, vI e1.D, vI e1.J, vI e1.O, vI e1.P] hS9 fun w6 hS10 => ?_
  have hS11 : St w0 w6 [Own.blk b3 (.cells #[.string e1.Name, vI e1.C, vI e1.T, vI e1.D, vI e1.J, vI e1.O, vI e1.P] 51 (0, 0)), Own.blk b1 (.cells #[vI 0, vI 0] 39 (0, 0))] := hS10
  refine gn hK10 ?_
  refine ws fun K11 hK11 => ?_
  refine wr [(0, 0), (1, 0), (2, 0), (3, 0), (4, 0)] ?_
  refine gb [0, 1, 2, 3, 4] [(23, .bool (decide (e1.D > e1.T))), (22, vI e1.T), (21, pP b3 2), (20, vI e1.D), (19, pP b3 3)] [.loaded ⟨b3, 3, none⟩ (vI e1.D), .loaded ⟨b3, 2, none⟩ (vI e1.T)] ⟨hS11.c 0, hS11.c 0, trivial⟩ ?_
  refine gn hK11 ?_
  by_cases hc3 : e1.D > e1.T
  ·rw [if_pos hc3] at h
   refine wk 23 (decide (e1.D > e1.T)) true (decide_eq_true hc3) ?_
   refine we_true (by kernel_rfl) ?_
   refine ws fun K12 hK12 => ?_
   refine wr [(0, 0), (1, 0), (2, 2)] ?_
   refine gb0 [0, 1] [(25, .agg #[vI 12, vI (i1 : Int)]), (24, vI (i1 : Int))] ?_
   have hS12 := hS11.bring 1 rfl
   refine gs b1 0 #[vI 0, vI 0] 39 [vI 12, vI (i1 : Int)] hS12 fun w7 hS13 => ?_
   have hS14 : St w0 w7 [Own.blk b1 (.cells #[vI 12, vI (i1 : Int)] 39 (0, 0)), Own.blk b3 (.cells #[.string e1.Name, vI e1.C, vI e1.T, vI e1.D, vI e1.J, vI e1.O, vI e1.P] 51 (0, 0))] := hS13
   refine gn hK12 ?_
   have hS15 := hS14.takeN 0
   obtain rfl := si h
   exact we_ret fun a hF => hQ _ _ _ (Outs.out nofun (Exits.on ⟨rfl, (pr [.cell 2 39] [.agg #[vI 12, vI (i1 : Int)]] [.loaded ⟨b1, 0, none⟩ (vI 12), .loaded ⟨b1, 1, none⟩ (vI (i1 : Int))] ⟨hS14.c 0, hS14.c 0, trivial⟩ ⟨rfl, hS15⟩) a hF⟩))
  ·rw [if_neg hc3] at h
   refine wk 23 (decide (e1.D > e1.T)) false (decide_eq_false hc3) ?_
   refine we_false (by kernel_rfl) ?_
   refine we_skip fun a hF => hK9 _ _ ?_ a hF
   refine wr [(0, 0), (1, 0)] ?_
   refine ge_addn (d := 26) (ty := 3) (x := (.tmp 14)) (y := (.const (vI 1))) (t := 3) (t2 := 3) (k := .i64) (m := i1) (by kernel_rfl) (by kernel_rfl) (by kernel_rfl) (by have h0 := hR0.small; omega) ?_
   refine gb0 [1] [(14, vI ((i1 + 1 : Nat) : Int))] ?_
   have hS16 := hS11.bring 1 rfl
   have hS17 := hS16.takeN 1
   obtain rfl := si h
   exact ge_nil fun a hF => hQ _ _ _ (Outs.again ⟨hS17, hF.weaken ea⟩)
 ·rw [if_neg hc2] at h
  refine wk 15 (decide ((i1 : Int) < (l0.length : Int))) false (decide_eq_false hc2) ?_
  refine we_false (by kernel_rfl) ?_
  obtain rfl := si h
  exact we_exit fun a hF => hQ _ _ _ (Outs.out nofun (Exits.here ⟨hS, hF.weaken ea⟩))
theorem fixed_check_ok (K : Nat) (l0 : List STask) (A0 : Option Addr) (c0 : Nat) (w0 : World) (hR0 : RdL w0 A0 l0) (hL0 : l0.length ≤ c0) (r : SFault) (h : fixed_check.f K l0 = some r) :
  Calls Tryd.prog 137 #[.slice A0 l0.length c0] w0 (fixed_check.Post w0 r) := by
 have hS := St.start w0
 unfold fixed_check.f at h
 refine calls_enter (n := 28) (args := [.slice A0 l0.length c0]) (fn := Tryd.f137) rfl rfl rfl rfl ?_
 show WE _ _ _ _ [(0, .slice A0 l0.length c0)] _
 refine ws fun K1 hK1 => ?_
 refine wr [(0, 1)] ?_
 refine gw (some 2) (.cells #[vI 0, vI 0] 39) (fun b => pP b 0) hS fun b1 w1 hx1 hS1 => ?_
 refine gn hK1 ?_
 refine ws fun K2 hK2 => ?_
 refine ws fun K3 hK3 => ?_
 refine wr [(0, 0), (1, 1), (2, 1), (3, 2)] ?_
 rcases hq1 : tasks_Check.f K l0 with _ | r1
 ·rw [hq1] at h; cases h
 rw [hq1] at h
 simp only [] at h
 refine gb0 [0] [(6, .slice A0 l0.length c0)] ?_
 refine ge_call (d := some 7) (f := 175) (args := #[.slice A0 l0.length c0]) (by kernel_rfl) (tasks_Check_ok K l0 A0 c0 _ (hS1.rd hR0) hL0 _ hq1) ?_
 rintro _ w2 ⟨rfl, hS2⟩
 refine ⟨_, rfl, hS2.below, ?_⟩
 have hS3 := hS1.call hS2
 refine gw (some 3) (.cells #[vI 0, vI 0] 39) (fun b => pP b 0) hS3 fun b2 w3 hx2 hS4 => ?_
 refine gs b2 0 #[vI 0, vI 0] 39 [vI r1.Code, vI r1.At] hS4 fun w4 hS5 => ?_
 have hS6 : St w0 w4 [Own.blk b2 (.cells #[vI r1.Code, vI r1.At] 39 (0, 0)), Own.blk b1 (.cells #[vI 0, vI 0] 39 (0, 0))] := hS5
 refine gn hK3 ?_
 refine ws fun K4 hK4 => ?_
 refine wr [(0, 0), (1, 0), (2, 0)] ?_
 refine gb [0, 1, 2] [(10, .bool (r1.Code != 0)), (9, vI r1.Code), (8, pP b2 0)] [.loaded ⟨b2, 0, none⟩ (vI r1.Code)] ⟨hS6.c 0, trivial⟩ ?_
 refine gn hK4 ?_
 by_cases hc1 : r1.Code = 0
 ·rw [if_pos hc1] at h
  refine wk 10 (r1.Code != 0) false (bne_eq_false_iff_eq.2 hc1) ?_
  refine we_false (by kernel_rfl) ?_
  refine we_skip fun a hF => hK2 _ _ ?_ a hF
  refine ws fun K5 hK5 => ?_
  refine ws fun K6 hK6 => ?_
  refine wr [(0, 0), (1, 0), (2, 0)] ?_
  refine gb0 [0, 1, 2] [(14, vI 0), (13, vI (l0.length : Int)), (12, .slice A0 l0.length c0)] ?_
  refine gn hK6 ?_
  refine we_block ?_
  have hS7 := hS6.bring 1 rfl
  have hS8 := hS7.takeN 1
  rcases hq2 : iter (fixed_check.r0 l0) K 0 with _ | (_ | rr1)
  ·rw [hq2] at h; cases h
  ·rw [hq2] at h
   simp only [] at h
   refine we_iter (A := fixed_check.A0 w0 l0 A0 c0 b1) (B := fixed_check.B0 w0 b1) hq2 (fun a hF => ⟨hS8, hF.weaken ea⟩) (fun s o hf a w hA Q hQ => fixed_check_r0 K w0 l0 A0 c0 hR0 hL0 b1 r1 b2 hc1 s o hf a w hA Q hQ) ?_
   rintro _ a w8 _ ⟨rfl, hS18, hF⟩
   replace hS18 : St w0 w8 [Own.blk b1 (.cells #[vI 0, vI 0] 39 (0, 0))] := hS18
   refine hK5 [(2, pP b1 0)] w8 ?_ a hF
   refine ws fun K13 hK13 => ?_
   refine wr [(0, 0), (1, 2)] ?_
   refine gb0 [0] [(27, .agg #[vI 0, vI 0])] ?_
   refine gs b1 0 #[vI 0, vI 0] 39 [vI 0, vI 0] hS18 fun w9 hS19 => ?_
   have hS20 : St w0 w9 [Own.blk b1 (.cells #[vI 0, vI 0] 39 (0, 0))] := hS19
   refine gn hK13 ?_
   have hS21 := hS20.takeN 0
   obtain rfl := si h
   exact we_ret (pr [.cell 2 39] [.agg #[vI 0, vI 0]] [.loaded ⟨b1, 0, none⟩ (vI 0), .loaded ⟨b1, 1, none⟩ (vI 0)] ⟨hS20.c 0, hS20.c 0, trivial⟩ ⟨rfl, hS21⟩)
  ·rw [hq2] at h
   simp only [] at h
   refine we_iter (A := fixed_check.A0 w0 l0 A0 c0 b1) (B := fixed_check.B0 w0 b1) hq2 (fun a hF => ⟨hS8, hF.weaken ea⟩) (fun s o hf a w hA Q hQ => fixed_check_r0 K w0 l0 A0 c0 hR0 hL0 b1 r1 b2 hc1 s o hf a w hA Q hQ) ?_
   rintro _ a w1 _ ⟨rfl, hb⟩
   obtain rfl := si h
   exact hb
 ·rw [if_neg hc1] at h
  refine wk 10 (r1.Code != 0) true (bne_iff_ne.2 hc1) ?_
  refine we_true (by kernel_rfl) ?_
  refine ws fun K14 hK14 => ?_
  refine wr [(0, 0), (1, 2)] ?_
  refine gb [0] [(11, .agg #[vI r1.Code, vI r1.At])] [.loaded ⟨b2, 0, none⟩ (vI r1.Code), .loaded ⟨b2, 1, none⟩ (vI r1.At)] ⟨hS6.c 0, hS6.c 0, trivial⟩ ?_
  have hS22 := hS6.bring 1 rfl
  refine gs b1 0 #[vI 0, vI 0] 39 [vI r1.Code, vI r1.At] hS22 fun w10 hS23 => ?_
  have hS24 : St w0 w10 [Own.blk b1 (.cells #[vI r1.Code, vI r1.At] 39 (0, 0)), Own.blk b2 (.cells #[vI r1.Code, vI r1.At] 39 (0, 0))] := hS23
  refine gn hK14 ?_
  have hS25 := hS24.takeN 0
  obtain rfl := si h
  exact we_ret (pr [.cell 2 39] [.agg #[vI r1.Code, vI r1.At]] [.loaded ⟨b1, 0, none⟩ (vI r1.Code), .loaded ⟨b1, 1, none⟩ (vI r1.At)] ⟨hS24.c 0, hS24.c 0, trivial⟩ ⟨rfl, hS25⟩)

/-! punctual/fixed.above -/
abbrev fixed_above.Post (w0 : World) (r : List STask) (e : Ending) (w : World) : Prop := ∃ (v0 : Value), e = .returned (v0) ∧ St w0 w [Own.of v0 51 r]
def fixed_above.r0 (l0 : List STask) (x1 : Int) : (List STask) × Nat → Option (((List STask) × Nat) ⊕ ((List STask) ⊕ (List STask)))
 | (m1, i1) =>
  if (i1 : Int) < (l0.length : Int) then
   match l0[i1]? with
   | none => none
   | some e1 =>
    if (i1 : Int) = x1 then
     some (.inl (m1, (i1 + 1)))
    else
     if 0 ≤ x1 then
      match l0[(x1).toNat]? with
      | none => none
      | some e2 =>
       if e1.P ≥ e2.P then
        if m1.length < 2199023255552 then
         some (.inl ((m1 ++ [e1]), (i1 + 1)))
        else
         none
       else
        some (.inl (m1, (i1 + 1)))
     else
      none
  else
   some (.inr (.inl m1))
def fixed_above.f (K : Nat) (l0 : List STask) (x1 : Int) : Option (List STask) :=
 match iter (fixed_above.r0 l0 x1) K (([] : List STask), 0) with
 | none => none
 | some (.inl m3) =>
  some m3
 | some (.inr rr1) =>
  some rr1
abbrev fixed_above.A0 (w0 : World) (l0 : List STask) (A0 : Option Addr) (c0 : Nat) (x1 : Int) : ((List STask) × Nat) → Act → World → Prop := fun (s : (List STask) × Nat) a w => ∃ (v1 : Value), St w0 w [Own.of v1 51 s.1] ∧ Frm 34 a [(0, .slice A0 l0.length c0), (1, vI x1), (5, v1), (8, .slice A0 l0.length c0), (9, vI (l0.length : Int)), (10, vI (s.2 : Int))]
abbrev fixed_above.B0 (w0 : World) : ((List STask) ⊕ (List STask)) → Exit → Act → World → Prop := Exits 0 (fun (s : (List STask)) a w => ∃ (v2 : Value), St w0 w [Own.of v2 51 s] ∧ Frm 34 a [(5, v2)]) (Rets Tryd.prog Tryd.f139 (fixed_above.Post w0))
theorem fixed_above_r0 (K : Nat) (w0 : World) (l0 : List STask) (A0 : Option Addr) (c0 : Nat) (x1 : Int) (hR0 : RdL w0 A0 l0) (hL0 : l0.length ≤ c0) (s : (List STask) × Nat) (o : ((List STask) × Nat) ⊕ ((List STask) ⊕ (List STask))) (h : fixed_above.r0 l0 x1 s = some o) (a : Act) (w : World) (hA : fixed_above.A0 w0 l0 A0 c0 x1 s a w) (Q : Exit → Act → World → Prop) (hQ : ∀ x a w, Outs (fixed_above.A0 w0 l0 A0 c0 x1) (fixed_above.B0 w0) o x a w → Q x a w) : (subF Tryd.f139 [1, 1, 0, 1, 0, 0]).wp Tryd.prog Q a w := by
 obtain ⟨m1, i1⟩ := s
 obtain ⟨v1, hS, hF⟩ := hA
 replace hS : St w0 w [Own.of v1 51 m1] := hS
 simp only [fixed_above.r0] at h
 refine (?_ : WE Tryd.prog 34 (subF Tryd.f139 [1, 1, 0, 1, 0, 0]) Q [(0, .slice A0 l0.length c0), (1, vI x1), (5, v1), (8, .slice A0 l0.length c0), (9, vI (l0.length : Int)), (10, vI (i1 : Int))] w) a hF
 clear hF a
 refine ws fun K5 hK5 => ?_
 refine wr [(0, 0)] ?_
 refine gb0 [0] [(11, .bool (decide ((i1 : Int) < (l0.length : Int))))] ?_
 refine gn hK5 ?_
 refine ws fun K6 hK6 => ?_
 by_cases hc1 : (i1 : Int) < (l0.length : Int)
 ·rw [if_pos hc1] at h
  refine wk 11 (decide ((i1 : Int) < (l0.length : Int))) true (decide_eq_true hc1) ?_
  refine we_true (by kernel_rfl) ?_
  refine we_skip fun a hF => hK6 _ _ ?_ a hF
  refine ws fun K7 hK7 => ?_
  refine we_block ?_
  refine ws fun K8 hK8 => ?_
  refine wr [(0, 0), (1, 0), (2, 0), (3, 1), (4, 0), (5, 2)] ?_
  refine gb0 [0] [(12, vI (i1 : Int))] ?_
  rcases hx1 : l0[i1]? with _ | e1
  ·rw [hx1] at h; cases h
  rw [hx1] at h
  simp only [] at h
  refine gi 13 0 47 51 7 l0.length c0 (.tmp 8) (.tmp 10) A0 .i64 (i1 : Int) i1 ((hS.rd hR0).eqSome (pos_of_get hx1)) rfl (lt_of_get hx1) ?_
  refine gb [2] [(14, .agg #[.string e1.Name, vI e1.C, vI e1.T, vI e1.D, vI e1.J, vI e1.O, vI e1.P])] [.loaded ⟨blkOf A0, offOf A0 + i1 * 7, none⟩ (.string e1.Name), .loaded ⟨blkOf A0, offOf A0 + i1 * 7 + 1, none⟩ (vI e1.C), .loaded ⟨blkOf A0, offOf A0 + i1 * 7 + 2, none⟩ (vI e1.T), .loaded ⟨blkOf A0, offOf A0 + i1 * 7 + 3, none⟩ (vI e1.D), .loaded ⟨blkOf A0, offOf A0 + i1 * 7 + 4, none⟩ (vI e1.J), .loaded ⟨blkOf A0, offOf A0 + i1 * 7 + 5, none⟩ (vI e1.O), .loaded ⟨blkOf A0, offOf A0 + i1 * 7 + 6, none⟩ (vI e1.P)] ⟨RdL.cell (j := 0) (hS.rd hR0) hx1 rfl, RdL.cell (j := 1) (hS.rd hR0) hx1 rfl, RdL.cell (j := 2) (hS.rd hR0) hx1 rfl, RdL.cell (j := 3) (hS.rd hR0) hx1 rfl, RdL.cell (j := 4) (hS.rd hR0) hx1 rfl, RdL.cell (j := 5) (hS.rd hR0) hx1 rfl, RdL.cell (j := 6) (hS.rd hR0) hx1 rfl, trivial⟩ ?_
  refine gw (some 7) (.cells #[.string (⟨#[]⟩), vI 0, vI 0, vI 0, vI 0, vI 0, vI 0] 51) (fun b => pP b 0) hS fun b1 w1 hx2 hS2 => ?_
  refine gb0 [4] [(6, vI (i1 : Int))] ?_
  refine gs b1 0 #[.string (⟨#[]⟩), vI 0, vI 0, vI 0, vI 0, vI 0, vI 0] 51 [.string e1.Name, vI e1.C, vI e1.T, vI e1.D, vI e1.J, vI e1.O, vI e1.P] hS2 fun w2 hS3 => ?_
  have hS4 : St w0 w2 [Own.blk b1 (.cells #[.string e1.Name, vI e1.C, vI e1.T, vI e1.D, vI e1.J, vI e1.O, vI e1.P] 51 (0, 0)), Own.of v1 51 m1] := hS3
  refine gn hK8 ?_
  refine ws fun K9 hK9 => ?_
  refine we_draws (by kernel_rfl) [(0, 0), (1, 0), (2, 0), (3, 0), (4, 0), (5, 0), (6, 0), (7, 0), (8, 0), (9, 0), (10, 0), (11, 0), (12, 0)] (by kernel_rfl) ?_
  have hS5 := hS4.drew
  refine gb0 [0, 1, 2, 3] [(18, .bool ((i1 : Int) != x1)), (17, .bool ((i1 : Int) != x1)), (16, vI x1), (15, vI (i1 : Int))] ?_
  by_cases hc2 : (i1 : Int) = x1
  ·rw [if_pos hc2] at h
   refine gk 18 ((i1 : Int) != x1) false (bne_eq_false_iff_eq.2 hc2) ?_
   refine gb0 [4, 5, 6, 7, 8, 9, 10, 11, 12] [(27, .bool false), (26, undef), (25, undef), (24, undef), (23, undef), (22, undef), (21, undef), (20, undef), (19, undef)] ?_
   refine gn hK9 ?_
   refine we_false (by kernel_rfl) ?_
   refine we_skip fun a hF => hK7 _ _ ?_ a hF
   refine wr [(0, 0), (1, 0)] ?_
   refine ge_addn (d := 32) (ty := 3) (x := (.tmp 10)) (y := (.const (vI 1))) (t := 3) (t2 := 3) (k := .i64) (m := i1) (by kernel_rfl) (by kernel_rfl) (by kernel_rfl) (by have h0 := hR0.small; omega) ?_
   refine gb0 [1] [(10, vI ((i1 + 1 : Nat) : Int))] ?_
   have hS6 := hS5.bring 1 rfl
   have hS7 := hS6.takeN 1
   obtain rfl := si h
   exact ge_nil fun a hF => hQ _ _ _ (Outs.again ⟨v1, hS7, hF.weaken ea⟩)
  ·rw [if_neg hc2] at h
   refine gk 18 ((i1 : Int) != x1) true (bne_iff_ne.2 hc2) ?_
   refine gb [4, 5, 6, 7] [(22, vI x1), (21, .slice A0 l0.length c0), (20, vI e1.P), (19, pP b1 6)] [.loaded ⟨b1, 6, none⟩ (vI e1.P)] ⟨hS5.c 0, trivial⟩ ?_
   by_cases hc3 : 0 ≤ x1
   ·rw [if_pos hc3] at h
    rcases hx3 : l0[(x1).toNat]? with _ | e2
    ·rw [hx3] at h; cases h
    rw [hx3] at h
    simp only [] at h
    refine gi 23 0 47 51 7 l0.length c0 (.tmp 21) (.tmp 22) A0 .i64 x1 ((x1).toNat) ((hS5.rd hR0).eqSome (pos_of_get hx3)) (Int.toNat_of_nonneg hc3).symm (lt_of_get hx3) ?_
    refine gb [9, 10, 11, 12] [(27, .bool (decide (e1.P ≥ e2.P))), (26, .bool (decide (e1.P ≥ e2.P))), (25, vI e2.P), (24, .pointer (some ⟨blkOf A0, offOf A0 + (x1).toNat * 7 + 6, none⟩))] [.loaded ⟨blkOf A0, offOf A0 + ((x1).toNat) * 7 + 6, none⟩ (vI e2.P)] ⟨RdL.cell (j := 6) (hS5.rd hR0) hx3 rfl, trivial⟩ ?_
    refine gn hK9 ?_
    by_cases hc4 : e1.P ≥ e2.P
    ·rw [if_pos hc4] at h
     refine wk 27 (decide (e1.P ≥ e2.P)) true (decide_eq_true hc4) ?_
     refine we_true (by kernel_rfl) ?_
     refine wr [(0, 0), (1, 0), (2, 1), (3, 2), (4, 0)] ?_
     refine gb [0, 1] [(29, .agg #[.string e1.Name, vI e1.C, vI e1.T, vI e1.D, vI e1.J, vI e1.O, vI e1.P]), (28, v1)] [.loaded ⟨b1, 0, none⟩ (.string e1.Name), .loaded ⟨b1, 1, none⟩ (vI e1.C), .loaded ⟨b1, 2, none⟩ (vI e1.T), .loaded ⟨b1, 3, none⟩ (vI e1.D), .loaded ⟨b1, 4, none⟩ (vI e1.J), .loaded ⟨b1, 5, none⟩ (vI e1.O), .loaded ⟨b1, 6, none⟩ (vI e1.P)] ⟨hS5.c 0, hS5.c 0, hS5.c 0, hS5.c 0, hS5.c 0, hS5.c 0, hS5.c 0, trivial⟩ ?_
     refine gw (some 30) (.cells #[.string e1.Name, vI e1.C, vI e1.T, vI e1.D, vI e1.J, vI e1.O, vI e1.P] 51) (fun b => .slice (some ⟨b, 0, none⟩) 1 1) hS5 fun b2 w3 hx4 hS8 => ?_
     have hS9 := hS8.bring 2 rfl
     by_cases hc5 : m1.length < 2199023255552
     ·rw [if_pos hc5] at h
      refine ge_append (α := STask) (m := 0) (d := 31) (t := 47) (el := 51) (bytes := 64) (c1 := 1) (b1 := b2) (x := (.tmp 28)) (y := (.tmp 30)) (ty := 47) (v := v1) (z := .agg #[.string (⟨#[]⟩), vI 0, vI 0, vI 0, vI 0, vI 0, vI 0]) (l := m1) (u := e1) (by kernel_rfl) (by kernel_rfl) (by kernel_rfl) (by kernel_rfl) (by kernel_rfl) rfl hS9 rfl (by omega) fun v3 w4 hS10 => ?_
      refine gb0 [4] [(5, v3)] ?_
      refine gn hK7 ?_
      refine wr [(0, 0), (1, 0)] ?_
      refine ge_addn (d := 32) (ty := 3) (x := (.tmp 10)) (y := (.const (vI 1))) (t := 3) (t2 := 3) (k := .i64) (m := i1) (by kernel_rfl) (by kernel_rfl) (by kernel_rfl) (by have h0 := hR0.small; omega) ?_
      refine gb0 [1] [(10, vI ((i1 + 1 : Nat) : Int))] ?_
      have hS11 := hS10.takeN 1
      obtain rfl := si h
      exact ge_nil fun a hF => hQ _ _ _ (Outs.again ⟨v3, hS11, hF.weaken ea⟩)
     ·rw [if_neg hc5] at h
      cases h
    ·rw [if_neg hc4] at h
     refine wk 27 (decide (e1.P ≥ e2.P)) false (decide_eq_false hc4) ?_
     refine we_false (by kernel_rfl) ?_
     refine we_skip fun a hF => hK7 _ _ ?_ a hF
     refine wr [(0, 0), (1, 0)] ?_
     refine ge_addn (d := 32) (ty := 3) (x := (.tmp 10)) (y := (.const (vI 1))) (t := 3) (t2 := 3) (k := .i64) (m := i1) (by kernel_rfl) (by kernel_rfl) (by kernel_rfl) (by have h0 := hR0.small; omega) ?_
     refine gb0 [1] [(10, vI ((i1 + 1 : Nat) : Int))] ?_
     have hS12 := hS5.bring 1 rfl
     have hS13 := hS12.takeN 1
     obtain rfl := si h
     exact ge_nil fun a hF => hQ _ _ _ (Outs.again ⟨v1, hS13, hF.weaken ea⟩)
   ·rw [if_neg hc3] at h
    cases h
 ·rw [if_neg hc1] at h
  refine wk 11 (decide ((i1 : Int) < (l0.length : Int))) false (decide_eq_false hc1) ?_
  refine we_false (by kernel_rfl) ?_
  obtain rfl := si h
  exact we_exit fun a hF => hQ _ _ _ (Outs.out nofun (Exits.here ⟨v1, hS, hF.weaken ea⟩))
theorem fixed_above_ok (K : Nat) (l0 : List STask) (A0 : Option Addr) (c0 : Nat) (x1 : Int) (w0 : World) (hR0 : RdL w0 A0 l0) (hL0 : l0.length ≤ c0) (r : List STask) (h : fixed_above.f K l0 x1 = some r) :
  Calls Tryd.prog 139 #[.slice A0 l0.length c0, vI x1] w0 (fixed_above.Post w0 r) := by
 have hS := St.start w0
 unfold fixed_above.f at h
 refine calls_enter (n := 34) (args := [.slice A0 l0.length c0, vI x1]) (fn := Tryd.f139) rfl rfl rfl rfl ?_
 show WE _ _ _ _ [(0, .slice A0 l0.length c0), (1, vI x1)] _
 refine ws fun K1 hK1 => ?_
 refine wr [(0, 0)] ?_
 refine gb0 [0] [(4, .slice none 0 0)] ?_
 refine gn hK1 ?_
 refine ws fun K2 hK2 => ?_
 refine wr [(0, 0)] ?_
 refine gb0 [0] [(5, .slice none 0 0)] ?_
 refine gn hK2 ?_
 refine ws fun K3 hK3 => ?_
 refine ws fun K4 hK4 => ?_
 refine wr [(0, 0), (1, 0), (2, 0)] ?_
 refine gb0 [0, 1, 2] [(10, vI 0), (9, vI (l0.length : Int)), (8, .slice A0 l0.length c0)] ?_
 refine gn hK4 ?_
 refine we_block ?_
 have hS1 := hS.nil (α := STask) 51
 rcases hq1 : iter (fixed_above.r0 l0 x1) K (([] : List STask), 0) with _ | (m3 | rr1)
 ·rw [hq1] at h; cases h
 ·rw [hq1] at h
  simp only [] at h
  refine we_iter (A := fixed_above.A0 w0 l0 A0 c0 x1) (B := fixed_above.B0 w0) hq1 (fun a hF => ⟨(.slice none 0 0), hS1, hF.weaken ea⟩) (fun s o hf a w hA Q hQ => fixed_above_r0 K w0 l0 A0 c0 x1 hR0 hL0 s o hf a w hA Q hQ) ?_
  rintro _ a w5 _ ⟨rfl, v4, hS14, hF⟩
  replace hS14 : St w0 w5 [Own.of v4 51 m3] := hS14
  refine hK3 [(5, v4)] w5 ?_ a hF
  refine ws fun K10 hK10 => ?_
  refine wr [(0, 0), (1, 0)] ?_
  refine gb0 [0, 1] [(4, v4), (33, v4)] ?_
  refine gn hK10 ?_
  obtain rfl := si h
  exact we_ret (pr0 [.tmp 4] [v4] ⟨v4, rfl, hS14⟩)
 ·rw [hq1] at h
  simp only [] at h
  refine we_iter (A := fixed_above.A0 w0 l0 A0 c0 x1) (B := fixed_above.B0 w0) hq1 (fun a hF => ⟨(.slice none 0 0), hS1, hF.weaken ea⟩) (fun s o hf a w hA Q hQ => fixed_above_r0 K w0 l0 A0 c0 x1 hR0 hL0 s o hf a w hA Q hQ) ?_
  rintro _ a w1 _ ⟨rfl, hb⟩
  obtain rfl := si h
  exact hb

/-! punctual/fixed.ceil -/
abbrev fixed_ceil.Post (w0 : World) (r : Int) (e : Ending) (w : World) : Prop := e = .returned (vI r) ∧ St w0 w []
def fixed_ceil.f (x0 : Int) (x1 : Int) : Option Int :=
 if x1 = 0 then
  none
 else
  some (IntKind.i64.wrap (Int.tdiv (IntKind.i64.wrap ((IntKind.i64.wrap (x0 + x1)) - 1)) x1))
theorem fixed_ceil_ok (x0 : Int) (x1 : Int) (w0 : World) (r : Int) (h : fixed_ceil.f x0 x1 = some r) :
  Calls Tryd.prog 177 #[vI x0, vI x1] w0 (fixed_ceil.Post w0 r) := by
 have hS := St.start w0
 unfold fixed_ceil.f at h
 refine calls_enter (n := 11) (args := [vI x0, vI x1]) (fn := Tryd.f177) rfl rfl rfl rfl ?_
 show WE _ _ _ _ [(0, vI x0), (1, vI x1)] _
 refine ws fun K1 hK1 => ?_
 refine wr [(0, 0)] ?_
 refine gb0 [0] [(4, vI 0)] ?_
 refine gn hK1 ?_
 refine ws fun K2 hK2 => ?_
 refine wr [(0, 0), (1, 0), (2, 0), (3, 0), (4, 0), (5, 0), (6, 0)] ?_
 refine gb0 [0, 1, 2, 3, 4] [(9, vI x1), (8, vI (IntKind.i64.wrap ((IntKind.i64.wrap (x0 + x1)) - 1))), (7, vI (IntKind.i64.wrap (x0 + x1))), (6, vI x1), (5, vI x0)] ?_
 by_cases hc1 : x1 = 0
 ·rw [if_pos hc1] at h
  cases h
 ·rw [if_neg hc1] at h
  refine ge_div (d := 10) (ty := 3) (op := .quo) (x := (.tmp 8)) (y := (.tmp 9)) (t := 3) (t2 := 3) (k := .i64) (p := (IntKind.i64.wrap ((IntKind.i64.wrap (x0 + x1)) - 1))) (q := x1) (v := vI (IntKind.i64.wrap (Int.tdiv (IntKind.i64.wrap ((IntKind.i64.wrap (x0 + x1)) - 1)) x1))) (by kernel_rfl) (by kernel_rfl) (by kernel_rfl) hc1 rfl ?_
  refine gb0 [6] [(4, vI (IntKind.i64.wrap (Int.tdiv (IntKind.i64.wrap ((IntKind.i64.wrap (x0 + x1)) - 1)) x1)))] ?_
  refine gn hK2 ?_
  obtain rfl := si h
  exact we_ret (pr0 [.tmp 4] [vI (IntKind.i64.wrap (Int.tdiv (IntKind.i64.wrap ((IntKind.i64.wrap (x0 + x1)) - 1)) x1))] ⟨rfl, hS⟩)

/-! punctual/fixed.response$1 -/
abbrev fixed_response_1.Post (w0 : World) (r : Int) (e : Ending) (w : World) : Prop := e = .returned (vI r) ∧ St w0 w []
def fixed_response_1.r0 (x0 : Int) (lf_2 : List STask) : Int × Nat → Option ((Int × Nat) ⊕ (Int ⊕ Int))
 | (z1, i1) =>
  if (i1 : Int) < (lf_2.length : Int) then
   match lf_2[i1]? with
   | none => none
   | some e1 =>
    match fixed_ceil.f (IntKind.i64.wrap (x0 + e1.J)) e1.T with
    | none => none
    | some r1 =>
     some (.inl (IntKind.i64.wrap (z1 + (IntKind.i64.wrap (r1 * e1.C))), (i1 + 1)))
  else
   some (.inr (.inl z1))
def fixed_response_1.f (K : Nat) (x0 : Int) (xf_0 : STask) (xf_1 : Int) (lf_2 : List STask) : Option Int :=
 match iter (fixed_response_1.r0 x0 lf_2) K (IntKind.i64.wrap (xf_0.C + xf_1), 0) with
 | none => none
 | some (.inl z3) =>
  some z3
 | some (.inr rr1) =>
  some rr1
abbrev fixed_response_1.A0 (w0 : World) (x0 : Int) (lf_2 : List STask) (Af_2 : Option Addr) (cf_2 : Nat) : (Int × Nat) → Act → World → Prop := fun (s : Int × Nat) a w => St w0 w [] ∧ Frm 33 a [(0, vI x0), (6, vI s.1), (13, .slice Af_2 lf_2.length cf_2), (14, vI (lf_2.length : Int)), (15, vI (s.2 : Int))]
abbrev fixed_response_1.B0 (w0 : World) : (Int ⊕ Int) → Exit → Act → World → Prop := Exits 0 (fun (s : Int) a w => St w0 w [] ∧ Frm 33 a [(6, vI s)]) (Rets Tryd.prog Tryd.f176 (fixed_response_1.Post w0))
theorem fixed_response_1_r0 (K : Nat) (w0 : World) (x0 : Int) (bf_0 : Nat) (xf_0 : STask) (bf_1 : Nat) (xf_1 : Int) (bf_2 : Nat) (lf_2 : List STask) (Af_2 : Option Addr) (cf_2 : Nat) (hBf_0 : Glob w0 bf_0 [.string xf_0.Name, vI xf_0.C, vI xf_0.T, vI xf_0.D, vI xf_0.J, vI xf_0.O, vI xf_0.P]) (hBf_1 : Glob w0 bf_1 [vI xf_1]) (hRf_2 : RdL w0 Af_2 lf_2) (hLf_2 : lf_2.length ≤ cf_2) (hBf_2 : Glob w0 bf_2 [.slice Af_2 lf_2.length cf_2]) (s : Int × Nat) (o : (Int × Nat) ⊕ (Int ⊕ Int)) (h : fixed_response_1.r0 x0 lf_2 s = some o) (a : Act) (w : World) (hA : fixed_response_1.A0 w0 x0 lf_2 Af_2 cf_2 s a w) (Q : Exit → Act → World → Prop) (hQ : ∀ x a w, Outs (fixed_response_1.A0 w0 x0 lf_2 Af_2 cf_2) (fixed_response_1.B0 w0) o x a w → Q x a w) : (subF Tryd.f176 [1, 1, 0, 1, 0, 0]).wp Tryd.prog Q a w := by
 obtain ⟨z1, i1⟩ := s
 obtain ⟨hS, hF⟩ := hA
 replace hS : St w0 w [] := hS
 simp only [fixed_response_1.r0] at h
 refine (?_ : WE Tryd.prog 33 (subF Tryd.f176 [1, 1, 0, 1, 0, 0]) Q [(0, vI x0), (6, vI z1), (13, .slice Af_2 lf_2.length cf_2), (14, vI (lf_2.length : Int)), (15, vI (i1 : Int))] w) a hF
 clear hF a
 refine ws fun K5 hK5 => ?_
 refine wr [(0, 0)] ?_
 refine gb0 [0] [(16, .bool (decide ((i1 : Int) < (lf_2.length : Int))))] ?_
 refine gn hK5 ?_
 refine ws fun K6 hK6 => ?_
 by_cases hc1 : (i1 : Int) < (lf_2.length : Int)
 ·rw [if_pos hc1] at h
  refine wk 16 (decide ((i1 : Int) < (lf_2.length : Int))) true (decide_eq_true hc1) ?_
  refine we_true (by kernel_rfl) ?_
  refine we_skip fun a hF => hK6 _ _ ?_ a hF
  refine ws fun K7 hK7 => ?_
  refine we_block ?_
  refine ws fun K8 hK8 => ?_
  refine wr [(0, 0), (1, 0), (2, 1), (3, 2)] ?_
  rcases hx1 : lf_2[i1]? with _ | e1
  ·rw [hx1] at h; cases h
  rw [hx1] at h
  simp only [] at h
  refine gi 17 0 47 51 7 lf_2.length cf_2 (.tmp 13) (.tmp 15) Af_2 .i64 (i1 : Int) i1 ((hS.rd hRf_2).eqSome (pos_of_get hx1)) rfl (lt_of_get hx1) ?_
  refine gb [1] [(18, .agg #[.string e1.Name, vI e1.C, vI e1.T, vI e1.D, vI e1.J, vI e1.O, vI e1.P])] [.loaded ⟨blkOf Af_2, offOf Af_2 + i1 * 7, none⟩ (.string e1.Name), .loaded ⟨blkOf Af_2, offOf Af_2 + i1 * 7 + 1, none⟩ (vI e1.C), .loaded ⟨blkOf Af_2, offOf Af_2 + i1 * 7 + 2, none⟩ (vI e1.T), .loaded ⟨blkOf Af_2, offOf Af_2 + i1 * 7 + 3, none⟩ (vI e1.D), .loaded ⟨blkOf Af_2, offOf Af_2 + i1 * 7 + 4, none⟩ (vI e1.J), .loaded ⟨blkOf Af_2, offOf Af_2 + i1 * 7 + 5, none⟩ (vI e1.O), .loaded ⟨blkOf Af_2, offOf Af_2 + i1 * 7 + 6, none⟩ (vI e1.P)] ⟨RdL.cell (j := 0) (hS.rd hRf_2) hx1 rfl, RdL.cell (j := 1) (hS.rd hRf_2) hx1 rfl, RdL.cell (j := 2) (hS.rd hRf_2) hx1 rfl, RdL.cell (j := 3) (hS.rd hRf_2) hx1 rfl, RdL.cell (j := 4) (hS.rd hRf_2) hx1 rfl, RdL.cell (j := 5) (hS.rd hRf_2) hx1 rfl, RdL.cell (j := 6) (hS.rd hRf_2) hx1 rfl, trivial⟩ ?_
  refine gw (some 8) (.cells #[.string (⟨#[]⟩), vI 0, vI 0, vI 0, vI 0, vI 0, vI 0] 51) (fun b => pP b 0) hS fun b1 w1 hx2 hS1 => ?_
  refine gs b1 0 #[.string (⟨#[]⟩), vI 0, vI 0, vI 0, vI 0, vI 0, vI 0] 51 [.string e1.Name, vI e1.C, vI e1.T, vI e1.D, vI e1.J, vI e1.O, vI e1.P] hS1 fun w2 hS2 => ?_
  have hS3 : St w0 w2 [Own.blk b1 (.cells #[.string e1.Name, vI e1.C, vI e1.T, vI e1.D, vI e1.J, vI e1.O, vI e1.P] 51 (0, 0))] := hS2
  refine gn hK8 ?_
  refine we_draws (by kernel_rfl) [(0, 0), (1, 0), (2, 0), (3, 0), (4, 0), (5, 0), (6, 0), (8, 0), (9, 0), (7, 1), (10, 0), (11, 0), (12, 0)] (by kernel_rfl) ?_
  have hS4 := hS3.drew
  rcases hq1 : fixed_ceil.f (IntKind.i64.wrap (x0 + e1.J)) e1.T with _ | r1
  ·rw [hq1] at h; cases h
  rw [hq1] at h
  simp only [] at h
  refine gb [0, 1, 2, 3, 4, 5, 6, 8, 9] [(28, vI e1.C), (27, pP b1 1), (25, vI e1.T), (24, pP b1 2), (23, vI (IntKind.i64.wrap (x0 + e1.J))), (22, vI e1.J), (21, pP b1 4), (20, vI x0), (19, vI z1)] [.loaded ⟨b1, 4, none⟩ (vI e1.J), .loaded ⟨b1, 2, none⟩ (vI e1.T), .loaded ⟨b1, 1, none⟩ (vI e1.C)] ⟨hS4.c 0, hS4.c 0, hS4.c 0, trivial⟩ ?_
  refine ge_call (d := some 26) (f := 177) (args := #[vI (IntKind.i64.wrap (x0 + e1.J)), vI e1.T]) (by kernel_rfl) (fixed_ceil_ok (IntKind.i64.wrap (x0 + e1.J)) e1.T _ _ hq1) ?_
  rintro _ w3 ⟨rfl, hS5⟩
  refine ⟨_, rfl, hS5.below, ?_⟩
  have hS6 := hS4.call hS5
  refine gb0 [10, 11, 12] [(6, vI (IntKind.i64.wrap (z1 + (IntKind.i64.wrap (r1 * e1.C))))), (30, vI (IntKind.i64.wrap (z1 + (IntKind.i64.wrap (r1 * e1.C))))), (29, vI (IntKind.i64.wrap (r1 * e1.C)))] ?_
  refine gn hK7 ?_
  refine wr [(0, 0), (1, 0)] ?_
  refine ge_addn (d := 31) (ty := 3) (x := (.tmp 15)) (y := (.const (vI 1))) (t := 3) (t2 := 3) (k := .i64) (m := i1) (by kernel_rfl) (by kernel_rfl) (by kernel_rfl) (by have h0 := hRf_2.small; omega) ?_
  refine gb0 [1] [(15, vI ((i1 + 1 : Nat) : Int))] ?_
  have hS7 := hS6.takeN 0
  obtain rfl := si h
  exact ge_nil fun a hF => hQ _ _ _ (Outs.again ⟨hS7, hF.weaken ea⟩)
 ·rw [if_neg hc1] at h
  refine wk 16 (decide ((i1 : Int) < (lf_2.length : Int))) false (decide_eq_false hc1) ?_
  refine we_false (by kernel_rfl) ?_
  obtain rfl := si h
  exact we_exit fun a hF => hQ _ _ _ (Outs.out nofun (Exits.here ⟨hS, hF.weaken ea⟩))
theorem fixed_response_1_ok (K : Nat) (x0 : Int) (bf_0 : Nat) (xf_0 : STask) (bf_1 : Nat) (xf_1 : Int) (bf_2 : Nat) (lf_2 : List STask) (Af_2 : Option Addr) (cf_2 : Nat) (w0 : World) (hBf_0 : Glob w0 bf_0 [.string xf_0.Name, vI xf_0.C, vI xf_0.T, vI xf_0.D, vI xf_0.J, vI xf_0.O, vI xf_0.P]) (hBf_1 : Glob w0 bf_1 [vI xf_1]) (hRf_2 : RdL w0 Af_2 lf_2) (hLf_2 : lf_2.length ≤ cf_2) (hBf_2 : Glob w0 bf_2 [.slice Af_2 lf_2.length cf_2]) (r : Int) (h : fixed_response_1.f K x0 xf_0 xf_1 lf_2 = some r) :
  Calls Tryd.prog 176 #[vI x0, pP bf_0 0, pP bf_1 0, pP bf_2 0] w0 (fixed_response_1.Post w0 r) := by
 have hS := St.start w0
 unfold fixed_response_1.f at h
 refine calls_enter (n := 33) (args := [vI x0, pP bf_0 0, pP bf_1 0, pP bf_2 0]) (fn := Tryd.f176) rfl rfl rfl rfl ?_
 show WE _ _ _ _ [(0, vI x0), (1, pP bf_0 0), (2, pP bf_1 0), (3, pP bf_2 0)] _
 refine ws fun K1 hK1 => ?_
 refine wr [(0, 0)] ?_
 refine gb0 [0] [(5, vI 0)] ?_
 refine gn hK1 ?_
 refine ws fun K2 hK2 => ?_
 refine wr [(0, 0), (1, 0), (2, 0), (3, 0), (4, 0)] ?_
 refine gb [0, 1, 2, 3, 4] [(6, vI (IntKind.i64.wrap (xf_0.C + xf_1))), (12, vI (IntKind.i64.wrap (xf_0.C + xf_1))), (11, vI xf_1), (10, vI xf_0.C), (9, pP bf_0 1)] [.loaded ⟨bf_0, 1, none⟩ (vI xf_0.C), .loaded ⟨bf_1, 0, none⟩ (vI xf_1)] ⟨hS.glob hBf_0 rfl, hS.glob hBf_1 rfl, trivial⟩ ?_
 refine gn hK2 ?_
 refine ws fun K3 hK3 => ?_
 refine ws fun K4 hK4 => ?_
 refine wr [(0, 0), (1, 0), (2, 0)] ?_
 refine gb [0, 1, 2] [(15, vI 0), (14, vI (lf_2.length : Int)), (13, .slice Af_2 lf_2.length cf_2)] [.loaded ⟨bf_2, 0, none⟩ (.slice Af_2 lf_2.length cf_2)] ⟨hS.glob hBf_2 rfl, trivial⟩ ?_
 refine gn hK4 ?_
 refine we_block ?_
 rcases hq2 : iter (fixed_response_1.r0 x0 lf_2) K (IntKind.i64.wrap (xf_0.C + xf_1), 0) with _ | (z3 | rr1)
 ·rw [hq2] at h; cases h
 ·rw [hq2] at h
  simp only [] at h
  refine we_iter (A := fixed_response_1.A0 w0 x0 lf_2 Af_2 cf_2) (B := fixed_response_1.B0 w0) hq2 (fun a hF => ⟨hS, hF.weaken ea⟩) (fun s o hf a w hA Q hQ => fixed_response_1_r0 K w0 x0 bf_0 xf_0 bf_1 xf_1 bf_2 lf_2 Af_2 cf_2 hBf_0 hBf_1 hRf_2 hLf_2 hBf_2 s o hf a w hA Q hQ) ?_
  rintro _ a w4 _ ⟨rfl, hS8, hF⟩
  replace hS8 : St w0 w4 [] := hS8
  refine hK3 [(6, vI z3)] w4 ?_ a hF
  refine ws fun K9 hK9 => ?_
  refine wr [(0, 0), (1, 0)] ?_
  refine gb0 [0, 1] [(5, vI z3), (32, vI z3)] ?_
  refine gn hK9 ?_
  obtain rfl := si h
  exact we_ret (pr0 [.tmp 5] [vI z3] ⟨rfl, hS8⟩)
 ·rw [hq2] at h
  simp only [] at h
  refine we_iter (A := fixed_response_1.A0 w0 x0 lf_2 Af_2 cf_2) (B := fixed_response_1.B0 w0) hq2 (fun a hF => ⟨hS, hF.weaken ea⟩) (fun s o hf a w hA Q hQ => fixed_response_1_r0 K w0 x0 bf_0 xf_0 bf_1 xf_1 bf_2 lf_2 Af_2 cf_2 hBf_0 hBf_1 hRf_2 hLf_2 hBf_2 s o hf a w hA Q hQ) ?_
  rintro _ a w1 _ ⟨rfl, hb⟩
  obtain rfl := si h
  exact hb

/-! punctual/fixed.Settle -/
abbrev fixed_Settle.Post (w0 : World) (r : Int) (e : Ending) (w : World) : Prop := e = .returned (vI r) ∧ St w0 w []
def fixed_Settle.r0 (K : Nat) (x1 : Int) (xg2_0 : STask) (xg2_1 : Int) (lg2_2 : List STask) : Int → Option (Int ⊕ (Unit ⊕ Int))
 | z1 =>
  if z1 ≤ x1 then
   match fixed_response_1.f K z1 xg2_0 xg2_1 lg2_2 with
   | none => none
   | some r1 =>
    if r1 ≤ z1 then
     some (.inr (.inr z1))
    else
     some (.inl r1)
  else
   some (.inr (.inl ()))
def fixed_Settle.f (K : Nat) (x0 : Int) (x1 : Int) (xg2_0 : STask) (xg2_1 : Int) (lg2_2 : List STask) : Option Int :=
 match iter (fixed_Settle.r0 K x1 xg2_0 xg2_1 lg2_2) K x0 with
 | none => none
 | some (.inl _) =>
  some 0
 | some (.inr rr1) =>
  some rr1
abbrev fixed_Settle.A0 (w0 : World) (x1 : Int) (bg2_0 : Nat) (bg2_1 : Nat) (bg2_2 : Nat) : Int → Act → World → Prop := fun (s : Int) a w => St w0 w [] ∧ Frm 21 a [(1, vI x1), (2, .func (.func 176) #[] #[pP bg2_0 0, pP bg2_1 0, pP bg2_2 0]), (7, vI s)]
abbrev fixed_Settle.B0 (w0 : World) : (Unit ⊕ Int) → Exit → Act → World → Prop := Exits 0 (fun (s : Unit) a w => St w0 w [] ∧ Frm 21 a []) (Rets Tryd.prog Tryd.f142 (fixed_Settle.Post w0))
theorem fixed_Settle_r0 (K : Nat) (w0 : World) (x0 : Int) (x1 : Int) (bg2_0 : Nat) (xg2_0 : STask) (bg2_1 : Nat) (xg2_1 : Int) (bg2_2 : Nat) (lg2_2 : List STask) (Ag2_2 : Option Addr) (cg2_2 : Nat) (hBg2_0 : Glob w0 bg2_0 [.string xg2_0.Name, vI xg2_0.C, vI xg2_0.T, vI xg2_0.D, vI xg2_0.J, vI xg2_0.O, vI xg2_0.P]) (hBg2_1 : Glob w0 bg2_1 [vI xg2_1]) (hRg2_2 : RdL w0 Ag2_2 lg2_2) (hLg2_2 : lg2_2.length ≤ cg2_2) (hBg2_2 : Glob w0 bg2_2 [.slice Ag2_2 lg2_2.length cg2_2]) (s : Int) (o : Int ⊕ (Unit ⊕ Int)) (h : fixed_Settle.r0 K x1 xg2_0 xg2_1 lg2_2 s = some o) (a : Act) (w : World) (hA : fixed_Settle.A0 w0 x1 bg2_0 bg2_1 bg2_2 s a w) (Q : Exit → Act → World → Prop) (hQ : ∀ x a w, Outs (fixed_Settle.A0 w0 x1 bg2_0 bg2_1 bg2_2) (fixed_Settle.B0 w0) o x a w → Q x a w) : (subF Tryd.f142 [1, 0, 1, 0, 0]).wp Tryd.prog Q a w := by
 obtain ⟨z1, hs⟩ : ∃ z, z = s := ⟨s, rfl⟩
 subst hs
 obtain ⟨hS, hF⟩ := hA
 replace hS : St w0 w [] := hS
 simp only [fixed_Settle.r0] at h
 refine (?_ : WE Tryd.prog 21 (subF Tryd.f142 [1, 0, 1, 0, 0]) Q [(1, vI x1), (2, .func (.func 176) #[] #[pP bg2_0 0, pP bg2_1 0, pP bg2_2 0]), (7, vI z1)] w) a hF
 clear hF a
 refine ws fun K4 hK4 => ?_
 refine ws fun K5 hK5 => ?_
 refine wr [(0, 0), (1, 0), (2, 0)] ?_
 refine gb0 [0, 1, 2] [(12, .bool (decide (z1 ≤ x1))), (11, vI x1), (10, vI z1)] ?_
 refine gn hK5 ?_
 by_cases hc1 : z1 ≤ x1
 ·rw [if_pos hc1] at h
  refine wk 12 (decide (z1 ≤ x1)) true (decide_eq_true hc1) ?_
  refine we_true (by kernel_rfl) ?_
  refine we_skip fun a hF => hK4 _ _ ?_ a hF
  refine we_block ?_
  refine ws fun K6 hK6 => ?_
  refine wr [(0, 0), (1, 0), (2, 1), (3, 0)] ?_
  rcases hq1 : fixed_response_1.f K z1 xg2_0 xg2_1 lg2_2 with _ | r1
  ·rw [hq1] at h; cases h
  rw [hq1] at h
  simp only [] at h
  refine gb0 [0, 1] [(14, vI z1), (13, .func (.func 176) #[] #[pP bg2_0 0, pP bg2_1 0, pP bg2_2 0])] ?_
  refine ge_call (d := some 15) (f := 176) (args := #[vI z1, pP bg2_0 0, pP bg2_1 0, pP bg2_2 0]) (by kernel_rfl) (fixed_response_1_ok K z1 bg2_0 xg2_0 bg2_1 xg2_1 bg2_2 lg2_2 Ag2_2 cg2_2 _ (Glob.ext hBg2_0 hS.below) (Glob.ext hBg2_1 hS.below) (hS.rd hRg2_2) hLg2_2 (Glob.ext hBg2_2 hS.below) _ hq1) ?_
  rintro _ w1 ⟨rfl, hS1⟩
  refine ⟨_, rfl, hS1.below, ?_⟩
  have hS2 := hS.call hS1
  refine gb0 [3] [(8, vI r1)] ?_
  refine gn hK6 ?_
  refine ws fun K7 hK7 => ?_
  refine ws fun K8 hK8 => ?_
  refine wr [(0, 0), (1, 0), (2, 0)] ?_
  refine gb0 [0, 1, 2] [(18, .bool (decide (r1 ≤ z1))), (17, vI z1), (16, vI r1)] ?_
  refine gn hK8 ?_
  by_cases hc2 : r1 ≤ z1
  ·rw [if_pos hc2] at h
   refine wk 18 (decide (r1 ≤ z1)) true (decide_eq_true hc2) ?_
   refine we_true (by kernel_rfl) ?_
   refine ws fun K9 hK9 => ?_
   refine wr [(0, 0), (1, 0)] ?_
   refine gb0 [0, 1] [(6, vI z1), (19, vI z1)] ?_
   refine gn hK9 ?_
   obtain rfl := si h
   exact we_ret fun a hF => hQ _ _ _ (Outs.out nofun (Exits.on ⟨rfl, (pr0 [.tmp 6] [vI z1] ⟨rfl, hS2⟩) a hF⟩))
  ·rw [if_neg hc2] at h
   refine wk 18 (decide (r1 ≤ z1)) false (decide_eq_false hc2) ?_
   refine we_false (by kernel_rfl) ?_
   refine we_skip fun a hF => hK7 _ _ ?_ a hF
   refine wr [(0, 0), (1, 0)] ?_
   refine gb0 [0, 1] [(7, vI r1), (20, vI r1)] ?_
   obtain rfl := si h
   exact ge_nil fun a hF => hQ _ _ _ (Outs.again ⟨hS2, hF.weaken ea⟩)
 ·rw [if_neg hc1] at h
  refine wk 12 (decide (z1 ≤ x1)) false (decide_eq_false hc1) ?_
  refine we_false (by kernel_rfl) ?_
  obtain rfl := si h
  exact we_exit fun a hF => hQ _ _ _ (Outs.out nofun (Exits.here ⟨hS, hF.weaken trivial⟩))
theorem fixed_Settle_ok (K : Nat) (x0 : Int) (x1 : Int) (bg2_0 : Nat) (xg2_0 : STask) (bg2_1 : Nat) (xg2_1 : Int) (bg2_2 : Nat) (lg2_2 : List STask) (Ag2_2 : Option Addr) (cg2_2 : Nat) (w0 : World) (hBg2_0 : Glob w0 bg2_0 [.string xg2_0.Name, vI xg2_0.C, vI xg2_0.T, vI xg2_0.D, vI xg2_0.J, vI xg2_0.O, vI xg2_0.P]) (hBg2_1 : Glob w0 bg2_1 [vI xg2_1]) (hRg2_2 : RdL w0 Ag2_2 lg2_2) (hLg2_2 : lg2_2.length ≤ cg2_2) (hBg2_2 : Glob w0 bg2_2 [.slice Ag2_2 lg2_2.length cg2_2]) (r : Int) (h : fixed_Settle.f K x0 x1 xg2_0 xg2_1 lg2_2 = some r) :
  Calls Tryd.prog 142 #[vI x0, vI x1, .func (.func 176) #[] #[pP bg2_0 0, pP bg2_1 0, pP bg2_2 0]] w0 (fixed_Settle.Post w0 r) := by
 have hS := St.start w0
 unfold fixed_Settle.f at h
 refine calls_enter (n := 21) (args := [vI x0, vI x1, .func (.func 176) #[] #[pP bg2_0 0, pP bg2_1 0, pP bg2_2 0]]) (fn := Tryd.f142) rfl rfl rfl rfl ?_
 show WE _ _ _ _ [(0, vI x0), (1, vI x1), (2, .func (.func 176) #[] #[pP bg2_0 0, pP bg2_1 0, pP bg2_2 0])] _
 refine ws fun K1 hK1 => ?_
 refine wr [(0, 0)] ?_
 refine gb0 [0] [(6, vI 0)] ?_
 refine gn hK1 ?_
 refine ws fun K2 hK2 => ?_
 refine ws fun K3 hK3 => ?_
 refine wr [(0, 0), (1, 0)] ?_
 refine gb0 [0, 1] [(7, vI x0), (9, vI x0)] ?_
 refine gn hK3 ?_
 refine we_block ?_
 rcases hq2 : iter (fixed_Settle.r0 K x1 xg2_0 xg2_1 lg2_2) K x0 with _ | (_ | rr1)
 ·rw [hq2] at h; cases h
 ·rw [hq2] at h
  simp only [] at h
  refine we_iter (A := fixed_Settle.A0 w0 x1 bg2_0 bg2_1 bg2_2) (B := fixed_Settle.B0 w0) hq2 (fun a hF => ⟨hS, hF.weaken ea⟩) (fun s o hf a w hA Q hQ => fixed_Settle_r0 K w0 x0 x1 bg2_0 xg2_0 bg2_1 xg2_1 bg2_2 lg2_2 Ag2_2 cg2_2 hBg2_0 hBg2_1 hRg2_2 hLg2_2 hBg2_2 s o hf a w hA Q hQ) ?_
  rintro _ a w2 _ ⟨rfl, hS3, hF⟩
  replace hS3 : St w0 w2 [] := hS3
  refine hK2 [] w2 ?_ a hF
  refine ws fun K10 hK10 => ?_
  refine wr [(0, 0)] ?_
  refine gb0 [0] [(6, vI 0)] ?_
  refine gn hK10 ?_
  obtain rfl := si h
  exact we_ret (pr0 [.tmp 6] [vI 0] ⟨rfl, hS3⟩)
 ·rw [hq2] at h
  simp only [] at h
  refine we_iter (A := fixed_Settle.A0 w0 x1 bg2_0 bg2_1 bg2_2) (B := fixed_Settle.B0 w0) hq2 (fun a hF => ⟨hS, hF.weaken ea⟩) (fun s o hf a w hA Q hQ => fixed_Settle_r0 K w0 x0 x1 bg2_0 xg2_0 bg2_1 xg2_1 bg2_2 lg2_2 Ag2_2 cg2_2 hBg2_0 hBg2_1 hRg2_2 hLg2_2 hBg2_2 s o hf a w hA Q hQ) ?_
  rintro _ a w1 _ ⟨rfl, hb⟩
  obtain rfl := si h
  exact hb

/-! punctual/fixed.response -/
abbrev fixed_response.Post (w0 : World) (r : Int) (e : Ending) (w : World) : Prop := e = .returned (vI r) ∧ St w0 w []
def fixed_response.f (K : Nat) (x0 : STask) (l1 : List STask) (x2 : Int) : Option Int :=
 match fixed_Settle.f K (IntKind.i64.wrap (x0.C + x2)) (IntKind.i64.wrap (x0.D - x0.J)) x0 x2 l1 with
 | none => none
 | some r1 =>
  if r1 = 0 then
   some 0
  else
   some (IntKind.i64.wrap (r1 + x0.J))
theorem fixed_response_ok (K : Nat) (x0 : STask) (l1 : List STask) (A1 : Option Addr) (c1 : Nat) (x2 : Int) (w0 : World) (hR1 : RdL w0 A1 l1) (hL1 : l1.length ≤ c1) (r : Int) (h : fixed_response.f K x0 l1 x2 = some r) :
  Calls Tryd.prog 138 #[.agg #[.string x0.Name, vI x0.C, vI x0.T, vI x0.D, vI x0.J, vI x0.O, vI x0.P], .slice A1 l1.length c1, vI x2] w0 (fixed_response.Post w0 r) := by
 have hS := St.start w0
 unfold fixed_response.f at h
 refine calls_enter (n := 25) (args := [.agg #[.string x0.Name, vI x0.C, vI x0.T, vI x0.D, vI x0.J, vI x0.O, vI x0.P], .slice A1 l1.length c1, vI x2]) (fn := Tryd.f138) rfl rfl rfl rfl ?_
 show WE _ _ _ _ [(0, .agg #[.string x0.Name, vI x0.C, vI x0.T, vI x0.D, vI x0.J, vI x0.O, vI x0.P]), (1, .slice A1 l1.length c1), (2, vI x2)] _
 refine ws fun K1 hK1 => ?_
 refine wr [(0, 1), (1, 1), (2, 1), (3, 0)] ?_
 refine gw (some 3) (.cells #[.string x0.Name, vI x0.C, vI x0.T, vI x0.D, vI x0.J, vI x0.O, vI x0.P] 51) (fun b => pP b 0) hS fun b1 w1 hx1 hS1 => ?_
 refine gw (some 4) (.cells #[.slice A1 l1.length c1] 47) (fun b => pP b 0) hS1 fun b2 w2 hx2 hS2 => ?_
 refine gw (some 5) (.cells #[vI x2] 3) (fun b => pP b 0) hS2 fun b3 w3 hx3 hS3 => ?_
 refine gb0 [3] [(6, vI 0)] ?_
 refine gn hK1 ?_
 refine ws fun K2 hK2 => ?_
 refine wr [(0, 0), (1, 0), (2, 0), (3, 0), (4, 0), (5, 0), (6, 0), (7, 0), (8, 0), (9, 0), (10, 1), (11, 0)] ?_
 rcases hq1 : fixed_Settle.f K (IntKind.i64.wrap (x0.C + x2)) (IntKind.i64.wrap (x0.D - x0.J)) x0 x2 l1 with _ | r1
 ·rw [hq1] at h; cases h
 rw [hq1] at h
 simp only [] at h
 refine gb [0, 1, 2, 3, 4, 5, 6, 7, 8, 9] [(17, .func (.func 176) #[] #[pP b1 0, pP b3 0, pP b2 0]), (16, vI (IntKind.i64.wrap (x0.D - x0.J))), (15, vI x0.J), (14, pP b1 4), (13, vI x0.D), (12, pP b1 3), (11, vI (IntKind.i64.wrap (x0.C + x2))), (10, vI x2), (9, vI x0.C), (8, pP b1 1)] [.loaded ⟨b1, 1, none⟩ (vI x0.C), .loaded ⟨b3, 0, none⟩ (vI x2), .loaded ⟨b1, 3, none⟩ (vI x0.D), .loaded ⟨b1, 4, none⟩ (vI x0.J)] ⟨hS3.c 2, hS3.c 0, hS3.c 2, hS3.c 2, trivial⟩ ?_
 refine ge_call (d := some 18) (f := 142) (args := #[vI (IntKind.i64.wrap (x0.C + x2)), vI (IntKind.i64.wrap (x0.D - x0.J)), .func (.func 176) #[] #[pP b1 0, pP b3 0, pP b2 0]]) (by kernel_rfl) (fixed_Settle_ok K (IntKind.i64.wrap (x0.C + x2)) (IntKind.i64.wrap (x0.D - x0.J)) b1 x0 b3 x2 b2 l1 A1 c1 _ (hS3.globOf 2 rfl) (hS3.globOf 0 rfl) (hS3.rd hR1) hL1 (hS3.globOf 1 rfl) _ hq1) ?_
 rintro _ w4 ⟨rfl, hS4⟩
 refine ⟨_, rfl, hS4.below, ?_⟩
 have hS5 := hS3.call hS4
 refine gb0 [11] [(7, vI r1)] ?_
 refine gn hK2 ?_
 refine ws fun K3 hK3 => ?_
 refine ws fun K4 hK4 => ?_
 refine wr [(0, 0), (1, 0)] ?_
 refine gb0 [0, 1] [(20, .bool (r1 == 0)), (19, vI r1)] ?_
 refine gn hK4 ?_
 by_cases hc1 : r1 = 0
 ·rw [if_pos hc1] at h
  refine wk 20 (r1 == 0) true (beq_iff_eq.2 hc1) ?_
  refine we_true (by kernel_rfl) ?_
  refine ws fun K5 hK5 => ?_
  refine wr [(0, 0)] ?_
  refine gb0 [0] [(6, vI 0)] ?_
  refine gn hK5 ?_
  have hS6 := hS5.takeN 0
  obtain rfl := si h
  exact we_ret (pr0 [.tmp 6] [vI 0] ⟨rfl, hS6⟩)
 ·rw [if_neg hc1] at h
  refine wk 20 (r1 == 0) false (beq_eq_false_iff_ne.2 hc1) ?_
  refine we_false (by kernel_rfl) ?_
  refine we_skip fun a hF => hK3 _ _ ?_ a hF
  refine ws fun K6 hK6 => ?_
  refine wr [(0, 0), (1, 0), (2, 0), (3, 0), (4, 0)] ?_
  refine gb [0, 1, 2, 3, 4] [(6, vI (IntKind.i64.wrap (r1 + x0.J))), (24, vI (IntKind.i64.wrap (r1 + x0.J))), (23, vI x0.J), (22, pP b1 4), (21, vI r1)] [.loaded ⟨b1, 4, none⟩ (vI x0.J)] ⟨hS5.c 2, trivial⟩ ?_
  refine gn hK6 ?_
  have hS7 := hS5.takeN 0
  obtain rfl := si h
  exact we_ret (pr0 [.tmp 6] [vI (IntKind.i64.wrap (r1 + x0.J))] ⟨rfl, hS7⟩)

/-! punctual/fixed.Response -/
abbrev fixed_Response.Post (w0 : World) (r : Int × SFault) (e : Ending) (w : World) : Prop := e = .returned (.tuple #[vI r.1, .agg #[vI r.2.Code, vI r.2.At]]) ∧ St w0 w []
def fixed_Response.p0 (l0 : List STask) (x1 : Int) (x2 : Int) : Option (Bool ⊕ (Int × SFault)) :=
  if x1 < 0 then
   some (.inl true)
  else
   if x1 ≥ (l0.length : Int) then
    some (.inl true)
   else
    if x2 < 0 then
     some (.inl true)
    else
     some (.inl (decide (x2 > 10000)))
def fixed_Response.f (K : Nat) (l0 : List STask) (x1 : Int) (x2 : Int) : Option (Int × SFault) :=
 match fixed_check.f K l0 with
 | none => none
 | some r1 =>
  if r1.Code = 0 then
   match fixed_Response.p0 l0 x1 x2 with
   | none => none
   | some (.inl q2) =>
    if q2 = true then
     some (0, (⟨3, 0⟩ : SFault))
    else
     if 0 ≤ x1 then
      match l0[(x1).toNat]? with
      | none => none
      | some e1 =>
       match fixed_above.f K l0 x1 with
       | none => none
       | some r2 =>
        match fixed_response.f K e1 r2 x2 with
        | none => none
        | some r3 =>
         if r3 = 0 then
          some (0, (⟨13, x1⟩ : SFault))
         else
          some (r3, (⟨0, 0⟩ : SFault))
     else
      none
   | some (.inr rr1) =>
    some rr1
  else
   some (0, r1)
abbrev fixed_Response.A0 (w0 : World) (l0 : List STask) (A0 : Option Addr) (c0 : Nat) (x1 : Int) (x2 : Int) (b1 : Nat) : Bool → Act → World → Prop := fun (s : Bool) a w => St w0 w [Own.blk b1 (.cells #[vI 0, vI 0] 39 (0, 0))] ∧ Frm 48 a [(0, .slice A0 l0.length c0), (1, vI x1), (2, vI x2), (7, pP b1 0), (31, .bool s)]
abbrev fixed_Response.B0 (w0 : World) : (Int × SFault) → Exit → Act → World → Prop := Rets Tryd.prog Tryd.f79 (fixed_Response.Post w0)
theorem fixed_Response_p0 (K : Nat) (w0 : World) (l0 : List STask) (A0 : Option Addr) (c0 : Nat) (x1 : Int) (x2 : Int) (hR0 : RdL w0 A0 l0) (hL0 : l0.length ≤ c0) (b1 : Nat) (r1 : SFault) (b2 : Nat) (hc1 : r1.Code = 0) (o : Bool ⊕ (Int × SFault)) (h : fixed_Response.p0 l0 x1 x2 = some o) (w : World) (hS : St w0 w [Own.blk b2 (.cells #[vI r1.Code, vI r1.At] 39 (0, 0)), Own.blk b1 (.cells #[vI 0, vI 0] 39 (0, 0))]) (Q : Exit → Act → World → Prop) (hQ : ∀ x a w, Outs (fixed_Response.A0 w0 l0 A0 c0 x1 x2 b1) (fixed_Response.B0 w0) o x a w → Q x a w) : WE Tryd.prog 48 (subF Tryd.f79 [1, 1, 0, 0]) Q [(0, .slice A0 l0.length c0), (1, vI x1), (2, vI x2), (6, vI 0), (7, pP b1 0), (8, pP b2 0), (10, .slice A0 l0.length c0), (11, .agg #[vI r1.Code, vI r1.At]), (12, pP b2 0), (13, vI r1.Code), (14, .bool false)] w := by
 simp only [fixed_Response.p0] at h
 refine wr [(0, 0), (1, 0), (2, 0), (3, 0), (4, 0), (5, 0), (6, 0), (7, 0), (8, 0), (9, 0), (10, 0), (11, 0), (12, 0), (13, 0), (14, 0), (15, 0)] ?_
 refine gb0 [0, 1, 2] [(18, .bool (decide (x1 < 0))), (17, .bool (decide (x1 < 0))), (16, vI x1)] ?_
 by_cases hc2 : x1 < 0
 ·rw [if_pos hc2] at h
  refine gk 18 (decide (x1 < 0)) true (decide_eq_true hc2) ?_
  refine gb0 [3, 4, 5, 6, 7, 8, 9, 10, 11, 12, 13, 14, 15] [(31, .bool true), (30, undef), (29, undef), (28, .bool true), (27, .bool true), (26, undef), (25, undef), (24, .bool true), (23, .bool true), (22, undef), (21, undef), (20, undef), (19, undef)] ?_
  have hS7 := hS.bring 1 rfl
  have hS8 := hS7.takeN 1
  obtain rfl := si h
  exact ge_nil fun a hF => hQ _ _ _ (Outs.again ⟨hS8, hF.weaken ea⟩)
 ·rw [if_neg hc2] at h
  refine gk 18 (decide (x1 < 0)) false (decide_eq_false hc2) ?_
  refine gb0 [3, 4, 5, 6, 7, 8] [(24, .bool (decide (x1 ≥ (l0.length : Int)))), (23, .bool (decide (x1 ≥ (l0.length : Int)))), (22, .bool (decide (x1 ≥ (l0.length : Int)))), (21, vI (l0.length : Int)), (20, .slice A0 l0.length c0), (19, vI x1)] ?_
  by_cases hc3 : x1 ≥ (l0.length : Int)
  ·rw [if_pos hc3] at h
   refine gk 24 (decide (x1 ≥ (l0.length : Int))) true (decide_eq_true hc3) ?_
   refine gb0 [9, 10, 11, 12, 13, 14, 15] [(31, .bool true), (30, undef), (29, undef), (28, .bool true), (27, .bool true), (26, undef), (25, undef)] ?_
   have hS9 := hS.bring 1 rfl
   have hS10 := hS9.takeN 1
   obtain rfl := si h
   exact ge_nil fun a hF => hQ _ _ _ (Outs.again ⟨hS10, hF.weaken ea⟩)
  ·rw [if_neg hc3] at h
   refine gk 24 (decide (x1 ≥ (l0.length : Int))) false (decide_eq_false hc3) ?_
   refine gb0 [9, 10, 11, 12] [(28, .bool (decide (x2 < 0))), (27, .bool (decide (x2 < 0))), (26, .bool (decide (x2 < 0))), (25, vI x2)] ?_
   by_cases hc4 : x2 < 0
   ·rw [if_pos hc4] at h
    refine gk 28 (decide (x2 < 0)) true (decide_eq_true hc4) ?_
    refine gb0 [13, 14, 15] [(31, .bool true), (30, undef), (29, undef)] ?_
    have hS11 := hS.bring 1 rfl
    have hS12 := hS11.takeN 1
    obtain rfl := si h
    exact ge_nil fun a hF => hQ _ _ _ (Outs.again ⟨hS12, hF.weaken ea⟩)
   ·rw [if_neg hc4] at h
    refine gk 28 (decide (x2 < 0)) false (decide_eq_false hc4) ?_
    refine gb0 [13, 14, 15] [(31, .bool (decide (x2 > 10000))), (30, .bool (decide (x2 > 10000))), (29, vI x2)] ?_
    have hS13 := hS.bring 1 rfl
    have hS14 := hS13.takeN 1
    obtain rfl := si h
    exact ge_nil fun a hF => hQ _ _ _ (Outs.again ⟨hS14, hF.weaken ea⟩)
theorem fixed_Response_ok (K : Nat) (l0 : List STask) (A0 : Option Addr) (c0 : Nat) (x1 : Int) (x2 : Int) (w0 : World) (hR0 : RdL w0 A0 l0) (hL0 : l0.length ≤ c0) (r : Int × SFault) (h : fixed_Response.f K l0 x1 x2 = some r) :
  Calls Tryd.prog 79 #[.slice A0 l0.length c0, vI x1, vI x2] w0 (fixed_Response.Post w0 r) := by
 have hS := St.start w0
 unfold fixed_Response.f at h
 refine calls_enter (n := 48) (args := [.slice A0 l0.length c0, vI x1, vI x2]) (fn := Tryd.f79) rfl rfl rfl rfl ?_
 show WE _ _ _ _ [(0, .slice A0 l0.length c0), (1, vI x1), (2, vI x2)] _
 refine ws fun K1 hK1 => ?_
 refine wr [(0, 0), (1, 1)] ?_
 refine gb0 [0] [(6, vI 0)] ?_
 refine gw (some 7) (.cells #[vI 0, vI 0] 39) (fun b => pP b 0) hS fun b1 w1 hx1 hS1 => ?_
 refine gn hK1 ?_
 refine ws fun K2 hK2 => ?_
 refine ws fun K3 hK3 => ?_
 refine wr [(0, 0), (1, 1), (2, 1), (3, 2)] ?_
 rcases hq1 : fixed_check.f K l0 with _ | r1
 ·rw [hq1] at h; cases h
 rw [hq1] at h
 simp only [] at h
 refine gb0 [0] [(10, .slice A0 l0.length c0)] ?_
 refine ge_call (d := some 11) (f := 137) (args := #[.slice A0 l0.length c0]) (by kernel_rfl) (fixed_check_ok K l0 A0 c0 _ (hS1.rd hR0) hL0 _ hq1) ?_
 rintro _ w2 ⟨rfl, hS2⟩
 refine ⟨_, rfl, hS2.below, ?_⟩
 have hS3 := hS1.call hS2
 refine gw (some 8) (.cells #[vI 0, vI 0] 39) (fun b => pP b 0) hS3 fun b2 w3 hx2 hS4 => ?_
 refine gs b2 0 #[vI 0, vI 0] 39 [vI r1.Code, vI r1.At] hS4 fun w4 hS5 => ?_
 have hS6 : St w0 w4 [Own.blk b2 (.cells #[vI r1.Code, vI r1.At] 39 (0, 0)), Own.blk b1 (.cells #[vI 0, vI 0] 39 (0, 0))] := hS5
 refine gn hK3 ?_
 refine ws fun K4 hK4 => ?_
 refine wr [(0, 0), (1, 0), (2, 0)] ?_
 refine gb [0, 1, 2] [(14, .bool (r1.Code != 0)), (13, vI r1.Code), (12, pP b2 0)] [.loaded ⟨b2, 0, none⟩ (vI r1.Code)] ⟨hS6.c 0, trivial⟩ ?_
 refine gn hK4 ?_
 by_cases hc1 : r1.Code = 0
 ·rw [if_pos hc1] at h
  refine wk 14 (r1.Code != 0) false (bne_eq_false_iff_eq.2 hc1) ?_
  refine we_false (by kernel_rfl) ?_
  refine we_skip fun a hF => hK2 _ _ ?_ a hF
  refine ws fun K5 hK5 => ?_
  refine ws fun K6 hK6 => ?_
  rcases hq2 : fixed_Response.p0 l0 x1 x2 with _ | (q2 | rr1)
  ·rw [hq2] at h; cases h
  ·rw [hq2] at h
   simp only [] at h
   refine we_keep (e' := [(0, .slice A0 l0.length c0), (1, vI x1), (2, vI x2), (6, vI 0), (7, pP b1 0), (8, pP b2 0), (10, .slice A0 l0.length c0), (11, .agg #[vI r1.Code, vI r1.At]), (12, pP b2 0), (13, vI r1.Code), (14, .bool false)]) ea (fixed_Response_p0 K w0 l0 A0 c0 x1 x2 hR0 hL0 b1 r1 b2 hc1 _ hq2 _ hS6 _ ?_)
   rintro _ a w5 ⟨rfl, hS15, hF⟩
   replace hS15 : St w0 w5 [Own.blk b1 (.cells #[vI 0, vI 0] 39 (0, 0))] := hS15
   refine hK6 [(0, .slice A0 l0.length c0), (1, vI x1), (2, vI x2), (7, pP b1 0), (31, .bool q2)] w5 ?_ a hF
   by_cases hc5 : q2 = true
   ·rw [if_pos hc5] at h
    refine wk 31 q2 true hc5 ?_
    refine we_true (by kernel_rfl) ?_
    refine ws fun K7 hK7 => ?_
    refine wr [(0, 0), (1, 0), (2, 2)] ?_
    refine gb0 [0, 1] [(6, vI 0), (32, .agg #[vI 3, vI 0])] ?_
    refine gs b1 0 #[vI 0, vI 0] 39 [vI 3, vI 0] hS15 fun w6 hS16 => ?_
    have hS17 : St w0 w6 [Own.blk b1 (.cells #[vI 3, vI 0] 39 (0, 0))] := hS16
    refine gn hK7 ?_
    have hS18 := hS17.takeN 0
    obtain rfl := si h
    exact we_ret (pr [.tmp 6, .cell 7 39] [vI 0, .agg #[vI 3, vI 0]] [.loaded ⟨b1, 0, none⟩ (vI 3), .loaded ⟨b1, 1, none⟩ (vI 0)] ⟨hS17.c 0, hS17.c 0, trivial⟩ ⟨rfl, hS18⟩)
   ·rw [if_neg hc5] at h
    refine wk 31 q2 false (Bool.eq_false_iff.2 hc5) ?_
    refine we_false (by kernel_rfl) ?_
    refine we_skip fun a hF => hK5 _ _ ?_ a hF
    refine ws fun K8 hK8 => ?_
    refine we_draws (by kernel_rfl) [(0, 0), (1, 0), (2, 0), (3, 0), (4, 0), (5, 0), (7, 0), (6, 1), (8, 1), (9, 0)] (by kernel_rfl) ?_
    have hS19 := hS15.drew
    refine gb0 [0, 1] [(34, vI x1), (33, .slice A0 l0.length c0)] ?_
    by_cases hc6 : 0 ≤ x1
    ·rw [if_pos hc6] at h
     rcases hx3 : l0[(x1).toNat]? with _ | e1
     ·rw [hx3] at h; cases h
     rw [hx3] at h
     simp only [] at h
     refine gi 35 0 47 51 7 l0.length c0 (.tmp 33) (.tmp 34) A0 .i64 x1 ((x1).toNat) ((hS19.rd hR0).eqSome (pos_of_get hx3)) (Int.toNat_of_nonneg hc6).symm (lt_of_get hx3) ?_
     rcases hq3 : fixed_above.f K l0 x1 with _ | r2
     ·rw [hq3] at h; cases h
     rw [hq3] at h
     simp only [] at h
     refine gb [3, 4, 5, 7] [(40, vI x2), (38, vI x1), (37, .slice A0 l0.length c0), (36, .agg #[.string e1.Name, vI e1.C, vI e1.T, vI e1.D, vI e1.J, vI e1.O, vI e1.P])] [.loaded ⟨blkOf A0, offOf A0 + ((x1).toNat) * 7, none⟩ (.string e1.Name), .loaded ⟨blkOf A0, offOf A0 + ((x1).toNat) * 7 + 1, none⟩ (vI e1.C), .loaded ⟨blkOf A0, offOf A0 + ((x1).toNat) * 7 + 2, none⟩ (vI e1.T), .loaded ⟨blkOf A0, offOf A0 + ((x1).toNat) * 7 + 3, none⟩ (vI e1.D), .loaded ⟨blkOf A0, offOf A0 + ((x1).toNat) * 7 + 4, none⟩ (vI e1.J), .loaded ⟨blkOf A0, offOf A0 + ((x1).toNat) * 7 + 5, none⟩ (vI e1.O), .loaded ⟨blkOf A0, offOf A0 + ((x1).toNat) * 7 + 6, none⟩ (vI e1.P)] ⟨RdL.cell (j := 0) (hS19.rd hR0) hx3 rfl, RdL.cell (j := 1) (hS19.rd hR0) hx3 rfl, RdL.cell (j := 2) (hS19.rd hR0) hx3 rfl, RdL.cell (j := 3) (hS19.rd hR0) hx3 rfl, RdL.cell (j := 4) (hS19.rd hR0) hx3 rfl, RdL.cell (j := 5) (hS19.rd hR0) hx3 rfl, RdL.cell (j := 6) (hS19.rd hR0) hx3 rfl, trivial⟩ ?_
     refine ge_call (d := some 39) (f := 139) (args := #[.slice A0 l0.length c0, vI x1]) (by kernel_rfl) (fixed_above_ok K l0 A0 c0 x1 _ (hS19.rd hR0) hL0 _ hq3) ?_
     rintro _ w7 ⟨v1, rfl, hS20⟩
     refine ⟨_, rfl, hS20.below, ?_⟩
     have hS21 := hS19.call hS20
     obtain ⟨Z1, cz1, rfl⟩ := hS21.open 0 rfl
     rcases hq4 : fixed_response.f K e1 r2 x2 with _ | r3
     ·rw [hq4] at h; cases h
     rw [hq4] at h
     simp only [] at h
     refine ge_call (d := some 41) (f := 138) (args := #[.agg #[.string e1.Name, vI e1.C, vI e1.T, vI e1.D, vI e1.J, vI e1.O, vI e1.P], (.slice Z1 r2.length cz1), vI x2]) (by kernel_rfl) (fixed_response_ok K e1 r2 Z1 cz1 x2 _ (hS21.rdAt 0 rfl) (hS21.capAt 0 rfl) _ hq4) ?_
     rintro _ w8 ⟨rfl, hS22⟩
     refine ⟨_, rfl, hS22.below, ?_⟩
     have hS23 := hS21.call hS22
     refine gb0 [9] [(9, vI r3)] ?_
     refine gn hK8 ?_
     refine ws fun K9 hK9 => ?_
     refine ws fun K10 hK10 => ?_
     refine wr [(0, 0), (1, 0)] ?_
     refine gb0 [0, 1] [(43, .bool (r3 == 0)), (42, vI r3)] ?_
     refine gn hK10 ?_
     by_cases hc7 : r3 = 0
     ·rw [if_pos hc7] at h
      refine wk 43 (r3 == 0) true (beq_iff_eq.2 hc7) ?_
      refine we_true (by kernel_rfl) ?_
      refine ws fun K11 hK11 => ?_
      refine wr [(0, 0), (1, 0), (2, 0), (3, 2)] ?_
      refine gb0 [0, 1, 2] [(6, vI 0), (45, .agg #[vI 13, vI x1]), (44, vI x1)] ?_
      have hS24 := hS23.bring 1 rfl
      refine gs b1 0 #[vI 0, vI 0] 39 [vI 13, vI x1] hS24 fun w9 hS25 => ?_
      have hS26 : St w0 w9 [Own.blk b1 (.cells #[vI 13, vI x1] 39 (0, 0)), Own.of (.slice Z1 r2.length cz1) 51 r2] := hS25
      refine gn hK11 ?_
      have hS27 := hS26.takeN 0
      obtain rfl := si h
      exact we_ret (pr [.tmp 6, .cell 7 39] [vI 0, .agg #[vI 13, vI x1]] [.loaded ⟨b1, 0, none⟩ (vI 13), .loaded ⟨b1, 1, none⟩ (vI x1)] ⟨hS26.c 0, hS26.c 0, trivial⟩ ⟨rfl, hS27⟩)
     ·rw [if_neg hc7] at h
      refine wk 43 (r3 == 0) false (beq_eq_false_iff_ne.2 hc7) ?_
      refine we_false (by kernel_rfl) ?_
      refine we_skip fun a hF => hK9 _ _ ?_ a hF
      refine ws fun K12 hK12 => ?_
      refine wr [(0, 0), (1, 0), (2, 0), (3, 2)] ?_
      refine gb0 [0, 1, 2] [(6, vI r3), (47, .agg #[vI 0, vI 0]), (46, vI r3)] ?_
      have hS28 := hS23.bring 1 rfl
      refine gs b1 0 #[vI 0, vI 0] 39 [vI 0, vI 0] hS28 fun w10 hS29 => ?_
      have hS30 : St w0 w10 [Own.blk b1 (.cells #[vI 0, vI 0] 39 (0, 0)), Own.of (.slice Z1 r2.length cz1) 51 r2] := hS29
      refine gn hK12 ?_
      have hS31 := hS30.takeN 0
      obtain rfl := si h
      exact we_ret (pr [.tmp 6, .cell 7 39] [vI r3, .agg #[vI 0, vI 0]] [.loaded ⟨b1, 0, none⟩ (vI 0), .loaded ⟨b1, 1, none⟩ (vI 0)] ⟨hS30.c 0, hS30.c 0, trivial⟩ ⟨rfl, hS31⟩)
    ·rw [if_neg hc6] at h
     cases h
  ·rw [hq2] at h
   simp only [] at h
   refine we_keep (e' := [(0, .slice A0 l0.length c0), (1, vI x1), (2, vI x2), (6, vI 0), (7, pP b1 0), (8, pP b2 0), (10, .slice A0 l0.length c0), (11, .agg #[vI r1.Code, vI r1.At]), (12, pP b2 0), (13, vI r1.Code), (14, .bool false)]) ea (fixed_Response_p0 K w0 l0 A0 c0 x1 x2 hR0 hL0 b1 r1 b2 hc1 _ hq2 _ hS6 _ ?_)
   rintro _ a w1 ⟨_, rfl, hb⟩
   obtain rfl := si h
   exact hb
 ·rw [if_neg hc1] at h
  refine wk 14 (r1.Code != 0) true (bne_iff_ne.2 hc1) ?_
  refine we_true (by kernel_rfl) ?_
  refine ws fun K13 hK13 => ?_
  refine we_draws (by kernel_rfl) [(0, 0), (1, 0), (2, 2)] (by kernel_rfl) ?_
  have hS32 := hS6.drew
  refine gb [0, 1] [(6, vI 0), (15, .agg #[vI r1.Code, vI r1.At])] [.loaded ⟨b2, 0, none⟩ (vI r1.Code), .loaded ⟨b2, 1, none⟩ (vI r1.At)] ⟨hS32.c 0, hS32.c 0, trivial⟩ ?_
  have hS33 := hS32.bring 1 rfl
  refine gs b1 0 #[vI 0, vI 0] 39 [vI r1.Code, vI r1.At] hS33 fun w11 hS34 => ?_
  have hS35 : St w0 w11 [Own.blk b1 (.cells #[vI r1.Code, vI r1.At] 39 (0, 0)), Own.blk b2 (.cells #[vI r1.Code, vI r1.At] 39 (0, 0))] := hS34
  refine gn hK13 ?_
  have hS36 := hS35.takeN 0
  obtain rfl := si h
  exact we_ret (pr [.tmp 6, .cell 7 39] [vI 0, .agg #[vI r1.Code, vI r1.At]] [.loaded ⟨b1, 0, none⟩ (vI r1.Code), .loaded ⟨b1, 1, none⟩ (vI r1.At)] ⟨hS35.c 0, hS35.c 0, trivial⟩ ⟨rfl, hS36⟩)

/-! punctual/modes.ceil -/
abbrev modes_ceil.Post (w0 : World) (r : Int) (e : Ending) (w : World) : Prop := e = .returned (vI r) ∧ St w0 w []
def modes_ceil.f (x0 : Int) (x1 : Int) : Option Int :=
 if x1 = 0 then
  none
 else
  some (IntKind.i64.wrap (Int.tdiv (IntKind.i64.wrap ((IntKind.i64.wrap (x0 + x1)) - 1)) x1))
theorem modes_ceil_ok (x0 : Int) (x1 : Int) (w0 : World) (r : Int) (h : modes_ceil.f x0 x1 = some r) :
  Calls Tryd.prog 81 #[vI x0, vI x1] w0 (modes_ceil.Post w0 r) := by
 have hS := St.start w0
 unfold modes_ceil.f at h
 refine calls_enter (n := 11) (args := [vI x0, vI x1]) (fn := Tryd.f81) rfl rfl rfl rfl ?_
 show WE _ _ _ _ [(0, vI x0), (1, vI x1)] _
 refine ws fun K1 hK1 => ?_
 refine wr [(0, 0)] ?_
 refine gb0 [0] [(4, vI 0)] ?_
 refine gn hK1 ?_
 refine ws fun K2 hK2 => ?_
 refine wr [(0, 0), (1, 0), (2, 0), (3, 0), (4, 0), (5, 0), (6, 0)] ?_
 refine gb0 [0, 1, 2, 3, 4] [(9, vI x1), (8, vI (IntKind.i64.wrap ((IntKind.i64.wrap (x0 + x1)) - 1))), (7, vI (IntKind.i64.wrap (x0 + x1))), (6, vI x1), (5, vI x0)] ?_
 by_cases hc1 : x1 = 0
 ·rw [if_pos hc1] at h
  cases h
 ·rw [if_neg hc1] at h
  refine ge_div (d := 10) (ty := 3) (op := .quo) (x := (.tmp 8)) (y := (.tmp 9)) (t := 3) (t2 := 3) (k := .i64) (p := (IntKind.i64.wrap ((IntKind.i64.wrap (x0 + x1)) - 1))) (q := x1) (v := vI (IntKind.i64.wrap (Int.tdiv (IntKind.i64.wrap ((IntKind.i64.wrap (x0 + x1)) - 1)) x1))) (by kernel_rfl) (by kernel_rfl) (by kernel_rfl) hc1 rfl ?_
  refine gb0 [6] [(4, vI (IntKind.i64.wrap (Int.tdiv (IntKind.i64.wrap ((IntKind.i64.wrap (x0 + x1)) - 1)) x1)))] ?_
  refine gn hK2 ?_
  obtain rfl := si h
  exact we_ret (pr0 [.tmp 4] [vI (IntKind.i64.wrap (Int.tdiv (IntKind.i64.wrap ((IntKind.i64.wrap (x0 + x1)) - 1)) x1))] ⟨rfl, hS⟩)

/-! punctual/modes.Within -/
abbrev modes_Within.Post (w0 : World) (r : Int × SFault) (e : Ending) (w : World) : Prop := e = .returned (.tuple #[vI r.1, .agg #[vI r.2.Code, vI r.2.At]]) ∧ St w0 w []
def modes_Within.r1 (l0 : List STask) (x1 : Int) (e1 : STask) (z1 : Int) : Int × Nat → Option ((Int × Nat) ⊕ (Int ⊕ (Int × SFault)))
 | (z2, i1) =>
  if (i1 : Int) < (l0.length : Int) then
   match l0[i1]? with
   | none => none
   | some e2 =>
    if (i1 : Int) = x1 then
     some (.inl (z2, (i1 + 1)))
    else
     if e2.P ≥ e1.P then
      match modes_ceil.f (IntKind.i64.wrap (z1 + e2.J)) e2.T with
      | none => none
      | some r3 =>
       some (.inl (IntKind.i64.wrap (z2 + (IntKind.i64.wrap (r3 * e2.C))), (i1 + 1)))
     else
      some (.inl (z2, (i1 + 1)))
  else
   some (.inr (.inl z2))
def modes_Within.r0 (K : Nat) (l0 : List STask) (x1 : Int) (x2 : Int) (l3 : List SWindow) (r1 : Int × SFault) (e1 : STask) : Int → Option (Int ⊕ (Unit ⊕ (Int × SFault)))
 | z1 =>
  if z1 ≤ (IntKind.i64.wrap (e1.D - e1.J)) then
   match iter (modes_Within.r1 l0 x1 e1 z1) K (e1.C, 0) with
   | none => none
   | some (.inl z4) =>
    match modes_least.f K x2 l3 z1 with
    | none => none
    | some r4 =>
     if r4 ≥ z4 then
      some (.inr (.inr (IntKind.i64.wrap (z1 + e1.J), (⟨0, 0⟩ : SFault))))
     else
      some (.inl (IntKind.i64.wrap (z1 + 1)))
   | some (.inr rr1) =>
    some (.inr (.inr rr1))
  else
   some (.inr (.inl ()))
def modes_Within.f (K : Nat) (l0 : List STask) (x1 : Int) (x2 : Int) (l3 : List SWindow) : Option (Int × SFault) :=
 match fixed_Response.f K l0 x1 0 with
 | none => none
 | some r1 =>
  if r1.2.Code = 0 then
   match modes_Frame.f K x2 l3 with
   | none => none
   | some r2 =>
    if r2.Code = 0 then
     if 0 ≤ x1 then
      match l0[(x1).toNat]? with
      | none => none
      | some e1 =>
       match iter (modes_Within.r0 K l0 x1 x2 l3 r1 e1) K e1.C with
       | none => none
       | some (.inl _) =>
        some (0, (⟨13, x1⟩ : SFault))
       | some (.inr rr2) =>
        some rr2
     else
      none
    else
     some (0, r2)
  else
   some (0, r1.2)
abbrev modes_Within.A1 (w0 : World) (l0 : List STask) (A0 : Option Addr) (c0 : Nat) (x1 : Int) (x2 : Int) (l3 : List SWindow) (A3 : Option Addr) (c3 : Nat) (b1 : Nat) (e1 : STask) (b4 : Nat) (z1 : Int) : (Int × Nat) → Act → World → Prop := fun (s : Int × Nat) a w => St w0 w [Own.blk b4 (.cells #[.string e1.Name, vI e1.C, vI e1.T, vI e1.D, vI e1.J, vI e1.O, vI e1.P] 51 (0, 0)), Own.blk b1 (.cells #[vI 0, vI 0] 39 (0, 0))] ∧ Frm 95 a [(0, .slice A0 l0.length c0), (1, vI x1), (2, vI x2), (3, .slice A3 l3.length c3), (9, pP b1 0), (13, pP b4 0), (14, vI z1), (15, vI s.1), (52, .slice A0 l0.length c0), (53, vI (l0.length : Int)), (54, vI (s.2 : Int))]
abbrev modes_Within.B1 (w0 : World) (l0 : List STask) (A0 : Option Addr) (c0 : Nat) (x1 : Int) (x2 : Int) (l3 : List SWindow) (A3 : Option Addr) (c3 : Nat) (b1 : Nat) (e1 : STask) (b4 : Nat) (z1 : Int) : (Int ⊕ (Int × SFault)) → Exit → Act → World → Prop := Exits 2 (fun (s : Int) a w => St w0 w [Own.blk b4 (.cells #[.string e1.Name, vI e1.C, vI e1.T, vI e1.D, vI e1.J, vI e1.O, vI e1.P] 51 (0, 0)), Own.blk b1 (.cells #[vI 0, vI 0] 39 (0, 0))] ∧ Frm 95 a [(0, .slice A0 l0.length c0), (1, vI x1), (2, vI x2), (3, .slice A3 l3.length c3), (9, pP b1 0), (13, pP b4 0), (14, vI z1), (15, vI s)]) (Rets Tryd.prog Tryd.f26 (modes_Within.Post w0))
theorem modes_Within_r1 (K : Nat) (w0 : World) (l0 : List STask) (A0 : Option Addr) (c0 : Nat) (x1 : Int) (x2 : Int) (l3 : List SWindow) (A3 : Option Addr) (c3 : Nat) (hR0 : RdL w0 A0 l0) (hL0 : l0.length ≤ c0) (hR3 : RdL w0 A3 l3) (hL3 : l3.length ≤ c3) (b1 : Nat) (r1 : Int × SFault) (b2 : Nat) (hc1 : r1.2.Code = 0) (r2 : SFault) (b3 : Nat) (hc2 : r2.Code = 0) (hc3 : 0 ≤ x1) (e1 : STask) (hx4 : l0[(x1).toNat]? = some e1) (b4 : Nat) (z1 : Int) (hc4 : z1 ≤ (IntKind.i64.wrap (e1.D - e1.J))) (s : Int × Nat) (o : (Int × Nat) ⊕ (Int ⊕ (Int × SFault))) (h : modes_Within.r1 l0 x1 e1 z1 s = some o) (a : Act) (w : World) (hA : modes_Within.A1 w0 l0 A0 c0 x1 x2 l3 A3 c3 b1 e1 b4 z1 s a w) (Q : Exit → Act → World → Prop) (hQ : ∀ x a w, Outs (modes_Within.A1 w0 l0 A0 c0 x1 x2 l3 A3 c3 b1 e1 b4 z1) (modes_Within.B1 w0 l0 A0 c0 x1 x2 l3 A3 c3 b1 e1 b4 z1) o x a w → Q x a w) : (subF Tryd.f26 [1, 1, 1, 1, 0, 1, 0, 0, 1, 0, 0, 1, 0, 1, 0, 0]).wp Tryd.prog Q a w := by
 obtain ⟨z2, i1⟩ := s
 obtain ⟨hS, hF⟩ := hA
 replace hS : St w0 w [Own.blk b4 (.cells #[.string e1.Name, vI e1.C, vI e1.T, vI e1.D, vI e1.J, vI e1.O, vI e1.P] 51 (0, 0)), Own.blk b1 (.cells #[vI 0, vI 0] 39 (0, 0))] := hS
 simp only [modes_Within.r1] at h
 refine (?_ : WE Tryd.prog 95 (subF Tryd.f26 [1, 1, 1, 1, 0, 1, 0, 0, 1, 0, 0, 1, 0, 1, 0, 0]) Q [(0, .slice A0 l0.length c0), (1, vI x1), (2, vI x2), (3, .slice A3 l3.length c3), (9, pP b1 0), (13, pP b4 0), (14, vI z1), (15, vI z2), (52, .slice A0 l0.length c0), (53, vI (l0.length : Int)), (54, vI (i1 : Int))] w) a hF
 clear hF a
 refine ws fun K17 hK17 => ?_
 refine wr [(0, 0)] ?_
 refine gb0 [0] [(55, .bool (decide ((i1 : Int) < (l0.length : Int))))] ?_
 refine gn hK17 ?_
 refine ws fun K18 hK18 => ?_
 by_cases hc5 : (i1 : Int) < (l0.length : Int)
 ·rw [if_pos hc5] at h
  refine wk 55 (decide ((i1 : Int) < (l0.length : Int))) true (decide_eq_true hc5) ?_
  refine we_true (by kernel_rfl) ?_
  refine we_skip fun a hF => hK18 _ _ ?_ a hF
  refine ws fun K19 hK19 => ?_
  refine we_block ?_
  refine ws fun K20 hK20 => ?_
  refine wr [(0, 0), (1, 0), (2, 0), (3, 1), (4, 0), (5, 2)] ?_
  refine gb0 [0] [(56, vI (i1 : Int))] ?_
  rcases hx6 : l0[i1]? with _ | e2
  ·rw [hx6] at h; cases h
  rw [hx6] at h
  simp only [] at h
  refine gi 57 0 47 51 7 l0.length c0 (.tmp 52) (.tmp 54) A0 .i64 (i1 : Int) i1 ((hS.rd hR0).eqSome (pos_of_get hx6)) rfl (lt_of_get hx6) ?_
  refine gb [2] [(58, .agg #[.string e2.Name, vI e2.C, vI e2.T, vI e2.D, vI e2.J, vI e2.O, vI e2.P])] [.loaded ⟨blkOf A0, offOf A0 + i1 * 7, none⟩ (.string e2.Name), .loaded ⟨blkOf A0, offOf A0 + i1 * 7 + 1, none⟩ (vI e2.C), .loaded ⟨blkOf A0, offOf A0 + i1 * 7 + 2, none⟩ (vI e2.T), .loaded ⟨blkOf A0, offOf A0 + i1 * 7 + 3, none⟩ (vI e2.D), .loaded ⟨blkOf A0, offOf A0 + i1 * 7 + 4, none⟩ (vI e2.J), .loaded ⟨blkOf A0, offOf A0 + i1 * 7 + 5, none⟩ (vI e2.O), .loaded ⟨blkOf A0, offOf A0 + i1 * 7 + 6, none⟩ (vI e2.P)] ⟨RdL.cell (j := 0) (hS.rd hR0) hx6 rfl, RdL.cell (j := 1) (hS.rd hR0) hx6 rfl, RdL.cell (j := 2) (hS.rd hR0) hx6 rfl, RdL.cell (j := 3) (hS.rd hR0) hx6 rfl, RdL.cell (j := 4) (hS.rd hR0) hx6 rfl, RdL.cell (j := 5) (hS.rd hR0) hx6 rfl, RdL.cell (j := 6) (hS.rd hR0) hx6 rfl, trivial⟩ ?_
  refine gw (some 17) (.cells #[.string (⟨#[]⟩), vI 0, vI 0, vI 0, vI 0, vI 0, vI 0] 51) (fun b => pP b 0) hS fun b5 w10 hx7 hS20 => ?_
  refine gb0 [4] [(16, vI (i1 : Int))] ?_
  refine gs b5 0 #[.string (⟨#[]⟩), vI 0, vI 0, vI 0, vI 0, vI 0, vI 0] 51 [.string e2.Name, vI e2.C, vI e2.T, vI e2.D, vI e2.J, vI e2.O, vI e2.P] hS20 fun w11 hS21 => ?_
  have hS22 : St w0 w11 [Own.blk b5 (.cells #[.string e2.Name, vI e2.C, vI e2.T, vI e2.D, vI e2.J, vI e2.O, vI e2.P] 51 (0, 0)), Own.blk b4 (.cells #[.string e1.Name, vI e1.C, vI e1.T, vI e1.D, vI e1.J, vI e1.O, vI e1.P] 51 (0, 0)), Own.blk b1 (.cells #[vI 0, vI 0] 39 (0, 0))] := hS21
  refine gn hK20 ?_
  refine ws fun K21 hK21 => ?_
  refine wr [(0, 0), (1, 0), (2, 0), (3, 0), (4, 0), (5, 0), (6, 0), (7, 0), (8, 0), (9, 0)] ?_
  refine gb0 [0, 1, 2, 3] [(62, .bool ((i1 : Int) != x1)), (61, .bool ((i1 : Int) != x1)), (60, vI x1), (59, vI (i1 : Int))] ?_
  by_cases hc6 : (i1 : Int) = x1
  ·rw [if_pos hc6] at h
   refine gk 62 ((i1 : Int) != x1) false (bne_eq_false_iff_eq.2 hc6) ?_
   refine gb0 [4, 5, 6, 7, 8, 9] [(68, .bool false), (67, undef), (66, undef), (65, undef), (64, undef), (63, undef)] ?_
   refine gn hK21 ?_
   refine we_false (by kernel_rfl) ?_
   refine we_skip fun a hF => hK19 _ _ ?_ a hF
   refine wr [(0, 0), (1, 0)] ?_
   refine ge_addn (d := 81) (ty := 3) (x := (.tmp 54)) (y := (.const (vI 1))) (t := 3) (t2 := 3) (k := .i64) (m := i1) (by kernel_rfl) (by kernel_rfl) (by kernel_rfl) (by have h0 := hR0.small; omega) ?_
   refine gb0 [1] [(54, vI ((i1 + 1 : Nat) : Int))] ?_
   have hS23 := hS22.bring 2 rfl
   have hS24 := hS23.bring 2 rfl
   have hS25 := hS24.takeN 2
   obtain rfl := si h
   exact ge_nil fun a hF => hQ _ _ _ (Outs.again ⟨hS25, hF.weaken ea⟩)
  ·rw [if_neg hc6] at h
   refine gk 62 ((i1 : Int) != x1) true (bne_iff_ne.2 hc6) ?_
   refine gb [4, 5, 6, 7, 8, 9] [(68, .bool (decide (e2.P ≥ e1.P))), (67, .bool (decide (e2.P ≥ e1.P))), (66, vI e1.P), (65, pP b4 6), (64, vI e2.P), (63, pP b5 6)] [.loaded ⟨b5, 6, none⟩ (vI e2.P), .loaded ⟨b4, 6, none⟩ (vI e1.P)] ⟨hS22.c 0, hS22.c 1, trivial⟩ ?_
   refine gn hK21 ?_
   by_cases hc7 : e2.P ≥ e1.P
   ·rw [if_pos hc7] at h
    refine wk 68 (decide (e2.P ≥ e1.P)) true (decide_eq_true hc7) ?_
    refine we_true (by kernel_rfl) ?_
    refine we_draws (by kernel_rfl) [(0, 0), (1, 0), (2, 0), (3, 0), (4, 0), (5, 0), (6, 0), (8, 0), (9, 0), (7, 1), (10, 0), (11, 0), (12, 0)] (by kernel_rfl) ?_
    have hS26 := hS22.drew
    rcases hq3 : modes_ceil.f (IntKind.i64.wrap (z1 + e2.J)) e2.T with _ | r3
    ·rw [hq3] at h; cases h
    rw [hq3] at h
    simp only [] at h
    refine gb [0, 1, 2, 3, 4, 5, 6, 8, 9] [(78, vI e2.C), (77, pP b5 1), (75, vI e2.T), (74, pP b5 2), (73, vI (IntKind.i64.wrap (z1 + e2.J))), (72, vI e2.J), (71, pP b5 4), (70, vI z1), (69, vI z2)] [.loaded ⟨b5, 4, none⟩ (vI e2.J), .loaded ⟨b5, 2, none⟩ (vI e2.T), .loaded ⟨b5, 1, none⟩ (vI e2.C)] ⟨hS26.c 0, hS26.c 0, hS26.c 0, trivial⟩ ?_
    refine ge_call (d := some 76) (f := 81) (args := #[vI (IntKind.i64.wrap (z1 + e2.J)), vI e2.T]) (by kernel_rfl) (modes_ceil_ok (IntKind.i64.wrap (z1 + e2.J)) e2.T _ _ hq3) ?_
    rintro _ w12 ⟨rfl, hS27⟩
    refine ⟨_, rfl, hS27.below, ?_⟩
    have hS28 := hS26.call hS27
    refine gb0 [10, 11, 12] [(15, vI (IntKind.i64.wrap (z2 + (IntKind.i64.wrap (r3 * e2.C))))), (80, vI (IntKind.i64.wrap (z2 + (IntKind.i64.wrap (r3 * e2.C))))), (79, vI (IntKind.i64.wrap (r3 * e2.C)))] ?_
    refine gn hK19 ?_
    refine wr [(0, 0), (1, 0)] ?_
    refine ge_addn (d := 81) (ty := 3) (x := (.tmp 54)) (y := (.const (vI 1))) (t := 3) (t2 := 3) (k := .i64) (m := i1) (by kernel_rfl) (by kernel_rfl) (by kernel_rfl) (by have h0 := hR0.small; omega) ?_
    refine gb0 [1] [(54, vI ((i1 + 1 : Nat) : Int))] ?_
    have hS29 := hS28.bring 2 rfl
    have hS30 := hS29.bring 2 rfl
    have hS31 := hS30.takeN 2
    obtain rfl := si h
    exact ge_nil fun a hF => hQ _ _ _ (Outs.again ⟨hS31, hF.weaken ea⟩)
   ·rw [if_neg hc7] at h
    refine wk 68 (decide (e2.P ≥ e1.P)) false (decide_eq_false hc7) ?_
    refine we_false (by kernel_rfl) ?_
    refine we_skip fun a hF => hK19 _ _ ?_ a hF
    refine wr [(0, 0), (1, 0)] ?_
    refine ge_addn (d := 81) (ty := 3) (x := (.tmp 54)) (y := (.const (vI 1))) (t := 3) (t2 := 3) (k := .i64) (m := i1) (by kernel_rfl) (by kernel_rfl) (by kernel_rfl) (by have h0 := hR0.small; omega) ?_
    refine gb0 [1] [(54, vI ((i1 + 1 : Nat) : Int))] ?_
    have hS32 := hS22.bring 2 rfl
    have hS33 := hS32.bring 2 rfl
    have hS34 := hS33.takeN 2
    obtain rfl := si h
    exact ge_nil fun a hF => hQ _ _ _ (Outs.again ⟨hS34, hF.weaken ea⟩)
 ·rw [if_neg hc5] at h
  refine wk 55 (decide ((i1 : Int) < (l0.length : Int))) false (decide_eq_false hc5) ?_
  refine we_false (by kernel_rfl) ?_
  have hS35 := hS.bring 1 rfl
  have hS36 := hS35.bring 1 rfl
  obtain rfl := si h
  exact we_exit fun a hF => hQ _ _ _ (Outs.out nofun (Exits.here ⟨hS36, hF.weaken ea⟩))
abbrev modes_Within.A0 (w0 : World) (l0 : List STask) (A0 : Option Addr) (c0 : Nat) (x1 : Int) (x2 : Int) (l3 : List SWindow) (A3 : Option Addr) (c3 : Nat) (b1 : Nat) (e1 : STask) (b4 : Nat) : Int → Act → World → Prop := fun (s : Int) a w => St w0 w [Own.blk b4 (.cells #[.string e1.Name, vI e1.C, vI e1.T, vI e1.D, vI e1.J, vI e1.O, vI e1.P] 51 (0, 0)), Own.blk b1 (.cells #[vI 0, vI 0] 39 (0, 0))] ∧ Frm 95 a [(0, .slice A0 l0.length c0), (1, vI x1), (2, vI x2), (3, .slice A3 l3.length c3), (9, pP b1 0), (13, pP b4 0), (14, vI s)]
abbrev modes_Within.B0 (w0 : World) (x1 : Int) (b1 : Nat) : (Unit ⊕ (Int × SFault)) → Exit → Act → World → Prop := Exits 0 (fun (s : Unit) a w => St w0 w [Own.blk b1 (.cells #[vI 0, vI 0] 39 (0, 0))] ∧ Frm 95 a [(1, vI x1), (9, pP b1 0)]) (Rets Tryd.prog Tryd.f26 (modes_Within.Post w0))
theorem modes_Within_r0 (K : Nat) (w0 : World) (l0 : List STask) (A0 : Option Addr) (c0 : Nat) (x1 : Int) (x2 : Int) (l3 : List SWindow) (A3 : Option Addr) (c3 : Nat) (hR0 : RdL w0 A0 l0) (hL0 : l0.length ≤ c0) (hR3 : RdL w0 A3 l3) (hL3 : l3.length ≤ c3) (b1 : Nat) (r1 : Int × SFault) (b2 : Nat) (hc1 : r1.2.Code = 0) (r2 : SFault) (b3 : Nat) (hc2 : r2.Code = 0) (hc3 : 0 ≤ x1) (e1 : STask) (hx4 : l0[(x1).toNat]? = some e1) (b4 : Nat) (s : Int) (o : Int ⊕ (Unit ⊕ (Int × SFault))) (h : modes_Within.r0 K l0 x1 x2 l3 r1 e1 s = some o) (a : Act) (w : World) (hA : modes_Within.A0 w0 l0 A0 c0 x1 x2 l3 A3 c3 b1 e1 b4 s a w) (Q : Exit → Act → World → Prop) (hQ : ∀ x a w, Outs (modes_Within.A0 w0 l0 A0 c0 x1 x2 l3 A3 c3 b1 e1 b4) (modes_Within.B0 w0 x1 b1) o x a w → Q x a w) : (subF Tryd.f26 [1, 1, 1, 1, 0, 1, 0, 0]).wp Tryd.prog Q a w := by
 obtain ⟨z1, hs⟩ : ∃ z, z = s := ⟨s, rfl⟩
 subst hs
 obtain ⟨hS, hF⟩ := hA
 replace hS : St w0 w [Own.blk b4 (.cells #[.string e1.Name, vI e1.C, vI e1.T, vI e1.D, vI e1.J, vI e1.O, vI e1.P] 51 (0, 0)), Own.blk b1 (.cells #[vI 0, vI 0] 39 (0, 0))] := hS
 simp only [modes_Within.r0] at h
 refine (?_ : WE Tryd.prog 95 (subF Tryd.f26 [1, 1, 1, 1, 0, 1, 0, 0]) Q [(0, .slice A0 l0.length c0), (1, vI x1), (2, vI x2), (3, .slice A3 l3.length c3), (9, pP b1 0), (13, pP b4 0), (14, vI z1)] w) a hF
 clear hF a
 refine ws fun K11 hK11 => ?_
 refine ws fun K12 hK12 => ?_
 refine wr [(0, 0), (1, 0), (2, 0), (3, 0), (4, 0), (5, 0), (6, 0)] ?_
 refine gb [0, 1, 2, 3, 4, 5, 6] [(47, .bool (decide (z1 ≤ (IntKind.i64.wrap (e1.D - e1.J))))), (46, vI (IntKind.i64.wrap (e1.D - e1.J))), (45, vI e1.J), (44, pP b4 4), (43, vI e1.D), (42, pP b4 3), (41, vI z1)] [.loaded ⟨b4, 3, none⟩ (vI e1.D), .loaded ⟨b4, 4, none⟩ (vI e1.J)] ⟨hS.c 0, hS.c 0, trivial⟩ ?_
 refine gn hK12 ?_
 by_cases hc4 : z1 ≤ (IntKind.i64.wrap (e1.D - e1.J))
 ·rw [if_pos hc4] at h
  refine wk 47 (decide (z1 ≤ (IntKind.i64.wrap (e1.D - e1.J)))) true (decide_eq_true hc4) ?_
  refine we_true (by kernel_rfl) ?_
  refine we_skip fun a hF => hK11 _ _ ?_ a hF
  refine ws fun K13 hK13 => ?_
  refine we_block ?_
  refine ws fun K14 hK14 => ?_
  refine wr [(0, 0), (1, 0), (2, 0)] ?_
  refine gb [0, 1, 2] [(15, vI e1.C), (51, vI e1.C), (50, pP b4 1)] [.loaded ⟨b4, 1, none⟩ (vI e1.C)] ⟨hS.c 0, trivial⟩ ?_
  refine gn hK14 ?_
  refine ws fun K15 hK15 => ?_
  refine ws fun K16 hK16 => ?_
  refine wr [(0, 0), (1, 0), (2, 0)] ?_
  refine gb0 [0, 1, 2] [(54, vI 0), (53, vI (l0.length : Int)), (52, .slice A0 l0.length c0)] ?_
  refine gn hK16 ?_
  refine we_block ?_
  have hS18 := hS.bring 1 rfl
  have hS19 := hS18.bring 1 rfl
  rcases hq4 : iter (modes_Within.r1 l0 x1 e1 z1) K (e1.C, 0) with _ | (z4 | rr1)
  ·rw [hq4] at h; cases h
  ·rw [hq4] at h
   simp only [] at h
   refine we_iter (A := modes_Within.A1 w0 l0 A0 c0 x1 x2 l3 A3 c3 b1 e1 b4 z1) (B := modes_Within.B1 w0 l0 A0 c0 x1 x2 l3 A3 c3 b1 e1 b4 z1) hq4 (fun a hF => ⟨hS19, hF.weaken ea⟩) (fun s o hf a w hA Q hQ => modes_Within_r1 K w0 l0 A0 c0 x1 x2 l3 A3 c3 hR0 hL0 hR3 hL3 b1 r1 b2 hc1 r2 b3 hc2 hc3 e1 hx4 b4 z1 hc4 s o hf a w hA Q hQ) ?_
   rintro _ a w13 _ ⟨rfl, hS37, hF⟩
   replace hS37 : St w0 w13 [Own.blk b4 (.cells #[.string e1.Name, vI e1.C, vI e1.T, vI e1.D, vI e1.J, vI e1.O, vI e1.P] 51 (0, 0)), Own.blk b1 (.cells #[vI 0, vI 0] 39 (0, 0))] := hS37
   refine hK15 [(0, .slice A0 l0.length c0), (1, vI x1), (2, vI x2), (3, .slice A3 l3.length c3), (9, pP b1 0), (13, pP b4 0), (14, vI z1), (15, vI z4)] w13 ?_ a hF
   refine ws fun K22 hK22 => ?_
   refine wr [(0, 0), (1, 0), (2, 0), (3, 1), (4, 0), (5, 0)] ?_
   rcases hq5 : modes_least.f K x2 l3 z1 with _ | r4
   ·rw [hq5] at h; cases h
   rw [hq5] at h
   simp only [] at h
   refine gb0 [0, 1, 2] [(84, vI z1), (83, .slice A3 l3.length c3), (82, vI x2)] ?_
   refine ge_call (d := some 85) (f := 82) (args := #[vI x2, .slice A3 l3.length c3, vI z1]) (by kernel_rfl) (modes_least_ok K x2 l3 A3 c3 z1 _ (hS37.rd hR3) hL3 _ hq5) ?_
   rintro _ w14 ⟨rfl, hS38⟩
   refine ⟨_, rfl, hS38.below, ?_⟩
   have hS39 := hS37.call hS38
   refine gb0 [4, 5] [(87, .bool (decide (r4 ≥ z4))), (86, vI z4)] ?_
   refine gn hK22 ?_
   by_cases hc8 : r4 ≥ z4
   ·rw [if_pos hc8] at h
    refine wk 87 (decide (r4 ≥ z4)) true (decide_eq_true hc8) ?_
    refine we_true (by kernel_rfl) ?_
    refine ws fun K23 hK23 => ?_
    refine wr [(0, 0), (1, 0), (2, 0), (3, 0), (4, 0), (5, 0), (6, 2)] ?_
    refine gb [0, 1, 2, 3, 4, 5] [(8, vI (IntKind.i64.wrap (z1 + e1.J))), (92, .agg #[vI 0, vI 0]), (91, vI (IntKind.i64.wrap (z1 + e1.J))), (90, vI e1.J), (89, pP b4 4), (88, vI z1)] [.loaded ⟨b4, 4, none⟩ (vI e1.J)] ⟨hS39.c 0, trivial⟩ ?_
    have hS40 := hS39.bring 1 rfl
    refine gs b1 0 #[vI 0, vI 0] 39 [vI 0, vI 0] hS40 fun w15 hS41 => ?_
    have hS42 : St w0 w15 [Own.blk b1 (.cells #[vI 0, vI 0] 39 (0, 0)), Own.blk b4 (.cells #[.string e1.Name, vI e1.C, vI e1.T, vI e1.D, vI e1.J, vI e1.O, vI e1.P] 51 (0, 0))] := hS41
    refine gn hK23 ?_
    have hS43 := hS42.takeN 0
    obtain rfl := si h
    exact we_ret fun a hF => hQ _ _ _ (Outs.out nofun (Exits.on ⟨rfl, (pr [.tmp 8, .cell 9 39] [vI (IntKind.i64.wrap (z1 + e1.J)), .agg #[vI 0, vI 0]] [.loaded ⟨b1, 0, none⟩ (vI 0), .loaded ⟨b1, 1, none⟩ (vI 0)] ⟨hS42.c 0, hS42.c 0, trivial⟩ ⟨rfl, hS43⟩) a hF⟩))
   ·rw [if_neg hc8] at h
    refine wk 87 (decide (r4 ≥ z4)) false (decide_eq_false hc8) ?_
    refine we_false (by kernel_rfl) ?_
    refine we_skip fun a hF => hK13 _ _ ?_ a hF
    refine wr [(0, 0), (1, 0), (2, 0)] ?_
    refine gb0 [0, 1, 2] [(14, vI (IntKind.i64.wrap (z1 + 1))), (49, vI (IntKind.i64.wrap (z1 + 1))), (48, vI z1)] ?_
    have hS44 := hS39.bring 1 rfl
    have hS45 := hS44.bring 1 rfl
    obtain rfl := si h
    exact ge_nil fun a hF => hQ _ _ _ (Outs.again ⟨hS45, hF.weaken ea⟩)
  ·rw [hq4] at h
   simp only [] at h
   refine we_iter (A := modes_Within.A1 w0 l0 A0 c0 x1 x2 l3 A3 c3 b1 e1 b4 z1) (B := modes_Within.B1 w0 l0 A0 c0 x1 x2 l3 A3 c3 b1 e1 b4 z1) hq4 (fun a hF => ⟨hS19, hF.weaken ea⟩) (fun s o hf a w hA Q hQ => modes_Within_r1 K w0 l0 A0 c0 x1 x2 l3 A3 c3 hR0 hL0 hR3 hL3 b1 r1 b2 hc1 r2 b3 hc2 hc3 e1 hx4 b4 z1 hc4 s o hf a w hA Q hQ) ?_
   rintro _ a w1 _ ⟨rfl, hb⟩
   obtain rfl := si h
   exact hQ _ _ _ (Outs.out nofun (Exits.on ⟨rfl, hb⟩))
 ·rw [if_neg hc4] at h
  refine wk 47 (decide (z1 ≤ (IntKind.i64.wrap (e1.D - e1.J)))) false (decide_eq_false hc4) ?_
  refine we_false (by kernel_rfl) ?_
  have hS46 := hS.bring 1 rfl
  have hS47 := hS46.takeN 1
  obtain rfl := si h
  exact we_exit fun a hF => hQ _ _ _ (Outs.out nofun (Exits.here ⟨hS47, hF.weaken ea⟩))
theorem modes_Within_ok (K : Nat) (l0 : List STask) (A0 : Option Addr) (c0 : Nat) (x1 : Int) (x2 : Int) (l3 : List SWindow) (A3 : Option Addr) (c3 : Nat) (w0 : World) (hR0 : RdL w0 A0 l0) (hL0 : l0.length ≤ c0) (hR3 : RdL w0 A3 l3) (hL3 : l3.length ≤ c3) (r : Int × SFault) (h : modes_Within.f K l0 x1 x2 l3 = some r) :
  Calls Tryd.prog 26 #[.slice A0 l0.length c0, vI x1, vI x2, .slice A3 l3.length c3] w0 (modes_Within.Post w0 r) := by
 have hS := St.start w0
 unfold modes_Within.f at h
 refine calls_enter (n := 95) (args := [.slice A0 l0.length c0, vI x1, vI x2, .slice A3 l3.length c3]) (fn := Tryd.f26) rfl rfl rfl rfl ?_
 show WE _ _ _ _ [(0, .slice A0 l0.length c0), (1, vI x1), (2, vI x2), (3, .slice A3 l3.length c3)] _
 refine ws fun K1 hK1 => ?_
 refine wr [(0, 0), (1, 1)] ?_
 refine gb0 [0] [(8, vI 0)] ?_
 refine gw (some 9) (.cells #[vI 0, vI 0] 39) (fun b => pP b 0) hS fun b1 w1 hx1 hS1 => ?_
 refine gn hK1 ?_
 refine ws fun K2 hK2 => ?_
 refine ws fun K3 hK3 => ?_
 refine wr [(0, 0), (1, 0), (2, 1), (3, 0), (4, 0), (5, 0), (6, 1), (7, 0), (8, 2)] ?_
 rcases hq1 : fixed_Response.f K l0 x1 0 with _ | r1
 ·rw [hq1] at h; cases h
 rw [hq1] at h
 simp only [] at h
 refine gb0 [0, 1] [(20, vI x1), (19, .slice A0 l0.length c0)] ?_
 refine ge_call (d := some 21) (f := 79) (args := #[.slice A0 l0.length c0, vI x1, vI 0]) (by kernel_rfl) (fixed_Response_ok K l0 A0 c0 x1 0 _ (hS1.rd hR0) hL0 _ hq1) ?_
 rintro _ w2 ⟨rfl, hS2⟩
 refine ⟨_, rfl, hS2.below, ?_⟩
 have hS3 := hS1.call hS2
 refine gb0 [3, 4, 5] [(23, .agg #[vI r1.2.Code, vI r1.2.At]), (22, vI r1.1), (18, .tuple #[vI r1.1, .agg #[vI r1.2.Code, vI r1.2.At]])] ?_
 refine gw (some 11) (.cells #[vI 0, vI 0] 39) (fun b => pP b 0) hS3 fun b2 w3 hx2 hS4 => ?_
 refine gb0 [7] [(10, vI r1.1)] ?_
 refine gs b2 0 #[vI 0, vI 0] 39 [vI r1.2.Code, vI r1.2.At] hS4 fun w4 hS5 => ?_
 have hS6 : St w0 w4 [Own.blk b2 (.cells #[vI r1.2.Code, vI r1.2.At] 39 (0, 0)), Own.blk b1 (.cells #[vI 0, vI 0] 39 (0, 0))] := hS5
 refine gn hK3 ?_
 refine ws fun K4 hK4 => ?_
 refine wr [(0, 0), (1, 0), (2, 0)] ?_
 refine gb [0, 1, 2] [(26, .bool (r1.2.Code != 0)), (25, vI r1.2.Code), (24, pP b2 0)] [.loaded ⟨b2, 0, none⟩ (vI r1.2.Code)] ⟨hS6.c 0, trivial⟩ ?_
 refine gn hK4 ?_
 by_cases hc1 : r1.2.Code = 0
 ·rw [if_pos hc1] at h
  refine wk 26 (r1.2.Code != 0) false (bne_eq_false_iff_eq.2 hc1) ?_
  refine we_false (by kernel_rfl) ?_
  refine we_skip fun a hF => hK2 _ _ ?_ a hF
  refine ws fun K5 hK5 => ?_
  refine ws fun K6 hK6 => ?_
  refine wr [(0, 0), (1, 0), (2, 1), (3, 1), (4, 2)] ?_
  rcases hq2 : modes_Frame.f K x2 l3 with _ | r2
  ·rw [hq2] at h; cases h
  rw [hq2] at h
  simp only [] at h
  refine gb0 [0, 1] [(29, .slice A3 l3.length c3), (28, vI x2)] ?_
  refine ge_call (d := some 30) (f := 80) (args := #[vI x2, .slice A3 l3.length c3]) (by kernel_rfl) (modes_Frame_ok K x2 l3 A3 c3 _ (hS6.rd hR3) hL3 _ hq2) ?_
  rintro _ w5 ⟨rfl, hS7⟩
  refine ⟨_, rfl, hS7.below, ?_⟩
  have hS8 := hS6.call hS7
  refine gw (some 12) (.cells #[vI 0, vI 0] 39) (fun b => pP b 0) hS8 fun b3 w6 hx3 hS9 => ?_
  refine gs b3 0 #[vI 0, vI 0] 39 [vI r2.Code, vI r2.At] hS9 fun w7 hS10 => ?_
  have hS11 : St w0 w7 [Own.blk b3 (.cells #[vI r2.Code, vI r2.At] 39 (0, 0)), Own.blk b2 (.cells #[vI r1.2.Code, vI r1.2.At] 39 (0, 0)), Own.blk b1 (.cells #[vI 0, vI 0] 39 (0, 0))] := hS10
  refine gn hK6 ?_
  refine ws fun K7 hK7 => ?_
  refine wr [(0, 0), (1, 0), (2, 0)] ?_
  refine gb [0, 1, 2] [(33, .bool (r2.Code != 0)), (32, vI r2.Code), (31, pP b3 0)] [.loaded ⟨b3, 0, none⟩ (vI r2.Code)] ⟨hS11.c 0, trivial⟩ ?_
  refine gn hK7 ?_
  by_cases hc2 : r2.Code = 0
  ·rw [if_pos hc2] at h
   refine wk 33 (r2.Code != 0) false (bne_eq_false_iff_eq.2 hc2) ?_
   refine we_false (by kernel_rfl) ?_
   refine we_skip fun a hF => hK5 _ _ ?_ a hF
   refine ws fun K8 hK8 => ?_
   refine wr [(0, 0), (1, 0), (2, 0), (3, 0), (4, 1), (5, 2)] ?_
   refine gb0 [0, 1] [(36, vI x1), (35, .slice A0 l0.length c0)] ?_
   by_cases hc3 : 0 ≤ x1
   ·rw [if_pos hc3] at h
    rcases hx4 : l0[(x1).toNat]? with _ | e1
    ·rw [hx4] at h; cases h
    rw [hx4] at h
    simp only [] at h
    refine gi 37 0 47 51 7 l0.length c0 (.tmp 35) (.tmp 36) A0 .i64 x1 ((x1).toNat) ((hS11.rd hR0).eqSome (pos_of_get hx4)) (Int.toNat_of_nonneg hc3).symm (lt_of_get hx4) ?_
    refine gb [3] [(38, .agg #[.string e1.Name, vI e1.C, vI e1.T, vI e1.D, vI e1.J, vI e1.O, vI e1.P])] [.loaded ⟨blkOf A0, offOf A0 + ((x1).toNat) * 7, none⟩ (.string e1.Name), .loaded ⟨blkOf A0, offOf A0 + ((x1).toNat) * 7 + 1, none⟩ (vI e1.C), .loaded ⟨blkOf A0, offOf A0 + ((x1).toNat) * 7 + 2, none⟩ (vI e1.T), .loaded ⟨blkOf A0, offOf A0 + ((x1).toNat) * 7 + 3, none⟩ (vI e1.D), .loaded ⟨blkOf A0, offOf A0 + ((x1).toNat) * 7 + 4, none⟩ (vI e1.J), .loaded ⟨blkOf A0, offOf A0 + ((x1).toNat) * 7 + 5, none⟩ (vI e1.O), .loaded ⟨blkOf A0, offOf A0 + ((x1).toNat) * 7 + 6, none⟩ (vI e1.P)] ⟨RdL.cell (j := 0) (hS11.rd hR0) hx4 rfl, RdL.cell (j := 1) (hS11.rd hR0) hx4 rfl, RdL.cell (j := 2) (hS11.rd hR0) hx4 rfl, RdL.cell (j := 3) (hS11.rd hR0) hx4 rfl, RdL.cell (j := 4) (hS11.rd hR0) hx4 rfl, RdL.cell (j := 5) (hS11.rd hR0) hx4 rfl, RdL.cell (j := 6) (hS11.rd hR0) hx4 rfl, trivial⟩ ?_
    refine gw (some 13) (.cells #[.string (⟨#[]⟩), vI 0, vI 0, vI 0, vI 0, vI 0, vI 0] 51) (fun b => pP b 0) hS11 fun b4 w8 hx5 hS12 => ?_
    refine gs b4 0 #[.string (⟨#[]⟩), vI 0, vI 0, vI 0, vI 0, vI 0, vI 0] 51 [.string e1.Name, vI e1.C, vI e1.T, vI e1.D, vI e1.J, vI e1.O, vI e1.P] hS12 fun w9 hS13 => ?_
    have hS14 : St w0 w9 [Own.blk b4 (.cells #[.string e1.Name, vI e1.C, vI e1.T, vI e1.D, vI e1.J, vI e1.O, vI e1.P] 51 (0, 0)), Own.blk b3 (.cells #[vI r2.Code, vI r2.At] 39 (0, 0)), Own.blk b2 (.cells #[vI r1.2.Code, vI r1.2.At] 39 (0, 0)), Own.blk b1 (.cells #[vI 0, vI 0] 39 (0, 0))] := hS13
    refine gn hK8 ?_
    refine ws fun K9 hK9 => ?_
    refine ws fun K10 hK10 => ?_
    refine wr [(0, 0), (1, 0), (2, 0)] ?_
    refine gb [0, 1, 2] [(14, vI e1.C), (40, vI e1.C), (39, pP b4 1)] [.loaded ⟨b4, 1, none⟩ (vI e1.C)] ⟨hS14.c 0, trivial⟩ ?_
    refine gn hK10 ?_
    refine we_block ?_
    have hS15 := hS14.bring 3 rfl
    have hS16 := hS15.bring 1 rfl
    have hS17 := hS16.takeN 2
    rcases hq6 : iter (modes_Within.r0 K l0 x1 x2 l3 r1 e1) K e1.C with _ | (_ | rr2)
    ·rw [hq6] at h; cases h
    ·rw [hq6] at h
     simp only [] at h
     refine we_iter (A := modes_Within.A0 w0 l0 A0 c0 x1 x2 l3 A3 c3 b1 e1 b4) (B := modes_Within.B0 w0 x1 b1) hq6 (fun a hF => ⟨hS17, hF.weaken ea⟩) (fun s o hf a w hA Q hQ => modes_Within_r0 K w0 l0 A0 c0 x1 x2 l3 A3 c3 hR0 hL0 hR3 hL3 b1 r1 b2 hc1 r2 b3 hc2 hc3 e1 hx4 b4 s o hf a w hA Q hQ) ?_
     rintro _ a w16 _ ⟨rfl, hS48, hF⟩
     replace hS48 : St w0 w16 [Own.blk b1 (.cells #[vI 0, vI 0] 39 (0, 0))] := hS48
     refine hK9 [(1, vI x1), (9, pP b1 0)] w16 ?_ a hF
     refine ws fun K24 hK24 => ?_
     refine wr [(0, 0), (1, 0), (2, 0), (3, 2)] ?_
     refine gb0 [0, 1, 2] [(8, vI 0), (94, .agg #[vI 13, vI x1]), (93, vI x1)] ?_
     refine gs b1 0 #[vI 0, vI 0] 39 [vI 13, vI x1] hS48 fun w17 hS49 => ?_
     have hS50 : St w0 w17 [Own.blk b1 (.cells #[vI 13, vI x1] 39 (0, 0))] := hS49
     refine gn hK24 ?_
     have hS51 := hS50.takeN 0
     obtain rfl := si h
     exact we_ret (pr [.tmp 8, .cell 9 39] [vI 0, .agg #[vI 13, vI x1]] [.loaded ⟨b1, 0, none⟩ (vI 13), .loaded ⟨b1, 1, none⟩ (vI x1)] ⟨hS50.c 0, hS50.c 0, trivial⟩ ⟨rfl, hS51⟩)
    ·rw [hq6] at h
     simp only [] at h
     refine we_iter (A := modes_Within.A0 w0 l0 A0 c0 x1 x2 l3 A3 c3 b1 e1 b4) (B := modes_Within.B0 w0 x1 b1) hq6 (fun a hF => ⟨hS17, hF.weaken ea⟩) (fun s o hf a w hA Q hQ => modes_Within_r0 K w0 l0 A0 c0 x1 x2 l3 A3 c3 hR0 hL0 hR3 hL3 b1 r1 b2 hc1 r2 b3 hc2 hc3 e1 hx4 b4 s o hf a w hA Q hQ) ?_
     rintro _ a w1 _ ⟨rfl, hb⟩
     obtain rfl := si h
     exact hb
   ·rw [if_neg hc3] at h
    cases h
  ·rw [if_neg hc2] at h
   refine wk 33 (r2.Code != 0) true (bne_iff_ne.2 hc2) ?_
   refine we_true (by kernel_rfl) ?_
   refine ws fun K25 hK25 => ?_
   refine we_draws (by kernel_rfl) [(0, 0), (1, 0), (2, 2)] (by kernel_rfl) ?_
   have hS52 := hS11.drew
   refine gb [0, 1] [(8, vI 0), (34, .agg #[vI r2.Code, vI r2.At])] [.loaded ⟨b3, 0, none⟩ (vI r2.Code), .loaded ⟨b3, 1, none⟩ (vI r2.At)] ⟨hS52.c 0, hS52.c 0, trivial⟩ ?_
   have hS53 := hS52.bring 2 rfl
   refine gs b1 0 #[vI 0, vI 0] 39 [vI r2.Code, vI r2.At] hS53 fun w18 hS54 => ?_
   have hS55 : St w0 w18 [Own.blk b1 (.cells #[vI r2.Code, vI r2.At] 39 (0, 0)), Own.blk b3 (.cells #[vI r2.Code, vI r2.At] 39 (0, 0)), Own.blk b2 (.cells #[vI r1.2.Code, vI r1.2.At] 39 (0, 0))] := hS54
   refine gn hK25 ?_
   have hS56 := hS55.takeN 0
   obtain rfl := si h
   exact we_ret (pr [.tmp 8, .cell 9 39] [vI 0, .agg #[vI r2.Code, vI r2.At]] [.loaded ⟨b1, 0, none⟩ (vI r2.Code), .loaded ⟨b1, 1, none⟩ (vI r2.At)] ⟨hS55.c 0, hS55.c 0, trivial⟩ ⟨rfl, hS56⟩)
 ·rw [if_neg hc1] at h
  refine wk 26 (r1.2.Code != 0) true (bne_iff_ne.2 hc1) ?_
  refine we_true (by kernel_rfl) ?_
  refine ws fun K26 hK26 => ?_
  refine we_draws (by kernel_rfl) [(0, 0), (1, 0), (2, 2)] (by kernel_rfl) ?_
  have hS57 := hS6.drew
  refine gb [0, 1] [(8, vI 0), (27, .agg #[vI r1.2.Code, vI r1.2.At])] [.loaded ⟨b2, 0, none⟩ (vI r1.2.Code), .loaded ⟨b2, 1, none⟩ (vI r1.2.At)] ⟨hS57.c 0, hS57.c 0, trivial⟩ ?_
  have hS58 := hS57.bring 1 rfl
  refine gs b1 0 #[vI 0, vI 0] 39 [vI r1.2.Code, vI r1.2.At] hS58 fun w19 hS59 => ?_
  have hS60 : St w0 w19 [Own.blk b1 (.cells #[vI r1.2.Code, vI r1.2.At] 39 (0, 0)), Own.blk b2 (.cells #[vI r1.2.Code, vI r1.2.At] 39 (0, 0))] := hS59
  refine gn hK26 ?_
  have hS61 := hS60.takeN 0
  obtain rfl := si h
  exact we_ret (pr [.tmp 8, .cell 9 39] [vI 0, .agg #[vI r1.2.Code, vI r1.2.At]] [.loaded ⟨b1, 0, none⟩ (vI r1.2.Code), .loaded ⟨b1, 1, none⟩ (vI r1.2.At)] ⟨hS60.c 0, hS60.c 0, trivial⟩ ⟨rfl, hS61⟩)

/-! punctual/modes.Open -/
abbrev modes_Open.Post (w0 : World) (r : Bool) (e : Ending) (w : World) : Prop := e = .returned (.bool r) ∧ St w0 w []
def modes_Open.p0 (K : Nat) (x0 : Int) (l1 : List SWindow) (x2 : Int) : Option (Unit ⊕ Bool) :=
  if x2 < 0 then
   some (.inr false)
  else
   match modes_Frame.f K x0 l1 with
   | none => none
   | some r1 =>
    if r1.Code = 0 then
     some (.inl ())
    else
     some (.inr false)
def modes_Open.r1 (x0 : Int) (l1 : List SWindow) (x2 : Int) : Nat → Option (Nat ⊕ (Unit ⊕ Bool))
 | i1 =>
  if (i1 : Int) < (l1.length : Int) then
   match l1[i1]? with
   | none => none
   | some e1 =>
    if (Int.tmod x2 x0) ≥ e1.At then
     if (Int.tmod x2 x0) < (IntKind.i64.wrap (e1.At + e1.Len)) then
      some (.inr (.inr true))
     else
      some (.inl (i1 + 1))
    else
     some (.inl (i1 + 1))
  else
   some (.inr (.inl ()))
def modes_Open.f (K : Nat) (x0 : Int) (l1 : List SWindow) (x2 : Int) : Option Bool :=
 match modes_Open.p0 K x0 l1 x2 with
 | none => none
 | some (.inl _) =>
  if x0 = 0 then
   none
  else
   match iter (modes_Open.r1 x0 l1 x2) K 0 with
   | none => none
   | some (.inl _) =>
    some false
   | some (.inr rr1) =>
    some rr1
 | some (.inr rr2) =>
  some rr2
abbrev modes_Open.A0 (w0 : World) (x0 : Int) (l1 : List SWindow) (A1 : Option Addr) (c1 : Nat) (x2 : Int) : Unit → Act → World → Prop := fun (s : Unit) a w => St w0 w [] ∧ Frm 41 a [(0, vI x0), (1, .slice A1 l1.length c1), (2, vI x2)]
abbrev modes_Open.B0 (w0 : World) : Bool → Exit → Act → World → Prop := Rets Tryd.prog Tryd.f78 (modes_Open.Post w0)
theorem modes_Open_p0 (K : Nat) (w0 : World) (x0 : Int) (l1 : List SWindow) (A1 : Option Addr) (c1 : Nat) (x2 : Int) (hR1 : RdL w0 A1 l1) (hL1 : l1.length ≤ c1) (o : Unit ⊕ Bool) (h : modes_Open.p0 K x0 l1 x2 = some o) (w : World) (hS : St w0 w []) (Q : Exit → Act → World → Prop) (hQ : ∀ x a w, Outs (modes_Open.A0 w0 x0 l1 A1 c1 x2) (modes_Open.B0 w0) o x a w → Q x a w) : WE Tryd.prog 41 (subF Tryd.f78 [1, 0]) Q [(0, vI x0), (1, .slice A1 l1.length c1), (2, vI x2), (6, .bool false)] w := by
 simp only [modes_Open.p0] at h
 refine ws fun K3 hK3 => ?_
 refine wr [(0, 0), (1, 0), (2, 0), (3, 0), (4, 0), (5, 1), (6, 0), (7, 0), (8, 0)] ?_
 refine gb0 [0, 1, 2] [(11, .bool (decide (x2 < 0))), (10, .bool (decide (x2 < 0))), (9, vI x2)] ?_
 by_cases hc1 : x2 < 0
 ·rw [if_pos hc1] at h
  refine gk 11 (decide (x2 < 0)) true (decide_eq_true hc1) ?_
  refine gb0 [3, 4] [(13, undef), (12, undef)] ?_
  refine ge_off rfl rfl rfl (by kernel_rfl) ?_
  refine gb0 [6, 7, 8] [(17, .bool true), (16, undef), (15, undef)] ?_
  refine gn hK3 ?_
  refine we_true (by kernel_rfl) ?_
  refine ws fun K4 hK4 => ?_
  refine wr [(0, 0)] ?_
  refine gb0 [0] [(6, .bool false)] ?_
  refine gn hK4 ?_
  obtain rfl := si h
  exact we_ret fun a hF => hQ _ _ _ (Outs.out nofun ⟨rfl, (pr0 [.tmp 6] [.bool false] ⟨rfl, hS⟩) a hF⟩)
 ·rw [if_neg hc1] at h
  refine gk 11 (decide (x2 < 0)) false (decide_eq_false hc1) ?_
  rcases hq1 : modes_Frame.f K x0 l1 with _ | r1
  ·rw [hq1] at h; cases h
  rw [hq1] at h
  simp only [] at h
  refine gb0 [3, 4] [(13, .slice A1 l1.length c1), (12, vI x0)] ?_
  refine ge_call (d := some 14) (f := 80) (args := #[vI x0, .slice A1 l1.length c1]) (by kernel_rfl) (modes_Frame_ok K x0 l1 A1 c1 _ (hS.rd hR1) hL1 _ hq1) ?_
  rintro _ w1 ⟨rfl, hS1⟩
  refine ⟨_, rfl, hS1.below, ?_⟩
  have hS2 := hS.call hS1
  refine gb0 [6, 7, 8] [(17, .bool (r1.Code != 0)), (16, .bool (r1.Code != 0)), (15, vI r1.Code)] ?_
  refine gn hK3 ?_
  by_cases hc2 : r1.Code = 0
  ·rw [if_pos hc2] at h
   refine wk 17 (r1.Code != 0) false (bne_eq_false_iff_eq.2 hc2) ?_
   refine we_false (by kernel_rfl) ?_
   obtain rfl := si h
   exact we_skip fun a hF => hQ _ _ _ (Outs.again ⟨hS2, hF.weaken ea⟩)
  ·rw [if_neg hc2] at h
   refine wk 17 (r1.Code != 0) true (bne_iff_ne.2 hc2) ?_
   refine we_true (by kernel_rfl) ?_
   refine ws fun K5 hK5 => ?_
   refine wr [(0, 0)] ?_
   refine gb0 [0] [(6, .bool false)] ?_
   refine gn hK5 ?_
   obtain rfl := si h
   exact we_ret fun a hF => hQ _ _ _ (Outs.out nofun ⟨rfl, (pr0 [.tmp 6] [.bool false] ⟨rfl, hS2⟩) a hF⟩)
abbrev modes_Open.A1 (w0 : World) (x0 : Int) (l1 : List SWindow) (A1 : Option Addr) (c1 : Nat) (x2 : Int) : Nat → Act → World → Prop := fun (s : Nat) a w => St w0 w [] ∧ Frm 41 a [(2, vI (Int.tmod x2 x0)), (21, .slice A1 l1.length c1), (22, vI (l1.length : Int)), (23, vI (s : Int))]
abbrev modes_Open.B1 (w0 : World) : (Unit ⊕ Bool) → Exit → Act → World → Prop := Exits 0 (fun (s : Unit) a w => St w0 w [] ∧ Frm 41 a []) (Rets Tryd.prog Tryd.f78 (modes_Open.Post w0))
theorem modes_Open_r1 (K : Nat) (w0 : World) (x0 : Int) (l1 : List SWindow) (A1 : Option Addr) (c1 : Nat) (x2 : Int) (hR1 : RdL w0 A1 l1) (hL1 : l1.length ≤ c1) (hc3 : ¬ (x0 = 0)) (s : Nat) (o : Nat ⊕ (Unit ⊕ Bool)) (h : modes_Open.r1 x0 l1 x2 s = some o) (a : Act) (w : World) (hA : modes_Open.A1 w0 x0 l1 A1 c1 x2 s a w) (Q : Exit → Act → World → Prop) (hQ : ∀ x a w, Outs (modes_Open.A1 w0 x0 l1 A1 c1 x2) (modes_Open.B1 w0) o x a w → Q x a w) : (subF Tryd.f78 [1, 1, 1, 0, 1, 0, 0]).wp Tryd.prog Q a w := by
 obtain ⟨i1, hs⟩ : ∃ z, z = s := ⟨s, rfl⟩
 subst hs
 obtain ⟨hS, hF⟩ := hA
 replace hS : St w0 w [] := hS
 simp only [modes_Open.r1] at h
 refine (?_ : WE Tryd.prog 41 (subF Tryd.f78 [1, 1, 1, 0, 1, 0, 0]) Q [(2, vI (Int.tmod x2 x0)), (21, .slice A1 l1.length c1), (22, vI (l1.length : Int)), (23, vI (i1 : Int))] w) a hF
 clear hF a
 refine ws fun K9 hK9 => ?_
 refine wr [(0, 0)] ?_
 refine gb0 [0] [(24, .bool (decide ((i1 : Int) < (l1.length : Int))))] ?_
 refine gn hK9 ?_
 refine ws fun K10 hK10 => ?_
 by_cases hc4 : (i1 : Int) < (l1.length : Int)
 ·rw [if_pos hc4] at h
  refine wk 24 (decide ((i1 : Int) < (l1.length : Int))) true (decide_eq_true hc4) ?_
  refine we_true (by kernel_rfl) ?_
  refine we_skip fun a hF => hK10 _ _ ?_ a hF
  refine ws fun K11 hK11 => ?_
  refine we_block ?_
  refine ws fun K12 hK12 => ?_
  refine wr [(0, 0), (1, 0), (2, 1), (3, 2)] ?_
  rcases hx1 : l1[i1]? with _ | e1
  ·rw [hx1] at h; cases h
  rw [hx1] at h
  simp only [] at h
  refine gi 25 0 48 55 2 l1.length c1 (.tmp 21) (.tmp 23) A1 .i64 (i1 : Int) i1 ((hS.rd hR1).eqSome (pos_of_get hx1)) rfl (lt_of_get hx1) ?_
  refine gb [1] [(26, .agg #[vI e1.At, vI e1.Len])] [.loaded ⟨blkOf A1, offOf A1 + i1 * 2, none⟩ (vI e1.At), .loaded ⟨blkOf A1, offOf A1 + i1 * 2 + 1, none⟩ (vI e1.Len)] ⟨RdL.cell (j := 0) (hS.rd hR1) hx1 rfl, RdL.cell (j := 1) (hS.rd hR1) hx1 rfl, trivial⟩ ?_
  refine gw (some 8) (.cells #[vI 0, vI 0] 55) (fun b => pP b 0) hS fun b1 w3 hx2 hS4 => ?_
  refine gs b1 0 #[vI 0, vI 0] 55 [vI e1.At, vI e1.Len] hS4 fun w4 hS5 => ?_
  have hS6 : St w0 w4 [Own.blk b1 (.cells #[vI e1.At, vI e1.Len] 55 (0, 0))] := hS5
  refine gn hK12 ?_
  refine ws fun K13 hK13 => ?_
  refine wr [(0, 0), (1, 0), (2, 0), (3, 0), (4, 0), (5, 0), (6, 0), (7, 0), (8, 0), (9, 0), (10, 0), (11, 0), (12, 0)] ?_
  refine gb [0, 1, 2, 3, 4] [(31, .bool (decide ((Int.tmod x2 x0) ≥ e1.At))), (30, .bool (decide ((Int.tmod x2 x0) ≥ e1.At))), (29, vI e1.At), (28, pP b1 0), (27, vI (Int.tmod x2 x0))] [.loaded ⟨b1, 0, none⟩ (vI e1.At)] ⟨hS6.c 0, trivial⟩ ?_
  by_cases hc5 : (Int.tmod x2 x0) ≥ e1.At
  ·rw [if_pos hc5] at h
   refine gk 31 (decide ((Int.tmod x2 x0) ≥ e1.At)) true (decide_eq_true hc5) ?_
   refine gb [5, 6, 7, 8, 9, 10, 11, 12] [(39, .bool (decide ((Int.tmod x2 x0) < (IntKind.i64.wrap (e1.At + e1.Len))))), (38, .bool (decide ((Int.tmod x2 x0) < (IntKind.i64.wrap (e1.At + e1.Len))))), (37, vI (IntKind.i64.wrap (e1.At + e1.Len))), (36, vI e1.Len), (35, pP b1 1), (34, vI e1.At), (33, pP b1 0), (32, vI (Int.tmod x2 x0))] [.loaded ⟨b1, 0, none⟩ (vI e1.At), .loaded ⟨b1, 1, none⟩ (vI e1.Len)] ⟨hS6.c 0, hS6.c 0, trivial⟩ ?_
   refine gn hK13 ?_
   by_cases hc6 : (Int.tmod x2 x0) < (IntKind.i64.wrap (e1.At + e1.Len))
   ·rw [if_pos hc6] at h
    refine wk 39 (decide ((Int.tmod x2 x0) < (IntKind.i64.wrap (e1.At + e1.Len)))) true (decide_eq_true hc6) ?_
    refine we_true (by kernel_rfl) ?_
    refine ws fun K14 hK14 => ?_
    refine wr [(0, 0)] ?_
    refine gb0 [0] [(6, .bool true)] ?_
    refine gn hK14 ?_
    have hS7 := hS6.takeN 0
    obtain rfl := si h
    exact we_ret fun a hF => hQ _ _ _ (Outs.out nofun (Exits.on ⟨rfl, (pr0 [.tmp 6] [.bool true] ⟨rfl, hS7⟩) a hF⟩))
   ·rw [if_neg hc6] at h
    refine wk 39 (decide ((Int.tmod x2 x0) < (IntKind.i64.wrap (e1.At + e1.Len)))) false (decide_eq_false hc6) ?_
    refine we_false (by kernel_rfl) ?_
    refine we_skip fun a hF => hK11 _ _ ?_ a hF
    refine wr [(0, 0), (1, 0)] ?_
    refine ge_addn (d := 40) (ty := 3) (x := (.tmp 23)) (y := (.const (vI 1))) (t := 3) (t2 := 3) (k := .i64) (m := i1) (by kernel_rfl) (by kernel_rfl) (by kernel_rfl) (by have h0 := hR1.small; omega) ?_
    refine gb0 [1] [(23, vI ((i1 + 1 : Nat) : Int))] ?_
    have hS8 := hS6.takeN 0
    obtain rfl := si h
    exact ge_nil fun a hF => hQ _ _ _ (Outs.again ⟨hS8, hF.weaken ea⟩)
  ·rw [if_neg hc5] at h
   refine gk 31 (decide ((Int.tmod x2 x0) ≥ e1.At)) false (decide_eq_false hc5) ?_
   refine gb0 [5, 6, 7, 8, 9, 10, 11, 12] [(39, .bool false), (38, undef), (37, undef), (36, undef), (35, undef), (34, undef), (33, undef), (32, undef)] ?_
   refine gn hK13 ?_
   refine we_false (by kernel_rfl) ?_
   refine we_skip fun a hF => hK11 _ _ ?_ a hF
   refine wr [(0, 0), (1, 0)] ?_
   refine ge_addn (d := 40) (ty := 3) (x := (.tmp 23)) (y := (.const (vI 1))) (t := 3) (t2 := 3) (k := .i64) (m := i1) (by kernel_rfl) (by kernel_rfl) (by kernel_rfl) (by have h0 := hR1.small; omega) ?_
   refine gb0 [1] [(23, vI ((i1 + 1 : Nat) : Int))] ?_
   have hS9 := hS6.takeN 0
   obtain rfl := si h
   exact ge_nil fun a hF => hQ _ _ _ (Outs.again ⟨hS9, hF.weaken ea⟩)
 ·rw [if_neg hc4] at h
  refine wk 24 (decide ((i1 : Int) < (l1.length : Int))) false (decide_eq_false hc4) ?_
  refine we_false (by kernel_rfl) ?_
  obtain rfl := si h
  exact we_exit fun a hF => hQ _ _ _ (Outs.out nofun (Exits.here ⟨hS, hF.weaken trivial⟩))
theorem modes_Open_ok (K : Nat) (x0 : Int) (l1 : List SWindow) (A1 : Option Addr) (c1 : Nat) (x2 : Int) (w0 : World) (hR1 : RdL w0 A1 l1) (hL1 : l1.length ≤ c1) (r : Bool) (h : modes_Open.f K x0 l1 x2 = some r) :
  Calls Tryd.prog 78 #[vI x0, .slice A1 l1.length c1, vI x2] w0 (modes_Open.Post w0 r) := by
 have hS := St.start w0
 unfold modes_Open.f at h
 refine calls_enter (n := 41) (args := [vI x0, .slice A1 l1.length c1, vI x2]) (fn := Tryd.f78) rfl rfl rfl rfl ?_
 show WE _ _ _ _ [(0, vI x0), (1, .slice A1 l1.length c1), (2, vI x2)] _
 refine ws fun K1 hK1 => ?_
 refine wr [(0, 0)] ?_
 refine gb0 [0] [(6, .bool false)] ?_
 refine gn hK1 ?_
 refine ws fun K2 hK2 => ?_
 rcases hq2 : modes_Open.p0 K x0 l1 x2 with _ | (_ | rr2)
 ·rw [hq2] at h; cases h
 ·rw [hq2] at h
  simp only [] at h
  refine we_keep (e' := [(0, vI x0), (1, .slice A1 l1.length c1), (2, vI x2), (6, .bool false)]) ea (modes_Open_p0 K w0 x0 l1 A1 c1 x2 hR1 hL1 _ hq2 _ hS _ ?_)
  rintro _ a w2 ⟨rfl, hS3, hF⟩
  replace hS3 : St w0 w2 [] := hS3
  refine hK2 [(0, vI x0), (1, .slice A1 l1.length c1), (2, vI x2)] w2 ?_ a hF
  refine ws fun K6 hK6 => ?_
  refine wr [(0, 0), (1, 0), (2, 0), (3, 0)] ?_
  refine gb0 [0, 1] [(19, vI x0), (18, vI x2)] ?_
  by_cases hc3 : x0 = 0
  ·rw [if_pos hc3] at h
   cases h
  ·rw [if_neg hc3] at h
   refine ge_div (d := 20) (ty := 3) (op := .rem) (x := (.tmp 18)) (y := (.tmp 19)) (t := 3) (t2 := 3) (k := .i64) (p := x2) (q := x0) (v := vI (Int.tmod x2 x0)) (by kernel_rfl) (by kernel_rfl) (by kernel_rfl) hc3 rfl ?_
   refine gb0 [3] [(2, vI (Int.tmod x2 x0))] ?_
   refine gn hK6 ?_
   refine ws fun K7 hK7 => ?_
   refine ws fun K8 hK8 => ?_
   refine wr [(0, 0), (1, 0), (2, 0)] ?_
   refine gb0 [0, 1, 2] [(23, vI 0), (22, vI (l1.length : Int)), (21, .slice A1 l1.length c1)] ?_
   refine gn hK8 ?_
   refine we_block ?_
   rcases hq3 : iter (modes_Open.r1 x0 l1 x2) K 0 with _ | (_ | rr1)
   ·rw [hq3] at h; cases h
   ·rw [hq3] at h
    simp only [] at h
    refine we_iter (A := modes_Open.A1 w0 x0 l1 A1 c1 x2) (B := modes_Open.B1 w0) hq3 (fun a hF => ⟨hS3, hF.weaken ea⟩) (fun s o hf a w hA Q hQ => modes_Open_r1 K w0 x0 l1 A1 c1 x2 hR1 hL1 hc3 s o hf a w hA Q hQ) ?_
    rintro _ a w5 _ ⟨rfl, hS10, hF⟩
    replace hS10 : St w0 w5 [] := hS10
    refine hK7 [] w5 ?_ a hF
    refine ws fun K15 hK15 => ?_
    refine wr [(0, 0)] ?_
    refine gb0 [0] [(6, .bool false)] ?_
    refine gn hK15 ?_
    obtain rfl := si h
    exact we_ret (pr0 [.tmp 6] [.bool false] ⟨rfl, hS10⟩)
   ·rw [hq3] at h
    simp only [] at h
    refine we_iter (A := modes_Open.A1 w0 x0 l1 A1 c1 x2) (B := modes_Open.B1 w0) hq3 (fun a hF => ⟨hS3, hF.weaken ea⟩) (fun s o hf a w hA Q hQ => modes_Open_r1 K w0 x0 l1 A1 c1 x2 hR1 hL1 hc3 s o hf a w hA Q hQ) ?_
    rintro _ a w1 _ ⟨rfl, hb⟩
    obtain rfl := si h
    exact hb
 ·rw [hq2] at h
  simp only [] at h
  refine we_keep (e' := [(0, vI x0), (1, .slice A1 l1.length c1), (2, vI x2), (6, .bool false)]) ea (modes_Open_p0 K w0 x0 l1 A1 c1 x2 hR1 hL1 _ hq2 _ hS _ ?_)
  rintro _ a w1 ⟨_, rfl, hb⟩
  obtain rfl := si h
  exact hb

/-! punctual/punctuallaw.opens -/
abbrev opens.Post (w0 : World) (r : Bool) (e : Ending) (w : World) : Prop := e = .returned (.bool r) ∧ St w0 w []
def opens.f (K : Nat) : Option Bool :=
 match modes_Supply.f K 6 ([(⟨1, 2⟩ : SWindow), (⟨5, 1⟩ : SWindow)] : List SWindow) 2 7 with
 | none => none
 | some r1 =>
  match modes_Least.f K 6 ([(⟨1, 2⟩ : SWindow), (⟨5, 1⟩ : SWindow)] : List SWindow) 3 with
  | none => none
  | some r2 =>
   match modes_Within.f K ([(⟨⟨#[97]⟩, 2, 9, 9, 0, 0, 0⟩ : STask)] : List STask) 0 6 ([(⟨1, 2⟩ : SWindow), (⟨5, 1⟩ : SWindow)] : List SWindow) with
   | none => none
   | some r3 =>
    if r1.2.Code = 0 then
     if r2.2.Code = 0 then
      if r3.2.Code = 0 then
       if r1.1 = 4 then
        if r2.1 = 1 then
         if r3.1 = 5 then
          match modes_Open.f K 6 ([(⟨1, 2⟩ : SWindow), (⟨5, 1⟩ : SWindow)] : List SWindow) 7 with
          | none => none
          | some r4 =>
           if r4 = true then
            match modes_Open.f K 6 ([(⟨1, 2⟩ : SWindow), (⟨5, 1⟩ : SWindow)] : List SWindow) 6 with
            | none => none
            | some r5 =>
             some (!r5)
           else
            some false
         else
          some false
        else
         some false
       else
        some false
      else
       some false
     else
      some false
    else
     some false
theorem opens_ok (K : Nat)  (w0 : World) (r : Bool) (h : opens.f K = some r) :
  Calls Tryd.prog 22 #[] w0 (opens.Post w0 r) := by
 have hS := St.start w0
 unfold opens.f at h
 refine calls_enter (n := 62) (args := []) (fn := Tryd.f22) rfl rfl rfl rfl ?_
 show WE _ _ _ _ [] _
 refine ws fun K1 hK1 => ?_
 refine wr [(0, 0)] ?_
 refine gb0 [0] [(0, .bool false)] ?_
 refine gn hK1 ?_
 refine ws fun K2 hK2 => ?_
 refine wr [(0, 0), (1, 0), (2, 1), (3, 0)] ?_
 refine gb0 [0, 1] [(9, .agg #[vI 5, vI 1]), (8, .agg #[vI 1, vI 2])] ?_
 refine gw (some 10) (.cells #[vI 1, vI 2, vI 5, vI 1] 55) (fun b => .slice (some ⟨b, 0, none⟩) 2 2) hS fun b1 w1 hx1 hS1 => ?_
 refine gb0 [3] [(1, .slice (some ⟨b1, 0, none⟩) 2 2)] ?_
 refine gn hK2 ?_
 refine ws fun K3 hK3 => ?_
 refine wr [(0, 0), (1, 1), (2, 0), (3, 0), (4, 0), (5, 1), (6, 0), (7, 2)] ?_
 rcases hq1 : modes_Supply.f K 6 ([(⟨1, 2⟩ : SWindow), (⟨5, 1⟩ : SWindow)] : List SWindow) 2 7 with _ | r1
 ·rw [hq1] at h; cases h
 rw [hq1] at h
 simp only [] at h
 refine gb0 [0] [(12, .slice (some ⟨b1, 0, none⟩) 2 2)] ?_
 refine ge_call (d := some 13) (f := 76) (args := #[vI 6, .slice (some ⟨b1, 0, none⟩) 2 2, vI 2, vI 7]) (by kernel_rfl) (modes_Supply_ok K 6 ([(⟨1, 2⟩ : SWindow), (⟨5, 1⟩ : SWindow)] : List SWindow) (some ⟨b1, 0, none⟩) 2 2 7 _ (hS1.rdBlk 0 ([(⟨1, 2⟩ : SWindow), (⟨5, 1⟩ : SWindow)] : List SWindow) rfl rfl rfl) (Nat.le_refl _) _ hq1) ?_
 rintro _ w2 ⟨rfl, hS2⟩
 refine ⟨_, rfl, hS2.below, ?_⟩
 have hS3 := hS1.call hS2
 refine gb0 [2, 3, 4] [(15, .agg #[vI r1.2.Code, vI r1.2.At]), (14, vI r1.1), (11, .tuple #[vI r1.1, .agg #[vI r1.2.Code, vI r1.2.At]])] ?_
 refine gw (some 3) (.cells #[vI 0, vI 0] 39) (fun b => pP b 0) hS3 fun b2 w3 hx2 hS4 => ?_
 refine gb0 [6] [(2, vI r1.1)] ?_
 refine gs b2 0 #[vI 0, vI 0] 39 [vI r1.2.Code, vI r1.2.At] hS4 fun w4 hS5 => ?_
 have hS6 : St w0 w4 [Own.blk b2 (.cells #[vI r1.2.Code, vI r1.2.At] 39 (0, 0)), Own.blk b1 (.cells #[vI 1, vI 2, vI 5, vI 1] 55 (0, 0))] := hS5
 refine gn hK3 ?_
 refine ws fun K4 hK4 => ?_
 refine wr [(0, 0), (1, 1), (2, 0), (3, 0), (4, 0), (5, 1), (6, 0), (7, 2)] ?_
 rcases hq2 : modes_Least.f K 6 ([(⟨1, 2⟩ : SWindow), (⟨5, 1⟩ : SWindow)] : List SWindow) 3 with _ | r2
 ·rw [hq2] at h; cases h
 rw [hq2] at h
 simp only [] at h
 refine gb0 [0] [(17, .slice (some ⟨b1, 0, none⟩) 2 2)] ?_
 refine ge_call (d := some 18) (f := 77) (args := #[vI 6, .slice (some ⟨b1, 0, none⟩) 2 2, vI 3]) (by kernel_rfl) (modes_Least_ok K 6 ([(⟨1, 2⟩ : SWindow), (⟨5, 1⟩ : SWindow)] : List SWindow) (some ⟨b1, 0, none⟩) 2 3 _ (hS6.rdBlk 1 ([(⟨1, 2⟩ : SWindow), (⟨5, 1⟩ : SWindow)] : List SWindow) rfl rfl rfl) (Nat.le_refl _) _ hq2) ?_
 rintro _ w5 ⟨rfl, hS7⟩
 refine ⟨_, rfl, hS7.below, ?_⟩
 have hS8 := hS6.call hS7
 refine gb0 [2, 3, 4] [(20, .agg #[vI r2.2.Code, vI r2.2.At]), (19, vI r2.1), (16, .tuple #[vI r2.1, .agg #[vI r2.2.Code, vI r2.2.At]])] ?_
 refine gw (some 5) (.cells #[vI 0, vI 0] 39) (fun b => pP b 0) hS8 fun b3 w6 hx3 hS9 => ?_
 refine gb0 [6] [(4, vI r2.1)] ?_
 refine gs b3 0 #[vI 0, vI 0] 39 [vI r2.2.Code, vI r2.2.At] hS9 fun w7 hS10 => ?_
 have hS11 : St w0 w7 [Own.blk b3 (.cells #[vI r2.2.Code, vI r2.2.At] 39 (0, 0)), Own.blk b2 (.cells #[vI r1.2.Code, vI r1.2.At] 39 (0, 0)), Own.blk b1 (.cells #[vI 1, vI 2, vI 5, vI 1] 55 (0, 0))] := hS10
 refine gn hK4 ?_
 refine ws fun K5 hK5 => ?_
 refine wr [(0, 0), (1, 1), (2, 0), (3, 1), (4, 0), (5, 0), (6, 0), (7, 1), (8, 0), (9, 2)] ?_
 refine gb0 [0] [(22, .agg #[.string (⟨#[97]⟩), vI 2, vI 9, vI 9, vI 0, vI 0, vI 0])] ?_
 refine gw (some 23) (.cells #[.string (⟨#[97]⟩), vI 2, vI 9, vI 9, vI 0, vI 0, vI 0] 51) (fun b => .slice (some ⟨b, 0, none⟩) 1 1) hS11 fun b4 w8 hx4 hS12 => ?_
 rcases hq3 : modes_Within.f K ([(⟨⟨#[97]⟩, 2, 9, 9, 0, 0, 0⟩ : STask)] : List STask) 0 6 ([(⟨1, 2⟩ : SWindow), (⟨5, 1⟩ : SWindow)] : List SWindow) with _ | r3
 ·rw [hq3] at h; cases h
 rw [hq3] at h
 simp only [] at h
 refine gb0 [2] [(24, .slice (some ⟨b1, 0, none⟩) 2 2)] ?_
 refine ge_call (d := some 25) (f := 26) (args := #[.slice (some ⟨b4, 0, none⟩) 1 1, vI 0, vI 6, .slice (some ⟨b1, 0, none⟩) 2 2]) (by kernel_rfl) (modes_Within_ok K ([(⟨⟨#[97]⟩, 2, 9, 9, 0, 0, 0⟩ : STask)] : List STask) (some ⟨b4, 0, none⟩) 1 0 6 ([(⟨1, 2⟩ : SWindow), (⟨5, 1⟩ : SWindow)] : List SWindow) (some ⟨b1, 0, none⟩) 2 _ (hS12.rdBlk 0 ([(⟨⟨#[97]⟩, 2, 9, 9, 0, 0, 0⟩ : STask)] : List STask) rfl rfl rfl) (Nat.le_refl _) (hS12.rdBlk 3 ([(⟨1, 2⟩ : SWindow), (⟨5, 1⟩ : SWindow)] : List SWindow) rfl rfl rfl) (Nat.le_refl _) _ hq3) ?_
 rintro _ w9 ⟨rfl, hS13⟩
 refine ⟨_, rfl, hS13.below, ?_⟩
 have hS14 := hS12.call hS13
 refine gb0 [4, 5, 6] [(27, .agg #[vI r3.2.Code, vI r3.2.At]), (26, vI r3.1), (21, .tuple #[vI r3.1, .agg #[vI r3.2.Code, vI r3.2.At]])] ?_
 refine gw (some 7) (.cells #[vI 0, vI 0] 39) (fun b => pP b 0) hS14 fun b5 w10 hx5 hS15 => ?_
 refine gb0 [8] [(6, vI r3.1)] ?_
 refine gs b5 0 #[vI 0, vI 0] 39 [vI r3.2.Code, vI r3.2.At] hS15 fun w11 hS16 => ?_
 have hS17 : St w0 w11 [Own.blk b5 (.cells #[vI r3.2.Code, vI r3.2.At] 39 (0, 0)), Own.blk b4 (.cells #[.string (⟨#[97]⟩), vI 2, vI 9, vI 9, vI 0, vI 0, vI 0] 51 (0, 0)), Own.blk b3 (.cells #[vI r2.2.Code, vI r2.2.At] 39 (0, 0)), Own.blk b2 (.cells #[vI r1.2.Code, vI r1.2.At] 39 (0, 0)), Own.blk b1 (.cells #[vI 1, vI 2, vI 5, vI 1] 55 (0, 0))] := hS16
 refine gn hK5 ?_
 refine ws fun K6 hK6 => ?_
 refine wr [(0, 0), (1, 0), (2, 0), (3, 0), (4, 0), (5, 0), (6, 0), (7, 0), (8, 0), (9, 0), (10, 0), (11, 0), (12, 0), (13, 0), (14, 0), (15, 0), (16, 0), (17, 0), (18, 0), (19, 0), (20, 0), (21, 0), (22, 0), (23, 0), (24, 0), (25, 0), (26, 0), (27, 1), (28, 0), (29, 0), (30, 0), (31, 1), (32, 0), (33, 0), (34, 0)] ?_
 refine gb [0, 1, 2, 3] [(31, .bool (r1.2.Code == 0)), (30, .bool (r1.2.Code == 0)), (29, vI r1.2.Code), (28, pP b2 0)] [.loaded ⟨b2, 0, none⟩ (vI r1.2.Code)] ⟨hS17.c 3, trivial⟩ ?_
 by_cases hc1 : r1.2.Code = 0
 ·rw [if_pos hc1] at h
  refine gk 31 (r1.2.Code == 0) true (beq_iff_eq.2 hc1) ?_
  refine gb [4, 5, 6, 7, 8] [(36, .bool (r2.2.Code == 0)), (35, .bool (r2.2.Code == 0)), (34, .bool (r2.2.Code == 0)), (33, vI r2.2.Code), (32, pP b3 0)] [.loaded ⟨b3, 0, none⟩ (vI r2.2.Code)] ⟨hS17.c 2, trivial⟩ ?_
  by_cases hc2 : r2.2.Code = 0
  ·rw [if_pos hc2] at h
   refine gk 36 (r2.2.Code == 0) true (beq_iff_eq.2 hc2) ?_
   refine gb [9, 10, 11, 12, 13] [(41, .bool (r3.2.Code == 0)), (40, .bool (r3.2.Code == 0)), (39, .bool (r3.2.Code == 0)), (38, vI r3.2.Code), (37, pP b5 0)] [.loaded ⟨b5, 0, none⟩ (vI r3.2.Code)] ⟨hS17.c 0, trivial⟩ ?_
   by_cases hc3 : r3.2.Code = 0
   ·rw [if_pos hc3] at h
    refine gk 41 (r3.2.Code == 0) true (beq_iff_eq.2 hc3) ?_
    refine gb0 [14, 15, 16, 17] [(45, .bool (r1.1 == 4)), (44, .bool (r1.1 == 4)), (43, .bool (r1.1 == 4)), (42, vI r1.1)] ?_
    by_cases hc4 : r1.1 = 4
    ·rw [if_pos hc4] at h
     refine gk 45 (r1.1 == 4) true (beq_iff_eq.2 hc4) ?_
     refine gb0 [18, 19, 20, 21] [(49, .bool (r2.1 == 1)), (48, .bool (r2.1 == 1)), (47, .bool (r2.1 == 1)), (46, vI r2.1)] ?_
     by_cases hc5 : r2.1 = 1
     ·rw [if_pos hc5] at h
      refine gk 49 (r2.1 == 1) true (beq_iff_eq.2 hc5) ?_
      refine gb0 [22, 23, 24, 25] [(53, .bool (r3.1 == 5)), (52, .bool (r3.1 == 5)), (51, .bool (r3.1 == 5)), (50, vI r3.1)] ?_
      by_cases hc6 : r3.1 = 5
      ·rw [if_pos hc6] at h
       refine gk 53 (r3.1 == 5) true (beq_iff_eq.2 hc6) ?_
       rcases hq4 : modes_Open.f K 6 ([(⟨1, 2⟩ : SWindow), (⟨5, 1⟩ : SWindow)] : List SWindow) 7 with _ | r4
       ·rw [hq4] at h; cases h
       rw [hq4] at h
       simp only [] at h
       refine gb0 [26] [(54, .slice (some ⟨b1, 0, none⟩) 2 2)] ?_
       refine ge_call (d := some 55) (f := 78) (args := #[vI 6, .slice (some ⟨b1, 0, none⟩) 2 2, vI 7]) (by kernel_rfl) (modes_Open_ok K 6 ([(⟨1, 2⟩ : SWindow), (⟨5, 1⟩ : SWindow)] : List SWindow) (some ⟨b1, 0, none⟩) 2 7 _ (hS17.rdBlk 4 ([(⟨1, 2⟩ : SWindow), (⟨5, 1⟩ : SWindow)] : List SWindow) rfl rfl rfl) (Nat.le_refl _) _ hq4) ?_
       rintro _ w12 ⟨rfl, hS18⟩
       refine ⟨_, rfl, hS18.below, ?_⟩
       have hS19 := hS17.call hS18
       refine gb0 [28, 29] [(57, .bool r4), (56, .bool r4)] ?_
       by_cases hc7 : r4 = true
       ·rw [if_pos hc7] at h
        refine gk 57 r4 true hc7 ?_
        rcases hq5 : modes_Open.f K 6 ([(⟨1, 2⟩ : SWindow), (⟨5, 1⟩ : SWindow)] : List SWindow) 6 with _ | r5
        ·rw [hq5] at h; cases h
        rw [hq5] at h
        simp only [] at h
        refine gb0 [30] [(58, .slice (some ⟨b1, 0, none⟩) 2 2)] ?_
        refine ge_call (d := some 59) (f := 78) (args := #[vI 6, .slice (some ⟨b1, 0, none⟩) 2 2, vI 6]) (by kernel_rfl) (modes_Open_ok K 6 ([(⟨1, 2⟩ : SWindow), (⟨5, 1⟩ : SWindow)] : List SWindow) (some ⟨b1, 0, none⟩) 2 6 _ (hS19.rdBlk 4 ([(⟨1, 2⟩ : SWindow), (⟨5, 1⟩ : SWindow)] : List SWindow) rfl rfl rfl) (Nat.le_refl _) _ hq5) ?_
        rintro _ w13 ⟨rfl, hS20⟩
        refine ⟨_, rfl, hS20.below, ?_⟩
        have hS21 := hS19.call hS20
        refine gb0 [32, 33, 34] [(0, .bool (!r5)), (61, .bool (!r5)), (60, .bool (!r5))] ?_
        refine gn hK6 ?_
        have hS22 := hS21.takeN 0
        obtain rfl := si h
        exact we_ret (pr0 [.tmp 0] [.bool (!r5)] ⟨rfl, hS22⟩)
       ·rw [if_neg hc7] at h
        refine gk 57 r4 false (Bool.eq_false_iff.2 hc7) ?_
        refine gb0 [30] [(58, undef)] ?_
        refine ge_off rfl rfl rfl (by kernel_rfl) ?_
        refine gb0 [32, 33, 34] [(0, .bool false), (61, .bool false), (60, undef)] ?_
        refine gn hK6 ?_
        have hS23 := hS19.takeN 0
        obtain rfl := si h
        exact we_ret (pr0 [.tmp 0] [.bool false] ⟨rfl, hS23⟩)
      ·rw [if_neg hc6] at h
       refine gk 53 (r3.1 == 5) false (beq_eq_false_iff_ne.2 hc6) ?_
       refine gb0 [26] [(54, undef)] ?_
       refine ge_off rfl rfl rfl (by kernel_rfl) ?_
       refine gb0 [28, 29, 30] [(58, undef), (57, .bool false), (56, .bool false)] ?_
       refine ge_off rfl rfl rfl (by kernel_rfl) ?_
       refine gb0 [32, 33, 34] [(0, .bool false), (61, .bool false), (60, undef)] ?_
       refine gn hK6 ?_
       have hS24 := hS17.takeN 0
       obtain rfl := si h
       exact we_ret (pr0 [.tmp 0] [.bool false] ⟨rfl, hS24⟩)
     ·rw [if_neg hc5] at h
      refine gk 49 (r2.1 == 1) false (beq_eq_false_iff_ne.2 hc5) ?_
      refine gb0 [22, 23, 24, 25, 26] [(54, undef), (53, .bool false), (52, .bool false), (51, undef), (50, undef)] ?_
      refine ge_off rfl rfl rfl (by kernel_rfl) ?_
      refine gb0 [28, 29, 30] [(58, undef), (57, .bool false), (56, .bool false)] ?_
      refine ge_off rfl rfl rfl (by kernel_rfl) ?_
      refine gb0 [32, 33, 34] [(0, .bool false), (61, .bool false), (60, undef)] ?_
      refine gn hK6 ?_
      have hS25 := hS17.takeN 0
      obtain rfl := si h
      exact we_ret (pr0 [.tmp 0] [.bool false] ⟨rfl, hS25⟩)
    ·rw [if_neg hc4] at h
     refine gk 45 (r1.1 == 4) false (beq_eq_false_iff_ne.2 hc4) ?_
     refine gb0 [18, 19, 20, 21, 22, 23, 24, 25, 26] [(54, undef), (53, .bool false), (52, .bool false), (51, undef), (50, undef), (49, .bool false), (48, .bool false), (47, undef), (46, undef)] ?_
     refine ge_off rfl rfl rfl (by kernel_rfl) ?_
     refine gb0 [28, 29, 30] [(58, undef), (57, .bool false), (56, .bool false)] ?_
     refine ge_off rfl rfl rfl (by kernel_rfl) ?_
     refine gb0 [32, 33, 34] [(0, .bool false), (61, .bool false), (60, undef)] ?_
     refine gn hK6 ?_
     have hS26 := hS17.takeN 0
     obtain rfl := si h
     exact we_ret (pr0 [.tmp 0] [.bool false] ⟨rfl, hS26⟩)
   ·rw [if_neg hc3] at h
    refine gk 41 (r3.2.Code == 0) false (beq_eq_false_iff_ne.2 hc3) ?_
    refine gb0 [14, 15, 16, 17, 18, 19, 20, 21, 22, 23, 24, 25, 26] [(54, undef), (53, .bool false), (52, .bool false), (51, undef), (50, undef), (49, .bool false), (48, .bool false), (47, undef), (46, undef), (45, .bool false), (44, .bool false), (43, undef), (42, undef)] ?_
    refine ge_off rfl rfl rfl (by kernel_rfl) ?_
    refine gb0 [28, 29, 30] [(58, undef), (57, .bool false), (56, .bool false)] ?_
    refine ge_off rfl rfl rfl (by kernel_rfl) ?_
    refine gb0 [32, 33, 34] [(0, .bool false), (61, .bool false), (60, undef)] ?_
    refine gn hK6 ?_
    have hS27 := hS17.takeN 0
    obtain rfl := si h
    exact we_ret (pr0 [.tmp 0] [.bool false] ⟨rfl, hS27⟩)
  ·rw [if_neg hc2] at h
   refine gk 36 (r2.2.Code == 0) false (beq_eq_false_iff_ne.2 hc2) ?_
   refine gb0 [9, 10, 11, 12, 13, 14, 15, 16, 17, 18, 19, 20, 21, 22, 23, 24, 25, 26] [(54, undef), (53, .bool false), (52, .bool false), (51, undef), (50, undef), (49, .bool false), (48, .bool false), (47, undef), (46, undef), (45, .bool false), (44, .bool false), (43, undef), (42, undef), (41, .bool false), (40, .bool false), (39, undef), (38, undef), (37, undef)] ?_
   refine ge_off rfl rfl rfl (by kernel_rfl) ?_
   refine gb0 [28, 29, 30] [(58, undef), (57, .bool false), (56, .bool false)] ?_
   refine ge_off rfl rfl rfl (by kernel_rfl) ?_
   refine gb0 [32, 33, 34] [(0, .bool false), (61, .bool false), (60, undef)] ?_
   refine gn hK6 ?_
   have hS28 := hS17.takeN 0
   obtain rfl := si h
   exact we_ret (pr0 [.tmp 0] [.bool false] ⟨rfl, hS28⟩)
 ·rw [if_neg hc1] at h
  refine gk 31 (r1.2.Code == 0) false (beq_eq_false_iff_ne.2 hc1) ?_
  refine gb0 [4, 5, 6, 7, 8, 9, 10, 11, 12, 13, 14, 15, 16, 17, 18, 19, 20, 21, 22, 23, 24, 25, 26] [(54, undef), (53, .bool false), (52, .bool false), (51, undef), (50, undef), (49, .bool false), (48, .bool false), (47, undef), (46, undef), (45, .bool false), (44, .bool false), (43, undef), (42, undef), (41, .bool false), (40, .bool false), (39, undef), (38, undef), (37, undef), (36, .bool false), (35, .bool false), (34, undef), (33, undef), (32, undef)] ?_
  refine ge_off rfl rfl rfl (by kernel_rfl) ?_
  refine gb0 [28, 29, 30] [(58, undef), (57, .bool false), (56, .bool false)] ?_
  refine ge_off rfl rfl rfl (by kernel_rfl) ?_
  refine gb0 [32, 33, 34] [(0, .bool false), (61, .bool false), (60, undef)] ?_
  refine gn hK6 ?_
  have hS29 := hS17.takeN 0
  obtain rfl := si h
  exact we_ret (pr0 [.tmp 0] [.bool false] ⟨rfl, hS29⟩)

/-! punctual/punctuallaw.few -/
abbrev few.Post (w0 : World) (r : Bool) (e : Ending) (w : World) : Prop := e = .returned (.bool r) ∧ St w0 w []
def few.f (x0 : Int) : Bool :=
 decide (x0 ≤ 5000)
theorem few_ok (x0 : Int) (w0 : World) (r : Bool) (h : few.f x0 = r) :
  Calls Tryd.prog 11 #[vI x0] w0 (few.Post w0 r) := by
 have hS := St.start w0
 unfold few.f at h
 refine calls_enter (n := 5) (args := [vI x0]) (fn := Tryd.f11) rfl rfl rfl rfl ?_
 show WE _ _ _ _ [(0, vI x0)] _
 refine ws fun K1 hK1 => ?_
 refine wr [(0, 0)] ?_
 refine gb0 [0] [(2, .bool false)] ?_
 refine gn hK1 ?_
 refine ws fun K2 hK2 => ?_
 refine wr [(0, 0), (1, 0), (2, 0)] ?_
 refine gb0 [0, 1, 2] [(2, .bool (decide (x0 ≤ 5000))), (4, .bool (decide (x0 ≤ 5000))), (3, vI x0)] ?_
 refine gn hK2 ?_
 subst h
 exact we_ret (pr0 [.tmp 2] [.bool (decide (x0 ≤ 5000))] ⟨rfl, hS⟩)
end Go.Proofs.YtcogbnkioobmkaaDoor.GV
