/- Walks of single functions, written by a program of this work. -/
import Derived.Test.YtlipdmblinjjaaaGWFixedExact3
namespace Go.Proofs.Ytlipdmblinjjaaa.GV
open Go Go.RowKit
set_option linter.unusedVariables false
set_option linter.unusedSimpArgs false
set_option maxRecDepth 100000

/-! punctual/tasks.Jobs -/
abbrev tasks_Jobs.Post (w0 : World) (r : (List SJob) × SFault) (e : Ending) (w : World) : Prop := ∃ (v0 : Value), e = .returned (.tuple #[v0, .agg #[vI r.2.Code, vI r.2.At]]) ∧ St w0 w [Own.of v0 59 r.1]
def tasks_Jobs.p0 (l1 : List SCome) (l2 : List Int) (l3 : List Int) : Option (Unit ⊕ ((List SJob) × SFault)) :=
  if (l2.length : Int) = (l1.length : Int) then
   if (l3.length : Int) = (l1.length : Int) then
    some (.inl ())
   else
    some (.inr (([] : List SJob), (⟨2, 0⟩ : SFault)))
  else
   some (.inr (([] : List SJob), (⟨2, 0⟩ : SFault)))
def tasks_Jobs.p2 (l2 : List Int) (l3 : List Int) (i1 : Nat) (e2 : STask) : Option (Unit ⊕ ((List SJob) × SFault)) :=
  match l2[i1]? with
  | none => none
  | some e3 =>
   if e3 < 0 then
    some (.inr (([] : List SJob), (⟨3, (i1 : Int)⟩ : SFault)))
   else
    if e3 > e2.J then
     some (.inr (([] : List SJob), (⟨3, (i1 : Int)⟩ : SFault)))
    else
     match l3[i1]? with
     | none => none
     | some e4 =>
      if e4 < 1 then
       some (.inr (([] : List SJob), (⟨3, (i1 : Int)⟩ : SFault)))
      else
       if e4 > e2.C then
        some (.inr (([] : List SJob), (⟨3, (i1 : Int)⟩ : SFault)))
       else
        some (.inl ())
def tasks_Jobs.r1 (l0 : List STask) (l1 : List SCome) (l2 : List Int) (l3 : List Int) : (List SJob) × Nat → Option (((List SJob) × Nat) ⊕ ((List SJob) ⊕ ((List SJob) × SFault)))
 | (m1, i1) =>
  if (i1 : Int) < (l1.length : Int) then
   match l1[i1]? with
   | none => none
   | some e1 =>
    if 0 ≤ e1.Task then
     match l0[(e1.Task).toNat]? with
     | none => none
     | some e2 =>
      match tasks_Jobs.p2 l2 l3 i1 e2 with
      | none => none
      | some (.inl _) =>
       match l2[i1]? with
       | none => none
       | some e5 =>
        match l3[i1]? with
        | none => none
        | some e6 =>
         if m1.length < 3518437208883 then
          some (.inl ((m1 ++ [(⟨e1.Task, IntKind.i64.wrap (e1.At + e5), e6, IntKind.i64.wrap (e1.At + e2.D), e2.P⟩ : SJob)]), (i1 + 1)))
         else
          none
      | some (.inr rr1) =>
       some (.inr (.inr rr1))
    else
     none
  else
   some (.inr (.inl m1))
def tasks_Jobs.f (K : Nat) (l0 : List STask) (l1 : List SCome) (l2 : List Int) (l3 : List Int) : Option ((List SJob) × SFault) :=
 match tasks_Legal.f K l0 l1 with
 | none => none
 | some r1 =>
  if r1.Code = 0 then
   match tasks_Jobs.p0 l1 l2 l3 with
   | none => none
   | some (.inl _) =>
    match iter (tasks_Jobs.r1 l0 l1 l2 l3) K (([] : List SJob), 0) with
    | none => none
    | some (.inl m3) =>
     some (m3, (⟨0, 0⟩ : SFault))
    | some (.inr rr2) =>
     some rr2
   | some (.inr rr3) =>
    some rr3
  else
   some (([] : List SJob), r1)
abbrev tasks_Jobs.A0 (w0 : World) (l0 : List STask) (A0 : Option Addr) (c0 : Nat) (l1 : List SCome) (A1 : Option Addr) (c1 : Nat) (l2 : List Int) (A2 : Option Addr) (c2 : Nat) (l3 : List Int) (A3 : Option Addr) (c3 : Nat) (b1 : Nat) : Unit → Act → World → Prop := fun (s : Unit) a w => St w0 w [Own.blk b1 (.cells #[vI 0, vI 0] 29 (0, 0))] ∧ Frm 106 a [(0, .slice A0 l0.length c0), (1, .slice A1 l1.length c1), (2, .slice A2 l2.length c2), (3, .slice A3 l3.length c3), (9, pP b1 0)]
abbrev tasks_Jobs.B0 (w0 : World) : ((List SJob) × SFault) → Exit → Act → World → Prop := Rets Try.prog Try.f11 (tasks_Jobs.Post w0)
theorem tasks_Jobs_p0 (K : Nat) (w0 : World) (l0 : List STask) (A0 : Option Addr) (c0 : Nat) (l1 : List SCome) (A1 : Option Addr) (c1 : Nat) (l2 : List Int) (A2 : Option Addr) (c2 : Nat) (l3 : List Int) (A3 : Option Addr) (c3 : Nat) (hR0 : RdL w0 A0 l0) (hL0 : l0.length ≤ c0) (hR1 : RdL w0 A1 l1) (hL1 : l1.length ≤ c1) (hR2 : RdL w0 A2 l2) (hL2 : l2.length ≤ c2) (hR3 : RdL w0 A3 l3) (hL3 : l3.length ≤ c3) (b1 : Nat) (r1 : SFault) (b2 : Nat) (hc1 : r1.Code = 0) (o : Unit ⊕ ((List SJob) × SFault)) (h : tasks_Jobs.p0 l1 l2 l3 = some o) (w : World) (hS : St w0 w [Own.blk b2 (.cells #[vI r1.Code, vI r1.At] 29 (0, 0)), Own.blk b1 (.cells #[vI 0, vI 0] 29 (0, 0))]) (Q : Exit → Act → World → Prop) (hQ : ∀ x a w, Outs (tasks_Jobs.A0 w0 l0 A0 c0 l1 A1 c1 l2 A2 c2 l3 A3 c3 b1) (tasks_Jobs.B0 w0) o x a w → Q x a w) : WE Try.prog 106 (subF Try.f11 [1, 1, 0]) Q [(0, .slice A0 l0.length c0), (1, .slice A1 l1.length c1), (2, .slice A2 l2.length c2), (3, .slice A3 l3.length c3), (8, .slice none 0 0), (9, pP b1 0), (10, pP b2 0), (15, .slice A0 l0.length c0), (16, .slice A1 l1.length c1), (17, .agg #[vI r1.Code, vI r1.At]), (18, pP b2 0), (19, vI r1.Code), (20, .bool false)] w := by
 simp only [tasks_Jobs.p0] at h
 refine ws fun K6 hK6 => ?_
 refine wr [(0, 0), (1, 0), (2, 0), (3, 0), (4, 0), (5, 0), (6, 0), (7, 0), (8, 0), (9, 0), (10, 0), (11, 0)] ?_
 refine gb0 [0, 1, 2, 3, 4, 5] [(27, .bool ((l2.length : Int) != (l1.length : Int))), (26, .bool ((l2.length : Int) != (l1.length : Int))), (25, vI (l1.length : Int)), (24, .slice A1 l1.length c1), (23, vI (l2.length : Int)), (22, .slice A2 l2.length c2)] ?_
 by_cases hc2 : (l2.length : Int) = (l1.length : Int)
 ·rw [if_pos hc2] at h
  refine gk 27 ((l2.length : Int) != (l1.length : Int)) false (bne_eq_false_iff_eq.2 hc2) ?_
  refine gb0 [6, 7, 8, 9, 10, 11] [(33, .bool ((l3.length : Int) != (l1.length : Int))), (32, .bool ((l3.length : Int) != (l1.length : Int))), (31, vI (l1.length : Int)), (30, .slice A1 l1.length c1), (29, vI (l3.length : Int)), (28, .slice A3 l3.length c3)] ?_
  refine gn hK6 ?_
  by_cases hc3 : (l3.length : Int) = (l1.length : Int)
  ·rw [if_pos hc3] at h
   refine wk 33 ((l3.length : Int) != (l1.length : Int)) false (bne_eq_false_iff_eq.2 hc3) ?_
   refine we_false (by kernel_rfl) ?_
   have hS7 := hS.bring 1 rfl
   have hS8 := hS7.takeN 1
   obtain rfl := si h
   exact we_skip fun a hF => hQ _ _ _ (Outs.again ⟨hS8, hF.weaken ea⟩)
  ·rw [if_neg hc3] at h
   refine wk 33 ((l3.length : Int) != (l1.length : Int)) true (bne_iff_ne.2 hc3) ?_
   refine we_true (by kernel_rfl) ?_
   refine ws fun K7 hK7 => ?_
   refine wr [(0, 0), (1, 0), (2, 2)] ?_
   refine gb0 [0, 1] [(8, .slice none 0 0), (34, .agg #[vI 2, vI 0])] ?_
   have hS9 := hS.bring 1 rfl
   refine gs b1 0 #[vI 0, vI 0] 29 [vI 2, vI 0] hS9 fun w5 hS10 => ?_
   have hS11 : St w0 w5 [Own.blk b1 (.cells #[vI 2, vI 0] 29 (0, 0)), Own.blk b2 (.cells #[vI r1.Code, vI r1.At] 29 (0, 0))] := hS10
   refine gn hK7 ?_
   have hS12 := hS11.nil (α := SJob) 59
   have hS13 := hS12.takeN 1
   obtain rfl := si h
   exact we_ret fun a hF => hQ _ _ _ (Outs.out nofun ⟨rfl, (pr [.tmp 8, .cell 9 29] [(.slice none 0 0), .agg #[vI 2, vI 0]] [.loaded ⟨b1, 0, none⟩ (vI 2), .loaded ⟨b1, 1, none⟩ (vI 0)] ⟨hS12.c 1, hS12.c 1, trivial⟩ ⟨(.slice none 0 0), rfl, hS13⟩) a hF⟩)
 ·rw [if_neg hc2] at h
  refine gk 27 ((l2.length : Int) != (l1.length : Int)) true (bne_iff_ne.2 hc2) ?_
  refine gb0 [6, 7, 8, 9, 10, 11] [(33, .bool true), (32, undef), (31, undef), (30, undef), (29, undef), (28, undef)] ?_
  refine gn hK6 ?_
  refine we_true (by kernel_rfl) ?_
  refine ws fun K8 hK8 => ?_
  refine wr [(0, 0), (1, 0), (2, 2)] ?_
  refine gb0 [0, 1] [(8, .slice none 0 0), (34, .agg #[vI 2, vI 0])] ?_
  have hS14 := hS.bring 1 rfl
  refine gs b1 0 #[vI 0, vI 0] 29 [vI 2, vI 0] hS14 fun w6 hS15 => ?_
  have hS16 : St w0 w6 [Own.blk b1 (.cells #[vI 2, vI 0] 29 (0, 0)), Own.blk b2 (.cells #[vI r1.Code, vI r1.At] 29 (0, 0))] := hS15
  refine gn hK8 ?_
  have hS17 := hS16.nil (α := SJob) 59
  have hS18 := hS17.takeN 1
  obtain rfl := si h
  exact we_ret fun a hF => hQ _ _ _ (Outs.out nofun ⟨rfl, (pr [.tmp 8, .cell 9 29] [(.slice none 0 0), .agg #[vI 2, vI 0]] [.loaded ⟨b1, 0, none⟩ (vI 2), .loaded ⟨b1, 1, none⟩ (vI 0)] ⟨hS17.c 1, hS17.c 1, trivial⟩ ⟨(.slice none 0 0), rfl, hS18⟩) a hF⟩)
abbrev tasks_Jobs.A2 (w0 : World) (l0 : List STask) (A0 : Option Addr) (c0 : Nat) (l1 : List SCome) (A1 : Option Addr) (c1 : Nat) (l2 : List Int) (A2 : Option Addr) (c2 : Nat) (l3 : List Int) (A3 : Option Addr) (c3 : Nat) (b1 : Nat) (m1 : List SJob) (i1 : Nat) (e1 : SCome) (b3 : Nat) (e2 : STask) (b4 : Nat) (Z1 : Option Addr) (cz1 : Nat) : Unit → Act → World → Prop := fun (s : Unit) a w => St w0 w [Own.blk b4 (.cells #[.string e2.Name, vI e2.C, vI e2.T, vI e2.D, vI e2.J, vI e2.O, vI e2.P] 46 (0, 0)), Own.blk b3 (.cells #[vI e1.Task, vI e1.At] 53 (0, 0)), Own.blk b1 (.cells #[vI 0, vI 0] 29 (0, 0)), Own.of (.slice Z1 m1.length cz1) 59 m1] ∧ Frm 106 a [(0, .slice A0 l0.length c0), (2, .slice A2 l2.length c2), (3, .slice A3 l3.length c3), (9, pP b1 0), (11, (.slice Z1 m1.length cz1)), (12, vI (i1 : Int)), (13, pP b3 0), (14, pP b4 0), (35, .slice A1 l1.length c1), (36, vI (l1.length : Int)), (37, vI (i1 : Int))]
abbrev tasks_Jobs.B2 (w0 : World) : ((List SJob) × SFault) → Exit → Act → World → Prop := Rets Try.prog Try.f11 (tasks_Jobs.Post w0)
theorem tasks_Jobs_p2 (K : Nat) (w0 : World) (l0 : List STask) (A0 : Option Addr) (c0 : Nat) (l1 : List SCome) (A1 : Option Addr) (c1 : Nat) (l2 : List Int) (A2 : Option Addr) (c2 : Nat) (l3 : List Int) (A3 : Option Addr) (c3 : Nat) (hR0 : RdL w0 A0 l0) (hL0 : l0.length ≤ c0) (hR1 : RdL w0 A1 l1) (hL1 : l1.length ≤ c1) (hR2 : RdL w0 A2 l2) (hL2 : l2.length ≤ c2) (hR3 : RdL w0 A3 l3) (hL3 : l3.length ≤ c3) (b1 : Nat) (r1 : SFault) (b2 : Nat) (hc1 : r1.Code = 0) (m1 : List SJob) (i1 : Nat) (hc4 : (i1 : Int) < (l1.length : Int)) (e1 : SCome) (hx3 : l1[i1]? = some e1) (b3 : Nat) (hc5 : 0 ≤ e1.Task) (e2 : STask) (hx5 : l0[(e1.Task).toNat]? = some e2) (b4 : Nat) (Z1 : Option Addr) (cz1 : Nat) (o : Unit ⊕ ((List SJob) × SFault)) (h : tasks_Jobs.p2 l2 l3 i1 e2 = some o) (w : World) (hS : St w0 w [Own.blk b4 (.cells #[.string e2.Name, vI e2.C, vI e2.T, vI e2.D, vI e2.J, vI e2.O, vI e2.P] 46 (0, 0)), Own.blk b3 (.cells #[vI e1.Task, vI e1.At] 53 (0, 0)), Own.blk b1 (.cells #[vI 0, vI 0] 29 (0, 0)), Own.of (.slice Z1 m1.length cz1) 59 m1]) (Q : Exit → Act → World → Prop) (hQ : ∀ x a w, Outs (tasks_Jobs.A2 w0 l0 A0 c0 l1 A1 c1 l2 A2 c2 l3 A3 c3 b1 m1 i1 e1 b3 e2 b4 Z1 cz1) (tasks_Jobs.B2 w0) o x a w → Q x a w) : WE Try.prog 106 (subF Try.f11 [1, 1, 1, 1, 0, 1, 0, 0, 1, 1, 0, 0, 1, 1, 0]) Q [(0, .slice A0 l0.length c0), (2, .slice A2 l2.length c2), (3, .slice A3 l3.length c3), (9, pP b1 0), (11, (.slice Z1 m1.length cz1)), (12, vI (i1 : Int)), (13, pP b3 0), (14, pP b4 0), (35, .slice A1 l1.length c1), (36, vI (l1.length : Int)), (37, vI (i1 : Int)), (38, .bool true), (39, vI (i1 : Int)), (40, .pointer (some ⟨blkOf A1, offOf A1 + i1 * 2, none⟩)), (41, .agg #[vI e1.Task, vI e1.At]), (42, .slice A0 l0.length c0), (43, pP b3 0), (44, vI e1.Task), (45, .pointer (some ⟨blkOf A0, offOf A0 + (e1.Task).toNat * 7, none⟩)), (46, .agg #[.string e2.Name, vI e2.C, vI e2.T, vI e2.D, vI e2.J, vI e2.O, vI e2.P])] w := by
 simp only [tasks_Jobs.p2] at h
 refine ws fun K18 hK18 => ?_
 refine we_draws (by kernel_rfl) [(0, 0), (1, 0), (2, 0), (3, 0), (4, 0), (5, 0), (6, 0), (7, 0), (8, 0), (9, 0), (10, 0), (11, 0), (12, 0), (13, 0), (14, 0), (15, 0), (16, 0), (17, 0), (18, 0), (19, 0), (20, 0), (21, 0), (22, 0), (23, 0), (24, 0), (25, 0), (26, 0), (27, 0), (28, 0), (29, 0)] (by kernel_rfl) ?_
 have hS28 := hS.drew
 refine gb0 [0, 1] [(48, vI (i1 : Int)), (47, .slice A2 l2.length c2)] ?_
 rcases hx7 : l2[i1]? with _ | e3
 ·rw [hx7] at h; cases h
 rw [hx7] at h
 simp only [] at h
 refine gi 49 0 24 3 1 l2.length c2 (.tmp 47) (.tmp 48) A2 .i64 (i1 : Int) i1 ((hS28.rd hR2).eqSome (pos_of_get hx7)) rfl (lt_of_get hx7) ?_
 refine gb [3, 4, 5] [(52, .bool (decide (e3 < 0))), (51, .bool (decide (e3 < 0))), (50, vI e3)] [.loaded ⟨blkOf A2, offOf A2 + i1 * 1, none⟩ (vI e3)] ⟨RdL.cell (j := 0) (hS28.rd hR2) hx7 rfl, trivial⟩ ?_
 by_cases hc6 : e3 < 0
 ·rw [if_pos hc6] at h
  refine gk 52 (decide (e3 < 0)) true (decide_eq_true hc6) ?_
  refine gb0 [6, 7, 8, 9, 10, 11, 12, 13, 14, 15, 16, 17, 18, 19, 20, 21, 22, 23, 24, 25, 26, 27, 28, 29] [(76, .bool true), (75, undef), (74, undef), (73, undef), (72, undef), (71, undef), (70, undef), (69, undef), (68, .bool true), (67, .bool true), (66, undef), (65, undef), (64, undef), (63, undef), (62, undef), (61, .bool true), (60, .bool true), (59, undef), (58, undef), (57, undef), (56, undef), (55, undef), (54, undef), (53, undef)] ?_
  refine gn hK18 ?_
  refine we_true (by kernel_rfl) ?_
  refine ws fun K19 hK19 => ?_
  refine wr [(0, 0), (1, 0), (2, 0), (3, 2)] ?_
  refine gb0 [0, 1, 2] [(8, .slice none 0 0), (78, .agg #[vI 3, vI (i1 : Int)]), (77, vI (i1 : Int))] ?_
  have hS29 := hS28.bring 2 rfl
  refine gs b1 0 #[vI 0, vI 0] 29 [vI 3, vI (i1 : Int)] hS29 fun w12 hS30 => ?_
  have hS31 : St w0 w12 [Own.blk b1 (.cells #[vI 3, vI (i1 : Int)] 29 (0, 0)), Own.blk b4 (.cells #[.string e2.Name, vI e2.C, vI e2.T, vI e2.D, vI e2.J, vI e2.O, vI e2.P] 46 (0, 0)), Own.blk b3 (.cells #[vI e1.Task, vI e1.At] 53 (0, 0)), Own.of (.slice Z1 m1.length cz1) 59 m1] := hS30
  refine gn hK19 ?_
  have hS32 := hS31.nil (α := SJob) 59
  have hS33 := hS32.takeN 1
  obtain rfl := si h
  exact we_ret fun a hF => hQ _ _ _ (Outs.out nofun ⟨rfl, (pr [.tmp 8, .cell 9 29] [(.slice none 0 0), .agg #[vI 3, vI (i1 : Int)]] [.loaded ⟨b1, 0, none⟩ (vI 3), .loaded ⟨b1, 1, none⟩ (vI (i1 : Int))] ⟨hS32.c 1, hS32.c 1, trivial⟩ ⟨(.slice none 0 0), rfl, hS33⟩) a hF⟩)
 ·rw [if_neg hc6] at h
  refine gk 52 (decide (e3 < 0)) false (decide_eq_false hc6) ?_
  refine gb0 [6, 7] [(54, vI (i1 : Int)), (53, .slice A2 l2.length c2)] ?_
  refine gi 55 0 24 3 1 l2.length c2 (.tmp 53) (.tmp 54) A2 .i64 (i1 : Int) i1 ((hS28.rd hR2).eqSome (pos_of_get hx7)) rfl (lt_of_get hx7) ?_
  refine gb [9, 10, 11, 12, 13, 14] [(61, .bool (decide (e3 > e2.J))), (60, .bool (decide (e3 > e2.J))), (59, .bool (decide (e3 > e2.J))), (58, vI e2.J), (57, pP b4 4), (56, vI e3)] [.loaded ⟨blkOf A2, offOf A2 + i1 * 1, none⟩ (vI e3), .loaded ⟨b4, 4, none⟩ (vI e2.J)] ⟨RdL.cell (j := 0) (hS28.rd hR2) hx7 rfl, hS28.c 0, trivial⟩ ?_
  by_cases hc7 : e3 > e2.J
  ·rw [if_pos hc7] at h
   refine gk 61 (decide (e3 > e2.J)) true (decide_eq_true hc7) ?_
   refine gb0 [15, 16, 17, 18, 19, 20, 21, 22, 23, 24, 25, 26, 27, 28, 29] [(76, .bool true), (75, undef), (74, undef), (73, undef), (72, undef), (71, undef), (70, undef), (69, undef), (68, .bool true), (67, .bool true), (66, undef), (65, undef), (64, undef), (63, undef), (62, undef)] ?_
   refine gn hK18 ?_
   refine we_true (by kernel_rfl) ?_
   refine ws fun K20 hK20 => ?_
   refine wr [(0, 0), (1, 0), (2, 0), (3, 2)] ?_
   refine gb0 [0, 1, 2] [(8, .slice none 0 0), (78, .agg #[vI 3, vI (i1 : Int)]), (77, vI (i1 : Int))] ?_
   have hS34 := hS28.bring 2 rfl
   refine gs b1 0 #[vI 0, vI 0] 29 [vI 3, vI (i1 : Int)] hS34 fun w13 hS35 => ?_
   have hS36 : St w0 w13 [Own.blk b1 (.cells #[vI 3, vI (i1 : Int)] 29 (0, 0)), Own.blk b4 (.cells #[.string e2.Name, vI e2.C, vI e2.T, vI e2.D, vI e2.J, vI e2.O, vI e2.P] 46 (0, 0)), Own.blk b3 (.cells #[vI e1.Task, vI e1.At] 53 (0, 0)), Own.of (.slice Z1 m1.length cz1) 59 m1] := hS35
   refine gn hK20 ?_
   have hS37 := hS36.nil (α := SJob) 59
   have hS38 := hS37.takeN 1
   obtain rfl := si h
   exact we_ret fun a hF => hQ _ _ _ (Outs.out nofun ⟨rfl, (pr [.tmp 8, .cell 9 29] [(.slice none 0 0), .agg #[vI 3, vI (i1 : Int)]] [.loaded ⟨b1, 0, none⟩ (vI 3), .loaded ⟨b1, 1, none⟩ (vI (i1 : Int))] ⟨hS37.c 1, hS37.c 1, trivial⟩ ⟨(.slice none 0 0), rfl, hS38⟩) a hF⟩)
  ·rw [if_neg hc7] at h
   refine gk 61 (decide (e3 > e2.J)) false (decide_eq_false hc7) ?_
   refine gb0 [15, 16] [(63, vI (i1 : Int)), (62, .slice A3 l3.length c3)] ?_
   rcases hx8 : l3[i1]? with _ | e4
   ·rw [hx8] at h; cases h
   rw [hx8] at h
   simp only [] at h
   refine gi 64 0 24 3 1 l3.length c3 (.tmp 62) (.tmp 63) A3 .i64 (i1 : Int) i1 ((hS28.rd hR3).eqSome (pos_of_get hx8)) rfl (lt_of_get hx8) ?_
   refine gb [18, 19, 20, 21] [(68, .bool (decide (e4 < 1))), (67, .bool (decide (e4 < 1))), (66, .bool (decide (e4 < 1))), (65, vI e4)] [.loaded ⟨blkOf A3, offOf A3 + i1 * 1, none⟩ (vI e4)] ⟨RdL.cell (j := 0) (hS28.rd hR3) hx8 rfl, trivial⟩ ?_
   by_cases hc8 : e4 < 1
   ·rw [if_pos hc8] at h
    refine gk 68 (decide (e4 < 1)) true (decide_eq_true hc8) ?_
    refine gb0 [22, 23, 24, 25, 26, 27, 28, 29] [(76, .bool true), (75, undef), (74, undef), (73, undef), (72, undef), (71, undef), (70, undef), (69, undef)] ?_
    refine gn hK18 ?_
    refine we_true (by kernel_rfl) ?_
    refine ws fun K21 hK21 => ?_
    refine wr [(0, 0), (1, 0), (2, 0), (3, 2)] ?_
    refine gb0 [0, 1, 2] [(8, .slice none 0 0), (78, .agg #[vI 3, vI (i1 : Int)]), (77, vI (i1 : Int))] ?_
    have hS39 := hS28.bring 2 rfl
    refine gs b1 0 #[vI 0, vI 0] 29 [vI 3, vI (i1 : Int)] hS39 fun w14 hS40 => ?_
    have hS41 : St w0 w14 [Own.blk b1 (.cells #[vI 3, vI (i1 : Int)] 29 (0, 0)), Own.blk b4 (.cells #[.string e2.Name, vI e2.C, vI e2.T, vI e2.D, vI e2.J, vI e2.O, vI e2.P] 46 (0, 0)), Own.blk b3 (.cells #[vI e1.Task, vI e1.At] 53 (0, 0)), Own.of (.slice Z1 m1.length cz1) 59 m1] := hS40
    refine gn hK21 ?_
    have hS42 := hS41.nil (α := SJob) 59
    have hS43 := hS42.takeN 1
    obtain rfl := si h
    exact we_ret fun a hF => hQ _ _ _ (Outs.out nofun ⟨rfl, (pr [.tmp 8, .cell 9 29] [(.slice none 0 0), .agg #[vI 3, vI (i1 : Int)]] [.loaded ⟨b1, 0, none⟩ (vI 3), .loaded ⟨b1, 1, none⟩ (vI (i1 : Int))] ⟨hS42.c 1, hS42.c 1, trivial⟩ ⟨(.slice none 0 0), rfl, hS43⟩) a hF⟩)
   ·rw [if_neg hc8] at h
    refine gk 68 (decide (e4 < 1)) false (decide_eq_false hc8) ?_
    refine gb0 [22, 23] [(70, vI (i1 : Int)), (69, .slice A3 l3.length c3)] ?_
    refine gi 71 0 24 3 1 l3.length c3 (.tmp 69) (.tmp 70) A3 .i64 (i1 : Int) i1 ((hS28.rd hR3).eqSome (pos_of_get hx8)) rfl (lt_of_get hx8) ?_
    refine gb [25, 26, 27, 28, 29] [(76, .bool (decide (e4 > e2.C))), (75, .bool (decide (e4 > e2.C))), (74, vI e2.C), (73, pP b4 1), (72, vI e4)] [.loaded ⟨blkOf A3, offOf A3 + i1 * 1, none⟩ (vI e4), .loaded ⟨b4, 1, none⟩ (vI e2.C)] ⟨RdL.cell (j := 0) (hS28.rd hR3) hx8 rfl, hS28.c 0, trivial⟩ ?_
    refine gn hK18 ?_
    by_cases hc9 : e4 > e2.C
    ·rw [if_pos hc9] at h
     refine wk 76 (decide (e4 > e2.C)) true (decide_eq_true hc9) ?_
     refine we_true (by kernel_rfl) ?_
     refine ws fun K22 hK22 => ?_
     refine wr [(0, 0), (1, 0), (2, 0), (3, 2)] ?_
     refine gb0 [0, 1, 2] [(8, .slice none 0 0), (78, .agg #[vI 3, vI (i1 : Int)]), (77, vI (i1 : Int))] ?_
     have hS44 := hS28.bring 2 rfl
     refine gs b1 0 #[vI 0, vI 0] 29 [vI 3, vI (i1 : Int)] hS44 fun w15 hS45 => ?_
     have hS46 : St w0 w15 [Own.blk b1 (.cells #[vI 3, vI (i1 : Int)] 29 (0, 0)), Own.blk b4 (.cells #[.string e2.Name, vI e2.C, vI e2.T, vI e2.D, vI e2.J, vI e2.O, vI e2.P] 46 (0, 0)), Own.blk b3 (.cells #[vI e1.Task, vI e1.At] 53 (0, 0)), Own.of (.slice Z1 m1.length cz1) 59 m1] := hS45
     refine gn hK22 ?_
     have hS47 := hS46.nil (α := SJob) 59
     have hS48 := hS47.takeN 1
     obtain rfl := si h
     exact we_ret fun a hF => hQ _ _ _ (Outs.out nofun ⟨rfl, (pr [.tmp 8, .cell 9 29] [(.slice none 0 0), .agg #[vI 3, vI (i1 : Int)]] [.loaded ⟨b1, 0, none⟩ (vI 3), .loaded ⟨b1, 1, none⟩ (vI (i1 : Int))] ⟨hS47.c 1, hS47.c 1, trivial⟩ ⟨(.slice none 0 0), rfl, hS48⟩) a hF⟩)
    ·rw [if_neg hc9] at h
     refine wk 76 (decide (e4 > e2.C)) false (decide_eq_false hc9) ?_
     refine we_false (by kernel_rfl) ?_
     have hS49 := hS28.bring 3 rfl
     have hS50 := hS49.bring 3 rfl
     have hS51 := hS50.bring 3 rfl
     have hS52 := hS51.bring 3 rfl
     obtain rfl := si h
     exact we_skip fun a hF => hQ _ _ _ (Outs.again ⟨hS52, hF.weaken ea⟩)
abbrev tasks_Jobs.A1 (w0 : World) (l0 : List STask) (A0 : Option Addr) (c0 : Nat) (l1 : List SCome) (A1 : Option Addr) (c1 : Nat) (l2 : List Int) (A2 : Option Addr) (c2 : Nat) (l3 : List Int) (A3 : Option Addr) (c3 : Nat) (b1 : Nat) : ((List SJob) × Nat) → Act → World → Prop := fun (s : (List SJob) × Nat) a w => ∃ (v1 : Value), St w0 w [Own.blk b1 (.cells #[vI 0, vI 0] 29 (0, 0)), Own.of v1 59 s.1] ∧ Frm 106 a [(0, .slice A0 l0.length c0), (2, .slice A2 l2.length c2), (3, .slice A3 l3.length c3), (9, pP b1 0), (11, v1), (35, .slice A1 l1.length c1), (36, vI (l1.length : Int)), (37, vI (s.2 : Int))]
abbrev tasks_Jobs.B1 (w0 : World) (b1 : Nat) : ((List SJob) ⊕ ((List SJob) × SFault)) → Exit → Act → World → Prop := Exits 0 (fun (s : (List SJob)) a w => ∃ (v2 : Value), St w0 w [Own.blk b1 (.cells #[vI 0, vI 0] 29 (0, 0)), Own.of v2 59 s] ∧ Frm 106 a [(9, pP b1 0), (11, v2)]) (Rets Try.prog Try.f11 (tasks_Jobs.Post w0))
theorem tasks_Jobs_r1 (K : Nat) (w0 : World) (l0 : List STask) (A0 : Option Addr) (c0 : Nat) (l1 : List SCome) (A1 : Option Addr) (c1 : Nat) (l2 : List Int) (A2 : Option Addr) (c2 : Nat) (l3 : List Int) (A3 : Option Addr) (c3 : Nat) (hR0 : RdL w0 A0 l0) (hL0 : l0.length ≤ c0) (hR1 : RdL w0 A1 l1) (hL1 : l1.length ≤ c1) (hR2 : RdL w0 A2 l2) (hL2 : l2.length ≤ c2) (hR3 : RdL w0 A3 l3) (hL3 : l3.length ≤ c3) (b1 : Nat) (r1 : SFault) (b2 : Nat) (hc1 : r1.Code = 0) (s : (List SJob) × Nat) (o : ((List SJob) × Nat) ⊕ ((List SJob) ⊕ ((List SJob) × SFault))) (h : tasks_Jobs.r1 l0 l1 l2 l3 s = some o) (a : Act) (w : World) (hA : tasks_Jobs.A1 w0 l0 A0 c0 l1 A1 c1 l2 A2 c2 l3 A3 c3 b1 s a w) (Q : Exit → Act → World → Prop) (hQ : ∀ x a w, Outs (tasks_Jobs.A1 w0 l0 A0 c0 l1 A1 c1 l2 A2 c2 l3 A3 c3 b1) (tasks_Jobs.B1 w0 b1) o x a w → Q x a w) : (subF Try.f11 [1, 1, 1, 1, 0, 1, 0, 0]).wp Try.prog Q a w := by
 obtain ⟨m1, i1⟩ := s
 obtain ⟨v1, hS, hF⟩ := hA
 replace hS : St w0 w [Own.blk b1 (.cells #[vI 0, vI 0] 29 (0, 0)), Own.of v1 59 m1] := hS
 simp only [tasks_Jobs.r1] at h
 refine (?_ : WE Try.prog 106 (subF Try.f11 [1, 1, 1, 1, 0, 1, 0, 0]) Q [(0, .slice A0 l0.length c0), (2, .slice A2 l2.length c2), (3, .slice A3 l3.length c3), (9, pP b1 0), (11, v1), (35, .slice A1 l1.length c1), (36, vI (l1.length : Int)), (37, vI (i1 : Int))] w) a hF
 clear hF a
 refine ws fun K12 hK12 => ?_
 refine wr [(0, 0)] ?_
 refine gb0 [0] [(38, .bool (decide ((i1 : Int) < (l1.length : Int))))] ?_
 refine gn hK12 ?_
 refine ws fun K13 hK13 => ?_
 by_cases hc4 : (i1 : Int) < (l1.length : Int)
 ·rw [if_pos hc4] at h
  refine wk 38 (decide ((i1 : Int) < (l1.length : Int))) true (decide_eq_true hc4) ?_
  refine we_true (by kernel_rfl) ?_
  refine we_skip fun a hF => hK13 _ _ ?_ a hF
  refine ws fun K14 hK14 => ?_
  refine we_block ?_
  refine ws fun K15 hK15 => ?_
  refine wr [(0, 0), (1, 0), (2, 0), (3, 1), (4, 0), (5, 2)] ?_
  refine gb0 [0] [(39, vI (i1 : Int))] ?_
  rcases hx3 : l1[i1]? with _ | e1
  ·rw [hx3] at h; cases h
  rw [hx3] at h
  simp only [] at h
  refine gi 40 0 23 53 2 l1.length c1 (.tmp 35) (.tmp 37) A1 .i64 (i1 : Int) i1 ((hS.rd hR1).eqSome (pos_of_get hx3)) rfl (lt_of_get hx3) ?_
  refine gb [2] [(41, .agg #[vI e1.Task, vI e1.At])] [.loaded ⟨blkOf A1, offOf A1 + i1 * 2, none⟩ (vI e1.Task), .loaded ⟨blkOf A1, offOf A1 + i1 * 2 + 1, none⟩ (vI e1.At)] ⟨RdL.cell (j := 0) (hS.rd hR1) hx3 rfl, RdL.cell (j := 1) (hS.rd hR1) hx3 rfl, trivial⟩ ?_
  refine gw (some 13) (.cells #[vI 0, vI 0] 53) (fun b => pP b 0) hS fun b3 w8 hx4 hS22 => ?_
  refine gb0 [4] [(12, vI (i1 : Int))] ?_
  refine gs b3 0 #[vI 0, vI 0] 53 [vI e1.Task, vI e1.At] hS22 fun w9 hS23 => ?_
  have hS24 : St w0 w9 [Own.blk b3 (.cells #[vI e1.Task, vI e1.At] 53 (0, 0)), Own.blk b1 (.cells #[vI 0, vI 0] 29 (0, 0)), Own.of v1 59 m1] := hS23
  refine gn hK15 ?_
  refine ws fun K16 hK16 => ?_
  refine wr [(0, 0), (1, 0), (2, 0), (3, 0), (4, 0), (5, 1), (6, 2)] ?_
  refine gb [0, 1, 2] [(44, vI e1.Task), (43, pP b3 0), (42, .slice A0 l0.length c0)] [.loaded ⟨b3, 0, none⟩ (vI e1.Task)] ⟨hS24.c 0, trivial⟩ ?_
  by_cases hc5 : 0 ≤ e1.Task
  ·rw [if_pos hc5] at h
   rcases hx5 : l0[(e1.Task).toNat]? with _ | e2
   ·rw [hx5] at h; cases h
   rw [hx5] at h
   simp only [] at h
   refine gi 45 0 22 46 7 l0.length c0 (.tmp 42) (.tmp 44) A0 .i64 e1.Task ((e1.Task).toNat) ((hS24.rd hR0).eqSome (pos_of_get hx5)) (Int.toNat_of_nonneg hc5).symm (lt_of_get hx5) ?_
   refine gb [4] [(46, .agg #[.string e2.Name, vI e2.C, vI e2.T, vI e2.D, vI e2.J, vI e2.O, vI e2.P])] [.loaded ⟨blkOf A0, offOf A0 + ((e1.Task).toNat) * 7, none⟩ (.string e2.Name), .loaded ⟨blkOf A0, offOf A0 + ((e1.Task).toNat) * 7 + 1, none⟩ (vI e2.C), .loaded ⟨blkOf A0, offOf A0 + ((e1.Task).toNat) * 7 + 2, none⟩ (vI e2.T), .loaded ⟨blkOf A0, offOf A0 + ((e1.Task).toNat) * 7 + 3, none⟩ (vI e2.D), .loaded ⟨blkOf A0, offOf A0 + ((e1.Task).toNat) * 7 + 4, none⟩ (vI e2.J), .loaded ⟨blkOf A0, offOf A0 + ((e1.Task).toNat) * 7 + 5, none⟩ (vI e2.O), .loaded ⟨blkOf A0, offOf A0 + ((e1.Task).toNat) * 7 + 6, none⟩ (vI e2.P)] ⟨RdL.cell (j := 0) (hS24.rd hR0) hx5 rfl, RdL.cell (j := 1) (hS24.rd hR0) hx5 rfl, RdL.cell (j := 2) (hS24.rd hR0) hx5 rfl, RdL.cell (j := 3) (hS24.rd hR0) hx5 rfl, RdL.cell (j := 4) (hS24.rd hR0) hx5 rfl, RdL.cell (j := 5) (hS24.rd hR0) hx5 rfl, RdL.cell (j := 6) (hS24.rd hR0) hx5 rfl, trivial⟩ ?_
   refine gw (some 14) (.cells #[.string (⟨#[]⟩), vI 0, vI 0, vI 0, vI 0, vI 0, vI 0] 46) (fun b => pP b 0) hS24 fun b4 w10 hx6 hS25 => ?_
   refine gs b4 0 #[.string (⟨#[]⟩), vI 0, vI 0, vI 0, vI 0, vI 0, vI 0] 46 [.string e2.Name, vI e2.C, vI e2.T, vI e2.D, vI e2.J, vI e2.O, vI e2.P] hS25 fun w11 hS26 => ?_
   have hS27 : St w0 w11 [Own.blk b4 (.cells #[.string e2.Name, vI e2.C, vI e2.T, vI e2.D, vI e2.J, vI e2.O, vI e2.P] 46 (0, 0)), Own.blk b3 (.cells #[vI e1.Task, vI e1.At] 53 (0, 0)), Own.blk b1 (.cells #[vI 0, vI 0] 29 (0, 0)), Own.of v1 59 m1] := hS26
   refine gn hK16 ?_
   refine ws fun K17 hK17 => ?_
   obtain ⟨Z1, cz1, rfl⟩ := hS27.open 3 rfl
   rcases hq3 : tasks_Jobs.p2 l2 l3 i1 e2 with _ | (_ | rr1)
   ·rw [hq3] at h; cases h
   ·rw [hq3] at h
    simp only [] at h
    refine we_keep (e' := [(0, .slice A0 l0.length c0), (2, .slice A2 l2.length c2), (3, .slice A3 l3.length c3), (9, pP b1 0), (11, (.slice Z1 m1.length cz1)), (12, vI (i1 : Int)), (13, pP b3 0), (14, pP b4 0), (35, .slice A1 l1.length c1), (36, vI (l1.length : Int)), (37, vI (i1 : Int)), (38, .bool true), (39, vI (i1 : Int)), (40, .pointer (some ⟨blkOf A1, offOf A1 + i1 * 2, none⟩)), (41, .agg #[vI e1.Task, vI e1.At]), (42, .slice A0 l0.length c0), (43, pP b3 0), (44, vI e1.Task), (45, .pointer (some ⟨blkOf A0, offOf A0 + (e1.Task).toNat * 7, none⟩)), (46, .agg #[.string e2.Name, vI e2.C, vI e2.T, vI e2.D, vI e2.J, vI e2.O, vI e2.P])]) ea (tasks_Jobs_p2 K w0 l0 A0 c0 l1 A1 c1 l2 A2 c2 l3 A3 c3 hR0 hL0 hR1 hL1 hR2 hL2 hR3 hL3 b1 r1 b2 hc1 m1 i1 hc4 e1 hx3 b3 hc5 e2 hx5 b4 Z1 cz1 _ hq3 _ hS27 _ ?_)
    rintro _ a w16 ⟨rfl, hS53, hF⟩
    replace hS53 : St w0 w16 [Own.blk b4 (.cells #[.string e2.Name, vI e2.C, vI e2.T, vI e2.D, vI e2.J, vI e2.O, vI e2.P] 46 (0, 0)), Own.blk b3 (.cells #[vI e1.Task, vI e1.At] 53 (0, 0)), Own.blk b1 (.cells #[vI 0, vI 0] 29 (0, 0)), Own.of (.slice Z1 m1.length cz1) 59 m1] := hS53
    refine hK17 [(0, .slice A0 l0.length c0), (2, .slice A2 l2.length c2), (3, .slice A3 l3.length c3), (9, pP b1 0), (11, (.slice Z1 m1.length cz1)), (12, vI (i1 : Int)), (13, pP b3 0), (14, pP b4 0), (35, .slice A1 l1.length c1), (36, vI (l1.length : Int)), (37, vI (i1 : Int))] w16 ?_ a hF
    refine we_orders2 (by kernel_rfl) [(2, [⟨b3, 0, none⟩]), (4, [⟨b3, 1, none⟩]), (8, [⟨blkOf A2, offOf A2 + i1 * 1, none⟩]), (13, [⟨blkOf A3, offOf A3 + i1 * 1, none⟩]), (15, [⟨b3, 1, none⟩]), (17, [⟨b4, 3, none⟩]), (20, [⟨b4, 6, none⟩])] (.vals [0] (.vals [1] (.vals [2] (.vals [3] (.vals [4] (.vals [5] (.vals [6] (.vals [7] (.vals [8] (.vals [9] (.vals [10] (.vals [11] (.vals [12] (.vals [13] (.vals [14] (.vals [15] (.vals [16] (.vals [17] (.vals [18] (.vals [19] (.vals [20] (.vals [21] (.alt 22 1 (.alt 23 2 (.vals [24] .fin) .nomore) .nomore))))))))))))))))))))))) (by kernel_rfl) ?_
    have hS54 := hS53.drew
    refine go2_batch [0, 1] (ans := []) (vs := [(80, pP b3 0), (79, (.slice Z1 m1.length cz1))]) (l := []) (by kernel_rfl) trivial mem_nil ?_
    refine go2_batch [2] (ans := [.val (vI e1.Task)]) (vs := [(81, vI e1.Task)]) (l := [.loaded ⟨b3, 0, none⟩ (vI e1.Task)]) (by kernel_rfl) ⟨hS54.c 1, trivial⟩ (mem_one (by kernel_rfl)) ?_
    refine go2_batch [3] (ans := []) (vs := [(82, pP b3 1)]) (l := []) (by kernel_rfl) trivial mem_nil ?_
    refine go2_batch [4] (ans := [.val (vI e1.At)]) (vs := [(83, vI e1.At)]) (l := [.loaded ⟨b3, 1, none⟩ (vI e1.At)]) (by kernel_rfl) ⟨hS54.c 1, trivial⟩ (mem_one (by kernel_rfl)) ?_
    refine go2_batch [5, 6] (ans := []) (vs := [(85, vI (i1 : Int)), (84, .slice A2 l2.length c2)]) (l := []) (by kernel_rfl) trivial mem_nil ?_
    rcases hx9 : l2[i1]? with _ | e5
    ·rw [hx9] at h; cases h
    rw [hx9] at h
    simp only [] at h
    refine go2_index (d := 86) (ty := 0) (t := 24) (el := 3) (sz := 1) (m := l2.length) (c := c2) (x := (.tmp 84)) (y := (.tmp 85)) (A := A2) (k' := .i64) (j := (i1 : Int)) (jn := i1) (b0 := blkOf A2) (o0 := offOf A2) (by kernel_rfl) (by kernel_rfl) (by kernel_rfl) (by kernel_rfl) (by kernel_rfl) ((hS54.rd hR2).eqSome (pos_of_get hx9)) rfl (lt_of_get hx9) ?_
    refine go2_batch [8] (ans := [.val (vI e5)]) (vs := [(87, vI e5)]) (l := [.loaded ⟨blkOf A2, offOf A2 + i1 * 1, none⟩ (vI e5)]) (by kernel_rfl) ⟨RdL.cell (j := 0) (hS54.rd hR2) hx9 rfl, trivial⟩ (mem_one (by kernel_rfl)) ?_
    refine go2_batch [9, 10, 11] (ans := []) (vs := [(90, vI (i1 : Int)), (89, .slice A3 l3.length c3), (88, vI (IntKind.i64.wrap (e1.At + e5)))]) (l := []) (by kernel_rfl) trivial mem_nil ?_
    rcases hx10 : l3[i1]? with _ | e6
    ·rw [hx10] at h; cases h
    rw [hx10] at h
    simp only [] at h
    refine go2_index (d := 91) (ty := 0) (t := 24) (el := 3) (sz := 1) (m := l3.length) (c := c3) (x := (.tmp 89)) (y := (.tmp 90)) (A := A3) (k' := .i64) (j := (i1 : Int)) (jn := i1) (b0 := blkOf A3) (o0 := offOf A3) (by kernel_rfl) (by kernel_rfl) (by kernel_rfl) (by kernel_rfl) (by kernel_rfl) ((hS54.rd hR3).eqSome (pos_of_get hx10)) rfl (lt_of_get hx10) ?_
    refine go2_batch [13] (ans := [.val (vI e6)]) (vs := [(92, vI e6)]) (l := [.loaded ⟨blkOf A3, offOf A3 + i1 * 1, none⟩ (vI e6)]) (by kernel_rfl) ⟨RdL.cell (j := 0) (hS54.rd hR3) hx10 rfl, trivial⟩ (mem_one (by kernel_rfl)) ?_
    refine go2_batch [14] (ans := []) (vs := [(93, pP b3 1)]) (l := []) (by kernel_rfl) trivial mem_nil ?_
    refine go2_batch [15] (ans := [.val (vI e1.At)]) (vs := [(94, vI e1.At)]) (l := [.loaded ⟨b3, 1, none⟩ (vI e1.At)]) (by kernel_rfl) ⟨hS54.c 1, trivial⟩ (mem_one (by kernel_rfl)) ?_
    refine go2_batch [16] (ans := []) (vs := [(95, pP b4 3)]) (l := []) (by kernel_rfl) trivial mem_nil ?_
    refine go2_batch [17] (ans := [.val (vI e2.D)]) (vs := [(96, vI e2.D)]) (l := [.loaded ⟨b4, 3, none⟩ (vI e2.D)]) (by kernel_rfl) ⟨hS54.c 0, trivial⟩ (mem_one (by kernel_rfl)) ?_
    refine go2_batch [18, 19] (ans := []) (vs := [(98, pP b4 6), (97, vI (IntKind.i64.wrap (e1.At + e2.D)))]) (l := []) (by kernel_rfl) trivial mem_nil ?_
    refine go2_batch [20] (ans := [.val (vI e2.P)]) (vs := [(99, vI e2.P)]) (l := [.loaded ⟨b4, 6, none⟩ (vI e2.P)]) (by kernel_rfl) ⟨hS54.c 0, trivial⟩ (mem_one (by kernel_rfl)) ?_
    refine go2_batch [21] (ans := []) (vs := [(100, .agg #[vI e1.Task, vI (IntKind.i64.wrap (e1.At + e5)), vI e6, vI (IntKind.i64.wrap (e1.At + e2.D)), vI e2.P])]) (l := []) (by kernel_rfl) trivial mem_nil ?_
    refine go_alt2 (fun KK hKK => ?_) ?_
    ·refine ge_one2 ?_
     refine gw (some 101) (.cells #[vI e1.Task, vI (IntKind.i64.wrap (e1.At + e5)), vI e6, vI (IntKind.i64.wrap (e1.At + e2.D)), vI e2.P] 59) (fun b => .slice (some ⟨b, 0, none⟩) 1 1) hS54 fun b5 w17 hx11 hS55 => ?_
     refine ge_nil fun a hF => hKK _ _ (RS.of2 (l := [.loaded ⟨b3, 0, none⟩ (vI e1.Task), .loaded ⟨b3, 1, none⟩ (vI e1.At), .loaded ⟨blkOf A2, offOf A2 + i1 * 1, none⟩ (vI e5), .loaded ⟨blkOf A3, offOf A3 + i1 * 1, none⟩ (vI e6), .loaded ⟨b3, 1, none⟩ (vI e1.At), .loaded ⟨b4, 3, none⟩ (vI e2.D), .loaded ⟨b4, 6, none⟩ (vI e2.P)]) (by kernel_rfl) ⟨hS54.c 1, hS54.c 1, RdL.cell (j := 0) (hS54.rd hR2) hx9 rfl, RdL.cell (j := 0) (hS54.rd hR3) hx10 rfl, hS54.c 1, hS54.c 0, hS54.c 0, trivial⟩ ⟨hS55.c 2, hS55.c 2, RdL.cell (j := 0) (hS55.rd hR2) hx9 rfl, RdL.cell (j := 0) (hS55.rd hR3) hx10 rfl, hS55.c 2, hS55.c 1, hS55.c 1, trivial⟩) ?_ a hF
     refine go_alt2 (fun KK hKK => ?_) ?_
     ·have hS56 := hS55.bring 4 rfl
      by_cases hc10 : m1.length < 3518437208883
      ·rw [if_pos hc10] at h
       refine ge_append (α := SJob) (m := 0) (d := 102) (t := 32) (el := 59) (bytes := 40) (c1 := 1) (b1 := b5) (x := (.tmp 79)) (y := (.tmp 101)) (ty := 32) (v := (.slice Z1 m1.length cz1)) (z := .agg #[vI 0, vI 0, vI 0, vI 0, vI 0]) (l := m1) (u := (⟨e1.Task, IntKind.i64.wrap (e1.At + e5), e6, IntKind.i64.wrap (e1.At + e2.D), e2.P⟩ : SJob)) (by kernel_rfl) (by kernel_rfl) (by kernel_rfl) (by kernel_rfl) (by kernel_rfl) rfl hS56 rfl (by omega) fun v3 w18 hS57 => ?_
       refine ge_nil fun a hF => hKK _ _ (RS.of2 (l := [.loaded ⟨b3, 0, none⟩ (vI e1.Task), .loaded ⟨b3, 1, none⟩ (vI e1.At), .loaded ⟨blkOf A2, offOf A2 + i1 * 1, none⟩ (vI e5), .loaded ⟨blkOf A3, offOf A3 + i1 * 1, none⟩ (vI e6), .loaded ⟨b3, 1, none⟩ (vI e1.At), .loaded ⟨b4, 3, none⟩ (vI e2.D), .loaded ⟨b4, 6, none⟩ (vI e2.P)]) (by kernel_rfl) ⟨hS55.c 2, hS55.c 2, RdL.cell (j := 0) (hS55.rd hR2) hx9 rfl, RdL.cell (j := 0) (hS55.rd hR3) hx10 rfl, hS55.c 2, hS55.c 1, hS55.c 1, trivial⟩ ⟨hS57.c 2, hS57.c 2, RdL.cell (j := 0) (hS57.rd hR2) hx9 rfl, RdL.cell (j := 0) (hS57.rd hR3) hx10 rfl, hS57.c 2, hS57.c 1, hS57.c 1, trivial⟩) ?_ a hF
       refine go2_batch [24] (ans := []) (vs := [(11, v3)]) (l := []) (by kernel_rfl) trivial mem_nil ?_
       refine go_fin2 fun a hF => hK14 _ _ ?_ a hF
       refine wr [(0, 0), (1, 0)] ?_
       refine ge_addn (d := 103) (ty := 3) (x := (.tmp 37)) (y := (.const (vI 1))) (t := 3) (t2 := 3) (k := .i64) (m := i1) (by kernel_rfl) (by kernel_rfl) (by kernel_rfl) (by have h0 := hR1.small; omega) ?_
       refine gb0 [1] [(37, vI ((i1 + 1 : Nat) : Int))] ?_
       have hS58 := hS57.bring 3 rfl
       have hS59 := hS58.takeN 2
       obtain rfl := si h
       exact ge_nil fun a hF => hQ _ _ _ (Outs.again ⟨v3, hS59, hF.weaken ea⟩)
      ·rw [if_neg hc10] at h
       cases h
     exact go_nomore2
    exact go_nomore2
   ·rw [hq3] at h
    simp only [] at h
    refine we_keep (e' := [(0, .slice A0 l0.length c0), (2, .slice A2 l2.length c2), (3, .slice A3 l3.length c3), (9, pP b1 0), (11, (.slice Z1 m1.length cz1)), (12, vI (i1 : Int)), (13, pP b3 0), (14, pP b4 0), (35, .slice A1 l1.length c1), (36, vI (l1.length : Int)), (37, vI (i1 : Int)), (38, .bool true), (39, vI (i1 : Int)), (40, .pointer (some ⟨blkOf A1, offOf A1 + i1 * 2, none⟩)), (41, .agg #[vI e1.Task, vI e1.At]), (42, .slice A0 l0.length c0), (43, pP b3 0), (44, vI e1.Task), (45, .pointer (some ⟨blkOf A0, offOf A0 + (e1.Task).toNat * 7, none⟩)), (46, .agg #[.string e2.Name, vI e2.C, vI e2.T, vI e2.D, vI e2.J, vI e2.O, vI e2.P])]) ea (tasks_Jobs_p2 K w0 l0 A0 c0 l1 A1 c1 l2 A2 c2 l3 A3 c3 hR0 hL0 hR1 hL1 hR2 hL2 hR3 hL3 b1 r1 b2 hc1 m1 i1 hc4 e1 hx3 b3 hc5 e2 hx5 b4 Z1 cz1 _ hq3 _ hS27 _ ?_)
    rintro _ a w1 ⟨_, rfl, hb⟩
    obtain rfl := si h
    exact hQ _ _ _ (Outs.out nofun (Exits.on ⟨rfl, hb⟩))
  ·rw [if_neg hc5] at h
   cases h
 ·rw [if_neg hc4] at h
  refine wk 38 (decide ((i1 : Int) < (l1.length : Int))) false (decide_eq_false hc4) ?_
  refine we_false (by kernel_rfl) ?_
  have hS60 := hS.bring 1 rfl
  have hS61 := hS60.bring 1 rfl
  obtain rfl := si h
  exact we_exit fun a hF => hQ _ _ _ (Outs.out nofun (Exits.here ⟨v1, hS61, hF.weaken ea⟩))
theorem tasks_Jobs_ok (K : Nat) (l0 : List STask) (A0 : Option Addr) (c0 : Nat) (l1 : List SCome) (A1 : Option Addr) (c1 : Nat) (l2 : List Int) (A2 : Option Addr) (c2 : Nat) (l3 : List Int) (A3 : Option Addr) (c3 : Nat) (w0 : World) (hR0 : RdL w0 A0 l0) (hL0 : l0.length ≤ c0) (hR1 : RdL w0 A1 l1) (hL1 : l1.length ≤ c1) (hR2 : RdL w0 A2 l2) (hL2 : l2.length ≤ c2) (hR3 : RdL w0 A3 l3) (hL3 : l3.length ≤ c3) (r : (List SJob) × SFault) (h : tasks_Jobs.f K l0 l1 l2 l3 = some r) :
  Calls Try.prog 11 #[.slice A0 l0.length c0, .slice A1 l1.length c1, .slice A2 l2.length c2, .slice A3 l3.length c3] w0 (tasks_Jobs.Post w0 r) := by
 have hS := St.start w0
 unfold tasks_Jobs.f at h
 refine calls_enter (n := 106) (args := [.slice A0 l0.length c0, .slice A1 l1.length c1, .slice A2 l2.length c2, .slice A3 l3.length c3]) (fn := Try.f11) rfl rfl rfl rfl ?_
 show WE _ _ _ _ [(0, .slice A0 l0.length c0), (1, .slice A1 l1.length c1), (2, .slice A2 l2.length c2), (3, .slice A3 l3.length c3)] _
 refine ws fun K1 hK1 => ?_
 refine wr [(0, 0), (1, 1)] ?_
 refine gb0 [0] [(8, .slice none 0 0)] ?_
 refine gw (some 9) (.cells #[vI 0, vI 0] 29) (fun b => pP b 0) hS fun b1 w1 hx1 hS1 => ?_
 refine gn hK1 ?_
 refine ws fun K2 hK2 => ?_
 refine ws fun K3 hK3 => ?_
 refine wr [(0, 0), (1, 0), (2, 1), (3, 1), (4, 2)] ?_
 rcases hq1 : tasks_Legal.f K l0 l1 with _ | r1
 ·rw [hq1] at h; cases h
 rw [hq1] at h
 simp only [] at h
 refine gb0 [0, 1] [(16, .slice A1 l1.length c1), (15, .slice A0 l0.length c0)] ?_
 refine ge_call (d := some 17) (f := 27) (args := #[.slice A0 l0.length c0, .slice A1 l1.length c1]) (by kernel_rfl) (tasks_Legal_ok K l0 A0 c0 l1 A1 c1 _ (hS1.rd hR0) hL0 (hS1.rd hR1) hL1 _ hq1) ?_
 rintro _ w2 ⟨rfl, hS2⟩
 refine ⟨_, rfl, hS2.below, ?_⟩
 have hS3 := hS1.call hS2
 refine gw (some 10) (.cells #[vI 0, vI 0] 29) (fun b => pP b 0) hS3 fun b2 w3 hx2 hS4 => ?_
 refine gs b2 0 #[vI 0, vI 0] 29 [vI r1.Code, vI r1.At] hS4 fun w4 hS5 => ?_
 have hS6 : St w0 w4 [Own.blk b2 (.cells #[vI r1.Code, vI r1.At] 29 (0, 0)), Own.blk b1 (.cells #[vI 0, vI 0] 29 (0, 0))] := hS5
 refine gn hK3 ?_
 refine ws fun K4 hK4 => ?_
 refine wr [(0, 0), (1, 0), (2, 0)] ?_
 refine gb [0, 1, 2] [(20, .bool (r1.Code != 0)), (19, vI r1.Code), (18, pP b2 0)] [.loaded ⟨b2, 0, none⟩ (vI r1.Code)] ⟨hS6.c 0, trivial⟩ ?_
 refine gn hK4 ?_
 by_cases hc1 : r1.Code = 0
 ·rw [if_pos hc1] at h
  refine wk 20 (r1.Code != 0) false (bne_eq_false_iff_eq.2 hc1) ?_
  refine we_false (by kernel_rfl) ?_
  refine we_skip fun a hF => hK2 _ _ ?_ a hF
  refine ws fun K5 hK5 => ?_
  rcases hq2 : tasks_Jobs.p0 l1 l2 l3 with _ | (_ | rr3)
  ·rw [hq2] at h; cases h
  ·rw [hq2] at h
   simp only [] at h
   refine we_keep (e' := [(0, .slice A0 l0.length c0), (1, .slice A1 l1.length c1), (2, .slice A2 l2.length c2), (3, .slice A3 l3.length c3), (8, .slice none 0 0), (9, pP b1 0), (10, pP b2 0), (15, .slice A0 l0.length c0), (16, .slice A1 l1.length c1), (17, .agg #[vI r1.Code, vI r1.At]), (18, pP b2 0), (19, vI r1.Code), (20, .bool false)]) ea (tasks_Jobs_p0 K w0 l0 A0 c0 l1 A1 c1 l2 A2 c2 l3 A3 c3 hR0 hL0 hR1 hL1 hR2 hL2 hR3 hL3 b1 r1 b2 hc1 _ hq2 _ hS6 _ ?_)
   rintro _ a w7 ⟨rfl, hS19, hF⟩
   replace hS19 : St w0 w7 [Own.blk b1 (.cells #[vI 0, vI 0] 29 (0, 0))] := hS19
   refine hK5 [(0, .slice A0 l0.length c0), (1, .slice A1 l1.length c1), (2, .slice A2 l2.length c2), (3, .slice A3 l3.length c3), (9, pP b1 0)] w7 ?_ a hF
   refine ws fun K9 hK9 => ?_
   refine wr [(0, 0)] ?_
   refine gb0 [0] [(11, .slice none 0 0)] ?_
   refine gn hK9 ?_
   refine ws fun K10 hK10 => ?_
   refine ws fun K11 hK11 => ?_
   refine wr [(0, 0), (1, 0), (2, 0)] ?_
   refine gb0 [0, 1, 2] [(37, vI 0), (36, vI (l1.length : Int)), (35, .slice A1 l1.length c1)] ?_
   refine gn hK11 ?_
   refine we_block ?_
   have hS20 := hS19.nil (α := SJob) 59
   have hS21 := hS20.bring 1 rfl
   rcases hq4 : iter (tasks_Jobs.r1 l0 l1 l2 l3) K (([] : List SJob), 0) with _ | (m3 | rr2)
   ·rw [hq4] at h; cases h
   ·rw [hq4] at h
    simp only [] at h
    refine we_iter (A := tasks_Jobs.A1 w0 l0 A0 c0 l1 A1 c1 l2 A2 c2 l3 A3 c3 b1) (B := tasks_Jobs.B1 w0 b1) hq4 (fun a hF => ⟨(.slice none 0 0), hS21, hF.weaken ea⟩) (fun s o hf a w hA Q hQ => tasks_Jobs_r1 K w0 l0 A0 c0 l1 A1 c1 l2 A2 c2 l3 A3 c3 hR0 hL0 hR1 hL1 hR2 hL2 hR3 hL3 b1 r1 b2 hc1 s o hf a w hA Q hQ) ?_
    rintro _ a w19 _ ⟨rfl, v4, hS62, hF⟩
    replace hS62 : St w0 w19 [Own.blk b1 (.cells #[vI 0, vI 0] 29 (0, 0)), Own.of v4 59 m3] := hS62
    refine hK10 [(9, pP b1 0), (11, v4)] w19 ?_ a hF
    refine ws fun K23 hK23 => ?_
    refine wr [(0, 0), (1, 0), (2, 0), (3, 2)] ?_
    refine gb0 [0, 1, 2] [(8, v4), (105, .agg #[vI 0, vI 0]), (104, v4)] ?_
    refine gs b1 0 #[vI 0, vI 0] 29 [vI 0, vI 0] hS62 fun w20 hS63 => ?_
    have hS64 : St w0 w20 [Own.blk b1 (.cells #[vI 0, vI 0] 29 (0, 0)), Own.of v4 59 m3] := hS63
    refine gn hK23 ?_
    have hS65 := hS64.bring 1 rfl
    have hS66 := hS65.takeN 1
    obtain rfl := si h
    exact we_ret (pr [.tmp 8, .cell 9 29] [v4, .agg #[vI 0, vI 0]] [.loaded ⟨b1, 0, none⟩ (vI 0), .loaded ⟨b1, 1, none⟩ (vI 0)] ⟨hS64.c 0, hS64.c 0, trivial⟩ ⟨v4, rfl, hS66⟩)
   ·rw [hq4] at h
    simp only [] at h
    refine we_iter (A := tasks_Jobs.A1 w0 l0 A0 c0 l1 A1 c1 l2 A2 c2 l3 A3 c3 b1) (B := tasks_Jobs.B1 w0 b1) hq4 (fun a hF => ⟨(.slice none 0 0), hS21, hF.weaken ea⟩) (fun s o hf a w hA Q hQ => tasks_Jobs_r1 K w0 l0 A0 c0 l1 A1 c1 l2 A2 c2 l3 A3 c3 hR0 hL0 hR1 hL1 hR2 hL2 hR3 hL3 b1 r1 b2 hc1 s o hf a w hA Q hQ) ?_
    rintro _ a w1 _ ⟨rfl, hb⟩
    obtain rfl := si h
    exact hb
  ·rw [hq2] at h
   simp only [] at h
   refine we_keep (e' := [(0, .slice A0 l0.length c0), (1, .slice A1 l1.length c1), (2, .slice A2 l2.length c2), (3, .slice A3 l3.length c3), (8, .slice none 0 0), (9, pP b1 0), (10, pP b2 0), (15, .slice A0 l0.length c0), (16, .slice A1 l1.length c1), (17, .agg #[vI r1.Code, vI r1.At]), (18, pP b2 0), (19, vI r1.Code), (20, .bool false)]) ea (tasks_Jobs_p0 K w0 l0 A0 c0 l1 A1 c1 l2 A2 c2 l3 A3 c3 hR0 hL0 hR1 hL1 hR2 hL2 hR3 hL3 b1 r1 b2 hc1 _ hq2 _ hS6 _ ?_)
   rintro _ a w1 ⟨_, rfl, hb⟩
   obtain rfl := si h
   exact hb
 ·rw [if_neg hc1] at h
  refine wk 20 (r1.Code != 0) true (bne_iff_ne.2 hc1) ?_
  refine we_true (by kernel_rfl) ?_
  refine ws fun K24 hK24 => ?_
  refine we_draws (by kernel_rfl) [(0, 0), (1, 0), (2, 2)] (by kernel_rfl) ?_
  have hS67 := hS6.drew
  refine gb [0, 1] [(8, .slice none 0 0), (21, .agg #[vI r1.Code, vI r1.At])] [.loaded ⟨b2, 0, none⟩ (vI r1.Code), .loaded ⟨b2, 1, none⟩ (vI r1.At)] ⟨hS67.c 0, hS67.c 0, trivial⟩ ?_
  have hS68 := hS67.bring 1 rfl
  refine gs b1 0 #[vI 0, vI 0] 29 [vI r1.Code, vI r1.At] hS68 fun w21 hS69 => ?_
  have hS70 : St w0 w21 [Own.blk b1 (.cells #[vI r1.Code, vI r1.At] 29 (0, 0)), Own.blk b2 (.cells #[vI r1.Code, vI r1.At] 29 (0, 0))] := hS69
  refine gn hK24 ?_
  have hS71 := hS70.nil (α := SJob) 59
  have hS72 := hS71.takeN 1
  obtain rfl := si h
  exact we_ret (pr [.tmp 8, .cell 9 29] [(.slice none 0 0), .agg #[vI r1.Code, vI r1.At]] [.loaded ⟨b1, 0, none⟩ (vI r1.Code), .loaded ⟨b1, 1, none⟩ (vI r1.At)] ⟨hS71.c 1, hS71.c 1, trivial⟩ ⟨(.slice none 0 0), rfl, hS72⟩)

/-! punctual/punctuallaw.FixedExact -/
abbrev FixedExact.Post (w0 : World) (r : Bool) (e : Ending) (w : World) : Prop := e = .returned (.bool r) ∧ St w0 w []
def FixedExact.p0 (K : Nat) : Option (Unit ⊕ Bool) :=
  match responds.f K with
  | none => none
  | some r1 =>
   if r1 = true then
    match runs.f K with
    | none => none
    | some r2 =>
     if r2 = true then
      some (.inl ())
     else
      some (.inr false)
   else
    some (.inr false)
def FixedExact.r2 (l0 : List STask) (i1 : Nat) (e1 : STask) : Nat → Option (Nat ⊕ (Unit ⊕ Bool))
 | i2 =>
  if (i2 : Int) < (((l0.take i1).drop 0).length : Int) then
   match ((l0.take i1).drop 0)[i2]? with
   | none => none
   | some e2 =>
    if e2.P = e1.P then
     some (.inr (.inr true))
    else
     some (.inl (i2 + 1))
  else
   some (.inr (.inl ()))
def FixedExact.r1 (K : Nat) (l0 : List STask) : Int × Nat → Option ((Int × Nat) ⊕ (Int ⊕ Bool))
 | (z1, i1) =>
  if (i1 : Int) < (l0.length : Int) then
   match l0[i1]? with
   | none => none
   | some e1 =>
    if i1 ≤ l0.length then
     match iter (FixedExact.r2 l0 i1 e1) K 0 with
     | none => none
     | some (.inl _) =>
      if e1.J = 0 then
       if e1.O = 0 then
        some (.inl (gmax z1 e1.D, (i1 + 1)))
       else
        some (.inr (.inr true))
      else
       some (.inr (.inr true))
     | some (.inr rr1) =>
      some (.inr (.inr rr1))
    else
     none
  else
   some (.inr (.inl z1))
def FixedExact.p3 (r4 : (List SCome) × SFault) : Option (Unit ⊕ Bool) :=
  if r4.2.Code = 0 then
   if (r4.1.length : Int) > 600 then
    if (r4.1.length : Int) = 0 then
     some (.inr true)
    else
     some (.inr (decide ((r4.1.length : Int) > 600)))
   else
    some (.inl ())
  else
   if (r4.1.length : Int) = 0 then
    some (.inr true)
   else
    some (.inr (decide ((r4.1.length : Int) > 600)))
def FixedExact.r4 (l0 : List STask) (r4 : (List SCome) × SFault) : (List Int) × Nat → Option (((List Int) × Nat) ⊕ ((List Int) ⊕ Bool))
 | (m1, i3) =>
  if (i3 : Int) < (r4.1.length : Int) then
   match r4.1[i3]? with
   | none => none
   | some e3 =>
    if 0 ≤ e3.Task then
     match l0[(e3.Task).toNat]? with
     | none => none
     | some e4 =>
      if m1.length < 17592186044416 then
       some (.inl ((m1 ++ [e4.C]), (i3 + 1)))
      else
       none
    else
     none
  else
   some (.inr (.inl m1))
def FixedExact.p5 (r4 : (List SCome) × SFault) (r6 : SPlayed × SFault) : Option (Unit ⊕ Bool) :=
  if r6.2.Code = 0 then
   if (r6.1.Ends.length : Int) = (r4.1.length : Int) then
    some (.inl ())
   else
    some (.inr false)
  else
   some (.inr false)
def FixedExact.r6 (K : Nat) (l0 : List STask) (r4 : (List SCome) × SFault) (r6 : SPlayed × SFault) : Nat → Option (Nat ⊕ (Unit ⊕ Bool))
 | i4 =>
  if (i4 : Int) < (l0.length : Int) then
   match fixed_Response.f K l0 (i4 : Int) 0 with
   | none => none
   | some r7 =>
    match r4.1[i4]? with
    | none => none
    | some e5 =>
     if e5.Task = (i4 : Int) then
      if e5.At = 0 then
       if r7.2.Code = 0 then
        match r6.1.Ends[i4]? with
        | none => none
        | some e6 =>
         if e6 = r7.1 then
          some (.inl (i4 + 1))
         else
          some (.inr (.inr false))
       else
        match r6.1.Ends[i4]? with
        | none => none
        | some e7 =>
         if e7 ≥ 0 then
          match l0[i4]? with
          | none => none
          | some e8 =>
           if e7 ≤ e8.D then
            some (.inr (.inr false))
           else
            some (.inl (i4 + 1))
         else
          some (.inl (i4 + 1))
      else
       some (.inr (.inr false))
     else
      some (.inr (.inr false))
  else
   some (.inr (.inl ()))
def FixedExact.f (K : Nat) (l0 : List STask) : Option Bool :=
 match FixedExact.p0 K with
 | none => none
 | some (.inl _) =>
  match punctualref_CheckFixed.f K l0 with
  | none => none
  | some r3 =>
   if r3.Code = 0 then
    match iter (FixedExact.r1 K l0) K (0, 0) with
    | none => none
    | some (.inl z3) =>
     if z3 > 1500 then
      some true
     else
      match tasks_Comes.f K l0 z3 with
      | none => none
      | some r4 =>
       match FixedExact.p3 r4 with
       | none => none
       | some (.inl _) =>
        match iter (FixedExact.r4 l0 r4) K (([] : List Int), 0) with
        | none => none
        | some (.inl m3) =>
         if r4.1.length ≤ 17592186044416 then
          match tasks_Jobs.f K l0 r4.1 (List.replicate r4.1.length (0 : Int)) m3 with
          | none => none
          | some r5 =>
           if r5.2.Code = 0 then
            match sched_Play.f K r5.1 1 true z3 with
            | none => none
            | some r6 =>
             match FixedExact.p5 r4 r6 with
             | none => none
             | some (.inl _) =>
              match iter (FixedExact.r6 K l0 r4 r6) K 0 with
              | none => none
              | some (.inl _) =>
               some true
              | some (.inr rr2) =>
               some rr2
             | some (.inr rr3) =>
              some rr3
           else
            some false
         else
          none
        | some (.inr rr4) =>
         some rr4
       | some (.inr rr5) =>
        some rr5
    | some (.inr rr6) =>
     some rr6
   else
    some true
 | some (.inr rr7) =>
  some rr7
abbrev FixedExact.A0 (w0 : World) (l0 : List STask) (A0 : Option Addr) (c0 : Nat) : Unit → Act → World → Prop := fun (s : Unit) a w => St w0 w [] ∧ Frm 197 a [(0, .slice A0 l0.length c0)]
abbrev FixedExact.B0 (w0 : World) : Bool → Exit → Act → World → Prop := Rets Try.prog Try.f5 (FixedExact.Post w0)
theorem FixedExact_p0 (K : Nat) (w0 : World) (l0 : List STask) (A0 : Option Addr) (c0 : Nat) (hR0 : RdL w0 A0 l0) (hL0 : l0.length ≤ c0) (o : Unit ⊕ Bool) (h : FixedExact.p0 K = some o) (w : World) (hS : St w0 w []) (Q : Exit → Act → World → Prop) (hQ : ∀ x a w, Outs (FixedExact.A0 w0 l0 A0 c0) (FixedExact.B0 w0) o x a w → Q x a w) : WE Try.prog 197 (subF Try.f5 [1, 0]) Q [(0, .slice A0 l0.length c0), (2, .bool false)] w := by
 simp only [FixedExact.p0] at h
 refine ws fun K3 hK3 => ?_
 refine wr [(0, 1), (1, 0), (2, 0), (3, 1), (4, 0), (5, 0)] ?_
 rcases hq1 : responds.f K with _ | r1
 ·rw [hq1] at h; cases h
 rw [hq1] at h
 simp only [] at h
 refine ge_call (d := some 18) (f := 7) (args := #[]) (by kernel_rfl) (responds_ok K _ _ hq1) ?_
 rintro _ w1 ⟨rfl, hS1⟩
 refine ⟨_, rfl, hS1.below, ?_⟩
 have hS2 := hS.call hS1
 refine gb0 [1, 2] [(20, .bool (!r1)), (19, .bool (!r1))] ?_
 by_cases hc1 : r1 = true
 ·rw [if_pos hc1] at h
  refine gk 20 (!r1) false (congrArg (fun z => !z) hc1) ?_
  rcases hq2 : runs.f K with _ | r2
  ·rw [hq2] at h; cases h
  rw [hq2] at h
  simp only [] at h
  refine ge_call (d := some 21) (f := 8) (args := #[]) (by kernel_rfl) (runs_ok K _ _ hq2) ?_
  rintro _ w2 ⟨rfl, hS3⟩
  refine ⟨_, rfl, hS3.below, ?_⟩
  have hS4 := hS2.call hS3
  refine gb0 [4, 5] [(23, .bool (!r2)), (22, .bool (!r2))] ?_
  refine gn hK3 ?_
  by_cases hc2 : r2 = true
  ·rw [if_pos hc2] at h
   refine wk 23 (!r2) false (congrArg (fun z => !z) hc2) ?_
   refine we_false (by kernel_rfl) ?_
   obtain rfl := si h
   exact we_skip fun a hF => hQ _ _ _ (Outs.again ⟨hS4, hF.weaken ea⟩)
  ·rw [if_neg hc2] at h
   refine wk 23 (!r2) true (congrArg (fun z => !z) (Bool.eq_false_iff.2 hc2)) ?_
   refine we_true (by kernel_rfl) ?_
   refine ws fun K4 hK4 => ?_
   refine wr [(0, 0)] ?_
   refine gb0 [0] [(2, .bool false)] ?_
   refine gn hK4 ?_
   obtain rfl := si h
   exact we_ret fun a hF => hQ _ _ _ (Outs.out nofun ⟨rfl, (pr0 [.tmp 2] [.bool false] ⟨rfl, hS4⟩) a hF⟩)
 ·rw [if_neg hc1] at h
  refine gk 20 (!r1) true (congrArg (fun z => !z) (Bool.eq_false_iff.2 hc1)) ?_
  refine ge_off rfl rfl rfl (by kernel_rfl) ?_
  refine gb0 [4, 5] [(23, .bool true), (22, undef)] ?_
  refine gn hK3 ?_
  refine we_true (by kernel_rfl) ?_
  refine ws fun K5 hK5 => ?_
  refine wr [(0, 0)] ?_
  refine gb0 [0] [(2, .bool false)] ?_
  refine gn hK5 ?_
  obtain rfl := si h
  exact we_ret fun a hF => hQ _ _ _ (Outs.out nofun ⟨rfl, (pr0 [.tmp 2] [.bool false] ⟨rfl, hS2⟩) a hF⟩)
abbrev FixedExact.A2 (w0 : World) (l0 : List STask) (A0 : Option Addr) (c0 : Nat) (z1 : Int) (i1 : Nat) (e1 : STask) (b1 : Nat) : Nat → Act → World → Prop := fun (s : Nat) a w => St w0 w [Own.blk b1 (.cells #[.string e1.Name, vI e1.C, vI e1.T, vI e1.D, vI e1.J, vI e1.O, vI e1.P] 46 (0, 0))] ∧ Frm 197 a [(0, .slice A0 l0.length c0), (3, vI (gmax z1 e1.D)), (5, pP b1 0), (28, .slice A0 l0.length c0), (29, vI (l0.length : Int)), (30, vI (i1 : Int)), (41, .slice (subA A0 c0 0 7) (((l0.take i1).drop 0).length) (c0 - 0)), (42, vI (((l0.take i1).drop 0).length : Int)), (43, vI (s : Int))]
abbrev FixedExact.B2 (w0 : World) (l0 : List STask) (A0 : Option Addr) (c0 : Nat) (z1 : Int) (i1 : Nat) (e1 : STask) (b1 : Nat) : (Unit ⊕ Bool) → Exit → Act → World → Prop := Exits 2 (fun (s : Unit) a w => St w0 w [Own.blk b1 (.cells #[.string e1.Name, vI e1.C, vI e1.T, vI e1.D, vI e1.J, vI e1.O, vI e1.P] 46 (0, 0))] ∧ Frm 197 a [(0, .slice A0 l0.length c0), (3, vI (gmax z1 e1.D)), (5, pP b1 0), (28, .slice A0 l0.length c0), (29, vI (l0.length : Int)), (30, vI (i1 : Int))]) (Rets Try.prog Try.f5 (FixedExact.Post w0))
theorem FixedExact_r2 (K : Nat) (w0 : World) (l0 : List STask) (A0 : Option Addr) (c0 : Nat) (hR0 : RdL w0 A0 l0) (hL0 : l0.length ≤ c0) (r3 : SFault) (hc3 : r3.Code = 0) (z1 : Int) (i1 : Nat) (hc4 : (i1 : Int) < (l0.length : Int)) (e1 : STask) (hx1 : l0[i1]? = some e1) (b1 : Nat) (hc5 : i1 ≤ l0.length) (s : Nat) (o : Nat ⊕ (Unit ⊕ Bool)) (h : FixedExact.r2 l0 i1 e1 s = some o) (a : Act) (w : World) (hA : FixedExact.A2 w0 l0 A0 c0 z1 i1 e1 b1 s a w) (Q : Exit → Act → World → Prop) (hQ : ∀ x a w, Outs (FixedExact.A2 w0 l0 A0 c0 z1 i1 e1 b1) (FixedExact.B2 w0 l0 A0 c0 z1 i1 e1 b1) o x a w → Q x a w) : (subF Try.f5 [1, 1, 1, 1, 0, 1, 0, 0, 1, 1, 0, 0, 1, 1, 0, 1, 0, 0]).wp Try.prog Q a w := by
 obtain ⟨i2, hs⟩ : ∃ z, z = s := ⟨s, rfl⟩
 subst hs
 obtain ⟨hS, hF⟩ := hA
 replace hS : St w0 w [Own.blk b1 (.cells #[.string e1.Name, vI e1.C, vI e1.T, vI e1.D, vI e1.J, vI e1.O, vI e1.P] 46 (0, 0))] := hS
 simp only [FixedExact.r2] at h
 refine (?_ : WE Try.prog 197 (subF Try.f5 [1, 1, 1, 1, 0, 1, 0, 0, 1, 1, 0, 0, 1, 1, 0, 1, 0, 0]) Q [(0, .slice A0 l0.length c0), (3, vI (gmax z1 e1.D)), (5, pP b1 0), (28, .slice A0 l0.length c0), (29, vI (l0.length : Int)), (30, vI (i1 : Int)), (41, .slice (subA A0 c0 0 7) (((l0.take i1).drop 0).length) (c0 - 0)), (42, vI (((l0.take i1).drop 0).length : Int)), (43, vI (i2 : Int))] w) a hF
 clear hF a
 refine ws fun K18 hK18 => ?_
 refine wr [(0, 0)] ?_
 refine gb0 [0] [(44, .bool (decide ((i2 : Int) < (((l0.take i1).drop 0).length : Int))))] ?_
 refine gn hK18 ?_
 refine ws fun K19 hK19 => ?_
 by_cases hc6 : (i2 : Int) < (((l0.take i1).drop 0).length : Int)
 ·rw [if_pos hc6] at h
  refine wk 44 (decide ((i2 : Int) < (((l0.take i1).drop 0).length : Int))) true (decide_eq_true hc6) ?_
  refine we_true (by kernel_rfl) ?_
  refine we_skip fun a hF => hK19 _ _ ?_ a hF
  refine ws fun K20 hK20 => ?_
  refine we_block ?_
  refine ws fun K21 hK21 => ?_
  refine wr [(0, 0), (1, 0), (2, 1), (3, 2)] ?_
  rcases hx3 : ((l0.take i1).drop 0)[i2]? with _ | e2
  ·rw [hx3] at h; cases h
  rw [hx3] at h
  simp only [] at h
  refine gi 45 0 22 46 7 (((l0.take i1).drop 0).length) (c0 - 0) (.tmp 41) (.tmp 43) (subA A0 c0 0 7) .i64 (i2 : Int) i2 ((hS.rd (RdL.part hR0 hL0 0 i1)).eqSome (pos_of_get hx3)) rfl (lt_of_get hx3) ?_
  refine gb [1] [(46, .agg #[.string e2.Name, vI e2.C, vI e2.T, vI e2.D, vI e2.J, vI e2.O, vI e2.P])] [.loaded ⟨blkOf (subA A0 c0 0 7), offOf (subA A0 c0 0 7) + i2 * 7, none⟩ (.string e2.Name), .loaded ⟨blkOf (subA A0 c0 0 7), offOf (subA A0 c0 0 7) + i2 * 7 + 1, none⟩ (vI e2.C), .loaded ⟨blkOf (subA A0 c0 0 7), offOf (subA A0 c0 0 7) + i2 * 7 + 2, none⟩ (vI e2.T), .loaded ⟨blkOf (subA A0 c0 0 7), offOf (subA A0 c0 0 7) + i2 * 7 + 3, none⟩ (vI e2.D), .loaded ⟨blkOf (subA A0 c0 0 7), offOf (subA A0 c0 0 7) + i2 * 7 + 4, none⟩ (vI e2.J), .loaded ⟨blkOf (subA A0 c0 0 7), offOf (subA A0 c0 0 7) + i2 * 7 + 5, none⟩ (vI e2.O), .loaded ⟨blkOf (subA A0 c0 0 7), offOf (subA A0 c0 0 7) + i2 * 7 + 6, none⟩ (vI e2.P)] ⟨RdL.cell (j := 0) (hS.rd (RdL.part hR0 hL0 0 i1)) hx3 rfl, RdL.cell (j := 1) (hS.rd (RdL.part hR0 hL0 0 i1)) hx3 rfl, RdL.cell (j := 2) (hS.rd (RdL.part hR0 hL0 0 i1)) hx3 rfl, RdL.cell (j := 3) (hS.rd (RdL.part hR0 hL0 0 i1)) hx3 rfl, RdL.cell (j := 4) (hS.rd (RdL.part hR0 hL0 0 i1)) hx3 rfl, RdL.cell (j := 5) (hS.rd (RdL.part hR0 hL0 0 i1)) hx3 rfl, RdL.cell (j := 6) (hS.rd (RdL.part hR0 hL0 0 i1)) hx3 rfl, trivial⟩ ?_
  refine gw (some 7) (.cells #[.string (⟨#[]⟩), vI 0, vI 0, vI 0, vI 0, vI 0, vI 0] 46) (fun b => pP b 0) hS fun b2 w7 hx4 hS11 => ?_
  refine gs b2 0 #[.string (⟨#[]⟩), vI 0, vI 0, vI 0, vI 0, vI 0, vI 0] 46 [.string e2.Name, vI e2.C, vI e2.T, vI e2.D, vI e2.J, vI e2.O, vI e2.P] hS11 fun w8 hS12 => ?_
  have hS13 : St w0 w8 [Own.blk b2 (.cells #[.string e2.Name, vI e2.C, vI e2.T, vI e2.D, vI e2.J, vI e2.O, vI e2.P] 46 (0, 0)), Own.blk b1 (.cells #[.string e1.Name, vI e1.C, vI e1.T, vI e1.D, vI e1.J, vI e1.O, vI e1.P] 46 (0, 0))] := hS12
  refine gn hK21 ?_
  refine ws fun K22 hK22 => ?_
  refine wr [(0, 0), (1, 0), (2, 0), (3, 0), (4, 0)] ?_
  refine gb [0, 1, 2, 3, 4] [(51, .bool (e2.P == e1.P)), (50, vI e1.P), (49, pP b1 6), (48, vI e2.P), (47, pP b2 6)] [.loaded ⟨b2, 6, none⟩ (vI e2.P), .loaded ⟨b1, 6, none⟩ (vI e1.P)] ⟨hS13.c 0, hS13.c 1, trivial⟩ ?_
  refine gn hK22 ?_
  by_cases hc7 : e2.P = e1.P
  ·rw [if_pos hc7] at h
   refine wk 51 (e2.P == e1.P) true (beq_iff_eq.2 hc7) ?_
   refine we_true (by kernel_rfl) ?_
   refine ws fun K23 hK23 => ?_
   refine wr [(0, 0)] ?_
   refine gb0 [0] [(2, .bool true)] ?_
   refine gn hK23 ?_
   have hS14 := hS13.takeN 0
   obtain rfl := si h
   exact we_ret fun a hF => hQ _ _ _ (Outs.out nofun (Exits.on ⟨rfl, (pr0 [.tmp 2] [.bool true] ⟨rfl, hS14⟩) a hF⟩))
  ·rw [if_neg hc7] at h
   refine wk 51 (e2.P == e1.P) false (beq_eq_false_iff_ne.2 hc7) ?_
   refine we_false (by kernel_rfl) ?_
   refine we_skip fun a hF => hK20 _ _ ?_ a hF
   refine wr [(0, 0), (1, 0)] ?_
   refine ge_addn (d := 52) (ty := 3) (x := (.tmp 43)) (y := (.const (vI 1))) (t := 3) (t2 := 3) (k := .i64) (m := i2) (by kernel_rfl) (by kernel_rfl) (by kernel_rfl) (by have h0 := hR0.small; have h1 : ((l0.take i1).drop 0).length ≤ l0.length := (by simp only [List.length_drop, List.length_take]; omega); omega) ?_
   refine gb0 [1] [(43, vI ((i2 + 1 : Nat) : Int))] ?_
   have hS15 := hS13.bring 1 rfl
   have hS16 := hS15.takeN 1
   obtain rfl := si h
   exact ge_nil fun a hF => hQ _ _ _ (Outs.again ⟨hS16, hF.weaken ea⟩)
 ·rw [if_neg hc6] at h
  refine wk 44 (decide ((i2 : Int) < (((l0.take i1).drop 0).length : Int))) false (decide_eq_false hc6) ?_
  refine we_false (by kernel_rfl) ?_
  obtain rfl := si h
  exact we_exit fun a hF => hQ _ _ _ (Outs.out nofun (Exits.here ⟨hS, hF.weaken ea⟩))
abbrev FixedExact.A1 (w0 : World) (l0 : List STask) (A0 : Option Addr) (c0 : Nat) : (Int × Nat) → Act → World → Prop := fun (s : Int × Nat) a w => St w0 w [] ∧ Frm 197 a [(0, .slice A0 l0.length c0), (3, vI s.1), (28, .slice A0 l0.length c0), (29, vI (l0.length : Int)), (30, vI (s.2 : Int))]
abbrev FixedExact.B1 (w0 : World) (l0 : List STask) (A0 : Option Addr) (c0 : Nat) : (Int ⊕ Bool) → Exit → Act → World → Prop := Exits 0 (fun (s : Int) a w => St w0 w [] ∧ Frm 197 a [(0, .slice A0 l0.length c0), (3, vI s)]) (Rets Try.prog Try.f5 (FixedExact.Post w0))
theorem FixedExact_r1 (K : Nat) (w0 : World) (l0 : List STask) (A0 : Option Addr) (c0 : Nat) (hR0 : RdL w0 A0 l0) (hL0 : l0.length ≤ c0) (r3 : SFault) (hc3 : r3.Code = 0) (s : Int × Nat) (o : (Int × Nat) ⊕ (Int ⊕ Bool)) (h : FixedExact.r1 K l0 s = some o) (a : Act) (w : World) (hA : FixedExact.A1 w0 l0 A0 c0 s a w) (Q : Exit → Act → World → Prop) (hQ : ∀ x a w, Outs (FixedExact.A1 w0 l0 A0 c0) (FixedExact.B1 w0 l0 A0 c0) o x a w → Q x a w) : (subF Try.f5 [1, 1, 1, 1, 0, 1, 0, 0]).wp Try.prog Q a w := by
 obtain ⟨z1, i1⟩ := s
 obtain ⟨hS, hF⟩ := hA
 replace hS : St w0 w [] := hS
 simp only [FixedExact.r1] at h
 refine (?_ : WE Try.prog 197 (subF Try.f5 [1, 1, 1, 1, 0, 1, 0, 0]) Q [(0, .slice A0 l0.length c0), (3, vI z1), (28, .slice A0 l0.length c0), (29, vI (l0.length : Int)), (30, vI (i1 : Int))] w) a hF
 clear hF a
 refine ws fun K11 hK11 => ?_
 refine wr [(0, 0)] ?_
 refine gb0 [0] [(31, .bool (decide ((i1 : Int) < (l0.length : Int))))] ?_
 refine gn hK11 ?_
 refine ws fun K12 hK12 => ?_
 by_cases hc4 : (i1 : Int) < (l0.length : Int)
 ·rw [if_pos hc4] at h
  refine wk 31 (decide ((i1 : Int) < (l0.length : Int))) true (decide_eq_true hc4) ?_
  refine we_true (by kernel_rfl) ?_
  refine we_skip fun a hF => hK12 _ _ ?_ a hF
  refine ws fun K13 hK13 => ?_
  refine we_block ?_
  refine ws fun K14 hK14 => ?_
  refine wr [(0, 0), (1, 0), (2, 0), (3, 1), (4, 0), (5, 2)] ?_
  refine gb0 [0] [(32, vI (i1 : Int))] ?_
  rcases hx1 : l0[i1]? with _ | e1
  ·rw [hx1] at h; cases h
  rw [hx1] at h
  simp only [] at h
  refine gi 33 0 22 46 7 l0.length c0 (.tmp 28) (.tmp 30) A0 .i64 (i1 : Int) i1 ((hS.rd hR0).eqSome (pos_of_get hx1)) rfl (lt_of_get hx1) ?_
  refine gb [2] [(34, .agg #[.string e1.Name, vI e1.C, vI e1.T, vI e1.D, vI e1.J, vI e1.O, vI e1.P])] [.loaded ⟨blkOf A0, offOf A0 + i1 * 7, none⟩ (.string e1.Name), .loaded ⟨blkOf A0, offOf A0 + i1 * 7 + 1, none⟩ (vI e1.C), .loaded ⟨blkOf A0, offOf A0 + i1 * 7 + 2, none⟩ (vI e1.T), .loaded ⟨blkOf A0, offOf A0 + i1 * 7 + 3, none⟩ (vI e1.D), .loaded ⟨blkOf A0, offOf A0 + i1 * 7 + 4, none⟩ (vI e1.J), .loaded ⟨blkOf A0, offOf A0 + i1 * 7 + 5, none⟩ (vI e1.O), .loaded ⟨blkOf A0, offOf A0 + i1 * 7 + 6, none⟩ (vI e1.P)] ⟨RdL.cell (j := 0) (hS.rd hR0) hx1 rfl, RdL.cell (j := 1) (hS.rd hR0) hx1 rfl, RdL.cell (j := 2) (hS.rd hR0) hx1 rfl, RdL.cell (j := 3) (hS.rd hR0) hx1 rfl, RdL.cell (j := 4) (hS.rd hR0) hx1 rfl, RdL.cell (j := 5) (hS.rd hR0) hx1 rfl, RdL.cell (j := 6) (hS.rd hR0) hx1 rfl, trivial⟩ ?_
  refine gw (some 5) (.cells #[.string (⟨#[]⟩), vI 0, vI 0, vI 0, vI 0, vI 0, vI 0] 46) (fun b => pP b 0) hS fun b1 w5 hx2 hS8 => ?_
  refine gb0 [4] [(4, vI (i1 : Int))] ?_
  refine gs b1 0 #[.string (⟨#[]⟩), vI 0, vI 0, vI 0, vI 0, vI 0, vI 0] 46 [.string e1.Name, vI e1.C, vI e1.T, vI e1.D, vI e1.J, vI e1.O, vI e1.P] hS8 fun w6 hS9 => ?_
  have hS10 : St w0 w6 [Own.blk b1 (.cells #[.string e1.Name, vI e1.C, vI e1.T, vI e1.D, vI e1.J, vI e1.O, vI e1.P] 46 (0, 0))] := hS9
  refine gn hK14 ?_
  refine ws fun K15 hK15 => ?_
  refine wr [(0, 0), (1, 0), (2, 0), (3, 0), (4, 0)] ?_
  refine gb [0, 1, 2, 3, 4] [(3, vI (gmax z1 e1.D)), (38, vI (gmax z1 e1.D)), (37, vI e1.D), (36, pP b1 3), (35, vI z1)] [.loaded ⟨b1, 3, none⟩ (vI e1.D)] ⟨hS10.c 0, trivial⟩ ?_
  refine gn hK15 ?_
  refine ws fun K16 hK16 => ?_
  refine ws fun K17 hK17 => ?_
  refine wr [(0, 0), (1, 0), (2, 0), (3, 0), (4, 0)] ?_
  refine gb0 [0, 1] [(40, vI (i1 : Int)), (39, .slice A0 l0.length c0)] ?_
  by_cases hc5 : i1 ≤ l0.length
  ·rw [if_pos hc5] at h
   refine ge_part (d := 41) (ty := 22) (t := 22) (el := 46) (sz := 7) (m := l0.length) (c := c0) (lo := 0) (hi := i1) (x := (.tmp 39)) (xl := none) (xh := some (.tmp 40)) (A := A0) (by kernel_rfl) (by kernel_rfl) rfl ⟨.i64, (i1 : Int), by kernel_rfl, rfl⟩ (by kernel_rfl) (by kernel_rfl) (by have f0 := hc5; have f1 := hL0; omega) (by have f0 := hc5; have f1 := hL0; omega) ?_
   refine ge_same (t := 41) (v := .slice (subA A0 c0 0 7) (i1 - 0) (c0 - 0)) (v' := .slice (subA A0 c0 0 7) (((l0.take i1).drop 0).length) (c0 - 0)) (by kernel_rfl) (by have f0 := hc5; have f1 := hL0; rw [show i1 - 0 = ((l0.take i1).drop 0).length by simp only [List.length_drop, List.length_take]; omega]) ?_
   refine gb0 [3, 4] [(43, vI 0), (42, vI (((l0.take i1).drop 0).length : Int))] ?_
   refine gn hK17 ?_
   refine we_block ?_
   rcases hq5 : iter (FixedExact.r2 l0 i1 e1) K 0 with _ | (_ | rr1)
   ·rw [hq5] at h; cases h
   ·rw [hq5] at h
    simp only [] at h
    refine we_iter (A := FixedExact.A2 w0 l0 A0 c0 z1 i1 e1 b1) (B := FixedExact.B2 w0 l0 A0 c0 z1 i1 e1 b1) hq5 (fun a hF => ⟨hS10, hF.weaken ea⟩) (fun s o hf a w hA Q hQ => FixedExact_r2 K w0 l0 A0 c0 hR0 hL0 r3 hc3 z1 i1 hc4 e1 hx1 b1 hc5 s o hf a w hA Q hQ) ?_
    rintro _ a w9 _ ⟨rfl, hS17, hF⟩
    replace hS17 : St w0 w9 [Own.blk b1 (.cells #[.string e1.Name, vI e1.C, vI e1.T, vI e1.D, vI e1.J, vI e1.O, vI e1.P] 46 (0, 0))] := hS17
    refine hK16 [(0, .slice A0 l0.length c0), (3, vI (gmax z1 e1.D)), (5, pP b1 0), (28, .slice A0 l0.length c0), (29, vI (l0.length : Int)), (30, vI (i1 : Int))] w9 ?_ a hF
    refine ws fun K24 hK24 => ?_
    refine wr [(0, 0), (1, 0), (2, 0), (3, 0), (4, 0), (5, 0), (6, 0), (7, 0)] ?_
    refine gb [0, 1, 2, 3] [(56, .bool (e1.J != 0)), (55, .bool (e1.J != 0)), (54, vI e1.J), (53, pP b1 4)] [.loaded ⟨b1, 4, none⟩ (vI e1.J)] ⟨hS17.c 0, trivial⟩ ?_
    by_cases hc8 : e1.J = 0
    ·rw [if_pos hc8] at h
     refine gk 56 (e1.J != 0) false (bne_eq_false_iff_eq.2 hc8) ?_
     refine gb [4, 5, 6, 7] [(60, .bool (e1.O != 0)), (59, .bool (e1.O != 0)), (58, vI e1.O), (57, pP b1 5)] [.loaded ⟨b1, 5, none⟩ (vI e1.O)] ⟨hS17.c 0, trivial⟩ ?_
     refine gn hK24 ?_
     by_cases hc9 : e1.O = 0
     ·rw [if_pos hc9] at h
      refine wk 60 (e1.O != 0) false (bne_eq_false_iff_eq.2 hc9) ?_
      refine we_false (by kernel_rfl) ?_
      refine we_skip fun a hF => hK13 _ _ ?_ a hF
      refine wr [(0, 0), (1, 0)] ?_
      refine ge_addn (d := 61) (ty := 3) (x := (.tmp 30)) (y := (.const (vI 1))) (t := 3) (t2 := 3) (k := .i64) (m := i1) (by kernel_rfl) (by kernel_rfl) (by kernel_rfl) (by have h0 := hR0.small; omega) ?_
      refine gb0 [1] [(30, vI ((i1 + 1 : Nat) : Int))] ?_
      have hS18 := hS17.takeN 0
      obtain rfl := si h
      exact ge_nil fun a hF => hQ _ _ _ (Outs.again ⟨hS18, hF.weaken ea⟩)
     ·rw [if_neg hc9] at h
      refine wk 60 (e1.O != 0) true (bne_iff_ne.2 hc9) ?_
      refine we_true (by kernel_rfl) ?_
      refine ws fun K25 hK25 => ?_
      refine wr [(0, 0)] ?_
      refine gb0 [0] [(2, .bool true)] ?_
      refine gn hK25 ?_
      have hS19 := hS17.takeN 0
      obtain rfl := si h
      exact we_ret fun a hF => hQ _ _ _ (Outs.out nofun (Exits.on ⟨rfl, (pr0 [.tmp 2] [.bool true] ⟨rfl, hS19⟩) a hF⟩))
    ·rw [if_neg hc8] at h
     refine gk 56 (e1.J != 0) true (bne_iff_ne.2 hc8) ?_
     refine gb0 [4, 5, 6, 7] [(60, .bool true), (59, undef), (58, undef), (57, undef)] ?_
     refine gn hK24 ?_
     refine we_true (by kernel_rfl) ?_
     refine ws fun K26 hK26 => ?_
     refine wr [(0, 0)] ?_
     refine gb0 [0] [(2, .bool true)] ?_
     refine gn hK26 ?_
     have hS20 := hS17.takeN 0
     obtain rfl := si h
     exact we_ret fun a hF => hQ _ _ _ (Outs.out nofun (Exits.on ⟨rfl, (pr0 [.tmp 2] [.bool true] ⟨rfl, hS20⟩) a hF⟩))
   ·rw [hq5] at h
    simp only [] at h
    refine we_iter (A := FixedExact.A2 w0 l0 A0 c0 z1 i1 e1 b1) (B := FixedExact.B2 w0 l0 A0 c0 z1 i1 e1 b1) hq5 (fun a hF => ⟨hS10, hF.weaken ea⟩) (fun s o hf a w hA Q hQ => FixedExact_r2 K w0 l0 A0 c0 hR0 hL0 r3 hc3 z1 i1 hc4 e1 hx1 b1 hc5 s o hf a w hA Q hQ) ?_
    rintro _ a w1 _ ⟨rfl, hb⟩
    obtain rfl := si h
    exact hQ _ _ _ (Outs.out nofun (Exits.on ⟨rfl, hb⟩))
  ·rw [if_neg hc5] at h
   cases h
 ·rw [if_neg hc4] at h
  refine wk 31 (decide ((i1 : Int) < (l0.length : Int))) false (decide_eq_false hc4) ?_
  refine we_false (by kernel_rfl) ?_
  obtain rfl := si h
  exact we_exit fun a hF => hQ _ _ _ (Outs.out nofun (Exits.here ⟨hS, hF.weaken ea⟩))
abbrev FixedExact.A3 (w0 : World) (l0 : List STask) (A0 : Option Addr) (c0 : Nat) (z3 : Int) (r4 : (List SCome) × SFault) (b3 : Nat) (Z1 : Option Addr) (cz1 : Nat) : Unit → Act → World → Prop := fun (s : Unit) a w => St w0 w [Own.blk b3 (.cells #[vI r4.2.Code, vI r4.2.At] 29 (0, 0)), Own.of (.slice Z1 r4.1.length cz1) 53 r4.1] ∧ Frm 197 a [(0, .slice A0 l0.length c0), (3, vI z3), (8, (.slice Z1 r4.1.length cz1)), (9, pP b3 0)]
abbrev FixedExact.B3 (w0 : World) : Bool → Exit → Act → World → Prop := Rets Try.prog Try.f5 (FixedExact.Post w0)
theorem FixedExact_p3 (K : Nat) (w0 : World) (l0 : List STask) (A0 : Option Addr) (c0 : Nat) (hR0 : RdL w0 A0 l0) (hL0 : l0.length ≤ c0) (r3 : SFault) (hc3 : r3.Code = 0) (z3 : Int) (hc10 : ¬ (z3 > 1500)) (r4 : (List SCome) × SFault) (b3 : Nat) (Z1 : Option Addr) (cz1 : Nat) (o : Unit ⊕ Bool) (h : FixedExact.p3 r4 = some o) (w : World) (hS : St w0 w [Own.blk b3 (.cells #[vI r4.2.Code, vI r4.2.At] 29 (0, 0)), Own.of (.slice Z1 r4.1.length cz1) 53 r4.1]) (Q : Exit → Act → World → Prop) (hQ : ∀ x a w, Outs (FixedExact.A3 w0 l0 A0 c0 z3 r4 b3 Z1 cz1) (FixedExact.B3 w0) o x a w → Q x a w) : WE Try.prog 197 (subF Try.f5 [1, 1, 1, 1, 1, 1, 1, 0]) Q [(0, .slice A0 l0.length c0), (3, vI z3), (8, (.slice Z1 r4.1.length cz1)), (9, pP b3 0), (62, vI z3), (63, .bool false), (64, .tuple #[(.slice Z1 r4.1.length cz1), .agg #[vI r4.2.Code, vI r4.2.At]]), (65, .slice A0 l0.length c0), (66, vI z3), (67, .tuple #[(.slice Z1 r4.1.length cz1), .agg #[vI r4.2.Code, vI r4.2.At]]), (68, (.slice Z1 r4.1.length cz1)), (69, .agg #[vI r4.2.Code, vI r4.2.At])] w := by
 simp only [FixedExact.p3] at h
 refine ws fun K32 hK32 => ?_
 refine wr [(0, 0), (1, 0), (2, 0), (3, 0), (4, 0), (5, 0), (6, 0), (7, 0)] ?_
 refine gb [0, 1, 2, 3] [(73, .bool (r4.2.Code != 0)), (72, .bool (r4.2.Code != 0)), (71, vI r4.2.Code), (70, pP b3 0)] [.loaded ⟨b3, 0, none⟩ (vI r4.2.Code)] ⟨hS.c 0, trivial⟩ ?_
 by_cases hc11 : r4.2.Code = 0
 ·rw [if_pos hc11] at h
  refine gk 73 (r4.2.Code != 0) false (bne_eq_false_iff_eq.2 hc11) ?_
  refine gb0 [4, 5, 6, 7] [(77, .bool (decide ((r4.1.length : Int) > 600))), (76, .bool (decide ((r4.1.length : Int) > 600))), (75, vI (r4.1.length : Int)), (74, (.slice Z1 r4.1.length cz1))] ?_
  refine gn hK32 ?_
  by_cases hc12 : (r4.1.length : Int) > 600
  ·rw [if_pos hc12] at h
   refine wk 77 (decide ((r4.1.length : Int) > 600)) true (decide_eq_true hc12) ?_
   refine we_true (by kernel_rfl) ?_
   refine ws fun K33 hK33 => ?_
   refine wr [(0, 0), (1, 0), (2, 0), (3, 0), (4, 0), (5, 0), (6, 0), (7, 0), (8, 0)] ?_
   refine gb0 [0, 1, 2, 3] [(81, .bool ((r4.1.length : Int) == 0)), (80, .bool ((r4.1.length : Int) == 0)), (79, vI (r4.1.length : Int)), (78, (.slice Z1 r4.1.length cz1))] ?_
   by_cases hc13 : (r4.1.length : Int) = 0
   ·rw [if_pos hc13] at h
    refine gk 81 ((r4.1.length : Int) == 0) true (beq_iff_eq.2 hc13) ?_
    refine gb0 [4, 5, 6, 7, 8] [(2, .bool true), (85, .bool true), (84, undef), (83, undef), (82, undef)] ?_
    refine gn hK33 ?_
    have hS27 := hS.takeN 0
    obtain rfl := si h
    exact we_ret fun a hF => hQ _ _ _ (Outs.out nofun ⟨rfl, (pr0 [.tmp 2] [.bool true] ⟨rfl, hS27⟩) a hF⟩)
   ·rw [if_neg hc13] at h
    refine gk 81 ((r4.1.length : Int) == 0) false (beq_eq_false_iff_ne.2 hc13) ?_
    refine gb0 [4, 5, 6, 7, 8] [(2, .bool (decide ((r4.1.length : Int) > 600))), (85, .bool (decide ((r4.1.length : Int) > 600))), (84, .bool (decide ((r4.1.length : Int) > 600))), (83, vI (r4.1.length : Int)), (82, (.slice Z1 r4.1.length cz1))] ?_
    refine gn hK33 ?_
    have hS28 := hS.takeN 0
    obtain rfl := si h
    exact we_ret fun a hF => hQ _ _ _ (Outs.out nofun ⟨rfl, (pr0 [.tmp 2] [.bool (decide ((r4.1.length : Int) > 600))] ⟨rfl, hS28⟩) a hF⟩)
  ·rw [if_neg hc12] at h
   refine wk 77 (decide ((r4.1.length : Int) > 600)) false (decide_eq_false hc12) ?_
   refine we_false (by kernel_rfl) ?_
   have hS29 := hS.bring 1 rfl
   have hS30 := hS29.bring 1 rfl
   obtain rfl := si h
   exact we_skip fun a hF => hQ _ _ _ (Outs.again ⟨hS30, hF.weaken ea⟩)
 ·rw [if_neg hc11] at h
  refine gk 73 (r4.2.Code != 0) true (bne_iff_ne.2 hc11) ?_
  refine gb0 [4, 5, 6, 7] [(77, .bool true), (76, undef), (75, undef), (74, undef)] ?_
  refine gn hK32 ?_
  refine we_true (by kernel_rfl) ?_
  refine ws fun K34 hK34 => ?_
  refine wr [(0, 0), (1, 0), (2, 0), (3, 0), (4, 0), (5, 0), (6, 0), (7, 0), (8, 0)] ?_
  refine gb0 [0, 1, 2, 3] [(81, .bool ((r4.1.length : Int) == 0)), (80, .bool ((r4.1.length : Int) == 0)), (79, vI (r4.1.length : Int)), (78, (.slice Z1 r4.1.length cz1))] ?_
  by_cases hc14 : (r4.1.length : Int) = 0
  ·rw [if_pos hc14] at h
   refine gk 81 ((r4.1.length : Int) == 0) true (beq_iff_eq.2 hc14) ?_
   refine gb0 [4, 5, 6, 7, 8] [(2, .bool true), (85, .bool true), (84, undef), (83, undef), (82, undef)] ?_
   refine gn hK34 ?_
   have hS31 := hS.takeN 0
   obtain rfl := si h
   exact we_ret fun a hF => hQ _ _ _ (Outs.out nofun ⟨rfl, (pr0 [.tmp 2] [.bool true] ⟨rfl, hS31⟩) a hF⟩)
  ·rw [if_neg hc14] at h
   refine gk 81 ((r4.1.length : Int) == 0) false (beq_eq_false_iff_ne.2 hc14) ?_
   refine gb0 [4, 5, 6, 7, 8] [(2, .bool (decide ((r4.1.length : Int) > 600))), (85, .bool (decide ((r4.1.length : Int) > 600))), (84, .bool (decide ((r4.1.length : Int) > 600))), (83, vI (r4.1.length : Int)), (82, (.slice Z1 r4.1.length cz1))] ?_
   refine gn hK34 ?_
   have hS32 := hS.takeN 0
   obtain rfl := si h
   exact we_ret fun a hF => hQ _ _ _ (Outs.out nofun ⟨rfl, (pr0 [.tmp 2] [.bool (decide ((r4.1.length : Int) > 600))] ⟨rfl, hS32⟩) a hF⟩)
abbrev FixedExact.A4 (w0 : World) (l0 : List STask) (A0 : Option Addr) (c0 : Nat) (z3 : Int) (r4 : (List SCome) × SFault) (b3 : Nat) (Z1 : Option Addr) (cz1 : Nat) : ((List Int) × Nat) → Act → World → Prop := fun (s : (List Int) × Nat) a w => ∃ (v2 : Value), St w0 w [Own.blk b3 (.cells #[vI r4.2.Code, vI r4.2.At] 29 (0, 0)), Own.of (.slice Z1 r4.1.length cz1) 53 r4.1, Own.of v2 3 s.1] ∧ Frm 197 a [(0, .slice A0 l0.length c0), (3, vI z3), (8, (.slice Z1 r4.1.length cz1)), (9, pP b3 0), (10, v2), (86, (.slice Z1 r4.1.length cz1)), (87, vI (r4.1.length : Int)), (88, vI (s.2 : Int))]
abbrev FixedExact.B4 (w0 : World) (l0 : List STask) (A0 : Option Addr) (c0 : Nat) (z3 : Int) (r4 : (List SCome) × SFault) (b3 : Nat) (Z1 : Option Addr) (cz1 : Nat) : ((List Int) ⊕ Bool) → Exit → Act → World → Prop := Exits 4 (fun (s : (List Int)) a w => ∃ (v3 : Value), St w0 w [Own.blk b3 (.cells #[vI r4.2.Code, vI r4.2.At] 29 (0, 0)), Own.of (.slice Z1 r4.1.length cz1) 53 r4.1, Own.of v3 3 s] ∧ Frm 197 a [(0, .slice A0 l0.length c0), (3, vI z3), (8, (.slice Z1 r4.1.length cz1)), (9, pP b3 0), (10, v3)]) (Rets Try.prog Try.f5 (FixedExact.Post w0))
theorem FixedExact_r4 (K : Nat) (w0 : World) (l0 : List STask) (A0 : Option Addr) (c0 : Nat) (hR0 : RdL w0 A0 l0) (hL0 : l0.length ≤ c0) (r3 : SFault) (hc3 : r3.Code = 0) (z3 : Int) (hc10 : ¬ (z3 > 1500)) (r4 : (List SCome) × SFault) (b3 : Nat) (Z1 : Option Addr) (cz1 : Nat) (s : (List Int) × Nat) (o : ((List Int) × Nat) ⊕ ((List Int) ⊕ Bool)) (h : FixedExact.r4 l0 r4 s = some o) (a : Act) (w : World) (hA : FixedExact.A4 w0 l0 A0 c0 z3 r4 b3 Z1 cz1 s a w) (Q : Exit → Act → World → Prop) (hQ : ∀ x a w, Outs (FixedExact.A4 w0 l0 A0 c0 z3 r4 b3 Z1 cz1) (FixedExact.B4 w0 l0 A0 c0 z3 r4 b3 Z1 cz1) o x a w → Q x a w) : (subF Try.f5 [1, 1, 1, 1, 1, 1, 1, 1, 1, 0, 1, 0, 0]).wp Try.prog Q a w := by
 obtain ⟨m1, i3⟩ := s
 obtain ⟨v2, hS, hF⟩ := hA
 replace hS : St w0 w [Own.blk b3 (.cells #[vI r4.2.Code, vI r4.2.At] 29 (0, 0)), Own.of (.slice Z1 r4.1.length cz1) 53 r4.1, Own.of v2 3 m1] := hS
 simp only [FixedExact.r4] at h
 refine (?_ : WE Try.prog 197 (subF Try.f5 [1, 1, 1, 1, 1, 1, 1, 1, 1, 0, 1, 0, 0]) Q [(0, .slice A0 l0.length c0), (3, vI z3), (8, (.slice Z1 r4.1.length cz1)), (9, pP b3 0), (10, v2), (86, (.slice Z1 r4.1.length cz1)), (87, vI (r4.1.length : Int)), (88, vI (i3 : Int))] w) a hF
 clear hF a
 refine ws fun K38 hK38 => ?_
 refine wr [(0, 0)] ?_
 refine gb0 [0] [(89, .bool (decide ((i3 : Int) < (r4.1.length : Int))))] ?_
 refine gn hK38 ?_
 refine ws fun K39 hK39 => ?_
 by_cases hc15 : (i3 : Int) < (r4.1.length : Int)
 ·rw [if_pos hc15] at h
  refine wk 89 (decide ((i3 : Int) < (r4.1.length : Int))) true (decide_eq_true hc15) ?_
  refine we_true (by kernel_rfl) ?_
  refine we_skip fun a hF => hK39 _ _ ?_ a hF
  refine ws fun K40 hK40 => ?_
  refine we_block ?_
  refine ws fun K41 hK41 => ?_
  refine wr [(0, 0), (1, 0), (2, 1), (3, 2)] ?_
  rcases hx6 : r4.1[i3]? with _ | e3
  ·rw [hx6] at h; cases h
  rw [hx6] at h
  simp only [] at h
  refine gi 90 0 23 53 2 r4.1.length cz1 (.tmp 86) (.tmp 88) Z1 .i64 (i3 : Int) i3 ((hS.rdAt 1 rfl).eqSome (pos_of_get hx6)) rfl (lt_of_get hx6) ?_
  refine gb [1] [(91, .agg #[vI e3.Task, vI e3.At])] [.loaded ⟨blkOf Z1, offOf Z1 + i3 * 2, none⟩ (vI e3.Task), .loaded ⟨blkOf Z1, offOf Z1 + i3 * 2 + 1, none⟩ (vI e3.At)] ⟨RdL.cell (j := 0) (hS.rdAt 1 rfl) hx6 rfl, RdL.cell (j := 1) (hS.rdAt 1 rfl) hx6 rfl, trivial⟩ ?_
  refine gw (some 12) (.cells #[vI 0, vI 0] 53) (fun b => pP b 0) hS fun b4 w15 hx7 hS37 => ?_
  refine gs b4 0 #[vI 0, vI 0] 53 [vI e3.Task, vI e3.At] hS37 fun w16 hS38 => ?_
  have hS39 : St w0 w16 [Own.blk b4 (.cells #[vI e3.Task, vI e3.At] 53 (0, 0)), Own.blk b3 (.cells #[vI r4.2.Code, vI r4.2.At] 29 (0, 0)), Own.of (.slice Z1 r4.1.length cz1) 53 r4.1, Own.of v2 3 m1] := hS38
  refine gn hK41 ?_
  refine wr [(0, 0), (1, 0), (2, 0), (3, 0), (4, 0), (5, 0), (6, 0), (7, 1), (8, 2), (9, 0)] ?_
  refine gb [0, 1, 2, 3] [(95, vI e3.Task), (94, pP b4 0), (93, .slice A0 l0.length c0), (92, v2)] [.loaded ⟨b4, 0, none⟩ (vI e3.Task)] ⟨hS39.c 0, trivial⟩ ?_
  by_cases hc16 : 0 ≤ e3.Task
  ·rw [if_pos hc16] at h
   rcases hx8 : l0[(e3.Task).toNat]? with _ | e4
   ·rw [hx8] at h; cases h
   rw [hx8] at h
   simp only [] at h
   refine gi 96 0 22 46 7 l0.length c0 (.tmp 93) (.tmp 95) A0 .i64 e3.Task ((e3.Task).toNat) ((hS39.rd hR0).eqSome (pos_of_get hx8)) (Int.toNat_of_nonneg hc16).symm (lt_of_get hx8) ?_
   refine gb [5, 6] [(98, vI e4.C), (97, .pointer (some ⟨blkOf A0, offOf A0 + (e3.Task).toNat * 7 + 1, none⟩))] [.loaded ⟨blkOf A0, offOf A0 + ((e3.Task).toNat) * 7 + 1, none⟩ (vI e4.C)] ⟨RdL.cell (j := 1) (hS39.rd hR0) hx8 rfl, trivial⟩ ?_
   refine gw (some 99) (.cells #[vI e4.C] 3) (fun b => .slice (some ⟨b, 0, none⟩) 1 1) hS39 fun b5 w17 hx9 hS40 => ?_
   have hS41 := hS40.bring 4 rfl
   by_cases hc17 : m1.length < 17592186044416
   ·rw [if_pos hc17] at h
    refine ge_append (α := Int) (m := 0) (d := 100) (t := 24) (el := 3) (bytes := 8) (c1 := 1) (b1 := b5) (x := (.tmp 92)) (y := (.tmp 99)) (ty := 24) (v := v2) (z := vI 0) (l := m1) (u := e4.C) (by kernel_rfl) (by kernel_rfl) (by kernel_rfl) (by kernel_rfl) (by kernel_rfl) rfl hS41 rfl (by omega) fun v4 w18 hS42 => ?_
    refine gb0 [9] [(10, v4)] ?_
    refine gn hK40 ?_
    refine wr [(0, 0), (1, 0)] ?_
    refine ge_addn (d := 101) (ty := 3) (x := (.tmp 88)) (y := (.const (vI 1))) (t := 3) (t2 := 3) (k := .i64) (m := i3) (by kernel_rfl) (by kernel_rfl) (by kernel_rfl) (by have h0 := hS42.ofSmall 3 rfl; omega) ?_
    refine gb0 [1] [(88, vI ((i3 + 1 : Nat) : Int))] ?_
    have hS43 := hS42.bring 3 rfl
    have hS44 := hS43.bring 3 rfl
    have hS45 := hS44.takeN 3
    obtain rfl := si h
    exact ge_nil fun a hF => hQ _ _ _ (Outs.again ⟨v4, hS45, hF.weaken ea⟩)
   ·rw [if_neg hc17] at h
    cases h
  ·rw [if_neg hc16] at h
   cases h
 ·rw [if_neg hc15] at h
  refine wk 89 (decide ((i3 : Int) < (r4.1.length : Int))) false (decide_eq_false hc15) ?_
  refine we_false (by kernel_rfl) ?_
  have hS46 := hS.bring 2 rfl
  have hS47 := hS46.bring 2 rfl
  have hS48 := hS47.bring 2 rfl
  obtain rfl := si h
  exact we_exit fun a hF => hQ _ _ _ (Outs.out nofun (Exits.here ⟨v2, hS48, hF.weaken ea⟩))
abbrev FixedExact.A5 (w0 : World) (l0 : List STask) (A0 : Option Addr) (c0 : Nat) (r4 : (List SCome) × SFault) (Z1 : Option Addr) (cz1 : Nat) (r6 : SPlayed × SFault) (b6 : Nat) (Z5 : Option Addr) (cz5 : Nat) (Z6 : Option Addr) (cz6 : Nat) : Unit → Act → World → Prop := fun (s : Unit) a w => St w0 w [Own.blk b6 (.cells #[(.slice Z5 r6.1.Runs.length cz5), (.slice Z6 r6.1.Ends.length cz6)] 37 (0, 0)), Own.of (.slice Z1 r4.1.length cz1) 53 r4.1, Own.of (.slice Z5 r6.1.Runs.length cz5) 3 r6.1.Runs, Own.of (.slice Z6 r6.1.Ends.length cz6) 3 r6.1.Ends] ∧ Frm 197 a [(0, .slice A0 l0.length c0), (8, (.slice Z1 r4.1.length cz1)), (14, pP b6 0)]
abbrev FixedExact.B5 (w0 : World) : Bool → Exit → Act → World → Prop := Rets Try.prog Try.f5 (FixedExact.Post w0)
theorem FixedExact_p5 (K : Nat) (w0 : World) (l0 : List STask) (A0 : Option Addr) (c0 : Nat) (hR0 : RdL w0 A0 l0) (hL0 : l0.length ≤ c0) (r3 : SFault) (hc3 : r3.Code = 0) (z3 : Int) (hc10 : ¬ (z3 > 1500)) (r4 : (List SCome) × SFault) (b3 : Nat) (Z1 : Option Addr) (cz1 : Nat) (m3 : List Int) (hc18 : r4.1.length ≤ 17592186044416) (Z2 : Option Addr) (cz2 : Nat) (Z3 : Option Addr) (cz3 : Nat) (r5 : (List SJob) × SFault) (hc19 : r5.2.Code = 0) (Z4 : Option Addr) (cz4 : Nat) (r6 : SPlayed × SFault) (b6 : Nat) (Z5 : Option Addr) (cz5 : Nat) (Z6 : Option Addr) (cz6 : Nat) (o : Unit ⊕ Bool) (h : FixedExact.p5 r4 r6 = some o) (w : World) (hS : St w0 w [Own.blk b3 (.cells #[vI r6.2.Code, vI r6.2.At] 29 (0, 0)), Own.blk b6 (.cells #[(.slice Z5 r6.1.Runs.length cz5), (.slice Z6 r6.1.Ends.length cz6)] 37 (0, 0)), Own.of (.slice Z5 r6.1.Runs.length cz5) 3 r6.1.Runs, Own.of (.slice Z6 r6.1.Ends.length cz6) 3 r6.1.Ends, Own.of (.slice Z4 r5.1.length cz4) 59 r5.1, Own.of (.slice Z2 (List.replicate r4.1.length (0 : Int)).length cz2) 3 (List.replicate r4.1.length (0 : Int)), Own.of (.slice Z1 r4.1.length cz1) 53 r4.1, Own.of (.slice Z3 m3.length cz3) 3 m3]) (Q : Exit → Act → World → Prop) (hQ : ∀ x a w, Outs (FixedExact.A5 w0 l0 A0 c0 r4 Z1 cz1 r6 b6 Z5 cz5 Z6 cz6) (FixedExact.B5 w0) o x a w → Q x a w) : WE Try.prog 197 (subF Try.f5 [1, 1, 1, 1, 1, 1, 1, 1, 1, 1, 1, 1, 1, 0]) Q [(0, .slice A0 l0.length c0), (3, vI z3), (8, (.slice Z1 r4.1.length cz1)), (9, pP b3 0), (10, (.slice Z3 m3.length cz3)), (13, (.slice Z4 r5.1.length cz4)), (14, pP b6 0), (102, .tuple #[(.slice Z4 r5.1.length cz4), .agg #[vI r5.2.Code, vI r5.2.At]]), (103, .slice A0 l0.length c0), (104, (.slice Z1 r4.1.length cz1)), (105, (.slice Z1 r4.1.length cz1)), (106, vI (r4.1.length : Int)), (107, (.slice Z2 (List.replicate r4.1.length (0 : Int)).length cz2)), (108, (.slice Z3 m3.length cz3)), (109, .tuple #[(.slice Z4 r5.1.length cz4), .agg #[vI r5.2.Code, vI r5.2.At]]), (110, (.slice Z4 r5.1.length cz4)), (111, .agg #[vI r5.2.Code, vI r5.2.At]), (112, pP b3 0), (113, vI r5.2.Code), (114, .bool false), (115, .tuple #[.agg #[(.slice Z5 r6.1.Runs.length cz5), (.slice Z6 r6.1.Ends.length cz6)], .agg #[vI r6.2.Code, vI r6.2.At]]), (116, (.slice Z4 r5.1.length cz4)), (117, vI z3), (118, .tuple #[.agg #[(.slice Z5 r6.1.Runs.length cz5), (.slice Z6 r6.1.Ends.length cz6)], .agg #[vI r6.2.Code, vI r6.2.At]]), (119, .agg #[(.slice Z5 r6.1.Runs.length cz5), (.slice Z6 r6.1.Ends.length cz6)]), (120, .agg #[vI r6.2.Code, vI r6.2.At])] w := by
 simp only [FixedExact.p5] at h
 refine ws fun K47 hK47 => ?_
 refine wr [(0, 0), (1, 0), (2, 0), (3, 0), (4, 0), (5, 0), (6, 0), (7, 0), (8, 0), (9, 0), (10, 0)] ?_
 refine gb [0, 1, 2, 3] [(124, .bool (r6.2.Code != 0)), (123, .bool (r6.2.Code != 0)), (122, vI r6.2.Code), (121, pP b3 0)] [.loaded ⟨b3, 0, none⟩ (vI r6.2.Code)] ⟨hS.c 0, trivial⟩ ?_
 by_cases hc20 : r6.2.Code = 0
 ·rw [if_pos hc20] at h
  refine gk 124 (r6.2.Code != 0) false (bne_eq_false_iff_eq.2 hc20) ?_
  refine gb [4, 5, 6, 7, 8, 9, 10] [(131, .bool ((r6.1.Ends.length : Int) != (r4.1.length : Int))), (130, .bool ((r6.1.Ends.length : Int) != (r4.1.length : Int))), (129, vI (r4.1.length : Int)), (128, (.slice Z1 r4.1.length cz1)), (127, vI (r6.1.Ends.length : Int)), (126, (.slice Z6 r6.1.Ends.length cz6)), (125, pP b6 1)] [.loaded ⟨b6, 1, none⟩ ((.slice Z6 r6.1.Ends.length cz6))] ⟨hS.c 1, trivial⟩ ?_
  refine gn hK47 ?_
  by_cases hc21 : (r6.1.Ends.length : Int) = (r4.1.length : Int)
  ·rw [if_pos hc21] at h
   refine wk 131 ((r6.1.Ends.length : Int) != (r4.1.length : Int)) false (bne_eq_false_iff_eq.2 hc21) ?_
   refine we_false (by kernel_rfl) ?_
   have hS64 := hS.bring 3 rfl
   have hS65 := hS64.bring 3 rfl
   have hS66 := hS65.bring 6 rfl
   have hS67 := hS66.bring 4 rfl
   have hS68 := hS67.takeN 4
   obtain rfl := si h
   exact we_skip fun a hF => hQ _ _ _ (Outs.again ⟨hS68, hF.weaken ea⟩)
  ·rw [if_neg hc21] at h
   refine wk 131 ((r6.1.Ends.length : Int) != (r4.1.length : Int)) true (bne_iff_ne.2 hc21) ?_
   refine we_true (by kernel_rfl) ?_
   refine ws fun K48 hK48 => ?_
   refine wr [(0, 0)] ?_
   refine gb0 [0] [(2, .bool false)] ?_
   refine gn hK48 ?_
   have hS69 := hS.takeN 0
   obtain rfl := si h
   exact we_ret fun a hF => hQ _ _ _ (Outs.out nofun ⟨rfl, (pr0 [.tmp 2] [.bool false] ⟨rfl, hS69⟩) a hF⟩)
 ·rw [if_neg hc20] at h
  refine gk 124 (r6.2.Code != 0) true (bne_iff_ne.2 hc20) ?_
  refine gb0 [4, 5, 6, 7, 8, 9, 10] [(131, .bool true), (130, undef), (129, undef), (128, undef), (127, undef), (126, undef), (125, undef)] ?_
  refine gn hK47 ?_
  refine we_true (by kernel_rfl) ?_
  refine ws fun K49 hK49 => ?_
  refine wr [(0, 0)] ?_
  refine gb0 [0] [(2, .bool false)] ?_
  refine gn hK49 ?_
  have hS70 := hS.takeN 0
  obtain rfl := si h
  exact we_ret fun a hF => hQ _ _ _ (Outs.out nofun ⟨rfl, (pr0 [.tmp 2] [.bool false] ⟨rfl, hS70⟩) a hF⟩)
abbrev FixedExact.A6 (w0 : World) (l0 : List STask) (A0 : Option Addr) (c0 : Nat) (r4 : (List SCome) × SFault) (Z1 : Option Addr) (cz1 : Nat) (r6 : SPlayed × SFault) (b6 : Nat) (Z5 : Option Addr) (cz5 : Nat) (Z6 : Option Addr) (cz6 : Nat) : Nat → Act → World → Prop := fun (s : Nat) a w => St w0 w [Own.blk b6 (.cells #[(.slice Z5 r6.1.Runs.length cz5), (.slice Z6 r6.1.Ends.length cz6)] 37 (0, 0)), Own.of (.slice Z1 r4.1.length cz1) 53 r4.1, Own.of (.slice Z5 r6.1.Runs.length cz5) 3 r6.1.Runs, Own.of (.slice Z6 r6.1.Ends.length cz6) 3 r6.1.Ends] ∧ Frm 197 a [(0, .slice A0 l0.length c0), (8, (.slice Z1 r4.1.length cz1)), (14, pP b6 0), (133, vI (l0.length : Int)), (134, vI (s : Int))]
abbrev FixedExact.B6 (w0 : World) : (Unit ⊕ Bool) → Exit → Act → World → Prop := Exits 6 (fun (s : Unit) a w => St w0 w [] ∧ Frm 197 a []) (Rets Try.prog Try.f5 (FixedExact.Post w0))
theorem FixedExact_r6 (K : Nat) (w0 : World) (l0 : List STask) (A0 : Option Addr) (c0 : Nat) (hR0 : RdL w0 A0 l0) (hL0 : l0.length ≤ c0) (r3 : SFault) (hc3 : r3.Code = 0) (z3 : Int) (hc10 : ¬ (z3 > 1500)) (r4 : (List SCome) × SFault) (b3 : Nat) (Z1 : Option Addr) (cz1 : Nat) (m3 : List Int) (hc18 : r4.1.length ≤ 17592186044416) (Z2 : Option Addr) (cz2 : Nat) (Z3 : Option Addr) (cz3 : Nat) (r5 : (List SJob) × SFault) (hc19 : r5.2.Code = 0) (Z4 : Option Addr) (cz4 : Nat) (r6 : SPlayed × SFault) (b6 : Nat) (Z5 : Option Addr) (cz5 : Nat) (Z6 : Option Addr) (cz6 : Nat) (s : Nat) (o : Nat ⊕ (Unit ⊕ Bool)) (h : FixedExact.r6 K l0 r4 r6 s = some o) (a : Act) (w : World) (hA : FixedExact.A6 w0 l0 A0 c0 r4 Z1 cz1 r6 b6 Z5 cz5 Z6 cz6 s a w) (Q : Exit → Act → World → Prop) (hQ : ∀ x a w, Outs (FixedExact.A6 w0 l0 A0 c0 r4 Z1 cz1 r6 b6 Z5 cz5 Z6 cz6) (FixedExact.B6 w0) o x a w → Q x a w) : (subF Try.f5 [1, 1, 1, 1, 1, 1, 1, 1, 1, 1, 1, 1, 1, 1, 0, 1, 0, 0]).wp Try.prog Q a w := by
 obtain ⟨i4, hs⟩ : ∃ z, z = s := ⟨s, rfl⟩
 subst hs
 obtain ⟨hS, hF⟩ := hA
 replace hS : St w0 w [Own.blk b6 (.cells #[(.slice Z5 r6.1.Runs.length cz5), (.slice Z6 r6.1.Ends.length cz6)] 37 (0, 0)), Own.of (.slice Z1 r4.1.length cz1) 53 r4.1, Own.of (.slice Z5 r6.1.Runs.length cz5) 3 r6.1.Runs, Own.of (.slice Z6 r6.1.Ends.length cz6) 3 r6.1.Ends] := hS
 simp only [FixedExact.r6] at h
 refine (?_ : WE Try.prog 197 (subF Try.f5 [1, 1, 1, 1, 1, 1, 1, 1, 1, 1, 1, 1, 1, 1, 0, 1, 0, 0]) Q [(0, .slice A0 l0.length c0), (8, (.slice Z1 r4.1.length cz1)), (14, pP b6 0), (133, vI (l0.length : Int)), (134, vI (i4 : Int))] w) a hF
 clear hF a
 refine ws fun K52 hK52 => ?_
 refine wr [(0, 0)] ?_
 refine gb0 [0] [(135, .bool (decide ((i4 : Int) < (l0.length : Int))))] ?_
 refine gn hK52 ?_
 refine ws fun K53 hK53 => ?_
 by_cases hc22 : (i4 : Int) < (l0.length : Int)
 ·rw [if_pos hc22] at h
  refine wk 135 (decide ((i4 : Int) < (l0.length : Int))) true (decide_eq_true hc22) ?_
  refine we_true (by kernel_rfl) ?_
  refine we_skip fun a hF => hK53 _ _ ?_ a hF
  refine ws fun K54 hK54 => ?_
  refine we_block ?_
  refine ws fun K55 hK55 => ?_
  refine wr [(0, 0), (1, 0)] ?_
  refine gb0 [0, 1] [(15, vI (i4 : Int)), (136, vI (i4 : Int))] ?_
  refine gn hK55 ?_
  refine ws fun K56 hK56 => ?_
  refine wr [(0, 0), (1, 0), (2, 1), (3, 0), (4, 0), (5, 0), (6, 1), (7, 0), (8, 2)] ?_
  rcases hq13 : fixed_Response.f K l0 (i4 : Int) 0 with _ | r7
  ·rw [hq13] at h; cases h
  rw [hq13] at h
  simp only [] at h
  refine gb0 [0, 1] [(139, vI (i4 : Int)), (138, .slice A0 l0.length c0)] ?_
  refine ge_call (d := some 140) (f := 20) (args := #[.slice A0 l0.length c0, vI (i4 : Int), vI 0]) (by kernel_rfl) (fixed_Response_ok K l0 A0 c0 (i4 : Int) 0 _ (hS.rd hR0) hL0 _ hq13) ?_
  rintro _ w28 ⟨rfl, hS76⟩
  refine ⟨_, rfl, hS76.below, ?_⟩
  have hS77 := hS.call hS76
  refine gb0 [3, 4, 5] [(142, .agg #[vI r7.2.Code, vI r7.2.At]), (141, vI r7.1), (137, .tuple #[vI r7.1, .agg #[vI r7.2.Code, vI r7.2.At]])] ?_
  refine gw (some 17) (.cells #[vI 0, vI 0] 29) (fun b => pP b 0) hS77 fun b7 w29 hx11 hS78 => ?_
  refine gb0 [7] [(16, vI r7.1)] ?_
  refine gs b7 0 #[vI 0, vI 0] 29 [vI r7.2.Code, vI r7.2.At] hS78 fun w30 hS79 => ?_
  have hS80 : St w0 w30 [Own.blk b7 (.cells #[vI r7.2.Code, vI r7.2.At] 29 (0, 0)), Own.blk b6 (.cells #[(.slice Z5 r6.1.Runs.length cz5), (.slice Z6 r6.1.Ends.length cz6)] 37 (0, 0)), Own.of (.slice Z1 r4.1.length cz1) 53 r4.1, Own.of (.slice Z5 r6.1.Runs.length cz5) 3 r6.1.Runs, Own.of (.slice Z6 r6.1.Ends.length cz6) 3 r6.1.Ends] := hS79
  refine gn hK56 ?_
  refine ws fun K57 hK57 => ?_
  refine ws fun K58 hK58 => ?_
  refine wr [(0, 0), (1, 0), (2, 0), (3, 0), (4, 0), (5, 0), (6, 0), (7, 0), (8, 0), (9, 0), (10, 0), (11, 0), (12, 0), (13, 0), (14, 0)] ?_
  refine gb0 [0, 1] [(144, vI (i4 : Int)), (143, (.slice Z1 r4.1.length cz1))] ?_
  rcases hx12 : r4.1[i4]? with _ | e5
  ·rw [hx12] at h; cases h
  rw [hx12] at h
  simp only [] at h
  refine gi 145 0 23 53 2 r4.1.length cz1 (.tmp 143) (.tmp 144) Z1 .i64 (i4 : Int) i4 ((hS80.rdAt 2 rfl).eqSome (pos_of_get hx12)) rfl (lt_of_get hx12) ?_
  refine gb [3, 4, 5, 6, 7] [(150, .bool (e5.Task != (i4 : Int))), (149, .bool (e5.Task != (i4 : Int))), (148, vI (i4 : Int)), (147, vI e5.Task), (146, .pointer (some ⟨blkOf Z1, offOf Z1 + i4 * 2, none⟩))] [.loaded ⟨blkOf Z1, offOf Z1 + i4 * 2, none⟩ (vI e5.Task)] ⟨RdL.cell (j := 0) (hS80.rdAt 2 rfl) hx12 rfl, trivial⟩ ?_
  by_cases hc23 : e5.Task = (i4 : Int)
  ·rw [if_pos hc23] at h
   refine gk 150 (e5.Task != (i4 : Int)) false (bne_eq_false_iff_eq.2 hc23) ?_
   refine gb0 [8, 9] [(152, vI (i4 : Int)), (151, (.slice Z1 r4.1.length cz1))] ?_
   refine gi 153 0 23 53 2 r4.1.length cz1 (.tmp 151) (.tmp 152) Z1 .i64 (i4 : Int) i4 ((hS80.rdAt 2 rfl).eqSome (pos_of_get hx12)) rfl (lt_of_get hx12) ?_
   refine gb [11, 12, 13, 14] [(157, .bool (e5.At != 0)), (156, .bool (e5.At != 0)), (155, vI e5.At), (154, .pointer (some ⟨blkOf Z1, offOf Z1 + i4 * 2 + 1, none⟩))] [.loaded ⟨blkOf Z1, offOf Z1 + i4 * 2 + 1, none⟩ (vI e5.At)] ⟨RdL.cell (j := 1) (hS80.rdAt 2 rfl) hx12 rfl, trivial⟩ ?_
   refine gn hK58 ?_
   by_cases hc24 : e5.At = 0
   ·rw [if_pos hc24] at h
    refine wk 157 (e5.At != 0) false (bne_eq_false_iff_eq.2 hc24) ?_
    refine we_false (by kernel_rfl) ?_
    refine we_skip fun a hF => hK57 _ _ ?_ a hF
    refine ws fun K59 hK59 => ?_
    refine we_draws (by kernel_rfl) [(0, 0), (1, 0), (2, 0), (3, 0), (4, 0), (5, 0), (6, 0), (7, 0), (8, 0), (9, 0), (10, 0), (11, 0), (12, 0), (13, 0), (14, 0), (15, 0), (16, 0), (17, 0), (18, 0), (19, 0), (20, 0), (21, 0), (22, 0), (23, 0), (24, 0), (25, 0), (26, 0), (27, 0), (28, 0), (29, 0), (30, 0), (31, 0), (32, 0), (33, 0), (34, 0), (35, 0), (36, 0), (37, 0)] (by kernel_rfl) ?_
    have hS81 := hS80.drew
    refine gb [0, 1, 2, 3] [(161, .bool (r7.2.Code == 0)), (160, .bool (r7.2.Code == 0)), (159, vI r7.2.Code), (158, pP b7 0)] [.loaded ⟨b7, 0, none⟩ (vI r7.2.Code)] ⟨hS81.c 0, trivial⟩ ?_
    by_cases hc25 : r7.2.Code = 0
    ·rw [if_pos hc25] at h
     refine gk 161 (r7.2.Code == 0) true (beq_iff_eq.2 hc25) ?_
     refine gb [4, 5, 6] [(164, vI (i4 : Int)), (163, (.slice Z6 r6.1.Ends.length cz6)), (162, pP b6 1)] [.loaded ⟨b6, 1, none⟩ ((.slice Z6 r6.1.Ends.length cz6))] ⟨hS81.c 1, trivial⟩ ?_
     rcases hx13 : r6.1.Ends[i4]? with _ | e6
     ·rw [hx13] at h; cases h
     rw [hx13] at h
     simp only [] at h
     refine gi 165 0 24 3 1 r6.1.Ends.length cz6 (.tmp 163) (.tmp 164) Z6 .i64 (i4 : Int) i4 ((hS81.rdAt 4 rfl).eqSome (pos_of_get hx13)) rfl (lt_of_get hx13) ?_
     refine gb [8, 9, 10, 11, 12] [(170, .bool (e6 != r7.1)), (169, .bool (e6 != r7.1)), (168, .bool (e6 != r7.1)), (167, vI r7.1), (166, vI e6)] [.loaded ⟨blkOf Z6, offOf Z6 + i4 * 1, none⟩ (vI e6)] ⟨RdL.cell (j := 0) (hS81.rdAt 4 rfl) hx13 rfl, trivial⟩ ?_
     by_cases hc26 : e6 = r7.1
     ·rw [if_pos hc26] at h
      refine gk 170 (e6 != r7.1) false (bne_eq_false_iff_eq.2 hc26) ?_
      refine gb [13, 14, 15, 16] [(174, .bool (r7.2.Code != 0)), (173, .bool (r7.2.Code != 0)), (172, vI r7.2.Code), (171, pP b7 0)] [.loaded ⟨b7, 0, none⟩ (vI r7.2.Code)] ⟨hS81.c 0, trivial⟩ ?_
      refine gk 174 (r7.2.Code != 0) false (bne_eq_false_iff_eq.2 hc25) ?_
      refine gb0 [17, 18, 19, 20, 21, 22, 23, 24, 25, 26, 27, 28, 29, 30, 31, 32, 33, 34, 35, 36, 37] [(195, .bool false), (194, .bool false), (193, undef), (192, undef), (191, undef), (190, undef), (189, undef), (188, undef), (187, undef), (186, undef), (185, undef), (184, undef), (183, undef), (182, .bool false), (181, .bool false), (180, undef), (179, undef), (178, undef), (177, undef), (176, undef), (175, undef)] ?_
      refine gn hK59 ?_
      refine we_false (by kernel_rfl) ?_
      refine we_skip fun a hF => hK54 _ _ ?_ a hF
      refine wr [(0, 0), (1, 0)] ?_
      refine ge_addn (d := 196) (ty := 3) (x := (.tmp 134)) (y := (.const (vI 1))) (t := 3) (t2 := 3) (k := .i64) (m := i4) (by kernel_rfl) (by kernel_rfl) (by kernel_rfl) (by have h0 := hR0.small; omega) ?_
      refine gb0 [1] [(134, vI ((i4 + 1 : Nat) : Int))] ?_
      have hS82 := hS81.bring 4 rfl
      have hS83 := hS82.bring 4 rfl
      have hS84 := hS83.bring 4 rfl
      have hS85 := hS84.bring 4 rfl
      have hS86 := hS85.takeN 4
      obtain rfl := si h
      exact ge_nil fun a hF => hQ _ _ _ (Outs.again ⟨hS86, hF.weaken ea⟩)
     ·rw [if_neg hc26] at h
      refine gk 170 (e6 != r7.1) true (bne_iff_ne.2 hc26) ?_
      refine gb0 [13, 14, 15, 16, 17, 18, 19, 20, 21, 22, 23, 24, 25, 26, 27, 28, 29, 30, 31, 32, 33, 34, 35, 36, 37] [(195, .bool true), (194, undef), (193, undef), (192, undef), (191, undef), (190, undef), (189, undef), (188, undef), (187, undef), (186, undef), (185, undef), (184, undef), (183, undef), (182, undef), (181, undef), (180, undef), (179, undef), (178, undef), (177, undef), (176, undef), (175, undef), (174, undef), (173, undef), (172, undef), (171, undef)] ?_
      refine gn hK59 ?_
      refine we_true (by kernel_rfl) ?_
      refine ws fun K60 hK60 => ?_
      refine wr [(0, 0)] ?_
      refine gb0 [0] [(2, .bool false)] ?_
      refine gn hK60 ?_
      have hS87 := hS81.takeN 0
      obtain rfl := si h
      exact we_ret fun a hF => hQ _ _ _ (Outs.out nofun (Exits.on ⟨rfl, (pr0 [.tmp 2] [.bool false] ⟨rfl, hS87⟩) a hF⟩))
    ·rw [if_neg hc25] at h
     refine gk 161 (r7.2.Code == 0) false (beq_eq_false_iff_ne.2 hc25) ?_
     refine gb [4, 5, 6, 7, 8, 9, 10, 11, 12, 13, 14, 15, 16] [(174, .bool (r7.2.Code != 0)), (173, .bool (r7.2.Code != 0)), (172, vI r7.2.Code), (171, pP b7 0), (170, .bool false), (169, .bool false), (168, undef), (167, undef), (166, undef), (165, undef), (164, undef), (163, undef), (162, undef)] [.loaded ⟨b7, 0, none⟩ (vI r7.2.Code)] ⟨hS81.c 0, trivial⟩ ?_
     refine gk 174 (r7.2.Code != 0) true (bne_iff_ne.2 hc25) ?_
     refine gb [17, 18, 19] [(177, vI (i4 : Int)), (176, (.slice Z6 r6.1.Ends.length cz6)), (175, pP b6 1)] [.loaded ⟨b6, 1, none⟩ ((.slice Z6 r6.1.Ends.length cz6))] ⟨hS81.c 1, trivial⟩ ?_
     rcases hx14 : r6.1.Ends[i4]? with _ | e7
     ·rw [hx14] at h; cases h
     rw [hx14] at h
     simp only [] at h
     refine gi 178 0 24 3 1 r6.1.Ends.length cz6 (.tmp 176) (.tmp 177) Z6 .i64 (i4 : Int) i4 ((hS81.rdAt 4 rfl).eqSome (pos_of_get hx14)) rfl (lt_of_get hx14) ?_
     refine gb [21, 22, 23, 24] [(182, .bool (decide (e7 ≥ 0))), (181, .bool (decide (e7 ≥ 0))), (180, .bool (decide (e7 ≥ 0))), (179, vI e7)] [.loaded ⟨blkOf Z6, offOf Z6 + i4 * 1, none⟩ (vI e7)] ⟨RdL.cell (j := 0) (hS81.rdAt 4 rfl) hx14 rfl, trivial⟩ ?_
     by_cases hc27 : e7 ≥ 0
     ·rw [if_pos hc27] at h
      refine gk 182 (decide (e7 ≥ 0)) true (decide_eq_true hc27) ?_
      refine gb [25, 26, 27] [(185, vI (i4 : Int)), (184, (.slice Z6 r6.1.Ends.length cz6)), (183, pP b6 1)] [.loaded ⟨b6, 1, none⟩ ((.slice Z6 r6.1.Ends.length cz6))] ⟨hS81.c 1, trivial⟩ ?_
      refine gi 186 0 24 3 1 r6.1.Ends.length cz6 (.tmp 184) (.tmp 185) Z6 .i64 (i4 : Int) i4 ((hS81.rdAt 4 rfl).eqSome (pos_of_get hx14)) rfl (lt_of_get hx14) ?_
      refine gb [29, 30, 31] [(189, vI (i4 : Int)), (188, .slice A0 l0.length c0), (187, vI e7)] [.loaded ⟨blkOf Z6, offOf Z6 + i4 * 1, none⟩ (vI e7)] ⟨RdL.cell (j := 0) (hS81.rdAt 4 rfl) hx14 rfl, trivial⟩ ?_
      rcases hx15 : l0[i4]? with _ | e8
      ·rw [hx15] at h; cases h
      rw [hx15] at h
      simp only [] at h
      refine gi 190 0 22 46 7 l0.length c0 (.tmp 188) (.tmp 189) A0 .i64 (i4 : Int) i4 ((hS81.rd hR0).eqSome (pos_of_get hx15)) rfl (lt_of_get hx15) ?_
      refine gb [33, 34, 35, 36, 37] [(195, .bool (decide (e7 ≤ e8.D))), (194, .bool (decide (e7 ≤ e8.D))), (193, .bool (decide (e7 ≤ e8.D))), (192, vI e8.D), (191, .pointer (some ⟨blkOf A0, offOf A0 + i4 * 7 + 3, none⟩))] [.loaded ⟨blkOf A0, offOf A0 + i4 * 7 + 3, none⟩ (vI e8.D)] ⟨RdL.cell (j := 3) (hS81.rd hR0) hx15 rfl, trivial⟩ ?_
      refine gn hK59 ?_
      by_cases hc28 : e7 ≤ e8.D
      ·rw [if_pos hc28] at h
       refine wk 195 (decide (e7 ≤ e8.D)) true (decide_eq_true hc28) ?_
       refine we_true (by kernel_rfl) ?_
       refine ws fun K61 hK61 => ?_
       refine wr [(0, 0)] ?_
       refine gb0 [0] [(2, .bool false)] ?_
       refine gn hK61 ?_
       have hS88 := hS81.takeN 0
       obtain rfl := si h
       exact we_ret fun a hF => hQ _ _ _ (Outs.out nofun (Exits.on ⟨rfl, (pr0 [.tmp 2] [.bool false] ⟨rfl, hS88⟩) a hF⟩))
      ·rw [if_neg hc28] at h
       refine wk 195 (decide (e7 ≤ e8.D)) false (decide_eq_false hc28) ?_
       refine we_false (by kernel_rfl) ?_
       refine we_skip fun a hF => hK54 _ _ ?_ a hF
       refine wr [(0, 0), (1, 0)] ?_
       refine ge_addn (d := 196) (ty := 3) (x := (.tmp 134)) (y := (.const (vI 1))) (t := 3) (t2 := 3) (k := .i64) (m := i4) (by kernel_rfl) (by kernel_rfl) (by kernel_rfl) (by have h0 := hR0.small; omega) ?_
       refine gb0 [1] [(134, vI ((i4 + 1 : Nat) : Int))] ?_
       have hS89 := hS81.bring 4 rfl
       have hS90 := hS89.bring 4 rfl
       have hS91 := hS90.bring 4 rfl
       have hS92 := hS91.bring 4 rfl
       have hS93 := hS92.takeN 4
       obtain rfl := si h
       exact ge_nil fun a hF => hQ _ _ _ (Outs.again ⟨hS93, hF.weaken ea⟩)
     ·rw [if_neg hc27] at h
      refine gk 182 (decide (e7 ≥ 0)) false (decide_eq_false hc27) ?_
      refine gb0 [25, 26, 27, 28, 29, 30, 31, 32, 33, 34, 35, 36, 37] [(195, .bool false), (194, .bool false), (193, undef), (192, undef), (191, undef), (190, undef), (189, undef), (188, undef), (187, undef), (186, undef), (185, undef), (184, undef), (183, undef)] ?_
      refine gn hK59 ?_
      refine we_false (by kernel_rfl) ?_
      refine we_skip fun a hF => hK54 _ _ ?_ a hF
      refine wr [(0, 0), (1, 0)] ?_
      refine ge_addn (d := 196) (ty := 3) (x := (.tmp 134)) (y := (.const (vI 1))) (t := 3) (t2 := 3) (k := .i64) (m := i4) (by kernel_rfl) (by kernel_rfl) (by kernel_rfl) (by have h0 := hR0.small; omega) ?_
      refine gb0 [1] [(134, vI ((i4 + 1 : Nat) : Int))] ?_
      have hS94 := hS81.bring 4 rfl
      have hS95 := hS94.bring 4 rfl
      have hS96 := hS95.bring 4 rfl
      have hS97 := hS96.bring 4 rfl
      have hS98 := hS97.takeN 4
      obtain rfl := si h
      exact ge_nil fun a hF => hQ _ _ _ (Outs.again ⟨hS98, hF.weaken ea⟩)
   ·rw [if_neg hc24] at h
    refine wk 157 (e5.At != 0) true (bne_iff_ne.2 hc24) ?_
    refine we_true (by kernel_rfl) ?_
    refine ws fun K62 hK62 => ?_
    refine wr [(0, 0)] ?_
    refine gb0 [0] [(2, .bool false)] ?_
    refine gn hK62 ?_
    have hS99 := hS80.takeN 0
    obtain rfl := si h
    exact we_ret fun a hF => hQ _ _ _ (Outs.out nofun (Exits.on ⟨rfl, (pr0 [.tmp 2] [.bool false] ⟨rfl, hS99⟩) a hF⟩))
  ·rw [if_neg hc23] at h
   refine gk 150 (e5.Task != (i4 : Int)) true (bne_iff_ne.2 hc23) ?_
   refine gb0 [8, 9, 10, 11, 12, 13, 14] [(157, .bool true), (156, undef), (155, undef), (154, undef), (153, undef), (152, undef), (151, undef)] ?_
   refine gn hK58 ?_
   refine we_true (by kernel_rfl) ?_
   refine ws fun K63 hK63 => ?_
   refine wr [(0, 0)] ?_
   refine gb0 [0] [(2, .bool false)] ?_
   refine gn hK63 ?_
   have hS100 := hS80.takeN 0
   obtain rfl := si h
   exact we_ret fun a hF => hQ _ _ _ (Outs.out nofun (Exits.on ⟨rfl, (pr0 [.tmp 2] [.bool false] ⟨rfl, hS100⟩) a hF⟩))
 ·rw [if_neg hc22] at h
  refine wk 135 (decide ((i4 : Int) < (l0.length : Int))) false (decide_eq_false hc22) ?_
  refine we_false (by kernel_rfl) ?_
  have hS101 := hS.takeN 0
  obtain rfl := si h
  exact we_exit fun a hF => hQ _ _ _ (Outs.out nofun (Exits.here ⟨hS101, hF.weaken trivial⟩))
theorem FixedExact_ok (K : Nat) (l0 : List STask) (A0 : Option Addr) (c0 : Nat) (w0 : World) (hR0 : RdL w0 A0 l0) (hL0 : l0.length ≤ c0) (r : Bool) (h : FixedExact.f K l0 = some r) :
  Calls Try.prog 5 #[.slice A0 l0.length c0] w0 (FixedExact.Post w0 r) := by
 have hS := St.start w0
 unfold FixedExact.f at h
 refine calls_enter (n := 197) (args := [.slice A0 l0.length c0]) (fn := Try.f5) rfl rfl rfl rfl ?_
 show WE _ _ _ _ [(0, .slice A0 l0.length c0)] _
 refine ws fun K1 hK1 => ?_
 refine wr [(0, 0)] ?_
 refine gb0 [0] [(2, .bool false)] ?_
 refine gn hK1 ?_
 refine ws fun K2 hK2 => ?_
 rcases hq3 : FixedExact.p0 K with _ | (_ | rr7)
 ·rw [hq3] at h; cases h
 ·rw [hq3] at h
  simp only [] at h
  refine we_keep (e' := [(0, .slice A0 l0.length c0), (2, .bool false)]) ea (FixedExact_p0 K w0 l0 A0 c0 hR0 hL0 _ hq3 _ hS _ ?_)
  rintro _ a w3 ⟨rfl, hS5, hF⟩
  replace hS5 : St w0 w3 [] := hS5
  refine hK2 [(0, .slice A0 l0.length c0)] w3 ?_ a hF
  refine ws fun K6 hK6 => ?_
  refine ws fun K7 hK7 => ?_
  refine wr [(0, 0), (1, 1), (2, 0), (3, 0)] ?_
  rcases hq4 : punctualref_CheckFixed.f K l0 with _ | r3
  ·rw [hq4] at h; cases h
  rw [hq4] at h
  simp only [] at h
  refine gb0 [0] [(24, .slice A0 l0.length c0)] ?_
  refine ge_call (d := some 25) (f := 18) (args := #[.slice A0 l0.length c0]) (by kernel_rfl) (punctualref_CheckFixed_ok K l0 A0 c0 _ (hS5.rd hR0) hL0 _ hq4) ?_
  rintro _ w4 ⟨rfl, hS6⟩
  refine ⟨_, rfl, hS6.below, ?_⟩
  have hS7 := hS5.call hS6
  refine gb0 [2, 3] [(27, .bool (r3.Code != 0)), (26, vI r3.Code)] ?_
  refine gn hK7 ?_
  by_cases hc3 : r3.Code = 0
  ·rw [if_pos hc3] at h
   refine wk 27 (r3.Code != 0) false (bne_eq_false_iff_eq.2 hc3) ?_
   refine we_false (by kernel_rfl) ?_
   refine we_skip fun a hF => hK6 _ _ ?_ a hF
   refine ws fun K8 hK8 => ?_
   refine wr [(0, 0)] ?_
   refine gb0 [0] [(3, vI 0)] ?_
   refine gn hK8 ?_
   refine ws fun K9 hK9 => ?_
   refine ws fun K10 hK10 => ?_
   refine wr [(0, 0), (1, 0), (2, 0)] ?_
   refine gb0 [0, 1, 2] [(30, vI 0), (29, vI (l0.length : Int)), (28, .slice A0 l0.length c0)] ?_
   refine gn hK10 ?_
   refine we_block ?_
   rcases hq6 : iter (FixedExact.r1 K l0) K (0, 0) with _ | (z3 | rr6)
   ·rw [hq6] at h; cases h
   ·rw [hq6] at h
    simp only [] at h
    refine we_iter (A := FixedExact.A1 w0 l0 A0 c0) (B := FixedExact.B1 w0 l0 A0 c0) hq6 (fun a hF => ⟨hS7, hF.weaken ea⟩) (fun s o hf a w hA Q hQ => FixedExact_r1 K w0 l0 A0 c0 hR0 hL0 r3 hc3 s o hf a w hA Q hQ) ?_
    rintro _ a w10 _ ⟨rfl, hS21, hF⟩
    replace hS21 : St w0 w10 [] := hS21
    refine hK9 [(0, .slice A0 l0.length c0), (3, vI z3)] w10 ?_ a hF
    refine ws fun K27 hK27 => ?_
    refine ws fun K28 hK28 => ?_
    refine wr [(0, 0), (1, 0)] ?_
    refine gb0 [0, 1] [(63, .bool (decide (z3 > 1500))), (62, vI z3)] ?_
    refine gn hK28 ?_
    by_cases hc10 : z3 > 1500
    ·rw [if_pos hc10] at h
     refine wk 63 (decide (z3 > 1500)) true (decide_eq_true hc10) ?_
     refine we_true (by kernel_rfl) ?_
     refine ws fun K29 hK29 => ?_
     refine wr [(0, 0)] ?_
     refine gb0 [0] [(2, .bool true)] ?_
     refine gn hK29 ?_
     obtain rfl := si h
     exact we_ret (pr0 [.tmp 2] [.bool true] ⟨rfl, hS21⟩)
    ·rw [if_neg hc10] at h
     refine wk 63 (decide (z3 > 1500)) false (decide_eq_false hc10) ?_
     refine we_false (by kernel_rfl) ?_
     refine we_skip fun a hF => hK27 _ _ ?_ a hF
     refine ws fun K30 hK30 => ?_
     refine wr [(0, 0), (1, 0), (2, 1), (3, 0), (4, 0), (5, 0), (6, 1), (7, 0), (8, 2)] ?_
     rcases hq7 : tasks_Comes.f K l0 z3 with _ | r4
     ·rw [hq7] at h; cases h
     rw [hq7] at h
     simp only [] at h
     refine gb0 [0, 1] [(66, vI z3), (65, .slice A0 l0.length c0)] ?_
     refine ge_call (d := some 67) (f := 19) (args := #[.slice A0 l0.length c0, vI z3]) (by kernel_rfl) (tasks_Comes_ok K l0 A0 c0 z3 _ (hS21.rd hR0) hL0 _ hq7) ?_
     rintro _ w11 ⟨v1, rfl, hS22⟩
     refine ⟨_, rfl, hS22.below, ?_⟩
     have hS23 := hS21.call hS22
     refine gb0 [3, 4, 5] [(69, .agg #[vI r4.2.Code, vI r4.2.At]), (68, v1), (64, .tuple #[v1, .agg #[vI r4.2.Code, vI r4.2.At]])] ?_
     refine gw (some 9) (.cells #[vI 0, vI 0] 29) (fun b => pP b 0) hS23 fun b3 w12 hx5 hS24 => ?_
     refine gb0 [7] [(8, v1)] ?_
     refine gs b3 0 #[vI 0, vI 0] 29 [vI r4.2.Code, vI r4.2.At] hS24 fun w13 hS25 => ?_
     have hS26 : St w0 w13 [Own.blk b3 (.cells #[vI r4.2.Code, vI r4.2.At] 29 (0, 0)), Own.of v1 53 r4.1] := hS25
     refine gn hK30 ?_
     refine ws fun K31 hK31 => ?_
     obtain ⟨Z1, cz1, rfl⟩ := hS26.open 1 rfl
     rcases hq8 : FixedExact.p3 r4 with _ | (_ | rr5)
     ·rw [hq8] at h; cases h
     ·rw [hq8] at h
      simp only [] at h
      refine we_keep (e' := [(0, .slice A0 l0.length c0), (3, vI z3), (8, (.slice Z1 r4.1.length cz1)), (9, pP b3 0), (62, vI z3), (63, .bool false), (64, .tuple #[(.slice Z1 r4.1.length cz1), .agg #[vI r4.2.Code, vI r4.2.At]]), (65, .slice A0 l0.length c0), (66, vI z3), (67, .tuple #[(.slice Z1 r4.1.length cz1), .agg #[vI r4.2.Code, vI r4.2.At]]), (68, (.slice Z1 r4.1.length cz1)), (69, .agg #[vI r4.2.Code, vI r4.2.At])]) ea (FixedExact_p3 K w0 l0 A0 c0 hR0 hL0 r3 hc3 z3 hc10 r4 b3 Z1 cz1 _ hq8 _ hS26 _ ?_)
      rintro _ a w14 ⟨rfl, hS33, hF⟩
      replace hS33 : St w0 w14 [Own.blk b3 (.cells #[vI r4.2.Code, vI r4.2.At] 29 (0, 0)), Own.of (.slice Z1 r4.1.length cz1) 53 r4.1] := hS33
      refine hK31 [(0, .slice A0 l0.length c0), (3, vI z3), (8, (.slice Z1 r4.1.length cz1)), (9, pP b3 0)] w14 ?_ a hF
      refine ws fun K35 hK35 => ?_
      refine wr [(0, 0)] ?_
      refine gb0 [0] [(10, .slice none 0 0)] ?_
      refine gn hK35 ?_
      refine ws fun K36 hK36 => ?_
      refine ws fun K37 hK37 => ?_
      refine wr [(0, 0), (1, 0), (2, 0)] ?_
      refine gb0 [0, 1, 2] [(88, vI 0), (87, vI (r4.1.length : Int)), (86, (.slice Z1 r4.1.length cz1))] ?_
      refine gn hK37 ?_
      refine we_block ?_
      have hS34 := hS33.nil (α := Int) 3
      have hS35 := hS34.bring 2 rfl
      have hS36 := hS35.bring 2 rfl
      rcases hq9 : iter (FixedExact.r4 l0 r4) K (([] : List Int), 0) with _ | (m3 | rr4)
      ·rw [hq9] at h; cases h
      ·rw [hq9] at h
       simp only [] at h
       refine we_iter (A := FixedExact.A4 w0 l0 A0 c0 z3 r4 b3 Z1 cz1) (B := FixedExact.B4 w0 l0 A0 c0 z3 r4 b3 Z1 cz1) hq9 (fun a hF => ⟨(.slice none 0 0), hS36, hF.weaken ea⟩) (fun s o hf a w hA Q hQ => FixedExact_r4 K w0 l0 A0 c0 hR0 hL0 r3 hc3 z3 hc10 r4 b3 Z1 cz1 s o hf a w hA Q hQ) ?_
       rintro _ a w19 _ ⟨rfl, v5, hS49, hF⟩
       replace hS49 : St w0 w19 [Own.blk b3 (.cells #[vI r4.2.Code, vI r4.2.At] 29 (0, 0)), Own.of (.slice Z1 r4.1.length cz1) 53 r4.1, Own.of v5 3 m3] := hS49
       refine hK36 [(0, .slice A0 l0.length c0), (3, vI z3), (8, (.slice Z1 r4.1.length cz1)), (9, pP b3 0), (10, v5)] w19 ?_ a hF
       refine ws fun K42 hK42 => ?_
       refine wr [(0, 0), (1, 0), (2, 0), (3, 0), (4, 1), (5, 0), (6, 1), (7, 0), (8, 0), (9, 0), (10, 0), (11, 2)] ?_
       refine gb0 [0, 1, 2, 3] [(106, vI (r4.1.length : Int)), (105, (.slice Z1 r4.1.length cz1)), (104, (.slice Z1 r4.1.length cz1)), (103, .slice A0 l0.length c0)] ?_
       by_cases hc18 : r4.1.length ≤ 17592186044416
       ·rw [if_pos hc18] at h
        refine ge_make (α := Int) (d := 107) (t := 24) (el := 3) (bytes := 8) (l := r4.1.length) (c := r4.1.length) (x := (.tmp 106)) (y := (.tmp 106)) (ty := 24) (k1 := .i64) (k2 := .i64) (li := (r4.1.length : Int)) (ci := (r4.1.length : Int)) (z := vI 0) (z' := (0 : Int)) (by kernel_rfl) (by kernel_rfl) (by kernel_rfl) rfl rfl (by kernel_rfl) (by kernel_rfl) rfl hS49 (Nat.le_refl _) rfl (by omega) fun v6 w20 _ hS50 => ?_
        refine gb0 [5] [(108, v5)] ?_
        obtain ⟨Z2, cz2, rfl⟩ := hS50.open 0 rfl
        obtain ⟨Z3, cz3, rfl⟩ := hS50.open 3 rfl
        rcases hq10 : tasks_Jobs.f K l0 r4.1 (List.replicate r4.1.length (0 : Int)) m3 with _ | r5
        ·rw [hq10] at h; cases h
        rw [hq10] at h
        simp only [] at h
        refine ge_call (d := some 109) (f := 11) (args := #[.slice A0 l0.length c0, (.slice Z1 r4.1.length cz1), (.slice Z2 (List.replicate r4.1.length (0 : Int)).length cz2), (.slice Z3 m3.length cz3)]) (by kernel_rfl) (tasks_Jobs_ok K l0 A0 c0 r4.1 Z1 cz1 (List.replicate r4.1.length (0 : Int)) Z2 cz2 m3 Z3 cz3 _ (hS50.rd hR0) hL0 (hS50.rdAt 2 rfl) (hS50.capAt 2 rfl) (hS50.rdAt 0 rfl) (hS50.capAt 0 rfl) (hS50.rdAt 3 rfl) (hS50.capAt 3 rfl) _ hq10) ?_
        rintro _ w21 ⟨v7, rfl, hS51⟩
        refine ⟨_, rfl, hS51.below, ?_⟩
        have hS52 := hS50.call hS51
        refine gb0 [7, 8, 9, 10] [(13, v7), (111, .agg #[vI r5.2.Code, vI r5.2.At]), (110, v7), (102, .tuple #[v7, .agg #[vI r5.2.Code, vI r5.2.At]])] ?_
        have hS53 := hS52.bring 2 rfl
        refine gs b3 0 #[vI r4.2.Code, vI r4.2.At] 29 [vI r5.2.Code, vI r5.2.At] hS53 fun w22 hS54 => ?_
        have hS55 : St w0 w22 [Own.blk b3 (.cells #[vI r5.2.Code, vI r5.2.At] 29 (0, 0)), Own.of v7 59 r5.1, Own.of (.slice Z2 (List.replicate r4.1.length (0 : Int)).length cz2) 3 (List.replicate r4.1.length (0 : Int)), Own.of (.slice Z1 r4.1.length cz1) 53 r4.1, Own.of (.slice Z3 m3.length cz3) 3 m3] := hS54
        refine gn hK42 ?_
        refine ws fun K43 hK43 => ?_
        refine ws fun K44 hK44 => ?_
        refine wr [(0, 0), (1, 0), (2, 0)] ?_
        refine gb [0, 1, 2] [(114, .bool (r5.2.Code != 0)), (113, vI r5.2.Code), (112, pP b3 0)] [.loaded ⟨b3, 0, none⟩ (vI r5.2.Code)] ⟨hS55.c 0, trivial⟩ ?_
        refine gn hK44 ?_
        by_cases hc19 : r5.2.Code = 0
        ·rw [if_pos hc19] at h
         refine wk 114 (r5.2.Code != 0) false (bne_eq_false_iff_eq.2 hc19) ?_
         refine we_false (by kernel_rfl) ?_
         refine we_skip fun a hF => hK43 _ _ ?_ a hF
         refine ws fun K45 hK45 => ?_
         refine wr [(0, 0), (1, 0), (2, 1), (3, 0), (4, 0), (5, 0), (6, 1), (7, 2), (8, 2)] ?_
         refine gb0 [0, 1] [(117, vI z3), (116, v7)] ?_
         obtain ⟨Z4, cz4, rfl⟩ := hS55.open 1 rfl
         rcases hq11 : sched_Play.f K r5.1 1 true z3 with _ | r6
         ·rw [hq11] at h; cases h
         rw [hq11] at h
         simp only [] at h
         refine ge_call (d := some 118) (f := 13) (args := #[(.slice Z4 r5.1.length cz4), vI 1, .bool true, vI z3]) (by kernel_rfl) (sched_Play_ok K r5.1 Z4 cz4 1 true z3 _ (hS55.rdAt 1 rfl) (hS55.capAt 1 rfl) _ hq11) ?_
         rintro _ w23 ⟨v8, v9, rfl, hS56⟩
         refine ⟨_, rfl, hS56.below, ?_⟩
         have hS57 := hS55.call hS56
         refine gb0 [3, 4, 5] [(120, .agg #[vI r6.2.Code, vI r6.2.At]), (119, .agg #[v8, v9]), (115, .tuple #[.agg #[v8, v9], .agg #[vI r6.2.Code, vI r6.2.At]])] ?_
         refine gw (some 14) (.cells #[.slice none 0 0, .slice none 0 0] 37) (fun b => pP b 0) hS57 fun b6 w24 hx10 hS58 => ?_
         obtain ⟨Z5, cz5, rfl⟩ := hS58.open 1 rfl
         obtain ⟨Z6, cz6, rfl⟩ := hS58.open 2 rfl
         refine gs b6 0 #[.slice none 0 0, .slice none 0 0] 37 [(.slice Z5 r6.1.Runs.length cz5), (.slice Z6 r6.1.Ends.length cz6)] hS58 fun w25 hS59 => ?_
         have hS60 : St w0 w25 [Own.blk b6 (.cells #[(.slice Z5 r6.1.Runs.length cz5), (.slice Z6 r6.1.Ends.length cz6)] 37 (0, 0)), Own.of (.slice Z5 r6.1.Runs.length cz5) 3 r6.1.Runs, Own.of (.slice Z6 r6.1.Ends.length cz6) 3 r6.1.Ends, Own.blk b3 (.cells #[vI r5.2.Code, vI r5.2.At] 29 (0, 0)), Own.of (.slice Z4 r5.1.length cz4) 59 r5.1, Own.of (.slice Z2 (List.replicate r4.1.length (0 : Int)).length cz2) 3 (List.replicate r4.1.length (0 : Int)), Own.of (.slice Z1 r4.1.length cz1) 53 r4.1, Own.of (.slice Z3 m3.length cz3) 3 m3] := hS59
         have hS61 := hS60.bring 3 rfl
         refine gs b3 0 #[vI r5.2.Code, vI r5.2.At] 29 [vI r6.2.Code, vI r6.2.At] hS61 fun w26 hS62 => ?_
         have hS63 : St w0 w26 [Own.blk b3 (.cells #[vI r6.2.Code, vI r6.2.At] 29 (0, 0)), Own.blk b6 (.cells #[(.slice Z5 r6.1.Runs.length cz5), (.slice Z6 r6.1.Ends.length cz6)] 37 (0, 0)), Own.of (.slice Z5 r6.1.Runs.length cz5) 3 r6.1.Runs, Own.of (.slice Z6 r6.1.Ends.length cz6) 3 r6.1.Ends, Own.of (.slice Z4 r5.1.length cz4) 59 r5.1, Own.of (.slice Z2 (List.replicate r4.1.length (0 : Int)).length cz2) 3 (List.replicate r4.1.length (0 : Int)), Own.of (.slice Z1 r4.1.length cz1) 53 r4.1, Own.of (.slice Z3 m3.length cz3) 3 m3] := hS62
         refine gn hK45 ?_
         refine ws fun K46 hK46 => ?_
         rcases hq12 : FixedExact.p5 r4 r6 with _ | (_ | rr3)
         ·rw [hq12] at h; cases h
         ·rw [hq12] at h
          simp only [] at h
          refine we_keep (e' := [(0, .slice A0 l0.length c0), (3, vI z3), (8, (.slice Z1 r4.1.length cz1)), (9, pP b3 0), (10, (.slice Z3 m3.length cz3)), (13, (.slice Z4 r5.1.length cz4)), (14, pP b6 0), (102, .tuple #[(.slice Z4 r5.1.length cz4), .agg #[vI r5.2.Code, vI r5.2.At]]), (103, .slice A0 l0.length c0), (104, (.slice Z1 r4.1.length cz1)), (105, (.slice Z1 r4.1.length cz1)), (106, vI (r4.1.length : Int)), (107, (.slice Z2 (List.replicate r4.1.length (0 : Int)).length cz2)), (108, (.slice Z3 m3.length cz3)), (109, .tuple #[(.slice Z4 r5.1.length cz4), .agg #[vI r5.2.Code, vI r5.2.At]]), (110, (.slice Z4 r5.1.length cz4)), (111, .agg #[vI r5.2.Code, vI r5.2.At]), (112, pP b3 0), (113, vI r5.2.Code), (114, .bool false), (115, .tuple #[.agg #[(.slice Z5 r6.1.Runs.length cz5), (.slice Z6 r6.1.Ends.length cz6)], .agg #[vI r6.2.Code, vI r6.2.At]]), (116, (.slice Z4 r5.1.length cz4)), (117, vI z3), (118, .tuple #[.agg #[(.slice Z5 r6.1.Runs.length cz5), (.slice Z6 r6.1.Ends.length cz6)], .agg #[vI r6.2.Code, vI r6.2.At]]), (119, .agg #[(.slice Z5 r6.1.Runs.length cz5), (.slice Z6 r6.1.Ends.length cz6)]), (120, .agg #[vI r6.2.Code, vI r6.2.At])]) ea (FixedExact_p5 K w0 l0 A0 c0 hR0 hL0 r3 hc3 z3 hc10 r4 b3 Z1 cz1 m3 hc18 Z2 cz2 Z3 cz3 r5 hc19 Z4 cz4 r6 b6 Z5 cz5 Z6 cz6 _ hq12 _ hS63 _ ?_)
          rintro _ a w27 ⟨rfl, hS71, hF⟩
          replace hS71 : St w0 w27 [Own.blk b6 (.cells #[(.slice Z5 r6.1.Runs.length cz5), (.slice Z6 r6.1.Ends.length cz6)] 37 (0, 0)), Own.of (.slice Z1 r4.1.length cz1) 53 r4.1, Own.of (.slice Z5 r6.1.Runs.length cz5) 3 r6.1.Runs, Own.of (.slice Z6 r6.1.Ends.length cz6) 3 r6.1.Ends] := hS71
          refine hK46 [(0, .slice A0 l0.length c0), (8, (.slice Z1 r4.1.length cz1)), (14, pP b6 0)] w27 ?_ a hF
          refine ws fun K50 hK50 => ?_
          refine ws fun K51 hK51 => ?_
          refine wr [(0, 0), (1, 0), (2, 0)] ?_
          refine gb0 [0, 1, 2] [(134, vI 0), (133, vI (l0.length : Int)), (132, .slice A0 l0.length c0)] ?_
          refine gn hK51 ?_
          refine we_block ?_
          have hS72 := hS71.bring 3 rfl
          have hS73 := hS72.bring 3 rfl
          have hS74 := hS73.bring 3 rfl
          have hS75 := hS74.bring 3 rfl
          rcases hq14 : iter (FixedExact.r6 K l0 r4 r6) K 0 with _ | (_ | rr2)
          ·rw [hq14] at h; cases h
          ·rw [hq14] at h
           simp only [] at h
           refine we_iter (A := FixedExact.A6 w0 l0 A0 c0 r4 Z1 cz1 r6 b6 Z5 cz5 Z6 cz6) (B := FixedExact.B6 w0) hq14 (fun a hF => ⟨hS75, hF.weaken ea⟩) (fun s o hf a w hA Q hQ => FixedExact_r6 K w0 l0 A0 c0 hR0 hL0 r3 hc3 z3 hc10 r4 b3 Z1 cz1 m3 hc18 Z2 cz2 Z3 cz3 r5 hc19 Z4 cz4 r6 b6 Z5 cz5 Z6 cz6 s o hf a w hA Q hQ) ?_
           rintro _ a w31 _ ⟨rfl, hS102, hF⟩
           replace hS102 : St w0 w31 [] := hS102
           refine hK50 [] w31 ?_ a hF
           refine ws fun K64 hK64 => ?_
           refine wr [(0, 0)] ?_
           refine gb0 [0] [(2, .bool true)] ?_
           refine gn hK64 ?_
           obtain rfl := si h
           exact we_ret (pr0 [.tmp 2] [.bool true] ⟨rfl, hS102⟩)
          ·rw [hq14] at h
           simp only [] at h
           refine we_iter (A := FixedExact.A6 w0 l0 A0 c0 r4 Z1 cz1 r6 b6 Z5 cz5 Z6 cz6) (B := FixedExact.B6 w0) hq14 (fun a hF => ⟨hS75, hF.weaken ea⟩) (fun s o hf a w hA Q hQ => FixedExact_r6 K w0 l0 A0 c0 hR0 hL0 r3 hc3 z3 hc10 r4 b3 Z1 cz1 m3 hc18 Z2 cz2 Z3 cz3 r5 hc19 Z4 cz4 r6 b6 Z5 cz5 Z6 cz6 s o hf a w hA Q hQ) ?_
           rintro _ a w1 _ ⟨rfl, hb⟩
           obtain rfl := si h
           exact hb
         ·rw [hq12] at h
          simp only [] at h
          refine we_keep (e' := [(0, .slice A0 l0.length c0), (3, vI z3), (8, (.slice Z1 r4.1.length cz1)), (9, pP b3 0), (10, (.slice Z3 m3.length cz3)), (13, (.slice Z4 r5.1.length cz4)), (14, pP b6 0), (102, .tuple #[(.slice Z4 r5.1.length cz4), .agg #[vI r5.2.Code, vI r5.2.At]]), (103, .slice A0 l0.length c0), (104, (.slice Z1 r4.1.length cz1)), (105, (.slice Z1 r4.1.length cz1)), (106, vI (r4.1.length : Int)), (107, (.slice Z2 (List.replicate r4.1.length (0 : Int)).length cz2)), (108, (.slice Z3 m3.length cz3)), (109, .tuple #[(.slice Z4 r5.1.length cz4), .agg #[vI r5.2.Code, vI r5.2.At]]), (110, (.slice Z4 r5.1.length cz4)), (111, .agg #[vI r5.2.Code, vI r5.2.At]), (112, pP b3 0), (113, vI r5.2.Code), (114, .bool false), (115, .tuple #[.agg #[(.slice Z5 r6.1.Runs.length cz5), (.slice Z6 r6.1.Ends.length cz6)], .agg #[vI r6.2.Code, vI r6.2.At]]), (116, (.slice Z4 r5.1.length cz4)), (117, vI z3), (118, .tuple #[.agg #[(.slice Z5 r6.1.Runs.length cz5), (.slice Z6 r6.1.Ends.length cz6)], .agg #[vI r6.2.Code, vI r6.2.At]]), (119, .agg #[(.slice Z5 r6.1.Runs.length cz5), (.slice Z6 r6.1.Ends.length cz6)]), (120, .agg #[vI r6.2.Code, vI r6.2.At])]) ea (FixedExact_p5 K w0 l0 A0 c0 hR0 hL0 r3 hc3 z3 hc10 r4 b3 Z1 cz1 m3 hc18 Z2 cz2 Z3 cz3 r5 hc19 Z4 cz4 r6 b6 Z5 cz5 Z6 cz6 _ hq12 _ hS63 _ ?_)
          rintro _ a w1 ⟨_, rfl, hb⟩
          obtain rfl := si h
          exact hb
        ·rw [if_neg hc19] at h
         refine wk 114 (r5.2.Code != 0) true (bne_iff_ne.2 hc19) ?_
         refine we_true (by kernel_rfl) ?_
         refine ws fun K65 hK65 => ?_
         refine wr [(0, 0)] ?_
         refine gb0 [0] [(2, .bool false)] ?_
         refine gn hK65 ?_
         have hS103 := hS55.takeN 0
         obtain rfl := si h
         exact we_ret (pr0 [.tmp 2] [.bool false] ⟨rfl, hS103⟩)
       ·rw [if_neg hc18] at h
        cases h
      ·rw [hq9] at h
       simp only [] at h
       refine we_iter (A := FixedExact.A4 w0 l0 A0 c0 z3 r4 b3 Z1 cz1) (B := FixedExact.B4 w0 l0 A0 c0 z3 r4 b3 Z1 cz1) hq9 (fun a hF => ⟨(.slice none 0 0), hS36, hF.weaken ea⟩) (fun s o hf a w hA Q hQ => FixedExact_r4 K w0 l0 A0 c0 hR0 hL0 r3 hc3 z3 hc10 r4 b3 Z1 cz1 s o hf a w hA Q hQ) ?_
       rintro _ a w1 _ ⟨rfl, hb⟩
       obtain rfl := si h
       exact hb
     ·rw [hq8] at h
      simp only [] at h
      refine we_keep (e' := [(0, .slice A0 l0.length c0), (3, vI z3), (8, (.slice Z1 r4.1.length cz1)), (9, pP b3 0), (62, vI z3), (63, .bool false), (64, .tuple #[(.slice Z1 r4.1.length cz1), .agg #[vI r4.2.Code, vI r4.2.At]]), (65, .slice A0 l0.length c0), (66, vI z3), (67, .tuple #[(.slice Z1 r4.1.length cz1), .agg #[vI r4.2.Code, vI r4.2.At]]), (68, (.slice Z1 r4.1.length cz1)), (69, .agg #[vI r4.2.Code, vI r4.2.At])]) ea (FixedExact_p3 K w0 l0 A0 c0 hR0 hL0 r3 hc3 z3 hc10 r4 b3 Z1 cz1 _ hq8 _ hS26 _ ?_)
      rintro _ a w1 ⟨_, rfl, hb⟩
      obtain rfl := si h
      exact hb
   ·rw [hq6] at h
    simp only [] at h
    refine we_iter (A := FixedExact.A1 w0 l0 A0 c0) (B := FixedExact.B1 w0 l0 A0 c0) hq6 (fun a hF => ⟨hS7, hF.weaken ea⟩) (fun s o hf a w hA Q hQ => FixedExact_r1 K w0 l0 A0 c0 hR0 hL0 r3 hc3 s o hf a w hA Q hQ) ?_
    rintro _ a w1 _ ⟨rfl, hb⟩
    obtain rfl := si h
    exact hb
  ·rw [if_neg hc3] at h
   refine wk 27 (r3.Code != 0) true (bne_iff_ne.2 hc3) ?_
   refine we_true (by kernel_rfl) ?_
   refine ws fun K66 hK66 => ?_
   refine wr [(0, 0)] ?_
   refine gb0 [0] [(2, .bool true)] ?_
   refine gn hK66 ?_
   obtain rfl := si h
   exact we_ret (pr0 [.tmp 2] [.bool true] ⟨rfl, hS7⟩)
 ·rw [hq3] at h
  simp only [] at h
  refine we_keep (e' := [(0, .slice A0 l0.length c0), (2, .bool false)]) ea (FixedExact_p0 K w0 l0 A0 c0 hR0 hL0 _ hq3 _ hS _ ?_)
  rintro _ a w1 ⟨_, rfl, hb⟩
  obtain rfl := si h
  exact hb
end Go.Proofs.Ytlipdmblinjjaaa.GV
