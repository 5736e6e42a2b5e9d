/- Walks of single functions, written by a program of this work. -/
import Derived.Test.YtlipdmblinjjaaaDoorGWFixedRanks2
namespace Go.Proofs.YtlipdmblinjjaaaDoor.GV
open Go Go.RowKit
set_option linter.unusedVariables false
set_option linter.unusedSimpArgs false
set_option maxRecDepth 100000

/-! punctual/punctualref.CheckSet -/
abbrev punctualref_CheckSet.Post (w0 : World) (r : SFault) (e : Ending) (w : World) : Prop := e = .returned (.agg #[vI r.Code, vI r.At]) ∧ St w0 w []
def punctualref_CheckSet.p0 (l0 : List STask) : Option (Unit ⊕ SFault) :=
  if (l0.length : Int) = 0 then
   some (.inr (punctualref_F.f 2 0))
  else
   if (l0.length : Int) > 8 then
    some (.inr (punctualref_F.f 2 0))
   else
    some (.inl ())
def punctualref_CheckSet.p2 (e1 : STask) : Option (Bool ⊕ SFault) :=
  if (e1.Name.size : Int) ≥ 1 then
   some (.inl (decide ((e1.Name.size : Int) ≤ 10)))
  else
   some (.inl false)
def punctualref_CheckSet.r3 (e1 : STask) : Bool × Int → Option ((Bool × Int) ⊕ (Bool ⊕ SFault))
 | (q3, z1) =>
  if z1 < (e1.Name.size : Int) then
   if q3 = true then
    if 0 ≤ z1 then
     match e1.Name[(z1).toNat]? with
     | none => none
     | some b3 =>
      if (b3.toNat : Int) ≥ 97 then
       some (.inl (decide ((b3.toNat : Int) ≤ 122), IntKind.i64.wrap (z1 + 1)))
      else
       some (.inl (false, IntKind.i64.wrap (z1 + 1)))
    else
     none
   else
    some (.inl (false, IntKind.i64.wrap (z1 + 1)))
  else
   some (.inr (.inl q3))
def punctualref_CheckSet.r4 (l0 : List STask) (i1 : Nat) (e1 : STask) : Nat → Option (Nat ⊕ (Unit ⊕ SFault))
 | i2 =>
  if (i2 : Int) < (((l0.take i1).drop 0).length : Int) then
   match ((l0.take i1).drop 0)[i2]? with
   | none => none
   | some e2 =>
    if e2.Name.toList = e1.Name.toList then
     some (.inr (.inr (punctualref_F.f 5 (i1 : Int))))
    else
     some (.inl (i2 + 1))
  else
   some (.inr (.inl ()))
def punctualref_CheckSet.r5 (i1 : Nat) (e1 : STask) : Nat → Option (Nat ⊕ (Unit ⊕ SFault))
 | i3 =>
  if (i3 : Int) < 6 then
   match ([(punctualref_sixOf.f e1).a0, (punctualref_sixOf.f e1).a1, (punctualref_sixOf.f e1).a2, (punctualref_sixOf.f e1).a3, (punctualref_sixOf.f e1).a4, (punctualref_sixOf.f e1).a5] : List Int)[i3]? with
   | none => none
   | some e3 =>
    match ([1, 1, 1, 0, 0, 0] : List Int)[i3]? with
    | none => none
    | some e4 =>
     if e3 < e4 then
      some (.inr (.inr (punctualref_F.f 3 (i1 : Int))))
     else
      match ([10000, 10000, 10000, 10000, 10000, 1000] : List Int)[i3]? with
      | none => none
      | some e5 =>
       if e3 > e5 then
        some (.inr (.inr (punctualref_F.f 3 (i1 : Int))))
       else
        some (.inl (i3 + 1))
  else
   some (.inr (.inl ()))
def punctualref_CheckSet.r1 (K : Nat) (l0 : List STask) : Nat → Option (Nat ⊕ (Unit ⊕ SFault))
 | i1 =>
  if (i1 : Int) < (l0.length : Int) then
   match l0[i1]? with
   | none => none
   | some e1 =>
    match punctualref_CheckSet.p2 e1 with
    | none => none
    | some (.inl q2) =>
     match iter (punctualref_CheckSet.r3 e1) K (q2, 0) with
     | none => none
     | some (.inl q5) =>
      if q5 = true then
       if i1 ≤ l0.length then
        match iter (punctualref_CheckSet.r4 l0 i1 e1) K 0 with
        | none => none
        | some (.inl _) =>
         match iter (punctualref_CheckSet.r5 i1 e1) K 0 with
         | none => none
         | some (.inl _) =>
          if e1.D < e1.C then
           some (.inr (.inr (punctualref_F.f 12 (i1 : Int))))
          else
           some (.inl (i1 + 1))
         | some (.inr rr1) =>
          some (.inr (.inr rr1))
        | some (.inr rr2) =>
         some (.inr (.inr rr2))
       else
        none
      else
       some (.inr (.inr (punctualref_F.f 4 (i1 : Int))))
     | some (.inr rr3) =>
      some (.inr (.inr rr3))
    | some (.inr rr4) =>
     some (.inr (.inr rr4))
  else
   some (.inr (.inl ()))
def punctualref_CheckSet.f (K : Nat) (l0 : List STask) : Option SFault :=
 match punctualref_CheckSet.p0 l0 with
 | none => none
 | some (.inl _) =>
  match iter (punctualref_CheckSet.r1 K l0) K 0 with
  | none => none
  | some (.inl _) =>
   some (⟨0, 0⟩ : SFault)
  | some (.inr rr5) =>
   some rr5
 | some (.inr rr6) =>
  some rr6
abbrev punctualref_CheckSet.A0 (w0 : World) (l0 : List STask) (A0 : Option Addr) (c0 : Nat) (b1 : Nat) : Unit → Act → World → Prop := fun (s : Unit) a w => St w0 w [Own.blk b1 (.cells #[vI 0, vI 0] 26 (0, 0))] ∧ Frm 113 a [(0, .slice A0 l0.length c0), (2, pP b1 0)]
abbrev punctualref_CheckSet.B0 (w0 : World) : SFault → Exit → Act → World → Prop := Rets Tryd.prog Tryd.f23 (punctualref_CheckSet.Post w0)
theorem punctualref_CheckSet_p0 (K : Nat) (w0 : World) (l0 : List STask) (A0 : Option Addr) (c0 : Nat) (hR0 : RdL w0 A0 l0) (hL0 : l0.length ≤ c0) (b1 : Nat) (o : Unit ⊕ SFault) (h : punctualref_CheckSet.p0 l0 = some o) (w : World) (hS : St w0 w [Own.blk b1 (.cells #[vI 0, vI 0] 26 (0, 0))]) (Q : Exit → Act → World → Prop) (hQ : ∀ x a w, Outs (punctualref_CheckSet.A0 w0 l0 A0 c0 b1) (punctualref_CheckSet.B0 w0) o x a w → Q x a w) : WE Tryd.prog 113 (subF Tryd.f23 [1, 0]) Q [(0, .slice A0 l0.length c0), (2, pP b1 0)] w := by
 simp only [punctualref_CheckSet.p0] at h
 refine ws fun K3 hK3 => ?_
 refine wr [(0, 0), (1, 0), (2, 0), (3, 0), (4, 0), (5, 0), (6, 0), (7, 0)] ?_
 refine gb0 [0, 1, 2, 3] [(16, .bool ((l0.length : Int) == 0)), (15, .bool ((l0.length : Int) == 0)), (14, vI (l0.length : Int)), (13, .slice A0 l0.length c0)] ?_
 by_cases hc1 : (l0.length : Int) = 0
 ·rw [if_pos hc1] at h
  refine gk 16 ((l0.length : Int) == 0) true (beq_iff_eq.2 hc1) ?_
  refine gb0 [4, 5, 6, 7] [(20, .bool true), (19, undef), (18, undef), (17, undef)] ?_
  refine gn hK3 ?_
  refine we_true (by kernel_rfl) ?_
  refine ws fun K4 hK4 => ?_
  refine wr [(0, 1), (1, 2)] ?_
  refine ge_call (d := some 21) (f := 21) (args := #[vI 2, vI 0]) (by kernel_rfl) (punctualref_F_ok 2 0 _ _ rfl) ?_
  rintro _ w2 ⟨rfl, hS2⟩
  refine ⟨_, rfl, hS2.below, ?_⟩
  have hS3 := hS.call hS2
  refine gs b1 0 #[vI 0, vI 0] 26 [vI ((punctualref_F.f 2 0).Code), vI ((punctualref_F.f 2 0).At)] hS3 fun w3 hS4 => ?_
  have hS5 : St w0 w3 [Own.blk b1 (.cells #[vI ((punctualref_F.f 2 0).Code), vI ((punctualref_F.f 2 0).At)] 26 (0, 0))] := hS4
  refine gn hK4 ?_
  have hS6 := hS5.takeN 0
  obtain rfl := si h
  exact we_ret fun a hF => hQ _ _ _ (Outs.out nofun ⟨rfl, (pr [.cell 2 26] [.agg #[vI ((punctualref_F.f 2 0).Code), vI ((punctualref_F.f 2 0).At)]] [.loaded ⟨b1, 0, none⟩ (vI ((punctualref_F.f 2 0).Code)), .loaded ⟨b1, 1, none⟩ (vI ((punctualref_F.f 2 0).At))] ⟨hS5.c 0, hS5.c 0, trivial⟩ ⟨rfl, hS6⟩) a hF⟩)
 ·rw [if_neg hc1] at h
  refine gk 16 ((l0.length : Int) == 0) false (beq_eq_false_iff_ne.2 hc1) ?_
  refine gb0 [4, 5, 6, 7] [(20, .bool (decide ((l0.length : Int) > 8))), (19, .bool (decide ((l0.length : Int) > 8))), (18, vI (l0.length : Int)), (17, .slice A0 l0.length c0)] ?_
  refine gn hK3 ?_
  by_cases hc2 : (l0.length : Int) > 8
  ·rw [if_pos hc2] at h
   refine wk 20 (decide ((l0.length : Int) > 8)) true (decide_eq_true hc2) ?_
   refine we_true (by kernel_rfl) ?_
   refine ws fun K5 hK5 => ?_
   refine wr [(0, 1), (1, 2)] ?_
   refine ge_call (d := some 21) (f := 21) (args := #[vI 2, vI 0]) (by kernel_rfl) (punctualref_F_ok 2 0 _ _ rfl) ?_
   rintro _ w4 ⟨rfl, hS7⟩
   refine ⟨_, rfl, hS7.below, ?_⟩
   have hS8 := hS.call hS7
   refine gs b1 0 #[vI 0, vI 0] 26 [vI ((punctualref_F.f 2 0).Code), vI ((punctualref_F.f 2 0).At)] hS8 fun w5 hS9 => ?_
   have hS10 : St w0 w5 [Own.blk b1 (.cells #[vI ((punctualref_F.f 2 0).Code), vI ((punctualref_F.f 2 0).At)] 26 (0, 0))] := hS9
   refine gn hK5 ?_
   have hS11 := hS10.takeN 0
   obtain rfl := si h
   exact we_ret fun a hF => hQ _ _ _ (Outs.out nofun ⟨rfl, (pr [.cell 2 26] [.agg #[vI ((punctualref_F.f 2 0).Code), vI ((punctualref_F.f 2 0).At)]] [.loaded ⟨b1, 0, none⟩ (vI ((punctualref_F.f 2 0).Code)), .loaded ⟨b1, 1, none⟩ (vI ((punctualref_F.f 2 0).At))] ⟨hS10.c 0, hS10.c 0, trivial⟩ ⟨rfl, hS11⟩) a hF⟩)
  ·rw [if_neg hc2] at h
   refine wk 20 (decide ((l0.length : Int) > 8)) false (decide_eq_false hc2) ?_
   refine we_false (by kernel_rfl) ?_
   obtain rfl := si h
   exact we_skip fun a hF => hQ _ _ _ (Outs.again ⟨hS, hF.weaken ea⟩)
abbrev punctualref_CheckSet.A2 (w0 : World) (l0 : List STask) (A0 : Option Addr) (c0 : Nat) (b1 : Nat) (i1 : Nat) (e1 : STask) (b2 : Nat) : Bool → Act → World → Prop := fun (s : Bool) a w => St w0 w [Own.blk b2 (.cells #[.string e1.Name, vI e1.C, vI e1.T, vI e1.D, vI e1.J, vI e1.O, vI e1.P] 46 (0, 0)), Own.blk b1 (.cells #[vI 0, vI 0] 26 (0, 0))] ∧ Frm 113 a [(0, .slice A0 l0.length c0), (2, pP b1 0), (3, vI (i1 : Int)), (4, pP b2 0), (5, .bool s), (22, .slice A0 l0.length c0), (23, vI (l0.length : Int)), (24, vI (i1 : Int))]
abbrev punctualref_CheckSet.B2 (w0 : World) : SFault → Exit → Act → World → Prop := Rets Tryd.prog Tryd.f23 (punctualref_CheckSet.Post w0)
theorem punctualref_CheckSet_p2 (K : Nat) (w0 : World) (l0 : List STask) (A0 : Option Addr) (c0 : Nat) (hR0 : RdL w0 A0 l0) (hL0 : l0.length ≤ c0) (b1 : Nat) (i1 : Nat) (hc3 : (i1 : Int) < (l0.length : Int)) (e1 : STask) (hx2 : l0[i1]? = some e1) (b2 : Nat) (o : Bool ⊕ SFault) (h : punctualref_CheckSet.p2 e1 = some o) (w : World) (hS : St w0 w [Own.blk b2 (.cells #[.string e1.Name, vI e1.C, vI e1.T, vI e1.D, vI e1.J, vI e1.O, vI e1.P] 46 (0, 0)), Own.blk b1 (.cells #[vI 0, vI 0] 26 (0, 0))]) (Q : Exit → Act → World → Prop) (hQ : ∀ x a w, Outs (punctualref_CheckSet.A2 w0 l0 A0 c0 b1 i1 e1 b2) (punctualref_CheckSet.B2 w0) o x a w → Q x a w) : WE Tryd.prog 113 (subF Tryd.f23 [1, 1, 0, 1, 0, 0, 1, 1, 0, 0, 1, 0]) Q [(0, .slice A0 l0.length c0), (2, pP b1 0), (3, vI (i1 : Int)), (4, pP b2 0), (22, .slice A0 l0.length c0), (23, vI (l0.length : Int)), (24, vI (i1 : Int)), (25, .bool true), (26, vI (i1 : Int)), (27, .pointer (some ⟨blkOf A0, offOf A0 + i1 * 7, none⟩)), (28, .agg #[.string e1.Name, vI e1.C, vI e1.T, vI e1.D, vI e1.J, vI e1.O, vI e1.P])] w := by
 simp only [punctualref_CheckSet.p2] at h
 refine wr [(0, 0), (1, 0), (2, 0), (3, 0), (4, 0), (5, 0), (6, 0), (7, 0), (8, 0), (9, 0), (10, 0)] ?_
 refine gb [0, 1, 2, 3, 4] [(33, .bool (decide ((e1.Name.size : Int) ≥ 1))), (32, .bool (decide ((e1.Name.size : Int) ≥ 1))), (31, vI (e1.Name.size : Int)), (30, .string e1.Name), (29, pP b2 0)] [.loaded ⟨b2, 0, none⟩ (.string e1.Name)] ⟨hS.c 0, trivial⟩ ?_
 by_cases hc4 : (e1.Name.size : Int) ≥ 1
 ·rw [if_pos hc4] at h
  refine gk 33 (decide ((e1.Name.size : Int) ≥ 1)) true (decide_eq_true hc4) ?_
  refine gb [5, 6, 7, 8, 9, 10] [(5, .bool (decide ((e1.Name.size : Int) ≤ 10))), (38, .bool (decide ((e1.Name.size : Int) ≤ 10))), (37, .bool (decide ((e1.Name.size : Int) ≤ 10))), (36, vI (e1.Name.size : Int)), (35, .string e1.Name), (34, pP b2 0)] [.loaded ⟨b2, 0, none⟩ (.string e1.Name)] ⟨hS.c 0, trivial⟩ ?_
  have hS16 := hS.bring 1 rfl
  have hS17 := hS16.bring 1 rfl
  obtain rfl := si h
  exact ge_nil fun a hF => hQ _ _ _ (Outs.again ⟨hS17, hF.weaken ea⟩)
 ·rw [if_neg hc4] at h
  refine gk 33 (decide ((e1.Name.size : Int) ≥ 1)) false (decide_eq_false hc4) ?_
  refine gb0 [5, 6, 7, 8, 9, 10] [(5, .bool false), (38, .bool false), (37, undef), (36, undef), (35, undef), (34, undef)] ?_
  have hS18 := hS.bring 1 rfl
  have hS19 := hS18.bring 1 rfl
  obtain rfl := si h
  exact ge_nil fun a hF => hQ _ _ _ (Outs.again ⟨hS19, hF.weaken ea⟩)
abbrev punctualref_CheckSet.A3 (w0 : World) (l0 : List STask) (A0 : Option Addr) (c0 : Nat) (b1 : Nat) (i1 : Nat) (e1 : STask) (b2 : Nat) : (Bool × Int) → Act → World → Prop := fun (s : Bool × Int) a w => St w0 w [Own.blk b2 (.cells #[.string e1.Name, vI e1.C, vI e1.T, vI e1.D, vI e1.J, vI e1.O, vI e1.P] 46 (0, 0)), Own.blk b1 (.cells #[vI 0, vI 0] 26 (0, 0))] ∧ Frm 113 a [(0, .slice A0 l0.length c0), (2, pP b1 0), (3, vI (i1 : Int)), (4, pP b2 0), (5, .bool s.1), (6, vI s.2), (22, .slice A0 l0.length c0), (23, vI (l0.length : Int)), (24, vI (i1 : Int))]
abbrev punctualref_CheckSet.B3 (w0 : World) (l0 : List STask) (A0 : Option Addr) (c0 : Nat) (b1 : Nat) (i1 : Nat) (e1 : STask) (b2 : Nat) : (Bool ⊕ SFault) → Exit → Act → World → Prop := Exits 2 (fun (s : Bool) a w => St w0 w [Own.blk b2 (.cells #[.string e1.Name, vI e1.C, vI e1.T, vI e1.D, vI e1.J, vI e1.O, vI e1.P] 46 (0, 0)), Own.blk b1 (.cells #[vI 0, vI 0] 26 (0, 0))] ∧ Frm 113 a [(0, .slice A0 l0.length c0), (2, pP b1 0), (3, vI (i1 : Int)), (4, pP b2 0), (5, .bool s), (22, .slice A0 l0.length c0), (23, vI (l0.length : Int)), (24, vI (i1 : Int))]) (Rets Tryd.prog Tryd.f23 (punctualref_CheckSet.Post w0))
theorem punctualref_CheckSet_r3 (K : Nat) (w0 : World) (l0 : List STask) (A0 : Option Addr) (c0 : Nat) (hR0 : RdL w0 A0 l0) (hL0 : l0.length ≤ c0) (b1 : Nat) (i1 : Nat) (hc3 : (i1 : Int) < (l0.length : Int)) (e1 : STask) (hx2 : l0[i1]? = some e1) (b2 : Nat) (q2 : Bool) (s : Bool × Int) (o : (Bool × Int) ⊕ (Bool ⊕ SFault)) (h : punctualref_CheckSet.r3 e1 s = some o) (a : Act) (w : World) (hA : punctualref_CheckSet.A3 w0 l0 A0 c0 b1 i1 e1 b2 s a w) (Q : Exit → Act → World → Prop) (hQ : ∀ x a w, Outs (punctualref_CheckSet.A3 w0 l0 A0 c0 b1 i1 e1 b2) (punctualref_CheckSet.B3 w0 l0 A0 c0 b1 i1 e1 b2) o x a w → Q x a w) : (subF Tryd.f23 [1, 1, 0, 1, 0, 0, 1, 1, 0, 0, 1, 1, 0, 1, 0, 0]).wp Tryd.prog Q a w := by
 obtain ⟨q3, z1⟩ := s
 obtain ⟨hS, hF⟩ := hA
 replace hS : St w0 w [Own.blk b2 (.cells #[.string e1.Name, vI e1.C, vI e1.T, vI e1.D, vI e1.J, vI e1.O, vI e1.P] 46 (0, 0)), Own.blk b1 (.cells #[vI 0, vI 0] 26 (0, 0))] := hS
 simp only [punctualref_CheckSet.r3] at h
 refine (?_ : WE Tryd.prog 113 (subF Tryd.f23 [1, 1, 0, 1, 0, 0, 1, 1, 0, 0, 1, 1, 0, 1, 0, 0]) Q [(0, .slice A0 l0.length c0), (2, pP b1 0), (3, vI (i1 : Int)), (4, pP b2 0), (5, .bool q3), (6, vI z1), (22, .slice A0 l0.length c0), (23, vI (l0.length : Int)), (24, vI (i1 : Int))] w) a hF
 clear hF a
 refine ws fun K15 hK15 => ?_
 refine ws fun K16 hK16 => ?_
 refine wr [(0, 0), (1, 0), (2, 0), (3, 0), (4, 0)] ?_
 refine gb [0, 1, 2, 3, 4] [(43, .bool (decide (z1 < (e1.Name.size : Int)))), (42, vI (e1.Name.size : Int)), (41, .string e1.Name), (40, pP b2 0), (39, vI z1)] [.loaded ⟨b2, 0, none⟩ (.string e1.Name)] ⟨hS.c 0, trivial⟩ ?_
 refine gn hK16 ?_
 by_cases hc5 : z1 < (e1.Name.size : Int)
 ·rw [if_pos hc5] at h
  refine wk 43 (decide (z1 < (e1.Name.size : Int))) true (decide_eq_true hc5) ?_
  refine we_true (by kernel_rfl) ?_
  refine we_skip fun a hF => hK15 _ _ ?_ a hF
  refine ws fun K17 hK17 => ?_
  refine we_block ?_
  refine wr [(0, 0), (1, 0), (2, 0), (3, 0), (4, 0), (5, 0), (6, 0), (7, 0), (8, 0), (9, 0), (10, 0), (11, 0), (12, 0), (13, 0), (14, 0), (15, 0)] ?_
  refine gb0 [0, 1] [(47, .bool q3), (46, .bool q3)] ?_
  by_cases hc6 : q3 = true
  ·rw [if_pos hc6] at h
   refine gk 47 q3 true hc6 ?_
   refine gb [2, 3, 4] [(50, vI z1), (49, .string e1.Name), (48, pP b2 0)] [.loaded ⟨b2, 0, none⟩ (.string e1.Name)] ⟨hS.c 0, trivial⟩ ?_
   by_cases hc7 : 0 ≤ z1
   ·rw [if_pos hc7] at h
    rcases hx4 : e1.Name[(z1).toNat]? with _ | b3
    ·rw [hx4] at h; cases h
    rw [hx4] at h
    simp only [] at h
    refine ge_letter (d := 51) (ty := 5) (t := 9) (x := (.tmp 49)) (y := (.tmp 50)) (k' := .i64) (j := z1) (jn := ((z1).toNat)) (s := e1.Name) (b := b3) (by kernel_rfl) (by kernel_rfl) (by kernel_rfl) (by kernel_rfl) (Int.toNat_of_nonneg hc7).symm hx4 ?_
    refine gb0 [6, 7, 8] [(54, .bool (decide ((b3.toNat : Int) ≥ 97))), (53, .bool (decide ((b3.toNat : Int) ≥ 97))), (52, .bool (decide ((b3.toNat : Int) ≥ 97)))] ?_
    by_cases hc8 : (b3.toNat : Int) ≥ 97
    ·rw [if_pos hc8] at h
     refine gk 54 (decide ((b3.toNat : Int) ≥ 97)) true (decide_eq_true hc8) ?_
     refine gb [9, 10, 11] [(57, vI z1), (56, .string e1.Name), (55, pP b2 0)] [.loaded ⟨b2, 0, none⟩ (.string e1.Name)] ⟨hS.c 0, trivial⟩ ?_
     refine ge_letter (d := 58) (ty := 5) (t := 9) (x := (.tmp 56)) (y := (.tmp 57)) (k' := .i64) (j := z1) (jn := ((z1).toNat)) (s := e1.Name) (b := b3) (by kernel_rfl) (by kernel_rfl) (by kernel_rfl) (by kernel_rfl) (Int.toNat_of_nonneg hc7).symm hx4 ?_
     refine gb0 [13, 14, 15] [(5, .bool (decide ((b3.toNat : Int) ≤ 122))), (60, .bool (decide ((b3.toNat : Int) ≤ 122))), (59, .bool (decide ((b3.toNat : Int) ≤ 122)))] ?_
     refine gn hK17 ?_
     refine wr [(0, 0), (1, 0), (2, 0)] ?_
     refine gb0 [0, 1, 2] [(6, vI (IntKind.i64.wrap (z1 + 1))), (45, vI (IntKind.i64.wrap (z1 + 1))), (44, vI z1)] ?_
     have hS23 := hS.bring 1 rfl
     have hS24 := hS23.bring 1 rfl
     obtain rfl := si h
     exact ge_nil fun a hF => hQ _ _ _ (Outs.again ⟨hS24, hF.weaken ea⟩)
    ·rw [if_neg hc8] at h
     refine gk 54 (decide ((b3.toNat : Int) ≥ 97)) false (decide_eq_false hc8) ?_
     refine gb0 [9, 10, 11, 12, 13, 14, 15] [(5, .bool false), (60, .bool false), (59, undef), (58, undef), (57, undef), (56, undef), (55, undef)] ?_
     refine gn hK17 ?_
     refine wr [(0, 0), (1, 0), (2, 0)] ?_
     refine gb0 [0, 1, 2] [(6, vI (IntKind.i64.wrap (z1 + 1))), (45, vI (IntKind.i64.wrap (z1 + 1))), (44, vI z1)] ?_
     have hS25 := hS.bring 1 rfl
     have hS26 := hS25.bring 1 rfl
     obtain rfl := si h
     exact ge_nil fun a hF => hQ _ _ _ (Outs.again ⟨hS26, hF.weaken ea⟩)
   ·rw [if_neg hc7] at h
    cases h
  ·rw [if_neg hc6] at h
   refine gk 47 q3 false (Bool.eq_false_iff.2 hc6) ?_
   refine gb0 [2, 3, 4, 5, 6, 7, 8, 9, 10, 11, 12, 13, 14, 15] [(5, .bool false), (60, .bool false), (59, undef), (58, undef), (57, undef), (56, undef), (55, undef), (54, .bool false), (53, .bool false), (52, undef), (51, undef), (50, undef), (49, undef), (48, undef)] ?_
   refine gn hK17 ?_
   refine wr [(0, 0), (1, 0), (2, 0)] ?_
   refine gb0 [0, 1, 2] [(6, vI (IntKind.i64.wrap (z1 + 1))), (45, vI (IntKind.i64.wrap (z1 + 1))), (44, vI z1)] ?_
   have hS27 := hS.bring 1 rfl
   have hS28 := hS27.bring 1 rfl
   obtain rfl := si h
   exact ge_nil fun a hF => hQ _ _ _ (Outs.again ⟨hS28, hF.weaken ea⟩)
 ·rw [if_neg hc5] at h
  refine wk 43 (decide (z1 < (e1.Name.size : Int))) false (decide_eq_false hc5) ?_
  refine we_false (by kernel_rfl) ?_
  have hS29 := hS.bring 1 rfl
  have hS30 := hS29.bring 1 rfl
  obtain rfl := si h
  exact we_exit fun a hF => hQ _ _ _ (Outs.out nofun (Exits.here ⟨hS30, hF.weaken ea⟩))
abbrev punctualref_CheckSet.A4 (w0 : World) (l0 : List STask) (A0 : Option Addr) (c0 : Nat) (b1 : Nat) (i1 : Nat) (e1 : STask) (b2 : Nat) : Nat → Act → World → Prop := fun (s : Nat) a w => St w0 w [Own.blk b2 (.cells #[.string e1.Name, vI e1.C, vI e1.T, vI e1.D, vI e1.J, vI e1.O, vI e1.P] 46 (0, 0)), Own.blk b1 (.cells #[vI 0, vI 0] 26 (0, 0))] ∧ Frm 113 a [(0, .slice A0 l0.length c0), (2, pP b1 0), (3, vI (i1 : Int)), (4, pP b2 0), (22, .slice A0 l0.length c0), (23, vI (l0.length : Int)), (24, vI (i1 : Int)), (67, .slice (subA A0 c0 0 7) (((l0.take i1).drop 0).length) (c0 - 0)), (68, vI (((l0.take i1).drop 0).length : Int)), (69, vI (s : Int))]
abbrev punctualref_CheckSet.B4 (w0 : World) (l0 : List STask) (A0 : Option Addr) (c0 : Nat) (b1 : Nat) (i1 : Nat) (e1 : STask) (b2 : Nat) : (Unit ⊕ SFault) → Exit → Act → World → Prop := Exits 4 (fun (s : Unit) a w => St w0 w [Own.blk b2 (.cells #[.string e1.Name, vI e1.C, vI e1.T, vI e1.D, vI e1.J, vI e1.O, vI e1.P] 46 (0, 0)), Own.blk b1 (.cells #[vI 0, vI 0] 26 (0, 0))] ∧ Frm 113 a [(0, .slice A0 l0.length c0), (2, pP b1 0), (3, vI (i1 : Int)), (4, pP b2 0), (22, .slice A0 l0.length c0), (23, vI (l0.length : Int)), (24, vI (i1 : Int))]) (Rets Tryd.prog Tryd.f23 (punctualref_CheckSet.Post w0))
theorem punctualref_CheckSet_r4 (K : Nat) (w0 : World) (l0 : List STask) (A0 : Option Addr) (c0 : Nat) (hR0 : RdL w0 A0 l0) (hL0 : l0.length ≤ c0) (b1 : Nat) (i1 : Nat) (hc3 : (i1 : Int) < (l0.length : Int)) (e1 : STask) (hx2 : l0[i1]? = some e1) (b2 : Nat) (q2 : Bool) (q5 : Bool) (hc9 : q5 = true) (hc10 : i1 ≤ l0.length) (s : Nat) (o : Nat ⊕ (Unit ⊕ SFault)) (h : punctualref_CheckSet.r4 l0 i1 e1 s = some o) (a : Act) (w : World) (hA : punctualref_CheckSet.A4 w0 l0 A0 c0 b1 i1 e1 b2 s a w) (Q : Exit → Act → World → Prop) (hQ : ∀ x a w, Outs (punctualref_CheckSet.A4 w0 l0 A0 c0 b1 i1 e1 b2) (punctualref_CheckSet.B4 w0 l0 A0 c0 b1 i1 e1 b2) o x a w → Q x a w) : (subF Tryd.f23 [1, 1, 0, 1, 0, 0, 1, 1, 0, 0, 1, 1, 1, 1, 0, 1, 0, 0]).wp Tryd.prog Q a w := by
 obtain ⟨i2, hs⟩ : ∃ z, z = s := ⟨s, rfl⟩
 subst hs
 obtain ⟨hS, hF⟩ := hA
 replace hS : St w0 w [Own.blk b2 (.cells #[.string e1.Name, vI e1.C, vI e1.T, vI e1.D, vI e1.J, vI e1.O, vI e1.P] 46 (0, 0)), Own.blk b1 (.cells #[vI 0, vI 0] 26 (0, 0))] := hS
 simp only [punctualref_CheckSet.r4] at h
 refine (?_ : WE Tryd.prog 113 (subF Tryd.f23 [1, 1, 0, 1, 0, 0, 1, 1, 0, 0, 1, 1, 1, 1, 0, 1, 0, 0]) Q [(0, .slice A0 l0.length c0), (2, pP b1 0), (3, vI (i1 : Int)), (4, pP b2 0), (22, .slice A0 l0.length c0), (23, vI (l0.length : Int)), (24, vI (i1 : Int)), (67, .slice (subA A0 c0 0 7) (((l0.take i1).drop 0).length) (c0 - 0)), (68, vI (((l0.take i1).drop 0).length : Int)), (69, vI (i2 : Int))] w) a hF
 clear hF a
 refine ws fun K22 hK22 => ?_
 refine wr [(0, 0)] ?_
 refine gb0 [0] [(70, .bool (decide ((i2 : Int) < (((l0.take i1).drop 0).length : Int))))] ?_
 refine gn hK22 ?_
 refine ws fun K23 hK23 => ?_
 by_cases hc11 : (i2 : Int) < (((l0.take i1).drop 0).length : Int)
 ·rw [if_pos hc11] at h
  refine wk 70 (decide ((i2 : Int) < (((l0.take i1).drop 0).length : Int))) true (decide_eq_true hc11) ?_
  refine we_true (by kernel_rfl) ?_
  refine we_skip fun a hF => hK23 _ _ ?_ a hF
  refine ws fun K24 hK24 => ?_
  refine we_block ?_
  refine ws fun K25 hK25 => ?_
  refine wr [(0, 0), (1, 0), (2, 1), (3, 2)] ?_
  rcases hx5 : ((l0.take i1).drop 0)[i2]? with _ | e2
  ·rw [hx5] at h; cases h
  rw [hx5] at h
  simp only [] at h
  refine gi 71 0 40 46 7 (((l0.take i1).drop 0).length) (c0 - 0) (.tmp 67) (.tmp 69) (subA A0 c0 0 7) .i64 (i2 : Int) i2 ((hS.rd (RdL.part hR0 hL0 0 i1)).eqSome (pos_of_get hx5)) rfl (lt_of_get hx5) ?_
  refine gb [1] [(72, .agg #[.string e2.Name, vI e2.C, vI e2.T, vI e2.D, vI e2.J, vI e2.O, vI e2.P])] [.loaded ⟨blkOf (subA A0 c0 0 7), offOf (subA A0 c0 0 7) + i2 * 7, none⟩ (.string e2.Name), .loaded ⟨blkOf (subA A0 c0 0 7), offOf (subA A0 c0 0 7) + i2 * 7 + 1, none⟩ (vI e2.C), .loaded ⟨blkOf (subA A0 c0 0 7), offOf (subA A0 c0 0 7) + i2 * 7 + 2, none⟩ (vI e2.T), .loaded ⟨blkOf (subA A0 c0 0 7), offOf (subA A0 c0 0 7) + i2 * 7 + 3, none⟩ (vI e2.D), .loaded ⟨blkOf (subA A0 c0 0 7), offOf (subA A0 c0 0 7) + i2 * 7 + 4, none⟩ (vI e2.J), .loaded ⟨blkOf (subA A0 c0 0 7), offOf (subA A0 c0 0 7) + i2 * 7 + 5, none⟩ (vI e2.O), .loaded ⟨blkOf (subA A0 c0 0 7), offOf (subA A0 c0 0 7) + i2 * 7 + 6, none⟩ (vI e2.P)] ⟨RdL.cell (j := 0) (hS.rd (RdL.part hR0 hL0 0 i1)) hx5 rfl, RdL.cell (j := 1) (hS.rd (RdL.part hR0 hL0 0 i1)) hx5 rfl, RdL.cell (j := 2) (hS.rd (RdL.part hR0 hL0 0 i1)) hx5 rfl, RdL.cell (j := 3) (hS.rd (RdL.part hR0 hL0 0 i1)) hx5 rfl, RdL.cell (j := 4) (hS.rd (RdL.part hR0 hL0 0 i1)) hx5 rfl, RdL.cell (j := 5) (hS.rd (RdL.part hR0 hL0 0 i1)) hx5 rfl, RdL.cell (j := 6) (hS.rd (RdL.part hR0 hL0 0 i1)) hx5 rfl, trivial⟩ ?_
  refine gw (some 8) (.cells #[.string (⟨#[]⟩), vI 0, vI 0, vI 0, vI 0, vI 0, vI 0] 46) (fun b => pP b 0) hS fun b4 w11 hx6 hS34 => ?_
  refine gs b4 0 #[.string (⟨#[]⟩), vI 0, vI 0, vI 0, vI 0, vI 0, vI 0] 46 [.string e2.Name, vI e2.C, vI e2.T, vI e2.D, vI e2.J, vI e2.O, vI e2.P] hS34 fun w12 hS35 => ?_
  have hS36 : St w0 w12 [Own.blk b4 (.cells #[.string e2.Name, vI e2.C, vI e2.T, vI e2.D, vI e2.J, vI e2.O, vI e2.P] 46 (0, 0)), Own.blk b2 (.cells #[.string e1.Name, vI e1.C, vI e1.T, vI e1.D, vI e1.J, vI e1.O, vI e1.P] 46 (0, 0)), Own.blk b1 (.cells #[vI 0, vI 0] 26 (0, 0))] := hS35
  refine gn hK25 ?_
  refine ws fun K26 hK26 => ?_
  refine wr [(0, 0), (1, 0), (2, 0), (3, 0), (4, 0)] ?_
  refine gb [0, 1, 2, 3, 4] [(77, .bool (e2.Name.toList == e1.Name.toList)), (76, .string e1.Name), (75, pP b2 0), (74, .string e2.Name), (73, pP b4 0)] [.loaded ⟨b4, 0, none⟩ (.string e2.Name), .loaded ⟨b2, 0, none⟩ (.string e1.Name)] ⟨hS36.c 0, hS36.c 1, trivial⟩ ?_
  refine gn hK26 ?_
  by_cases hc12 : e2.Name.toList = e1.Name.toList
  ·rw [if_pos hc12] at h
   refine wk 77 (e2.Name.toList == e1.Name.toList) true (beq_iff_eq.2 hc12) ?_
   refine we_true (by kernel_rfl) ?_
   refine ws fun K27 hK27 => ?_
   refine wr [(0, 0), (1, 1), (2, 2)] ?_
   refine gb0 [0] [(78, vI (i1 : Int))] ?_
   refine ge_call (d := some 79) (f := 21) (args := #[vI 5, vI (i1 : Int)]) (by kernel_rfl) (punctualref_F_ok 5 (i1 : Int) _ _ rfl) ?_
   rintro _ w13 ⟨rfl, hS37⟩
   refine ⟨_, rfl, hS37.below, ?_⟩
   have hS38 := hS36.call hS37
   have hS39 := hS38.bring 2 rfl
   refine gs b1 0 #[vI 0, vI 0] 26 [vI ((punctualref_F.f 5 (i1 : Int)).Code), vI ((punctualref_F.f 5 (i1 : Int)).At)] hS39 fun w14 hS40 => ?_
   have hS41 : St w0 w14 [Own.blk b1 (.cells #[vI ((punctualref_F.f 5 (i1 : Int)).Code), vI ((punctualref_F.f 5 (i1 : Int)).At)] 26 (0, 0)), Own.blk b4 (.cells #[.string e2.Name, vI e2.C, vI e2.T, vI e2.D, vI e2.J, vI e2.O, vI e2.P] 46 (0, 0)), Own.blk b2 (.cells #[.string e1.Name, vI e1.C, vI e1.T, vI e1.D, vI e1.J, vI e1.O, vI e1.P] 46 (0, 0))] := hS40
   refine gn hK27 ?_
   have hS42 := hS41.takeN 0
   obtain rfl := si h
   exact we_ret fun a hF => hQ _ _ _ (Outs.out nofun (Exits.on ⟨rfl, (pr [.cell 2 26] [.agg #[vI ((punctualref_F.f 5 (i1 : Int)).Code), vI ((punctualref_F.f 5 (i1 : Int)).At)]] [.loaded ⟨b1, 0, none⟩ (vI ((punctualref_F.f 5 (i1 : Int)).Code)), .loaded ⟨b1, 1, none⟩ (vI ((punctualref_F.f 5 (i1 : Int)).At))] ⟨hS41.c 0, hS41.c 0, trivial⟩ ⟨rfl, hS42⟩) a hF⟩))
  ·rw [if_neg hc12] at h
   refine wk 77 (e2.Name.toList == e1.Name.toList) false (beq_eq_false_iff_ne.2 hc12) ?_
   refine we_false (by kernel_rfl) ?_
   refine we_skip fun a hF => hK24 _ _ ?_ a hF
   refine wr [(0, 0), (1, 0)] ?_
   refine ge_addn (d := 80) (ty := 3) (x := (.tmp 69)) (y := (.const (vI 1))) (t := 3) (t2 := 3) (k := .i64) (m := i2) (by kernel_rfl) (by kernel_rfl) (by kernel_rfl) (by have h0 := hR0.small; have h1 : ((l0.take i1).drop 0).length ≤ l0.length := (by simp only [List.length_drop, List.length_take]; omega); omega) ?_
   refine gb0 [1] [(69, vI ((i2 + 1 : Nat) : Int))] ?_
   have hS43 := hS36.bring 2 rfl
   have hS44 := hS43.bring 2 rfl
   have hS45 := hS44.takeN 2
   obtain rfl := si h
   exact ge_nil fun a hF => hQ _ _ _ (Outs.again ⟨hS45, hF.weaken ea⟩)
 ·rw [if_neg hc11] at h
  refine wk 70 (decide ((i2 : Int) < (((l0.take i1).drop 0).length : Int))) false (decide_eq_false hc11) ?_
  refine we_false (by kernel_rfl) ?_
  have hS46 := hS.bring 1 rfl
  have hS47 := hS46.bring 1 rfl
  obtain rfl := si h
  exact we_exit fun a hF => hQ _ _ _ (Outs.out nofun (Exits.here ⟨hS47, hF.weaken ea⟩))
abbrev punctualref_CheckSet.A5 (w0 : World) (l0 : List STask) (A0 : Option Addr) (c0 : Nat) (b1 : Nat) (i1 : Nat) (e1 : STask) (b2 : Nat) (b5 : Nat) (b6 : Nat) : Nat → Act → World → Prop := fun (s : Nat) a w => St w0 w [Own.blk b6 (.cells #[vI 10000, vI 10000, vI 10000, vI 10000, vI 10000, vI 1000] 94 (0, 0)), Own.blk b5 (.cells #[vI 1, vI 1, vI 1, vI 0, vI 0, vI 0] 94 (0, 0)), Own.blk b2 (.cells #[.string e1.Name, vI e1.C, vI e1.T, vI e1.D, vI e1.J, vI e1.O, vI e1.P] 46 (0, 0)), Own.blk b1 (.cells #[vI 0, vI 0] 26 (0, 0))] ∧ Frm 113 a [(0, .slice A0 l0.length c0), (2, pP b1 0), (3, vI (i1 : Int)), (4, pP b2 0), (9, pP b5 0), (10, pP b6 0), (22, .slice A0 l0.length c0), (23, vI (l0.length : Int)), (24, vI (i1 : Int)), (84, .agg #[vI ((punctualref_sixOf.f e1).a0), vI ((punctualref_sixOf.f e1).a1), vI ((punctualref_sixOf.f e1).a2), vI ((punctualref_sixOf.f e1).a3), vI ((punctualref_sixOf.f e1).a4), vI ((punctualref_sixOf.f e1).a5)]), (85, vI (s : Int))]
abbrev punctualref_CheckSet.B5 (w0 : World) (l0 : List STask) (A0 : Option Addr) (c0 : Nat) (b1 : Nat) (i1 : Nat) (e1 : STask) (b2 : Nat) : (Unit ⊕ SFault) → Exit → Act → World → Prop := Exits 6 (fun (s : Unit) a w => St w0 w [Own.blk b2 (.cells #[.string e1.Name, vI e1.C, vI e1.T, vI e1.D, vI e1.J, vI e1.O, vI e1.P] 46 (0, 0)), Own.blk b1 (.cells #[vI 0, vI 0] 26 (0, 0))] ∧ Frm 113 a [(0, .slice A0 l0.length c0), (2, pP b1 0), (3, vI (i1 : Int)), (4, pP b2 0), (22, .slice A0 l0.length c0), (23, vI (l0.length : Int)), (24, vI (i1 : Int))]) (Rets Tryd.prog Tryd.f23 (punctualref_CheckSet.Post w0))
theorem punctualref_CheckSet_r5 (K : Nat) (w0 : World) (l0 : List STask) (A0 : Option Addr) (c0 : Nat) (hR0 : RdL w0 A0 l0) (hL0 : l0.length ≤ c0) (b1 : Nat) (i1 : Nat) (hc3 : (i1 : Int) < (l0.length : Int)) (e1 : STask) (hx2 : l0[i1]? = some e1) (b2 : Nat) (q2 : Bool) (q5 : Bool) (hc9 : q5 = true) (hc10 : i1 ≤ l0.length) (b5 : Nat) (b6 : Nat) (s : Nat) (o : Nat ⊕ (Unit ⊕ SFault)) (h : punctualref_CheckSet.r5 i1 e1 s = some o) (a : Act) (w : World) (hA : punctualref_CheckSet.A5 w0 l0 A0 c0 b1 i1 e1 b2 b5 b6 s a w) (Q : Exit → Act → World → Prop) (hQ : ∀ x a w, Outs (punctualref_CheckSet.A5 w0 l0 A0 c0 b1 i1 e1 b2 b5 b6) (punctualref_CheckSet.B5 w0 l0 A0 c0 b1 i1 e1 b2) o x a w → Q x a w) : (subF Tryd.f23 [1, 1, 0, 1, 0, 0, 1, 1, 0, 0, 1, 1, 1, 1, 1, 1, 0, 1, 0, 0]).wp Tryd.prog Q a w := by
 obtain ⟨i3, hs⟩ : ∃ z, z = s := ⟨s, rfl⟩
 subst hs
 obtain ⟨hS, hF⟩ := hA
 replace hS : St w0 w [Own.blk b6 (.cells #[vI 10000, vI 10000, vI 10000, vI 10000, vI 10000, vI 1000] 94 (0, 0)), Own.blk b5 (.cells #[vI 1, vI 1, vI 1, vI 0, vI 0, vI 0] 94 (0, 0)), Own.blk b2 (.cells #[.string e1.Name, vI e1.C, vI e1.T, vI e1.D, vI e1.J, vI e1.O, vI e1.P] 46 (0, 0)), Own.blk b1 (.cells #[vI 0, vI 0] 26 (0, 0))] := hS
 simp only [punctualref_CheckSet.r5] at h
 refine (?_ : WE Tryd.prog 113 (subF Tryd.f23 [1, 1, 0, 1, 0, 0, 1, 1, 0, 0, 1, 1, 1, 1, 1, 1, 0, 1, 0, 0]) Q [(0, .slice A0 l0.length c0), (2, pP b1 0), (3, vI (i1 : Int)), (4, pP b2 0), (9, pP b5 0), (10, pP b6 0), (22, .slice A0 l0.length c0), (23, vI (l0.length : Int)), (24, vI (i1 : Int)), (84, .agg #[vI ((punctualref_sixOf.f e1).a0), vI ((punctualref_sixOf.f e1).a1), vI ((punctualref_sixOf.f e1).a2), vI ((punctualref_sixOf.f e1).a3), vI ((punctualref_sixOf.f e1).a4), vI ((punctualref_sixOf.f e1).a5)]), (85, vI (i3 : Int))] w) a hF
 clear hF a
 refine ws fun K31 hK31 => ?_
 refine wr [(0, 0)] ?_
 refine gb0 [0] [(86, .bool (decide ((i3 : Int) < 6)))] ?_
 refine gn hK31 ?_
 refine ws fun K32 hK32 => ?_
 by_cases hc13 : (i3 : Int) < 6
 ·rw [if_pos hc13] at h
  refine wk 86 (decide ((i3 : Int) < 6)) true (decide_eq_true hc13) ?_
  refine we_true (by kernel_rfl) ?_
  refine we_skip fun a hF => hK32 _ _ ?_ a hF
  refine ws fun K33 hK33 => ?_
  refine we_block ?_
  refine ws fun K34 hK34 => ?_
  refine wr [(0, 0), (1, 0), (2, 0), (3, 0)] ?_
  refine gb0 [0] [(87, vI (i3 : Int))] ?_
  rcases hx9 : ([(punctualref_sixOf.f e1).a0, (punctualref_sixOf.f e1).a1, (punctualref_sixOf.f e1).a2, (punctualref_sixOf.f e1).a3, (punctualref_sixOf.f e1).a4, (punctualref_sixOf.f e1).a5] : List Int)[i3]? with _ | e3
  ·rw [hx9] at h; cases h
  rw [hx9] at h
  simp only [] at h
  refine ge_arr2 (α := Int) (d := 88) (ty := 3) (t := 94) (len := 6) (el := 3) (x := (.tmp 84)) (y := (.tmp 85)) (k' := .i64) (j := (i3 : Int)) (jn := i3) (l := ([(punctualref_sixOf.f e1).a0, (punctualref_sixOf.f e1).a1, (punctualref_sixOf.f e1).a2, (punctualref_sixOf.f e1).a3, (punctualref_sixOf.f e1).a4, (punctualref_sixOf.f e1).a5] : List Int)) (u := e3) (cs := #[vI ((punctualref_sixOf.f e1).a0), vI ((punctualref_sixOf.f e1).a1), vI ((punctualref_sixOf.f e1).a2), vI ((punctualref_sixOf.f e1).a3), vI ((punctualref_sixOf.f e1).a4), vI ((punctualref_sixOf.f e1).a5)]) (v := vI e3) (by kernel_rfl) (by kernel_rfl) rfl (by kernel_rfl) (by kernel_rfl) (by kernel_rfl) rfl rfl rfl hx9 rfl (fun w' => by kernel_rfl) ?_
  refine gb0 [2, 3] [(12, vI e3), (11, vI (i3 : Int))] ?_
  refine gn hK34 ?_
  refine ws fun K35 hK35 => ?_
  refine wr [(0, 0), (1, 0), (2, 0), (3, 0), (4, 0), (5, 0), (6, 0), (7, 0), (8, 0), (9, 0), (10, 0), (11, 0)] ?_
  refine gb0 [0, 1] [(90, vI (i3 : Int)), (89, vI e3)] ?_
  rcases hx10 : ([1, 1, 1, 0, 0, 0] : List Int)[i3]? with _ | e4
  ·rw [hx10] at h; cases h
  rw [hx10] at h
  simp only [] at h
  refine ge_arrAddr (d := 91) (ty := 0) (t := 94) (len := 6) (el := 3) (b := b5) (o0 := 0) (sz := 1) (x := (.tmp 9)) (y := (.tmp 90)) (k' := .i64) (j := (i3 : Int)) (jn := i3) (by kernel_rfl) (by kernel_rfl) (by kernel_rfl) (by kernel_rfl) (by kernel_rfl) rfl (lt_of_get hx10) ?_
  refine gb [3, 4, 5] [(94, .bool (decide (e3 < e4))), (93, .bool (decide (e3 < e4))), (92, vI e4)] [.loaded ⟨b5, 0 + i3 * 1, none⟩ (vI e4)] ⟨hS.cellA 1 (pre := []) (post := []) (l := ([1, 1, 1, 0, 0, 0] : List Int)) rfl rfl rfl hx10 rfl rfl, trivial⟩ ?_
  by_cases hc14 : e3 < e4
  ·rw [if_pos hc14] at h
   refine gk 94 (decide (e3 < e4)) true (decide_eq_true hc14) ?_
   refine gb0 [6, 7, 8, 9, 10, 11] [(100, .bool true), (99, undef), (98, undef), (97, undef), (96, undef), (95, undef)] ?_
   refine gn hK35 ?_
   refine we_true (by kernel_rfl) ?_
   refine ws fun K36 hK36 => ?_
   refine wr [(0, 0), (1, 1), (2, 2)] ?_
   refine gb0 [0] [(101, vI (i1 : Int))] ?_
   refine ge_call (d := some 102) (f := 21) (args := #[vI 3, vI (i1 : Int)]) (by kernel_rfl) (punctualref_F_ok 3 (i1 : Int) _ _ rfl) ?_
   rintro _ w21 ⟨rfl, hS63⟩
   refine ⟨_, rfl, hS63.below, ?_⟩
   have hS64 := hS.call hS63
   have hS65 := hS64.bring 3 rfl
   refine gs b1 0 #[vI 0, vI 0] 26 [vI ((punctualref_F.f 3 (i1 : Int)).Code), vI ((punctualref_F.f 3 (i1 : Int)).At)] hS65 fun w22 hS66 => ?_
   have hS67 : St w0 w22 [Own.blk b1 (.cells #[vI ((punctualref_F.f 3 (i1 : Int)).Code), vI ((punctualref_F.f 3 (i1 : Int)).At)] 26 (0, 0)), Own.blk b6 (.cells #[vI 10000, vI 10000, vI 10000, vI 10000, vI 10000, vI 1000] 94 (0, 0)), Own.blk b5 (.cells #[vI 1, vI 1, vI 1, vI 0, vI 0, vI 0] 94 (0, 0)), Own.blk b2 (.cells #[.string e1.Name, vI e1.C, vI e1.T, vI e1.D, vI e1.J, vI e1.O, vI e1.P] 46 (0, 0))] := hS66
   refine gn hK36 ?_
   have hS68 := hS67.takeN 0
   obtain rfl := si h
   exact we_ret fun a hF => hQ _ _ _ (Outs.out nofun (Exits.on ⟨rfl, (pr [.cell 2 26] [.agg #[vI ((punctualref_F.f 3 (i1 : Int)).Code), vI ((punctualref_F.f 3 (i1 : Int)).At)]] [.loaded ⟨b1, 0, none⟩ (vI ((punctualref_F.f 3 (i1 : Int)).Code)), .loaded ⟨b1, 1, none⟩ (vI ((punctualref_F.f 3 (i1 : Int)).At))] ⟨hS67.c 0, hS67.c 0, trivial⟩ ⟨rfl, hS68⟩) a hF⟩))
  ·rw [if_neg hc14] at h
   refine gk 94 (decide (e3 < e4)) false (decide_eq_false hc14) ?_
   refine gb0 [6, 7] [(96, vI (i3 : Int)), (95, vI e3)] ?_
   rcases hx11 : ([10000, 10000, 10000, 10000, 10000, 1000] : List Int)[i3]? with _ | e5
   ·rw [hx11] at h; cases h
   rw [hx11] at h
   simp only [] at h
   refine ge_arrAddr (d := 97) (ty := 0) (t := 94) (len := 6) (el := 3) (b := b6) (o0 := 0) (sz := 1) (x := (.tmp 10)) (y := (.tmp 96)) (k' := .i64) (j := (i3 : Int)) (jn := i3) (by kernel_rfl) (by kernel_rfl) (by kernel_rfl) (by kernel_rfl) (by kernel_rfl) rfl (lt_of_get hx11) ?_
   refine gb [9, 10, 11] [(100, .bool (decide (e3 > e5))), (99, .bool (decide (e3 > e5))), (98, vI e5)] [.loaded ⟨b6, 0 + i3 * 1, none⟩ (vI e5)] ⟨hS.cellA 0 (pre := []) (post := []) (l := ([10000, 10000, 10000, 10000, 10000, 1000] : List Int)) rfl rfl rfl hx11 rfl rfl, trivial⟩ ?_
   refine gn hK35 ?_
   by_cases hc15 : e3 > e5
   ·rw [if_pos hc15] at h
    refine wk 100 (decide (e3 > e5)) true (decide_eq_true hc15) ?_
    refine we_true (by kernel_rfl) ?_
    refine ws fun K37 hK37 => ?_
    refine wr [(0, 0), (1, 1), (2, 2)] ?_
    refine gb0 [0] [(101, vI (i1 : Int))] ?_
    refine ge_call (d := some 102) (f := 21) (args := #[vI 3, vI (i1 : Int)]) (by kernel_rfl) (punctualref_F_ok 3 (i1 : Int) _ _ rfl) ?_
    rintro _ w23 ⟨rfl, hS69⟩
    refine ⟨_, rfl, hS69.below, ?_⟩
    have hS70 := hS.call hS69
    have hS71 := hS70.bring 3 rfl
    refine gs b1 0 #[vI 0, vI 0] 26 [vI ((punctualref_F.f 3 (i1 : Int)).Code), vI ((punctualref_F.f 3 (i1 : Int)).At)] hS71 fun w24 hS72 => ?_
    have hS73 : St w0 w24 [Own.blk b1 (.cells #[vI ((punctualref_F.f 3 (i1 : Int)).Code), vI ((punctualref_F.f 3 (i1 : Int)).At)] 26 (0, 0)), Own.blk b6 (.cells #[vI 10000, vI 10000, vI 10000, vI 10000, vI 10000, vI 1000] 94 (0, 0)), Own.blk b5 (.cells #[vI 1, vI 1, vI 1, vI 0, vI 0, vI 0] 94 (0, 0)), Own.blk b2 (.cells #[.string e1.Name, vI e1.C, vI e1.T, vI e1.D, vI e1.J, vI e1.O, vI e1.P] 46 (0, 0))] := hS72
    refine gn hK37 ?_
    have hS74 := hS73.takeN 0
    obtain rfl := si h
    exact we_ret fun a hF => hQ _ _ _ (Outs.out nofun (Exits.on ⟨rfl, (pr [.cell 2 26] [.agg #[vI ((punctualref_F.f 3 (i1 : Int)).Code), vI ((punctualref_F.f 3 (i1 : Int)).At)]] [.loaded ⟨b1, 0, none⟩ (vI ((punctualref_F.f 3 (i1 : Int)).Code)), .loaded ⟨b1, 1, none⟩ (vI ((punctualref_F.f 3 (i1 : Int)).At))] ⟨hS73.c 0, hS73.c 0, trivial⟩ ⟨rfl, hS74⟩) a hF⟩))
   ·rw [if_neg hc15] at h
    refine wk 100 (decide (e3 > e5)) false (decide_eq_false hc15) ?_
    refine we_false (by kernel_rfl) ?_
    refine we_skip fun a hF => hK33 _ _ ?_ a hF
    refine wr [(0, 0), (1, 0)] ?_
    refine ge_addn (d := 103) (ty := 3) (x := (.tmp 85)) (y := (.const (vI 1))) (t := 3) (t2 := 3) (k := .i64) (m := i3) (by kernel_rfl) (by kernel_rfl) (by kernel_rfl) (by omega) ?_
    refine gb0 [1] [(85, vI ((i3 + 1 : Nat) : Int))] ?_
    have hS75 := hS.bring 3 rfl
    have hS76 := hS75.bring 3 rfl
    have hS77 := hS76.bring 3 rfl
    have hS78 := hS77.bring 3 rfl
    obtain rfl := si h
    exact ge_nil fun a hF => hQ _ _ _ (Outs.again ⟨hS78, hF.weaken ea⟩)
 ·rw [if_neg hc13] at h
  refine wk 86 (decide ((i3 : Int) < 6)) false (decide_eq_false hc13) ?_
  refine we_false (by kernel_rfl) ?_
  have hS79 := hS.bring 3 rfl
  have hS80 := hS79.bring 3 rfl
  have hS81 := hS80.takeN 2
  obtain rfl := si h
  exact we_exit fun a hF => hQ _ _ _ (Outs.out nofun (Exits.here ⟨hS81, hF.weaken ea⟩))
abbrev punctualref_CheckSet.A1 (w0 : World) (l0 : List STask) (A0 : Option Addr) (c0 : Nat) (b1 : Nat) : Nat → Act → World → Prop := fun (s : Nat) a w => St w0 w [Own.blk b1 (.cells #[vI 0, vI 0] 26 (0, 0))] ∧ Frm 113 a [(0, .slice A0 l0.length c0), (2, pP b1 0), (22, .slice A0 l0.length c0), (23, vI (l0.length : Int)), (24, vI (s : Int))]
abbrev punctualref_CheckSet.B1 (w0 : World) (b1 : Nat) : (Unit ⊕ SFault) → Exit → Act → World → Prop := Exits 0 (fun (s : Unit) a w => St w0 w [Own.blk b1 (.cells #[vI 0, vI 0] 26 (0, 0))] ∧ Frm 113 a [(2, pP b1 0)]) (Rets Tryd.prog Tryd.f23 (punctualref_CheckSet.Post w0))
theorem punctualref_CheckSet_r1 (K : Nat) (w0 : World) (l0 : List STask) (A0 : Option Addr) (c0 : Nat) (hR0 : RdL w0 A0 l0) (hL0 : l0.length ≤ c0) (b1 : Nat) (s : Nat) (o : Nat ⊕ (Unit ⊕ SFault)) (h : punctualref_CheckSet.r1 K l0 s = some o) (a : Act) (w : World) (hA : punctualref_CheckSet.A1 w0 l0 A0 c0 b1 s a w) (Q : Exit → Act → World → Prop) (hQ : ∀ x a w, Outs (punctualref_CheckSet.A1 w0 l0 A0 c0 b1) (punctualref_CheckSet.B1 w0 b1) o x a w → Q x a w) : (subF Tryd.f23 [1, 1, 0, 1, 0, 0]).wp Tryd.prog Q a w := by
 obtain ⟨i1, hs⟩ : ∃ z, z = s := ⟨s, rfl⟩
 subst hs
 obtain ⟨hS, hF⟩ := hA
 replace hS : St w0 w [Own.blk b1 (.cells #[vI 0, vI 0] 26 (0, 0))] := hS
 simp only [punctualref_CheckSet.r1] at h
 refine (?_ : WE Tryd.prog 113 (subF Tryd.f23 [1, 1, 0, 1, 0, 0]) Q [(0, .slice A0 l0.length c0), (2, pP b1 0), (22, .slice A0 l0.length c0), (23, vI (l0.length : Int)), (24, vI (i1 : Int))] w) a hF
 clear hF a
 refine ws fun K8 hK8 => ?_
 refine wr [(0, 0)] ?_
 refine gb0 [0] [(25, .bool (decide ((i1 : Int) < (l0.length : Int))))] ?_
 refine gn hK8 ?_
 refine ws fun K9 hK9 => ?_
 by_cases hc3 : (i1 : Int) < (l0.length : Int)
 ·rw [if_pos hc3] at h
  refine wk 25 (decide ((i1 : Int) < (l0.length : Int))) true (decide_eq_true hc3) ?_
  refine we_true (by kernel_rfl) ?_
  refine we_skip fun a hF => hK9 _ _ ?_ a hF
  refine ws fun K10 hK10 => ?_
  refine we_block ?_
  refine ws fun K11 hK11 => ?_
  refine wr [(0, 0), (1, 0), (2, 0), (3, 1), (4, 0), (5, 2)] ?_
  refine gb0 [0] [(26, vI (i1 : Int))] ?_
  rcases hx2 : l0[i1]? with _ | e1
  ·rw [hx2] at h; cases h
  rw [hx2] at h
  simp only [] at h
  refine gi 27 0 40 46 7 l0.length c0 (.tmp 22) (.tmp 24) A0 .i64 (i1 : Int) i1 ((hS.rd hR0).eqSome (pos_of_get hx2)) rfl (lt_of_get hx2) ?_
  refine gb [2] [(28, .agg #[.string e1.Name, vI e1.C, vI e1.T, vI e1.D, vI e1.J, vI e1.O, vI e1.P])] [.loaded ⟨blkOf A0, offOf A0 + i1 * 7, none⟩ (.string e1.Name), .loaded ⟨blkOf A0, offOf A0 + i1 * 7 + 1, none⟩ (vI e1.C), .loaded ⟨blkOf A0, offOf A0 + i1 * 7 + 2, none⟩ (vI e1.T), .loaded ⟨blkOf A0, offOf A0 + i1 * 7 + 3, none⟩ (vI e1.D), .loaded ⟨blkOf A0, offOf A0 + i1 * 7 + 4, none⟩ (vI e1.J), .loaded ⟨blkOf A0, offOf A0 + i1 * 7 + 5, none⟩ (vI e1.O), .loaded ⟨blkOf A0, offOf A0 + i1 * 7 + 6, none⟩ (vI e1.P)] ⟨RdL.cell (j := 0) (hS.rd hR0) hx2 rfl, RdL.cell (j := 1) (hS.rd hR0) hx2 rfl, RdL.cell (j := 2) (hS.rd hR0) hx2 rfl, RdL.cell (j := 3) (hS.rd hR0) hx2 rfl, RdL.cell (j := 4) (hS.rd hR0) hx2 rfl, RdL.cell (j := 5) (hS.rd hR0) hx2 rfl, RdL.cell (j := 6) (hS.rd hR0) hx2 rfl, trivial⟩ ?_
  refine gw (some 4) (.cells #[.string (⟨#[]⟩), vI 0, vI 0, vI 0, vI 0, vI 0, vI 0] 46) (fun b => pP b 0) hS fun b2 w7 hx3 hS13 => ?_
  refine gb0 [4] [(3, vI (i1 : Int))] ?_
  refine gs b2 0 #[.string (⟨#[]⟩), vI 0, vI 0, vI 0, vI 0, vI 0, vI 0] 46 [.string e1.Name, vI e1.C, vI e1.T, vI e1.D, vI e1.J, vI e1.O, vI e1.P] hS13 fun w8 hS14 => ?_
  have hS15 : St w0 w8 [Own.blk b2 (.cells #[.string e1.Name, vI e1.C, vI e1.T, vI e1.D, vI e1.J, vI e1.O, vI e1.P] 46 (0, 0)), Own.blk b1 (.cells #[vI 0, vI 0] 26 (0, 0))] := hS14
  refine gn hK11 ?_
  refine ws fun K12 hK12 => ?_
  rcases hq4 : punctualref_CheckSet.p2 e1 with _ | (q2 | rr4)
  ·rw [hq4] at h; cases h
  ·rw [hq4] at h
   simp only [] at h
   refine we_keep (e' := [(0, .slice A0 l0.length c0), (2, pP b1 0), (3, vI (i1 : Int)), (4, pP b2 0), (22, .slice A0 l0.length c0), (23, vI (l0.length : Int)), (24, vI (i1 : Int)), (25, .bool true), (26, vI (i1 : Int)), (27, .pointer (some ⟨blkOf A0, offOf A0 + i1 * 7, none⟩)), (28, .agg #[.string e1.Name, vI e1.C, vI e1.T, vI e1.D, vI e1.J, vI e1.O, vI e1.P])]) ea (punctualref_CheckSet_p2 K w0 l0 A0 c0 hR0 hL0 b1 i1 hc3 e1 hx2 b2 _ hq4 _ hS15 _ ?_)
   rintro _ a w9 ⟨rfl, hS20, hF⟩
   replace hS20 : St w0 w9 [Own.blk b2 (.cells #[.string e1.Name, vI e1.C, vI e1.T, vI e1.D, vI e1.J, vI e1.O, vI e1.P] 46 (0, 0)), Own.blk b1 (.cells #[vI 0, vI 0] 26 (0, 0))] := hS20
   refine hK12 [(0, .slice A0 l0.length c0), (2, pP b1 0), (3, vI (i1 : Int)), (4, pP b2 0), (5, .bool q2), (22, .slice A0 l0.length c0), (23, vI (l0.length : Int)), (24, vI (i1 : Int))] w9 ?_ a hF
   refine ws fun K13 hK13 => ?_
   refine ws fun K14 hK14 => ?_
   refine wr [(0, 0)] ?_
   refine gb0 [0] [(6, vI 0)] ?_
   refine gn hK14 ?_
   refine we_block ?_
   have hS21 := hS20.bring 1 rfl
   have hS22 := hS21.bring 1 rfl
   rcases hq5 : iter (punctualref_CheckSet.r3 e1) K (q2, 0) with _ | (q5 | rr3)
   ·rw [hq5] at h; cases h
   ·rw [hq5] at h
    simp only [] at h
    refine we_iter (A := punctualref_CheckSet.A3 w0 l0 A0 c0 b1 i1 e1 b2) (B := punctualref_CheckSet.B3 w0 l0 A0 c0 b1 i1 e1 b2) hq5 (fun a hF => ⟨hS22, hF.weaken ea⟩) (fun s o hf a w hA Q hQ => punctualref_CheckSet_r3 K w0 l0 A0 c0 hR0 hL0 b1 i1 hc3 e1 hx2 b2 q2 s o hf a w hA Q hQ) ?_
    rintro _ a w10 _ ⟨rfl, hS31, hF⟩
    replace hS31 : St w0 w10 [Own.blk b2 (.cells #[.string e1.Name, vI e1.C, vI e1.T, vI e1.D, vI e1.J, vI e1.O, vI e1.P] 46 (0, 0)), Own.blk b1 (.cells #[vI 0, vI 0] 26 (0, 0))] := hS31
    refine hK13 [(0, .slice A0 l0.length c0), (2, pP b1 0), (3, vI (i1 : Int)), (4, pP b2 0), (5, .bool q5), (22, .slice A0 l0.length c0), (23, vI (l0.length : Int)), (24, vI (i1 : Int))] w10 ?_ a hF
    refine ws fun K18 hK18 => ?_
    refine ws fun K19 hK19 => ?_
    refine wr [(0, 0), (1, 0)] ?_
    refine gb0 [0, 1] [(62, .bool (!q5)), (61, .bool q5)] ?_
    refine gn hK19 ?_
    by_cases hc9 : q5 = true
    ·rw [if_pos hc9] at h
     refine wk 62 (!q5) false (congrArg (fun z => !z) hc9) ?_
     refine we_false (by kernel_rfl) ?_
     refine we_skip fun a hF => hK18 _ _ ?_ a hF
     refine ws fun K20 hK20 => ?_
     refine ws fun K21 hK21 => ?_
     refine wr [(0, 0), (1, 0), (2, 0), (3, 0), (4, 0)] ?_
     refine gb0 [0, 1] [(66, vI (i1 : Int)), (65, .slice A0 l0.length c0)] ?_
     by_cases hc10 : i1 ≤ l0.length
     ·rw [if_pos hc10] at h
      refine ge_part (d := 67) (ty := 40) (t := 40) (el := 46) (sz := 7) (m := l0.length) (c := c0) (lo := 0) (hi := i1) (x := (.tmp 65)) (xl := none) (xh := some (.tmp 66)) (A := A0) (by kernel_rfl) (by kernel_rfl) rfl ⟨.i64, (i1 : Int), by kernel_rfl, rfl⟩ (by kernel_rfl) (by kernel_rfl) (by have f0 := hc10; have f1 := hL0; omega) (by have f0 := hc10; have f1 := hL0; omega) ?_
      refine ge_same (t := 67) (v := .slice (subA A0 c0 0 7) (i1 - 0) (c0 - 0)) (v' := .slice (subA A0 c0 0 7) (((l0.take i1).drop 0).length) (c0 - 0)) (by kernel_rfl) (by have f0 := hc10; have f1 := hL0; rw [show i1 - 0 = ((l0.take i1).drop 0).length by simp only [List.length_drop, List.length_take]; omega]) ?_
      refine gb0 [3, 4] [(69, vI 0), (68, vI (((l0.take i1).drop 0).length : Int))] ?_
      refine gn hK21 ?_
      refine we_block ?_
      have hS32 := hS31.bring 1 rfl
      have hS33 := hS32.bring 1 rfl
      rcases hq7 : iter (punctualref_CheckSet.r4 l0 i1 e1) K 0 with _ | (_ | rr2)
      ·rw [hq7] at h; cases h
      ·rw [hq7] at h
       simp only [] at h
       refine we_iter (A := punctualref_CheckSet.A4 w0 l0 A0 c0 b1 i1 e1 b2) (B := punctualref_CheckSet.B4 w0 l0 A0 c0 b1 i1 e1 b2) hq7 (fun a hF => ⟨hS33, hF.weaken ea⟩) (fun s o hf a w hA Q hQ => punctualref_CheckSet_r4 K w0 l0 A0 c0 hR0 hL0 b1 i1 hc3 e1 hx2 b2 q2 q5 hc9 hc10 s o hf a w hA Q hQ) ?_
       rintro _ a w15 _ ⟨rfl, hS48, hF⟩
       replace hS48 : St w0 w15 [Own.blk b2 (.cells #[.string e1.Name, vI e1.C, vI e1.T, vI e1.D, vI e1.J, vI e1.O, vI e1.P] 46 (0, 0)), Own.blk b1 (.cells #[vI 0, vI 0] 26 (0, 0))] := hS48
       refine hK20 [(0, .slice A0 l0.length c0), (2, pP b1 0), (3, vI (i1 : Int)), (4, pP b2 0), (22, .slice A0 l0.length c0), (23, vI (l0.length : Int)), (24, vI (i1 : Int))] w15 ?_ a hF
       refine ws fun K28 hK28 => ?_
       refine wr [(0, 0), (1, 0), (2, 1), (3, 1), (4, 2), (5, 2)] ?_
       refine gb0 [0, 1] [(82, .agg #[vI 10000, vI 10000, vI 10000, vI 10000, vI 10000, vI 1000]), (81, .agg #[vI 1, vI 1, vI 1, vI 0, vI 0, vI 0])] ?_
       refine gw (some 9) (.cells #[vI 0, vI 0, vI 0, vI 0, vI 0, vI 0] 94) (fun b => pP b 0) hS48 fun b5 w16 hx7 hS49 => ?_
       refine gw (some 10) (.cells #[vI 0, vI 0, vI 0, vI 0, vI 0, vI 0] 94) (fun b => pP b 0) hS49 fun b6 w17 hx8 hS50 => ?_
       have hS51 := hS50.bring 1 rfl
       refine gs b5 0 #[vI 0, vI 0, vI 0, vI 0, vI 0, vI 0] 94 [vI 1, vI 1, vI 1, vI 0, vI 0, vI 0] hS51 fun w18 hS52 => ?_
       have hS53 : St w0 w18 [Own.blk b5 (.cells #[vI 1, vI 1, vI 1, vI 0, vI 0, vI 0] 94 (0, 0)), Own.blk b6 (.cells #[vI 0, vI 0, vI 0, vI 0, vI 0, vI 0] 94 (0, 0)), Own.blk b2 (.cells #[.string e1.Name, vI e1.C, vI e1.T, vI e1.D, vI e1.J, vI e1.O, vI e1.P] 46 (0, 0)), Own.blk b1 (.cells #[vI 0, vI 0] 26 (0, 0))] := hS52
       have hS54 := hS53.bring 1 rfl
       refine gs b6 0 #[vI 0, vI 0, vI 0, vI 0, vI 0, vI 0] 94 [vI 10000, vI 10000, vI 10000, vI 10000, vI 10000, vI 1000] hS54 fun w19 hS55 => ?_
       have hS56 : St w0 w19 [Own.blk b6 (.cells #[vI 10000, vI 10000, vI 10000, vI 10000, vI 10000, vI 1000] 94 (0, 0)), Own.blk b5 (.cells #[vI 1, vI 1, vI 1, vI 0, vI 0, vI 0] 94 (0, 0)), Own.blk b2 (.cells #[.string e1.Name, vI e1.C, vI e1.T, vI e1.D, vI e1.J, vI e1.O, vI e1.P] 46 (0, 0)), Own.blk b1 (.cells #[vI 0, vI 0] 26 (0, 0))] := hS55
       refine gn hK28 ?_
       refine ws fun K29 hK29 => ?_
       refine ws fun K30 hK30 => ?_
       refine wr [(0, 0), (1, 1), (2, 0)] ?_
       refine gb [0] [(83, .agg #[.string e1.Name, vI e1.C, vI e1.T, vI e1.D, vI e1.J, vI e1.O, vI e1.P])] [.loaded ⟨b2, 0, none⟩ (.string e1.Name), .loaded ⟨b2, 1, none⟩ (vI e1.C), .loaded ⟨b2, 2, none⟩ (vI e1.T), .loaded ⟨b2, 3, none⟩ (vI e1.D), .loaded ⟨b2, 4, none⟩ (vI e1.J), .loaded ⟨b2, 5, none⟩ (vI e1.O), .loaded ⟨b2, 6, none⟩ (vI e1.P)] ⟨hS56.c 2, hS56.c 2, hS56.c 2, hS56.c 2, hS56.c 2, hS56.c 2, hS56.c 2, trivial⟩ ?_
       refine ge_call (d := some 84) (f := 66) (args := #[.agg #[.string e1.Name, vI e1.C, vI e1.T, vI e1.D, vI e1.J, vI e1.O, vI e1.P]]) (by kernel_rfl) (punctualref_sixOf_ok e1 _ _ rfl) ?_
       rintro _ w20 ⟨rfl, hS57⟩
       refine ⟨_, rfl, hS57.below, ?_⟩
       have hS58 := hS56.call hS57
       refine gb0 [2] [(85, vI 0)] ?_
       refine gn hK30 ?_
       refine we_block ?_
       have hS59 := hS58.bring 3 rfl
       have hS60 := hS59.bring 3 rfl
       have hS61 := hS60.bring 3 rfl
       have hS62 := hS61.bring 3 rfl
       rcases hq11 : iter (punctualref_CheckSet.r5 i1 e1) K 0 with _ | (_ | rr1)
       ·rw [hq11] at h; cases h
       ·rw [hq11] at h
        simp only [] at h
        refine we_iter (A := punctualref_CheckSet.A5 w0 l0 A0 c0 b1 i1 e1 b2 b5 b6) (B := punctualref_CheckSet.B5 w0 l0 A0 c0 b1 i1 e1 b2) hq11 (fun a hF => ⟨hS62, hF.weaken ea⟩) (fun s o hf a w hA Q hQ => punctualref_CheckSet_r5 K w0 l0 A0 c0 hR0 hL0 b1 i1 hc3 e1 hx2 b2 q2 q5 hc9 hc10 b5 b6 s o hf a w hA Q hQ) ?_
        rintro _ a w25 _ ⟨rfl, hS82, hF⟩
        replace hS82 : St w0 w25 [Own.blk b2 (.cells #[.string e1.Name, vI e1.C, vI e1.T, vI e1.D, vI e1.J, vI e1.O, vI e1.P] 46 (0, 0)), Own.blk b1 (.cells #[vI 0, vI 0] 26 (0, 0))] := hS82
        refine hK29 [(0, .slice A0 l0.length c0), (2, pP b1 0), (3, vI (i1 : Int)), (4, pP b2 0), (22, .slice A0 l0.length c0), (23, vI (l0.length : Int)), (24, vI (i1 : Int))] w25 ?_ a hF
        refine ws fun K38 hK38 => ?_
        refine wr [(0, 0), (1, 0), (2, 0), (3, 0), (4, 0)] ?_
        refine gb [0, 1, 2, 3, 4] [(108, .bool (decide (e1.D < e1.C))), (107, vI e1.C), (106, pP b2 1), (105, vI e1.D), (104, pP b2 3)] [.loaded ⟨b2, 3, none⟩ (vI e1.D), .loaded ⟨b2, 1, none⟩ (vI e1.C)] ⟨hS82.c 0, hS82.c 0, trivial⟩ ?_
        refine gn hK38 ?_
        by_cases hc16 : e1.D < e1.C
        ·rw [if_pos hc16] at h
         refine wk 108 (decide (e1.D < e1.C)) true (decide_eq_true hc16) ?_
         refine we_true (by kernel_rfl) ?_
         refine ws fun K39 hK39 => ?_
         refine wr [(0, 0), (1, 1), (2, 2)] ?_
         refine gb0 [0] [(109, vI (i1 : Int))] ?_
         refine ge_call (d := some 110) (f := 21) (args := #[vI 12, vI (i1 : Int)]) (by kernel_rfl) (punctualref_F_ok 12 (i1 : Int) _ _ rfl) ?_
         rintro _ w26 ⟨rfl, hS83⟩
         refine ⟨_, rfl, hS83.below, ?_⟩
         have hS84 := hS82.call hS83
         have hS85 := hS84.bring 1 rfl
         refine gs b1 0 #[vI 0, vI 0] 26 [vI ((punctualref_F.f 12 (i1 : Int)).Code), vI ((punctualref_F.f 12 (i1 : Int)).At)] hS85 fun w27 hS86 => ?_
         have hS87 : St w0 w27 [Own.blk b1 (.cells #[vI ((punctualref_F.f 12 (i1 : Int)).Code), vI ((punctualref_F.f 12 (i1 : Int)).At)] 26 (0, 0)), Own.blk b2 (.cells #[.string e1.Name, vI e1.C, vI e1.T, vI e1.D, vI e1.J, vI e1.O, vI e1.P] 46 (0, 0))] := hS86
         refine gn hK39 ?_
         have hS88 := hS87.takeN 0
         obtain rfl := si h
         exact we_ret fun a hF => hQ _ _ _ (Outs.out nofun (Exits.on ⟨rfl, (pr [.cell 2 26] [.agg #[vI ((punctualref_F.f 12 (i1 : Int)).Code), vI ((punctualref_F.f 12 (i1 : Int)).At)]] [.loaded ⟨b1, 0, none⟩ (vI ((punctualref_F.f 12 (i1 : Int)).Code)), .loaded ⟨b1, 1, none⟩ (vI ((punctualref_F.f 12 (i1 : Int)).At))] ⟨hS87.c 0, hS87.c 0, trivial⟩ ⟨rfl, hS88⟩) a hF⟩))
        ·rw [if_neg hc16] at h
         refine wk 108 (decide (e1.D < e1.C)) false (decide_eq_false hc16) ?_
         refine we_false (by kernel_rfl) ?_
         refine we_skip fun a hF => hK10 _ _ ?_ a hF
         refine wr [(0, 0), (1, 0)] ?_
         refine ge_addn (d := 111) (ty := 3) (x := (.tmp 24)) (y := (.const (vI 1))) (t := 3) (t2 := 3) (k := .i64) (m := i1) (by kernel_rfl) (by kernel_rfl) (by kernel_rfl) (by have h0 := hR0.small; omega) ?_
         refine gb0 [1] [(24, vI ((i1 + 1 : Nat) : Int))] ?_
         have hS89 := hS82.bring 1 rfl
         have hS90 := hS89.takeN 1
         obtain rfl := si h
         exact ge_nil fun a hF => hQ _ _ _ (Outs.again ⟨hS90, hF.weaken ea⟩)
       ·rw [hq11] at h
        simp only [] at h
        refine we_iter (A := punctualref_CheckSet.A5 w0 l0 A0 c0 b1 i1 e1 b2 b5 b6) (B := punctualref_CheckSet.B5 w0 l0 A0 c0 b1 i1 e1 b2) hq11 (fun a hF => ⟨hS62, hF.weaken ea⟩) (fun s o hf a w hA Q hQ => punctualref_CheckSet_r5 K w0 l0 A0 c0 hR0 hL0 b1 i1 hc3 e1 hx2 b2 q2 q5 hc9 hc10 b5 b6 s o hf a w hA Q hQ) ?_
        rintro _ a w1 _ ⟨rfl, hb⟩
        obtain rfl := si h
        exact hQ _ _ _ (Outs.out nofun (Exits.on ⟨rfl, hb⟩))
      ·rw [hq7] at h
       simp only [] at h
       refine we_iter (A := punctualref_CheckSet.A4 w0 l0 A0 c0 b1 i1 e1 b2) (B := punctualref_CheckSet.B4 w0 l0 A0 c0 b1 i1 e1 b2) hq7 (fun a hF => ⟨hS33, hF.weaken ea⟩) (fun s o hf a w hA Q hQ => punctualref_CheckSet_r4 K w0 l0 A0 c0 hR0 hL0 b1 i1 hc3 e1 hx2 b2 q2 q5 hc9 hc10 s o hf a w hA Q hQ) ?_
       rintro _ a w1 _ ⟨rfl, hb⟩
       obtain rfl := si h
       exact hQ _ _ _ (Outs.out nofun (Exits.on ⟨rfl, hb⟩))
     ·rw [if_neg hc10] at h
      cases h
    ·rw [if_neg hc9] at h
     refine wk 62 (!q5) true (congrArg (fun z => !z) (Bool.eq_false_iff.2 hc9)) ?_
     refine we_true (by kernel_rfl) ?_
     refine ws fun K40 hK40 => ?_
     refine wr [(0, 0), (1, 1), (2, 2)] ?_
     refine gb0 [0] [(63, vI (i1 : Int))] ?_
     refine ge_call (d := some 64) (f := 21) (args := #[vI 4, vI (i1 : Int)]) (by kernel_rfl) (punctualref_F_ok 4 (i1 : Int) _ _ rfl) ?_
     rintro _ w28 ⟨rfl, hS91⟩
     refine ⟨_, rfl, hS91.below, ?_⟩
     have hS92 := hS31.call hS91
     have hS93 := hS92.bring 1 rfl
     refine gs b1 0 #[vI 0, vI 0] 26 [vI ((punctualref_F.f 4 (i1 : Int)).Code), vI ((punctualref_F.f 4 (i1 : Int)).At)] hS93 fun w29 hS94 => ?_
     have hS95 : St w0 w29 [Own.blk b1 (.cells #[vI ((punctualref_F.f 4 (i1 : Int)).Code), vI ((punctualref_F.f 4 (i1 : Int)).At)] 26 (0, 0)), Own.blk b2 (.cells #[.string e1.Name, vI e1.C, vI e1.T, vI e1.D, vI e1.J, vI e1.O, vI e1.P] 46 (0, 0))] := hS94
     refine gn hK40 ?_
     have hS96 := hS95.takeN 0
     obtain rfl := si h
     exact we_ret fun a hF => hQ _ _ _ (Outs.out nofun (Exits.on ⟨rfl, (pr [.cell 2 26] [.agg #[vI ((punctualref_F.f 4 (i1 : Int)).Code), vI ((punctualref_F.f 4 (i1 : Int)).At)]] [.loaded ⟨b1, 0, none⟩ (vI ((punctualref_F.f 4 (i1 : Int)).Code)), .loaded ⟨b1, 1, none⟩ (vI ((punctualref_F.f 4 (i1 : Int)).At))] ⟨hS95.c 0, hS95.c 0, trivial⟩ ⟨rfl, hS96⟩) a hF⟩))
   ·rw [hq5] at h
    simp only [] at h
    refine we_iter (A := punctualref_CheckSet.A3 w0 l0 A0 c0 b1 i1 e1 b2) (B := punctualref_CheckSet.B3 w0 l0 A0 c0 b1 i1 e1 b2) hq5 (fun a hF => ⟨hS22, hF.weaken ea⟩) (fun s o hf a w hA Q hQ => punctualref_CheckSet_r3 K w0 l0 A0 c0 hR0 hL0 b1 i1 hc3 e1 hx2 b2 q2 s o hf a w hA Q hQ) ?_
    rintro _ a w1 _ ⟨rfl, hb⟩
    obtain rfl := si h
    exact hQ _ _ _ (Outs.out nofun (Exits.on ⟨rfl, hb⟩))
  ·rw [hq4] at h
   simp only [] at h
   refine we_keep (e' := [(0, .slice A0 l0.length c0), (2, pP b1 0), (3, vI (i1 : Int)), (4, pP b2 0), (22, .slice A0 l0.length c0), (23, vI (l0.length : Int)), (24, vI (i1 : Int)), (25, .bool true), (26, vI (i1 : Int)), (27, .pointer (some ⟨blkOf A0, offOf A0 + i1 * 7, none⟩)), (28, .agg #[.string e1.Name, vI e1.C, vI e1.T, vI e1.D, vI e1.J, vI e1.O, vI e1.P])]) ea (punctualref_CheckSet_p2 K w0 l0 A0 c0 hR0 hL0 b1 i1 hc3 e1 hx2 b2 _ hq4 _ hS15 _ ?_)
   rintro _ a w1 ⟨_, rfl, hb⟩
   obtain rfl := si h
   exact hQ _ _ _ (Outs.out nofun (Exits.on ⟨rfl, hb⟩))
 ·rw [if_neg hc3] at h
  refine wk 25 (decide ((i1 : Int) < (l0.length : Int))) false (decide_eq_false hc3) ?_
  refine we_false (by kernel_rfl) ?_
  obtain rfl := si h
  exact we_exit fun a hF => hQ _ _ _ (Outs.out nofun (Exits.here ⟨hS, hF.weaken ea⟩))
theorem punctualref_CheckSet_ok (K : Nat) (l0 : List STask) (A0 : Option Addr) (c0 : Nat) (w0 : World) (hR0 : RdL w0 A0 l0) (hL0 : l0.length ≤ c0) (r : SFault) (h : punctualref_CheckSet.f K l0 = some r) :
  Calls Tryd.prog 23 #[.slice A0 l0.length c0] w0 (punctualref_CheckSet.Post w0 r) := by
 have hS := St.start w0
 unfold punctualref_CheckSet.f at h
 refine calls_enter (n := 113) (args := [.slice A0 l0.length c0]) (fn := Tryd.f23) rfl rfl rfl rfl ?_
 show WE _ _ _ _ [(0, .slice A0 l0.length c0)] _
 refine ws fun K1 hK1 => ?_
 refine wr [(0, 1)] ?_
 refine gw (some 2) (.cells #[vI 0, vI 0] 26) (fun b => pP b 0) hS fun b1 w1 hx1 hS1 => ?_
 refine gn hK1 ?_
 refine ws fun K2 hK2 => ?_
 rcases hq3 : punctualref_CheckSet.p0 l0 with _ | (_ | rr6)
 ·rw [hq3] at h; cases h
 ·rw [hq3] at h
  simp only [] at h
  refine we_keep (e' := [(0, .slice A0 l0.length c0), (2, pP b1 0)]) ea (punctualref_CheckSet_p0 K w0 l0 A0 c0 hR0 hL0 b1 _ hq3 _ hS1 _ ?_)
  rintro _ a w6 ⟨rfl, hS12, hF⟩
  replace hS12 : St w0 w6 [Own.blk b1 (.cells #[vI 0, vI 0] 26 (0, 0))] := hS12
  refine hK2 [(0, .slice A0 l0.length c0), (2, pP b1 0)] w6 ?_ a hF
  refine ws fun K6 hK6 => ?_
  refine ws fun K7 hK7 => ?_
  refine wr [(0, 0), (1, 0), (2, 0)] ?_
  refine gb0 [0, 1, 2] [(24, vI 0), (23, vI (l0.length : Int)), (22, .slice A0 l0.length c0)] ?_
  refine gn hK7 ?_
  refine we_block ?_
  rcases hq14 : iter (punctualref_CheckSet.r1 K l0) K 0 with _ | (_ | rr5)
  ·rw [hq14] at h; cases h
  ·rw [hq14] at h
   simp only [] at h
   refine we_iter (A := punctualref_CheckSet.A1 w0 l0 A0 c0 b1) (B := punctualref_CheckSet.B1 w0 b1) hq14 (fun a hF => ⟨hS12, hF.weaken ea⟩) (fun s o hf a w hA Q hQ => punctualref_CheckSet_r1 K w0 l0 A0 c0 hR0 hL0 b1 s o hf a w hA Q hQ) ?_
   rintro _ a w30 _ ⟨rfl, hS97, hF⟩
   replace hS97 : St w0 w30 [Own.blk b1 (.cells #[vI 0, vI 0] 26 (0, 0))] := hS97
   refine hK6 [(2, pP b1 0)] w30 ?_ a hF
   refine ws fun K41 hK41 => ?_
   refine wr [(0, 0), (1, 2)] ?_
   refine gb0 [0] [(112, .agg #[vI 0, vI 0])] ?_
   refine gs b1 0 #[vI 0, vI 0] 26 [vI 0, vI 0] hS97 fun w31 hS98 => ?_
   have hS99 : St w0 w31 [Own.blk b1 (.cells #[vI 0, vI 0] 26 (0, 0))] := hS98
   refine gn hK41 ?_
   have hS100 := hS99.takeN 0
   obtain rfl := si h
   exact we_ret (pr [.cell 2 26] [.agg #[vI 0, vI 0]] [.loaded ⟨b1, 0, none⟩ (vI 0), .loaded ⟨b1, 1, none⟩ (vI 0)] ⟨hS99.c 0, hS99.c 0, trivial⟩ ⟨rfl, hS100⟩)
  ·rw [hq14] at h
   simp only [] at h
   refine we_iter (A := punctualref_CheckSet.A1 w0 l0 A0 c0 b1) (B := punctualref_CheckSet.B1 w0 b1) hq14 (fun a hF => ⟨hS12, hF.weaken ea⟩) (fun s o hf a w hA Q hQ => punctualref_CheckSet_r1 K w0 l0 A0 c0 hR0 hL0 b1 s o hf a w hA Q hQ) ?_
   rintro _ a w1 _ ⟨rfl, hb⟩
   obtain rfl := si h
   exact hb
 ·rw [hq3] at h
  simp only [] at h
  refine we_keep (e' := [(0, .slice A0 l0.length c0), (2, pP b1 0)]) ea (punctualref_CheckSet_p0 K w0 l0 A0 c0 hR0 hL0 b1 _ hq3 _ hS1 _ ?_)
  rintro _ a w1 ⟨_, rfl, hb⟩
  obtain rfl := si h
  exact hb

/-! punctual/punctuallaw.FixedRanks$1 -/
abbrev FixedRanks_1.Post (w0 : World) (r : Int) (e : Ending) (w : World) : Prop := e = .returned (vI r) ∧ St w0 w []
def FixedRanks_1.f (x0 : STask) : Int :=
 x0.T
theorem FixedRanks_1_ok (x0 : STask) (w0 : World) (r : Int) (h : FixedRanks_1.f x0 = r) :
  Calls Tryd.prog 52 #[.agg #[.string x0.Name, vI x0.C, vI x0.T, vI x0.D, vI x0.J, vI x0.O, vI x0.P]] w0 (FixedRanks_1.Post w0 r) := by
 have hS := St.start w0
 unfold FixedRanks_1.f at h
 refine calls_enter (n := 5) (args := [.agg #[.string x0.Name, vI x0.C, vI x0.T, vI x0.D, vI x0.J, vI x0.O, vI x0.P]]) (fn := Tryd.f52) rfl rfl rfl rfl ?_
 show WE _ _ _ _ [(0, .agg #[.string x0.Name, vI x0.C, vI x0.T, vI x0.D, vI x0.J, vI x0.O, vI x0.P])] _
 refine ws fun K1 hK1 => ?_
 refine wr [(0, 1), (1, 0)] ?_
 refine gw (some 1) (.cells #[.string x0.Name, vI x0.C, vI x0.T, vI x0.D, vI x0.J, vI x0.O, vI x0.P] 46) (fun b => pP b 0) hS fun b1 w1 hx1 hS1 => ?_
 refine gb0 [1] [(2, vI 0)] ?_
 refine gn hK1 ?_
 refine ws fun K2 hK2 => ?_
 refine wr [(0, 0), (1, 0), (2, 0)] ?_
 refine gb [0, 1, 2] [(2, vI x0.T), (4, vI x0.T), (3, pP b1 2)] [.loaded ⟨b1, 2, none⟩ (vI x0.T)] ⟨hS1.c 0, trivial⟩ ?_
 refine gn hK2 ?_
 have hS2 := hS1.takeN 0
 subst h
 exact we_ret (pr0 [.tmp 2] [vI x0.T] ⟨rfl, hS2⟩)

/-! punctual/punctualref.Ranked -/
abbrev punctualref_Ranked.Post (w0 : World) (r : (List STask) × SFault) (e : Ending) (w : World) : Prop := ∃ (v0 : Value), e = .returned (.tuple #[v0, .agg #[vI r.2.Code, vI r.2.At]]) ∧ St w0 w [Own.of v0 46 r.1]
def punctualref_Ranked.r1 (l0 : List STask) (i1 : Nat) (e1 : STask) : Int × Nat → Option ((Int × Nat) ⊕ (Int ⊕ ((List STask) × SFault)))
 | (z1, i2) =>
  if (i2 : Int) < (l0.length : Int) then
   match l0[i2]? with
   | none => none
   | some e2 =>
    if (FixedRanks_1.f e2) > (FixedRanks_1.f e1) then
     some (.inl (IntKind.i64.wrap (z1 + 1), (i2 + 1)))
    else
     if (FixedRanks_1.f e2) = (FixedRanks_1.f e1) then
      if (i2 : Int) > (i1 : Int) then
       some (.inl (IntKind.i64.wrap (z1 + 1), (i2 + 1)))
      else
       some (.inl (z1, (i2 + 1)))
     else
      some (.inl (z1, (i2 + 1)))
  else
   some (.inr (.inl z1))
def punctualref_Ranked.r0 (K : Nat) (l0 : List STask) (r1 : SFault) : Nat × (List STask) → Option ((Nat × (List STask)) ⊕ ((List STask) ⊕ ((List STask) × SFault)))
 | (i1, m1) =>
  if (i1 : Int) < (l0.length : Int) then
   match l0[i1]? with
   | none => none
   | some e1 =>
    match iter (punctualref_Ranked.r1 l0 i1 e1) K (1, 0) with
    | none => none
    | some (.inl z3) =>
     match m1[i1]? with
     | none => none
     | some e3 =>
      some (.inl ((i1 + 1), (m1.set i1 (⟨e3.Name, e3.C, e3.T, e3.D, e3.J, e3.O, z3⟩ : STask))))
    | some (.inr rr1) =>
     some (.inr (.inr rr1))
  else
   some (.inr (.inl m1))
def punctualref_Ranked.f (K : Nat) (l0 : List STask) : Option ((List STask) × SFault) :=
 match punctualref_CheckSet.f K l0 with
 | none => none
 | some r1 =>
  if r1.Code = 0 then
   if 0 + l0.length ≤ 2199023255552 then
    match iter (punctualref_Ranked.r0 K l0 r1) K (0, l0) with
    | none => none
    | some (.inl m3) =>
     some (m3, (⟨0, 0⟩ : SFault))
    | some (.inr rr2) =>
     some rr2
   else
    none
  else
   some (([] : List STask), r1)
abbrev punctualref_Ranked.A1 (w0 : World) (l0 : List STask) (A0 : Option Addr) (c0 : Nat) (b1 : Nat) (Z1 : Option Addr) (cz1 : Nat) (i1 : Nat) (m1 : List STask) (e1 : STask) (b4 : Nat) : (Int × Nat) → Act → World → Prop := fun (s : Int × Nat) a w => St w0 w [Own.blk b4 (.cells #[.string e1.Name, vI e1.C, vI e1.T, vI e1.D, vI e1.J, vI e1.O, vI e1.P] 46 (0, 0)), Own.blk b1 (.cells #[vI 0, vI 0] 26 (0, 0)), Own.of (.slice Z1 m1.length cz1) 46 m1] ∧ Frm 68 a [(0, .slice A0 l0.length c0), (1, .func (.func 52) #[] #[]), (5, pP b1 0), (7, (.slice Z1 m1.length cz1)), (8, vI (i1 : Int)), (9, pP b4 0), (10, vI s.1), (22, .slice A0 l0.length c0), (23, vI (l0.length : Int)), (24, vI (i1 : Int)), (29, .slice A0 l0.length c0), (30, vI (l0.length : Int)), (31, vI (s.2 : Int))]
abbrev punctualref_Ranked.B1 (w0 : World) (l0 : List STask) (A0 : Option Addr) (c0 : Nat) (b1 : Nat) (Z1 : Option Addr) (cz1 : Nat) (i1 : Nat) (m1 : List STask) : (Int ⊕ ((List STask) × SFault)) → Exit → Act → World → Prop := Exits 2 (fun (s : Int) a w => St w0 w [Own.blk b1 (.cells #[vI 0, vI 0] 26 (0, 0)), Own.of (.slice Z1 m1.length cz1) 46 m1] ∧ Frm 68 a [(0, .slice A0 l0.length c0), (1, .func (.func 52) #[] #[]), (5, pP b1 0), (7, (.slice Z1 m1.length cz1)), (8, vI (i1 : Int)), (10, vI s), (22, .slice A0 l0.length c0), (23, vI (l0.length : Int)), (24, vI (i1 : Int))]) (Rets Tryd.prog Tryd.f51 (punctualref_Ranked.Post w0))
theorem punctualref_Ranked_r1 (K : Nat) (w0 : World) (l0 : List STask) (A0 : Option Addr) (c0 : Nat) (hR0 : RdL w0 A0 l0) (hL0 : l0.length ≤ c0) (b1 : Nat) (r1 : SFault) (b2 : Nat) (hc1 : r1.Code = 0) (b3 : Nat) (hc2 : 0 + l0.length ≤ 2199023255552) (Z1 : Option Addr) (cz1 : Nat) (i1 : Nat) (m1 : List STask) (hc3 : (i1 : Int) < (l0.length : Int)) (e1 : STask) (hx4 : l0[i1]? = some e1) (b4 : Nat) (s : Int × Nat) (o : (Int × Nat) ⊕ (Int ⊕ ((List STask) × SFault))) (h : punctualref_Ranked.r1 l0 i1 e1 s = some o) (a : Act) (w : World) (hA : punctualref_Ranked.A1 w0 l0 A0 c0 b1 Z1 cz1 i1 m1 e1 b4 s a w) (Q : Exit → Act → World → Prop) (hQ : ∀ x a w, Outs (punctualref_Ranked.A1 w0 l0 A0 c0 b1 Z1 cz1 i1 m1 e1 b4) (punctualref_Ranked.B1 w0 l0 A0 c0 b1 Z1 cz1 i1 m1) o x a w → Q x a w) : (subF Tryd.f51 [1, 1, 1, 0, 1, 0, 0, 1, 1, 0, 0, 1, 1, 0, 1, 0, 0]).wp Tryd.prog Q a w := by
 obtain ⟨z1, i2⟩ := s
 obtain ⟨hS, hF⟩ := hA
 replace hS : St w0 w [Own.blk b4 (.cells #[.string e1.Name, vI e1.C, vI e1.T, vI e1.D, vI e1.J, vI e1.O, vI e1.P] 46 (0, 0)), Own.blk b1 (.cells #[vI 0, vI 0] 26 (0, 0)), Own.of (.slice Z1 m1.length cz1) 46 m1] := hS
 simp only [punctualref_Ranked.r1] at h
 refine (?_ : WE Tryd.prog 68 (subF Tryd.f51 [1, 1, 1, 0, 1, 0, 0, 1, 1, 0, 0, 1, 1, 0, 1, 0, 0]) Q [(0, .slice A0 l0.length c0), (1, .func (.func 52) #[] #[]), (5, pP b1 0), (7, (.slice Z1 m1.length cz1)), (8, vI (i1 : Int)), (9, pP b4 0), (10, vI z1), (22, .slice A0 l0.length c0), (23, vI (l0.length : Int)), (24, vI (i1 : Int)), (29, .slice A0 l0.length c0), (30, vI (l0.length : Int)), (31, vI (i2 : Int))] w) a hF
 clear hF a
 refine ws fun K15 hK15 => ?_
 refine wr [(0, 0)] ?_
 refine gb0 [0] [(32, .bool (decide ((i2 : Int) < (l0.length : Int))))] ?_
 refine gn hK15 ?_
 refine ws fun K16 hK16 => ?_
 by_cases hc4 : (i2 : Int) < (l0.length : Int)
 ·rw [if_pos hc4] at h
  refine wk 32 (decide ((i2 : Int) < (l0.length : Int))) true (decide_eq_true hc4) ?_
  refine we_true (by kernel_rfl) ?_
  refine we_skip fun a hF => hK16 _ _ ?_ a hF
  refine ws fun K17 hK17 => ?_
  refine we_block ?_
  refine ws fun K18 hK18 => ?_
  refine wr [(0, 0), (1, 0), (2, 0), (3, 1), (4, 0), (5, 2)] ?_
  refine gb0 [0] [(33, vI (i2 : Int))] ?_
  rcases hx6 : l0[i2]? with _ | e2
  ·rw [hx6] at h; cases h
  rw [hx6] at h
  simp only [] at h
  refine gi 34 0 40 46 7 l0.length c0 (.tmp 29) (.tmp 31) A0 .i64 (i2 : Int) i2 ((hS.rd hR0).eqSome (pos_of_get hx6)) rfl (lt_of_get hx6) ?_
  refine gb [2] [(35, .agg #[.string e2.Name, vI e2.C, vI e2.T, vI e2.D, vI e2.J, vI e2.O, vI e2.P])] [.loaded ⟨blkOf A0, offOf A0 + i2 * 7, none⟩ (.string e2.Name), .loaded ⟨blkOf A0, offOf A0 + i2 * 7 + 1, none⟩ (vI e2.C), .loaded ⟨blkOf A0, offOf A0 + i2 * 7 + 2, none⟩ (vI e2.T), .loaded ⟨blkOf A0, offOf A0 + i2 * 7 + 3, none⟩ (vI e2.D), .loaded ⟨blkOf A0, offOf A0 + i2 * 7 + 4, none⟩ (vI e2.J), .loaded ⟨blkOf A0, offOf A0 + i2 * 7 + 5, none⟩ (vI e2.O), .loaded ⟨blkOf A0, offOf A0 + i2 * 7 + 6, none⟩ (vI e2.P)] ⟨RdL.cell (j := 0) (hS.rd hR0) hx6 rfl, RdL.cell (j := 1) (hS.rd hR0) hx6 rfl, RdL.cell (j := 2) (hS.rd hR0) hx6 rfl, RdL.cell (j := 3) (hS.rd hR0) hx6 rfl, RdL.cell (j := 4) (hS.rd hR0) hx6 rfl, RdL.cell (j := 5) (hS.rd hR0) hx6 rfl, RdL.cell (j := 6) (hS.rd hR0) hx6 rfl, trivial⟩ ?_
  refine gw (some 12) (.cells #[.string (⟨#[]⟩), vI 0, vI 0, vI 0, vI 0, vI 0, vI 0] 46) (fun b => pP b 0) hS fun b5 w9 hx7 hS19 => ?_
  refine gb0 [4] [(11, vI (i2 : Int))] ?_
  refine gs b5 0 #[.string (⟨#[]⟩), vI 0, vI 0, vI 0, vI 0, vI 0, vI 0] 46 [.string e2.Name, vI e2.C, vI e2.T, vI e2.D, vI e2.J, vI e2.O, vI e2.P] hS19 fun w10 hS20 => ?_
  have hS21 : St w0 w10 [Own.blk b5 (.cells #[.string e2.Name, vI e2.C, vI e2.T, vI e2.D, vI e2.J, vI e2.O, vI e2.P] 46 (0, 0)), Own.blk b4 (.cells #[.string e1.Name, vI e1.C, vI e1.T, vI e1.D, vI e1.J, vI e1.O, vI e1.P] 46 (0, 0)), Own.blk b1 (.cells #[vI 0, vI 0] 26 (0, 0)), Own.of (.slice Z1 m1.length cz1) 46 m1] := hS20
  refine gn hK18 ?_
  refine ws fun K19 hK19 => ?_
  refine we_draws (by kernel_rfl) [(0, 0), (1, 0), (3, 0), (4, 0), (2, 1), (5, 1), (6, 0), (7, 0), (8, 0), (9, 0), (11, 0), (12, 0), (10, 1), (13, 1), (14, 0), (15, 0), (16, 0), (17, 0), (18, 0), (19, 0), (20, 0)] (by kernel_rfl) ?_
  have hS22 := hS21.drew
  refine gb [0, 1, 3, 4] [(40, .agg #[.string e1.Name, vI e1.C, vI e1.T, vI e1.D, vI e1.J, vI e1.O, vI e1.P]), (39, .func (.func 52) #[] #[]), (37, .agg #[.string e2.Name, vI e2.C, vI e2.T, vI e2.D, vI e2.J, vI e2.O, vI e2.P]), (36, .func (.func 52) #[] #[])] [.loaded ⟨b5, 0, none⟩ (.string e2.Name), .loaded ⟨b5, 1, none⟩ (vI e2.C), .loaded ⟨b5, 2, none⟩ (vI e2.T), .loaded ⟨b5, 3, none⟩ (vI e2.D), .loaded ⟨b5, 4, none⟩ (vI e2.J), .loaded ⟨b5, 5, none⟩ (vI e2.O), .loaded ⟨b5, 6, none⟩ (vI e2.P), .loaded ⟨b4, 0, none⟩ (.string e1.Name), .loaded ⟨b4, 1, none⟩ (vI e1.C), .loaded ⟨b4, 2, none⟩ (vI e1.T), .loaded ⟨b4, 3, none⟩ (vI e1.D), .loaded ⟨b4, 4, none⟩ (vI e1.J), .loaded ⟨b4, 5, none⟩ (vI e1.O), .loaded ⟨b4, 6, none⟩ (vI e1.P)] ⟨hS22.c 0, hS22.c 0, hS22.c 0, hS22.c 0, hS22.c 0, hS22.c 0, hS22.c 0, hS22.c 1, hS22.c 1, hS22.c 1, hS22.c 1, hS22.c 1, hS22.c 1, hS22.c 1, trivial⟩ ?_
  refine ge_call (d := some 38) (f := 52) (args := #[.agg #[.string e2.Name, vI e2.C, vI e2.T, vI e2.D, vI e2.J, vI e2.O, vI e2.P]]) (by kernel_rfl) (FixedRanks_1_ok e2 _ _ rfl) ?_
  rintro _ w11 ⟨rfl, hS23⟩
  refine ⟨_, rfl, hS23.below, ?_⟩
  have hS24 := hS22.call hS23
  refine ge_call (d := some 41) (f := 52) (args := #[.agg #[.string e1.Name, vI e1.C, vI e1.T, vI e1.D, vI e1.J, vI e1.O, vI e1.P]]) (by kernel_rfl) (FixedRanks_1_ok e1 _ _ rfl) ?_
  rintro _ w12 ⟨rfl, hS25⟩
  refine ⟨_, rfl, hS25.below, ?_⟩
  have hS26 := hS24.call hS25
  refine gb0 [6, 7] [(43, .bool (decide ((FixedRanks_1.f e2) > (FixedRanks_1.f e1)))), (42, .bool (decide ((FixedRanks_1.f e2) > (FixedRanks_1.f e1))))] ?_
  by_cases hc5 : (FixedRanks_1.f e2) > (FixedRanks_1.f e1)
  ·rw [if_pos hc5] at h
   refine gk 43 (decide ((FixedRanks_1.f e2) > (FixedRanks_1.f e1))) true (decide_eq_true hc5) ?_
   refine gb0 [8, 9, 11, 12] [(48, undef), (47, undef), (45, undef), (44, undef)] ?_
   refine ge_off rfl rfl rfl (by kernel_rfl) ?_
   refine ge_off rfl rfl rfl (by kernel_rfl) ?_
   refine gb0 [14, 15, 16, 17, 18, 19, 20] [(56, .bool true), (55, undef), (54, undef), (53, undef), (52, undef), (51, undef), (50, undef)] ?_
   refine gn hK19 ?_
   refine we_true (by kernel_rfl) ?_
   refine wr [(0, 0), (1, 0), (2, 0)] ?_
   refine gb0 [0, 1, 2] [(10, vI (IntKind.i64.wrap (z1 + 1))), (58, vI (IntKind.i64.wrap (z1 + 1))), (57, vI z1)] ?_
   refine gn hK17 ?_
   refine wr [(0, 0), (1, 0)] ?_
   refine ge_addn (d := 59) (ty := 3) (x := (.tmp 31)) (y := (.const (vI 1))) (t := 3) (t2 := 3) (k := .i64) (m := i2) (by kernel_rfl) (by kernel_rfl) (by kernel_rfl) (by have h0 := hR0.small; omega) ?_
   refine gb0 [1] [(31, vI ((i2 + 1 : Nat) : Int))] ?_
   have hS27 := hS26.bring 3 rfl
   have hS28 := hS27.bring 3 rfl
   have hS29 := hS28.bring 3 rfl
   have hS30 := hS29.takeN 3
   obtain rfl := si h
   exact ge_nil fun a hF => hQ _ _ _ (Outs.again ⟨hS30, hF.weaken ea⟩)
  ·rw [if_neg hc5] at h
   refine gk 43 (decide ((FixedRanks_1.f e2) > (FixedRanks_1.f e1))) false (decide_eq_false hc5) ?_
   refine gb [8, 9, 11, 12] [(48, .agg #[.string e1.Name, vI e1.C, vI e1.T, vI e1.D, vI e1.J, vI e1.O, vI e1.P]), (47, .func (.func 52) #[] #[]), (45, .agg #[.string e2.Name, vI e2.C, vI e2.T, vI e2.D, vI e2.J, vI e2.O, vI e2.P]), (44, .func (.func 52) #[] #[])] [.loaded ⟨b5, 0, none⟩ (.string e2.Name), .loaded ⟨b5, 1, none⟩ (vI e2.C), .loaded ⟨b5, 2, none⟩ (vI e2.T), .loaded ⟨b5, 3, none⟩ (vI e2.D), .loaded ⟨b5, 4, none⟩ (vI e2.J), .loaded ⟨b5, 5, none⟩ (vI e2.O), .loaded ⟨b5, 6, none⟩ (vI e2.P), .loaded ⟨b4, 0, none⟩ (.string e1.Name), .loaded ⟨b4, 1, none⟩ (vI e1.C), .loaded ⟨b4, 2, none⟩ (vI e1.T), .loaded ⟨b4, 3, none⟩ (vI e1.D), .loaded ⟨b4, 4, none⟩ (vI e1.J), .loaded ⟨b4, 5, none⟩ (vI e1.O), .loaded ⟨b4, 6, none⟩ (vI e1.P)] ⟨hS26.c 0, hS26.c 0, hS26.c 0, hS26.c 0, hS26.c 0, hS26.c 0, hS26.c 0, hS26.c 1, hS26.c 1, hS26.c 1, hS26.c 1, hS26.c 1, hS26.c 1, hS26.c 1, trivial⟩ ?_
   refine ge_call (d := some 46) (f := 52) (args := #[.agg #[.string e2.Name, vI e2.C, vI e2.T, vI e2.D, vI e2.J, vI e2.O, vI e2.P]]) (by kernel_rfl) (FixedRanks_1_ok e2 _ _ rfl) ?_
   rintro _ w13 ⟨rfl, hS31⟩
   refine ⟨_, rfl, hS31.below, ?_⟩
   have hS32 := hS26.call hS31
   refine ge_call (d := some 49) (f := 52) (args := #[.agg #[.string e1.Name, vI e1.C, vI e1.T, vI e1.D, vI e1.J, vI e1.O, vI e1.P]]) (by kernel_rfl) (FixedRanks_1_ok e1 _ _ rfl) ?_
   rintro _ w14 ⟨rfl, hS33⟩
   refine ⟨_, rfl, hS33.below, ?_⟩
   have hS34 := hS32.call hS33
   refine gb0 [14, 15] [(51, .bool ((FixedRanks_1.f e2) == (FixedRanks_1.f e1))), (50, .bool ((FixedRanks_1.f e2) == (FixedRanks_1.f e1)))] ?_
   by_cases hc6 : (FixedRanks_1.f e2) = (FixedRanks_1.f e1)
   ·rw [if_pos hc6] at h
    refine gk 51 ((FixedRanks_1.f e2) == (FixedRanks_1.f e1)) true (beq_iff_eq.2 hc6) ?_
    refine gb0 [16, 17, 18, 19, 20] [(56, .bool (decide ((i2 : Int) > (i1 : Int)))), (55, .bool (decide ((i2 : Int) > (i1 : Int)))), (54, .bool (decide ((i2 : Int) > (i1 : Int)))), (53, vI (i1 : Int)), (52, vI (i2 : Int))] ?_
    refine gn hK19 ?_
    by_cases hc7 : (i2 : Int) > (i1 : Int)
    ·rw [if_pos hc7] at h
     refine wk 56 (decide ((i2 : Int) > (i1 : Int))) true (decide_eq_true hc7) ?_
     refine we_true (by kernel_rfl) ?_
     refine wr [(0, 0), (1, 0), (2, 0)] ?_
     refine gb0 [0, 1, 2] [(10, vI (IntKind.i64.wrap (z1 + 1))), (58, vI (IntKind.i64.wrap (z1 + 1))), (57, vI z1)] ?_
     refine gn hK17 ?_
     refine wr [(0, 0), (1, 0)] ?_
     refine ge_addn (d := 59) (ty := 3) (x := (.tmp 31)) (y := (.const (vI 1))) (t := 3) (t2 := 3) (k := .i64) (m := i2) (by kernel_rfl) (by kernel_rfl) (by kernel_rfl) (by have h0 := hR0.small; omega) ?_
     refine gb0 [1] [(31, vI ((i2 + 1 : Nat) : Int))] ?_
     have hS35 := hS34.bring 3 rfl
     have hS36 := hS35.bring 3 rfl
     have hS37 := hS36.bring 3 rfl
     have hS38 := hS37.takeN 3
     obtain rfl := si h
     exact ge_nil fun a hF => hQ _ _ _ (Outs.again ⟨hS38, hF.weaken ea⟩)
    ·rw [if_neg hc7] at h
     refine wk 56 (decide ((i2 : Int) > (i1 : Int))) false (decide_eq_false hc7) ?_
     refine we_false (by kernel_rfl) ?_
     refine we_skip fun a hF => hK17 _ _ ?_ a hF
     refine wr [(0, 0), (1, 0)] ?_
     refine ge_addn (d := 59) (ty := 3) (x := (.tmp 31)) (y := (.const (vI 1))) (t := 3) (t2 := 3) (k := .i64) (m := i2) (by kernel_rfl) (by kernel_rfl) (by kernel_rfl) (by have h0 := hR0.small; omega) ?_
     refine gb0 [1] [(31, vI ((i2 + 1 : Nat) : Int))] ?_
     have hS39 := hS34.bring 3 rfl
     have hS40 := hS39.bring 3 rfl
     have hS41 := hS40.bring 3 rfl
     have hS42 := hS41.takeN 3
     obtain rfl := si h
     exact ge_nil fun a hF => hQ _ _ _ (Outs.again ⟨hS42, hF.weaken ea⟩)
   ·rw [if_neg hc6] at h
    refine gk 51 ((FixedRanks_1.f e2) == (FixedRanks_1.f e1)) false (beq_eq_false_iff_ne.2 hc6) ?_
    refine gb0 [16, 17, 18, 19, 20] [(56, .bool false), (55, .bool false), (54, undef), (53, undef), (52, undef)] ?_
    refine gn hK19 ?_
    refine we_false (by kernel_rfl) ?_
    refine we_skip fun a hF => hK17 _ _ ?_ a hF
    refine wr [(0, 0), (1, 0)] ?_
    refine ge_addn (d := 59) (ty := 3) (x := (.tmp 31)) (y := (.const (vI 1))) (t := 3) (t2 := 3) (k := .i64) (m := i2) (by kernel_rfl) (by kernel_rfl) (by kernel_rfl) (by have h0 := hR0.small; omega) ?_
    refine gb0 [1] [(31, vI ((i2 + 1 : Nat) : Int))] ?_
    have hS43 := hS34.bring 3 rfl
    have hS44 := hS43.bring 3 rfl
    have hS45 := hS44.bring 3 rfl
    have hS46 := hS45.takeN 3
    obtain rfl := si h
    exact ge_nil fun a hF => hQ _ _ _ (Outs.again ⟨hS46, hF.weaken ea⟩)
 ·rw [if_neg hc4] at h
  refine wk 32 (decide ((i2 : Int) < (l0.length : Int))) false (decide_eq_false hc4) ?_
  refine we_false (by kernel_rfl) ?_
  have hS47 := hS.bring 2 rfl
  have hS48 := hS47.bring 2 rfl
  have hS49 := hS48.takeN 2
  obtain rfl := si h
  exact we_exit fun a hF => hQ _ _ _ (Outs.out nofun (Exits.here ⟨hS49, hF.weaken ea⟩))
abbrev punctualref_Ranked.A0 (w0 : World) (l0 : List STask) (A0 : Option Addr) (c0 : Nat) (b1 : Nat) (Z1 : Option Addr) (cz1 : Nat) : (Nat × (List STask)) → Act → World → Prop := fun (s : Nat × (List STask)) a w => St w0 w [Own.blk b1 (.cells #[vI 0, vI 0] 26 (0, 0)), Own.of (.slice Z1 s.2.length cz1) 46 s.2] ∧ Frm 68 a [(0, .slice A0 l0.length c0), (1, .func (.func 52) #[] #[]), (5, pP b1 0), (7, (.slice Z1 s.2.length cz1)), (22, .slice A0 l0.length c0), (23, vI (l0.length : Int)), (24, vI (s.1 : Int))]
abbrev punctualref_Ranked.B0 (w0 : World) (b1 : Nat) (Z1 : Option Addr) (cz1 : Nat) : ((List STask) ⊕ ((List STask) × SFault)) → Exit → Act → World → Prop := Exits 0 (fun (s : (List STask)) a w => St w0 w [Own.blk b1 (.cells #[vI 0, vI 0] 26 (0, 0)), Own.of (.slice Z1 s.length cz1) 46 s] ∧ Frm 68 a [(5, pP b1 0), (7, (.slice Z1 s.length cz1))]) (Rets Tryd.prog Tryd.f51 (punctualref_Ranked.Post w0))
theorem punctualref_Ranked_r0 (K : Nat) (w0 : World) (l0 : List STask) (A0 : Option Addr) (c0 : Nat) (hR0 : RdL w0 A0 l0) (hL0 : l0.length ≤ c0) (b1 : Nat) (r1 : SFault) (b2 : Nat) (hc1 : r1.Code = 0) (b3 : Nat) (hc2 : 0 + l0.length ≤ 2199023255552) (Z1 : Option Addr) (cz1 : Nat) (s : Nat × (List STask)) (o : (Nat × (List STask)) ⊕ ((List STask) ⊕ ((List STask) × SFault))) (h : punctualref_Ranked.r0 K l0 r1 s = some o) (a : Act) (w : World) (hA : punctualref_Ranked.A0 w0 l0 A0 c0 b1 Z1 cz1 s a w) (Q : Exit → Act → World → Prop) (hQ : ∀ x a w, Outs (punctualref_Ranked.A0 w0 l0 A0 c0 b1 Z1 cz1) (punctualref_Ranked.B0 w0 b1 Z1 cz1) o x a w → Q x a w) : (subF Tryd.f51 [1, 1, 1, 0, 1, 0, 0]).wp Tryd.prog Q a w := by
 obtain ⟨i1, m1⟩ := s
 obtain ⟨hS, hF⟩ := hA
 replace hS : St w0 w [Own.blk b1 (.cells #[vI 0, vI 0] 26 (0, 0)), Own.of (.slice Z1 m1.length cz1) 46 m1] := hS
 simp only [punctualref_Ranked.r0] at h
 refine (?_ : WE Tryd.prog 68 (subF Tryd.f51 [1, 1, 1, 0, 1, 0, 0]) Q [(0, .slice A0 l0.length c0), (1, .func (.func 52) #[] #[]), (5, pP b1 0), (7, (.slice Z1 m1.length cz1)), (22, .slice A0 l0.length c0), (23, vI (l0.length : Int)), (24, vI (i1 : Int))] w) a hF
 clear hF a
 refine ws fun K8 hK8 => ?_
 refine wr [(0, 0)] ?_
 refine gb0 [0] [(25, .bool (decide ((i1 : Int) < (l0.length : Int))))] ?_
 refine gn hK8 ?_
 refine ws fun K9 hK9 => ?_
 by_cases hc3 : (i1 : Int) < (l0.length : Int)
 ·rw [if_pos hc3] at h
  refine wk 25 (decide ((i1 : Int) < (l0.length : Int))) true (decide_eq_true hc3) ?_
  refine we_true (by kernel_rfl) ?_
  refine we_skip fun a hF => hK9 _ _ ?_ a hF
  refine ws fun K10 hK10 => ?_
  refine we_block ?_
  refine ws fun K11 hK11 => ?_
  refine wr [(0, 0), (1, 0), (2, 0), (3, 1), (4, 0), (5, 2)] ?_
  refine gb0 [0] [(26, vI (i1 : Int))] ?_
  rcases hx4 : l0[i1]? with _ | e1
  ·rw [hx4] at h; cases h
  rw [hx4] at h
  simp only [] at h
  refine gi 27 0 40 46 7 l0.length c0 (.tmp 22) (.tmp 24) A0 .i64 (i1 : Int) i1 ((hS.rd hR0).eqSome (pos_of_get hx4)) rfl (lt_of_get hx4) ?_
  refine gb [2] [(28, .agg #[.string e1.Name, vI e1.C, vI e1.T, vI e1.D, vI e1.J, vI e1.O, vI e1.P])] [.loaded ⟨blkOf A0, offOf A0 + i1 * 7, none⟩ (.string e1.Name), .loaded ⟨blkOf A0, offOf A0 + i1 * 7 + 1, none⟩ (vI e1.C), .loaded ⟨blkOf A0, offOf A0 + i1 * 7 + 2, none⟩ (vI e1.T), .loaded ⟨blkOf A0, offOf A0 + i1 * 7 + 3, none⟩ (vI e1.D), .loaded ⟨blkOf A0, offOf A0 + i1 * 7 + 4, none⟩ (vI e1.J), .loaded ⟨blkOf A0, offOf A0 + i1 * 7 + 5, none⟩ (vI e1.O), .loaded ⟨blkOf A0, offOf A0 + i1 * 7 + 6, none⟩ (vI e1.P)] ⟨RdL.cell (j := 0) (hS.rd hR0) hx4 rfl, RdL.cell (j := 1) (hS.rd hR0) hx4 rfl, RdL.cell (j := 2) (hS.rd hR0) hx4 rfl, RdL.cell (j := 3) (hS.rd hR0) hx4 rfl, RdL.cell (j := 4) (hS.rd hR0) hx4 rfl, RdL.cell (j := 5) (hS.rd hR0) hx4 rfl, RdL.cell (j := 6) (hS.rd hR0) hx4 rfl, trivial⟩ ?_
  refine gw (some 9) (.cells #[.string (⟨#[]⟩), vI 0, vI 0, vI 0, vI 0, vI 0, vI 0] 46) (fun b => pP b 0) hS fun b4 w7 hx5 hS13 => ?_
  refine gb0 [4] [(8, vI (i1 : Int))] ?_
  refine gs b4 0 #[.string (⟨#[]⟩), vI 0, vI 0, vI 0, vI 0, vI 0, vI 0] 46 [.string e1.Name, vI e1.C, vI e1.T, vI e1.D, vI e1.J, vI e1.O, vI e1.P] hS13 fun w8 hS14 => ?_
  have hS15 : St w0 w8 [Own.blk b4 (.cells #[.string e1.Name, vI e1.C, vI e1.T, vI e1.D, vI e1.J, vI e1.O, vI e1.P] 46 (0, 0)), Own.blk b1 (.cells #[vI 0, vI 0] 26 (0, 0)), Own.of (.slice Z1 m1.length cz1) 46 m1] := hS14
  refine gn hK11 ?_
  refine ws fun K12 hK12 => ?_
  refine wr [(0, 0)] ?_
  refine gb0 [0] [(10, vI 1)] ?_
  refine gn hK12 ?_
  refine ws fun K13 hK13 => ?_
  refine ws fun K14 hK14 => ?_
  refine wr [(0, 0), (1, 0), (2, 0)] ?_
  refine gb0 [0, 1, 2] [(31, vI 0), (30, vI (l0.length : Int)), (29, .slice A0 l0.length c0)] ?_
  refine gn hK14 ?_
  refine we_block ?_
  have hS16 := hS15.bring 2 rfl
  have hS17 := hS16.bring 2 rfl
  have hS18 := hS17.bring 2 rfl
  rcases hq6 : iter (punctualref_Ranked.r1 l0 i1 e1) K (1, 0) with _ | (z3 | rr1)
  ·rw [hq6] at h; cases h
  ·rw [hq6] at h
   simp only [] at h
   refine we_iter (A := punctualref_Ranked.A1 w0 l0 A0 c0 b1 Z1 cz1 i1 m1 e1 b4) (B := punctualref_Ranked.B1 w0 l0 A0 c0 b1 Z1 cz1 i1 m1) hq6 (fun a hF => ⟨hS18, hF.weaken ea⟩) (fun s o hf a w hA Q hQ => punctualref_Ranked_r1 K w0 l0 A0 c0 hR0 hL0 b1 r1 b2 hc1 b3 hc2 Z1 cz1 i1 m1 hc3 e1 hx4 b4 s o hf a w hA Q hQ) ?_
   rintro _ a w15 _ ⟨rfl, hS50, hF⟩
   replace hS50 : St w0 w15 [Own.blk b1 (.cells #[vI 0, vI 0] 26 (0, 0)), Own.of (.slice Z1 m1.length cz1) 46 m1] := hS50
   refine hK13 [(0, .slice A0 l0.length c0), (1, .func (.func 52) #[] #[]), (5, pP b1 0), (7, (.slice Z1 m1.length cz1)), (8, vI (i1 : Int)), (10, vI z3), (22, .slice A0 l0.length c0), (23, vI (l0.length : Int)), (24, vI (i1 : Int))] w15 ?_ a hF
   refine wr [(0, 0), (1, 0), (2, 0), (3, 0), (4, 0), (5, 2)] ?_
   refine gb0 [0, 1, 2] [(62, vI z3), (61, vI (i1 : Int)), (60, (.slice Z1 m1.length cz1))] ?_
   rcases hx8 : m1[i1]? with _ | e3
   ·rw [hx8] at h; cases h
   rw [hx8] at h
   simp only [] at h
   refine gi 63 0 40 46 7 m1.length cz1 (.tmp 60) (.tmp 61) Z1 .i64 (i1 : Int) i1 ((hS50.rdAt 1 rfl).eqSome (pos_of_get hx8)) rfl (lt_of_get hx8) ?_
   refine gb0 [4] [(64, .pointer (some ⟨blkOf Z1, offOf Z1 + i1 * 7 + 6, none⟩))] ?_
   have hS51 := hS50.bring 1 rfl
   refine ge_seti (α := STask) (A := Z1) (nn := m1.length) (c := cz1) (t := 46) (l := m1) (x := e3) (x' := (⟨e3.Name, e3.C, e3.T, e3.D, e3.J, e3.O, z3⟩ : STask)) (jn := i1) (j := 6) (vs := [vI z3]) (l' := [.stored ⟨blkOf Z1, offOf Z1 + i1 * 7 + 6, none⟩ (vI z3)]) hS51 (by kernel_rfl) (by kernel_rfl) hx8 rfl rfl rfl fun w16 hS52 => ?_
   have hS53 : St w0 w16 [Own.of (.slice Z1 m1.length cz1) 46 (m1.set i1 (⟨e3.Name, e3.C, e3.T, e3.D, e3.J, e3.O, z3⟩ : STask)), Own.blk b1 (.cells #[vI 0, vI 0] 26 (0, 0))] := hS52
   have hE1 : m1.length = (m1.set i1 (⟨e3.Name, e3.C, e3.T, e3.D, e3.J, e3.O, z3⟩ : STask)).length := hS53.lenAt 0 rfl
   have hS54 : St w0 w16 [Own.of (.slice Z1 (m1.set i1 (⟨e3.Name, e3.C, e3.T, e3.D, e3.J, e3.O, z3⟩ : STask)).length cz1) 46 (m1.set i1 (⟨e3.Name, e3.C, e3.T, e3.D, e3.J, e3.O, z3⟩ : STask)), Own.blk b1 (.cells #[vI 0, vI 0] 26 (0, 0))] := by rw [← hE1]; exact hS53
   refine ge_same (t := 7) (v := (.slice Z1 m1.length cz1)) (v' := (.slice Z1 (m1.set i1 (⟨e3.Name, e3.C, e3.T, e3.D, e3.J, e3.O, z3⟩ : STask)).length cz1)) (by kernel_rfl) (by rw [hE1]) ?_
   refine ge_same (t := 60) (v := (.slice Z1 m1.length cz1)) (v' := (.slice Z1 (m1.set i1 (⟨e3.Name, e3.C, e3.T, e3.D, e3.J, e3.O, z3⟩ : STask)).length cz1)) (by kernel_rfl) (by rw [hE1]) ?_
   refine gn hK10 ?_
   refine wr [(0, 0), (1, 0)] ?_
   refine ge_addn (d := 65) (ty := 3) (x := (.tmp 24)) (y := (.const (vI 1))) (t := 3) (t2 := 3) (k := .i64) (m := i1) (by kernel_rfl) (by kernel_rfl) (by kernel_rfl) (by have h0 := hR0.small; omega) ?_
   refine gb0 [1] [(24, vI ((i1 + 1 : Nat) : Int))] ?_
   have hS55 := hS54.bring 1 rfl
   obtain rfl := si h
   exact ge_nil fun a hF => hQ _ _ _ (Outs.again ⟨hS55, hF.weaken ea⟩)
  ·rw [hq6] at h
   simp only [] at h
   refine we_iter (A := punctualref_Ranked.A1 w0 l0 A0 c0 b1 Z1 cz1 i1 m1 e1 b4) (B := punctualref_Ranked.B1 w0 l0 A0 c0 b1 Z1 cz1 i1 m1) hq6 (fun a hF => ⟨hS18, hF.weaken ea⟩) (fun s o hf a w hA Q hQ => punctualref_Ranked_r1 K w0 l0 A0 c0 hR0 hL0 b1 r1 b2 hc1 b3 hc2 Z1 cz1 i1 m1 hc3 e1 hx4 b4 s o hf a w hA Q hQ) ?_
   rintro _ a w1 _ ⟨rfl, hb⟩
   obtain rfl := si h
   exact hQ _ _ _ (Outs.out nofun (Exits.on ⟨rfl, hb⟩))
 ·rw [if_neg hc3] at h
  refine wk 25 (decide ((i1 : Int) < (l0.length : Int))) false (decide_eq_false hc3) ?_
  refine we_false (by kernel_rfl) ?_
  have hS56 := hS.bring 1 rfl
  have hS57 := hS56.bring 1 rfl
  obtain rfl := si h
  exact we_exit fun a hF => hQ _ _ _ (Outs.out nofun (Exits.here ⟨hS57, hF.weaken ea⟩))
theorem punctualref_Ranked_ok (K : Nat) (l0 : List STask) (A0 : Option Addr) (c0 : Nat) (w0 : World) (hR0 : RdL w0 A0 l0) (hL0 : l0.length ≤ c0) (r : (List STask) × SFault) (h : punctualref_Ranked.f K l0 = some r) :
  Calls Tryd.prog 51 #[.slice A0 l0.length c0, .func (.func 52) #[] #[]] w0 (punctualref_Ranked.Post w0 r) := by
 have hS := St.start w0
 unfold punctualref_Ranked.f at h
 refine calls_enter (n := 68) (args := [.slice A0 l0.length c0, .func (.func 52) #[] #[]]) (fn := Tryd.f51) rfl rfl rfl rfl ?_
 show WE _ _ _ _ [(0, .slice A0 l0.length c0), (1, .func (.func 52) #[] #[])] _
 refine ws fun K1 hK1 => ?_
 refine wr [(0, 0), (1, 1)] ?_
 refine gb0 [0] [(4, .slice none 0 0)] ?_
 refine gw (some 5) (.cells #[vI 0, vI 0] 26) (fun b => pP b 0) hS fun b1 w1 hx1 hS1 => ?_
 refine gn hK1 ?_
 refine ws fun K2 hK2 => ?_
 refine ws fun K3 hK3 => ?_
 refine wr [(0, 0), (1, 1), (2, 1), (3, 2)] ?_
 rcases hq1 : punctualref_CheckSet.f K l0 with _ | r1
 ·rw [hq1] at h; cases h
 rw [hq1] at h
 simp only [] at h
 refine gb0 [0] [(13, .slice A0 l0.length c0)] ?_
 refine ge_call (d := some 14) (f := 23) (args := #[.slice A0 l0.length c0]) (by kernel_rfl) (punctualref_CheckSet_ok K l0 A0 c0 _ (hS1.rd hR0) hL0 _ hq1) ?_
 rintro _ w2 ⟨rfl, hS2⟩
 refine ⟨_, rfl, hS2.below, ?_⟩
 have hS3 := hS1.call hS2
 refine gw (some 6) (.cells #[vI 0, vI 0] 26) (fun b => pP b 0) hS3 fun b2 w3 hx2 hS4 => ?_
 refine gs b2 0 #[vI 0, vI 0] 26 [vI r1.Code, vI r1.At] hS4 fun w4 hS5 => ?_
 have hS6 : St w0 w4 [Own.blk b2 (.cells #[vI r1.Code, vI r1.At] 26 (0, 0)), Own.blk b1 (.cells #[vI 0, vI 0] 26 (0, 0))] := hS5
 refine gn hK3 ?_
 refine ws fun K4 hK4 => ?_
 refine wr [(0, 0), (1, 0), (2, 0)] ?_
 refine gb [0, 1, 2] [(17, .bool (r1.Code != 0)), (16, vI r1.Code), (15, pP b2 0)] [.loaded ⟨b2, 0, none⟩ (vI r1.Code)] ⟨hS6.c 0, trivial⟩ ?_
 refine gn hK4 ?_
 by_cases hc1 : r1.Code = 0
 ·rw [if_pos hc1] at h
  refine wk 17 (r1.Code != 0) false (bne_eq_false_iff_eq.2 hc1) ?_
  refine we_false (by kernel_rfl) ?_
  refine we_skip fun a hF => hK2 _ _ ?_ a hF
  refine ws fun K5 hK5 => ?_
  refine wr [(0, 1), (1, 0), (2, 2), (3, 0)] ?_
  refine gw (some 19) (.cells #[] 46) (fun b => .slice (some ⟨b, 0, none⟩) 0 0) hS6 fun b3 w5 hx3 hS7 => ?_
  refine gb0 [1] [(20, .slice A0 l0.length c0)] ?_
  have hS8 := hS7.asRow (α := STask) (c := 0) ([] : List STask) (Nat.le_refl _) (by decide) rfl rfl
  by_cases hc2 : 0 + l0.length ≤ 2199023255552
  ·rw [if_pos hc2] at h
   refine ge_appendL (α := STask) (m := 0) (d := 21) (t := 40) (el := 46) (bytes := 64) (c1 := c0) (A1 := A0) (x := (.tmp 19)) (y := (.tmp 20)) (ty := 40) (v := (.slice (some ⟨b3, 0, none⟩) 0 0)) (z := .agg #[.string (⟨#[]⟩), vI 0, vI 0, vI 0, vI 0, vI 0, vI 0]) (l := ([] : List STask)) (us := l0) (by kernel_rfl) (by kernel_rfl) (by kernel_rfl) (by kernel_rfl) (by kernel_rfl) rfl hS8 (hS8.rd hR0) rfl (Nat.mul_le_of_le_div _ _ _ hc2) fun v1 w6 hS9 => ?_
   have hS10 : St w0 w6 [Own.of v1 46 l0, Own.blk b2 (.cells #[vI r1.Code, vI r1.At] 26 (0, 0)), Own.blk b1 (.cells #[vI 0, vI 0] 26 (0, 0))] := hS9
   refine gb0 [3] [(7, v1)] ?_
   refine gn hK5 ?_
   refine ws fun K6 hK6 => ?_
   refine ws fun K7 hK7 => ?_
   refine wr [(0, 0), (1, 0), (2, 0)] ?_
   refine gb0 [0, 1, 2] [(24, vI 0), (23, vI (l0.length : Int)), (22, .slice A0 l0.length c0)] ?_
   refine gn hK7 ?_
   refine we_block ?_
   obtain ⟨Z1, cz1, rfl⟩ := hS10.open 0 rfl
   have hS11 := hS10.bring 2 rfl
   have hS12 := hS11.takeN 2
   rcases hq7 : iter (punctualref_Ranked.r0 K l0 r1) K (0, l0) with _ | (m3 | rr2)
   ·rw [hq7] at h; cases h
   ·rw [hq7] at h
    simp only [] at h
    refine we_iter (A := punctualref_Ranked.A0 w0 l0 A0 c0 b1 Z1 cz1) (B := punctualref_Ranked.B0 w0 b1 Z1 cz1) hq7 (fun a hF => ⟨hS12, hF.weaken ea⟩) (fun s o hf a w hA Q hQ => punctualref_Ranked_r0 K w0 l0 A0 c0 hR0 hL0 b1 r1 b2 hc1 b3 hc2 Z1 cz1 s o hf a w hA Q hQ) ?_
    rintro _ a w17 _ ⟨rfl, hS58, hF⟩
    replace hS58 : St w0 w17 [Own.blk b1 (.cells #[vI 0, vI 0] 26 (0, 0)), Own.of (.slice Z1 m3.length cz1) 46 m3] := hS58
    refine hK6 [(5, pP b1 0), (7, (.slice Z1 m3.length cz1))] w17 ?_ a hF
    refine ws fun K20 hK20 => ?_
    refine wr [(0, 0), (1, 0), (2, 0), (3, 2)] ?_
    refine gb0 [0, 1, 2] [(4, (.slice Z1 m3.length cz1)), (67, .agg #[vI 0, vI 0]), (66, (.slice Z1 m3.length cz1))] ?_
    refine gs b1 0 #[vI 0, vI 0] 26 [vI 0, vI 0] hS58 fun w18 hS59 => ?_
    have hS60 : St w0 w18 [Own.blk b1 (.cells #[vI 0, vI 0] 26 (0, 0)), Own.of (.slice Z1 m3.length cz1) 46 m3] := hS59
    refine gn hK20 ?_
    have hS61 := hS60.bring 1 rfl
    have hS62 := hS61.takeN 1
    obtain rfl := si h
    exact we_ret (pr [.tmp 4, .cell 5 26] [(.slice Z1 m3.length cz1), .agg #[vI 0, vI 0]] [.loaded ⟨b1, 0, none⟩ (vI 0), .loaded ⟨b1, 1, none⟩ (vI 0)] ⟨hS60.c 0, hS60.c 0, trivial⟩ ⟨(.slice Z1 m3.length cz1), rfl, hS62⟩)
   ·rw [hq7] at h
    simp only [] at h
    refine we_iter (A := punctualref_Ranked.A0 w0 l0 A0 c0 b1 Z1 cz1) (B := punctualref_Ranked.B0 w0 b1 Z1 cz1) hq7 (fun a hF => ⟨hS12, hF.weaken ea⟩) (fun s o hf a w hA Q hQ => punctualref_Ranked_r0 K w0 l0 A0 c0 hR0 hL0 b1 r1 b2 hc1 b3 hc2 Z1 cz1 s o hf a w hA Q hQ) ?_
    rintro _ a w1 _ ⟨rfl, hb⟩
    obtain rfl := si h
    exact hb
  ·rw [if_neg hc2] at h
   cases h
 ·rw [if_neg hc1] at h
  refine wk 17 (r1.Code != 0) true (bne_iff_ne.2 hc1) ?_
  refine we_true (by kernel_rfl) ?_
  refine ws fun K21 hK21 => ?_
  refine we_draws (by kernel_rfl) [(0, 0), (1, 0), (2, 2)] (by kernel_rfl) ?_
  have hS63 := hS6.drew
  refine gb [0, 1] [(4, .slice none 0 0), (18, .agg #[vI r1.Code, vI r1.At])] [.loaded ⟨b2, 0, none⟩ (vI r1.Code), .loaded ⟨b2, 1, none⟩ (vI r1.At)] ⟨hS63.c 0, hS63.c 0, trivial⟩ ?_
  have hS64 := hS63.bring 1 rfl
  refine gs b1 0 #[vI 0, vI 0] 26 [vI r1.Code, vI r1.At] hS64 fun w19 hS65 => ?_
  have hS66 : St w0 w19 [Own.blk b1 (.cells #[vI r1.Code, vI r1.At] 26 (0, 0)), Own.blk b2 (.cells #[vI r1.Code, vI r1.At] 26 (0, 0))] := hS65
  refine gn hK21 ?_
  have hS67 := hS66.nil (α := STask) 46
  have hS68 := hS67.takeN 1
  obtain rfl := si h
  exact we_ret (pr [.tmp 4, .cell 5 26] [(.slice none 0 0), .agg #[vI r1.Code, vI r1.At]] [.loaded ⟨b1, 0, none⟩ (vI r1.Code), .loaded ⟨b1, 1, none⟩ (vI r1.At)] ⟨hS67.c 1, hS67.c 1, trivial⟩ ⟨(.slice none 0 0), rfl, hS68⟩)

/-! punctual/punctualsame.Same[punctual/api.Task] -/
abbrev punctualsame_Same_api_Task.Post (w0 : World) (r : Bool) (e : Ending) (w : World) : Prop := e = .returned (.bool r) ∧ St w0 w []
def punctualsame_Same_api_Task.r0 (l0 : List STask) (l1 : List STask) : Nat → Option (Nat ⊕ (Unit ⊕ Bool))
 | i1 =>
  if (i1 : Int) < (l0.length : Int) then
   match l0[i1]? with
   | none => none
   | some e1 =>
    match l1[i1]? with
    | none => none
    | some e2 =>
     if (STask.eqb e1 e2) = true then
      some (.inl (i1 + 1))
     else
      some (.inr (.inr false))
  else
   some (.inr (.inl ()))
def punctualsame_Same_api_Task.f (K : Nat) (l0 : List STask) (l1 : List STask) : Option Bool :=
 if (l0.length : Int) = (l1.length : Int) then
  match iter (punctualsame_Same_api_Task.r0 l0 l1) K 0 with
  | none => none
  | some (.inl _) =>
   some true
  | some (.inr rr1) =>
   some rr1
 else
  some false
abbrev punctualsame_Same_api_Task.A0 (w0 : World) (l0 : List STask) (A0 : Option Addr) (c0 : Nat) (l1 : List STask) (A1 : Option Addr) (c1 : Nat) : Nat → Act → World → Prop := fun (s : Nat) a w => St w0 w [] ∧ Frm 26 a [(0, .slice A0 l0.length c0), (1, .slice A1 l1.length c1), (12, vI (l0.length : Int)), (13, vI (s : Int))]
abbrev punctualsame_Same_api_Task.B0 (w0 : World) : (Unit ⊕ Bool) → Exit → Act → World → Prop := Exits 0 (fun (s : Unit) a w => St w0 w [] ∧ Frm 26 a []) (Rets Tryd.prog Tryd.f53 (punctualsame_Same_api_Task.Post w0))
theorem punctualsame_Same_api_Task_r0 (K : Nat) (w0 : World) (l0 : List STask) (A0 : Option Addr) (c0 : Nat) (l1 : List STask) (A1 : Option Addr) (c1 : Nat) (hR0 : RdL w0 A0 l0) (hL0 : l0.length ≤ c0) (hR1 : RdL w0 A1 l1) (hL1 : l1.length ≤ c1) (hc1 : (l0.length : Int) = (l1.length : Int)) (s : Nat) (o : Nat ⊕ (Unit ⊕ Bool)) (h : punctualsame_Same_api_Task.r0 l0 l1 s = some o) (a : Act) (w : World) (hA : punctualsame_Same_api_Task.A0 w0 l0 A0 c0 l1 A1 c1 s a w) (Q : Exit → Act → World → Prop) (hQ : ∀ x a w, Outs (punctualsame_Same_api_Task.A0 w0 l0 A0 c0 l1 A1 c1) (punctualsame_Same_api_Task.B0 w0) o x a w → Q x a w) : (subF Tryd.f53 [1, 1, 0, 1, 0, 0]).wp Tryd.prog Q a w := by
 obtain ⟨i1, hs⟩ : ∃ z, z = s := ⟨s, rfl⟩
 subst hs
 obtain ⟨hS, hF⟩ := hA
 replace hS : St w0 w [] := hS
 simp only [punctualsame_Same_api_Task.r0] at h
 refine (?_ : WE Tryd.prog 26 (subF Tryd.f53 [1, 1, 0, 1, 0, 0]) Q [(0, .slice A0 l0.length c0), (1, .slice A1 l1.length c1), (12, vI (l0.length : Int)), (13, vI (i1 : Int))] w) a hF
 clear hF a
 refine ws fun K6 hK6 => ?_
 refine wr [(0, 0)] ?_
 refine gb0 [0] [(14, .bool (decide ((i1 : Int) < (l0.length : Int))))] ?_
 refine gn hK6 ?_
 refine ws fun K7 hK7 => ?_
 by_cases hc2 : (i1 : Int) < (l0.length : Int)
 ·rw [if_pos hc2] at h
  refine wk 14 (decide ((i1 : Int) < (l0.length : Int))) true (decide_eq_true hc2) ?_
  refine we_true (by kernel_rfl) ?_
  refine we_skip fun a hF => hK7 _ _ ?_ a hF
  refine ws fun K8 hK8 => ?_
  refine we_block ?_
  refine ws fun K9 hK9 => ?_
  refine wr [(0, 0), (1, 0)] ?_
  refine gb0 [0, 1] [(5, vI (i1 : Int)), (15, vI (i1 : Int))] ?_
  refine gn hK9 ?_
  refine ws fun K10 hK10 => ?_
  refine we_draws (by kernel_rfl) [(0, 0), (1, 0), (2, 0), (3, 0), (4, 0), (5, 0), (6, 0), (7, 0), (8, 0)] (by kernel_rfl) ?_
  have hS1 := hS.drew
  refine gb0 [0, 1] [(17, vI (i1 : Int)), (16, .slice A0 l0.length c0)] ?_
  rcases hx1 : l0[i1]? with _ | e1
  ·rw [hx1] at h; cases h
  rw [hx1] at h
  simp only [] at h
  refine gi 18 0 40 46 7 l0.length c0 (.tmp 16) (.tmp 17) A0 .i64 (i1 : Int) i1 ((hS1.rd hR0).eqSome (pos_of_get hx1)) rfl (lt_of_get hx1) ?_
  refine gb [3, 4, 5] [(21, vI (i1 : Int)), (20, .slice A1 l1.length c1), (19, .agg #[.string e1.Name, vI e1.C, vI e1.T, vI e1.D, vI e1.J, vI e1.O, vI e1.P])] [.loaded ⟨blkOf A0, offOf A0 + i1 * 7, none⟩ (.string e1.Name), .loaded ⟨blkOf A0, offOf A0 + i1 * 7 + 1, none⟩ (vI e1.C), .loaded ⟨blkOf A0, offOf A0 + i1 * 7 + 2, none⟩ (vI e1.T), .loaded ⟨blkOf A0, offOf A0 + i1 * 7 + 3, none⟩ (vI e1.D), .loaded ⟨blkOf A0, offOf A0 + i1 * 7 + 4, none⟩ (vI e1.J), .loaded ⟨blkOf A0, offOf A0 + i1 * 7 + 5, none⟩ (vI e1.O), .loaded ⟨blkOf A0, offOf A0 + i1 * 7 + 6, none⟩ (vI e1.P)] ⟨RdL.cell (j := 0) (hS1.rd hR0) hx1 rfl, RdL.cell (j := 1) (hS1.rd hR0) hx1 rfl, RdL.cell (j := 2) (hS1.rd hR0) hx1 rfl, RdL.cell (j := 3) (hS1.rd hR0) hx1 rfl, RdL.cell (j := 4) (hS1.rd hR0) hx1 rfl, RdL.cell (j := 5) (hS1.rd hR0) hx1 rfl, RdL.cell (j := 6) (hS1.rd hR0) hx1 rfl, trivial⟩ ?_
  rcases hx2 : l1[i1]? with _ | e2
  ·rw [hx2] at h; cases h
  rw [hx2] at h
  simp only [] at h
  refine gi 22 0 40 46 7 l1.length c1 (.tmp 20) (.tmp 21) A1 .i64 (i1 : Int) i1 ((hS1.rd hR1).eqSome (pos_of_get hx2)) rfl (lt_of_get hx2) ?_
  refine gb [7] [(23, .agg #[.string e2.Name, vI e2.C, vI e2.T, vI e2.D, vI e2.J, vI e2.O, vI e2.P])] [.loaded ⟨blkOf A1, offOf A1 + i1 * 7, none⟩ (.string e2.Name), .loaded ⟨blkOf A1, offOf A1 + i1 * 7 + 1, none⟩ (vI e2.C), .loaded ⟨blkOf A1, offOf A1 + i1 * 7 + 2, none⟩ (vI e2.T), .loaded ⟨blkOf A1, offOf A1 + i1 * 7 + 3, none⟩ (vI e2.D), .loaded ⟨blkOf A1, offOf A1 + i1 * 7 + 4, none⟩ (vI e2.J), .loaded ⟨blkOf A1, offOf A1 + i1 * 7 + 5, none⟩ (vI e2.O), .loaded ⟨blkOf A1, offOf A1 + i1 * 7 + 6, none⟩ (vI e2.P)] ⟨RdL.cell (j := 0) (hS1.rd hR1) hx2 rfl, RdL.cell (j := 1) (hS1.rd hR1) hx2 rfl, RdL.cell (j := 2) (hS1.rd hR1) hx2 rfl, RdL.cell (j := 3) (hS1.rd hR1) hx2 rfl, RdL.cell (j := 4) (hS1.rd hR1) hx2 rfl, RdL.cell (j := 5) (hS1.rd hR1) hx2 rfl, RdL.cell (j := 6) (hS1.rd hR1) hx2 rfl, trivial⟩ ?_
  refine ge_eqs (d := 24) (ty := 4) (op := .neq) (x := (.tmp 19)) (y := (.tmp 23)) (t := 46) (t2 := 46) (xs := #[.string e1.Name, vI e1.C, vI e1.T, vI e1.D, vI e1.J, vI e1.O, vI e1.P]) (ys := #[.string e2.Name, vI e2.C, vI e2.T, vI e2.D, vI e2.J, vI e2.O, vI e2.P]) (r := (STask.eqb e1 e2)) (v := !(STask.eqb e1 e2)) (by kernel_rfl) (by kernel_rfl) (by kernel_rfl) (by kernel_rfl) (by kernel_rfl) rfl ?_
  refine gn hK10 ?_
  by_cases hc3 : (STask.eqb e1 e2) = true
  ·rw [if_pos hc3] at h
   refine wk 24 (!(STask.eqb e1 e2)) false (congrArg (fun z => !z) hc3) ?_
   refine we_false (by kernel_rfl) ?_
   refine we_skip fun a hF => hK8 _ _ ?_ a hF
   refine wr [(0, 0), (1, 0)] ?_
   refine ge_addn (d := 25) (ty := 3) (x := (.tmp 13)) (y := (.const (vI 1))) (t := 3) (t2 := 3) (k := .i64) (m := i1) (by kernel_rfl) (by kernel_rfl) (by kernel_rfl) (by have h0 := hR0.small; omega) ?_
   refine gb0 [1] [(13, vI ((i1 + 1 : Nat) : Int))] ?_
   obtain rfl := si h
   exact ge_nil fun a hF => hQ _ _ _ (Outs.again ⟨hS1, hF.weaken ea⟩)
  ·rw [if_neg hc3] at h
   refine wk 24 (!(STask.eqb e1 e2)) true (congrArg (fun z => !z) (Bool.eq_false_iff.2 hc3)) ?_
   refine we_true (by kernel_rfl) ?_
   refine ws fun K11 hK11 => ?_
   refine wr [(0, 0)] ?_
   refine gb0 [0] [(4, .bool false)] ?_
   refine gn hK11 ?_
   obtain rfl := si h
   exact we_ret fun a hF => hQ _ _ _ (Outs.out nofun (Exits.on ⟨rfl, (pr0 [.tmp 4] [.bool false] ⟨rfl, hS1⟩) a hF⟩))
 ·rw [if_neg hc2] at h
  refine wk 14 (decide ((i1 : Int) < (l0.length : Int))) false (decide_eq_false hc2) ?_
  refine we_false (by kernel_rfl) ?_
  obtain rfl := si h
  exact we_exit fun a hF => hQ _ _ _ (Outs.out nofun (Exits.here ⟨hS, hF.weaken trivial⟩))
theorem punctualsame_Same_api_Task_ok (K : Nat) (l0 : List STask) (A0 : Option Addr) (c0 : Nat) (l1 : List STask) (A1 : Option Addr) (c1 : Nat) (w0 : World) (hR0 : RdL w0 A0 l0) (hL0 : l0.length ≤ c0) (hR1 : RdL w0 A1 l1) (hL1 : l1.length ≤ c1) (r : Bool) (h : punctualsame_Same_api_Task.f K l0 l1 = some r) :
  Calls Tryd.prog 53 #[.slice A0 l0.length c0, .slice A1 l1.length c1] w0 (punctualsame_Same_api_Task.Post w0 r) := by
 have hS := St.start w0
 unfold punctualsame_Same_api_Task.f at h
 refine calls_enter (n := 26) (args := [.slice A0 l0.length c0, .slice A1 l1.length c1]) (fn := Tryd.f53) rfl rfl rfl rfl ?_
 show WE _ _ _ _ [(0, .slice A0 l0.length c0), (1, .slice A1 l1.length c1)] _
 refine ws fun K1 hK1 => ?_
 refine wr [(0, 0)] ?_
 refine gb0 [0] [(4, .bool false)] ?_
 refine gn hK1 ?_
 refine ws fun K2 hK2 => ?_
 refine ws fun K3 hK3 => ?_
 refine wr [(0, 0), (1, 0), (2, 0), (3, 0), (4, 0)] ?_
 refine gb0 [0, 1, 2, 3, 4] [(10, .bool ((l0.length : Int) != (l1.length : Int))), (9, vI (l1.length : Int)), (8, .slice A1 l1.length c1), (7, vI (l0.length : Int)), (6, .slice A0 l0.length c0)] ?_
 refine gn hK3 ?_
 by_cases hc1 : (l0.length : Int) = (l1.length : Int)
 ·rw [if_pos hc1] at h
  refine wk 10 ((l0.length : Int) != (l1.length : Int)) false (bne_eq_false_iff_eq.2 hc1) ?_
  refine we_false (by kernel_rfl) ?_
  refine we_skip fun a hF => hK2 _ _ ?_ a hF
  refine ws fun K4 hK4 => ?_
  refine ws fun K5 hK5 => ?_
  refine wr [(0, 0), (1, 0), (2, 0)] ?_
  refine gb0 [0, 1, 2] [(13, vI 0), (12, vI (l0.length : Int)), (11, .slice A0 l0.length c0)] ?_
  refine gn hK5 ?_
  refine we_block ?_
  rcases hq1 : iter (punctualsame_Same_api_Task.r0 l0 l1) K 0 with _ | (_ | rr1)
  ·rw [hq1] at h; cases h
  ·rw [hq1] at h
   simp only [] at h
   refine we_iter (A := punctualsame_Same_api_Task.A0 w0 l0 A0 c0 l1 A1 c1) (B := punctualsame_Same_api_Task.B0 w0) hq1 (fun a hF => ⟨hS, hF.weaken ea⟩) (fun s o hf a w hA Q hQ => punctualsame_Same_api_Task_r0 K w0 l0 A0 c0 l1 A1 c1 hR0 hL0 hR1 hL1 hc1 s o hf a w hA Q hQ) ?_
   rintro _ a w1 _ ⟨rfl, hS2, hF⟩
   replace hS2 : St w0 w1 [] := hS2
   refine hK4 [] w1 ?_ a hF
   refine ws fun K12 hK12 => ?_
   refine wr [(0, 0)] ?_
   refine gb0 [0] [(4, .bool true)] ?_
   refine gn hK12 ?_
   obtain rfl := si h
   exact we_ret (pr0 [.tmp 4] [.bool true] ⟨rfl, hS2⟩)
  ·rw [hq1] at h
   simp only [] at h
   refine we_iter (A := punctualsame_Same_api_Task.A0 w0 l0 A0 c0 l1 A1 c1) (B := punctualsame_Same_api_Task.B0 w0) hq1 (fun a hF => ⟨hS, hF.weaken ea⟩) (fun s o hf a w hA Q hQ => punctualsame_Same_api_Task_r0 K w0 l0 A0 c0 l1 A1 c1 hR0 hL0 hR1 hL1 hc1 s o hf a w hA Q hQ) ?_
   rintro _ a w1 _ ⟨rfl, hb⟩
   obtain rfl := si h
   exact hb
 ·rw [if_neg hc1] at h
  refine wk 10 ((l0.length : Int) != (l1.length : Int)) true (bne_iff_ne.2 hc1) ?_
  refine we_true (by kernel_rfl) ?_
  refine ws fun K13 hK13 => ?_
  refine wr [(0, 0)] ?_
  refine gb0 [0] [(4, .bool false)] ?_
  refine gn hK13 ?_
  obtain rfl := si h
  exact we_ret (pr0 [.tmp 4] [.bool false] ⟨rfl, hS⟩)

/-! punctual/punctualsame.Spoil[punctual/api.Task] -/
theorem punctualsame_Spoil_api_Task_ok (w0 w : World) {L : List Own} (A : Option Addr) (n c : Nat) (l : List STask) (hS : St w0 w (Own.of (.slice A n c) 46 l :: L)) : Calls Tryd.prog 54 #[.slice A n c] w (fun e w' => e = .returned (.tuple #[]) ∧ St w0 w' L) := by
 refine calls_enter (n := 6) (args := [.slice A n c]) (fn := Tryd.f54) rfl rfl rfl rfl ?_
 show WE _ _ _ _ [(0, .slice A n c)] _
 refine wr [(0, 0), (1, 0), (2, 0), (3, 0), (4, 2)] ?_
 refine gb0 [0, 1, 2] [(4, vI (c : Int)), (3, .slice A n c), (2, .slice A n c)] ?_
 refine ge_sliceHi (d := 5) (ty := 40) (t := 40) (el := 46) (sz := 7) (m := n) (c := c) (hn := c) (x := (.tmp 2)) (y := (.tmp 4)) (A := A) (k' := .i64) (hi := (c : Int)) (by kernel_rfl) (by kernel_rfl) (by kernel_rfl) rfl (by kernel_rfl) (by kernel_rfl) (Nat.le_refl _) ?_
 refine ge_clear (α := STask) (m := 0) (t := 40) (el := 46) (c := c) (k := n) (bytes := 64) (x := (.tmp 5)) (ty := 0) (A := A) (z := .agg #[.string (⟨#[]⟩), vI 0, vI 0, vI 0, vI 0, vI 0, vI 0]) (l := l) (by kernel_rfl) (by kernel_rfl) (by kernel_rfl) (by kernel_rfl) rfl rfl hS fun w1 hS1 => ?_
 exact ge_nil (pe0 [] [] ⟨rfl, hS1⟩)

/-! punctual/fixed.Deadlines$1 -/
abbrev fixed_Deadlines_1.Post (w0 : World) (r : Int) (e : Ending) (w : World) : Prop := e = .returned (vI r) ∧ St w0 w []
def fixed_Deadlines_1.f (x0 : STask) : Int :=
 x0.D
theorem fixed_Deadlines_1_ok (x0 : STask) (w0 : World) (r : Int) (h : fixed_Deadlines_1.f x0 = r) :
  Calls Tryd.prog 83 #[.agg #[.string x0.Name, vI x0.C, vI x0.T, vI x0.D, vI x0.J, vI x0.O, vI x0.P]] w0 (fixed_Deadlines_1.Post w0 r) := by
 have hS := St.start w0
 unfold fixed_Deadlines_1.f at h
 refine calls_enter (n := 5) (args := [.agg #[.string x0.Name, vI x0.C, vI x0.T, vI x0.D, vI x0.J, vI x0.O, vI x0.P]]) (fn := Tryd.f83) rfl rfl rfl rfl ?_
 show WE _ _ _ _ [(0, .agg #[.string x0.Name, vI x0.C, vI x0.T, vI x0.D, vI x0.J, vI x0.O, vI x0.P])] _
 refine ws fun K1 hK1 => ?_
 refine wr [(0, 1), (1, 0)] ?_
 refine gw (some 1) (.cells #[.string x0.Name, vI x0.C, vI x0.T, vI x0.D, vI x0.J, vI x0.O, vI x0.P] 46) (fun b => pP b 0) hS fun b1 w1 hx1 hS1 => ?_
 refine gb0 [1] [(2, vI 0)] ?_
 refine gn hK1 ?_
 refine ws fun K2 hK2 => ?_
 refine wr [(0, 0), (1, 0), (2, 0)] ?_
 refine gb [0, 1, 2] [(2, vI x0.D), (4, vI x0.D), (3, pP b1 3)] [.loaded ⟨b1, 3, none⟩ (vI x0.D)] ⟨hS1.c 0, trivial⟩ ?_
 refine gn hK2 ?_
 have hS2 := hS1.takeN 0
 subst h
 exact we_ret (pr0 [.tmp 2] [vI x0.D] ⟨rfl, hS2⟩)

/-! punctual/fixed.ranked$1 -/
abbrev fixed_ranked_1_1.Post (w0 : World) (r : Int) (e : Ending) (w : World) : Prop := e = .returned (vI r) ∧ St w0 w []
def fixed_ranked_1_1.f (x0 : Int) (x1 : Int) (lf_1 : List STask) : Option Int :=
 if 0 ≤ x0 then
  match lf_1[(x0).toNat]? with
  | none => none
  | some e1 =>
   if 0 ≤ x1 then
    match lf_1[(x1).toNat]? with
    | none => none
    | some e2 =>
     some (cmp_Compare_int.f (fixed_Deadlines_1.f e1) (fixed_Deadlines_1.f e2))
   else
    none
 else
  none
theorem fixed_ranked_1_1_ok (x0 : Int) (x1 : Int) (bf_0 : Nat) (bf_1 : Nat) (lf_1 : List STask) (Af_1 : Option Addr) (cf_1 : Nat) (w0 : World) (hBf_0 : Glob w0 bf_0 [.func (.func 83) #[] #[]]) (hRf_1 : RdL w0 Af_1 lf_1) (hLf_1 : lf_1.length ≤ cf_1) (hBf_1 : Glob w0 bf_1 [.slice Af_1 lf_1.length cf_1]) (r : Int) (h : fixed_ranked_1_1.f x0 x1 lf_1 = some r) :
  Calls Tryd.prog 101 #[vI x0, vI x1, pP bf_0 0, pP bf_1 0] w0 (fixed_ranked_1_1.Post w0 r) := by
 have hS := St.start w0
 unfold fixed_ranked_1_1.f at h
 refine calls_enter (n := 20) (args := [vI x0, vI x1, pP bf_0 0, pP bf_1 0]) (fn := Tryd.f101) rfl rfl rfl rfl ?_
 show WE _ _ _ _ [(0, vI x0), (1, vI x1), (2, pP bf_0 0), (3, pP bf_1 0)] _
 refine ws fun K1 hK1 => ?_
 refine wr [(0, 0)] ?_
 refine gb0 [0] [(6, vI 0)] ?_
 refine gn hK1 ?_
 refine ws fun K2 hK2 => ?_
 refine we_draws (by kernel_rfl) [(0, 0), (1, 0), (2, 0), (3, 0), (4, 0), (6, 0), (7, 0), (8, 0), (9, 0), (10, 0), (5, 1), (11, 1), (12, 1), (13, 0)] (by kernel_rfl) ?_
 have hS1 := hS.drew
 refine gb [0, 1, 2] [(9, vI x0), (8, .slice Af_1 lf_1.length cf_1), (7, .func (.func 83) #[] #[])] [.loaded ⟨bf_0, 0, none⟩ (.func (.func 83) #[] #[]), .loaded ⟨bf_1, 0, none⟩ (.slice Af_1 lf_1.length cf_1)] ⟨hS1.glob hBf_0 rfl, hS1.glob hBf_1 rfl, trivial⟩ ?_
 by_cases hc1 : 0 ≤ x0
 ·rw [if_pos hc1] at h
  rcases hx1 : lf_1[(x0).toNat]? with _ | e1
  ·rw [hx1] at h; cases h
  rw [hx1] at h
  simp only [] at h
  refine gi 10 0 40 46 7 lf_1.length cf_1 (.tmp 8) (.tmp 9) Af_1 .i64 x0 ((x0).toNat) ((hS1.rd hRf_1).eqSome (pos_of_get hx1)) (Int.toNat_of_nonneg hc1).symm (lt_of_get hx1) ?_
  refine gb [4, 6, 7, 8] [(15, vI x1), (14, .slice Af_1 lf_1.length cf_1), (13, .func (.func 83) #[] #[]), (11, .agg #[.string e1.Name, vI e1.C, vI e1.T, vI e1.D, vI e1.J, vI e1.O, vI e1.P])] [.loaded ⟨blkOf Af_1, offOf Af_1 + ((x0).toNat) * 7, none⟩ (.string e1.Name), .loaded ⟨blkOf Af_1, offOf Af_1 + ((x0).toNat) * 7 + 1, none⟩ (vI e1.C), .loaded ⟨blkOf Af_1, offOf Af_1 + ((x0).toNat) * 7 + 2, none⟩ (vI e1.T), .loaded ⟨blkOf Af_1, offOf Af_1 + ((x0).toNat) * 7 + 3, none⟩ (vI e1.D), .loaded ⟨blkOf Af_1, offOf Af_1 + ((x0).toNat) * 7 + 4, none⟩ (vI e1.J), .loaded ⟨blkOf Af_1, offOf Af_1 + ((x0).toNat) * 7 + 5, none⟩ (vI e1.O), .loaded ⟨blkOf Af_1, offOf Af_1 + ((x0).toNat) * 7 + 6, none⟩ (vI e1.P), .loaded ⟨bf_0, 0, none⟩ (.func (.func 83) #[] #[]), .loaded ⟨bf_1, 0, none⟩ (.slice Af_1 lf_1.length cf_1)] ⟨RdL.cell (j := 0) (hS1.rd hRf_1) hx1 rfl, RdL.cell (j := 1) (hS1.rd hRf_1) hx1 rfl, RdL.cell (j := 2) (hS1.rd hRf_1) hx1 rfl, RdL.cell (j := 3) (hS1.rd hRf_1) hx1 rfl, RdL.cell (j := 4) (hS1.rd hRf_1) hx1 rfl, RdL.cell (j := 5) (hS1.rd hRf_1) hx1 rfl, RdL.cell (j := 6) (hS1.rd hRf_1) hx1 rfl, hS1.glob hBf_0 rfl, hS1.glob hBf_1 rfl, trivial⟩ ?_
  by_cases hc2 : 0 ≤ x1
  ·rw [if_pos hc2] at h
   rcases hx2 : lf_1[(x1).toNat]? with _ | e2
   ·rw [hx2] at h; cases h
   rw [hx2] at h
   simp only [] at h
   refine gi 16 0 40 46 7 lf_1.length cf_1 (.tmp 14) (.tmp 15) Af_1 .i64 x1 ((x1).toNat) ((hS1.rd hRf_1).eqSome (pos_of_get hx2)) (Int.toNat_of_nonneg hc2).symm (lt_of_get hx2) ?_
   refine gb [10] [(17, .agg #[.string e2.Name, vI e2.C, vI e2.T, vI e2.D, vI e2.J, vI e2.O, vI e2.P])] [.loaded ⟨blkOf Af_1, offOf Af_1 + ((x1).toNat) * 7, none⟩ (.string e2.Name), .loaded ⟨blkOf Af_1, offOf Af_1 + ((x1).toNat) * 7 + 1, none⟩ (vI e2.C), .loaded ⟨blkOf Af_1, offOf Af_1 + ((x1).toNat) * 7 + 2, none⟩ (vI e2.T), .loaded ⟨blkOf Af_1, offOf Af_1 + ((x1).toNat) * 7 + 3, none⟩ (vI e2.D), .loaded ⟨blkOf Af_1, offOf Af_1 + ((x1).toNat) * 7 + 4, none⟩ (vI e2.J), .loaded ⟨blkOf Af_1, offOf Af_1 + ((x1).toNat) * 7 + 5, none⟩ (vI e2.O), .loaded ⟨blkOf Af_1, offOf Af_1 + ((x1).toNat) * 7 + 6, none⟩ (vI e2.P)] ⟨RdL.cell (j := 0) (hS1.rd hRf_1) hx2 rfl, RdL.cell (j := 1) (hS1.rd hRf_1) hx2 rfl, RdL.cell (j := 2) (hS1.rd hRf_1) hx2 rfl, RdL.cell (j := 3) (hS1.rd hRf_1) hx2 rfl, RdL.cell (j := 4) (hS1.rd hRf_1) hx2 rfl, RdL.cell (j := 5) (hS1.rd hRf_1) hx2 rfl, RdL.cell (j := 6) (hS1.rd hRf_1) hx2 rfl, trivial⟩ ?_
   refine ge_call (d := some 12) (f := 83) (args := #[.agg #[.string e1.Name, vI e1.C, vI e1.T, vI e1.D, vI e1.J, vI e1.O, vI e1.P]]) (by kernel_rfl) (fixed_Deadlines_1_ok e1 _ _ rfl) ?_
   rintro _ w1 ⟨rfl, hS2⟩
   refine ⟨_, rfl, hS2.below, ?_⟩
   have hS3 := hS1.call hS2
   refine ge_call (d := some 18) (f := 83) (args := #[.agg #[.string e2.Name, vI e2.C, vI e2.T, vI e2.D, vI e2.J, vI e2.O, vI e2.P]]) (by kernel_rfl) (fixed_Deadlines_1_ok e2 _ _ rfl) ?_
   rintro _ w2 ⟨rfl, hS4⟩
   refine ⟨_, rfl, hS4.below, ?_⟩
   have hS5 := hS3.call hS4
   refine ge_call (d := some 19) (f := 80) (args := #[vI (fixed_Deadlines_1.f e1), vI (fixed_Deadlines_1.f e2)]) (by kernel_rfl) (cmp_Compare_int_ok (fixed_Deadlines_1.f e1) (fixed_Deadlines_1.f e2) _ _ rfl) ?_
   rintro _ w3 ⟨rfl, hS6⟩
   refine ⟨_, rfl, hS6.below, ?_⟩
   have hS7 := hS5.call hS6
   refine gb0 [13] [(6, vI (cmp_Compare_int.f (fixed_Deadlines_1.f e1) (fixed_Deadlines_1.f e2)))] ?_
   refine gn hK2 ?_
   obtain rfl := si h
   exact we_ret (pr0 [.tmp 6] [vI (cmp_Compare_int.f (fixed_Deadlines_1.f e1) (fixed_Deadlines_1.f e2))] ⟨rfl, hS7⟩)
  ·rw [if_neg hc2] at h
   cases h
 ·rw [if_neg hc1] at h
  cases h

/-! slices.insertionSortCmpFunc[int] -/
abbrev slices_insertionSortCmpFunc_int_1.Post (w0 : World) (l0 : List Int) (A0 : Option Addr) (c0 : Nat) (x1 : Int) (x2 : Int) (bg3_0 : Nat) (bg3_1 : Nat) (lg3_1 : List STask) (Ag3_1 : Option Addr) (cg3_1 : Nat) (LT : List Own) (r : List Int) (e : Ending) (w : World) : Prop := e = .returned (.tuple #[]) ∧ l0.length = r.length ∧ St w0 w [Own.of (.slice A0 r.length c0) 3 r, Own.blk bg3_0 (.cells #[.func (.func 83) #[] #[]] 80 (0, 0)), Own.blk bg3_1 (.cells #[.slice Ag3_1 lg3_1.length cg3_1] 40 (0, 0)), Own.all LT]
def slices_insertionSortCmpFunc_int_1.r1 (x1 : Int) (lg3_1 : List STask) : Int × (List Int) → Option ((Int × (List Int)) ⊕ ((List Int) ⊕ (List Int)))
 | (z2, m3) =>
  if z2 > x1 then
   if 0 ≤ z2 then
    match m3[(z2).toNat]? with
    | none => none
    | some e1 =>
     if 0 ≤ (IntKind.i64.wrap (z2 - 1)) then
      match m3[(IntKind.i64.wrap (z2 - 1)).toNat]? with
      | none => none
      | some e2 =>
       match fixed_ranked_1_1.f e1 e2 lg3_1 with
       | none => none
       | some r1 =>
        if r1 < 0 then
         match (m3.set ((z2).toNat) e2)[(IntKind.i64.wrap (z2 - 1)).toNat]? with
         | none => none
         | some e3 =>
          some (.inl (IntKind.i64.wrap (z2 - 1), ((m3.set ((z2).toNat) e2).set ((IntKind.i64.wrap (z2 - 1)).toNat) e1)))
        else
         some (.inr (.inl m3))
     else
      none
   else
    none
  else
   some (.inr (.inl m3))
def slices_insertionSortCmpFunc_int_1.r0 (K : Nat) (x1 : Int) (x2 : Int) (lg3_1 : List STask) : Int × (List Int) → Option ((Int × (List Int)) ⊕ ((List Int) ⊕ (List Int)))
 | (z1, m1) =>
  if z1 < x2 then
   match iter (slices_insertionSortCmpFunc_int_1.r1 x1 lg3_1) K (z1, m1) with
   | none => none
   | some (.inl m5) =>
    some (.inl (IntKind.i64.wrap (z1 + 1), m5))
   | some (.inr rr1) =>
    some (.inr (.inr rr1))
  else
   some (.inr (.inl m1))
def slices_insertionSortCmpFunc_int_1.f (K : Nat) (l0 : List Int) (x1 : Int) (x2 : Int) (lg3_1 : List STask) : Option (List Int) :=
 match iter (slices_insertionSortCmpFunc_int_1.r0 K x1 x2 lg3_1) K (IntKind.i64.wrap (x1 + 1), l0) with
 | none => none
 | some (.inl m6) =>
  some m6
 | some (.inr rr2) =>
  some rr2
abbrev slices_insertionSortCmpFunc_int_1.A1 (w0 : World) (l0 : List Int) (A0 : Option Addr) (c0 : Nat) (x1 : Int) (x2 : Int) (bg3_0 : Nat) (bg3_1 : Nat) (lg3_1 : List STask) (Ag3_1 : Option Addr) (cg3_1 : Nat) (LT : List Own) (z1 : Int) : (Int × (List Int)) → Act → World → Prop := fun (s : Int × (List Int)) a w => l0.length = s.2.length ∧ St w0 w [Own.blk bg3_0 (.cells #[.func (.func 83) #[] #[]] 80 (0, 0)), Own.blk bg3_1 (.cells #[.slice Ag3_1 lg3_1.length cg3_1] 40 (0, 0)), Own.of (.slice A0 s.2.length c0) 3 s.2, Own.all LT] ∧ Frm 53 a [(0, (.slice A0 s.2.length c0)), (1, vI x1), (2, vI x2), (3, .func (.func 101) #[] #[pP bg3_0 0, pP bg3_1 0]), (8, vI z1), (9, vI s.1)]
abbrev slices_insertionSortCmpFunc_int_1.B1 (w0 : World) (l0 : List Int) (A0 : Option Addr) (c0 : Nat) (x1 : Int) (x2 : Int) (bg3_0 : Nat) (bg3_1 : Nat) (lg3_1 : List STask) (Ag3_1 : Option Addr) (cg3_1 : Nat) (LT : List Own) (z1 : Int) : ((List Int) ⊕ (List Int)) → Exit → Act → World → Prop := Exits 2 (fun (s : (List Int)) a w => l0.length = s.length ∧ St w0 w [Own.blk bg3_0 (.cells #[.func (.func 83) #[] #[]] 80 (0, 0)), Own.blk bg3_1 (.cells #[.slice Ag3_1 lg3_1.length cg3_1] 40 (0, 0)), Own.of (.slice A0 s.length c0) 3 s, Own.all LT] ∧ Frm 53 a [(0, (.slice A0 s.length c0)), (1, vI x1), (2, vI x2), (3, .func (.func 101) #[] #[pP bg3_0 0, pP bg3_1 0]), (8, vI z1)]) (Rets Tryd.prog Tryd.f108 (slices_insertionSortCmpFunc_int_1.Post w0 l0 A0 c0 x1 x2 bg3_0 bg3_1 lg3_1 Ag3_1 cg3_1 LT))
theorem slices_insertionSortCmpFunc_int_1_r1 (K : Nat) (w0 : World) (l0 : List Int) (A0 : Option Addr) (c0 : Nat) (x1 : Int) (x2 : Int) (bg3_0 : Nat) (bg3_1 : Nat) (lg3_1 : List STask) (Ag3_1 : Option Addr) (cg3_1 : Nat) (LT : List Own) (hRg3_1 : RdL w0 Ag3_1 lg3_1) (hLg3_1 : lg3_1.length ≤ cg3_1) (z1 : Int) (m1 : List Int) (hLio1 : l0.length = m1.length) (hc1 : z1 < x2) (s : Int × (List Int)) (o : (Int × (List Int)) ⊕ ((List Int) ⊕ (List Int))) (h : slices_insertionSortCmpFunc_int_1.r1 x1 lg3_1 s = some o) (a : Act) (w : World) (hA : slices_insertionSortCmpFunc_int_1.A1 w0 l0 A0 c0 x1 x2 bg3_0 bg3_1 lg3_1 Ag3_1 cg3_1 LT z1 s a w) (Q : Exit → Act → World → Prop) (hQ : ∀ x a w, Outs (slices_insertionSortCmpFunc_int_1.A1 w0 l0 A0 c0 x1 x2 bg3_0 bg3_1 lg3_1 Ag3_1 cg3_1 LT z1) (slices_insertionSortCmpFunc_int_1.B1 w0 l0 A0 c0 x1 x2 bg3_0 bg3_1 lg3_1 Ag3_1 cg3_1 LT z1) o x a w → Q x a w) : (subF Tryd.f108 [1, 0, 0, 1, 0, 0, 1, 0, 0]).wp Tryd.prog Q a w := by
 obtain ⟨z2, m3⟩ := s
 obtain ⟨hLio3, hS, hF⟩ := hA
 replace hS : St w0 w [Own.blk bg3_0 (.cells #[.func (.func 83) #[] #[]] 80 (0, 0)), Own.blk bg3_1 (.cells #[.slice Ag3_1 lg3_1.length cg3_1] 40 (0, 0)), Own.of (.slice A0 m3.length c0) 3 m3, Own.all LT] := hS
 simp only [slices_insertionSortCmpFunc_int_1.r1] at h
 refine (?_ : WE Tryd.prog 53 (subF Tryd.f108 [1, 0, 0, 1, 0, 0, 1, 0, 0]) Q [(0, (.slice A0 m3.length c0)), (1, vI x1), (2, vI x2), (3, .func (.func 101) #[] #[pP bg3_0 0, pP bg3_1 0]), (8, vI z1), (9, vI z2)] w) a hF
 clear hF a
 refine ws fun K6 hK6 => ?_
 refine ws fun K7 hK7 => ?_
 refine we_draws (by kernel_rfl) [(0, 0), (1, 0), (2, 0), (3, 0), (4, 0), (5, 0), (6, 0), (7, 0), (8, 0), (9, 0), (10, 0), (11, 0), (12, 0), (13, 0), (14, 1), (15, 0), (16, 0)] (by kernel_rfl) ?_
 have hS9 := hS.drew
 refine gb0 [0, 1, 2, 3] [(21, .bool (decide (z2 > x1))), (20, .bool (decide (z2 > x1))), (19, vI x1), (18, vI z2)] ?_
 by_cases hc2 : z2 > x1
 ·rw [if_pos hc2] at h
  refine gk 21 (decide (z2 > x1)) true (decide_eq_true hc2) ?_
  refine gb0 [4, 5, 6] [(24, vI z2), (23, (.slice A0 m3.length c0)), (22, .func (.func 101) #[] #[pP bg3_0 0, pP bg3_1 0])] ?_
  by_cases hc3 : 0 ≤ z2
  ·rw [if_pos hc3] at h
   rcases hx1 : m3[(z2).toNat]? with _ | e1
   ·rw [hx1] at h; cases h
   rw [hx1] at h
   simp only [] at h
   refine gi 25 0 23 3 1 m3.length c0 (.tmp 23) (.tmp 24) A0 .i64 z2 ((z2).toNat) ((hS9.rdAt 2 rfl).eqSome (pos_of_get hx1)) (Int.toNat_of_nonneg hc3).symm (lt_of_get hx1) ?_
   refine gb [8, 9, 10, 11] [(29, vI (IntKind.i64.wrap (z2 - 1))), (28, vI z2), (27, (.slice A0 m3.length c0)), (26, vI e1)] [.loaded ⟨blkOf A0, offOf A0 + ((z2).toNat) * 1, none⟩ (vI e1)] ⟨RdL.cell (j := 0) (hS9.rdAt 2 rfl) hx1 rfl, trivial⟩ ?_
   by_cases hc4 : 0 ≤ (IntKind.i64.wrap (z2 - 1))
   ·rw [if_pos hc4] at h
    rcases hx2 : m3[(IntKind.i64.wrap (z2 - 1)).toNat]? with _ | e2
    ·rw [hx2] at h; cases h
    rw [hx2] at h
    simp only [] at h
    refine gi 30 0 23 3 1 m3.length c0 (.tmp 27) (.tmp 29) A0 .i64 (IntKind.i64.wrap (z2 - 1)) ((IntKind.i64.wrap (z2 - 1)).toNat) ((hS9.rdAt 2 rfl).eqSome (pos_of_get hx2)) (Int.toNat_of_nonneg hc4).symm (lt_of_get hx2) ?_
    rcases hq1 : fixed_ranked_1_1.f e1 e2 lg3_1 with _ | r1
    ·rw [hq1] at h; cases h
    rw [hq1] at h
    simp only [] at h
    refine gb [13] [(31, vI e2)] [.loaded ⟨blkOf A0, offOf A0 + ((IntKind.i64.wrap (z2 - 1)).toNat) * 1, none⟩ (vI e2)] ⟨RdL.cell (j := 0) (hS9.rdAt 2 rfl) hx2 rfl, trivial⟩ ?_
    refine ge_call (d := some 32) (f := 101) (args := #[vI e1, vI e2, pP bg3_0 0, pP bg3_1 0]) (by kernel_rfl) (fixed_ranked_1_1_ok e1 e2 bg3_0 bg3_1 lg3_1 Ag3_1 cg3_1 _ (hS9.globOf 0 rfl) (hS9.rd hRg3_1) hLg3_1 (hS9.globOf 1 rfl) _ hq1) ?_
    rintro _ w1 ⟨rfl, hS10⟩
    refine ⟨_, rfl, hS10.below, ?_⟩
    have hS11 := hS9.call hS10
    refine gb0 [15, 16] [(34, .bool (decide (r1 < 0))), (33, .bool (decide (r1 < 0)))] ?_
    refine gn hK7 ?_
    by_cases hc5 : r1 < 0
    ·rw [if_pos hc5] at h
     refine wk 34 (decide (r1 < 0)) true (decide_eq_true hc5) ?_
     refine we_true (by kernel_rfl) ?_
     refine we_skip fun a hF => hK6 _ _ ?_ a hF
     refine ws fun K8 hK8 => ?_
     refine we_block ?_
     refine we_orders2 (by kernel_rfl) [(9, [⟨blkOf A0, offOf A0 + ((IntKind.i64.wrap (z2 - 1)).toNat) * 1, none⟩]), (13, [⟨blkOf A0, offOf A0 + ((z2).toNat) * 1, none⟩])] (.vals [0] (.vals [1] (.vals [2] (.vals [3] (.vals [4] (.vals [5] (.vals [6] (.vals [7] (.vals [8] (.vals [9] (.vals [10] (.vals [11] (.vals [12] (.vals [13] (.vals [14] (.alt 15 2 (.vals [16] (.alt 17 2 .fin .nomore)) .nomore)))))))))))))))) (by kernel_rfl) ?_
     have hS12 := hS11.drew
     refine go2_batch [0, 1, 2, 3, 4, 5, 6, 7] (ans := []) (vs := [(44, vI (IntKind.i64.wrap (z2 - 1))), (43, vI z2), (42, (.slice A0 m3.length c0)), (41, vI (IntKind.i64.wrap (z2 - 1))), (40, vI z2), (39, (.slice A0 m3.length c0)), (38, vI z2), (37, (.slice A0 m3.length c0))]) (l := []) (by kernel_rfl) trivial mem_nil ?_
     refine go2_index (d := 45) (ty := 0) (t := 23) (el := 3) (sz := 1) (m := m3.length) (c := c0) (x := (.tmp 42)) (y := (.tmp 44)) (A := A0) (k' := .i64) (j := (IntKind.i64.wrap (z2 - 1))) (jn := ((IntKind.i64.wrap (z2 - 1)).toNat)) (b0 := blkOf A0) (o0 := offOf A0) (by kernel_rfl) (by kernel_rfl) (by kernel_rfl) (by kernel_rfl) (by kernel_rfl) ((hS12.rdAt 2 rfl).eqSome (pos_of_get hx2)) (Int.toNat_of_nonneg hc4).symm (lt_of_get hx2) ?_
     refine go2_batch [9] (ans := [.val (vI e2)]) (vs := [(46, vI e2)]) (l := [.loaded ⟨blkOf A0, offOf A0 + ((IntKind.i64.wrap (z2 - 1)).toNat) * 1, none⟩ (vI e2)]) (by kernel_rfl) ⟨RdL.cell (j := 0) (hS12.rdAt 2 rfl) hx2 rfl, trivial⟩ (mem_one (by kernel_rfl)) ?_
     refine go2_batch [10, 11] (ans := []) (vs := [(48, vI z2), (47, (.slice A0 m3.length c0))]) (l := []) (by kernel_rfl) trivial mem_nil ?_
     refine go2_index (d := 49) (ty := 0) (t := 23) (el := 3) (sz := 1) (m := m3.length) (c := c0) (x := (.tmp 47)) (y := (.tmp 48)) (A := A0) (k' := .i64) (j := z2) (jn := ((z2).toNat)) (b0 := blkOf A0) (o0 := offOf A0) (by kernel_rfl) (by kernel_rfl) (by kernel_rfl) (by kernel_rfl) (by kernel_rfl) ((hS12.rdAt 2 rfl).eqSome (pos_of_get hx1)) (Int.toNat_of_nonneg hc3).symm (lt_of_get hx1) ?_
     refine go2_batch [13] (ans := [.val (vI e1)]) (vs := [(50, vI e1)]) (l := [.loaded ⟨blkOf A0, offOf A0 + ((z2).toNat) * 1, none⟩ (vI e1)]) (by kernel_rfl) ⟨RdL.cell (j := 0) (hS12.rdAt 2 rfl) hx1 rfl, trivial⟩ (mem_one (by kernel_rfl)) ?_
     refine go2_index (d := 51) (ty := 0) (t := 23) (el := 3) (sz := 1) (m := m3.length) (c := c0) (x := (.tmp 37)) (y := (.tmp 38)) (A := A0) (k' := .i64) (j := z2) (jn := ((z2).toNat)) (b0 := blkOf A0) (o0 := offOf A0) (by kernel_rfl) (by kernel_rfl) (by kernel_rfl) (by kernel_rfl) (by kernel_rfl) ((hS12.rdAt 2 rfl).eqSome (pos_of_get hx1)) (Int.toNat_of_nonneg hc3).symm (lt_of_get hx1) ?_
     refine go_alt2 (fun KK hKK => ?_) ?_
     ·have hS13 := hS12.bring 2 rfl
      refine ge_seti (α := Int) (A := A0) (nn := m3.length) (c := c0) (t := 3) (l := m3) (x := e1) (x' := e2) (jn := ((z2).toNat)) (j := 0) (vs := [vI e2]) (l' := [.stored ⟨blkOf A0, offOf A0 + ((z2).toNat) * 1, none⟩ (vI e2)]) hS13 (by kernel_rfl) (by kernel_rfl) hx1 rfl rfl rfl fun w2 hS14 => ?_
      have hS15 : St w0 w2 [Own.of (.slice A0 m3.length c0) 3 (m3.set ((z2).toNat) e2), Own.blk bg3_0 (.cells #[.func (.func 83) #[] #[]] 80 (0, 0)), Own.blk bg3_1 (.cells #[.slice Ag3_1 lg3_1.length cg3_1] 40 (0, 0)), Own.all LT] := hS14
      have hE1 : m3.length = (m3.set ((z2).toNat) e2).length := hS15.lenAt 0 rfl
      have hS16 : St w0 w2 [Own.of (.slice A0 (m3.set ((z2).toNat) e2).length c0) 3 (m3.set ((z2).toNat) e2), Own.blk bg3_0 (.cells #[.func (.func 83) #[] #[]] 80 (0, 0)), Own.blk bg3_1 (.cells #[.slice Ag3_1 lg3_1.length cg3_1] 40 (0, 0)), Own.all LT] := by rw [← hE1]; exact hS15
      refine ge_same (t := 0) (v := (.slice A0 m3.length c0)) (v' := (.slice A0 (m3.set ((z2).toNat) e2).length c0)) (by kernel_rfl) (by rw [hE1]) ?_
      refine ge_same (t := 23) (v := (.slice A0 m3.length c0)) (v' := (.slice A0 (m3.set ((z2).toNat) e2).length c0)) (by kernel_rfl) (by rw [hE1]) ?_
      refine ge_same (t := 27) (v := (.slice A0 m3.length c0)) (v' := (.slice A0 (m3.set ((z2).toNat) e2).length c0)) (by kernel_rfl) (by rw [hE1]) ?_
      refine ge_same (t := 37) (v := (.slice A0 m3.length c0)) (v' := (.slice A0 (m3.set ((z2).toNat) e2).length c0)) (by kernel_rfl) (by rw [hE1]) ?_
      refine ge_same (t := 39) (v := (.slice A0 m3.length c0)) (v' := (.slice A0 (m3.set ((z2).toNat) e2).length c0)) (by kernel_rfl) (by rw [hE1]) ?_
      refine ge_same (t := 42) (v := (.slice A0 m3.length c0)) (v' := (.slice A0 (m3.set ((z2).toNat) e2).length c0)) (by kernel_rfl) (by rw [hE1]) ?_
      refine ge_same (t := 47) (v := (.slice A0 m3.length c0)) (v' := (.slice A0 (m3.set ((z2).toNat) e2).length c0)) (by kernel_rfl) (by rw [hE1]) ?_
      refine ge_nil fun a hF => hKK _ _ (RS.of2 (l := []) (by kernel_rfl) trivial trivial) ?_ a hF
      rcases hx3 : (m3.set ((z2).toNat) e2)[(IntKind.i64.wrap (z2 - 1)).toNat]? with _ | e3
      ·rw [hx3] at h; cases h
      rw [hx3] at h
      simp only [] at h
      refine go2_index (d := 52) (ty := 0) (t := 23) (el := 3) (sz := 1) (m := (m3.set ((z2).toNat) e2).length) (c := c0) (x := (.tmp 39)) (y := (.tmp 41)) (A := A0) (k' := .i64) (j := (IntKind.i64.wrap (z2 - 1))) (jn := ((IntKind.i64.wrap (z2 - 1)).toNat)) (b0 := blkOf A0) (o0 := offOf A0) (by kernel_rfl) (by kernel_rfl) (by kernel_rfl) (by kernel_rfl) (by kernel_rfl) ((hS16.rdAt 0 rfl).eqSome (pos_of_get hx3)) (Int.toNat_of_nonneg hc4).symm (lt_of_get hx3) ?_
      refine go_alt2 (fun KK hKK => ?_) ?_
      ·refine ge_seti (α := Int) (A := A0) (nn := ((m3.set ((z2).toNat) e2).length)) (c := c0) (t := 3) (l := (m3.set ((z2).toNat) e2)) (x := e3) (x' := e1) (jn := ((IntKind.i64.wrap (z2 - 1)).toNat)) (j := 0) (vs := [vI e1]) (l' := [.stored ⟨blkOf A0, offOf A0 + ((IntKind.i64.wrap (z2 - 1)).toNat) * 1, none⟩ (vI e1)]) hS16 (by kernel_rfl) (by kernel_rfl) hx3 rfl rfl rfl fun w3 hS17 => ?_
       have hS18 : St w0 w3 [Own.of (.slice A0 (m3.set ((z2).toNat) e2).length c0) 3 ((m3.set ((z2).toNat) e2).set ((IntKind.i64.wrap (z2 - 1)).toNat) e1), Own.blk bg3_0 (.cells #[.func (.func 83) #[] #[]] 80 (0, 0)), Own.blk bg3_1 (.cells #[.slice Ag3_1 lg3_1.length cg3_1] 40 (0, 0)), Own.all LT] := hS17
       have hE2 : (m3.set ((z2).toNat) e2).length = ((m3.set ((z2).toNat) e2).set ((IntKind.i64.wrap (z2 - 1)).toNat) e1).length := hS18.lenAt 0 rfl
       have hS19 : St w0 w3 [Own.of (.slice A0 ((m3.set ((z2).toNat) e2).set ((IntKind.i64.wrap (z2 - 1)).toNat) e1).length c0) 3 ((m3.set ((z2).toNat) e2).set ((IntKind.i64.wrap (z2 - 1)).toNat) e1), Own.blk bg3_0 (.cells #[.func (.func 83) #[] #[]] 80 (0, 0)), Own.blk bg3_1 (.cells #[.slice Ag3_1 lg3_1.length cg3_1] 40 (0, 0)), Own.all LT] := by rw [← hE2]; exact hS18
       refine ge_same (t := 0) (v := (.slice A0 (m3.set ((z2).toNat) e2).length c0)) (v' := (.slice A0 ((m3.set ((z2).toNat) e2).set ((IntKind.i64.wrap (z2 - 1)).toNat) e1).length c0)) (by kernel_rfl) (by rw [hE2]) ?_
       refine ge_same (t := 23) (v := (.slice A0 (m3.set ((z2).toNat) e2).length c0)) (v' := (.slice A0 ((m3.set ((z2).toNat) e2).set ((IntKind.i64.wrap (z2 - 1)).toNat) e1).length c0)) (by kernel_rfl) (by rw [hE2]) ?_
       refine ge_same (t := 27) (v := (.slice A0 (m3.set ((z2).toNat) e2).length c0)) (v' := (.slice A0 ((m3.set ((z2).toNat) e2).set ((IntKind.i64.wrap (z2 - 1)).toNat) e1).length c0)) (by kernel_rfl) (by rw [hE2]) ?_
       refine ge_same (t := 37) (v := (.slice A0 (m3.set ((z2).toNat) e2).length c0)) (v' := (.slice A0 ((m3.set ((z2).toNat) e2).set ((IntKind.i64.wrap (z2 - 1)).toNat) e1).length c0)) (by kernel_rfl) (by rw [hE2]) ?_
       refine ge_same (t := 39) (v := (.slice A0 (m3.set ((z2).toNat) e2).length c0)) (v' := (.slice A0 ((m3.set ((z2).toNat) e2).set ((IntKind.i64.wrap (z2 - 1)).toNat) e1).length c0)) (by kernel_rfl) (by rw [hE2]) ?_
       refine ge_same (t := 42) (v := (.slice A0 (m3.set ((z2).toNat) e2).length c0)) (v' := (.slice A0 ((m3.set ((z2).toNat) e2).set ((IntKind.i64.wrap (z2 - 1)).toNat) e1).length c0)) (by kernel_rfl) (by rw [hE2]) ?_
       refine ge_same (t := 47) (v := (.slice A0 (m3.set ((z2).toNat) e2).length c0)) (v' := (.slice A0 ((m3.set ((z2).toNat) e2).set ((IntKind.i64.wrap (z2 - 1)).toNat) e1).length c0)) (by kernel_rfl) (by rw [hE2]) ?_
       refine ge_nil fun a hF => hKK _ _ (RS.of2 (l := []) (by kernel_rfl) trivial trivial) ?_ a hF
       refine go_fin2 fun a hF => hK8 _ _ ?_ a hF
       refine wr [(0, 0), (1, 0), (2, 0)] ?_
       refine gb0 [0, 1, 2] [(9, vI (IntKind.i64.wrap (z2 - 1))), (36, vI (IntKind.i64.wrap (z2 - 1))), (35, vI z2)] ?_
       have hS20 := hS19.bring 3 rfl
       have hS21 := hS20.bring 1 rfl
       have hS22 := hS21.bring 3 rfl
       have hS23 := hS22.bring 3 rfl
       obtain rfl := si h
       exact ge_nil fun a hF => hQ _ _ _ (Outs.again ⟨(Eq.trans hLio3 (by simp only [List.length_set])), hS23, hF.weaken ea⟩)
      exact go_nomore2
     exact go_nomore2
    ·rw [if_neg hc5] at h
     refine wk 34 (decide (r1 < 0)) false (decide_eq_false hc5) ?_
     refine we_false (by kernel_rfl) ?_
     have hS24 := hS11.bring 3 rfl
     have hS25 := hS24.bring 3 rfl
     have hS26 := hS25.bring 3 rfl
     have hS27 := hS26.bring 3 rfl
     obtain rfl := si h
     exact we_exit fun a hF => hQ _ _ _ (Outs.out nofun (Exits.here ⟨hLio3, hS27, hF.weaken ea⟩))
   ·rw [if_neg hc4] at h
    cases h
  ·rw [if_neg hc3] at h
   cases h
 ·rw [if_neg hc2] at h
  refine gk 21 (decide (z2 > x1)) false (decide_eq_false hc2) ?_
  refine gb0 [4, 5, 6, 7, 8, 9, 10, 11, 12, 13] [(31, undef), (30, undef), (29, undef), (28, undef), (27, undef), (26, undef), (25, undef), (24, undef), (23, undef), (22, undef)] ?_
  refine ge_off rfl rfl rfl (by kernel_rfl) ?_
  refine gb0 [15, 16] [(34, .bool false), (33, undef)] ?_
  refine gn hK7 ?_
  refine we_false (by kernel_rfl) ?_
  have hS28 := hS9.bring 3 rfl
  have hS29 := hS28.bring 3 rfl
  have hS30 := hS29.bring 3 rfl
  have hS31 := hS30.bring 3 rfl
  obtain rfl := si h
  exact we_exit fun a hF => hQ _ _ _ (Outs.out nofun (Exits.here ⟨hLio3, hS31, hF.weaken ea⟩))
abbrev slices_insertionSortCmpFunc_int_1.A0 (w0 : World) (l0 : List Int) (A0 : Option Addr) (c0 : Nat) (x1 : Int) (x2 : Int) (bg3_0 : Nat) (bg3_1 : Nat) (lg3_1 : List STask) (Ag3_1 : Option Addr) (cg3_1 : Nat) (LT : List Own) : (Int × (List Int)) → Act → World → Prop := fun (s : Int × (List Int)) a w => l0.length = s.2.length ∧ St w0 w [Own.blk bg3_0 (.cells #[.func (.func 83) #[] #[]] 80 (0, 0)), Own.blk bg3_1 (.cells #[.slice Ag3_1 lg3_1.length cg3_1] 40 (0, 0)), Own.of (.slice A0 s.2.length c0) 3 s.2, Own.all LT] ∧ Frm 53 a [(0, (.slice A0 s.2.length c0)), (1, vI x1), (2, vI x2), (3, .func (.func 101) #[] #[pP bg3_0 0, pP bg3_1 0]), (8, vI s.1)]
abbrev slices_insertionSortCmpFunc_int_1.B0 (w0 : World) (l0 : List Int) (A0 : Option Addr) (c0 : Nat) (x1 : Int) (x2 : Int) (bg3_0 : Nat) (bg3_1 : Nat) (lg3_1 : List STask) (Ag3_1 : Option Addr) (cg3_1 : Nat) (LT : List Own) : ((List Int) ⊕ (List Int)) → Exit → Act → World → Prop := Exits 0 (fun (s : (List Int)) a w => l0.length = s.length ∧ St w0 w [Own.blk bg3_0 (.cells #[.func (.func 83) #[] #[]] 80 (0, 0)), Own.blk bg3_1 (.cells #[.slice Ag3_1 lg3_1.length cg3_1] 40 (0, 0)), Own.of (.slice A0 s.length c0) 3 s, Own.all LT] ∧ Frm 53 a [(0, (.slice A0 s.length c0)), (3, .func (.func 101) #[] #[pP bg3_0 0, pP bg3_1 0])]) (Rets Tryd.prog Tryd.f108 (slices_insertionSortCmpFunc_int_1.Post w0 l0 A0 c0 x1 x2 bg3_0 bg3_1 lg3_1 Ag3_1 cg3_1 LT))
theorem slices_insertionSortCmpFunc_int_1_r0 (K : Nat) (w0 : World) (l0 : List Int) (A0 : Option Addr) (c0 : Nat) (x1 : Int) (x2 : Int) (bg3_0 : Nat) (bg3_1 : Nat) (lg3_1 : List STask) (Ag3_1 : Option Addr) (cg3_1 : Nat) (LT : List Own) (hRg3_1 : RdL w0 Ag3_1 lg3_1) (hLg3_1 : lg3_1.length ≤ cg3_1) (s : Int × (List Int)) (o : (Int × (List Int)) ⊕ ((List Int) ⊕ (List Int))) (h : slices_insertionSortCmpFunc_int_1.r0 K x1 x2 lg3_1 s = some o) (a : Act) (w : World) (hA : slices_insertionSortCmpFunc_int_1.A0 w0 l0 A0 c0 x1 x2 bg3_0 bg3_1 lg3_1 Ag3_1 cg3_1 LT s a w) (Q : Exit → Act → World → Prop) (hQ : ∀ x a w, Outs (slices_insertionSortCmpFunc_int_1.A0 w0 l0 A0 c0 x1 x2 bg3_0 bg3_1 lg3_1 Ag3_1 cg3_1 LT) (slices_insertionSortCmpFunc_int_1.B0 w0 l0 A0 c0 x1 x2 bg3_0 bg3_1 lg3_1 Ag3_1 cg3_1 LT) o x a w → Q x a w) : (subF Tryd.f108 [1, 0, 0]).wp Tryd.prog Q a w := by
 obtain ⟨z1, m1⟩ := s
 obtain ⟨hLio1, hS, hF⟩ := hA
 replace hS : St w0 w [Own.blk bg3_0 (.cells #[.func (.func 83) #[] #[]] 80 (0, 0)), Own.blk bg3_1 (.cells #[.slice Ag3_1 lg3_1.length cg3_1] 40 (0, 0)), Own.of (.slice A0 m1.length c0) 3 m1, Own.all LT] := hS
 simp only [slices_insertionSortCmpFunc_int_1.r0] at h
 refine (?_ : WE Tryd.prog 53 (subF Tryd.f108 [1, 0, 0]) Q [(0, (.slice A0 m1.length c0)), (1, vI x1), (2, vI x2), (3, .func (.func 101) #[] #[pP bg3_0 0, pP bg3_1 0]), (8, vI z1)] w) a hF
 clear hF a
 refine ws fun K2 hK2 => ?_
 refine ws fun K3 hK3 => ?_
 refine wr [(0, 0), (1, 0), (2, 0)] ?_
 refine gb0 [0, 1, 2] [(14, .bool (decide (z1 < x2))), (13, vI x2), (12, vI z1)] ?_
 refine gn hK3 ?_
 by_cases hc1 : z1 < x2
 ·rw [if_pos hc1] at h
  refine wk 14 (decide (z1 < x2)) true (decide_eq_true hc1) ?_
  refine we_true (by kernel_rfl) ?_
  refine we_skip fun a hF => hK2 _ _ ?_ a hF
  refine ws fun K4 hK4 => ?_
  refine we_block ?_
  refine ws fun K5 hK5 => ?_
  refine wr [(0, 0), (1, 0)] ?_
  refine gb0 [0, 1] [(9, vI z1), (17, vI z1)] ?_
  refine gn hK5 ?_
  refine we_block ?_
  have hS5 := hS.bring 3 rfl
  have hS6 := hS5.bring 3 rfl
  have hS7 := hS6.bring 3 rfl
  have hS8 := hS7.bring 3 rfl
  rcases hq2 : iter (slices_insertionSortCmpFunc_int_1.r1 x1 lg3_1) K (z1, m1) with _ | (m5 | rr1)
  ·rw [hq2] at h; cases h
  ·rw [hq2] at h
   simp only [] at h
   refine we_iter (A := slices_insertionSortCmpFunc_int_1.A1 w0 l0 A0 c0 x1 x2 bg3_0 bg3_1 lg3_1 Ag3_1 cg3_1 LT z1) (B := slices_insertionSortCmpFunc_int_1.B1 w0 l0 A0 c0 x1 x2 bg3_0 bg3_1 lg3_1 Ag3_1 cg3_1 LT z1) hq2 (fun a hF => ⟨hLio1, hS8, hF.weaken ea⟩) (fun s o hf a w hA Q hQ => slices_insertionSortCmpFunc_int_1_r1 K w0 l0 A0 c0 x1 x2 bg3_0 bg3_1 lg3_1 Ag3_1 cg3_1 LT hRg3_1 hLg3_1 z1 m1 hLio1 hc1 s o hf a w hA Q hQ) ?_
   rintro _ a w4 _ ⟨rfl, hRz1, hS32, hF⟩
   replace hS32 : St w0 w4 [Own.blk bg3_0 (.cells #[.func (.func 83) #[] #[]] 80 (0, 0)), Own.blk bg3_1 (.cells #[.slice Ag3_1 lg3_1.length cg3_1] 40 (0, 0)), Own.of (.slice A0 m5.length c0) 3 m5, Own.all LT] := hS32
   refine hK4 [(0, (.slice A0 m5.length c0)), (1, vI x1), (2, vI x2), (3, .func (.func 101) #[] #[pP bg3_0 0, pP bg3_1 0]), (8, vI z1)] w4 ?_ a hF
   refine wr [(0, 0), (1, 0), (2, 0)] ?_
   refine gb0 [0, 1, 2] [(8, vI (IntKind.i64.wrap (z1 + 1))), (16, vI (IntKind.i64.wrap (z1 + 1))), (15, vI z1)] ?_
   have hS33 := hS32.bring 3 rfl
   have hS34 := hS33.bring 3 rfl
   have hS35 := hS34.bring 3 rfl
   have hS36 := hS35.bring 3 rfl
   obtain rfl := si h
   exact ge_nil fun a hF => hQ _ _ _ (Outs.again ⟨hRz1, hS36, hF.weaken ea⟩)
  ·rw [hq2] at h
   simp only [] at h
   refine we_iter (A := slices_insertionSortCmpFunc_int_1.A1 w0 l0 A0 c0 x1 x2 bg3_0 bg3_1 lg3_1 Ag3_1 cg3_1 LT z1) (B := slices_insertionSortCmpFunc_int_1.B1 w0 l0 A0 c0 x1 x2 bg3_0 bg3_1 lg3_1 Ag3_1 cg3_1 LT z1) hq2 (fun a hF => ⟨hLio1, hS8, hF.weaken ea⟩) (fun s o hf a w hA Q hQ => slices_insertionSortCmpFunc_int_1_r1 K w0 l0 A0 c0 x1 x2 bg3_0 bg3_1 lg3_1 Ag3_1 cg3_1 LT hRg3_1 hLg3_1 z1 m1 hLio1 hc1 s o hf a w hA Q hQ) ?_
   rintro _ a w1 _ ⟨rfl, hb⟩
   obtain rfl := si h
   exact hQ _ _ _ (Outs.out nofun (Exits.on ⟨rfl, hb⟩))
 ·rw [if_neg hc1] at h
  refine wk 14 (decide (z1 < x2)) false (decide_eq_false hc1) ?_
  refine we_false (by kernel_rfl) ?_
  have hS37 := hS.bring 3 rfl
  have hS38 := hS37.bring 3 rfl
  have hS39 := hS38.bring 3 rfl
  have hS40 := hS39.bring 3 rfl
  obtain rfl := si h
  exact we_exit fun a hF => hQ _ _ _ (Outs.out nofun (Exits.here ⟨hLio1, hS40, hF.weaken ea⟩))
theorem slices_insertionSortCmpFunc_int_1_ok (K : Nat) (l0 : List Int) (A0 : Option Addr) (c0 : Nat) (x1 : Int) (x2 : Int) (bg3_0 : Nat) (bg3_1 : Nat) (lg3_1 : List STask) (Ag3_1 : Option Addr) (cg3_1 : Nat) (w0 wE : World) (LT : List Own) (hS : St w0 wE [Own.of (.slice A0 l0.length c0) 3 l0, Own.blk bg3_0 (.cells #[.func (.func 83) #[] #[]] 80 (0, 0)), Own.blk bg3_1 (.cells #[.slice Ag3_1 lg3_1.length cg3_1] 40 (0, 0)), Own.all LT]) (hRg3_1 : RdL w0 Ag3_1 lg3_1) (hLg3_1 : lg3_1.length ≤ cg3_1) (r : List Int) (h : slices_insertionSortCmpFunc_int_1.f K l0 x1 x2 lg3_1 = some r) :
  Calls Tryd.prog 108 #[(.slice A0 l0.length c0), vI x1, vI x2, .func (.func 101) #[] #[pP bg3_0 0, pP bg3_1 0]] wE (slices_insertionSortCmpFunc_int_1.Post w0 l0 A0 c0 x1 x2 bg3_0 bg3_1 lg3_1 Ag3_1 cg3_1 LT r) := by
 unfold slices_insertionSortCmpFunc_int_1.f at h
 refine calls_enter (n := 53) (args := [(.slice A0 l0.length c0), vI x1, vI x2, .func (.func 101) #[] #[pP bg3_0 0, pP bg3_1 0]]) (fn := Tryd.f108) rfl rfl rfl rfl ?_
 show WE _ _ _ _ [(0, (.slice A0 l0.length c0)), (1, vI x1), (2, vI x2), (3, .func (.func 101) #[] #[pP bg3_0 0, pP bg3_1 0])] _
 refine ws fun K1 hK1 => ?_
 refine wr [(0, 0), (1, 0), (2, 0)] ?_
 refine gb0 [0, 1, 2] [(8, vI (IntKind.i64.wrap (x1 + 1))), (11, vI (IntKind.i64.wrap (x1 + 1))), (10, vI x1)] ?_
 refine gn hK1 ?_
 refine we_block ?_
 have hS1 := hS.bring 3 rfl
 have hS2 := hS1.bring 1 rfl
 have hS3 := hS2.bring 3 rfl
 have hS4 := hS3.bring 3 rfl
 rcases hq3 : iter (slices_insertionSortCmpFunc_int_1.r0 K x1 x2 lg3_1) K (IntKind.i64.wrap (x1 + 1), l0) with _ | (m6 | rr2)
 ·rw [hq3] at h; cases h
 ·rw [hq3] at h
  simp only [] at h
  refine we_iter (A := slices_insertionSortCmpFunc_int_1.A0 w0 l0 A0 c0 x1 x2 bg3_0 bg3_1 lg3_1 Ag3_1 cg3_1 LT) (B := slices_insertionSortCmpFunc_int_1.B0 w0 l0 A0 c0 x1 x2 bg3_0 bg3_1 lg3_1 Ag3_1 cg3_1 LT) hq3 (fun a hF => ⟨rfl, hS4, hF.weaken ea⟩) (fun s o hf a w hA Q hQ => slices_insertionSortCmpFunc_int_1_r0 K w0 l0 A0 c0 x1 x2 bg3_0 bg3_1 lg3_1 Ag3_1 cg3_1 LT hRg3_1 hLg3_1 s o hf a w hA Q hQ) ?_
  rintro _ a w5 _ ⟨rfl, hRz2, hS41, hF⟩
  replace hS41 : St w0 w5 [Own.blk bg3_0 (.cells #[.func (.func 83) #[] #[]] 80 (0, 0)), Own.blk bg3_1 (.cells #[.slice Ag3_1 lg3_1.length cg3_1] 40 (0, 0)), Own.of (.slice A0 m6.length c0) 3 m6, Own.all LT] := hS41
  have hS42 := hS41.bring 3 rfl
  have hS43 := hS42.bring 2 rfl
  have hS44 := hS43.bring 2 rfl
  have hS45 := hS44.bring 3 rfl
  obtain rfl := si h
  exact (pe0 [] [] ⟨rfl, hRz2, hS45⟩) a hF
 ·rw [hq3] at h
  simp only [] at h
  refine we_iter (A := slices_insertionSortCmpFunc_int_1.A0 w0 l0 A0 c0 x1 x2 bg3_0 bg3_1 lg3_1 Ag3_1 cg3_1 LT) (B := slices_insertionSortCmpFunc_int_1.B0 w0 l0 A0 c0 x1 x2 bg3_0 bg3_1 lg3_1 Ag3_1 cg3_1 LT) hq3 (fun a hF => ⟨rfl, hS4, hF.weaken ea⟩) (fun s o hf a w hA Q hQ => slices_insertionSortCmpFunc_int_1_r0 K w0 l0 A0 c0 x1 x2 bg3_0 bg3_1 lg3_1 Ag3_1 cg3_1 LT hRg3_1 hLg3_1 s o hf a w hA Q hQ) ?_
  rintro _ a w1 _ ⟨rfl, hb⟩
  obtain rfl := si h
  exact hb

/-! slices.swapRangeCmpFunc[int] -/
abbrev slices_swapRangeCmpFunc_int_1.Post (w0 : World) (l0 : List Int) (A0 : Option Addr) (c0 : Nat) (x1 : Int) (x2 : Int) (x3 : Int) (bg4_0 : Nat) (bg4_1 : Nat) (lg4_1 : List STask) (Ag4_1 : Option Addr) (cg4_1 : Nat) (LT : List Own) (r : List Int) (e : Ending) (w : World) : Prop := e = .returned (.tuple #[]) ∧ l0.length = r.length ∧ St w0 w [Own.of (.slice A0 r.length c0) 3 r, Own.blk bg4_0 (.cells #[.func (.func 83) #[] #[]] 80 (0, 0)), Own.blk bg4_1 (.cells #[.slice Ag4_1 lg4_1.length cg4_1] 40 (0, 0)), Own.all LT]
def slices_swapRangeCmpFunc_int_1.r0 (x1 : Int) (x2 : Int) (x3 : Int) : Int × (List Int) → Option ((Int × (List Int)) ⊕ ((List Int) ⊕ (List Int)))
 | (z1, m1) =>
  if z1 < x3 then
   if 0 ≤ (IntKind.i64.wrap (x2 + z1)) then
    match m1[(IntKind.i64.wrap (x2 + z1)).toNat]? with
    | none => none
    | some e1 =>
     if 0 ≤ (IntKind.i64.wrap (x1 + z1)) then
      match m1[(IntKind.i64.wrap (x1 + z1)).toNat]? with
      | none => none
      | some e2 =>
       match (m1.set ((IntKind.i64.wrap (x1 + z1)).toNat) e1)[(IntKind.i64.wrap (x2 + z1)).toNat]? with
       | none => none
       | some e3 =>
        some (.inl (IntKind.i64.wrap (z1 + 1), ((m1.set ((IntKind.i64.wrap (x1 + z1)).toNat) e1).set ((IntKind.i64.wrap (x2 + z1)).toNat) e2)))
     else
      none
   else
    none
  else
   some (.inr (.inl m1))
def slices_swapRangeCmpFunc_int_1.f (K : Nat) (l0 : List Int) (x1 : Int) (x2 : Int) (x3 : Int) (lg4_1 : List STask) : Option (List Int) :=
 match iter (slices_swapRangeCmpFunc_int_1.r0 x1 x2 x3) K (0, l0) with
 | none => none
 | some (.inl m3) =>
  some m3
 | some (.inr rr1) =>
  some rr1
abbrev slices_swapRangeCmpFunc_int_1.A0 (w0 : World) (l0 : List Int) (A0 : Option Addr) (c0 : Nat) (x1 : Int) (x2 : Int) (x3 : Int) (bg4_0 : Nat) (bg4_1 : Nat) (lg4_1 : List STask) (Ag4_1 : Option Addr) (cg4_1 : Nat) (LT : List Own) : (Int × (List Int)) → Act → World → Prop := fun (s : Int × (List Int)) a w => l0.length = s.2.length ∧ St w0 w [Own.blk bg4_0 (.cells #[.func (.func 83) #[] #[]] 80 (0, 0)), Own.blk bg4_1 (.cells #[.slice Ag4_1 lg4_1.length cg4_1] 40 (0, 0)), Own.of (.slice A0 s.2.length c0) 3 s.2, Own.all LT] ∧ Frm 38 a [(0, (.slice A0 s.2.length c0)), (1, vI x1), (2, vI x2), (3, vI x3), (4, .func (.func 101) #[] #[pP bg4_0 0, pP bg4_1 0]), (10, vI s.1)]
abbrev slices_swapRangeCmpFunc_int_1.B0 (w0 : World) (l0 : List Int) (A0 : Option Addr) (c0 : Nat) (x1 : Int) (x2 : Int) (x3 : Int) (bg4_0 : Nat) (bg4_1 : Nat) (lg4_1 : List STask) (Ag4_1 : Option Addr) (cg4_1 : Nat) (LT : List Own) : ((List Int) ⊕ (List Int)) → Exit → Act → World → Prop := Exits 0 (fun (s : (List Int)) a w => l0.length = s.length ∧ St w0 w [Own.blk bg4_0 (.cells #[.func (.func 83) #[] #[]] 80 (0, 0)), Own.blk bg4_1 (.cells #[.slice Ag4_1 lg4_1.length cg4_1] 40 (0, 0)), Own.of (.slice A0 s.length c0) 3 s, Own.all LT] ∧ Frm 38 a [(0, (.slice A0 s.length c0)), (4, .func (.func 101) #[] #[pP bg4_0 0, pP bg4_1 0])]) (Rets Tryd.prog Tryd.f128 (slices_swapRangeCmpFunc_int_1.Post w0 l0 A0 c0 x1 x2 x3 bg4_0 bg4_1 lg4_1 Ag4_1 cg4_1 LT))
theorem slices_swapRangeCmpFunc_int_1_r0 (K : Nat) (w0 : World) (l0 : List Int) (A0 : Option Addr) (c0 : Nat) (x1 : Int) (x2 : Int) (x3 : Int) (bg4_0 : Nat) (bg4_1 : Nat) (lg4_1 : List STask) (Ag4_1 : Option Addr) (cg4_1 : Nat) (LT : List Own) (hRg4_1 : RdL w0 Ag4_1 lg4_1) (hLg4_1 : lg4_1.length ≤ cg4_1) (s : Int × (List Int)) (o : (Int × (List Int)) ⊕ ((List Int) ⊕ (List Int))) (h : slices_swapRangeCmpFunc_int_1.r0 x1 x2 x3 s = some o) (a : Act) (w : World) (hA : slices_swapRangeCmpFunc_int_1.A0 w0 l0 A0 c0 x1 x2 x3 bg4_0 bg4_1 lg4_1 Ag4_1 cg4_1 LT s a w) (Q : Exit → Act → World → Prop) (hQ : ∀ x a w, Outs (slices_swapRangeCmpFunc_int_1.A0 w0 l0 A0 c0 x1 x2 x3 bg4_0 bg4_1 lg4_1 Ag4_1 cg4_1 LT) (slices_swapRangeCmpFunc_int_1.B0 w0 l0 A0 c0 x1 x2 x3 bg4_0 bg4_1 lg4_1 Ag4_1 cg4_1 LT) o x a w → Q x a w) : (subF Tryd.f128 [1, 0, 0]).wp Tryd.prog Q a w := by
 obtain ⟨z1, m1⟩ := s
 obtain ⟨hLio1, hS, hF⟩ := hA
 replace hS : St w0 w [Own.blk bg4_0 (.cells #[.func (.func 83) #[] #[]] 80 (0, 0)), Own.blk bg4_1 (.cells #[.slice Ag4_1 lg4_1.length cg4_1] 40 (0, 0)), Own.of (.slice A0 m1.length c0) 3 m1, Own.all LT] := hS
 simp only [slices_swapRangeCmpFunc_int_1.r0] at h
 refine (?_ : WE Tryd.prog 38 (subF Tryd.f128 [1, 0, 0]) Q [(0, (.slice A0 m1.length c0)), (1, vI x1), (2, vI x2), (3, vI x3), (4, .func (.func 101) #[] #[pP bg4_0 0, pP bg4_1 0]), (10, vI z1)] w) a hF
 clear hF a
 refine ws fun K2 hK2 => ?_
 refine ws fun K3 hK3 => ?_
 refine wr [(0, 0), (1, 0), (2, 0)] ?_
 refine gb0 [0, 1, 2] [(13, .bool (decide (z1 < x3))), (12, vI x3), (11, vI z1)] ?_
 refine gn hK3 ?_
 by_cases hc1 : z1 < x3
 ·rw [if_pos hc1] at h
  refine wk 13 (decide (z1 < x3)) true (decide_eq_true hc1) ?_
  refine we_true (by kernel_rfl) ?_
  refine we_skip fun a hF => hK2 _ _ ?_ a hF
  refine ws fun K4 hK4 => ?_
  refine we_block ?_
  refine we_orders2 (by kernel_rfl) [(13, [⟨blkOf A0, offOf A0 + ((IntKind.i64.wrap (x2 + z1)).toNat) * 1, none⟩]), (19, [⟨blkOf A0, offOf A0 + ((IntKind.i64.wrap (x1 + z1)).toNat) * 1, none⟩])] (.vals [0] (.vals [1] (.vals [2] (.vals [3] (.vals [4] (.vals [5] (.vals [6] (.vals [7] (.vals [8] (.vals [9] (.vals [10] (.vals [11] (.vals [12] (.vals [13] (.vals [14] (.vals [15] (.vals [16] (.vals [17] (.vals [18] (.vals [19] (.vals [20] (.alt 21 2 (.vals [22] (.alt 23 2 .fin .nomore)) .nomore)))))))))))))))))))))) (by kernel_rfl) ?_
  have hS5 := hS.drew
  refine go2_batch [0, 1, 2, 3, 4, 5, 6, 7, 8, 9, 10, 11] (ans := []) (vs := [(27, vI (IntKind.i64.wrap (x2 + z1))), (26, vI z1), (25, vI x2), (24, (.slice A0 m1.length c0)), (23, vI (IntKind.i64.wrap (x2 + z1))), (22, vI z1), (21, vI x2), (20, (.slice A0 m1.length c0)), (19, vI (IntKind.i64.wrap (x1 + z1))), (18, vI z1), (17, vI x1), (16, (.slice A0 m1.length c0))]) (l := []) (by kernel_rfl) trivial mem_nil ?_
  by_cases hc2 : 0 ≤ (IntKind.i64.wrap (x2 + z1))
  ·rw [if_pos hc2] at h
   rcases hx1 : m1[(IntKind.i64.wrap (x2 + z1)).toNat]? with _ | e1
   ·rw [hx1] at h; cases h
   rw [hx1] at h
   simp only [] at h
   refine go2_index (d := 28) (ty := 0) (t := 23) (el := 3) (sz := 1) (m := m1.length) (c := c0) (x := (.tmp 24)) (y := (.tmp 27)) (A := A0) (k' := .i64) (j := (IntKind.i64.wrap (x2 + z1))) (jn := ((IntKind.i64.wrap (x2 + z1)).toNat)) (b0 := blkOf A0) (o0 := offOf A0) (by kernel_rfl) (by kernel_rfl) (by kernel_rfl) (by kernel_rfl) (by kernel_rfl) ((hS5.rdAt 2 rfl).eqSome (pos_of_get hx1)) (Int.toNat_of_nonneg hc2).symm (lt_of_get hx1) ?_
   refine go2_batch [13] (ans := [.val (vI e1)]) (vs := [(29, vI e1)]) (l := [.loaded ⟨blkOf A0, offOf A0 + ((IntKind.i64.wrap (x2 + z1)).toNat) * 1, none⟩ (vI e1)]) (by kernel_rfl) ⟨RdL.cell (j := 0) (hS5.rdAt 2 rfl) hx1 rfl, trivial⟩ (mem_one (by kernel_rfl)) ?_
   refine go2_batch [14, 15, 16, 17] (ans := []) (vs := [(33, vI (IntKind.i64.wrap (x1 + z1))), (32, vI z1), (31, vI x1), (30, (.slice A0 m1.length c0))]) (l := []) (by kernel_rfl) trivial mem_nil ?_
   by_cases hc3 : 0 ≤ (IntKind.i64.wrap (x1 + z1))
   ·rw [if_pos hc3] at h
    rcases hx2 : m1[(IntKind.i64.wrap (x1 + z1)).toNat]? with _ | e2
    ·rw [hx2] at h; cases h
    rw [hx2] at h
    simp only [] at h
    refine go2_index (d := 34) (ty := 0) (t := 23) (el := 3) (sz := 1) (m := m1.length) (c := c0) (x := (.tmp 30)) (y := (.tmp 33)) (A := A0) (k' := .i64) (j := (IntKind.i64.wrap (x1 + z1))) (jn := ((IntKind.i64.wrap (x1 + z1)).toNat)) (b0 := blkOf A0) (o0 := offOf A0) (by kernel_rfl) (by kernel_rfl) (by kernel_rfl) (by kernel_rfl) (by kernel_rfl) ((hS5.rdAt 2 rfl).eqSome (pos_of_get hx2)) (Int.toNat_of_nonneg hc3).symm (lt_of_get hx2) ?_
    refine go2_batch [19] (ans := [.val (vI e2)]) (vs := [(35, vI e2)]) (l := [.loaded ⟨blkOf A0, offOf A0 + ((IntKind.i64.wrap (x1 + z1)).toNat) * 1, none⟩ (vI e2)]) (by kernel_rfl) ⟨RdL.cell (j := 0) (hS5.rdAt 2 rfl) hx2 rfl, trivial⟩ (mem_one (by kernel_rfl)) ?_
    refine go2_index (d := 36) (ty := 0) (t := 23) (el := 3) (sz := 1) (m := m1.length) (c := c0) (x := (.tmp 16)) (y := (.tmp 19)) (A := A0) (k' := .i64) (j := (IntKind.i64.wrap (x1 + z1))) (jn := ((IntKind.i64.wrap (x1 + z1)).toNat)) (b0 := blkOf A0) (o0 := offOf A0) (by kernel_rfl) (by kernel_rfl) (by kernel_rfl) (by kernel_rfl) (by kernel_rfl) ((hS5.rdAt 2 rfl).eqSome (pos_of_get hx2)) (Int.toNat_of_nonneg hc3).symm (lt_of_get hx2) ?_
    refine go_alt2 (fun KK hKK => ?_) ?_
    ·have hS6 := hS5.bring 2 rfl
     refine ge_seti (α := Int) (A := A0) (nn := m1.length) (c := c0) (t := 3) (l := m1) (x := e2) (x' := e1) (jn := ((IntKind.i64.wrap (x1 + z1)).toNat)) (j := 0) (vs := [vI e1]) (l' := [.stored ⟨blkOf A0, offOf A0 + ((IntKind.i64.wrap (x1 + z1)).toNat) * 1, none⟩ (vI e1)]) hS6 (by kernel_rfl) (by kernel_rfl) hx2 rfl rfl rfl fun w1 hS7 => ?_
     have hS8 : St w0 w1 [Own.of (.slice A0 m1.length c0) 3 (m1.set ((IntKind.i64.wrap (x1 + z1)).toNat) e1), Own.blk bg4_0 (.cells #[.func (.func 83) #[] #[]] 80 (0, 0)), Own.blk bg4_1 (.cells #[.slice Ag4_1 lg4_1.length cg4_1] 40 (0, 0)), Own.all LT] := hS7
     have hE1 : m1.length = (m1.set ((IntKind.i64.wrap (x1 + z1)).toNat) e1).length := hS8.lenAt 0 rfl
     have hS9 : St w0 w1 [Own.of (.slice A0 (m1.set ((IntKind.i64.wrap (x1 + z1)).toNat) e1).length c0) 3 (m1.set ((IntKind.i64.wrap (x1 + z1)).toNat) e1), Own.blk bg4_0 (.cells #[.func (.func 83) #[] #[]] 80 (0, 0)), Own.blk bg4_1 (.cells #[.slice Ag4_1 lg4_1.length cg4_1] 40 (0, 0)), Own.all LT] := by rw [← hE1]; exact hS8
     refine ge_same (t := 0) (v := (.slice A0 m1.length c0)) (v' := (.slice A0 (m1.set ((IntKind.i64.wrap (x1 + z1)).toNat) e1).length c0)) (by kernel_rfl) (by rw [hE1]) ?_
     refine ge_same (t := 16) (v := (.slice A0 m1.length c0)) (v' := (.slice A0 (m1.set ((IntKind.i64.wrap (x1 + z1)).toNat) e1).length c0)) (by kernel_rfl) (by rw [hE1]) ?_
     refine ge_same (t := 20) (v := (.slice A0 m1.length c0)) (v' := (.slice A0 (m1.set ((IntKind.i64.wrap (x1 + z1)).toNat) e1).length c0)) (by kernel_rfl) (by rw [hE1]) ?_
     refine ge_same (t := 24) (v := (.slice A0 m1.length c0)) (v' := (.slice A0 (m1.set ((IntKind.i64.wrap (x1 + z1)).toNat) e1).length c0)) (by kernel_rfl) (by rw [hE1]) ?_
     refine ge_same (t := 30) (v := (.slice A0 m1.length c0)) (v' := (.slice A0 (m1.set ((IntKind.i64.wrap (x1 + z1)).toNat) e1).length c0)) (by kernel_rfl) (by rw [hE1]) ?_
     refine ge_nil fun a hF => hKK _ _ (RS.of2 (l := []) (by kernel_rfl) trivial trivial) ?_ a hF
     rcases hx3 : (m1.set ((IntKind.i64.wrap (x1 + z1)).toNat) e1)[(IntKind.i64.wrap (x2 + z1)).toNat]? with _ | e3
     ·rw [hx3] at h; cases h
     rw [hx3] at h
     simp only [] at h
     refine go2_index (d := 37) (ty := 0) (t := 23) (el := 3) (sz := 1) (m := (m1.set ((IntKind.i64.wrap (x1 + z1)).toNat) e1).length) (c := c0) (x := (.tmp 20)) (y := (.tmp 23)) (A := A0) (k' := .i64) (j := (IntKind.i64.wrap (x2 + z1))) (jn := ((IntKind.i64.wrap (x2 + z1)).toNat)) (b0 := blkOf A0) (o0 := offOf A0) (by kernel_rfl) (by kernel_rfl) (by kernel_rfl) (by kernel_rfl) (by kernel_rfl) ((hS9.rdAt 0 rfl).eqSome (pos_of_get hx3)) (Int.toNat_of_nonneg hc2).symm (lt_of_get hx3) ?_
     refine go_alt2 (fun KK hKK => ?_) ?_
     ·refine ge_seti (α := Int) (A := A0) (nn := ((m1.set ((IntKind.i64.wrap (x1 + z1)).toNat) e1).length)) (c := c0) (t := 3) (l := (m1.set ((IntKind.i64.wrap (x1 + z1)).toNat) e1)) (x := e3) (x' := e2) (jn := ((IntKind.i64.wrap (x2 + z1)).toNat)) (j := 0) (vs := [vI e2]) (l' := [.stored ⟨blkOf A0, offOf A0 + ((IntKind.i64.wrap (x2 + z1)).toNat) * 1, none⟩ (vI e2)]) hS9 (by kernel_rfl) (by kernel_rfl) hx3 rfl rfl rfl fun w2 hS10 => ?_
      have hS11 : St w0 w2 [Own.of (.slice A0 (m1.set ((IntKind.i64.wrap (x1 + z1)).toNat) e1).length c0) 3 ((m1.set ((IntKind.i64.wrap (x1 + z1)).toNat) e1).set ((IntKind.i64.wrap (x2 + z1)).toNat) e2), Own.blk bg4_0 (.cells #[.func (.func 83) #[] #[]] 80 (0, 0)), Own.blk bg4_1 (.cells #[.slice Ag4_1 lg4_1.length cg4_1] 40 (0, 0)), Own.all LT] := hS10
      have hE2 : (m1.set ((IntKind.i64.wrap (x1 + z1)).toNat) e1).length = ((m1.set ((IntKind.i64.wrap (x1 + z1)).toNat) e1).set ((IntKind.i64.wrap (x2 + z1)).toNat) e2).length := hS11.lenAt 0 rfl
      have hS12 : St w0 w2 [Own.of (.slice A0 ((m1.set ((IntKind.i64.wrap (x1 + z1)).toNat) e1).set ((IntKind.i64.wrap (x2 + z1)).toNat) e2).length c0) 3 ((m1.set ((IntKind.i64.wrap (x1 + z1)).toNat) e1).set ((IntKind.i64.wrap (x2 + z1)).toNat) e2), Own.blk bg4_0 (.cells #[.func (.func 83) #[] #[]] 80 (0, 0)), Own.blk bg4_1 (.cells #[.slice Ag4_1 lg4_1.length cg4_1] 40 (0, 0)), Own.all LT] := by rw [← hE2]; exact hS11
      refine ge_same (t := 0) (v := (.slice A0 (m1.set ((IntKind.i64.wrap (x1 + z1)).toNat) e1).length c0)) (v' := (.slice A0 ((m1.set ((IntKind.i64.wrap (x1 + z1)).toNat) e1).set ((IntKind.i64.wrap (x2 + z1)).toNat) e2).length c0)) (by kernel_rfl) (by rw [hE2]) ?_
      refine ge_same (t := 16) (v := (.slice A0 (m1.set ((IntKind.i64.wrap (x1 + z1)).toNat) e1).length c0)) (v' := (.slice A0 ((m1.set ((IntKind.i64.wrap (x1 + z1)).toNat) e1).set ((IntKind.i64.wrap (x2 + z1)).toNat) e2).length c0)) (by kernel_rfl) (by rw [hE2]) ?_
      refine ge_same (t := 20) (v := (.slice A0 (m1.set ((IntKind.i64.wrap (x1 + z1)).toNat) e1).length c0)) (v' := (.slice A0 ((m1.set ((IntKind.i64.wrap (x1 + z1)).toNat) e1).set ((IntKind.i64.wrap (x2 + z1)).toNat) e2).length c0)) (by kernel_rfl) (by rw [hE2]) ?_
      refine ge_same (t := 24) (v := (.slice A0 (m1.set ((IntKind.i64.wrap (x1 + z1)).toNat) e1).length c0)) (v' := (.slice A0 ((m1.set ((IntKind.i64.wrap (x1 + z1)).toNat) e1).set ((IntKind.i64.wrap (x2 + z1)).toNat) e2).length c0)) (by kernel_rfl) (by rw [hE2]) ?_
      refine ge_same (t := 30) (v := (.slice A0 (m1.set ((IntKind.i64.wrap (x1 + z1)).toNat) e1).length c0)) (v' := (.slice A0 ((m1.set ((IntKind.i64.wrap (x1 + z1)).toNat) e1).set ((IntKind.i64.wrap (x2 + z1)).toNat) e2).length c0)) (by kernel_rfl) (by rw [hE2]) ?_
      refine ge_nil fun a hF => hKK _ _ (RS.of2 (l := []) (by kernel_rfl) trivial trivial) ?_ a hF
      refine go_fin2 fun a hF => hK4 _ _ ?_ a hF
      refine wr [(0, 0), (1, 0), (2, 0)] ?_
      refine gb0 [0, 1, 2] [(10, vI (IntKind.i64.wrap (z1 + 1))), (15, vI (IntKind.i64.wrap (z1 + 1))), (14, vI z1)] ?_
      have hS13 := hS12.bring 3 rfl
      have hS14 := hS13.bring 1 rfl
      have hS15 := hS14.bring 3 rfl
      have hS16 := hS15.bring 3 rfl
      obtain rfl := si h
      exact ge_nil fun a hF => hQ _ _ _ (Outs.again ⟨(Eq.trans hLio1 (by simp only [List.length_set])), hS16, hF.weaken ea⟩)
     exact go_nomore2
    exact go_nomore2
   ·rw [if_neg hc3] at h
    cases h
  ·rw [if_neg hc2] at h
   cases h
 ·rw [if_neg hc1] at h
  refine wk 13 (decide (z1 < x3)) false (decide_eq_false hc1) ?_
  refine we_false (by kernel_rfl) ?_
  have hS17 := hS.bring 3 rfl
  have hS18 := hS17.bring 3 rfl
  have hS19 := hS18.bring 3 rfl
  have hS20 := hS19.bring 3 rfl
  obtain rfl := si h
  exact we_exit fun a hF => hQ _ _ _ (Outs.out nofun (Exits.here ⟨hLio1, hS20, hF.weaken ea⟩))
theorem slices_swapRangeCmpFunc_int_1_ok (K : Nat) (l0 : List Int) (A0 : Option Addr) (c0 : Nat) (x1 : Int) (x2 : Int) (x3 : Int) (bg4_0 : Nat) (bg4_1 : Nat) (lg4_1 : List STask) (Ag4_1 : Option Addr) (cg4_1 : Nat) (w0 wE : World) (LT : List Own) (hS : St w0 wE [Own.of (.slice A0 l0.length c0) 3 l0, Own.blk bg4_0 (.cells #[.func (.func 83) #[] #[]] 80 (0, 0)), Own.blk bg4_1 (.cells #[.slice Ag4_1 lg4_1.length cg4_1] 40 (0, 0)), Own.all LT]) (hRg4_1 : RdL w0 Ag4_1 lg4_1) (hLg4_1 : lg4_1.length ≤ cg4_1) (r : List Int) (h : slices_swapRangeCmpFunc_int_1.f K l0 x1 x2 x3 lg4_1 = some r) :
  Calls Tryd.prog 128 #[(.slice A0 l0.length c0), vI x1, vI x2, vI x3, .func (.func 101) #[] #[pP bg4_0 0, pP bg4_1 0]] wE (slices_swapRangeCmpFunc_int_1.Post w0 l0 A0 c0 x1 x2 x3 bg4_0 bg4_1 lg4_1 Ag4_1 cg4_1 LT r) := by
 unfold slices_swapRangeCmpFunc_int_1.f at h
 refine calls_enter (n := 38) (args := [(.slice A0 l0.length c0), vI x1, vI x2, vI x3, .func (.func 101) #[] #[pP bg4_0 0, pP bg4_1 0]]) (fn := Tryd.f128) rfl rfl rfl rfl ?_
 show WE _ _ _ _ [(0, (.slice A0 l0.length c0)), (1, vI x1), (2, vI x2), (3, vI x3), (4, .func (.func 101) #[] #[pP bg4_0 0, pP bg4_1 0])] _
 refine ws fun K1 hK1 => ?_
 refine wr [(0, 0)] ?_
 refine gb0 [0] [(10, vI 0)] ?_
 refine gn hK1 ?_
 refine we_block ?_
 have hS1 := hS.bring 3 rfl
 have hS2 := hS1.bring 1 rfl
 have hS3 := hS2.bring 3 rfl
 have hS4 := hS3.bring 3 rfl
 rcases hq1 : iter (slices_swapRangeCmpFunc_int_1.r0 x1 x2 x3) K (0, l0) with _ | (m3 | rr1)
 ·rw [hq1] at h; cases h
 ·rw [hq1] at h
  simp only [] at h
  refine we_iter (A := slices_swapRangeCmpFunc_int_1.A0 w0 l0 A0 c0 x1 x2 x3 bg4_0 bg4_1 lg4_1 Ag4_1 cg4_1 LT) (B := slices_swapRangeCmpFunc_int_1.B0 w0 l0 A0 c0 x1 x2 x3 bg4_0 bg4_1 lg4_1 Ag4_1 cg4_1 LT) hq1 (fun a hF => ⟨rfl, hS4, hF.weaken ea⟩) (fun s o hf a w hA Q hQ => slices_swapRangeCmpFunc_int_1_r0 K w0 l0 A0 c0 x1 x2 x3 bg4_0 bg4_1 lg4_1 Ag4_1 cg4_1 LT hRg4_1 hLg4_1 s o hf a w hA Q hQ) ?_
  rintro _ a w3 _ ⟨rfl, hRz1, hS21, hF⟩
  replace hS21 : St w0 w3 [Own.blk bg4_0 (.cells #[.func (.func 83) #[] #[]] 80 (0, 0)), Own.blk bg4_1 (.cells #[.slice Ag4_1 lg4_1.length cg4_1] 40 (0, 0)), Own.of (.slice A0 m3.length c0) 3 m3, Own.all LT] := hS21
  have hS22 := hS21.bring 3 rfl
  have hS23 := hS22.bring 2 rfl
  have hS24 := hS23.bring 2 rfl
  have hS25 := hS24.bring 3 rfl
  obtain rfl := si h
  exact (pe0 [] [] ⟨rfl, hRz1, hS25⟩) a hF
 ·rw [hq1] at h
  simp only [] at h
  refine we_iter (A := slices_swapRangeCmpFunc_int_1.A0 w0 l0 A0 c0 x1 x2 x3 bg4_0 bg4_1 lg4_1 Ag4_1 cg4_1 LT) (B := slices_swapRangeCmpFunc_int_1.B0 w0 l0 A0 c0 x1 x2 x3 bg4_0 bg4_1 lg4_1 Ag4_1 cg4_1 LT) hq1 (fun a hF => ⟨rfl, hS4, hF.weaken ea⟩) (fun s o hf a w hA Q hQ => slices_swapRangeCmpFunc_int_1_r0 K w0 l0 A0 c0 x1 x2 x3 bg4_0 bg4_1 lg4_1 Ag4_1 cg4_1 LT hRg4_1 hLg4_1 s o hf a w hA Q hQ) ?_
  rintro _ a w1 _ ⟨rfl, hb⟩
  obtain rfl := si h
  exact hb

/-! slices.rotateCmpFunc[int] -/
abbrev slices_rotateCmpFunc_int_1.Post (w0 : World) (l0 : List Int) (A0 : Option Addr) (c0 : Nat) (x1 : Int) (x2 : Int) (x3 : Int) (bg4_0 : Nat) (bg4_1 : Nat) (lg4_1 : List STask) (Ag4_1 : Option Addr) (cg4_1 : Nat) (LT : List Own) (r : List Int) (e : Ending) (w : World) : Prop := e = .returned (.tuple #[]) ∧ l0.length = r.length ∧ St w0 w [Own.of (.slice A0 r.length c0) 3 r, Own.blk bg4_0 (.cells #[.func (.func 83) #[] #[]] 80 (0, 0)), Own.blk bg4_1 (.cells #[.slice Ag4_1 lg4_1.length cg4_1] 40 (0, 0)), Own.all LT]
def slices_rotateCmpFunc_int_1.r0 (K : Nat) (x2 : Int) (lg4_1 : List STask) : Int × Int × (List Int) → Option ((Int × Int × (List Int)) ⊕ ((Int × (List Int)) ⊕ (List Int)))
 | (z1, z2, m1) =>
  if z1 = z2 then
   some (.inr (.inl (z1, m1)))
  else
   if z1 > z2 then
    match slices_swapRangeCmpFunc_int_1.f K m1 (IntKind.i64.wrap (x2 - z1)) x2 z2 lg4_1 with
    | none => none
    | some r1 =>
     some (.inl (IntKind.i64.wrap (z1 - z2), z2, r1))
   else
    match slices_swapRangeCmpFunc_int_1.f K m1 (IntKind.i64.wrap (x2 - z1)) (IntKind.i64.wrap ((IntKind.i64.wrap (x2 + z2)) - z1)) z1 lg4_1 with
    | none => none
    | some r2 =>
     some (.inl (z1, IntKind.i64.wrap (z2 - z1), r2))
def slices_rotateCmpFunc_int_1.f (K : Nat) (l0 : List Int) (x1 : Int) (x2 : Int) (x3 : Int) (lg4_1 : List STask) : Option (List Int) :=
 match iter (slices_rotateCmpFunc_int_1.r0 K x2 lg4_1) K (IntKind.i64.wrap (x2 - x1), IntKind.i64.wrap (x3 - x2), l0) with
 | none => none
 | some (.inl (z4, m3)) =>
  match slices_swapRangeCmpFunc_int_1.f K m3 (IntKind.i64.wrap (x2 - z4)) x2 z4 lg4_1 with
  | none => none
  | some r3 =>
   some r3
 | some (.inr rr1) =>
  some rr1
abbrev slices_rotateCmpFunc_int_1.A0 (w0 : World) (l0 : List Int) (A0 : Option Addr) (c0 : Nat) (x2 : Int) (bg4_0 : Nat) (bg4_1 : Nat) (lg4_1 : List STask) (Ag4_1 : Option Addr) (cg4_1 : Nat) (LT : List Own) : (Int × Int × (List Int)) → Act → World → Prop := fun (s : Int × Int × (List Int)) a w => l0.length = s.2.2.length ∧ St w0 w [Own.blk bg4_0 (.cells #[.func (.func 83) #[] #[]] 80 (0, 0)), Own.blk bg4_1 (.cells #[.slice Ag4_1 lg4_1.length cg4_1] 40 (0, 0)), Own.of (.slice A0 s.2.2.length c0) 3 s.2.2, Own.all LT] ∧ Frm 58 a [(0, (.slice A0 s.2.2.length c0)), (2, vI x2), (4, .func (.func 101) #[] #[pP bg4_0 0, pP bg4_1 0]), (10, vI s.1), (11, vI s.2.1)]
abbrev slices_rotateCmpFunc_int_1.B0 (w0 : World) (l0 : List Int) (A0 : Option Addr) (c0 : Nat) (x1 : Int) (x2 : Int) (x3 : Int) (bg4_0 : Nat) (bg4_1 : Nat) (lg4_1 : List STask) (Ag4_1 : Option Addr) (cg4_1 : Nat) (LT : List Own) : ((Int × (List Int)) ⊕ (List Int)) → Exit → Act → World → Prop := Exits 0 (fun (s : Int × (List Int)) a w => l0.length = s.2.length ∧ St w0 w [Own.blk bg4_0 (.cells #[.func (.func 83) #[] #[]] 80 (0, 0)), Own.blk bg4_1 (.cells #[.slice Ag4_1 lg4_1.length cg4_1] 40 (0, 0)), Own.of (.slice A0 s.2.length c0) 3 s.2, Own.all LT] ∧ Frm 58 a [(0, (.slice A0 s.2.length c0)), (2, vI x2), (4, .func (.func 101) #[] #[pP bg4_0 0, pP bg4_1 0]), (10, vI s.1)]) (Rets Tryd.prog Tryd.f126 (slices_rotateCmpFunc_int_1.Post w0 l0 A0 c0 x1 x2 x3 bg4_0 bg4_1 lg4_1 Ag4_1 cg4_1 LT))
theorem slices_rotateCmpFunc_int_1_r0 (K : Nat) (w0 : World) (l0 : List Int) (A0 : Option Addr) (c0 : Nat) (x1 : Int) (x2 : Int) (x3 : Int) (bg4_0 : Nat) (bg4_1 : Nat) (lg4_1 : List STask) (Ag4_1 : Option Addr) (cg4_1 : Nat) (LT : List Own) (hRg4_1 : RdL w0 Ag4_1 lg4_1) (hLg4_1 : lg4_1.length ≤ cg4_1) (s : Int × Int × (List Int)) (o : (Int × Int × (List Int)) ⊕ ((Int × (List Int)) ⊕ (List Int))) (h : slices_rotateCmpFunc_int_1.r0 K x2 lg4_1 s = some o) (a : Act) (w : World) (hA : slices_rotateCmpFunc_int_1.A0 w0 l0 A0 c0 x2 bg4_0 bg4_1 lg4_1 Ag4_1 cg4_1 LT s a w) (Q : Exit → Act → World → Prop) (hQ : ∀ x a w, Outs (slices_rotateCmpFunc_int_1.A0 w0 l0 A0 c0 x2 bg4_0 bg4_1 lg4_1 Ag4_1 cg4_1 LT) (slices_rotateCmpFunc_int_1.B0 w0 l0 A0 c0 x1 x2 x3 bg4_0 bg4_1 lg4_1 Ag4_1 cg4_1 LT) o x a w → Q x a w) : (subF Tryd.f126 [1, 1, 0, 0, 0]).wp Tryd.prog Q a w := by
 obtain ⟨z1, z2, m1⟩ := s
 obtain ⟨hLio1, hS, hF⟩ := hA
 replace hS : St w0 w [Own.blk bg4_0 (.cells #[.func (.func 83) #[] #[]] 80 (0, 0)), Own.blk bg4_1 (.cells #[.slice Ag4_1 lg4_1.length cg4_1] 40 (0, 0)), Own.of (.slice A0 m1.length c0) 3 m1, Own.all LT] := hS
 simp only [slices_rotateCmpFunc_int_1.r0] at h
 refine (?_ : WE Tryd.prog 58 (subF Tryd.f126 [1, 1, 0, 0, 0]) Q [(0, (.slice A0 m1.length c0)), (2, vI x2), (4, .func (.func 101) #[] #[pP bg4_0 0, pP bg4_1 0]), (10, vI z1), (11, vI z2)] w) a hF
 clear hF a
 refine ws fun K4 hK4 => ?_
 refine ws fun K5 hK5 => ?_
 refine wr [(0, 0), (1, 0), (2, 0)] ?_
 refine gb0 [0, 1, 2] [(20, .bool (z1 != z2)), (19, vI z2), (18, vI z1)] ?_
 refine gn hK5 ?_
 by_cases hc1 : z1 = z2
 ·rw [if_pos hc1] at h
  refine wk 20 (z1 != z2) false (bne_eq_false_iff_eq.2 hc1) ?_
  refine we_false (by kernel_rfl) ?_
  have hS5 := hS.bring 3 rfl
  have hS6 := hS5.bring 3 rfl
  have hS7 := hS6.bring 3 rfl
  have hS8 := hS7.bring 3 rfl
  obtain rfl := si h
  exact we_exit fun a hF => hQ _ _ _ (Outs.out nofun (Exits.here ⟨hLio1, hS8, hF.weaken ea⟩))
 ·rw [if_neg hc1] at h
  refine wk 20 (z1 != z2) true (bne_iff_ne.2 hc1) ?_
  refine we_true (by kernel_rfl) ?_
  refine we_skip fun a hF => hK4 _ _ ?_ a hF
  refine we_block ?_
  refine ws fun K6 hK6 => ?_
  refine wr [(0, 0), (1, 0), (2, 0)] ?_
  refine gb0 [0, 1, 2] [(23, .bool (decide (z1 > z2))), (22, vI z2), (21, vI z1)] ?_
  refine gn hK6 ?_
  by_cases hc2 : z1 > z2
  ·rw [if_pos hc2] at h
   refine wk 23 (decide (z1 > z2)) true (decide_eq_true hc2) ?_
   refine we_true (by kernel_rfl) ?_
   refine ws fun K7 hK7 => ?_
   refine wr [(0, 0), (1, 0), (2, 0), (3, 0), (4, 0), (5, 0), (6, 0), (7, 2)] ?_
   refine gb0 [0, 1, 2, 3, 4, 5, 6] [(30, .func (.func 101) #[] #[pP bg4_0 0, pP bg4_1 0]), (29, vI z2), (28, vI x2), (27, vI (IntKind.i64.wrap (x2 - z1))), (26, vI z1), (25, vI x2), (24, (.slice A0 m1.length c0))] ?_
   rcases hq1 : slices_swapRangeCmpFunc_int_1.f K m1 (IntKind.i64.wrap (x2 - z1)) x2 z2 lg4_1 with _ | r1
   ·rw [hq1] at h; cases h
   rw [hq1] at h
   simp only [] at h
   have hS9 := hS.bring 1 rfl
   have hS10 := hS9.bring 1 rfl
   have hS11 := hS10.bring 2 rfl
   have hS13 : St w0 w [Own.of (.slice A0 m1.length c0) 3 m1, Own.blk bg4_0 (.cells #[.func (.func 83) #[] #[]] 80 (0, 0)), Own.blk bg4_1 (.cells #[.slice Ag4_1 lg4_1.length cg4_1] 40 (0, 0)), Own.all [Own.all LT]] := hS11.packN 3
   refine ge_call2 (m := 0) (d := some 31) (f := 128) (args := #[.slice A0 m1.length c0, vI (IntKind.i64.wrap (x2 - z1)), vI x2, vI z2, .func (.func 101) #[] #[pP bg4_0 0, pP bg4_1 0]]) (by kernel_rfl) (slices_swapRangeCmpFunc_int_1_ok K m1 A0 c0 (IntKind.i64.wrap (x2 - z1)) x2 z2 bg4_0 bg4_1 lg4_1 Ag4_1 cg4_1 _ _ _ hS13 hRg4_1 hLg4_1 _ hq1) ?_
   rintro _ w1 ⟨rfl, hE1, hS12⟩
   refine ⟨_, rfl, ?_⟩
   have hS14 : St w0 w1 [Own.of (.slice A0 r1.length c0) 3 r1, Own.blk bg4_0 (.cells #[.func (.func 83) #[] #[]] 80 (0, 0)), Own.blk bg4_1 (.cells #[.slice Ag4_1 lg4_1.length cg4_1] 40 (0, 0)), Own.all LT] := hS12.unpack [Own.of (.slice A0 r1.length c0) 3 r1, Own.blk bg4_0 (.cells #[.func (.func 83) #[] #[]] 80 (0, 0)), Own.blk bg4_1 (.cells #[.slice Ag4_1 lg4_1.length cg4_1] 40 (0, 0))]
   refine ge_same (t := 0) (v := (.slice A0 m1.length c0)) (v' := (.slice A0 r1.length c0)) (by kernel_rfl) (by rw [show m1.length = r1.length from hE1]) ?_
   refine ge_same (t := 24) (v := (.slice A0 m1.length c0)) (v' := (.slice A0 r1.length c0)) (by kernel_rfl) (by rw [show m1.length = r1.length from hE1]) ?_
   have hLio3 : l0.length = r1.length := Eq.trans hLio1 hE1
   refine gn hK7 ?_
   refine wr [(0, 0), (1, 0), (2, 0), (3, 0)] ?_
   refine gb0 [0, 1, 2, 3] [(10, vI (IntKind.i64.wrap (z1 - z2))), (34, vI (IntKind.i64.wrap (z1 - z2))), (33, vI z2), (32, vI z1)] ?_
   have hS15 := hS14.bring 3 rfl
   have hS16 := hS15.bring 1 rfl
   have hS17 := hS16.bring 3 rfl
   have hS18 := hS17.bring 3 rfl
   obtain rfl := si h
   exact ge_nil fun a hF => hQ _ _ _ (Outs.again ⟨hLio3, hS18, hF.weaken ea⟩)
  ·rw [if_neg hc2] at h
   refine wk 23 (decide (z1 > z2)) false (decide_eq_false hc2) ?_
   refine we_false (by kernel_rfl) ?_
   refine ws fun K8 hK8 => ?_
   refine wr [(0, 0), (1, 0), (2, 0), (3, 0), (4, 0), (5, 0), (6, 0), (7, 0), (8, 0), (9, 0), (10, 0), (11, 2)] ?_
   refine gb0 [0, 1, 2, 3, 4, 5, 6, 7, 8, 9, 10] [(45, .func (.func 101) #[] #[pP bg4_0 0, pP bg4_1 0]), (44, vI z1), (43, vI (IntKind.i64.wrap ((IntKind.i64.wrap (x2 + z2)) - z1))), (42, vI z1), (41, vI (IntKind.i64.wrap (x2 + z2))), (40, vI z2), (39, vI x2), (38, vI (IntKind.i64.wrap (x2 - z1))), (37, vI z1), (36, vI x2), (35, (.slice A0 m1.length c0))] ?_
   rcases hq2 : slices_swapRangeCmpFunc_int_1.f K m1 (IntKind.i64.wrap (x2 - z1)) (IntKind.i64.wrap ((IntKind.i64.wrap (x2 + z2)) - z1)) z1 lg4_1 with _ | r2
   ·rw [hq2] at h; cases h
   rw [hq2] at h
   simp only [] at h
   have hS19 := hS.bring 1 rfl
   have hS20 := hS19.bring 1 rfl
   have hS21 := hS20.bring 2 rfl
   have hS23 : St w0 w [Own.of (.slice A0 m1.length c0) 3 m1, Own.blk bg4_0 (.cells #[.func (.func 83) #[] #[]] 80 (0, 0)), Own.blk bg4_1 (.cells #[.slice Ag4_1 lg4_1.length cg4_1] 40 (0, 0)), Own.all [Own.all LT]] := hS21.packN 3
   refine ge_call2 (m := 0) (d := some 46) (f := 128) (args := #[.slice A0 m1.length c0, vI (IntKind.i64.wrap (x2 - z1)), vI (IntKind.i64.wrap ((IntKind.i64.wrap (x2 + z2)) - z1)), vI z1, .func (.func 101) #[] #[pP bg4_0 0, pP bg4_1 0]]) (by kernel_rfl) (slices_swapRangeCmpFunc_int_1_ok K m1 A0 c0 (IntKind.i64.wrap (x2 - z1)) (IntKind.i64.wrap ((IntKind.i64.wrap (x2 + z2)) - z1)) z1 bg4_0 bg4_1 lg4_1 Ag4_1 cg4_1 _ _ _ hS23 hRg4_1 hLg4_1 _ hq2) ?_
   rintro _ w2 ⟨rfl, hE2, hS22⟩
   refine ⟨_, rfl, ?_⟩
   have hS24 : St w0 w2 [Own.of (.slice A0 r2.length c0) 3 r2, Own.blk bg4_0 (.cells #[.func (.func 83) #[] #[]] 80 (0, 0)), Own.blk bg4_1 (.cells #[.slice Ag4_1 lg4_1.length cg4_1] 40 (0, 0)), Own.all LT] := hS22.unpack [Own.of (.slice A0 r2.length c0) 3 r2, Own.blk bg4_0 (.cells #[.func (.func 83) #[] #[]] 80 (0, 0)), Own.blk bg4_1 (.cells #[.slice Ag4_1 lg4_1.length cg4_1] 40 (0, 0))]
   refine ge_same (t := 0) (v := (.slice A0 m1.length c0)) (v' := (.slice A0 r2.length c0)) (by kernel_rfl) (by rw [show m1.length = r2.length from hE2]) ?_
   refine ge_same (t := 35) (v := (.slice A0 m1.length c0)) (v' := (.slice A0 r2.length c0)) (by kernel_rfl) (by rw [show m1.length = r2.length from hE2]) ?_
   have hLio4 : l0.length = r2.length := Eq.trans hLio1 hE2
   refine gn hK8 ?_
   refine wr [(0, 0), (1, 0), (2, 0), (3, 0)] ?_
   refine gb0 [0, 1, 2, 3] [(11, vI (IntKind.i64.wrap (z2 - z1))), (49, vI (IntKind.i64.wrap (z2 - z1))), (48, vI z1), (47, vI z2)] ?_
   have hS25 := hS24.bring 3 rfl
   have hS26 := hS25.bring 1 rfl
   have hS27 := hS26.bring 3 rfl
   have hS28 := hS27.bring 3 rfl
   obtain rfl := si h
   exact ge_nil fun a hF => hQ _ _ _ (Outs.again ⟨hLio4, hS28, hF.weaken ea⟩)
theorem slices_rotateCmpFunc_int_1_ok (K : Nat) (l0 : List Int) (A0 : Option Addr) (c0 : Nat) (x1 : Int) (x2 : Int) (x3 : Int) (bg4_0 : Nat) (bg4_1 : Nat) (lg4_1 : List STask) (Ag4_1 : Option Addr) (cg4_1 : Nat) (w0 wE : World) (LT : List Own) (hS : St w0 wE [Own.of (.slice A0 l0.length c0) 3 l0, Own.blk bg4_0 (.cells #[.func (.func 83) #[] #[]] 80 (0, 0)), Own.blk bg4_1 (.cells #[.slice Ag4_1 lg4_1.length cg4_1] 40 (0, 0)), Own.all LT]) (hRg4_1 : RdL w0 Ag4_1 lg4_1) (hLg4_1 : lg4_1.length ≤ cg4_1) (r : List Int) (h : slices_rotateCmpFunc_int_1.f K l0 x1 x2 x3 lg4_1 = some r) :
  Calls Tryd.prog 126 #[(.slice A0 l0.length c0), vI x1, vI x2, vI x3, .func (.func 101) #[] #[pP bg4_0 0, pP bg4_1 0]] wE (slices_rotateCmpFunc_int_1.Post w0 l0 A0 c0 x1 x2 x3 bg4_0 bg4_1 lg4_1 Ag4_1 cg4_1 LT r) := by
 unfold slices_rotateCmpFunc_int_1.f at h
 refine calls_enter (n := 58) (args := [(.slice A0 l0.length c0), vI x1, vI x2, vI x3, .func (.func 101) #[] #[pP bg4_0 0, pP bg4_1 0]]) (fn := Tryd.f126) rfl rfl rfl rfl ?_
 show WE _ _ _ _ [(0, (.slice A0 l0.length c0)), (1, vI x1), (2, vI x2), (3, vI x3), (4, .func (.func 101) #[] #[pP bg4_0 0, pP bg4_1 0])] _
 refine ws fun K1 hK1 => ?_
 refine wr [(0, 0), (1, 0), (2, 0), (3, 0)] ?_
 refine gb0 [0, 1, 2, 3] [(10, vI (IntKind.i64.wrap (x2 - x1))), (14, vI (IntKind.i64.wrap (x2 - x1))), (13, vI x1), (12, vI x2)] ?_
 refine gn hK1 ?_
 refine ws fun K2 hK2 => ?_
 refine wr [(0, 0), (1, 0), (2, 0), (3, 0)] ?_
 refine gb0 [0, 1, 2, 3] [(11, vI (IntKind.i64.wrap (x3 - x2))), (17, vI (IntKind.i64.wrap (x3 - x2))), (16, vI x2), (15, vI x3)] ?_
 refine gn hK2 ?_
 refine ws fun K3 hK3 => ?_
 refine we_block ?_
 have hS1 := hS.bring 3 rfl
 have hS2 := hS1.bring 1 rfl
 have hS3 := hS2.bring 3 rfl
 have hS4 := hS3.bring 3 rfl
 rcases hq3 : iter (slices_rotateCmpFunc_int_1.r0 K x2 lg4_1) K (IntKind.i64.wrap (x2 - x1), IntKind.i64.wrap (x3 - x2), l0) with _ | (⟨z4, m3⟩ | rr1)
 ·rw [hq3] at h; cases h
 ·rw [hq3] at h
  simp only [] at h
  refine we_iter (A := slices_rotateCmpFunc_int_1.A0 w0 l0 A0 c0 x2 bg4_0 bg4_1 lg4_1 Ag4_1 cg4_1 LT) (B := slices_rotateCmpFunc_int_1.B0 w0 l0 A0 c0 x1 x2 x3 bg4_0 bg4_1 lg4_1 Ag4_1 cg4_1 LT) hq3 (fun a hF => ⟨rfl, hS4, hF.weaken ea⟩) (fun s o hf a w hA Q hQ => slices_rotateCmpFunc_int_1_r0 K w0 l0 A0 c0 x1 x2 x3 bg4_0 bg4_1 lg4_1 Ag4_1 cg4_1 LT hRg4_1 hLg4_1 s o hf a w hA Q hQ) ?_
  rintro _ a w3 _ ⟨rfl, hRz1, hS29, hF⟩
  replace hS29 : St w0 w3 [Own.blk bg4_0 (.cells #[.func (.func 83) #[] #[]] 80 (0, 0)), Own.blk bg4_1 (.cells #[.slice Ag4_1 lg4_1.length cg4_1] 40 (0, 0)), Own.of (.slice A0 m3.length c0) 3 m3, Own.all LT] := hS29
  refine hK3 [(0, (.slice A0 m3.length c0)), (2, vI x2), (4, .func (.func 101) #[] #[pP bg4_0 0, pP bg4_1 0]), (10, vI z4)] w3 ?_ a hF
  refine wr [(0, 0), (1, 0), (2, 0), (3, 0), (4, 0), (5, 0), (6, 0), (7, 2)] ?_
  refine gb0 [0, 1, 2, 3, 4, 5, 6] [(56, .func (.func 101) #[] #[pP bg4_0 0, pP bg4_1 0]), (55, vI z4), (54, vI x2), (53, vI (IntKind.i64.wrap (x2 - z4))), (52, vI z4), (51, vI x2), (50, (.slice A0 m3.length c0))] ?_
  rcases hq4 : slices_swapRangeCmpFunc_int_1.f K m3 (IntKind.i64.wrap (x2 - z4)) x2 z4 lg4_1 with _ | r3
  ·rw [hq4] at h; cases h
  rw [hq4] at h
  simp only [] at h
  have hS30 := hS29.bring 1 rfl
  have hS31 := hS30.bring 1 rfl
  have hS32 := hS31.bring 2 rfl
  have hS34 : St w0 w3 [Own.of (.slice A0 m3.length c0) 3 m3, Own.blk bg4_0 (.cells #[.func (.func 83) #[] #[]] 80 (0, 0)), Own.blk bg4_1 (.cells #[.slice Ag4_1 lg4_1.length cg4_1] 40 (0, 0)), Own.all [Own.all LT]] := hS32.packN 3
  refine ge_call2 (m := 0) (d := some 57) (f := 128) (args := #[.slice A0 m3.length c0, vI (IntKind.i64.wrap (x2 - z4)), vI x2, vI z4, .func (.func 101) #[] #[pP bg4_0 0, pP bg4_1 0]]) (by kernel_rfl) (slices_swapRangeCmpFunc_int_1_ok K m3 A0 c0 (IntKind.i64.wrap (x2 - z4)) x2 z4 bg4_0 bg4_1 lg4_1 Ag4_1 cg4_1 _ _ _ hS34 hRg4_1 hLg4_1 _ hq4) ?_
  rintro _ w4 ⟨rfl, hE3, hS33⟩
  refine ⟨_, rfl, ?_⟩
  have hS35 : St w0 w4 [Own.of (.slice A0 r3.length c0) 3 r3, Own.blk bg4_0 (.cells #[.func (.func 83) #[] #[]] 80 (0, 0)), Own.blk bg4_1 (.cells #[.slice Ag4_1 lg4_1.length cg4_1] 40 (0, 0)), Own.all LT] := hS33.unpack [Own.of (.slice A0 r3.length c0) 3 r3, Own.blk bg4_0 (.cells #[.func (.func 83) #[] #[]] 80 (0, 0)), Own.blk bg4_1 (.cells #[.slice Ag4_1 lg4_1.length cg4_1] 40 (0, 0))]
  refine ge_same (t := 0) (v := (.slice A0 m3.length c0)) (v' := (.slice A0 r3.length c0)) (by kernel_rfl) (by rw [show m3.length = r3.length from hE3]) ?_
  refine ge_same (t := 50) (v := (.slice A0 m3.length c0)) (v' := (.slice A0 r3.length c0)) (by kernel_rfl) (by rw [show m3.length = r3.length from hE3]) ?_
  have hLio5 : l0.length = r3.length := Eq.trans hRz1 hE3
  have hS36 := hS35.bring 3 rfl
  have hS37 := hS36.bring 3 rfl
  have hS38 := hS37.bring 3 rfl
  have hS39 := hS38.bring 3 rfl
  obtain rfl := si h
  exact ge_nil (pe0 [] [] ⟨rfl, hLio5, hS39⟩)
 ·rw [hq3] at h
  simp only [] at h
  refine we_iter (A := slices_rotateCmpFunc_int_1.A0 w0 l0 A0 c0 x2 bg4_0 bg4_1 lg4_1 Ag4_1 cg4_1 LT) (B := slices_rotateCmpFunc_int_1.B0 w0 l0 A0 c0 x1 x2 x3 bg4_0 bg4_1 lg4_1 Ag4_1 cg4_1 LT) hq3 (fun a hF => ⟨rfl, hS4, hF.weaken ea⟩) (fun s o hf a w hA Q hQ => slices_rotateCmpFunc_int_1_r0 K w0 l0 A0 c0 x1 x2 x3 bg4_0 bg4_1 lg4_1 Ag4_1 cg4_1 LT hRg4_1 hLg4_1 s o hf a w hA Q hQ) ?_
  rintro _ a w1 _ ⟨rfl, hb⟩
  obtain rfl := si h
  exact hb
end Go.Proofs.YtlipdmblinjjaaaDoor.GV
