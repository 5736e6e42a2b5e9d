/- Walks of single functions, written by a program of this work. -/
import Derived.Test.YtnckikjcjgmdlaaDoorGWWcetTells3
namespace Go.Proofs.YtnckikjcjgmdlaaDoor.GV
open Go Go.RowKit
set_option linter.unusedVariables false
set_option linter.unusedSimpArgs false
set_option maxRecDepth 100000

/-! punctual/punctualref.ReadImage -/
abbrev punctualref_ReadImage.Post (w0 : World) (l0 : List SIns) (A0 : Option Addr) (c0 : Nat) (r : (Option PImage) × SFault) (e : Ending) (w : World) : Prop := match r.1 with
 | none => e = .returned (.tuple #[.pointer none, .agg #[vI r.2.Code, vI r.2.At]]) ∧ St w0 w []
 | some x => ∃ (pb : Nat) (pv1 : Value), e = .returned (.tuple #[pP pb 0, .agg #[vI r.2.Code, vI r.2.At]]) ∧ St w0 w [Own.blk pb (.cells #[.slice A0 l0.length c0, pv1] 70 (0, 0)), Own.of pv1 74 x.m_Regions]
def punctualref_ReadImage.r0 (l0 : List SIns) : Nat → Option (Nat ⊕ (Unit ⊕ ((Option PImage) × SFault)))
 | i1 =>
  if (i1 : Int) < (l0.length : Int) then
   match l0[i1]? with
   | none => none
   | some e1 =>
    match punctualref_wrongIns.f e1 with
    | none => none
    | some r1 =>
     if r1 = 0 then
      some (.inl (i1 + 1))
     else
      some (.inr (.inr (none, (punctualref_F.f r1 (i1 : Int)))))
  else
   some (.inr (.inl ()))
def punctualref_ReadImage.p2 (m1 : List Int) : Option (Int ⊕ ((Option PImage) × SFault)) :=
  if (m1.length : Int) > 0 then
   if 0 ≤ (IntKind.i64.wrap ((m1.length : Int) - 1)) then
    match m1[(IntKind.i64.wrap ((m1.length : Int) - 1)).toNat]? with
    | none => none
    | some e3 =>
     some (.inl e3)
   else
    none
  else
   some (.inl (-1))
def punctualref_ReadImage.p3 (e2 : SIns) : Option (Bool ⊕ ((Option PImage) × SFault)) :=
  if e2.Op = 13 then
   some (.inl true)
  else
   some (.inl (e2.Op == 16))
def punctualref_ReadImage.p4 (e2 : SIns) : Option (Bool ⊕ ((Option PImage) × SFault)) :=
  if e2.Op = 14 then
   some (.inl true)
  else
   some (.inl (e2.Op == 17))
def punctualref_ReadImage.p5 (l0 : List SIns) (i2 : Nat) (e2 : SIns) (z2 : Int) : Option (Unit ⊕ ((Option PImage) × SFault)) :=
  if z2 < 0 then
   some (.inr (none, (punctualref_F.f ((mget (mset (mset ([] : List (Int × Int)) 14 9) 17 10) e2.Op).getD 0) (i2 : Int))))
  else
   if 0 ≤ z2 then
    match l0[(z2).toNat]? with
    | none => none
    | some e4 =>
     if e4.Op = ((mget (mset (mset ([] : List (Int × Int)) 14 13) 17 16) e2.Op).getD 0) then
      if e4.A = e2.A then
       if e2.Op = 14 then
        if e2.B = (IntKind.i64.wrap (z2 + 1)) then
         some (.inl ())
        else
         some (.inr (none, (punctualref_F.f ((mget (mset (mset ([] : List (Int × Int)) 14 9) 17 10) e2.Op).getD 0) (i2 : Int))))
       else
        some (.inl ())
      else
       some (.inr (none, (punctualref_F.f ((mget (mset (mset ([] : List (Int × Int)) 14 9) 17 10) e2.Op).getD 0) (i2 : Int))))
     else
      some (.inr (none, (punctualref_F.f ((mget (mset (mset ([] : List (Int × Int)) 14 9) 17 10) e2.Op).getD 0) (i2 : Int))))
   else
    none
def punctualref_ReadImage.r1 (K : Nat) (l0 : List SIns) : Nat × (List Int) × (List Sregion) → Option ((Nat × (List Int) × (List Sregion)) ⊕ (((List Int) × (List Sregion)) ⊕ ((Option PImage) × SFault)))
 | (i2, m1, m2) =>
  if (i2 : Int) < (l0.length : Int) then
   match l0[i2]? with
   | none => none
   | some e2 =>
    match punctualref_ReadImage.p2 m1 with
    | none => none
    | some (.inl z2) =>
     match punctualref_ReadImage.p3 e2 with
     | none => none
     | some (.inl q2) =>
      if q2 = true then
       match punctualref_ReadImage_1.f K e2.Op m1 l0 e2 with
       | none => none
       | some r2 =>
        if r2 = true then
         some (.inr (.inr (none, (punctualref_F.f ((mget (mset (mset ([] : List (Int × Int)) 13 9) 16 10) e2.Op).getD 0) (i2 : Int)))))
        else
         if m1.length < 17592186044416 then
          some (.inl ((i2 + 1), (m1 ++ [(i2 : Int)]), m2))
         else
          none
      else
       match punctualref_ReadImage.p4 e2 with
       | none => none
       | some (.inl q4) =>
        if q4 = true then
         match punctualref_ReadImage.p5 l0 i2 e2 z2 with
         | none => none
         | some (.inl _) =>
          if m2.length < 8796093022208 then
           if 0 ≤ (IntKind.i64.wrap ((m1.length : Int) - 1)) then
            if ((IntKind.i64.wrap ((m1.length : Int) - 1)).toNat) ≤ m1.length then
             some (.inl ((i2 + 1), (m1.take ((IntKind.i64.wrap ((m1.length : Int) - 1)).toNat)), (m2 ++ [(⟨z2, (i2 : Int)⟩ : Sregion)])))
            else
             none
           else
            none
          else
           none
         | some (.inr rr1) =>
          some (.inr (.inr rr1))
        else
         if e2.Op = 15 then
          match punctualref_ReadImage_1.f K 13 m1 l0 e2 with
          | none => none
          | some r3 =>
           if r3 = true then
            some (.inl ((i2 + 1), m1, m2))
           else
            some (.inr (.inr (none, (punctualref_F.f 9 (i2 : Int)))))
         else
          some (.inl ((i2 + 1), m1, m2))
       | some (.inr rr2) =>
        some (.inr (.inr rr2))
     | some (.inr rr3) =>
      some (.inr (.inr rr3))
    | some (.inr rr4) =>
     some (.inr (.inr rr4))
  else
   some (.inr (.inl (m1, m2)))
def punctualref_ReadImage.r6 (K : Nat) (l0 : List SIns) (m6 : List Sregion) : Nat → Option (Nat ⊕ (Unit ⊕ ((Option PImage) × SFault)))
 | i3 =>
  if (i3 : Int) < (l0.length : Int) then
   match l0[i3]? with
   | none => none
   | some e7 =>
    if e7.Op = 11 then
     match punctualref_Image_inner.f K l0 m6 (i3 : Int) with
     | none => none
     | some r4 =>
      match punctualref_Image_inner.f K l0 m6 e7.A with
      | none => none
      | some r5 =>
       if e7.A ≤ (i3 : Int) then
        some (.inr (.inr (none, (punctualref_F.f 7 (i3 : Int)))))
       else
        if e7.A > (l0.length : Int) then
         some (.inr (.inr (none, (punctualref_F.f 7 (i3 : Int)))))
        else
         if r4.2 = r5.2 then
          if (Sregion.eqb r4.1 r5.1) = true then
           some (.inl (i3 + 1))
          else
           some (.inr (.inr (none, (punctualref_F.f 7 (i3 : Int)))))
         else
          some (.inr (.inr (none, (punctualref_F.f 7 (i3 : Int)))))
    else
     if e7.Op = 12 then
      match punctualref_Image_inner.f K l0 m6 (i3 : Int) with
      | none => none
      | some r6 =>
       match punctualref_Image_inner.f K l0 m6 e7.A with
       | none => none
       | some r7 =>
        if e7.A ≤ (i3 : Int) then
         some (.inr (.inr (none, (punctualref_F.f 7 (i3 : Int)))))
        else
         if e7.A > (l0.length : Int) then
          some (.inr (.inr (none, (punctualref_F.f 7 (i3 : Int)))))
         else
          if r6.2 = r7.2 then
           if (Sregion.eqb r6.1 r7.1) = true then
            some (.inl (i3 + 1))
           else
            some (.inr (.inr (none, (punctualref_F.f 7 (i3 : Int)))))
          else
           some (.inr (.inr (none, (punctualref_F.f 7 (i3 : Int)))))
     else
      some (.inl (i3 + 1))
  else
   some (.inr (.inl ()))
def punctualref_ReadImage.f (K : Nat) (l0 : List SIns) : Option ((Option PImage) × SFault) :=
 if (l0.length : Int) > 2000 then
  some (none, (punctualref_F.f 2 0))
 else
  match iter (punctualref_ReadImage.r0 l0) K 0 with
  | none => none
  | some (.inl _) =>
   match iter (punctualref_ReadImage.r1 K l0) K (0, ([] : List Int), ([] : List Sregion)) with
   | none => none
   | some (.inl (m5, m6)) =>
    if (m5.length : Int) > 0 then
     match m5[0]? with
     | none => none
     | some e5 =>
      if 0 ≤ e5 then
       match l0[(e5).toNat]? with
       | none => none
       | some e6 =>
        if e6.Op = 13 then
         some (none, (punctualref_F.f 9 e5))
        else
         some (none, (punctualref_F.f 10 e5))
      else
       none
    else
     match iter (punctualref_ReadImage.r6 K l0 m6) K 0 with
     | none => none
     | some (.inl _) =>
      match punctualref_stackFault.f K l0 with
      | none => none
      | some r8 =>
       if r8.Code = 0 then
        some ((some (⟨m6⟩ : PImage)), (⟨0, 0⟩ : SFault))
       else
        some (none, r8)
     | some (.inr rr5) =>
      some rr5
   | some (.inr rr6) =>
    some rr6
  | some (.inr rr7) =>
   some rr7
abbrev punctualref_ReadImage.A0 (w0 : World) (l0 : List SIns) (A0 : Option Addr) (c0 : Nat) (b1 : Nat) (b2 : Nat) : Nat → Act → World → Prop := fun (s : Nat) a w => St w0 w [Own.blk b2 (.cells #[vI 0, vI 0] 25 (0, 0)), Own.blk b1 (.cells #[.slice A0 l0.length c0] 22 (0, 0))] ∧ Frm 230 a [(1, pP b1 0), (3, pP b2 0), (24, .slice A0 l0.length c0), (25, vI (l0.length : Int)), (26, vI (s : Int))]
abbrev punctualref_ReadImage.B0 (w0 : World) (l0 : List SIns) (A0 : Option Addr) (c0 : Nat) (b1 : Nat) (b2 : Nat) : (Unit ⊕ ((Option PImage) × SFault)) → Exit → Act → World → Prop := Exits 0 (fun (s : Unit) a w => St w0 w [Own.blk b2 (.cells #[vI 0, vI 0] 25 (0, 0)), Own.blk b1 (.cells #[.slice A0 l0.length c0] 22 (0, 0))] ∧ Frm 230 a [(1, pP b1 0), (3, pP b2 0)]) (Rets Tryd.prog Tryd.f11 (punctualref_ReadImage.Post w0 l0 A0 c0))
theorem punctualref_ReadImage_r0 (K : Nat) (w0 : World) (l0 : List SIns) (A0 : Option Addr) (c0 : Nat) (hR0 : RdL w0 A0 l0) (hL0 : l0.length ≤ c0) (b1 : Nat) (b2 : Nat) (hc1 : ¬ ((l0.length : Int) > 2000)) (s : Nat) (o : Nat ⊕ (Unit ⊕ ((Option PImage) × SFault))) (h : punctualref_ReadImage.r0 l0 s = some o) (a : Act) (w : World) (hA : punctualref_ReadImage.A0 w0 l0 A0 c0 b1 b2 s a w) (Q : Exit → Act → World → Prop) (hQ : ∀ x a w, Outs (punctualref_ReadImage.A0 w0 l0 A0 c0 b1 b2) (punctualref_ReadImage.B0 w0 l0 A0 c0 b1 b2) o x a w → Q x a w) : (subF Tryd.f11 [1, 1, 0, 1, 0, 0]).wp Tryd.prog Q a w := by
 obtain ⟨i1, hs⟩ : ∃ z, z = s := ⟨s, rfl⟩
 subst hs
 obtain ⟨hS, hF⟩ := hA
 replace hS : St w0 w [Own.blk b2 (.cells #[vI 0, vI 0] 25 (0, 0)), Own.blk b1 (.cells #[.slice A0 l0.length c0] 22 (0, 0))] := hS
 simp only [punctualref_ReadImage.r0] at h
 refine (?_ : WE Tryd.prog 230 (subF Tryd.f11 [1, 1, 0, 1, 0, 0]) Q [(1, pP b1 0), (3, pP b2 0), (24, .slice A0 l0.length c0), (25, vI (l0.length : Int)), (26, vI (i1 : Int))] w) a hF
 clear hF a
 refine ws fun K7 hK7 => ?_
 refine wr [(0, 0)] ?_
 refine gb0 [0] [(27, .bool (decide ((i1 : Int) < (l0.length : Int))))] ?_
 refine gn hK7 ?_
 refine ws fun K8 hK8 => ?_
 by_cases hc2 : (i1 : Int) < (l0.length : Int)
 ·rw [if_pos hc2] at h
  refine wk 27 (decide ((i1 : Int) < (l0.length : Int))) true (decide_eq_true hc2) ?_
  refine we_true (by kernel_rfl) ?_
  refine we_skip fun a hF => hK8 _ _ ?_ a hF
  refine ws fun K9 hK9 => ?_
  refine we_block ?_
  refine ws fun K10 hK10 => ?_
  refine wr [(0, 0), (1, 0), (2, 0), (3, 1), (4, 0), (5, 2)] ?_
  refine gb0 [0] [(28, vI (i1 : Int))] ?_
  rcases hx3 : l0[i1]? with _ | e1
  ·rw [hx3] at h; cases h
  rw [hx3] at h
  simp only [] at h
  refine gi 29 0 22 29 3 l0.length c0 (.tmp 24) (.tmp 26) A0 .i64 (i1 : Int) i1 ((hS.rd hR0).eqSome (pos_of_get hx3)) rfl (lt_of_get hx3) ?_
  refine gb [2] [(30, .agg #[vI e1.Op, vI e1.A, vI e1.B])] [.loaded ⟨blkOf A0, offOf A0 + i1 * 3, none⟩ (vI e1.Op), .loaded ⟨blkOf A0, offOf A0 + i1 * 3 + 1, none⟩ (vI e1.A), .loaded ⟨blkOf A0, offOf A0 + i1 * 3 + 2, none⟩ (vI e1.B)] ⟨RdL.cell (j := 0) (hS.rd hR0) hx3 rfl, RdL.cell (j := 1) (hS.rd hR0) hx3 rfl, RdL.cell (j := 2) (hS.rd hR0) hx3 rfl, trivial⟩ ?_
  refine gw (some 5) (.cells #[vI 0, vI 0, vI 0] 29) (fun b => pP b 0) hS fun b3 w5 hx4 hS10 => ?_
  refine gb0 [4] [(4, vI (i1 : Int))] ?_
  refine gs b3 0 #[vI 0, vI 0, vI 0] 29 [vI e1.Op, vI e1.A, vI e1.B] hS10 fun w6 hS11 => ?_
  have hS12 : St w0 w6 [Own.blk b3 (.cells #[vI e1.Op, vI e1.A, vI e1.B] 29 (0, 0)), Own.blk b2 (.cells #[vI 0, vI 0] 25 (0, 0)), Own.blk b1 (.cells #[.slice A0 l0.length c0] 22 (0, 0))] := hS11
  refine gn hK10 ?_
  refine ws fun K11 hK11 => ?_
  refine wr [(0, 0), (1, 1), (2, 0)] ?_
  rcases hq2 : punctualref_wrongIns.f e1 with _ | r1
  ·rw [hq2] at h; cases h
  rw [hq2] at h
  simp only [] at h
  refine gb [0] [(31, .agg #[vI e1.Op, vI e1.A, vI e1.B])] [.loaded ⟨b3, 0, none⟩ (vI e1.Op), .loaded ⟨b3, 1, none⟩ (vI e1.A), .loaded ⟨b3, 2, none⟩ (vI e1.B)] ⟨hS12.c 0, hS12.c 0, hS12.c 0, trivial⟩ ?_
  refine ge_call (d := some 32) (f := 31) (args := #[.agg #[vI e1.Op, vI e1.A, vI e1.B]]) (by kernel_rfl) (punctualref_wrongIns_ok e1 _ _ hq2) ?_
  rintro _ w7 ⟨rfl, hS13⟩
  refine ⟨_, rfl, hS13.below, ?_⟩
  have hS14 := hS12.call hS13
  refine gb0 [2] [(6, vI r1)] ?_
  refine gn hK11 ?_
  refine ws fun K12 hK12 => ?_
  refine wr [(0, 0), (1, 0)] ?_
  refine gb0 [0, 1] [(34, .bool (r1 != 0)), (33, vI r1)] ?_
  refine gn hK12 ?_
  by_cases hc3 : r1 = 0
  ·rw [if_pos hc3] at h
   refine wk 34 (r1 != 0) false (bne_eq_false_iff_eq.2 hc3) ?_
   refine we_false (by kernel_rfl) ?_
   refine we_skip fun a hF => hK9 _ _ ?_ a hF
   refine wr [(0, 0), (1, 0)] ?_
   refine ge_addn (d := 38) (ty := 3) (x := (.tmp 26)) (y := (.const (vI 1))) (t := 3) (t2 := 3) (k := .i64) (m := i1) (by kernel_rfl) (by kernel_rfl) (by kernel_rfl) (by have h0 := hR0.small; omega) ?_
   refine gb0 [1] [(26, vI ((i1 + 1 : Nat) : Int))] ?_
   have hS15 := hS14.bring 2 rfl
   have hS16 := hS15.bring 2 rfl
   have hS17 := hS16.takeN 2
   obtain rfl := si h
   exact ge_nil fun a hF => hQ _ _ _ (Outs.again ⟨hS17, hF.weaken ea⟩)
  ·rw [if_neg hc3] at h
   refine wk 34 (r1 != 0) true (bne_iff_ne.2 hc3) ?_
   refine we_true (by kernel_rfl) ?_
   refine ws fun K13 hK13 => ?_
   refine wr [(0, 0), (1, 0), (2, 1), (3, 0), (4, 2)] ?_
   refine gb0 [0, 1] [(36, vI (i1 : Int)), (35, vI r1)] ?_
   refine ge_call (d := some 37) (f := 9) (args := #[vI r1, vI (i1 : Int)]) (by kernel_rfl) (punctualref_F_ok r1 (i1 : Int) _ _ rfl) ?_
   rintro _ w8 ⟨rfl, hS18⟩
   refine ⟨_, rfl, hS18.below, ?_⟩
   have hS19 := hS14.call hS18
   refine gb0 [3] [(2, .pointer none)] ?_
   have hS20 := hS19.bring 1 rfl
   refine gs b2 0 #[vI 0, vI 0] 25 [vI ((punctualref_F.f r1 (i1 : Int)).Code), vI ((punctualref_F.f r1 (i1 : Int)).At)] hS20 fun w9 hS21 => ?_
   have hS22 : St w0 w9 [Own.blk b2 (.cells #[vI ((punctualref_F.f r1 (i1 : Int)).Code), vI ((punctualref_F.f r1 (i1 : Int)).At)] 25 (0, 0)), Own.blk b3 (.cells #[vI e1.Op, vI e1.A, vI e1.B] 29 (0, 0)), Own.blk b1 (.cells #[.slice A0 l0.length c0] 22 (0, 0))] := hS21
   refine gn hK13 ?_
   have hS23 := hS22.takeN 0
   obtain rfl := si h
   exact we_ret fun a hF => hQ _ _ _ (Outs.out nofun (Exits.on ⟨rfl, (pr [.tmp 2, .cell 3 25] [.pointer none, .agg #[vI ((punctualref_F.f r1 (i1 : Int)).Code), vI ((punctualref_F.f r1 (i1 : Int)).At)]] [.loaded ⟨b2, 0, none⟩ (vI ((punctualref_F.f r1 (i1 : Int)).Code)), .loaded ⟨b2, 1, none⟩ (vI ((punctualref_F.f r1 (i1 : Int)).At))] ⟨hS22.c 0, hS22.c 0, trivial⟩ ⟨rfl, hS23⟩) a hF⟩))
 ·rw [if_neg hc2] at h
  refine wk 27 (decide ((i1 : Int) < (l0.length : Int))) false (decide_eq_false hc2) ?_
  refine we_false (by kernel_rfl) ?_
  have hS24 := hS.bring 1 rfl
  have hS25 := hS24.bring 1 rfl
  obtain rfl := si h
  exact we_exit fun a hF => hQ _ _ _ (Outs.out nofun (Exits.here ⟨hS25, hF.weaken ea⟩))
abbrev punctualref_ReadImage.A2 (w0 : World) (l0 : List SIns) (A0 : Option Addr) (c0 : Nat) (b1 : Nat) (b2 : Nat) (b4 : Nat) (b5 : Nat) (i2 : Nat) (m1 : List Int) (m2 : List Sregion) (e2 : SIns) (b6 : Nat) (Z1 : Option Addr) (cz1 : Nat) (Z2 : Option Addr) (cz2 : Nat) : Int → Act → World → Prop := fun (s : Int) a w => St w0 w [Own.blk b6 (.cells #[vI e2.Op, vI e2.A, vI e2.B] 29 (0, 0)), Own.blk b5 (.cells #[(.slice Z1 m1.length cz1)] 37 (0, 0)), Own.blk b4 (.cells #[.slice A0 l0.length c0, (.slice Z2 m2.length cz2)] 70 (0, 0)), Own.blk b2 (.cells #[vI 0, vI 0] 25 (0, 0)), Own.blk b1 (.cells #[.slice A0 l0.length c0] 22 (0, 0)), Own.of (.slice Z1 m1.length cz1) 3 m1, Own.of (.slice Z2 m2.length cz2) 74 m2] ∧ Frm 230 a [(1, pP b1 0), (3, pP b2 0), (7, pP b4 0), (8, pP b5 0), (9, vI (i2 : Int)), (10, pP b6 0), (11, vI s), (42, .slice A0 l0.length c0), (43, vI (l0.length : Int)), (44, vI (i2 : Int))]
abbrev punctualref_ReadImage.B2 (w0 : World) (l0 : List SIns) (A0 : Option Addr) (c0 : Nat) : ((Option PImage) × SFault) → Exit → Act → World → Prop := Rets Tryd.prog Tryd.f11 (punctualref_ReadImage.Post w0 l0 A0 c0)
theorem punctualref_ReadImage_p2 (K : Nat) (w0 : World) (l0 : List SIns) (A0 : Option Addr) (c0 : Nat) (hR0 : RdL w0 A0 l0) (hL0 : l0.length ≤ c0) (b1 : Nat) (b2 : Nat) (hc1 : ¬ ((l0.length : Int) > 2000)) (b4 : Nat) (b5 : Nat) (i2 : Nat) (m1 : List Int) (m2 : List Sregion) (hc4 : (i2 : Int) < (l0.length : Int)) (e2 : SIns) (hx7 : l0[i2]? = some e2) (b6 : Nat) (Z1 : Option Addr) (cz1 : Nat) (Z2 : Option Addr) (cz2 : Nat) (o : Int ⊕ ((Option PImage) × SFault)) (h : punctualref_ReadImage.p2 m1 = some o) (w : World) (hS : St w0 w [Own.blk b6 (.cells #[vI e2.Op, vI e2.A, vI e2.B] 29 (0, 0)), Own.blk b5 (.cells #[(.slice Z1 m1.length cz1)] 37 (0, 0)), Own.blk b4 (.cells #[.slice A0 l0.length c0, (.slice Z2 m2.length cz2)] 70 (0, 0)), Own.blk b2 (.cells #[vI 0, vI 0] 25 (0, 0)), Own.blk b1 (.cells #[.slice A0 l0.length c0] 22 (0, 0)), Own.of (.slice Z1 m1.length cz1) 3 m1, Own.of (.slice Z2 m2.length cz2) 74 m2]) (Q : Exit → Act → World → Prop) (hQ : ∀ x a w, Outs (punctualref_ReadImage.A2 w0 l0 A0 c0 b1 b2 b4 b5 i2 m1 m2 e2 b6 Z1 cz1 Z2 cz2) (punctualref_ReadImage.B2 w0 l0 A0 c0) o x a w → Q x a w) : WE Tryd.prog 230 (subF Tryd.f11 [1, 1, 1, 1, 1, 0, 1, 0, 0, 1, 1, 0, 0, 1, 1, 0]) Q [(1, pP b1 0), (3, pP b2 0), (7, pP b4 0), (8, pP b5 0), (9, vI (i2 : Int)), (10, pP b6 0), (11, vI (-1)), (42, .slice A0 l0.length c0), (43, vI (l0.length : Int)), (44, vI (i2 : Int)), (45, .bool true), (46, vI (i2 : Int)), (47, .pointer (some ⟨blkOf A0, offOf A0 + i2 * 3, none⟩)), (48, .agg #[vI e2.Op, vI e2.A, vI e2.B])] w := by
 simp only [punctualref_ReadImage.p2] at h
 refine ws fun K24 hK24 => ?_
 refine wr [(0, 0), (1, 0), (2, 0)] ?_
 refine gb [0, 1, 2] [(51, .bool (decide ((m1.length : Int) > 0))), (50, vI (m1.length : Int)), (49, (.slice Z1 m1.length cz1))] [.loaded ⟨b5, 0, none⟩ ((.slice Z1 m1.length cz1))] ⟨hS.c 1, trivial⟩ ?_
 refine gn hK24 ?_
 by_cases hc5 : (m1.length : Int) > 0
 ·rw [if_pos hc5] at h
  refine wk 51 (decide ((m1.length : Int) > 0)) true (decide_eq_true hc5) ?_
  refine we_true (by kernel_rfl) ?_
  refine wr [(0, 0), (1, 0), (2, 0), (3, 0), (4, 0), (5, 0), (6, 0)] ?_
  refine gb [0, 1, 2, 3] [(55, vI (IntKind.i64.wrap ((m1.length : Int) - 1))), (54, vI (m1.length : Int)), (53, (.slice Z1 m1.length cz1)), (52, (.slice Z1 m1.length cz1))] [.loaded ⟨b5, 0, none⟩ ((.slice Z1 m1.length cz1)), .loaded ⟨b5, 0, none⟩ ((.slice Z1 m1.length cz1))] ⟨hS.c 1, hS.c 1, trivial⟩ ?_
  by_cases hc6 : 0 ≤ (IntKind.i64.wrap ((m1.length : Int) - 1))
  ·rw [if_pos hc6] at h
   rcases hx9 : m1[(IntKind.i64.wrap ((m1.length : Int) - 1)).toNat]? with _ | e3
   ·rw [hx9] at h; cases h
   rw [hx9] at h
   simp only [] at h
   refine gi 56 0 37 3 1 m1.length cz1 (.tmp 52) (.tmp 55) Z1 .i64 (IntKind.i64.wrap ((m1.length : Int) - 1)) ((IntKind.i64.wrap ((m1.length : Int) - 1)).toNat) ((hS.rdAt 5 rfl).eqSome (pos_of_get hx9)) (Int.toNat_of_nonneg hc6).symm (lt_of_get hx9) ?_
   refine gb [5, 6] [(11, vI e3), (57, vI e3)] [.loaded ⟨blkOf Z1, offOf Z1 + ((IntKind.i64.wrap ((m1.length : Int) - 1)).toNat) * 1, none⟩ (vI e3)] ⟨RdL.cell (j := 0) (hS.rdAt 5 rfl) hx9 rfl, trivial⟩ ?_
   have hS39 := hS.bring 6 rfl
   have hS40 := hS39.bring 6 rfl
   have hS41 := hS40.bring 6 rfl
   have hS42 := hS41.bring 6 rfl
   have hS43 := hS42.bring 6 rfl
   have hS44 := hS43.bring 6 rfl
   have hS45 := hS44.bring 6 rfl
   obtain rfl := si h
   exact ge_nil fun a hF => hQ _ _ _ (Outs.again ⟨hS45, hF.weaken ea⟩)
  ·rw [if_neg hc6] at h
   cases h
 ·rw [if_neg hc5] at h
  refine wk 51 (decide ((m1.length : Int) > 0)) false (decide_eq_false hc5) ?_
  refine we_false (by kernel_rfl) ?_
  have hS46 := hS.bring 6 rfl
  have hS47 := hS46.bring 6 rfl
  have hS48 := hS47.bring 6 rfl
  have hS49 := hS48.bring 6 rfl
  have hS50 := hS49.bring 6 rfl
  have hS51 := hS50.bring 6 rfl
  have hS52 := hS51.bring 6 rfl
  obtain rfl := si h
  exact we_skip fun a hF => hQ _ _ _ (Outs.again ⟨hS52, hF.weaken ea⟩)
abbrev punctualref_ReadImage.A3 (w0 : World) (l0 : List SIns) (A0 : Option Addr) (c0 : Nat) (b1 : Nat) (b2 : Nat) (b4 : Nat) (b5 : Nat) (i2 : Nat) (m1 : List Int) (m2 : List Sregion) (e2 : SIns) (b6 : Nat) (Z1 : Option Addr) (cz1 : Nat) (Z2 : Option Addr) (cz2 : Nat) (z2 : Int) : Bool → Act → World → Prop := fun (s : Bool) a w => St w0 w [Own.blk b6 (.cells #[vI e2.Op, vI e2.A, vI e2.B] 29 (0, 0)), Own.blk b5 (.cells #[(.slice Z1 m1.length cz1)] 37 (0, 0)), Own.blk b4 (.cells #[.slice A0 l0.length c0, (.slice Z2 m2.length cz2)] 70 (0, 0)), Own.blk b2 (.cells #[vI 0, vI 0] 25 (0, 0)), Own.blk b1 (.cells #[.slice A0 l0.length c0] 22 (0, 0)), Own.of (.slice Z1 m1.length cz1) 3 m1, Own.of (.slice Z2 m2.length cz2) 74 m2] ∧ Frm 230 a [(1, pP b1 0), (3, pP b2 0), (7, pP b4 0), (8, pP b5 0), (9, vI (i2 : Int)), (10, pP b6 0), (11, vI z2), (12, .func (.func 32) #[] #[pP b5 0, pP b1 0, pP b6 0]), (42, .slice A0 l0.length c0), (43, vI (l0.length : Int)), (44, vI (i2 : Int)), (60, vI e2.Op), (61, .bool s)]
abbrev punctualref_ReadImage.B3 (w0 : World) (l0 : List SIns) (A0 : Option Addr) (c0 : Nat) : ((Option PImage) × SFault) → Exit → Act → World → Prop := Rets Tryd.prog Tryd.f11 (punctualref_ReadImage.Post w0 l0 A0 c0)
theorem punctualref_ReadImage_p3 (K : Nat) (w0 : World) (l0 : List SIns) (A0 : Option Addr) (c0 : Nat) (hR0 : RdL w0 A0 l0) (hL0 : l0.length ≤ c0) (b1 : Nat) (b2 : Nat) (hc1 : ¬ ((l0.length : Int) > 2000)) (b4 : Nat) (b5 : Nat) (i2 : Nat) (m1 : List Int) (m2 : List Sregion) (hc4 : (i2 : Int) < (l0.length : Int)) (e2 : SIns) (hx7 : l0[i2]? = some e2) (b6 : Nat) (Z1 : Option Addr) (cz1 : Nat) (Z2 : Option Addr) (cz2 : Nat) (z2 : Int) (o : Bool ⊕ ((Option PImage) × SFault)) (h : punctualref_ReadImage.p3 e2 = some o) (w : World) (hS : St w0 w [Own.blk b6 (.cells #[vI e2.Op, vI e2.A, vI e2.B] 29 (0, 0)), Own.blk b5 (.cells #[(.slice Z1 m1.length cz1)] 37 (0, 0)), Own.blk b4 (.cells #[.slice A0 l0.length c0, (.slice Z2 m2.length cz2)] 70 (0, 0)), Own.blk b2 (.cells #[vI 0, vI 0] 25 (0, 0)), Own.blk b1 (.cells #[.slice A0 l0.length c0] 22 (0, 0)), Own.of (.slice Z1 m1.length cz1) 3 m1, Own.of (.slice Z2 m2.length cz2) 74 m2]) (Q : Exit → Act → World → Prop) (hQ : ∀ x a w, Outs (punctualref_ReadImage.A3 w0 l0 A0 c0 b1 b2 b4 b5 i2 m1 m2 e2 b6 Z1 cz1 Z2 cz2 z2) (punctualref_ReadImage.B3 w0 l0 A0 c0) o x a w → Q x a w) : WE Tryd.prog 230 (subF Tryd.f11 [1, 1, 1, 1, 1, 0, 1, 0, 0, 1, 1, 0, 0, 1, 1, 1, 1, 1, 0, 0]) Q [(1, pP b1 0), (3, pP b2 0), (7, pP b4 0), (8, pP b5 0), (9, vI (i2 : Int)), (10, pP b6 0), (11, vI z2), (12, .func (.func 32) #[] #[pP b5 0, pP b1 0, pP b6 0]), (42, .slice A0 l0.length c0), (43, vI (l0.length : Int)), (44, vI (i2 : Int)), (58, .func (.func 32) #[] #[pP b5 0, pP b1 0, pP b6 0]), (59, pP b6 0), (60, vI e2.Op)] w := by
 simp only [punctualref_ReadImage.p3] at h
 refine ws fun K28 hK28 => ?_
 refine wr [(0, 0), (1, 0)] ?_
 refine gb0 [0, 1] [(61, .bool (e2.Op == 13)), (62, .bool (e2.Op == 13))] ?_
 refine gn hK28 ?_
 by_cases hc7 : e2.Op = 13
 ·rw [if_pos hc7] at h
  refine wk 61 (e2.Op == 13) true (beq_iff_eq.2 hc7) ?_
  refine we_true (by kernel_rfl) ?_
  have hS54 := hS.bring 6 rfl
  have hS55 := hS54.bring 6 rfl
  have hS56 := hS55.bring 6 rfl
  have hS57 := hS56.bring 6 rfl
  have hS58 := hS57.bring 6 rfl
  have hS59 := hS58.bring 6 rfl
  have hS60 := hS59.bring 6 rfl
  obtain rfl := si h
  exact we_skip fun a hF => hQ _ _ _ (Outs.again ⟨hS60, hF.weaken ea⟩)
 ·rw [if_neg hc7] at h
  refine wk 61 (e2.Op == 13) false (beq_eq_false_iff_ne.2 hc7) ?_
  refine we_false (by kernel_rfl) ?_
  refine wr [(0, 0), (1, 0)] ?_
  refine gb0 [0, 1] [(61, .bool (e2.Op == 16)), (63, .bool (e2.Op == 16))] ?_
  have hS61 := hS.bring 6 rfl
  have hS62 := hS61.bring 6 rfl
  have hS63 := hS62.bring 6 rfl
  have hS64 := hS63.bring 6 rfl
  have hS65 := hS64.bring 6 rfl
  have hS66 := hS65.bring 6 rfl
  have hS67 := hS66.bring 6 rfl
  obtain rfl := si h
  exact ge_nil fun a hF => hQ _ _ _ (Outs.again ⟨hS67, hF.weaken ea⟩)
abbrev punctualref_ReadImage.A4 (w0 : World) (l0 : List SIns) (A0 : Option Addr) (c0 : Nat) (b1 : Nat) (b2 : Nat) (b4 : Nat) (b5 : Nat) (i2 : Nat) (m1 : List Int) (m2 : List Sregion) (e2 : SIns) (b6 : Nat) (Z1 : Option Addr) (cz1 : Nat) (Z2 : Option Addr) (cz2 : Nat) (z2 : Int) : Bool → Act → World → Prop := fun (s : Bool) a w => St w0 w [Own.blk b6 (.cells #[vI e2.Op, vI e2.A, vI e2.B] 29 (0, 0)), Own.blk b5 (.cells #[(.slice Z1 m1.length cz1)] 37 (0, 0)), Own.blk b4 (.cells #[.slice A0 l0.length c0, (.slice Z2 m2.length cz2)] 70 (0, 0)), Own.blk b2 (.cells #[vI 0, vI 0] 25 (0, 0)), Own.blk b1 (.cells #[.slice A0 l0.length c0] 22 (0, 0)), Own.of (.slice Z1 m1.length cz1) 3 m1, Own.of (.slice Z2 m2.length cz2) 74 m2] ∧ Frm 230 a [(1, pP b1 0), (3, pP b2 0), (7, pP b4 0), (8, pP b5 0), (9, vI (i2 : Int)), (10, pP b6 0), (11, vI z2), (12, .func (.func 32) #[] #[pP b5 0, pP b1 0, pP b6 0]), (42, .slice A0 l0.length c0), (43, vI (l0.length : Int)), (44, vI (i2 : Int)), (60, vI e2.Op), (79, .bool s)]
abbrev punctualref_ReadImage.B4 (w0 : World) (l0 : List SIns) (A0 : Option Addr) (c0 : Nat) : ((Option PImage) × SFault) → Exit → Act → World → Prop := Rets Tryd.prog Tryd.f11 (punctualref_ReadImage.Post w0 l0 A0 c0)
theorem punctualref_ReadImage_p4 (K : Nat) (w0 : World) (l0 : List SIns) (A0 : Option Addr) (c0 : Nat) (hR0 : RdL w0 A0 l0) (hL0 : l0.length ≤ c0) (b1 : Nat) (b2 : Nat) (hc1 : ¬ ((l0.length : Int) > 2000)) (b4 : Nat) (b5 : Nat) (i2 : Nat) (m1 : List Int) (m2 : List Sregion) (hc4 : (i2 : Int) < (l0.length : Int)) (e2 : SIns) (hx7 : l0[i2]? = some e2) (b6 : Nat) (Z1 : Option Addr) (cz1 : Nat) (Z2 : Option Addr) (cz2 : Nat) (z2 : Int) (q2 : Bool) (hc8 : ¬ (q2 = true)) (o : Bool ⊕ ((Option PImage) × SFault)) (h : punctualref_ReadImage.p4 e2 = some o) (w : World) (hS : St w0 w [Own.blk b6 (.cells #[vI e2.Op, vI e2.A, vI e2.B] 29 (0, 0)), Own.blk b5 (.cells #[(.slice Z1 m1.length cz1)] 37 (0, 0)), Own.blk b4 (.cells #[.slice A0 l0.length c0, (.slice Z2 m2.length cz2)] 70 (0, 0)), Own.blk b2 (.cells #[vI 0, vI 0] 25 (0, 0)), Own.blk b1 (.cells #[.slice A0 l0.length c0] 22 (0, 0)), Own.of (.slice Z1 m1.length cz1) 3 m1, Own.of (.slice Z2 m2.length cz2) 74 m2]) (Q : Exit → Act → World → Prop) (hQ : ∀ x a w, Outs (punctualref_ReadImage.A4 w0 l0 A0 c0 b1 b2 b4 b5 i2 m1 m2 e2 b6 Z1 cz1 Z2 cz2 z2) (punctualref_ReadImage.B4 w0 l0 A0 c0) o x a w → Q x a w) : WE Tryd.prog 230 (subF Tryd.f11 [1, 1, 1, 1, 1, 0, 1, 0, 0, 1, 1, 0, 0, 1, 1, 1, 1, 1, 0, 1, 1, 0]) Q [(1, pP b1 0), (3, pP b2 0), (7, pP b4 0), (8, pP b5 0), (9, vI (i2 : Int)), (10, pP b6 0), (11, vI z2), (12, .func (.func 32) #[] #[pP b5 0, pP b1 0, pP b6 0]), (42, .slice A0 l0.length c0), (43, vI (l0.length : Int)), (44, vI (i2 : Int)), (60, vI e2.Op), (61, .bool false)] w := by
 simp only [punctualref_ReadImage.p4] at h
 refine ws fun K33 hK33 => ?_
 refine wr [(0, 0), (1, 0)] ?_
 refine gb0 [0, 1] [(79, .bool (e2.Op == 14)), (80, .bool (e2.Op == 14))] ?_
 refine gn hK33 ?_
 by_cases hc11 : e2.Op = 14
 ·rw [if_pos hc11] at h
  refine wk 79 (e2.Op == 14) true (beq_iff_eq.2 hc11) ?_
  refine we_true (by kernel_rfl) ?_
  have hS94 := hS.bring 6 rfl
  have hS95 := hS94.bring 6 rfl
  have hS96 := hS95.bring 6 rfl
  have hS97 := hS96.bring 6 rfl
  have hS98 := hS97.bring 6 rfl
  have hS99 := hS98.bring 6 rfl
  have hS100 := hS99.bring 6 rfl
  obtain rfl := si h
  exact we_skip fun a hF => hQ _ _ _ (Outs.again ⟨hS100, hF.weaken ea⟩)
 ·rw [if_neg hc11] at h
  refine wk 79 (e2.Op == 14) false (beq_eq_false_iff_ne.2 hc11) ?_
  refine we_false (by kernel_rfl) ?_
  refine wr [(0, 0), (1, 0)] ?_
  refine gb0 [0, 1] [(79, .bool (e2.Op == 17)), (81, .bool (e2.Op == 17))] ?_
  have hS101 := hS.bring 6 rfl
  have hS102 := hS101.bring 6 rfl
  have hS103 := hS102.bring 6 rfl
  have hS104 := hS103.bring 6 rfl
  have hS105 := hS104.bring 6 rfl
  have hS106 := hS105.bring 6 rfl
  have hS107 := hS106.bring 6 rfl
  obtain rfl := si h
  exact ge_nil fun a hF => hQ _ _ _ (Outs.again ⟨hS107, hF.weaken ea⟩)
abbrev punctualref_ReadImage.A5 (w0 : World) (l0 : List SIns) (A0 : Option Addr) (c0 : Nat) (b1 : Nat) (b2 : Nat) (b4 : Nat) (b5 : Nat) (i2 : Nat) (m1 : List Int) (m2 : List Sregion) (Z1 : Option Addr) (cz1 : Nat) (Z2 : Option Addr) (cz2 : Nat) (z2 : Int) : Unit → Act → World → Prop := fun (s : Unit) a w => St w0 w [Own.blk b5 (.cells #[(.slice Z1 m1.length cz1)] 37 (0, 0)), Own.blk b4 (.cells #[.slice A0 l0.length c0, (.slice Z2 m2.length cz2)] 70 (0, 0)), Own.blk b2 (.cells #[vI 0, vI 0] 25 (0, 0)), Own.blk b1 (.cells #[.slice A0 l0.length c0] 22 (0, 0)), Own.of (.slice Z1 m1.length cz1) 3 m1, Own.of (.slice Z2 m2.length cz2) 74 m2] ∧ Frm 230 a [(1, pP b1 0), (3, pP b2 0), (7, pP b4 0), (8, pP b5 0), (9, vI (i2 : Int)), (11, vI z2), (42, .slice A0 l0.length c0), (43, vI (l0.length : Int)), (44, vI (i2 : Int))]
abbrev punctualref_ReadImage.B5 (w0 : World) (l0 : List SIns) (A0 : Option Addr) (c0 : Nat) : ((Option PImage) × SFault) → Exit → Act → World → Prop := Rets Tryd.prog Tryd.f11 (punctualref_ReadImage.Post w0 l0 A0 c0)
theorem punctualref_ReadImage_p5 (K : Nat) (w0 : World) (l0 : List SIns) (A0 : Option Addr) (c0 : Nat) (hR0 : RdL w0 A0 l0) (hL0 : l0.length ≤ c0) (b1 : Nat) (b2 : Nat) (hc1 : ¬ ((l0.length : Int) > 2000)) (b4 : Nat) (b5 : Nat) (i2 : Nat) (m1 : List Int) (m2 : List Sregion) (hc4 : (i2 : Int) < (l0.length : Int)) (e2 : SIns) (hx7 : l0[i2]? = some e2) (b6 : Nat) (Z1 : Option Addr) (cz1 : Nat) (Z2 : Option Addr) (cz2 : Nat) (z2 : Int) (q2 : Bool) (hc8 : ¬ (q2 = true)) (q4 : Bool) (hc12 : q4 = true) (o : Unit ⊕ ((Option PImage) × SFault)) (h : punctualref_ReadImage.p5 l0 i2 e2 z2 = some o) (w : World) (hS : St w0 w [Own.blk b6 (.cells #[vI e2.Op, vI e2.A, vI e2.B] 29 (0, 0)), Own.blk b5 (.cells #[(.slice Z1 m1.length cz1)] 37 (0, 0)), Own.blk b4 (.cells #[.slice A0 l0.length c0, (.slice Z2 m2.length cz2)] 70 (0, 0)), Own.blk b2 (.cells #[vI 0, vI 0] 25 (0, 0)), Own.blk b1 (.cells #[.slice A0 l0.length c0] 22 (0, 0)), Own.of (.slice Z1 m1.length cz1) 3 m1, Own.of (.slice Z2 m2.length cz2) 74 m2]) (Q : Exit → Act → World → Prop) (hQ : ∀ x a w, Outs (punctualref_ReadImage.A5 w0 l0 A0 c0 b1 b2 b4 b5 i2 m1 m2 Z1 cz1 Z2 cz2 z2) (punctualref_ReadImage.B5 w0 l0 A0 c0) o x a w → Q x a w) : WE Tryd.prog 230 (subF Tryd.f11 [1, 1, 1, 1, 1, 0, 1, 0, 0, 1, 1, 0, 0, 1, 1, 1, 1, 1, 0, 1, 1, 1, 0, 0]) Q [(1, pP b1 0), (3, pP b2 0), (7, pP b4 0), (8, pP b5 0), (9, vI (i2 : Int)), (10, pP b6 0), (11, vI z2), (12, .func (.func 32) #[] #[pP b5 0, pP b1 0, pP b6 0]), (42, .slice A0 l0.length c0), (43, vI (l0.length : Int)), (44, vI (i2 : Int)), (60, vI e2.Op), (79, .bool true)] w := by
 simp only [punctualref_ReadImage.p5] at h
 refine ws fun K35 hK35 => ?_
 refine we_orders2 (by kernel_rfl) [(3, [⟨b1, 0, none⟩]), (7, [⟨blkOf A0, offOf A0 + ((z2).toNat) * 3, none⟩]), (13, [⟨b6, 0, none⟩]), (18, [⟨b1, 0, none⟩]), (22, [⟨blkOf A0, offOf A0 + ((z2).toNat) * 3 + 1, none⟩]), (24, [⟨b6, 1, none⟩]), (29, [⟨b6, 0, none⟩]), (33, [⟨b6, 2, none⟩])] (.vals [0] (.vals [1] (.vals [2] (.vals [3] (.vals [4] (.vals [5] (.vals [6] (.vals [7] (.vals [12] (.vals [13] (.alt 8 1 (.alt 9 2 (.alt 10 2 (.vals [11] (.alt 14 1 (.vals [15] (.vals [16] (.vals [17] (.vals [18] (.vals [19] (.vals [20] (.vals [21] (.vals [22] (.vals [23] (.vals [24] (.vals [25] (.vals [26] (.vals [27] (.vals [28] (.vals [29] (.vals [30] (.vals [31] (.vals [32] (.vals [33] (.vals [34] (.vals [35] (.vals [36] (.vals [37] (.vals [38] .fin)))))))))))))))))))))))) .nomore)) .nomore) (.alt 10 2 (.alt 9 2 (.vals [11] (.alt 14 1 (.vals [15] (.vals [16] (.vals [17] (.vals [18] (.vals [19] (.vals [20] (.vals [21] (.vals [22] (.vals [23] (.vals [24] (.vals [25] (.vals [26] (.vals [27] (.vals [28] (.vals [29] (.vals [30] (.vals [31] (.vals [32] (.vals [33] (.vals [34] (.vals [35] (.vals [36] (.vals [37] (.vals [38] .fin)))))))))))))))))))))))) .nomore)) .nomore) .nomore)) .nomore))))))))))) (by kernel_rfl) ?_
 have hS109 := hS.drew
 refine go2_batch [0, 1, 2] (ans := []) (vs := [(84, .bool (decide (z2 < 0))), (83, .bool (decide (z2 < 0))), (82, vI z2)]) (l := []) (by kernel_rfl) trivial mem_nil ?_
 by_cases hc13 : z2 < 0
 ·rw [if_pos hc13] at h
  refine go2_known (t := 84) (b := decide (z2 < 0)) (c := true) (by kernel_rfl) (decide_eq_true hc13) ?_
  refine go2_batch [3, 4, 5, 6, 7, 12, 13] (ans := []) (vs := [(93, undef), (92, undef), (89, undef), (88, undef), (87, undef), (86, undef), (85, undef)]) (l := []) (by kernel_rfl) trivial mem_nil ?_
  refine go_alt2 (fun KK hKK => ?_) ?_
  ·refine ge_one2 ?_
   refine ge_off rfl rfl rfl (by kernel_rfl) ?_
   refine ge_nil fun a hF => hKK _ _ (RS.refl _ _) ?_ a hF
   refine go_alt2 (fun KK hKK => ?_) ?_
   ·refine ge_offN rfl rfl (by kernel_rfl) ?_
    refine ge_nil fun a hF => hKK _ _ (RS.refl _ _) ?_ a hF
    refine go_alt2 (fun KK hKK => ?_) ?_
    ·refine ge_offN rfl rfl (by kernel_rfl) ?_
     refine ge_nil fun a hF => hKK _ _ (RS.refl _ _) ?_ a hF
     refine go2_batch [11] (ans := []) (vs := [(91, undef)]) (l := []) (by kernel_rfl) trivial mem_nil ?_
     refine go_alt2 (fun KK hKK => ?_) ?_
     ·refine ge_off rfl rfl rfl (by kernel_rfl) ?_
      refine ge_nil fun a hF => hKK _ _ (RS.refl _ _) ?_ a hF
      refine go2_batch [15, 16, 17, 18, 19, 20, 21, 22, 23, 24, 25, 26, 27, 28, 29, 30, 31, 32, 33, 34, 35, 36, 37, 38] (ans := []) (vs := [(118, .bool true), (117, undef), (116, undef), (115, undef), (114, undef), (113, undef), (112, undef), (111, undef), (110, undef), (109, undef), (108, undef), (107, .bool true), (106, .bool true), (105, undef), (104, undef), (103, undef), (102, undef), (101, undef), (100, undef), (99, undef), (98, undef), (97, .bool true), (96, .bool true), (95, undef)]) (l := []) (by kernel_rfl) trivial mem_nil ?_
      refine go_fin2 fun a hF => hK35 _ _ ?_ a hF
      refine we_true (by kernel_rfl) ?_
      refine ws fun K36 hK36 => ?_
      refine wr [(0, 1), (1, 2), (2, 2), (3, 0), (4, 0), (5, 0), (6, 0), (7, 0), (8, 1), (9, 0), (10, 2)] ?_
      refine gw (some 119) (.map #[] 0) (fun b => .map (some b)) hS109 fun b9 w27 hx12 hS110 => ?_
      have hS111 := hS110.newMap (κ := Int) (ν := Int)
      refine ge_mapSet (κ := Int) (ν := Int) (b := b9) (ins := true) (mm := 0) (t := 72) (kt := 3) (et := 23) (x := (.tmp 119)) (y := (.const (vI 14))) (u := (.const (vI 9))) (ty := 0) (m := ([] : List (Int × Int))) (k := 14) (v := 9) (vv := vI 9) (by kernel_rfl) (by kernel_rfl) (by kernel_rfl) (by kernel_rfl) rfl (by kernel_rfl) (by kernel_rfl) hS111 fun w28 hS112 => ?_
      refine ge_mapSet (κ := Int) (ν := Int) (b := b9) (ins := true) (mm := 0) (t := 72) (kt := 3) (et := 23) (x := (.tmp 119)) (y := (.const (vI 17))) (u := (.const (vI 10))) (ty := 0) (m := (mset ([] : List (Int × Int)) 14 9)) (k := 17) (v := 10) (vv := vI 10) (by kernel_rfl) (by kernel_rfl) (by kernel_rfl) (by kernel_rfl) rfl (by kernel_rfl) (by kernel_rfl) hS112 fun w29 hS113 => ?_
      refine gb [3, 4, 5] [(122, vI e2.Op), (121, pP b6 0), (120, .map (some b9))] [.loaded ⟨b6, 0, none⟩ (vI e2.Op)] ⟨hS113.c 1, trivial⟩ ?_
      refine ge_lookup (κ := Int) (ν := Int) (d := 123) (b := b9) (q := 0) (t := 72) (kt := 3) (et := 23) (x := (.tmp 120)) (y := (.tmp 122)) (ty := 23) (m := (mset (mset ([] : List (Int × Int)) 14 9) 17 10)) (k := e2.Op) (z := 0) (v := ((mget (mset (mset ([] : List (Int × Int)) 14 9) 17 10) e2.Op).getD 0)) (zv := vI 0) (vv := vI ((mget (mset (mset ([] : List (Int × Int)) 14 9) 17 10) e2.Op).getD 0)) (by kernel_rfl) (by kernel_rfl) (by kernel_rfl) (by kernel_rfl) (by kernel_rfl) (fun w' => by kernel_rfl) rfl hS113 rfl rfl rfl ?_
      refine gb0 [7] [(124, vI (i2 : Int))] ?_
      refine ge_call (d := some 125) (f := 9) (args := #[vI ((mget (mset (mset ([] : List (Int × Int)) 14 9) 17 10) e2.Op).getD 0), vI (i2 : Int)]) (by kernel_rfl) (punctualref_F_ok ((mget (mset (mset ([] : List (Int × Int)) 14 9) 17 10) e2.Op).getD 0) (i2 : Int) _ _ rfl) ?_
      rintro _ w30 ⟨rfl, hS114⟩
      refine ⟨_, rfl, hS114.below, ?_⟩
      have hS115 := hS113.call hS114
      refine gb0 [9] [(2, .pointer none)] ?_
      have hS116 := hS115.bring 4 rfl
      refine gs b2 0 #[vI 0, vI 0] 25 [vI ((punctualref_F.f ((mget (mset (mset ([] : List (Int × Int)) 14 9) 17 10) e2.Op).getD 0) (i2 : Int)).Code), vI ((punctualref_F.f ((mget (mset (mset ([] : List (Int × Int)) 14 9) 17 10) e2.Op).getD 0) (i2 : Int)).At)] hS116 fun w31 hS117 => ?_
      have hS118 : St w0 w31 [Own.blk b2 (.cells #[vI ((punctualref_F.f ((mget (mset (mset ([] : List (Int × Int)) 14 9) 17 10) e2.Op).getD 0) (i2 : Int)).Code), vI ((punctualref_F.f ((mget (mset (mset ([] : List (Int × Int)) 14 9) 17 10) e2.Op).getD 0) (i2 : Int)).At)] 25 (0, 0)), Own.map (κ := Int) (ν := Int) b9 (mset (mset ([] : List (Int × Int)) 14 9) 17 10), Own.blk b6 (.cells #[vI e2.Op, vI e2.A, vI e2.B] 29 (0, 0)), Own.blk b5 (.cells #[(.slice Z1 m1.length cz1)] 37 (0, 0)), Own.blk b4 (.cells #[.slice A0 l0.length c0, (.slice Z2 m2.length cz2)] 70 (0, 0)), Own.blk b1 (.cells #[.slice A0 l0.length c0] 22 (0, 0)), Own.of (.slice Z1 m1.length cz1) 3 m1, Own.of (.slice Z2 m2.length cz2) 74 m2] := hS117
      refine gn hK36 ?_
      have hS119 := hS118.takeN 0
      obtain rfl := si h
      exact we_ret fun a hF => hQ _ _ _ (Outs.out nofun ⟨rfl, (pr [.tmp 2, .cell 3 25] [.pointer none, .agg #[vI ((punctualref_F.f ((mget (mset (mset ([] : List (Int × Int)) 14 9) 17 10) e2.Op).getD 0) (i2 : Int)).Code), vI ((punctualref_F.f ((mget (mset (mset ([] : List (Int × Int)) 14 9) 17 10) e2.Op).getD 0) (i2 : Int)).At)]] [.loaded ⟨b2, 0, none⟩ (vI ((punctualref_F.f ((mget (mset (mset ([] : List (Int × Int)) 14 9) 17 10) e2.Op).getD 0) (i2 : Int)).Code)), .loaded ⟨b2, 1, none⟩ (vI ((punctualref_F.f ((mget (mset (mset ([] : List (Int × Int)) 14 9) 17 10) e2.Op).getD 0) (i2 : Int)).At))] ⟨hS118.c 0, hS118.c 0, trivial⟩ ⟨rfl, hS119⟩) a hF⟩)
     exact go_nomore2
    exact go_nomore2
   refine go_alt2 (fun KK hKK => ?_) ?_
   ·refine ge_offN rfl rfl (by kernel_rfl) ?_
    refine ge_nil fun a hF => hKK _ _ (RS.refl _ _) ?_ a hF
    refine go_alt2 (fun KK hKK => ?_) ?_
    ·refine ge_offN rfl rfl (by kernel_rfl) ?_
     refine ge_nil fun a hF => hKK _ _ (RS.refl _ _) ?_ a hF
     refine go2_batch [11] (ans := []) (vs := [(91, undef)]) (l := []) (by kernel_rfl) trivial mem_nil ?_
     refine go_alt2 (fun KK hKK => ?_) ?_
     ·refine ge_off rfl rfl rfl (by kernel_rfl) ?_
      refine ge_nil fun a hF => hKK _ _ (RS.refl _ _) ?_ a hF
      refine go2_batch [15, 16, 17, 18, 19, 20, 21, 22, 23, 24, 25, 26, 27, 28, 29, 30, 31, 32, 33, 34, 35, 36, 37, 38] (ans := []) (vs := [(118, .bool true), (117, undef), (116, undef), (115, undef), (114, undef), (113, undef), (112, undef), (111, undef), (110, undef), (109, undef), (108, undef), (107, .bool true), (106, .bool true), (105, undef), (104, undef), (103, undef), (102, undef), (101, undef), (100, undef), (99, undef), (98, undef), (97, .bool true), (96, .bool true), (95, undef)]) (l := []) (by kernel_rfl) trivial mem_nil ?_
      refine go_fin2 fun a hF => hK35 _ _ ?_ a hF
      refine we_true (by kernel_rfl) ?_
      refine ws fun K36 hK36 => ?_
      refine wr [(0, 1), (1, 2), (2, 2), (3, 0), (4, 0), (5, 0), (6, 0), (7, 0), (8, 1), (9, 0), (10, 2)] ?_
      refine gw (some 119) (.map #[] 0) (fun b => .map (some b)) hS109 fun b9 w27 hx12 hS110 => ?_
      have hS111 := hS110.newMap (κ := Int) (ν := Int)
      refine ge_mapSet (κ := Int) (ν := Int) (b := b9) (ins := true) (mm := 0) (t := 72) (kt := 3) (et := 23) (x := (.tmp 119)) (y := (.const (vI 14))) (u := (.const (vI 9))) (ty := 0) (m := ([] : List (Int × Int))) (k := 14) (v := 9) (vv := vI 9) (by kernel_rfl) (by kernel_rfl) (by kernel_rfl) (by kernel_rfl) rfl (by kernel_rfl) (by kernel_rfl) hS111 fun w28 hS112 => ?_
      refine ge_mapSet (κ := Int) (ν := Int) (b := b9) (ins := true) (mm := 0) (t := 72) (kt := 3) (et := 23) (x := (.tmp 119)) (y := (.const (vI 17))) (u := (.const (vI 10))) (ty := 0) (m := (mset ([] : List (Int × Int)) 14 9)) (k := 17) (v := 10) (vv := vI 10) (by kernel_rfl) (by kernel_rfl) (by kernel_rfl) (by kernel_rfl) rfl (by kernel_rfl) (by kernel_rfl) hS112 fun w29 hS113 => ?_
      refine gb [3, 4, 5] [(122, vI e2.Op), (121, pP b6 0), (120, .map (some b9))] [.loaded ⟨b6, 0, none⟩ (vI e2.Op)] ⟨hS113.c 1, trivial⟩ ?_
      refine ge_lookup (κ := Int) (ν := Int) (d := 123) (b := b9) (q := 0) (t := 72) (kt := 3) (et := 23) (x := (.tmp 120)) (y := (.tmp 122)) (ty := 23) (m := (mset (mset ([] : List (Int × Int)) 14 9) 17 10)) (k := e2.Op) (z := 0) (v := ((mget (mset (mset ([] : List (Int × Int)) 14 9) 17 10) e2.Op).getD 0)) (zv := vI 0) (vv := vI ((mget (mset (mset ([] : List (Int × Int)) 14 9) 17 10) e2.Op).getD 0)) (by kernel_rfl) (by kernel_rfl) (by kernel_rfl) (by kernel_rfl) (by kernel_rfl) (fun w' => by kernel_rfl) rfl hS113 rfl rfl rfl ?_
      refine gb0 [7] [(124, vI (i2 : Int))] ?_
      refine ge_call (d := some 125) (f := 9) (args := #[vI ((mget (mset (mset ([] : List (Int × Int)) 14 9) 17 10) e2.Op).getD 0), vI (i2 : Int)]) (by kernel_rfl) (punctualref_F_ok ((mget (mset (mset ([] : List (Int × Int)) 14 9) 17 10) e2.Op).getD 0) (i2 : Int) _ _ rfl) ?_
      rintro _ w30 ⟨rfl, hS114⟩
      refine ⟨_, rfl, hS114.below, ?_⟩
      have hS115 := hS113.call hS114
      refine gb0 [9] [(2, .pointer none)] ?_
      have hS116 := hS115.bring 4 rfl
      refine gs b2 0 #[vI 0, vI 0] 25 [vI ((punctualref_F.f ((mget (mset (mset ([] : List (Int × Int)) 14 9) 17 10) e2.Op).getD 0) (i2 : Int)).Code), vI ((punctualref_F.f ((mget (mset (mset ([] : List (Int × Int)) 14 9) 17 10) e2.Op).getD 0) (i2 : Int)).At)] hS116 fun w31 hS117 => ?_
      have hS118 : St w0 w31 [Own.blk b2 (.cells #[vI ((punctualref_F.f ((mget (mset (mset ([] : List (Int × Int)) 14 9) 17 10) e2.Op).getD 0) (i2 : Int)).Code), vI ((punctualref_F.f ((mget (mset (mset ([] : List (Int × Int)) 14 9) 17 10) e2.Op).getD 0) (i2 : Int)).At)] 25 (0, 0)), Own.map (κ := Int) (ν := Int) b9 (mset (mset ([] : List (Int × Int)) 14 9) 17 10), Own.blk b6 (.cells #[vI e2.Op, vI e2.A, vI e2.B] 29 (0, 0)), Own.blk b5 (.cells #[(.slice Z1 m1.length cz1)] 37 (0, 0)), Own.blk b4 (.cells #[.slice A0 l0.length c0, (.slice Z2 m2.length cz2)] 70 (0, 0)), Own.blk b1 (.cells #[.slice A0 l0.length c0] 22 (0, 0)), Own.of (.slice Z1 m1.length cz1) 3 m1, Own.of (.slice Z2 m2.length cz2) 74 m2] := hS117
      refine gn hK36 ?_
      have hS119 := hS118.takeN 0
      obtain rfl := si h
      exact we_ret fun a hF => hQ _ _ _ (Outs.out nofun ⟨rfl, (pr [.tmp 2, .cell 3 25] [.pointer none, .agg #[vI ((punctualref_F.f ((mget (mset (mset ([] : List (Int × Int)) 14 9) 17 10) e2.Op).getD 0) (i2 : Int)).Code), vI ((punctualref_F.f ((mget (mset (mset ([] : List (Int × Int)) 14 9) 17 10) e2.Op).getD 0) (i2 : Int)).At)]] [.loaded ⟨b2, 0, none⟩ (vI ((punctualref_F.f ((mget (mset (mset ([] : List (Int × Int)) 14 9) 17 10) e2.Op).getD 0) (i2 : Int)).Code)), .loaded ⟨b2, 1, none⟩ (vI ((punctualref_F.f ((mget (mset (mset ([] : List (Int × Int)) 14 9) 17 10) e2.Op).getD 0) (i2 : Int)).At))] ⟨hS118.c 0, hS118.c 0, trivial⟩ ⟨rfl, hS119⟩) a hF⟩)
     exact go_nomore2
    exact go_nomore2
   exact go_nomore2
  exact go_nomore2
 ·rw [if_neg hc13] at h
  refine go2_known (t := 84) (b := decide (z2 < 0)) (c := false) (by kernel_rfl) (decide_eq_false hc13) ?_
  refine go2_batch [3] (ans := [.val (.slice A0 l0.length c0)]) (vs := [(85, .slice A0 l0.length c0)]) (l := [.loaded ⟨b1, 0, none⟩ (.slice A0 l0.length c0)]) (by kernel_rfl) ⟨hS109.c 4, trivial⟩ (mem_one (by kernel_rfl)) ?_
  refine go2_batch [4] (ans := []) (vs := [(86, vI z2)]) (l := []) (by kernel_rfl) trivial mem_nil ?_
  by_cases hc14 : 0 ≤ z2
  ·rw [if_pos hc14] at h
   rcases hx13 : l0[(z2).toNat]? with _ | e4
   ·rw [hx13] at h; cases h
   rw [hx13] at h
   simp only [] at h
   refine go2_index (d := 87) (ty := 0) (t := 22) (el := 29) (sz := 3) (m := l0.length) (c := c0) (x := (.tmp 85)) (y := (.tmp 86)) (A := A0) (k' := .i64) (j := z2) (jn := ((z2).toNat)) (b0 := blkOf A0) (o0 := offOf A0) (by kernel_rfl) (by kernel_rfl) (by kernel_rfl) (by kernel_rfl) (by kernel_rfl) ((hS109.rd hR0).eqSome (pos_of_get hx13)) (Int.toNat_of_nonneg hc14).symm (lt_of_get hx13) ?_
   refine go2_batch [6] (ans := []) (vs := [(88, .pointer (some ⟨blkOf A0, offOf A0 + (z2).toNat * 3, none⟩))]) (l := []) (by kernel_rfl) trivial mem_nil ?_
   refine go2_batch [7] (ans := [.val (vI e4.Op)]) (vs := [(89, vI e4.Op)]) (l := [.loaded ⟨blkOf A0, offOf A0 + ((z2).toNat) * 3, none⟩ (vI e4.Op)]) (by kernel_rfl) ⟨RdL.cell (j := 0) (hS109.rd hR0) hx13 rfl, trivial⟩ (mem_one (by kernel_rfl)) ?_
   refine go2_batch [12] (ans := []) (vs := [(92, pP b6 0)]) (l := []) (by kernel_rfl) trivial mem_nil ?_
   refine go2_batch [13] (ans := [.val (vI e2.Op)]) (vs := [(93, vI e2.Op)]) (l := [.loaded ⟨b6, 0, none⟩ (vI e2.Op)]) (by kernel_rfl) ⟨hS109.c 0, trivial⟩ (mem_one (by kernel_rfl)) ?_
   refine go_alt2 (fun KK hKK => ?_) ?_
   ·refine ge_one2 ?_
    refine gw (some 90) (.map #[] 0) (fun b => .map (some b)) hS109 fun b10 w32 hx14 hS120 => ?_
    have hS121 := hS120.newMap (κ := Int) (ν := Int)
    refine ge_nil fun a hF => hKK _ _ (RS.of2 (l := [.loaded ⟨b1, 0, none⟩ (.slice A0 l0.length c0), .loaded ⟨blkOf A0, offOf A0 + ((z2).toNat) * 3, none⟩ (vI e4.Op), .loaded ⟨b6, 0, none⟩ (vI e2.Op), .loaded ⟨b1, 0, none⟩ (.slice A0 l0.length c0), .loaded ⟨blkOf A0, offOf A0 + ((z2).toNat) * 3 + 1, none⟩ (vI e4.A), .loaded ⟨b6, 1, none⟩ (vI e2.A), .loaded ⟨b6, 0, none⟩ (vI e2.Op), .loaded ⟨b6, 2, none⟩ (vI e2.B)]) (by kernel_rfl) ⟨hS109.c 4, RdL.cell (j := 0) (hS109.rd hR0) hx13 rfl, hS109.c 0, hS109.c 4, RdL.cell (j := 1) (hS109.rd hR0) hx13 rfl, hS109.c 0, hS109.c 0, hS109.c 0, trivial⟩ ⟨hS121.c 5, RdL.cell (j := 0) (hS121.rd hR0) hx13 rfl, hS121.c 1, hS121.c 5, RdL.cell (j := 1) (hS121.rd hR0) hx13 rfl, hS121.c 1, hS121.c 1, hS121.c 1, trivial⟩) ?_ a hF
    refine go_alt2 (fun KK hKK => ?_) ?_
    ·refine ge_mapSet (κ := Int) (ν := Int) (b := b10) (ins := true) (mm := 0) (t := 62) (kt := 3) (et := 3) (x := (.tmp 90)) (y := (.const (vI 14))) (u := (.const (vI 13))) (ty := 0) (m := ([] : List (Int × Int))) (k := 14) (v := 13) (vv := vI 13) (by kernel_rfl) (by kernel_rfl) (by kernel_rfl) (by kernel_rfl) rfl (by kernel_rfl) (by kernel_rfl) hS121 fun w33 hS122 => ?_
     refine ge_nil fun a hF => hKK _ _ (RS.of2 (l := [.loaded ⟨b1, 0, none⟩ (.slice A0 l0.length c0), .loaded ⟨blkOf A0, offOf A0 + ((z2).toNat) * 3, none⟩ (vI e4.Op), .loaded ⟨b6, 0, none⟩ (vI e2.Op), .loaded ⟨b1, 0, none⟩ (.slice A0 l0.length c0), .loaded ⟨blkOf A0, offOf A0 + ((z2).toNat) * 3 + 1, none⟩ (vI e4.A), .loaded ⟨b6, 1, none⟩ (vI e2.A), .loaded ⟨b6, 0, none⟩ (vI e2.Op), .loaded ⟨b6, 2, none⟩ (vI e2.B)]) (by kernel_rfl) ⟨hS121.c 5, RdL.cell (j := 0) (hS121.rd hR0) hx13 rfl, hS121.c 1, hS121.c 5, RdL.cell (j := 1) (hS121.rd hR0) hx13 rfl, hS121.c 1, hS121.c 1, hS121.c 1, trivial⟩ ⟨hS122.c 5, RdL.cell (j := 0) (hS122.rd hR0) hx13 rfl, hS122.c 1, hS122.c 5, RdL.cell (j := 1) (hS122.rd hR0) hx13 rfl, hS122.c 1, hS122.c 1, hS122.c 1, trivial⟩) ?_ a hF
     refine go_alt2 (fun KK hKK => ?_) ?_
     ·refine ge_mapSet (κ := Int) (ν := Int) (b := b10) (ins := true) (mm := 0) (t := 62) (kt := 3) (et := 3) (x := (.tmp 90)) (y := (.const (vI 17))) (u := (.const (vI 16))) (ty := 0) (m := (mset ([] : List (Int × Int)) 14 13)) (k := 17) (v := 16) (vv := vI 16) (by kernel_rfl) (by kernel_rfl) (by kernel_rfl) (by kernel_rfl) rfl (by kernel_rfl) (by kernel_rfl) hS122 fun w34 hS123 => ?_
      have hS124 := hS123.toE (m := (mset (mset ([] : List (Int × Int)) 14 13) 17 16)) (fun k => by simp only [mget_mset]; (repeat' split); all_goals first | rfl | omega)
      refine ge_nil fun a hF => hKK _ _ (RS.of2 (l := [.loaded ⟨b1, 0, none⟩ (.slice A0 l0.length c0), .loaded ⟨blkOf A0, offOf A0 + ((z2).toNat) * 3, none⟩ (vI e4.Op), .loaded ⟨b6, 0, none⟩ (vI e2.Op), .loaded ⟨b1, 0, none⟩ (.slice A0 l0.length c0), .loaded ⟨blkOf A0, offOf A0 + ((z2).toNat) * 3 + 1, none⟩ (vI e4.A), .loaded ⟨b6, 1, none⟩ (vI e2.A), .loaded ⟨b6, 0, none⟩ (vI e2.Op), .loaded ⟨b6, 2, none⟩ (vI e2.B)]) (by kernel_rfl) ⟨hS122.c 5, RdL.cell (j := 0) (hS122.rd hR0) hx13 rfl, hS122.c 1, hS122.c 5, RdL.cell (j := 1) (hS122.rd hR0) hx13 rfl, hS122.c 1, hS122.c 1, hS122.c 1, trivial⟩ ⟨hS124.c 5, RdL.cell (j := 0) (hS124.rd hR0) hx13 rfl, hS124.c 1, hS124.c 5, RdL.cell (j := 1) (hS124.rd hR0) hx13 rfl, hS124.c 1, hS124.c 1, hS124.c 1, trivial⟩) ?_ a hF
      refine go2_batch [11] (ans := []) (vs := [(91, .map (some b10))]) (l := []) (by kernel_rfl) trivial mem_nil ?_
      refine go_alt2 (fun KK hKK => ?_) ?_
      ·refine ge_val2 ?_
       refine ge_lookupE (κ := Int) (ν := Int) (d := 94) (b := b10) (q := 0) (t := 62) (kt := 3) (et := 3) (x := (.tmp 91)) (y := (.tmp 93)) (ty := 3) (m := (mset (mset ([] : List (Int × Int)) 14 13) 17 16)) (k := e2.Op) (z := 0) (v := ((mget (mset (mset ([] : List (Int × Int)) 14 13) 17 16) e2.Op).getD 0)) (zv := vI 0) (vv := vI ((mget (mset (mset ([] : List (Int × Int)) 14 13) 17 16) e2.Op).getD 0)) (by kernel_rfl) (by kernel_rfl) (by kernel_rfl) (by kernel_rfl) (by kernel_rfl) (fun w' => by kernel_rfl) rfl hS124 rfl rfl rfl ?_
       refine ge_nil fun a hF => hKK _ _ (RS.refl _ _) ?_ a hF
       refine go2_batch [15, 16, 17] (ans := []) (vs := [(97, .bool (e4.Op != ((mget (mset (mset ([] : List (Int × Int)) 14 13) 17 16) e2.Op).getD 0))), (96, .bool (e4.Op != ((mget (mset (mset ([] : List (Int × Int)) 14 13) 17 16) e2.Op).getD 0))), (95, .bool (e4.Op != ((mget (mset (mset ([] : List (Int × Int)) 14 13) 17 16) e2.Op).getD 0)))]) (l := []) (by kernel_rfl) trivial mem_nil ?_
       by_cases hc15 : e4.Op = ((mget (mset (mset ([] : List (Int × Int)) 14 13) 17 16) e2.Op).getD 0)
       ·rw [if_pos hc15] at h
        refine go2_known (t := 97) (b := (e4.Op != ((mget (mset (mset ([] : List (Int × Int)) 14 13) 17 16) e2.Op).getD 0))) (c := false) (by kernel_rfl) (bne_eq_false_iff_eq.2 hc15) ?_
        refine go2_batch [18] (ans := [.val (.slice A0 l0.length c0)]) (vs := [(98, .slice A0 l0.length c0)]) (l := [.loaded ⟨b1, 0, none⟩ (.slice A0 l0.length c0)]) (by kernel_rfl) ⟨hS124.c 5, trivial⟩ (mem_one (by kernel_rfl)) ?_
        refine go2_batch [19] (ans := []) (vs := [(99, vI z2)]) (l := []) (by kernel_rfl) trivial mem_nil ?_
        refine go2_index (d := 100) (ty := 0) (t := 22) (el := 29) (sz := 3) (m := l0.length) (c := c0) (x := (.tmp 98)) (y := (.tmp 99)) (A := A0) (k' := .i64) (j := z2) (jn := ((z2).toNat)) (b0 := blkOf A0) (o0 := offOf A0) (by kernel_rfl) (by kernel_rfl) (by kernel_rfl) (by kernel_rfl) (by kernel_rfl) ((hS124.rd hR0).eqSome (pos_of_get hx13)) (Int.toNat_of_nonneg hc14).symm (lt_of_get hx13) ?_
        refine go2_batch [21] (ans := []) (vs := [(101, .pointer (some ⟨blkOf A0, offOf A0 + (z2).toNat * 3 + 1, none⟩))]) (l := []) (by kernel_rfl) trivial mem_nil ?_
        refine go2_batch [22] (ans := [.val (vI e4.A)]) (vs := [(102, vI e4.A)]) (l := [.loaded ⟨blkOf A0, offOf A0 + ((z2).toNat) * 3 + 1, none⟩ (vI e4.A)]) (by kernel_rfl) ⟨RdL.cell (j := 1) (hS124.rd hR0) hx13 rfl, trivial⟩ (mem_one (by kernel_rfl)) ?_
        refine go2_batch [23] (ans := []) (vs := [(103, pP b6 1)]) (l := []) (by kernel_rfl) trivial mem_nil ?_
        refine go2_batch [24] (ans := [.val (vI e2.A)]) (vs := [(104, vI e2.A)]) (l := [.loaded ⟨b6, 1, none⟩ (vI e2.A)]) (by kernel_rfl) ⟨hS124.c 1, trivial⟩ (mem_one (by kernel_rfl)) ?_
        refine go2_batch [25, 26, 27] (ans := []) (vs := [(107, .bool (e4.A != e2.A)), (106, .bool (e4.A != e2.A)), (105, .bool (e4.A != e2.A))]) (l := []) (by kernel_rfl) trivial mem_nil ?_
        by_cases hc16 : e4.A = e2.A
        ·rw [if_pos hc16] at h
         refine go2_known (t := 107) (b := (e4.A != e2.A)) (c := false) (by kernel_rfl) (bne_eq_false_iff_eq.2 hc16) ?_
         refine go2_batch [28] (ans := []) (vs := [(108, pP b6 0)]) (l := []) (by kernel_rfl) trivial mem_nil ?_
         refine go2_batch [29] (ans := [.val (vI e2.Op)]) (vs := [(109, vI e2.Op)]) (l := [.loaded ⟨b6, 0, none⟩ (vI e2.Op)]) (by kernel_rfl) ⟨hS124.c 1, trivial⟩ (mem_one (by kernel_rfl)) ?_
         refine go2_batch [30, 31] (ans := []) (vs := [(111, .bool (e2.Op == 14)), (110, .bool (e2.Op == 14))]) (l := []) (by kernel_rfl) trivial mem_nil ?_
         by_cases hc17 : e2.Op = 14
         ·rw [if_pos hc17] at h
          refine go2_known (t := 111) (b := (e2.Op == 14)) (c := true) (by kernel_rfl) (beq_iff_eq.2 hc17) ?_
          refine go2_batch [32] (ans := []) (vs := [(112, pP b6 2)]) (l := []) (by kernel_rfl) trivial mem_nil ?_
          refine go2_batch [33] (ans := [.val (vI e2.B)]) (vs := [(113, vI e2.B)]) (l := [.loaded ⟨b6, 2, none⟩ (vI e2.B)]) (by kernel_rfl) ⟨hS124.c 1, trivial⟩ (mem_one (by kernel_rfl)) ?_
          refine go2_batch [34, 35, 36, 37, 38] (ans := []) (vs := [(118, .bool (e2.B != (IntKind.i64.wrap (z2 + 1)))), (117, .bool (e2.B != (IntKind.i64.wrap (z2 + 1)))), (116, .bool (e2.B != (IntKind.i64.wrap (z2 + 1)))), (115, vI (IntKind.i64.wrap (z2 + 1))), (114, vI z2)]) (l := []) (by kernel_rfl) trivial mem_nil ?_
          refine go_fin2 fun a hF => hK35 _ _ ?_ a hF
          by_cases hc18 : e2.B = (IntKind.i64.wrap (z2 + 1))
          ·rw [if_pos hc18] at h
           refine wk 118 (e2.B != (IntKind.i64.wrap (z2 + 1))) false (bne_eq_false_iff_eq.2 hc18) ?_
           refine we_false (by kernel_rfl) ?_
           have hS125 := hS124.bring 7 rfl
           have hS126 := hS125.bring 7 rfl
           have hS127 := hS126.bring 7 rfl
           have hS128 := hS127.bring 7 rfl
           have hS129 := hS128.bring 7 rfl
           have hS130 := hS129.bring 7 rfl
           have hS131 := hS130.takeN 6
           obtain rfl := si h
           exact we_skip fun a hF => hQ _ _ _ (Outs.again ⟨hS131, hF.weaken ea⟩)
          ·rw [if_neg hc18] at h
           refine wk 118 (e2.B != (IntKind.i64.wrap (z2 + 1))) true (bne_iff_ne.2 hc18) ?_
           refine we_true (by kernel_rfl) ?_
           refine ws fun K37 hK37 => ?_
           refine wr [(0, 1), (1, 2), (2, 2), (3, 0), (4, 0), (5, 0), (6, 0), (7, 0), (8, 1), (9, 0), (10, 2)] ?_
           refine gw (some 119) (.map #[] 0) (fun b => .map (some b)) hS124 fun b11 w35 hx15 hS132 => ?_
           have hS133 := hS132.newMap (κ := Int) (ν := Int)
           refine ge_mapSet (κ := Int) (ν := Int) (b := b11) (ins := true) (mm := 0) (t := 72) (kt := 3) (et := 23) (x := (.tmp 119)) (y := (.const (vI 14))) (u := (.const (vI 9))) (ty := 0) (m := ([] : List (Int × Int))) (k := 14) (v := 9) (vv := vI 9) (by kernel_rfl) (by kernel_rfl) (by kernel_rfl) (by kernel_rfl) rfl (by kernel_rfl) (by kernel_rfl) hS133 fun w36 hS134 => ?_
           refine ge_mapSet (κ := Int) (ν := Int) (b := b11) (ins := true) (mm := 0) (t := 72) (kt := 3) (et := 23) (x := (.tmp 119)) (y := (.const (vI 17))) (u := (.const (vI 10))) (ty := 0) (m := (mset ([] : List (Int × Int)) 14 9)) (k := 17) (v := 10) (vv := vI 10) (by kernel_rfl) (by kernel_rfl) (by kernel_rfl) (by kernel_rfl) rfl (by kernel_rfl) (by kernel_rfl) hS134 fun w37 hS135 => ?_
           refine gb [3, 4, 5] [(122, vI e2.Op), (121, pP b6 0), (120, .map (some b11))] [.loaded ⟨b6, 0, none⟩ (vI e2.Op)] ⟨hS135.c 2, trivial⟩ ?_
           refine ge_lookup (κ := Int) (ν := Int) (d := 123) (b := b11) (q := 0) (t := 72) (kt := 3) (et := 23) (x := (.tmp 120)) (y := (.tmp 122)) (ty := 23) (m := (mset (mset ([] : List (Int × Int)) 14 9) 17 10)) (k := e2.Op) (z := 0) (v := ((mget (mset (mset ([] : List (Int × Int)) 14 9) 17 10) e2.Op).getD 0)) (zv := vI 0) (vv := vI ((mget (mset (mset ([] : List (Int × Int)) 14 9) 17 10) e2.Op).getD 0)) (by kernel_rfl) (by kernel_rfl) (by kernel_rfl) (by kernel_rfl) (by kernel_rfl) (fun w' => by kernel_rfl) rfl hS135 rfl rfl rfl ?_
           refine gb0 [7] [(124, vI (i2 : Int))] ?_
           refine ge_call (d := some 125) (f := 9) (args := #[vI ((mget (mset (mset ([] : List (Int × Int)) 14 9) 17 10) e2.Op).getD 0), vI (i2 : Int)]) (by kernel_rfl) (punctualref_F_ok ((mget (mset (mset ([] : List (Int × Int)) 14 9) 17 10) e2.Op).getD 0) (i2 : Int) _ _ rfl) ?_
           rintro _ w38 ⟨rfl, hS136⟩
           refine ⟨_, rfl, hS136.below, ?_⟩
           have hS137 := hS135.call hS136
           refine gb0 [9] [(2, .pointer none)] ?_
           have hS138 := hS137.bring 5 rfl
           refine gs b2 0 #[vI 0, vI 0] 25 [vI ((punctualref_F.f ((mget (mset (mset ([] : List (Int × Int)) 14 9) 17 10) e2.Op).getD 0) (i2 : Int)).Code), vI ((punctualref_F.f ((mget (mset (mset ([] : List (Int × Int)) 14 9) 17 10) e2.Op).getD 0) (i2 : Int)).At)] hS138 fun w39 hS139 => ?_
           have hS140 : St w0 w39 [Own.blk b2 (.cells #[vI ((punctualref_F.f ((mget (mset (mset ([] : List (Int × Int)) 14 9) 17 10) e2.Op).getD 0) (i2 : Int)).Code), vI ((punctualref_F.f ((mget (mset (mset ([] : List (Int × Int)) 14 9) 17 10) e2.Op).getD 0) (i2 : Int)).At)] 25 (0, 0)), Own.map (κ := Int) (ν := Int) b11 (mset (mset ([] : List (Int × Int)) 14 9) 17 10), Own.mapE (κ := Int) (ν := Int) b10 (mset (mset ([] : List (Int × Int)) 14 13) 17 16), Own.blk b6 (.cells #[vI e2.Op, vI e2.A, vI e2.B] 29 (0, 0)), Own.blk b5 (.cells #[(.slice Z1 m1.length cz1)] 37 (0, 0)), Own.blk b4 (.cells #[.slice A0 l0.length c0, (.slice Z2 m2.length cz2)] 70 (0, 0)), Own.blk b1 (.cells #[.slice A0 l0.length c0] 22 (0, 0)), Own.of (.slice Z1 m1.length cz1) 3 m1, Own.of (.slice Z2 m2.length cz2) 74 m2] := hS139
           refine gn hK37 ?_
           have hS141 := hS140.takeN 0
           obtain rfl := si h
           exact we_ret fun a hF => hQ _ _ _ (Outs.out nofun ⟨rfl, (pr [.tmp 2, .cell 3 25] [.pointer none, .agg #[vI ((punctualref_F.f ((mget (mset (mset ([] : List (Int × Int)) 14 9) 17 10) e2.Op).getD 0) (i2 : Int)).Code), vI ((punctualref_F.f ((mget (mset (mset ([] : List (Int × Int)) 14 9) 17 10) e2.Op).getD 0) (i2 : Int)).At)]] [.loaded ⟨b2, 0, none⟩ (vI ((punctualref_F.f ((mget (mset (mset ([] : List (Int × Int)) 14 9) 17 10) e2.Op).getD 0) (i2 : Int)).Code)), .loaded ⟨b2, 1, none⟩ (vI ((punctualref_F.f ((mget (mset (mset ([] : List (Int × Int)) 14 9) 17 10) e2.Op).getD 0) (i2 : Int)).At))] ⟨hS140.c 0, hS140.c 0, trivial⟩ ⟨rfl, hS141⟩) a hF⟩)
         ·rw [if_neg hc17] at h
          refine go2_known (t := 111) (b := (e2.Op == 14)) (c := false) (by kernel_rfl) (beq_eq_false_iff_ne.2 hc17) ?_
          refine go2_batch [32, 33, 34, 35, 36, 37, 38] (ans := []) (vs := [(118, .bool false), (117, .bool false), (116, undef), (115, undef), (114, undef), (113, undef), (112, undef)]) (l := []) (by kernel_rfl) trivial mem_nil ?_
          refine go_fin2 fun a hF => hK35 _ _ ?_ a hF
          refine we_false (by kernel_rfl) ?_
          have hS142 := hS124.bring 7 rfl
          have hS143 := hS142.bring 7 rfl
          have hS144 := hS143.bring 7 rfl
          have hS145 := hS144.bring 7 rfl
          have hS146 := hS145.bring 7 rfl
          have hS147 := hS146.bring 7 rfl
          have hS148 := hS147.takeN 6
          obtain rfl := si h
          exact we_skip fun a hF => hQ _ _ _ (Outs.again ⟨hS148, hF.weaken ea⟩)
        ·rw [if_neg hc16] at h
         refine go2_known (t := 107) (b := (e4.A != e2.A)) (c := true) (by kernel_rfl) (bne_iff_ne.2 hc16) ?_
         refine go2_batch [28, 29, 30, 31, 32, 33, 34, 35, 36, 37, 38] (ans := []) (vs := [(118, .bool true), (117, undef), (116, undef), (115, undef), (114, undef), (113, undef), (112, undef), (111, undef), (110, undef), (109, undef), (108, undef)]) (l := []) (by kernel_rfl) trivial mem_nil ?_
         refine go_fin2 fun a hF => hK35 _ _ ?_ a hF
         refine we_true (by kernel_rfl) ?_
         refine ws fun K38 hK38 => ?_
         refine wr [(0, 1), (1, 2), (2, 2), (3, 0), (4, 0), (5, 0), (6, 0), (7, 0), (8, 1), (9, 0), (10, 2)] ?_
         refine gw (some 119) (.map #[] 0) (fun b => .map (some b)) hS124 fun b12 w40 hx16 hS149 => ?_
         have hS150 := hS149.newMap (κ := Int) (ν := Int)
         refine ge_mapSet (κ := Int) (ν := Int) (b := b12) (ins := true) (mm := 0) (t := 72) (kt := 3) (et := 23) (x := (.tmp 119)) (y := (.const (vI 14))) (u := (.const (vI 9))) (ty := 0) (m := ([] : List (Int × Int))) (k := 14) (v := 9) (vv := vI 9) (by kernel_rfl) (by kernel_rfl) (by kernel_rfl) (by kernel_rfl) rfl (by kernel_rfl) (by kernel_rfl) hS150 fun w41 hS151 => ?_
         refine ge_mapSet (κ := Int) (ν := Int) (b := b12) (ins := true) (mm := 0) (t := 72) (kt := 3) (et := 23) (x := (.tmp 119)) (y := (.const (vI 17))) (u := (.const (vI 10))) (ty := 0) (m := (mset ([] : List (Int × Int)) 14 9)) (k := 17) (v := 10) (vv := vI 10) (by kernel_rfl) (by kernel_rfl) (by kernel_rfl) (by kernel_rfl) rfl (by kernel_rfl) (by kernel_rfl) hS151 fun w42 hS152 => ?_
         refine gb [3, 4, 5] [(122, vI e2.Op), (121, pP b6 0), (120, .map (some b12))] [.loaded ⟨b6, 0, none⟩ (vI e2.Op)] ⟨hS152.c 2, trivial⟩ ?_
         refine ge_lookup (κ := Int) (ν := Int) (d := 123) (b := b12) (q := 0) (t := 72) (kt := 3) (et := 23) (x := (.tmp 120)) (y := (.tmp 122)) (ty := 23) (m := (mset (mset ([] : List (Int × Int)) 14 9) 17 10)) (k := e2.Op) (z := 0) (v := ((mget (mset (mset ([] : List (Int × Int)) 14 9) 17 10) e2.Op).getD 0)) (zv := vI 0) (vv := vI ((mget (mset (mset ([] : List (Int × Int)) 14 9) 17 10) e2.Op).getD 0)) (by kernel_rfl) (by kernel_rfl) (by kernel_rfl) (by kernel_rfl) (by kernel_rfl) (fun w' => by kernel_rfl) rfl hS152 rfl rfl rfl ?_
         refine gb0 [7] [(124, vI (i2 : Int))] ?_
         refine ge_call (d := some 125) (f := 9) (args := #[vI ((mget (mset (mset ([] : List (Int × Int)) 14 9) 17 10) e2.Op).getD 0), vI (i2 : Int)]) (by kernel_rfl) (punctualref_F_ok ((mget (mset (mset ([] : List (Int × Int)) 14 9) 17 10) e2.Op).getD 0) (i2 : Int) _ _ rfl) ?_
         rintro _ w43 ⟨rfl, hS153⟩
         refine ⟨_, rfl, hS153.below, ?_⟩
         have hS154 := hS152.call hS153
         refine gb0 [9] [(2, .pointer none)] ?_
         have hS155 := hS154.bring 5 rfl
         refine gs b2 0 #[vI 0, vI 0] 25 [vI ((punctualref_F.f ((mget (mset (mset ([] : List (Int × Int)) 14 9) 17 10) e2.Op).getD 0) (i2 : Int)).Code), vI ((punctualref_F.f ((mget (mset (mset ([] : List (Int × Int)) 14 9) 17 10) e2.Op).getD 0) (i2 : Int)).At)] hS155 fun w44 hS156 => ?_
         have hS157 : St w0 w44 [Own.blk b2 (.cells #[vI ((punctualref_F.f ((mget (mset (mset ([] : List (Int × Int)) 14 9) 17 10) e2.Op).getD 0) (i2 : Int)).Code), vI ((punctualref_F.f ((mget (mset (mset ([] : List (Int × Int)) 14 9) 17 10) e2.Op).getD 0) (i2 : Int)).At)] 25 (0, 0)), Own.map (κ := Int) (ν := Int) b12 (mset (mset ([] : List (Int × Int)) 14 9) 17 10), Own.mapE (κ := Int) (ν := Int) b10 (mset (mset ([] : List (Int × Int)) 14 13) 17 16), Own.blk b6 (.cells #[vI e2.Op, vI e2.A, vI e2.B] 29 (0, 0)), Own.blk b5 (.cells #[(.slice Z1 m1.length cz1)] 37 (0, 0)), Own.blk b4 (.cells #[.slice A0 l0.length c0, (.slice Z2 m2.length cz2)] 70 (0, 0)), Own.blk b1 (.cells #[.slice A0 l0.length c0] 22 (0, 0)), Own.of (.slice Z1 m1.length cz1) 3 m1, Own.of (.slice Z2 m2.length cz2) 74 m2] := hS156
         refine gn hK38 ?_
         have hS158 := hS157.takeN 0
         obtain rfl := si h
         exact we_ret fun a hF => hQ _ _ _ (Outs.out nofun ⟨rfl, (pr [.tmp 2, .cell 3 25] [.pointer none, .agg #[vI ((punctualref_F.f ((mget (mset (mset ([] : List (Int × Int)) 14 9) 17 10) e2.Op).getD 0) (i2 : Int)).Code), vI ((punctualref_F.f ((mget (mset (mset ([] : List (Int × Int)) 14 9) 17 10) e2.Op).getD 0) (i2 : Int)).At)]] [.loaded ⟨b2, 0, none⟩ (vI ((punctualref_F.f ((mget (mset (mset ([] : List (Int × Int)) 14 9) 17 10) e2.Op).getD 0) (i2 : Int)).Code)), .loaded ⟨b2, 1, none⟩ (vI ((punctualref_F.f ((mget (mset (mset ([] : List (Int × Int)) 14 9) 17 10) e2.Op).getD 0) (i2 : Int)).At))] ⟨hS157.c 0, hS157.c 0, trivial⟩ ⟨rfl, hS158⟩) a hF⟩)
       ·rw [if_neg hc15] at h
        refine go2_known (t := 97) (b := (e4.Op != ((mget (mset (mset ([] : List (Int × Int)) 14 13) 17 16) e2.Op).getD 0))) (c := true) (by kernel_rfl) (bne_iff_ne.2 hc15) ?_
        refine go2_batch [18, 19, 20, 21, 22, 23, 24, 25, 26, 27, 28, 29, 30, 31, 32, 33, 34, 35, 36, 37, 38] (ans := []) (vs := [(118, .bool true), (117, undef), (116, undef), (115, undef), (114, undef), (113, undef), (112, undef), (111, undef), (110, undef), (109, undef), (108, undef), (107, .bool true), (106, .bool true), (105, undef), (104, undef), (103, undef), (102, undef), (101, undef), (100, undef), (99, undef), (98, undef)]) (l := []) (by kernel_rfl) trivial mem_nil ?_
        refine go_fin2 fun a hF => hK35 _ _ ?_ a hF
        refine we_true (by kernel_rfl) ?_
        refine ws fun K39 hK39 => ?_
        refine wr [(0, 1), (1, 2), (2, 2), (3, 0), (4, 0), (5, 0), (6, 0), (7, 0), (8, 1), (9, 0), (10, 2)] ?_
        refine gw (some 119) (.map #[] 0) (fun b => .map (some b)) hS124 fun b13 w45 hx17 hS159 => ?_
        have hS160 := hS159.newMap (κ := Int) (ν := Int)
        refine ge_mapSet (κ := Int) (ν := Int) (b := b13) (ins := true) (mm := 0) (t := 72) (kt := 3) (et := 23) (x := (.tmp 119)) (y := (.const (vI 14))) (u := (.const (vI 9))) (ty := 0) (m := ([] : List (Int × Int))) (k := 14) (v := 9) (vv := vI 9) (by kernel_rfl) (by kernel_rfl) (by kernel_rfl) (by kernel_rfl) rfl (by kernel_rfl) (by kernel_rfl) hS160 fun w46 hS161 => ?_
        refine ge_mapSet (κ := Int) (ν := Int) (b := b13) (ins := true) (mm := 0) (t := 72) (kt := 3) (et := 23) (x := (.tmp 119)) (y := (.const (vI 17))) (u := (.const (vI 10))) (ty := 0) (m := (mset ([] : List (Int × Int)) 14 9)) (k := 17) (v := 10) (vv := vI 10) (by kernel_rfl) (by kernel_rfl) (by kernel_rfl) (by kernel_rfl) rfl (by kernel_rfl) (by kernel_rfl) hS161 fun w47 hS162 => ?_
        refine gb [3, 4, 5] [(122, vI e2.Op), (121, pP b6 0), (120, .map (some b13))] [.loaded ⟨b6, 0, none⟩ (vI e2.Op)] ⟨hS162.c 2, trivial⟩ ?_
        refine ge_lookup (κ := Int) (ν := Int) (d := 123) (b := b13) (q := 0) (t := 72) (kt := 3) (et := 23) (x := (.tmp 120)) (y := (.tmp 122)) (ty := 23) (m := (mset (mset ([] : List (Int × Int)) 14 9) 17 10)) (k := e2.Op) (z := 0) (v := ((mget (mset (mset ([] : List (Int × Int)) 14 9) 17 10) e2.Op).getD 0)) (zv := vI 0) (vv := vI ((mget (mset (mset ([] : List (Int × Int)) 14 9) 17 10) e2.Op).getD 0)) (by kernel_rfl) (by kernel_rfl) (by kernel_rfl) (by kernel_rfl) (by kernel_rfl) (fun w' => by kernel_rfl) rfl hS162 rfl rfl rfl ?_
        refine gb0 [7] [(124, vI (i2 : Int))] ?_
        refine ge_call (d := some 125) (f := 9) (args := #[vI ((mget (mset (mset ([] : List (Int × Int)) 14 9) 17 10) e2.Op).getD 0), vI (i2 : Int)]) (by kernel_rfl) (punctualref_F_ok ((mget (mset (mset ([] : List (Int × Int)) 14 9) 17 10) e2.Op).getD 0) (i2 : Int) _ _ rfl) ?_
        rintro _ w48 ⟨rfl, hS163⟩
        refine ⟨_, rfl, hS163.below, ?_⟩
        have hS164 := hS162.call hS163
        refine gb0 [9] [(2, .pointer none)] ?_
        have hS165 := hS164.bring 5 rfl
        refine gs b2 0 #[vI 0, vI 0] 25 [vI ((punctualref_F.f ((mget (mset (mset ([] : List (Int × Int)) 14 9) 17 10) e2.Op).getD 0) (i2 : Int)).Code), vI ((punctualref_F.f ((mget (mset (mset ([] : List (Int × Int)) 14 9) 17 10) e2.Op).getD 0) (i2 : Int)).At)] hS165 fun w49 hS166 => ?_
        have hS167 : St w0 w49 [Own.blk b2 (.cells #[vI ((punctualref_F.f ((mget (mset (mset ([] : List (Int × Int)) 14 9) 17 10) e2.Op).getD 0) (i2 : Int)).Code), vI ((punctualref_F.f ((mget (mset (mset ([] : List (Int × Int)) 14 9) 17 10) e2.Op).getD 0) (i2 : Int)).At)] 25 (0, 0)), Own.map (κ := Int) (ν := Int) b13 (mset (mset ([] : List (Int × Int)) 14 9) 17 10), Own.mapE (κ := Int) (ν := Int) b10 (mset (mset ([] : List (Int × Int)) 14 13) 17 16), Own.blk b6 (.cells #[vI e2.Op, vI e2.A, vI e2.B] 29 (0, 0)), Own.blk b5 (.cells #[(.slice Z1 m1.length cz1)] 37 (0, 0)), Own.blk b4 (.cells #[.slice A0 l0.length c0, (.slice Z2 m2.length cz2)] 70 (0, 0)), Own.blk b1 (.cells #[.slice A0 l0.length c0] 22 (0, 0)), Own.of (.slice Z1 m1.length cz1) 3 m1, Own.of (.slice Z2 m2.length cz2) 74 m2] := hS166
        refine gn hK39 ?_
        have hS168 := hS167.takeN 0
        obtain rfl := si h
        exact we_ret fun a hF => hQ _ _ _ (Outs.out nofun ⟨rfl, (pr [.tmp 2, .cell 3 25] [.pointer none, .agg #[vI ((punctualref_F.f ((mget (mset (mset ([] : List (Int × Int)) 14 9) 17 10) e2.Op).getD 0) (i2 : Int)).Code), vI ((punctualref_F.f ((mget (mset (mset ([] : List (Int × Int)) 14 9) 17 10) e2.Op).getD 0) (i2 : Int)).At)]] [.loaded ⟨b2, 0, none⟩ (vI ((punctualref_F.f ((mget (mset (mset ([] : List (Int × Int)) 14 9) 17 10) e2.Op).getD 0) (i2 : Int)).Code)), .loaded ⟨b2, 1, none⟩ (vI ((punctualref_F.f ((mget (mset (mset ([] : List (Int × Int)) 14 9) 17 10) e2.Op).getD 0) (i2 : Int)).At))] ⟨hS167.c 0, hS167.c 0, trivial⟩ ⟨rfl, hS168⟩) a hF⟩)
      exact go_nomore2
     exact go_nomore2
    refine go_alt2 (fun KK hKK => ?_) ?_
    ·refine ge_mapSet (κ := Int) (ν := Int) (b := b10) (ins := true) (mm := 0) (t := 62) (kt := 3) (et := 3) (x := (.tmp 90)) (y := (.const (vI 17))) (u := (.const (vI 16))) (ty := 0) (m := ([] : List (Int × Int))) (k := 17) (v := 16) (vv := vI 16) (by kernel_rfl) (by kernel_rfl) (by kernel_rfl) (by kernel_rfl) rfl (by kernel_rfl) (by kernel_rfl) hS121 fun w33 hS122 => ?_
     refine ge_nil fun a hF => hKK _ _ (RS.of2 (l := [.loaded ⟨b1, 0, none⟩ (.slice A0 l0.length c0), .loaded ⟨blkOf A0, offOf A0 + ((z2).toNat) * 3, none⟩ (vI e4.Op), .loaded ⟨b6, 0, none⟩ (vI e2.Op), .loaded ⟨b1, 0, none⟩ (.slice A0 l0.length c0), .loaded ⟨blkOf A0, offOf A0 + ((z2).toNat) * 3 + 1, none⟩ (vI e4.A), .loaded ⟨b6, 1, none⟩ (vI e2.A), .loaded ⟨b6, 0, none⟩ (vI e2.Op), .loaded ⟨b6, 2, none⟩ (vI e2.B)]) (by kernel_rfl) ⟨hS121.c 5, RdL.cell (j := 0) (hS121.rd hR0) hx13 rfl, hS121.c 1, hS121.c 5, RdL.cell (j := 1) (hS121.rd hR0) hx13 rfl, hS121.c 1, hS121.c 1, hS121.c 1, trivial⟩ ⟨hS122.c 5, RdL.cell (j := 0) (hS122.rd hR0) hx13 rfl, hS122.c 1, hS122.c 5, RdL.cell (j := 1) (hS122.rd hR0) hx13 rfl, hS122.c 1, hS122.c 1, hS122.c 1, trivial⟩) ?_ a hF
     refine go_alt2 (fun KK hKK => ?_) ?_
     ·refine ge_mapSet (κ := Int) (ν := Int) (b := b10) (ins := true) (mm := 0) (t := 62) (kt := 3) (et := 3) (x := (.tmp 90)) (y := (.const (vI 14))) (u := (.const (vI 13))) (ty := 0) (m := (mset ([] : List (Int × Int)) 17 16)) (k := 14) (v := 13) (vv := vI 13) (by kernel_rfl) (by kernel_rfl) (by kernel_rfl) (by kernel_rfl) rfl (by kernel_rfl) (by kernel_rfl) hS122 fun w34 hS123 => ?_
      have hS124 := hS123.toE (m := (mset (mset ([] : List (Int × Int)) 14 13) 17 16)) (fun k => by simp only [mget_mset]; (repeat' split); all_goals first | rfl | omega)
      refine ge_nil fun a hF => hKK _ _ (RS.of2 (l := [.loaded ⟨b1, 0, none⟩ (.slice A0 l0.length c0), .loaded ⟨blkOf A0, offOf A0 + ((z2).toNat) * 3, none⟩ (vI e4.Op), .loaded ⟨b6, 0, none⟩ (vI e2.Op), .loaded ⟨b1, 0, none⟩ (.slice A0 l0.length c0), .loaded ⟨blkOf A0, offOf A0 + ((z2).toNat) * 3 + 1, none⟩ (vI e4.A), .loaded ⟨b6, 1, none⟩ (vI e2.A), .loaded ⟨b6, 0, none⟩ (vI e2.Op), .loaded ⟨b6, 2, none⟩ (vI e2.B)]) (by kernel_rfl) ⟨hS122.c 5, RdL.cell (j := 0) (hS122.rd hR0) hx13 rfl, hS122.c 1, hS122.c 5, RdL.cell (j := 1) (hS122.rd hR0) hx13 rfl, hS122.c 1, hS122.c 1, hS122.c 1, trivial⟩ ⟨hS124.c 5, RdL.cell (j := 0) (hS124.rd hR0) hx13 rfl, hS124.c 1, hS124.c 5, RdL.cell (j := 1) (hS124.rd hR0) hx13 rfl, hS124.c 1, hS124.c 1, hS124.c 1, trivial⟩) ?_ a hF
      refine go2_batch [11] (ans := []) (vs := [(91, .map (some b10))]) (l := []) (by kernel_rfl) trivial mem_nil ?_
      refine go_alt2 (fun KK hKK => ?_) ?_
      ·refine ge_val2 ?_
       refine ge_lookupE (κ := Int) (ν := Int) (d := 94) (b := b10) (q := 0) (t := 62) (kt := 3) (et := 3) (x := (.tmp 91)) (y := (.tmp 93)) (ty := 3) (m := (mset (mset ([] : List (Int × Int)) 14 13) 17 16)) (k := e2.Op) (z := 0) (v := ((mget (mset (mset ([] : List (Int × Int)) 14 13) 17 16) e2.Op).getD 0)) (zv := vI 0) (vv := vI ((mget (mset (mset ([] : List (Int × Int)) 14 13) 17 16) e2.Op).getD 0)) (by kernel_rfl) (by kernel_rfl) (by kernel_rfl) (by kernel_rfl) (by kernel_rfl) (fun w' => by kernel_rfl) rfl hS124 rfl rfl rfl ?_
       refine ge_nil fun a hF => hKK _ _ (RS.refl _ _) ?_ a hF
       refine go2_batch [15, 16, 17] (ans := []) (vs := [(97, .bool (e4.Op != ((mget (mset (mset ([] : List (Int × Int)) 14 13) 17 16) e2.Op).getD 0))), (96, .bool (e4.Op != ((mget (mset (mset ([] : List (Int × Int)) 14 13) 17 16) e2.Op).getD 0))), (95, .bool (e4.Op != ((mget (mset (mset ([] : List (Int × Int)) 14 13) 17 16) e2.Op).getD 0)))]) (l := []) (by kernel_rfl) trivial mem_nil ?_
       by_cases hc15 : e4.Op = ((mget (mset (mset ([] : List (Int × Int)) 14 13) 17 16) e2.Op).getD 0)
       ·rw [if_pos hc15] at h
        refine go2_known (t := 97) (b := (e4.Op != ((mget (mset (mset ([] : List (Int × Int)) 14 13) 17 16) e2.Op).getD 0))) (c := false) (by kernel_rfl) (bne_eq_false_iff_eq.2 hc15) ?_
        refine go2_batch [18] (ans := [.val (.slice A0 l0.length c0)]) (vs := [(98, .slice A0 l0.length c0)]) (l := [.loaded ⟨b1, 0, none⟩ (.slice A0 l0.length c0)]) (by kernel_rfl) ⟨hS124.c 5, trivial⟩ (mem_one (by kernel_rfl)) ?_
        refine go2_batch [19] (ans := []) (vs := [(99, vI z2)]) (l := []) (by kernel_rfl) trivial mem_nil ?_
        refine go2_index (d := 100) (ty := 0) (t := 22) (el := 29) (sz := 3) (m := l0.length) (c := c0) (x := (.tmp 98)) (y := (.tmp 99)) (A := A0) (k' := .i64) (j := z2) (jn := ((z2).toNat)) (b0 := blkOf A0) (o0 := offOf A0) (by kernel_rfl) (by kernel_rfl) (by kernel_rfl) (by kernel_rfl) (by kernel_rfl) ((hS124.rd hR0).eqSome (pos_of_get hx13)) (Int.toNat_of_nonneg hc14).symm (lt_of_get hx13) ?_
        refine go2_batch [21] (ans := []) (vs := [(101, .pointer (some ⟨blkOf A0, offOf A0 + (z2).toNat * 3 + 1, none⟩))]) (l := []) (by kernel_rfl) trivial mem_nil ?_
        refine go2_batch [22] (ans := [.val (vI e4.A)]) (vs := [(102, vI e4.A)]) (l := [.loaded ⟨blkOf A0, offOf A0 + ((z2).toNat) * 3 + 1, none⟩ (vI e4.A)]) (by kernel_rfl) ⟨RdL.cell (j := 1) (hS124.rd hR0) hx13 rfl, trivial⟩ (mem_one (by kernel_rfl)) ?_
        refine go2_batch [23] (ans := []) (vs := [(103, pP b6 1)]) (l := []) (by kernel_rfl) trivial mem_nil ?_
        refine go2_batch [24] (ans := [.val (vI e2.A)]) (vs := [(104, vI e2.A)]) (l := [.loaded ⟨b6, 1, none⟩ (vI e2.A)]) (by kernel_rfl) ⟨hS124.c 1, trivial⟩ (mem_one (by kernel_rfl)) ?_
        refine go2_batch [25, 26, 27] (ans := []) (vs := [(107, .bool (e4.A != e2.A)), (106, .bool (e4.A != e2.A)), (105, .bool (e4.A != e2.A))]) (l := []) (by kernel_rfl) trivial mem_nil ?_
        by_cases hc16 : e4.A = e2.A
        ·rw [if_pos hc16] at h
         refine go2_known (t := 107) (b := (e4.A != e2.A)) (c := false) (by kernel_rfl) (bne_eq_false_iff_eq.2 hc16) ?_
         refine go2_batch [28] (ans := []) (vs := [(108, pP b6 0)]) (l := []) (by kernel_rfl) trivial mem_nil ?_
         refine go2_batch [29] (ans := [.val (vI e2.Op)]) (vs := [(109, vI e2.Op)]) (l := [.loaded ⟨b6, 0, none⟩ (vI e2.Op)]) (by kernel_rfl) ⟨hS124.c 1, trivial⟩ (mem_one (by kernel_rfl)) ?_
         refine go2_batch [30, 31] (ans := []) (vs := [(111, .bool (e2.Op == 14)), (110, .bool (e2.Op == 14))]) (l := []) (by kernel_rfl) trivial mem_nil ?_
         by_cases hc17 : e2.Op = 14
         ·rw [if_pos hc17] at h
          refine go2_known (t := 111) (b := (e2.Op == 14)) (c := true) (by kernel_rfl) (beq_iff_eq.2 hc17) ?_
          refine go2_batch [32] (ans := []) (vs := [(112, pP b6 2)]) (l := []) (by kernel_rfl) trivial mem_nil ?_
          refine go2_batch [33] (ans := [.val (vI e2.B)]) (vs := [(113, vI e2.B)]) (l := [.loaded ⟨b6, 2, none⟩ (vI e2.B)]) (by kernel_rfl) ⟨hS124.c 1, trivial⟩ (mem_one (by kernel_rfl)) ?_
          refine go2_batch [34, 35, 36, 37, 38] (ans := []) (vs := [(118, .bool (e2.B != (IntKind.i64.wrap (z2 + 1)))), (117, .bool (e2.B != (IntKind.i64.wrap (z2 + 1)))), (116, .bool (e2.B != (IntKind.i64.wrap (z2 + 1)))), (115, vI (IntKind.i64.wrap (z2 + 1))), (114, vI z2)]) (l := []) (by kernel_rfl) trivial mem_nil ?_
          refine go_fin2 fun a hF => hK35 _ _ ?_ a hF
          by_cases hc18 : e2.B = (IntKind.i64.wrap (z2 + 1))
          ·rw [if_pos hc18] at h
           refine wk 118 (e2.B != (IntKind.i64.wrap (z2 + 1))) false (bne_eq_false_iff_eq.2 hc18) ?_
           refine we_false (by kernel_rfl) ?_
           have hS125 := hS124.bring 7 rfl
           have hS126 := hS125.bring 7 rfl
           have hS127 := hS126.bring 7 rfl
           have hS128 := hS127.bring 7 rfl
           have hS129 := hS128.bring 7 rfl
           have hS130 := hS129.bring 7 rfl
           have hS131 := hS130.takeN 6
           obtain rfl := si h
           exact we_skip fun a hF => hQ _ _ _ (Outs.again ⟨hS131, hF.weaken ea⟩)
          ·rw [if_neg hc18] at h
           refine wk 118 (e2.B != (IntKind.i64.wrap (z2 + 1))) true (bne_iff_ne.2 hc18) ?_
           refine we_true (by kernel_rfl) ?_
           refine ws fun K37 hK37 => ?_
           refine wr [(0, 1), (1, 2), (2, 2), (3, 0), (4, 0), (5, 0), (6, 0), (7, 0), (8, 1), (9, 0), (10, 2)] ?_
           refine gw (some 119) (.map #[] 0) (fun b => .map (some b)) hS124 fun b11 w35 hx15 hS132 => ?_
           have hS133 := hS132.newMap (κ := Int) (ν := Int)
           refine ge_mapSet (κ := Int) (ν := Int) (b := b11) (ins := true) (mm := 0) (t := 72) (kt := 3) (et := 23) (x := (.tmp 119)) (y := (.const (vI 14))) (u := (.const (vI 9))) (ty := 0) (m := ([] : List (Int × Int))) (k := 14) (v := 9) (vv := vI 9) (by kernel_rfl) (by kernel_rfl) (by kernel_rfl) (by kernel_rfl) rfl (by kernel_rfl) (by kernel_rfl) hS133 fun w36 hS134 => ?_
           refine ge_mapSet (κ := Int) (ν := Int) (b := b11) (ins := true) (mm := 0) (t := 72) (kt := 3) (et := 23) (x := (.tmp 119)) (y := (.const (vI 17))) (u := (.const (vI 10))) (ty := 0) (m := (mset ([] : List (Int × Int)) 14 9)) (k := 17) (v := 10) (vv := vI 10) (by kernel_rfl) (by kernel_rfl) (by kernel_rfl) (by kernel_rfl) rfl (by kernel_rfl) (by kernel_rfl) hS134 fun w37 hS135 => ?_
           refine gb [3, 4, 5] [(122, vI e2.Op), (121, pP b6 0), (120, .map (some b11))] [.loaded ⟨b6, 0, none⟩ (vI e2.Op)] ⟨hS135.c 2, trivial⟩ ?_
           refine ge_lookup (κ := Int) (ν := Int) (d := 123) (b := b11) (q := 0) (t := 72) (kt := 3) (et := 23) (x := (.tmp 120)) (y := (.tmp 122)) (ty := 23) (m := (mset (mset ([] : List (Int × Int)) 14 9) 17 10)) (k := e2.Op) (z := 0) (v := ((mget (mset (mset ([] : List (Int × Int)) 14 9) 17 10) e2.Op).getD 0)) (zv := vI 0) (vv := vI ((mget (mset (mset ([] : List (Int × Int)) 14 9) 17 10) e2.Op).getD 0)) (by kernel_rfl) (by kernel_rfl) (by kernel_rfl) (by kernel_rfl) (by kernel_rfl) (fun w' => by kernel_rfl) rfl hS135 rfl rfl rfl ?_
           refine gb0 [7] [(124, vI (i2 : Int))] ?_
           refine ge_call (d := some 125) (f := 9) (args := #[vI ((mget (mset (mset ([] : List (Int × Int)) 14 9) 17 10) e2.Op).getD 0), vI (i2 : Int)]) (by kernel_rfl) (punctualref_F_ok ((mget (mset (mset ([] : List (Int × Int)) 14 9) 17 10) e2.Op).getD 0) (i2 : Int) _ _ rfl) ?_
           rintro _ w38 ⟨rfl, hS136⟩
           refine ⟨_, rfl, hS136.below, ?_⟩
           have hS137 := hS135.call hS136
           refine gb0 [9] [(2, .pointer none)] ?_
           have hS138 := hS137.bring 5 rfl
           refine gs b2 0 #[vI 0, vI 0] 25 [vI ((punctualref_F.f ((mget (mset (mset ([] : List (Int × Int)) 14 9) 17 10) e2.Op).getD 0) (i2 : Int)).Code), vI ((punctualref_F.f ((mget (mset (mset ([] : List (Int × Int)) 14 9) 17 10) e2.Op).getD 0) (i2 : Int)).At)] hS138 fun w39 hS139 => ?_
           have hS140 : St w0 w39 [Own.blk b2 (.cells #[vI ((punctualref_F.f ((mget (mset (mset ([] : List (Int × Int)) 14 9) 17 10) e2.Op).getD 0) (i2 : Int)).Code), vI ((punctualref_F.f ((mget (mset (mset ([] : List (Int × Int)) 14 9) 17 10) e2.Op).getD 0) (i2 : Int)).At)] 25 (0, 0)), Own.map (κ := Int) (ν := Int) b11 (mset (mset ([] : List (Int × Int)) 14 9) 17 10), Own.mapE (κ := Int) (ν := Int) b10 (mset (mset ([] : List (Int × Int)) 14 13) 17 16), Own.blk b6 (.cells #[vI e2.Op, vI e2.A, vI e2.B] 29 (0, 0)), Own.blk b5 (.cells #[(.slice Z1 m1.length cz1)] 37 (0, 0)), Own.blk b4 (.cells #[.slice A0 l0.length c0, (.slice Z2 m2.length cz2)] 70 (0, 0)), Own.blk b1 (.cells #[.slice A0 l0.length c0] 22 (0, 0)), Own.of (.slice Z1 m1.length cz1) 3 m1, Own.of (.slice Z2 m2.length cz2) 74 m2] := hS139
           refine gn hK37 ?_
           have hS141 := hS140.takeN 0
           obtain rfl := si h
           exact we_ret fun a hF => hQ _ _ _ (Outs.out nofun ⟨rfl, (pr [.tmp 2, .cell 3 25] [.pointer none, .agg #[vI ((punctualref_F.f ((mget (mset (mset ([] : List (Int × Int)) 14 9) 17 10) e2.Op).getD 0) (i2 : Int)).Code), vI ((punctualref_F.f ((mget (mset (mset ([] : List (Int × Int)) 14 9) 17 10) e2.Op).getD 0) (i2 : Int)).At)]] [.loaded ⟨b2, 0, none⟩ (vI ((punctualref_F.f ((mget (mset (mset ([] : List (Int × Int)) 14 9) 17 10) e2.Op).getD 0) (i2 : Int)).Code)), .loaded ⟨b2, 1, none⟩ (vI ((punctualref_F.f ((mget (mset (mset ([] : List (Int × Int)) 14 9) 17 10) e2.Op).getD 0) (i2 : Int)).At))] ⟨hS140.c 0, hS140.c 0, trivial⟩ ⟨rfl, hS141⟩) a hF⟩)
         ·rw [if_neg hc17] at h
          refine go2_known (t := 111) (b := (e2.Op == 14)) (c := false) (by kernel_rfl) (beq_eq_false_iff_ne.2 hc17) ?_
          refine go2_batch [32, 33, 34, 35, 36, 37, 38] (ans := []) (vs := [(118, .bool false), (117, .bool false), (116, undef), (115, undef), (114, undef), (113, undef), (112, undef)]) (l := []) (by kernel_rfl) trivial mem_nil ?_
          refine go_fin2 fun a hF => hK35 _ _ ?_ a hF
          refine we_false (by kernel_rfl) ?_
          have hS142 := hS124.bring 7 rfl
          have hS143 := hS142.bring 7 rfl
          have hS144 := hS143.bring 7 rfl
          have hS145 := hS144.bring 7 rfl
          have hS146 := hS145.bring 7 rfl
          have hS147 := hS146.bring 7 rfl
          have hS148 := hS147.takeN 6
          obtain rfl := si h
          exact we_skip fun a hF => hQ _ _ _ (Outs.again ⟨hS148, hF.weaken ea⟩)
        ·rw [if_neg hc16] at h
         refine go2_known (t := 107) (b := (e4.A != e2.A)) (c := true) (by kernel_rfl) (bne_iff_ne.2 hc16) ?_
         refine go2_batch [28, 29, 30, 31, 32, 33, 34, 35, 36, 37, 38] (ans := []) (vs := [(118, .bool true), (117, undef), (116, undef), (115, undef), (114, undef), (113, undef), (112, undef), (111, undef), (110, undef), (109, undef), (108, undef)]) (l := []) (by kernel_rfl) trivial mem_nil ?_
         refine go_fin2 fun a hF => hK35 _ _ ?_ a hF
         refine we_true (by kernel_rfl) ?_
         refine ws fun K38 hK38 => ?_
         refine wr [(0, 1), (1, 2), (2, 2), (3, 0), (4, 0), (5, 0), (6, 0), (7, 0), (8, 1), (9, 0), (10, 2)] ?_
         refine gw (some 119) (.map #[] 0) (fun b => .map (some b)) hS124 fun b12 w40 hx16 hS149 => ?_
         have hS150 := hS149.newMap (κ := Int) (ν := Int)
         refine ge_mapSet (κ := Int) (ν := Int) (b := b12) (ins := true) (mm := 0) (t := 72) (kt := 3) (et := 23) (x := (.tmp 119)) (y := (.const (vI 14))) (u := (.const (vI 9))) (ty := 0) (m := ([] : List (Int × Int))) (k := 14) (v := 9) (vv := vI 9) (by kernel_rfl) (by kernel_rfl) (by kernel_rfl) (by kernel_rfl) rfl (by kernel_rfl) (by kernel_rfl) hS150 fun w41 hS151 => ?_
         refine ge_mapSet (κ := Int) (ν := Int) (b := b12) (ins := true) (mm := 0) (t := 72) (kt := 3) (et := 23) (x := (.tmp 119)) (y := (.const (vI 17))) (u := (.const (vI 10))) (ty := 0) (m := (mset ([] : List (Int × Int)) 14 9)) (k := 17) (v := 10) (vv := vI 10) (by kernel_rfl) (by kernel_rfl) (by kernel_rfl) (by kernel_rfl) rfl (by kernel_rfl) (by kernel_rfl) hS151 fun w42 hS152 => ?_
         refine gb [3, 4, 5] [(122, vI e2.Op), (121, pP b6 0), (120, .map (some b12))] [.loaded ⟨b6, 0, none⟩ (vI e2.Op)] ⟨hS152.c 2, trivial⟩ ?_
         refine ge_lookup (κ := Int) (ν := Int) (d := 123) (b := b12) (q := 0) (t := 72) (kt := 3) (et := 23) (x := (.tmp 120)) (y := (.tmp 122)) (ty := 23) (m := (mset (mset ([] : List (Int × Int)) 14 9) 17 10)) (k := e2.Op) (z := 0) (v := ((mget (mset (mset ([] : List (Int × Int)) 14 9) 17 10) e2.Op).getD 0)) (zv := vI 0) (vv := vI ((mget (mset (mset ([] : List (Int × Int)) 14 9) 17 10) e2.Op).getD 0)) (by kernel_rfl) (by kernel_rfl) (by kernel_rfl) (by kernel_rfl) (by kernel_rfl) (fun w' => by kernel_rfl) rfl hS152 rfl rfl rfl ?_
         refine gb0 [7] [(124, vI (i2 : Int))] ?_
         refine ge_call (d := some 125) (f := 9) (args := #[vI ((mget (mset (mset ([] : List (Int × Int)) 14 9) 17 10) e2.Op).getD 0), vI (i2 : Int)]) (by kernel_rfl) (punctualref_F_ok ((mget (mset (mset ([] : List (Int × Int)) 14 9) 17 10) e2.Op).getD 0) (i2 : Int) _ _ rfl) ?_
         rintro _ w43 ⟨rfl, hS153⟩
         refine ⟨_, rfl, hS153.below, ?_⟩
         have hS154 := hS152.call hS153
         refine gb0 [9] [(2, .pointer none)] ?_
         have hS155 := hS154.bring 5 rfl
         refine gs b2 0 #[vI 0, vI 0] 25 [vI ((punctualref_F.f ((mget (mset (mset ([] : List (Int × Int)) 14 9) 17 10) e2.Op).getD 0) (i2 : Int)).Code), vI ((punctualref_F.f ((mget (mset (mset ([] : List (Int × Int)) 14 9) 17 10) e2.Op).getD 0) (i2 : Int)).At)] hS155 fun w44 hS156 => ?_
         have hS157 : St w0 w44 [Own.blk b2 (.cells #[vI ((punctualref_F.f ((mget (mset (mset ([] : List (Int × Int)) 14 9) 17 10) e2.Op).getD 0) (i2 : Int)).Code), vI ((punctualref_F.f ((mget (mset (mset ([] : List (Int × Int)) 14 9) 17 10) e2.Op).getD 0) (i2 : Int)).At)] 25 (0, 0)), Own.map (κ := Int) (ν := Int) b12 (mset (mset ([] : List (Int × Int)) 14 9) 17 10), Own.mapE (κ := Int) (ν := Int) b10 (mset (mset ([] : List (Int × Int)) 14 13) 17 16), Own.blk b6 (.cells #[vI e2.Op, vI e2.A, vI e2.B] 29 (0, 0)), Own.blk b5 (.cells #[(.slice Z1 m1.length cz1)] 37 (0, 0)), Own.blk b4 (.cells #[.slice A0 l0.length c0, (.slice Z2 m2.length cz2)] 70 (0, 0)), Own.blk b1 (.cells #[.slice A0 l0.length c0] 22 (0, 0)), Own.of (.slice Z1 m1.length cz1) 3 m1, Own.of (.slice Z2 m2.length cz2) 74 m2] := hS156
         refine gn hK38 ?_
         have hS158 := hS157.takeN 0
         obtain rfl := si h
         exact we_ret fun a hF => hQ _ _ _ (Outs.out nofun ⟨rfl, (pr [.tmp 2, .cell 3 25] [.pointer none, .agg #[vI ((punctualref_F.f ((mget (mset (mset ([] : List (Int × Int)) 14 9) 17 10) e2.Op).getD 0) (i2 : Int)).Code), vI ((punctualref_F.f ((mget (mset (mset ([] : List (Int × Int)) 14 9) 17 10) e2.Op).getD 0) (i2 : Int)).At)]] [.loaded ⟨b2, 0, none⟩ (vI ((punctualref_F.f ((mget (mset (mset ([] : List (Int × Int)) 14 9) 17 10) e2.Op).getD 0) (i2 : Int)).Code)), .loaded ⟨b2, 1, none⟩ (vI ((punctualref_F.f ((mget (mset (mset ([] : List (Int × Int)) 14 9) 17 10) e2.Op).getD 0) (i2 : Int)).At))] ⟨hS157.c 0, hS157.c 0, trivial⟩ ⟨rfl, hS158⟩) a hF⟩)
       ·rw [if_neg hc15] at h
        refine go2_known (t := 97) (b := (e4.Op != ((mget (mset (mset ([] : List (Int × Int)) 14 13) 17 16) e2.Op).getD 0))) (c := true) (by kernel_rfl) (bne_iff_ne.2 hc15) ?_
        refine go2_batch [18, 19, 20, 21, 22, 23, 24, 25, 26, 27, 28, 29, 30, 31, 32, 33, 34, 35, 36, 37, 38] (ans := []) (vs := [(118, .bool true), (117, undef), (116, undef), (115, undef), (114, undef), (113, undef), (112, undef), (111, undef), (110, undef), (109, undef), (108, undef), (107, .bool true), (106, .bool true), (105, undef), (104, undef), (103, undef), (102, undef), (101, undef), (100, undef), (99, undef), (98, undef)]) (l := []) (by kernel_rfl) trivial mem_nil ?_
        refine go_fin2 fun a hF => hK35 _ _ ?_ a hF
        refine we_true (by kernel_rfl) ?_
        refine ws fun K39 hK39 => ?_
        refine wr [(0, 1), (1, 2), (2, 2), (3, 0), (4, 0), (5, 0), (6, 0), (7, 0), (8, 1), (9, 0), (10, 2)] ?_
        refine gw (some 119) (.map #[] 0) (fun b => .map (some b)) hS124 fun b13 w45 hx17 hS159 => ?_
        have hS160 := hS159.newMap (κ := Int) (ν := Int)
        refine ge_mapSet (κ := Int) (ν := Int) (b := b13) (ins := true) (mm := 0) (t := 72) (kt := 3) (et := 23) (x := (.tmp 119)) (y := (.const (vI 14))) (u := (.const (vI 9))) (ty := 0) (m := ([] : List (Int × Int))) (k := 14) (v := 9) (vv := vI 9) (by kernel_rfl) (by kernel_rfl) (by kernel_rfl) (by kernel_rfl) rfl (by kernel_rfl) (by kernel_rfl) hS160 fun w46 hS161 => ?_
        refine ge_mapSet (κ := Int) (ν := Int) (b := b13) (ins := true) (mm := 0) (t := 72) (kt := 3) (et := 23) (x := (.tmp 119)) (y := (.const (vI 17))) (u := (.const (vI 10))) (ty := 0) (m := (mset ([] : List (Int × Int)) 14 9)) (k := 17) (v := 10) (vv := vI 10) (by kernel_rfl) (by kernel_rfl) (by kernel_rfl) (by kernel_rfl) rfl (by kernel_rfl) (by kernel_rfl) hS161 fun w47 hS162 => ?_
        refine gb [3, 4, 5] [(122, vI e2.Op), (121, pP b6 0), (120, .map (some b13))] [.loaded ⟨b6, 0, none⟩ (vI e2.Op)] ⟨hS162.c 2, trivial⟩ ?_
        refine ge_lookup (κ := Int) (ν := Int) (d := 123) (b := b13) (q := 0) (t := 72) (kt := 3) (et := 23) (x := (.tmp 120)) (y := (.tmp 122)) (ty := 23) (m := (mset (mset ([] : List (Int × Int)) 14 9) 17 10)) (k := e2.Op) (z := 0) (v := ((mget (mset (mset ([] : List (Int × Int)) 14 9) 17 10) e2.Op).getD 0)) (zv := vI 0) (vv := vI ((mget (mset (mset ([] : List (Int × Int)) 14 9) 17 10) e2.Op).getD 0)) (by kernel_rfl) (by kernel_rfl) (by kernel_rfl) (by kernel_rfl) (by kernel_rfl) (fun w' => by kernel_rfl) rfl hS162 rfl rfl rfl ?_
        refine gb0 [7] [(124, vI (i2 : Int))] ?_
        refine ge_call (d := some 125) (f := 9) (args := #[vI ((mget (mset (mset ([] : List (Int × Int)) 14 9) 17 10) e2.Op).getD 0), vI (i2 : Int)]) (by kernel_rfl) (punctualref_F_ok ((mget (mset (mset ([] : List (Int × Int)) 14 9) 17 10) e2.Op).getD 0) (i2 : Int) _ _ rfl) ?_
        rintro _ w48 ⟨rfl, hS163⟩
        refine ⟨_, rfl, hS163.below, ?_⟩
        have hS164 := hS162.call hS163
        refine gb0 [9] [(2, .pointer none)] ?_
        have hS165 := hS164.bring 5 rfl
        refine gs b2 0 #[vI 0, vI 0] 25 [vI ((punctualref_F.f ((mget (mset (mset ([] : List (Int × Int)) 14 9) 17 10) e2.Op).getD 0) (i2 : Int)).Code), vI ((punctualref_F.f ((mget (mset (mset ([] : List (Int × Int)) 14 9) 17 10) e2.Op).getD 0) (i2 : Int)).At)] hS165 fun w49 hS166 => ?_
        have hS167 : St w0 w49 [Own.blk b2 (.cells #[vI ((punctualref_F.f ((mget (mset (mset ([] : List (Int × Int)) 14 9) 17 10) e2.Op).getD 0) (i2 : Int)).Code), vI ((punctualref_F.f ((mget (mset (mset ([] : List (Int × Int)) 14 9) 17 10) e2.Op).getD 0) (i2 : Int)).At)] 25 (0, 0)), Own.map (κ := Int) (ν := Int) b13 (mset (mset ([] : List (Int × Int)) 14 9) 17 10), Own.mapE (κ := Int) (ν := Int) b10 (mset (mset ([] : List (Int × Int)) 14 13) 17 16), Own.blk b6 (.cells #[vI e2.Op, vI e2.A, vI e2.B] 29 (0, 0)), Own.blk b5 (.cells #[(.slice Z1 m1.length cz1)] 37 (0, 0)), Own.blk b4 (.cells #[.slice A0 l0.length c0, (.slice Z2 m2.length cz2)] 70 (0, 0)), Own.blk b1 (.cells #[.slice A0 l0.length c0] 22 (0, 0)), Own.of (.slice Z1 m1.length cz1) 3 m1, Own.of (.slice Z2 m2.length cz2) 74 m2] := hS166
        refine gn hK39 ?_
        have hS168 := hS167.takeN 0
        obtain rfl := si h
        exact we_ret fun a hF => hQ _ _ _ (Outs.out nofun ⟨rfl, (pr [.tmp 2, .cell 3 25] [.pointer none, .agg #[vI ((punctualref_F.f ((mget (mset (mset ([] : List (Int × Int)) 14 9) 17 10) e2.Op).getD 0) (i2 : Int)).Code), vI ((punctualref_F.f ((mget (mset (mset ([] : List (Int × Int)) 14 9) 17 10) e2.Op).getD 0) (i2 : Int)).At)]] [.loaded ⟨b2, 0, none⟩ (vI ((punctualref_F.f ((mget (mset (mset ([] : List (Int × Int)) 14 9) 17 10) e2.Op).getD 0) (i2 : Int)).Code)), .loaded ⟨b2, 1, none⟩ (vI ((punctualref_F.f ((mget (mset (mset ([] : List (Int × Int)) 14 9) 17 10) e2.Op).getD 0) (i2 : Int)).At))] ⟨hS167.c 0, hS167.c 0, trivial⟩ ⟨rfl, hS168⟩) a hF⟩)
      exact go_nomore2
     exact go_nomore2
    exact go_nomore2
   exact go_nomore2
  ·rw [if_neg hc14] at h
   cases h
abbrev punctualref_ReadImage.A1 (w0 : World) (l0 : List SIns) (A0 : Option Addr) (c0 : Nat) (b1 : Nat) (b2 : Nat) (b4 : Nat) (b5 : Nat) : (Nat × (List Int) × (List Sregion)) → Act → World → Prop := fun (s : Nat × (List Int) × (List Sregion)) a w => ∃ (v1 : Value) (v2 : Value), St w0 w [Own.blk b5 (.cells #[v1] 37 (0, 0)), Own.blk b4 (.cells #[.slice A0 l0.length c0, v2] 70 (0, 0)), Own.blk b2 (.cells #[vI 0, vI 0] 25 (0, 0)), Own.blk b1 (.cells #[.slice A0 l0.length c0] 22 (0, 0)), Own.of v1 3 s.2.1, Own.of v2 74 s.2.2] ∧ Frm 230 a [(1, pP b1 0), (3, pP b2 0), (7, pP b4 0), (8, pP b5 0), (42, .slice A0 l0.length c0), (43, vI (l0.length : Int)), (44, vI (s.1 : Int))]
abbrev punctualref_ReadImage.B1 (w0 : World) (l0 : List SIns) (A0 : Option Addr) (c0 : Nat) (b1 : Nat) (b2 : Nat) (b4 : Nat) (b5 : Nat) : (((List Int) × (List Sregion)) ⊕ ((Option PImage) × SFault)) → Exit → Act → World → Prop := Exits 2 (fun (s : (List Int) × (List Sregion)) a w => ∃ (v3 : Value) (v4 : Value), St w0 w [Own.blk b5 (.cells #[v3] 37 (0, 0)), Own.blk b4 (.cells #[.slice A0 l0.length c0, v4] 70 (0, 0)), Own.blk b2 (.cells #[vI 0, vI 0] 25 (0, 0)), Own.blk b1 (.cells #[.slice A0 l0.length c0] 22 (0, 0)), Own.of v3 3 s.1, Own.of v4 74 s.2] ∧ Frm 230 a [(1, pP b1 0), (3, pP b2 0), (7, pP b4 0), (8, pP b5 0)]) (Rets Tryd.prog Tryd.f11 (punctualref_ReadImage.Post w0 l0 A0 c0))
theorem punctualref_ReadImage_r1 (K : Nat) (w0 : World) (l0 : List SIns) (A0 : Option Addr) (c0 : Nat) (hR0 : RdL w0 A0 l0) (hL0 : l0.length ≤ c0) (b1 : Nat) (b2 : Nat) (hc1 : ¬ ((l0.length : Int) > 2000)) (b4 : Nat) (b5 : Nat) (s : Nat × (List Int) × (List Sregion)) (o : (Nat × (List Int) × (List Sregion)) ⊕ (((List Int) × (List Sregion)) ⊕ ((Option PImage) × SFault))) (h : punctualref_ReadImage.r1 K l0 s = some o) (a : Act) (w : World) (hA : punctualref_ReadImage.A1 w0 l0 A0 c0 b1 b2 b4 b5 s a w) (Q : Exit → Act → World → Prop) (hQ : ∀ x a w, Outs (punctualref_ReadImage.A1 w0 l0 A0 c0 b1 b2 b4 b5) (punctualref_ReadImage.B1 w0 l0 A0 c0 b1 b2 b4 b5) o x a w → Q x a w) : (subF Tryd.f11 [1, 1, 1, 1, 1, 0, 1, 0, 0]).wp Tryd.prog Q a w := by
 obtain ⟨i2, m1, m2⟩ := s
 obtain ⟨v1, v2, hS, hF⟩ := hA
 replace hS : St w0 w [Own.blk b5 (.cells #[v1] 37 (0, 0)), Own.blk b4 (.cells #[.slice A0 l0.length c0, v2] 70 (0, 0)), Own.blk b2 (.cells #[vI 0, vI 0] 25 (0, 0)), Own.blk b1 (.cells #[.slice A0 l0.length c0] 22 (0, 0)), Own.of v1 3 m1, Own.of v2 74 m2] := hS
 simp only [punctualref_ReadImage.r1] at h
 refine (?_ : WE Tryd.prog 230 (subF Tryd.f11 [1, 1, 1, 1, 1, 0, 1, 0, 0]) Q [(1, pP b1 0), (3, pP b2 0), (7, pP b4 0), (8, pP b5 0), (42, .slice A0 l0.length c0), (43, vI (l0.length : Int)), (44, vI (i2 : Int))] w) a hF
 clear hF a
 refine ws fun K18 hK18 => ?_
 refine wr [(0, 0)] ?_
 refine gb0 [0] [(45, .bool (decide ((i2 : Int) < (l0.length : Int))))] ?_
 refine gn hK18 ?_
 refine ws fun K19 hK19 => ?_
 by_cases hc4 : (i2 : Int) < (l0.length : Int)
 ·rw [if_pos hc4] at h
  refine wk 45 (decide ((i2 : Int) < (l0.length : Int))) true (decide_eq_true hc4) ?_
  refine we_true (by kernel_rfl) ?_
  refine we_skip fun a hF => hK19 _ _ ?_ a hF
  refine ws fun K20 hK20 => ?_
  refine we_block ?_
  refine ws fun K21 hK21 => ?_
  refine wr [(0, 0), (1, 0), (2, 0), (3, 1), (4, 0), (5, 2)] ?_
  refine gb0 [0] [(46, vI (i2 : Int))] ?_
  rcases hx7 : l0[i2]? with _ | e2
  ·rw [hx7] at h; cases h
  rw [hx7] at h
  simp only [] at h
  refine gi 47 0 22 29 3 l0.length c0 (.tmp 42) (.tmp 44) A0 .i64 (i2 : Int) i2 ((hS.rd hR0).eqSome (pos_of_get hx7)) rfl (lt_of_get hx7) ?_
  refine gb [2] [(48, .agg #[vI e2.Op, vI e2.A, vI e2.B])] [.loaded ⟨blkOf A0, offOf A0 + i2 * 3, none⟩ (vI e2.Op), .loaded ⟨blkOf A0, offOf A0 + i2 * 3 + 1, none⟩ (vI e2.A), .loaded ⟨blkOf A0, offOf A0 + i2 * 3 + 2, none⟩ (vI e2.B)] ⟨RdL.cell (j := 0) (hS.rd hR0) hx7 rfl, RdL.cell (j := 1) (hS.rd hR0) hx7 rfl, RdL.cell (j := 2) (hS.rd hR0) hx7 rfl, trivial⟩ ?_
  refine gw (some 10) (.cells #[vI 0, vI 0, vI 0] 29) (fun b => pP b 0) hS fun b6 w13 hx8 hS36 => ?_
  refine gb0 [4] [(9, vI (i2 : Int))] ?_
  refine gs b6 0 #[vI 0, vI 0, vI 0] 29 [vI e2.Op, vI e2.A, vI e2.B] hS36 fun w14 hS37 => ?_
  have hS38 : St w0 w14 [Own.blk b6 (.cells #[vI e2.Op, vI e2.A, vI e2.B] 29 (0, 0)), Own.blk b5 (.cells #[v1] 37 (0, 0)), Own.blk b4 (.cells #[.slice A0 l0.length c0, v2] 70 (0, 0)), Own.blk b2 (.cells #[vI 0, vI 0] 25 (0, 0)), Own.blk b1 (.cells #[.slice A0 l0.length c0] 22 (0, 0)), Own.of v1 3 m1, Own.of v2 74 m2] := hS37
  refine gn hK21 ?_
  refine ws fun K22 hK22 => ?_
  refine wr [(0, 0)] ?_
  refine gb0 [0] [(11, vI (-1))] ?_
  refine gn hK22 ?_
  refine ws fun K23 hK23 => ?_
  obtain ⟨Z1, cz1, rfl⟩ := hS38.open 5 rfl
  obtain ⟨Z2, cz2, rfl⟩ := hS38.open 6 rfl
  rcases hq5 : punctualref_ReadImage.p2 m1 with _ | (z2 | rr4)
  ·rw [hq5] at h; cases h
  ·rw [hq5] at h
   simp only [] at h
   refine we_keep (e' := [(1, pP b1 0), (3, pP b2 0), (7, pP b4 0), (8, pP b5 0), (9, vI (i2 : Int)), (10, pP b6 0), (11, vI (-1)), (42, .slice A0 l0.length c0), (43, vI (l0.length : Int)), (44, vI (i2 : Int)), (45, .bool true), (46, vI (i2 : Int)), (47, .pointer (some ⟨blkOf A0, offOf A0 + i2 * 3, none⟩)), (48, .agg #[vI e2.Op, vI e2.A, vI e2.B])]) ea (punctualref_ReadImage_p2 K w0 l0 A0 c0 hR0 hL0 b1 b2 hc1 b4 b5 i2 m1 m2 hc4 e2 hx7 b6 Z1 cz1 Z2 cz2 _ hq5 _ hS38 _ ?_)
   rintro _ a w15 ⟨rfl, hS53, hF⟩
   replace hS53 : St w0 w15 [Own.blk b6 (.cells #[vI e2.Op, vI e2.A, vI e2.B] 29 (0, 0)), Own.blk b5 (.cells #[(.slice Z1 m1.length cz1)] 37 (0, 0)), Own.blk b4 (.cells #[.slice A0 l0.length c0, (.slice Z2 m2.length cz2)] 70 (0, 0)), Own.blk b2 (.cells #[vI 0, vI 0] 25 (0, 0)), Own.blk b1 (.cells #[.slice A0 l0.length c0] 22 (0, 0)), Own.of (.slice Z1 m1.length cz1) 3 m1, Own.of (.slice Z2 m2.length cz2) 74 m2] := hS53
   refine hK23 [(1, pP b1 0), (3, pP b2 0), (7, pP b4 0), (8, pP b5 0), (9, vI (i2 : Int)), (10, pP b6 0), (11, vI z2), (42, .slice A0 l0.length c0), (43, vI (l0.length : Int)), (44, vI (i2 : Int))] w15 ?_ a hF
   refine ws fun K25 hK25 => ?_
   refine wr [(0, 0), (1, 0)] ?_
   refine gb0 [0, 1] [(12, .func (.func 32) #[] #[pP b5 0, pP b1 0, pP b6 0]), (58, .func (.func 32) #[] #[pP b5 0, pP b1 0, pP b6 0])] ?_
   refine gn hK25 ?_
   refine ws fun K26 hK26 => ?_
   refine wr [(0, 0), (1, 0)] ?_
   refine gb [0, 1] [(60, vI e2.Op), (59, pP b6 0)] [.loaded ⟨b6, 0, none⟩ (vI e2.Op)] ⟨hS53.c 0, trivial⟩ ?_
   refine gn hK26 ?_
   refine we_block ?_
   refine ws fun K27 hK27 => ?_
   rcases hq6 : punctualref_ReadImage.p3 e2 with _ | (q2 | rr3)
   ·rw [hq6] at h; cases h
   ·rw [hq6] at h
    simp only [] at h
    refine we_keep (e' := [(1, pP b1 0), (3, pP b2 0), (7, pP b4 0), (8, pP b5 0), (9, vI (i2 : Int)), (10, pP b6 0), (11, vI z2), (12, .func (.func 32) #[] #[pP b5 0, pP b1 0, pP b6 0]), (42, .slice A0 l0.length c0), (43, vI (l0.length : Int)), (44, vI (i2 : Int)), (58, .func (.func 32) #[] #[pP b5 0, pP b1 0, pP b6 0]), (59, pP b6 0), (60, vI e2.Op)]) ea (punctualref_ReadImage_p3 K w0 l0 A0 c0 hR0 hL0 b1 b2 hc1 b4 b5 i2 m1 m2 hc4 e2 hx7 b6 Z1 cz1 Z2 cz2 z2 _ hq6 _ hS53 _ ?_)
    rintro _ a w16 ⟨rfl, hS68, hF⟩
    replace hS68 : St w0 w16 [Own.blk b6 (.cells #[vI e2.Op, vI e2.A, vI e2.B] 29 (0, 0)), Own.blk b5 (.cells #[(.slice Z1 m1.length cz1)] 37 (0, 0)), Own.blk b4 (.cells #[.slice A0 l0.length c0, (.slice Z2 m2.length cz2)] 70 (0, 0)), Own.blk b2 (.cells #[vI 0, vI 0] 25 (0, 0)), Own.blk b1 (.cells #[.slice A0 l0.length c0] 22 (0, 0)), Own.of (.slice Z1 m1.length cz1) 3 m1, Own.of (.slice Z2 m2.length cz2) 74 m2] := hS68
    refine hK27 [(1, pP b1 0), (3, pP b2 0), (7, pP b4 0), (8, pP b5 0), (9, vI (i2 : Int)), (10, pP b6 0), (11, vI z2), (12, .func (.func 32) #[] #[pP b5 0, pP b1 0, pP b6 0]), (42, .slice A0 l0.length c0), (43, vI (l0.length : Int)), (44, vI (i2 : Int)), (60, vI e2.Op), (61, .bool q2)] w16 ?_ a hF
    by_cases hc8 : q2 = true
    ·rw [if_pos hc8] at h
     refine wk 61 q2 true hc8 ?_
     refine we_true (by kernel_rfl) ?_
     refine ws fun K29 hK29 => ?_
     refine ws fun K30 hK30 => ?_
     refine wr [(0, 0), (1, 0), (2, 0), (3, 1)] ?_
     rcases hq7 : punctualref_ReadImage_1.f K e2.Op m1 l0 e2 with _ | r2
     ·rw [hq7] at h; cases h
     rw [hq7] at h
     simp only [] at h
     refine gb [0, 1, 2] [(66, vI e2.Op), (65, pP b6 0), (64, .func (.func 32) #[] #[pP b5 0, pP b1 0, pP b6 0])] [.loaded ⟨b6, 0, none⟩ (vI e2.Op)] ⟨hS68.c 0, trivial⟩ ?_
     refine ge_call (d := some 67) (f := 32) (args := #[vI e2.Op, pP b5 0, pP b1 0, pP b6 0]) (by kernel_rfl) (punctualref_ReadImage_1_ok K e2.Op b5 m1 Z1 cz1 b1 l0 A0 c0 b6 e2 _ (hS68.rdAt 5 rfl) (hS68.capAt 5 rfl) (hS68.globOf 1 rfl) (hS68.rd hR0) hL0 (hS68.globOf 4 rfl) (hS68.globOf 0 rfl) _ hq7) ?_
     rintro _ w17 ⟨rfl, hS69⟩
     refine ⟨_, rfl, hS69.below, ?_⟩
     have hS70 := hS68.call hS69
     refine gn hK30 ?_
     by_cases hc9 : r2 = true
     ·rw [if_pos hc9] at h
      refine wk 67 r2 true hc9 ?_
      refine we_true (by kernel_rfl) ?_
      refine ws fun K31 hK31 => ?_
      refine wr [(0, 1), (1, 2), (2, 2), (3, 0), (4, 0), (5, 0), (6, 0), (7, 0), (8, 1), (9, 0), (10, 2)] ?_
      refine gw (some 68) (.map #[] 0) (fun b => .map (some b)) hS70 fun b7 w18 hx10 hS71 => ?_
      have hS72 := hS71.newMap (κ := Int) (ν := Int)
      refine ge_mapSet (κ := Int) (ν := Int) (b := b7) (ins := true) (mm := 0) (t := 72) (kt := 3) (et := 23) (x := (.tmp 68)) (y := (.const (vI 13))) (u := (.const (vI 9))) (ty := 0) (m := ([] : List (Int × Int))) (k := 13) (v := 9) (vv := vI 9) (by kernel_rfl) (by kernel_rfl) (by kernel_rfl) (by kernel_rfl) rfl (by kernel_rfl) (by kernel_rfl) hS72 fun w19 hS73 => ?_
      refine ge_mapSet (κ := Int) (ν := Int) (b := b7) (ins := true) (mm := 0) (t := 72) (kt := 3) (et := 23) (x := (.tmp 68)) (y := (.const (vI 16))) (u := (.const (vI 10))) (ty := 0) (m := (mset ([] : List (Int × Int)) 13 9)) (k := 16) (v := 10) (vv := vI 10) (by kernel_rfl) (by kernel_rfl) (by kernel_rfl) (by kernel_rfl) rfl (by kernel_rfl) (by kernel_rfl) hS73 fun w20 hS74 => ?_
      refine gb [3, 4, 5] [(71, vI e2.Op), (70, pP b6 0), (69, .map (some b7))] [.loaded ⟨b6, 0, none⟩ (vI e2.Op)] ⟨hS74.c 1, trivial⟩ ?_
      refine ge_lookup (κ := Int) (ν := Int) (d := 72) (b := b7) (q := 0) (t := 72) (kt := 3) (et := 23) (x := (.tmp 69)) (y := (.tmp 71)) (ty := 23) (m := (mset (mset ([] : List (Int × Int)) 13 9) 16 10)) (k := e2.Op) (z := 0) (v := ((mget (mset (mset ([] : List (Int × Int)) 13 9) 16 10) e2.Op).getD 0)) (zv := vI 0) (vv := vI ((mget (mset (mset ([] : List (Int × Int)) 13 9) 16 10) e2.Op).getD 0)) (by kernel_rfl) (by kernel_rfl) (by kernel_rfl) (by kernel_rfl) (by kernel_rfl) (fun w' => by kernel_rfl) rfl hS74 rfl rfl rfl ?_
      refine gb0 [7] [(73, vI (i2 : Int))] ?_
      refine ge_call (d := some 74) (f := 9) (args := #[vI ((mget (mset (mset ([] : List (Int × Int)) 13 9) 16 10) e2.Op).getD 0), vI (i2 : Int)]) (by kernel_rfl) (punctualref_F_ok ((mget (mset (mset ([] : List (Int × Int)) 13 9) 16 10) e2.Op).getD 0) (i2 : Int) _ _ rfl) ?_
      rintro _ w21 ⟨rfl, hS75⟩
      refine ⟨_, rfl, hS75.below, ?_⟩
      have hS76 := hS74.call hS75
      refine gb0 [9] [(2, .pointer none)] ?_
      have hS77 := hS76.bring 4 rfl
      refine gs b2 0 #[vI 0, vI 0] 25 [vI ((punctualref_F.f ((mget (mset (mset ([] : List (Int × Int)) 13 9) 16 10) e2.Op).getD 0) (i2 : Int)).Code), vI ((punctualref_F.f ((mget (mset (mset ([] : List (Int × Int)) 13 9) 16 10) e2.Op).getD 0) (i2 : Int)).At)] hS77 fun w22 hS78 => ?_
      have hS79 : St w0 w22 [Own.blk b2 (.cells #[vI ((punctualref_F.f ((mget (mset (mset ([] : List (Int × Int)) 13 9) 16 10) e2.Op).getD 0) (i2 : Int)).Code), vI ((punctualref_F.f ((mget (mset (mset ([] : List (Int × Int)) 13 9) 16 10) e2.Op).getD 0) (i2 : Int)).At)] 25 (0, 0)), Own.map (κ := Int) (ν := Int) b7 (mset (mset ([] : List (Int × Int)) 13 9) 16 10), Own.blk b6 (.cells #[vI e2.Op, vI e2.A, vI e2.B] 29 (0, 0)), Own.blk b5 (.cells #[(.slice Z1 m1.length cz1)] 37 (0, 0)), Own.blk b4 (.cells #[.slice A0 l0.length c0, (.slice Z2 m2.length cz2)] 70 (0, 0)), Own.blk b1 (.cells #[.slice A0 l0.length c0] 22 (0, 0)), Own.of (.slice Z1 m1.length cz1) 3 m1, Own.of (.slice Z2 m2.length cz2) 74 m2] := hS78
      refine gn hK31 ?_
      have hS80 := hS79.takeN 0
      obtain rfl := si h
      exact we_ret fun a hF => hQ _ _ _ (Outs.out nofun (Exits.on ⟨rfl, (pr [.tmp 2, .cell 3 25] [.pointer none, .agg #[vI ((punctualref_F.f ((mget (mset (mset ([] : List (Int × Int)) 13 9) 16 10) e2.Op).getD 0) (i2 : Int)).Code), vI ((punctualref_F.f ((mget (mset (mset ([] : List (Int × Int)) 13 9) 16 10) e2.Op).getD 0) (i2 : Int)).At)]] [.loaded ⟨b2, 0, none⟩ (vI ((punctualref_F.f ((mget (mset (mset ([] : List (Int × Int)) 13 9) 16 10) e2.Op).getD 0) (i2 : Int)).Code)), .loaded ⟨b2, 1, none⟩ (vI ((punctualref_F.f ((mget (mset (mset ([] : List (Int × Int)) 13 9) 16 10) e2.Op).getD 0) (i2 : Int)).At))] ⟨hS79.c 0, hS79.c 0, trivial⟩ ⟨rfl, hS80⟩) a hF⟩))
     ·rw [if_neg hc9] at h
      refine wk 67 r2 false (Bool.eq_false_iff.2 hc9) ?_
      refine we_false (by kernel_rfl) ?_
      refine we_skip fun a hF => hK29 _ _ ?_ a hF
      refine wr [(0, 0), (1, 0), (2, 1), (3, 2), (4, 2)] ?_
      refine gb [0, 1] [(76, vI (i2 : Int)), (75, (.slice Z1 m1.length cz1))] [.loaded ⟨b5, 0, none⟩ ((.slice Z1 m1.length cz1))] ⟨hS70.c 1, trivial⟩ ?_
      refine gw (some 77) (.cells #[vI (i2 : Int)] 3) (fun b => .slice (some ⟨b, 0, none⟩) 1 1) hS70 fun b8 w23 hx11 hS81 => ?_
      have hS82 := hS81.bring 6 rfl
      by_cases hc10 : m1.length < 17592186044416
      ·rw [if_pos hc10] at h
       refine ge_append (α := Int) (m := 0) (d := 78) (t := 37) (el := 3) (bytes := 8) (c1 := 1) (b1 := b8) (x := (.tmp 75)) (y := (.tmp 77)) (ty := 37) (v := (.slice Z1 m1.length cz1)) (z := vI 0) (l := m1) (u := (i2 : Int)) (by kernel_rfl) (by kernel_rfl) (by kernel_rfl) (by kernel_rfl) (by kernel_rfl) rfl hS82 rfl (by omega) fun v5 w24 hS83 => ?_
       obtain ⟨Z3, cz3, rfl⟩ := hS83.open 0 rfl
       have hS84 := hS83.bring 2 rfl
       refine gs b5 0 #[(.slice Z1 m1.length cz1)] 37 [(.slice Z3 (m1 ++ [(i2 : Int)]).length cz3)] hS84 fun w25 hS85 => ?_
       have hS86 : St w0 w25 [Own.blk b5 (.cells #[(.slice Z3 (m1 ++ [(i2 : Int)]).length cz3)] 37 (0, 0)), Own.of (.slice Z3 (m1 ++ [(i2 : Int)]).length cz3) 3 (m1 ++ [(i2 : Int)]), Own.blk b6 (.cells #[vI e2.Op, vI e2.A, vI e2.B] 29 (0, 0)), Own.blk b4 (.cells #[.slice A0 l0.length c0, (.slice Z2 m2.length cz2)] 70 (0, 0)), Own.blk b2 (.cells #[vI 0, vI 0] 25 (0, 0)), Own.blk b1 (.cells #[.slice A0 l0.length c0] 22 (0, 0)), Own.of (.slice Z2 m2.length cz2) 74 m2] := hS85
       refine gn hK20 ?_
       refine wr [(0, 0), (1, 0)] ?_
       refine ge_addn (d := 150) (ty := 3) (x := (.tmp 44)) (y := (.const (vI 1))) (t := 3) (t2 := 3) (k := .i64) (m := i2) (by kernel_rfl) (by kernel_rfl) (by kernel_rfl) (by have h0 := hR0.small; omega) ?_
       refine gb0 [1] [(44, vI ((i2 + 1 : Nat) : Int))] ?_
       have hS87 := hS86.bring 6 rfl
       have hS88 := hS87.bring 2 rfl
       have hS89 := hS88.bring 6 rfl
       have hS90 := hS89.bring 6 rfl
       have hS91 := hS90.bring 6 rfl
       have hS92 := hS91.bring 5 rfl
       have hS93 := hS92.takeN 6
       obtain rfl := si h
       exact ge_nil fun a hF => hQ _ _ _ (Outs.again ⟨(.slice Z3 (m1 ++ [(i2 : Int)]).length cz3), (.slice Z2 m2.length cz2), hS93, hF.weaken ea⟩)
      ·rw [if_neg hc10] at h
       cases h
    ·rw [if_neg hc8] at h
     refine wk 61 q2 false (Bool.eq_false_iff.2 hc8) ?_
     refine we_false (by kernel_rfl) ?_
     refine ws fun K32 hK32 => ?_
     rcases hq9 : punctualref_ReadImage.p4 e2 with _ | (q4 | rr2)
     ·rw [hq9] at h; cases h
     ·rw [hq9] at h
      simp only [] at h
      refine we_keep (e' := [(1, pP b1 0), (3, pP b2 0), (7, pP b4 0), (8, pP b5 0), (9, vI (i2 : Int)), (10, pP b6 0), (11, vI z2), (12, .func (.func 32) #[] #[pP b5 0, pP b1 0, pP b6 0]), (42, .slice A0 l0.length c0), (43, vI (l0.length : Int)), (44, vI (i2 : Int)), (60, vI e2.Op), (61, .bool false)]) ea (punctualref_ReadImage_p4 K w0 l0 A0 c0 hR0 hL0 b1 b2 hc1 b4 b5 i2 m1 m2 hc4 e2 hx7 b6 Z1 cz1 Z2 cz2 z2 q2 hc8 _ hq9 _ hS68 _ ?_)
      rintro _ a w26 ⟨rfl, hS108, hF⟩
      replace hS108 : St w0 w26 [Own.blk b6 (.cells #[vI e2.Op, vI e2.A, vI e2.B] 29 (0, 0)), Own.blk b5 (.cells #[(.slice Z1 m1.length cz1)] 37 (0, 0)), Own.blk b4 (.cells #[.slice A0 l0.length c0, (.slice Z2 m2.length cz2)] 70 (0, 0)), Own.blk b2 (.cells #[vI 0, vI 0] 25 (0, 0)), Own.blk b1 (.cells #[.slice A0 l0.length c0] 22 (0, 0)), Own.of (.slice Z1 m1.length cz1) 3 m1, Own.of (.slice Z2 m2.length cz2) 74 m2] := hS108
      refine hK32 [(1, pP b1 0), (3, pP b2 0), (7, pP b4 0), (8, pP b5 0), (9, vI (i2 : Int)), (10, pP b6 0), (11, vI z2), (12, .func (.func 32) #[] #[pP b5 0, pP b1 0, pP b6 0]), (42, .slice A0 l0.length c0), (43, vI (l0.length : Int)), (44, vI (i2 : Int)), (60, vI e2.Op), (79, .bool q4)] w26 ?_ a hF
      by_cases hc12 : q4 = true
      ·rw [if_pos hc12] at h
       refine wk 79 q4 true hc12 ?_
       refine we_true (by kernel_rfl) ?_
       refine ws fun K34 hK34 => ?_
       rcases hq14 : punctualref_ReadImage.p5 l0 i2 e2 z2 with _ | (_ | rr1)
       ·rw [hq14] at h; cases h
       ·rw [hq14] at h
        simp only [] at h
        refine we_keep (e' := [(1, pP b1 0), (3, pP b2 0), (7, pP b4 0), (8, pP b5 0), (9, vI (i2 : Int)), (10, pP b6 0), (11, vI z2), (12, .func (.func 32) #[] #[pP b5 0, pP b1 0, pP b6 0]), (42, .slice A0 l0.length c0), (43, vI (l0.length : Int)), (44, vI (i2 : Int)), (60, vI e2.Op), (79, .bool true)]) ea (punctualref_ReadImage_p5 K w0 l0 A0 c0 hR0 hL0 b1 b2 hc1 b4 b5 i2 m1 m2 hc4 e2 hx7 b6 Z1 cz1 Z2 cz2 z2 q2 hc8 q4 hc12 _ hq14 _ hS108 _ ?_)
        rintro _ a w50 ⟨rfl, hS169, hF⟩
        replace hS169 : St w0 w50 [Own.blk b5 (.cells #[(.slice Z1 m1.length cz1)] 37 (0, 0)), Own.blk b4 (.cells #[.slice A0 l0.length c0, (.slice Z2 m2.length cz2)] 70 (0, 0)), Own.blk b2 (.cells #[vI 0, vI 0] 25 (0, 0)), Own.blk b1 (.cells #[.slice A0 l0.length c0] 22 (0, 0)), Own.of (.slice Z1 m1.length cz1) 3 m1, Own.of (.slice Z2 m2.length cz2) 74 m2] := hS169
        refine hK34 [(1, pP b1 0), (3, pP b2 0), (7, pP b4 0), (8, pP b5 0), (9, vI (i2 : Int)), (11, vI z2), (42, .slice A0 l0.length c0), (43, vI (l0.length : Int)), (44, vI (i2 : Int))] w50 ?_ a hF
        refine ws fun K40 hK40 => ?_
        refine wr [(0, 0), (1, 0), (2, 0), (3, 0), (4, 0), (5, 0), (6, 0), (7, 0), (8, 1), (9, 2), (10, 0), (11, 0), (12, 2)] ?_
        refine gb [0, 1, 2, 3, 4, 5, 6, 7] [(133, .agg #[vI z2, vI (i2 : Int)]), (132, vI (i2 : Int)), (131, vI z2), (130, (.slice Z2 m2.length cz2)), (129, pP b4 1), (128, pP b4 0), (127, pP b4 0), (126, pP b4 0)] [.loaded ⟨b4, 1, none⟩ ((.slice Z2 m2.length cz2))] ⟨hS169.c 1, trivial⟩ ?_
        refine gw (some 134) (.cells #[vI z2, vI (i2 : Int)] 74) (fun b => .slice (some ⟨b, 0, none⟩) 1 1) hS169 fun b14 w51 hx18 hS170 => ?_
        have hS171 := hS170.bring 6 rfl
        by_cases hc19 : m2.length < 8796093022208
        ·rw [if_pos hc19] at h
         refine ge_append (α := Sregion) (m := 0) (d := 135) (t := 68) (el := 74) (bytes := 16) (c1 := 1) (b1 := b14) (x := (.tmp 130)) (y := (.tmp 134)) (ty := 68) (v := (.slice Z2 m2.length cz2)) (z := .agg #[vI 0, vI 0]) (l := m2) (u := (⟨z2, (i2 : Int)⟩ : Sregion)) (by kernel_rfl) (by kernel_rfl) (by kernel_rfl) (by kernel_rfl) (by kernel_rfl) rfl hS171 rfl (by omega) fun v6 w52 hS172 => ?_
         refine gb0 [10, 11] [(137, pP b4 1), (136, pP b4 0)] ?_
         obtain ⟨Z4, cz4, rfl⟩ := hS172.open 0 rfl
         have hS173 := hS172.bring 2 rfl
         refine gs b4 1 #[.slice A0 l0.length c0, (.slice Z2 m2.length cz2)] 70 [(.slice Z4 (m2 ++ [(⟨z2, (i2 : Int)⟩ : Sregion)]).length cz4)] hS173 fun w53 hS174 => ?_
         have hS175 : St w0 w53 [Own.blk b4 (.cells #[.slice A0 l0.length c0, (.slice Z4 (m2 ++ [(⟨z2, (i2 : Int)⟩ : Sregion)]).length cz4)] 70 (0, 0)), Own.of (.slice Z4 (m2 ++ [(⟨z2, (i2 : Int)⟩ : Sregion)]).length cz4) 74 (m2 ++ [(⟨z2, (i2 : Int)⟩ : Sregion)]), Own.blk b5 (.cells #[(.slice Z1 m1.length cz1)] 37 (0, 0)), Own.blk b2 (.cells #[vI 0, vI 0] 25 (0, 0)), Own.blk b1 (.cells #[.slice A0 l0.length c0] 22 (0, 0)), Own.of (.slice Z1 m1.length cz1) 3 m1] := hS174
         refine gn hK40 ?_
         refine wr [(0, 0), (1, 0), (2, 0), (3, 0), (4, 0), (5, 2)] ?_
         refine gb [0, 1, 2, 3] [(141, vI (IntKind.i64.wrap ((m1.length : Int) - 1))), (140, vI (m1.length : Int)), (139, (.slice Z1 m1.length cz1)), (138, (.slice Z1 m1.length cz1))] [.loaded ⟨b5, 0, none⟩ ((.slice Z1 m1.length cz1)), .loaded ⟨b5, 0, none⟩ ((.slice Z1 m1.length cz1))] ⟨hS175.c 2, hS175.c 2, trivial⟩ ?_
         by_cases hc20 : 0 ≤ (IntKind.i64.wrap ((m1.length : Int) - 1))
         ·rw [if_pos hc20] at h
          by_cases hc21 : ((IntKind.i64.wrap ((m1.length : Int) - 1)).toNat) ≤ m1.length
          ·rw [if_pos hc21] at h
           refine ge_sliceHi (d := 142) (ty := 37) (t := 37) (el := 3) (sz := 1) (m := m1.length) (c := cz1) (hn := ((IntKind.i64.wrap ((m1.length : Int) - 1)).toNat)) (x := (.tmp 138)) (y := (.tmp 141)) (A := Z1) (k' := .i64) (hi := (IntKind.i64.wrap ((m1.length : Int) - 1))) (by kernel_rfl) (by kernel_rfl) (by kernel_rfl) (Int.toNat_of_nonneg hc20).symm (by kernel_rfl) (by kernel_rfl) (by have f0 := hc21; have f1 := (hS175.capAt 5 rfl); omega) ?_
           refine ge_same (t := 142) (v := .slice Z1 ((IntKind.i64.wrap ((m1.length : Int) - 1)).toNat) cz1) (v' := .slice Z1 ((m1.take ((IntKind.i64.wrap ((m1.length : Int) - 1)).toNat)).length) cz1) (by kernel_rfl) (congrArg (fun z => Value.slice Z1 z cz1) (show (IntKind.i64.wrap ((m1.length : Int) - 1)).toNat = (m1.take ((IntKind.i64.wrap ((m1.length : Int) - 1)).toNat)).length by have f0 := hc21; have f1 := (hS175.capAt 5 rfl); simp only [List.length_take]; omega)) ?_
           have hS176 := hS175.bring 2 rfl
           refine gs b5 0 #[(.slice Z1 m1.length cz1)] 37 [.slice Z1 ((m1.take ((IntKind.i64.wrap ((m1.length : Int) - 1)).toNat)).length) cz1] hS176 fun w54 hS177 => ?_
           have hS178 : St w0 w54 [Own.blk b5 (.cells #[.slice Z1 ((m1.take ((IntKind.i64.wrap ((m1.length : Int) - 1)).toNat)).length) cz1] 37 (0, 0)), Own.blk b4 (.cells #[.slice A0 l0.length c0, (.slice Z4 (m2 ++ [(⟨z2, (i2 : Int)⟩ : Sregion)]).length cz4)] 70 (0, 0)), Own.of (.slice Z4 (m2 ++ [(⟨z2, (i2 : Int)⟩ : Sregion)]).length cz4) 74 (m2 ++ [(⟨z2, (i2 : Int)⟩ : Sregion)]), Own.blk b2 (.cells #[vI 0, vI 0] 25 (0, 0)), Own.blk b1 (.cells #[.slice A0 l0.length c0] 22 (0, 0)), Own.of (.slice Z1 m1.length cz1) 3 m1] := hS177
           refine gn hK20 ?_
           refine wr [(0, 0), (1, 0)] ?_
           refine ge_addn (d := 150) (ty := 3) (x := (.tmp 44)) (y := (.const (vI 1))) (t := 3) (t2 := 3) (k := .i64) (m := i2) (by kernel_rfl) (by kernel_rfl) (by kernel_rfl) (by have h0 := hR0.small; omega) ?_
           refine gb0 [1] [(44, vI ((i2 + 1 : Nat) : Int))] ?_
           have hS179 := hS178.bring 5 rfl
           have hS180 := hS179.shrink ((IntKind.i64.wrap ((m1.length : Int) - 1)).toNat)
           have hS181 := hS180.bring 3 rfl
           have hS182 := hS181.bring 1 rfl
           have hS183 := hS182.bring 5 rfl
           have hS184 := hS183.bring 5 rfl
           have hS185 := hS184.bring 5 rfl
           have hS186 := hS185.bring 5 rfl
           obtain rfl := si h
           exact ge_nil fun a hF => hQ _ _ _ (Outs.again ⟨(.slice Z1 (m1.take ((IntKind.i64.wrap ((m1.length : Int) - 1)).toNat)).length cz1), (.slice Z4 (m2 ++ [(⟨z2, (i2 : Int)⟩ : Sregion)]).length cz4), hS186, hF.weaken ea⟩)
          ·rw [if_neg hc21] at h
           cases h
         ·rw [if_neg hc20] at h
          cases h
        ·rw [if_neg hc19] at h
         cases h
       ·rw [hq14] at h
        simp only [] at h
        refine we_keep (e' := [(1, pP b1 0), (3, pP b2 0), (7, pP b4 0), (8, pP b5 0), (9, vI (i2 : Int)), (10, pP b6 0), (11, vI z2), (12, .func (.func 32) #[] #[pP b5 0, pP b1 0, pP b6 0]), (42, .slice A0 l0.length c0), (43, vI (l0.length : Int)), (44, vI (i2 : Int)), (60, vI e2.Op), (79, .bool true)]) ea (punctualref_ReadImage_p5 K w0 l0 A0 c0 hR0 hL0 b1 b2 hc1 b4 b5 i2 m1 m2 hc4 e2 hx7 b6 Z1 cz1 Z2 cz2 z2 q2 hc8 q4 hc12 _ hq14 _ hS108 _ ?_)
        rintro _ a w1 ⟨_, rfl, hb⟩
        obtain rfl := si h
        exact hQ _ _ _ (Outs.out nofun (Exits.on ⟨rfl, hb⟩))
      ·rw [if_neg hc12] at h
       refine wk 79 q4 false (Bool.eq_false_iff.2 hc12) ?_
       refine we_false (by kernel_rfl) ?_
       refine ws fun K41 hK41 => ?_
       refine wr [(0, 0), (1, 0)] ?_
       refine gb0 [0, 1] [(143, .bool (e2.Op == 15)), (144, .bool (e2.Op == 15))] ?_
       refine gn hK41 ?_
       by_cases hc22 : e2.Op = 15
       ·rw [if_pos hc22] at h
        refine wk 143 (e2.Op == 15) true (beq_iff_eq.2 hc22) ?_
        refine we_true (by kernel_rfl) ?_
        refine ws fun K42 hK42 => ?_
        refine wr [(0, 0), (1, 1), (2, 0)] ?_
        rcases hq15 : punctualref_ReadImage_1.f K 13 m1 l0 e2 with _ | r3
        ·rw [hq15] at h; cases h
        rw [hq15] at h
        simp only [] at h
        refine gb0 [0] [(145, .func (.func 32) #[] #[pP b5 0, pP b1 0, pP b6 0])] ?_
        refine ge_call (d := some 146) (f := 32) (args := #[vI 13, pP b5 0, pP b1 0, pP b6 0]) (by kernel_rfl) (punctualref_ReadImage_1_ok K 13 b5 m1 Z1 cz1 b1 l0 A0 c0 b6 e2 _ (hS108.rdAt 5 rfl) (hS108.capAt 5 rfl) (hS108.globOf 1 rfl) (hS108.rd hR0) hL0 (hS108.globOf 4 rfl) (hS108.globOf 0 rfl) _ hq15) ?_
        rintro _ w55 ⟨rfl, hS187⟩
        refine ⟨_, rfl, hS187.below, ?_⟩
        have hS188 := hS108.call hS187
        refine gb0 [2] [(147, .bool (!r3))] ?_
        refine gn hK42 ?_
        by_cases hc23 : r3 = true
        ·rw [if_pos hc23] at h
         refine wk 147 (!r3) false (congrArg (fun z => !z) hc23) ?_
         refine we_false (by kernel_rfl) ?_
         refine we_skip fun a hF => hK20 _ _ ?_ a hF
         refine wr [(0, 0), (1, 0)] ?_
         refine ge_addn (d := 150) (ty := 3) (x := (.tmp 44)) (y := (.const (vI 1))) (t := 3) (t2 := 3) (k := .i64) (m := i2) (by kernel_rfl) (by kernel_rfl) (by kernel_rfl) (by have h0 := hR0.small; omega) ?_
         refine gb0 [1] [(44, vI ((i2 + 1 : Nat) : Int))] ?_
         have hS189 := hS188.bring 6 rfl
         have hS190 := hS189.bring 6 rfl
         have hS191 := hS190.bring 6 rfl
         have hS192 := hS191.bring 6 rfl
         have hS193 := hS192.bring 6 rfl
         have hS194 := hS193.bring 6 rfl
         have hS195 := hS194.takeN 6
         obtain rfl := si h
         exact ge_nil fun a hF => hQ _ _ _ (Outs.again ⟨(.slice Z1 m1.length cz1), (.slice Z2 m2.length cz2), hS195, hF.weaken ea⟩)
        ·rw [if_neg hc23] at h
         refine wk 147 (!r3) true (congrArg (fun z => !z) (Bool.eq_false_iff.2 hc23)) ?_
         refine we_true (by kernel_rfl) ?_
         refine ws fun K43 hK43 => ?_
         refine wr [(0, 0), (1, 1), (2, 0), (3, 2)] ?_
         refine gb0 [0] [(148, vI (i2 : Int))] ?_
         refine ge_call (d := some 149) (f := 9) (args := #[vI 9, vI (i2 : Int)]) (by kernel_rfl) (punctualref_F_ok 9 (i2 : Int) _ _ rfl) ?_
         rintro _ w56 ⟨rfl, hS196⟩
         refine ⟨_, rfl, hS196.below, ?_⟩
         have hS197 := hS188.call hS196
         refine gb0 [2] [(2, .pointer none)] ?_
         have hS198 := hS197.bring 3 rfl
         refine gs b2 0 #[vI 0, vI 0] 25 [vI ((punctualref_F.f 9 (i2 : Int)).Code), vI ((punctualref_F.f 9 (i2 : Int)).At)] hS198 fun w57 hS199 => ?_
         have hS200 : St w0 w57 [Own.blk b2 (.cells #[vI ((punctualref_F.f 9 (i2 : Int)).Code), vI ((punctualref_F.f 9 (i2 : Int)).At)] 25 (0, 0)), Own.blk b6 (.cells #[vI e2.Op, vI e2.A, vI e2.B] 29 (0, 0)), Own.blk b5 (.cells #[(.slice Z1 m1.length cz1)] 37 (0, 0)), Own.blk b4 (.cells #[.slice A0 l0.length c0, (.slice Z2 m2.length cz2)] 70 (0, 0)), Own.blk b1 (.cells #[.slice A0 l0.length c0] 22 (0, 0)), Own.of (.slice Z1 m1.length cz1) 3 m1, Own.of (.slice Z2 m2.length cz2) 74 m2] := hS199
         refine gn hK43 ?_
         have hS201 := hS200.takeN 0
         obtain rfl := si h
         exact we_ret fun a hF => hQ _ _ _ (Outs.out nofun (Exits.on ⟨rfl, (pr [.tmp 2, .cell 3 25] [.pointer none, .agg #[vI ((punctualref_F.f 9 (i2 : Int)).Code), vI ((punctualref_F.f 9 (i2 : Int)).At)]] [.loaded ⟨b2, 0, none⟩ (vI ((punctualref_F.f 9 (i2 : Int)).Code)), .loaded ⟨b2, 1, none⟩ (vI ((punctualref_F.f 9 (i2 : Int)).At))] ⟨hS200.c 0, hS200.c 0, trivial⟩ ⟨rfl, hS201⟩) a hF⟩))
       ·rw [if_neg hc22] at h
        refine wk 143 (e2.Op == 15) false (beq_eq_false_iff_ne.2 hc22) ?_
        refine we_false (by kernel_rfl) ?_
        refine we_skip fun a hF => hK20 _ _ ?_ a hF
        refine wr [(0, 0), (1, 0)] ?_
        refine ge_addn (d := 150) (ty := 3) (x := (.tmp 44)) (y := (.const (vI 1))) (t := 3) (t2 := 3) (k := .i64) (m := i2) (by kernel_rfl) (by kernel_rfl) (by kernel_rfl) (by have h0 := hR0.small; omega) ?_
        refine gb0 [1] [(44, vI ((i2 + 1 : Nat) : Int))] ?_
        have hS202 := hS108.bring 6 rfl
        have hS203 := hS202.bring 6 rfl
        have hS204 := hS203.bring 6 rfl
        have hS205 := hS204.bring 6 rfl
        have hS206 := hS205.bring 6 rfl
        have hS207 := hS206.bring 6 rfl
        have hS208 := hS207.takeN 6
        obtain rfl := si h
        exact ge_nil fun a hF => hQ _ _ _ (Outs.again ⟨(.slice Z1 m1.length cz1), (.slice Z2 m2.length cz2), hS208, hF.weaken ea⟩)
     ·rw [hq9] at h
      simp only [] at h
      refine we_keep (e' := [(1, pP b1 0), (3, pP b2 0), (7, pP b4 0), (8, pP b5 0), (9, vI (i2 : Int)), (10, pP b6 0), (11, vI z2), (12, .func (.func 32) #[] #[pP b5 0, pP b1 0, pP b6 0]), (42, .slice A0 l0.length c0), (43, vI (l0.length : Int)), (44, vI (i2 : Int)), (60, vI e2.Op), (61, .bool false)]) ea (punctualref_ReadImage_p4 K w0 l0 A0 c0 hR0 hL0 b1 b2 hc1 b4 b5 i2 m1 m2 hc4 e2 hx7 b6 Z1 cz1 Z2 cz2 z2 q2 hc8 _ hq9 _ hS68 _ ?_)
      rintro _ a w1 ⟨_, rfl, hb⟩
      obtain rfl := si h
      exact hQ _ _ _ (Outs.out nofun (Exits.on ⟨rfl, hb⟩))
   ·rw [hq6] at h
    simp only [] at h
    refine we_keep (e' := [(1, pP b1 0), (3, pP b2 0), (7, pP b4 0), (8, pP b5 0), (9, vI (i2 : Int)), (10, pP b6 0), (11, vI z2), (12, .func (.func 32) #[] #[pP b5 0, pP b1 0, pP b6 0]), (42, .slice A0 l0.length c0), (43, vI (l0.length : Int)), (44, vI (i2 : Int)), (58, .func (.func 32) #[] #[pP b5 0, pP b1 0, pP b6 0]), (59, pP b6 0), (60, vI e2.Op)]) ea (punctualref_ReadImage_p3 K w0 l0 A0 c0 hR0 hL0 b1 b2 hc1 b4 b5 i2 m1 m2 hc4 e2 hx7 b6 Z1 cz1 Z2 cz2 z2 _ hq6 _ hS53 _ ?_)
    rintro _ a w1 ⟨_, rfl, hb⟩
    obtain rfl := si h
    exact hQ _ _ _ (Outs.out nofun (Exits.on ⟨rfl, hb⟩))
  ·rw [hq5] at h
   simp only [] at h
   refine we_keep (e' := [(1, pP b1 0), (3, pP b2 0), (7, pP b4 0), (8, pP b5 0), (9, vI (i2 : Int)), (10, pP b6 0), (11, vI (-1)), (42, .slice A0 l0.length c0), (43, vI (l0.length : Int)), (44, vI (i2 : Int)), (45, .bool true), (46, vI (i2 : Int)), (47, .pointer (some ⟨blkOf A0, offOf A0 + i2 * 3, none⟩)), (48, .agg #[vI e2.Op, vI e2.A, vI e2.B])]) ea (punctualref_ReadImage_p2 K w0 l0 A0 c0 hR0 hL0 b1 b2 hc1 b4 b5 i2 m1 m2 hc4 e2 hx7 b6 Z1 cz1 Z2 cz2 _ hq5 _ hS38 _ ?_)
   rintro _ a w1 ⟨_, rfl, hb⟩
   obtain rfl := si h
   exact hQ _ _ _ (Outs.out nofun (Exits.on ⟨rfl, hb⟩))
 ·rw [if_neg hc4] at h
  refine wk 45 (decide ((i2 : Int) < (l0.length : Int))) false (decide_eq_false hc4) ?_
  refine we_false (by kernel_rfl) ?_
  have hS209 := hS.bring 5 rfl
  have hS210 := hS209.bring 5 rfl
  have hS211 := hS210.bring 5 rfl
  have hS212 := hS211.bring 5 rfl
  have hS213 := hS212.bring 5 rfl
  have hS214 := hS213.bring 5 rfl
  obtain rfl := si h
  exact we_exit fun a hF => hQ _ _ _ (Outs.out nofun (Exits.here ⟨v1, v2, hS214, hF.weaken ea⟩))
abbrev punctualref_ReadImage.A6 (w0 : World) (l0 : List SIns) (A0 : Option Addr) (c0 : Nat) (b1 : Nat) (b2 : Nat) (b4 : Nat) (m6 : List Sregion) (Z6 : Option Addr) (cz6 : Nat) : Nat → Act → World → Prop := fun (s : Nat) a w => St w0 w [Own.blk b4 (.cells #[.slice A0 l0.length c0, (.slice Z6 m6.length cz6)] 70 (0, 0)), Own.blk b2 (.cells #[vI 0, vI 0] 25 (0, 0)), Own.blk b1 (.cells #[.slice A0 l0.length c0] 22 (0, 0)), Own.of (.slice Z6 m6.length cz6) 74 m6] ∧ Frm 230 a [(1, pP b1 0), (3, pP b2 0), (7, pP b4 0), (170, .slice A0 l0.length c0), (171, vI (l0.length : Int)), (172, vI (s : Int))]
abbrev punctualref_ReadImage.B6 (w0 : World) (l0 : List SIns) (A0 : Option Addr) (c0 : Nat) (b1 : Nat) (b2 : Nat) (b4 : Nat) (m6 : List Sregion) (Z6 : Option Addr) (cz6 : Nat) : (Unit ⊕ ((Option PImage) × SFault)) → Exit → Act → World → Prop := Exits 5 (fun (s : Unit) a w => St w0 w [Own.blk b4 (.cells #[.slice A0 l0.length c0, (.slice Z6 m6.length cz6)] 70 (0, 0)), Own.blk b2 (.cells #[vI 0, vI 0] 25 (0, 0)), Own.blk b1 (.cells #[.slice A0 l0.length c0] 22 (0, 0)), Own.of (.slice Z6 m6.length cz6) 74 m6] ∧ Frm 230 a [(1, pP b1 0), (3, pP b2 0), (7, pP b4 0)]) (Rets Tryd.prog Tryd.f11 (punctualref_ReadImage.Post w0 l0 A0 c0))
theorem punctualref_ReadImage_r6 (K : Nat) (w0 : World) (l0 : List SIns) (A0 : Option Addr) (c0 : Nat) (hR0 : RdL w0 A0 l0) (hL0 : l0.length ≤ c0) (b1 : Nat) (b2 : Nat) (hc1 : ¬ ((l0.length : Int) > 2000)) (b4 : Nat) (b5 : Nat) (m5 : List Int) (m6 : List Sregion) (Z5 : Option Addr) (cz5 : Nat) (hc24 : ¬ ((m5.length : Int) > 0)) (Z6 : Option Addr) (cz6 : Nat) (s : Nat) (o : Nat ⊕ (Unit ⊕ ((Option PImage) × SFault))) (h : punctualref_ReadImage.r6 K l0 m6 s = some o) (a : Act) (w : World) (hA : punctualref_ReadImage.A6 w0 l0 A0 c0 b1 b2 b4 m6 Z6 cz6 s a w) (Q : Exit → Act → World → Prop) (hQ : ∀ x a w, Outs (punctualref_ReadImage.A6 w0 l0 A0 c0 b1 b2 b4 m6 Z6 cz6) (punctualref_ReadImage.B6 w0 l0 A0 c0 b1 b2 b4 m6 Z6 cz6) o x a w → Q x a w) : (subF Tryd.f11 [1, 1, 1, 1, 1, 1, 1, 0, 1, 0, 0]).wp Tryd.prog Q a w := by
 obtain ⟨i3, hs⟩ : ∃ z, z = s := ⟨s, rfl⟩
 subst hs
 obtain ⟨hS, hF⟩ := hA
 replace hS : St w0 w [Own.blk b4 (.cells #[.slice A0 l0.length c0, (.slice Z6 m6.length cz6)] 70 (0, 0)), Own.blk b2 (.cells #[vI 0, vI 0] 25 (0, 0)), Own.blk b1 (.cells #[.slice A0 l0.length c0] 22 (0, 0)), Own.of (.slice Z6 m6.length cz6) 74 m6] := hS
 simp only [punctualref_ReadImage.r6] at h
 refine (?_ : WE Tryd.prog 230 (subF Tryd.f11 [1, 1, 1, 1, 1, 1, 1, 0, 1, 0, 0]) Q [(1, pP b1 0), (3, pP b2 0), (7, pP b4 0), (170, .slice A0 l0.length c0), (171, vI (l0.length : Int)), (172, vI (i3 : Int))] w) a hF
 clear hF a
 refine ws fun K52 hK52 => ?_
 refine wr [(0, 0)] ?_
 refine gb0 [0] [(173, .bool (decide ((i3 : Int) < (l0.length : Int))))] ?_
 refine gn hK52 ?_
 refine ws fun K53 hK53 => ?_
 by_cases hc27 : (i3 : Int) < (l0.length : Int)
 ·rw [if_pos hc27] at h
  refine wk 173 (decide ((i3 : Int) < (l0.length : Int))) true (decide_eq_true hc27) ?_
  refine we_true (by kernel_rfl) ?_
  refine we_skip fun a hF => hK53 _ _ ?_ a hF
  refine ws fun K54 hK54 => ?_
  refine we_block ?_
  refine ws fun K55 hK55 => ?_
  refine wr [(0, 0), (1, 0), (2, 0), (3, 1), (4, 0), (5, 2)] ?_
  refine gb0 [0] [(174, vI (i3 : Int))] ?_
  rcases hx21 : l0[i3]? with _ | e7
  ·rw [hx21] at h; cases h
  rw [hx21] at h
  simp only [] at h
  refine gi 175 0 22 29 3 l0.length c0 (.tmp 170) (.tmp 172) A0 .i64 (i3 : Int) i3 ((hS.rd hR0).eqSome (pos_of_get hx21)) rfl (lt_of_get hx21) ?_
  refine gb [2] [(176, .agg #[vI e7.Op, vI e7.A, vI e7.B])] [.loaded ⟨blkOf A0, offOf A0 + i3 * 3, none⟩ (vI e7.Op), .loaded ⟨blkOf A0, offOf A0 + i3 * 3 + 1, none⟩ (vI e7.A), .loaded ⟨blkOf A0, offOf A0 + i3 * 3 + 2, none⟩ (vI e7.B)] ⟨RdL.cell (j := 0) (hS.rd hR0) hx21 rfl, RdL.cell (j := 1) (hS.rd hR0) hx21 rfl, RdL.cell (j := 2) (hS.rd hR0) hx21 rfl, trivial⟩ ?_
  refine gw (some 14) (.cells #[vI 0, vI 0, vI 0] 29) (fun b => pP b 0) hS fun b15 w63 hx22 hS234 => ?_
  refine gb0 [4] [(13, vI (i3 : Int))] ?_
  refine gs b15 0 #[vI 0, vI 0, vI 0] 29 [vI e7.Op, vI e7.A, vI e7.B] hS234 fun w64 hS235 => ?_
  have hS236 : St w0 w64 [Own.blk b15 (.cells #[vI e7.Op, vI e7.A, vI e7.B] 29 (0, 0)), Own.blk b4 (.cells #[.slice A0 l0.length c0, (.slice Z6 m6.length cz6)] 70 (0, 0)), Own.blk b2 (.cells #[vI 0, vI 0] 25 (0, 0)), Own.blk b1 (.cells #[.slice A0 l0.length c0] 22 (0, 0)), Own.of (.slice Z6 m6.length cz6) 74 m6] := hS235
  refine gn hK55 ?_
  refine ws fun K56 hK56 => ?_
  refine ws fun K57 hK57 => ?_
  refine wr [(0, 0), (1, 0), (2, 0), (3, 0), (4, 0), (5, 0), (6, 0), (7, 0)] ?_
  refine gb [0, 1, 2, 3] [(180, .bool (e7.Op != 11)), (179, .bool (e7.Op != 11)), (178, vI e7.Op), (177, pP b15 0)] [.loaded ⟨b15, 0, none⟩ (vI e7.Op)] ⟨hS236.c 0, trivial⟩ ?_
  by_cases hc28 : e7.Op = 11
  ·rw [if_pos hc28] at h
   refine gk 180 (e7.Op != 11) false (bne_eq_false_iff_eq.2 hc28) ?_
   refine gb0 [4, 5, 6, 7] [(184, .bool false), (183, undef), (182, undef), (181, undef)] ?_
   refine gn hK57 ?_
   refine we_false (by kernel_rfl) ?_
   refine we_skip fun a hF => hK56 _ _ ?_ a hF
   refine ws fun K58 hK58 => ?_
   refine wr [(0, 0), (1, 0), (2, 1), (3, 0), (4, 0), (5, 0), (6, 1), (7, 2), (8, 0)] ?_
   rcases hq20 : punctualref_Image_inner.f K l0 m6 (i3 : Int) with _ | r4
   ·rw [hq20] at h; cases h
   rw [hq20] at h
   simp only [] at h
   refine gb0 [0, 1] [(187, vI (i3 : Int)), (186, pP b4 0)] ?_
   refine ge_call (d := some 188) (f := 33) (args := #[pP b4 0, vI (i3 : Int)]) (by kernel_rfl) (punctualref_Image_inner_ok K b4 l0 A0 c0 m6 Z6 cz6 (i3 : Int) _ (hS236.rd hR0) hL0 (hS236.rdAt 4 rfl) (hS236.capAt 4 rfl) (hS236.globOf 1 rfl) _ hq20) ?_
   rintro _ w65 ⟨rfl, hS237⟩
   refine ⟨_, rfl, hS237.below, ?_⟩
   have hS238 := hS236.call hS237
   refine gb0 [3, 4, 5] [(190, .bool r4.2), (189, .agg #[vI r4.1.open_, vI r4.1.close]), (185, .tuple #[.agg #[vI r4.1.open_, vI r4.1.close], .bool r4.2])] ?_
   refine gw (some 15) (.cells #[vI 0, vI 0] 74) (fun b => pP b 0) hS238 fun b16 w66 hx23 hS239 => ?_
   refine gs b16 0 #[vI 0, vI 0] 74 [vI r4.1.open_, vI r4.1.close] hS239 fun w67 hS240 => ?_
   have hS241 : St w0 w67 [Own.blk b16 (.cells #[vI r4.1.open_, vI r4.1.close] 74 (0, 0)), Own.blk b15 (.cells #[vI e7.Op, vI e7.A, vI e7.B] 29 (0, 0)), Own.blk b4 (.cells #[.slice A0 l0.length c0, (.slice Z6 m6.length cz6)] 70 (0, 0)), Own.blk b2 (.cells #[vI 0, vI 0] 25 (0, 0)), Own.blk b1 (.cells #[.slice A0 l0.length c0] 22 (0, 0)), Own.of (.slice Z6 m6.length cz6) 74 m6] := hS240
   refine gb0 [8] [(16, .bool r4.2)] ?_
   refine gn hK58 ?_
   refine ws fun K59 hK59 => ?_
   refine wr [(0, 0), (1, 0), (2, 0), (3, 1), (4, 0), (5, 0), (6, 0), (7, 1), (8, 2), (9, 0)] ?_
   rcases hq21 : punctualref_Image_inner.f K l0 m6 e7.A with _ | r5
   ·rw [hq21] at h; cases h
   rw [hq21] at h
   simp only [] at h
   refine gb [0, 1, 2] [(194, vI e7.A), (193, pP b15 1), (192, pP b4 0)] [.loaded ⟨b15, 1, none⟩ (vI e7.A)] ⟨hS241.c 1, trivial⟩ ?_
   refine ge_call (d := some 195) (f := 33) (args := #[pP b4 0, vI e7.A]) (by kernel_rfl) (punctualref_Image_inner_ok K b4 l0 A0 c0 m6 Z6 cz6 e7.A _ (hS241.rd hR0) hL0 (hS241.rdAt 5 rfl) (hS241.capAt 5 rfl) (hS241.globOf 2 rfl) _ hq21) ?_
   rintro _ w68 ⟨rfl, hS242⟩
   refine ⟨_, rfl, hS242.below, ?_⟩
   have hS243 := hS241.call hS242
   refine gb0 [4, 5, 6] [(197, .bool r5.2), (196, .agg #[vI r5.1.open_, vI r5.1.close]), (191, .tuple #[.agg #[vI r5.1.open_, vI r5.1.close], .bool r5.2])] ?_
   refine gw (some 17) (.cells #[vI 0, vI 0] 74) (fun b => pP b 0) hS243 fun b17 w69 hx24 hS244 => ?_
   refine gs b17 0 #[vI 0, vI 0] 74 [vI r5.1.open_, vI r5.1.close] hS244 fun w70 hS245 => ?_
   have hS246 : St w0 w70 [Own.blk b17 (.cells #[vI r5.1.open_, vI r5.1.close] 74 (0, 0)), Own.blk b16 (.cells #[vI r4.1.open_, vI r4.1.close] 74 (0, 0)), Own.blk b15 (.cells #[vI e7.Op, vI e7.A, vI e7.B] 29 (0, 0)), Own.blk b4 (.cells #[.slice A0 l0.length c0, (.slice Z6 m6.length cz6)] 70 (0, 0)), Own.blk b2 (.cells #[vI 0, vI 0] 25 (0, 0)), Own.blk b1 (.cells #[.slice A0 l0.length c0] 22 (0, 0)), Own.of (.slice Z6 m6.length cz6) 74 m6] := hS245
   refine gb0 [9] [(18, .bool r5.2)] ?_
   refine gn hK59 ?_
   refine ws fun K60 hK60 => ?_
   refine wr [(0, 0), (1, 0), (2, 0), (3, 0), (4, 0), (5, 0), (6, 0), (7, 0), (8, 0), (9, 0), (10, 0), (11, 0), (12, 0), (13, 0), (14, 0), (15, 0), (16, 0), (17, 0), (18, 0), (19, 0), (20, 0)] ?_
   refine gb [0, 1, 2, 3, 4] [(202, .bool (decide (e7.A ≤ (i3 : Int)))), (201, .bool (decide (e7.A ≤ (i3 : Int)))), (200, vI (i3 : Int)), (199, vI e7.A), (198, pP b15 1)] [.loaded ⟨b15, 1, none⟩ (vI e7.A)] ⟨hS246.c 2, trivial⟩ ?_
   by_cases hc29 : e7.A ≤ (i3 : Int)
   ·rw [if_pos hc29] at h
    refine gk 202 (decide (e7.A ≤ (i3 : Int))) true (decide_eq_true hc29) ?_
    refine gb0 [5, 6, 7, 8, 9, 10, 11, 12, 13, 14, 15, 16, 17, 18, 19, 20] [(218, .bool true), (217, undef), (216, undef), (215, undef), (214, .bool true), (213, .bool true), (212, undef), (211, undef), (210, undef), (209, .bool true), (208, .bool true), (207, undef), (206, undef), (205, undef), (204, undef), (203, undef)] ?_
    refine gn hK60 ?_
    refine we_true (by kernel_rfl) ?_
    refine ws fun K61 hK61 => ?_
    refine wr [(0, 0), (1, 1), (2, 0), (3, 2)] ?_
    refine gb0 [0] [(219, vI (i3 : Int))] ?_
    refine ge_call (d := some 220) (f := 9) (args := #[vI 7, vI (i3 : Int)]) (by kernel_rfl) (punctualref_F_ok 7 (i3 : Int) _ _ rfl) ?_
    rintro _ w71 ⟨rfl, hS247⟩
    refine ⟨_, rfl, hS247.below, ?_⟩
    have hS248 := hS246.call hS247
    refine gb0 [2] [(2, .pointer none)] ?_
    have hS249 := hS248.bring 4 rfl
    refine gs b2 0 #[vI 0, vI 0] 25 [vI ((punctualref_F.f 7 (i3 : Int)).Code), vI ((punctualref_F.f 7 (i3 : Int)).At)] hS249 fun w72 hS250 => ?_
    have hS251 : St w0 w72 [Own.blk b2 (.cells #[vI ((punctualref_F.f 7 (i3 : Int)).Code), vI ((punctualref_F.f 7 (i3 : Int)).At)] 25 (0, 0)), Own.blk b17 (.cells #[vI r5.1.open_, vI r5.1.close] 74 (0, 0)), Own.blk b16 (.cells #[vI r4.1.open_, vI r4.1.close] 74 (0, 0)), Own.blk b15 (.cells #[vI e7.Op, vI e7.A, vI e7.B] 29 (0, 0)), Own.blk b4 (.cells #[.slice A0 l0.length c0, (.slice Z6 m6.length cz6)] 70 (0, 0)), Own.blk b1 (.cells #[.slice A0 l0.length c0] 22 (0, 0)), Own.of (.slice Z6 m6.length cz6) 74 m6] := hS250
    refine gn hK61 ?_
    have hS252 := hS251.takeN 0
    obtain rfl := si h
    exact we_ret fun a hF => hQ _ _ _ (Outs.out nofun (Exits.on ⟨rfl, (pr [.tmp 2, .cell 3 25] [.pointer none, .agg #[vI ((punctualref_F.f 7 (i3 : Int)).Code), vI ((punctualref_F.f 7 (i3 : Int)).At)]] [.loaded ⟨b2, 0, none⟩ (vI ((punctualref_F.f 7 (i3 : Int)).Code)), .loaded ⟨b2, 1, none⟩ (vI ((punctualref_F.f 7 (i3 : Int)).At))] ⟨hS251.c 0, hS251.c 0, trivial⟩ ⟨rfl, hS252⟩) a hF⟩))
   ·rw [if_neg hc29] at h
    refine gk 202 (decide (e7.A ≤ (i3 : Int))) false (decide_eq_false hc29) ?_
    refine gb [5, 6, 7, 8, 9, 10, 11] [(209, .bool (decide (e7.A > (l0.length : Int)))), (208, .bool (decide (e7.A > (l0.length : Int)))), (207, .bool (decide (e7.A > (l0.length : Int)))), (206, vI (l0.length : Int)), (205, .slice A0 l0.length c0), (204, vI e7.A), (203, pP b15 1)] [.loaded ⟨b15, 1, none⟩ (vI e7.A), .loaded ⟨b1, 0, none⟩ (.slice A0 l0.length c0)] ⟨hS246.c 2, hS246.c 5, trivial⟩ ?_
    by_cases hc30 : e7.A > (l0.length : Int)
    ·rw [if_pos hc30] at h
     refine gk 209 (decide (e7.A > (l0.length : Int))) true (decide_eq_true hc30) ?_
     refine gb0 [12, 13, 14, 15, 16, 17, 18, 19, 20] [(218, .bool true), (217, undef), (216, undef), (215, undef), (214, .bool true), (213, .bool true), (212, undef), (211, undef), (210, undef)] ?_
     refine gn hK60 ?_
     refine we_true (by kernel_rfl) ?_
     refine ws fun K62 hK62 => ?_
     refine wr [(0, 0), (1, 1), (2, 0), (3, 2)] ?_
     refine gb0 [0] [(219, vI (i3 : Int))] ?_
     refine ge_call (d := some 220) (f := 9) (args := #[vI 7, vI (i3 : Int)]) (by kernel_rfl) (punctualref_F_ok 7 (i3 : Int) _ _ rfl) ?_
     rintro _ w73 ⟨rfl, hS253⟩
     refine ⟨_, rfl, hS253.below, ?_⟩
     have hS254 := hS246.call hS253
     refine gb0 [2] [(2, .pointer none)] ?_
     have hS255 := hS254.bring 4 rfl
     refine gs b2 0 #[vI 0, vI 0] 25 [vI ((punctualref_F.f 7 (i3 : Int)).Code), vI ((punctualref_F.f 7 (i3 : Int)).At)] hS255 fun w74 hS256 => ?_
     have hS257 : St w0 w74 [Own.blk b2 (.cells #[vI ((punctualref_F.f 7 (i3 : Int)).Code), vI ((punctualref_F.f 7 (i3 : Int)).At)] 25 (0, 0)), Own.blk b17 (.cells #[vI r5.1.open_, vI r5.1.close] 74 (0, 0)), Own.blk b16 (.cells #[vI r4.1.open_, vI r4.1.close] 74 (0, 0)), Own.blk b15 (.cells #[vI e7.Op, vI e7.A, vI e7.B] 29 (0, 0)), Own.blk b4 (.cells #[.slice A0 l0.length c0, (.slice Z6 m6.length cz6)] 70 (0, 0)), Own.blk b1 (.cells #[.slice A0 l0.length c0] 22 (0, 0)), Own.of (.slice Z6 m6.length cz6) 74 m6] := hS256
     refine gn hK62 ?_
     have hS258 := hS257.takeN 0
     obtain rfl := si h
     exact we_ret fun a hF => hQ _ _ _ (Outs.out nofun (Exits.on ⟨rfl, (pr [.tmp 2, .cell 3 25] [.pointer none, .agg #[vI ((punctualref_F.f 7 (i3 : Int)).Code), vI ((punctualref_F.f 7 (i3 : Int)).At)]] [.loaded ⟨b2, 0, none⟩ (vI ((punctualref_F.f 7 (i3 : Int)).Code)), .loaded ⟨b2, 1, none⟩ (vI ((punctualref_F.f 7 (i3 : Int)).At))] ⟨hS257.c 0, hS257.c 0, trivial⟩ ⟨rfl, hS258⟩) a hF⟩))
    ·rw [if_neg hc30] at h
     refine gk 209 (decide (e7.A > (l0.length : Int))) false (decide_eq_false hc30) ?_
     refine gb0 [12, 13, 14, 15, 16] [(214, .bool (r4.2 != r5.2)), (213, .bool (r4.2 != r5.2)), (212, .bool (r4.2 != r5.2)), (211, .bool r5.2), (210, .bool r4.2)] ?_
     by_cases hc31 : r4.2 = r5.2
     ·rw [if_pos hc31] at h
      refine gk 214 (r4.2 != r5.2) false (bne_eq_false_iff_eq.2 hc31) ?_
      refine gb [17, 18] [(216, .agg #[vI r5.1.open_, vI r5.1.close]), (215, .agg #[vI r4.1.open_, vI r4.1.close])] [.loaded ⟨b16, 0, none⟩ (vI r4.1.open_), .loaded ⟨b16, 1, none⟩ (vI r4.1.close), .loaded ⟨b17, 0, none⟩ (vI r5.1.open_), .loaded ⟨b17, 1, none⟩ (vI r5.1.close)] ⟨hS246.c 1, hS246.c 1, hS246.c 0, hS246.c 0, trivial⟩ ?_
      refine ge_eqs (d := 217) (ty := 4) (op := .neq) (x := (.tmp 215)) (y := (.tmp 216)) (t := 74) (t2 := 74) (xs := #[vI r4.1.open_, vI r4.1.close]) (ys := #[vI r5.1.open_, vI r5.1.close]) (r := (Sregion.eqb r4.1 r5.1)) (v := !(Sregion.eqb r4.1 r5.1)) (by kernel_rfl) (by kernel_rfl) (by kernel_rfl) (by kernel_rfl) (by kernel_rfl) rfl ?_
      refine gb0 [20] [(218, .bool (!(Sregion.eqb r4.1 r5.1)))] ?_
      refine gn hK60 ?_
      by_cases hc32 : (Sregion.eqb r4.1 r5.1) = true
      ·rw [if_pos hc32] at h
       refine wk 218 (!(Sregion.eqb r4.1 r5.1)) false (congrArg (fun z => !z) hc32) ?_
       refine we_false (by kernel_rfl) ?_
       refine we_skip fun a hF => hK54 _ _ ?_ a hF
       refine wr [(0, 0), (1, 0)] ?_
       refine ge_addn (d := 221) (ty := 3) (x := (.tmp 172)) (y := (.const (vI 1))) (t := 3) (t2 := 3) (k := .i64) (m := i3) (by kernel_rfl) (by kernel_rfl) (by kernel_rfl) (by have h0 := hR0.small; omega) ?_
       refine gb0 [1] [(172, vI ((i3 + 1 : Nat) : Int))] ?_
       have hS259 := hS246.bring 6 rfl
       have hS260 := hS259.bring 6 rfl
       have hS261 := hS260.bring 6 rfl
       have hS262 := hS261.bring 6 rfl
       have hS263 := hS262.takeN 4
       obtain rfl := si h
       exact ge_nil fun a hF => hQ _ _ _ (Outs.again ⟨hS263, hF.weaken ea⟩)
      ·rw [if_neg hc32] at h
       refine wk 218 (!(Sregion.eqb r4.1 r5.1)) true (congrArg (fun z => !z) (Bool.eq_false_iff.2 hc32)) ?_
       refine we_true (by kernel_rfl) ?_
       refine ws fun K63 hK63 => ?_
       refine wr [(0, 0), (1, 1), (2, 0), (3, 2)] ?_
       refine gb0 [0] [(219, vI (i3 : Int))] ?_
       refine ge_call (d := some 220) (f := 9) (args := #[vI 7, vI (i3 : Int)]) (by kernel_rfl) (punctualref_F_ok 7 (i3 : Int) _ _ rfl) ?_
       rintro _ w75 ⟨rfl, hS264⟩
       refine ⟨_, rfl, hS264.below, ?_⟩
       have hS265 := hS246.call hS264
       refine gb0 [2] [(2, .pointer none)] ?_
       have hS266 := hS265.bring 4 rfl
       refine gs b2 0 #[vI 0, vI 0] 25 [vI ((punctualref_F.f 7 (i3 : Int)).Code), vI ((punctualref_F.f 7 (i3 : Int)).At)] hS266 fun w76 hS267 => ?_
       have hS268 : St w0 w76 [Own.blk b2 (.cells #[vI ((punctualref_F.f 7 (i3 : Int)).Code), vI ((punctualref_F.f 7 (i3 : Int)).At)] 25 (0, 0)), Own.blk b17 (.cells #[vI r5.1.open_, vI r5.1.close] 74 (0, 0)), Own.blk b16 (.cells #[vI r4.1.open_, vI r4.1.close] 74 (0, 0)), Own.blk b15 (.cells #[vI e7.Op, vI e7.A, vI e7.B] 29 (0, 0)), Own.blk b4 (.cells #[.slice A0 l0.length c0, (.slice Z6 m6.length cz6)] 70 (0, 0)), Own.blk b1 (.cells #[.slice A0 l0.length c0] 22 (0, 0)), Own.of (.slice Z6 m6.length cz6) 74 m6] := hS267
       refine gn hK63 ?_
       have hS269 := hS268.takeN 0
       obtain rfl := si h
       exact we_ret fun a hF => hQ _ _ _ (Outs.out nofun (Exits.on ⟨rfl, (pr [.tmp 2, .cell 3 25] [.pointer none, .agg #[vI ((punctualref_F.f 7 (i3 : Int)).Code), vI ((punctualref_F.f 7 (i3 : Int)).At)]] [.loaded ⟨b2, 0, none⟩ (vI ((punctualref_F.f 7 (i3 : Int)).Code)), .loaded ⟨b2, 1, none⟩ (vI ((punctualref_F.f 7 (i3 : Int)).At))] ⟨hS268.c 0, hS268.c 0, trivial⟩ ⟨rfl, hS269⟩) a hF⟩))
     ·rw [if_neg hc31] at h
      refine gk 214 (r4.2 != r5.2) true (bne_iff_ne.2 hc31) ?_
      refine gb0 [17, 18, 19, 20] [(218, .bool true), (217, undef), (216, undef), (215, undef)] ?_
      refine gn hK60 ?_
      refine we_true (by kernel_rfl) ?_
      refine ws fun K64 hK64 => ?_
      refine wr [(0, 0), (1, 1), (2, 0), (3, 2)] ?_
      refine gb0 [0] [(219, vI (i3 : Int))] ?_
      refine ge_call (d := some 220) (f := 9) (args := #[vI 7, vI (i3 : Int)]) (by kernel_rfl) (punctualref_F_ok 7 (i3 : Int) _ _ rfl) ?_
      rintro _ w77 ⟨rfl, hS270⟩
      refine ⟨_, rfl, hS270.below, ?_⟩
      have hS271 := hS246.call hS270
      refine gb0 [2] [(2, .pointer none)] ?_
      have hS272 := hS271.bring 4 rfl
      refine gs b2 0 #[vI 0, vI 0] 25 [vI ((punctualref_F.f 7 (i3 : Int)).Code), vI ((punctualref_F.f 7 (i3 : Int)).At)] hS272 fun w78 hS273 => ?_
      have hS274 : St w0 w78 [Own.blk b2 (.cells #[vI ((punctualref_F.f 7 (i3 : Int)).Code), vI ((punctualref_F.f 7 (i3 : Int)).At)] 25 (0, 0)), Own.blk b17 (.cells #[vI r5.1.open_, vI r5.1.close] 74 (0, 0)), Own.blk b16 (.cells #[vI r4.1.open_, vI r4.1.close] 74 (0, 0)), Own.blk b15 (.cells #[vI e7.Op, vI e7.A, vI e7.B] 29 (0, 0)), Own.blk b4 (.cells #[.slice A0 l0.length c0, (.slice Z6 m6.length cz6)] 70 (0, 0)), Own.blk b1 (.cells #[.slice A0 l0.length c0] 22 (0, 0)), Own.of (.slice Z6 m6.length cz6) 74 m6] := hS273
      refine gn hK64 ?_
      have hS275 := hS274.takeN 0
      obtain rfl := si h
      exact we_ret fun a hF => hQ _ _ _ (Outs.out nofun (Exits.on ⟨rfl, (pr [.tmp 2, .cell 3 25] [.pointer none, .agg #[vI ((punctualref_F.f 7 (i3 : Int)).Code), vI ((punctualref_F.f 7 (i3 : Int)).At)]] [.loaded ⟨b2, 0, none⟩ (vI ((punctualref_F.f 7 (i3 : Int)).Code)), .loaded ⟨b2, 1, none⟩ (vI ((punctualref_F.f 7 (i3 : Int)).At))] ⟨hS274.c 0, hS274.c 0, trivial⟩ ⟨rfl, hS275⟩) a hF⟩))
  ·rw [if_neg hc28] at h
   refine gk 180 (e7.Op != 11) true (bne_iff_ne.2 hc28) ?_
   refine gb [4, 5, 6, 7] [(184, .bool (e7.Op != 12)), (183, .bool (e7.Op != 12)), (182, vI e7.Op), (181, pP b15 0)] [.loaded ⟨b15, 0, none⟩ (vI e7.Op)] ⟨hS236.c 0, trivial⟩ ?_
   refine gn hK57 ?_
   by_cases hc33 : e7.Op = 12
   ·rw [if_pos hc33] at h
    refine wk 184 (e7.Op != 12) false (bne_eq_false_iff_eq.2 hc33) ?_
    refine we_false (by kernel_rfl) ?_
    refine we_skip fun a hF => hK56 _ _ ?_ a hF
    refine ws fun K65 hK65 => ?_
    refine wr [(0, 0), (1, 0), (2, 1), (3, 0), (4, 0), (5, 0), (6, 1), (7, 2), (8, 0)] ?_
    rcases hq26 : punctualref_Image_inner.f K l0 m6 (i3 : Int) with _ | r6
    ·rw [hq26] at h; cases h
    rw [hq26] at h
    simp only [] at h
    refine gb0 [0, 1] [(187, vI (i3 : Int)), (186, pP b4 0)] ?_
    refine ge_call (d := some 188) (f := 33) (args := #[pP b4 0, vI (i3 : Int)]) (by kernel_rfl) (punctualref_Image_inner_ok K b4 l0 A0 c0 m6 Z6 cz6 (i3 : Int) _ (hS236.rd hR0) hL0 (hS236.rdAt 4 rfl) (hS236.capAt 4 rfl) (hS236.globOf 1 rfl) _ hq26) ?_
    rintro _ w79 ⟨rfl, hS276⟩
    refine ⟨_, rfl, hS276.below, ?_⟩
    have hS277 := hS236.call hS276
    refine gb0 [3, 4, 5] [(190, .bool r6.2), (189, .agg #[vI r6.1.open_, vI r6.1.close]), (185, .tuple #[.agg #[vI r6.1.open_, vI r6.1.close], .bool r6.2])] ?_
    refine gw (some 15) (.cells #[vI 0, vI 0] 74) (fun b => pP b 0) hS277 fun b18 w80 hx25 hS278 => ?_
    refine gs b18 0 #[vI 0, vI 0] 74 [vI r6.1.open_, vI r6.1.close] hS278 fun w81 hS279 => ?_
    have hS280 : St w0 w81 [Own.blk b18 (.cells #[vI r6.1.open_, vI r6.1.close] 74 (0, 0)), Own.blk b15 (.cells #[vI e7.Op, vI e7.A, vI e7.B] 29 (0, 0)), Own.blk b4 (.cells #[.slice A0 l0.length c0, (.slice Z6 m6.length cz6)] 70 (0, 0)), Own.blk b2 (.cells #[vI 0, vI 0] 25 (0, 0)), Own.blk b1 (.cells #[.slice A0 l0.length c0] 22 (0, 0)), Own.of (.slice Z6 m6.length cz6) 74 m6] := hS279
    refine gb0 [8] [(16, .bool r6.2)] ?_
    refine gn hK65 ?_
    refine ws fun K66 hK66 => ?_
    refine wr [(0, 0), (1, 0), (2, 0), (3, 1), (4, 0), (5, 0), (6, 0), (7, 1), (8, 2), (9, 0)] ?_
    rcases hq27 : punctualref_Image_inner.f K l0 m6 e7.A with _ | r7
    ·rw [hq27] at h; cases h
    rw [hq27] at h
    simp only [] at h
    refine gb [0, 1, 2] [(194, vI e7.A), (193, pP b15 1), (192, pP b4 0)] [.loaded ⟨b15, 1, none⟩ (vI e7.A)] ⟨hS280.c 1, trivial⟩ ?_
    refine ge_call (d := some 195) (f := 33) (args := #[pP b4 0, vI e7.A]) (by kernel_rfl) (punctualref_Image_inner_ok K b4 l0 A0 c0 m6 Z6 cz6 e7.A _ (hS280.rd hR0) hL0 (hS280.rdAt 5 rfl) (hS280.capAt 5 rfl) (hS280.globOf 2 rfl) _ hq27) ?_
    rintro _ w82 ⟨rfl, hS281⟩
    refine ⟨_, rfl, hS281.below, ?_⟩
    have hS282 := hS280.call hS281
    refine gb0 [4, 5, 6] [(197, .bool r7.2), (196, .agg #[vI r7.1.open_, vI r7.1.close]), (191, .tuple #[.agg #[vI r7.1.open_, vI r7.1.close], .bool r7.2])] ?_
    refine gw (some 17) (.cells #[vI 0, vI 0] 74) (fun b => pP b 0) hS282 fun b19 w83 hx26 hS283 => ?_
    refine gs b19 0 #[vI 0, vI 0] 74 [vI r7.1.open_, vI r7.1.close] hS283 fun w84 hS284 => ?_
    have hS285 : St w0 w84 [Own.blk b19 (.cells #[vI r7.1.open_, vI r7.1.close] 74 (0, 0)), Own.blk b18 (.cells #[vI r6.1.open_, vI r6.1.close] 74 (0, 0)), Own.blk b15 (.cells #[vI e7.Op, vI e7.A, vI e7.B] 29 (0, 0)), Own.blk b4 (.cells #[.slice A0 l0.length c0, (.slice Z6 m6.length cz6)] 70 (0, 0)), Own.blk b2 (.cells #[vI 0, vI 0] 25 (0, 0)), Own.blk b1 (.cells #[.slice A0 l0.length c0] 22 (0, 0)), Own.of (.slice Z6 m6.length cz6) 74 m6] := hS284
    refine gb0 [9] [(18, .bool r7.2)] ?_
    refine gn hK66 ?_
    refine ws fun K67 hK67 => ?_
    refine wr [(0, 0), (1, 0), (2, 0), (3, 0), (4, 0), (5, 0), (6, 0), (7, 0), (8, 0), (9, 0), (10, 0), (11, 0), (12, 0), (13, 0), (14, 0), (15, 0), (16, 0), (17, 0), (18, 0), (19, 0), (20, 0)] ?_
    refine gb [0, 1, 2, 3, 4] [(202, .bool (decide (e7.A ≤ (i3 : Int)))), (201, .bool (decide (e7.A ≤ (i3 : Int)))), (200, vI (i3 : Int)), (199, vI e7.A), (198, pP b15 1)] [.loaded ⟨b15, 1, none⟩ (vI e7.A)] ⟨hS285.c 2, trivial⟩ ?_
    by_cases hc34 : e7.A ≤ (i3 : Int)
    ·rw [if_pos hc34] at h
     refine gk 202 (decide (e7.A ≤ (i3 : Int))) true (decide_eq_true hc34) ?_
     refine gb0 [5, 6, 7, 8, 9, 10, 11, 12, 13, 14, 15, 16, 17, 18, 19, 20] [(218, .bool true), (217, undef), (216, undef), (215, undef), (214, .bool true), (213, .bool true), (212, undef), (211, undef), (210, undef), (209, .bool true), (208, .bool true), (207, undef), (206, undef), (205, undef), (204, undef), (203, undef)] ?_
     refine gn hK67 ?_
     refine we_true (by kernel_rfl) ?_
     refine ws fun K68 hK68 => ?_
     refine wr [(0, 0), (1, 1), (2, 0), (3, 2)] ?_
     refine gb0 [0] [(219, vI (i3 : Int))] ?_
     refine ge_call (d := some 220) (f := 9) (args := #[vI 7, vI (i3 : Int)]) (by kernel_rfl) (punctualref_F_ok 7 (i3 : Int) _ _ rfl) ?_
     rintro _ w85 ⟨rfl, hS286⟩
     refine ⟨_, rfl, hS286.below, ?_⟩
     have hS287 := hS285.call hS286
     refine gb0 [2] [(2, .pointer none)] ?_
     have hS288 := hS287.bring 4 rfl
     refine gs b2 0 #[vI 0, vI 0] 25 [vI ((punctualref_F.f 7 (i3 : Int)).Code), vI ((punctualref_F.f 7 (i3 : Int)).At)] hS288 fun w86 hS289 => ?_
     have hS290 : St w0 w86 [Own.blk b2 (.cells #[vI ((punctualref_F.f 7 (i3 : Int)).Code), vI ((punctualref_F.f 7 (i3 : Int)).At)] 25 (0, 0)), Own.blk b19 (.cells #[vI r7.1.open_, vI r7.1.close] 74 (0, 0)), Own.blk b18 (.cells #[vI r6.1.open_, vI r6.1.close] 74 (0, 0)), Own.blk b15 (.cells #[vI e7.Op, vI e7.A, vI e7.B] 29 (0, 0)), Own.blk b4 (.cells #[.slice A0 l0.length c0, (.slice Z6 m6.length cz6)] 70 (0, 0)), Own.blk b1 (.cells #[.slice A0 l0.length c0] 22 (0, 0)), Own.of (.slice Z6 m6.length cz6) 74 m6] := hS289
     refine gn hK68 ?_
     have hS291 := hS290.takeN 0
     obtain rfl := si h
     exact we_ret fun a hF => hQ _ _ _ (Outs.out nofun (Exits.on ⟨rfl, (pr [.tmp 2, .cell 3 25] [.pointer none, .agg #[vI ((punctualref_F.f 7 (i3 : Int)).Code), vI ((punctualref_F.f 7 (i3 : Int)).At)]] [.loaded ⟨b2, 0, none⟩ (vI ((punctualref_F.f 7 (i3 : Int)).Code)), .loaded ⟨b2, 1, none⟩ (vI ((punctualref_F.f 7 (i3 : Int)).At))] ⟨hS290.c 0, hS290.c 0, trivial⟩ ⟨rfl, hS291⟩) a hF⟩))
    ·rw [if_neg hc34] at h
     refine gk 202 (decide (e7.A ≤ (i3 : Int))) false (decide_eq_false hc34) ?_
     refine gb [5, 6, 7, 8, 9, 10, 11] [(209, .bool (decide (e7.A > (l0.length : Int)))), (208, .bool (decide (e7.A > (l0.length : Int)))), (207, .bool (decide (e7.A > (l0.length : Int)))), (206, vI (l0.length : Int)), (205, .slice A0 l0.length c0), (204, vI e7.A), (203, pP b15 1)] [.loaded ⟨b15, 1, none⟩ (vI e7.A), .loaded ⟨b1, 0, none⟩ (.slice A0 l0.length c0)] ⟨hS285.c 2, hS285.c 5, trivial⟩ ?_
     by_cases hc35 : e7.A > (l0.length : Int)
     ·rw [if_pos hc35] at h
      refine gk 209 (decide (e7.A > (l0.length : Int))) true (decide_eq_true hc35) ?_
      refine gb0 [12, 13, 14, 15, 16, 17, 18, 19, 20] [(218, .bool true), (217, undef), (216, undef), (215, undef), (214, .bool true), (213, .bool true), (212, undef), (211, undef), (210, undef)] ?_
      refine gn hK67 ?_
      refine we_true (by kernel_rfl) ?_
      refine ws fun K69 hK69 => ?_
      refine wr [(0, 0), (1, 1), (2, 0), (3, 2)] ?_
      refine gb0 [0] [(219, vI (i3 : Int))] ?_
      refine ge_call (d := some 220) (f := 9) (args := #[vI 7, vI (i3 : Int)]) (by kernel_rfl) (punctualref_F_ok 7 (i3 : Int) _ _ rfl) ?_
      rintro _ w87 ⟨rfl, hS292⟩
      refine ⟨_, rfl, hS292.below, ?_⟩
      have hS293 := hS285.call hS292
      refine gb0 [2] [(2, .pointer none)] ?_
      have hS294 := hS293.bring 4 rfl
      refine gs b2 0 #[vI 0, vI 0] 25 [vI ((punctualref_F.f 7 (i3 : Int)).Code), vI ((punctualref_F.f 7 (i3 : Int)).At)] hS294 fun w88 hS295 => ?_
      have hS296 : St w0 w88 [Own.blk b2 (.cells #[vI ((punctualref_F.f 7 (i3 : Int)).Code), vI ((punctualref_F.f 7 (i3 : Int)).At)] 25 (0, 0)), Own.blk b19 (.cells #[vI r7.1.open_, vI r7.1.close] 74 (0, 0)), Own.blk b18 (.cells #[vI r6.1.open_, vI r6.1.close] 74 (0, 0)), Own.blk b15 (.cells #[vI e7.Op, vI e7.A, vI e7.B] 29 (0, 0)), Own.blk b4 (.cells #[.slice A0 l0.length c0, (.slice Z6 m6.length cz6)] 70 (0, 0)), Own.blk b1 (.cells #[.slice A0 l0.length c0] 22 (0, 0)), Own.of (.slice Z6 m6.length cz6) 74 m6] := hS295
      refine gn hK69 ?_
      have hS297 := hS296.takeN 0
      obtain rfl := si h
      exact we_ret fun a hF => hQ _ _ _ (Outs.out nofun (Exits.on ⟨rfl, (pr [.tmp 2, .cell 3 25] [.pointer none, .agg #[vI ((punctualref_F.f 7 (i3 : Int)).Code), vI ((punctualref_F.f 7 (i3 : Int)).At)]] [.loaded ⟨b2, 0, none⟩ (vI ((punctualref_F.f 7 (i3 : Int)).Code)), .loaded ⟨b2, 1, none⟩ (vI ((punctualref_F.f 7 (i3 : Int)).At))] ⟨hS296.c 0, hS296.c 0, trivial⟩ ⟨rfl, hS297⟩) a hF⟩))
     ·rw [if_neg hc35] at h
      refine gk 209 (decide (e7.A > (l0.length : Int))) false (decide_eq_false hc35) ?_
      refine gb0 [12, 13, 14, 15, 16] [(214, .bool (r6.2 != r7.2)), (213, .bool (r6.2 != r7.2)), (212, .bool (r6.2 != r7.2)), (211, .bool r7.2), (210, .bool r6.2)] ?_
      by_cases hc36 : r6.2 = r7.2
      ·rw [if_pos hc36] at h
       refine gk 214 (r6.2 != r7.2) false (bne_eq_false_iff_eq.2 hc36) ?_
       refine gb [17, 18] [(216, .agg #[vI r7.1.open_, vI r7.1.close]), (215, .agg #[vI r6.1.open_, vI r6.1.close])] [.loaded ⟨b18, 0, none⟩ (vI r6.1.open_), .loaded ⟨b18, 1, none⟩ (vI r6.1.close), .loaded ⟨b19, 0, none⟩ (vI r7.1.open_), .loaded ⟨b19, 1, none⟩ (vI r7.1.close)] ⟨hS285.c 1, hS285.c 1, hS285.c 0, hS285.c 0, trivial⟩ ?_
       refine ge_eqs (d := 217) (ty := 4) (op := .neq) (x := (.tmp 215)) (y := (.tmp 216)) (t := 74) (t2 := 74) (xs := #[vI r6.1.open_, vI r6.1.close]) (ys := #[vI r7.1.open_, vI r7.1.close]) (r := (Sregion.eqb r6.1 r7.1)) (v := !(Sregion.eqb r6.1 r7.1)) (by kernel_rfl) (by kernel_rfl) (by kernel_rfl) (by kernel_rfl) (by kernel_rfl) rfl ?_
       refine gb0 [20] [(218, .bool (!(Sregion.eqb r6.1 r7.1)))] ?_
       refine gn hK67 ?_
       by_cases hc37 : (Sregion.eqb r6.1 r7.1) = true
       ·rw [if_pos hc37] at h
        refine wk 218 (!(Sregion.eqb r6.1 r7.1)) false (congrArg (fun z => !z) hc37) ?_
        refine we_false (by kernel_rfl) ?_
        refine we_skip fun a hF => hK54 _ _ ?_ a hF
        refine wr [(0, 0), (1, 0)] ?_
        refine ge_addn (d := 221) (ty := 3) (x := (.tmp 172)) (y := (.const (vI 1))) (t := 3) (t2 := 3) (k := .i64) (m := i3) (by kernel_rfl) (by kernel_rfl) (by kernel_rfl) (by have h0 := hR0.small; omega) ?_
        refine gb0 [1] [(172, vI ((i3 + 1 : Nat) : Int))] ?_
        have hS298 := hS285.bring 6 rfl
        have hS299 := hS298.bring 6 rfl
        have hS300 := hS299.bring 6 rfl
        have hS301 := hS300.bring 6 rfl
        have hS302 := hS301.takeN 4
        obtain rfl := si h
        exact ge_nil fun a hF => hQ _ _ _ (Outs.again ⟨hS302, hF.weaken ea⟩)
       ·rw [if_neg hc37] at h
        refine wk 218 (!(Sregion.eqb r6.1 r7.1)) true (congrArg (fun z => !z) (Bool.eq_false_iff.2 hc37)) ?_
        refine we_true (by kernel_rfl) ?_
        refine ws fun K70 hK70 => ?_
        refine wr [(0, 0), (1, 1), (2, 0), (3, 2)] ?_
        refine gb0 [0] [(219, vI (i3 : Int))] ?_
        refine ge_call (d := some 220) (f := 9) (args := #[vI 7, vI (i3 : Int)]) (by kernel_rfl) (punctualref_F_ok 7 (i3 : Int) _ _ rfl) ?_
        rintro _ w89 ⟨rfl, hS303⟩
        refine ⟨_, rfl, hS303.below, ?_⟩
        have hS304 := hS285.call hS303
        refine gb0 [2] [(2, .pointer none)] ?_
        have hS305 := hS304.bring 4 rfl
        refine gs b2 0 #[vI 0, vI 0] 25 [vI ((punctualref_F.f 7 (i3 : Int)).Code), vI ((punctualref_F.f 7 (i3 : Int)).At)] hS305 fun w90 hS306 => ?_
        have hS307 : St w0 w90 [Own.blk b2 (.cells #[vI ((punctualref_F.f 7 (i3 : Int)).Code), vI ((punctualref_F.f 7 (i3 : Int)).At)] 25 (0, 0)), Own.blk b19 (.cells #[vI r7.1.open_, vI r7.1.close] 74 (0, 0)), Own.blk b18 (.cells #[vI r6.1.open_, vI r6.1.close] 74 (0, 0)), Own.blk b15 (.cells #[vI e7.Op, vI e7.A, vI e7.B] 29 (0, 0)), Own.blk b4 (.cells #[.slice A0 l0.length c0, (.slice Z6 m6.length cz6)] 70 (0, 0)), Own.blk b1 (.cells #[.slice A0 l0.length c0] 22 (0, 0)), Own.of (.slice Z6 m6.length cz6) 74 m6] := hS306
        refine gn hK70 ?_
        have hS308 := hS307.takeN 0
        obtain rfl := si h
        exact we_ret fun a hF => hQ _ _ _ (Outs.out nofun (Exits.on ⟨rfl, (pr [.tmp 2, .cell 3 25] [.pointer none, .agg #[vI ((punctualref_F.f 7 (i3 : Int)).Code), vI ((punctualref_F.f 7 (i3 : Int)).At)]] [.loaded ⟨b2, 0, none⟩ (vI ((punctualref_F.f 7 (i3 : Int)).Code)), .loaded ⟨b2, 1, none⟩ (vI ((punctualref_F.f 7 (i3 : Int)).At))] ⟨hS307.c 0, hS307.c 0, trivial⟩ ⟨rfl, hS308⟩) a hF⟩))
      ·rw [if_neg hc36] at h
       refine gk 214 (r6.2 != r7.2) true (bne_iff_ne.2 hc36) ?_
       refine gb0 [17, 18, 19, 20] [(218, .bool true), (217, undef), (216, undef), (215, undef)] ?_
       refine gn hK67 ?_
       refine we_true (by kernel_rfl) ?_
       refine ws fun K71 hK71 => ?_
       refine wr [(0, 0), (1, 1), (2, 0), (3, 2)] ?_
       refine gb0 [0] [(219, vI (i3 : Int))] ?_
       refine ge_call (d := some 220) (f := 9) (args := #[vI 7, vI (i3 : Int)]) (by kernel_rfl) (punctualref_F_ok 7 (i3 : Int) _ _ rfl) ?_
       rintro _ w91 ⟨rfl, hS309⟩
       refine ⟨_, rfl, hS309.below, ?_⟩
       have hS310 := hS285.call hS309
       refine gb0 [2] [(2, .pointer none)] ?_
       have hS311 := hS310.bring 4 rfl
       refine gs b2 0 #[vI 0, vI 0] 25 [vI ((punctualref_F.f 7 (i3 : Int)).Code), vI ((punctualref_F.f 7 (i3 : Int)).At)] hS311 fun w92 hS312 => ?_
       have hS313 : St w0 w92 [Own.blk b2 (.cells #[vI ((punctualref_F.f 7 (i3 : Int)).Code), vI ((punctualref_F.f 7 (i3 : Int)).At)] 25 (0, 0)), Own.blk b19 (.cells #[vI r7.1.open_, vI r7.1.close] 74 (0, 0)), Own.blk b18 (.cells #[vI r6.1.open_, vI r6.1.close] 74 (0, 0)), Own.blk b15 (.cells #[vI e7.Op, vI e7.A, vI e7.B] 29 (0, 0)), Own.blk b4 (.cells #[.slice A0 l0.length c0, (.slice Z6 m6.length cz6)] 70 (0, 0)), Own.blk b1 (.cells #[.slice A0 l0.length c0] 22 (0, 0)), Own.of (.slice Z6 m6.length cz6) 74 m6] := hS312
       refine gn hK71 ?_
       have hS314 := hS313.takeN 0
       obtain rfl := si h
       exact we_ret fun a hF => hQ _ _ _ (Outs.out nofun (Exits.on ⟨rfl, (pr [.tmp 2, .cell 3 25] [.pointer none, .agg #[vI ((punctualref_F.f 7 (i3 : Int)).Code), vI ((punctualref_F.f 7 (i3 : Int)).At)]] [.loaded ⟨b2, 0, none⟩ (vI ((punctualref_F.f 7 (i3 : Int)).Code)), .loaded ⟨b2, 1, none⟩ (vI ((punctualref_F.f 7 (i3 : Int)).At))] ⟨hS313.c 0, hS313.c 0, trivial⟩ ⟨rfl, hS314⟩) a hF⟩))
   ·rw [if_neg hc33] at h
    refine wk 184 (e7.Op != 12) true (bne_iff_ne.2 hc33) ?_
    refine we_true (by kernel_rfl) ?_
    refine we_exit fun a hF => hK54 _ _ ?_ a hF
    refine wr [(0, 0), (1, 0)] ?_
    refine ge_addn (d := 221) (ty := 3) (x := (.tmp 172)) (y := (.const (vI 1))) (t := 3) (t2 := 3) (k := .i64) (m := i3) (by kernel_rfl) (by kernel_rfl) (by kernel_rfl) (by have h0 := hR0.small; omega) ?_
    refine gb0 [1] [(172, vI ((i3 + 1 : Nat) : Int))] ?_
    have hS315 := hS236.bring 4 rfl
    have hS316 := hS315.bring 4 rfl
    have hS317 := hS316.bring 4 rfl
    have hS318 := hS317.bring 4 rfl
    have hS319 := hS318.takeN 4
    obtain rfl := si h
    exact ge_nil fun a hF => hQ _ _ _ (Outs.again ⟨hS319, hF.weaken ea⟩)
 ·rw [if_neg hc27] at h
  refine wk 173 (decide ((i3 : Int) < (l0.length : Int))) false (decide_eq_false hc27) ?_
  refine we_false (by kernel_rfl) ?_
  have hS320 := hS.bring 3 rfl
  have hS321 := hS320.bring 3 rfl
  have hS322 := hS321.bring 3 rfl
  have hS323 := hS322.bring 3 rfl
  obtain rfl := si h
  exact we_exit fun a hF => hQ _ _ _ (Outs.out nofun (Exits.here ⟨hS323, hF.weaken ea⟩))
theorem punctualref_ReadImage_ok (K : Nat) (l0 : List SIns) (A0 : Option Addr) (c0 : Nat) (w0 : World) (hR0 : RdL w0 A0 l0) (hL0 : l0.length ≤ c0) (r : (Option PImage) × SFault) (h : punctualref_ReadImage.f K l0 = some r) :
  Calls Tryd.prog 11 #[.slice A0 l0.length c0] w0 (punctualref_ReadImage.Post w0 l0 A0 c0 r) := by
 have hS := St.start w0
 unfold punctualref_ReadImage.f at h
 refine calls_enter (n := 230) (args := [.slice A0 l0.length c0]) (fn := Tryd.f11) rfl rfl rfl rfl ?_
 show WE _ _ _ _ [(0, .slice A0 l0.length c0)] _
 refine ws fun K1 hK1 => ?_
 refine wr [(0, 1), (1, 0), (2, 1)] ?_
 refine gw (some 1) (.cells #[.slice A0 l0.length c0] 22) (fun b => pP b 0) hS fun b1 w1 hx1 hS1 => ?_
 refine gb0 [1] [(2, .pointer none)] ?_
 refine gw (some 3) (.cells #[vI 0, vI 0] 25) (fun b => pP b 0) hS1 fun b2 w2 hx2 hS2 => ?_
 refine gn hK1 ?_
 refine ws fun K2 hK2 => ?_
 refine ws fun K3 hK3 => ?_
 refine wr [(0, 0), (1, 0), (2, 0)] ?_
 refine gb [0, 1, 2] [(22, .bool (decide ((l0.length : Int) > 2000))), (21, vI (l0.length : Int)), (20, .slice A0 l0.length c0)] [.loaded ⟨b1, 0, none⟩ (.slice A0 l0.length c0)] ⟨hS2.c 1, trivial⟩ ?_
 refine gn hK3 ?_
 by_cases hc1 : (l0.length : Int) > 2000
 ·rw [if_pos hc1] at h
  refine wk 22 (decide ((l0.length : Int) > 2000)) true (decide_eq_true hc1) ?_
  refine we_true (by kernel_rfl) ?_
  refine ws fun K4 hK4 => ?_
  refine wr [(0, 1), (1, 0), (2, 2)] ?_
  refine ge_call (d := some 23) (f := 9) (args := #[vI 2, vI 0]) (by kernel_rfl) (punctualref_F_ok 2 0 _ _ rfl) ?_
  rintro _ w3 ⟨rfl, hS3⟩
  refine ⟨_, rfl, hS3.below, ?_⟩
  have hS4 := hS2.call hS3
  refine gb0 [1] [(2, .pointer none)] ?_
  refine gs b2 0 #[vI 0, vI 0] 25 [vI ((punctualref_F.f 2 0).Code), vI ((punctualref_F.f 2 0).At)] hS4 fun w4 hS5 => ?_
  have hS6 : St w0 w4 [Own.blk b2 (.cells #[vI ((punctualref_F.f 2 0).Code), vI ((punctualref_F.f 2 0).At)] 25 (0, 0)), Own.blk b1 (.cells #[.slice A0 l0.length c0] 22 (0, 0))] := hS5
  refine gn hK4 ?_
  have hS7 := hS6.takeN 0
  obtain rfl := si h
  exact we_ret (pr [.tmp 2, .cell 3 25] [.pointer none, .agg #[vI ((punctualref_F.f 2 0).Code), vI ((punctualref_F.f 2 0).At)]] [.loaded ⟨b2, 0, none⟩ (vI ((punctualref_F.f 2 0).Code)), .loaded ⟨b2, 1, none⟩ (vI ((punctualref_F.f 2 0).At))] ⟨hS6.c 0, hS6.c 0, trivial⟩ ⟨rfl, hS7⟩)
 ·rw [if_neg hc1] at h
  refine wk 22 (decide ((l0.length : Int) > 2000)) false (decide_eq_false hc1) ?_
  refine we_false (by kernel_rfl) ?_
  refine we_skip fun a hF => hK2 _ _ ?_ a hF
  refine ws fun K5 hK5 => ?_
  refine ws fun K6 hK6 => ?_
  refine wr [(0, 0), (1, 0), (2, 0)] ?_
  refine gb [0, 1, 2] [(26, vI 0), (25, vI (l0.length : Int)), (24, .slice A0 l0.length c0)] [.loaded ⟨b1, 0, none⟩ (.slice A0 l0.length c0)] ⟨hS2.c 1, trivial⟩ ?_
  refine gn hK6 ?_
  refine we_block ?_
  have hS8 := hS2.bring 1 rfl
  have hS9 := hS8.bring 1 rfl
  rcases hq4 : iter (punctualref_ReadImage.r0 l0) K 0 with _ | (_ | rr7)
  ·rw [hq4] at h; cases h
  ·rw [hq4] at h
   simp only [] at h
   refine we_iter (A := punctualref_ReadImage.A0 w0 l0 A0 c0 b1 b2) (B := punctualref_ReadImage.B0 w0 l0 A0 c0 b1 b2) hq4 (fun a hF => ⟨hS9, hF.weaken ea⟩) (fun s o hf a w hA Q hQ => punctualref_ReadImage_r0 K w0 l0 A0 c0 hR0 hL0 b1 b2 hc1 s o hf a w hA Q hQ) ?_
   rintro _ a w10 _ ⟨rfl, hS26, hF⟩
   replace hS26 : St w0 w10 [Own.blk b2 (.cells #[vI 0, vI 0] 25 (0, 0)), Own.blk b1 (.cells #[.slice A0 l0.length c0] 22 (0, 0))] := hS26
   refine hK5 [(1, pP b1 0), (3, pP b2 0)] w10 ?_ a hF
   refine ws fun K14 hK14 => ?_
   refine wr [(0, 0), (1, 0), (2, 1), (3, 0)] ?_
   refine gb [0, 1] [(40, .agg #[.slice A0 l0.length c0, .slice none 0 0]), (39, .slice A0 l0.length c0)] [.loaded ⟨b1, 0, none⟩ (.slice A0 l0.length c0)] ⟨hS26.c 1, trivial⟩ ?_
   refine gw (some 41) (.cells #[.slice A0 l0.length c0, .slice none 0 0] 70) (fun b => pP b 0) hS26 fun b4 w11 hx5 hS27 => ?_
   refine gb0 [3] [(7, pP b4 0)] ?_
   refine gn hK14 ?_
   refine ws fun K15 hK15 => ?_
   refine wr [(0, 1)] ?_
   refine gw (some 8) (.cells #[.slice none 0 0] 37) (fun b => pP b 0) hS27 fun b5 w12 hx6 hS28 => ?_
   refine gn hK15 ?_
   refine ws fun K16 hK16 => ?_
   refine ws fun K17 hK17 => ?_
   refine wr [(0, 0), (1, 0), (2, 0)] ?_
   refine gb [0, 1, 2] [(44, vI 0), (43, vI (l0.length : Int)), (42, .slice A0 l0.length c0)] [.loaded ⟨b1, 0, none⟩ (.slice A0 l0.length c0)] ⟨hS28.c 3, trivial⟩ ?_
   refine gn hK17 ?_
   refine we_block ?_
   have hS29 := hS28.nil (α := Int) 3
   have hS30 := hS29.nil (α := Sregion) 74
   have hS31 := hS30.bring 1 rfl
   have hS32 := hS31.bring 5 rfl
   have hS33 := hS32.bring 5 rfl
   have hS34 := hS33.bring 5 rfl
   have hS35 := hS34.bring 5 rfl
   rcases hq17 : iter (punctualref_ReadImage.r1 K l0) K (0, ([] : List Int), ([] : List Sregion)) with _ | (⟨m5, m6⟩ | rr6)
   ·rw [hq17] at h; cases h
   ·rw [hq17] at h
    simp only [] at h
    refine we_iter (A := punctualref_ReadImage.A1 w0 l0 A0 c0 b1 b2 b4 b5) (B := punctualref_ReadImage.B1 w0 l0 A0 c0 b1 b2 b4 b5) hq17 (fun a hF => ⟨(.slice none 0 0), (.slice none 0 0), hS35, hF.weaken ea⟩) (fun s o hf a w hA Q hQ => punctualref_ReadImage_r1 K w0 l0 A0 c0 hR0 hL0 b1 b2 hc1 b4 b5 s o hf a w hA Q hQ) ?_
    rintro _ a w58 _ ⟨rfl, v7, v8, hS215, hF⟩
    replace hS215 : St w0 w58 [Own.blk b5 (.cells #[v7] 37 (0, 0)), Own.blk b4 (.cells #[.slice A0 l0.length c0, v8] 70 (0, 0)), Own.blk b2 (.cells #[vI 0, vI 0] 25 (0, 0)), Own.blk b1 (.cells #[.slice A0 l0.length c0] 22 (0, 0)), Own.of v7 3 m5, Own.of v8 74 m6] := hS215
    refine hK16 [(1, pP b1 0), (3, pP b2 0), (7, pP b4 0), (8, pP b5 0)] w58 ?_ a hF
    refine ws fun K44 hK44 => ?_
    refine ws fun K45 hK45 => ?_
    refine wr [(0, 0), (1, 0), (2, 0)] ?_
    refine gb [0] [(151, v7)] [.loaded ⟨b5, 0, none⟩ (v7)] ⟨hS215.c 0, trivial⟩ ?_
    obtain ⟨Z5, cz5, rfl⟩ := hS215.open 4 rfl
    refine gb0 [1, 2] [(153, .bool (decide ((m5.length : Int) > 0))), (152, vI (m5.length : Int))] ?_
    refine gn hK45 ?_
    by_cases hc24 : (m5.length : Int) > 0
    ·rw [if_pos hc24] at h
     refine wk 153 (decide ((m5.length : Int) > 0)) true (decide_eq_true hc24) ?_
     refine we_true (by kernel_rfl) ?_
     refine ws fun K46 hK46 => ?_
     refine ws fun K47 hK47 => ?_
     refine we_draws (by kernel_rfl) [(0, 0), (1, 0), (2, 0), (3, 0), (4, 0), (5, 0), (6, 0), (7, 0)] (by kernel_rfl) ?_
     have hS216 := hS215.drew
     refine gb [0, 1] [(155, (.slice Z5 m5.length cz5)), (154, .slice A0 l0.length c0)] [.loaded ⟨b1, 0, none⟩ (.slice A0 l0.length c0), .loaded ⟨b5, 0, none⟩ ((.slice Z5 m5.length cz5))] ⟨hS216.c 3, hS216.c 0, trivial⟩ ?_
     rcases hx19 : m5[0]? with _ | e5
     ·rw [hx19] at h; cases h
     rw [hx19] at h
     simp only [] at h
     refine gi 156 0 37 3 1 m5.length cz5 (.tmp 155) (.const (vI 0)) Z5 .i64 0 0 ((hS216.rdAt 4 rfl).eqSome (pos_of_get hx19)) rfl (lt_of_get hx19) ?_
     refine gb [3] [(157, vI e5)] [.loaded ⟨blkOf Z5, offOf Z5 + 0 * 1, none⟩ (vI e5)] ⟨RdL.cell (j := 0) (hS216.rdAt 4 rfl) hx19 rfl, trivial⟩ ?_
     by_cases hc25 : 0 ≤ e5
     ·rw [if_pos hc25] at h
      rcases hx20 : l0[(e5).toNat]? with _ | e6
      ·rw [hx20] at h; cases h
      rw [hx20] at h
      simp only [] at h
      refine gi 158 0 22 29 3 l0.length c0 (.tmp 154) (.tmp 157) A0 .i64 e5 ((e5).toNat) ((hS216.rd hR0).eqSome (pos_of_get hx20)) (Int.toNat_of_nonneg hc25).symm (lt_of_get hx20) ?_
      refine gb [5, 6, 7] [(161, .bool (e6.Op == 13)), (160, vI e6.Op), (159, .pointer (some ⟨blkOf A0, offOf A0 + (e5).toNat * 3, none⟩))] [.loaded ⟨blkOf A0, offOf A0 + ((e5).toNat) * 3, none⟩ (vI e6.Op)] ⟨RdL.cell (j := 0) (hS216.rd hR0) hx20 rfl, trivial⟩ ?_
      refine gn hK47 ?_
      by_cases hc26 : e6.Op = 13
      ·rw [if_pos hc26] at h
       refine wk 161 (e6.Op == 13) true (beq_iff_eq.2 hc26) ?_
       refine we_true (by kernel_rfl) ?_
       refine ws fun K48 hK48 => ?_
       refine wr [(0, 0), (1, 0), (2, 0), (3, 1), (4, 0), (5, 2)] ?_
       refine gb [0] [(162, (.slice Z5 m5.length cz5))] [.loaded ⟨b5, 0, none⟩ ((.slice Z5 m5.length cz5))] ⟨hS216.c 0, trivial⟩ ?_
       refine gi 163 0 37 3 1 m5.length cz5 (.tmp 162) (.const (vI 0)) Z5 .i64 0 0 ((hS216.rdAt 4 rfl).eqSome (pos_of_get hx19)) rfl (lt_of_get hx19) ?_
       refine gb [2] [(164, vI e5)] [.loaded ⟨blkOf Z5, offOf Z5 + 0 * 1, none⟩ (vI e5)] ⟨RdL.cell (j := 0) (hS216.rdAt 4 rfl) hx19 rfl, trivial⟩ ?_
       refine ge_call (d := some 165) (f := 9) (args := #[vI 9, vI e5]) (by kernel_rfl) (punctualref_F_ok 9 e5 _ _ rfl) ?_
       rintro _ w59 ⟨rfl, hS217⟩
       refine ⟨_, rfl, hS217.below, ?_⟩
       have hS218 := hS216.call hS217
       refine gb0 [4] [(2, .pointer none)] ?_
       have hS219 := hS218.bring 2 rfl
       refine gs b2 0 #[vI 0, vI 0] 25 [vI ((punctualref_F.f 9 e5).Code), vI ((punctualref_F.f 9 e5).At)] hS219 fun w60 hS220 => ?_
       have hS221 : St w0 w60 [Own.blk b2 (.cells #[vI ((punctualref_F.f 9 e5).Code), vI ((punctualref_F.f 9 e5).At)] 25 (0, 0)), Own.blk b5 (.cells #[(.slice Z5 m5.length cz5)] 37 (0, 0)), Own.blk b4 (.cells #[.slice A0 l0.length c0, v8] 70 (0, 0)), Own.blk b1 (.cells #[.slice A0 l0.length c0] 22 (0, 0)), Own.of (.slice Z5 m5.length cz5) 3 m5, Own.of v8 74 m6] := hS220
       refine gn hK48 ?_
       have hS222 := hS221.takeN 0
       obtain rfl := si h
       exact we_ret (pr [.tmp 2, .cell 3 25] [.pointer none, .agg #[vI ((punctualref_F.f 9 e5).Code), vI ((punctualref_F.f 9 e5).At)]] [.loaded ⟨b2, 0, none⟩ (vI ((punctualref_F.f 9 e5).Code)), .loaded ⟨b2, 1, none⟩ (vI ((punctualref_F.f 9 e5).At))] ⟨hS221.c 0, hS221.c 0, trivial⟩ ⟨rfl, hS222⟩)
      ·rw [if_neg hc26] at h
       refine wk 161 (e6.Op == 13) false (beq_eq_false_iff_ne.2 hc26) ?_
       refine we_false (by kernel_rfl) ?_
       refine we_skip fun a hF => hK46 _ _ ?_ a hF
       refine ws fun K49 hK49 => ?_
       refine wr [(0, 0), (1, 0), (2, 0), (3, 1), (4, 0), (5, 2)] ?_
       refine gb [0] [(166, (.slice Z5 m5.length cz5))] [.loaded ⟨b5, 0, none⟩ ((.slice Z5 m5.length cz5))] ⟨hS216.c 0, trivial⟩ ?_
       refine gi 167 0 37 3 1 m5.length cz5 (.tmp 166) (.const (vI 0)) Z5 .i64 0 0 ((hS216.rdAt 4 rfl).eqSome (pos_of_get hx19)) rfl (lt_of_get hx19) ?_
       refine gb [2] [(168, vI e5)] [.loaded ⟨blkOf Z5, offOf Z5 + 0 * 1, none⟩ (vI e5)] ⟨RdL.cell (j := 0) (hS216.rdAt 4 rfl) hx19 rfl, trivial⟩ ?_
       refine ge_call (d := some 169) (f := 9) (args := #[vI 10, vI e5]) (by kernel_rfl) (punctualref_F_ok 10 e5 _ _ rfl) ?_
       rintro _ w61 ⟨rfl, hS223⟩
       refine ⟨_, rfl, hS223.below, ?_⟩
       have hS224 := hS216.call hS223
       refine gb0 [4] [(2, .pointer none)] ?_
       have hS225 := hS224.bring 2 rfl
       refine gs b2 0 #[vI 0, vI 0] 25 [vI ((punctualref_F.f 10 e5).Code), vI ((punctualref_F.f 10 e5).At)] hS225 fun w62 hS226 => ?_
       have hS227 : St w0 w62 [Own.blk b2 (.cells #[vI ((punctualref_F.f 10 e5).Code), vI ((punctualref_F.f 10 e5).At)] 25 (0, 0)), Own.blk b5 (.cells #[(.slice Z5 m5.length cz5)] 37 (0, 0)), Own.blk b4 (.cells #[.slice A0 l0.length c0, v8] 70 (0, 0)), Own.blk b1 (.cells #[.slice A0 l0.length c0] 22 (0, 0)), Own.of (.slice Z5 m5.length cz5) 3 m5, Own.of v8 74 m6] := hS226
       refine gn hK49 ?_
       have hS228 := hS227.takeN 0
       obtain rfl := si h
       exact we_ret (pr [.tmp 2, .cell 3 25] [.pointer none, .agg #[vI ((punctualref_F.f 10 e5).Code), vI ((punctualref_F.f 10 e5).At)]] [.loaded ⟨b2, 0, none⟩ (vI ((punctualref_F.f 10 e5).Code)), .loaded ⟨b2, 1, none⟩ (vI ((punctualref_F.f 10 e5).At))] ⟨hS227.c 0, hS227.c 0, trivial⟩ ⟨rfl, hS228⟩)
     ·rw [if_neg hc25] at h
      cases h
    ·rw [if_neg hc24] at h
     refine wk 153 (decide ((m5.length : Int) > 0)) false (decide_eq_false hc24) ?_
     refine we_false (by kernel_rfl) ?_
     refine we_skip fun a hF => hK44 _ _ ?_ a hF
     refine ws fun K50 hK50 => ?_
     refine ws fun K51 hK51 => ?_
     refine wr [(0, 0), (1, 0), (2, 0)] ?_
     refine gb [0, 1, 2] [(172, vI 0), (171, vI (l0.length : Int)), (170, .slice A0 l0.length c0)] [.loaded ⟨b1, 0, none⟩ (.slice A0 l0.length c0)] ⟨hS215.c 3, trivial⟩ ?_
     refine gn hK51 ?_
     refine we_block ?_
     obtain ⟨Z6, cz6, rfl⟩ := hS215.open 5 rfl
     have hS229 := hS215.bring 5 rfl
     have hS230 := hS229.bring 4 rfl
     have hS231 := hS230.bring 4 rfl
     have hS232 := hS231.bring 4 rfl
     have hS233 := hS232.takeN 4
     rcases hq32 : iter (punctualref_ReadImage.r6 K l0 m6) K 0 with _ | (_ | rr5)
     ·rw [hq32] at h; cases h
     ·rw [hq32] at h
      simp only [] at h
      refine we_iter (A := punctualref_ReadImage.A6 w0 l0 A0 c0 b1 b2 b4 m6 Z6 cz6) (B := punctualref_ReadImage.B6 w0 l0 A0 c0 b1 b2 b4 m6 Z6 cz6) hq32 (fun a hF => ⟨hS233, hF.weaken ea⟩) (fun s o hf a w hA Q hQ => punctualref_ReadImage_r6 K w0 l0 A0 c0 hR0 hL0 b1 b2 hc1 b4 b5 m5 m6 Z5 cz5 hc24 Z6 cz6 s o hf a w hA Q hQ) ?_
      rintro _ a w93 _ ⟨rfl, hS324, hF⟩
      replace hS324 : St w0 w93 [Own.blk b4 (.cells #[.slice A0 l0.length c0, (.slice Z6 m6.length cz6)] 70 (0, 0)), Own.blk b2 (.cells #[vI 0, vI 0] 25 (0, 0)), Own.blk b1 (.cells #[.slice A0 l0.length c0] 22 (0, 0)), Own.of (.slice Z6 m6.length cz6) 74 m6] := hS324
      refine hK50 [(1, pP b1 0), (3, pP b2 0), (7, pP b4 0)] w93 ?_ a hF
      refine ws fun K72 hK72 => ?_
      refine ws fun K73 hK73 => ?_
      refine wr [(0, 0), (1, 1), (2, 1), (3, 2)] ?_
      rcases hq33 : punctualref_stackFault.f K l0 with _ | r8
      ·rw [hq33] at h; cases h
      rw [hq33] at h
      simp only [] at h
      refine gb [0] [(222, .slice A0 l0.length c0)] [.loaded ⟨b1, 0, none⟩ (.slice A0 l0.length c0)] ⟨hS324.c 2, trivial⟩ ?_
      refine ge_call (d := some 223) (f := 34) (args := #[.slice A0 l0.length c0]) (by kernel_rfl) (punctualref_stackFault_ok K l0 A0 c0 _ (hS324.rd hR0) hL0 _ hq33) ?_
      rintro _ w94 ⟨rfl, hS325⟩
      refine ⟨_, rfl, hS325.below, ?_⟩
      have hS326 := hS324.call hS325
      refine gw (some 19) (.cells #[vI 0, vI 0] 25) (fun b => pP b 0) hS326 fun b20 w95 hx27 hS327 => ?_
      refine gs b20 0 #[vI 0, vI 0] 25 [vI r8.Code, vI r8.At] hS327 fun w96 hS328 => ?_
      have hS329 : St w0 w96 [Own.blk b20 (.cells #[vI r8.Code, vI r8.At] 25 (0, 0)), Own.blk b4 (.cells #[.slice A0 l0.length c0, (.slice Z6 m6.length cz6)] 70 (0, 0)), Own.blk b2 (.cells #[vI 0, vI 0] 25 (0, 0)), Own.blk b1 (.cells #[.slice A0 l0.length c0] 22 (0, 0)), Own.of (.slice Z6 m6.length cz6) 74 m6] := hS328
      refine gn hK73 ?_
      refine ws fun K74 hK74 => ?_
      refine wr [(0, 0), (1, 0), (2, 0)] ?_
      refine gb [0, 1, 2] [(226, .bool (r8.Code != 0)), (225, vI r8.Code), (224, pP b20 0)] [.loaded ⟨b20, 0, none⟩ (vI r8.Code)] ⟨hS329.c 0, trivial⟩ ?_
      refine gn hK74 ?_
      by_cases hc38 : r8.Code = 0
      ·rw [if_pos hc38] at h
       refine wk 226 (r8.Code != 0) false (bne_eq_false_iff_eq.2 hc38) ?_
       refine we_false (by kernel_rfl) ?_
       refine we_skip fun a hF => hK72 _ _ ?_ a hF
       refine ws fun K75 hK75 => ?_
       refine wr [(0, 0), (1, 0), (2, 0), (3, 2)] ?_
       refine gb0 [0, 1, 2] [(2, pP b4 0), (229, .agg #[vI 0, vI 0]), (228, pP b4 0)] ?_
       have hS330 := hS329.bring 2 rfl
       refine gs b2 0 #[vI 0, vI 0] 25 [vI 0, vI 0] hS330 fun w97 hS331 => ?_
       have hS332 : St w0 w97 [Own.blk b2 (.cells #[vI 0, vI 0] 25 (0, 0)), Own.blk b20 (.cells #[vI r8.Code, vI r8.At] 25 (0, 0)), Own.blk b4 (.cells #[.slice A0 l0.length c0, (.slice Z6 m6.length cz6)] 70 (0, 0)), Own.blk b1 (.cells #[.slice A0 l0.length c0] 22 (0, 0)), Own.of (.slice Z6 m6.length cz6) 74 m6] := hS331
       refine gn hK75 ?_
       have hS333 := hS332.bring 4 rfl
       have hS334 := hS333.bring 3 rfl
       have hS335 := hS334.takeN 2
       obtain rfl := si h
       exact we_ret (pr [.tmp 2, .cell 3 25] [pP b4 0, .agg #[vI 0, vI 0]] [.loaded ⟨b2, 0, none⟩ (vI 0), .loaded ⟨b2, 1, none⟩ (vI 0)] ⟨hS332.c 0, hS332.c 0, trivial⟩ ⟨b4, (.slice Z6 m6.length cz6), rfl, hS335⟩)
      ·rw [if_neg hc38] at h
       refine wk 226 (r8.Code != 0) true (bne_iff_ne.2 hc38) ?_
       refine we_true (by kernel_rfl) ?_
       refine ws fun K76 hK76 => ?_
       refine we_draws (by kernel_rfl) [(0, 0), (1, 0), (2, 2)] (by kernel_rfl) ?_
       have hS336 := hS329.drew
       refine gb [0, 1] [(2, .pointer none), (227, .agg #[vI r8.Code, vI r8.At])] [.loaded ⟨b20, 0, none⟩ (vI r8.Code), .loaded ⟨b20, 1, none⟩ (vI r8.At)] ⟨hS336.c 0, hS336.c 0, trivial⟩ ?_
       have hS337 := hS336.bring 2 rfl
       refine gs b2 0 #[vI 0, vI 0] 25 [vI r8.Code, vI r8.At] hS337 fun w98 hS338 => ?_
       have hS339 : St w0 w98 [Own.blk b2 (.cells #[vI r8.Code, vI r8.At] 25 (0, 0)), Own.blk b20 (.cells #[vI r8.Code, vI r8.At] 25 (0, 0)), Own.blk b4 (.cells #[.slice A0 l0.length c0, (.slice Z6 m6.length cz6)] 70 (0, 0)), Own.blk b1 (.cells #[.slice A0 l0.length c0] 22 (0, 0)), Own.of (.slice Z6 m6.length cz6) 74 m6] := hS338
       refine gn hK76 ?_
       have hS340 := hS339.takeN 0
       obtain rfl := si h
       exact we_ret (pr [.tmp 2, .cell 3 25] [.pointer none, .agg #[vI r8.Code, vI r8.At]] [.loaded ⟨b2, 0, none⟩ (vI r8.Code), .loaded ⟨b2, 1, none⟩ (vI r8.At)] ⟨hS339.c 0, hS339.c 0, trivial⟩ ⟨rfl, hS340⟩)
     ·rw [hq32] at h
      simp only [] at h
      refine we_iter (A := punctualref_ReadImage.A6 w0 l0 A0 c0 b1 b2 b4 m6 Z6 cz6) (B := punctualref_ReadImage.B6 w0 l0 A0 c0 b1 b2 b4 m6 Z6 cz6) hq32 (fun a hF => ⟨hS233, hF.weaken ea⟩) (fun s o hf a w hA Q hQ => punctualref_ReadImage_r6 K w0 l0 A0 c0 hR0 hL0 b1 b2 hc1 b4 b5 m5 m6 Z5 cz5 hc24 Z6 cz6 s o hf a w hA Q hQ) ?_
      rintro _ a w1 _ ⟨rfl, hb⟩
      obtain rfl := si h
      exact hb
   ·rw [hq17] at h
    simp only [] at h
    refine we_iter (A := punctualref_ReadImage.A1 w0 l0 A0 c0 b1 b2 b4 b5) (B := punctualref_ReadImage.B1 w0 l0 A0 c0 b1 b2 b4 b5) hq17 (fun a hF => ⟨(.slice none 0 0), (.slice none 0 0), hS35, hF.weaken ea⟩) (fun s o hf a w hA Q hQ => punctualref_ReadImage_r1 K w0 l0 A0 c0 hR0 hL0 b1 b2 hc1 b4 b5 s o hf a w hA Q hQ) ?_
    rintro _ a w1 _ ⟨rfl, hb⟩
    obtain rfl := si h
    exact hb
  ·rw [hq4] at h
   simp only [] at h
   refine we_iter (A := punctualref_ReadImage.A0 w0 l0 A0 c0 b1 b2) (B := punctualref_ReadImage.B0 w0 l0 A0 c0 b1 b2) hq4 (fun a hF => ⟨hS9, hF.weaken ea⟩) (fun s o hf a w hA Q hQ => punctualref_ReadImage_r0 K w0 l0 A0 c0 hR0 hL0 b1 b2 hc1 s o hf a w hA Q hQ) ?_
   rintro _ a w1 _ ⟨rfl, hb⟩
   obtain rfl := si h
   exact hb

/-! punctual/punctualref.Worst$1 -/
abbrev punctualref_Worst_1.Post (w0 : World) (r : Int) (e : Ending) (w : World) : Prop := e = .returned (vI r) ∧ St w0 w []
def punctualref_Worst_1.f (x0 : Int) (mf_0 : List (Int × Int)) : Int :=
 ((mget mf_0 x0).getD 0)
theorem punctualref_Worst_1_ok (x0 : Int) (bf_0 : Nat) (mf_0 : List (Int × Int)) (mbf_0 : Option Nat) (w0 : World) (hMf_0 : RdM w0 mbf_0 mf_0) (hBf_0 : Glob w0 bf_0 [.map mbf_0]) (r : Int) (h : punctualref_Worst_1.f x0 mf_0 = r) :
  Calls Tryd.prog 39 #[vI x0, pP bf_0 0] w0 (punctualref_Worst_1.Post w0 r) := by
 have hS := St.start w0
 unfold punctualref_Worst_1.f at h
 refine calls_enter (n := 7) (args := [vI x0, pP bf_0 0]) (fn := Tryd.f39) rfl rfl rfl rfl ?_
 show WE _ _ _ _ [(0, vI x0), (1, pP bf_0 0)] _
 refine ws fun K1 hK1 => ?_
 refine wr [(0, 0)] ?_
 refine gb0 [0] [(3, vI 0)] ?_
 refine gn hK1 ?_
 refine ws fun K2 hK2 => ?_
 refine wr [(0, 0), (1, 0), (2, 0), (3, 0)] ?_
 refine gb [0, 1] [(5, vI x0), (4, .map mbf_0)] [.loaded ⟨bf_0, 0, none⟩ (.map mbf_0)] ⟨hS.glob hBf_0 rfl, trivial⟩ ?_
 refine ge_lookupR (κ := Int) (ν := Int) (d := 6) (b := mbf_0) (t := 62) (kt := 3) (et := 3) (x := (.tmp 4)) (y := (.tmp 5)) (ty := 3) (m := mf_0) (k := x0) (z := 0) (v := ((mget mf_0 x0).getD 0)) (zv := vI 0) (vv := vI ((mget mf_0 x0).getD 0)) (by kernel_rfl) (by kernel_rfl) (by kernel_rfl) (by kernel_rfl) (by kernel_rfl) (fun w' => by kernel_rfl) rfl (hS.rdM hMf_0) rfl rfl ?_
 refine gb0 [3] [(3, vI ((mget mf_0 x0).getD 0))] ?_
 refine gn hK2 ?_
 subst h
 exact we_ret (pr0 [.tmp 3] [vI ((mget mf_0 x0).getD 0)] ⟨rfl, hS⟩)

/-! (*punctual/punctualref.Image).closes -/
abbrev punctualref_Image_closes.Post (w0 : World) (r : Int) (e : Ending) (w : World) : Prop := e = .returned (vI r) ∧ St w0 w []
def punctualref_Image_closes.r0 (lq_0_1 : List Sregion) (x1 : Int) : Nat → Option (Nat ⊕ (Unit ⊕ Int))
 | i1 =>
  if (i1 : Int) < (lq_0_1.length : Int) then
   match lq_0_1[i1]? with
   | none => none
   | some e1 =>
    if e1.open_ = x1 then
     some (.inr (.inr e1.close))
    else
     some (.inl (i1 + 1))
  else
   some (.inr (.inl ()))
def punctualref_Image_closes.f (K : Nat) (lq_0_0 : List SIns) (lq_0_1 : List Sregion) (x1 : Int) : Option Int :=
 match iter (punctualref_Image_closes.r0 lq_0_1 x1) K 0 with
 | none => none
 | some (.inl _) =>
  some (-1)
 | some (.inr rr1) =>
  some rr1
abbrev punctualref_Image_closes.A0 (w0 : World) (lq_0_1 : List Sregion) (Aq_0_1 : Option Addr) (cq_0_1 : Nat) (x1 : Int) : Nat → Act → World → Prop := fun (s : Nat) a w => St w0 w [] ∧ Frm 23 a [(1, vI x1), (10, .slice Aq_0_1 lq_0_1.length cq_0_1), (11, vI (lq_0_1.length : Int)), (12, vI (s : Int))]
abbrev punctualref_Image_closes.B0 (w0 : World) : (Unit ⊕ Int) → Exit → Act → World → Prop := Exits 0 (fun (s : Unit) a w => St w0 w [] ∧ Frm 23 a []) (Rets Tryd.prog Tryd.f56 (punctualref_Image_closes.Post w0))
theorem punctualref_Image_closes_r0 (K : Nat) (w0 : World) (bq_0 : Nat) (lq_0_0 : List SIns) (Aq_0_0 : Option Addr) (cq_0_0 : Nat) (lq_0_1 : List Sregion) (Aq_0_1 : Option Addr) (cq_0_1 : Nat) (x1 : Int) (hRq_0_0 : RdL w0 Aq_0_0 lq_0_0) (hLq_0_0 : lq_0_0.length ≤ cq_0_0) (hRq_0_1 : RdL w0 Aq_0_1 lq_0_1) (hLq_0_1 : lq_0_1.length ≤ cq_0_1) (hBq_0 : Glob w0 bq_0 [.slice Aq_0_0 lq_0_0.length cq_0_0, .slice Aq_0_1 lq_0_1.length cq_0_1]) (s : Nat) (o : Nat ⊕ (Unit ⊕ Int)) (h : punctualref_Image_closes.r0 lq_0_1 x1 s = some o) (a : Act) (w : World) (hA : punctualref_Image_closes.A0 w0 lq_0_1 Aq_0_1 cq_0_1 x1 s a w) (Q : Exit → Act → World → Prop) (hQ : ∀ x a w, Outs (punctualref_Image_closes.A0 w0 lq_0_1 Aq_0_1 cq_0_1 x1) (punctualref_Image_closes.B0 w0) o x a w → Q x a w) : (subF Tryd.f56 [1, 0, 1, 0, 0]).wp Tryd.prog Q a w := by
 obtain ⟨i1, hs⟩ : ∃ z, z = s := ⟨s, rfl⟩
 subst hs
 obtain ⟨hS, hF⟩ := hA
 replace hS : St w0 w [] := hS
 simp only [punctualref_Image_closes.r0] at h
 refine (?_ : WE Tryd.prog 23 (subF Tryd.f56 [1, 0, 1, 0, 0]) Q [(1, vI x1), (10, .slice Aq_0_1 lq_0_1.length cq_0_1), (11, vI (lq_0_1.length : Int)), (12, vI (i1 : Int))] w) a hF
 clear hF a
 refine ws fun K4 hK4 => ?_
 refine wr [(0, 0)] ?_
 refine gb0 [0] [(13, .bool (decide ((i1 : Int) < (lq_0_1.length : Int))))] ?_
 refine gn hK4 ?_
 refine ws fun K5 hK5 => ?_
 by_cases hc1 : (i1 : Int) < (lq_0_1.length : Int)
 ·rw [if_pos hc1] at h
  refine wk 13 (decide ((i1 : Int) < (lq_0_1.length : Int))) true (decide_eq_true hc1) ?_
  refine we_true (by kernel_rfl) ?_
  refine we_skip fun a hF => hK5 _ _ ?_ a hF
  refine ws fun K6 hK6 => ?_
  refine we_block ?_
  refine ws fun K7 hK7 => ?_
  refine wr [(0, 0), (1, 0), (2, 1), (3, 2)] ?_
  rcases hx1 : lq_0_1[i1]? with _ | e1
  ·rw [hx1] at h; cases h
  rw [hx1] at h
  simp only [] at h
  refine gi 14 0 68 74 2 lq_0_1.length cq_0_1 (.tmp 10) (.tmp 12) Aq_0_1 .i64 (i1 : Int) i1 ((hS.rd hRq_0_1).eqSome (pos_of_get hx1)) rfl (lt_of_get hx1) ?_
  refine gb [1] [(15, .agg #[vI e1.open_, vI e1.close])] [.loaded ⟨blkOf Aq_0_1, offOf Aq_0_1 + i1 * 2, none⟩ (vI e1.open_), .loaded ⟨blkOf Aq_0_1, offOf Aq_0_1 + i1 * 2 + 1, none⟩ (vI e1.close)] ⟨RdL.cell (j := 0) (hS.rd hRq_0_1) hx1 rfl, RdL.cell (j := 1) (hS.rd hRq_0_1) hx1 rfl, trivial⟩ ?_
  refine gw (some 6) (.cells #[vI 0, vI 0] 74) (fun b => pP b 0) hS fun b1 w1 hx2 hS1 => ?_
  refine gs b1 0 #[vI 0, vI 0] 74 [vI e1.open_, vI e1.close] hS1 fun w2 hS2 => ?_
  have hS3 : St w0 w2 [Own.blk b1 (.cells #[vI e1.open_, vI e1.close] 74 (0, 0))] := hS2
  refine gn hK7 ?_
  refine ws fun K8 hK8 => ?_
  refine wr [(0, 0), (1, 0), (2, 0), (3, 0)] ?_
  refine gb [0, 1, 2, 3] [(19, .bool (e1.open_ == x1)), (18, vI x1), (17, vI e1.open_), (16, pP b1 0)] [.loaded ⟨b1, 0, none⟩ (vI e1.open_)] ⟨hS3.c 0, trivial⟩ ?_
  refine gn hK8 ?_
  by_cases hc2 : e1.open_ = x1
  ·rw [if_pos hc2] at h
   refine wk 19 (e1.open_ == x1) true (beq_iff_eq.2 hc2) ?_
   refine we_true (by kernel_rfl) ?_
   refine ws fun K9 hK9 => ?_
   refine wr [(0, 0), (1, 0), (2, 0)] ?_
   refine gb [0, 1, 2] [(4, vI e1.close), (21, vI e1.close), (20, pP b1 1)] [.loaded ⟨b1, 1, none⟩ (vI e1.close)] ⟨hS3.c 0, trivial⟩ ?_
   refine gn hK9 ?_
   have hS4 := hS3.takeN 0
   obtain rfl := si h
   exact we_ret fun a hF => hQ _ _ _ (Outs.out nofun (Exits.on ⟨rfl, (pr0 [.tmp 4] [vI e1.close] ⟨rfl, hS4⟩) a hF⟩))
  ·rw [if_neg hc2] at h
   refine wk 19 (e1.open_ == x1) false (beq_eq_false_iff_ne.2 hc2) ?_
   refine we_false (by kernel_rfl) ?_
   refine we_skip fun a hF => hK6 _ _ ?_ a hF
   refine wr [(0, 0), (1, 0)] ?_
   refine ge_addn (d := 22) (ty := 3) (x := (.tmp 12)) (y := (.const (vI 1))) (t := 3) (t2 := 3) (k := .i64) (m := i1) (by kernel_rfl) (by kernel_rfl) (by kernel_rfl) (by have h0 := hRq_0_1.small; omega) ?_
   refine gb0 [1] [(12, vI ((i1 + 1 : Nat) : Int))] ?_
   have hS5 := hS3.takeN 0
   obtain rfl := si h
   exact ge_nil fun a hF => hQ _ _ _ (Outs.again ⟨hS5, hF.weaken ea⟩)
 ·rw [if_neg hc1] at h
  refine wk 13 (decide ((i1 : Int) < (lq_0_1.length : Int))) false (decide_eq_false hc1) ?_
  refine we_false (by kernel_rfl) ?_
  obtain rfl := si h
  exact we_exit fun a hF => hQ _ _ _ (Outs.out nofun (Exits.here ⟨hS, hF.weaken trivial⟩))
theorem punctualref_Image_closes_ok (K : Nat) (bq_0 : Nat) (lq_0_0 : List SIns) (Aq_0_0 : Option Addr) (cq_0_0 : Nat) (lq_0_1 : List Sregion) (Aq_0_1 : Option Addr) (cq_0_1 : Nat) (x1 : Int) (w0 : World) (hRq_0_0 : RdL w0 Aq_0_0 lq_0_0) (hLq_0_0 : lq_0_0.length ≤ cq_0_0) (hRq_0_1 : RdL w0 Aq_0_1 lq_0_1) (hLq_0_1 : lq_0_1.length ≤ cq_0_1) (hBq_0 : Glob w0 bq_0 [.slice Aq_0_0 lq_0_0.length cq_0_0, .slice Aq_0_1 lq_0_1.length cq_0_1]) (r : Int) (h : punctualref_Image_closes.f K lq_0_0 lq_0_1 x1 = some r) :
  Calls Tryd.prog 56 #[pP bq_0 0, vI x1] w0 (punctualref_Image_closes.Post w0 r) := by
 have hS := St.start w0
 unfold punctualref_Image_closes.f at h
 refine calls_enter (n := 23) (args := [pP bq_0 0, vI x1]) (fn := Tryd.f56) rfl rfl rfl rfl ?_
 show WE _ _ _ _ [(0, pP bq_0 0), (1, vI x1)] _
 refine ws fun K1 hK1 => ?_
 refine wr [(0, 0)] ?_
 refine gb0 [0] [(4, vI 0)] ?_
 refine gn hK1 ?_
 refine ws fun K2 hK2 => ?_
 refine ws fun K3 hK3 => ?_
 refine wr [(0, 0), (1, 0), (2, 0), (3, 0), (4, 0), (5, 0)] ?_
 refine gb [0, 1, 2, 3, 4, 5] [(12, vI 0), (11, vI (lq_0_1.length : Int)), (10, .slice Aq_0_1 lq_0_1.length cq_0_1), (9, pP bq_0 1), (8, pP bq_0 0), (7, pP bq_0 0)] [.loaded ⟨bq_0, 1, none⟩ (.slice Aq_0_1 lq_0_1.length cq_0_1)] ⟨hS.glob hBq_0 rfl, trivial⟩ ?_
 refine gn hK3 ?_
 refine we_block ?_
 rcases hq1 : iter (punctualref_Image_closes.r0 lq_0_1 x1) K 0 with _ | (_ | rr1)
 ·rw [hq1] at h; cases h
 ·rw [hq1] at h
  simp only [] at h
  refine we_iter (A := punctualref_Image_closes.A0 w0 lq_0_1 Aq_0_1 cq_0_1 x1) (B := punctualref_Image_closes.B0 w0) hq1 (fun a hF => ⟨hS, hF.weaken ea⟩) (fun s o hf a w hA Q hQ => punctualref_Image_closes_r0 K w0 bq_0 lq_0_0 Aq_0_0 cq_0_0 lq_0_1 Aq_0_1 cq_0_1 x1 hRq_0_0 hLq_0_0 hRq_0_1 hLq_0_1 hBq_0 s o hf a w hA Q hQ) ?_
  rintro _ a w3 _ ⟨rfl, hS6, hF⟩
  replace hS6 : St w0 w3 [] := hS6
  refine hK2 [] w3 ?_ a hF
  refine ws fun K10 hK10 => ?_
  refine wr [(0, 0)] ?_
  refine gb0 [0] [(4, vI (-1))] ?_
  refine gn hK10 ?_
  obtain rfl := si h
  exact we_ret (pr0 [.tmp 4] [vI (-1)] ⟨rfl, hS6⟩)
 ·rw [hq1] at h
  simp only [] at h
  refine we_iter (A := punctualref_Image_closes.A0 w0 lq_0_1 Aq_0_1 cq_0_1 x1) (B := punctualref_Image_closes.B0 w0) hq1 (fun a hF => ⟨hS, hF.weaken ea⟩) (fun s o hf a w hA Q hQ => punctualref_Image_closes_r0 K w0 bq_0 lq_0_0 Aq_0_0 cq_0_0 lq_0_1 Aq_0_1 cq_0_1 x1 hRq_0_0 hLq_0_0 hRq_0_1 hLq_0_1 hBq_0 s o hf a w hA Q hQ) ?_
  rintro _ a w1 _ ⟨rfl, hb⟩
  obtain rfl := si h
  exact hb

/-! punctual/punctualref.Ticks -/
abbrev punctualref_Ticks.Post (w0 : World) (r : Int) (e : Ending) (w : World) : Prop := e = .returned (vI r) ∧ St w0 w []
def punctualref_Ticks.f (x0 : SIns) (x1 : Bool) : Int :=
 if x0.Op = 6 then
  3
 else
  if x0.Op = 9 then
   2
  else
   if x0.Op = 10 then
    2
   else
    if x0.Op = 11 then
     2
    else
     if x1 = true then
      if x0.Op = 12 then
       2
      else
       if x0.Op = 14 then
        2
       else
        if x0.Op = 18 then
         x0.A
        else
         1
     else
      if x0.Op = 18 then
       x0.A
      else
       1
theorem punctualref_Ticks_ok (x0 : SIns) (x1 : Bool) (w0 : World) (r : Int) (h : punctualref_Ticks.f x0 x1 = r) :
  Calls Tryd.prog 57 #[.agg #[vI x0.Op, vI x0.A, vI x0.B], .bool x1] w0 (punctualref_Ticks.Post w0 r) := by
 have hS := St.start w0
 unfold punctualref_Ticks.f at h
 refine calls_enter (n := 42) (args := [.agg #[vI x0.Op, vI x0.A, vI x0.B], .bool x1]) (fn := Tryd.f57) rfl rfl rfl rfl ?_
 show WE _ _ _ _ [(0, .agg #[vI x0.Op, vI x0.A, vI x0.B]), (1, .bool x1)] _
 refine ws fun K1 hK1 => ?_
 refine wr [(0, 1), (1, 0)] ?_
 refine gw (some 2) (.cells #[vI x0.Op, vI x0.A, vI x0.B] 29) (fun b => pP b 0) hS fun b1 w1 hx1 hS1 => ?_
 refine gb0 [1] [(4, vI 0)] ?_
 refine gn hK1 ?_
 refine ws fun K2 hK2 => ?_
 refine we_block ?_
 refine ws fun K3 hK3 => ?_
 refine wr [(0, 0), (1, 0), (2, 0), (3, 0)] ?_
 refine gb [0, 1, 2, 3] [(5, .bool (x0.Op == 6)), (8, .bool (x0.Op == 6)), (7, vI x0.Op), (6, pP b1 0)] [.loaded ⟨b1, 0, none⟩ (vI x0.Op)] ⟨hS1.c 0, trivial⟩ ?_
 refine gn hK3 ?_
 by_cases hc1 : x0.Op = 6
 ·rw [if_pos hc1] at h
  refine wk 5 (x0.Op == 6) true (beq_iff_eq.2 hc1) ?_
  refine we_true (by kernel_rfl) ?_
  refine ws fun K4 hK4 => ?_
  refine wr [(0, 0)] ?_
  refine gb0 [0] [(4, vI 3)] ?_
  refine gn hK4 ?_
  have hS2 := hS1.takeN 0
  subst h
  exact we_ret (pr0 [.tmp 4] [vI 3] ⟨rfl, hS2⟩)
 ·rw [if_neg hc1] at h
  refine wk 5 (x0.Op == 6) false (beq_eq_false_iff_ne.2 hc1) ?_
  refine we_false (by kernel_rfl) ?_
  refine ws fun K5 hK5 => ?_
  refine wr [(0, 0), (1, 0), (2, 0), (3, 0), (4, 0), (5, 0), (6, 0), (7, 0), (8, 0), (9, 0), (10, 0), (11, 0), (12, 0), (13, 0), (14, 0), (15, 0), (16, 0), (17, 0), (18, 0), (19, 0), (20, 0), (21, 0), (22, 0), (23, 0), (24, 0), (25, 0), (26, 0)] ?_
  refine gb [0, 1, 2, 3] [(13, .bool (x0.Op == 9)), (12, .bool (x0.Op == 9)), (11, vI x0.Op), (10, pP b1 0)] [.loaded ⟨b1, 0, none⟩ (vI x0.Op)] ⟨hS1.c 0, trivial⟩ ?_
  by_cases hc2 : x0.Op = 9
  ·rw [if_pos hc2] at h
   refine gk 13 (x0.Op == 9) true (beq_iff_eq.2 hc2) ?_
   refine gb0 [4, 5, 6, 7, 8, 9, 10, 11, 12, 13, 14, 15, 16, 17, 18, 19, 20, 21, 22, 23, 24, 25, 26] [(9, .bool true), (35, .bool true), (34, undef), (33, undef), (32, undef), (31, undef), (30, undef), (29, undef), (28, undef), (27, undef), (26, undef), (25, undef), (24, undef), (23, .bool true), (22, .bool true), (21, undef), (20, undef), (19, undef), (18, .bool true), (17, .bool true), (16, undef), (15, undef), (14, undef)] ?_
   refine gn hK5 ?_
   refine we_true (by kernel_rfl) ?_
   refine ws fun K6 hK6 => ?_
   refine wr [(0, 0)] ?_
   refine gb0 [0] [(4, vI 2)] ?_
   refine gn hK6 ?_
   have hS3 := hS1.takeN 0
   subst h
   exact we_ret (pr0 [.tmp 4] [vI 2] ⟨rfl, hS3⟩)
  ·rw [if_neg hc2] at h
   refine gk 13 (x0.Op == 9) false (beq_eq_false_iff_ne.2 hc2) ?_
   refine gb [4, 5, 6, 7, 8] [(18, .bool (x0.Op == 10)), (17, .bool (x0.Op == 10)), (16, .bool (x0.Op == 10)), (15, vI x0.Op), (14, pP b1 0)] [.loaded ⟨b1, 0, none⟩ (vI x0.Op)] ⟨hS1.c 0, trivial⟩ ?_
   by_cases hc3 : x0.Op = 10
   ·rw [if_pos hc3] at h
    refine gk 18 (x0.Op == 10) true (beq_iff_eq.2 hc3) ?_
    refine gb0 [9, 10, 11, 12, 13, 14, 15, 16, 17, 18, 19, 20, 21, 22, 23, 24, 25, 26] [(9, .bool true), (35, .bool true), (34, undef), (33, undef), (32, undef), (31, undef), (30, undef), (29, undef), (28, undef), (27, undef), (26, undef), (25, undef), (24, undef), (23, .bool true), (22, .bool true), (21, undef), (20, undef), (19, undef)] ?_
    refine gn hK5 ?_
    refine we_true (by kernel_rfl) ?_
    refine ws fun K7 hK7 => ?_
    refine wr [(0, 0)] ?_
    refine gb0 [0] [(4, vI 2)] ?_
    refine gn hK7 ?_
    have hS4 := hS1.takeN 0
    subst h
    exact we_ret (pr0 [.tmp 4] [vI 2] ⟨rfl, hS4⟩)
   ·rw [if_neg hc3] at h
    refine gk 18 (x0.Op == 10) false (beq_eq_false_iff_ne.2 hc3) ?_
    refine gb [9, 10, 11, 12, 13] [(23, .bool (x0.Op == 11)), (22, .bool (x0.Op == 11)), (21, .bool (x0.Op == 11)), (20, vI x0.Op), (19, pP b1 0)] [.loaded ⟨b1, 0, none⟩ (vI x0.Op)] ⟨hS1.c 0, trivial⟩ ?_
    by_cases hc4 : x0.Op = 11
    ·rw [if_pos hc4] at h
     refine gk 23 (x0.Op == 11) true (beq_iff_eq.2 hc4) ?_
     refine gb0 [14, 15, 16, 17, 18, 19, 20, 21, 22, 23, 24, 25, 26] [(9, .bool true), (35, .bool true), (34, undef), (33, undef), (32, undef), (31, undef), (30, undef), (29, undef), (28, undef), (27, undef), (26, undef), (25, undef), (24, undef)] ?_
     refine gn hK5 ?_
     refine we_true (by kernel_rfl) ?_
     refine ws fun K8 hK8 => ?_
     refine wr [(0, 0)] ?_
     refine gb0 [0] [(4, vI 2)] ?_
     refine gn hK8 ?_
     have hS5 := hS1.takeN 0
     subst h
     exact we_ret (pr0 [.tmp 4] [vI 2] ⟨rfl, hS5⟩)
    ·rw [if_neg hc4] at h
     refine gk 23 (x0.Op == 11) false (beq_eq_false_iff_ne.2 hc4) ?_
     refine gb0 [14, 15] [(25, .bool x1), (24, .bool x1)] ?_
     by_cases hc5 : x1 = true
     ·rw [if_pos hc5] at h
      refine gk 25 x1 true hc5 ?_
      refine gb [16, 17, 18, 19] [(29, .bool (x0.Op == 12)), (28, .bool (x0.Op == 12)), (27, vI x0.Op), (26, pP b1 0)] [.loaded ⟨b1, 0, none⟩ (vI x0.Op)] ⟨hS1.c 0, trivial⟩ ?_
      by_cases hc6 : x0.Op = 12
      ·rw [if_pos hc6] at h
       refine gk 29 (x0.Op == 12) true (beq_iff_eq.2 hc6) ?_
       refine gb0 [20, 21, 22, 23, 24, 25, 26] [(9, .bool true), (35, .bool true), (34, .bool true), (33, .bool true), (32, undef), (31, undef), (30, undef)] ?_
       refine gn hK5 ?_
       refine we_true (by kernel_rfl) ?_
       refine ws fun K9 hK9 => ?_
       refine wr [(0, 0)] ?_
       refine gb0 [0] [(4, vI 2)] ?_
       refine gn hK9 ?_
       have hS6 := hS1.takeN 0
       subst h
       exact we_ret (pr0 [.tmp 4] [vI 2] ⟨rfl, hS6⟩)
      ·rw [if_neg hc6] at h
       refine gk 29 (x0.Op == 12) false (beq_eq_false_iff_ne.2 hc6) ?_
       refine gb [20, 21, 22, 23, 24, 25, 26] [(9, .bool (x0.Op == 14)), (35, .bool (x0.Op == 14)), (34, .bool (x0.Op == 14)), (33, .bool (x0.Op == 14)), (32, .bool (x0.Op == 14)), (31, vI x0.Op), (30, pP b1 0)] [.loaded ⟨b1, 0, none⟩ (vI x0.Op)] ⟨hS1.c 0, trivial⟩ ?_
       refine gn hK5 ?_
       by_cases hc7 : x0.Op = 14
       ·rw [if_pos hc7] at h
        refine wk 9 (x0.Op == 14) true (beq_iff_eq.2 hc7) ?_
        refine we_true (by kernel_rfl) ?_
        refine ws fun K10 hK10 => ?_
        refine wr [(0, 0)] ?_
        refine gb0 [0] [(4, vI 2)] ?_
        refine gn hK10 ?_
        have hS7 := hS1.takeN 0
        subst h
        exact we_ret (pr0 [.tmp 4] [vI 2] ⟨rfl, hS7⟩)
       ·rw [if_neg hc7] at h
        refine wk 9 (x0.Op == 14) false (beq_eq_false_iff_ne.2 hc7) ?_
        refine we_false (by kernel_rfl) ?_
        refine ws fun K11 hK11 => ?_
        refine wr [(0, 0), (1, 0), (2, 0), (3, 0)] ?_
        refine gb [0, 1, 2, 3] [(36, .bool (x0.Op == 18)), (39, .bool (x0.Op == 18)), (38, vI x0.Op), (37, pP b1 0)] [.loaded ⟨b1, 0, none⟩ (vI x0.Op)] ⟨hS1.c 0, trivial⟩ ?_
        refine gn hK11 ?_
        by_cases hc8 : x0.Op = 18
        ·rw [if_pos hc8] at h
         refine wk 36 (x0.Op == 18) true (beq_iff_eq.2 hc8) ?_
         refine we_true (by kernel_rfl) ?_
         refine ws fun K12 hK12 => ?_
         refine wr [(0, 0), (1, 0), (2, 0)] ?_
         refine gb [0, 1, 2] [(4, vI x0.A), (41, vI x0.A), (40, pP b1 1)] [.loaded ⟨b1, 1, none⟩ (vI x0.A)] ⟨hS1.c 0, trivial⟩ ?_
         refine gn hK12 ?_
         have hS8 := hS1.takeN 0
         subst h
         exact we_ret (pr0 [.tmp 4] [vI x0.A] ⟨rfl, hS8⟩)
        ·rw [if_neg hc8] at h
         refine wk 36 (x0.Op == 18) false (beq_eq_false_iff_ne.2 hc8) ?_
         refine we_false (by kernel_rfl) ?_
         refine we_skip fun a hF => hK2 _ _ ?_ a hF
         refine ws fun K13 hK13 => ?_
         refine wr [(0, 0)] ?_
         refine gb0 [0] [(4, vI 1)] ?_
         refine gn hK13 ?_
         have hS9 := hS1.takeN 0
         subst h
         exact we_ret (pr0 [.tmp 4] [vI 1] ⟨rfl, hS9⟩)
     ·rw [if_neg hc5] at h
      refine gk 25 x1 false (Bool.eq_false_iff.2 hc5) ?_
      refine gb0 [16, 17, 18, 19, 20, 21, 22, 23, 24, 25, 26] [(9, .bool false), (35, .bool false), (34, .bool false), (33, undef), (32, undef), (31, undef), (30, undef), (29, undef), (28, undef), (27, undef), (26, undef)] ?_
      refine gn hK5 ?_
      refine we_false (by kernel_rfl) ?_
      refine ws fun K14 hK14 => ?_
      refine wr [(0, 0), (1, 0), (2, 0), (3, 0)] ?_
      refine gb [0, 1, 2, 3] [(36, .bool (x0.Op == 18)), (39, .bool (x0.Op == 18)), (38, vI x0.Op), (37, pP b1 0)] [.loaded ⟨b1, 0, none⟩ (vI x0.Op)] ⟨hS1.c 0, trivial⟩ ?_
      refine gn hK14 ?_
      by_cases hc9 : x0.Op = 18
      ·rw [if_pos hc9] at h
       refine wk 36 (x0.Op == 18) true (beq_iff_eq.2 hc9) ?_
       refine we_true (by kernel_rfl) ?_
       refine ws fun K15 hK15 => ?_
       refine wr [(0, 0), (1, 0), (2, 0)] ?_
       refine gb [0, 1, 2] [(4, vI x0.A), (41, vI x0.A), (40, pP b1 1)] [.loaded ⟨b1, 1, none⟩ (vI x0.A)] ⟨hS1.c 0, trivial⟩ ?_
       refine gn hK15 ?_
       have hS10 := hS1.takeN 0
       subst h
       exact we_ret (pr0 [.tmp 4] [vI x0.A] ⟨rfl, hS10⟩)
      ·rw [if_neg hc9] at h
       refine wk 36 (x0.Op == 18) false (beq_eq_false_iff_ne.2 hc9) ?_
       refine we_false (by kernel_rfl) ?_
       refine we_skip fun a hF => hK2 _ _ ?_ a hF
       refine ws fun K16 hK16 => ?_
       refine wr [(0, 0)] ?_
       refine gb0 [0] [(4, vI 1)] ?_
       refine gn hK16 ?_
       have hS11 := hS1.takeN 0
       subst h
       exact we_ret (pr0 [.tmp 4] [vI 1] ⟨rfl, hS11⟩)

/-! (*punctual/punctualref.Image).Left -/
abbrev punctualref_Image_Left.Post (w0 : World) (r : Int) (e : Ending) (w : World) : Prop := e = .returned (vI r) ∧ St w0 w []
def punctualref_Image_Left.f (K : Nat) (lq_0_0 : List SIns) (lq_0_1 : List Sregion) (x1 : Int) (mg2_0 : List (Int × Int)) : Option Int :=
 if 0 ≤ x1 then
  match lq_0_0[(x1).toNat]? with
  | none => none
  | some e1 =>
   if e1.Op = 14 then
    some 0
   else
    if e1.Op = 17 then
     some 1
    else
     if e1.Op = 11 then
      some (IntKind.i64.wrap (2 + (punctualref_Worst_1.f e1.A mg2_0)))
     else
      if e1.Op = 12 then
       if (IntKind.i64.wrap (2 + (punctualref_Worst_1.f e1.A mg2_0))) > (IntKind.i64.wrap (1 + (punctualref_Worst_1.f (IntKind.i64.wrap (x1 + 1)) mg2_0))) then
        some (IntKind.i64.wrap (2 + (punctualref_Worst_1.f e1.A mg2_0)))
       else
        some (IntKind.i64.wrap (1 + (punctualref_Worst_1.f (IntKind.i64.wrap (x1 + 1)) mg2_0)))
      else
       if e1.Op = 13 then
        match punctualref_Image_closes.f K lq_0_0 lq_0_1 x1 with
        | none => none
        | some r1 =>
         some (IntKind.i64.wrap ((IntKind.i64.wrap ((IntKind.i64.wrap ((IntKind.i64.wrap (1 + (IntKind.i64.wrap ((IntKind.i64.wrap (e1.B + 1)) * (punctualref_Worst_1.f (IntKind.i64.wrap (x1 + 1)) mg2_0))))) + (IntKind.i64.wrap (2 * e1.B)))) + 1)) + (punctualref_Worst_1.f (IntKind.i64.wrap (r1 + 1)) mg2_0)))
       else
        if e1.Op = 16 then
         match punctualref_Image_closes.f K lq_0_0 lq_0_1 x1 with
         | none => none
         | some r2 =>
          some (IntKind.i64.wrap ((IntKind.i64.wrap (1 + (punctualref_Worst_1.f (IntKind.i64.wrap (x1 + 1)) mg2_0))) + (punctualref_Worst_1.f (IntKind.i64.wrap (r2 + 1)) mg2_0)))
        else
         some (IntKind.i64.wrap ((punctualref_Ticks.f e1 false) + (punctualref_Worst_1.f (IntKind.i64.wrap (x1 + 1)) mg2_0)))
 else
  none
theorem punctualref_Image_Left_ok (K : Nat) (bq_0 : Nat) (lq_0_0 : List SIns) (Aq_0_0 : Option Addr) (cq_0_0 : Nat) (lq_0_1 : List Sregion) (Aq_0_1 : Option Addr) (cq_0_1 : Nat) (x1 : Int) (bg2_0 : Nat) (mg2_0 : List (Int × Int)) (mbg2_0 : Option Nat) (w0 : World) (hRq_0_0 : RdL w0 Aq_0_0 lq_0_0) (hLq_0_0 : lq_0_0.length ≤ cq_0_0) (hRq_0_1 : RdL w0 Aq_0_1 lq_0_1) (hLq_0_1 : lq_0_1.length ≤ cq_0_1) (hBq_0 : Glob w0 bq_0 [.slice Aq_0_0 lq_0_0.length cq_0_0, .slice Aq_0_1 lq_0_1.length cq_0_1]) (hMg2_0 : RdM w0 mbg2_0 mg2_0) (hBg2_0 : Glob w0 bg2_0 [.map mbg2_0]) (r : Int) (h : punctualref_Image_Left.f K lq_0_0 lq_0_1 x1 mg2_0 = some r) :
  Calls Tryd.prog 38 #[pP bq_0 0, vI x1, .func (.func 39) #[] #[pP bg2_0 0]] w0 (punctualref_Image_Left.Post w0 r) := by
 have hS := St.start w0
 unfold punctualref_Image_Left.f at h
 refine calls_enter (n := 83) (args := [pP bq_0 0, vI x1, .func (.func 39) #[] #[pP bg2_0 0]]) (fn := Tryd.f38) rfl rfl rfl rfl ?_
 show WE _ _ _ _ [(0, pP bq_0 0), (1, vI x1), (2, .func (.func 39) #[] #[pP bg2_0 0])] _
 refine ws fun K1 hK1 => ?_
 refine wr [(0, 0)] ?_
 refine gb0 [0] [(6, vI 0)] ?_
 refine gn hK1 ?_
 refine ws fun K2 hK2 => ?_
 refine wr [(0, 0), (1, 0), (2, 0), (3, 0), (4, 0), (5, 0), (6, 0), (7, 1), (8, 2)] ?_
 refine gb [0, 1, 2, 3, 4] [(14, vI x1), (13, .slice Aq_0_0 lq_0_0.length cq_0_0), (12, pP bq_0 0), (11, pP bq_0 0), (10, pP bq_0 0)] [.loaded ⟨bq_0, 0, none⟩ (.slice Aq_0_0 lq_0_0.length cq_0_0)] ⟨hS.glob hBq_0 rfl, trivial⟩ ?_
 by_cases hc1 : 0 ≤ x1
 ·rw [if_pos hc1] at h
  rcases hx1 : lq_0_0[(x1).toNat]? with _ | e1
  ·rw [hx1] at h; cases h
  rw [hx1] at h
  simp only [] at h
  refine gi 15 0 22 29 3 lq_0_0.length cq_0_0 (.tmp 13) (.tmp 14) Aq_0_0 .i64 x1 ((x1).toNat) ((hS.rd hRq_0_0).eqSome (pos_of_get hx1)) (Int.toNat_of_nonneg hc1).symm (lt_of_get hx1) ?_
  refine gb [6] [(16, .agg #[vI e1.Op, vI e1.A, vI e1.B])] [.loaded ⟨blkOf Aq_0_0, offOf Aq_0_0 + ((x1).toNat) * 3, none⟩ (vI e1.Op), .loaded ⟨blkOf Aq_0_0, offOf Aq_0_0 + ((x1).toNat) * 3 + 1, none⟩ (vI e1.A), .loaded ⟨blkOf Aq_0_0, offOf Aq_0_0 + ((x1).toNat) * 3 + 2, none⟩ (vI e1.B)] ⟨RdL.cell (j := 0) (hS.rd hRq_0_0) hx1 rfl, RdL.cell (j := 1) (hS.rd hRq_0_0) hx1 rfl, RdL.cell (j := 2) (hS.rd hRq_0_0) hx1 rfl, trivial⟩ ?_
  refine gw (some 7) (.cells #[vI 0, vI 0, vI 0] 29) (fun b => pP b 0) hS fun b1 w1 hx2 hS1 => ?_
  refine gs b1 0 #[vI 0, vI 0, vI 0] 29 [vI e1.Op, vI e1.A, vI e1.B] hS1 fun w2 hS2 => ?_
  have hS3 : St w0 w2 [Own.blk b1 (.cells #[vI e1.Op, vI e1.A, vI e1.B] 29 (0, 0))] := hS2
  refine gn hK2 ?_
  refine ws fun K3 hK3 => ?_
  refine wr [(0, 0), (1, 0), (2, 0), (3, 1), (4, 0)] ?_
  refine gb0 [0, 1, 2] [(19, vI (IntKind.i64.wrap (x1 + 1))), (18, vI x1), (17, .func (.func 39) #[] #[pP bg2_0 0])] ?_
  refine ge_call (d := some 20) (f := 39) (args := #[vI (IntKind.i64.wrap (x1 + 1)), pP bg2_0 0]) (by kernel_rfl) (punctualref_Worst_1_ok (IntKind.i64.wrap (x1 + 1)) bg2_0 mg2_0 mbg2_0 _ (hS3.rdM hMg2_0) (Glob.ext hBg2_0 hS3.below) _ rfl) ?_
  rintro _ w3 ⟨rfl, hS4⟩
  refine ⟨_, rfl, hS4.below, ?_⟩
  have hS5 := hS3.call hS4
  refine gb0 [4] [(8, vI (punctualref_Worst_1.f (IntKind.i64.wrap (x1 + 1)) mg2_0))] ?_
  refine gn hK3 ?_
  refine ws fun K4 hK4 => ?_
  refine ws fun K5 hK5 => ?_
  refine wr [(0, 0), (1, 0)] ?_
  refine gb [0, 1] [(22, vI e1.Op), (21, pP b1 0)] [.loaded ⟨b1, 0, none⟩ (vI e1.Op)] ⟨hS5.c 0, trivial⟩ ?_
  refine gn hK5 ?_
  refine we_block ?_
  refine ws fun K6 hK6 => ?_
  refine wr [(0, 0), (1, 0)] ?_
  refine gb0 [0, 1] [(23, .bool (e1.Op == 14)), (24, .bool (e1.Op == 14))] ?_
  refine gn hK6 ?_
  by_cases hc2 : e1.Op = 14
  ·rw [if_pos hc2] at h
   refine wk 23 (e1.Op == 14) true (beq_iff_eq.2 hc2) ?_
   refine we_true (by kernel_rfl) ?_
   refine ws fun K7 hK7 => ?_
   refine wr [(0, 0)] ?_
   refine gb0 [0] [(6, vI 0)] ?_
   refine gn hK7 ?_
   have hS6 := hS5.takeN 0
   obtain rfl := si h
   exact we_ret (pr0 [.tmp 6] [vI 0] ⟨rfl, hS6⟩)
  ·rw [if_neg hc2] at h
   refine wk 23 (e1.Op == 14) false (beq_eq_false_iff_ne.2 hc2) ?_
   refine we_false (by kernel_rfl) ?_
   refine ws fun K8 hK8 => ?_
   refine wr [(0, 0), (1, 0)] ?_
   refine gb0 [0, 1] [(25, .bool (e1.Op == 17)), (26, .bool (e1.Op == 17))] ?_
   refine gn hK8 ?_
   by_cases hc3 : e1.Op = 17
   ·rw [if_pos hc3] at h
    refine wk 25 (e1.Op == 17) true (beq_iff_eq.2 hc3) ?_
    refine we_true (by kernel_rfl) ?_
    refine ws fun K9 hK9 => ?_
    refine wr [(0, 0)] ?_
    refine gb0 [0] [(6, vI 1)] ?_
    refine gn hK9 ?_
    have hS7 := hS5.takeN 0
    obtain rfl := si h
    exact we_ret (pr0 [.tmp 6] [vI 1] ⟨rfl, hS7⟩)
   ·rw [if_neg hc3] at h
    refine wk 25 (e1.Op == 17) false (beq_eq_false_iff_ne.2 hc3) ?_
    refine we_false (by kernel_rfl) ?_
    refine ws fun K10 hK10 => ?_
    refine wr [(0, 0), (1, 0)] ?_
    refine gb0 [0, 1] [(27, .bool (e1.Op == 11)), (28, .bool (e1.Op == 11))] ?_
    refine gn hK10 ?_
    by_cases hc4 : e1.Op = 11
    ·rw [if_pos hc4] at h
     refine wk 27 (e1.Op == 11) true (beq_iff_eq.2 hc4) ?_
     refine we_true (by kernel_rfl) ?_
     refine ws fun K11 hK11 => ?_
     refine wr [(0, 0), (1, 0), (2, 0), (3, 1), (4, 0), (5, 0)] ?_
     refine gb [0, 1, 2] [(31, vI e1.A), (30, pP b1 1), (29, .func (.func 39) #[] #[pP bg2_0 0])] [.loaded ⟨b1, 1, none⟩ (vI e1.A)] ⟨hS5.c 0, trivial⟩ ?_
     refine ge_call (d := some 32) (f := 39) (args := #[vI e1.A, pP bg2_0 0]) (by kernel_rfl) (punctualref_Worst_1_ok e1.A bg2_0 mg2_0 mbg2_0 _ (hS5.rdM hMg2_0) (Glob.ext hBg2_0 hS5.below) _ rfl) ?_
     rintro _ w4 ⟨rfl, hS8⟩
     refine ⟨_, rfl, hS8.below, ?_⟩
     have hS9 := hS5.call hS8
     refine gb0 [4, 5] [(6, vI (IntKind.i64.wrap (2 + (punctualref_Worst_1.f e1.A mg2_0)))), (33, vI (IntKind.i64.wrap (2 + (punctualref_Worst_1.f e1.A mg2_0))))] ?_
     refine gn hK11 ?_
     have hS10 := hS9.takeN 0
     obtain rfl := si h
     exact we_ret (pr0 [.tmp 6] [vI (IntKind.i64.wrap (2 + (punctualref_Worst_1.f e1.A mg2_0)))] ⟨rfl, hS10⟩)
    ·rw [if_neg hc4] at h
     refine wk 27 (e1.Op == 11) false (beq_eq_false_iff_ne.2 hc4) ?_
     refine we_false (by kernel_rfl) ?_
     refine ws fun K12 hK12 => ?_
     refine wr [(0, 0), (1, 0)] ?_
     refine gb0 [0, 1] [(34, .bool (e1.Op == 12)), (35, .bool (e1.Op == 12))] ?_
     refine gn hK12 ?_
     by_cases hc5 : e1.Op = 12
     ·rw [if_pos hc5] at h
      refine wk 34 (e1.Op == 12) true (beq_iff_eq.2 hc5) ?_
      refine we_true (by kernel_rfl) ?_
      refine ws fun K13 hK13 => ?_
      refine ws fun K14 hK14 => ?_
      refine wr [(0, 0), (1, 0), (2, 0), (3, 1), (4, 0), (5, 0)] ?_
      refine gb [0, 1, 2] [(38, vI e1.A), (37, pP b1 1), (36, .func (.func 39) #[] #[pP bg2_0 0])] [.loaded ⟨b1, 1, none⟩ (vI e1.A)] ⟨hS5.c 0, trivial⟩ ?_
      refine ge_call (d := some 39) (f := 39) (args := #[vI e1.A, pP bg2_0 0]) (by kernel_rfl) (punctualref_Worst_1_ok e1.A bg2_0 mg2_0 mbg2_0 _ (hS5.rdM hMg2_0) (Glob.ext hBg2_0 hS5.below) _ rfl) ?_
      rintro _ w5 ⟨rfl, hS11⟩
      refine ⟨_, rfl, hS11.below, ?_⟩
      have hS12 := hS5.call hS11
      refine gb0 [4, 5] [(9, vI (IntKind.i64.wrap (2 + (punctualref_Worst_1.f e1.A mg2_0)))), (40, vI (IntKind.i64.wrap (2 + (punctualref_Worst_1.f e1.A mg2_0))))] ?_
      refine gn hK14 ?_
      refine ws fun K15 hK15 => ?_
      refine wr [(0, 0), (1, 0), (2, 0), (3, 0)] ?_
      refine gb0 [0, 1, 2, 3] [(44, .bool (decide ((IntKind.i64.wrap (2 + (punctualref_Worst_1.f e1.A mg2_0))) > (IntKind.i64.wrap (1 + (punctualref_Worst_1.f (IntKind.i64.wrap (x1 + 1)) mg2_0)))))), (43, vI (IntKind.i64.wrap (1 + (punctualref_Worst_1.f (IntKind.i64.wrap (x1 + 1)) mg2_0)))), (42, vI (punctualref_Worst_1.f (IntKind.i64.wrap (x1 + 1)) mg2_0)), (41, vI (IntKind.i64.wrap (2 + (punctualref_Worst_1.f e1.A mg2_0))))] ?_
      refine gn hK15 ?_
      by_cases hc6 : (IntKind.i64.wrap (2 + (punctualref_Worst_1.f e1.A mg2_0))) > (IntKind.i64.wrap (1 + (punctualref_Worst_1.f (IntKind.i64.wrap (x1 + 1)) mg2_0)))
      ·rw [if_pos hc6] at h
       refine wk 44 (decide ((IntKind.i64.wrap (2 + (punctualref_Worst_1.f e1.A mg2_0))) > (IntKind.i64.wrap (1 + (punctualref_Worst_1.f (IntKind.i64.wrap (x1 + 1)) mg2_0))))) true (decide_eq_true hc6) ?_
       refine we_true (by kernel_rfl) ?_
       refine ws fun K16 hK16 => ?_
       refine wr [(0, 0), (1, 0)] ?_
       refine gb0 [0, 1] [(6, vI (IntKind.i64.wrap (2 + (punctualref_Worst_1.f e1.A mg2_0)))), (45, vI (IntKind.i64.wrap (2 + (punctualref_Worst_1.f e1.A mg2_0))))] ?_
       refine gn hK16 ?_
       have hS13 := hS12.takeN 0
       obtain rfl := si h
       exact we_ret (pr0 [.tmp 6] [vI (IntKind.i64.wrap (2 + (punctualref_Worst_1.f e1.A mg2_0)))] ⟨rfl, hS13⟩)
      ·rw [if_neg hc6] at h
       refine wk 44 (decide ((IntKind.i64.wrap (2 + (punctualref_Worst_1.f e1.A mg2_0))) > (IntKind.i64.wrap (1 + (punctualref_Worst_1.f (IntKind.i64.wrap (x1 + 1)) mg2_0))))) false (decide_eq_false hc6) ?_
       refine we_false (by kernel_rfl) ?_
       refine we_skip fun a hF => hK13 _ _ ?_ a hF
       refine ws fun K17 hK17 => ?_
       refine wr [(0, 0), (1, 0), (2, 0)] ?_
       refine gb0 [0, 1, 2] [(6, vI (IntKind.i64.wrap (1 + (punctualref_Worst_1.f (IntKind.i64.wrap (x1 + 1)) mg2_0)))), (47, vI (IntKind.i64.wrap (1 + (punctualref_Worst_1.f (IntKind.i64.wrap (x1 + 1)) mg2_0)))), (46, vI (punctualref_Worst_1.f (IntKind.i64.wrap (x1 + 1)) mg2_0))] ?_
       refine gn hK17 ?_
       have hS14 := hS12.takeN 0
       obtain rfl := si h
       exact we_ret (pr0 [.tmp 6] [vI (IntKind.i64.wrap (1 + (punctualref_Worst_1.f (IntKind.i64.wrap (x1 + 1)) mg2_0)))] ⟨rfl, hS14⟩)
     ·rw [if_neg hc5] at h
      refine wk 34 (e1.Op == 12) false (beq_eq_false_iff_ne.2 hc5) ?_
      refine we_false (by kernel_rfl) ?_
      refine ws fun K18 hK18 => ?_
      refine wr [(0, 0), (1, 0)] ?_
      refine gb0 [0, 1] [(48, .bool (e1.Op == 13)), (49, .bool (e1.Op == 13))] ?_
      refine gn hK18 ?_
      by_cases hc7 : e1.Op = 13
      ·rw [if_pos hc7] at h
       refine wk 48 (e1.Op == 13) true (beq_iff_eq.2 hc7) ?_
       refine we_true (by kernel_rfl) ?_
       refine ws fun K19 hK19 => ?_
       refine we_draws (by kernel_rfl) [(0, 0), (1, 0), (2, 0), (3, 0), (4, 0), (5, 0), (6, 0), (7, 0), (8, 0), (9, 0), (10, 0), (11, 0), (12, 0), (13, 0), (14, 1), (15, 0), (16, 1), (17, 0), (18, 0)] (by kernel_rfl) ?_
       have hS15 := hS5.drew
       rcases hq4 : punctualref_Image_closes.f K lq_0_0 lq_0_1 x1 with _ | r1
       ·rw [hq4] at h; cases h
       rw [hq4] at h
       simp only [] at h
       refine gb [0, 1, 2, 3, 4, 5, 6, 7, 8, 9, 10, 11, 12, 13] [(63, vI x1), (62, pP bq_0 0), (61, .func (.func 39) #[] #[pP bg2_0 0]), (60, vI (IntKind.i64.wrap ((IntKind.i64.wrap ((IntKind.i64.wrap (1 + (IntKind.i64.wrap ((IntKind.i64.wrap (e1.B + 1)) * (punctualref_Worst_1.f (IntKind.i64.wrap (x1 + 1)) mg2_0))))) + (IntKind.i64.wrap (2 * e1.B)))) + 1))), (59, vI (IntKind.i64.wrap ((IntKind.i64.wrap (1 + (IntKind.i64.wrap ((IntKind.i64.wrap (e1.B + 1)) * (punctualref_Worst_1.f (IntKind.i64.wrap (x1 + 1)) mg2_0))))) + (IntKind.i64.wrap (2 * e1.B))))), (58, vI (IntKind.i64.wrap (2 * e1.B))), (57, vI e1.B), (56, pP b1 2), (55, vI (IntKind.i64.wrap (1 + (IntKind.i64.wrap ((IntKind.i64.wrap (e1.B + 1)) * (punctualref_Worst_1.f (IntKind.i64.wrap (x1 + 1)) mg2_0)))))), (54, vI (IntKind.i64.wrap ((IntKind.i64.wrap (e1.B + 1)) * (punctualref_Worst_1.f (IntKind.i64.wrap (x1 + 1)) mg2_0)))), (53, vI (punctualref_Worst_1.f (IntKind.i64.wrap (x1 + 1)) mg2_0)), (52, vI (IntKind.i64.wrap (e1.B + 1))), (51, vI e1.B), (50, pP b1 2)] [.loaded ⟨b1, 2, none⟩ (vI e1.B), .loaded ⟨b1, 2, none⟩ (vI e1.B)] ⟨hS15.c 0, hS15.c 0, trivial⟩ ?_
       refine ge_call (d := some 64) (f := 56) (args := #[pP bq_0 0, vI x1]) (by kernel_rfl) (punctualref_Image_closes_ok K bq_0 lq_0_0 Aq_0_0 cq_0_0 lq_0_1 Aq_0_1 cq_0_1 x1 _ (hS15.rd hRq_0_0) hLq_0_0 (hS15.rd hRq_0_1) hLq_0_1 (Glob.ext hBq_0 hS15.below) _ hq4) ?_
       rintro _ w6 ⟨rfl, hS16⟩
       refine ⟨_, rfl, hS16.below, ?_⟩
       have hS17 := hS15.call hS16
       refine gb0 [15] [(65, vI (IntKind.i64.wrap (r1 + 1)))] ?_
       refine ge_call (d := some 66) (f := 39) (args := #[vI (IntKind.i64.wrap (r1 + 1)), pP bg2_0 0]) (by kernel_rfl) (punctualref_Worst_1_ok (IntKind.i64.wrap (r1 + 1)) bg2_0 mg2_0 mbg2_0 _ (hS17.rdM hMg2_0) (Glob.ext hBg2_0 hS17.below) _ rfl) ?_
       rintro _ w7 ⟨rfl, hS18⟩
       refine ⟨_, rfl, hS18.below, ?_⟩
       have hS19 := hS17.call hS18
       refine gb0 [17, 18] [(6, vI (IntKind.i64.wrap ((IntKind.i64.wrap ((IntKind.i64.wrap ((IntKind.i64.wrap (1 + (IntKind.i64.wrap ((IntKind.i64.wrap (e1.B + 1)) * (punctualref_Worst_1.f (IntKind.i64.wrap (x1 + 1)) mg2_0))))) + (IntKind.i64.wrap (2 * e1.B)))) + 1)) + (punctualref_Worst_1.f (IntKind.i64.wrap (r1 + 1)) mg2_0)))), (67, vI (IntKind.i64.wrap ((IntKind.i64.wrap ((IntKind.i64.wrap ((IntKind.i64.wrap (1 + (IntKind.i64.wrap ((IntKind.i64.wrap (e1.B + 1)) * (punctualref_Worst_1.f (IntKind.i64.wrap (x1 + 1)) mg2_0))))) + (IntKind.i64.wrap (2 * e1.B)))) + 1)) + (punctualref_Worst_1.f (IntKind.i64.wrap (r1 + 1)) mg2_0))))] ?_
       refine gn hK19 ?_
       have hS20 := hS19.takeN 0
       obtain rfl := si h
       exact we_ret (pr0 [.tmp 6] [vI (IntKind.i64.wrap ((IntKind.i64.wrap ((IntKind.i64.wrap ((IntKind.i64.wrap (1 + (IntKind.i64.wrap ((IntKind.i64.wrap (e1.B + 1)) * (punctualref_Worst_1.f (IntKind.i64.wrap (x1 + 1)) mg2_0))))) + (IntKind.i64.wrap (2 * e1.B)))) + 1)) + (punctualref_Worst_1.f (IntKind.i64.wrap (r1 + 1)) mg2_0)))] ⟨rfl, hS20⟩)
      ·rw [if_neg hc7] at h
       refine wk 48 (e1.Op == 13) false (beq_eq_false_iff_ne.2 hc7) ?_
       refine we_false (by kernel_rfl) ?_
       refine ws fun K20 hK20 => ?_
       refine wr [(0, 0), (1, 0)] ?_
       refine gb0 [0, 1] [(68, .bool (e1.Op == 16)), (69, .bool (e1.Op == 16))] ?_
       refine gn hK20 ?_
       by_cases hc8 : e1.Op = 16
       ·rw [if_pos hc8] at h
        refine wk 68 (e1.Op == 16) true (beq_iff_eq.2 hc8) ?_
        refine we_true (by kernel_rfl) ?_
        refine ws fun K21 hK21 => ?_
        refine wr [(0, 0), (1, 0), (2, 0), (3, 0), (4, 0), (5, 1), (6, 0), (7, 1), (8, 0), (9, 0)] ?_
        rcases hq6 : punctualref_Image_closes.f K lq_0_0 lq_0_1 x1 with _ | r2
        ·rw [hq6] at h; cases h
        rw [hq6] at h
        simp only [] at h
        refine gb0 [0, 1, 2, 3, 4] [(74, vI x1), (73, pP bq_0 0), (72, .func (.func 39) #[] #[pP bg2_0 0]), (71, vI (IntKind.i64.wrap (1 + (punctualref_Worst_1.f (IntKind.i64.wrap (x1 + 1)) mg2_0)))), (70, vI (punctualref_Worst_1.f (IntKind.i64.wrap (x1 + 1)) mg2_0))] ?_
        refine ge_call (d := some 75) (f := 56) (args := #[pP bq_0 0, vI x1]) (by kernel_rfl) (punctualref_Image_closes_ok K bq_0 lq_0_0 Aq_0_0 cq_0_0 lq_0_1 Aq_0_1 cq_0_1 x1 _ (hS5.rd hRq_0_0) hLq_0_0 (hS5.rd hRq_0_1) hLq_0_1 (Glob.ext hBq_0 hS5.below) _ hq6) ?_
        rintro _ w8 ⟨rfl, hS21⟩
        refine ⟨_, rfl, hS21.below, ?_⟩
        have hS22 := hS5.call hS21
        refine gb0 [6] [(76, vI (IntKind.i64.wrap (r2 + 1)))] ?_
        refine ge_call (d := some 77) (f := 39) (args := #[vI (IntKind.i64.wrap (r2 + 1)), pP bg2_0 0]) (by kernel_rfl) (punctualref_Worst_1_ok (IntKind.i64.wrap (r2 + 1)) bg2_0 mg2_0 mbg2_0 _ (hS22.rdM hMg2_0) (Glob.ext hBg2_0 hS22.below) _ rfl) ?_
        rintro _ w9 ⟨rfl, hS23⟩
        refine ⟨_, rfl, hS23.below, ?_⟩
        have hS24 := hS22.call hS23
        refine gb0 [8, 9] [(6, vI (IntKind.i64.wrap ((IntKind.i64.wrap (1 + (punctualref_Worst_1.f (IntKind.i64.wrap (x1 + 1)) mg2_0))) + (punctualref_Worst_1.f (IntKind.i64.wrap (r2 + 1)) mg2_0)))), (78, vI (IntKind.i64.wrap ((IntKind.i64.wrap (1 + (punctualref_Worst_1.f (IntKind.i64.wrap (x1 + 1)) mg2_0))) + (punctualref_Worst_1.f (IntKind.i64.wrap (r2 + 1)) mg2_0))))] ?_
        refine gn hK21 ?_
        have hS25 := hS24.takeN 0
        obtain rfl := si h
        exact we_ret (pr0 [.tmp 6] [vI (IntKind.i64.wrap ((IntKind.i64.wrap (1 + (punctualref_Worst_1.f (IntKind.i64.wrap (x1 + 1)) mg2_0))) + (punctualref_Worst_1.f (IntKind.i64.wrap (r2 + 1)) mg2_0)))] ⟨rfl, hS25⟩)
       ·rw [if_neg hc8] at h
        refine wk 68 (e1.Op == 16) false (beq_eq_false_iff_ne.2 hc8) ?_
        refine we_false (by kernel_rfl) ?_
        refine we_skip fun a hF => hK4 _ _ ?_ a hF
        refine ws fun K22 hK22 => ?_
        refine wr [(0, 0), (1, 1), (2, 0), (3, 0), (4, 0)] ?_
        refine gb [0] [(79, .agg #[vI e1.Op, vI e1.A, vI e1.B])] [.loaded ⟨b1, 0, none⟩ (vI e1.Op), .loaded ⟨b1, 1, none⟩ (vI e1.A), .loaded ⟨b1, 2, none⟩ (vI e1.B)] ⟨hS5.c 0, hS5.c 0, hS5.c 0, trivial⟩ ?_
        refine ge_call (d := some 80) (f := 57) (args := #[.agg #[vI e1.Op, vI e1.A, vI e1.B], .bool false]) (by kernel_rfl) (punctualref_Ticks_ok e1 false _ _ rfl) ?_
        rintro _ w10 ⟨rfl, hS26⟩
        refine ⟨_, rfl, hS26.below, ?_⟩
        have hS27 := hS5.call hS26
        refine gb0 [2, 3, 4] [(6, vI (IntKind.i64.wrap ((punctualref_Ticks.f e1 false) + (punctualref_Worst_1.f (IntKind.i64.wrap (x1 + 1)) mg2_0)))), (82, vI (IntKind.i64.wrap ((punctualref_Ticks.f e1 false) + (punctualref_Worst_1.f (IntKind.i64.wrap (x1 + 1)) mg2_0)))), (81, vI (punctualref_Worst_1.f (IntKind.i64.wrap (x1 + 1)) mg2_0))] ?_
        refine gn hK22 ?_
        have hS28 := hS27.takeN 0
        obtain rfl := si h
        exact we_ret (pr0 [.tmp 6] [vI (IntKind.i64.wrap ((punctualref_Ticks.f e1 false) + (punctualref_Worst_1.f (IntKind.i64.wrap (x1 + 1)) mg2_0)))] ⟨rfl, hS28⟩)
 ·rw [if_neg hc1] at h
  cases h
end Go.Proofs.YtnckikjcjgmdlaaDoor.GV
