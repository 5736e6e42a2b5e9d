/- Walks of single functions, written by a program of this work. -/
import Derived.Test.YtgpolejhaglddaaGWWcetMet1
namespace Go.Proofs.Ytgpolejhaglddaa.GV
open Go Go.RowKit
set_option linter.unusedVariables false
set_option linter.unusedSimpArgs false
set_option maxRecDepth 100000

/-! punctual/mach.Look -/
abbrev mach_Look.Post (w0 : World) (r : SShape × SFault) (e : Ending) (w : World) : Prop := ∃ (v0 : Value) (mv1 : Option Nat), e = .returned (.tuple #[.agg #[v0, .map mv1], .agg #[vI r.2.Code, vI r.2.At]]) ∧ St w0 w [Own.of v0 3 r.1.In, Own.mapv (κ := Int) (ν := Int) mv1 r.1.Close]
def mach_Look.r0 (l0 : List SIns) : Nat → Option (Nat ⊕ (Unit ⊕ (SShape × SFault)))
 | i1 =>
  if (i1 : Int) < (l0.length : Int) then
   match l0[i1]? with
   | none => none
   | some e1 =>
    if e1.Op < 1 then
     some (.inr (.inr (((mach_Look_1.f 6 (i1 : Int)).1), ((mach_Look_1.f 6 (i1 : Int)).2))))
    else
     if e1.Op > 18 then
      some (.inr (.inr (((mach_Look_1.f 6 (i1 : Int)).1), ((mach_Look_1.f 6 (i1 : Int)).2))))
     else
      match mach_operand.f e1.Op with
      | none => none
      | some r1 =>
       if (mach_fits.f e1.A r1.1) = true then
        if (mach_fits.f e1.B r1.2) = true then
         if e1.Op = 18 then
          if e1.A = 0 then
           some (.inr (.inr (((mach_Look_1.f 3 (i1 : Int)).1), ((mach_Look_1.f 3 (i1 : Int)).2))))
          else
           some (.inl (i1 + 1))
         else
          some (.inl (i1 + 1))
        else
         some (.inr (.inr (((mach_Look_1.f 3 (i1 : Int)).1), ((mach_Look_1.f 3 (i1 : Int)).2))))
       else
        some (.inr (.inr (((mach_Look_1.f 3 (i1 : Int)).1), ((mach_Look_1.f 3 (i1 : Int)).2))))
  else
   some (.inr (.inl ()))
def mach_Look.r1 (K : Nat) (l0 : List SIns) : Nat × (List Int) × (List Int) × (List (Int × Int)) → Option ((Nat × (List Int) × (List Int) × (List (Int × Int))) ⊕ (((List Int) × (List Int) × (List (Int × Int))) ⊕ (SShape × SFault)))
 | (i2, m7, m8, mp1) =>
  if (i2 : Int) < (l0.length : Int) then
   match mach_looker_region.f K l0 m7 m8 mp1 (i2 : Int) with
   | none => none
   | some r2 =>
    if r2.1 = 0 then
     some (.inl ((i2 + 1), r2.2.1, r2.2.2.1, r2.2.2.2))
    else
     some (.inr (.inr (((mach_Look_1.f r2.1 (i2 : Int)).1), ((mach_Look_1.f r2.1 (i2 : Int)).2))))
  else
   some (.inr (.inl (m7, m8, mp1)))
def mach_Look.r2 (l0 : List SIns) (m13 : List Int) : Nat → Option (Nat ⊕ (Unit ⊕ (SShape × SFault)))
 | i3 =>
  if (i3 : Int) < (l0.length : Int) then
   match l0[i3]? with
   | none => none
   | some e4 =>
    if e4.Op = 11 then
     if e4.A < (l0.length : Int) then
      if 0 ≤ e4.A then
       match m13[(e4.A).toNat]? with
       | none => none
       | some e5 =>
        if e4.A ≤ (i3 : Int) then
         some (.inr (.inr (((mach_Look_1.f 7 (i3 : Int)).1), ((mach_Look_1.f 7 (i3 : Int)).2))))
        else
         if e4.A > (l0.length : Int) then
          some (.inr (.inr (((mach_Look_1.f 7 (i3 : Int)).1), ((mach_Look_1.f 7 (i3 : Int)).2))))
         else
          match m13[i3]? with
          | none => none
          | some e6 =>
           if e5 = e6 then
            some (.inl (i3 + 1))
           else
            some (.inr (.inr (((mach_Look_1.f 7 (i3 : Int)).1), ((mach_Look_1.f 7 (i3 : Int)).2))))
      else
       none
     else
      if e4.A ≤ (i3 : Int) then
       some (.inr (.inr (((mach_Look_1.f 7 (i3 : Int)).1), ((mach_Look_1.f 7 (i3 : Int)).2))))
      else
       if e4.A > (l0.length : Int) then
        some (.inr (.inr (((mach_Look_1.f 7 (i3 : Int)).1), ((mach_Look_1.f 7 (i3 : Int)).2))))
       else
        match m13[i3]? with
        | none => none
        | some e7 =>
         if (-1) = e7 then
          some (.inl (i3 + 1))
         else
          some (.inr (.inr (((mach_Look_1.f 7 (i3 : Int)).1), ((mach_Look_1.f 7 (i3 : Int)).2))))
    else
     if e4.Op = 12 then
      if e4.A < (l0.length : Int) then
       if 0 ≤ e4.A then
        match m13[(e4.A).toNat]? with
        | none => none
        | some e8 =>
         if e4.A ≤ (i3 : Int) then
          some (.inr (.inr (((mach_Look_1.f 7 (i3 : Int)).1), ((mach_Look_1.f 7 (i3 : Int)).2))))
         else
          if e4.A > (l0.length : Int) then
           some (.inr (.inr (((mach_Look_1.f 7 (i3 : Int)).1), ((mach_Look_1.f 7 (i3 : Int)).2))))
          else
           match m13[i3]? with
           | none => none
           | some e9 =>
            if e8 = e9 then
             some (.inl (i3 + 1))
            else
             some (.inr (.inr (((mach_Look_1.f 7 (i3 : Int)).1), ((mach_Look_1.f 7 (i3 : Int)).2))))
       else
        none
      else
       if e4.A ≤ (i3 : Int) then
        some (.inr (.inr (((mach_Look_1.f 7 (i3 : Int)).1), ((mach_Look_1.f 7 (i3 : Int)).2))))
       else
        if e4.A > (l0.length : Int) then
         some (.inr (.inr (((mach_Look_1.f 7 (i3 : Int)).1), ((mach_Look_1.f 7 (i3 : Int)).2))))
        else
         match m13[i3]? with
         | none => none
         | some e10 =>
          if (-1) = e10 then
           some (.inl (i3 + 1))
          else
           some (.inr (.inr (((mach_Look_1.f 7 (i3 : Int)).1), ((mach_Look_1.f 7 (i3 : Int)).2))))
     else
      some (.inl (i3 + 1))
  else
   some (.inr (.inl ()))
def mach_Look.f (K : Nat) (l0 : List SIns) : Option (SShape × SFault) :=
 if (l0.length : Int) > 2000 then
  some (((mach_Look_1.f 2 0).1), ((mach_Look_1.f 2 0).2))
 else
  match iter (mach_Look.r0 l0) K 0 with
  | none => none
  | some (.inl _) =>
   if l0.length ≤ 17592186044416 then
    match iter (mach_Look.r1 K l0) K (0, ([] : List Int), (List.replicate l0.length (0 : Int)), ([] : List (Int × Int))) with
    | none => none
    | some (.inl (m12, m13, mp3)) =>
     if (m12.length : Int) > 0 then
      match m12[0]? with
      | none => none
      | some e2 =>
       if 0 ≤ e2 then
        match l0[(e2).toNat]? with
        | none => none
        | some e3 =>
         if e3.Op = 13 then
          some (((mach_Look_1.f 9 e2).1), ((mach_Look_1.f 9 e2).2))
         else
          some (((mach_Look_1.f 10 e2).1), ((mach_Look_1.f 10 e2).2))
       else
        none
     else
      match iter (mach_Look.r2 l0 m13) K 0 with
      | none => none
      | some (.inl _) =>
       match mach_heights.f K l0 with
       | none => none
       | some r3 =>
        if r3.Code = 0 then
         some ((⟨m13, mp3⟩ : SShape), (⟨0, 0⟩ : SFault))
        else
         some ((⟨([] : List Int), ([] : List (Int × Int))⟩ : SShape), r3)
      | some (.inr rr1) =>
       some rr1
    | some (.inr rr2) =>
     some rr2
   else
    none
  | some (.inr rr3) =>
   some rr3
abbrev mach_Look.A0 (w0 : World) (l0 : List SIns) (A0 : Option Addr) (c0 : Nat) (b1 : Nat) (b2 : Nat) : Nat → Act → World → Prop := fun (s : Nat) a w => St w0 w [Own.blk b2 (.cells #[vI 0, vI 0] 29 (0, 0)), Own.blk b1 (.cells #[.slice none 0 0, .map none] 60 (0, 0))] ∧ Frm 209 a [(0, .slice A0 l0.length c0), (2, pP b1 0), (3, pP b2 0), (4, .func (.func 37) #[] #[]), (23, .slice A0 l0.length c0), (24, vI (l0.length : Int)), (25, vI (s : Int))]
abbrev mach_Look.B0 (w0 : World) (l0 : List SIns) (A0 : Option Addr) (c0 : Nat) (b1 : Nat) (b2 : Nat) : (Unit ⊕ (SShape × SFault)) → Exit → Act → World → Prop := Exits 0 (fun (s : Unit) a w => St w0 w [Own.blk b2 (.cells #[vI 0, vI 0] 29 (0, 0)), Own.blk b1 (.cells #[.slice none 0 0, .map none] 60 (0, 0))] ∧ Frm 209 a [(0, .slice A0 l0.length c0), (2, pP b1 0), (3, pP b2 0), (4, .func (.func 37) #[] #[])]) (Rets Try.prog Try.f22 (mach_Look.Post w0))
theorem mach_Look_r0 (K : Nat) (w0 : World) (l0 : List SIns) (A0 : Option Addr) (c0 : Nat) (hR0 : RdL w0 A0 l0) (hL0 : l0.length ≤ c0) (b1 : Nat) (b2 : Nat) (hc1 : ¬ ((l0.length : Int) > 2000)) (s : Nat) (o : Nat ⊕ (Unit ⊕ (SShape × SFault))) (h : mach_Look.r0 l0 s = some o) (a : Act) (w : World) (hA : mach_Look.A0 w0 l0 A0 c0 b1 b2 s a w) (Q : Exit → Act → World → Prop) (hQ : ∀ x a w, Outs (mach_Look.A0 w0 l0 A0 c0 b1 b2) (mach_Look.B0 w0 l0 A0 c0 b1 b2) o x a w → Q x a w) : (subF Try.f22 [1, 1, 1, 0, 1, 0, 0]).wp Try.prog Q a w := by
 obtain ⟨i1, hs⟩ : ∃ z, z = s := ⟨s, rfl⟩
 subst hs
 obtain ⟨hS, hF⟩ := hA
 replace hS : St w0 w [Own.blk b2 (.cells #[vI 0, vI 0] 29 (0, 0)), Own.blk b1 (.cells #[.slice none 0 0, .map none] 60 (0, 0))] := hS
 simp only [mach_Look.r0] at h
 refine (?_ : WE Try.prog 209 (subF Try.f22 [1, 1, 1, 0, 1, 0, 0]) Q [(0, .slice A0 l0.length c0), (2, pP b1 0), (3, pP b2 0), (4, .func (.func 37) #[] #[]), (23, .slice A0 l0.length c0), (24, vI (l0.length : Int)), (25, vI (i1 : Int))] w) a hF
 clear hF a
 refine ws fun K8 hK8 => ?_
 refine wr [(0, 0)] ?_
 refine gb0 [0] [(26, .bool (decide ((i1 : Int) < (l0.length : Int))))] ?_
 refine gn hK8 ?_
 refine ws fun K9 hK9 => ?_
 by_cases hc2 : (i1 : Int) < (l0.length : Int)
 ·rw [if_pos hc2] at h
  refine wk 26 (decide ((i1 : Int) < (l0.length : Int))) true (decide_eq_true hc2) ?_
  refine we_true (by kernel_rfl) ?_
  refine we_skip fun a hF => hK9 _ _ ?_ a hF
  refine ws fun K10 hK10 => ?_
  refine we_block ?_
  refine ws fun K11 hK11 => ?_
  refine wr [(0, 0), (1, 0), (2, 0), (3, 1), (4, 0), (5, 2)] ?_
  refine gb0 [0] [(27, vI (i1 : Int))] ?_
  rcases hx3 : l0[i1]? with _ | e1
  ·rw [hx3] at h; cases h
  rw [hx3] at h
  simp only [] at h
  refine gi 28 0 22 41 3 l0.length c0 (.tmp 23) (.tmp 25) A0 .i64 (i1 : Int) i1 ((hS.rd hR0).eqSome (pos_of_get hx3)) rfl (lt_of_get hx3) ?_
  refine gb [2] [(29, .agg #[vI e1.Op, vI e1.A, vI e1.B])] [.loaded ⟨blkOf A0, offOf A0 + i1 * 3, none⟩ (vI e1.Op), .loaded ⟨blkOf A0, offOf A0 + i1 * 3 + 1, none⟩ (vI e1.A), .loaded ⟨blkOf A0, offOf A0 + i1 * 3 + 2, none⟩ (vI e1.B)] ⟨RdL.cell (j := 0) (hS.rd hR0) hx3 rfl, RdL.cell (j := 1) (hS.rd hR0) hx3 rfl, RdL.cell (j := 2) (hS.rd hR0) hx3 rfl, trivial⟩ ?_
  refine gw (some 6) (.cells #[vI 0, vI 0, vI 0] 41) (fun b => pP b 0) hS fun b3 w6 hx4 hS16 => ?_
  refine gb0 [4] [(5, vI (i1 : Int))] ?_
  refine gs b3 0 #[vI 0, vI 0, vI 0] 41 [vI e1.Op, vI e1.A, vI e1.B] hS16 fun w7 hS17 => ?_
  have hS18 : St w0 w7 [Own.blk b3 (.cells #[vI e1.Op, vI e1.A, vI e1.B] 41 (0, 0)), Own.blk b2 (.cells #[vI 0, vI 0] 29 (0, 0)), Own.blk b1 (.cells #[.slice none 0 0, .map none] 60 (0, 0))] := hS17
  refine gn hK11 ?_
  refine ws fun K12 hK12 => ?_
  refine ws fun K13 hK13 => ?_
  refine wr [(0, 0), (1, 0), (2, 0), (3, 0), (4, 0), (5, 0), (6, 0), (7, 0)] ?_
  refine gb [0, 1, 2, 3] [(33, .bool (decide (e1.Op < 1))), (32, .bool (decide (e1.Op < 1))), (31, vI e1.Op), (30, pP b3 0)] [.loaded ⟨b3, 0, none⟩ (vI e1.Op)] ⟨hS18.c 0, trivial⟩ ?_
  by_cases hc3 : e1.Op < 1
  ·rw [if_pos hc3] at h
   refine gk 33 (decide (e1.Op < 1)) true (decide_eq_true hc3) ?_
   refine gb0 [4, 5, 6, 7] [(37, .bool true), (36, undef), (35, undef), (34, undef)] ?_
   refine gn hK13 ?_
   refine we_true (by kernel_rfl) ?_
   refine ws fun K14 hK14 => ?_
   refine wr [(0, 0), (1, 0), (2, 1), (3, 0), (4, 0), (5, 2), (6, 2)] ?_
   refine gb0 [0, 1] [(39, vI (i1 : Int)), (38, .func (.func 37) #[] #[])] ?_
   refine ge_call (d := some 40) (f := 37) (args := #[vI 6, vI (i1 : Int)]) (by kernel_rfl) (mach_Look_1_ok 6 (i1 : Int) _ _ rfl) ?_
   rintro _ w8 ⟨v2, m2, rfl, hS19⟩
   refine ⟨_, rfl, hS19.below, ?_⟩
   have hS20 := hS18.call hS19
   refine gb0 [3, 4] [(42, .agg #[vI (((mach_Look_1.f 6 (i1 : Int)).2).Code), vI (((mach_Look_1.f 6 (i1 : Int)).2).At)]), (41, .agg #[v2, .map m2])] ?_
   obtain ⟨Z2, cz2, rfl⟩ := hS20.open 0 rfl
   have hS21 := hS20.bring 4 rfl
   refine gs b1 0 #[.slice none 0 0, .map none] 60 [(.slice Z2 (((mach_Look_1.f 6 (i1 : Int)).1).In).length cz2), .map m2] hS21 fun w9 hS22 => ?_
   have hS23 : St w0 w9 [Own.blk b1 (.cells #[(.slice Z2 (((mach_Look_1.f 6 (i1 : Int)).1).In).length cz2), .map m2] 60 (0, 0)), Own.of (.slice Z2 (((mach_Look_1.f 6 (i1 : Int)).1).In).length cz2) 3 (((mach_Look_1.f 6 (i1 : Int)).1).In), Own.mapv (κ := Int) (ν := Int) m2 (((mach_Look_1.f 6 (i1 : Int)).1).Close), Own.blk b3 (.cells #[vI e1.Op, vI e1.A, vI e1.B] 41 (0, 0)), Own.blk b2 (.cells #[vI 0, vI 0] 29 (0, 0))] := hS22
   have hS24 := hS23.bring 4 rfl
   refine gs b2 0 #[vI 0, vI 0] 29 [vI (((mach_Look_1.f 6 (i1 : Int)).2).Code), vI (((mach_Look_1.f 6 (i1 : Int)).2).At)] hS24 fun w10 hS25 => ?_
   have hS26 : St w0 w10 [Own.blk b2 (.cells #[vI (((mach_Look_1.f 6 (i1 : Int)).2).Code), vI (((mach_Look_1.f 6 (i1 : Int)).2).At)] 29 (0, 0)), Own.blk b1 (.cells #[(.slice Z2 (((mach_Look_1.f 6 (i1 : Int)).1).In).length cz2), .map m2] 60 (0, 0)), Own.of (.slice Z2 (((mach_Look_1.f 6 (i1 : Int)).1).In).length cz2) 3 (((mach_Look_1.f 6 (i1 : Int)).1).In), Own.mapv (κ := Int) (ν := Int) m2 (((mach_Look_1.f 6 (i1 : Int)).1).Close), Own.blk b3 (.cells #[vI e1.Op, vI e1.A, vI e1.B] 41 (0, 0))] := hS25
   refine gn hK14 ?_
   have hS27 := hS26.bring 3 rfl
   have hS28 := hS27.bring 3 rfl
   have hS29 := hS28.takeN 2
   obtain rfl := si h
   exact we_ret fun a hF => hQ _ _ _ (Outs.out nofun (Exits.on ⟨rfl, (pr [.cell 2 60, .cell 3 29] [.agg #[(.slice Z2 (((mach_Look_1.f 6 (i1 : Int)).1).In).length cz2), .map m2], .agg #[vI (((mach_Look_1.f 6 (i1 : Int)).2).Code), vI (((mach_Look_1.f 6 (i1 : Int)).2).At)]] [.loaded ⟨b1, 0, none⟩ ((.slice Z2 (((mach_Look_1.f 6 (i1 : Int)).1).In).length cz2)), .loaded ⟨b1, 1, none⟩ (.map m2), .loaded ⟨b2, 0, none⟩ (vI (((mach_Look_1.f 6 (i1 : Int)).2).Code)), .loaded ⟨b2, 1, none⟩ (vI (((mach_Look_1.f 6 (i1 : Int)).2).At))] ⟨hS26.c 1, hS26.c 1, hS26.c 0, hS26.c 0, trivial⟩ ⟨(.slice Z2 (((mach_Look_1.f 6 (i1 : Int)).1).In).length cz2), m2, rfl, hS29⟩) a hF⟩))
  ·rw [if_neg hc3] at h
   refine gk 33 (decide (e1.Op < 1)) false (decide_eq_false hc3) ?_
   refine gb [4, 5, 6, 7] [(37, .bool (decide (e1.Op > 18))), (36, .bool (decide (e1.Op > 18))), (35, vI e1.Op), (34, pP b3 0)] [.loaded ⟨b3, 0, none⟩ (vI e1.Op)] ⟨hS18.c 0, trivial⟩ ?_
   refine gn hK13 ?_
   by_cases hc4 : e1.Op > 18
   ·rw [if_pos hc4] at h
    refine wk 37 (decide (e1.Op > 18)) true (decide_eq_true hc4) ?_
    refine we_true (by kernel_rfl) ?_
    refine ws fun K15 hK15 => ?_
    refine wr [(0, 0), (1, 0), (2, 1), (3, 0), (4, 0), (5, 2), (6, 2)] ?_
    refine gb0 [0, 1] [(39, vI (i1 : Int)), (38, .func (.func 37) #[] #[])] ?_
    refine ge_call (d := some 40) (f := 37) (args := #[vI 6, vI (i1 : Int)]) (by kernel_rfl) (mach_Look_1_ok 6 (i1 : Int) _ _ rfl) ?_
    rintro _ w11 ⟨v3, m3, rfl, hS30⟩
    refine ⟨_, rfl, hS30.below, ?_⟩
    have hS31 := hS18.call hS30
    refine gb0 [3, 4] [(42, .agg #[vI (((mach_Look_1.f 6 (i1 : Int)).2).Code), vI (((mach_Look_1.f 6 (i1 : Int)).2).At)]), (41, .agg #[v3, .map m3])] ?_
    obtain ⟨Z3, cz3, rfl⟩ := hS31.open 0 rfl
    have hS32 := hS31.bring 4 rfl
    refine gs b1 0 #[.slice none 0 0, .map none] 60 [(.slice Z3 (((mach_Look_1.f 6 (i1 : Int)).1).In).length cz3), .map m3] hS32 fun w12 hS33 => ?_
    have hS34 : St w0 w12 [Own.blk b1 (.cells #[(.slice Z3 (((mach_Look_1.f 6 (i1 : Int)).1).In).length cz3), .map m3] 60 (0, 0)), Own.of (.slice Z3 (((mach_Look_1.f 6 (i1 : Int)).1).In).length cz3) 3 (((mach_Look_1.f 6 (i1 : Int)).1).In), Own.mapv (κ := Int) (ν := Int) m3 (((mach_Look_1.f 6 (i1 : Int)).1).Close), Own.blk b3 (.cells #[vI e1.Op, vI e1.A, vI e1.B] 41 (0, 0)), Own.blk b2 (.cells #[vI 0, vI 0] 29 (0, 0))] := hS33
    have hS35 := hS34.bring 4 rfl
    refine gs b2 0 #[vI 0, vI 0] 29 [vI (((mach_Look_1.f 6 (i1 : Int)).2).Code), vI (((mach_Look_1.f 6 (i1 : Int)).2).At)] hS35 fun w13 hS36 => ?_
    have hS37 : St w0 w13 [Own.blk b2 (.cells #[vI (((mach_Look_1.f 6 (i1 : Int)).2).Code), vI (((mach_Look_1.f 6 (i1 : Int)).2).At)] 29 (0, 0)), Own.blk b1 (.cells #[(.slice Z3 (((mach_Look_1.f 6 (i1 : Int)).1).In).length cz3), .map m3] 60 (0, 0)), Own.of (.slice Z3 (((mach_Look_1.f 6 (i1 : Int)).1).In).length cz3) 3 (((mach_Look_1.f 6 (i1 : Int)).1).In), Own.mapv (κ := Int) (ν := Int) m3 (((mach_Look_1.f 6 (i1 : Int)).1).Close), Own.blk b3 (.cells #[vI e1.Op, vI e1.A, vI e1.B] 41 (0, 0))] := hS36
    refine gn hK15 ?_
    have hS38 := hS37.bring 3 rfl
    have hS39 := hS38.bring 3 rfl
    have hS40 := hS39.takeN 2
    obtain rfl := si h
    exact we_ret fun a hF => hQ _ _ _ (Outs.out nofun (Exits.on ⟨rfl, (pr [.cell 2 60, .cell 3 29] [.agg #[(.slice Z3 (((mach_Look_1.f 6 (i1 : Int)).1).In).length cz3), .map m3], .agg #[vI (((mach_Look_1.f 6 (i1 : Int)).2).Code), vI (((mach_Look_1.f 6 (i1 : Int)).2).At)]] [.loaded ⟨b1, 0, none⟩ ((.slice Z3 (((mach_Look_1.f 6 (i1 : Int)).1).In).length cz3)), .loaded ⟨b1, 1, none⟩ (.map m3), .loaded ⟨b2, 0, none⟩ (vI (((mach_Look_1.f 6 (i1 : Int)).2).Code)), .loaded ⟨b2, 1, none⟩ (vI (((mach_Look_1.f 6 (i1 : Int)).2).At))] ⟨hS37.c 1, hS37.c 1, hS37.c 0, hS37.c 0, trivial⟩ ⟨(.slice Z3 (((mach_Look_1.f 6 (i1 : Int)).1).In).length cz3), m3, rfl, hS40⟩) a hF⟩))
   ·rw [if_neg hc4] at h
    refine wk 37 (decide (e1.Op > 18)) false (decide_eq_false hc4) ?_
    refine we_false (by kernel_rfl) ?_
    refine we_skip fun a hF => hK12 _ _ ?_ a hF
    refine ws fun K16 hK16 => ?_
    refine wr [(0, 0), (1, 0), (2, 1), (3, 0), (4, 0), (5, 0), (6, 0), (7, 0)] ?_
    rcases hq4 : mach_operand.f e1.Op with _ | r1
    ·rw [hq4] at h; cases h
    rw [hq4] at h
    simp only [] at h
    refine gb [0, 1] [(45, vI e1.Op), (44, pP b3 0)] [.loaded ⟨b3, 0, none⟩ (vI e1.Op)] ⟨hS18.c 0, trivial⟩ ?_
    refine ge_call (d := some 46) (f := 38) (args := #[vI e1.Op]) (by kernel_rfl) (mach_operand_ok e1.Op _ _ hq4) ?_
    rintro _ w14 ⟨rfl, hS41⟩
    refine ⟨_, rfl, hS41.below, ?_⟩
    have hS42 := hS18.call hS41
    refine gb0 [3, 4, 5, 6, 7] [(8, vI r1.2), (7, vI r1.1), (48, vI r1.2), (47, vI r1.1), (43, .tuple #[vI r1.1, vI r1.2])] ?_
    refine gn hK16 ?_
    refine ws fun K17 hK17 => ?_
    refine wr [(0, 0), (1, 0), (2, 0), (3, 1), (4, 0), (5, 0), (6, 0), (7, 0), (8, 0), (9, 1), (10, 0), (11, 0), (12, 0), (13, 0), (14, 0), (15, 0), (16, 0), (17, 0), (18, 0), (19, 0), (20, 0), (21, 0)] ?_
    refine gb [0, 1, 2] [(51, vI r1.1), (50, vI e1.A), (49, pP b3 1)] [.loaded ⟨b3, 1, none⟩ (vI e1.A)] ⟨hS42.c 0, trivial⟩ ?_
    refine ge_call (d := some 52) (f := 39) (args := #[vI e1.A, vI r1.1]) (by kernel_rfl) (mach_fits_ok e1.A r1.1 _ _ rfl) ?_
    rintro _ w15 ⟨rfl, hS43⟩
    refine ⟨_, rfl, hS43.below, ?_⟩
    have hS44 := hS42.call hS43
    refine gb0 [4, 5] [(54, .bool (!(mach_fits.f e1.A r1.1))), (53, .bool (!(mach_fits.f e1.A r1.1)))] ?_
    by_cases hc5 : (mach_fits.f e1.A r1.1) = true
    ·rw [if_pos hc5] at h
     refine gk 54 (!(mach_fits.f e1.A r1.1)) false (congrArg (fun z => !z) hc5) ?_
     refine gb [6, 7, 8] [(57, vI r1.2), (56, vI e1.B), (55, pP b3 2)] [.loaded ⟨b3, 2, none⟩ (vI e1.B)] ⟨hS44.c 0, trivial⟩ ?_
     refine ge_call (d := some 58) (f := 39) (args := #[vI e1.B, vI r1.2]) (by kernel_rfl) (mach_fits_ok e1.B r1.2 _ _ rfl) ?_
     rintro _ w16 ⟨rfl, hS45⟩
     refine ⟨_, rfl, hS45.below, ?_⟩
     have hS46 := hS44.call hS45
     refine gb0 [10, 11, 12] [(61, .bool (!(mach_fits.f e1.B r1.2))), (60, .bool (!(mach_fits.f e1.B r1.2))), (59, .bool (!(mach_fits.f e1.B r1.2)))] ?_
     by_cases hc6 : (mach_fits.f e1.B r1.2) = true
     ·rw [if_pos hc6] at h
      refine gk 61 (!(mach_fits.f e1.B r1.2)) false (congrArg (fun z => !z) hc6) ?_
      refine gb [13, 14, 15, 16] [(65, .bool (e1.Op == 18)), (64, .bool (e1.Op == 18)), (63, vI e1.Op), (62, pP b3 0)] [.loaded ⟨b3, 0, none⟩ (vI e1.Op)] ⟨hS46.c 0, trivial⟩ ?_
      by_cases hc7 : e1.Op = 18
      ·rw [if_pos hc7] at h
       refine gk 65 (e1.Op == 18) true (beq_iff_eq.2 hc7) ?_
       refine gb [17, 18, 19, 20, 21] [(70, .bool (e1.A == 0)), (69, .bool (e1.A == 0)), (68, .bool (e1.A == 0)), (67, vI e1.A), (66, pP b3 1)] [.loaded ⟨b3, 1, none⟩ (vI e1.A)] ⟨hS46.c 0, trivial⟩ ?_
       refine gn hK17 ?_
       by_cases hc8 : e1.A = 0
       ·rw [if_pos hc8] at h
        refine wk 70 (e1.A == 0) true (beq_iff_eq.2 hc8) ?_
        refine we_true (by kernel_rfl) ?_
        refine ws fun K18 hK18 => ?_
        refine wr [(0, 0), (1, 0), (2, 1), (3, 0), (4, 0), (5, 2), (6, 2)] ?_
        refine gb0 [0, 1] [(72, vI (i1 : Int)), (71, .func (.func 37) #[] #[])] ?_
        refine ge_call (d := some 73) (f := 37) (args := #[vI 3, vI (i1 : Int)]) (by kernel_rfl) (mach_Look_1_ok 3 (i1 : Int) _ _ rfl) ?_
        rintro _ w17 ⟨v4, m4, rfl, hS47⟩
        refine ⟨_, rfl, hS47.below, ?_⟩
        have hS48 := hS46.call hS47
        refine gb0 [3, 4] [(75, .agg #[vI (((mach_Look_1.f 3 (i1 : Int)).2).Code), vI (((mach_Look_1.f 3 (i1 : Int)).2).At)]), (74, .agg #[v4, .map m4])] ?_
        obtain ⟨Z4, cz4, rfl⟩ := hS48.open 0 rfl
        have hS49 := hS48.bring 4 rfl
        refine gs b1 0 #[.slice none 0 0, .map none] 60 [(.slice Z4 (((mach_Look_1.f 3 (i1 : Int)).1).In).length cz4), .map m4] hS49 fun w18 hS50 => ?_
        have hS51 : St w0 w18 [Own.blk b1 (.cells #[(.slice Z4 (((mach_Look_1.f 3 (i1 : Int)).1).In).length cz4), .map m4] 60 (0, 0)), Own.of (.slice Z4 (((mach_Look_1.f 3 (i1 : Int)).1).In).length cz4) 3 (((mach_Look_1.f 3 (i1 : Int)).1).In), Own.mapv (κ := Int) (ν := Int) m4 (((mach_Look_1.f 3 (i1 : Int)).1).Close), Own.blk b3 (.cells #[vI e1.Op, vI e1.A, vI e1.B] 41 (0, 0)), Own.blk b2 (.cells #[vI 0, vI 0] 29 (0, 0))] := hS50
        have hS52 := hS51.bring 4 rfl
        refine gs b2 0 #[vI 0, vI 0] 29 [vI (((mach_Look_1.f 3 (i1 : Int)).2).Code), vI (((mach_Look_1.f 3 (i1 : Int)).2).At)] hS52 fun w19 hS53 => ?_
        have hS54 : St w0 w19 [Own.blk b2 (.cells #[vI (((mach_Look_1.f 3 (i1 : Int)).2).Code), vI (((mach_Look_1.f 3 (i1 : Int)).2).At)] 29 (0, 0)), Own.blk b1 (.cells #[(.slice Z4 (((mach_Look_1.f 3 (i1 : Int)).1).In).length cz4), .map m4] 60 (0, 0)), Own.of (.slice Z4 (((mach_Look_1.f 3 (i1 : Int)).1).In).length cz4) 3 (((mach_Look_1.f 3 (i1 : Int)).1).In), Own.mapv (κ := Int) (ν := Int) m4 (((mach_Look_1.f 3 (i1 : Int)).1).Close), Own.blk b3 (.cells #[vI e1.Op, vI e1.A, vI e1.B] 41 (0, 0))] := hS53
        refine gn hK18 ?_
        have hS55 := hS54.bring 3 rfl
        have hS56 := hS55.bring 3 rfl
        have hS57 := hS56.takeN 2
        obtain rfl := si h
        exact we_ret fun a hF => hQ _ _ _ (Outs.out nofun (Exits.on ⟨rfl, (pr [.cell 2 60, .cell 3 29] [.agg #[(.slice Z4 (((mach_Look_1.f 3 (i1 : Int)).1).In).length cz4), .map m4], .agg #[vI (((mach_Look_1.f 3 (i1 : Int)).2).Code), vI (((mach_Look_1.f 3 (i1 : Int)).2).At)]] [.loaded ⟨b1, 0, none⟩ ((.slice Z4 (((mach_Look_1.f 3 (i1 : Int)).1).In).length cz4)), .loaded ⟨b1, 1, none⟩ (.map m4), .loaded ⟨b2, 0, none⟩ (vI (((mach_Look_1.f 3 (i1 : Int)).2).Code)), .loaded ⟨b2, 1, none⟩ (vI (((mach_Look_1.f 3 (i1 : Int)).2).At))] ⟨hS54.c 1, hS54.c 1, hS54.c 0, hS54.c 0, trivial⟩ ⟨(.slice Z4 (((mach_Look_1.f 3 (i1 : Int)).1).In).length cz4), m4, rfl, hS57⟩) a hF⟩))
       ·rw [if_neg hc8] at h
        refine wk 70 (e1.A == 0) false (beq_eq_false_iff_ne.2 hc8) ?_
        refine we_false (by kernel_rfl) ?_
        refine we_skip fun a hF => hK10 _ _ ?_ a hF
        refine wr [(0, 0), (1, 0)] ?_
        refine ge_addn (d := 76) (ty := 3) (x := (.tmp 25)) (y := (.const (vI 1))) (t := 3) (t2 := 3) (k := .i64) (m := i1) (by kernel_rfl) (by kernel_rfl) (by kernel_rfl) (by have h0 := hR0.small; omega) ?_
        refine gb0 [1] [(25, vI ((i1 + 1 : Nat) : Int))] ?_
        have hS58 := hS46.bring 2 rfl
        have hS59 := hS58.bring 2 rfl
        have hS60 := hS59.takeN 2
        obtain rfl := si h
        exact ge_nil fun a hF => hQ _ _ _ (Outs.again ⟨hS60, hF.weaken ea⟩)
      ·rw [if_neg hc7] at h
       refine gk 65 (e1.Op == 18) false (beq_eq_false_iff_ne.2 hc7) ?_
       refine gb0 [17, 18, 19, 20, 21] [(70, .bool false), (69, .bool false), (68, undef), (67, undef), (66, undef)] ?_
       refine gn hK17 ?_
       refine we_false (by kernel_rfl) ?_
       refine we_skip fun a hF => hK10 _ _ ?_ a hF
       refine wr [(0, 0), (1, 0)] ?_
       refine ge_addn (d := 76) (ty := 3) (x := (.tmp 25)) (y := (.const (vI 1))) (t := 3) (t2 := 3) (k := .i64) (m := i1) (by kernel_rfl) (by kernel_rfl) (by kernel_rfl) (by have h0 := hR0.small; omega) ?_
       refine gb0 [1] [(25, vI ((i1 + 1 : Nat) : Int))] ?_
       have hS61 := hS46.bring 2 rfl
       have hS62 := hS61.bring 2 rfl
       have hS63 := hS62.takeN 2
       obtain rfl := si h
       exact ge_nil fun a hF => hQ _ _ _ (Outs.again ⟨hS63, hF.weaken ea⟩)
     ·rw [if_neg hc6] at h
      refine gk 61 (!(mach_fits.f e1.B r1.2)) true (congrArg (fun z => !z) (Bool.eq_false_iff.2 hc6)) ?_
      refine gb0 [13, 14, 15, 16, 17, 18, 19, 20, 21] [(70, .bool true), (69, undef), (68, undef), (67, undef), (66, undef), (65, undef), (64, undef), (63, undef), (62, undef)] ?_
      refine gn hK17 ?_
      refine we_true (by kernel_rfl) ?_
      refine ws fun K19 hK19 => ?_
      refine wr [(0, 0), (1, 0), (2, 1), (3, 0), (4, 0), (5, 2), (6, 2)] ?_
      refine gb0 [0, 1] [(72, vI (i1 : Int)), (71, .func (.func 37) #[] #[])] ?_
      refine ge_call (d := some 73) (f := 37) (args := #[vI 3, vI (i1 : Int)]) (by kernel_rfl) (mach_Look_1_ok 3 (i1 : Int) _ _ rfl) ?_
      rintro _ w20 ⟨v5, m5, rfl, hS64⟩
      refine ⟨_, rfl, hS64.below, ?_⟩
      have hS65 := hS46.call hS64
      refine gb0 [3, 4] [(75, .agg #[vI (((mach_Look_1.f 3 (i1 : Int)).2).Code), vI (((mach_Look_1.f 3 (i1 : Int)).2).At)]), (74, .agg #[v5, .map m5])] ?_
      obtain ⟨Z5, cz5, rfl⟩ := hS65.open 0 rfl
      have hS66 := hS65.bring 4 rfl
      refine gs b1 0 #[.slice none 0 0, .map none] 60 [(.slice Z5 (((mach_Look_1.f 3 (i1 : Int)).1).In).length cz5), .map m5] hS66 fun w21 hS67 => ?_
      have hS68 : St w0 w21 [Own.blk b1 (.cells #[(.slice Z5 (((mach_Look_1.f 3 (i1 : Int)).1).In).length cz5), .map m5] 60 (0, 0)), Own.of (.slice Z5 (((mach_Look_1.f 3 (i1 : Int)).1).In).length cz5) 3 (((mach_Look_1.f 3 (i1 : Int)).1).In), Own.mapv (κ := Int) (ν := Int) m5 (((mach_Look_1.f 3 (i1 : Int)).1).Close), Own.blk b3 (.cells #[vI e1.Op, vI e1.A, vI e1.B] 41 (0, 0)), Own.blk b2 (.cells #[vI 0, vI 0] 29 (0, 0))] := hS67
      have hS69 := hS68.bring 4 rfl
      refine gs b2 0 #[vI 0, vI 0] 29 [vI (((mach_Look_1.f 3 (i1 : Int)).2).Code), vI (((mach_Look_1.f 3 (i1 : Int)).2).At)] hS69 fun w22 hS70 => ?_
      have hS71 : St w0 w22 [Own.blk b2 (.cells #[vI (((mach_Look_1.f 3 (i1 : Int)).2).Code), vI (((mach_Look_1.f 3 (i1 : Int)).2).At)] 29 (0, 0)), Own.blk b1 (.cells #[(.slice Z5 (((mach_Look_1.f 3 (i1 : Int)).1).In).length cz5), .map m5] 60 (0, 0)), Own.of (.slice Z5 (((mach_Look_1.f 3 (i1 : Int)).1).In).length cz5) 3 (((mach_Look_1.f 3 (i1 : Int)).1).In), Own.mapv (κ := Int) (ν := Int) m5 (((mach_Look_1.f 3 (i1 : Int)).1).Close), Own.blk b3 (.cells #[vI e1.Op, vI e1.A, vI e1.B] 41 (0, 0))] := hS70
      refine gn hK19 ?_
      have hS72 := hS71.bring 3 rfl
      have hS73 := hS72.bring 3 rfl
      have hS74 := hS73.takeN 2
      obtain rfl := si h
      exact we_ret fun a hF => hQ _ _ _ (Outs.out nofun (Exits.on ⟨rfl, (pr [.cell 2 60, .cell 3 29] [.agg #[(.slice Z5 (((mach_Look_1.f 3 (i1 : Int)).1).In).length cz5), .map m5], .agg #[vI (((mach_Look_1.f 3 (i1 : Int)).2).Code), vI (((mach_Look_1.f 3 (i1 : Int)).2).At)]] [.loaded ⟨b1, 0, none⟩ ((.slice Z5 (((mach_Look_1.f 3 (i1 : Int)).1).In).length cz5)), .loaded ⟨b1, 1, none⟩ (.map m5), .loaded ⟨b2, 0, none⟩ (vI (((mach_Look_1.f 3 (i1 : Int)).2).Code)), .loaded ⟨b2, 1, none⟩ (vI (((mach_Look_1.f 3 (i1 : Int)).2).At))] ⟨hS71.c 1, hS71.c 1, hS71.c 0, hS71.c 0, trivial⟩ ⟨(.slice Z5 (((mach_Look_1.f 3 (i1 : Int)).1).In).length cz5), m5, rfl, hS74⟩) a hF⟩))
    ·rw [if_neg hc5] at h
     refine gk 54 (!(mach_fits.f e1.A r1.1)) true (congrArg (fun z => !z) (Bool.eq_false_iff.2 hc5)) ?_
     refine gb0 [6, 7, 8] [(57, undef), (56, undef), (55, undef)] ?_
     refine ge_off rfl rfl rfl (by kernel_rfl) ?_
     refine gb0 [10, 11, 12, 13, 14, 15, 16, 17, 18, 19, 20, 21] [(70, .bool true), (69, undef), (68, undef), (67, undef), (66, undef), (65, undef), (64, undef), (63, undef), (62, undef), (61, .bool true), (60, .bool true), (59, undef)] ?_
     refine gn hK17 ?_
     refine we_true (by kernel_rfl) ?_
     refine ws fun K20 hK20 => ?_
     refine wr [(0, 0), (1, 0), (2, 1), (3, 0), (4, 0), (5, 2), (6, 2)] ?_
     refine gb0 [0, 1] [(72, vI (i1 : Int)), (71, .func (.func 37) #[] #[])] ?_
     refine ge_call (d := some 73) (f := 37) (args := #[vI 3, vI (i1 : Int)]) (by kernel_rfl) (mach_Look_1_ok 3 (i1 : Int) _ _ rfl) ?_
     rintro _ w23 ⟨v6, m6, rfl, hS75⟩
     refine ⟨_, rfl, hS75.below, ?_⟩
     have hS76 := hS44.call hS75
     refine gb0 [3, 4] [(75, .agg #[vI (((mach_Look_1.f 3 (i1 : Int)).2).Code), vI (((mach_Look_1.f 3 (i1 : Int)).2).At)]), (74, .agg #[v6, .map m6])] ?_
     obtain ⟨Z6, cz6, rfl⟩ := hS76.open 0 rfl
     have hS77 := hS76.bring 4 rfl
     refine gs b1 0 #[.slice none 0 0, .map none] 60 [(.slice Z6 (((mach_Look_1.f 3 (i1 : Int)).1).In).length cz6), .map m6] hS77 fun w24 hS78 => ?_
     have hS79 : St w0 w24 [Own.blk b1 (.cells #[(.slice Z6 (((mach_Look_1.f 3 (i1 : Int)).1).In).length cz6), .map m6] 60 (0, 0)), Own.of (.slice Z6 (((mach_Look_1.f 3 (i1 : Int)).1).In).length cz6) 3 (((mach_Look_1.f 3 (i1 : Int)).1).In), Own.mapv (κ := Int) (ν := Int) m6 (((mach_Look_1.f 3 (i1 : Int)).1).Close), Own.blk b3 (.cells #[vI e1.Op, vI e1.A, vI e1.B] 41 (0, 0)), Own.blk b2 (.cells #[vI 0, vI 0] 29 (0, 0))] := hS78
     have hS80 := hS79.bring 4 rfl
     refine gs b2 0 #[vI 0, vI 0] 29 [vI (((mach_Look_1.f 3 (i1 : Int)).2).Code), vI (((mach_Look_1.f 3 (i1 : Int)).2).At)] hS80 fun w25 hS81 => ?_
     have hS82 : St w0 w25 [Own.blk b2 (.cells #[vI (((mach_Look_1.f 3 (i1 : Int)).2).Code), vI (((mach_Look_1.f 3 (i1 : Int)).2).At)] 29 (0, 0)), Own.blk b1 (.cells #[(.slice Z6 (((mach_Look_1.f 3 (i1 : Int)).1).In).length cz6), .map m6] 60 (0, 0)), Own.of (.slice Z6 (((mach_Look_1.f 3 (i1 : Int)).1).In).length cz6) 3 (((mach_Look_1.f 3 (i1 : Int)).1).In), Own.mapv (κ := Int) (ν := Int) m6 (((mach_Look_1.f 3 (i1 : Int)).1).Close), Own.blk b3 (.cells #[vI e1.Op, vI e1.A, vI e1.B] 41 (0, 0))] := hS81
     refine gn hK20 ?_
     have hS83 := hS82.bring 3 rfl
     have hS84 := hS83.bring 3 rfl
     have hS85 := hS84.takeN 2
     obtain rfl := si h
     exact we_ret fun a hF => hQ _ _ _ (Outs.out nofun (Exits.on ⟨rfl, (pr [.cell 2 60, .cell 3 29] [.agg #[(.slice Z6 (((mach_Look_1.f 3 (i1 : Int)).1).In).length cz6), .map m6], .agg #[vI (((mach_Look_1.f 3 (i1 : Int)).2).Code), vI (((mach_Look_1.f 3 (i1 : Int)).2).At)]] [.loaded ⟨b1, 0, none⟩ ((.slice Z6 (((mach_Look_1.f 3 (i1 : Int)).1).In).length cz6)), .loaded ⟨b1, 1, none⟩ (.map m6), .loaded ⟨b2, 0, none⟩ (vI (((mach_Look_1.f 3 (i1 : Int)).2).Code)), .loaded ⟨b2, 1, none⟩ (vI (((mach_Look_1.f 3 (i1 : Int)).2).At))] ⟨hS82.c 1, hS82.c 1, hS82.c 0, hS82.c 0, trivial⟩ ⟨(.slice Z6 (((mach_Look_1.f 3 (i1 : Int)).1).In).length cz6), m6, rfl, hS85⟩) a hF⟩))
 ·rw [if_neg hc2] at h
  refine wk 26 (decide ((i1 : Int) < (l0.length : Int))) false (decide_eq_false hc2) ?_
  refine we_false (by kernel_rfl) ?_
  have hS86 := hS.bring 1 rfl
  have hS87 := hS86.bring 1 rfl
  obtain rfl := si h
  exact we_exit fun a hF => hQ _ _ _ (Outs.out nofun (Exits.here ⟨hS87, hF.weaken ea⟩))
abbrev mach_Look.A1 (w0 : World) (l0 : List SIns) (A0 : Option Addr) (c0 : Nat) (b1 : Nat) (b2 : Nat) (b4 : Nat) (b5 : Nat) : (Nat × (List Int) × (List Int) × (List (Int × Int))) → Act → World → Prop := fun (s : Nat × (List Int) × (List Int) × (List (Int × Int))) a w => ∃ (v8 : Value) (v9 : Value), St w0 w [Own.blk b5 (.cells #[.slice A0 l0.length c0, v8, v9, .map (some b4)] 102 (0, 0)), Own.blk b2 (.cells #[vI 0, vI 0] 29 (0, 0)), Own.blk b1 (.cells #[.slice none 0 0, .map none] 60 (0, 0)), Own.of v8 3 s.2.1, Own.of v9 3 s.2.2.1, Own.map (κ := Int) (ν := Int) b4 s.2.2.2] ∧ Frm 209 a [(0, .slice A0 l0.length c0), (2, pP b1 0), (3, pP b2 0), (4, .func (.func 37) #[] #[]), (9, pP b5 0), (86, vI (l0.length : Int)), (87, vI (s.1 : Int))]
abbrev mach_Look.B1 (w0 : World) (l0 : List SIns) (A0 : Option Addr) (c0 : Nat) (b1 : Nat) (b2 : Nat) (b4 : Nat) (b5 : Nat) : (((List Int) × (List Int) × (List (Int × Int))) ⊕ (SShape × SFault)) → Exit → Act → World → Prop := Exits 2 (fun (s : (List Int) × (List Int) × (List (Int × Int))) a w => ∃ (v10 : Value) (v11 : Value), St w0 w [Own.blk b5 (.cells #[.slice A0 l0.length c0, v10, v11, .map (some b4)] 102 (0, 0)), Own.blk b2 (.cells #[vI 0, vI 0] 29 (0, 0)), Own.blk b1 (.cells #[.slice none 0 0, .map none] 60 (0, 0)), Own.of v10 3 s.1, Own.of v11 3 s.2.1, Own.map (κ := Int) (ν := Int) b4 s.2.2] ∧ Frm 209 a [(0, .slice A0 l0.length c0), (2, pP b1 0), (3, pP b2 0), (4, .func (.func 37) #[] #[]), (9, pP b5 0)]) (Rets Try.prog Try.f22 (mach_Look.Post w0))
theorem mach_Look_r1 (K : Nat) (w0 : World) (l0 : List SIns) (A0 : Option Addr) (c0 : Nat) (hR0 : RdL w0 A0 l0) (hL0 : l0.length ≤ c0) (b1 : Nat) (b2 : Nat) (hc1 : ¬ ((l0.length : Int) > 2000)) (hc9 : l0.length ≤ 17592186044416) (b4 : Nat) (Z7 : Option Addr) (cz7 : Nat) (b5 : Nat) (s : Nat × (List Int) × (List Int) × (List (Int × Int))) (o : (Nat × (List Int) × (List Int) × (List (Int × Int))) ⊕ (((List Int) × (List Int) × (List (Int × Int))) ⊕ (SShape × SFault))) (h : mach_Look.r1 K l0 s = some o) (a : Act) (w : World) (hA : mach_Look.A1 w0 l0 A0 c0 b1 b2 b4 b5 s a w) (Q : Exit → Act → World → Prop) (hQ : ∀ x a w, Outs (mach_Look.A1 w0 l0 A0 c0 b1 b2 b4 b5) (mach_Look.B1 w0 l0 A0 c0 b1 b2 b4 b5) o x a w → Q x a w) : (subF Try.f22 [1, 1, 1, 1, 1, 0, 1, 0, 0]).wp Try.prog Q a w := by
 obtain ⟨i2, m7, m8, mp1⟩ := s
 obtain ⟨v8, v9, hS, hF⟩ := hA
 replace hS : St w0 w [Own.blk b5 (.cells #[.slice A0 l0.length c0, v8, v9, .map (some b4)] 102 (0, 0)), Own.blk b2 (.cells #[vI 0, vI 0] 29 (0, 0)), Own.blk b1 (.cells #[.slice none 0 0, .map none] 60 (0, 0)), Own.of v8 3 m7, Own.of v9 3 m8, Own.map (κ := Int) (ν := Int) b4 mp1] := hS
 simp only [mach_Look.r1] at h
 refine (?_ : WE Try.prog 209 (subF Try.f22 [1, 1, 1, 1, 1, 0, 1, 0, 0]) Q [(0, .slice A0 l0.length c0), (2, pP b1 0), (3, pP b2 0), (4, .func (.func 37) #[] #[]), (9, pP b5 0), (86, vI (l0.length : Int)), (87, vI (i2 : Int))] w) a hF
 clear hF a
 refine ws fun K24 hK24 => ?_
 refine wr [(0, 0)] ?_
 refine gb0 [0] [(88, .bool (decide ((i2 : Int) < (l0.length : Int))))] ?_
 refine gn hK24 ?_
 refine ws fun K25 hK25 => ?_
 by_cases hc10 : (i2 : Int) < (l0.length : Int)
 ·rw [if_pos hc10] at h
  refine wk 88 (decide ((i2 : Int) < (l0.length : Int))) true (decide_eq_true hc10) ?_
  refine we_true (by kernel_rfl) ?_
  refine we_skip fun a hF => hK25 _ _ ?_ a hF
  refine ws fun K26 hK26 => ?_
  refine we_block ?_
  refine ws fun K27 hK27 => ?_
  refine wr [(0, 0), (1, 0)] ?_
  refine gb0 [0, 1] [(10, vI (i2 : Int)), (89, vI (i2 : Int))] ?_
  refine gn hK27 ?_
  refine ws fun K28 hK28 => ?_
  refine wr [(0, 0), (1, 0), (2, 2), (3, 0)] ?_
  refine gb0 [0, 1] [(91, vI (i2 : Int)), (90, pP b5 0)] ?_
  obtain ⟨Z8, cz8, rfl⟩ := hS.open 3 rfl
  obtain ⟨Z9, cz9, rfl⟩ := hS.open 4 rfl
  rcases hq11 : mach_looker_region.f K l0 m7 m8 mp1 (i2 : Int) with _ | r2
  ·rw [hq11] at h; cases h
  rw [hq11] at h
  simp only [] at h
  have hS100 := hS.bring 5 rfl
  have hS101 := hS100.bring 5 rfl
  have hS102 := hS101.bring 5 rfl
  have hS103 := hS102.bring 3 rfl
  have hS105 : St w0 w [Own.blk b5 (.cells #[.slice A0 l0.length c0, (.slice Z8 m7.length cz8), (.slice Z9 m8.length cz9), .map (some b4)] 102 (0, 0)), Own.of (.slice Z8 m7.length cz8) 3 m7, Own.of (.slice Z9 m8.length cz9) 3 m8, Own.map (κ := Int) (ν := Int) b4 mp1, Own.all [Own.blk b2 (.cells #[vI 0, vI 0] 29 (0, 0)), Own.blk b1 (.cells #[.slice none 0 0, .map none] 60 (0, 0))]] := hS103.packN 4
  refine ge_call2 (m := 0) (d := some 92) (f := 40) (args := #[pP b5 0, vI (i2 : Int)]) (by kernel_rfl) (mach_looker_region_ok K b5 l0 A0 c0 m7 Z8 cz8 m8 Z9 cz9 mp1 b4 (i2 : Int) _ _ _ hS105 hR0 hL0 _ hq11) ?_
  rintro _ w30 ⟨v12, v13, rfl, hS104⟩
  refine ⟨_, rfl, ?_⟩
  have hS106 : St w0 w30 [Own.blk b5 (.cells #[.slice A0 l0.length c0, v12, v13, .map (some b4)] 102 (0, 0)), Own.of v12 3 r2.2.1, Own.of v13 3 r2.2.2.1, Own.map (κ := Int) (ν := Int) b4 r2.2.2.2, Own.blk b2 (.cells #[vI 0, vI 0] 29 (0, 0)), Own.blk b1 (.cells #[.slice none 0 0, .map none] 60 (0, 0))] := hS104.unpack [Own.blk b5 (.cells #[.slice A0 l0.length c0, v12, v13, .map (some b4)] 102 (0, 0)), Own.of v12 3 r2.2.1, Own.of v13 3 r2.2.2.1, Own.map (κ := Int) (ν := Int) b4 r2.2.2.2]
  refine gb0 [3] [(11, vI r2.1)] ?_
  refine gn hK28 ?_
  refine ws fun K29 hK29 => ?_
  refine wr [(0, 0), (1, 0)] ?_
  refine gb0 [0, 1] [(94, .bool (r2.1 != 0)), (93, vI r2.1)] ?_
  refine gn hK29 ?_
  by_cases hc11 : r2.1 = 0
  ·rw [if_pos hc11] at h
   refine wk 94 (r2.1 != 0) false (bne_eq_false_iff_eq.2 hc11) ?_
   refine we_false (by kernel_rfl) ?_
   refine we_skip fun a hF => hK26 _ _ ?_ a hF
   refine wr [(0, 0), (1, 0)] ?_
   refine ge_addn (d := 101) (ty := 3) (x := (.tmp 87)) (y := (.const (vI 1))) (t := 3) (t2 := 3) (k := .i64) (m := i2) (by kernel_rfl) (by kernel_rfl) (by kernel_rfl) (by have h0 := hR0.small; omega) ?_
   refine gb0 [1] [(87, vI ((i2 + 1 : Nat) : Int))] ?_
   have hS107 := hS106.bring 3 rfl
   have hS108 := hS107.bring 3 rfl
   have hS109 := hS108.bring 3 rfl
   have hS110 := hS109.bring 5 rfl
   have hS111 := hS110.bring 5 rfl
   have hS112 := hS111.bring 5 rfl
   obtain rfl := si h
   exact ge_nil fun a hF => hQ _ _ _ (Outs.again ⟨v12, v13, hS112, hF.weaken ea⟩)
  ·rw [if_neg hc11] at h
   refine wk 94 (r2.1 != 0) true (bne_iff_ne.2 hc11) ?_
   refine we_true (by kernel_rfl) ?_
   refine ws fun K30 hK30 => ?_
   refine wr [(0, 0), (1, 0), (2, 0), (3, 1), (4, 0), (5, 0), (6, 2), (7, 2)] ?_
   refine gb0 [0, 1, 2] [(97, vI (i2 : Int)), (96, vI r2.1), (95, .func (.func 37) #[] #[])] ?_
   refine ge_call (d := some 98) (f := 37) (args := #[vI r2.1, vI (i2 : Int)]) (by kernel_rfl) (mach_Look_1_ok r2.1 (i2 : Int) _ _ rfl) ?_
   rintro _ w31 ⟨v14, m11, rfl, hS113⟩
   refine ⟨_, rfl, hS113.below, ?_⟩
   have hS114 := hS106.call hS113
   refine gb0 [4, 5] [(100, .agg #[vI (((mach_Look_1.f r2.1 (i2 : Int)).2).Code), vI (((mach_Look_1.f r2.1 (i2 : Int)).2).At)]), (99, .agg #[v14, .map m11])] ?_
   obtain ⟨Z10, cz10, rfl⟩ := hS114.open 0 rfl
   have hS115 := hS114.bring 7 rfl
   refine gs b1 0 #[.slice none 0 0, .map none] 60 [(.slice Z10 (((mach_Look_1.f r2.1 (i2 : Int)).1).In).length cz10), .map m11] hS115 fun w32 hS116 => ?_
   have hS117 : St w0 w32 [Own.blk b1 (.cells #[(.slice Z10 (((mach_Look_1.f r2.1 (i2 : Int)).1).In).length cz10), .map m11] 60 (0, 0)), Own.of (.slice Z10 (((mach_Look_1.f r2.1 (i2 : Int)).1).In).length cz10) 3 (((mach_Look_1.f r2.1 (i2 : Int)).1).In), Own.mapv (κ := Int) (ν := Int) m11 (((mach_Look_1.f r2.1 (i2 : Int)).1).Close), Own.blk b5 (.cells #[.slice A0 l0.length c0, v12, v13, .map (some b4)] 102 (0, 0)), Own.of v12 3 r2.2.1, Own.of v13 3 r2.2.2.1, Own.map (κ := Int) (ν := Int) b4 r2.2.2.2, Own.blk b2 (.cells #[vI 0, vI 0] 29 (0, 0))] := hS116
   have hS118 := hS117.bring 7 rfl
   refine gs b2 0 #[vI 0, vI 0] 29 [vI (((mach_Look_1.f r2.1 (i2 : Int)).2).Code), vI (((mach_Look_1.f r2.1 (i2 : Int)).2).At)] hS118 fun w33 hS119 => ?_
   have hS120 : St w0 w33 [Own.blk b2 (.cells #[vI (((mach_Look_1.f r2.1 (i2 : Int)).2).Code), vI (((mach_Look_1.f r2.1 (i2 : Int)).2).At)] 29 (0, 0)), Own.blk b1 (.cells #[(.slice Z10 (((mach_Look_1.f r2.1 (i2 : Int)).1).In).length cz10), .map m11] 60 (0, 0)), Own.of (.slice Z10 (((mach_Look_1.f r2.1 (i2 : Int)).1).In).length cz10) 3 (((mach_Look_1.f r2.1 (i2 : Int)).1).In), Own.mapv (κ := Int) (ν := Int) m11 (((mach_Look_1.f r2.1 (i2 : Int)).1).Close), Own.blk b5 (.cells #[.slice A0 l0.length c0, v12, v13, .map (some b4)] 102 (0, 0)), Own.of v12 3 r2.2.1, Own.of v13 3 r2.2.2.1, Own.map (κ := Int) (ν := Int) b4 r2.2.2.2] := hS119
   refine gn hK30 ?_
   have hS121 := hS120.bring 3 rfl
   have hS122 := hS121.bring 3 rfl
   have hS123 := hS122.takeN 2
   obtain rfl := si h
   exact we_ret fun a hF => hQ _ _ _ (Outs.out nofun (Exits.on ⟨rfl, (pr [.cell 2 60, .cell 3 29] [.agg #[(.slice Z10 (((mach_Look_1.f r2.1 (i2 : Int)).1).In).length cz10), .map m11], .agg #[vI (((mach_Look_1.f r2.1 (i2 : Int)).2).Code), vI (((mach_Look_1.f r2.1 (i2 : Int)).2).At)]] [.loaded ⟨b1, 0, none⟩ ((.slice Z10 (((mach_Look_1.f r2.1 (i2 : Int)).1).In).length cz10)), .loaded ⟨b1, 1, none⟩ (.map m11), .loaded ⟨b2, 0, none⟩ (vI (((mach_Look_1.f r2.1 (i2 : Int)).2).Code)), .loaded ⟨b2, 1, none⟩ (vI (((mach_Look_1.f r2.1 (i2 : Int)).2).At))] ⟨hS120.c 1, hS120.c 1, hS120.c 0, hS120.c 0, trivial⟩ ⟨(.slice Z10 (((mach_Look_1.f r2.1 (i2 : Int)).1).In).length cz10), m11, rfl, hS123⟩) a hF⟩))
 ·rw [if_neg hc10] at h
  refine wk 88 (decide ((i2 : Int) < (l0.length : Int))) false (decide_eq_false hc10) ?_
  refine we_false (by kernel_rfl) ?_
  have hS124 := hS.bring 5 rfl
  have hS125 := hS124.bring 5 rfl
  have hS126 := hS125.bring 5 rfl
  have hS127 := hS126.bring 5 rfl
  have hS128 := hS127.bring 5 rfl
  have hS129 := hS128.bring 5 rfl
  obtain rfl := si h
  exact we_exit fun a hF => hQ _ _ _ (Outs.out nofun (Exits.here ⟨v8, v9, hS129, hF.weaken ea⟩))
abbrev mach_Look.A2 (w0 : World) (l0 : List SIns) (A0 : Option Addr) (c0 : Nat) (b1 : Nat) (b2 : Nat) (b4 : Nat) (b5 : Nat) (m12 : List Int) (m13 : List Int) (mp3 : List (Int × Int)) (Z11 : Option Addr) (cz11 : Nat) (Z14 : Option Addr) (cz14 : Nat) : Nat → Act → World → Prop := fun (s : Nat) a w => St w0 w [Own.blk b5 (.cells #[.slice A0 l0.length c0, (.slice Z11 m12.length cz11), (.slice Z14 m13.length cz14), .map (some b4)] 102 (0, 0)), Own.blk b2 (.cells #[vI 0, vI 0] 29 (0, 0)), Own.blk b1 (.cells #[.slice none 0 0, .map none] 60 (0, 0)), Own.of (.slice Z11 m12.length cz11) 3 m12, Own.of (.slice Z14 m13.length cz14) 3 m13, Own.map (κ := Int) (ν := Int) b4 mp3] ∧ Frm 209 a [(0, .slice A0 l0.length c0), (2, pP b1 0), (3, pP b2 0), (4, .func (.func 37) #[] #[]), (9, pP b5 0), (139, .slice A0 l0.length c0), (140, vI (l0.length : Int)), (141, vI (s : Int))]
abbrev mach_Look.B2 (w0 : World) (l0 : List SIns) (A0 : Option Addr) (c0 : Nat) (b1 : Nat) (b2 : Nat) (b4 : Nat) (b5 : Nat) (m12 : List Int) (m13 : List Int) (mp3 : List (Int × Int)) (Z11 : Option Addr) (cz11 : Nat) (Z14 : Option Addr) (cz14 : Nat) : (Unit ⊕ (SShape × SFault)) → Exit → Act → World → Prop := Exits 4 (fun (s : Unit) a w => St w0 w [Own.blk b5 (.cells #[.slice A0 l0.length c0, (.slice Z11 m12.length cz11), (.slice Z14 m13.length cz14), .map (some b4)] 102 (0, 0)), Own.blk b2 (.cells #[vI 0, vI 0] 29 (0, 0)), Own.blk b1 (.cells #[.slice none 0 0, .map none] 60 (0, 0)), Own.of (.slice Z11 m12.length cz11) 3 m12, Own.of (.slice Z14 m13.length cz14) 3 m13, Own.map (κ := Int) (ν := Int) b4 mp3] ∧ Frm 209 a [(0, .slice A0 l0.length c0), (2, pP b1 0), (3, pP b2 0), (9, pP b5 0)]) (Rets Try.prog Try.f22 (mach_Look.Post w0))
theorem mach_Look_r2 (K : Nat) (w0 : World) (l0 : List SIns) (A0 : Option Addr) (c0 : Nat) (hR0 : RdL w0 A0 l0) (hL0 : l0.length ≤ c0) (b1 : Nat) (b2 : Nat) (hc1 : ¬ ((l0.length : Int) > 2000)) (hc9 : l0.length ≤ 17592186044416) (b4 : Nat) (Z7 : Option Addr) (cz7 : Nat) (b5 : Nat) (m12 : List Int) (m13 : List Int) (mp3 : List (Int × Int)) (Z11 : Option Addr) (cz11 : Nat) (hc12 : ¬ ((m12.length : Int) > 0)) (Z14 : Option Addr) (cz14 : Nat) (s : Nat) (o : Nat ⊕ (Unit ⊕ (SShape × SFault))) (h : mach_Look.r2 l0 m13 s = some o) (a : Act) (w : World) (hA : mach_Look.A2 w0 l0 A0 c0 b1 b2 b4 b5 m12 m13 mp3 Z11 cz11 Z14 cz14 s a w) (Q : Exit → Act → World → Prop) (hQ : ∀ x a w, Outs (mach_Look.A2 w0 l0 A0 c0 b1 b2 b4 b5 m12 m13 mp3 Z11 cz11 Z14 cz14) (mach_Look.B2 w0 l0 A0 c0 b1 b2 b4 b5 m12 m13 mp3 Z11 cz11 Z14 cz14) o x a w → Q x a w) : (subF Try.f22 [1, 1, 1, 1, 1, 1, 1, 0, 1, 0, 0]).wp Try.prog Q a w := by
 obtain ⟨i3, hs⟩ : ∃ z, z = s := ⟨s, rfl⟩
 subst hs
 obtain ⟨hS, hF⟩ := hA
 replace hS : St w0 w [Own.blk b5 (.cells #[.slice A0 l0.length c0, (.slice Z11 m12.length cz11), (.slice Z14 m13.length cz14), .map (some b4)] 102 (0, 0)), Own.blk b2 (.cells #[vI 0, vI 0] 29 (0, 0)), Own.blk b1 (.cells #[.slice none 0 0, .map none] 60 (0, 0)), Own.of (.slice Z11 m12.length cz11) 3 m12, Own.of (.slice Z14 m13.length cz14) 3 m13, Own.map (κ := Int) (ν := Int) b4 mp3] := hS
 simp only [mach_Look.r2] at h
 refine (?_ : WE Try.prog 209 (subF Try.f22 [1, 1, 1, 1, 1, 1, 1, 0, 1, 0, 0]) Q [(0, .slice A0 l0.length c0), (2, pP b1 0), (3, pP b2 0), (4, .func (.func 37) #[] #[]), (9, pP b5 0), (139, .slice A0 l0.length c0), (140, vI (l0.length : Int)), (141, vI (i3 : Int))] w) a hF
 clear hF a
 refine ws fun K39 hK39 => ?_
 refine wr [(0, 0)] ?_
 refine gb0 [0] [(142, .bool (decide ((i3 : Int) < (l0.length : Int))))] ?_
 refine gn hK39 ?_
 refine ws fun K40 hK40 => ?_
 by_cases hc15 : (i3 : Int) < (l0.length : Int)
 ·rw [if_pos hc15] at h
  refine wk 142 (decide ((i3 : Int) < (l0.length : Int))) true (decide_eq_true hc15) ?_
  refine we_true (by kernel_rfl) ?_
  refine we_skip fun a hF => hK40 _ _ ?_ a hF
  refine ws fun K41 hK41 => ?_
  refine we_block ?_
  refine ws fun K42 hK42 => ?_
  refine wr [(0, 0), (1, 0), (2, 0), (3, 1), (4, 0), (5, 2)] ?_
  refine gb0 [0] [(143, vI (i3 : Int))] ?_
  rcases hx9 : l0[i3]? with _ | e4
  ·rw [hx9] at h; cases h
  rw [hx9] at h
  simp only [] at h
  refine gi 144 0 22 41 3 l0.length c0 (.tmp 139) (.tmp 141) A0 .i64 (i3 : Int) i3 ((hS.rd hR0).eqSome (pos_of_get hx9)) rfl (lt_of_get hx9) ?_
  refine gb [2] [(145, .agg #[vI e4.Op, vI e4.A, vI e4.B])] [.loaded ⟨blkOf A0, offOf A0 + i3 * 3, none⟩ (vI e4.Op), .loaded ⟨blkOf A0, offOf A0 + i3 * 3 + 1, none⟩ (vI e4.A), .loaded ⟨blkOf A0, offOf A0 + i3 * 3 + 2, none⟩ (vI e4.B)] ⟨RdL.cell (j := 0) (hS.rd hR0) hx9 rfl, RdL.cell (j := 1) (hS.rd hR0) hx9 rfl, RdL.cell (j := 2) (hS.rd hR0) hx9 rfl, trivial⟩ ?_
  refine gw (some 13) (.cells #[vI 0, vI 0, vI 0] 41) (fun b => pP b 0) hS fun b6 w41 hx10 hS159 => ?_
  refine gb0 [4] [(12, vI (i3 : Int))] ?_
  refine gs b6 0 #[vI 0, vI 0, vI 0] 41 [vI e4.Op, vI e4.A, vI e4.B] hS159 fun w42 hS160 => ?_
  have hS161 : St w0 w42 [Own.blk b6 (.cells #[vI e4.Op, vI e4.A, vI e4.B] 41 (0, 0)), Own.blk b5 (.cells #[.slice A0 l0.length c0, (.slice Z11 m12.length cz11), (.slice Z14 m13.length cz14), .map (some b4)] 102 (0, 0)), Own.blk b2 (.cells #[vI 0, vI 0] 29 (0, 0)), Own.blk b1 (.cells #[.slice none 0 0, .map none] 60 (0, 0)), Own.of (.slice Z11 m12.length cz11) 3 m12, Own.of (.slice Z14 m13.length cz14) 3 m13, Own.map (κ := Int) (ν := Int) b4 mp3] := hS160
  refine gn hK42 ?_
  refine ws fun K43 hK43 => ?_
  refine ws fun K44 hK44 => ?_
  refine wr [(0, 0), (1, 0), (2, 0), (3, 0), (4, 0), (5, 0), (6, 0), (7, 0)] ?_
  refine gb [0, 1, 2, 3] [(149, .bool (e4.Op != 11)), (148, .bool (e4.Op != 11)), (147, vI e4.Op), (146, pP b6 0)] [.loaded ⟨b6, 0, none⟩ (vI e4.Op)] ⟨hS161.c 0, trivial⟩ ?_
  by_cases hc16 : e4.Op = 11
  ·rw [if_pos hc16] at h
   refine gk 149 (e4.Op != 11) false (bne_eq_false_iff_eq.2 hc16) ?_
   refine gb0 [4, 5, 6, 7] [(153, .bool false), (152, undef), (151, undef), (150, undef)] ?_
   refine gn hK44 ?_
   refine we_false (by kernel_rfl) ?_
   refine we_skip fun a hF => hK43 _ _ ?_ a hF
   refine ws fun K45 hK45 => ?_
   refine wr [(0, 0)] ?_
   refine gb0 [0] [(14, vI (-1))] ?_
   refine gn hK45 ?_
   refine ws fun K46 hK46 => ?_
   refine ws fun K47 hK47 => ?_
   refine wr [(0, 0), (1, 0), (2, 0), (3, 0), (4, 0)] ?_
   refine gb [0, 1, 2, 3, 4] [(158, .bool (decide (e4.A < (l0.length : Int)))), (157, vI (l0.length : Int)), (156, .slice A0 l0.length c0), (155, vI e4.A), (154, pP b6 1)] [.loaded ⟨b6, 1, none⟩ (vI e4.A)] ⟨hS161.c 0, trivial⟩ ?_
   refine gn hK47 ?_
   by_cases hc17 : e4.A < (l0.length : Int)
   ·rw [if_pos hc17] at h
    refine wk 158 (decide (e4.A < (l0.length : Int))) true (decide_eq_true hc17) ?_
    refine we_true (by kernel_rfl) ?_
    refine we_draws (by kernel_rfl) [(0, 0), (1, 0), (2, 0), (3, 0), (4, 0), (5, 0), (6, 0), (7, 0), (8, 0), (9, 0)] (by kernel_rfl) ?_
    have hS162 := hS161.drew
    refine gb [0, 1, 2, 3, 4, 5, 6] [(165, vI e4.A), (164, pP b6 1), (163, (.slice Z14 m13.length cz14)), (162, pP b5 2), (161, pP b5 2), (160, pP b5 0), (159, pP b5 0)] [.loaded ⟨b5, 2, none⟩ ((.slice Z14 m13.length cz14)), .loaded ⟨b6, 1, none⟩ (vI e4.A)] ⟨hS162.c 1, hS162.c 0, trivial⟩ ?_
    by_cases hc18 : 0 ≤ e4.A
    ·rw [if_pos hc18] at h
     rcases hx11 : m13[(e4.A).toNat]? with _ | e5
     ·rw [hx11] at h; cases h
     rw [hx11] at h
     simp only [] at h
     refine gi 166 0 23 3 1 m13.length cz14 (.tmp 163) (.tmp 165) Z14 .i64 e4.A ((e4.A).toNat) ((hS162.rdAt 5 rfl).eqSome (pos_of_get hx11)) (Int.toNat_of_nonneg hc18).symm (lt_of_get hx11) ?_
     refine gb [8, 9] [(14, vI e5), (167, vI e5)] [.loaded ⟨blkOf Z14, offOf Z14 + ((e4.A).toNat) * 1, none⟩ (vI e5)] ⟨RdL.cell (j := 0) (hS162.rdAt 5 rfl) hx11 rfl, trivial⟩ ?_
     refine gn hK46 ?_
     refine ws fun K48 hK48 => ?_
     refine wr [(0, 0), (1, 0), (2, 0), (3, 0), (4, 0), (5, 0), (6, 0), (7, 0), (8, 0), (9, 0), (10, 0), (11, 0), (12, 0), (13, 0), (14, 0), (15, 0), (16, 0), (17, 0), (18, 0), (19, 0), (20, 0), (21, 0), (22, 0)] ?_
     refine gb [0, 1, 2, 3, 4] [(172, .bool (decide (e4.A ≤ (i3 : Int)))), (171, .bool (decide (e4.A ≤ (i3 : Int)))), (170, vI (i3 : Int)), (169, vI e4.A), (168, pP b6 1)] [.loaded ⟨b6, 1, none⟩ (vI e4.A)] ⟨hS162.c 0, trivial⟩ ?_
     by_cases hc19 : e4.A ≤ (i3 : Int)
     ·rw [if_pos hc19] at h
      refine gk 172 (decide (e4.A ≤ (i3 : Int))) true (decide_eq_true hc19) ?_
      refine gb0 [5, 6, 7, 8, 9, 10, 11, 12, 13, 14, 15, 16, 17, 18, 19, 20, 21, 22] [(190, .bool true), (189, undef), (188, undef), (187, undef), (186, undef), (185, undef), (184, undef), (183, undef), (182, undef), (181, undef), (180, undef), (179, .bool true), (178, .bool true), (177, undef), (176, undef), (175, undef), (174, undef), (173, undef)] ?_
      refine gn hK48 ?_
      refine we_true (by kernel_rfl) ?_
      refine ws fun K49 hK49 => ?_
      refine wr [(0, 0), (1, 0), (2, 1), (3, 0), (4, 0), (5, 2), (6, 2)] ?_
      refine gb0 [0, 1] [(192, vI (i3 : Int)), (191, .func (.func 37) #[] #[])] ?_
      refine ge_call (d := some 193) (f := 37) (args := #[vI 7, vI (i3 : Int)]) (by kernel_rfl) (mach_Look_1_ok 7 (i3 : Int) _ _ rfl) ?_
      rintro _ w43 ⟨v19, m16, rfl, hS163⟩
      refine ⟨_, rfl, hS163.below, ?_⟩
      have hS164 := hS162.call hS163
      refine gb0 [3, 4] [(195, .agg #[vI (((mach_Look_1.f 7 (i3 : Int)).2).Code), vI (((mach_Look_1.f 7 (i3 : Int)).2).At)]), (194, .agg #[v19, .map m16])] ?_
      obtain ⟨Z15, cz15, rfl⟩ := hS164.open 0 rfl
      have hS165 := hS164.bring 5 rfl
      refine gs b1 0 #[.slice none 0 0, .map none] 60 [(.slice Z15 (((mach_Look_1.f 7 (i3 : Int)).1).In).length cz15), .map m16] hS165 fun w44 hS166 => ?_
      have hS167 : St w0 w44 [Own.blk b1 (.cells #[(.slice Z15 (((mach_Look_1.f 7 (i3 : Int)).1).In).length cz15), .map m16] 60 (0, 0)), Own.of (.slice Z15 (((mach_Look_1.f 7 (i3 : Int)).1).In).length cz15) 3 (((mach_Look_1.f 7 (i3 : Int)).1).In), Own.mapv (κ := Int) (ν := Int) m16 (((mach_Look_1.f 7 (i3 : Int)).1).Close), Own.blk b6 (.cells #[vI e4.Op, vI e4.A, vI e4.B] 41 (0, 0)), Own.blk b5 (.cells #[.slice A0 l0.length c0, (.slice Z11 m12.length cz11), (.slice Z14 m13.length cz14), .map (some b4)] 102 (0, 0)), Own.blk b2 (.cells #[vI 0, vI 0] 29 (0, 0)), Own.of (.slice Z11 m12.length cz11) 3 m12, Own.of (.slice Z14 m13.length cz14) 3 m13, Own.map (κ := Int) (ν := Int) b4 mp3] := hS166
      have hS168 := hS167.bring 5 rfl
      refine gs b2 0 #[vI 0, vI 0] 29 [vI (((mach_Look_1.f 7 (i3 : Int)).2).Code), vI (((mach_Look_1.f 7 (i3 : Int)).2).At)] hS168 fun w45 hS169 => ?_
      have hS170 : St w0 w45 [Own.blk b2 (.cells #[vI (((mach_Look_1.f 7 (i3 : Int)).2).Code), vI (((mach_Look_1.f 7 (i3 : Int)).2).At)] 29 (0, 0)), Own.blk b1 (.cells #[(.slice Z15 (((mach_Look_1.f 7 (i3 : Int)).1).In).length cz15), .map m16] 60 (0, 0)), Own.of (.slice Z15 (((mach_Look_1.f 7 (i3 : Int)).1).In).length cz15) 3 (((mach_Look_1.f 7 (i3 : Int)).1).In), Own.mapv (κ := Int) (ν := Int) m16 (((mach_Look_1.f 7 (i3 : Int)).1).Close), Own.blk b6 (.cells #[vI e4.Op, vI e4.A, vI e4.B] 41 (0, 0)), Own.blk b5 (.cells #[.slice A0 l0.length c0, (.slice Z11 m12.length cz11), (.slice Z14 m13.length cz14), .map (some b4)] 102 (0, 0)), Own.of (.slice Z11 m12.length cz11) 3 m12, Own.of (.slice Z14 m13.length cz14) 3 m13, Own.map (κ := Int) (ν := Int) b4 mp3] := hS169
      refine gn hK49 ?_
      have hS171 := hS170.bring 3 rfl
      have hS172 := hS171.bring 3 rfl
      have hS173 := hS172.takeN 2
      obtain rfl := si h
      exact we_ret fun a hF => hQ _ _ _ (Outs.out nofun (Exits.on ⟨rfl, (pr [.cell 2 60, .cell 3 29] [.agg #[(.slice Z15 (((mach_Look_1.f 7 (i3 : Int)).1).In).length cz15), .map m16], .agg #[vI (((mach_Look_1.f 7 (i3 : Int)).2).Code), vI (((mach_Look_1.f 7 (i3 : Int)).2).At)]] [.loaded ⟨b1, 0, none⟩ ((.slice Z15 (((mach_Look_1.f 7 (i3 : Int)).1).In).length cz15)), .loaded ⟨b1, 1, none⟩ (.map m16), .loaded ⟨b2, 0, none⟩ (vI (((mach_Look_1.f 7 (i3 : Int)).2).Code)), .loaded ⟨b2, 1, none⟩ (vI (((mach_Look_1.f 7 (i3 : Int)).2).At))] ⟨hS170.c 1, hS170.c 1, hS170.c 0, hS170.c 0, trivial⟩ ⟨(.slice Z15 (((mach_Look_1.f 7 (i3 : Int)).1).In).length cz15), m16, rfl, hS173⟩) a hF⟩))
     ·rw [if_neg hc19] at h
      refine gk 172 (decide (e4.A ≤ (i3 : Int))) false (decide_eq_false hc19) ?_
      refine gb [5, 6, 7, 8, 9, 10, 11] [(179, .bool (decide (e4.A > (l0.length : Int)))), (178, .bool (decide (e4.A > (l0.length : Int)))), (177, .bool (decide (e4.A > (l0.length : Int)))), (176, vI (l0.length : Int)), (175, .slice A0 l0.length c0), (174, vI e4.A), (173, pP b6 1)] [.loaded ⟨b6, 1, none⟩ (vI e4.A)] ⟨hS162.c 0, trivial⟩ ?_
      by_cases hc20 : e4.A > (l0.length : Int)
      ·rw [if_pos hc20] at h
       refine gk 179 (decide (e4.A > (l0.length : Int))) true (decide_eq_true hc20) ?_
       refine gb0 [12, 13, 14, 15, 16, 17, 18, 19, 20, 21, 22] [(190, .bool true), (189, undef), (188, undef), (187, undef), (186, undef), (185, undef), (184, undef), (183, undef), (182, undef), (181, undef), (180, undef)] ?_
       refine gn hK48 ?_
       refine we_true (by kernel_rfl) ?_
       refine ws fun K50 hK50 => ?_
       refine wr [(0, 0), (1, 0), (2, 1), (3, 0), (4, 0), (5, 2), (6, 2)] ?_
       refine gb0 [0, 1] [(192, vI (i3 : Int)), (191, .func (.func 37) #[] #[])] ?_
       refine ge_call (d := some 193) (f := 37) (args := #[vI 7, vI (i3 : Int)]) (by kernel_rfl) (mach_Look_1_ok 7 (i3 : Int) _ _ rfl) ?_
       rintro _ w46 ⟨v20, m17, rfl, hS174⟩
       refine ⟨_, rfl, hS174.below, ?_⟩
       have hS175 := hS162.call hS174
       refine gb0 [3, 4] [(195, .agg #[vI (((mach_Look_1.f 7 (i3 : Int)).2).Code), vI (((mach_Look_1.f 7 (i3 : Int)).2).At)]), (194, .agg #[v20, .map m17])] ?_
       obtain ⟨Z16, cz16, rfl⟩ := hS175.open 0 rfl
       have hS176 := hS175.bring 5 rfl
       refine gs b1 0 #[.slice none 0 0, .map none] 60 [(.slice Z16 (((mach_Look_1.f 7 (i3 : Int)).1).In).length cz16), .map m17] hS176 fun w47 hS177 => ?_
       have hS178 : St w0 w47 [Own.blk b1 (.cells #[(.slice Z16 (((mach_Look_1.f 7 (i3 : Int)).1).In).length cz16), .map m17] 60 (0, 0)), Own.of (.slice Z16 (((mach_Look_1.f 7 (i3 : Int)).1).In).length cz16) 3 (((mach_Look_1.f 7 (i3 : Int)).1).In), Own.mapv (κ := Int) (ν := Int) m17 (((mach_Look_1.f 7 (i3 : Int)).1).Close), Own.blk b6 (.cells #[vI e4.Op, vI e4.A, vI e4.B] 41 (0, 0)), Own.blk b5 (.cells #[.slice A0 l0.length c0, (.slice Z11 m12.length cz11), (.slice Z14 m13.length cz14), .map (some b4)] 102 (0, 0)), Own.blk b2 (.cells #[vI 0, vI 0] 29 (0, 0)), Own.of (.slice Z11 m12.length cz11) 3 m12, Own.of (.slice Z14 m13.length cz14) 3 m13, Own.map (κ := Int) (ν := Int) b4 mp3] := hS177
       have hS179 := hS178.bring 5 rfl
       refine gs b2 0 #[vI 0, vI 0] 29 [vI (((mach_Look_1.f 7 (i3 : Int)).2).Code), vI (((mach_Look_1.f 7 (i3 : Int)).2).At)] hS179 fun w48 hS180 => ?_
       have hS181 : St w0 w48 [Own.blk b2 (.cells #[vI (((mach_Look_1.f 7 (i3 : Int)).2).Code), vI (((mach_Look_1.f 7 (i3 : Int)).2).At)] 29 (0, 0)), Own.blk b1 (.cells #[(.slice Z16 (((mach_Look_1.f 7 (i3 : Int)).1).In).length cz16), .map m17] 60 (0, 0)), Own.of (.slice Z16 (((mach_Look_1.f 7 (i3 : Int)).1).In).length cz16) 3 (((mach_Look_1.f 7 (i3 : Int)).1).In), Own.mapv (κ := Int) (ν := Int) m17 (((mach_Look_1.f 7 (i3 : Int)).1).Close), Own.blk b6 (.cells #[vI e4.Op, vI e4.A, vI e4.B] 41 (0, 0)), Own.blk b5 (.cells #[.slice A0 l0.length c0, (.slice Z11 m12.length cz11), (.slice Z14 m13.length cz14), .map (some b4)] 102 (0, 0)), Own.of (.slice Z11 m12.length cz11) 3 m12, Own.of (.slice Z14 m13.length cz14) 3 m13, Own.map (κ := Int) (ν := Int) b4 mp3] := hS180
       refine gn hK50 ?_
       have hS182 := hS181.bring 3 rfl
       have hS183 := hS182.bring 3 rfl
       have hS184 := hS183.takeN 2
       obtain rfl := si h
       exact we_ret fun a hF => hQ _ _ _ (Outs.out nofun (Exits.on ⟨rfl, (pr [.cell 2 60, .cell 3 29] [.agg #[(.slice Z16 (((mach_Look_1.f 7 (i3 : Int)).1).In).length cz16), .map m17], .agg #[vI (((mach_Look_1.f 7 (i3 : Int)).2).Code), vI (((mach_Look_1.f 7 (i3 : Int)).2).At)]] [.loaded ⟨b1, 0, none⟩ ((.slice Z16 (((mach_Look_1.f 7 (i3 : Int)).1).In).length cz16)), .loaded ⟨b1, 1, none⟩ (.map m17), .loaded ⟨b2, 0, none⟩ (vI (((mach_Look_1.f 7 (i3 : Int)).2).Code)), .loaded ⟨b2, 1, none⟩ (vI (((mach_Look_1.f 7 (i3 : Int)).2).At))] ⟨hS181.c 1, hS181.c 1, hS181.c 0, hS181.c 0, trivial⟩ ⟨(.slice Z16 (((mach_Look_1.f 7 (i3 : Int)).1).In).length cz16), m17, rfl, hS184⟩) a hF⟩))
      ·rw [if_neg hc20] at h
       refine gk 179 (decide (e4.A > (l0.length : Int))) false (decide_eq_false hc20) ?_
       refine gb [12, 13, 14, 15, 16, 17, 18] [(186, vI (i3 : Int)), (185, (.slice Z14 m13.length cz14)), (184, pP b5 2), (183, pP b5 2), (182, pP b5 0), (181, pP b5 0), (180, vI e5)] [.loaded ⟨b5, 2, none⟩ ((.slice Z14 m13.length cz14))] ⟨hS162.c 1, trivial⟩ ?_
       rcases hx12 : m13[i3]? with _ | e6
       ·rw [hx12] at h; cases h
       rw [hx12] at h
       simp only [] at h
       refine gi 187 0 23 3 1 m13.length cz14 (.tmp 185) (.tmp 186) Z14 .i64 (i3 : Int) i3 ((hS162.rdAt 5 rfl).eqSome (pos_of_get hx12)) rfl (lt_of_get hx12) ?_
       refine gb [20, 21, 22] [(190, .bool (e5 != e6)), (189, .bool (e5 != e6)), (188, vI e6)] [.loaded ⟨blkOf Z14, offOf Z14 + i3 * 1, none⟩ (vI e6)] ⟨RdL.cell (j := 0) (hS162.rdAt 5 rfl) hx12 rfl, trivial⟩ ?_
       refine gn hK48 ?_
       by_cases hc21 : e5 = e6
       ·rw [if_pos hc21] at h
        refine wk 190 (e5 != e6) false (bne_eq_false_iff_eq.2 hc21) ?_
        refine we_false (by kernel_rfl) ?_
        refine we_skip fun a hF => hK41 _ _ ?_ a hF
        refine wr [(0, 0), (1, 0)] ?_
        refine ge_addn (d := 196) (ty := 3) (x := (.tmp 141)) (y := (.const (vI 1))) (t := 3) (t2 := 3) (k := .i64) (m := i3) (by kernel_rfl) (by kernel_rfl) (by kernel_rfl) (by have h0 := hR0.small; omega) ?_
        refine gb0 [1] [(141, vI ((i3 + 1 : Nat) : Int))] ?_
        have hS185 := hS162.bring 6 rfl
        have hS186 := hS185.bring 6 rfl
        have hS187 := hS186.bring 6 rfl
        have hS188 := hS187.bring 6 rfl
        have hS189 := hS188.bring 6 rfl
        have hS190 := hS189.bring 6 rfl
        have hS191 := hS190.takeN 6
        obtain rfl := si h
        exact ge_nil fun a hF => hQ _ _ _ (Outs.again ⟨hS191, hF.weaken ea⟩)
       ·rw [if_neg hc21] at h
        refine wk 190 (e5 != e6) true (bne_iff_ne.2 hc21) ?_
        refine we_true (by kernel_rfl) ?_
        refine ws fun K51 hK51 => ?_
        refine wr [(0, 0), (1, 0), (2, 1), (3, 0), (4, 0), (5, 2), (6, 2)] ?_
        refine gb0 [0, 1] [(192, vI (i3 : Int)), (191, .func (.func 37) #[] #[])] ?_
        refine ge_call (d := some 193) (f := 37) (args := #[vI 7, vI (i3 : Int)]) (by kernel_rfl) (mach_Look_1_ok 7 (i3 : Int) _ _ rfl) ?_
        rintro _ w49 ⟨v21, m18, rfl, hS192⟩
        refine ⟨_, rfl, hS192.below, ?_⟩
        have hS193 := hS162.call hS192
        refine gb0 [3, 4] [(195, .agg #[vI (((mach_Look_1.f 7 (i3 : Int)).2).Code), vI (((mach_Look_1.f 7 (i3 : Int)).2).At)]), (194, .agg #[v21, .map m18])] ?_
        obtain ⟨Z17, cz17, rfl⟩ := hS193.open 0 rfl
        have hS194 := hS193.bring 5 rfl
        refine gs b1 0 #[.slice none 0 0, .map none] 60 [(.slice Z17 (((mach_Look_1.f 7 (i3 : Int)).1).In).length cz17), .map m18] hS194 fun w50 hS195 => ?_
        have hS196 : St w0 w50 [Own.blk b1 (.cells #[(.slice Z17 (((mach_Look_1.f 7 (i3 : Int)).1).In).length cz17), .map m18] 60 (0, 0)), Own.of (.slice Z17 (((mach_Look_1.f 7 (i3 : Int)).1).In).length cz17) 3 (((mach_Look_1.f 7 (i3 : Int)).1).In), Own.mapv (κ := Int) (ν := Int) m18 (((mach_Look_1.f 7 (i3 : Int)).1).Close), Own.blk b6 (.cells #[vI e4.Op, vI e4.A, vI e4.B] 41 (0, 0)), Own.blk b5 (.cells #[.slice A0 l0.length c0, (.slice Z11 m12.length cz11), (.slice Z14 m13.length cz14), .map (some b4)] 102 (0, 0)), Own.blk b2 (.cells #[vI 0, vI 0] 29 (0, 0)), Own.of (.slice Z11 m12.length cz11) 3 m12, Own.of (.slice Z14 m13.length cz14) 3 m13, Own.map (κ := Int) (ν := Int) b4 mp3] := hS195
        have hS197 := hS196.bring 5 rfl
        refine gs b2 0 #[vI 0, vI 0] 29 [vI (((mach_Look_1.f 7 (i3 : Int)).2).Code), vI (((mach_Look_1.f 7 (i3 : Int)).2).At)] hS197 fun w51 hS198 => ?_
        have hS199 : St w0 w51 [Own.blk b2 (.cells #[vI (((mach_Look_1.f 7 (i3 : Int)).2).Code), vI (((mach_Look_1.f 7 (i3 : Int)).2).At)] 29 (0, 0)), Own.blk b1 (.cells #[(.slice Z17 (((mach_Look_1.f 7 (i3 : Int)).1).In).length cz17), .map m18] 60 (0, 0)), Own.of (.slice Z17 (((mach_Look_1.f 7 (i3 : Int)).1).In).length cz17) 3 (((mach_Look_1.f 7 (i3 : Int)).1).In), Own.mapv (κ := Int) (ν := Int) m18 (((mach_Look_1.f 7 (i3 : Int)).1).Close), Own.blk b6 (.cells #[vI e4.Op, vI e4.A, vI e4.B] 41 (0, 0)), Own.blk b5 (.cells #[.slice A0 l0.length c0, (.slice Z11 m12.length cz11), (.slice Z14 m13.length cz14), .map (some b4)] 102 (0, 0)), Own.of (.slice Z11 m12.length cz11) 3 m12, Own.of (.slice Z14 m13.length cz14) 3 m13, Own.map (κ := Int) (ν := Int) b4 mp3] := hS198
        refine gn hK51 ?_
        have hS200 := hS199.bring 3 rfl
        have hS201 := hS200.bring 3 rfl
        have hS202 := hS201.takeN 2
        obtain rfl := si h
        exact we_ret fun a hF => hQ _ _ _ (Outs.out nofun (Exits.on ⟨rfl, (pr [.cell 2 60, .cell 3 29] [.agg #[(.slice Z17 (((mach_Look_1.f 7 (i3 : Int)).1).In).length cz17), .map m18], .agg #[vI (((mach_Look_1.f 7 (i3 : Int)).2).Code), vI (((mach_Look_1.f 7 (i3 : Int)).2).At)]] [.loaded ⟨b1, 0, none⟩ ((.slice Z17 (((mach_Look_1.f 7 (i3 : Int)).1).In).length cz17)), .loaded ⟨b1, 1, none⟩ (.map m18), .loaded ⟨b2, 0, none⟩ (vI (((mach_Look_1.f 7 (i3 : Int)).2).Code)), .loaded ⟨b2, 1, none⟩ (vI (((mach_Look_1.f 7 (i3 : Int)).2).At))] ⟨hS199.c 1, hS199.c 1, hS199.c 0, hS199.c 0, trivial⟩ ⟨(.slice Z17 (((mach_Look_1.f 7 (i3 : Int)).1).In).length cz17), m18, rfl, hS202⟩) a hF⟩))
    ·rw [if_neg hc18] at h
     cases h
   ·rw [if_neg hc17] at h
    refine wk 158 (decide (e4.A < (l0.length : Int))) false (decide_eq_false hc17) ?_
    refine we_false (by kernel_rfl) ?_
    refine we_skip fun a hF => hK46 _ _ ?_ a hF
    refine ws fun K52 hK52 => ?_
    refine wr [(0, 0), (1, 0), (2, 0), (3, 0), (4, 0), (5, 0), (6, 0), (7, 0), (8, 0), (9, 0), (10, 0), (11, 0), (12, 0), (13, 0), (14, 0), (15, 0), (16, 0), (17, 0), (18, 0), (19, 0), (20, 0), (21, 0), (22, 0)] ?_
    refine gb [0, 1, 2, 3, 4] [(172, .bool (decide (e4.A ≤ (i3 : Int)))), (171, .bool (decide (e4.A ≤ (i3 : Int)))), (170, vI (i3 : Int)), (169, vI e4.A), (168, pP b6 1)] [.loaded ⟨b6, 1, none⟩ (vI e4.A)] ⟨hS161.c 0, trivial⟩ ?_
    by_cases hc22 : e4.A ≤ (i3 : Int)
    ·rw [if_pos hc22] at h
     refine gk 172 (decide (e4.A ≤ (i3 : Int))) true (decide_eq_true hc22) ?_
     refine gb0 [5, 6, 7, 8, 9, 10, 11, 12, 13, 14, 15, 16, 17, 18, 19, 20, 21, 22] [(190, .bool true), (189, undef), (188, undef), (187, undef), (186, undef), (185, undef), (184, undef), (183, undef), (182, undef), (181, undef), (180, undef), (179, .bool true), (178, .bool true), (177, undef), (176, undef), (175, undef), (174, undef), (173, undef)] ?_
     refine gn hK52 ?_
     refine we_true (by kernel_rfl) ?_
     refine ws fun K53 hK53 => ?_
     refine wr [(0, 0), (1, 0), (2, 1), (3, 0), (4, 0), (5, 2), (6, 2)] ?_
     refine gb0 [0, 1] [(192, vI (i3 : Int)), (191, .func (.func 37) #[] #[])] ?_
     refine ge_call (d := some 193) (f := 37) (args := #[vI 7, vI (i3 : Int)]) (by kernel_rfl) (mach_Look_1_ok 7 (i3 : Int) _ _ rfl) ?_
     rintro _ w52 ⟨v22, m19, rfl, hS203⟩
     refine ⟨_, rfl, hS203.below, ?_⟩
     have hS204 := hS161.call hS203
     refine gb0 [3, 4] [(195, .agg #[vI (((mach_Look_1.f 7 (i3 : Int)).2).Code), vI (((mach_Look_1.f 7 (i3 : Int)).2).At)]), (194, .agg #[v22, .map m19])] ?_
     obtain ⟨Z18, cz18, rfl⟩ := hS204.open 0 rfl
     have hS205 := hS204.bring 5 rfl
     refine gs b1 0 #[.slice none 0 0, .map none] 60 [(.slice Z18 (((mach_Look_1.f 7 (i3 : Int)).1).In).length cz18), .map m19] hS205 fun w53 hS206 => ?_
     have hS207 : St w0 w53 [Own.blk b1 (.cells #[(.slice Z18 (((mach_Look_1.f 7 (i3 : Int)).1).In).length cz18), .map m19] 60 (0, 0)), Own.of (.slice Z18 (((mach_Look_1.f 7 (i3 : Int)).1).In).length cz18) 3 (((mach_Look_1.f 7 (i3 : Int)).1).In), Own.mapv (κ := Int) (ν := Int) m19 (((mach_Look_1.f 7 (i3 : Int)).1).Close), Own.blk b6 (.cells #[vI e4.Op, vI e4.A, vI e4.B] 41 (0, 0)), Own.blk b5 (.cells #[.slice A0 l0.length c0, (.slice Z11 m12.length cz11), (.slice Z14 m13.length cz14), .map (some b4)] 102 (0, 0)), Own.blk b2 (.cells #[vI 0, vI 0] 29 (0, 0)), Own.of (.slice Z11 m12.length cz11) 3 m12, Own.of (.slice Z14 m13.length cz14) 3 m13, Own.map (κ := Int) (ν := Int) b4 mp3] := hS206
     have hS208 := hS207.bring 5 rfl
     refine gs b2 0 #[vI 0, vI 0] 29 [vI (((mach_Look_1.f 7 (i3 : Int)).2).Code), vI (((mach_Look_1.f 7 (i3 : Int)).2).At)] hS208 fun w54 hS209 => ?_
     have hS210 : St w0 w54 [Own.blk b2 (.cells #[vI (((mach_Look_1.f 7 (i3 : Int)).2).Code), vI (((mach_Look_1.f 7 (i3 : Int)).2).At)] 29 (0, 0)), Own.blk b1 (.cells #[(.slice Z18 (((mach_Look_1.f 7 (i3 : Int)).1).In).length cz18), .map m19] 60 (0, 0)), Own.of (.slice Z18 (((mach_Look_1.f 7 (i3 : Int)).1).In).length cz18) 3 (((mach_Look_1.f 7 (i3 : Int)).1).In), Own.mapv (κ := Int) (ν := Int) m19 (((mach_Look_1.f 7 (i3 : Int)).1).Close), Own.blk b6 (.cells #[vI e4.Op, vI e4.A, vI e4.B] 41 (0, 0)), Own.blk b5 (.cells #[.slice A0 l0.length c0, (.slice Z11 m12.length cz11), (.slice Z14 m13.length cz14), .map (some b4)] 102 (0, 0)), Own.of (.slice Z11 m12.length cz11) 3 m12, Own.of (.slice Z14 m13.length cz14) 3 m13, Own.map (κ := Int) (ν := Int) b4 mp3] := hS209
     refine gn hK53 ?_
     have hS211 := hS210.bring 3 rfl
     have hS212 := hS211.bring 3 rfl
     have hS213 := hS212.takeN 2
     obtain rfl := si h
     exact we_ret fun a hF => hQ _ _ _ (Outs.out nofun (Exits.on ⟨rfl, (pr [.cell 2 60, .cell 3 29] [.agg #[(.slice Z18 (((mach_Look_1.f 7 (i3 : Int)).1).In).length cz18), .map m19], .agg #[vI (((mach_Look_1.f 7 (i3 : Int)).2).Code), vI (((mach_Look_1.f 7 (i3 : Int)).2).At)]] [.loaded ⟨b1, 0, none⟩ ((.slice Z18 (((mach_Look_1.f 7 (i3 : Int)).1).In).length cz18)), .loaded ⟨b1, 1, none⟩ (.map m19), .loaded ⟨b2, 0, none⟩ (vI (((mach_Look_1.f 7 (i3 : Int)).2).Code)), .loaded ⟨b2, 1, none⟩ (vI (((mach_Look_1.f 7 (i3 : Int)).2).At))] ⟨hS210.c 1, hS210.c 1, hS210.c 0, hS210.c 0, trivial⟩ ⟨(.slice Z18 (((mach_Look_1.f 7 (i3 : Int)).1).In).length cz18), m19, rfl, hS213⟩) a hF⟩))
    ·rw [if_neg hc22] at h
     refine gk 172 (decide (e4.A ≤ (i3 : Int))) false (decide_eq_false hc22) ?_
     refine gb [5, 6, 7, 8, 9, 10, 11] [(179, .bool (decide (e4.A > (l0.length : Int)))), (178, .bool (decide (e4.A > (l0.length : Int)))), (177, .bool (decide (e4.A > (l0.length : Int)))), (176, vI (l0.length : Int)), (175, .slice A0 l0.length c0), (174, vI e4.A), (173, pP b6 1)] [.loaded ⟨b6, 1, none⟩ (vI e4.A)] ⟨hS161.c 0, trivial⟩ ?_
     by_cases hc23 : e4.A > (l0.length : Int)
     ·rw [if_pos hc23] at h
      refine gk 179 (decide (e4.A > (l0.length : Int))) true (decide_eq_true hc23) ?_
      refine gb0 [12, 13, 14, 15, 16, 17, 18, 19, 20, 21, 22] [(190, .bool true), (189, undef), (188, undef), (187, undef), (186, undef), (185, undef), (184, undef), (183, undef), (182, undef), (181, undef), (180, undef)] ?_
      refine gn hK52 ?_
      refine we_true (by kernel_rfl) ?_
      refine ws fun K54 hK54 => ?_
      refine wr [(0, 0), (1, 0), (2, 1), (3, 0), (4, 0), (5, 2), (6, 2)] ?_
      refine gb0 [0, 1] [(192, vI (i3 : Int)), (191, .func (.func 37) #[] #[])] ?_
      refine ge_call (d := some 193) (f := 37) (args := #[vI 7, vI (i3 : Int)]) (by kernel_rfl) (mach_Look_1_ok 7 (i3 : Int) _ _ rfl) ?_
      rintro _ w55 ⟨v23, m20, rfl, hS214⟩
      refine ⟨_, rfl, hS214.below, ?_⟩
      have hS215 := hS161.call hS214
      refine gb0 [3, 4] [(195, .agg #[vI (((mach_Look_1.f 7 (i3 : Int)).2).Code), vI (((mach_Look_1.f 7 (i3 : Int)).2).At)]), (194, .agg #[v23, .map m20])] ?_
      obtain ⟨Z19, cz19, rfl⟩ := hS215.open 0 rfl
      have hS216 := hS215.bring 5 rfl
      refine gs b1 0 #[.slice none 0 0, .map none] 60 [(.slice Z19 (((mach_Look_1.f 7 (i3 : Int)).1).In).length cz19), .map m20] hS216 fun w56 hS217 => ?_
      have hS218 : St w0 w56 [Own.blk b1 (.cells #[(.slice Z19 (((mach_Look_1.f 7 (i3 : Int)).1).In).length cz19), .map m20] 60 (0, 0)), Own.of (.slice Z19 (((mach_Look_1.f 7 (i3 : Int)).1).In).length cz19) 3 (((mach_Look_1.f 7 (i3 : Int)).1).In), Own.mapv (κ := Int) (ν := Int) m20 (((mach_Look_1.f 7 (i3 : Int)).1).Close), Own.blk b6 (.cells #[vI e4.Op, vI e4.A, vI e4.B] 41 (0, 0)), Own.blk b5 (.cells #[.slice A0 l0.length c0, (.slice Z11 m12.length cz11), (.slice Z14 m13.length cz14), .map (some b4)] 102 (0, 0)), Own.blk b2 (.cells #[vI 0, vI 0] 29 (0, 0)), Own.of (.slice Z11 m12.length cz11) 3 m12, Own.of (.slice Z14 m13.length cz14) 3 m13, Own.map (κ := Int) (ν := Int) b4 mp3] := hS217
      have hS219 := hS218.bring 5 rfl
      refine gs b2 0 #[vI 0, vI 0] 29 [vI (((mach_Look_1.f 7 (i3 : Int)).2).Code), vI (((mach_Look_1.f 7 (i3 : Int)).2).At)] hS219 fun w57 hS220 => ?_
      have hS221 : St w0 w57 [Own.blk b2 (.cells #[vI (((mach_Look_1.f 7 (i3 : Int)).2).Code), vI (((mach_Look_1.f 7 (i3 : Int)).2).At)] 29 (0, 0)), Own.blk b1 (.cells #[(.slice Z19 (((mach_Look_1.f 7 (i3 : Int)).1).In).length cz19), .map m20] 60 (0, 0)), Own.of (.slice Z19 (((mach_Look_1.f 7 (i3 : Int)).1).In).length cz19) 3 (((mach_Look_1.f 7 (i3 : Int)).1).In), Own.mapv (κ := Int) (ν := Int) m20 (((mach_Look_1.f 7 (i3 : Int)).1).Close), Own.blk b6 (.cells #[vI e4.Op, vI e4.A, vI e4.B] 41 (0, 0)), Own.blk b5 (.cells #[.slice A0 l0.length c0, (.slice Z11 m12.length cz11), (.slice Z14 m13.length cz14), .map (some b4)] 102 (0, 0)), Own.of (.slice Z11 m12.length cz11) 3 m12, Own.of (.slice Z14 m13.length cz14) 3 m13, Own.map (κ := Int) (ν := Int) b4 mp3] := hS220
      refine gn hK54 ?_
      have hS222 := hS221.bring 3 rfl
      have hS223 := hS222.bring 3 rfl
      have hS224 := hS223.takeN 2
      obtain rfl := si h
      exact we_ret fun a hF => hQ _ _ _ (Outs.out nofun (Exits.on ⟨rfl, (pr [.cell 2 60, .cell 3 29] [.agg #[(.slice Z19 (((mach_Look_1.f 7 (i3 : Int)).1).In).length cz19), .map m20], .agg #[vI (((mach_Look_1.f 7 (i3 : Int)).2).Code), vI (((mach_Look_1.f 7 (i3 : Int)).2).At)]] [.loaded ⟨b1, 0, none⟩ ((.slice Z19 (((mach_Look_1.f 7 (i3 : Int)).1).In).length cz19)), .loaded ⟨b1, 1, none⟩ (.map m20), .loaded ⟨b2, 0, none⟩ (vI (((mach_Look_1.f 7 (i3 : Int)).2).Code)), .loaded ⟨b2, 1, none⟩ (vI (((mach_Look_1.f 7 (i3 : Int)).2).At))] ⟨hS221.c 1, hS221.c 1, hS221.c 0, hS221.c 0, trivial⟩ ⟨(.slice Z19 (((mach_Look_1.f 7 (i3 : Int)).1).In).length cz19), m20, rfl, hS224⟩) a hF⟩))
     ·rw [if_neg hc23] at h
      refine gk 179 (decide (e4.A > (l0.length : Int))) false (decide_eq_false hc23) ?_
      refine gb [12, 13, 14, 15, 16, 17, 18] [(186, vI (i3 : Int)), (185, (.slice Z14 m13.length cz14)), (184, pP b5 2), (183, pP b5 2), (182, pP b5 0), (181, pP b5 0), (180, vI (-1))] [.loaded ⟨b5, 2, none⟩ ((.slice Z14 m13.length cz14))] ⟨hS161.c 1, trivial⟩ ?_
      rcases hx13 : m13[i3]? with _ | e7
      ·rw [hx13] at h; cases h
      rw [hx13] at h
      simp only [] at h
      refine gi 187 0 23 3 1 m13.length cz14 (.tmp 185) (.tmp 186) Z14 .i64 (i3 : Int) i3 ((hS161.rdAt 5 rfl).eqSome (pos_of_get hx13)) rfl (lt_of_get hx13) ?_
      refine gb [20, 21, 22] [(190, .bool ((-1) != e7)), (189, .bool ((-1) != e7)), (188, vI e7)] [.loaded ⟨blkOf Z14, offOf Z14 + i3 * 1, none⟩ (vI e7)] ⟨RdL.cell (j := 0) (hS161.rdAt 5 rfl) hx13 rfl, trivial⟩ ?_
      refine gn hK52 ?_
      by_cases hc24 : (-1) = e7
      ·rw [if_pos hc24] at h
       refine wk 190 ((-1) != e7) false (bne_eq_false_iff_eq.2 hc24) ?_
       refine we_false (by kernel_rfl) ?_
       refine we_skip fun a hF => hK41 _ _ ?_ a hF
       refine wr [(0, 0), (1, 0)] ?_
       refine ge_addn (d := 196) (ty := 3) (x := (.tmp 141)) (y := (.const (vI 1))) (t := 3) (t2 := 3) (k := .i64) (m := i3) (by kernel_rfl) (by kernel_rfl) (by kernel_rfl) (by have h0 := hR0.small; omega) ?_
       refine gb0 [1] [(141, vI ((i3 + 1 : Nat) : Int))] ?_
       have hS225 := hS161.bring 6 rfl
       have hS226 := hS225.bring 6 rfl
       have hS227 := hS226.bring 6 rfl
       have hS228 := hS227.bring 6 rfl
       have hS229 := hS228.bring 6 rfl
       have hS230 := hS229.bring 6 rfl
       have hS231 := hS230.takeN 6
       obtain rfl := si h
       exact ge_nil fun a hF => hQ _ _ _ (Outs.again ⟨hS231, hF.weaken ea⟩)
      ·rw [if_neg hc24] at h
       refine wk 190 ((-1) != e7) true (bne_iff_ne.2 hc24) ?_
       refine we_true (by kernel_rfl) ?_
       refine ws fun K55 hK55 => ?_
       refine wr [(0, 0), (1, 0), (2, 1), (3, 0), (4, 0), (5, 2), (6, 2)] ?_
       refine gb0 [0, 1] [(192, vI (i3 : Int)), (191, .func (.func 37) #[] #[])] ?_
       refine ge_call (d := some 193) (f := 37) (args := #[vI 7, vI (i3 : Int)]) (by kernel_rfl) (mach_Look_1_ok 7 (i3 : Int) _ _ rfl) ?_
       rintro _ w58 ⟨v24, m21, rfl, hS232⟩
       refine ⟨_, rfl, hS232.below, ?_⟩
       have hS233 := hS161.call hS232
       refine gb0 [3, 4] [(195, .agg #[vI (((mach_Look_1.f 7 (i3 : Int)).2).Code), vI (((mach_Look_1.f 7 (i3 : Int)).2).At)]), (194, .agg #[v24, .map m21])] ?_
       obtain ⟨Z20, cz20, rfl⟩ := hS233.open 0 rfl
       have hS234 := hS233.bring 5 rfl
       refine gs b1 0 #[.slice none 0 0, .map none] 60 [(.slice Z20 (((mach_Look_1.f 7 (i3 : Int)).1).In).length cz20), .map m21] hS234 fun w59 hS235 => ?_
       have hS236 : St w0 w59 [Own.blk b1 (.cells #[(.slice Z20 (((mach_Look_1.f 7 (i3 : Int)).1).In).length cz20), .map m21] 60 (0, 0)), Own.of (.slice Z20 (((mach_Look_1.f 7 (i3 : Int)).1).In).length cz20) 3 (((mach_Look_1.f 7 (i3 : Int)).1).In), Own.mapv (κ := Int) (ν := Int) m21 (((mach_Look_1.f 7 (i3 : Int)).1).Close), Own.blk b6 (.cells #[vI e4.Op, vI e4.A, vI e4.B] 41 (0, 0)), Own.blk b5 (.cells #[.slice A0 l0.length c0, (.slice Z11 m12.length cz11), (.slice Z14 m13.length cz14), .map (some b4)] 102 (0, 0)), Own.blk b2 (.cells #[vI 0, vI 0] 29 (0, 0)), Own.of (.slice Z11 m12.length cz11) 3 m12, Own.of (.slice Z14 m13.length cz14) 3 m13, Own.map (κ := Int) (ν := Int) b4 mp3] := hS235
       have hS237 := hS236.bring 5 rfl
       refine gs b2 0 #[vI 0, vI 0] 29 [vI (((mach_Look_1.f 7 (i3 : Int)).2).Code), vI (((mach_Look_1.f 7 (i3 : Int)).2).At)] hS237 fun w60 hS238 => ?_
       have hS239 : St w0 w60 [Own.blk b2 (.cells #[vI (((mach_Look_1.f 7 (i3 : Int)).2).Code), vI (((mach_Look_1.f 7 (i3 : Int)).2).At)] 29 (0, 0)), Own.blk b1 (.cells #[(.slice Z20 (((mach_Look_1.f 7 (i3 : Int)).1).In).length cz20), .map m21] 60 (0, 0)), Own.of (.slice Z20 (((mach_Look_1.f 7 (i3 : Int)).1).In).length cz20) 3 (((mach_Look_1.f 7 (i3 : Int)).1).In), Own.mapv (κ := Int) (ν := Int) m21 (((mach_Look_1.f 7 (i3 : Int)).1).Close), Own.blk b6 (.cells #[vI e4.Op, vI e4.A, vI e4.B] 41 (0, 0)), Own.blk b5 (.cells #[.slice A0 l0.length c0, (.slice Z11 m12.length cz11), (.slice Z14 m13.length cz14), .map (some b4)] 102 (0, 0)), Own.of (.slice Z11 m12.length cz11) 3 m12, Own.of (.slice Z14 m13.length cz14) 3 m13, Own.map (κ := Int) (ν := Int) b4 mp3] := hS238
       refine gn hK55 ?_
       have hS240 := hS239.bring 3 rfl
       have hS241 := hS240.bring 3 rfl
       have hS242 := hS241.takeN 2
       obtain rfl := si h
       exact we_ret fun a hF => hQ _ _ _ (Outs.out nofun (Exits.on ⟨rfl, (pr [.cell 2 60, .cell 3 29] [.agg #[(.slice Z20 (((mach_Look_1.f 7 (i3 : Int)).1).In).length cz20), .map m21], .agg #[vI (((mach_Look_1.f 7 (i3 : Int)).2).Code), vI (((mach_Look_1.f 7 (i3 : Int)).2).At)]] [.loaded ⟨b1, 0, none⟩ ((.slice Z20 (((mach_Look_1.f 7 (i3 : Int)).1).In).length cz20)), .loaded ⟨b1, 1, none⟩ (.map m21), .loaded ⟨b2, 0, none⟩ (vI (((mach_Look_1.f 7 (i3 : Int)).2).Code)), .loaded ⟨b2, 1, none⟩ (vI (((mach_Look_1.f 7 (i3 : Int)).2).At))] ⟨hS239.c 1, hS239.c 1, hS239.c 0, hS239.c 0, trivial⟩ ⟨(.slice Z20 (((mach_Look_1.f 7 (i3 : Int)).1).In).length cz20), m21, rfl, hS242⟩) a hF⟩))
  ·rw [if_neg hc16] at h
   refine gk 149 (e4.Op != 11) true (bne_iff_ne.2 hc16) ?_
   refine gb [4, 5, 6, 7] [(153, .bool (e4.Op != 12)), (152, .bool (e4.Op != 12)), (151, vI e4.Op), (150, pP b6 0)] [.loaded ⟨b6, 0, none⟩ (vI e4.Op)] ⟨hS161.c 0, trivial⟩ ?_
   refine gn hK44 ?_
   by_cases hc25 : e4.Op = 12
   ·rw [if_pos hc25] at h
    refine wk 153 (e4.Op != 12) false (bne_eq_false_iff_eq.2 hc25) ?_
    refine we_false (by kernel_rfl) ?_
    refine we_skip fun a hF => hK43 _ _ ?_ a hF
    refine ws fun K56 hK56 => ?_
    refine wr [(0, 0)] ?_
    refine gb0 [0] [(14, vI (-1))] ?_
    refine gn hK56 ?_
    refine ws fun K57 hK57 => ?_
    refine ws fun K58 hK58 => ?_
    refine wr [(0, 0), (1, 0), (2, 0), (3, 0), (4, 0)] ?_
    refine gb [0, 1, 2, 3, 4] [(158, .bool (decide (e4.A < (l0.length : Int)))), (157, vI (l0.length : Int)), (156, .slice A0 l0.length c0), (155, vI e4.A), (154, pP b6 1)] [.loaded ⟨b6, 1, none⟩ (vI e4.A)] ⟨hS161.c 0, trivial⟩ ?_
    refine gn hK58 ?_
    by_cases hc26 : e4.A < (l0.length : Int)
    ·rw [if_pos hc26] at h
     refine wk 158 (decide (e4.A < (l0.length : Int))) true (decide_eq_true hc26) ?_
     refine we_true (by kernel_rfl) ?_
     refine we_draws (by kernel_rfl) [(0, 0), (1, 0), (2, 0), (3, 0), (4, 0), (5, 0), (6, 0), (7, 0), (8, 0), (9, 0)] (by kernel_rfl) ?_
     have hS243 := hS161.drew
     refine gb [0, 1, 2, 3, 4, 5, 6] [(165, vI e4.A), (164, pP b6 1), (163, (.slice Z14 m13.length cz14)), (162, pP b5 2), (161, pP b5 2), (160, pP b5 0), (159, pP b5 0)] [.loaded ⟨b5, 2, none⟩ ((.slice Z14 m13.length cz14)), .loaded ⟨b6, 1, none⟩ (vI e4.A)] ⟨hS243.c 1, hS243.c 0, trivial⟩ ?_
     by_cases hc27 : 0 ≤ e4.A
     ·rw [if_pos hc27] at h
      rcases hx14 : m13[(e4.A).toNat]? with _ | e8
      ·rw [hx14] at h; cases h
      rw [hx14] at h
      simp only [] at h
      refine gi 166 0 23 3 1 m13.length cz14 (.tmp 163) (.tmp 165) Z14 .i64 e4.A ((e4.A).toNat) ((hS243.rdAt 5 rfl).eqSome (pos_of_get hx14)) (Int.toNat_of_nonneg hc27).symm (lt_of_get hx14) ?_
      refine gb [8, 9] [(14, vI e8), (167, vI e8)] [.loaded ⟨blkOf Z14, offOf Z14 + ((e4.A).toNat) * 1, none⟩ (vI e8)] ⟨RdL.cell (j := 0) (hS243.rdAt 5 rfl) hx14 rfl, trivial⟩ ?_
      refine gn hK57 ?_
      refine ws fun K59 hK59 => ?_
      refine wr [(0, 0), (1, 0), (2, 0), (3, 0), (4, 0), (5, 0), (6, 0), (7, 0), (8, 0), (9, 0), (10, 0), (11, 0), (12, 0), (13, 0), (14, 0), (15, 0), (16, 0), (17, 0), (18, 0), (19, 0), (20, 0), (21, 0), (22, 0)] ?_
      refine gb [0, 1, 2, 3, 4] [(172, .bool (decide (e4.A ≤ (i3 : Int)))), (171, .bool (decide (e4.A ≤ (i3 : Int)))), (170, vI (i3 : Int)), (169, vI e4.A), (168, pP b6 1)] [.loaded ⟨b6, 1, none⟩ (vI e4.A)] ⟨hS243.c 0, trivial⟩ ?_
      by_cases hc28 : e4.A ≤ (i3 : Int)
      ·rw [if_pos hc28] at h
       refine gk 172 (decide (e4.A ≤ (i3 : Int))) true (decide_eq_true hc28) ?_
       refine gb0 [5, 6, 7, 8, 9, 10, 11, 12, 13, 14, 15, 16, 17, 18, 19, 20, 21, 22] [(190, .bool true), (189, undef), (188, undef), (187, undef), (186, undef), (185, undef), (184, undef), (183, undef), (182, undef), (181, undef), (180, undef), (179, .bool true), (178, .bool true), (177, undef), (176, undef), (175, undef), (174, undef), (173, undef)] ?_
       refine gn hK59 ?_
       refine we_true (by kernel_rfl) ?_
       refine ws fun K60 hK60 => ?_
       refine wr [(0, 0), (1, 0), (2, 1), (3, 0), (4, 0), (5, 2), (6, 2)] ?_
       refine gb0 [0, 1] [(192, vI (i3 : Int)), (191, .func (.func 37) #[] #[])] ?_
       refine ge_call (d := some 193) (f := 37) (args := #[vI 7, vI (i3 : Int)]) (by kernel_rfl) (mach_Look_1_ok 7 (i3 : Int) _ _ rfl) ?_
       rintro _ w61 ⟨v25, m22, rfl, hS244⟩
       refine ⟨_, rfl, hS244.below, ?_⟩
       have hS245 := hS243.call hS244
       refine gb0 [3, 4] [(195, .agg #[vI (((mach_Look_1.f 7 (i3 : Int)).2).Code), vI (((mach_Look_1.f 7 (i3 : Int)).2).At)]), (194, .agg #[v25, .map m22])] ?_
       obtain ⟨Z21, cz21, rfl⟩ := hS245.open 0 rfl
       have hS246 := hS245.bring 5 rfl
       refine gs b1 0 #[.slice none 0 0, .map none] 60 [(.slice Z21 (((mach_Look_1.f 7 (i3 : Int)).1).In).length cz21), .map m22] hS246 fun w62 hS247 => ?_
       have hS248 : St w0 w62 [Own.blk b1 (.cells #[(.slice Z21 (((mach_Look_1.f 7 (i3 : Int)).1).In).length cz21), .map m22] 60 (0, 0)), Own.of (.slice Z21 (((mach_Look_1.f 7 (i3 : Int)).1).In).length cz21) 3 (((mach_Look_1.f 7 (i3 : Int)).1).In), Own.mapv (κ := Int) (ν := Int) m22 (((mach_Look_1.f 7 (i3 : Int)).1).Close), Own.blk b6 (.cells #[vI e4.Op, vI e4.A, vI e4.B] 41 (0, 0)), Own.blk b5 (.cells #[.slice A0 l0.length c0, (.slice Z11 m12.length cz11), (.slice Z14 m13.length cz14), .map (some b4)] 102 (0, 0)), Own.blk b2 (.cells #[vI 0, vI 0] 29 (0, 0)), Own.of (.slice Z11 m12.length cz11) 3 m12, Own.of (.slice Z14 m13.length cz14) 3 m13, Own.map (κ := Int) (ν := Int) b4 mp3] := hS247
       have hS249 := hS248.bring 5 rfl
       refine gs b2 0 #[vI 0, vI 0] 29 [vI (((mach_Look_1.f 7 (i3 : Int)).2).Code), vI (((mach_Look_1.f 7 (i3 : Int)).2).At)] hS249 fun w63 hS250 => ?_
       have hS251 : St w0 w63 [Own.blk b2 (.cells #[vI (((mach_Look_1.f 7 (i3 : Int)).2).Code), vI (((mach_Look_1.f 7 (i3 : Int)).2).At)] 29 (0, 0)), Own.blk b1 (.cells #[(.slice Z21 (((mach_Look_1.f 7 (i3 : Int)).1).In).length cz21), .map m22] 60 (0, 0)), Own.of (.slice Z21 (((mach_Look_1.f 7 (i3 : Int)).1).In).length cz21) 3 (((mach_Look_1.f 7 (i3 : Int)).1).In), Own.mapv (κ := Int) (ν := Int) m22 (((mach_Look_1.f 7 (i3 : Int)).1).Close), Own.blk b6 (.cells #[vI e4.Op, vI e4.A, vI e4.B] 41 (0, 0)), Own.blk b5 (.cells #[.slice A0 l0.length c0, (.slice Z11 m12.length cz11), (.slice Z14 m13.length cz14), .map (some b4)] 102 (0, 0)), Own.of (.slice Z11 m12.length cz11) 3 m12, Own.of (.slice Z14 m13.length cz14) 3 m13, Own.map (κ := Int) (ν := Int) b4 mp3] := hS250
       refine gn hK60 ?_
       have hS252 := hS251.bring 3 rfl
       have hS253 := hS252.bring 3 rfl
       have hS254 := hS253.takeN 2
       obtain rfl := si h
       exact we_ret fun a hF => hQ _ _ _ (Outs.out nofun (Exits.on ⟨rfl, (pr [.cell 2 60, .cell 3 29] [.agg #[(.slice Z21 (((mach_Look_1.f 7 (i3 : Int)).1).In).length cz21), .map m22], .agg #[vI (((mach_Look_1.f 7 (i3 : Int)).2).Code), vI (((mach_Look_1.f 7 (i3 : Int)).2).At)]] [.loaded ⟨b1, 0, none⟩ ((.slice Z21 (((mach_Look_1.f 7 (i3 : Int)).1).In).length cz21)), .loaded ⟨b1, 1, none⟩ (.map m22), .loaded ⟨b2, 0, none⟩ (vI (((mach_Look_1.f 7 (i3 : Int)).2).Code)), .loaded ⟨b2, 1, none⟩ (vI (((mach_Look_1.f 7 (i3 : Int)).2).At))] ⟨hS251.c 1, hS251.c 1, hS251.c 0, hS251.c 0, trivial⟩ ⟨(.slice Z21 (((mach_Look_1.f 7 (i3 : Int)).1).In).length cz21), m22, rfl, hS254⟩) a hF⟩))
      ·rw [if_neg hc28] at h
       refine gk 172 (decide (e4.A ≤ (i3 : Int))) false (decide_eq_false hc28) ?_
       refine gb [5, 6, 7, 8, 9, 10, 11] [(179, .bool (decide (e4.A > (l0.length : Int)))), (178, .bool (decide (e4.A > (l0.length : Int)))), (177, .bool (decide (e4.A > (l0.length : Int)))), (176, vI (l0.length : Int)), (175, .slice A0 l0.length c0), (174, vI e4.A), (173, pP b6 1)] [.loaded ⟨b6, 1, none⟩ (vI e4.A)] ⟨hS243.c 0, trivial⟩ ?_
       by_cases hc29 : e4.A > (l0.length : Int)
       ·rw [if_pos hc29] at h
        refine gk 179 (decide (e4.A > (l0.length : Int))) true (decide_eq_true hc29) ?_
        refine gb0 [12, 13, 14, 15, 16, 17, 18, 19, 20, 21, 22] [(190, .bool true), (189, undef), (188, undef), (187, undef), (186, undef), (185, undef), (184, undef), (183, undef), (182, undef), (181, undef), (180, undef)] ?_
        refine gn hK59 ?_
        refine we_true (by kernel_rfl) ?_
        refine ws fun K61 hK61 => ?_
        refine wr [(0, 0), (1, 0), (2, 1), (3, 0), (4, 0), (5, 2), (6, 2)] ?_
        refine gb0 [0, 1] [(192, vI (i3 : Int)), (191, .func (.func 37) #[] #[])] ?_
        refine ge_call (d := some 193) (f := 37) (args := #[vI 7, vI (i3 : Int)]) (by kernel_rfl) (mach_Look_1_ok 7 (i3 : Int) _ _ rfl) ?_
        rintro _ w64 ⟨v26, m23, rfl, hS255⟩
        refine ⟨_, rfl, hS255.below, ?_⟩
        have hS256 := hS243.call hS255
        refine gb0 [3, 4] [(195, .agg #[vI (((mach_Look_1.f 7 (i3 : Int)).2).Code), vI (((mach_Look_1.f 7 (i3 : Int)).2).At)]), (194, .agg #[v26, .map m23])] ?_
        obtain ⟨Z22, cz22, rfl⟩ := hS256.open 0 rfl
        have hS257 := hS256.bring 5 rfl
        refine gs b1 0 #[.slice none 0 0, .map none] 60 [(.slice Z22 (((mach_Look_1.f 7 (i3 : Int)).1).In).length cz22), .map m23] hS257 fun w65 hS258 => ?_
        have hS259 : St w0 w65 [Own.blk b1 (.cells #[(.slice Z22 (((mach_Look_1.f 7 (i3 : Int)).1).In).length cz22), .map m23] 60 (0, 0)), Own.of (.slice Z22 (((mach_Look_1.f 7 (i3 : Int)).1).In).length cz22) 3 (((mach_Look_1.f 7 (i3 : Int)).1).In), Own.mapv (κ := Int) (ν := Int) m23 (((mach_Look_1.f 7 (i3 : Int)).1).Close), Own.blk b6 (.cells #[vI e4.Op, vI e4.A, vI e4.B] 41 (0, 0)), Own.blk b5 (.cells #[.slice A0 l0.length c0, (.slice Z11 m12.length cz11), (.slice Z14 m13.length cz14), .map (some b4)] 102 (0, 0)), Own.blk b2 (.cells #[vI 0, vI 0] 29 (0, 0)), Own.of (.slice Z11 m12.length cz11) 3 m12, Own.of (.slice Z14 m13.length cz14) 3 m13, Own.map (κ := Int) (ν := Int) b4 mp3] := hS258
        have hS260 := hS259.bring 5 rfl
        refine gs b2 0 #[vI 0, vI 0] 29 [vI (((mach_Look_1.f 7 (i3 : Int)).2).Code), vI (((mach_Look_1.f 7 (i3 : Int)).2).At)] hS260 fun w66 hS261 => ?_
        have hS262 : St w0 w66 [Own.blk b2 (.cells #[vI (((mach_Look_1.f 7 (i3 : Int)).2).Code), vI (((mach_Look_1.f 7 (i3 : Int)).2).At)] 29 (0, 0)), Own.blk b1 (.cells #[(.slice Z22 (((mach_Look_1.f 7 (i3 : Int)).1).In).length cz22), .map m23] 60 (0, 0)), Own.of (.slice Z22 (((mach_Look_1.f 7 (i3 : Int)).1).In).length cz22) 3 (((mach_Look_1.f 7 (i3 : Int)).1).In), Own.mapv (κ := Int) (ν := Int) m23 (((mach_Look_1.f 7 (i3 : Int)).1).Close), Own.blk b6 (.cells #[vI e4.Op, vI e4.A, vI e4.B] 41 (0, 0)), Own.blk b5 (.cells #[.slice A0 l0.length c0, (.slice Z11 m12.length cz11), (.slice Z14 m13.length cz14), .map (some b4)] 102 (0, 0)), Own.of (.slice Z11 m12.length cz11) 3 m12, Own.of (.slice Z14 m13.length cz14) 3 m13, Own.map (κ := Int) (ν := Int) b4 mp3] := hS261
        refine gn hK61 ?_
        have hS263 := hS262.bring 3 rfl
        have hS264 := hS263.bring 3 rfl
        have hS265 := hS264.takeN 2
        obtain rfl := si h
        exact we_ret fun a hF => hQ _ _ _ (Outs.out nofun (Exits.on ⟨rfl, (pr [.cell 2 60, .cell 3 29] [.agg #[(.slice Z22 (((mach_Look_1.f 7 (i3 : Int)).1).In).length cz22), .map m23], .agg #[vI (((mach_Look_1.f 7 (i3 : Int)).2).Code), vI (((mach_Look_1.f 7 (i3 : Int)).2).At)]] [.loaded ⟨b1, 0, none⟩ ((.slice Z22 (((mach_Look_1.f 7 (i3 : Int)).1).In).length cz22)), .loaded ⟨b1, 1, none⟩ (.map m23), .loaded ⟨b2, 0, none⟩ (vI (((mach_Look_1.f 7 (i3 : Int)).2).Code)), .loaded ⟨b2, 1, none⟩ (vI (((mach_Look_1.f 7 (i3 : Int)).2).At))] ⟨hS262.c 1, hS262.c 1, hS262.c 0, hS262.c 0, trivial⟩ ⟨(.slice Z22 (((mach_Look_1.f 7 (i3 : Int)).1).In).length cz22), m23, rfl, hS265⟩) a hF⟩))
       ·rw [if_neg hc29] at h
        refine gk 179 (decide (e4.A > (l0.length : Int))) false (decide_eq_false hc29) ?_
        refine gb [12, 13, 14, 15, 16, 17, 18] [(186, vI (i3 : Int)), (185, (.slice Z14 m13.length cz14)), (184, pP b5 2), (183, pP b5 2), (182, pP b5 0), (181, pP b5 0), (180, vI e8)] [.loaded ⟨b5, 2, none⟩ ((.slice Z14 m13.length cz14))] ⟨hS243.c 1, trivial⟩ ?_
        rcases hx15 : m13[i3]? with _ | e9
        ·rw [hx15] at h; cases h
        rw [hx15] at h
        simp only [] at h
        refine gi 187 0 23 3 1 m13.length cz14 (.tmp 185) (.tmp 186) Z14 .i64 (i3 : Int) i3 ((hS243.rdAt 5 rfl).eqSome (pos_of_get hx15)) rfl (lt_of_get hx15) ?_
        refine gb [20, 21, 22] [(190, .bool (e8 != e9)), (189, .bool (e8 != e9)), (188, vI e9)] [.loaded ⟨blkOf Z14, offOf Z14 + i3 * 1, none⟩ (vI e9)] ⟨RdL.cell (j := 0) (hS243.rdAt 5 rfl) hx15 rfl, trivial⟩ ?_
        refine gn hK59 ?_
        by_cases hc30 : e8 = e9
        ·rw [if_pos hc30] at h
         refine wk 190 (e8 != e9) false (bne_eq_false_iff_eq.2 hc30) ?_
         refine we_false (by kernel_rfl) ?_
         refine we_skip fun a hF => hK41 _ _ ?_ a hF
         refine wr [(0, 0), (1, 0)] ?_
         refine ge_addn (d := 196) (ty := 3) (x := (.tmp 141)) (y := (.const (vI 1))) (t := 3) (t2 := 3) (k := .i64) (m := i3) (by kernel_rfl) (by kernel_rfl) (by kernel_rfl) (by have h0 := hR0.small; omega) ?_
         refine gb0 [1] [(141, vI ((i3 + 1 : Nat) : Int))] ?_
         have hS266 := hS243.bring 6 rfl
         have hS267 := hS266.bring 6 rfl
         have hS268 := hS267.bring 6 rfl
         have hS269 := hS268.bring 6 rfl
         have hS270 := hS269.bring 6 rfl
         have hS271 := hS270.bring 6 rfl
         have hS272 := hS271.takeN 6
         obtain rfl := si h
         exact ge_nil fun a hF => hQ _ _ _ (Outs.again ⟨hS272, hF.weaken ea⟩)
        ·rw [if_neg hc30] at h
         refine wk 190 (e8 != e9) true (bne_iff_ne.2 hc30) ?_
         refine we_true (by kernel_rfl) ?_
         refine ws fun K62 hK62 => ?_
         refine wr [(0, 0), (1, 0), (2, 1), (3, 0), (4, 0), (5, 2), (6, 2)] ?_
         refine gb0 [0, 1] [(192, vI (i3 : Int)), (191, .func (.func 37) #[] #[])] ?_
         refine ge_call (d := some 193) (f := 37) (args := #[vI 7, vI (i3 : Int)]) (by kernel_rfl) (mach_Look_1_ok 7 (i3 : Int) _ _ rfl) ?_
         rintro _ w67 ⟨v27, m24, rfl, hS273⟩
         refine ⟨_, rfl, hS273.below, ?_⟩
         have hS274 := hS243.call hS273
         refine gb0 [3, 4] [(195, .agg #[vI (((mach_Look_1.f 7 (i3 : Int)).2).Code), vI (((mach_Look_1.f 7 (i3 : Int)).2).At)]), (194, .agg #[v27, .map m24])] ?_
         obtain ⟨Z23, cz23, rfl⟩ := hS274.open 0 rfl
         have hS275 := hS274.bring 5 rfl
         refine gs b1 0 #[.slice none 0 0, .map none] 60 [(.slice Z23 (((mach_Look_1.f 7 (i3 : Int)).1).In).length cz23), .map m24] hS275 fun w68 hS276 => ?_
         have hS277 : St w0 w68 [Own.blk b1 (.cells #[(.slice Z23 (((mach_Look_1.f 7 (i3 : Int)).1).In).length cz23), .map m24] 60 (0, 0)), Own.of (.slice Z23 (((mach_Look_1.f 7 (i3 : Int)).1).In).length cz23) 3 (((mach_Look_1.f 7 (i3 : Int)).1).In), Own.mapv (κ := Int) (ν := Int) m24 (((mach_Look_1.f 7 (i3 : Int)).1).Close), Own.blk b6 (.cells #[vI e4.Op, vI e4.A, vI e4.B] 41 (0, 0)), Own.blk b5 (.cells #[.slice A0 l0.length c0, (.slice Z11 m12.length cz11), (.slice Z14 m13.length cz14), .map (some b4)] 102 (0, 0)), Own.blk b2 (.cells #[vI 0, vI 0] 29 (0, 0)), Own.of (.slice Z11 m12.length cz11) 3 m12, Own.of (.slice Z14 m13.length cz14) 3 m13, Own.map (κ := Int) (ν := Int) b4 mp3] := hS276
         have hS278 := hS277.bring 5 rfl
         refine gs b2 0 #[vI 0, vI 0] 29 [vI (((mach_Look_1.f 7 (i3 : Int)).2).Code), vI (((mach_Look_1.f 7 (i3 : Int)).2).At)] hS278 fun w69 hS279 => ?_
         have hS280 : St w0 w69 [Own.blk b2 (.cells #[vI (((mach_Look_1.f 7 (i3 : Int)).2).Code), vI (((mach_Look_1.f 7 (i3 : Int)).2).At)] 29 (0, 0)), Own.blk b1 (.cells #[(.slice Z23 (((mach_Look_1.f 7 (i3 : Int)).1).In).length cz23), .map m24] 60 (0, 0)), Own.of (.slice Z23 (((mach_Look_1.f 7 (i3 : Int)).1).In).length cz23) 3 (((mach_Look_1.f 7 (i3 : Int)).1).In), Own.mapv (κ := Int) (ν := Int) m24 (((mach_Look_1.f 7 (i3 : Int)).1).Close), Own.blk b6 (.cells #[vI e4.Op, vI e4.A, vI e4.B] 41 (0, 0)), Own.blk b5 (.cells #[.slice A0 l0.length c0, (.slice Z11 m12.length cz11), (.slice Z14 m13.length cz14), .map (some b4)] 102 (0, 0)), Own.of (.slice Z11 m12.length cz11) 3 m12, Own.of (.slice Z14 m13.length cz14) 3 m13, Own.map (κ := Int) (ν := Int) b4 mp3] := hS279
         refine gn hK62 ?_
         have hS281 := hS280.bring 3 rfl
         have hS282 := hS281.bring 3 rfl
         have hS283 := hS282.takeN 2
         obtain rfl := si h
         exact we_ret fun a hF => hQ _ _ _ (Outs.out nofun (Exits.on ⟨rfl, (pr [.cell 2 60, .cell 3 29] [.agg #[(.slice Z23 (((mach_Look_1.f 7 (i3 : Int)).1).In).length cz23), .map m24], .agg #[vI (((mach_Look_1.f 7 (i3 : Int)).2).Code), vI (((mach_Look_1.f 7 (i3 : Int)).2).At)]] [.loaded ⟨b1, 0, none⟩ ((.slice Z23 (((mach_Look_1.f 7 (i3 : Int)).1).In).length cz23)), .loaded ⟨b1, 1, none⟩ (.map m24), .loaded ⟨b2, 0, none⟩ (vI (((mach_Look_1.f 7 (i3 : Int)).2).Code)), .loaded ⟨b2, 1, none⟩ (vI (((mach_Look_1.f 7 (i3 : Int)).2).At))] ⟨hS280.c 1, hS280.c 1, hS280.c 0, hS280.c 0, trivial⟩ ⟨(.slice Z23 (((mach_Look_1.f 7 (i3 : Int)).1).In).length cz23), m24, rfl, hS283⟩) a hF⟩))
     ·rw [if_neg hc27] at h
      cases h
    ·rw [if_neg hc26] at h
     refine wk 158 (decide (e4.A < (l0.length : Int))) false (decide_eq_false hc26) ?_
     refine we_false (by kernel_rfl) ?_
     refine we_skip fun a hF => hK57 _ _ ?_ a hF
     refine ws fun K63 hK63 => ?_
     refine wr [(0, 0), (1, 0), (2, 0), (3, 0), (4, 0), (5, 0), (6, 0), (7, 0), (8, 0), (9, 0), (10, 0), (11, 0), (12, 0), (13, 0), (14, 0), (15, 0), (16, 0), (17, 0), (18, 0), (19, 0), (20, 0), (21, 0), (22, 0)] ?_
     refine gb [0, 1, 2, 3, 4] [(172, .bool (decide (e4.A ≤ (i3 : Int)))), (171, .bool (decide (e4.A ≤ (i3 : Int)))), (170, vI (i3 : Int)), (169, vI e4.A), (168, pP b6 1)] [.loaded ⟨b6, 1, none⟩ (vI e4.A)] ⟨hS161.c 0, trivial⟩ ?_
     by_cases hc31 : e4.A ≤ (i3 : Int)
     ·rw [if_pos hc31] at h
      refine gk 172 (decide (e4.A ≤ (i3 : Int))) true (decide_eq_true hc31) ?_
      refine gb0 [5, 6, 7, 8, 9, 10, 11, 12, 13, 14, 15, 16, 17, 18, 19, 20, 21, 22] [(190, .bool true), (189, undef), (188, undef), (187, undef), (186, undef), (185, undef), (184, undef), (183, undef), (182, undef), (181, undef), (180, undef), (179, .bool true), (178, .bool true), (177, undef), (176, undef), (175, undef), (174, undef), (173, undef)] ?_
      refine gn hK63 ?_
      refine we_true (by kernel_rfl) ?_
      refine ws fun K64 hK64 => ?_
      refine wr [(0, 0), (1, 0), (2, 1), (3, 0), (4, 0), (5, 2), (6, 2)] ?_
      refine gb0 [0, 1] [(192, vI (i3 : Int)), (191, .func (.func 37) #[] #[])] ?_
      refine ge_call (d := some 193) (f := 37) (args := #[vI 7, vI (i3 : Int)]) (by kernel_rfl) (mach_Look_1_ok 7 (i3 : Int) _ _ rfl) ?_
      rintro _ w70 ⟨v28, m25, rfl, hS284⟩
      refine ⟨_, rfl, hS284.below, ?_⟩
      have hS285 := hS161.call hS284
      refine gb0 [3, 4] [(195, .agg #[vI (((mach_Look_1.f 7 (i3 : Int)).2).Code), vI (((mach_Look_1.f 7 (i3 : Int)).2).At)]), (194, .agg #[v28, .map m25])] ?_
      obtain ⟨Z24, cz24, rfl⟩ := hS285.open 0 rfl
      have hS286 := hS285.bring 5 rfl
      refine gs b1 0 #[.slice none 0 0, .map none] 60 [(.slice Z24 (((mach_Look_1.f 7 (i3 : Int)).1).In).length cz24), .map m25] hS286 fun w71 hS287 => ?_
      have hS288 : St w0 w71 [Own.blk b1 (.cells #[(.slice Z24 (((mach_Look_1.f 7 (i3 : Int)).1).In).length cz24), .map m25] 60 (0, 0)), Own.of (.slice Z24 (((mach_Look_1.f 7 (i3 : Int)).1).In).length cz24) 3 (((mach_Look_1.f 7 (i3 : Int)).1).In), Own.mapv (κ := Int) (ν := Int) m25 (((mach_Look_1.f 7 (i3 : Int)).1).Close), Own.blk b6 (.cells #[vI e4.Op, vI e4.A, vI e4.B] 41 (0, 0)), Own.blk b5 (.cells #[.slice A0 l0.length c0, (.slice Z11 m12.length cz11), (.slice Z14 m13.length cz14), .map (some b4)] 102 (0, 0)), Own.blk b2 (.cells #[vI 0, vI 0] 29 (0, 0)), Own.of (.slice Z11 m12.length cz11) 3 m12, Own.of (.slice Z14 m13.length cz14) 3 m13, Own.map (κ := Int) (ν := Int) b4 mp3] := hS287
      have hS289 := hS288.bring 5 rfl
      refine gs b2 0 #[vI 0, vI 0] 29 [vI (((mach_Look_1.f 7 (i3 : Int)).2).Code), vI (((mach_Look_1.f 7 (i3 : Int)).2).At)] hS289 fun w72 hS290 => ?_
      have hS291 : St w0 w72 [Own.blk b2 (.cells #[vI (((mach_Look_1.f 7 (i3 : Int)).2).Code), vI (((mach_Look_1.f 7 (i3 : Int)).2).At)] 29 (0, 0)), Own.blk b1 (.cells #[(.slice Z24 (((mach_Look_1.f 7 (i3 : Int)).1).In).length cz24), .map m25] 60 (0, 0)), Own.of (.slice Z24 (((mach_Look_1.f 7 (i3 : Int)).1).In).length cz24) 3 (((mach_Look_1.f 7 (i3 : Int)).1).In), Own.mapv (κ := Int) (ν := Int) m25 (((mach_Look_1.f 7 (i3 : Int)).1).Close), Own.blk b6 (.cells #[vI e4.Op, vI e4.A, vI e4.B] 41 (0, 0)), Own.blk b5 (.cells #[.slice A0 l0.length c0, (.slice Z11 m12.length cz11), (.slice Z14 m13.length cz14), .map (some b4)] 102 (0, 0)), Own.of (.slice Z11 m12.length cz11) 3 m12, Own.of (.slice Z14 m13.length cz14) 3 m13, Own.map (κ := Int) (ν := Int) b4 mp3] := hS290
      refine gn hK64 ?_
      have hS292 := hS291.bring 3 rfl
      have hS293 := hS292.bring 3 rfl
      have hS294 := hS293.takeN 2
      obtain rfl := si h
      exact we_ret fun a hF => hQ _ _ _ (Outs.out nofun (Exits.on ⟨rfl, (pr [.cell 2 60, .cell 3 29] [.agg #[(.slice Z24 (((mach_Look_1.f 7 (i3 : Int)).1).In).length cz24), .map m25], .agg #[vI (((mach_Look_1.f 7 (i3 : Int)).2).Code), vI (((mach_Look_1.f 7 (i3 : Int)).2).At)]] [.loaded ⟨b1, 0, none⟩ ((.slice Z24 (((mach_Look_1.f 7 (i3 : Int)).1).In).length cz24)), .loaded ⟨b1, 1, none⟩ (.map m25), .loaded ⟨b2, 0, none⟩ (vI (((mach_Look_1.f 7 (i3 : Int)).2).Code)), .loaded ⟨b2, 1, none⟩ (vI (((mach_Look_1.f 7 (i3 : Int)).2).At))] ⟨hS291.c 1, hS291.c 1, hS291.c 0, hS291.c 0, trivial⟩ ⟨(.slice Z24 (((mach_Look_1.f 7 (i3 : Int)).1).In).length cz24), m25, rfl, hS294⟩) a hF⟩))
     ·rw [if_neg hc31] at h
      refine gk 172 (decide (e4.A ≤ (i3 : Int))) false (decide_eq_false hc31) ?_
      refine gb [5, 6, 7, 8, 9, 10, 11] [(179, .bool (decide (e4.A > (l0.length : Int)))), (178, .bool (decide (e4.A > (l0.length : Int)))), (177, .bool (decide (e4.A > (l0.length : Int)))), (176, vI (l0.length : Int)), (175, .slice A0 l0.length c0), (174, vI e4.A), (173, pP b6 1)] [.loaded ⟨b6, 1, none⟩ (vI e4.A)] ⟨hS161.c 0, trivial⟩ ?_
      by_cases hc32 : e4.A > (l0.length : Int)
      ·rw [if_pos hc32] at h
       refine gk 179 (decide (e4.A > (l0.length : Int))) true (decide_eq_true hc32) ?_
       refine gb0 [12, 13, 14, 15, 16, 17, 18, 19, 20, 21, 22] [(190, .bool true), (189, undef), (188, undef), (187, undef), (186, undef), (185, undef), (184, undef), (183, undef), (182, undef), (181, undef), (180, undef)] ?_
       refine gn hK63 ?_
       refine we_true (by kernel_rfl) ?_
       refine ws fun K65 hK65 => ?_
       refine wr [(0, 0), (1, 0), (2, 1), (3, 0), (4, 0), (5, 2), (6, 2)] ?_
       refine gb0 [0, 1] [(192, vI (i3 : Int)), (191, .func (.func 37) #[] #[])] ?_
       refine ge_call (d := some 193) (f := 37) (args := #[vI 7, vI (i3 : Int)]) (by kernel_rfl) (mach_Look_1_ok 7 (i3 : Int) _ _ rfl) ?_
       rintro _ w73 ⟨v29, m26, rfl, hS295⟩
       refine ⟨_, rfl, hS295.below, ?_⟩
       have hS296 := hS161.call hS295
       refine gb0 [3, 4] [(195, .agg #[vI (((mach_Look_1.f 7 (i3 : Int)).2).Code), vI (((mach_Look_1.f 7 (i3 : Int)).2).At)]), (194, .agg #[v29, .map m26])] ?_
       obtain ⟨Z25, cz25, rfl⟩ := hS296.open 0 rfl
       have hS297 := hS296.bring 5 rfl
       refine gs b1 0 #[.slice none 0 0, .map none] 60 [(.slice Z25 (((mach_Look_1.f 7 (i3 : Int)).1).In).length cz25), .map m26] hS297 fun w74 hS298 => ?_
       have hS299 : St w0 w74 [Own.blk b1 (.cells #[(.slice Z25 (((mach_Look_1.f 7 (i3 : Int)).1).In).length cz25), .map m26] 60 (0, 0)), Own.of (.slice Z25 (((mach_Look_1.f 7 (i3 : Int)).1).In).length cz25) 3 (((mach_Look_1.f 7 (i3 : Int)).1).In), Own.mapv (κ := Int) (ν := Int) m26 (((mach_Look_1.f 7 (i3 : Int)).1).Close), Own.blk b6 (.cells #[vI e4.Op, vI e4.A, vI e4.B] 41 (0, 0)), Own.blk b5 (.cells #[.slice A0 l0.length c0, (.slice Z11 m12.length cz11), (.slice Z14 m13.length cz14), .map (some b4)] 102 (0, 0)), Own.blk b2 (.cells #[vI 0, vI 0] 29 (0, 0)), Own.of (.slice Z11 m12.length cz11) 3 m12, Own.of (.slice Z14 m13.length cz14) 3 m13, Own.map (κ := Int) (ν := Int) b4 mp3] := hS298
       have hS300 := hS299.bring 5 rfl
       refine gs b2 0 #[vI 0, vI 0] 29 [vI (((mach_Look_1.f 7 (i3 : Int)).2).Code), vI (((mach_Look_1.f 7 (i3 : Int)).2).At)] hS300 fun w75 hS301 => ?_
       have hS302 : St w0 w75 [Own.blk b2 (.cells #[vI (((mach_Look_1.f 7 (i3 : Int)).2).Code), vI (((mach_Look_1.f 7 (i3 : Int)).2).At)] 29 (0, 0)), Own.blk b1 (.cells #[(.slice Z25 (((mach_Look_1.f 7 (i3 : Int)).1).In).length cz25), .map m26] 60 (0, 0)), Own.of (.slice Z25 (((mach_Look_1.f 7 (i3 : Int)).1).In).length cz25) 3 (((mach_Look_1.f 7 (i3 : Int)).1).In), Own.mapv (κ := Int) (ν := Int) m26 (((mach_Look_1.f 7 (i3 : Int)).1).Close), Own.blk b6 (.cells #[vI e4.Op, vI e4.A, vI e4.B] 41 (0, 0)), Own.blk b5 (.cells #[.slice A0 l0.length c0, (.slice Z11 m12.length cz11), (.slice Z14 m13.length cz14), .map (some b4)] 102 (0, 0)), Own.of (.slice Z11 m12.length cz11) 3 m12, Own.of (.slice Z14 m13.length cz14) 3 m13, Own.map (κ := Int) (ν := Int) b4 mp3] := hS301
       refine gn hK65 ?_
       have hS303 := hS302.bring 3 rfl
       have hS304 := hS303.bring 3 rfl
       have hS305 := hS304.takeN 2
       obtain rfl := si h
       exact we_ret fun a hF => hQ _ _ _ (Outs.out nofun (Exits.on ⟨rfl, (pr [.cell 2 60, .cell 3 29] [.agg #[(.slice Z25 (((mach_Look_1.f 7 (i3 : Int)).1).In).length cz25), .map m26], .agg #[vI (((mach_Look_1.f 7 (i3 : Int)).2).Code), vI (((mach_Look_1.f 7 (i3 : Int)).2).At)]] [.loaded ⟨b1, 0, none⟩ ((.slice Z25 (((mach_Look_1.f 7 (i3 : Int)).1).In).length cz25)), .loaded ⟨b1, 1, none⟩ (.map m26), .loaded ⟨b2, 0, none⟩ (vI (((mach_Look_1.f 7 (i3 : Int)).2).Code)), .loaded ⟨b2, 1, none⟩ (vI (((mach_Look_1.f 7 (i3 : Int)).2).At))] ⟨hS302.c 1, hS302.c 1, hS302.c 0, hS302.c 0, trivial⟩ ⟨(.slice Z25 (((mach_Look_1.f 7 (i3 : Int)).1).In).length cz25), m26, rfl, hS305⟩) a hF⟩))
      ·rw [if_neg hc32] at h
       refine gk 179 (decide (e4.A > (l0.length : Int))) false (decide_eq_false hc32) ?_
       refine gb [12, 13, 14, 15, 16, 17, 18] [(186, vI (i3 : Int)), (185, (.slice Z14 m13.length cz14)), (184, pP b5 2), (183, pP b5 2), (182, pP b5 0), (181, pP b5 0), (180, vI (-1))] [.loaded ⟨b5, 2, none⟩ ((.slice Z14 m13.length cz14))] ⟨hS161.c 1, trivial⟩ ?_
       rcases hx16 : m13[i3]? with _ | e10
       ·rw [hx16] at h; cases h
       rw [hx16] at h
       simp only [] at h
       refine gi 187 0 23 3 1 m13.length cz14 (.tmp 185) (.tmp 186) Z14 .i64 (i3 : Int) i3 ((hS161.rdAt 5 rfl).eqSome (pos_of_get hx16)) rfl (lt_of_get hx16) ?_
       refine gb [20, 21, 22] [(190, .bool ((-1) != e10)), (189, .bool ((-1) != e10)), (188, vI e10)] [.loaded ⟨blkOf Z14, offOf Z14 + i3 * 1, none⟩ (vI e10)] ⟨RdL.cell (j := 0) (hS161.rdAt 5 rfl) hx16 rfl, trivial⟩ ?_
       refine gn hK63 ?_
       by_cases hc33 : (-1) = e10
       ·rw [if_pos hc33] at h
        refine wk 190 ((-1) != e10) false (bne_eq_false_iff_eq.2 hc33) ?_
        refine we_false (by kernel_rfl) ?_
        refine we_skip fun a hF => hK41 _ _ ?_ a hF
        refine wr [(0, 0), (1, 0)] ?_
        refine ge_addn (d := 196) (ty := 3) (x := (.tmp 141)) (y := (.const (vI 1))) (t := 3) (t2 := 3) (k := .i64) (m := i3) (by kernel_rfl) (by kernel_rfl) (by kernel_rfl) (by have h0 := hR0.small; omega) ?_
        refine gb0 [1] [(141, vI ((i3 + 1 : Nat) : Int))] ?_
        have hS306 := hS161.bring 6 rfl
        have hS307 := hS306.bring 6 rfl
        have hS308 := hS307.bring 6 rfl
        have hS309 := hS308.bring 6 rfl
        have hS310 := hS309.bring 6 rfl
        have hS311 := hS310.bring 6 rfl
        have hS312 := hS311.takeN 6
        obtain rfl := si h
        exact ge_nil fun a hF => hQ _ _ _ (Outs.again ⟨hS312, hF.weaken ea⟩)
       ·rw [if_neg hc33] at h
        refine wk 190 ((-1) != e10) true (bne_iff_ne.2 hc33) ?_
        refine we_true (by kernel_rfl) ?_
        refine ws fun K66 hK66 => ?_
        refine wr [(0, 0), (1, 0), (2, 1), (3, 0), (4, 0), (5, 2), (6, 2)] ?_
        refine gb0 [0, 1] [(192, vI (i3 : Int)), (191, .func (.func 37) #[] #[])] ?_
        refine ge_call (d := some 193) (f := 37) (args := #[vI 7, vI (i3 : Int)]) (by kernel_rfl) (mach_Look_1_ok 7 (i3 : Int) _ _ rfl) ?_
        rintro _ w76 ⟨v30, m27, rfl, hS313⟩
        refine ⟨_, rfl, hS313.below, ?_⟩
        have hS314 := hS161.call hS313
        refine gb0 [3, 4] [(195, .agg #[vI (((mach_Look_1.f 7 (i3 : Int)).2).Code), vI (((mach_Look_1.f 7 (i3 : Int)).2).At)]), (194, .agg #[v30, .map m27])] ?_
        obtain ⟨Z26, cz26, rfl⟩ := hS314.open 0 rfl
        have hS315 := hS314.bring 5 rfl
        refine gs b1 0 #[.slice none 0 0, .map none] 60 [(.slice Z26 (((mach_Look_1.f 7 (i3 : Int)).1).In).length cz26), .map m27] hS315 fun w77 hS316 => ?_
        have hS317 : St w0 w77 [Own.blk b1 (.cells #[(.slice Z26 (((mach_Look_1.f 7 (i3 : Int)).1).In).length cz26), .map m27] 60 (0, 0)), Own.of (.slice Z26 (((mach_Look_1.f 7 (i3 : Int)).1).In).length cz26) 3 (((mach_Look_1.f 7 (i3 : Int)).1).In), Own.mapv (κ := Int) (ν := Int) m27 (((mach_Look_1.f 7 (i3 : Int)).1).Close), Own.blk b6 (.cells #[vI e4.Op, vI e4.A, vI e4.B] 41 (0, 0)), Own.blk b5 (.cells #[.slice A0 l0.length c0, (.slice Z11 m12.length cz11), (.slice Z14 m13.length cz14), .map (some b4)] 102 (0, 0)), Own.blk b2 (.cells #[vI 0, vI 0] 29 (0, 0)), Own.of (.slice Z11 m12.length cz11) 3 m12, Own.of (.slice Z14 m13.length cz14) 3 m13, Own.map (κ := Int) (ν := Int) b4 mp3] := hS316
        have hS318 := hS317.bring 5 rfl
        refine gs b2 0 #[vI 0, vI 0] 29 [vI (((mach_Look_1.f 7 (i3 : Int)).2).Code), vI (((mach_Look_1.f 7 (i3 : Int)).2).At)] hS318 fun w78 hS319 => ?_
        have hS320 : St w0 w78 [Own.blk b2 (.cells #[vI (((mach_Look_1.f 7 (i3 : Int)).2).Code), vI (((mach_Look_1.f 7 (i3 : Int)).2).At)] 29 (0, 0)), Own.blk b1 (.cells #[(.slice Z26 (((mach_Look_1.f 7 (i3 : Int)).1).In).length cz26), .map m27] 60 (0, 0)), Own.of (.slice Z26 (((mach_Look_1.f 7 (i3 : Int)).1).In).length cz26) 3 (((mach_Look_1.f 7 (i3 : Int)).1).In), Own.mapv (κ := Int) (ν := Int) m27 (((mach_Look_1.f 7 (i3 : Int)).1).Close), Own.blk b6 (.cells #[vI e4.Op, vI e4.A, vI e4.B] 41 (0, 0)), Own.blk b5 (.cells #[.slice A0 l0.length c0, (.slice Z11 m12.length cz11), (.slice Z14 m13.length cz14), .map (some b4)] 102 (0, 0)), Own.of (.slice Z11 m12.length cz11) 3 m12, Own.of (.slice Z14 m13.length cz14) 3 m13, Own.map (κ := Int) (ν := Int) b4 mp3] := hS319
        refine gn hK66 ?_
        have hS321 := hS320.bring 3 rfl
        have hS322 := hS321.bring 3 rfl
        have hS323 := hS322.takeN 2
        obtain rfl := si h
        exact we_ret fun a hF => hQ _ _ _ (Outs.out nofun (Exits.on ⟨rfl, (pr [.cell 2 60, .cell 3 29] [.agg #[(.slice Z26 (((mach_Look_1.f 7 (i3 : Int)).1).In).length cz26), .map m27], .agg #[vI (((mach_Look_1.f 7 (i3 : Int)).2).Code), vI (((mach_Look_1.f 7 (i3 : Int)).2).At)]] [.loaded ⟨b1, 0, none⟩ ((.slice Z26 (((mach_Look_1.f 7 (i3 : Int)).1).In).length cz26)), .loaded ⟨b1, 1, none⟩ (.map m27), .loaded ⟨b2, 0, none⟩ (vI (((mach_Look_1.f 7 (i3 : Int)).2).Code)), .loaded ⟨b2, 1, none⟩ (vI (((mach_Look_1.f 7 (i3 : Int)).2).At))] ⟨hS320.c 1, hS320.c 1, hS320.c 0, hS320.c 0, trivial⟩ ⟨(.slice Z26 (((mach_Look_1.f 7 (i3 : Int)).1).In).length cz26), m27, rfl, hS323⟩) a hF⟩))
   ·rw [if_neg hc25] at h
    refine wk 153 (e4.Op != 12) true (bne_iff_ne.2 hc25) ?_
    refine we_true (by kernel_rfl) ?_
    refine we_exit fun a hF => hK41 _ _ ?_ a hF
    refine wr [(0, 0), (1, 0)] ?_
    refine ge_addn (d := 196) (ty := 3) (x := (.tmp 141)) (y := (.const (vI 1))) (t := 3) (t2 := 3) (k := .i64) (m := i3) (by kernel_rfl) (by kernel_rfl) (by kernel_rfl) (by have h0 := hR0.small; omega) ?_
    refine gb0 [1] [(141, vI ((i3 + 1 : Nat) : Int))] ?_
    have hS324 := hS161.bring 6 rfl
    have hS325 := hS324.bring 6 rfl
    have hS326 := hS325.bring 6 rfl
    have hS327 := hS326.bring 6 rfl
    have hS328 := hS327.bring 6 rfl
    have hS329 := hS328.bring 6 rfl
    have hS330 := hS329.takeN 6
    obtain rfl := si h
    exact ge_nil fun a hF => hQ _ _ _ (Outs.again ⟨hS330, hF.weaken ea⟩)
 ·rw [if_neg hc15] at h
  refine wk 142 (decide ((i3 : Int) < (l0.length : Int))) false (decide_eq_false hc15) ?_
  refine we_false (by kernel_rfl) ?_
  have hS331 := hS.bring 5 rfl
  have hS332 := hS331.bring 5 rfl
  have hS333 := hS332.bring 5 rfl
  have hS334 := hS333.bring 5 rfl
  have hS335 := hS334.bring 5 rfl
  have hS336 := hS335.bring 5 rfl
  obtain rfl := si h
  exact we_exit fun a hF => hQ _ _ _ (Outs.out nofun (Exits.here ⟨hS336, hF.weaken ea⟩))
theorem mach_Look_ok (K : Nat) (l0 : List SIns) (A0 : Option Addr) (c0 : Nat) (w0 : World) (hR0 : RdL w0 A0 l0) (hL0 : l0.length ≤ c0) (r : SShape × SFault) (h : mach_Look.f K l0 = some r) :
  Calls Try.prog 22 #[.slice A0 l0.length c0] w0 (mach_Look.Post w0 r) := by
 have hS := St.start w0
 unfold mach_Look.f at h
 refine calls_enter (n := 209) (args := [.slice A0 l0.length c0]) (fn := Try.f22) rfl rfl rfl rfl ?_
 show WE _ _ _ _ [(0, .slice A0 l0.length c0)] _
 refine ws fun K1 hK1 => ?_
 refine wr [(0, 1), (1, 1)] ?_
 refine gw (some 2) (.cells #[.slice none 0 0, .map none] 60) (fun b => pP b 0) hS fun b1 w1 hx1 hS1 => ?_
 refine gw (some 3) (.cells #[vI 0, vI 0] 29) (fun b => pP b 0) hS1 fun b2 w2 hx2 hS2 => ?_
 refine gn hK1 ?_
 refine ws fun K2 hK2 => ?_
 refine wr [(0, 0)] ?_
 refine gb0 [0] [(4, .func (.func 37) #[] #[])] ?_
 refine gn hK2 ?_
 refine ws fun K3 hK3 => ?_
 refine ws fun K4 hK4 => ?_
 refine wr [(0, 0), (1, 0), (2, 0)] ?_
 refine gb0 [0, 1, 2] [(18, .bool (decide ((l0.length : Int) > 2000))), (17, vI (l0.length : Int)), (16, .slice A0 l0.length c0)] ?_
 refine gn hK4 ?_
 by_cases hc1 : (l0.length : Int) > 2000
 ·rw [if_pos hc1] at h
  refine wk 18 (decide ((l0.length : Int) > 2000)) true (decide_eq_true hc1) ?_
  refine we_true (by kernel_rfl) ?_
  refine ws fun K5 hK5 => ?_
  refine wr [(0, 0), (1, 1), (2, 0), (3, 0), (4, 2), (5, 2)] ?_
  refine gb0 [0] [(19, .func (.func 37) #[] #[])] ?_
  refine ge_call (d := some 20) (f := 37) (args := #[vI 2, vI 0]) (by kernel_rfl) (mach_Look_1_ok 2 0 _ _ rfl) ?_
  rintro _ w3 ⟨v1, m1, rfl, hS3⟩
  refine ⟨_, rfl, hS3.below, ?_⟩
  have hS4 := hS2.call hS3
  refine gb0 [2, 3] [(22, .agg #[vI (((mach_Look_1.f 2 0).2).Code), vI (((mach_Look_1.f 2 0).2).At)]), (21, .agg #[v1, .map m1])] ?_
  obtain ⟨Z1, cz1, rfl⟩ := hS4.open 0 rfl
  have hS5 := hS4.bring 3 rfl
  refine gs b1 0 #[.slice none 0 0, .map none] 60 [(.slice Z1 (((mach_Look_1.f 2 0).1).In).length cz1), .map m1] hS5 fun w4 hS6 => ?_
  have hS7 : St w0 w4 [Own.blk b1 (.cells #[(.slice Z1 (((mach_Look_1.f 2 0).1).In).length cz1), .map m1] 60 (0, 0)), Own.of (.slice Z1 (((mach_Look_1.f 2 0).1).In).length cz1) 3 (((mach_Look_1.f 2 0).1).In), Own.mapv (κ := Int) (ν := Int) m1 (((mach_Look_1.f 2 0).1).Close), Own.blk b2 (.cells #[vI 0, vI 0] 29 (0, 0))] := hS6
  have hS8 := hS7.bring 3 rfl
  refine gs b2 0 #[vI 0, vI 0] 29 [vI (((mach_Look_1.f 2 0).2).Code), vI (((mach_Look_1.f 2 0).2).At)] hS8 fun w5 hS9 => ?_
  have hS10 : St w0 w5 [Own.blk b2 (.cells #[vI (((mach_Look_1.f 2 0).2).Code), vI (((mach_Look_1.f 2 0).2).At)] 29 (0, 0)), Own.blk b1 (.cells #[(.slice Z1 (((mach_Look_1.f 2 0).1).In).length cz1), .map m1] 60 (0, 0)), Own.of (.slice Z1 (((mach_Look_1.f 2 0).1).In).length cz1) 3 (((mach_Look_1.f 2 0).1).In), Own.mapv (κ := Int) (ν := Int) m1 (((mach_Look_1.f 2 0).1).Close)] := hS9
  refine gn hK5 ?_
  have hS11 := hS10.bring 3 rfl
  have hS12 := hS11.bring 3 rfl
  have hS13 := hS12.takeN 2
  obtain rfl := si h
  exact we_ret (pr [.cell 2 60, .cell 3 29] [.agg #[(.slice Z1 (((mach_Look_1.f 2 0).1).In).length cz1), .map m1], .agg #[vI (((mach_Look_1.f 2 0).2).Code), vI (((mach_Look_1.f 2 0).2).At)]] [.loaded ⟨b1, 0, none⟩ ((.slice Z1 (((mach_Look_1.f 2 0).1).In).length cz1)), .loaded ⟨b1, 1, none⟩ (.map m1), .loaded ⟨b2, 0, none⟩ (vI (((mach_Look_1.f 2 0).2).Code)), .loaded ⟨b2, 1, none⟩ (vI (((mach_Look_1.f 2 0).2).At))] ⟨hS10.c 1, hS10.c 1, hS10.c 0, hS10.c 0, trivial⟩ ⟨(.slice Z1 (((mach_Look_1.f 2 0).1).In).length cz1), m1, rfl, hS13⟩)
 ·rw [if_neg hc1] at h
  refine wk 18 (decide ((l0.length : Int) > 2000)) false (decide_eq_false hc1) ?_
  refine we_false (by kernel_rfl) ?_
  refine we_skip fun a hF => hK3 _ _ ?_ a hF
  refine ws fun K6 hK6 => ?_
  refine ws fun K7 hK7 => ?_
  refine wr [(0, 0), (1, 0), (2, 0)] ?_
  refine gb0 [0, 1, 2] [(25, vI 0), (24, vI (l0.length : Int)), (23, .slice A0 l0.length c0)] ?_
  refine gn hK7 ?_
  refine we_block ?_
  have hS14 := hS2.bring 1 rfl
  have hS15 := hS14.bring 1 rfl
  rcases hq10 : iter (mach_Look.r0 l0) K 0 with _ | (_ | rr3)
  ·rw [hq10] at h; cases h
  ·rw [hq10] at h
   simp only [] at h
   refine we_iter (A := mach_Look.A0 w0 l0 A0 c0 b1 b2) (B := mach_Look.B0 w0 l0 A0 c0 b1 b2) hq10 (fun a hF => ⟨hS15, hF.weaken ea⟩) (fun s o hf a w hA Q hQ => mach_Look_r0 K w0 l0 A0 c0 hR0 hL0 b1 b2 hc1 s o hf a w hA Q hQ) ?_
   rintro _ a w26 _ ⟨rfl, hS88, hF⟩
   replace hS88 : St w0 w26 [Own.blk b2 (.cells #[vI 0, vI 0] 29 (0, 0)), Own.blk b1 (.cells #[.slice none 0 0, .map none] 60 (0, 0))] := hS88
   refine hK6 [(0, .slice A0 l0.length c0), (2, pP b1 0), (3, pP b2 0), (4, .func (.func 37) #[] #[])] w26 ?_ a hF
   refine ws fun K21 hK21 => ?_
   refine wr [(0, 0), (1, 0), (2, 0), (3, 1), (4, 1), (5, 0), (6, 0), (7, 1), (8, 0)] ?_
   refine gb0 [0, 1, 2] [(79, vI (l0.length : Int)), (78, .slice A0 l0.length c0), (77, .slice A0 l0.length c0)] ?_
   by_cases hc9 : l0.length ≤ 17592186044416
   ·rw [if_pos hc9] at h
    refine ge_make (α := Int) (d := 80) (t := 23) (el := 3) (bytes := 8) (l := l0.length) (c := l0.length) (x := (.tmp 79)) (y := (.tmp 79)) (ty := 23) (k1 := .i64) (k2 := .i64) (li := (l0.length : Int)) (ci := (l0.length : Int)) (z := vI 0) (z' := (0 : Int)) (by kernel_rfl) (by kernel_rfl) (by kernel_rfl) rfl rfl (by kernel_rfl) (by kernel_rfl) rfl hS88 (Nat.le_refl _) rfl (by omega) fun v7 w27 _ hS89 => ?_
    refine gw (some 81) (.map #[] 0) (fun b => .map (some b)) hS89 fun b4 w28 hx5 hS90 => ?_
    have hS91 := hS90.newMap (κ := Int) (ν := Int)
    obtain ⟨Z7, cz7, rfl⟩ := hS91.open 1 rfl
    refine gb0 [5, 6] [(83, .agg #[.slice A0 l0.length c0, .slice none 0 0, (.slice Z7 (List.replicate l0.length (0 : Int)).length cz7), .map (some b4)]), (82, .agg #[(.slice Z7 (List.replicate l0.length (0 : Int)).length cz7), .map (some b4)])] ?_
    refine gw (some 84) (.cells #[.slice A0 l0.length c0, .slice none 0 0, (.slice Z7 (List.replicate l0.length (0 : Int)).length cz7), .map (some b4)] 102) (fun b => pP b 0) hS91 fun b5 w29 hx6 hS92 => ?_
    refine gb0 [8] [(9, pP b5 0)] ?_
    refine gn hK21 ?_
    refine ws fun K22 hK22 => ?_
    refine ws fun K23 hK23 => ?_
    refine wr [(0, 0), (1, 0), (2, 0)] ?_
    refine gb0 [0, 1, 2] [(87, vI 0), (86, vI (l0.length : Int)), (85, .slice A0 l0.length c0)] ?_
    refine gn hK23 ?_
    refine we_block ?_
    have hS93 := hS92.nil (α := Int) 3
    have hS94 := hS93.bring 2 rfl
    have hS95 := hS94.bring 3 rfl
    have hS96 := hS95.bring 2 rfl
    have hS97 := hS96.bring 5 rfl
    have hS98 := hS97.bring 5 rfl
    have hS99 := hS98.bring 5 rfl
    rcases hq13 : iter (mach_Look.r1 K l0) K (0, ([] : List Int), (List.replicate l0.length (0 : Int)), ([] : List (Int × Int))) with _ | (⟨m12, m13, mp3⟩ | rr2)
    ·rw [hq13] at h; cases h
    ·rw [hq13] at h
     simp only [] at h
     refine we_iter (A := mach_Look.A1 w0 l0 A0 c0 b1 b2 b4 b5) (B := mach_Look.B1 w0 l0 A0 c0 b1 b2 b4 b5) hq13 (fun a hF => ⟨(.slice none 0 0), (.slice Z7 (List.replicate l0.length (0 : Int)).length cz7), hS99, hF.weaken ea⟩) (fun s o hf a w hA Q hQ => mach_Look_r1 K w0 l0 A0 c0 hR0 hL0 b1 b2 hc1 hc9 b4 Z7 cz7 b5 s o hf a w hA Q hQ) ?_
     rintro _ a w34 _ ⟨rfl, v15, v16, hS130, hF⟩
     replace hS130 : St w0 w34 [Own.blk b5 (.cells #[.slice A0 l0.length c0, v15, v16, .map (some b4)] 102 (0, 0)), Own.blk b2 (.cells #[vI 0, vI 0] 29 (0, 0)), Own.blk b1 (.cells #[.slice none 0 0, .map none] 60 (0, 0)), Own.of v15 3 m12, Own.of v16 3 m13, Own.map (κ := Int) (ν := Int) b4 mp3] := hS130
     refine hK22 [(0, .slice A0 l0.length c0), (2, pP b1 0), (3, pP b2 0), (4, .func (.func 37) #[] #[]), (9, pP b5 0)] w34 ?_ a hF
     refine ws fun K31 hK31 => ?_
     refine ws fun K32 hK32 => ?_
     refine wr [(0, 0), (1, 0), (2, 0), (3, 0), (4, 0), (5, 0)] ?_
     refine gb [0, 1, 2, 3] [(105, v15), (104, pP b5 1), (103, pP b5 0), (102, pP b5 0)] [.loaded ⟨b5, 1, none⟩ (v15)] ⟨hS130.c 0, trivial⟩ ?_
     obtain ⟨Z11, cz11, rfl⟩ := hS130.open 3 rfl
     refine gb0 [4, 5] [(107, .bool (decide ((m12.length : Int) > 0))), (106, vI (m12.length : Int))] ?_
     refine gn hK32 ?_
     by_cases hc12 : (m12.length : Int) > 0
     ·rw [if_pos hc12] at h
      refine wk 107 (decide ((m12.length : Int) > 0)) true (decide_eq_true hc12) ?_
      refine we_true (by kernel_rfl) ?_
      refine ws fun K33 hK33 => ?_
      refine ws fun K34 hK34 => ?_
      refine wr [(0, 0), (1, 0), (2, 0), (3, 0), (4, 0), (5, 0), (6, 0), (7, 0), (8, 0), (9, 0), (10, 0)] ?_
      refine gb [0, 1, 2, 3, 4] [(112, (.slice Z11 m12.length cz11)), (111, pP b5 1), (110, pP b5 0), (109, pP b5 0), (108, .slice A0 l0.length c0)] [.loaded ⟨b5, 1, none⟩ ((.slice Z11 m12.length cz11))] ⟨hS130.c 0, trivial⟩ ?_
      rcases hx7 : m12[0]? with _ | e2
      ·rw [hx7] at h; cases h
      rw [hx7] at h
      simp only [] at h
      refine gi 113 0 23 3 1 m12.length cz11 (.tmp 112) (.const (vI 0)) Z11 .i64 0 0 ((hS130.rdAt 3 rfl).eqSome (pos_of_get hx7)) rfl (lt_of_get hx7) ?_
      refine gb [6] [(114, vI e2)] [.loaded ⟨blkOf Z11, offOf Z11 + 0 * 1, none⟩ (vI e2)] ⟨RdL.cell (j := 0) (hS130.rdAt 3 rfl) hx7 rfl, trivial⟩ ?_
      by_cases hc13 : 0 ≤ e2
      ·rw [if_pos hc13] at h
       rcases hx8 : l0[(e2).toNat]? with _ | e3
       ·rw [hx8] at h; cases h
       rw [hx8] at h
       simp only [] at h
       refine gi 115 0 22 41 3 l0.length c0 (.tmp 108) (.tmp 114) A0 .i64 e2 ((e2).toNat) ((hS130.rd hR0).eqSome (pos_of_get hx8)) (Int.toNat_of_nonneg hc13).symm (lt_of_get hx8) ?_
       refine gb [8, 9, 10] [(118, .bool (e3.Op == 13)), (117, vI e3.Op), (116, .pointer (some ⟨blkOf A0, offOf A0 + (e2).toNat * 3, none⟩))] [.loaded ⟨blkOf A0, offOf A0 + ((e2).toNat) * 3, none⟩ (vI e3.Op)] ⟨RdL.cell (j := 0) (hS130.rd hR0) hx8 rfl, trivial⟩ ?_
       refine gn hK34 ?_
       by_cases hc14 : e3.Op = 13
       ·rw [if_pos hc14] at h
        refine wk 118 (e3.Op == 13) true (beq_iff_eq.2 hc14) ?_
        refine we_true (by kernel_rfl) ?_
        refine ws fun K35 hK35 => ?_
        refine wr [(0, 0), (1, 0), (2, 0), (3, 0), (4, 0), (5, 0), (6, 0), (7, 1), (8, 0), (9, 0), (10, 2), (11, 2)] ?_
        refine gb [0, 1, 2, 3, 4] [(123, (.slice Z11 m12.length cz11)), (122, pP b5 1), (121, pP b5 0), (120, pP b5 0), (119, .func (.func 37) #[] #[])] [.loaded ⟨b5, 1, none⟩ ((.slice Z11 m12.length cz11))] ⟨hS130.c 0, trivial⟩ ?_
        refine gi 124 0 23 3 1 m12.length cz11 (.tmp 123) (.const (vI 0)) Z11 .i64 0 0 ((hS130.rdAt 3 rfl).eqSome (pos_of_get hx7)) rfl (lt_of_get hx7) ?_
        refine gb [6] [(125, vI e2)] [.loaded ⟨blkOf Z11, offOf Z11 + 0 * 1, none⟩ (vI e2)] ⟨RdL.cell (j := 0) (hS130.rdAt 3 rfl) hx7 rfl, trivial⟩ ?_
        refine ge_call (d := some 126) (f := 37) (args := #[vI 9, vI e2]) (by kernel_rfl) (mach_Look_1_ok 9 e2 _ _ rfl) ?_
        rintro _ w35 ⟨v17, m14, rfl, hS131⟩
        refine ⟨_, rfl, hS131.below, ?_⟩
        have hS132 := hS130.call hS131
        refine gb0 [8, 9] [(128, .agg #[vI (((mach_Look_1.f 9 e2).2).Code), vI (((mach_Look_1.f 9 e2).2).At)]), (127, .agg #[v17, .map m14])] ?_
        obtain ⟨Z12, cz12, rfl⟩ := hS132.open 0 rfl
        have hS133 := hS132.bring 4 rfl
        refine gs b1 0 #[.slice none 0 0, .map none] 60 [(.slice Z12 (((mach_Look_1.f 9 e2).1).In).length cz12), .map m14] hS133 fun w36 hS134 => ?_
        have hS135 : St w0 w36 [Own.blk b1 (.cells #[(.slice Z12 (((mach_Look_1.f 9 e2).1).In).length cz12), .map m14] 60 (0, 0)), Own.of (.slice Z12 (((mach_Look_1.f 9 e2).1).In).length cz12) 3 (((mach_Look_1.f 9 e2).1).In), Own.mapv (κ := Int) (ν := Int) m14 (((mach_Look_1.f 9 e2).1).Close), Own.blk b5 (.cells #[.slice A0 l0.length c0, (.slice Z11 m12.length cz11), v16, .map (some b4)] 102 (0, 0)), Own.blk b2 (.cells #[vI 0, vI 0] 29 (0, 0)), Own.of (.slice Z11 m12.length cz11) 3 m12, Own.of v16 3 m13, Own.map (κ := Int) (ν := Int) b4 mp3] := hS134
        have hS136 := hS135.bring 4 rfl
        refine gs b2 0 #[vI 0, vI 0] 29 [vI (((mach_Look_1.f 9 e2).2).Code), vI (((mach_Look_1.f 9 e2).2).At)] hS136 fun w37 hS137 => ?_
        have hS138 : St w0 w37 [Own.blk b2 (.cells #[vI (((mach_Look_1.f 9 e2).2).Code), vI (((mach_Look_1.f 9 e2).2).At)] 29 (0, 0)), Own.blk b1 (.cells #[(.slice Z12 (((mach_Look_1.f 9 e2).1).In).length cz12), .map m14] 60 (0, 0)), Own.of (.slice Z12 (((mach_Look_1.f 9 e2).1).In).length cz12) 3 (((mach_Look_1.f 9 e2).1).In), Own.mapv (κ := Int) (ν := Int) m14 (((mach_Look_1.f 9 e2).1).Close), Own.blk b5 (.cells #[.slice A0 l0.length c0, (.slice Z11 m12.length cz11), v16, .map (some b4)] 102 (0, 0)), Own.of (.slice Z11 m12.length cz11) 3 m12, Own.of v16 3 m13, Own.map (κ := Int) (ν := Int) b4 mp3] := hS137
        refine gn hK35 ?_
        have hS139 := hS138.bring 3 rfl
        have hS140 := hS139.bring 3 rfl
        have hS141 := hS140.takeN 2
        obtain rfl := si h
        exact we_ret (pr [.cell 2 60, .cell 3 29] [.agg #[(.slice Z12 (((mach_Look_1.f 9 e2).1).In).length cz12), .map m14], .agg #[vI (((mach_Look_1.f 9 e2).2).Code), vI (((mach_Look_1.f 9 e2).2).At)]] [.loaded ⟨b1, 0, none⟩ ((.slice Z12 (((mach_Look_1.f 9 e2).1).In).length cz12)), .loaded ⟨b1, 1, none⟩ (.map m14), .loaded ⟨b2, 0, none⟩ (vI (((mach_Look_1.f 9 e2).2).Code)), .loaded ⟨b2, 1, none⟩ (vI (((mach_Look_1.f 9 e2).2).At))] ⟨hS138.c 1, hS138.c 1, hS138.c 0, hS138.c 0, trivial⟩ ⟨(.slice Z12 (((mach_Look_1.f 9 e2).1).In).length cz12), m14, rfl, hS141⟩)
       ·rw [if_neg hc14] at h
        refine wk 118 (e3.Op == 13) false (beq_eq_false_iff_ne.2 hc14) ?_
        refine we_false (by kernel_rfl) ?_
        refine we_skip fun a hF => hK33 _ _ ?_ a hF
        refine ws fun K36 hK36 => ?_
        refine wr [(0, 0), (1, 0), (2, 0), (3, 0), (4, 0), (5, 0), (6, 0), (7, 1), (8, 0), (9, 0), (10, 2), (11, 2)] ?_
        refine gb [0, 1, 2, 3, 4] [(133, (.slice Z11 m12.length cz11)), (132, pP b5 1), (131, pP b5 0), (130, pP b5 0), (129, .func (.func 37) #[] #[])] [.loaded ⟨b5, 1, none⟩ ((.slice Z11 m12.length cz11))] ⟨hS130.c 0, trivial⟩ ?_
        refine gi 134 0 23 3 1 m12.length cz11 (.tmp 133) (.const (vI 0)) Z11 .i64 0 0 ((hS130.rdAt 3 rfl).eqSome (pos_of_get hx7)) rfl (lt_of_get hx7) ?_
        refine gb [6] [(135, vI e2)] [.loaded ⟨blkOf Z11, offOf Z11 + 0 * 1, none⟩ (vI e2)] ⟨RdL.cell (j := 0) (hS130.rdAt 3 rfl) hx7 rfl, trivial⟩ ?_
        refine ge_call (d := some 136) (f := 37) (args := #[vI 10, vI e2]) (by kernel_rfl) (mach_Look_1_ok 10 e2 _ _ rfl) ?_
        rintro _ w38 ⟨v18, m15, rfl, hS142⟩
        refine ⟨_, rfl, hS142.below, ?_⟩
        have hS143 := hS130.call hS142
        refine gb0 [8, 9] [(138, .agg #[vI (((mach_Look_1.f 10 e2).2).Code), vI (((mach_Look_1.f 10 e2).2).At)]), (137, .agg #[v18, .map m15])] ?_
        obtain ⟨Z13, cz13, rfl⟩ := hS143.open 0 rfl
        have hS144 := hS143.bring 4 rfl
        refine gs b1 0 #[.slice none 0 0, .map none] 60 [(.slice Z13 (((mach_Look_1.f 10 e2).1).In).length cz13), .map m15] hS144 fun w39 hS145 => ?_
        have hS146 : St w0 w39 [Own.blk b1 (.cells #[(.slice Z13 (((mach_Look_1.f 10 e2).1).In).length cz13), .map m15] 60 (0, 0)), Own.of (.slice Z13 (((mach_Look_1.f 10 e2).1).In).length cz13) 3 (((mach_Look_1.f 10 e2).1).In), Own.mapv (κ := Int) (ν := Int) m15 (((mach_Look_1.f 10 e2).1).Close), Own.blk b5 (.cells #[.slice A0 l0.length c0, (.slice Z11 m12.length cz11), v16, .map (some b4)] 102 (0, 0)), Own.blk b2 (.cells #[vI 0, vI 0] 29 (0, 0)), Own.of (.slice Z11 m12.length cz11) 3 m12, Own.of v16 3 m13, Own.map (κ := Int) (ν := Int) b4 mp3] := hS145
        have hS147 := hS146.bring 4 rfl
        refine gs b2 0 #[vI 0, vI 0] 29 [vI (((mach_Look_1.f 10 e2).2).Code), vI (((mach_Look_1.f 10 e2).2).At)] hS147 fun w40 hS148 => ?_
        have hS149 : St w0 w40 [Own.blk b2 (.cells #[vI (((mach_Look_1.f 10 e2).2).Code), vI (((mach_Look_1.f 10 e2).2).At)] 29 (0, 0)), Own.blk b1 (.cells #[(.slice Z13 (((mach_Look_1.f 10 e2).1).In).length cz13), .map m15] 60 (0, 0)), Own.of (.slice Z13 (((mach_Look_1.f 10 e2).1).In).length cz13) 3 (((mach_Look_1.f 10 e2).1).In), Own.mapv (κ := Int) (ν := Int) m15 (((mach_Look_1.f 10 e2).1).Close), Own.blk b5 (.cells #[.slice A0 l0.length c0, (.slice Z11 m12.length cz11), v16, .map (some b4)] 102 (0, 0)), Own.of (.slice Z11 m12.length cz11) 3 m12, Own.of v16 3 m13, Own.map (κ := Int) (ν := Int) b4 mp3] := hS148
        refine gn hK36 ?_
        have hS150 := hS149.bring 3 rfl
        have hS151 := hS150.bring 3 rfl
        have hS152 := hS151.takeN 2
        obtain rfl := si h
        exact we_ret (pr [.cell 2 60, .cell 3 29] [.agg #[(.slice Z13 (((mach_Look_1.f 10 e2).1).In).length cz13), .map m15], .agg #[vI (((mach_Look_1.f 10 e2).2).Code), vI (((mach_Look_1.f 10 e2).2).At)]] [.loaded ⟨b1, 0, none⟩ ((.slice Z13 (((mach_Look_1.f 10 e2).1).In).length cz13)), .loaded ⟨b1, 1, none⟩ (.map m15), .loaded ⟨b2, 0, none⟩ (vI (((mach_Look_1.f 10 e2).2).Code)), .loaded ⟨b2, 1, none⟩ (vI (((mach_Look_1.f 10 e2).2).At))] ⟨hS149.c 1, hS149.c 1, hS149.c 0, hS149.c 0, trivial⟩ ⟨(.slice Z13 (((mach_Look_1.f 10 e2).1).In).length cz13), m15, rfl, hS152⟩)
      ·rw [if_neg hc13] at h
       cases h
     ·rw [if_neg hc12] at h
      refine wk 107 (decide ((m12.length : Int) > 0)) false (decide_eq_false hc12) ?_
      refine we_false (by kernel_rfl) ?_
      refine we_skip fun a hF => hK31 _ _ ?_ a hF
      refine ws fun K37 hK37 => ?_
      refine ws fun K38 hK38 => ?_
      refine wr [(0, 0), (1, 0), (2, 0)] ?_
      refine gb0 [0, 1, 2] [(141, vI 0), (140, vI (l0.length : Int)), (139, .slice A0 l0.length c0)] ?_
      refine gn hK38 ?_
      refine we_block ?_
      obtain ⟨Z14, cz14, rfl⟩ := hS130.open 4 rfl
      have hS153 := hS130.bring 5 rfl
      have hS154 := hS153.bring 5 rfl
      have hS155 := hS154.bring 5 rfl
      have hS156 := hS155.bring 5 rfl
      have hS157 := hS156.bring 5 rfl
      have hS158 := hS157.bring 5 rfl
      rcases hq28 : iter (mach_Look.r2 l0 m13) K 0 with _ | (_ | rr1)
      ·rw [hq28] at h; cases h
      ·rw [hq28] at h
       simp only [] at h
       refine we_iter (A := mach_Look.A2 w0 l0 A0 c0 b1 b2 b4 b5 m12 m13 mp3 Z11 cz11 Z14 cz14) (B := mach_Look.B2 w0 l0 A0 c0 b1 b2 b4 b5 m12 m13 mp3 Z11 cz11 Z14 cz14) hq28 (fun a hF => ⟨hS158, hF.weaken ea⟩) (fun s o hf a w hA Q hQ => mach_Look_r2 K w0 l0 A0 c0 hR0 hL0 b1 b2 hc1 hc9 b4 Z7 cz7 b5 m12 m13 mp3 Z11 cz11 hc12 Z14 cz14 s o hf a w hA Q hQ) ?_
       rintro _ a w79 _ ⟨rfl, hS337, hF⟩
       replace hS337 : St w0 w79 [Own.blk b5 (.cells #[.slice A0 l0.length c0, (.slice Z11 m12.length cz11), (.slice Z14 m13.length cz14), .map (some b4)] 102 (0, 0)), Own.blk b2 (.cells #[vI 0, vI 0] 29 (0, 0)), Own.blk b1 (.cells #[.slice none 0 0, .map none] 60 (0, 0)), Own.of (.slice Z11 m12.length cz11) 3 m12, Own.of (.slice Z14 m13.length cz14) 3 m13, Own.map (κ := Int) (ν := Int) b4 mp3] := hS337
       refine hK37 [(0, .slice A0 l0.length c0), (2, pP b1 0), (3, pP b2 0), (9, pP b5 0)] w79 ?_ a hF
       refine ws fun K67 hK67 => ?_
       refine ws fun K68 hK68 => ?_
       refine wr [(0, 0), (1, 1), (2, 1), (3, 2)] ?_
       rcases hq29 : mach_heights.f K l0 with _ | r3
       ·rw [hq29] at h; cases h
       rw [hq29] at h
       simp only [] at h
       refine gb0 [0] [(197, .slice A0 l0.length c0)] ?_
       refine ge_call (d := some 198) (f := 41) (args := #[.slice A0 l0.length c0]) (by kernel_rfl) (mach_heights_ok K l0 A0 c0 _ (hS337.rd hR0) hL0 _ hq29) ?_
       rintro _ w80 ⟨rfl, hS338⟩
       refine ⟨_, rfl, hS338.below, ?_⟩
       have hS339 := hS337.call hS338
       refine gw (some 15) (.cells #[vI 0, vI 0] 29) (fun b => pP b 0) hS339 fun b7 w81 hx17 hS340 => ?_
       refine gs b7 0 #[vI 0, vI 0] 29 [vI r3.Code, vI r3.At] hS340 fun w82 hS341 => ?_
       have hS342 : St w0 w82 [Own.blk b7 (.cells #[vI r3.Code, vI r3.At] 29 (0, 0)), Own.blk b5 (.cells #[.slice A0 l0.length c0, (.slice Z11 m12.length cz11), (.slice Z14 m13.length cz14), .map (some b4)] 102 (0, 0)), Own.blk b2 (.cells #[vI 0, vI 0] 29 (0, 0)), Own.blk b1 (.cells #[.slice none 0 0, .map none] 60 (0, 0)), Own.of (.slice Z11 m12.length cz11) 3 m12, Own.of (.slice Z14 m13.length cz14) 3 m13, Own.map (κ := Int) (ν := Int) b4 mp3] := hS341
       refine gn hK68 ?_
       refine ws fun K69 hK69 => ?_
       refine wr [(0, 0), (1, 0), (2, 0)] ?_
       refine gb [0, 1, 2] [(201, .bool (r3.Code != 0)), (200, vI r3.Code), (199, pP b7 0)] [.loaded ⟨b7, 0, none⟩ (vI r3.Code)] ⟨hS342.c 0, trivial⟩ ?_
       refine gn hK69 ?_
       by_cases hc34 : r3.Code = 0
       ·rw [if_pos hc34] at h
        refine wk 201 (r3.Code != 0) false (bne_eq_false_iff_eq.2 hc34) ?_
        refine we_false (by kernel_rfl) ?_
        refine we_skip fun a hF => hK67 _ _ ?_ a hF
        refine ws fun K70 hK70 => ?_
        refine wr [(0, 0), (1, 0), (2, 0), (3, 0), (4, 0), (5, 2), (6, 2)] ?_
        refine gb [0, 1, 2, 3, 4] [(208, .agg #[vI 0, vI 0]), (207, .agg #[(.slice Z14 m13.length cz14), .map (some b4)]), (206, pP b5 2), (205, pP b5 0), (204, pP b5 0)] [.loaded ⟨b5, 2, none⟩ ((.slice Z14 m13.length cz14)), .loaded ⟨b5, 3, none⟩ (.map (some b4))] ⟨hS342.c 1, hS342.c 1, trivial⟩ ?_
        have hS343 := hS342.bring 3 rfl
        refine gs b1 0 #[.slice none 0 0, .map none] 60 [(.slice Z14 m13.length cz14), .map (some b4)] hS343 fun w83 hS344 => ?_
        have hS345 : St w0 w83 [Own.blk b1 (.cells #[(.slice Z14 m13.length cz14), .map (some b4)] 60 (0, 0)), Own.blk b7 (.cells #[vI r3.Code, vI r3.At] 29 (0, 0)), Own.blk b5 (.cells #[.slice A0 l0.length c0, (.slice Z11 m12.length cz11), (.slice Z14 m13.length cz14), .map (some b4)] 102 (0, 0)), Own.blk b2 (.cells #[vI 0, vI 0] 29 (0, 0)), Own.of (.slice Z11 m12.length cz11) 3 m12, Own.of (.slice Z14 m13.length cz14) 3 m13, Own.map (κ := Int) (ν := Int) b4 mp3] := hS344
        have hS346 := hS345.bring 3 rfl
        refine gs b2 0 #[vI 0, vI 0] 29 [vI 0, vI 0] hS346 fun w84 hS347 => ?_
        have hS348 : St w0 w84 [Own.blk b2 (.cells #[vI 0, vI 0] 29 (0, 0)), Own.blk b1 (.cells #[(.slice Z14 m13.length cz14), .map (some b4)] 60 (0, 0)), Own.blk b7 (.cells #[vI r3.Code, vI r3.At] 29 (0, 0)), Own.blk b5 (.cells #[.slice A0 l0.length c0, (.slice Z11 m12.length cz11), (.slice Z14 m13.length cz14), .map (some b4)] 102 (0, 0)), Own.of (.slice Z11 m12.length cz11) 3 m12, Own.of (.slice Z14 m13.length cz14) 3 m13, Own.map (κ := Int) (ν := Int) b4 mp3] := hS347
        refine gn hK70 ?_
        have hS349 := hS348.bring 6 rfl
        have hS350 := hS349.bring 6 rfl
        have hS351 := hS350.takeN 2
        obtain rfl := si h
        exact we_ret (pr [.cell 2 60, .cell 3 29] [.agg #[(.slice Z14 m13.length cz14), .map (some b4)], .agg #[vI 0, vI 0]] [.loaded ⟨b1, 0, none⟩ ((.slice Z14 m13.length cz14)), .loaded ⟨b1, 1, none⟩ (.map (some b4)), .loaded ⟨b2, 0, none⟩ (vI 0), .loaded ⟨b2, 1, none⟩ (vI 0)] ⟨hS348.c 1, hS348.c 1, hS348.c 0, hS348.c 0, trivial⟩ ⟨(.slice Z14 m13.length cz14), (some b4), rfl, hS351⟩)
       ·rw [if_neg hc34] at h
        refine wk 201 (r3.Code != 0) true (bne_iff_ne.2 hc34) ?_
        refine we_true (by kernel_rfl) ?_
        refine ws fun K71 hK71 => ?_
        refine we_orders3 (by kernel_rfl) [(1, [⟨b7, 0, none⟩, ⟨b7, 1, none⟩], [], [])] (.vals [0] (.vals [1] (.alt 2 2 (.alt 3 2 .fin .nomore) .nomore))) (by kernel_rfl) (by kernel_rfl) ?_
        have hS352 := hS342.drew
        refine go3_batch [0] (ans := []) (vs := [(202, .agg #[.slice none 0 0, .map none])]) (l := []) (by kernel_rfl) trivial mem_nil3 ?_
        refine go3_batch [1] (ans := [.val (vI r3.Code), .val (vI r3.At)]) (vs := [(203, .agg #[vI r3.Code, vI r3.At])]) (l := [.loaded ⟨b7, 0, none⟩ (vI r3.Code), .loaded ⟨b7, 1, none⟩ (vI r3.At)]) (by kernel_rfl) ⟨hS352.c 0, hS352.c 0, trivial⟩ (mem_one3 (by kernel_rfl)) ?_
        refine go_alt3 (fun KK hKK => ?_) ?_
        ·have hS353 := hS352.bring 3 rfl
         refine gs b1 0 #[.slice none 0 0, .map none] 60 [.slice none 0 0, .map none] hS353 fun w85 hS354 => ?_
         have hS355 : St w0 w85 [Own.blk b1 (.cells #[.slice none 0 0, .map none] 60 (0, 0)), Own.blk b7 (.cells #[vI r3.Code, vI r3.At] 29 (0, 0)), Own.blk b5 (.cells #[.slice A0 l0.length c0, (.slice Z11 m12.length cz11), (.slice Z14 m13.length cz14), .map (some b4)] 102 (0, 0)), Own.blk b2 (.cells #[vI 0, vI 0] 29 (0, 0)), Own.of (.slice Z11 m12.length cz11) 3 m12, Own.of (.slice Z14 m13.length cz14) 3 m13, Own.map (κ := Int) (ν := Int) b4 mp3] := hS354
         refine ge_nil fun a hF => hKK _ _ (RS.of2 (l := [.loaded ⟨b7, 0, none⟩ (vI r3.Code), .loaded ⟨b7, 1, none⟩ (vI r3.At)]) (by kernel_rfl) ⟨hS352.c 0, hS352.c 0, trivial⟩ ⟨hS355.c 1, hS355.c 1, trivial⟩) ?_ a hF
         refine go_alt3 (fun KK hKK => ?_) ?_
         ·have hS356 := hS355.bring 3 rfl
          refine gs b2 0 #[vI 0, vI 0] 29 [vI r3.Code, vI r3.At] hS356 fun w86 hS357 => ?_
          have hS358 : St w0 w86 [Own.blk b2 (.cells #[vI r3.Code, vI r3.At] 29 (0, 0)), Own.blk b1 (.cells #[.slice none 0 0, .map none] 60 (0, 0)), Own.blk b7 (.cells #[vI r3.Code, vI r3.At] 29 (0, 0)), Own.blk b5 (.cells #[.slice A0 l0.length c0, (.slice Z11 m12.length cz11), (.slice Z14 m13.length cz14), .map (some b4)] 102 (0, 0)), Own.of (.slice Z11 m12.length cz11) 3 m12, Own.of (.slice Z14 m13.length cz14) 3 m13, Own.map (κ := Int) (ν := Int) b4 mp3] := hS357
          refine ge_nil fun a hF => hKK _ _ (RS.of2 (l := []) (by kernel_rfl) trivial trivial) ?_ a hF
          refine go_fin3 fun a hF => hK71 _ _ ?_ a hF
          have hS359 := hS358.nil (α := Int) 3
          have hS360 := hS359.nilMap (κ := Int) (ν := Int)
          have hS361 := hS360.bring 1 rfl
          have hS362 := hS361.takeN 2
          obtain rfl := si h
          exact we_ret (pr [.cell 2 60, .cell 3 29] [.agg #[(.slice none 0 0), .map none], .agg #[vI r3.Code, vI r3.At]] [.loaded ⟨b1, 0, none⟩ ((.slice none 0 0)), .loaded ⟨b1, 1, none⟩ (.map none), .loaded ⟨b2, 0, none⟩ (vI r3.Code), .loaded ⟨b2, 1, none⟩ (vI r3.At)] ⟨hS360.c 3, hS360.c 3, hS360.c 2, hS360.c 2, trivial⟩ ⟨(.slice none 0 0), none, rfl, hS362⟩)
         exact go_nomore3
        exact go_nomore3
      ·rw [hq28] at h
       simp only [] at h
       refine we_iter (A := mach_Look.A2 w0 l0 A0 c0 b1 b2 b4 b5 m12 m13 mp3 Z11 cz11 Z14 cz14) (B := mach_Look.B2 w0 l0 A0 c0 b1 b2 b4 b5 m12 m13 mp3 Z11 cz11 Z14 cz14) hq28 (fun a hF => ⟨hS158, hF.weaken ea⟩) (fun s o hf a w hA Q hQ => mach_Look_r2 K w0 l0 A0 c0 hR0 hL0 b1 b2 hc1 hc9 b4 Z7 cz7 b5 m12 m13 mp3 Z11 cz11 hc12 Z14 cz14 s o hf a w hA Q hQ) ?_
       rintro _ a w1 _ ⟨rfl, hb⟩
       obtain rfl := si h
       exact hb
    ·rw [hq13] at h
     simp only [] at h
     refine we_iter (A := mach_Look.A1 w0 l0 A0 c0 b1 b2 b4 b5) (B := mach_Look.B1 w0 l0 A0 c0 b1 b2 b4 b5) hq13 (fun a hF => ⟨(.slice none 0 0), (.slice Z7 (List.replicate l0.length (0 : Int)).length cz7), hS99, hF.weaken ea⟩) (fun s o hf a w hA Q hQ => mach_Look_r1 K w0 l0 A0 c0 hR0 hL0 b1 b2 hc1 hc9 b4 Z7 cz7 b5 s o hf a w hA Q hQ) ?_
     rintro _ a w1 _ ⟨rfl, hb⟩
     obtain rfl := si h
     exact hb
   ·rw [if_neg hc9] at h
    cases h
  ·rw [hq10] at h
   simp only [] at h
   refine we_iter (A := mach_Look.A0 w0 l0 A0 c0 b1 b2) (B := mach_Look.B0 w0 l0 A0 c0 b1 b2) hq10 (fun a hF => ⟨hS15, hF.weaken ea⟩) (fun s o hf a w hA Q hQ => mach_Look_r0 K w0 l0 A0 c0 hR0 hL0 b1 b2 hc1 s o hf a w hA Q hQ) ?_
   rintro _ a w1 _ ⟨rfl, hb⟩
   obtain rfl := si h
   exact hb

/-! punctual/wcet.at -/
theorem wcet_at_ok (l0 : List Int) (A0 : Option Addr) (c0 : Nat) (w0 : World) (hR0 : RdL w0 A0 l0) (hL0 : l0.length ≤ c0) : Calls Try.prog 24 #[.slice A0 l0.length c0] w0 (fun e w => ∃ (b0 : Nat), e = .returned (.func (.func 43) #[] #[pP b0 0]) ∧ St w0 w [Own.blk b0 (.cells #[.slice A0 l0.length c0] 23 (0, 0))]) := by
 have hS := St.start w0
 refine calls_enter (n := 4) (args := [.slice A0 l0.length c0]) (fn := Try.f24) rfl rfl rfl rfl ?_
 show WE _ _ _ _ [(0, .slice A0 l0.length c0)] _
 refine ws fun K1 hK1 => ?_
 refine wr [(0, 1), (1, 0)] ?_
 refine gw (some 1) (.cells #[.slice A0 l0.length c0] 23) (fun b => pP b 0) hS fun b1 w1 hx1 hS1 => ?_
 refine gb0 [1] [(2, .nilFunc)] ?_
 refine gn hK1 ?_
 refine ws fun K2 hK2 => ?_
 refine wr [(0, 0), (1, 0)] ?_
 refine gb0 [0, 1] [(2, .func (.func 43) #[] #[pP b1 0]), (3, .func (.func 43) #[] #[pP b1 0])] ?_
 refine gn hK2 ?_
 exact we_ret (pr0 [.tmp 2] [.func (.func 43) #[] #[pP b1 0]] ⟨b1, rfl, hS1⟩)

/-! punctual/mach.Cost -/
abbrev mach_Cost.Post (w0 : World) (r : Int) (e : Ending) (w : World) : Prop := e = .returned (vI r) ∧ St w0 w []
def mach_Cost.f (x0 : SIns) (x1 : Bool) : Int :=
 if x0.Op = 6 then
  3
 else
  if x0.Op = 9 then
   2
  else
   if x0.Op = 10 then
    2
   else
    if x0.Op = 11 then
     2
    else
     if x0.Op = 12 then
      if x1 = true then
       2
      else
       1
     else
      if x0.Op = 14 then
       if x1 = true then
        2
       else
        1
      else
       if x0.Op = 18 then
        x0.A
       else
        1
theorem mach_Cost_ok (x0 : SIns) (x1 : Bool) (w0 : World) (r : Int) (h : mach_Cost.f x0 x1 = r) :
  Calls Try.prog 42 #[.agg #[vI x0.Op, vI x0.A, vI x0.B], .bool x1] w0 (mach_Cost.Post w0 r) := by
 have hS := St.start w0
 unfold mach_Cost.f at h
 refine calls_enter (n := 21) (args := [.agg #[vI x0.Op, vI x0.A, vI x0.B], .bool x1]) (fn := Try.f42) rfl rfl rfl rfl ?_
 show WE _ _ _ _ [(0, .agg #[vI x0.Op, vI x0.A, vI x0.B]), (1, .bool x1)] _
 refine ws fun K1 hK1 => ?_
 refine wr [(0, 1), (1, 0)] ?_
 refine gw (some 2) (.cells #[vI x0.Op, vI x0.A, vI x0.B] 41) (fun b => pP b 0) hS fun b1 w1 hx1 hS1 => ?_
 refine gb0 [1] [(4, vI 0)] ?_
 refine gn hK1 ?_
 refine ws fun K2 hK2 => ?_
 refine ws fun K3 hK3 => ?_
 refine wr [(0, 0), (1, 0)] ?_
 refine gb [0, 1] [(6, vI x0.Op), (5, pP b1 0)] [.loaded ⟨b1, 0, none⟩ (vI x0.Op)] ⟨hS1.c 0, trivial⟩ ?_
 refine gn hK3 ?_
 refine we_block ?_
 refine ws fun K4 hK4 => ?_
 refine wr [(0, 0), (1, 0)] ?_
 refine gb0 [0, 1] [(7, .bool (x0.Op == 6)), (8, .bool (x0.Op == 6))] ?_
 refine gn hK4 ?_
 by_cases hc1 : x0.Op = 6
 ·rw [if_pos hc1] at h
  refine wk 7 (x0.Op == 6) true (beq_iff_eq.2 hc1) ?_
  refine we_true (by kernel_rfl) ?_
  refine ws fun K5 hK5 => ?_
  refine wr [(0, 0)] ?_
  refine gb0 [0] [(4, vI 3)] ?_
  refine gn hK5 ?_
  have hS2 := hS1.takeN 0
  subst h
  exact we_ret (pr0 [.tmp 4] [vI 3] ⟨rfl, hS2⟩)
 ·rw [if_neg hc1] at h
  refine wk 7 (x0.Op == 6) false (beq_eq_false_iff_ne.2 hc1) ?_
  refine we_false (by kernel_rfl) ?_
  refine ws fun K6 hK6 => ?_
  refine ws fun K7 hK7 => ?_
  refine wr [(0, 0), (1, 0)] ?_
  refine gb0 [0, 1] [(9, .bool (x0.Op == 9)), (10, .bool (x0.Op == 9))] ?_
  refine gn hK7 ?_
  by_cases hc2 : x0.Op = 9
  ·rw [if_pos hc2] at h
   refine wk 9 (x0.Op == 9) true (beq_iff_eq.2 hc2) ?_
   refine we_true (by kernel_rfl) ?_
   refine we_skip fun a hF => hK6 _ _ ?_ a hF
   refine we_true (by kernel_rfl) ?_
   refine ws fun K8 hK8 => ?_
   refine wr [(0, 0)] ?_
   refine gb0 [0] [(4, vI 2)] ?_
   refine gn hK8 ?_
   have hS3 := hS1.takeN 0
   subst h
   exact we_ret (pr0 [.tmp 4] [vI 2] ⟨rfl, hS3⟩)
  ·rw [if_neg hc2] at h
   refine wk 9 (x0.Op == 9) false (beq_eq_false_iff_ne.2 hc2) ?_
   refine we_false (by kernel_rfl) ?_
   refine ws fun K9 hK9 => ?_
   refine wr [(0, 0), (1, 0)] ?_
   refine gb0 [0, 1] [(9, .bool (x0.Op == 10)), (11, .bool (x0.Op == 10))] ?_
   refine gn hK9 ?_
   by_cases hc3 : x0.Op = 10
   ·rw [if_pos hc3] at h
    refine wk 9 (x0.Op == 10) true (beq_iff_eq.2 hc3) ?_
    refine we_true (by kernel_rfl) ?_
    refine we_skip fun a hF => hK6 _ _ ?_ a hF
    refine we_true (by kernel_rfl) ?_
    refine ws fun K10 hK10 => ?_
    refine wr [(0, 0)] ?_
    refine gb0 [0] [(4, vI 2)] ?_
    refine gn hK10 ?_
    have hS4 := hS1.takeN 0
    subst h
    exact we_ret (pr0 [.tmp 4] [vI 2] ⟨rfl, hS4⟩)
   ·rw [if_neg hc3] at h
    refine wk 9 (x0.Op == 10) false (beq_eq_false_iff_ne.2 hc3) ?_
    refine we_false (by kernel_rfl) ?_
    refine wr [(0, 0), (1, 0)] ?_
    refine gb0 [0, 1] [(9, .bool (x0.Op == 11)), (12, .bool (x0.Op == 11))] ?_
    refine gn hK6 ?_
    by_cases hc4 : x0.Op = 11
    ·rw [if_pos hc4] at h
     refine wk 9 (x0.Op == 11) true (beq_iff_eq.2 hc4) ?_
     refine we_true (by kernel_rfl) ?_
     refine ws fun K11 hK11 => ?_
     refine wr [(0, 0)] ?_
     refine gb0 [0] [(4, vI 2)] ?_
     refine gn hK11 ?_
     have hS5 := hS1.takeN 0
     subst h
     exact we_ret (pr0 [.tmp 4] [vI 2] ⟨rfl, hS5⟩)
    ·rw [if_neg hc4] at h
     refine wk 9 (x0.Op == 11) false (beq_eq_false_iff_ne.2 hc4) ?_
     refine we_false (by kernel_rfl) ?_
     refine ws fun K12 hK12 => ?_
     refine ws fun K13 hK13 => ?_
     refine wr [(0, 0), (1, 0)] ?_
     refine gb0 [0, 1] [(13, .bool (x0.Op == 12)), (14, .bool (x0.Op == 12))] ?_
     refine gn hK13 ?_
     by_cases hc5 : x0.Op = 12
     ·rw [if_pos hc5] at h
      refine wk 13 (x0.Op == 12) true (beq_iff_eq.2 hc5) ?_
      refine we_true (by kernel_rfl) ?_
      refine we_skip fun a hF => hK12 _ _ ?_ a hF
      refine we_true (by kernel_rfl) ?_
      refine ws fun K14 hK14 => ?_
      refine wr [(0, 0)] ?_
      refine gb0 [0] [(16, .bool x1)] ?_
      refine gn hK14 ?_
      by_cases hc6 : x1 = true
      ·rw [if_pos hc6] at h
       refine wk 16 x1 true hc6 ?_
       refine we_true (by kernel_rfl) ?_
       refine ws fun K15 hK15 => ?_
       refine wr [(0, 0)] ?_
       refine gb0 [0] [(4, vI 2)] ?_
       refine gn hK15 ?_
       have hS6 := hS1.takeN 0
       subst h
       exact we_ret (pr0 [.tmp 4] [vI 2] ⟨rfl, hS6⟩)
      ·rw [if_neg hc6] at h
       refine wk 16 x1 false (Bool.eq_false_iff.2 hc6) ?_
       refine we_false (by kernel_rfl) ?_
       refine we_skip fun a hF => hK2 _ _ ?_ a hF
       refine ws fun K16 hK16 => ?_
       refine wr [(0, 0)] ?_
       refine gb0 [0] [(4, vI 1)] ?_
       refine gn hK16 ?_
       have hS7 := hS1.takeN 0
       subst h
       exact we_ret (pr0 [.tmp 4] [vI 1] ⟨rfl, hS7⟩)
     ·rw [if_neg hc5] at h
      refine wk 13 (x0.Op == 12) false (beq_eq_false_iff_ne.2 hc5) ?_
      refine we_false (by kernel_rfl) ?_
      refine wr [(0, 0), (1, 0)] ?_
      refine gb0 [0, 1] [(13, .bool (x0.Op == 14)), (15, .bool (x0.Op == 14))] ?_
      refine gn hK12 ?_
      by_cases hc7 : x0.Op = 14
      ·rw [if_pos hc7] at h
       refine wk 13 (x0.Op == 14) true (beq_iff_eq.2 hc7) ?_
       refine we_true (by kernel_rfl) ?_
       refine ws fun K17 hK17 => ?_
       refine wr [(0, 0)] ?_
       refine gb0 [0] [(16, .bool x1)] ?_
       refine gn hK17 ?_
       by_cases hc8 : x1 = true
       ·rw [if_pos hc8] at h
        refine wk 16 x1 true hc8 ?_
        refine we_true (by kernel_rfl) ?_
        refine ws fun K18 hK18 => ?_
        refine wr [(0, 0)] ?_
        refine gb0 [0] [(4, vI 2)] ?_
        refine gn hK18 ?_
        have hS8 := hS1.takeN 0
        subst h
        exact we_ret (pr0 [.tmp 4] [vI 2] ⟨rfl, hS8⟩)
       ·rw [if_neg hc8] at h
        refine wk 16 x1 false (Bool.eq_false_iff.2 hc8) ?_
        refine we_false (by kernel_rfl) ?_
        refine we_skip fun a hF => hK2 _ _ ?_ a hF
        refine ws fun K19 hK19 => ?_
        refine wr [(0, 0)] ?_
        refine gb0 [0] [(4, vI 1)] ?_
        refine gn hK19 ?_
        have hS9 := hS1.takeN 0
        subst h
        exact we_ret (pr0 [.tmp 4] [vI 1] ⟨rfl, hS9⟩)
      ·rw [if_neg hc7] at h
       refine wk 13 (x0.Op == 14) false (beq_eq_false_iff_ne.2 hc7) ?_
       refine we_false (by kernel_rfl) ?_
       refine ws fun K20 hK20 => ?_
       refine wr [(0, 0), (1, 0)] ?_
       refine gb0 [0, 1] [(17, .bool (x0.Op == 18)), (18, .bool (x0.Op == 18))] ?_
       refine gn hK20 ?_
       by_cases hc9 : x0.Op = 18
       ·rw [if_pos hc9] at h
        refine wk 17 (x0.Op == 18) true (beq_iff_eq.2 hc9) ?_
        refine we_true (by kernel_rfl) ?_
        refine ws fun K21 hK21 => ?_
        refine wr [(0, 0), (1, 0), (2, 0)] ?_
        refine gb [0, 1, 2] [(4, vI x0.A), (20, vI x0.A), (19, pP b1 1)] [.loaded ⟨b1, 1, none⟩ (vI x0.A)] ⟨hS1.c 0, trivial⟩ ?_
        refine gn hK21 ?_
        have hS10 := hS1.takeN 0
        subst h
        exact we_ret (pr0 [.tmp 4] [vI x0.A] ⟨rfl, hS10⟩)
       ·rw [if_neg hc9] at h
        refine wk 17 (x0.Op == 18) false (beq_eq_false_iff_ne.2 hc9) ?_
        refine we_false (by kernel_rfl) ?_
        refine we_skip fun a hF => hK2 _ _ ?_ a hF
        refine ws fun K22 hK22 => ?_
        refine wr [(0, 0)] ?_
        refine gb0 [0] [(4, vI 1)] ?_
        refine gn hK22 ?_
        have hS11 := hS1.takeN 0
        subst h
        exact we_ret (pr0 [.tmp 4] [vI 1] ⟨rfl, hS11⟩)

/-! punctual/wcet.at$1 -/
abbrev wcet_at_1.Post (w0 : World) (r : Int) (e : Ending) (w : World) : Prop := e = .returned (vI r) ∧ St w0 w []
def wcet_at_1.f (x0 : Int) (lf_0 : List Int) : Option Int :=
 if x0 ≥ (lf_0.length : Int) then
  some 0
 else
  if 0 ≤ x0 then
   match lf_0[(x0).toNat]? with
   | none => none
   | some e1 =>
    some e1
  else
   none
theorem wcet_at_1_ok (x0 : Int) (bf_0 : Nat) (lf_0 : List Int) (Af_0 : Option Addr) (cf_0 : Nat) (w0 : World) (hRf_0 : RdL w0 Af_0 lf_0) (hLf_0 : lf_0.length ≤ cf_0) (hBf_0 : Glob w0 bf_0 [.slice Af_0 lf_0.length cf_0]) (r : Int) (h : wcet_at_1.f x0 lf_0 = some r) :
  Calls Try.prog 43 #[vI x0, pP bf_0 0] w0 (wcet_at_1.Post w0 r) := by
 have hS := St.start w0
 unfold wcet_at_1.f at h
 refine calls_enter (n := 12) (args := [vI x0, pP bf_0 0]) (fn := Try.f43) rfl rfl rfl rfl ?_
 show WE _ _ _ _ [(0, vI x0), (1, pP bf_0 0)] _
 refine ws fun K1 hK1 => ?_
 refine wr [(0, 0)] ?_
 refine gb0 [0] [(3, vI 0)] ?_
 refine gn hK1 ?_
 refine ws fun K2 hK2 => ?_
 refine ws fun K3 hK3 => ?_
 refine wr [(0, 0), (1, 0), (2, 0), (3, 0)] ?_
 refine gb [0, 1, 2, 3] [(7, .bool (decide (x0 ≥ (lf_0.length : Int)))), (6, vI (lf_0.length : Int)), (5, .slice Af_0 lf_0.length cf_0), (4, vI x0)] [.loaded ⟨bf_0, 0, none⟩ (.slice Af_0 lf_0.length cf_0)] ⟨hS.glob hBf_0 rfl, trivial⟩ ?_
 refine gn hK3 ?_
 by_cases hc1 : x0 ≥ (lf_0.length : Int)
 ·rw [if_pos hc1] at h
  refine wk 7 (decide (x0 ≥ (lf_0.length : Int))) true (decide_eq_true hc1) ?_
  refine we_true (by kernel_rfl) ?_
  refine ws fun K4 hK4 => ?_
  refine wr [(0, 0)] ?_
  refine gb0 [0] [(3, vI 0)] ?_
  refine gn hK4 ?_
  obtain rfl := si h
  exact we_ret (pr0 [.tmp 3] [vI 0] ⟨rfl, hS⟩)
 ·rw [if_neg hc1] at h
  refine wk 7 (decide (x0 ≥ (lf_0.length : Int))) false (decide_eq_false hc1) ?_
  refine we_false (by kernel_rfl) ?_
  refine we_skip fun a hF => hK2 _ _ ?_ a hF
  refine ws fun K5 hK5 => ?_
  refine wr [(0, 0), (1, 0), (2, 0), (3, 0), (4, 0)] ?_
  refine gb [0, 1] [(9, vI x0), (8, .slice Af_0 lf_0.length cf_0)] [.loaded ⟨bf_0, 0, none⟩ (.slice Af_0 lf_0.length cf_0)] ⟨hS.glob hBf_0 rfl, trivial⟩ ?_
  by_cases hc2 : 0 ≤ x0
  ·rw [if_pos hc2] at h
   rcases hx1 : lf_0[(x0).toNat]? with _ | e1
   ·rw [hx1] at h; cases h
   rw [hx1] at h
   simp only [] at h
   refine gi 10 0 23 3 1 lf_0.length cf_0 (.tmp 8) (.tmp 9) Af_0 .i64 x0 ((x0).toNat) ((hS.rd hRf_0).eqSome (pos_of_get hx1)) (Int.toNat_of_nonneg hc2).symm (lt_of_get hx1) ?_
   refine gb [3, 4] [(3, vI e1), (11, vI e1)] [.loaded ⟨blkOf Af_0, offOf Af_0 + ((x0).toNat) * 1, none⟩ (vI e1)] ⟨RdL.cell (j := 0) (hS.rd hRf_0) hx1 rfl, trivial⟩ ?_
   refine gn hK5 ?_
   obtain rfl := si h
   exact we_ret (pr0 [.tmp 3] [vI e1] ⟨rfl, hS⟩)
  ·rw [if_neg hc2] at h
   cases h

/-! punctual/wcet.need -/
abbrev wcet_need.Post (w0 : World) (r : Int) (e : Ending) (w : World) : Prop := e = .returned (vI r) ∧ St w0 w []
def wcet_need.f (l0 : List SIns) (l1_0 : List Int) (m1_1 : List (Int × Int)) (lg2_0 : List Int) (x3 : Int) : Option Int :=
 if 0 ≤ x3 then
  match l0[(x3).toNat]? with
  | none => none
  | some e1 =>
   if e1.Op = 14 then
    some 0
   else
    if e1.Op = 17 then
     some 1
    else
     if e1.Op = 11 then
      match wcet_at_1.f e1.A lg2_0 with
      | none => none
      | some r1 =>
       some (IntKind.i64.wrap ((mach_Cost.f e1 true) + r1))
     else
      if e1.Op = 12 then
       match wcet_at_1.f e1.A lg2_0 with
       | none => none
       | some r2 =>
        match wcet_at_1.f (IntKind.i64.wrap (x3 + 1)) lg2_0 with
        | none => none
        | some r3 =>
         some (gmax (IntKind.i64.wrap ((mach_Cost.f e1 true) + r2)) (IntKind.i64.wrap ((mach_Cost.f e1 false) + r3)))
      else
       if e1.Op = 13 then
        match wcet_at_1.f (IntKind.i64.wrap (x3 + 1)) lg2_0 with
        | none => none
        | some r4 =>
         match wcet_at_1.f (IntKind.i64.wrap (((mget m1_1 x3).getD 0) + 1)) lg2_0 with
         | none => none
         | some r5 =>
          some (IntKind.i64.wrap ((IntKind.i64.wrap ((IntKind.i64.wrap ((IntKind.i64.wrap (1 + (IntKind.i64.wrap ((IntKind.i64.wrap (e1.B + 1)) * r4)))) + (IntKind.i64.wrap (2 * e1.B)))) + 1)) + r5))
       else
        if e1.Op = 16 then
         match wcet_at_1.f (IntKind.i64.wrap (x3 + 1)) lg2_0 with
         | none => none
         | some r6 =>
          match wcet_at_1.f (IntKind.i64.wrap (((mget m1_1 x3).getD 0) + 1)) lg2_0 with
          | none => none
          | some r7 =>
           some (IntKind.i64.wrap ((IntKind.i64.wrap (1 + r6)) + r7))
        else
         match wcet_at_1.f (IntKind.i64.wrap (x3 + 1)) lg2_0 with
         | none => none
         | some r8 =>
          some (IntKind.i64.wrap ((mach_Cost.f e1 false) + r8))
 else
  none
theorem wcet_need_ok (l0 : List SIns) (A0 : Option Addr) (c0 : Nat) (l1_0 : List Int) (A1_0 : Option Addr) (c1_0 : Nat) (m1_1 : List (Int × Int)) (mb1_1 : Option Nat) (bg2_0 : Nat) (lg2_0 : List Int) (Ag2_0 : Option Addr) (cg2_0 : Nat) (x3 : Int) (w0 : World) (hR0 : RdL w0 A0 l0) (hL0 : l0.length ≤ c0) (hR1_0 : RdL w0 A1_0 l1_0) (hL1_0 : l1_0.length ≤ c1_0) (hM1_1 : RdM w0 mb1_1 m1_1) (hRg2_0 : RdL w0 Ag2_0 lg2_0) (hLg2_0 : lg2_0.length ≤ cg2_0) (hBg2_0 : Glob w0 bg2_0 [.slice Ag2_0 lg2_0.length cg2_0]) (r : Int) (h : wcet_need.f l0 l1_0 m1_1 lg2_0 x3 = some r) :
  Calls Try.prog 23 #[.slice A0 l0.length c0, .agg #[.slice A1_0 l1_0.length c1_0, .map mb1_1], .func (.func 43) #[] #[pP bg2_0 0], vI x3] w0 (wcet_need.Post w0 r) := by
 have hS := St.start w0
 unfold wcet_need.f at h
 refine calls_enter (n := 92) (args := [.slice A0 l0.length c0, .agg #[.slice A1_0 l1_0.length c1_0, .map mb1_1], .func (.func 43) #[] #[pP bg2_0 0], vI x3]) (fn := Try.f23) rfl rfl rfl rfl ?_
 show WE _ _ _ _ [(0, .slice A0 l0.length c0), (1, .agg #[.slice A1_0 l1_0.length c1_0, .map mb1_1]), (2, .func (.func 43) #[] #[pP bg2_0 0]), (3, vI x3)] _
 refine ws fun K1 hK1 => ?_
 refine wr [(0, 1), (1, 0)] ?_
 refine gw (some 5) (.cells #[.slice A1_0 l1_0.length c1_0, .map mb1_1] 60) (fun b => pP b 0) hS fun b1 w1 hx1 hS1 => ?_
 refine gb0 [1] [(8, vI 0)] ?_
 refine gn hK1 ?_
 refine ws fun K2 hK2 => ?_
 refine wr [(0, 0), (1, 0), (2, 0), (3, 0), (4, 1), (5, 2)] ?_
 refine gb0 [0, 1] [(11, vI x3), (10, .slice A0 l0.length c0)] ?_
 by_cases hc1 : 0 ≤ x3
 ·rw [if_pos hc1] at h
  rcases hx2 : l0[(x3).toNat]? with _ | e1
  ·rw [hx2] at h; cases h
  rw [hx2] at h
  simp only [] at h
  refine gi 12 0 22 41 3 l0.length c0 (.tmp 10) (.tmp 11) A0 .i64 x3 ((x3).toNat) ((hS1.rd hR0).eqSome (pos_of_get hx2)) (Int.toNat_of_nonneg hc1).symm (lt_of_get hx2) ?_
  refine gb [3] [(13, .agg #[vI e1.Op, vI e1.A, vI e1.B])] [.loaded ⟨blkOf A0, offOf A0 + ((x3).toNat) * 3, none⟩ (vI e1.Op), .loaded ⟨blkOf A0, offOf A0 + ((x3).toNat) * 3 + 1, none⟩ (vI e1.A), .loaded ⟨blkOf A0, offOf A0 + ((x3).toNat) * 3 + 2, none⟩ (vI e1.B)] ⟨RdL.cell (j := 0) (hS1.rd hR0) hx2 rfl, RdL.cell (j := 1) (hS1.rd hR0) hx2 rfl, RdL.cell (j := 2) (hS1.rd hR0) hx2 rfl, trivial⟩ ?_
  refine gw (some 9) (.cells #[vI 0, vI 0, vI 0] 41) (fun b => pP b 0) hS1 fun b2 w2 hx3 hS2 => ?_
  refine gs b2 0 #[vI 0, vI 0, vI 0] 41 [vI e1.Op, vI e1.A, vI e1.B] hS2 fun w3 hS3 => ?_
  have hS4 : St w0 w3 [Own.blk b2 (.cells #[vI e1.Op, vI e1.A, vI e1.B] 41 (0, 0)), Own.blk b1 (.cells #[.slice A1_0 l1_0.length c1_0, .map mb1_1] 60 (0, 0))] := hS3
  refine gn hK2 ?_
  refine ws fun K3 hK3 => ?_
  refine ws fun K4 hK4 => ?_
  refine wr [(0, 0), (1, 0)] ?_
  refine gb [0, 1] [(15, vI e1.Op), (14, pP b2 0)] [.loaded ⟨b2, 0, none⟩ (vI e1.Op)] ⟨hS4.c 0, trivial⟩ ?_
  refine gn hK4 ?_
  refine we_block ?_
  refine ws fun K5 hK5 => ?_
  refine wr [(0, 0), (1, 0)] ?_
  refine gb0 [0, 1] [(16, .bool (e1.Op == 14)), (17, .bool (e1.Op == 14))] ?_
  refine gn hK5 ?_
  by_cases hc2 : e1.Op = 14
  ·rw [if_pos hc2] at h
   refine wk 16 (e1.Op == 14) true (beq_iff_eq.2 hc2) ?_
   refine we_true (by kernel_rfl) ?_
   refine ws fun K6 hK6 => ?_
   refine wr [(0, 0)] ?_
   refine gb0 [0] [(8, vI 0)] ?_
   refine gn hK6 ?_
   have hS5 := hS4.takeN 0
   obtain rfl := si h
   exact we_ret (pr0 [.tmp 8] [vI 0] ⟨rfl, hS5⟩)
  ·rw [if_neg hc2] at h
   refine wk 16 (e1.Op == 14) false (beq_eq_false_iff_ne.2 hc2) ?_
   refine we_false (by kernel_rfl) ?_
   refine ws fun K7 hK7 => ?_
   refine wr [(0, 0), (1, 0)] ?_
   refine gb0 [0, 1] [(18, .bool (e1.Op == 17)), (19, .bool (e1.Op == 17))] ?_
   refine gn hK7 ?_
   by_cases hc3 : e1.Op = 17
   ·rw [if_pos hc3] at h
    refine wk 18 (e1.Op == 17) true (beq_iff_eq.2 hc3) ?_
    refine we_true (by kernel_rfl) ?_
    refine ws fun K8 hK8 => ?_
    refine wr [(0, 0)] ?_
    refine gb0 [0] [(8, vI 1)] ?_
    refine gn hK8 ?_
    have hS6 := hS4.takeN 0
    obtain rfl := si h
    exact we_ret (pr0 [.tmp 8] [vI 1] ⟨rfl, hS6⟩)
   ·rw [if_neg hc3] at h
    refine wk 18 (e1.Op == 17) false (beq_eq_false_iff_ne.2 hc3) ?_
    refine we_false (by kernel_rfl) ?_
    refine ws fun K9 hK9 => ?_
    refine wr [(0, 0), (1, 0)] ?_
    refine gb0 [0, 1] [(20, .bool (e1.Op == 11)), (21, .bool (e1.Op == 11))] ?_
    refine gn hK9 ?_
    by_cases hc4 : e1.Op = 11
    ·rw [if_pos hc4] at h
     refine wk 20 (e1.Op == 11) true (beq_iff_eq.2 hc4) ?_
     refine we_true (by kernel_rfl) ?_
     refine ws fun K10 hK10 => ?_
     refine we_draws (by kernel_rfl) [(0, 0), (2, 0), (3, 0), (4, 0), (1, 1), (5, 1), (6, 0), (7, 0)] (by kernel_rfl) ?_
     have hS7 := hS4.drew
     refine gb [0, 2, 3, 4] [(26, vI e1.A), (25, pP b2 1), (24, .func (.func 43) #[] #[pP bg2_0 0]), (22, .agg #[vI e1.Op, vI e1.A, vI e1.B])] [.loaded ⟨b2, 0, none⟩ (vI e1.Op), .loaded ⟨b2, 1, none⟩ (vI e1.A), .loaded ⟨b2, 2, none⟩ (vI e1.B), .loaded ⟨b2, 1, none⟩ (vI e1.A)] ⟨hS7.c 0, hS7.c 0, hS7.c 0, hS7.c 0, trivial⟩ ?_
     refine ge_call (d := some 23) (f := 42) (args := #[.agg #[vI e1.Op, vI e1.A, vI e1.B], .bool true]) (by kernel_rfl) (mach_Cost_ok e1 true _ _ rfl) ?_
     rintro _ w4 ⟨rfl, hS8⟩
     refine ⟨_, rfl, hS8.below, ?_⟩
     have hS9 := hS7.call hS8
     rcases hq2 : wcet_at_1.f e1.A lg2_0 with _ | r1
     ·rw [hq2] at h; cases h
     rw [hq2] at h
     simp only [] at h
     refine ge_call (d := some 27) (f := 43) (args := #[vI e1.A, pP bg2_0 0]) (by kernel_rfl) (wcet_at_1_ok e1.A bg2_0 lg2_0 Ag2_0 cg2_0 _ (hS9.rd hRg2_0) hLg2_0 (Glob.ext hBg2_0 hS9.below) _ hq2) ?_
     rintro _ w5 ⟨rfl, hS10⟩
     refine ⟨_, rfl, hS10.below, ?_⟩
     have hS11 := hS9.call hS10
     refine gb0 [6, 7] [(8, vI (IntKind.i64.wrap ((mach_Cost.f e1 true) + r1))), (28, vI (IntKind.i64.wrap ((mach_Cost.f e1 true) + r1)))] ?_
     refine gn hK10 ?_
     have hS12 := hS11.takeN 0
     obtain rfl := si h
     exact we_ret (pr0 [.tmp 8] [vI (IntKind.i64.wrap ((mach_Cost.f e1 true) + r1))] ⟨rfl, hS12⟩)
    ·rw [if_neg hc4] at h
     refine wk 20 (e1.Op == 11) false (beq_eq_false_iff_ne.2 hc4) ?_
     refine we_false (by kernel_rfl) ?_
     refine ws fun K11 hK11 => ?_
     refine wr [(0, 0), (1, 0)] ?_
     refine gb0 [0, 1] [(29, .bool (e1.Op == 12)), (30, .bool (e1.Op == 12))] ?_
     refine gn hK11 ?_
     by_cases hc5 : e1.Op = 12
     ·rw [if_pos hc5] at h
      refine wk 29 (e1.Op == 12) true (beq_iff_eq.2 hc5) ?_
      refine we_true (by kernel_rfl) ?_
      refine ws fun K12 hK12 => ?_
      refine we_draws (by kernel_rfl) [(0, 0), (2, 0), (3, 0), (4, 0), (7, 0), (9, 0), (10, 0), (11, 0), (1, 1), (5, 1), (6, 0), (8, 1), (12, 1), (13, 0), (14, 0), (15, 0)] (by kernel_rfl) ?_
      have hS13 := hS4.drew
      refine gb [0, 2, 3, 4, 7, 9, 10, 11] [(42, vI (IntKind.i64.wrap (x3 + 1))), (41, vI x3), (40, .func (.func 43) #[] #[pP bg2_0 0]), (38, .agg #[vI e1.Op, vI e1.A, vI e1.B]), (35, vI e1.A), (34, pP b2 1), (33, .func (.func 43) #[] #[pP bg2_0 0]), (31, .agg #[vI e1.Op, vI e1.A, vI e1.B])] [.loaded ⟨b2, 0, none⟩ (vI e1.Op), .loaded ⟨b2, 1, none⟩ (vI e1.A), .loaded ⟨b2, 2, none⟩ (vI e1.B), .loaded ⟨b2, 1, none⟩ (vI e1.A), .loaded ⟨b2, 0, none⟩ (vI e1.Op), .loaded ⟨b2, 1, none⟩ (vI e1.A), .loaded ⟨b2, 2, none⟩ (vI e1.B)] ⟨hS13.c 0, hS13.c 0, hS13.c 0, hS13.c 0, hS13.c 0, hS13.c 0, hS13.c 0, trivial⟩ ?_
      refine ge_call (d := some 32) (f := 42) (args := #[.agg #[vI e1.Op, vI e1.A, vI e1.B], .bool true]) (by kernel_rfl) (mach_Cost_ok e1 true _ _ rfl) ?_
      rintro _ w6 ⟨rfl, hS14⟩
      refine ⟨_, rfl, hS14.below, ?_⟩
      have hS15 := hS13.call hS14
      rcases hq4 : wcet_at_1.f e1.A lg2_0 with _ | r2
      ·rw [hq4] at h; cases h
      rw [hq4] at h
      simp only [] at h
      refine ge_call (d := some 36) (f := 43) (args := #[vI e1.A, pP bg2_0 0]) (by kernel_rfl) (wcet_at_1_ok e1.A bg2_0 lg2_0 Ag2_0 cg2_0 _ (hS15.rd hRg2_0) hLg2_0 (Glob.ext hBg2_0 hS15.below) _ hq4) ?_
      rintro _ w7 ⟨rfl, hS16⟩
      refine ⟨_, rfl, hS16.below, ?_⟩
      have hS17 := hS15.call hS16
      refine gb0 [6] [(37, vI (IntKind.i64.wrap ((mach_Cost.f e1 true) + r2)))] ?_
      refine ge_call (d := some 39) (f := 42) (args := #[.agg #[vI e1.Op, vI e1.A, vI e1.B], .bool false]) (by kernel_rfl) (mach_Cost_ok e1 false _ _ rfl) ?_
      rintro _ w8 ⟨rfl, hS18⟩
      refine ⟨_, rfl, hS18.below, ?_⟩
      have hS19 := hS17.call hS18
      rcases hq6 : wcet_at_1.f (IntKind.i64.wrap (x3 + 1)) lg2_0 with _ | r3
      ·rw [hq6] at h; cases h
      rw [hq6] at h
      simp only [] at h
      refine ge_call (d := some 43) (f := 43) (args := #[vI (IntKind.i64.wrap (x3 + 1)), pP bg2_0 0]) (by kernel_rfl) (wcet_at_1_ok (IntKind.i64.wrap (x3 + 1)) bg2_0 lg2_0 Ag2_0 cg2_0 _ (hS19.rd hRg2_0) hLg2_0 (Glob.ext hBg2_0 hS19.below) _ hq6) ?_
      rintro _ w9 ⟨rfl, hS20⟩
      refine ⟨_, rfl, hS20.below, ?_⟩
      have hS21 := hS19.call hS20
      refine gb0 [13, 14, 15] [(8, vI (gmax (IntKind.i64.wrap ((mach_Cost.f e1 true) + r2)) (IntKind.i64.wrap ((mach_Cost.f e1 false) + r3)))), (45, vI (gmax (IntKind.i64.wrap ((mach_Cost.f e1 true) + r2)) (IntKind.i64.wrap ((mach_Cost.f e1 false) + r3)))), (44, vI (IntKind.i64.wrap ((mach_Cost.f e1 false) + r3)))] ?_
      refine gn hK12 ?_
      have hS22 := hS21.takeN 0
      obtain rfl := si h
      exact we_ret (pr0 [.tmp 8] [vI (gmax (IntKind.i64.wrap ((mach_Cost.f e1 true) + r2)) (IntKind.i64.wrap ((mach_Cost.f e1 false) + r3)))] ⟨rfl, hS22⟩)
     ·rw [if_neg hc5] at h
      refine wk 29 (e1.Op == 12) false (beq_eq_false_iff_ne.2 hc5) ?_
      refine we_false (by kernel_rfl) ?_
      refine ws fun K13 hK13 => ?_
      refine wr [(0, 0), (1, 0)] ?_
      refine gb0 [0, 1] [(46, .bool (e1.Op == 13)), (47, .bool (e1.Op == 13))] ?_
      refine gn hK13 ?_
      by_cases hc6 : e1.Op = 13
      ·rw [if_pos hc6] at h
       refine wk 46 (e1.Op == 13) true (beq_iff_eq.2 hc6) ?_
       refine we_true (by kernel_rfl) ?_
       refine ws fun K14 hK14 => ?_
       refine we_draws (by kernel_rfl) [(0, 0), (1, 0), (2, 0), (3, 0), (4, 0), (5, 0), (9, 0), (10, 0), (11, 0), (14, 0), (15, 0), (16, 0), (17, 0), (18, 0), (19, 0), (6, 1), (7, 0), (8, 0), (12, 0), (13, 0), (20, 1), (21, 0), (22, 0)] (by kernel_rfl) ?_
       have hS23 := hS4.drew
       refine gb [0, 1, 2, 3, 4, 5, 9, 10, 11, 14, 15, 16, 17] [(65, vI x3), (64, .map mb1_1), (63, pP b1 1), (62, .func (.func 43) #[] #[pP bg2_0 0]), (59, vI (IntKind.i64.wrap (2 * e1.B))), (58, vI e1.B), (57, pP b2 2), (53, vI (IntKind.i64.wrap (x3 + 1))), (52, vI x3), (51, .func (.func 43) #[] #[pP bg2_0 0]), (50, vI (IntKind.i64.wrap (e1.B + 1))), (49, vI e1.B), (48, pP b2 2)] [.loaded ⟨b2, 2, none⟩ (vI e1.B), .loaded ⟨b2, 2, none⟩ (vI e1.B), .loaded ⟨b1, 1, none⟩ (.map mb1_1)] ⟨hS23.c 0, hS23.c 0, hS23.c 1, trivial⟩ ?_
       refine ge_lookupR (κ := Int) (ν := Int) (d := 66) (b := mb1_1) (t := 58) (kt := 3) (et := 3) (x := (.tmp 64)) (y := (.tmp 65)) (ty := 3) (m := m1_1) (k := x3) (z := 0) (v := ((mget m1_1 x3).getD 0)) (zv := vI 0) (vv := vI ((mget m1_1 x3).getD 0)) (by kernel_rfl) (by kernel_rfl) (by kernel_rfl) (by kernel_rfl) (by kernel_rfl) (fun w' => by kernel_rfl) rfl (hS23.rdM hM1_1) rfl rfl ?_
       rcases hq7 : wcet_at_1.f (IntKind.i64.wrap (x3 + 1)) lg2_0 with _ | r4
       ·rw [hq7] at h; cases h
       rw [hq7] at h
       simp only [] at h
       refine gb0 [19] [(67, vI (IntKind.i64.wrap (((mget m1_1 x3).getD 0) + 1)))] ?_
       refine ge_call (d := some 54) (f := 43) (args := #[vI (IntKind.i64.wrap (x3 + 1)), pP bg2_0 0]) (by kernel_rfl) (wcet_at_1_ok (IntKind.i64.wrap (x3 + 1)) bg2_0 lg2_0 Ag2_0 cg2_0 _ (hS23.rd hRg2_0) hLg2_0 (Glob.ext hBg2_0 hS23.below) _ hq7) ?_
       rintro _ w10 ⟨rfl, hS24⟩
       refine ⟨_, rfl, hS24.below, ?_⟩
       have hS25 := hS23.call hS24
       rcases hq8 : wcet_at_1.f (IntKind.i64.wrap (((mget m1_1 x3).getD 0) + 1)) lg2_0 with _ | r5
       ·rw [hq8] at h; cases h
       rw [hq8] at h
       simp only [] at h
       refine gb0 [7, 8, 12, 13] [(61, vI (IntKind.i64.wrap ((IntKind.i64.wrap ((IntKind.i64.wrap (1 + (IntKind.i64.wrap ((IntKind.i64.wrap (e1.B + 1)) * r4)))) + (IntKind.i64.wrap (2 * e1.B)))) + 1))), (60, vI (IntKind.i64.wrap ((IntKind.i64.wrap (1 + (IntKind.i64.wrap ((IntKind.i64.wrap (e1.B + 1)) * r4)))) + (IntKind.i64.wrap (2 * e1.B))))), (56, vI (IntKind.i64.wrap (1 + (IntKind.i64.wrap ((IntKind.i64.wrap (e1.B + 1)) * r4))))), (55, vI (IntKind.i64.wrap ((IntKind.i64.wrap (e1.B + 1)) * r4)))] ?_
       refine ge_call (d := some 68) (f := 43) (args := #[vI (IntKind.i64.wrap (((mget m1_1 x3).getD 0) + 1)), pP bg2_0 0]) (by kernel_rfl) (wcet_at_1_ok (IntKind.i64.wrap (((mget m1_1 x3).getD 0) + 1)) bg2_0 lg2_0 Ag2_0 cg2_0 _ (hS25.rd hRg2_0) hLg2_0 (Glob.ext hBg2_0 hS25.below) _ hq8) ?_
       rintro _ w11 ⟨rfl, hS26⟩
       refine ⟨_, rfl, hS26.below, ?_⟩
       have hS27 := hS25.call hS26
       refine gb0 [21, 22] [(8, vI (IntKind.i64.wrap ((IntKind.i64.wrap ((IntKind.i64.wrap ((IntKind.i64.wrap (1 + (IntKind.i64.wrap ((IntKind.i64.wrap (e1.B + 1)) * r4)))) + (IntKind.i64.wrap (2 * e1.B)))) + 1)) + r5))), (69, vI (IntKind.i64.wrap ((IntKind.i64.wrap ((IntKind.i64.wrap ((IntKind.i64.wrap (1 + (IntKind.i64.wrap ((IntKind.i64.wrap (e1.B + 1)) * r4)))) + (IntKind.i64.wrap (2 * e1.B)))) + 1)) + r5)))] ?_
       refine gn hK14 ?_
       have hS28 := hS27.takeN 0
       obtain rfl := si h
       exact we_ret (pr0 [.tmp 8] [vI (IntKind.i64.wrap ((IntKind.i64.wrap ((IntKind.i64.wrap ((IntKind.i64.wrap (1 + (IntKind.i64.wrap ((IntKind.i64.wrap (e1.B + 1)) * r4)))) + (IntKind.i64.wrap (2 * e1.B)))) + 1)) + r5))] ⟨rfl, hS28⟩)
      ·rw [if_neg hc6] at h
       refine wk 46 (e1.Op == 13) false (beq_eq_false_iff_ne.2 hc6) ?_
       refine we_false (by kernel_rfl) ?_
       refine ws fun K15 hK15 => ?_
       refine wr [(0, 0), (1, 0)] ?_
       refine gb0 [0, 1] [(70, .bool (e1.Op == 16)), (71, .bool (e1.Op == 16))] ?_
       refine gn hK15 ?_
       by_cases hc7 : e1.Op = 16
       ·rw [if_pos hc7] at h
        refine wk 70 (e1.Op == 16) true (beq_iff_eq.2 hc7) ?_
        refine we_true (by kernel_rfl) ?_
        refine ws fun K16 hK16 => ?_
        refine we_draws (by kernel_rfl) [(0, 0), (1, 0), (2, 0), (5, 0), (6, 0), (7, 0), (8, 0), (9, 0), (10, 0), (3, 1), (4, 0), (11, 1), (12, 0), (13, 0)] (by kernel_rfl) ?_
        have hS29 := hS4.drew
        refine gb [0, 1, 2, 5, 6, 7, 8] [(80, vI x3), (79, .map mb1_1), (78, pP b1 1), (77, .func (.func 43) #[] #[pP bg2_0 0]), (74, vI (IntKind.i64.wrap (x3 + 1))), (73, vI x3), (72, .func (.func 43) #[] #[pP bg2_0 0])] [.loaded ⟨b1, 1, none⟩ (.map mb1_1)] ⟨hS29.c 1, trivial⟩ ?_
        refine ge_lookupR (κ := Int) (ν := Int) (d := 81) (b := mb1_1) (t := 58) (kt := 3) (et := 3) (x := (.tmp 79)) (y := (.tmp 80)) (ty := 3) (m := m1_1) (k := x3) (z := 0) (v := ((mget m1_1 x3).getD 0)) (zv := vI 0) (vv := vI ((mget m1_1 x3).getD 0)) (by kernel_rfl) (by kernel_rfl) (by kernel_rfl) (by kernel_rfl) (by kernel_rfl) (fun w' => by kernel_rfl) rfl (hS29.rdM hM1_1) rfl rfl ?_
        rcases hq9 : wcet_at_1.f (IntKind.i64.wrap (x3 + 1)) lg2_0 with _ | r6
        ·rw [hq9] at h; cases h
        rw [hq9] at h
        simp only [] at h
        refine gb0 [10] [(82, vI (IntKind.i64.wrap (((mget m1_1 x3).getD 0) + 1)))] ?_
        refine ge_call (d := some 75) (f := 43) (args := #[vI (IntKind.i64.wrap (x3 + 1)), pP bg2_0 0]) (by kernel_rfl) (wcet_at_1_ok (IntKind.i64.wrap (x3 + 1)) bg2_0 lg2_0 Ag2_0 cg2_0 _ (hS29.rd hRg2_0) hLg2_0 (Glob.ext hBg2_0 hS29.below) _ hq9) ?_
        rintro _ w12 ⟨rfl, hS30⟩
        refine ⟨_, rfl, hS30.below, ?_⟩
        have hS31 := hS29.call hS30
        rcases hq10 : wcet_at_1.f (IntKind.i64.wrap (((mget m1_1 x3).getD 0) + 1)) lg2_0 with _ | r7
        ·rw [hq10] at h; cases h
        rw [hq10] at h
        simp only [] at h
        refine gb0 [4] [(76, vI (IntKind.i64.wrap (1 + r6)))] ?_
        refine ge_call (d := some 83) (f := 43) (args := #[vI (IntKind.i64.wrap (((mget m1_1 x3).getD 0) + 1)), pP bg2_0 0]) (by kernel_rfl) (wcet_at_1_ok (IntKind.i64.wrap (((mget m1_1 x3).getD 0) + 1)) bg2_0 lg2_0 Ag2_0 cg2_0 _ (hS31.rd hRg2_0) hLg2_0 (Glob.ext hBg2_0 hS31.below) _ hq10) ?_
        rintro _ w13 ⟨rfl, hS32⟩
        refine ⟨_, rfl, hS32.below, ?_⟩
        have hS33 := hS31.call hS32
        refine gb0 [12, 13] [(8, vI (IntKind.i64.wrap ((IntKind.i64.wrap (1 + r6)) + r7))), (84, vI (IntKind.i64.wrap ((IntKind.i64.wrap (1 + r6)) + r7)))] ?_
        refine gn hK16 ?_
        have hS34 := hS33.takeN 0
        obtain rfl := si h
        exact we_ret (pr0 [.tmp 8] [vI (IntKind.i64.wrap ((IntKind.i64.wrap (1 + r6)) + r7))] ⟨rfl, hS34⟩)
       ·rw [if_neg hc7] at h
        refine wk 70 (e1.Op == 16) false (beq_eq_false_iff_ne.2 hc7) ?_
        refine we_false (by kernel_rfl) ?_
        refine we_skip fun a hF => hK3 _ _ ?_ a hF
        refine ws fun K17 hK17 => ?_
        refine wr [(0, 0), (1, 1), (2, 0), (3, 0), (4, 0), (5, 1), (6, 0), (7, 0)] ?_
        refine gb [0] [(85, .agg #[vI e1.Op, vI e1.A, vI e1.B])] [.loaded ⟨b2, 0, none⟩ (vI e1.Op), .loaded ⟨b2, 1, none⟩ (vI e1.A), .loaded ⟨b2, 2, none⟩ (vI e1.B)] ⟨hS4.c 0, hS4.c 0, hS4.c 0, trivial⟩ ?_
        refine ge_call (d := some 86) (f := 42) (args := #[.agg #[vI e1.Op, vI e1.A, vI e1.B], .bool false]) (by kernel_rfl) (mach_Cost_ok e1 false _ _ rfl) ?_
        rintro _ w14 ⟨rfl, hS35⟩
        refine ⟨_, rfl, hS35.below, ?_⟩
        have hS36 := hS4.call hS35
        rcases hq12 : wcet_at_1.f (IntKind.i64.wrap (x3 + 1)) lg2_0 with _ | r8
        ·rw [hq12] at h; cases h
        rw [hq12] at h
        simp only [] at h
        refine gb0 [2, 3, 4] [(89, vI (IntKind.i64.wrap (x3 + 1))), (88, vI x3), (87, .func (.func 43) #[] #[pP bg2_0 0])] ?_
        refine ge_call (d := some 90) (f := 43) (args := #[vI (IntKind.i64.wrap (x3 + 1)), pP bg2_0 0]) (by kernel_rfl) (wcet_at_1_ok (IntKind.i64.wrap (x3 + 1)) bg2_0 lg2_0 Ag2_0 cg2_0 _ (hS36.rd hRg2_0) hLg2_0 (Glob.ext hBg2_0 hS36.below) _ hq12) ?_
        rintro _ w15 ⟨rfl, hS37⟩
        refine ⟨_, rfl, hS37.below, ?_⟩
        have hS38 := hS36.call hS37
        refine gb0 [6, 7] [(8, vI (IntKind.i64.wrap ((mach_Cost.f e1 false) + r8))), (91, vI (IntKind.i64.wrap ((mach_Cost.f e1 false) + r8)))] ?_
        refine gn hK17 ?_
        have hS39 := hS38.takeN 0
        obtain rfl := si h
        exact we_ret (pr0 [.tmp 8] [vI (IntKind.i64.wrap ((mach_Cost.f e1 false) + r8))] ⟨rfl, hS39⟩)
 ·rw [if_neg hc1] at h
  cases h

structure SBound where
 Worst : Int
 Rest : List Int

/-! punctual/wcet.Analyse -/
abbrev wcet_Analyse.Post (w0 : World) (r : SBound × SFault) (e : Ending) (w : World) : Prop := ∃ (v0 : Value), e = .returned (.tuple #[.agg #[vI r.1.Worst, v0], .agg #[vI r.2.Code, vI r.2.At]]) ∧ St w0 w [Own.of v0 3 r.1.Rest]
def wcet_Analyse.r0 (l0 : List SIns) (r1 : SShape × SFault) : Int × (List Int) → Option ((Int × (List Int)) ⊕ ((List Int) ⊕ (SBound × SFault)))
 | (z1, m2) =>
  if z1 ≥ 0 then
   match wcet_need.f l0 r1.1.In r1.1.Close m2 z1 with
   | none => none
   | some r2 =>
    if 0 ≤ z1 then
     match m2[(z1).toNat]? with
     | none => none
     | some e1 =>
      match (m2.set ((z1).toNat) r2)[(z1).toNat]? with
      | none => none
      | some e2 =>
       if e2 > 1099511627776 then
        some (.inr (.inr ((⟨0, ([] : List Int)⟩ : SBound), (⟨3, z1⟩ : SFault))))
       else
        some (.inl (IntKind.i64.wrap (z1 - 1), (m2.set ((z1).toNat) r2)))
    else
     none
  else
   some (.inr (.inl m2))
def wcet_Analyse.p1 (r1 : SShape × SFault) : Option ((Int × Int × Int × (List Int)) ⊕ (SBound × SFault)) :=
  some (.inl (r1.2.Code, r1.2.At, 0, ([] : List Int)))
def wcet_Analyse.f (K : Nat) (l0 : List SIns) : Option (SBound × SFault) :=
 match mach_Look.f K l0 with
 | none => none
 | some r1 =>
  if r1.2.Code = 0 then
   if l0.length ≤ 17592186044416 then
    match iter (wcet_Analyse.r0 l0 r1) K (IntKind.i64.wrap ((l0.length : Int) - 1), (List.replicate l0.length (0 : Int))) with
    | none => none
    | some (.inl m4) =>
     match wcet_at_1.f 0 m4 with
     | none => none
     | some r3 =>
      some ((⟨r3, m4⟩ : SBound), (⟨0, 0⟩ : SFault))
    | some (.inr rr1) =>
     some rr1
   else
    none
  else
   match wcet_Analyse.p1 r1 with
   | none => none
   | some (.inl (z5, z6, z7, m6)) =>
    some ((⟨z7, m6⟩ : SBound), (⟨z5, z6⟩ : SFault))
   | some (.inr rr2) =>
    some rr2
abbrev wcet_Analyse.A0 (w0 : World) (l0 : List SIns) (A0 : Option Addr) (c0 : Nat) (b1 : Nat) (b2 : Nat) (r1 : SShape × SFault) (m1 : Option Nat) (b3 : Nat) (Z1 : Option Addr) (cz1 : Nat) (Z2 : Option Addr) (cz2 : Nat) (b5 : Nat) : (Int × (List Int)) → Act → World → Prop := fun (s : Int × (List Int)) a w => St w0 w [Own.blk b5 (.cells #[vI 0, (.slice Z2 s.2.length cz2)] 26 (0, 0)), Own.blk b3 (.cells #[(.slice Z1 r1.1.In.length cz1), .map m1] 60 (0, 0)), Own.blk b2 (.cells #[vI 0, vI 0] 29 (0, 0)), Own.blk b1 (.cells #[vI 0, .slice none 0 0] 26 (0, 0)), Own.of (.slice Z2 s.2.length cz2) 3 s.2, Own.of (.slice Z1 r1.1.In.length cz1) 3 r1.1.In, Own.mapv (κ := Int) (ν := Int) m1 r1.1.Close] ∧ Frm 56 a [(0, .slice A0 l0.length c0), (2, pP b1 0), (3, pP b2 0), (4, pP b3 0), (6, pP b5 0), (7, vI s.1)]
abbrev wcet_Analyse.B0 (w0 : World) (b1 : Nat) (b2 : Nat) (Z2 : Option Addr) (cz2 : Nat) (b5 : Nat) : ((List Int) ⊕ (SBound × SFault)) → Exit → Act → World → Prop := Exits 0 (fun (s : (List Int)) a w => St w0 w [Own.blk b5 (.cells #[vI 0, (.slice Z2 s.length cz2)] 26 (0, 0)), Own.blk b2 (.cells #[vI 0, vI 0] 29 (0, 0)), Own.blk b1 (.cells #[vI 0, .slice none 0 0] 26 (0, 0)), Own.of (.slice Z2 s.length cz2) 3 s] ∧ Frm 56 a [(2, pP b1 0), (3, pP b2 0), (6, pP b5 0)]) (Rets Try.prog Try.f8 (wcet_Analyse.Post w0))
theorem wcet_Analyse_r0 (K : Nat) (w0 : World) (l0 : List SIns) (A0 : Option Addr) (c0 : Nat) (hR0 : RdL w0 A0 l0) (hL0 : l0.length ≤ c0) (b1 : Nat) (b2 : Nat) (r1 : SShape × SFault) (m1 : Option Nat) (b3 : Nat) (b4 : Nat) (Z1 : Option Addr) (cz1 : Nat) (hc1 : r1.2.Code = 0) (hc2 : l0.length ≤ 17592186044416) (Z2 : Option Addr) (cz2 : Nat) (b5 : Nat) (s : Int × (List Int)) (o : (Int × (List Int)) ⊕ ((List Int) ⊕ (SBound × SFault))) (h : wcet_Analyse.r0 l0 r1 s = some o) (a : Act) (w : World) (hA : wcet_Analyse.A0 w0 l0 A0 c0 b1 b2 r1 m1 b3 Z1 cz1 Z2 cz2 b5 s a w) (Q : Exit → Act → World → Prop) (hQ : ∀ x a w, Outs (wcet_Analyse.A0 w0 l0 A0 c0 b1 b2 r1 m1 b3 Z1 cz1 Z2 cz2 b5) (wcet_Analyse.B0 w0 b1 b2 Z2 cz2 b5) o x a w → Q x a w) : (subF Try.f8 [1, 1, 1, 1, 0, 1, 0, 0]).wp Try.prog Q a w := by
 obtain ⟨z1, m2⟩ := s
 obtain ⟨hS, hF⟩ := hA
 replace hS : St w0 w [Own.blk b5 (.cells #[vI 0, (.slice Z2 m2.length cz2)] 26 (0, 0)), Own.blk b3 (.cells #[(.slice Z1 r1.1.In.length cz1), .map m1] 60 (0, 0)), Own.blk b2 (.cells #[vI 0, vI 0] 29 (0, 0)), Own.blk b1 (.cells #[vI 0, .slice none 0 0] 26 (0, 0)), Own.of (.slice Z2 m2.length cz2) 3 m2, Own.of (.slice Z1 r1.1.In.length cz1) 3 r1.1.In, Own.mapv (κ := Int) (ν := Int) m1 r1.1.Close] := hS
 simp only [wcet_Analyse.r0] at h
 refine (?_ : WE Try.prog 56 (subF Try.f8 [1, 1, 1, 1, 0, 1, 0, 0]) Q [(0, .slice A0 l0.length c0), (2, pP b1 0), (3, pP b2 0), (4, pP b3 0), (6, pP b5 0), (7, vI z1)] w) a hF
 clear hF a
 refine ws fun K8 hK8 => ?_
 refine ws fun K9 hK9 => ?_
 refine wr [(0, 0), (1, 0)] ?_
 refine gb0 [0, 1] [(26, .bool (decide (z1 ≥ 0))), (25, vI z1)] ?_
 refine gn hK9 ?_
 by_cases hc3 : z1 ≥ 0
 ·rw [if_pos hc3] at h
  refine wk 26 (decide (z1 ≥ 0)) true (decide_eq_true hc3) ?_
  refine we_true (by kernel_rfl) ?_
  refine we_skip fun a hF => hK8 _ _ ?_ a hF
  refine ws fun K10 hK10 => ?_
  refine we_block ?_
  refine ws fun K11 hK11 => ?_
  refine we_draws (by kernel_rfl) [(0, 0), (1, 0), (2, 0), (3, 0), (4, 0), (5, 0), (6, 0), (8, 0), (7, 1), (9, 1), (10, 0), (11, 2)] (by kernel_rfl) ?_
  have hS25 := hS.drew
  refine gb [0, 1, 2, 3, 4, 5, 6, 8] [(37, vI z1), (35, (.slice Z2 m2.length cz2)), (34, pP b5 1), (33, .agg #[(.slice Z1 r1.1.In.length cz1), .map m1]), (32, .slice A0 l0.length c0), (31, vI z1), (30, (.slice Z2 m2.length cz2)), (29, pP b5 1)] [.loaded ⟨b5, 1, none⟩ ((.slice Z2 m2.length cz2)), .loaded ⟨b3, 0, none⟩ ((.slice Z1 r1.1.In.length cz1)), .loaded ⟨b3, 1, none⟩ (.map m1), .loaded ⟨b5, 1, none⟩ ((.slice Z2 m2.length cz2))] ⟨hS25.c 0, hS25.c 1, hS25.c 1, hS25.c 0, trivial⟩ ?_
  refine ge_call (d := some 36) (f := 24) (args := #[(.slice Z2 m2.length cz2)]) (by kernel_rfl) (wcet_at_ok m2 Z2 cz2 _ (hS25.rdAt 4 rfl) (hS25.capAt 4 rfl)) ?_
  rintro _ w11 ⟨b6, rfl, hS26⟩
  refine ⟨_, rfl, hS26.below, ?_⟩
  have hS27 := hS25.call hS26
  rcases hq2 : wcet_need.f l0 r1.1.In r1.1.Close m2 z1 with _ | r2
  ·rw [hq2] at h; cases h
  rw [hq2] at h
  simp only [] at h
  refine ge_call (d := some 38) (f := 23) (args := #[.slice A0 l0.length c0, .agg #[(.slice Z1 r1.1.In.length cz1), .map m1], .func (.func 43) #[] #[pP b6 0], vI z1]) (by kernel_rfl) (wcet_need_ok l0 A0 c0 r1.1.In Z1 cz1 r1.1.Close m1 b6 m2 Z2 cz2 z1 _ (hS27.rd hR0) hL0 (hS27.rdAt 6 rfl) (hS27.capAt 6 rfl) (hS27.rdMapvAt 7 rfl) (hS27.rdAt 5 rfl) (hS27.capAt 5 rfl) (hS27.globOf 0 rfl) _ hq2) ?_
  rintro _ w12 ⟨rfl, hS28⟩
  refine ⟨_, rfl, hS28.below, ?_⟩
  have hS29 := hS27.call hS28
  by_cases hc4 : 0 ≤ z1
  ·rw [if_pos hc4] at h
   rcases hx6 : m2[(z1).toNat]? with _ | e1
   ·rw [hx6] at h; cases h
   rw [hx6] at h
   simp only [] at h
   refine gi 39 0 23 3 1 m2.length cz2 (.tmp 30) (.tmp 31) Z2 .i64 z1 ((z1).toNat) ((hS29.rdAt 5 rfl).eqSome (pos_of_get hx6)) (Int.toNat_of_nonneg hc4).symm (lt_of_get hx6) ?_
   have hS30 := hS29.bring 5 rfl
   refine ge_seti (α := Int) (A := Z2) (nn := m2.length) (c := cz2) (t := 3) (l := m2) (x := e1) (x' := r2) (jn := ((z1).toNat)) (j := 0) (vs := [vI r2]) (l' := [.stored ⟨blkOf Z2, offOf Z2 + ((z1).toNat) * 1, none⟩ (vI r2)]) hS30 (by kernel_rfl) (by kernel_rfl) hx6 rfl rfl rfl fun w13 hS31 => ?_
   have hS32 : St w0 w13 [Own.of (.slice Z2 m2.length cz2) 3 (m2.set ((z1).toNat) r2), Own.blk b6 (.cells #[(.slice Z2 m2.length cz2)] 23 (0, 0)), Own.blk b5 (.cells #[vI 0, (.slice Z2 m2.length cz2)] 26 (0, 0)), Own.blk b3 (.cells #[(.slice Z1 r1.1.In.length cz1), .map m1] 60 (0, 0)), Own.blk b2 (.cells #[vI 0, vI 0] 29 (0, 0)), Own.blk b1 (.cells #[vI 0, .slice none 0 0] 26 (0, 0)), Own.of (.slice Z1 r1.1.In.length cz1) 3 r1.1.In, Own.mapv (κ := Int) (ν := Int) m1 r1.1.Close] := hS31
   have hE1 : m2.length = (m2.set ((z1).toNat) r2).length := hS32.lenAt 0 rfl
   have hS33 : St w0 w13 [Own.of (.slice Z2 (m2.set ((z1).toNat) r2).length cz2) 3 (m2.set ((z1).toNat) r2), Own.blk b6 (.cells #[(.slice Z2 (m2.set ((z1).toNat) r2).length cz2)] 23 (0, 0)), Own.blk b5 (.cells #[vI 0, (.slice Z2 (m2.set ((z1).toNat) r2).length cz2)] 26 (0, 0)), Own.blk b3 (.cells #[(.slice Z1 r1.1.In.length cz1), .map m1] 60 (0, 0)), Own.blk b2 (.cells #[vI 0, vI 0] 29 (0, 0)), Own.blk b1 (.cells #[vI 0, .slice none 0 0] 26 (0, 0)), Own.of (.slice Z1 r1.1.In.length cz1) 3 r1.1.In, Own.mapv (κ := Int) (ν := Int) m1 r1.1.Close] := by rw [← hE1]; exact hS32
   refine ge_same (t := 30) (v := (.slice Z2 m2.length cz2)) (v' := (.slice Z2 (m2.set ((z1).toNat) r2).length cz2)) (by kernel_rfl) (by rw [hE1]) ?_
   refine ge_same (t := 35) (v := (.slice Z2 m2.length cz2)) (v' := (.slice Z2 (m2.set ((z1).toNat) r2).length cz2)) (by kernel_rfl) (by rw [hE1]) ?_
   refine gn hK11 ?_
   refine ws fun K12 hK12 => ?_
   refine wr [(0, 0), (1, 0), (2, 0), (3, 0), (4, 0), (5, 0)] ?_
   refine gb [0, 1, 2] [(42, vI z1), (41, (.slice Z2 (m2.set ((z1).toNat) r2).length cz2)), (40, pP b5 1)] [.loaded ⟨b5, 1, none⟩ ((.slice Z2 (m2.set ((z1).toNat) r2).length cz2))] ⟨hS33.c 2, trivial⟩ ?_
   rcases hx7 : (m2.set ((z1).toNat) r2)[(z1).toNat]? with _ | e2
   ·rw [hx7] at h; cases h
   rw [hx7] at h
   simp only [] at h
   refine gi 43 0 23 3 1 ((m2.set ((z1).toNat) r2).length) cz2 (.tmp 41) (.tmp 42) Z2 .i64 z1 ((z1).toNat) ((hS33.rdAt 0 rfl).eqSome (pos_of_get hx7)) (Int.toNat_of_nonneg hc4).symm (lt_of_get hx7) ?_
   refine gb [4, 5] [(45, .bool (decide (e2 > 1099511627776))), (44, vI e2)] [.loaded ⟨blkOf Z2, offOf Z2 + ((z1).toNat) * 1, none⟩ (vI e2)] ⟨RdL.cell (j := 0) (hS33.rdAt 0 rfl) hx7 rfl, trivial⟩ ?_
   refine gn hK12 ?_
   by_cases hc5 : e2 > 1099511627776
   ·rw [if_pos hc5] at h
    refine wk 45 (decide (e2 > 1099511627776)) true (decide_eq_true hc5) ?_
    refine we_true (by kernel_rfl) ?_
    refine ws fun K13 hK13 => ?_
    refine wr [(0, 0), (1, 0), (2, 0), (3, 2), (4, 2)] ?_
    refine gb0 [0, 1, 2] [(48, .agg #[vI 3, vI z1]), (47, vI z1), (46, .agg #[vI 0, .slice none 0 0])] ?_
    have hS34 := hS33.bring 5 rfl
    refine gs b1 0 #[vI 0, .slice none 0 0] 26 [vI 0, .slice none 0 0] hS34 fun w14 hS35 => ?_
    have hS36 : St w0 w14 [Own.blk b1 (.cells #[vI 0, .slice none 0 0] 26 (0, 0)), Own.of (.slice Z2 (m2.set ((z1).toNat) r2).length cz2) 3 (m2.set ((z1).toNat) r2), Own.blk b6 (.cells #[(.slice Z2 (m2.set ((z1).toNat) r2).length cz2)] 23 (0, 0)), Own.blk b5 (.cells #[vI 0, (.slice Z2 (m2.set ((z1).toNat) r2).length cz2)] 26 (0, 0)), Own.blk b3 (.cells #[(.slice Z1 r1.1.In.length cz1), .map m1] 60 (0, 0)), Own.blk b2 (.cells #[vI 0, vI 0] 29 (0, 0)), Own.of (.slice Z1 r1.1.In.length cz1) 3 r1.1.In, Own.mapv (κ := Int) (ν := Int) m1 r1.1.Close] := hS35
    have hS37 := hS36.bring 5 rfl
    refine gs b2 0 #[vI 0, vI 0] 29 [vI 3, vI z1] hS37 fun w15 hS38 => ?_
    have hS39 : St w0 w15 [Own.blk b2 (.cells #[vI 3, vI z1] 29 (0, 0)), Own.blk b1 (.cells #[vI 0, .slice none 0 0] 26 (0, 0)), Own.of (.slice Z2 (m2.set ((z1).toNat) r2).length cz2) 3 (m2.set ((z1).toNat) r2), Own.blk b6 (.cells #[(.slice Z2 (m2.set ((z1).toNat) r2).length cz2)] 23 (0, 0)), Own.blk b5 (.cells #[vI 0, (.slice Z2 (m2.set ((z1).toNat) r2).length cz2)] 26 (0, 0)), Own.blk b3 (.cells #[(.slice Z1 r1.1.In.length cz1), .map m1] 60 (0, 0)), Own.of (.slice Z1 r1.1.In.length cz1) 3 r1.1.In, Own.mapv (κ := Int) (ν := Int) m1 r1.1.Close] := hS38
    refine gn hK13 ?_
    have hS40 := hS39.nil (α := Int) 3
    have hS41 := hS40.takeN 1
    obtain rfl := si h
    exact we_ret fun a hF => hQ _ _ _ (Outs.out nofun (Exits.on ⟨rfl, (pr [.cell 2 26, .cell 3 29] [.agg #[vI 0, (.slice none 0 0)], .agg #[vI 3, vI z1]] [.loaded ⟨b1, 0, none⟩ (vI 0), .loaded ⟨b1, 1, none⟩ ((.slice none 0 0)), .loaded ⟨b2, 0, none⟩ (vI 3), .loaded ⟨b2, 1, none⟩ (vI z1)] ⟨hS40.c 2, hS40.c 2, hS40.c 1, hS40.c 1, trivial⟩ ⟨(.slice none 0 0), rfl, hS41⟩) a hF⟩))
   ·rw [if_neg hc5] at h
    refine wk 45 (decide (e2 > 1099511627776)) false (decide_eq_false hc5) ?_
    refine we_false (by kernel_rfl) ?_
    refine we_skip fun a hF => hK10 _ _ ?_ a hF
    refine wr [(0, 0), (1, 0), (2, 0)] ?_
    refine gb0 [0, 1, 2] [(7, vI (IntKind.i64.wrap (z1 - 1))), (28, vI (IntKind.i64.wrap (z1 - 1))), (27, vI z1)] ?_
    have hS42 := hS33.bring 7 rfl
    have hS43 := hS42.bring 7 rfl
    have hS44 := hS43.bring 2 rfl
    have hS45 := hS44.bring 7 rfl
    have hS46 := hS45.bring 7 rfl
    have hS47 := hS46.bring 7 rfl
    have hS48 := hS47.bring 7 rfl
    have hS49 := hS48.takeN 7
    obtain rfl := si h
    exact ge_nil fun a hF => hQ _ _ _ (Outs.again ⟨hS49, hF.weaken ea⟩)
  ·rw [if_neg hc4] at h
   cases h
 ·rw [if_neg hc3] at h
  refine wk 26 (decide (z1 ≥ 0)) false (decide_eq_false hc3) ?_
  refine we_false (by kernel_rfl) ?_
  have hS50 := hS.bring 4 rfl
  have hS51 := hS50.bring 4 rfl
  have hS52 := hS51.bring 4 rfl
  have hS53 := hS52.bring 3 rfl
  have hS54 := hS53.takeN 4
  obtain rfl := si h
  exact we_exit fun a hF => hQ _ _ _ (Outs.out nofun (Exits.here ⟨hS54, hF.weaken ea⟩))
abbrev wcet_Analyse.A1 (w0 : World) (b1 : Nat) (b2 : Nat) : (Int × Int × Int × (List Int)) → Act → World → Prop := fun (s : Int × Int × Int × (List Int)) a w => ∃ (v3 : Value), St w0 w [Own.blk b2 (.cells #[vI s.1, vI s.2.1] 29 (0, 0)), Own.blk b1 (.cells #[vI s.2.2.1, v3] 26 (0, 0)), Own.of v3 3 s.2.2.2] ∧ Frm 56 a [(2, pP b1 0), (3, pP b2 0)]
abbrev wcet_Analyse.B1 (w0 : World) : (SBound × SFault) → Exit → Act → World → Prop := Rets Try.prog Try.f8 (wcet_Analyse.Post w0)
theorem wcet_Analyse_p1 (K : Nat) (w0 : World) (l0 : List SIns) (A0 : Option Addr) (c0 : Nat) (hR0 : RdL w0 A0 l0) (hL0 : l0.length ≤ c0) (b1 : Nat) (b2 : Nat) (r1 : SShape × SFault) (m1 : Option Nat) (b3 : Nat) (b4 : Nat) (Z1 : Option Addr) (cz1 : Nat) (hc1 : ¬ (r1.2.Code = 0)) (o : (Int × Int × Int × (List Int)) ⊕ (SBound × SFault)) (h : wcet_Analyse.p1 r1 = some o) (w : World) (hS : St w0 w [Own.blk b4 (.cells #[vI r1.2.Code, vI r1.2.At] 29 (0, 0)), Own.blk b3 (.cells #[(.slice Z1 r1.1.In.length cz1), .map m1] 60 (0, 0)), Own.of (.slice Z1 r1.1.In.length cz1) 3 r1.1.In, Own.mapv (κ := Int) (ν := Int) m1 r1.1.Close, Own.blk b2 (.cells #[vI 0, vI 0] 29 (0, 0)), Own.blk b1 (.cells #[vI 0, .slice none 0 0] 26 (0, 0))]) (Q : Exit → Act → World → Prop) (hQ : ∀ x a w, Outs (wcet_Analyse.A1 w0 b1 b2) (wcet_Analyse.B1 w0) o x a w → Q x a w) : WE Try.prog 56 (subF Try.f8 [1, 1, 0, 1, 0, 0]) Q [(0, .slice A0 l0.length c0), (2, pP b1 0), (3, pP b2 0), (4, pP b3 0), (5, pP b4 0), (8, .tuple #[.agg #[(.slice Z1 r1.1.In.length cz1), .map m1], .agg #[vI r1.2.Code, vI r1.2.At]]), (9, .slice A0 l0.length c0), (10, .tuple #[.agg #[(.slice Z1 r1.1.In.length cz1), .map m1], .agg #[vI r1.2.Code, vI r1.2.At]]), (11, .agg #[(.slice Z1 r1.1.In.length cz1), .map m1]), (12, .agg #[vI r1.2.Code, vI r1.2.At]), (13, pP b4 0), (14, vI r1.2.Code), (15, .bool true)] w := by
 simp only [wcet_Analyse.p1] at h
 refine we_orders3 (by kernel_rfl) [(1, [⟨b4, 0, none⟩, ⟨b4, 1, none⟩], [], [])] (.vals [0] (.vals [1] (.alt 2 2 (.alt 3 2 .fin .nomore) .nomore))) (by kernel_rfl) (by kernel_rfl) ?_
 have hS71 := hS.drew
 refine go3_batch [0] (ans := []) (vs := [(16, .agg #[vI 0, .slice none 0 0])]) (l := []) (by kernel_rfl) trivial mem_nil3 ?_
 refine go3_batch [1] (ans := [.val (vI r1.2.Code), .val (vI r1.2.At)]) (vs := [(17, .agg #[vI r1.2.Code, vI r1.2.At])]) (l := [.loaded ⟨b4, 0, none⟩ (vI r1.2.Code), .loaded ⟨b4, 1, none⟩ (vI r1.2.At)]) (by kernel_rfl) ⟨hS71.c 0, hS71.c 0, trivial⟩ (mem_one3 (by kernel_rfl)) ?_
 refine go_alt3 (fun KK hKK => ?_) ?_
 ·have hS72 := hS71.bring 5 rfl
  refine gs b1 0 #[vI 0, .slice none 0 0] 26 [vI 0, .slice none 0 0] hS72 fun w22 hS73 => ?_
  have hS74 : St w0 w22 [Own.blk b1 (.cells #[vI 0, .slice none 0 0] 26 (0, 0)), Own.blk b4 (.cells #[vI r1.2.Code, vI r1.2.At] 29 (0, 0)), Own.blk b3 (.cells #[(.slice Z1 r1.1.In.length cz1), .map m1] 60 (0, 0)), Own.of (.slice Z1 r1.1.In.length cz1) 3 r1.1.In, Own.mapv (κ := Int) (ν := Int) m1 r1.1.Close, Own.blk b2 (.cells #[vI 0, vI 0] 29 (0, 0))] := hS73
  refine ge_nil fun a hF => hKK _ _ (RS.of2 (l := [.loaded ⟨b4, 0, none⟩ (vI r1.2.Code), .loaded ⟨b4, 1, none⟩ (vI r1.2.At)]) (by kernel_rfl) ⟨hS71.c 0, hS71.c 0, trivial⟩ ⟨hS74.c 1, hS74.c 1, trivial⟩) ?_ a hF
  refine go_alt3 (fun KK hKK => ?_) ?_
  ·have hS75 := hS74.bring 5 rfl
   refine gs b2 0 #[vI 0, vI 0] 29 [vI r1.2.Code, vI r1.2.At] hS75 fun w23 hS76 => ?_
   have hS77 : St w0 w23 [Own.blk b2 (.cells #[vI r1.2.Code, vI r1.2.At] 29 (0, 0)), Own.blk b1 (.cells #[vI 0, .slice none 0 0] 26 (0, 0)), Own.blk b4 (.cells #[vI r1.2.Code, vI r1.2.At] 29 (0, 0)), Own.blk b3 (.cells #[(.slice Z1 r1.1.In.length cz1), .map m1] 60 (0, 0)), Own.of (.slice Z1 r1.1.In.length cz1) 3 r1.1.In, Own.mapv (κ := Int) (ν := Int) m1 r1.1.Close] := hS76
   refine ge_nil fun a hF => hKK _ _ (RS.of2 (l := []) (by kernel_rfl) trivial trivial) ?_ a hF
   have hS78 := hS77.nil (α := Int) 3
   have hS79 := hS78.bring 2 rfl
   have hS80 := hS79.bring 2 rfl
   have hS81 := hS80.takeN 3
   obtain rfl := si h
   exact go_fin3 fun a hF => hQ _ _ _ (Outs.again ⟨(.slice none 0 0), hS81, hF.weaken ea⟩)
  exact go_nomore3
 exact go_nomore3
theorem wcet_Analyse_ok (K : Nat) (l0 : List SIns) (A0 : Option Addr) (c0 : Nat) (w0 : World) (hR0 : RdL w0 A0 l0) (hL0 : l0.length ≤ c0) (r : SBound × SFault) (h : wcet_Analyse.f K l0 = some r) :
  Calls Try.prog 8 #[.slice A0 l0.length c0] w0 (wcet_Analyse.Post w0 r) := by
 have hS := St.start w0
 unfold wcet_Analyse.f at h
 refine calls_enter (n := 56) (args := [.slice A0 l0.length c0]) (fn := Try.f8) rfl rfl rfl rfl ?_
 show WE _ _ _ _ [(0, .slice A0 l0.length c0)] _
 refine ws fun K1 hK1 => ?_
 refine wr [(0, 1), (1, 1)] ?_
 refine gw (some 2) (.cells #[vI 0, .slice none 0 0] 26) (fun b => pP b 0) hS fun b1 w1 hx1 hS1 => ?_
 refine gw (some 3) (.cells #[vI 0, vI 0] 29) (fun b => pP b 0) hS1 fun b2 w2 hx2 hS2 => ?_
 refine gn hK1 ?_
 refine ws fun K2 hK2 => ?_
 refine wr [(0, 0), (1, 1), (2, 0), (3, 0), (4, 0), (5, 1), (6, 1), (7, 2), (8, 2)] ?_
 rcases hq1 : mach_Look.f K l0 with _ | r1
 ·rw [hq1] at h; cases h
 rw [hq1] at h
 simp only [] at h
 refine gb0 [0] [(9, .slice A0 l0.length c0)] ?_
 refine ge_call (d := some 10) (f := 22) (args := #[.slice A0 l0.length c0]) (by kernel_rfl) (mach_Look_ok K l0 A0 c0 _ (hS2.rd hR0) hL0 _ hq1) ?_
 rintro _ w3 ⟨v1, m1, rfl, hS3⟩
 refine ⟨_, rfl, hS3.below, ?_⟩
 have hS4 := hS2.call hS3
 refine gb0 [2, 3, 4] [(12, .agg #[vI r1.2.Code, vI r1.2.At]), (11, .agg #[v1, .map m1]), (8, .tuple #[.agg #[v1, .map m1], .agg #[vI r1.2.Code, vI r1.2.At]])] ?_
 refine gw (some 4) (.cells #[.slice none 0 0, .map none] 60) (fun b => pP b 0) hS4 fun b3 w4 hx3 hS5 => ?_
 refine gw (some 5) (.cells #[vI 0, vI 0] 29) (fun b => pP b 0) hS5 fun b4 w5 hx4 hS6 => ?_
 obtain ⟨Z1, cz1, rfl⟩ := hS6.open 2 rfl
 have hS7 := hS6.bring 1 rfl
 refine gs b3 0 #[.slice none 0 0, .map none] 60 [(.slice Z1 r1.1.In.length cz1), .map m1] hS7 fun w6 hS8 => ?_
 have hS9 : St w0 w6 [Own.blk b3 (.cells #[(.slice Z1 r1.1.In.length cz1), .map m1] 60 (0, 0)), Own.blk b4 (.cells #[vI 0, vI 0] 29 (0, 0)), Own.of (.slice Z1 r1.1.In.length cz1) 3 r1.1.In, Own.mapv (κ := Int) (ν := Int) m1 r1.1.Close, Own.blk b2 (.cells #[vI 0, vI 0] 29 (0, 0)), Own.blk b1 (.cells #[vI 0, .slice none 0 0] 26 (0, 0))] := hS8
 have hS10 := hS9.bring 1 rfl
 refine gs b4 0 #[vI 0, vI 0] 29 [vI r1.2.Code, vI r1.2.At] hS10 fun w7 hS11 => ?_
 have hS12 : St w0 w7 [Own.blk b4 (.cells #[vI r1.2.Code, vI r1.2.At] 29 (0, 0)), Own.blk b3 (.cells #[(.slice Z1 r1.1.In.length cz1), .map m1] 60 (0, 0)), Own.of (.slice Z1 r1.1.In.length cz1) 3 r1.1.In, Own.mapv (κ := Int) (ν := Int) m1 r1.1.Close, Own.blk b2 (.cells #[vI 0, vI 0] 29 (0, 0)), Own.blk b1 (.cells #[vI 0, .slice none 0 0] 26 (0, 0))] := hS11
 refine gn hK2 ?_
 refine ws fun K3 hK3 => ?_
 refine ws fun K4 hK4 => ?_
 refine wr [(0, 0), (1, 0), (2, 0)] ?_
 refine gb [0, 1, 2] [(15, .bool (r1.2.Code != 0)), (14, vI r1.2.Code), (13, pP b4 0)] [.loaded ⟨b4, 0, none⟩ (vI r1.2.Code)] ⟨hS12.c 0, trivial⟩ ?_
 refine gn hK4 ?_
 by_cases hc1 : r1.2.Code = 0
 ·rw [if_pos hc1] at h
  refine wk 15 (r1.2.Code != 0) false (bne_eq_false_iff_eq.2 hc1) ?_
  refine we_false (by kernel_rfl) ?_
  refine we_skip fun a hF => hK3 _ _ ?_ a hF
  refine ws fun K5 hK5 => ?_
  refine wr [(0, 0), (1, 0), (2, 1), (3, 0), (4, 1), (5, 2)] ?_
  refine gb0 [0, 1] [(19, vI (l0.length : Int)), (18, .slice A0 l0.length c0)] ?_
  by_cases hc2 : l0.length ≤ 17592186044416
  ·rw [if_pos hc2] at h
   refine ge_make (α := Int) (d := 20) (t := 23) (el := 3) (bytes := 8) (l := l0.length) (c := l0.length) (x := (.tmp 19)) (y := (.tmp 19)) (ty := 23) (k1 := .i64) (k2 := .i64) (li := (l0.length : Int)) (ci := (l0.length : Int)) (z := vI 0) (z' := (0 : Int)) (by kernel_rfl) (by kernel_rfl) (by kernel_rfl) rfl rfl (by kernel_rfl) (by kernel_rfl) rfl hS12 (Nat.le_refl _) rfl (by omega) fun v2 w8 _ hS13 => ?_
   obtain ⟨Z2, cz2, rfl⟩ := hS13.open 0 rfl
   refine gb0 [3] [(21, .agg #[vI 0, (.slice Z2 (List.replicate l0.length (0 : Int)).length cz2)])] ?_
   refine gw (some 6) (.cells #[vI 0, .slice none 0 0] 26) (fun b => pP b 0) hS13 fun b5 w9 hx5 hS14 => ?_
   refine gs b5 0 #[vI 0, .slice none 0 0] 26 [vI 0, (.slice Z2 (List.replicate l0.length (0 : Int)).length cz2)] hS14 fun w10 hS15 => ?_
   have hS16 : St w0 w10 [Own.blk b5 (.cells #[vI 0, (.slice Z2 (List.replicate l0.length (0 : Int)).length cz2)] 26 (0, 0)), Own.of (.slice Z2 (List.replicate l0.length (0 : Int)).length cz2) 3 (List.replicate l0.length (0 : Int)), Own.blk b4 (.cells #[vI r1.2.Code, vI r1.2.At] 29 (0, 0)), Own.blk b3 (.cells #[(.slice Z1 r1.1.In.length cz1), .map m1] 60 (0, 0)), Own.of (.slice Z1 r1.1.In.length cz1) 3 r1.1.In, Own.mapv (κ := Int) (ν := Int) m1 r1.1.Close, Own.blk b2 (.cells #[vI 0, vI 0] 29 (0, 0)), Own.blk b1 (.cells #[vI 0, .slice none 0 0] 26 (0, 0))] := hS15
   refine gn hK5 ?_
   refine ws fun K6 hK6 => ?_
   refine ws fun K7 hK7 => ?_
   refine wr [(0, 0), (1, 0), (2, 0), (3, 0)] ?_
   refine gb0 [0, 1, 2, 3] [(7, vI (IntKind.i64.wrap ((l0.length : Int) - 1))), (24, vI (IntKind.i64.wrap ((l0.length : Int) - 1))), (23, vI (l0.length : Int)), (22, .slice A0 l0.length c0)] ?_
   refine gn hK7 ?_
   refine we_block ?_
   have hS17 := hS16.bring 5 rfl
   have hS18 := hS17.bring 5 rfl
   have hS19 := hS18.bring 3 rfl
   have hS20 := hS19.bring 7 rfl
   have hS21 := hS20.bring 7 rfl
   have hS22 := hS21.bring 7 rfl
   have hS23 := hS22.bring 6 rfl
   have hS24 := hS23.takeN 7
   rcases hq3 : iter (wcet_Analyse.r0 l0 r1) K (IntKind.i64.wrap ((l0.length : Int) - 1), (List.replicate l0.length (0 : Int))) with _ | (m4 | rr1)
   ·rw [hq3] at h; cases h
   ·rw [hq3] at h
    simp only [] at h
    refine we_iter (A := wcet_Analyse.A0 w0 l0 A0 c0 b1 b2 r1 m1 b3 Z1 cz1 Z2 cz2 b5) (B := wcet_Analyse.B0 w0 b1 b2 Z2 cz2 b5) hq3 (fun a hF => ⟨hS24, hF.weaken ea⟩) (fun s o hf a w hA Q hQ => wcet_Analyse_r0 K w0 l0 A0 c0 hR0 hL0 b1 b2 r1 m1 b3 b4 Z1 cz1 hc1 hc2 Z2 cz2 b5 s o hf a w hA Q hQ) ?_
    rintro _ a w16 _ ⟨rfl, hS55, hF⟩
    replace hS55 : St w0 w16 [Own.blk b5 (.cells #[vI 0, (.slice Z2 m4.length cz2)] 26 (0, 0)), Own.blk b2 (.cells #[vI 0, vI 0] 29 (0, 0)), Own.blk b1 (.cells #[vI 0, .slice none 0 0] 26 (0, 0)), Own.of (.slice Z2 m4.length cz2) 3 m4] := hS55
    refine hK6 [(2, pP b1 0), (3, pP b2 0), (6, pP b5 0)] w16 ?_ a hF
    refine ws fun K14 hK14 => ?_
    refine wr [(0, 0), (1, 0), (2, 1), (3, 1), (4, 0), (5, 2)] ?_
    refine gb [0, 1] [(50, (.slice Z2 m4.length cz2)), (49, pP b5 1)] [.loaded ⟨b5, 1, none⟩ ((.slice Z2 m4.length cz2))] ⟨hS55.c 0, trivial⟩ ?_
    refine ge_call (d := some 51) (f := 24) (args := #[(.slice Z2 m4.length cz2)]) (by kernel_rfl) (wcet_at_ok m4 Z2 cz2 _ (hS55.rdAt 3 rfl) (hS55.capAt 3 rfl)) ?_
    rintro _ w17 ⟨b7, rfl, hS56⟩
    refine ⟨_, rfl, hS56.below, ?_⟩
    have hS57 := hS55.call hS56
    rcases hq4 : wcet_at_1.f 0 m4 with _ | r3
    ·rw [hq4] at h; cases h
    rw [hq4] at h
    simp only [] at h
    refine ge_call (d := some 52) (f := 43) (args := #[vI 0, pP b7 0]) (by kernel_rfl) (wcet_at_1_ok 0 b7 m4 Z2 cz2 _ (hS57.rdAt 4 rfl) (hS57.capAt 4 rfl) (hS57.globOf 0 rfl) _ hq4) ?_
    rintro _ w18 ⟨rfl, hS58⟩
    refine ⟨_, rfl, hS58.below, ?_⟩
    have hS59 := hS57.call hS58
    refine gb0 [4] [(53, pP b5 0)] ?_
    have hS60 := hS59.bring 1 rfl
    refine gs b5 0 #[vI 0, (.slice Z2 m4.length cz2)] 26 [vI r3] hS60 fun w19 hS61 => ?_
    have hS62 : St w0 w19 [Own.blk b5 (.cells #[vI r3, (.slice Z2 m4.length cz2)] 26 (0, 0)), Own.blk b7 (.cells #[(.slice Z2 m4.length cz2)] 23 (0, 0)), Own.blk b2 (.cells #[vI 0, vI 0] 29 (0, 0)), Own.blk b1 (.cells #[vI 0, .slice none 0 0] 26 (0, 0)), Own.of (.slice Z2 m4.length cz2) 3 m4] := hS61
    refine gn hK14 ?_
    refine ws fun K15 hK15 => ?_
    refine wr [(0, 0), (1, 0), (2, 2), (3, 2)] ?_
    refine gb [0, 1] [(55, .agg #[vI 0, vI 0]), (54, .agg #[vI r3, (.slice Z2 m4.length cz2)])] [.loaded ⟨b5, 0, none⟩ (vI r3), .loaded ⟨b5, 1, none⟩ ((.slice Z2 m4.length cz2))] ⟨hS62.c 0, hS62.c 0, trivial⟩ ?_
    have hS63 := hS62.bring 3 rfl
    refine gs b1 0 #[vI 0, .slice none 0 0] 26 [vI r3, (.slice Z2 m4.length cz2)] hS63 fun w20 hS64 => ?_
    have hS65 : St w0 w20 [Own.blk b1 (.cells #[vI r3, (.slice Z2 m4.length cz2)] 26 (0, 0)), Own.blk b5 (.cells #[vI r3, (.slice Z2 m4.length cz2)] 26 (0, 0)), Own.blk b7 (.cells #[(.slice Z2 m4.length cz2)] 23 (0, 0)), Own.blk b2 (.cells #[vI 0, vI 0] 29 (0, 0)), Own.of (.slice Z2 m4.length cz2) 3 m4] := hS64
    have hS66 := hS65.bring 3 rfl
    refine gs b2 0 #[vI 0, vI 0] 29 [vI 0, vI 0] hS66 fun w21 hS67 => ?_
    have hS68 : St w0 w21 [Own.blk b2 (.cells #[vI 0, vI 0] 29 (0, 0)), Own.blk b1 (.cells #[vI r3, (.slice Z2 m4.length cz2)] 26 (0, 0)), Own.blk b5 (.cells #[vI r3, (.slice Z2 m4.length cz2)] 26 (0, 0)), Own.blk b7 (.cells #[(.slice Z2 m4.length cz2)] 23 (0, 0)), Own.of (.slice Z2 m4.length cz2) 3 m4] := hS67
    refine gn hK15 ?_
    have hS69 := hS68.bring 4 rfl
    have hS70 := hS69.takeN 1
    obtain rfl := si h
    exact we_ret (pr [.cell 2 26, .cell 3 29] [.agg #[vI r3, (.slice Z2 m4.length cz2)], .agg #[vI 0, vI 0]] [.loaded ⟨b1, 0, none⟩ (vI r3), .loaded ⟨b1, 1, none⟩ ((.slice Z2 m4.length cz2)), .loaded ⟨b2, 0, none⟩ (vI 0), .loaded ⟨b2, 1, none⟩ (vI 0)] ⟨hS68.c 1, hS68.c 1, hS68.c 0, hS68.c 0, trivial⟩ ⟨(.slice Z2 m4.length cz2), rfl, hS70⟩)
   ·rw [hq3] at h
    simp only [] at h
    refine we_iter (A := wcet_Analyse.A0 w0 l0 A0 c0 b1 b2 r1 m1 b3 Z1 cz1 Z2 cz2 b5) (B := wcet_Analyse.B0 w0 b1 b2 Z2 cz2 b5) hq3 (fun a hF => ⟨hS24, hF.weaken ea⟩) (fun s o hf a w hA Q hQ => wcet_Analyse_r0 K w0 l0 A0 c0 hR0 hL0 b1 b2 r1 m1 b3 b4 Z1 cz1 hc1 hc2 Z2 cz2 b5 s o hf a w hA Q hQ) ?_
    rintro _ a w1 _ ⟨rfl, hb⟩
    obtain rfl := si h
    exact hb
  ·rw [if_neg hc2] at h
   cases h
 ·rw [if_neg hc1] at h
  refine wk 15 (r1.2.Code != 0) true (bne_iff_ne.2 hc1) ?_
  refine we_true (by kernel_rfl) ?_
  refine ws fun K16 hK16 => ?_
  rcases hq5 : wcet_Analyse.p1 r1 with _ | (⟨z5, z6, z7, m6⟩ | rr2)
  ·rw [hq5] at h; cases h
  ·rw [hq5] at h
   simp only [] at h
   refine we_keep (e' := [(0, .slice A0 l0.length c0), (2, pP b1 0), (3, pP b2 0), (4, pP b3 0), (5, pP b4 0), (8, .tuple #[.agg #[(.slice Z1 r1.1.In.length cz1), .map m1], .agg #[vI r1.2.Code, vI r1.2.At]]), (9, .slice A0 l0.length c0), (10, .tuple #[.agg #[(.slice Z1 r1.1.In.length cz1), .map m1], .agg #[vI r1.2.Code, vI r1.2.At]]), (11, .agg #[(.slice Z1 r1.1.In.length cz1), .map m1]), (12, .agg #[vI r1.2.Code, vI r1.2.At]), (13, pP b4 0), (14, vI r1.2.Code), (15, .bool true)]) ea (wcet_Analyse_p1 K w0 l0 A0 c0 hR0 hL0 b1 b2 r1 m1 b3 b4 Z1 cz1 hc1 _ hq5 _ hS12 _ ?_)
   rintro _ a w24 ⟨rfl, v4, hS82, hF⟩
   replace hS82 : St w0 w24 [Own.blk b2 (.cells #[vI z5, vI z6] 29 (0, 0)), Own.blk b1 (.cells #[vI z7, v4] 26 (0, 0)), Own.of v4 3 m6] := hS82
   refine hK16 [(2, pP b1 0), (3, pP b2 0)] w24 ?_ a hF
   have hS83 := hS82.bring 2 rfl
   have hS84 := hS83.takeN 1
   obtain rfl := si h
   exact we_ret (pr [.cell 2 26, .cell 3 29] [.agg #[vI z7, v4], .agg #[vI z5, vI z6]] [.loaded ⟨b1, 0, none⟩ (vI z7), .loaded ⟨b1, 1, none⟩ (v4), .loaded ⟨b2, 0, none⟩ (vI z5), .loaded ⟨b2, 1, none⟩ (vI z6)] ⟨hS82.c 1, hS82.c 1, hS82.c 0, hS82.c 0, trivial⟩ ⟨v4, rfl, hS84⟩)
  ·rw [hq5] at h
   simp only [] at h
   refine we_keep (e' := [(0, .slice A0 l0.length c0), (2, pP b1 0), (3, pP b2 0), (4, pP b3 0), (5, pP b4 0), (8, .tuple #[.agg #[(.slice Z1 r1.1.In.length cz1), .map m1], .agg #[vI r1.2.Code, vI r1.2.At]]), (9, .slice A0 l0.length c0), (10, .tuple #[.agg #[(.slice Z1 r1.1.In.length cz1), .map m1], .agg #[vI r1.2.Code, vI r1.2.At]]), (11, .agg #[(.slice Z1 r1.1.In.length cz1), .map m1]), (12, .agg #[vI r1.2.Code, vI r1.2.At]), (13, pP b4 0), (14, vI r1.2.Code), (15, .bool true)]) ea (wcet_Analyse_p1 K w0 l0 A0 c0 hR0 hL0 b1 b2 r1 m1 b3 b4 Z1 cz1 hc1 _ hq5 _ hS12 _ ?_)
   rintro _ a w1 ⟨_, rfl, hb⟩
   obtain rfl := si h
   exact hb

/-! punctual/wcet.Proves -/
abbrev wcet_Proves.Post (w0 : World) (r : Bool) (e : Ending) (w : World) : Prop := e = .returned (.bool r) ∧ St w0 w []
def wcet_Proves.p0 (l0 : List SIns) (l1_1 : List Int) (r1 : SShape × SFault) : Option (Unit ⊕ Bool) :=
  if r1.2.Code = 0 then
   if (l1_1.length : Int) = (l0.length : Int) then
    some (.inl ())
   else
    some (.inr false)
  else
   some (.inr false)
def wcet_Proves.r1 (l1_1 : List Int) : Nat → Option (Nat ⊕ (Unit ⊕ Bool))
 | i1 =>
  if (i1 : Int) < (l1_1.length : Int) then
   match l1_1[i1]? with
   | none => none
   | some e1 =>
    if e1 < 0 then
     some (.inr (.inr false))
    else
     if e1 > 1099511627776 then
      some (.inr (.inr false))
     else
      some (.inl (i1 + 1))
  else
   some (.inr (.inl ()))
def wcet_Proves.r2 (l0 : List SIns) (l1_1 : List Int) (r1 : SShape × SFault) : Nat → Option (Nat ⊕ (Unit ⊕ Bool))
 | i2 =>
  if (i2 : Int) < (l0.length : Int) then
   match l1_1[i2]? with
   | none => none
   | some e2 =>
    match wcet_need.f l0 r1.1.In r1.1.Close l1_1 (i2 : Int) with
    | none => none
    | some r2 =>
     if e2 < r2 then
      some (.inr (.inr false))
     else
      some (.inl (i2 + 1))
  else
   some (.inr (.inl ()))
def wcet_Proves.f (K : Nat) (l0 : List SIns) (x1_0 : Int) (l1_1 : List Int) : Option Bool :=
 match mach_Look.f K l0 with
 | none => none
 | some r1 =>
  match wcet_Proves.p0 l0 l1_1 r1 with
  | none => none
  | some (.inl _) =>
   match iter (wcet_Proves.r1 l1_1) K 0 with
   | none => none
   | some (.inl _) =>
    match iter (wcet_Proves.r2 l0 l1_1 r1) K 0 with
    | none => none
    | some (.inl _) =>
     match wcet_at_1.f 0 l1_1 with
     | none => none
     | some r3 =>
      some (decide (x1_0 ≥ r3))
    | some (.inr rr1) =>
     some rr1
   | some (.inr rr2) =>
    some rr2
  | some (.inr rr3) =>
   some rr3
abbrev wcet_Proves.A0 (w0 : World) (l0 : List SIns) (A0 : Option Addr) (c0 : Nat) (x1_0 : Int) (l1_1 : List Int) (A1_1 : Option Addr) (c1_1 : Nat) (b1 : Nat) (r1 : SShape × SFault) (m1 : Option Nat) (b2 : Nat) (Z1 : Option Addr) (cz1 : Nat) : Unit → Act → World → Prop := fun (s : Unit) a w => St w0 w [Own.blk b2 (.cells #[(.slice Z1 r1.1.In.length cz1), .map m1] 60 (0, 0)), Own.blk b1 (.cells #[vI x1_0, .slice A1_1 l1_1.length c1_1] 26 (0, 0)), Own.of (.slice Z1 r1.1.In.length cz1) 3 r1.1.In, Own.mapv (κ := Int) (ν := Int) m1 r1.1.Close] ∧ Frm 66 a [(0, .slice A0 l0.length c0), (3, pP b1 0), (5, pP b2 0)]
abbrev wcet_Proves.B0 (w0 : World) : Bool → Exit → Act → World → Prop := Rets Try.prog Try.f9 (wcet_Proves.Post w0)
theorem wcet_Proves_p0 (K : Nat) (w0 : World) (l0 : List SIns) (A0 : Option Addr) (c0 : Nat) (x1_0 : Int) (l1_1 : List Int) (A1_1 : Option Addr) (c1_1 : Nat) (hR0 : RdL w0 A0 l0) (hL0 : l0.length ≤ c0) (hR1_1 : RdL w0 A1_1 l1_1) (hL1_1 : l1_1.length ≤ c1_1) (b1 : Nat) (r1 : SShape × SFault) (m1 : Option Nat) (b2 : Nat) (b3 : Nat) (Z1 : Option Addr) (cz1 : Nat) (o : Unit ⊕ Bool) (h : wcet_Proves.p0 l0 l1_1 r1 = some o) (w : World) (hS : St w0 w [Own.blk b3 (.cells #[vI r1.2.Code, vI r1.2.At] 29 (0, 0)), Own.blk b2 (.cells #[(.slice Z1 r1.1.In.length cz1), .map m1] 60 (0, 0)), Own.of (.slice Z1 r1.1.In.length cz1) 3 r1.1.In, Own.mapv (κ := Int) (ν := Int) m1 r1.1.Close, Own.blk b1 (.cells #[vI x1_0, .slice A1_1 l1_1.length c1_1] 26 (0, 0))]) (Q : Exit → Act → World → Prop) (hQ : ∀ x a w, Outs (wcet_Proves.A0 w0 l0 A0 c0 x1_0 l1_1 A1_1 c1_1 b1 r1 m1 b2 Z1 cz1) (wcet_Proves.B0 w0) o x a w → Q x a w) : WE Try.prog 66 (subF Try.f9 [1, 1, 0]) Q [(0, .slice A0 l0.length c0), (1, .agg #[vI x1_0, .slice A1_1 l1_1.length c1_1]), (3, pP b1 0), (4, .bool false), (5, pP b2 0), (6, pP b3 0), (10, .tuple #[.agg #[(.slice Z1 r1.1.In.length cz1), .map m1], .agg #[vI r1.2.Code, vI r1.2.At]]), (11, .slice A0 l0.length c0), (12, .tuple #[.agg #[(.slice Z1 r1.1.In.length cz1), .map m1], .agg #[vI r1.2.Code, vI r1.2.At]]), (13, .agg #[(.slice Z1 r1.1.In.length cz1), .map m1]), (14, .agg #[vI r1.2.Code, vI r1.2.At])] w := by
 simp only [wcet_Proves.p0] at h
 refine ws fun K4 hK4 => ?_
 refine wr [(0, 0), (1, 0), (2, 0), (3, 0), (4, 0), (5, 0), (6, 0), (7, 0), (8, 0), (9, 0), (10, 0)] ?_
 refine gb [0, 1, 2, 3] [(18, .bool (r1.2.Code != 0)), (17, .bool (r1.2.Code != 0)), (16, vI r1.2.Code), (15, pP b3 0)] [.loaded ⟨b3, 0, none⟩ (vI r1.2.Code)] ⟨hS.c 0, trivial⟩ ?_
 by_cases hc1 : r1.2.Code = 0
 ·rw [if_pos hc1] at h
  refine gk 18 (r1.2.Code != 0) false (bne_eq_false_iff_eq.2 hc1) ?_
  refine gb [4, 5, 6, 7, 8, 9, 10] [(25, .bool ((l1_1.length : Int) != (l0.length : Int))), (24, .bool ((l1_1.length : Int) != (l0.length : Int))), (23, vI (l0.length : Int)), (22, .slice A0 l0.length c0), (21, vI (l1_1.length : Int)), (20, .slice A1_1 l1_1.length c1_1), (19, pP b1 1)] [.loaded ⟨b1, 1, none⟩ (.slice A1_1 l1_1.length c1_1)] ⟨hS.c 4, trivial⟩ ?_
  refine gn hK4 ?_
  by_cases hc2 : (l1_1.length : Int) = (l0.length : Int)
  ·rw [if_pos hc2] at h
   refine wk 25 ((l1_1.length : Int) != (l0.length : Int)) false (bne_eq_false_iff_eq.2 hc2) ?_
   refine we_false (by kernel_rfl) ?_
   have hS12 := hS.bring 3 rfl
   have hS13 := hS12.bring 3 rfl
   have hS14 := hS13.bring 4 rfl
   have hS15 := hS14.bring 4 rfl
   have hS16 := hS15.takeN 4
   obtain rfl := si h
   exact we_skip fun a hF => hQ _ _ _ (Outs.again ⟨hS16, hF.weaken ea⟩)
  ·rw [if_neg hc2] at h
   refine wk 25 ((l1_1.length : Int) != (l0.length : Int)) true (bne_iff_ne.2 hc2) ?_
   refine we_true (by kernel_rfl) ?_
   refine ws fun K5 hK5 => ?_
   refine wr [(0, 0)] ?_
   refine gb0 [0] [(4, .bool false)] ?_
   refine gn hK5 ?_
   have hS17 := hS.takeN 0
   obtain rfl := si h
   exact we_ret fun a hF => hQ _ _ _ (Outs.out nofun ⟨rfl, (pr0 [.tmp 4] [.bool false] ⟨rfl, hS17⟩) a hF⟩)
 ·rw [if_neg hc1] at h
  refine gk 18 (r1.2.Code != 0) true (bne_iff_ne.2 hc1) ?_
  refine gb0 [4, 5, 6, 7, 8, 9, 10] [(25, .bool true), (24, undef), (23, undef), (22, undef), (21, undef), (20, undef), (19, undef)] ?_
  refine gn hK4 ?_
  refine we_true (by kernel_rfl) ?_
  refine ws fun K6 hK6 => ?_
  refine wr [(0, 0)] ?_
  refine gb0 [0] [(4, .bool false)] ?_
  refine gn hK6 ?_
  have hS18 := hS.takeN 0
  obtain rfl := si h
  exact we_ret fun a hF => hQ _ _ _ (Outs.out nofun ⟨rfl, (pr0 [.tmp 4] [.bool false] ⟨rfl, hS18⟩) a hF⟩)
abbrev wcet_Proves.A1 (w0 : World) (l0 : List SIns) (A0 : Option Addr) (c0 : Nat) (x1_0 : Int) (l1_1 : List Int) (A1_1 : Option Addr) (c1_1 : Nat) (b1 : Nat) (r1 : SShape × SFault) (m1 : Option Nat) (b2 : Nat) (Z1 : Option Addr) (cz1 : Nat) : Nat → Act → World → Prop := fun (s : Nat) a w => St w0 w [Own.blk b2 (.cells #[(.slice Z1 r1.1.In.length cz1), .map m1] 60 (0, 0)), Own.blk b1 (.cells #[vI x1_0, .slice A1_1 l1_1.length c1_1] 26 (0, 0)), Own.of (.slice Z1 r1.1.In.length cz1) 3 r1.1.In, Own.mapv (κ := Int) (ν := Int) m1 r1.1.Close] ∧ Frm 66 a [(0, .slice A0 l0.length c0), (3, pP b1 0), (5, pP b2 0), (27, .slice A1_1 l1_1.length c1_1), (28, vI (l1_1.length : Int)), (29, vI (s : Int))]
abbrev wcet_Proves.B1 (w0 : World) (l0 : List SIns) (A0 : Option Addr) (c0 : Nat) (x1_0 : Int) (l1_1 : List Int) (A1_1 : Option Addr) (c1_1 : Nat) (b1 : Nat) (r1 : SShape × SFault) (m1 : Option Nat) (b2 : Nat) (Z1 : Option Addr) (cz1 : Nat) : (Unit ⊕ Bool) → Exit → Act → World → Prop := Exits 0 (fun (s : Unit) a w => St w0 w [Own.blk b2 (.cells #[(.slice Z1 r1.1.In.length cz1), .map m1] 60 (0, 0)), Own.blk b1 (.cells #[vI x1_0, .slice A1_1 l1_1.length c1_1] 26 (0, 0)), Own.of (.slice Z1 r1.1.In.length cz1) 3 r1.1.In, Own.mapv (κ := Int) (ν := Int) m1 r1.1.Close] ∧ Frm 66 a [(0, .slice A0 l0.length c0), (3, pP b1 0), (5, pP b2 0)]) (Rets Try.prog Try.f9 (wcet_Proves.Post w0))
theorem wcet_Proves_r1 (K : Nat) (w0 : World) (l0 : List SIns) (A0 : Option Addr) (c0 : Nat) (x1_0 : Int) (l1_1 : List Int) (A1_1 : Option Addr) (c1_1 : Nat) (hR0 : RdL w0 A0 l0) (hL0 : l0.length ≤ c0) (hR1_1 : RdL w0 A1_1 l1_1) (hL1_1 : l1_1.length ≤ c1_1) (b1 : Nat) (r1 : SShape × SFault) (m1 : Option Nat) (b2 : Nat) (b3 : Nat) (Z1 : Option Addr) (cz1 : Nat) (s : Nat) (o : Nat ⊕ (Unit ⊕ Bool)) (h : wcet_Proves.r1 l1_1 s = some o) (a : Act) (w : World) (hA : wcet_Proves.A1 w0 l0 A0 c0 x1_0 l1_1 A1_1 c1_1 b1 r1 m1 b2 Z1 cz1 s a w) (Q : Exit → Act → World → Prop) (hQ : ∀ x a w, Outs (wcet_Proves.A1 w0 l0 A0 c0 x1_0 l1_1 A1_1 c1_1 b1 r1 m1 b2 Z1 cz1) (wcet_Proves.B1 w0 l0 A0 c0 x1_0 l1_1 A1_1 c1_1 b1 r1 m1 b2 Z1 cz1) o x a w → Q x a w) : (subF Try.f9 [1, 1, 1, 0, 1, 0, 0]).wp Try.prog Q a w := by
 obtain ⟨i1, hs⟩ : ∃ z, z = s := ⟨s, rfl⟩
 subst hs
 obtain ⟨hS, hF⟩ := hA
 replace hS : St w0 w [Own.blk b2 (.cells #[(.slice Z1 r1.1.In.length cz1), .map m1] 60 (0, 0)), Own.blk b1 (.cells #[vI x1_0, .slice A1_1 l1_1.length c1_1] 26 (0, 0)), Own.of (.slice Z1 r1.1.In.length cz1) 3 r1.1.In, Own.mapv (κ := Int) (ν := Int) m1 r1.1.Close] := hS
 simp only [wcet_Proves.r1] at h
 refine (?_ : WE Try.prog 66 (subF Try.f9 [1, 1, 1, 0, 1, 0, 0]) Q [(0, .slice A0 l0.length c0), (3, pP b1 0), (5, pP b2 0), (27, .slice A1_1 l1_1.length c1_1), (28, vI (l1_1.length : Int)), (29, vI (i1 : Int))] w) a hF
 clear hF a
 refine ws fun K9 hK9 => ?_
 refine wr [(0, 0)] ?_
 refine gb0 [0] [(30, .bool (decide ((i1 : Int) < (l1_1.length : Int))))] ?_
 refine gn hK9 ?_
 refine ws fun K10 hK10 => ?_
 by_cases hc3 : (i1 : Int) < (l1_1.length : Int)
 ·rw [if_pos hc3] at h
  refine wk 30 (decide ((i1 : Int) < (l1_1.length : Int))) true (decide_eq_true hc3) ?_
  refine we_true (by kernel_rfl) ?_
  refine we_skip fun a hF => hK10 _ _ ?_ a hF
  refine ws fun K11 hK11 => ?_
  refine we_block ?_
  refine ws fun K12 hK12 => ?_
  refine wr [(0, 0), (1, 0), (2, 0)] ?_
  rcases hx4 : l1_1[i1]? with _ | e1
  ·rw [hx4] at h; cases h
  rw [hx4] at h
  simp only [] at h
  refine gi 31 0 23 3 1 l1_1.length c1_1 (.tmp 27) (.tmp 29) A1_1 .i64 (i1 : Int) i1 ((hS.rd hR1_1).eqSome (pos_of_get hx4)) rfl (lt_of_get hx4) ?_
  refine gb [1, 2] [(8, vI e1), (32, vI e1)] [.loaded ⟨blkOf A1_1, offOf A1_1 + i1 * 1, none⟩ (vI e1)] ⟨RdL.cell (j := 0) (hS.rd hR1_1) hx4 rfl, trivial⟩ ?_
  refine gn hK12 ?_
  refine ws fun K13 hK13 => ?_
  refine wr [(0, 0), (1, 0), (2, 0), (3, 0), (4, 0), (5, 0)] ?_
  refine gb0 [0, 1, 2] [(35, .bool (decide (e1 < 0))), (34, .bool (decide (e1 < 0))), (33, vI e1)] ?_
  by_cases hc4 : e1 < 0
  ·rw [if_pos hc4] at h
   refine gk 35 (decide (e1 < 0)) true (decide_eq_true hc4) ?_
   refine gb0 [3, 4, 5] [(38, .bool true), (37, undef), (36, undef)] ?_
   refine gn hK13 ?_
   refine we_true (by kernel_rfl) ?_
   refine ws fun K14 hK14 => ?_
   refine wr [(0, 0)] ?_
   refine gb0 [0] [(4, .bool false)] ?_
   refine gn hK14 ?_
   have hS24 := hS.takeN 0
   obtain rfl := si h
   exact we_ret fun a hF => hQ _ _ _ (Outs.out nofun (Exits.on ⟨rfl, (pr0 [.tmp 4] [.bool false] ⟨rfl, hS24⟩) a hF⟩))
  ·rw [if_neg hc4] at h
   refine gk 35 (decide (e1 < 0)) false (decide_eq_false hc4) ?_
   refine gb0 [3, 4, 5] [(38, .bool (decide (e1 > 1099511627776))), (37, .bool (decide (e1 > 1099511627776))), (36, vI e1)] ?_
   refine gn hK13 ?_
   by_cases hc5 : e1 > 1099511627776
   ·rw [if_pos hc5] at h
    refine wk 38 (decide (e1 > 1099511627776)) true (decide_eq_true hc5) ?_
    refine we_true (by kernel_rfl) ?_
    refine ws fun K15 hK15 => ?_
    refine wr [(0, 0)] ?_
    refine gb0 [0] [(4, .bool false)] ?_
    refine gn hK15 ?_
    have hS25 := hS.takeN 0
    obtain rfl := si h
    exact we_ret fun a hF => hQ _ _ _ (Outs.out nofun (Exits.on ⟨rfl, (pr0 [.tmp 4] [.bool false] ⟨rfl, hS25⟩) a hF⟩))
   ·rw [if_neg hc5] at h
    refine wk 38 (decide (e1 > 1099511627776)) false (decide_eq_false hc5) ?_
    refine we_false (by kernel_rfl) ?_
    refine we_skip fun a hF => hK11 _ _ ?_ a hF
    refine wr [(0, 0), (1, 0)] ?_
    refine ge_addn (d := 39) (ty := 3) (x := (.tmp 29)) (y := (.const (vI 1))) (t := 3) (t2 := 3) (k := .i64) (m := i1) (by kernel_rfl) (by kernel_rfl) (by kernel_rfl) (by have h0 := hR1_1.small; omega) ?_
    refine gb0 [1] [(29, vI ((i1 + 1 : Nat) : Int))] ?_
    have hS26 := hS.bring 3 rfl
    have hS27 := hS26.bring 3 rfl
    have hS28 := hS27.bring 3 rfl
    have hS29 := hS28.bring 3 rfl
    obtain rfl := si h
    exact ge_nil fun a hF => hQ _ _ _ (Outs.again ⟨hS29, hF.weaken ea⟩)
 ·rw [if_neg hc3] at h
  refine wk 30 (decide ((i1 : Int) < (l1_1.length : Int))) false (decide_eq_false hc3) ?_
  refine we_false (by kernel_rfl) ?_
  have hS30 := hS.bring 3 rfl
  have hS31 := hS30.bring 3 rfl
  have hS32 := hS31.bring 3 rfl
  have hS33 := hS32.bring 3 rfl
  obtain rfl := si h
  exact we_exit fun a hF => hQ _ _ _ (Outs.out nofun (Exits.here ⟨hS33, hF.weaken ea⟩))
abbrev wcet_Proves.A2 (w0 : World) (l0 : List SIns) (A0 : Option Addr) (c0 : Nat) (x1_0 : Int) (l1_1 : List Int) (A1_1 : Option Addr) (c1_1 : Nat) (b1 : Nat) (r1 : SShape × SFault) (m1 : Option Nat) (b2 : Nat) (Z1 : Option Addr) (cz1 : Nat) : Nat → Act → World → Prop := fun (s : Nat) a w => St w0 w [Own.blk b2 (.cells #[(.slice Z1 r1.1.In.length cz1), .map m1] 60 (0, 0)), Own.blk b1 (.cells #[vI x1_0, .slice A1_1 l1_1.length c1_1] 26 (0, 0)), Own.of (.slice Z1 r1.1.In.length cz1) 3 r1.1.In, Own.mapv (κ := Int) (ν := Int) m1 r1.1.Close] ∧ Frm 66 a [(0, .slice A0 l0.length c0), (3, pP b1 0), (5, pP b2 0), (41, vI (l0.length : Int)), (42, vI (s : Int))]
abbrev wcet_Proves.B2 (w0 : World) (x1_0 : Int) (l1_1 : List Int) (A1_1 : Option Addr) (c1_1 : Nat) (b1 : Nat) : (Unit ⊕ Bool) → Exit → Act → World → Prop := Exits 2 (fun (s : Unit) a w => St w0 w [Own.blk b1 (.cells #[vI x1_0, .slice A1_1 l1_1.length c1_1] 26 (0, 0))] ∧ Frm 66 a [(3, pP b1 0)]) (Rets Try.prog Try.f9 (wcet_Proves.Post w0))
theorem wcet_Proves_r2 (K : Nat) (w0 : World) (l0 : List SIns) (A0 : Option Addr) (c0 : Nat) (x1_0 : Int) (l1_1 : List Int) (A1_1 : Option Addr) (c1_1 : Nat) (hR0 : RdL w0 A0 l0) (hL0 : l0.length ≤ c0) (hR1_1 : RdL w0 A1_1 l1_1) (hL1_1 : l1_1.length ≤ c1_1) (b1 : Nat) (r1 : SShape × SFault) (m1 : Option Nat) (b2 : Nat) (b3 : Nat) (Z1 : Option Addr) (cz1 : Nat) (s : Nat) (o : Nat ⊕ (Unit ⊕ Bool)) (h : wcet_Proves.r2 l0 l1_1 r1 s = some o) (a : Act) (w : World) (hA : wcet_Proves.A2 w0 l0 A0 c0 x1_0 l1_1 A1_1 c1_1 b1 r1 m1 b2 Z1 cz1 s a w) (Q : Exit → Act → World → Prop) (hQ : ∀ x a w, Outs (wcet_Proves.A2 w0 l0 A0 c0 x1_0 l1_1 A1_1 c1_1 b1 r1 m1 b2 Z1 cz1) (wcet_Proves.B2 w0 x1_0 l1_1 A1_1 c1_1 b1) o x a w → Q x a w) : (subF Try.f9 [1, 1, 1, 1, 0, 1, 0, 0]).wp Try.prog Q a w := by
 obtain ⟨i2, hs⟩ : ∃ z, z = s := ⟨s, rfl⟩
 subst hs
 obtain ⟨hS, hF⟩ := hA
 replace hS : St w0 w [Own.blk b2 (.cells #[(.slice Z1 r1.1.In.length cz1), .map m1] 60 (0, 0)), Own.blk b1 (.cells #[vI x1_0, .slice A1_1 l1_1.length c1_1] 26 (0, 0)), Own.of (.slice Z1 r1.1.In.length cz1) 3 r1.1.In, Own.mapv (κ := Int) (ν := Int) m1 r1.1.Close] := hS
 simp only [wcet_Proves.r2] at h
 refine (?_ : WE Try.prog 66 (subF Try.f9 [1, 1, 1, 1, 0, 1, 0, 0]) Q [(0, .slice A0 l0.length c0), (3, pP b1 0), (5, pP b2 0), (41, vI (l0.length : Int)), (42, vI (i2 : Int))] w) a hF
 clear hF a
 refine ws fun K18 hK18 => ?_
 refine wr [(0, 0)] ?_
 refine gb0 [0] [(43, .bool (decide ((i2 : Int) < (l0.length : Int))))] ?_
 refine gn hK18 ?_
 refine ws fun K19 hK19 => ?_
 by_cases hc6 : (i2 : Int) < (l0.length : Int)
 ·rw [if_pos hc6] at h
  refine wk 43 (decide ((i2 : Int) < (l0.length : Int))) true (decide_eq_true hc6) ?_
  refine we_true (by kernel_rfl) ?_
  refine we_skip fun a hF => hK19 _ _ ?_ a hF
  refine ws fun K20 hK20 => ?_
  refine we_block ?_
  refine ws fun K21 hK21 => ?_
  refine wr [(0, 0), (1, 0)] ?_
  refine gb0 [0, 1] [(9, vI (i2 : Int)), (44, vI (i2 : Int))] ?_
  refine gn hK21 ?_
  refine ws fun K22 hK22 => ?_
  refine we_draws (by kernel_rfl) [(0, 0), (1, 0), (2, 0), (3, 0), (4, 0), (5, 0), (6, 0), (7, 0), (8, 0), (10, 0), (9, 1), (11, 1), (12, 0)] (by kernel_rfl) ?_
  have hS39 := hS.drew
  refine gb [0, 1, 2] [(47, vI (i2 : Int)), (46, .slice A1_1 l1_1.length c1_1), (45, pP b1 1)] [.loaded ⟨b1, 1, none⟩ (.slice A1_1 l1_1.length c1_1)] ⟨hS39.c 1, trivial⟩ ?_
  rcases hx5 : l1_1[i2]? with _ | e2
  ·rw [hx5] at h; cases h
  rw [hx5] at h
  simp only [] at h
  refine gi 48 0 23 3 1 l1_1.length c1_1 (.tmp 46) (.tmp 47) A1_1 .i64 (i2 : Int) i2 ((hS39.rd hR1_1).eqSome (pos_of_get hx5)) rfl (lt_of_get hx5) ?_
  refine gb [4, 5, 6, 7, 8, 10] [(55, vI (i2 : Int)), (53, .slice A1_1 l1_1.length c1_1), (52, pP b1 1), (51, .agg #[(.slice Z1 r1.1.In.length cz1), .map m1]), (50, .slice A0 l0.length c0), (49, vI e2)] [.loaded ⟨blkOf A1_1, offOf A1_1 + i2 * 1, none⟩ (vI e2), .loaded ⟨b2, 0, none⟩ ((.slice Z1 r1.1.In.length cz1)), .loaded ⟨b2, 1, none⟩ (.map m1), .loaded ⟨b1, 1, none⟩ (.slice A1_1 l1_1.length c1_1)] ⟨RdL.cell (j := 0) (hS39.rd hR1_1) hx5 rfl, hS39.c 0, hS39.c 0, hS39.c 1, trivial⟩ ?_
  refine ge_call (d := some 54) (f := 24) (args := #[.slice A1_1 l1_1.length c1_1]) (by kernel_rfl) (wcet_at_ok l1_1 A1_1 c1_1 _ (hS39.rd hR1_1) hL1_1) ?_
  rintro _ w9 ⟨b4, rfl, hS40⟩
  refine ⟨_, rfl, hS40.below, ?_⟩
  have hS41 := hS39.call hS40
  rcases hq4 : wcet_need.f l0 r1.1.In r1.1.Close l1_1 (i2 : Int) with _ | r2
  ·rw [hq4] at h; cases h
  rw [hq4] at h
  simp only [] at h
  refine ge_call (d := some 56) (f := 23) (args := #[.slice A0 l0.length c0, .agg #[(.slice Z1 r1.1.In.length cz1), .map m1], .func (.func 43) #[] #[pP b4 0], vI (i2 : Int)]) (by kernel_rfl) (wcet_need_ok l0 A0 c0 r1.1.In Z1 cz1 r1.1.Close m1 b4 l1_1 A1_1 c1_1 (i2 : Int) _ (hS41.rd hR0) hL0 (hS41.rdAt 3 rfl) (hS41.capAt 3 rfl) (hS41.rdMapvAt 4 rfl) (hS41.rd hR1_1) hL1_1 (hS41.globOf 0 rfl) _ hq4) ?_
  rintro _ w10 ⟨rfl, hS42⟩
  refine ⟨_, rfl, hS42.below, ?_⟩
  have hS43 := hS41.call hS42
  refine gb0 [12] [(57, .bool (decide (e2 < r2)))] ?_
  refine gn hK22 ?_
  by_cases hc7 : e2 < r2
  ·rw [if_pos hc7] at h
   refine wk 57 (decide (e2 < r2)) true (decide_eq_true hc7) ?_
   refine we_true (by kernel_rfl) ?_
   refine ws fun K23 hK23 => ?_
   refine wr [(0, 0)] ?_
   refine gb0 [0] [(4, .bool false)] ?_
   refine gn hK23 ?_
   have hS44 := hS43.takeN 0
   obtain rfl := si h
   exact we_ret fun a hF => hQ _ _ _ (Outs.out nofun (Exits.on ⟨rfl, (pr0 [.tmp 4] [.bool false] ⟨rfl, hS44⟩) a hF⟩))
  ·rw [if_neg hc7] at h
   refine wk 57 (decide (e2 < r2)) false (decide_eq_false hc7) ?_
   refine we_false (by kernel_rfl) ?_
   refine we_skip fun a hF => hK20 _ _ ?_ a hF
   refine wr [(0, 0), (1, 0)] ?_
   refine ge_addn (d := 58) (ty := 3) (x := (.tmp 42)) (y := (.const (vI 1))) (t := 3) (t2 := 3) (k := .i64) (m := i2) (by kernel_rfl) (by kernel_rfl) (by kernel_rfl) (by have h0 := hR0.small; omega) ?_
   refine gb0 [1] [(42, vI ((i2 + 1 : Nat) : Int))] ?_
   have hS45 := hS43.bring 4 rfl
   have hS46 := hS45.bring 4 rfl
   have hS47 := hS46.bring 4 rfl
   have hS48 := hS47.bring 4 rfl
   have hS49 := hS48.takeN 4
   obtain rfl := si h
   exact ge_nil fun a hF => hQ _ _ _ (Outs.again ⟨hS49, hF.weaken ea⟩)
 ·rw [if_neg hc6] at h
  refine wk 43 (decide ((i2 : Int) < (l0.length : Int))) false (decide_eq_false hc6) ?_
  refine we_false (by kernel_rfl) ?_
  have hS50 := hS.bring 1 rfl
  have hS51 := hS50.takeN 1
  obtain rfl := si h
  exact we_exit fun a hF => hQ _ _ _ (Outs.out nofun (Exits.here ⟨hS51, hF.weaken ea⟩))
theorem wcet_Proves_ok (K : Nat) (l0 : List SIns) (A0 : Option Addr) (c0 : Nat) (x1_0 : Int) (l1_1 : List Int) (A1_1 : Option Addr) (c1_1 : Nat) (w0 : World) (hR0 : RdL w0 A0 l0) (hL0 : l0.length ≤ c0) (hR1_1 : RdL w0 A1_1 l1_1) (hL1_1 : l1_1.length ≤ c1_1) (r : Bool) (h : wcet_Proves.f K l0 x1_0 l1_1 = some r) :
  Calls Try.prog 9 #[.slice A0 l0.length c0, .agg #[vI x1_0, .slice A1_1 l1_1.length c1_1]] w0 (wcet_Proves.Post w0 r) := by
 have hS := St.start w0
 unfold wcet_Proves.f at h
 refine calls_enter (n := 66) (args := [.slice A0 l0.length c0, .agg #[vI x1_0, .slice A1_1 l1_1.length c1_1]]) (fn := Try.f9) rfl rfl rfl rfl ?_
 show WE _ _ _ _ [(0, .slice A0 l0.length c0), (1, .agg #[vI x1_0, .slice A1_1 l1_1.length c1_1])] _
 refine ws fun K1 hK1 => ?_
 refine wr [(0, 1), (1, 0)] ?_
 refine gw (some 3) (.cells #[vI x1_0, .slice A1_1 l1_1.length c1_1] 26) (fun b => pP b 0) hS fun b1 w1 hx1 hS1 => ?_
 refine gb0 [1] [(4, .bool false)] ?_
 refine gn hK1 ?_
 refine ws fun K2 hK2 => ?_
 refine wr [(0, 0), (1, 1), (2, 0), (3, 0), (4, 0), (5, 1), (6, 1), (7, 2), (8, 2)] ?_
 rcases hq1 : mach_Look.f K l0 with _ | r1
 ·rw [hq1] at h; cases h
 rw [hq1] at h
 simp only [] at h
 refine gb0 [0] [(11, .slice A0 l0.length c0)] ?_
 refine ge_call (d := some 12) (f := 22) (args := #[.slice A0 l0.length c0]) (by kernel_rfl) (mach_Look_ok K l0 A0 c0 _ (hS1.rd hR0) hL0 _ hq1) ?_
 rintro _ w2 ⟨v1, m1, rfl, hS2⟩
 refine ⟨_, rfl, hS2.below, ?_⟩
 have hS3 := hS1.call hS2
 refine gb0 [2, 3, 4] [(14, .agg #[vI r1.2.Code, vI r1.2.At]), (13, .agg #[v1, .map m1]), (10, .tuple #[.agg #[v1, .map m1], .agg #[vI r1.2.Code, vI r1.2.At]])] ?_
 refine gw (some 5) (.cells #[.slice none 0 0, .map none] 60) (fun b => pP b 0) hS3 fun b2 w3 hx2 hS4 => ?_
 refine gw (some 6) (.cells #[vI 0, vI 0] 29) (fun b => pP b 0) hS4 fun b3 w4 hx3 hS5 => ?_
 obtain ⟨Z1, cz1, rfl⟩ := hS5.open 2 rfl
 have hS6 := hS5.bring 1 rfl
 refine gs b2 0 #[.slice none 0 0, .map none] 60 [(.slice Z1 r1.1.In.length cz1), .map m1] hS6 fun w5 hS7 => ?_
 have hS8 : St w0 w5 [Own.blk b2 (.cells #[(.slice Z1 r1.1.In.length cz1), .map m1] 60 (0, 0)), Own.blk b3 (.cells #[vI 0, vI 0] 29 (0, 0)), Own.of (.slice Z1 r1.1.In.length cz1) 3 r1.1.In, Own.mapv (κ := Int) (ν := Int) m1 r1.1.Close, Own.blk b1 (.cells #[vI x1_0, .slice A1_1 l1_1.length c1_1] 26 (0, 0))] := hS7
 have hS9 := hS8.bring 1 rfl
 refine gs b3 0 #[vI 0, vI 0] 29 [vI r1.2.Code, vI r1.2.At] hS9 fun w6 hS10 => ?_
 have hS11 : St w0 w6 [Own.blk b3 (.cells #[vI r1.2.Code, vI r1.2.At] 29 (0, 0)), Own.blk b2 (.cells #[(.slice Z1 r1.1.In.length cz1), .map m1] 60 (0, 0)), Own.of (.slice Z1 r1.1.In.length cz1) 3 r1.1.In, Own.mapv (κ := Int) (ν := Int) m1 r1.1.Close, Own.blk b1 (.cells #[vI x1_0, .slice A1_1 l1_1.length c1_1] 26 (0, 0))] := hS10
 refine gn hK2 ?_
 refine ws fun K3 hK3 => ?_
 rcases hq2 : wcet_Proves.p0 l0 l1_1 r1 with _ | (_ | rr3)
 ·rw [hq2] at h; cases h
 ·rw [hq2] at h
  simp only [] at h
  refine we_keep (e' := [(0, .slice A0 l0.length c0), (1, .agg #[vI x1_0, .slice A1_1 l1_1.length c1_1]), (3, pP b1 0), (4, .bool false), (5, pP b2 0), (6, pP b3 0), (10, .tuple #[.agg #[(.slice Z1 r1.1.In.length cz1), .map m1], .agg #[vI r1.2.Code, vI r1.2.At]]), (11, .slice A0 l0.length c0), (12, .tuple #[.agg #[(.slice Z1 r1.1.In.length cz1), .map m1], .agg #[vI r1.2.Code, vI r1.2.At]]), (13, .agg #[(.slice Z1 r1.1.In.length cz1), .map m1]), (14, .agg #[vI r1.2.Code, vI r1.2.At])]) ea (wcet_Proves_p0 K w0 l0 A0 c0 x1_0 l1_1 A1_1 c1_1 hR0 hL0 hR1_1 hL1_1 b1 r1 m1 b2 b3 Z1 cz1 _ hq2 _ hS11 _ ?_)
  rintro _ a w7 ⟨rfl, hS19, hF⟩
  replace hS19 : St w0 w7 [Own.blk b2 (.cells #[(.slice Z1 r1.1.In.length cz1), .map m1] 60 (0, 0)), Own.blk b1 (.cells #[vI x1_0, .slice A1_1 l1_1.length c1_1] 26 (0, 0)), Own.of (.slice Z1 r1.1.In.length cz1) 3 r1.1.In, Own.mapv (κ := Int) (ν := Int) m1 r1.1.Close] := hS19
  refine hK3 [(0, .slice A0 l0.length c0), (3, pP b1 0), (5, pP b2 0)] w7 ?_ a hF
  refine ws fun K7 hK7 => ?_
  refine ws fun K8 hK8 => ?_
  refine wr [(0, 0), (1, 0), (2, 0), (3, 0)] ?_
  refine gb [0, 1, 2, 3] [(29, vI 0), (28, vI (l1_1.length : Int)), (27, .slice A1_1 l1_1.length c1_1), (26, pP b1 1)] [.loaded ⟨b1, 1, none⟩ (.slice A1_1 l1_1.length c1_1)] ⟨hS19.c 1, trivial⟩ ?_
  refine gn hK8 ?_
  refine we_block ?_
  have hS20 := hS19.bring 3 rfl
  have hS21 := hS20.bring 3 rfl
  have hS22 := hS21.bring 3 rfl
  have hS23 := hS22.bring 3 rfl
  rcases hq3 : iter (wcet_Proves.r1 l1_1) K 0 with _ | (_ | rr2)
  ·rw [hq3] at h; cases h
  ·rw [hq3] at h
   simp only [] at h
   refine we_iter (A := wcet_Proves.A1 w0 l0 A0 c0 x1_0 l1_1 A1_1 c1_1 b1 r1 m1 b2 Z1 cz1) (B := wcet_Proves.B1 w0 l0 A0 c0 x1_0 l1_1 A1_1 c1_1 b1 r1 m1 b2 Z1 cz1) hq3 (fun a hF => ⟨hS23, hF.weaken ea⟩) (fun s o hf a w hA Q hQ => wcet_Proves_r1 K w0 l0 A0 c0 x1_0 l1_1 A1_1 c1_1 hR0 hL0 hR1_1 hL1_1 b1 r1 m1 b2 b3 Z1 cz1 s o hf a w hA Q hQ) ?_
   rintro _ a w8 _ ⟨rfl, hS34, hF⟩
   replace hS34 : St w0 w8 [Own.blk b2 (.cells #[(.slice Z1 r1.1.In.length cz1), .map m1] 60 (0, 0)), Own.blk b1 (.cells #[vI x1_0, .slice A1_1 l1_1.length c1_1] 26 (0, 0)), Own.of (.slice Z1 r1.1.In.length cz1) 3 r1.1.In, Own.mapv (κ := Int) (ν := Int) m1 r1.1.Close] := hS34
   refine hK7 [(0, .slice A0 l0.length c0), (3, pP b1 0), (5, pP b2 0)] w8 ?_ a hF
   refine ws fun K16 hK16 => ?_
   refine ws fun K17 hK17 => ?_
   refine wr [(0, 0), (1, 0), (2, 0)] ?_
   refine gb0 [0, 1, 2] [(42, vI 0), (41, vI (l0.length : Int)), (40, .slice A0 l0.length c0)] ?_
   refine gn hK17 ?_
   refine we_block ?_
   have hS35 := hS34.bring 3 rfl
   have hS36 := hS35.bring 3 rfl
   have hS37 := hS36.bring 3 rfl
   have hS38 := hS37.bring 3 rfl
   rcases hq5 : iter (wcet_Proves.r2 l0 l1_1 r1) K 0 with _ | (_ | rr1)
   ·rw [hq5] at h; cases h
   ·rw [hq5] at h
    simp only [] at h
    refine we_iter (A := wcet_Proves.A2 w0 l0 A0 c0 x1_0 l1_1 A1_1 c1_1 b1 r1 m1 b2 Z1 cz1) (B := wcet_Proves.B2 w0 x1_0 l1_1 A1_1 c1_1 b1) hq5 (fun a hF => ⟨hS38, hF.weaken ea⟩) (fun s o hf a w hA Q hQ => wcet_Proves_r2 K w0 l0 A0 c0 x1_0 l1_1 A1_1 c1_1 hR0 hL0 hR1_1 hL1_1 b1 r1 m1 b2 b3 Z1 cz1 s o hf a w hA Q hQ) ?_
    rintro _ a w11 _ ⟨rfl, hS52, hF⟩
    replace hS52 : St w0 w11 [Own.blk b1 (.cells #[vI x1_0, .slice A1_1 l1_1.length c1_1] 26 (0, 0))] := hS52
    refine hK16 [(3, pP b1 0)] w11 ?_ a hF
    refine ws fun K24 hK24 => ?_
    refine we_draws (by kernel_rfl) [(0, 0), (1, 0), (2, 0), (3, 0), (4, 1), (5, 1), (6, 0), (7, 0)] (by kernel_rfl) ?_
    have hS53 := hS52.drew
    refine gb [0, 1, 2, 3] [(62, .slice A1_1 l1_1.length c1_1), (61, pP b1 1), (60, vI x1_0), (59, pP b1 0)] [.loaded ⟨b1, 0, none⟩ (vI x1_0), .loaded ⟨b1, 1, none⟩ (.slice A1_1 l1_1.length c1_1)] ⟨hS53.c 0, hS53.c 0, trivial⟩ ?_
    refine ge_call (d := some 63) (f := 24) (args := #[.slice A1_1 l1_1.length c1_1]) (by kernel_rfl) (wcet_at_ok l1_1 A1_1 c1_1 _ (hS53.rd hR1_1) hL1_1) ?_
    rintro _ w12 ⟨b5, rfl, hS54⟩
    refine ⟨_, rfl, hS54.below, ?_⟩
    have hS55 := hS53.call hS54
    rcases hq6 : wcet_at_1.f 0 l1_1 with _ | r3
    ·rw [hq6] at h; cases h
    rw [hq6] at h
    simp only [] at h
    refine ge_call (d := some 64) (f := 43) (args := #[vI 0, pP b5 0]) (by kernel_rfl) (wcet_at_1_ok 0 b5 l1_1 A1_1 c1_1 _ (hS55.rd hR1_1) hL1_1 (hS55.globOf 0 rfl) _ hq6) ?_
    rintro _ w13 ⟨rfl, hS56⟩
    refine ⟨_, rfl, hS56.below, ?_⟩
    have hS57 := hS55.call hS56
    refine gb0 [6, 7] [(4, .bool (decide (x1_0 ≥ r3))), (65, .bool (decide (x1_0 ≥ r3)))] ?_
    refine gn hK24 ?_
    have hS58 := hS57.takeN 0
    obtain rfl := si h
    exact we_ret (pr0 [.tmp 4] [.bool (decide (x1_0 ≥ r3))] ⟨rfl, hS58⟩)
   ·rw [hq5] at h
    simp only [] at h
    refine we_iter (A := wcet_Proves.A2 w0 l0 A0 c0 x1_0 l1_1 A1_1 c1_1 b1 r1 m1 b2 Z1 cz1) (B := wcet_Proves.B2 w0 x1_0 l1_1 A1_1 c1_1 b1) hq5 (fun a hF => ⟨hS38, hF.weaken ea⟩) (fun s o hf a w hA Q hQ => wcet_Proves_r2 K w0 l0 A0 c0 x1_0 l1_1 A1_1 c1_1 hR0 hL0 hR1_1 hL1_1 b1 r1 m1 b2 b3 Z1 cz1 s o hf a w hA Q hQ) ?_
    rintro _ a w1 _ ⟨rfl, hb⟩
    obtain rfl := si h
    exact hb
  ·rw [hq3] at h
   simp only [] at h
   refine we_iter (A := wcet_Proves.A1 w0 l0 A0 c0 x1_0 l1_1 A1_1 c1_1 b1 r1 m1 b2 Z1 cz1) (B := wcet_Proves.B1 w0 l0 A0 c0 x1_0 l1_1 A1_1 c1_1 b1 r1 m1 b2 Z1 cz1) hq3 (fun a hF => ⟨hS23, hF.weaken ea⟩) (fun s o hf a w hA Q hQ => wcet_Proves_r1 K w0 l0 A0 c0 x1_0 l1_1 A1_1 c1_1 hR0 hL0 hR1_1 hL1_1 b1 r1 m1 b2 b3 Z1 cz1 s o hf a w hA Q hQ) ?_
   rintro _ a w1 _ ⟨rfl, hb⟩
   obtain rfl := si h
   exact hb
 ·rw [hq2] at h
  simp only [] at h
  refine we_keep (e' := [(0, .slice A0 l0.length c0), (1, .agg #[vI x1_0, .slice A1_1 l1_1.length c1_1]), (3, pP b1 0), (4, .bool false), (5, pP b2 0), (6, pP b3 0), (10, .tuple #[.agg #[(.slice Z1 r1.1.In.length cz1), .map m1], .agg #[vI r1.2.Code, vI r1.2.At]]), (11, .slice A0 l0.length c0), (12, .tuple #[.agg #[(.slice Z1 r1.1.In.length cz1), .map m1], .agg #[vI r1.2.Code, vI r1.2.At]]), (13, .agg #[(.slice Z1 r1.1.In.length cz1), .map m1]), (14, .agg #[vI r1.2.Code, vI r1.2.At])]) ea (wcet_Proves_p0 K w0 l0 A0 c0 x1_0 l1_1 A1_1 c1_1 hR0 hL0 hR1_1 hL1_1 b1 r1 m1 b2 b3 Z1 cz1 _ hq2 _ hS11 _ ?_)
  rintro _ a w1 ⟨_, rfl, hb⟩
  obtain rfl := si h
  exact hb
end Go.Proofs.Ytgpolejhaglddaa.GV
