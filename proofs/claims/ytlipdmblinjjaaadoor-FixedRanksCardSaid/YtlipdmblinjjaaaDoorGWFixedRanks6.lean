/- Walks of single functions, written by a program of this work. -/
import Derived.Test.YtlipdmblinjjaaaDoorGWFixedRanks5
namespace Go.Proofs.YtlipdmblinjjaaaDoor.GV
open Go Go.RowKit
set_option linter.unusedVariables false
set_option linter.unusedSimpArgs false
set_option maxRecDepth 100000

/-! punctual/punctuallaw.FixedRanks -/
abbrev FixedRanks.Post (w0 : World) (r : Bool) (e : Ending) (w : World) : Prop := e = .returned (.bool r) ∧ St w0 w []
def FixedRanks.p0 (r1 : (List STask) × SFault) : Option (Unit ⊕ Bool) :=
  if r1.2.Code = 0 then
   if (r1.1.length : Int) = 2 then
    match r1.1[0]? with
    | none => none
    | some e1 =>
     if e1.P = 1 then
      match r1.1[1]? with
      | none => none
      | some e2 =>
       if e2.P = 2 then
        some (.inl ())
       else
        some (.inr false)
     else
      some (.inr false)
   else
    some (.inr false)
  else
   some (.inr false)
def FixedRanks.p1 (l0 : List STask) (l1 : List Int) : Option (Unit ⊕ Bool) :=
  if (few.f (l0.length : Int)) = true then
   if (few.f (l1.length : Int)) = true then
    some (.inl ())
   else
    some (.inr true)
  else
   some (.inr true)
def FixedRanks.r2 (K : Nat) (l0 : List STask) (l1 : List Int) : Nat → Option (Nat ⊕ (Unit ⊕ Bool))
 | i1 =>
  if (i1 : Int) < 2 then
   match fixed_Rates.f K l0 with
   | none => none
   | some r4 =>
    match punctualref_Ranked.f K l0 with
    | none => none
    | some r5 =>
     if (SFault.eqb r4.2 r5.2) = true then
      match punctualsame_Same_api_Task.f K r4.1 r5.1 with
      | none => none
      | some r6 =>
       if r6 = true then
        match fixed_Deadlines.f K l0 with
        | none => none
        | some r7 =>
         match punctualref_Ranked_1.f K l0 with
         | none => none
         | some r8 =>
          if (SFault.eqb r7.2 r8.2) = true then
           match punctualsame_Same_api_Task.f K r7.1 r8.1 with
           | none => none
           | some r9 =>
            if r9 = true then
             match fixed_Assign.f K l0 l1 with
             | none => none
             | some r10 =>
              match punctualref_Assigned.f K l0 l1 with
              | none => none
              | some r11 =>
               if (SFault.eqb r10.2 r11.2) = true then
                match punctualsame_Same_api_Task.f K r10.1 r11.1 with
                | none => none
                | some r12 =>
                 if r12 = true then
                  some (.inl (i1 + 1))
                 else
                  some (.inr (.inr false))
               else
                some (.inr (.inr false))
            else
             some (.inr (.inr false))
          else
           some (.inr (.inr false))
       else
        some (.inr (.inr false))
     else
      some (.inr (.inr false))
  else
   some (.inr (.inl ()))
def FixedRanks.f (K : Nat) (l0 : List STask) (l1 : List Int) : Option Bool :=
 match fixed_Rates.f K ([(⟨⟨#[97]⟩, 1, 9, 9, 0, 0, 0⟩ : STask), (⟨⟨#[98]⟩, 1, 5, 5, 0, 0, 0⟩ : STask)] : List STask) with
 | none => none
 | some r1 =>
  match FixedRanks.p0 r1 with
  | none => none
  | some (.inl _) =>
   match FixedRanks.p1 l0 l1 with
   | none => none
   | some (.inl _) =>
    match punctualsame_Lend_api_Task.f l0 (⟨⟨#[63]⟩, (-9), 0, 0, 0, 0, 0⟩ : STask) with
    | none => none
    | some _ =>
     match punctualsame_Lend_int.f l1 (-9) with
     | none => none
     | some _ =>
      match iter (FixedRanks.r2 K l0 l1) K 0 with
      | none => none
      | some (.inl _) =>
       match punctualsame_Still_api_Task.f K (l0 ++ [(⟨⟨#[63]⟩, (-9), 0, 0, 0, 0, 0⟩ : STask), (⟨⟨#[63]⟩, (-9), 0, 0, 0, 0, 0⟩ : STask), (⟨⟨#[63]⟩, (-9), 0, 0, 0, 0, 0⟩ : STask)]) l0 (⟨⟨#[63]⟩, (-9), 0, 0, 0, 0, 0⟩ : STask) with
       | none => none
       | some r13 =>
        if r13 = true then
         match punctualsame_Still_int.f K (l1 ++ [(-9), (-9), (-9)]) l1 (-9) with
         | none => none
         | some r14 =>
          some r14
        else
         some false
      | some (.inr rr1) =>
       some rr1
   | some (.inr rr2) =>
    some rr2
  | some (.inr rr3) =>
   some rr3
abbrev FixedRanks.A0 (w0 : World) (l0 : List STask) (A0 : Option Addr) (c0 : Nat) (l1 : List Int) (A1 : Option Addr) (c1 : Nat) : Unit → Act → World → Prop := fun (s : Unit) a w => St w0 w [] ∧ Frm 134 a [(0, .slice A0 l0.length c0), (1, .slice A1 l1.length c1)]
abbrev FixedRanks.B0 (w0 : World) : Bool → Exit → Act → World → Prop := Rets Tryd.prog Tryd.f9 (FixedRanks.Post w0)
theorem FixedRanks_p0 (K : Nat) (w0 : World) (l0 : List STask) (A0 : Option Addr) (c0 : Nat) (l1 : List Int) (A1 : Option Addr) (c1 : Nat) (hR0 : RdL w0 A0 l0) (hL0 : l0.length ≤ c0) (hR1 : RdL w0 A1 l1) (hL1 : l1.length ≤ c1) (hG1 : Glob w0 1 [.string (⟨#[63]⟩), vI (-9), vI 0, vI 0, vI 0, vI 0, vI 0]) (b1 : Nat) (r1 : (List STask) × SFault) (b2 : Nat) (Z1 : Option Addr) (cz1 : Nat) (o : Unit ⊕ Bool) (h : FixedRanks.p0 r1 = some o) (w : World) (hS : St w0 w [Own.blk b2 (.cells #[vI r1.2.Code, vI r1.2.At] 26 (0, 0)), Own.of (.slice Z1 r1.1.length cz1) 46 r1.1, Own.blk b1 (.cells #[.string (⟨#[97]⟩), vI 1, vI 9, vI 9, vI 0, vI 0, vI 0, .string (⟨#[98]⟩), vI 1, vI 5, vI 5, vI 0, vI 0, vI 0] 46 (0, 0))]) (Q : Exit → Act → World → Prop) (hQ : ∀ x a w, Outs (FixedRanks.A0 w0 l0 A0 c0 l1 A1 c1) (FixedRanks.B0 w0) o x a w → Q x a w) : WE Tryd.prog 134 (subF Tryd.f9 [1, 1, 0]) Q [(0, .slice A0 l0.length c0), (1, .slice A1 l1.length c1), (4, .bool false), (5, (.slice Z1 r1.1.length cz1)), (6, pP b2 0), (13, .tuple #[(.slice Z1 r1.1.length cz1), .agg #[vI r1.2.Code, vI r1.2.At]]), (14, .agg #[.string (⟨#[97]⟩), vI 1, vI 9, vI 9, vI 0, vI 0, vI 0]), (15, .agg #[.string (⟨#[98]⟩), vI 1, vI 5, vI 5, vI 0, vI 0, vI 0]), (16, .slice (some ⟨b1, 0, none⟩) 2 2), (17, .tuple #[(.slice Z1 r1.1.length cz1), .agg #[vI r1.2.Code, vI r1.2.At]]), (18, (.slice Z1 r1.1.length cz1)), (19, .agg #[vI r1.2.Code, vI r1.2.At])] w := by
 simp only [FixedRanks.p0] at h
 refine ws fun K4 hK4 => ?_
 refine wr [(0, 0), (1, 0), (2, 0), (3, 0), (4, 0), (5, 0), (6, 0), (7, 0), (8, 0), (9, 0), (10, 0), (11, 0), (12, 0), (13, 0), (14, 0), (15, 0), (16, 0), (17, 0), (18, 0), (19, 0), (20, 0), (21, 0)] ?_
 refine gb [0, 1, 2, 3] [(23, .bool (r1.2.Code != 0)), (22, .bool (r1.2.Code != 0)), (21, vI r1.2.Code), (20, pP b2 0)] [.loaded ⟨b2, 0, none⟩ (vI r1.2.Code)] ⟨hS.c 0, trivial⟩ ?_
 by_cases hc1 : r1.2.Code = 0
 ·rw [if_pos hc1] at h
  refine gk 23 (r1.2.Code != 0) false (bne_eq_false_iff_eq.2 hc1) ?_
  refine gb0 [4, 5, 6, 7, 8] [(28, .bool ((r1.1.length : Int) != 2)), (27, .bool ((r1.1.length : Int) != 2)), (26, .bool ((r1.1.length : Int) != 2)), (25, vI (r1.1.length : Int)), (24, (.slice Z1 r1.1.length cz1))] ?_
  by_cases hc2 : (r1.1.length : Int) = 2
  ·rw [if_pos hc2] at h
   refine gk 28 ((r1.1.length : Int) != 2) false (bne_eq_false_iff_eq.2 hc2) ?_
   refine gb0 [9] [(29, (.slice Z1 r1.1.length cz1))] ?_
   rcases hx3 : r1.1[0]? with _ | e1
   ·rw [hx3] at h; cases h
   rw [hx3] at h
   simp only [] at h
   refine gi 30 0 40 46 7 r1.1.length cz1 (.tmp 29) (.const (vI 0)) Z1 .i64 0 0 ((hS.rdAt 1 rfl).eqSome (pos_of_get hx3)) rfl (lt_of_get hx3) ?_
   refine gb [11, 12, 13, 14, 15] [(35, .bool (e1.P != 1)), (34, .bool (e1.P != 1)), (33, .bool (e1.P != 1)), (32, vI e1.P), (31, .pointer (some ⟨blkOf Z1, offOf Z1 + 0 * 7 + 6, none⟩))] [.loaded ⟨blkOf Z1, offOf Z1 + 0 * 7 + 6, none⟩ (vI e1.P)] ⟨RdL.cell (j := 6) (hS.rdAt 1 rfl) hx3 rfl, trivial⟩ ?_
   by_cases hc3 : e1.P = 1
   ·rw [if_pos hc3] at h
    refine gk 35 (e1.P != 1) false (bne_eq_false_iff_eq.2 hc3) ?_
    refine gb0 [16] [(36, (.slice Z1 r1.1.length cz1))] ?_
    rcases hx4 : r1.1[1]? with _ | e2
    ·rw [hx4] at h; cases h
    rw [hx4] at h
    simp only [] at h
    refine gi 37 0 40 46 7 r1.1.length cz1 (.tmp 36) (.const (vI 1)) Z1 .i64 1 1 ((hS.rdAt 1 rfl).eqSome (pos_of_get hx4)) rfl (lt_of_get hx4) ?_
    refine gb [18, 19, 20, 21] [(41, .bool (e2.P != 2)), (40, .bool (e2.P != 2)), (39, vI e2.P), (38, .pointer (some ⟨blkOf Z1, offOf Z1 + 1 * 7 + 6, none⟩))] [.loaded ⟨blkOf Z1, offOf Z1 + 1 * 7 + 6, none⟩ (vI e2.P)] ⟨RdL.cell (j := 6) (hS.rdAt 1 rfl) hx4 rfl, trivial⟩ ?_
    refine gn hK4 ?_
    by_cases hc4 : e2.P = 2
    ·rw [if_pos hc4] at h
     refine wk 41 (e2.P != 2) false (bne_eq_false_iff_eq.2 hc4) ?_
     refine we_false (by kernel_rfl) ?_
     have hS7 := hS.takeN 0
     obtain rfl := si h
     exact we_skip fun a hF => hQ _ _ _ (Outs.again ⟨hS7, hF.weaken ea⟩)
    ·rw [if_neg hc4] at h
     refine wk 41 (e2.P != 2) true (bne_iff_ne.2 hc4) ?_
     refine we_true (by kernel_rfl) ?_
     refine ws fun K5 hK5 => ?_
     refine wr [(0, 0)] ?_
     refine gb0 [0] [(4, .bool false)] ?_
     refine gn hK5 ?_
     have hS8 := hS.takeN 0
     obtain rfl := si h
     exact we_ret fun a hF => hQ _ _ _ (Outs.out nofun ⟨rfl, (pr0 [.tmp 4] [.bool false] ⟨rfl, hS8⟩) a hF⟩)
   ·rw [if_neg hc3] at h
    refine gk 35 (e1.P != 1) true (bne_iff_ne.2 hc3) ?_
    refine gb0 [16, 17, 18, 19, 20, 21] [(41, .bool true), (40, undef), (39, undef), (38, undef), (37, undef), (36, undef)] ?_
    refine gn hK4 ?_
    refine we_true (by kernel_rfl) ?_
    refine ws fun K6 hK6 => ?_
    refine wr [(0, 0)] ?_
    refine gb0 [0] [(4, .bool false)] ?_
    refine gn hK6 ?_
    have hS9 := hS.takeN 0
    obtain rfl := si h
    exact we_ret fun a hF => hQ _ _ _ (Outs.out nofun ⟨rfl, (pr0 [.tmp 4] [.bool false] ⟨rfl, hS9⟩) a hF⟩)
  ·rw [if_neg hc2] at h
   refine gk 28 ((r1.1.length : Int) != 2) true (bne_iff_ne.2 hc2) ?_
   refine gb0 [9, 10, 11, 12, 13, 14, 15, 16, 17, 18, 19, 20, 21] [(41, .bool true), (40, undef), (39, undef), (38, undef), (37, undef), (36, undef), (35, .bool true), (34, .bool true), (33, undef), (32, undef), (31, undef), (30, undef), (29, undef)] ?_
   refine gn hK4 ?_
   refine we_true (by kernel_rfl) ?_
   refine ws fun K7 hK7 => ?_
   refine wr [(0, 0)] ?_
   refine gb0 [0] [(4, .bool false)] ?_
   refine gn hK7 ?_
   have hS10 := hS.takeN 0
   obtain rfl := si h
   exact we_ret fun a hF => hQ _ _ _ (Outs.out nofun ⟨rfl, (pr0 [.tmp 4] [.bool false] ⟨rfl, hS10⟩) a hF⟩)
 ·rw [if_neg hc1] at h
  refine gk 23 (r1.2.Code != 0) true (bne_iff_ne.2 hc1) ?_
  refine gb0 [4, 5, 6, 7, 8, 9, 10, 11, 12, 13, 14, 15, 16, 17, 18, 19, 20, 21] [(41, .bool true), (40, undef), (39, undef), (38, undef), (37, undef), (36, undef), (35, .bool true), (34, .bool true), (33, undef), (32, undef), (31, undef), (30, undef), (29, undef), (28, .bool true), (27, .bool true), (26, undef), (25, undef), (24, undef)] ?_
  refine gn hK4 ?_
  refine we_true (by kernel_rfl) ?_
  refine ws fun K8 hK8 => ?_
  refine wr [(0, 0)] ?_
  refine gb0 [0] [(4, .bool false)] ?_
  refine gn hK8 ?_
  have hS11 := hS.takeN 0
  obtain rfl := si h
  exact we_ret fun a hF => hQ _ _ _ (Outs.out nofun ⟨rfl, (pr0 [.tmp 4] [.bool false] ⟨rfl, hS11⟩) a hF⟩)
abbrev FixedRanks.A1 (w0 : World) (l0 : List STask) (A0 : Option Addr) (c0 : Nat) (l1 : List Int) (A1 : Option Addr) (c1 : Nat) : Unit → Act → World → Prop := fun (s : Unit) a w => St w0 w [] ∧ Frm 134 a [(0, .slice A0 l0.length c0), (1, .slice A1 l1.length c1)]
abbrev FixedRanks.B1 (w0 : World) : Bool → Exit → Act → World → Prop := Rets Tryd.prog Tryd.f9 (FixedRanks.Post w0)
theorem FixedRanks_p1 (K : Nat) (w0 : World) (l0 : List STask) (A0 : Option Addr) (c0 : Nat) (l1 : List Int) (A1 : Option Addr) (c1 : Nat) (hR0 : RdL w0 A0 l0) (hL0 : l0.length ≤ c0) (hR1 : RdL w0 A1 l1) (hL1 : l1.length ≤ c1) (hG1 : Glob w0 1 [.string (⟨#[63]⟩), vI (-9), vI 0, vI 0, vI 0, vI 0, vI 0]) (b1 : Nat) (r1 : (List STask) × SFault) (b2 : Nat) (Z1 : Option Addr) (cz1 : Nat) (o : Unit ⊕ Bool) (h : FixedRanks.p1 l0 l1 = some o) (w : World) (hS : St w0 w []) (Q : Exit → Act → World → Prop) (hQ : ∀ x a w, Outs (FixedRanks.A1 w0 l0 A0 c0 l1 A1 c1) (FixedRanks.B1 w0) o x a w → Q x a w) : WE Tryd.prog 134 (subF Tryd.f9 [1, 1, 1, 0]) Q [(0, .slice A0 l0.length c0), (1, .slice A1 l1.length c1)] w := by
 simp only [FixedRanks.p1] at h
 refine ws fun K10 hK10 => ?_
 refine wr [(0, 0), (1, 0), (2, 1), (3, 0), (4, 0), (5, 0), (6, 0), (7, 1), (8, 0), (9, 0)] ?_
 refine gb0 [0, 1] [(43, vI (l0.length : Int)), (42, .slice A0 l0.length c0)] ?_
 refine ge_call (d := some 44) (f := 13) (args := #[vI (l0.length : Int)]) (by kernel_rfl) (few_ok (l0.length : Int) _ _ rfl) ?_
 rintro _ w6 ⟨rfl, hS13⟩
 refine ⟨_, rfl, hS13.below, ?_⟩
 have hS14 := hS.call hS13
 refine gb0 [3, 4] [(46, .bool (!(few.f (l0.length : Int)))), (45, .bool (!(few.f (l0.length : Int))))] ?_
 by_cases hc5 : (few.f (l0.length : Int)) = true
 ·rw [if_pos hc5] at h
  refine gk 46 (!(few.f (l0.length : Int))) false (congrArg (fun z => !z) hc5) ?_
  refine gb0 [5, 6] [(48, vI (l1.length : Int)), (47, .slice A1 l1.length c1)] ?_
  refine ge_call (d := some 49) (f := 13) (args := #[vI (l1.length : Int)]) (by kernel_rfl) (few_ok (l1.length : Int) _ _ rfl) ?_
  rintro _ w7 ⟨rfl, hS15⟩
  refine ⟨_, rfl, hS15.below, ?_⟩
  have hS16 := hS14.call hS15
  refine gb0 [8, 9] [(51, .bool (!(few.f (l1.length : Int)))), (50, .bool (!(few.f (l1.length : Int))))] ?_
  refine gn hK10 ?_
  by_cases hc6 : (few.f (l1.length : Int)) = true
  ·rw [if_pos hc6] at h
   refine wk 51 (!(few.f (l1.length : Int))) false (congrArg (fun z => !z) hc6) ?_
   refine we_false (by kernel_rfl) ?_
   obtain rfl := si h
   exact we_skip fun a hF => hQ _ _ _ (Outs.again ⟨hS16, hF.weaken ea⟩)
  ·rw [if_neg hc6] at h
   refine wk 51 (!(few.f (l1.length : Int))) true (congrArg (fun z => !z) (Bool.eq_false_iff.2 hc6)) ?_
   refine we_true (by kernel_rfl) ?_
   refine ws fun K11 hK11 => ?_
   refine wr [(0, 0)] ?_
   refine gb0 [0] [(4, .bool true)] ?_
   refine gn hK11 ?_
   obtain rfl := si h
   exact we_ret fun a hF => hQ _ _ _ (Outs.out nofun ⟨rfl, (pr0 [.tmp 4] [.bool true] ⟨rfl, hS16⟩) a hF⟩)
 ·rw [if_neg hc5] at h
  refine gk 46 (!(few.f (l0.length : Int))) true (congrArg (fun z => !z) (Bool.eq_false_iff.2 hc5)) ?_
  refine gb0 [5, 6] [(48, undef), (47, undef)] ?_
  refine ge_off rfl rfl rfl (by kernel_rfl) ?_
  refine gb0 [8, 9] [(51, .bool true), (50, undef)] ?_
  refine gn hK10 ?_
  refine we_true (by kernel_rfl) ?_
  refine ws fun K12 hK12 => ?_
  refine wr [(0, 0)] ?_
  refine gb0 [0] [(4, .bool true)] ?_
  refine gn hK12 ?_
  obtain rfl := si h
  exact we_ret fun a hF => hQ _ _ _ (Outs.out nofun ⟨rfl, (pr0 [.tmp 4] [.bool true] ⟨rfl, hS14⟩) a hF⟩)
abbrev FixedRanks.A2 (w0 : World) (l0 : List STask) (A0 : Option Addr) (c0 : Nat) (l1 : List Int) (A1 : Option Addr) (c1 : Nat) (Z2 : Option Addr) (cz2 : Nat) (Z3 : Option Addr) (cz3 : Nat) : Nat → Act → World → Prop := fun (s : Nat) a w => St w0 w [Own.of (.slice Z2 (l0 ++ [(⟨⟨#[63]⟩, (-9), 0, 0, 0, 0, 0⟩ : STask), (⟨⟨#[63]⟩, (-9), 0, 0, 0, 0, 0⟩ : STask), (⟨⟨#[63]⟩, (-9), 0, 0, 0, 0, 0⟩ : STask)]).length cz2) 46 (l0 ++ [(⟨⟨#[63]⟩, (-9), 0, 0, 0, 0, 0⟩ : STask), (⟨⟨#[63]⟩, (-9), 0, 0, 0, 0, 0⟩ : STask), (⟨⟨#[63]⟩, (-9), 0, 0, 0, 0, 0⟩ : STask)]), Own.of (.slice Z3 (l1 ++ [(-9), (-9), (-9)]).length cz3) 3 (l1 ++ [(-9), (-9), (-9)])] ∧ Frm 134 a [(0, .slice A0 l0.length c0), (1, .slice A1 l1.length c1), (7, .slice Z2 l0.length cz2), (8, .slice Z3 l1.length cz3), (57, vI (s : Int))]
abbrev FixedRanks.B2 (w0 : World) (l0 : List STask) (A0 : Option Addr) (c0 : Nat) (l1 : List Int) (A1 : Option Addr) (c1 : Nat) (Z2 : Option Addr) (cz2 : Nat) (Z3 : Option Addr) (cz3 : Nat) : (Unit ⊕ Bool) → Exit → Act → World → Prop := Exits 0 (fun (s : Unit) a w => St w0 w [Own.of (.slice Z2 (l0 ++ [(⟨⟨#[63]⟩, (-9), 0, 0, 0, 0, 0⟩ : STask), (⟨⟨#[63]⟩, (-9), 0, 0, 0, 0, 0⟩ : STask), (⟨⟨#[63]⟩, (-9), 0, 0, 0, 0, 0⟩ : STask)]).length cz2) 46 (l0 ++ [(⟨⟨#[63]⟩, (-9), 0, 0, 0, 0, 0⟩ : STask), (⟨⟨#[63]⟩, (-9), 0, 0, 0, 0, 0⟩ : STask), (⟨⟨#[63]⟩, (-9), 0, 0, 0, 0, 0⟩ : STask)]), Own.of (.slice Z3 (l1 ++ [(-9), (-9), (-9)]).length cz3) 3 (l1 ++ [(-9), (-9), (-9)])] ∧ Frm 134 a [(0, .slice A0 l0.length c0), (1, .slice A1 l1.length c1), (7, .slice Z2 l0.length cz2), (8, .slice Z3 l1.length cz3)]) (Rets Tryd.prog Tryd.f9 (FixedRanks.Post w0))
theorem FixedRanks_r2 (K : Nat) (w0 : World) (l0 : List STask) (A0 : Option Addr) (c0 : Nat) (l1 : List Int) (A1 : Option Addr) (c1 : Nat) (hR0 : RdL w0 A0 l0) (hL0 : l0.length ≤ c0) (hR1 : RdL w0 A1 l1) (hL1 : l1.length ≤ c1) (hG1 : Glob w0 1 [.string (⟨#[63]⟩), vI (-9), vI 0, vI 0, vI 0, vI 0, vI 0]) (b1 : Nat) (r1 : (List STask) × SFault) (b2 : Nat) (Z1 : Option Addr) (cz1 : Nat) (Z2 : Option Addr) (cz2 : Nat) (hcp1 : (l0 ++ [(⟨⟨#[63]⟩, (-9), 0, 0, 0, 0, 0⟩ : STask), (⟨⟨#[63]⟩, (-9), 0, 0, 0, 0, 0⟩ : STask), (⟨⟨#[63]⟩, (-9), 0, 0, 0, 0, 0⟩ : STask)]).length ≤ cz2) (Z3 : Option Addr) (cz3 : Nat) (hcp2 : (l1 ++ [(-9), (-9), (-9)]).length ≤ cz3) (s : Nat) (o : Nat ⊕ (Unit ⊕ Bool)) (h : FixedRanks.r2 K l0 l1 s = some o) (a : Act) (w : World) (hA : FixedRanks.A2 w0 l0 A0 c0 l1 A1 c1 Z2 cz2 Z3 cz3 s a w) (Q : Exit → Act → World → Prop) (hQ : ∀ x a w, Outs (FixedRanks.A2 w0 l0 A0 c0 l1 A1 c1 Z2 cz2 Z3 cz3) (FixedRanks.B2 w0 l0 A0 c0 l1 A1 c1 Z2 cz2 Z3 cz3) o x a w → Q x a w) : (subF Tryd.f9 [1, 1, 1, 1, 1, 0, 1, 0, 0]).wp Tryd.prog Q a w := by
 obtain ⟨i1, hs⟩ : ∃ z, z = s := ⟨s, rfl⟩
 subst hs
 obtain ⟨hS, hF⟩ := hA
 replace hS : St w0 w [Own.of (.slice Z2 (l0 ++ [(⟨⟨#[63]⟩, (-9), 0, 0, 0, 0, 0⟩ : STask), (⟨⟨#[63]⟩, (-9), 0, 0, 0, 0, 0⟩ : STask), (⟨⟨#[63]⟩, (-9), 0, 0, 0, 0, 0⟩ : STask)]).length cz2) 46 (l0 ++ [(⟨⟨#[63]⟩, (-9), 0, 0, 0, 0, 0⟩ : STask), (⟨⟨#[63]⟩, (-9), 0, 0, 0, 0, 0⟩ : STask), (⟨⟨#[63]⟩, (-9), 0, 0, 0, 0, 0⟩ : STask)]), Own.of (.slice Z3 (l1 ++ [(-9), (-9), (-9)]).length cz3) 3 (l1 ++ [(-9), (-9), (-9)])] := hS
 simp only [FixedRanks.r2] at h
 refine (?_ : WE Tryd.prog 134 (subF Tryd.f9 [1, 1, 1, 1, 1, 0, 1, 0, 0]) Q [(0, .slice A0 l0.length c0), (1, .slice A1 l1.length c1), (7, .slice Z2 l0.length cz2), (8, .slice Z3 l1.length cz3), (57, vI (i1 : Int))] w) a hF
 clear hF a
 refine ws fun K16 hK16 => ?_
 refine wr [(0, 0)] ?_
 refine gb0 [0] [(58, .bool (decide ((i1 : Int) < 2)))] ?_
 refine gn hK16 ?_
 refine ws fun K17 hK17 => ?_
 by_cases hc7 : (i1 : Int) < 2
 ·rw [if_pos hc7] at h
  refine wk 58 (decide ((i1 : Int) < 2)) true (decide_eq_true hc7) ?_
  refine we_true (by kernel_rfl) ?_
  refine we_skip fun a hF => hK17 _ _ ?_ a hF
  refine ws fun K18 hK18 => ?_
  refine we_block ?_
  refine ws fun K19 hK19 => ?_
  refine wr [(0, 0), (1, 1), (2, 0), (3, 0), (4, 0), (5, 1), (6, 0), (7, 2)] ?_
  rcases hq8 : fixed_Rates.f K l0 with _ | r4
  ·rw [hq8] at h; cases h
  rw [hq8] at h
  simp only [] at h
  refine gb0 [0] [(60, .slice Z2 l0.length cz2)] ?_
  refine ge_call (d := some 61) (f := 50) (args := #[.slice Z2 l0.length cz2]) (by kernel_rfl) (fixed_Rates_ok K l0 Z2 cz2 _ ((hS.rdAt 0 rfl).pre) (by have h0 := hcp1; simp only [List.length_append, List.length_cons, List.length_nil] at h0; omega) _ hq8) ?_
  rintro _ w11 ⟨v2, rfl, hS23⟩
  refine ⟨_, rfl, hS23.below, ?_⟩
  have hS24 := hS.call hS23
  refine gb0 [2, 3, 4] [(63, .agg #[vI r4.2.Code, vI r4.2.At]), (62, v2), (59, .tuple #[v2, .agg #[vI r4.2.Code, vI r4.2.At]])] ?_
  refine gw (some 10) (.cells #[vI 0, vI 0] 26) (fun b => pP b 0) hS24 fun b3 w12 hx5 hS25 => ?_
  refine gb0 [6] [(9, v2)] ?_
  refine gs b3 0 #[vI 0, vI 0] 26 [vI r4.2.Code, vI r4.2.At] hS25 fun w13 hS26 => ?_
  have hS27 : St w0 w13 [Own.blk b3 (.cells #[vI r4.2.Code, vI r4.2.At] 26 (0, 0)), Own.of v2 46 r4.1, Own.of (.slice Z2 (l0 ++ [(⟨⟨#[63]⟩, (-9), 0, 0, 0, 0, 0⟩ : STask), (⟨⟨#[63]⟩, (-9), 0, 0, 0, 0, 0⟩ : STask), (⟨⟨#[63]⟩, (-9), 0, 0, 0, 0, 0⟩ : STask)]).length cz2) 46 (l0 ++ [(⟨⟨#[63]⟩, (-9), 0, 0, 0, 0, 0⟩ : STask), (⟨⟨#[63]⟩, (-9), 0, 0, 0, 0, 0⟩ : STask), (⟨⟨#[63]⟩, (-9), 0, 0, 0, 0, 0⟩ : STask)]), Own.of (.slice Z3 (l1 ++ [(-9), (-9), (-9)]).length cz3) 3 (l1 ++ [(-9), (-9), (-9)])] := hS26
  refine gn hK19 ?_
  refine ws fun K20 hK20 => ?_
  refine wr [(0, 0), (1, 1), (2, 0), (3, 0), (4, 0), (5, 1), (6, 0), (7, 2)] ?_
  rcases hq9 : punctualref_Ranked.f K l0 with _ | r5
  ·rw [hq9] at h; cases h
  rw [hq9] at h
  simp only [] at h
  refine gb0 [0] [(65, .slice A0 l0.length c0)] ?_
  refine ge_call (d := some 66) (f := 51) (args := #[.slice A0 l0.length c0, .func (.func 52) #[] #[]]) (by kernel_rfl) (punctualref_Ranked_ok K l0 A0 c0 _ (hS27.rd hR0) hL0 _ hq9) ?_
  rintro _ w14 ⟨v3, rfl, hS28⟩
  refine ⟨_, rfl, hS28.below, ?_⟩
  have hS29 := hS27.call hS28
  refine gb0 [2, 3, 4] [(68, .agg #[vI r5.2.Code, vI r5.2.At]), (67, v3), (64, .tuple #[v3, .agg #[vI r5.2.Code, vI r5.2.At]])] ?_
  refine gw (some 12) (.cells #[vI 0, vI 0] 26) (fun b => pP b 0) hS29 fun b4 w15 hx6 hS30 => ?_
  refine gb0 [6] [(11, v3)] ?_
  refine gs b4 0 #[vI 0, vI 0] 26 [vI r5.2.Code, vI r5.2.At] hS30 fun w16 hS31 => ?_
  have hS32 : St w0 w16 [Own.blk b4 (.cells #[vI r5.2.Code, vI r5.2.At] 26 (0, 0)), Own.of v3 46 r5.1, Own.blk b3 (.cells #[vI r4.2.Code, vI r4.2.At] 26 (0, 0)), Own.of v2 46 r4.1, Own.of (.slice Z2 (l0 ++ [(⟨⟨#[63]⟩, (-9), 0, 0, 0, 0, 0⟩ : STask), (⟨⟨#[63]⟩, (-9), 0, 0, 0, 0, 0⟩ : STask), (⟨⟨#[63]⟩, (-9), 0, 0, 0, 0, 0⟩ : STask)]).length cz2) 46 (l0 ++ [(⟨⟨#[63]⟩, (-9), 0, 0, 0, 0, 0⟩ : STask), (⟨⟨#[63]⟩, (-9), 0, 0, 0, 0, 0⟩ : STask), (⟨⟨#[63]⟩, (-9), 0, 0, 0, 0, 0⟩ : STask)]), Own.of (.slice Z3 (l1 ++ [(-9), (-9), (-9)]).length cz3) 3 (l1 ++ [(-9), (-9), (-9)])] := hS31
  refine gn hK20 ?_
  refine ws fun K21 hK21 => ?_
  refine ws fun K22 hK22 => ?_
  refine wr [(0, 0), (1, 0), (2, 0), (3, 0), (4, 0), (5, 0), (6, 1), (7, 0), (8, 0)] ?_
  refine gb [0, 1] [(70, .agg #[vI r5.2.Code, vI r5.2.At]), (69, .agg #[vI r4.2.Code, vI r4.2.At])] [.loaded ⟨b3, 0, none⟩ (vI r4.2.Code), .loaded ⟨b3, 1, none⟩ (vI r4.2.At), .loaded ⟨b4, 0, none⟩ (vI r5.2.Code), .loaded ⟨b4, 1, none⟩ (vI r5.2.At)] ⟨hS32.c 2, hS32.c 2, hS32.c 0, hS32.c 0, trivial⟩ ?_
  refine ge_eqs (d := 71) (ty := 4) (op := .neq) (x := (.tmp 69)) (y := (.tmp 70)) (t := 26) (t2 := 26) (xs := #[vI r4.2.Code, vI r4.2.At]) (ys := #[vI r5.2.Code, vI r5.2.At]) (r := (SFault.eqb r4.2 r5.2)) (v := !(SFault.eqb r4.2 r5.2)) (by kernel_rfl) (by kernel_rfl) (by kernel_rfl) (by kernel_rfl) (by kernel_rfl) rfl ?_
  refine gb0 [3] [(72, .bool (!(SFault.eqb r4.2 r5.2)))] ?_
  by_cases hc8 : (SFault.eqb r4.2 r5.2) = true
  ·rw [if_pos hc8] at h
   refine gk 72 (!(SFault.eqb r4.2 r5.2)) false (congrArg (fun z => !z) hc8) ?_
   refine gb0 [4, 5] [(74, v3), (73, v2)] ?_
   obtain ⟨Z4, cz4, rfl⟩ := hS32.open 3 rfl
   obtain ⟨Z5, cz5, rfl⟩ := hS32.open 1 rfl
   rcases hq10 : punctualsame_Same_api_Task.f K r4.1 r5.1 with _ | r6
   ·rw [hq10] at h; cases h
   rw [hq10] at h
   simp only [] at h
   refine ge_call (d := some 75) (f := 53) (args := #[(.slice Z4 r4.1.length cz4), (.slice Z5 r5.1.length cz5)]) (by kernel_rfl) (punctualsame_Same_api_Task_ok K r4.1 Z4 cz4 r5.1 Z5 cz5 _ (hS32.rdAt 3 rfl) (hS32.capAt 3 rfl) (hS32.rdAt 1 rfl) (hS32.capAt 1 rfl) _ hq10) ?_
   rintro _ w17 ⟨rfl, hS33⟩
   refine ⟨_, rfl, hS33.below, ?_⟩
   have hS34 := hS32.call hS33
   refine gb0 [7, 8] [(77, .bool (!r6)), (76, .bool (!r6))] ?_
   refine gn hK22 ?_
   by_cases hc9 : r6 = true
   ·rw [if_pos hc9] at h
    refine wk 77 (!r6) false (congrArg (fun z => !z) hc9) ?_
    refine we_false (by kernel_rfl) ?_
    refine we_skip fun a hF => hK21 _ _ ?_ a hF
    refine ws fun K23 hK23 => ?_
    refine wr [(0, 0), (1, 2)] ?_
    refine gb0 [0] [(78, (.slice Z4 r4.1.length cz4))] ?_
    have hS35 := hS34.bring 3 rfl
    refine ge_call2 (m := 0) (d := some 79) (f := 54) (args := #[.slice Z4 r4.1.length cz4]) (by kernel_rfl) (punctualsame_Spoil_api_Task_ok _ _ Z4 r4.1.length cz4 _ hS35) ?_
    rintro _ w18 ⟨rfl, hS36⟩
    refine ⟨_, rfl, ?_⟩
    refine gn hK23 ?_
    refine ws fun K24 hK24 => ?_
    refine wr [(0, 0), (1, 1), (2, 0), (3, 0), (4, 0), (5, 0), (6, 2)] ?_
    rcases hq11 : fixed_Deadlines.f K l0 with _ | r7
    ·rw [hq11] at h; cases h
    rw [hq11] at h
    simp only [] at h
    refine gb0 [0] [(81, .slice Z2 l0.length cz2)] ?_
    refine ge_call (d := some 82) (f := 55) (args := #[.slice Z2 l0.length cz2]) (by kernel_rfl) (fixed_Deadlines_ok K l0 Z2 cz2 _ ((hS36.rdAt 3 rfl).pre) (by have h0 := hcp1; simp only [List.length_append, List.length_cons, List.length_nil] at h0; omega) _ hq11) ?_
    rintro _ w19 ⟨v4, rfl, hS37⟩
    refine ⟨_, rfl, hS37.below, ?_⟩
    have hS38 := hS36.call hS37
    refine gb0 [2, 3, 4, 5] [(9, v4), (84, .agg #[vI r7.2.Code, vI r7.2.At]), (83, v4), (80, .tuple #[v4, .agg #[vI r7.2.Code, vI r7.2.At]])] ?_
    have hS39 := hS38.bring 3 rfl
    refine gs b3 0 #[vI r4.2.Code, vI r4.2.At] 26 [vI r7.2.Code, vI r7.2.At] hS39 fun w20 hS40 => ?_
    have hS41 : St w0 w20 [Own.blk b3 (.cells #[vI r7.2.Code, vI r7.2.At] 26 (0, 0)), Own.of v4 46 r7.1, Own.blk b4 (.cells #[vI r5.2.Code, vI r5.2.At] 26 (0, 0)), Own.of (.slice Z5 r5.1.length cz5) 46 r5.1, Own.of (.slice Z2 (l0 ++ [(⟨⟨#[63]⟩, (-9), 0, 0, 0, 0, 0⟩ : STask), (⟨⟨#[63]⟩, (-9), 0, 0, 0, 0, 0⟩ : STask), (⟨⟨#[63]⟩, (-9), 0, 0, 0, 0, 0⟩ : STask)]).length cz2) 46 (l0 ++ [(⟨⟨#[63]⟩, (-9), 0, 0, 0, 0, 0⟩ : STask), (⟨⟨#[63]⟩, (-9), 0, 0, 0, 0, 0⟩ : STask), (⟨⟨#[63]⟩, (-9), 0, 0, 0, 0, 0⟩ : STask)]), Own.of (.slice Z3 (l1 ++ [(-9), (-9), (-9)]).length cz3) 3 (l1 ++ [(-9), (-9), (-9)])] := hS40
    refine gn hK24 ?_
    refine ws fun K25 hK25 => ?_
    refine wr [(0, 0), (1, 1), (2, 0), (3, 0), (4, 0), (5, 0), (6, 2)] ?_
    rcases hq12 : punctualref_Ranked_1.f K l0 with _ | r8
    ·rw [hq12] at h; cases h
    rw [hq12] at h
    simp only [] at h
    refine gb0 [0] [(86, .slice A0 l0.length c0)] ?_
    refine ge_call (d := some 87) (f := 51) (args := #[.slice A0 l0.length c0, .func (.func 56) #[] #[]]) (by kernel_rfl) (punctualref_Ranked_1_ok K l0 A0 c0 _ (hS41.rd hR0) hL0 _ hq12) ?_
    rintro _ w21 ⟨v5, rfl, hS42⟩
    refine ⟨_, rfl, hS42.below, ?_⟩
    have hS43 := hS41.call hS42
    refine gb0 [2, 3, 4, 5] [(11, v5), (89, .agg #[vI r8.2.Code, vI r8.2.At]), (88, v5), (85, .tuple #[v5, .agg #[vI r8.2.Code, vI r8.2.At]])] ?_
    have hS44 := hS43.bring 3 rfl
    refine gs b4 0 #[vI r5.2.Code, vI r5.2.At] 26 [vI r8.2.Code, vI r8.2.At] hS44 fun w22 hS45 => ?_
    have hS46 : St w0 w22 [Own.blk b4 (.cells #[vI r8.2.Code, vI r8.2.At] 26 (0, 0)), Own.of v5 46 r8.1, Own.blk b3 (.cells #[vI r7.2.Code, vI r7.2.At] 26 (0, 0)), Own.of v4 46 r7.1, Own.of (.slice Z5 r5.1.length cz5) 46 r5.1, Own.of (.slice Z2 (l0 ++ [(⟨⟨#[63]⟩, (-9), 0, 0, 0, 0, 0⟩ : STask), (⟨⟨#[63]⟩, (-9), 0, 0, 0, 0, 0⟩ : STask), (⟨⟨#[63]⟩, (-9), 0, 0, 0, 0, 0⟩ : STask)]).length cz2) 46 (l0 ++ [(⟨⟨#[63]⟩, (-9), 0, 0, 0, 0, 0⟩ : STask), (⟨⟨#[63]⟩, (-9), 0, 0, 0, 0, 0⟩ : STask), (⟨⟨#[63]⟩, (-9), 0, 0, 0, 0, 0⟩ : STask)]), Own.of (.slice Z3 (l1 ++ [(-9), (-9), (-9)]).length cz3) 3 (l1 ++ [(-9), (-9), (-9)])] := hS45
    refine gn hK25 ?_
    refine ws fun K26 hK26 => ?_
    refine ws fun K27 hK27 => ?_
    refine wr [(0, 0), (1, 0), (2, 0), (3, 0), (4, 0), (5, 0), (6, 1), (7, 0), (8, 0)] ?_
    refine gb [0, 1] [(91, .agg #[vI r8.2.Code, vI r8.2.At]), (90, .agg #[vI r7.2.Code, vI r7.2.At])] [.loaded ⟨b3, 0, none⟩ (vI r7.2.Code), .loaded ⟨b3, 1, none⟩ (vI r7.2.At), .loaded ⟨b4, 0, none⟩ (vI r8.2.Code), .loaded ⟨b4, 1, none⟩ (vI r8.2.At)] ⟨hS46.c 2, hS46.c 2, hS46.c 0, hS46.c 0, trivial⟩ ?_
    refine ge_eqs (d := 92) (ty := 4) (op := .neq) (x := (.tmp 90)) (y := (.tmp 91)) (t := 26) (t2 := 26) (xs := #[vI r7.2.Code, vI r7.2.At]) (ys := #[vI r8.2.Code, vI r8.2.At]) (r := (SFault.eqb r7.2 r8.2)) (v := !(SFault.eqb r7.2 r8.2)) (by kernel_rfl) (by kernel_rfl) (by kernel_rfl) (by kernel_rfl) (by kernel_rfl) rfl ?_
    refine gb0 [3] [(93, .bool (!(SFault.eqb r7.2 r8.2)))] ?_
    by_cases hc10 : (SFault.eqb r7.2 r8.2) = true
    ·rw [if_pos hc10] at h
     refine gk 93 (!(SFault.eqb r7.2 r8.2)) false (congrArg (fun z => !z) hc10) ?_
     refine gb0 [4, 5] [(95, v5), (94, v4)] ?_
     obtain ⟨Z6, cz6, rfl⟩ := hS46.open 3 rfl
     obtain ⟨Z7, cz7, rfl⟩ := hS46.open 1 rfl
     rcases hq13 : punctualsame_Same_api_Task.f K r7.1 r8.1 with _ | r9
     ·rw [hq13] at h; cases h
     rw [hq13] at h
     simp only [] at h
     refine ge_call (d := some 96) (f := 53) (args := #[(.slice Z6 r7.1.length cz6), (.slice Z7 r8.1.length cz7)]) (by kernel_rfl) (punctualsame_Same_api_Task_ok K r7.1 Z6 cz6 r8.1 Z7 cz7 _ (hS46.rdAt 3 rfl) (hS46.capAt 3 rfl) (hS46.rdAt 1 rfl) (hS46.capAt 1 rfl) _ hq13) ?_
     rintro _ w23 ⟨rfl, hS47⟩
     refine ⟨_, rfl, hS47.below, ?_⟩
     have hS48 := hS46.call hS47
     refine gb0 [7, 8] [(98, .bool (!r9)), (97, .bool (!r9))] ?_
     refine gn hK27 ?_
     by_cases hc11 : r9 = true
     ·rw [if_pos hc11] at h
      refine wk 98 (!r9) false (congrArg (fun z => !z) hc11) ?_
      refine we_false (by kernel_rfl) ?_
      refine we_skip fun a hF => hK26 _ _ ?_ a hF
      refine ws fun K28 hK28 => ?_
      refine wr [(0, 0), (1, 2)] ?_
      refine gb0 [0] [(99, (.slice Z6 r7.1.length cz6))] ?_
      have hS49 := hS48.bring 3 rfl
      refine ge_call2 (m := 0) (d := some 100) (f := 54) (args := #[.slice Z6 r7.1.length cz6]) (by kernel_rfl) (punctualsame_Spoil_api_Task_ok _ _ Z6 r7.1.length cz6 _ hS49) ?_
      rintro _ w24 ⟨rfl, hS50⟩
      refine ⟨_, rfl, ?_⟩
      refine gn hK28 ?_
      refine ws fun K29 hK29 => ?_
      refine wr [(0, 0), (1, 0), (2, 1), (3, 0), (4, 0), (5, 0), (6, 0), (7, 2)] ?_
      rcases hq14 : fixed_Assign.f K l0 l1 with _ | r10
      ·rw [hq14] at h; cases h
      rw [hq14] at h
      simp only [] at h
      refine gb0 [0, 1] [(103, .slice Z3 l1.length cz3), (102, .slice Z2 l0.length cz2)] ?_
      refine ge_call (d := some 104) (f := 57) (args := #[.slice Z2 l0.length cz2, .slice Z3 l1.length cz3]) (by kernel_rfl) (fixed_Assign_ok K l0 Z2 cz2 l1 Z3 cz3 _ ((hS50.rdAt 4 rfl).pre) (by have h0 := hcp1; simp only [List.length_append, List.length_cons, List.length_nil] at h0; omega) ((hS50.rdAt 5 rfl).pre) (by have h0 := hcp2; simp only [List.length_append, List.length_cons, List.length_nil] at h0; omega) _ hq14) ?_
      rintro _ w25 ⟨v6, rfl, hS51⟩
      refine ⟨_, rfl, hS51.below, ?_⟩
      have hS52 := hS50.call hS51
      refine gb0 [3, 4, 5, 6] [(9, v6), (106, .agg #[vI r10.2.Code, vI r10.2.At]), (105, v6), (101, .tuple #[v6, .agg #[vI r10.2.Code, vI r10.2.At]])] ?_
      have hS53 := hS52.bring 3 rfl
      refine gs b3 0 #[vI r7.2.Code, vI r7.2.At] 26 [vI r10.2.Code, vI r10.2.At] hS53 fun w26 hS54 => ?_
      have hS55 : St w0 w26 [Own.blk b3 (.cells #[vI r10.2.Code, vI r10.2.At] 26 (0, 0)), Own.of v6 46 r10.1, Own.blk b4 (.cells #[vI r8.2.Code, vI r8.2.At] 26 (0, 0)), Own.of (.slice Z7 r8.1.length cz7) 46 r8.1, Own.of (.slice Z5 r5.1.length cz5) 46 r5.1, Own.of (.slice Z2 (l0 ++ [(⟨⟨#[63]⟩, (-9), 0, 0, 0, 0, 0⟩ : STask), (⟨⟨#[63]⟩, (-9), 0, 0, 0, 0, 0⟩ : STask), (⟨⟨#[63]⟩, (-9), 0, 0, 0, 0, 0⟩ : STask)]).length cz2) 46 (l0 ++ [(⟨⟨#[63]⟩, (-9), 0, 0, 0, 0, 0⟩ : STask), (⟨⟨#[63]⟩, (-9), 0, 0, 0, 0, 0⟩ : STask), (⟨⟨#[63]⟩, (-9), 0, 0, 0, 0, 0⟩ : STask)]), Own.of (.slice Z3 (l1 ++ [(-9), (-9), (-9)]).length cz3) 3 (l1 ++ [(-9), (-9), (-9)])] := hS54
      refine gn hK29 ?_
      refine ws fun K30 hK30 => ?_
      refine wr [(0, 0), (1, 0), (2, 1), (3, 0), (4, 0), (5, 0), (6, 0), (7, 2)] ?_
      rcases hq15 : punctualref_Assigned.f K l0 l1 with _ | r11
      ·rw [hq15] at h; cases h
      rw [hq15] at h
      simp only [] at h
      refine gb0 [0, 1] [(109, .slice A1 l1.length c1), (108, .slice A0 l0.length c0)] ?_
      refine ge_call (d := some 110) (f := 58) (args := #[.slice A0 l0.length c0, .slice A1 l1.length c1]) (by kernel_rfl) (punctualref_Assigned_ok K l0 A0 c0 l1 A1 c1 _ (hS55.rd hR0) hL0 (hS55.rd hR1) hL1 _ hq15) ?_
      rintro _ w27 ⟨v7, rfl, hS56⟩
      refine ⟨_, rfl, hS56.below, ?_⟩
      have hS57 := hS55.call hS56
      refine gb0 [3, 4, 5, 6] [(11, v7), (112, .agg #[vI r11.2.Code, vI r11.2.At]), (111, v7), (107, .tuple #[v7, .agg #[vI r11.2.Code, vI r11.2.At]])] ?_
      have hS58 := hS57.bring 3 rfl
      refine gs b4 0 #[vI r8.2.Code, vI r8.2.At] 26 [vI r11.2.Code, vI r11.2.At] hS58 fun w28 hS59 => ?_
      have hS60 : St w0 w28 [Own.blk b4 (.cells #[vI r11.2.Code, vI r11.2.At] 26 (0, 0)), Own.of v7 46 r11.1, Own.blk b3 (.cells #[vI r10.2.Code, vI r10.2.At] 26 (0, 0)), Own.of v6 46 r10.1, Own.of (.slice Z7 r8.1.length cz7) 46 r8.1, Own.of (.slice Z5 r5.1.length cz5) 46 r5.1, Own.of (.slice Z2 (l0 ++ [(⟨⟨#[63]⟩, (-9), 0, 0, 0, 0, 0⟩ : STask), (⟨⟨#[63]⟩, (-9), 0, 0, 0, 0, 0⟩ : STask), (⟨⟨#[63]⟩, (-9), 0, 0, 0, 0, 0⟩ : STask)]).length cz2) 46 (l0 ++ [(⟨⟨#[63]⟩, (-9), 0, 0, 0, 0, 0⟩ : STask), (⟨⟨#[63]⟩, (-9), 0, 0, 0, 0, 0⟩ : STask), (⟨⟨#[63]⟩, (-9), 0, 0, 0, 0, 0⟩ : STask)]), Own.of (.slice Z3 (l1 ++ [(-9), (-9), (-9)]).length cz3) 3 (l1 ++ [(-9), (-9), (-9)])] := hS59
      refine gn hK30 ?_
      refine ws fun K31 hK31 => ?_
      refine ws fun K32 hK32 => ?_
      refine wr [(0, 0), (1, 0), (2, 0), (3, 0), (4, 0), (5, 0), (6, 1), (7, 0), (8, 0)] ?_
      refine gb [0, 1] [(114, .agg #[vI r11.2.Code, vI r11.2.At]), (113, .agg #[vI r10.2.Code, vI r10.2.At])] [.loaded ⟨b3, 0, none⟩ (vI r10.2.Code), .loaded ⟨b3, 1, none⟩ (vI r10.2.At), .loaded ⟨b4, 0, none⟩ (vI r11.2.Code), .loaded ⟨b4, 1, none⟩ (vI r11.2.At)] ⟨hS60.c 2, hS60.c 2, hS60.c 0, hS60.c 0, trivial⟩ ?_
      refine ge_eqs (d := 115) (ty := 4) (op := .neq) (x := (.tmp 113)) (y := (.tmp 114)) (t := 26) (t2 := 26) (xs := #[vI r10.2.Code, vI r10.2.At]) (ys := #[vI r11.2.Code, vI r11.2.At]) (r := (SFault.eqb r10.2 r11.2)) (v := !(SFault.eqb r10.2 r11.2)) (by kernel_rfl) (by kernel_rfl) (by kernel_rfl) (by kernel_rfl) (by kernel_rfl) rfl ?_
      refine gb0 [3] [(116, .bool (!(SFault.eqb r10.2 r11.2)))] ?_
      by_cases hc12 : (SFault.eqb r10.2 r11.2) = true
      ·rw [if_pos hc12] at h
       refine gk 116 (!(SFault.eqb r10.2 r11.2)) false (congrArg (fun z => !z) hc12) ?_
       refine gb0 [4, 5] [(118, v7), (117, v6)] ?_
       obtain ⟨Z8, cz8, rfl⟩ := hS60.open 3 rfl
       obtain ⟨Z9, cz9, rfl⟩ := hS60.open 1 rfl
       rcases hq16 : punctualsame_Same_api_Task.f K r10.1 r11.1 with _ | r12
       ·rw [hq16] at h; cases h
       rw [hq16] at h
       simp only [] at h
       refine ge_call (d := some 119) (f := 53) (args := #[(.slice Z8 r10.1.length cz8), (.slice Z9 r11.1.length cz9)]) (by kernel_rfl) (punctualsame_Same_api_Task_ok K r10.1 Z8 cz8 r11.1 Z9 cz9 _ (hS60.rdAt 3 rfl) (hS60.capAt 3 rfl) (hS60.rdAt 1 rfl) (hS60.capAt 1 rfl) _ hq16) ?_
       rintro _ w29 ⟨rfl, hS61⟩
       refine ⟨_, rfl, hS61.below, ?_⟩
       have hS62 := hS60.call hS61
       refine gb0 [7, 8] [(121, .bool (!r12)), (120, .bool (!r12))] ?_
       refine gn hK32 ?_
       by_cases hc13 : r12 = true
       ·rw [if_pos hc13] at h
        refine wk 121 (!r12) false (congrArg (fun z => !z) hc13) ?_
        refine we_false (by kernel_rfl) ?_
        refine we_skip fun a hF => hK31 _ _ ?_ a hF
        refine wr [(0, 0), (1, 2)] ?_
        refine gb0 [0] [(122, (.slice Z8 r10.1.length cz8))] ?_
        have hS63 := hS62.bring 3 rfl
        refine ge_call2 (m := 0) (d := some 123) (f := 54) (args := #[.slice Z8 r10.1.length cz8]) (by kernel_rfl) (punctualsame_Spoil_api_Task_ok _ _ Z8 r10.1.length cz8 _ hS63) ?_
        rintro _ w30 ⟨rfl, hS64⟩
        refine ⟨_, rfl, ?_⟩
        refine gn hK18 ?_
        refine wr [(0, 0), (1, 0)] ?_
        refine ge_addn (d := 124) (ty := 3) (x := (.tmp 57)) (y := (.const (vI 1))) (t := 3) (t2 := 3) (k := .i64) (m := i1) (by kernel_rfl) (by kernel_rfl) (by kernel_rfl) (by omega) ?_
        refine gb0 [1] [(57, vI ((i1 + 1 : Nat) : Int))] ?_
        have hS65 := hS64.bring 6 rfl
        have hS66 := hS65.bring 6 rfl
        have hS67 := hS66.takeN 2
        obtain rfl := si h
        exact ge_nil fun a hF => hQ _ _ _ (Outs.again ⟨hS67, hF.weaken ea⟩)
       ·rw [if_neg hc13] at h
        refine wk 121 (!r12) true (congrArg (fun z => !z) (Bool.eq_false_iff.2 hc13)) ?_
        refine we_true (by kernel_rfl) ?_
        refine ws fun K33 hK33 => ?_
        refine wr [(0, 0)] ?_
        refine gb0 [0] [(4, .bool false)] ?_
        refine gn hK33 ?_
        have hS68 := hS62.takeN 0
        obtain rfl := si h
        exact we_ret fun a hF => hQ _ _ _ (Outs.out nofun (Exits.on ⟨rfl, (pr0 [.tmp 4] [.bool false] ⟨rfl, hS68⟩) a hF⟩))
      ·rw [if_neg hc12] at h
       refine gk 116 (!(SFault.eqb r10.2 r11.2)) true (congrArg (fun z => !z) (Bool.eq_false_iff.2 hc12)) ?_
       refine gb0 [4, 5] [(118, undef), (117, undef)] ?_
       refine ge_off rfl rfl rfl (by kernel_rfl) ?_
       refine gb0 [7, 8] [(121, .bool true), (120, undef)] ?_
       refine gn hK32 ?_
       refine we_true (by kernel_rfl) ?_
       refine ws fun K34 hK34 => ?_
       refine wr [(0, 0)] ?_
       refine gb0 [0] [(4, .bool false)] ?_
       refine gn hK34 ?_
       have hS69 := hS60.takeN 0
       obtain rfl := si h
       exact we_ret fun a hF => hQ _ _ _ (Outs.out nofun (Exits.on ⟨rfl, (pr0 [.tmp 4] [.bool false] ⟨rfl, hS69⟩) a hF⟩))
     ·rw [if_neg hc11] at h
      refine wk 98 (!r9) true (congrArg (fun z => !z) (Bool.eq_false_iff.2 hc11)) ?_
      refine we_true (by kernel_rfl) ?_
      refine ws fun K35 hK35 => ?_
      refine wr [(0, 0)] ?_
      refine gb0 [0] [(4, .bool false)] ?_
      refine gn hK35 ?_
      have hS70 := hS48.takeN 0
      obtain rfl := si h
      exact we_ret fun a hF => hQ _ _ _ (Outs.out nofun (Exits.on ⟨rfl, (pr0 [.tmp 4] [.bool false] ⟨rfl, hS70⟩) a hF⟩))
    ·rw [if_neg hc10] at h
     refine gk 93 (!(SFault.eqb r7.2 r8.2)) true (congrArg (fun z => !z) (Bool.eq_false_iff.2 hc10)) ?_
     refine gb0 [4, 5] [(95, undef), (94, undef)] ?_
     refine ge_off rfl rfl rfl (by kernel_rfl) ?_
     refine gb0 [7, 8] [(98, .bool true), (97, undef)] ?_
     refine gn hK27 ?_
     refine we_true (by kernel_rfl) ?_
     refine ws fun K36 hK36 => ?_
     refine wr [(0, 0)] ?_
     refine gb0 [0] [(4, .bool false)] ?_
     refine gn hK36 ?_
     have hS71 := hS46.takeN 0
     obtain rfl := si h
     exact we_ret fun a hF => hQ _ _ _ (Outs.out nofun (Exits.on ⟨rfl, (pr0 [.tmp 4] [.bool false] ⟨rfl, hS71⟩) a hF⟩))
   ·rw [if_neg hc9] at h
    refine wk 77 (!r6) true (congrArg (fun z => !z) (Bool.eq_false_iff.2 hc9)) ?_
    refine we_true (by kernel_rfl) ?_
    refine ws fun K37 hK37 => ?_
    refine wr [(0, 0)] ?_
    refine gb0 [0] [(4, .bool false)] ?_
    refine gn hK37 ?_
    have hS72 := hS34.takeN 0
    obtain rfl := si h
    exact we_ret fun a hF => hQ _ _ _ (Outs.out nofun (Exits.on ⟨rfl, (pr0 [.tmp 4] [.bool false] ⟨rfl, hS72⟩) a hF⟩))
  ·rw [if_neg hc8] at h
   refine gk 72 (!(SFault.eqb r4.2 r5.2)) true (congrArg (fun z => !z) (Bool.eq_false_iff.2 hc8)) ?_
   refine gb0 [4, 5] [(74, undef), (73, undef)] ?_
   refine ge_off rfl rfl rfl (by kernel_rfl) ?_
   refine gb0 [7, 8] [(77, .bool true), (76, undef)] ?_
   refine gn hK22 ?_
   refine we_true (by kernel_rfl) ?_
   refine ws fun K38 hK38 => ?_
   refine wr [(0, 0)] ?_
   refine gb0 [0] [(4, .bool false)] ?_
   refine gn hK38 ?_
   have hS73 := hS32.takeN 0
   obtain rfl := si h
   exact we_ret fun a hF => hQ _ _ _ (Outs.out nofun (Exits.on ⟨rfl, (pr0 [.tmp 4] [.bool false] ⟨rfl, hS73⟩) a hF⟩))
 ·rw [if_neg hc7] at h
  refine wk 58 (decide ((i1 : Int) < 2)) false (decide_eq_false hc7) ?_
  refine we_false (by kernel_rfl) ?_
  have hS74 := hS.bring 1 rfl
  have hS75 := hS74.bring 1 rfl
  obtain rfl := si h
  exact we_exit fun a hF => hQ _ _ _ (Outs.out nofun (Exits.here ⟨hS75, hF.weaken ea⟩))
theorem FixedRanks_ok (K : Nat) (l0 : List STask) (A0 : Option Addr) (c0 : Nat) (l1 : List Int) (A1 : Option Addr) (c1 : Nat) (w0 : World) (hR0 : RdL w0 A0 l0) (hL0 : l0.length ≤ c0) (hR1 : RdL w0 A1 l1) (hL1 : l1.length ≤ c1) (hG1 : Glob w0 1 [.string (⟨#[63]⟩), vI (-9), vI 0, vI 0, vI 0, vI 0, vI 0]) (r : Bool) (h : FixedRanks.f K l0 l1 = some r) :
  Calls Tryd.prog 9 #[.slice A0 l0.length c0, .slice A1 l1.length c1] w0 (FixedRanks.Post w0 r) := by
 have hS := St.start w0
 unfold FixedRanks.f at h
 refine calls_enter (n := 134) (args := [.slice A0 l0.length c0, .slice A1 l1.length c1]) (fn := Tryd.f9) rfl rfl rfl rfl ?_
 show WE _ _ _ _ [(0, .slice A0 l0.length c0), (1, .slice A1 l1.length c1)] _
 refine ws fun K1 hK1 => ?_
 refine wr [(0, 0)] ?_
 refine gb0 [0] [(4, .bool false)] ?_
 refine gn hK1 ?_
 refine ws fun K2 hK2 => ?_
 refine wr [(0, 0), (1, 0), (2, 1), (3, 1), (4, 0), (5, 0), (6, 0), (7, 1), (8, 0), (9, 2)] ?_
 refine gb0 [0, 1] [(15, .agg #[.string (⟨#[98]⟩), vI 1, vI 5, vI 5, vI 0, vI 0, vI 0]), (14, .agg #[.string (⟨#[97]⟩), vI 1, vI 9, vI 9, vI 0, vI 0, vI 0])] ?_
 refine gw (some 16) (.cells #[.string (⟨#[97]⟩), vI 1, vI 9, vI 9, vI 0, vI 0, vI 0, .string (⟨#[98]⟩), vI 1, vI 5, vI 5, vI 0, vI 0, vI 0] 46) (fun b => .slice (some ⟨b, 0, none⟩) 2 2) hS fun b1 w1 hx1 hS1 => ?_
 rcases hq1 : fixed_Rates.f K ([(⟨⟨#[97]⟩, 1, 9, 9, 0, 0, 0⟩ : STask), (⟨⟨#[98]⟩, 1, 5, 5, 0, 0, 0⟩ : STask)] : List STask) with _ | r1
 ·rw [hq1] at h; cases h
 rw [hq1] at h
 simp only [] at h
 refine ge_call (d := some 17) (f := 50) (args := #[.slice (some ⟨b1, 0, none⟩) 2 2]) (by kernel_rfl) (fixed_Rates_ok K ([(⟨⟨#[97]⟩, 1, 9, 9, 0, 0, 0⟩ : STask), (⟨⟨#[98]⟩, 1, 5, 5, 0, 0, 0⟩ : STask)] : List STask) (some ⟨b1, 0, none⟩) 2 _ (hS1.rdBlk 0 ([(⟨⟨#[97]⟩, 1, 9, 9, 0, 0, 0⟩ : STask), (⟨⟨#[98]⟩, 1, 5, 5, 0, 0, 0⟩ : STask)] : List STask) rfl rfl rfl) (Nat.le_refl _) _ hq1) ?_
 rintro _ w2 ⟨v1, rfl, hS2⟩
 refine ⟨_, rfl, hS2.below, ?_⟩
 have hS3 := hS1.call hS2
 refine gb0 [4, 5, 6] [(19, .agg #[vI r1.2.Code, vI r1.2.At]), (18, v1), (13, .tuple #[v1, .agg #[vI r1.2.Code, vI r1.2.At]])] ?_
 refine gw (some 6) (.cells #[vI 0, vI 0] 26) (fun b => pP b 0) hS3 fun b2 w3 hx2 hS4 => ?_
 refine gb0 [8] [(5, v1)] ?_
 refine gs b2 0 #[vI 0, vI 0] 26 [vI r1.2.Code, vI r1.2.At] hS4 fun w4 hS5 => ?_
 have hS6 : St w0 w4 [Own.blk b2 (.cells #[vI r1.2.Code, vI r1.2.At] 26 (0, 0)), Own.of v1 46 r1.1, Own.blk b1 (.cells #[.string (⟨#[97]⟩), vI 1, vI 9, vI 9, vI 0, vI 0, vI 0, .string (⟨#[98]⟩), vI 1, vI 5, vI 5, vI 0, vI 0, vI 0] 46 (0, 0))] := hS5
 refine gn hK2 ?_
 refine ws fun K3 hK3 => ?_
 obtain ⟨Z1, cz1, rfl⟩ := hS6.open 1 rfl
 rcases hq2 : FixedRanks.p0 r1 with _ | (_ | rr3)
 ·rw [hq2] at h; cases h
 ·rw [hq2] at h
  simp only [] at h
  refine we_keep (e' := [(0, .slice A0 l0.length c0), (1, .slice A1 l1.length c1), (4, .bool false), (5, (.slice Z1 r1.1.length cz1)), (6, pP b2 0), (13, .tuple #[(.slice Z1 r1.1.length cz1), .agg #[vI r1.2.Code, vI r1.2.At]]), (14, .agg #[.string (⟨#[97]⟩), vI 1, vI 9, vI 9, vI 0, vI 0, vI 0]), (15, .agg #[.string (⟨#[98]⟩), vI 1, vI 5, vI 5, vI 0, vI 0, vI 0]), (16, .slice (some ⟨b1, 0, none⟩) 2 2), (17, .tuple #[(.slice Z1 r1.1.length cz1), .agg #[vI r1.2.Code, vI r1.2.At]]), (18, (.slice Z1 r1.1.length cz1)), (19, .agg #[vI r1.2.Code, vI r1.2.At])]) ea (FixedRanks_p0 K w0 l0 A0 c0 l1 A1 c1 hR0 hL0 hR1 hL1 hG1 b1 r1 b2 Z1 cz1 _ hq2 _ hS6 _ ?_)
  rintro _ a w5 ⟨rfl, hS12, hF⟩
  replace hS12 : St w0 w5 [] := hS12
  refine hK3 [(0, .slice A0 l0.length c0), (1, .slice A1 l1.length c1)] w5 ?_ a hF
  refine ws fun K9 hK9 => ?_
  rcases hq5 : FixedRanks.p1 l0 l1 with _ | (_ | rr2)
  ·rw [hq5] at h; cases h
  ·rw [hq5] at h
   simp only [] at h
   refine we_keep (e' := [(0, .slice A0 l0.length c0), (1, .slice A1 l1.length c1)]) ea (FixedRanks_p1 K w0 l0 A0 c0 l1 A1 c1 hR0 hL0 hR1 hL1 hG1 b1 r1 b2 Z1 cz1 _ hq5 _ hS12 _ ?_)
   rintro _ a w8 ⟨rfl, hS17, hF⟩
   replace hS17 : St w0 w8 [] := hS17
   refine hK9 [(0, .slice A0 l0.length c0), (1, .slice A1 l1.length c1)] w8 ?_ a hF
   refine ws fun K13 hK13 => ?_
   refine wr [(0, 0), (1, 0), (2, 1), (3, 0), (4, 1), (5, 0), (6, 0)] ?_
   refine gb [0, 1] [(53, .agg #[.string (⟨#[63]⟩), vI (-9), vI 0, vI 0, vI 0, vI 0, vI 0]), (52, .slice A0 l0.length c0)] [.loaded ⟨1, 0, none⟩ (.string (⟨#[63]⟩)), .loaded ⟨1, 1, none⟩ (vI (-9)), .loaded ⟨1, 2, none⟩ (vI 0), .loaded ⟨1, 3, none⟩ (vI 0), .loaded ⟨1, 4, none⟩ (vI 0), .loaded ⟨1, 5, none⟩ (vI 0), .loaded ⟨1, 6, none⟩ (vI 0)] ⟨hS17.glob hG1 rfl, hS17.glob hG1 rfl, hS17.glob hG1 rfl, hS17.glob hG1 rfl, hS17.glob hG1 rfl, hS17.glob hG1 rfl, hS17.glob hG1 rfl, trivial⟩ ?_
   rcases hq6 : punctualsame_Lend_api_Task.f l0 (⟨⟨#[63]⟩, (-9), 0, 0, 0, 0, 0⟩ : STask) with _ | r2
   ·rw [hq6] at h; cases h
   rw [hq6] at h
   simp only [] at h
   obtain rfl := punctualsame_Lend_api_Task_full _ _ hq6
   refine ge_call (d := some 54) (f := 22) (args := #[.slice A0 l0.length c0, .agg #[.string (⟨#[63]⟩), vI (-9), vI 0, vI 0, vI 0, vI 0, vI 0]]) (by kernel_rfl) (punctualsame_Lend_api_Task_ok l0 A0 c0 (⟨⟨#[63]⟩, (-9), 0, 0, 0, 0, 0⟩ : STask) _ (hS17.rd hR0) hL0 _ hq6) ?_
   rintro _ w9 ⟨Z2, cz2, rfl, hcp1, hS18⟩
   refine ⟨_, rfl, hS18.below, ?_⟩
   have hS19 := hS17.call hS18
   refine gb0 [3] [(55, .slice A1 l1.length c1)] ?_
   rcases hq7 : punctualsame_Lend_int.f l1 (-9) with _ | r3
   ·rw [hq7] at h; cases h
   rw [hq7] at h
   simp only [] at h
   obtain rfl := punctualsame_Lend_int_full _ _ hq7
   refine ge_call (d := some 56) (f := 15) (args := #[.slice A1 l1.length c1, vI (-9)]) (by kernel_rfl) (punctualsame_Lend_int_ok l1 A1 c1 (-9) _ (hS19.rd hR1) hL1 _ hq7) ?_
   rintro _ w10 ⟨Z3, cz3, rfl, hcp2, hS20⟩
   refine ⟨_, rfl, hS20.below, ?_⟩
   have hS21 := hS19.call hS20
   refine gb0 [5, 6] [(8, .slice Z3 l1.length cz3), (7, .slice Z2 l0.length cz2)] ?_
   refine gn hK13 ?_
   refine ws fun K14 hK14 => ?_
   refine ws fun K15 hK15 => ?_
   refine wr [(0, 0)] ?_
   refine gb0 [0] [(57, vI 0)] ?_
   refine gn hK15 ?_
   refine we_block ?_
   have hS22 := hS21.bring 1 rfl
   rcases hq17 : iter (FixedRanks.r2 K l0 l1) K 0 with _ | (_ | rr1)
   ·rw [hq17] at h; cases h
   ·rw [hq17] at h
    simp only [] at h
    refine we_iter (A := FixedRanks.A2 w0 l0 A0 c0 l1 A1 c1 Z2 cz2 Z3 cz3) (B := FixedRanks.B2 w0 l0 A0 c0 l1 A1 c1 Z2 cz2 Z3 cz3) hq17 (fun a hF => ⟨hS22, hF.weaken ea⟩) (fun s o hf a w hA Q hQ => FixedRanks_r2 K w0 l0 A0 c0 l1 A1 c1 hR0 hL0 hR1 hL1 hG1 b1 r1 b2 Z1 cz1 Z2 cz2 hcp1 Z3 cz3 hcp2 s o hf a w hA Q hQ) ?_
    rintro _ a w31 _ ⟨rfl, hS76, hF⟩
    replace hS76 : St w0 w31 [Own.of (.slice Z2 (l0 ++ [(⟨⟨#[63]⟩, (-9), 0, 0, 0, 0, 0⟩ : STask), (⟨⟨#[63]⟩, (-9), 0, 0, 0, 0, 0⟩ : STask), (⟨⟨#[63]⟩, (-9), 0, 0, 0, 0, 0⟩ : STask)]).length cz2) 46 (l0 ++ [(⟨⟨#[63]⟩, (-9), 0, 0, 0, 0, 0⟩ : STask), (⟨⟨#[63]⟩, (-9), 0, 0, 0, 0, 0⟩ : STask), (⟨⟨#[63]⟩, (-9), 0, 0, 0, 0, 0⟩ : STask)]), Own.of (.slice Z3 (l1 ++ [(-9), (-9), (-9)]).length cz3) 3 (l1 ++ [(-9), (-9), (-9)])] := hS76
    refine hK14 [(0, .slice A0 l0.length c0), (1, .slice A1 l1.length c1), (7, .slice Z2 l0.length cz2), (8, .slice Z3 l1.length cz3)] w31 ?_ a hF
    refine ws fun K39 hK39 => ?_
    refine wr [(0, 0), (1, 0), (2, 0), (3, 1), (4, 0), (5, 0), (6, 0), (7, 1), (8, 0), (9, 0)] ?_
    refine gb [0, 1, 2] [(127, .agg #[.string (⟨#[63]⟩), vI (-9), vI 0, vI 0, vI 0, vI 0, vI 0]), (126, .slice A0 l0.length c0), (125, .slice Z2 l0.length cz2)] [.loaded ⟨1, 0, none⟩ (.string (⟨#[63]⟩)), .loaded ⟨1, 1, none⟩ (vI (-9)), .loaded ⟨1, 2, none⟩ (vI 0), .loaded ⟨1, 3, none⟩ (vI 0), .loaded ⟨1, 4, none⟩ (vI 0), .loaded ⟨1, 5, none⟩ (vI 0), .loaded ⟨1, 6, none⟩ (vI 0)] ⟨hS76.glob hG1 rfl, hS76.glob hG1 rfl, hS76.glob hG1 rfl, hS76.glob hG1 rfl, hS76.glob hG1 rfl, hS76.glob hG1 rfl, hS76.glob hG1 rfl, trivial⟩ ?_
    rcases hq18 : punctualsame_Still_api_Task.f K (l0 ++ [(⟨⟨#[63]⟩, (-9), 0, 0, 0, 0, 0⟩ : STask), (⟨⟨#[63]⟩, (-9), 0, 0, 0, 0, 0⟩ : STask), (⟨⟨#[63]⟩, (-9), 0, 0, 0, 0, 0⟩ : STask)]) l0 (⟨⟨#[63]⟩, (-9), 0, 0, 0, 0, 0⟩ : STask) with _ | r13
    ·rw [hq18] at h; cases h
    rw [hq18] at h
    simp only [] at h
    refine ge_call (d := some 128) (f := 24) (args := #[.slice Z2 l0.length cz2, .slice A0 l0.length c0, .agg #[.string (⟨#[63]⟩), vI (-9), vI 0, vI 0, vI 0, vI 0, vI 0]]) (by kernel_rfl) (punctualsame_Still_api_Task_ok K (l0 ++ [(⟨⟨#[63]⟩, (-9), 0, 0, 0, 0, 0⟩ : STask), (⟨⟨#[63]⟩, (-9), 0, 0, 0, 0, 0⟩ : STask), (⟨⟨#[63]⟩, (-9), 0, 0, 0, 0, 0⟩ : STask)]) Z2 l0.length cz2 l0 A0 c0 (⟨⟨#[63]⟩, (-9), 0, 0, 0, 0, 0⟩ : STask) _ (hS76.rdAt 0 rfl) hcp1 (hS76.rd hR0) hL0 _ hq18) ?_
    rintro _ w32 ⟨rfl, hS77⟩
    refine ⟨_, rfl, hS77.below, ?_⟩
    have hS78 := hS76.call hS77
    refine gb0 [4] [(129, .bool r13)] ?_
    by_cases hc14 : r13 = true
    ·rw [if_pos hc14] at h
     refine gk 129 r13 true hc14 ?_
     refine gb0 [5, 6] [(131, .slice A1 l1.length c1), (130, .slice Z3 l1.length cz3)] ?_
     rcases hq19 : punctualsame_Still_int.f K (l1 ++ [(-9), (-9), (-9)]) l1 (-9) with _ | r14
     ·rw [hq19] at h; cases h
     rw [hq19] at h
     simp only [] at h
     refine ge_call (d := some 132) (f := 18) (args := #[.slice Z3 l1.length cz3, .slice A1 l1.length c1, vI (-9)]) (by kernel_rfl) (punctualsame_Still_int_ok K (l1 ++ [(-9), (-9), (-9)]) Z3 l1.length cz3 l1 A1 c1 (-9) _ (hS78.rdAt 1 rfl) hcp2 (hS78.rd hR1) hL1 _ hq19) ?_
     rintro _ w33 ⟨rfl, hS79⟩
     refine ⟨_, rfl, hS79.below, ?_⟩
     have hS80 := hS78.call hS79
     refine gb0 [8, 9] [(4, .bool r14), (133, .bool r14)] ?_
     refine gn hK39 ?_
     have hS81 := hS80.takeN 0
     obtain rfl := si h
     exact we_ret (pr0 [.tmp 4] [.bool r14] ⟨rfl, hS81⟩)
    ·rw [if_neg hc14] at h
     refine gk 129 r13 false (Bool.eq_false_iff.2 hc14) ?_
     refine gb0 [5, 6] [(131, undef), (130, undef)] ?_
     refine ge_off rfl rfl rfl (by kernel_rfl) ?_
     refine gb0 [8, 9] [(4, .bool false), (133, .bool false)] ?_
     refine gn hK39 ?_
     have hS82 := hS78.takeN 0
     obtain rfl := si h
     exact we_ret (pr0 [.tmp 4] [.bool false] ⟨rfl, hS82⟩)
   ·rw [hq17] at h
    simp only [] at h
    refine we_iter (A := FixedRanks.A2 w0 l0 A0 c0 l1 A1 c1 Z2 cz2 Z3 cz3) (B := FixedRanks.B2 w0 l0 A0 c0 l1 A1 c1 Z2 cz2 Z3 cz3) hq17 (fun a hF => ⟨hS22, hF.weaken ea⟩) (fun s o hf a w hA Q hQ => FixedRanks_r2 K w0 l0 A0 c0 l1 A1 c1 hR0 hL0 hR1 hL1 hG1 b1 r1 b2 Z1 cz1 Z2 cz2 hcp1 Z3 cz3 hcp2 s o hf a w hA Q hQ) ?_
    rintro _ a w1 _ ⟨rfl, hb⟩
    obtain rfl := si h
    exact hb
  ·rw [hq5] at h
   simp only [] at h
   refine we_keep (e' := [(0, .slice A0 l0.length c0), (1, .slice A1 l1.length c1)]) ea (FixedRanks_p1 K w0 l0 A0 c0 l1 A1 c1 hR0 hL0 hR1 hL1 hG1 b1 r1 b2 Z1 cz1 _ hq5 _ hS12 _ ?_)
   rintro _ a w1 ⟨_, rfl, hb⟩
   obtain rfl := si h
   exact hb
 ·rw [hq2] at h
  simp only [] at h
  refine we_keep (e' := [(0, .slice A0 l0.length c0), (1, .slice A1 l1.length c1), (4, .bool false), (5, (.slice Z1 r1.1.length cz1)), (6, pP b2 0), (13, .tuple #[(.slice Z1 r1.1.length cz1), .agg #[vI r1.2.Code, vI r1.2.At]]), (14, .agg #[.string (⟨#[97]⟩), vI 1, vI 9, vI 9, vI 0, vI 0, vI 0]), (15, .agg #[.string (⟨#[98]⟩), vI 1, vI 5, vI 5, vI 0, vI 0, vI 0]), (16, .slice (some ⟨b1, 0, none⟩) 2 2), (17, .tuple #[(.slice Z1 r1.1.length cz1), .agg #[vI r1.2.Code, vI r1.2.At]]), (18, (.slice Z1 r1.1.length cz1)), (19, .agg #[vI r1.2.Code, vI r1.2.At])]) ea (FixedRanks_p0 K w0 l0 A0 c0 l1 A1 c1 hR0 hL0 hR1 hL1 hG1 b1 r1 b2 Z1 cz1 _ hq2 _ hS6 _ ?_)
  rintro _ a w1 ⟨_, rfl, hb⟩
  obtain rfl := si h
  exact hb
end Go.Proofs.YtlipdmblinjjaaaDoor.GV
