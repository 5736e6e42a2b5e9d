/- Walks of single functions, written by a program of this work. -/
import Derived.Test.YtcogbnkioobmkaaDoorGWWindowsPlay2
namespace Go.Proofs.YtcogbnkioobmkaaDoor.GV
open Go Go.RowKit
set_option linter.unusedVariables false
set_option linter.unusedSimpArgs false
set_option maxRecDepth 100000

/-! punctual/punctualref.There -/
abbrev punctualref_There.Post (w0 : World) (r : Bool) (e : Ending) (w : World) : Prop := e = .returned (.bool r) ∧ St w0 w []
def punctualref_There.r0 (x0 : Int) (l1 : List SWindow) (x2 : Int) : Nat → Option (Nat ⊕ (Unit ⊕ Bool))
 | i1 =>
  if (i1 : Int) < (l1.length : Int) then
   match l1[i1]? with
   | none => none
   | some e1 =>
    if x0 = 0 then
     none
    else
     if (Int.tmod x2 x0) ≥ e1.At then
      if (Int.tmod x2 x0) < (IntKind.i64.wrap (e1.At + e1.Len)) then
       some (.inr (.inr true))
      else
       some (.inl (i1 + 1))
     else
      some (.inl (i1 + 1))
  else
   some (.inr (.inl ()))
def punctualref_There.f (K : Nat) (x0 : Int) (l1 : List SWindow) (x2 : Int) : Option Bool :=
 match iter (punctualref_There.r0 x0 l1 x2) K 0 with
 | none => none
 | some (.inl _) =>
  some false
 | some (.inr rr1) =>
  some rr1
abbrev punctualref_There.A0 (w0 : World) (x0 : Int) (l1 : List SWindow) (A1 : Option Addr) (c1 : Nat) (x2 : Int) : Nat → Act → World → Prop := fun (s : Nat) a w => St w0 w [] ∧ Frm 33 a [(0, vI x0), (2, vI x2), (10, .slice A1 l1.length c1), (11, vI (l1.length : Int)), (12, vI (s : Int))]
abbrev punctualref_There.B0 (w0 : World) : (Unit ⊕ Bool) → Exit → Act → World → Prop := Exits 0 (fun (s : Unit) a w => St w0 w [] ∧ Frm 33 a []) (Rets Tryd.prog Tryd.f90 (punctualref_There.Post w0))
theorem punctualref_There_r0 (K : Nat) (w0 : World) (x0 : Int) (l1 : List SWindow) (A1 : Option Addr) (c1 : Nat) (x2 : Int) (hR1 : RdL w0 A1 l1) (hL1 : l1.length ≤ c1) (s : Nat) (o : Nat ⊕ (Unit ⊕ Bool)) (h : punctualref_There.r0 x0 l1 x2 s = some o) (a : Act) (w : World) (hA : punctualref_There.A0 w0 x0 l1 A1 c1 x2 s a w) (Q : Exit → Act → World → Prop) (hQ : ∀ x a w, Outs (punctualref_There.A0 w0 x0 l1 A1 c1 x2) (punctualref_There.B0 w0) o x a w → Q x a w) : (subF Tryd.f90 [1, 0, 1, 0, 0]).wp Tryd.prog Q a w := by
 obtain ⟨i1, hs⟩ : ∃ z, z = s := ⟨s, rfl⟩
 subst hs
 obtain ⟨hS, hF⟩ := hA
 replace hS : St w0 w [] := hS
 simp only [punctualref_There.r0] at h
 refine (?_ : WE Tryd.prog 33 (subF Tryd.f90 [1, 0, 1, 0, 0]) Q [(0, vI x0), (2, vI x2), (10, .slice A1 l1.length c1), (11, vI (l1.length : Int)), (12, vI (i1 : Int))] w) a hF
 clear hF a
 refine ws fun K4 hK4 => ?_
 refine wr [(0, 0)] ?_
 refine gb0 [0] [(13, .bool (decide ((i1 : Int) < (l1.length : Int))))] ?_
 refine gn hK4 ?_
 refine ws fun K5 hK5 => ?_
 by_cases hc1 : (i1 : Int) < (l1.length : Int)
 ·rw [if_pos hc1] at h
  refine wk 13 (decide ((i1 : Int) < (l1.length : Int))) true (decide_eq_true hc1) ?_
  refine we_true (by kernel_rfl) ?_
  refine we_skip fun a hF => hK5 _ _ ?_ a hF
  refine ws fun K6 hK6 => ?_
  refine we_block ?_
  refine ws fun K7 hK7 => ?_
  refine wr [(0, 0), (1, 0), (2, 1), (3, 2)] ?_
  rcases hx1 : l1[i1]? with _ | e1
  ·rw [hx1] at h; cases h
  rw [hx1] at h
  simp only [] at h
  refine gi 14 0 48 55 2 l1.length c1 (.tmp 10) (.tmp 12) A1 .i64 (i1 : Int) i1 ((hS.rd hR1).eqSome (pos_of_get hx1)) rfl (lt_of_get hx1) ?_
  refine gb [1] [(15, .agg #[vI e1.At, vI e1.Len])] [.loaded ⟨blkOf A1, offOf A1 + i1 * 2, none⟩ (vI e1.At), .loaded ⟨blkOf A1, offOf A1 + i1 * 2 + 1, none⟩ (vI e1.Len)] ⟨RdL.cell (j := 0) (hS.rd hR1) hx1 rfl, RdL.cell (j := 1) (hS.rd hR1) hx1 rfl, trivial⟩ ?_
  refine gw (some 8) (.cells #[vI 0, vI 0] 55) (fun b => pP b 0) hS fun b1 w1 hx2 hS1 => ?_
  refine gs b1 0 #[vI 0, vI 0] 55 [vI e1.At, vI e1.Len] hS1 fun w2 hS2 => ?_
  have hS3 : St w0 w2 [Own.blk b1 (.cells #[vI e1.At, vI e1.Len] 55 (0, 0))] := hS2
  refine gn hK7 ?_
  refine ws fun K8 hK8 => ?_
  refine wr [(0, 0), (1, 0), (2, 0), (3, 0)] ?_
  refine gb0 [0, 1] [(17, vI x0), (16, vI x2)] ?_
  by_cases hc2 : x0 = 0
  ·rw [if_pos hc2] at h
   cases h
  ·rw [if_neg hc2] at h
   refine ge_div (d := 18) (ty := 3) (op := .rem) (x := (.tmp 16)) (y := (.tmp 17)) (t := 3) (t2 := 3) (k := .i64) (p := x2) (q := x0) (v := vI (Int.tmod x2 x0)) (by kernel_rfl) (by kernel_rfl) (by kernel_rfl) hc2 rfl ?_
   refine gb0 [3] [(9, vI (Int.tmod x2 x0))] ?_
   refine gn hK8 ?_
   refine ws fun K9 hK9 => ?_
   refine wr [(0, 0), (1, 0), (2, 0), (3, 0), (4, 0), (5, 0), (6, 0), (7, 0), (8, 0), (9, 0), (10, 0), (11, 0), (12, 0)] ?_
   refine gb [0, 1, 2, 3, 4] [(23, .bool (decide ((Int.tmod x2 x0) ≥ e1.At))), (22, .bool (decide ((Int.tmod x2 x0) ≥ e1.At))), (21, vI e1.At), (20, pP b1 0), (19, vI (Int.tmod x2 x0))] [.loaded ⟨b1, 0, none⟩ (vI e1.At)] ⟨hS3.c 0, trivial⟩ ?_
   by_cases hc3 : (Int.tmod x2 x0) ≥ e1.At
   ·rw [if_pos hc3] at h
    refine gk 23 (decide ((Int.tmod x2 x0) ≥ e1.At)) true (decide_eq_true hc3) ?_
    refine gb [5, 6, 7, 8, 9, 10, 11, 12] [(31, .bool (decide ((Int.tmod x2 x0) < (IntKind.i64.wrap (e1.At + e1.Len))))), (30, .bool (decide ((Int.tmod x2 x0) < (IntKind.i64.wrap (e1.At + e1.Len))))), (29, vI (IntKind.i64.wrap (e1.At + e1.Len))), (28, vI e1.Len), (27, pP b1 1), (26, vI e1.At), (25, pP b1 0), (24, vI (Int.tmod x2 x0))] [.loaded ⟨b1, 0, none⟩ (vI e1.At), .loaded ⟨b1, 1, none⟩ (vI e1.Len)] ⟨hS3.c 0, hS3.c 0, trivial⟩ ?_
    refine gn hK9 ?_
    by_cases hc4 : (Int.tmod x2 x0) < (IntKind.i64.wrap (e1.At + e1.Len))
    ·rw [if_pos hc4] at h
     refine wk 31 (decide ((Int.tmod x2 x0) < (IntKind.i64.wrap (e1.At + e1.Len)))) true (decide_eq_true hc4) ?_
     refine we_true (by kernel_rfl) ?_
     refine ws fun K10 hK10 => ?_
     refine wr [(0, 0)] ?_
     refine gb0 [0] [(6, .bool true)] ?_
     refine gn hK10 ?_
     have hS4 := hS3.takeN 0
     obtain rfl := si h
     exact we_ret fun a hF => hQ _ _ _ (Outs.out nofun (Exits.on ⟨rfl, (pr0 [.tmp 6] [.bool true] ⟨rfl, hS4⟩) a hF⟩))
    ·rw [if_neg hc4] at h
     refine wk 31 (decide ((Int.tmod x2 x0) < (IntKind.i64.wrap (e1.At + e1.Len)))) false (decide_eq_false hc4) ?_
     refine we_false (by kernel_rfl) ?_
     refine we_skip fun a hF => hK6 _ _ ?_ a hF
     refine wr [(0, 0), (1, 0)] ?_
     refine ge_addn (d := 32) (ty := 3) (x := (.tmp 12)) (y := (.const (vI 1))) (t := 3) (t2 := 3) (k := .i64) (m := i1) (by kernel_rfl) (by kernel_rfl) (by kernel_rfl) (by have h0 := hR1.small; omega) ?_
     refine gb0 [1] [(12, vI ((i1 + 1 : Nat) : Int))] ?_
     have hS5 := hS3.takeN 0
     obtain rfl := si h
     exact ge_nil fun a hF => hQ _ _ _ (Outs.again ⟨hS5, hF.weaken ea⟩)
   ·rw [if_neg hc3] at h
    refine gk 23 (decide ((Int.tmod x2 x0) ≥ e1.At)) false (decide_eq_false hc3) ?_
    refine gb0 [5, 6, 7, 8, 9, 10, 11, 12] [(31, .bool false), (30, undef), (29, undef), (28, undef), (27, undef), (26, undef), (25, undef), (24, undef)] ?_
    refine gn hK9 ?_
    refine we_false (by kernel_rfl) ?_
    refine we_skip fun a hF => hK6 _ _ ?_ a hF
    refine wr [(0, 0), (1, 0)] ?_
    refine ge_addn (d := 32) (ty := 3) (x := (.tmp 12)) (y := (.const (vI 1))) (t := 3) (t2 := 3) (k := .i64) (m := i1) (by kernel_rfl) (by kernel_rfl) (by kernel_rfl) (by have h0 := hR1.small; omega) ?_
    refine gb0 [1] [(12, vI ((i1 + 1 : Nat) : Int))] ?_
    have hS6 := hS3.takeN 0
    obtain rfl := si h
    exact ge_nil fun a hF => hQ _ _ _ (Outs.again ⟨hS6, hF.weaken ea⟩)
 ·rw [if_neg hc1] at h
  refine wk 13 (decide ((i1 : Int) < (l1.length : Int))) false (decide_eq_false hc1) ?_
  refine we_false (by kernel_rfl) ?_
  obtain rfl := si h
  exact we_exit fun a hF => hQ _ _ _ (Outs.out nofun (Exits.here ⟨hS, hF.weaken trivial⟩))
theorem punctualref_There_ok (K : Nat) (x0 : Int) (l1 : List SWindow) (A1 : Option Addr) (c1 : Nat) (x2 : Int) (w0 : World) (hR1 : RdL w0 A1 l1) (hL1 : l1.length ≤ c1) (r : Bool) (h : punctualref_There.f K x0 l1 x2 = some r) :
  Calls Tryd.prog 90 #[vI x0, .slice A1 l1.length c1, vI x2] w0 (punctualref_There.Post w0 r) := by
 have hS := St.start w0
 unfold punctualref_There.f at h
 refine calls_enter (n := 33) (args := [vI x0, .slice A1 l1.length c1, vI x2]) (fn := Tryd.f90) rfl rfl rfl rfl ?_
 show WE _ _ _ _ [(0, vI x0), (1, .slice A1 l1.length c1), (2, vI x2)] _
 refine ws fun K1 hK1 => ?_
 refine wr [(0, 0)] ?_
 refine gb0 [0] [(6, .bool false)] ?_
 refine gn hK1 ?_
 refine ws fun K2 hK2 => ?_
 refine ws fun K3 hK3 => ?_
 refine wr [(0, 0), (1, 0), (2, 0)] ?_
 refine gb0 [0, 1, 2] [(12, vI 0), (11, vI (l1.length : Int)), (10, .slice A1 l1.length c1)] ?_
 refine gn hK3 ?_
 refine we_block ?_
 rcases hq1 : iter (punctualref_There.r0 x0 l1 x2) K 0 with _ | (_ | rr1)
 ·rw [hq1] at h; cases h
 ·rw [hq1] at h
  simp only [] at h
  refine we_iter (A := punctualref_There.A0 w0 x0 l1 A1 c1 x2) (B := punctualref_There.B0 w0) hq1 (fun a hF => ⟨hS, hF.weaken ea⟩) (fun s o hf a w hA Q hQ => punctualref_There_r0 K w0 x0 l1 A1 c1 x2 hR1 hL1 s o hf a w hA Q hQ) ?_
  rintro _ a w3 _ ⟨rfl, hS7, hF⟩
  replace hS7 : St w0 w3 [] := hS7
  refine hK2 [] w3 ?_ a hF
  refine ws fun K11 hK11 => ?_
  refine wr [(0, 0)] ?_
  refine gb0 [0] [(6, .bool false)] ?_
  refine gn hK11 ?_
  obtain rfl := si h
  exact we_ret (pr0 [.tmp 6] [.bool false] ⟨rfl, hS7⟩)
 ·rw [hq1] at h
  simp only [] at h
  refine we_iter (A := punctualref_There.A0 w0 x0 l1 A1 c1 x2) (B := punctualref_There.B0 w0) hq1 (fun a hF => ⟨hS, hF.weaken ea⟩) (fun s o hf a w hA Q hQ => punctualref_There_r0 K w0 x0 l1 A1 c1 x2 hR1 hL1 s o hf a w hA Q hQ) ?_
  rintro _ a w1 _ ⟨rfl, hb⟩
  obtain rfl := si h
  exact hb

/-! punctual/punctualref.Lean -/
abbrev punctualref_Lean.Post (w0 : World) (r : List Int) (e : Ending) (w : World) : Prop := ∃ (v0 : Value), e = .returned (v0) ∧ St w0 w [Own.of v0 3 r]
def punctualref_Lean.r0 (x2 : Int) : Int × (List Int) → Option ((Int × (List Int)) ⊕ ((List Int) ⊕ (List Int)))
 | (z1, m1) =>
  if z1 < ((List.replicate ((IntKind.i64.wrap (x2 + 1)).toNat) (0 : Int)).length : Int) then
   if 0 ≤ z1 then
    match m1[(z1).toNat]? with
    | none => none
    | some e1 =>
     some (.inl (IntKind.i64.wrap (z1 + 1), (m1.set ((z1).toNat) z1)))
   else
    none
  else
   some (.inr (.inl m1))
def punctualref_Lean.r2 (K : Nat) (x0 : Int) (l1 : List SWindow) (x2 : Int) (z2 : Int) : Int × Int × (List Int) → Option ((Int × Int × (List Int)) ⊕ ((List Int) ⊕ (List Int)))
 | (z3, z4, m6) =>
  if z4 ≤ x2 then
   if 0 ≤ z4 then
    match m6[(z4).toNat]? with
    | none => none
    | some e2 =>
     if z3 < e2 then
      match punctualref_There.f K x0 l1 (IntKind.i64.wrap (z2 + z4)) with
      | none => none
      | some r1 =>
       if r1 = true then
        some (.inl (IntKind.i64.wrap (z3 + 1), IntKind.i64.wrap (z4 + 1), (m6.set ((z4).toNat) z3)))
       else
        some (.inl (z3, IntKind.i64.wrap (z4 + 1), (m6.set ((z4).toNat) z3)))
     else
      match punctualref_There.f K x0 l1 (IntKind.i64.wrap (z2 + z4)) with
      | none => none
      | some r2 =>
       if r2 = true then
        some (.inl (IntKind.i64.wrap (z3 + 1), IntKind.i64.wrap (z4 + 1), m6))
       else
        some (.inl (z3, IntKind.i64.wrap (z4 + 1), m6))
   else
    none
  else
   some (.inr (.inl m6))
def punctualref_Lean.r1 (K : Nat) (x0 : Int) (l1 : List SWindow) (x2 : Int) : Int × (List Int) → Option ((Int × (List Int)) ⊕ ((List Int) ⊕ (List Int)))
 | (z2, m4) =>
  if z2 < x0 then
   match iter (punctualref_Lean.r2 K x0 l1 x2 z2) K (0, 0, m4) with
   | none => none
   | some (.inl m8) =>
    some (.inl (IntKind.i64.wrap (z2 + 1), m8))
   | some (.inr rr1) =>
    some (.inr (.inr rr1))
  else
   some (.inr (.inl m4))
def punctualref_Lean.f (K : Nat) (x0 : Int) (l1 : List SWindow) (x2 : Int) : Option (List Int) :=
 if 0 ≤ (IntKind.i64.wrap (x2 + 1)) then
  if ((IntKind.i64.wrap (x2 + 1)).toNat) ≤ 17592186044416 then
   match iter (punctualref_Lean.r0 x2) K (0, (List.replicate ((IntKind.i64.wrap (x2 + 1)).toNat) (0 : Int))) with
   | none => none
   | some (.inl m3) =>
    match iter (punctualref_Lean.r1 K x0 l1 x2) K (0, m3) with
    | none => none
    | some (.inl m9) =>
     some m9
    | some (.inr rr2) =>
     some rr2
   | some (.inr rr3) =>
    some rr3
  else
   none
 else
  none
abbrev punctualref_Lean.A0 (w0 : World) (x0 : Int) (l1 : List SWindow) (A1 : Option Addr) (c1 : Nat) (x2 : Int) (Z1 : Option Addr) (cz1 : Nat) : (Int × (List Int)) → Act → World → Prop := fun (s : Int × (List Int)) a w => St w0 w [Own.of (.slice Z1 s.2.length cz1) 3 s.2] ∧ Frm 54 a [(0, vI x0), (1, .slice A1 l1.length c1), (2, vI x2), (7, (.slice Z1 s.2.length cz1)), (16, vI ((List.replicate ((IntKind.i64.wrap (x2 + 1)).toNat) (0 : Int)).length : Int)), (17, vI s.1)]
abbrev punctualref_Lean.B0 (w0 : World) (x0 : Int) (l1 : List SWindow) (A1 : Option Addr) (c1 : Nat) (x2 : Int) (Z1 : Option Addr) (cz1 : Nat) : ((List Int) ⊕ (List Int)) → Exit → Act → World → Prop := Exits 0 (fun (s : (List Int)) a w => St w0 w [Own.of (.slice Z1 s.length cz1) 3 s] ∧ Frm 54 a [(0, vI x0), (1, .slice A1 l1.length c1), (2, vI x2), (7, (.slice Z1 s.length cz1))]) (Rets Tryd.prog Tryd.f85 (punctualref_Lean.Post w0))
theorem punctualref_Lean_r0 (K : Nat) (w0 : World) (x0 : Int) (l1 : List SWindow) (A1 : Option Addr) (c1 : Nat) (x2 : Int) (hR1 : RdL w0 A1 l1) (hL1 : l1.length ≤ c1) (hc1 : 0 ≤ (IntKind.i64.wrap (x2 + 1))) (hc2 : ((IntKind.i64.wrap (x2 + 1)).toNat) ≤ 17592186044416) (Z1 : Option Addr) (cz1 : Nat) (s : Int × (List Int)) (o : (Int × (List Int)) ⊕ ((List Int) ⊕ (List Int))) (h : punctualref_Lean.r0 x2 s = some o) (a : Act) (w : World) (hA : punctualref_Lean.A0 w0 x0 l1 A1 c1 x2 Z1 cz1 s a w) (Q : Exit → Act → World → Prop) (hQ : ∀ x a w, Outs (punctualref_Lean.A0 w0 x0 l1 A1 c1 x2 Z1 cz1) (punctualref_Lean.B0 w0 x0 l1 A1 c1 x2 Z1 cz1) o x a w → Q x a w) : (subF Tryd.f85 [1, 1, 0, 1, 0, 0]).wp Tryd.prog Q a w := by
 obtain ⟨z1, m1⟩ := s
 obtain ⟨hS, hF⟩ := hA
 replace hS : St w0 w [Own.of (.slice Z1 m1.length cz1) 3 m1] := hS
 simp only [punctualref_Lean.r0] at h
 refine (?_ : WE Tryd.prog 54 (subF Tryd.f85 [1, 1, 0, 1, 0, 0]) Q [(0, vI x0), (1, .slice A1 l1.length c1), (2, vI x2), (7, (.slice Z1 m1.length cz1)), (16, vI ((List.replicate ((IntKind.i64.wrap (x2 + 1)).toNat) (0 : Int)).length : Int)), (17, vI z1)] w) a hF
 clear hF a
 refine ws fun K5 hK5 => ?_
 refine wr [(0, 0)] ?_
 refine gb0 [0] [(18, .bool (decide (z1 < ((List.replicate ((IntKind.i64.wrap (x2 + 1)).toNat) (0 : Int)).length : Int))))] ?_
 refine gn hK5 ?_
 refine ws fun K6 hK6 => ?_
 by_cases hc3 : z1 < ((List.replicate ((IntKind.i64.wrap (x2 + 1)).toNat) (0 : Int)).length : Int)
 ·rw [if_pos hc3] at h
  refine wk 18 (decide (z1 < ((List.replicate ((IntKind.i64.wrap (x2 + 1)).toNat) (0 : Int)).length : Int))) true (decide_eq_true hc3) ?_
  refine we_true (by kernel_rfl) ?_
  refine we_skip fun a hF => hK6 _ _ ?_ a hF
  refine ws fun K7 hK7 => ?_
  refine we_block ?_
  refine ws fun K8 hK8 => ?_
  refine wr [(0, 0), (1, 0)] ?_
  refine gb0 [0, 1] [(8, vI z1), (19, vI z1)] ?_
  refine gn hK8 ?_
  refine wr [(0, 0), (1, 0), (2, 0), (3, 0), (4, 2)] ?_
  refine gb0 [0, 1, 2] [(22, vI z1), (21, vI z1), (20, (.slice Z1 m1.length cz1))] ?_
  by_cases hc4 : 0 ≤ z1
  ·rw [if_pos hc4] at h
   rcases hx1 : m1[(z1).toNat]? with _ | e1
   ·rw [hx1] at h; cases h
   rw [hx1] at h
   simp only [] at h
   refine gi 23 0 24 3 1 m1.length cz1 (.tmp 20) (.tmp 21) Z1 .i64 z1 ((z1).toNat) ((hS.rdAt 0 rfl).eqSome (pos_of_get hx1)) (Int.toNat_of_nonneg hc4).symm (lt_of_get hx1) ?_
   refine ge_seti (α := Int) (A := Z1) (nn := m1.length) (c := cz1) (t := 3) (l := m1) (x := e1) (x' := z1) (jn := ((z1).toNat)) (j := 0) (vs := [vI z1]) (l' := [.stored ⟨blkOf Z1, offOf Z1 + ((z1).toNat) * 1, none⟩ (vI z1)]) hS (by kernel_rfl) (by kernel_rfl) hx1 rfl rfl rfl fun w2 hS2 => ?_
   have hS3 : St w0 w2 [Own.of (.slice Z1 m1.length cz1) 3 (m1.set ((z1).toNat) z1)] := hS2
   have hE1 : m1.length = (m1.set ((z1).toNat) z1).length := hS3.lenAt 0 rfl
   have hS4 : St w0 w2 [Own.of (.slice Z1 (m1.set ((z1).toNat) z1).length cz1) 3 (m1.set ((z1).toNat) z1)] := by rw [← hE1]; exact hS3
   refine ge_same (t := 7) (v := (.slice Z1 m1.length cz1)) (v' := (.slice Z1 (m1.set ((z1).toNat) z1).length cz1)) (by kernel_rfl) (by rw [hE1]) ?_
   refine ge_same (t := 20) (v := (.slice Z1 m1.length cz1)) (v' := (.slice Z1 (m1.set ((z1).toNat) z1).length cz1)) (by kernel_rfl) (by rw [hE1]) ?_
   refine gn hK7 ?_
   refine wr [(0, 0), (1, 0)] ?_
   refine gb0 [0, 1] [(17, vI (IntKind.i64.wrap (z1 + 1))), (24, vI (IntKind.i64.wrap (z1 + 1)))] ?_
   obtain rfl := si h
   exact ge_nil fun a hF => hQ _ _ _ (Outs.again ⟨hS4, hF.weaken ea⟩)
  ·rw [if_neg hc4] at h
   cases h
 ·rw [if_neg hc3] at h
  refine wk 18 (decide (z1 < ((List.replicate ((IntKind.i64.wrap (x2 + 1)).toNat) (0 : Int)).length : Int))) false (decide_eq_false hc3) ?_
  refine we_false (by kernel_rfl) ?_
  obtain rfl := si h
  exact we_exit fun a hF => hQ _ _ _ (Outs.out nofun (Exits.here ⟨hS, hF.weaken ea⟩))
abbrev punctualref_Lean.A2 (w0 : World) (x0 : Int) (l1 : List SWindow) (A1 : Option Addr) (c1 : Nat) (x2 : Int) (Z1 : Option Addr) (cz1 : Nat) (z2 : Int) : (Int × Int × (List Int)) → Act → World → Prop := fun (s : Int × Int × (List Int)) a w => St w0 w [Own.of (.slice Z1 s.2.2.length cz1) 3 s.2.2] ∧ Frm 54 a [(0, vI x0), (1, .slice A1 l1.length c1), (2, vI x2), (7, (.slice Z1 s.2.2.length cz1)), (9, vI z2), (10, vI s.1), (11, vI s.2.1)]
abbrev punctualref_Lean.B2 (w0 : World) (x0 : Int) (l1 : List SWindow) (A1 : Option Addr) (c1 : Nat) (x2 : Int) (Z1 : Option Addr) (cz1 : Nat) (z2 : Int) : ((List Int) ⊕ (List Int)) → Exit → Act → World → Prop := Exits 4 (fun (s : (List Int)) a w => St w0 w [Own.of (.slice Z1 s.length cz1) 3 s] ∧ Frm 54 a [(0, vI x0), (1, .slice A1 l1.length c1), (2, vI x2), (7, (.slice Z1 s.length cz1)), (9, vI z2)]) (Rets Tryd.prog Tryd.f85 (punctualref_Lean.Post w0))
theorem punctualref_Lean_r2 (K : Nat) (w0 : World) (x0 : Int) (l1 : List SWindow) (A1 : Option Addr) (c1 : Nat) (x2 : Int) (hR1 : RdL w0 A1 l1) (hL1 : l1.length ≤ c1) (hc1 : 0 ≤ (IntKind.i64.wrap (x2 + 1))) (hc2 : ((IntKind.i64.wrap (x2 + 1)).toNat) ≤ 17592186044416) (Z1 : Option Addr) (cz1 : Nat) (m3 : List Int) (z2 : Int) (m4 : List Int) (hc5 : z2 < x0) (s : Int × Int × (List Int)) (o : (Int × Int × (List Int)) ⊕ ((List Int) ⊕ (List Int))) (h : punctualref_Lean.r2 K x0 l1 x2 z2 s = some o) (a : Act) (w : World) (hA : punctualref_Lean.A2 w0 x0 l1 A1 c1 x2 Z1 cz1 z2 s a w) (Q : Exit → Act → World → Prop) (hQ : ∀ x a w, Outs (punctualref_Lean.A2 w0 x0 l1 A1 c1 x2 Z1 cz1 z2) (punctualref_Lean.B2 w0 x0 l1 A1 c1 x2 Z1 cz1 z2) o x a w → Q x a w) : (subF Tryd.f85 [1, 1, 1, 0, 1, 0, 0, 1, 0, 0, 1, 1, 0, 0]).wp Tryd.prog Q a w := by
 obtain ⟨z3, z4, m6⟩ := s
 obtain ⟨hS, hF⟩ := hA
 replace hS : St w0 w [Own.of (.slice Z1 m6.length cz1) 3 m6] := hS
 simp only [punctualref_Lean.r2] at h
 refine (?_ : WE Tryd.prog 54 (subF Tryd.f85 [1, 1, 1, 0, 1, 0, 0, 1, 0, 0, 1, 1, 0, 0]) Q [(0, vI x0), (1, .slice A1 l1.length c1), (2, vI x2), (7, (.slice Z1 m6.length cz1)), (9, vI z2), (10, vI z3), (11, vI z4)] w) a hF
 clear hF a
 refine ws fun K16 hK16 => ?_
 refine ws fun K17 hK17 => ?_
 refine wr [(0, 0), (1, 0), (2, 0)] ?_
 refine gb0 [0, 1, 2] [(32, .bool (decide (z4 ≤ x2))), (31, vI x2), (30, vI z4)] ?_
 refine gn hK17 ?_
 by_cases hc6 : z4 ≤ x2
 ·rw [if_pos hc6] at h
  refine wk 32 (decide (z4 ≤ x2)) true (decide_eq_true hc6) ?_
  refine we_true (by kernel_rfl) ?_
  refine we_skip fun a hF => hK16 _ _ ?_ a hF
  refine ws fun K18 hK18 => ?_
  refine we_block ?_
  refine ws fun K19 hK19 => ?_
  refine ws fun K20 hK20 => ?_
  refine wr [(0, 0), (1, 0), (2, 0), (3, 0), (4, 0), (5, 0)] ?_
  refine gb0 [0, 1, 2] [(37, vI z4), (36, (.slice Z1 m6.length cz1)), (35, vI z3)] ?_
  by_cases hc7 : 0 ≤ z4
  ·rw [if_pos hc7] at h
   rcases hx2 : m6[(z4).toNat]? with _ | e2
   ·rw [hx2] at h; cases h
   rw [hx2] at h
   simp only [] at h
   refine gi 38 0 24 3 1 m6.length cz1 (.tmp 36) (.tmp 37) Z1 .i64 z4 ((z4).toNat) ((hS.rdAt 0 rfl).eqSome (pos_of_get hx2)) (Int.toNat_of_nonneg hc7).symm (lt_of_get hx2) ?_
   refine gb [4, 5] [(40, .bool (decide (z3 < e2))), (39, vI e2)] [.loaded ⟨blkOf Z1, offOf Z1 + ((z4).toNat) * 1, none⟩ (vI e2)] ⟨RdL.cell (j := 0) (hS.rdAt 0 rfl) hx2 rfl, trivial⟩ ?_
   refine gn hK20 ?_
   by_cases hc8 : z3 < e2
   ·rw [if_pos hc8] at h
    refine wk 40 (decide (z3 < e2)) true (decide_eq_true hc8) ?_
    refine we_true (by kernel_rfl) ?_
    refine wr [(0, 0), (1, 0), (2, 0), (3, 0), (4, 2)] ?_
    refine gb0 [0, 1, 2] [(43, vI z3), (42, vI z4), (41, (.slice Z1 m6.length cz1))] ?_
    refine gi 44 0 24 3 1 m6.length cz1 (.tmp 41) (.tmp 42) Z1 .i64 z4 ((z4).toNat) ((hS.rdAt 0 rfl).eqSome (pos_of_get hx2)) (Int.toNat_of_nonneg hc7).symm (lt_of_get hx2) ?_
    refine ge_seti (α := Int) (A := Z1) (nn := m6.length) (c := cz1) (t := 3) (l := m6) (x := e2) (x' := z3) (jn := ((z4).toNat)) (j := 0) (vs := [vI z3]) (l' := [.stored ⟨blkOf Z1, offOf Z1 + ((z4).toNat) * 1, none⟩ (vI z3)]) hS (by kernel_rfl) (by kernel_rfl) hx2 rfl rfl rfl fun w4 hS6 => ?_
    have hS7 : St w0 w4 [Own.of (.slice Z1 m6.length cz1) 3 (m6.set ((z4).toNat) z3)] := hS6
    have hE2 : m6.length = (m6.set ((z4).toNat) z3).length := hS7.lenAt 0 rfl
    have hS8 : St w0 w4 [Own.of (.slice Z1 (m6.set ((z4).toNat) z3).length cz1) 3 (m6.set ((z4).toNat) z3)] := by rw [← hE2]; exact hS7
    refine ge_same (t := 7) (v := (.slice Z1 m6.length cz1)) (v' := (.slice Z1 (m6.set ((z4).toNat) z3).length cz1)) (by kernel_rfl) (by rw [hE2]) ?_
    refine ge_same (t := 36) (v := (.slice Z1 m6.length cz1)) (v' := (.slice Z1 (m6.set ((z4).toNat) z3).length cz1)) (by kernel_rfl) (by rw [hE2]) ?_
    refine ge_same (t := 41) (v := (.slice Z1 m6.length cz1)) (v' := (.slice Z1 (m6.set ((z4).toNat) z3).length cz1)) (by kernel_rfl) (by rw [hE2]) ?_
    refine gn hK19 ?_
    refine ws fun K21 hK21 => ?_
    refine wr [(0, 0), (1, 0), (2, 0), (3, 0), (4, 0), (5, 1)] ?_
    rcases hq2 : punctualref_There.f K x0 l1 (IntKind.i64.wrap (z2 + z4)) with _ | r1
    ·rw [hq2] at h; cases h
    rw [hq2] at h
    simp only [] at h
    refine gb0 [0, 1, 2, 3, 4] [(49, vI (IntKind.i64.wrap (z2 + z4))), (48, vI z4), (47, vI z2), (46, .slice A1 l1.length c1), (45, vI x0)] ?_
    refine ge_call (d := some 50) (f := 90) (args := #[vI x0, .slice A1 l1.length c1, vI (IntKind.i64.wrap (z2 + z4))]) (by kernel_rfl) (punctualref_There_ok K x0 l1 A1 c1 (IntKind.i64.wrap (z2 + z4)) _ (hS8.rd hR1) hL1 _ hq2) ?_
    rintro _ w5 ⟨rfl, hS9⟩
    refine ⟨_, rfl, hS9.below, ?_⟩
    have hS10 := hS8.call hS9
    refine gn hK21 ?_
    by_cases hc9 : r1 = true
    ·rw [if_pos hc9] at h
     refine wk 50 r1 true hc9 ?_
     refine we_true (by kernel_rfl) ?_
     refine wr [(0, 0), (1, 0), (2, 0)] ?_
     refine gb0 [0, 1, 2] [(10, vI (IntKind.i64.wrap (z3 + 1))), (52, vI (IntKind.i64.wrap (z3 + 1))), (51, vI z3)] ?_
     refine gn hK18 ?_
     refine wr [(0, 0), (1, 0), (2, 0)] ?_
     refine gb0 [0, 1, 2] [(11, vI (IntKind.i64.wrap (z4 + 1))), (34, vI (IntKind.i64.wrap (z4 + 1))), (33, vI z4)] ?_
     obtain rfl := si h
     exact ge_nil fun a hF => hQ _ _ _ (Outs.again ⟨hS10, hF.weaken ea⟩)
    ·rw [if_neg hc9] at h
     refine wk 50 r1 false (Bool.eq_false_iff.2 hc9) ?_
     refine we_false (by kernel_rfl) ?_
     refine we_skip fun a hF => hK18 _ _ ?_ a hF
     refine wr [(0, 0), (1, 0), (2, 0)] ?_
     refine gb0 [0, 1, 2] [(11, vI (IntKind.i64.wrap (z4 + 1))), (34, vI (IntKind.i64.wrap (z4 + 1))), (33, vI z4)] ?_
     obtain rfl := si h
     exact ge_nil fun a hF => hQ _ _ _ (Outs.again ⟨hS10, hF.weaken ea⟩)
   ·rw [if_neg hc8] at h
    refine wk 40 (decide (z3 < e2)) false (decide_eq_false hc8) ?_
    refine we_false (by kernel_rfl) ?_
    refine we_skip fun a hF => hK19 _ _ ?_ a hF
    refine ws fun K22 hK22 => ?_
    refine wr [(0, 0), (1, 0), (2, 0), (3, 0), (4, 0), (5, 1)] ?_
    rcases hq3 : punctualref_There.f K x0 l1 (IntKind.i64.wrap (z2 + z4)) with _ | r2
    ·rw [hq3] at h; cases h
    rw [hq3] at h
    simp only [] at h
    refine gb0 [0, 1, 2, 3, 4] [(49, vI (IntKind.i64.wrap (z2 + z4))), (48, vI z4), (47, vI z2), (46, .slice A1 l1.length c1), (45, vI x0)] ?_
    refine ge_call (d := some 50) (f := 90) (args := #[vI x0, .slice A1 l1.length c1, vI (IntKind.i64.wrap (z2 + z4))]) (by kernel_rfl) (punctualref_There_ok K x0 l1 A1 c1 (IntKind.i64.wrap (z2 + z4)) _ (hS.rd hR1) hL1 _ hq3) ?_
    rintro _ w6 ⟨rfl, hS11⟩
    refine ⟨_, rfl, hS11.below, ?_⟩
    have hS12 := hS.call hS11
    refine gn hK22 ?_
    by_cases hc10 : r2 = true
    ·rw [if_pos hc10] at h
     refine wk 50 r2 true hc10 ?_
     refine we_true (by kernel_rfl) ?_
     refine wr [(0, 0), (1, 0), (2, 0)] ?_
     refine gb0 [0, 1, 2] [(10, vI (IntKind.i64.wrap (z3 + 1))), (52, vI (IntKind.i64.wrap (z3 + 1))), (51, vI z3)] ?_
     refine gn hK18 ?_
     refine wr [(0, 0), (1, 0), (2, 0)] ?_
     refine gb0 [0, 1, 2] [(11, vI (IntKind.i64.wrap (z4 + 1))), (34, vI (IntKind.i64.wrap (z4 + 1))), (33, vI z4)] ?_
     obtain rfl := si h
     exact ge_nil fun a hF => hQ _ _ _ (Outs.again ⟨hS12, hF.weaken ea⟩)
    ·rw [if_neg hc10] at h
     refine wk 50 r2 false (Bool.eq_false_iff.2 hc10) ?_
     refine we_false (by kernel_rfl) ?_
     refine we_skip fun a hF => hK18 _ _ ?_ a hF
     refine wr [(0, 0), (1, 0), (2, 0)] ?_
     refine gb0 [0, 1, 2] [(11, vI (IntKind.i64.wrap (z4 + 1))), (34, vI (IntKind.i64.wrap (z4 + 1))), (33, vI z4)] ?_
     obtain rfl := si h
     exact ge_nil fun a hF => hQ _ _ _ (Outs.again ⟨hS12, hF.weaken ea⟩)
  ·rw [if_neg hc7] at h
   cases h
 ·rw [if_neg hc6] at h
  refine wk 32 (decide (z4 ≤ x2)) false (decide_eq_false hc6) ?_
  refine we_false (by kernel_rfl) ?_
  obtain rfl := si h
  exact we_exit fun a hF => hQ _ _ _ (Outs.out nofun (Exits.here ⟨hS, hF.weaken ea⟩))
abbrev punctualref_Lean.A1 (w0 : World) (x0 : Int) (l1 : List SWindow) (A1 : Option Addr) (c1 : Nat) (x2 : Int) (Z1 : Option Addr) (cz1 : Nat) : (Int × (List Int)) → Act → World → Prop := fun (s : Int × (List Int)) a w => St w0 w [Own.of (.slice Z1 s.2.length cz1) 3 s.2] ∧ Frm 54 a [(0, vI x0), (1, .slice A1 l1.length c1), (2, vI x2), (7, (.slice Z1 s.2.length cz1)), (9, vI s.1)]
abbrev punctualref_Lean.B1 (w0 : World) (Z1 : Option Addr) (cz1 : Nat) : ((List Int) ⊕ (List Int)) → Exit → Act → World → Prop := Exits 2 (fun (s : (List Int)) a w => St w0 w [Own.of (.slice Z1 s.length cz1) 3 s] ∧ Frm 54 a [(7, (.slice Z1 s.length cz1))]) (Rets Tryd.prog Tryd.f85 (punctualref_Lean.Post w0))
theorem punctualref_Lean_r1 (K : Nat) (w0 : World) (x0 : Int) (l1 : List SWindow) (A1 : Option Addr) (c1 : Nat) (x2 : Int) (hR1 : RdL w0 A1 l1) (hL1 : l1.length ≤ c1) (hc1 : 0 ≤ (IntKind.i64.wrap (x2 + 1))) (hc2 : ((IntKind.i64.wrap (x2 + 1)).toNat) ≤ 17592186044416) (Z1 : Option Addr) (cz1 : Nat) (m3 : List Int) (s : Int × (List Int)) (o : (Int × (List Int)) ⊕ ((List Int) ⊕ (List Int))) (h : punctualref_Lean.r1 K x0 l1 x2 s = some o) (a : Act) (w : World) (hA : punctualref_Lean.A1 w0 x0 l1 A1 c1 x2 Z1 cz1 s a w) (Q : Exit → Act → World → Prop) (hQ : ∀ x a w, Outs (punctualref_Lean.A1 w0 x0 l1 A1 c1 x2 Z1 cz1) (punctualref_Lean.B1 w0 Z1 cz1) o x a w → Q x a w) : (subF Tryd.f85 [1, 1, 1, 0, 1, 0, 0]).wp Tryd.prog Q a w := by
 obtain ⟨z2, m4⟩ := s
 obtain ⟨hS, hF⟩ := hA
 replace hS : St w0 w [Own.of (.slice Z1 m4.length cz1) 3 m4] := hS
 simp only [punctualref_Lean.r1] at h
 refine (?_ : WE Tryd.prog 54 (subF Tryd.f85 [1, 1, 1, 0, 1, 0, 0]) Q [(0, vI x0), (1, .slice A1 l1.length c1), (2, vI x2), (7, (.slice Z1 m4.length cz1)), (9, vI z2)] w) a hF
 clear hF a
 refine ws fun K11 hK11 => ?_
 refine ws fun K12 hK12 => ?_
 refine wr [(0, 0), (1, 0), (2, 0)] ?_
 refine gb0 [0, 1, 2] [(27, .bool (decide (z2 < x0))), (26, vI x0), (25, vI z2)] ?_
 refine gn hK12 ?_
 by_cases hc5 : z2 < x0
 ·rw [if_pos hc5] at h
  refine wk 27 (decide (z2 < x0)) true (decide_eq_true hc5) ?_
  refine we_true (by kernel_rfl) ?_
  refine we_skip fun a hF => hK11 _ _ ?_ a hF
  refine ws fun K13 hK13 => ?_
  refine we_block ?_
  refine ws fun K14 hK14 => ?_
  refine wr [(0, 0)] ?_
  refine gb0 [0] [(10, vI 0)] ?_
  refine gn hK14 ?_
  refine ws fun K15 hK15 => ?_
  refine wr [(0, 0)] ?_
  refine gb0 [0] [(11, vI 0)] ?_
  refine gn hK15 ?_
  refine we_block ?_
  rcases hq4 : iter (punctualref_Lean.r2 K x0 l1 x2 z2) K (0, 0, m4) with _ | (m8 | rr1)
  ·rw [hq4] at h; cases h
  ·rw [hq4] at h
   simp only [] at h
   refine we_iter (A := punctualref_Lean.A2 w0 x0 l1 A1 c1 x2 Z1 cz1 z2) (B := punctualref_Lean.B2 w0 x0 l1 A1 c1 x2 Z1 cz1 z2) hq4 (fun a hF => ⟨hS, hF.weaken ea⟩) (fun s o hf a w hA Q hQ => punctualref_Lean_r2 K w0 x0 l1 A1 c1 x2 hR1 hL1 hc1 hc2 Z1 cz1 m3 z2 m4 hc5 s o hf a w hA Q hQ) ?_
   rintro _ a w7 _ ⟨rfl, hS13, hF⟩
   replace hS13 : St w0 w7 [Own.of (.slice Z1 m8.length cz1) 3 m8] := hS13
   refine hK13 [(0, vI x0), (1, .slice A1 l1.length c1), (2, vI x2), (7, (.slice Z1 m8.length cz1)), (9, vI z2)] w7 ?_ a hF
   refine wr [(0, 0), (1, 0), (2, 0)] ?_
   refine gb0 [0, 1, 2] [(9, vI (IntKind.i64.wrap (z2 + 1))), (29, vI (IntKind.i64.wrap (z2 + 1))), (28, vI z2)] ?_
   obtain rfl := si h
   exact ge_nil fun a hF => hQ _ _ _ (Outs.again ⟨hS13, hF.weaken ea⟩)
  ·rw [hq4] at h
   simp only [] at h
   refine we_iter (A := punctualref_Lean.A2 w0 x0 l1 A1 c1 x2 Z1 cz1 z2) (B := punctualref_Lean.B2 w0 x0 l1 A1 c1 x2 Z1 cz1 z2) hq4 (fun a hF => ⟨hS, hF.weaken ea⟩) (fun s o hf a w hA Q hQ => punctualref_Lean_r2 K w0 x0 l1 A1 c1 x2 hR1 hL1 hc1 hc2 Z1 cz1 m3 z2 m4 hc5 s o hf a w hA Q hQ) ?_
   rintro _ a w1 _ ⟨rfl, hb⟩
   obtain rfl := si h
   exact hQ _ _ _ (Outs.out nofun (Exits.on ⟨rfl, hb⟩))
 ·rw [if_neg hc5] at h
  refine wk 27 (decide (z2 < x0)) false (decide_eq_false hc5) ?_
  refine we_false (by kernel_rfl) ?_
  obtain rfl := si h
  exact we_exit fun a hF => hQ _ _ _ (Outs.out nofun (Exits.here ⟨hS, hF.weaken ea⟩))
theorem punctualref_Lean_ok (K : Nat) (x0 : Int) (l1 : List SWindow) (A1 : Option Addr) (c1 : Nat) (x2 : Int) (w0 : World) (hR1 : RdL w0 A1 l1) (hL1 : l1.length ≤ c1) (r : List Int) (h : punctualref_Lean.f K x0 l1 x2 = some r) :
  Calls Tryd.prog 85 #[vI x0, .slice A1 l1.length c1, vI x2] w0 (punctualref_Lean.Post w0 r) := by
 have hS := St.start w0
 unfold punctualref_Lean.f at h
 refine calls_enter (n := 54) (args := [vI x0, .slice A1 l1.length c1, vI x2]) (fn := Tryd.f85) rfl rfl rfl rfl ?_
 show WE _ _ _ _ [(0, vI x0), (1, .slice A1 l1.length c1), (2, vI x2)] _
 refine ws fun K1 hK1 => ?_
 refine wr [(0, 0)] ?_
 refine gb0 [0] [(6, .slice none 0 0)] ?_
 refine gn hK1 ?_
 refine ws fun K2 hK2 => ?_
 refine wr [(0, 0), (1, 0), (2, 1), (3, 0)] ?_
 refine gb0 [0, 1] [(13, vI (IntKind.i64.wrap (x2 + 1))), (12, vI x2)] ?_
 by_cases hc1 : 0 ≤ (IntKind.i64.wrap (x2 + 1))
 ·rw [if_pos hc1] at h
  by_cases hc2 : ((IntKind.i64.wrap (x2 + 1)).toNat) ≤ 17592186044416
  ·rw [if_pos hc2] at h
   refine ge_make (α := Int) (d := 14) (t := 24) (el := 3) (bytes := 8) (l := ((IntKind.i64.wrap (x2 + 1)).toNat)) (c := ((IntKind.i64.wrap (x2 + 1)).toNat)) (x := (.tmp 13)) (y := (.tmp 13)) (ty := 24) (k1 := .i64) (k2 := .i64) (li := (IntKind.i64.wrap (x2 + 1))) (ci := (IntKind.i64.wrap (x2 + 1))) (z := vI 0) (z' := (0 : Int)) (by kernel_rfl) (by kernel_rfl) (by kernel_rfl) (Int.toNat_of_nonneg hc1).symm (Int.toNat_of_nonneg hc1).symm (by kernel_rfl) (by kernel_rfl) rfl hS (Nat.le_refl _) rfl (by omega) fun v1 w1 _ hS1 => ?_
   refine gb0 [3] [(7, v1)] ?_
   refine gn hK2 ?_
   refine ws fun K3 hK3 => ?_
   refine ws fun K4 hK4 => ?_
   refine wr [(0, 0), (1, 0), (2, 0)] ?_
   refine gb0 [0] [(15, v1)] ?_
   obtain ⟨Z1, cz1, rfl⟩ := hS1.open 0 rfl
   refine gb0 [1, 2] [(17, vI 0), (16, vI ((List.replicate ((IntKind.i64.wrap (x2 + 1)).toNat) (0 : Int)).length : Int))] ?_
   refine gn hK4 ?_
   refine we_block ?_
   rcases hq1 : iter (punctualref_Lean.r0 x2) K (0, (List.replicate ((IntKind.i64.wrap (x2 + 1)).toNat) (0 : Int))) with _ | (m3 | rr3)
   ·rw [hq1] at h; cases h
   ·rw [hq1] at h
    simp only [] at h
    refine we_iter (A := punctualref_Lean.A0 w0 x0 l1 A1 c1 x2 Z1 cz1) (B := punctualref_Lean.B0 w0 x0 l1 A1 c1 x2 Z1 cz1) hq1 (fun a hF => ⟨hS1, hF.weaken ea⟩) (fun s o hf a w hA Q hQ => punctualref_Lean_r0 K w0 x0 l1 A1 c1 x2 hR1 hL1 hc1 hc2 Z1 cz1 s o hf a w hA Q hQ) ?_
    rintro _ a w3 _ ⟨rfl, hS5, hF⟩
    replace hS5 : St w0 w3 [Own.of (.slice Z1 m3.length cz1) 3 m3] := hS5
    refine hK3 [(0, vI x0), (1, .slice A1 l1.length c1), (2, vI x2), (7, (.slice Z1 m3.length cz1))] w3 ?_ a hF
    refine ws fun K9 hK9 => ?_
    refine ws fun K10 hK10 => ?_
    refine wr [(0, 0)] ?_
    refine gb0 [0] [(9, vI 0)] ?_
    refine gn hK10 ?_
    refine we_block ?_
    rcases hq5 : iter (punctualref_Lean.r1 K x0 l1 x2) K (0, m3) with _ | (m9 | rr2)
    ·rw [hq5] at h; cases h
    ·rw [hq5] at h
     simp only [] at h
     refine we_iter (A := punctualref_Lean.A1 w0 x0 l1 A1 c1 x2 Z1 cz1) (B := punctualref_Lean.B1 w0 Z1 cz1) hq5 (fun a hF => ⟨hS5, hF.weaken ea⟩) (fun s o hf a w hA Q hQ => punctualref_Lean_r1 K w0 x0 l1 A1 c1 x2 hR1 hL1 hc1 hc2 Z1 cz1 m3 s o hf a w hA Q hQ) ?_
     rintro _ a w8 _ ⟨rfl, hS14, hF⟩
     replace hS14 : St w0 w8 [Own.of (.slice Z1 m9.length cz1) 3 m9] := hS14
     refine hK9 [(7, (.slice Z1 m9.length cz1))] w8 ?_ a hF
     refine ws fun K23 hK23 => ?_
     refine wr [(0, 0), (1, 0)] ?_
     refine gb0 [0, 1] [(6, (.slice Z1 m9.length cz1)), (53, (.slice Z1 m9.length cz1))] ?_
     refine gn hK23 ?_
     obtain rfl := si h
     exact we_ret (pr0 [.tmp 6] [(.slice Z1 m9.length cz1)] ⟨(.slice Z1 m9.length cz1), rfl, hS14⟩)
    ·rw [hq5] at h
     simp only [] at h
     refine we_iter (A := punctualref_Lean.A1 w0 x0 l1 A1 c1 x2 Z1 cz1) (B := punctualref_Lean.B1 w0 Z1 cz1) hq5 (fun a hF => ⟨hS5, hF.weaken ea⟩) (fun s o hf a w hA Q hQ => punctualref_Lean_r1 K w0 x0 l1 A1 c1 x2 hR1 hL1 hc1 hc2 Z1 cz1 m3 s o hf a w hA Q hQ) ?_
     rintro _ a w1 _ ⟨rfl, hb⟩
     obtain rfl := si h
     exact hb
   ·rw [hq1] at h
    simp only [] at h
    refine we_iter (A := punctualref_Lean.A0 w0 x0 l1 A1 c1 x2 Z1 cz1) (B := punctualref_Lean.B0 w0 x0 l1 A1 c1 x2 Z1 cz1) hq1 (fun a hF => ⟨hS1, hF.weaken ea⟩) (fun s o hf a w hA Q hQ => punctualref_Lean_r0 K w0 x0 l1 A1 c1 x2 hR1 hL1 hc1 hc2 Z1 cz1 s o hf a w hA Q hQ) ?_
    rintro _ a w1 _ ⟨rfl, hb⟩
    obtain rfl := si h
    exact hb
  ·rw [if_neg hc2] at h
   cases h
 ·rw [if_neg hc1] at h
  cases h

/-! punctual/punctualref.WithinOf -/
abbrev punctualref_WithinOf.Post (w0 : World) (r : Int × SFault) (e : Ending) (w : World) : Prop := e = .returned (.tuple #[vI r.1, .agg #[vI r.2.Code, vI r.2.At]]) ∧ St w0 w []
def punctualref_WithinOf.r1 (l0 : List STask) (x1 : Int) (e1 : STask) (z1 : Int) : Int × Nat → Option ((Int × Nat) ⊕ (Int ⊕ (Int × SFault)))
 | (z2, i1) =>
  if (i1 : Int) < (l0.length : Int) then
   match l0[i1]? with
   | none => none
   | some e2 =>
    if (i1 : Int) = x1 then
     some (.inl (z2, (i1 + 1)))
    else
     if e2.P ≥ e1.P then
      match punctualref_up.f (IntKind.i64.wrap (z1 + e2.J)) e2.T with
      | none => none
      | some r4 =>
       some (.inl (IntKind.i64.wrap (z2 + (IntKind.i64.wrap (r4 * e2.C))), (i1 + 1)))
     else
      some (.inl (z2, (i1 + 1)))
  else
   some (.inr (.inl z2))
def punctualref_WithinOf.r0 (K : Nat) (l0 : List STask) (x1 : Int) (r1 : Int × SFault) (e1 : STask) (r3 : List Int) : Int → Option (Int ⊕ (Unit ⊕ (Int × SFault)))
 | z1 =>
  if (IntKind.i64.wrap (z1 + e1.J)) ≤ e1.D then
   match iter (punctualref_WithinOf.r1 l0 x1 e1 z1) K (e1.C, 0) with
   | none => none
   | some (.inl z4) =>
    if 0 ≤ z1 then
     match r3[(z1).toNat]? with
     | none => none
     | some e3 =>
      if e3 ≥ z4 then
       some (.inr (.inr (IntKind.i64.wrap (z1 + e1.J), (⟨0, 0⟩ : SFault))))
      else
       some (.inl (IntKind.i64.wrap (z1 + 1)))
    else
     none
   | some (.inr rr1) =>
    some (.inr (.inr rr1))
  else
   some (.inr (.inl ()))
def punctualref_WithinOf.f (K : Nat) (l0 : List STask) (x1 : Int) (x2 : Int) (l3 : List SWindow) : Option (Int × SFault) :=
 match punctualref_ResponseOf.f K l0 x1 0 with
 | none => none
 | some r1 =>
  if r1.2.Code = 0 then
   match punctualref_CheckFrame.f K x2 l3 with
   | none => none
   | some r2 =>
    if r2.Code = 0 then
     if 0 ≤ x1 then
      match l0[(x1).toNat]? with
      | none => none
      | some e1 =>
       match punctualref_Lean.f K x2 l3 e1.D with
       | none => none
       | some r3 =>
        match iter (punctualref_WithinOf.r0 K l0 x1 r1 e1 r3) K e1.C with
        | none => none
        | some (.inl _) =>
         some (0, (punctualref_F.f 13 x1))
        | some (.inr rr2) =>
         some rr2
     else
      none
    else
     some (0, r2)
  else
   some (0, r1.2)
abbrev punctualref_WithinOf.A1 (w0 : World) (l0 : List STask) (A0 : Option Addr) (c0 : Nat) (x1 : Int) (b1 : Nat) (e1 : STask) (b4 : Nat) (r3 : List Int) (Z1 : Option Addr) (cz1 : Nat) (z1 : Int) : (Int × Nat) → Act → World → Prop := fun (s : Int × Nat) a w => St w0 w [Own.blk b4 (.cells #[.string e1.Name, vI e1.C, vI e1.T, vI e1.D, vI e1.J, vI e1.O, vI e1.P] 51 (0, 0)), Own.blk b1 (.cells #[vI 0, vI 0] 39 (0, 0)), Own.of (.slice Z1 r3.length cz1) 3 r3] ∧ Frm 101 a [(0, .slice A0 l0.length c0), (1, vI x1), (9, pP b1 0), (13, pP b4 0), (14, (.slice Z1 r3.length cz1)), (15, vI z1), (16, vI s.1), (58, .slice A0 l0.length c0), (59, vI (l0.length : Int)), (60, vI (s.2 : Int))]
abbrev punctualref_WithinOf.B1 (w0 : World) (l0 : List STask) (A0 : Option Addr) (c0 : Nat) (x1 : Int) (b1 : Nat) (e1 : STask) (b4 : Nat) (r3 : List Int) (Z1 : Option Addr) (cz1 : Nat) (z1 : Int) : (Int ⊕ (Int × SFault)) → Exit → Act → World → Prop := Exits 2 (fun (s : Int) a w => St w0 w [Own.blk b4 (.cells #[.string e1.Name, vI e1.C, vI e1.T, vI e1.D, vI e1.J, vI e1.O, vI e1.P] 51 (0, 0)), Own.blk b1 (.cells #[vI 0, vI 0] 39 (0, 0)), Own.of (.slice Z1 r3.length cz1) 3 r3] ∧ Frm 101 a [(0, .slice A0 l0.length c0), (1, vI x1), (9, pP b1 0), (13, pP b4 0), (14, (.slice Z1 r3.length cz1)), (15, vI z1), (16, vI s)]) (Rets Tryd.prog Tryd.f27 (punctualref_WithinOf.Post w0))
theorem punctualref_WithinOf_r1 (K : Nat) (w0 : World) (l0 : List STask) (A0 : Option Addr) (c0 : Nat) (x1 : Int) (x2 : Int) (l3 : List SWindow) (A3 : Option Addr) (c3 : Nat) (hR0 : RdL w0 A0 l0) (hL0 : l0.length ≤ c0) (hR3 : RdL w0 A3 l3) (hL3 : l3.length ≤ c3) (b1 : Nat) (r1 : Int × SFault) (b2 : Nat) (hc1 : r1.2.Code = 0) (r2 : SFault) (b3 : Nat) (hc2 : r2.Code = 0) (hc3 : 0 ≤ x1) (e1 : STask) (hx4 : l0[(x1).toNat]? = some e1) (b4 : Nat) (r3 : List Int) (Z1 : Option Addr) (cz1 : Nat) (z1 : Int) (hc4 : (IntKind.i64.wrap (z1 + e1.J)) ≤ e1.D) (s : Int × Nat) (o : (Int × Nat) ⊕ (Int ⊕ (Int × SFault))) (h : punctualref_WithinOf.r1 l0 x1 e1 z1 s = some o) (a : Act) (w : World) (hA : punctualref_WithinOf.A1 w0 l0 A0 c0 x1 b1 e1 b4 r3 Z1 cz1 z1 s a w) (Q : Exit → Act → World → Prop) (hQ : ∀ x a w, Outs (punctualref_WithinOf.A1 w0 l0 A0 c0 x1 b1 e1 b4 r3 Z1 cz1 z1) (punctualref_WithinOf.B1 w0 l0 A0 c0 x1 b1 e1 b4 r3 Z1 cz1 z1) o x a w → Q x a w) : (subF Tryd.f27 [1, 1, 1, 1, 1, 0, 1, 0, 0, 1, 0, 0, 1, 0, 1, 0, 0]).wp Tryd.prog Q a w := by
 obtain ⟨z2, i1⟩ := s
 obtain ⟨hS, hF⟩ := hA
 replace hS : St w0 w [Own.blk b4 (.cells #[.string e1.Name, vI e1.C, vI e1.T, vI e1.D, vI e1.J, vI e1.O, vI e1.P] 51 (0, 0)), Own.blk b1 (.cells #[vI 0, vI 0] 39 (0, 0)), Own.of (.slice Z1 r3.length cz1) 3 r3] := hS
 simp only [punctualref_WithinOf.r1] at h
 refine (?_ : WE Tryd.prog 101 (subF Tryd.f27 [1, 1, 1, 1, 1, 0, 1, 0, 0, 1, 0, 0, 1, 0, 1, 0, 0]) Q [(0, .slice A0 l0.length c0), (1, vI x1), (9, pP b1 0), (13, pP b4 0), (14, (.slice Z1 r3.length cz1)), (15, vI z1), (16, vI z2), (58, .slice A0 l0.length c0), (59, vI (l0.length : Int)), (60, vI (i1 : Int))] w) a hF
 clear hF a
 refine ws fun K18 hK18 => ?_
 refine wr [(0, 0)] ?_
 refine gb0 [0] [(61, .bool (decide ((i1 : Int) < (l0.length : Int))))] ?_
 refine gn hK18 ?_
 refine ws fun K19 hK19 => ?_
 by_cases hc5 : (i1 : Int) < (l0.length : Int)
 ·rw [if_pos hc5] at h
  refine wk 61 (decide ((i1 : Int) < (l0.length : Int))) true (decide_eq_true hc5) ?_
  refine we_true (by kernel_rfl) ?_
  refine we_skip fun a hF => hK19 _ _ ?_ a hF
  refine ws fun K20 hK20 => ?_
  refine we_block ?_
  refine ws fun K21 hK21 => ?_
  refine wr [(0, 0), (1, 0), (2, 0), (3, 1), (4, 0), (5, 2)] ?_
  refine gb0 [0] [(62, vI (i1 : Int))] ?_
  rcases hx6 : l0[i1]? with _ | e2
  ·rw [hx6] at h; cases h
  rw [hx6] at h
  simp only [] at h
  refine gi 63 0 47 51 7 l0.length c0 (.tmp 58) (.tmp 60) A0 .i64 (i1 : Int) i1 ((hS.rd hR0).eqSome (pos_of_get hx6)) rfl (lt_of_get hx6) ?_
  refine gb [2] [(64, .agg #[.string e2.Name, vI e2.C, vI e2.T, vI e2.D, vI e2.J, vI e2.O, vI e2.P])] [.loaded ⟨blkOf A0, offOf A0 + i1 * 7, none⟩ (.string e2.Name), .loaded ⟨blkOf A0, offOf A0 + i1 * 7 + 1, none⟩ (vI e2.C), .loaded ⟨blkOf A0, offOf A0 + i1 * 7 + 2, none⟩ (vI e2.T), .loaded ⟨blkOf A0, offOf A0 + i1 * 7 + 3, none⟩ (vI e2.D), .loaded ⟨blkOf A0, offOf A0 + i1 * 7 + 4, none⟩ (vI e2.J), .loaded ⟨blkOf A0, offOf A0 + i1 * 7 + 5, none⟩ (vI e2.O), .loaded ⟨blkOf A0, offOf A0 + i1 * 7 + 6, none⟩ (vI e2.P)] ⟨RdL.cell (j := 0) (hS.rd hR0) hx6 rfl, RdL.cell (j := 1) (hS.rd hR0) hx6 rfl, RdL.cell (j := 2) (hS.rd hR0) hx6 rfl, RdL.cell (j := 3) (hS.rd hR0) hx6 rfl, RdL.cell (j := 4) (hS.rd hR0) hx6 rfl, RdL.cell (j := 5) (hS.rd hR0) hx6 rfl, RdL.cell (j := 6) (hS.rd hR0) hx6 rfl, trivial⟩ ?_
  refine gw (some 18) (.cells #[.string (⟨#[]⟩), vI 0, vI 0, vI 0, vI 0, vI 0, vI 0] 51) (fun b => pP b 0) hS fun b5 w11 hx7 hS23 => ?_
  refine gb0 [4] [(17, vI (i1 : Int))] ?_
  refine gs b5 0 #[.string (⟨#[]⟩), vI 0, vI 0, vI 0, vI 0, vI 0, vI 0] 51 [.string e2.Name, vI e2.C, vI e2.T, vI e2.D, vI e2.J, vI e2.O, vI e2.P] hS23 fun w12 hS24 => ?_
  have hS25 : St w0 w12 [Own.blk b5 (.cells #[.string e2.Name, vI e2.C, vI e2.T, vI e2.D, vI e2.J, vI e2.O, vI e2.P] 51 (0, 0)), Own.blk b4 (.cells #[.string e1.Name, vI e1.C, vI e1.T, vI e1.D, vI e1.J, vI e1.O, vI e1.P] 51 (0, 0)), Own.blk b1 (.cells #[vI 0, vI 0] 39 (0, 0)), Own.of (.slice Z1 r3.length cz1) 3 r3] := hS24
  refine gn hK21 ?_
  refine ws fun K22 hK22 => ?_
  refine wr [(0, 0), (1, 0), (2, 0), (3, 0), (4, 0), (5, 0), (6, 0), (7, 0), (8, 0), (9, 0)] ?_
  refine gb0 [0, 1, 2, 3] [(68, .bool ((i1 : Int) != x1)), (67, .bool ((i1 : Int) != x1)), (66, vI x1), (65, vI (i1 : Int))] ?_
  by_cases hc6 : (i1 : Int) = x1
  ·rw [if_pos hc6] at h
   refine gk 68 ((i1 : Int) != x1) false (bne_eq_false_iff_eq.2 hc6) ?_
   refine gb0 [4, 5, 6, 7, 8, 9] [(74, .bool false), (73, undef), (72, undef), (71, undef), (70, undef), (69, undef)] ?_
   refine gn hK22 ?_
   refine we_false (by kernel_rfl) ?_
   refine we_skip fun a hF => hK20 _ _ ?_ a hF
   refine wr [(0, 0), (1, 0)] ?_
   refine ge_addn (d := 87) (ty := 3) (x := (.tmp 60)) (y := (.const (vI 1))) (t := 3) (t2 := 3) (k := .i64) (m := i1) (by kernel_rfl) (by kernel_rfl) (by kernel_rfl) (by have h0 := hR0.small; omega) ?_
   refine gb0 [1] [(60, vI ((i1 + 1 : Nat) : Int))] ?_
   have hS26 := hS25.bring 3 rfl
   have hS27 := hS26.bring 3 rfl
   have hS28 := hS27.bring 3 rfl
   have hS29 := hS28.takeN 3
   obtain rfl := si h
   exact ge_nil fun a hF => hQ _ _ _ (Outs.again ⟨hS29, hF.weaken ea⟩)
  ·rw [if_neg hc6] at h
   refine gk 68 ((i1 : Int) != x1) true (bne_iff_ne.2 hc6) ?_
   refine gb [4, 5, 6, 7, 8, 9] [(74, .bool (decide (e2.P ≥ e1.P))), (73, .bool (decide (e2.P ≥ e1.P))), (72, vI e1.P), (71, pP b4 6), (70, vI e2.P), (69, pP b5 6)] [.loaded ⟨b5, 6, none⟩ (vI e2.P), .loaded ⟨b4, 6, none⟩ (vI e1.P)] ⟨hS25.c 0, hS25.c 1, trivial⟩ ?_
   refine gn hK22 ?_
   by_cases hc7 : e2.P ≥ e1.P
   ·rw [if_pos hc7] at h
    refine wk 74 (decide (e2.P ≥ e1.P)) true (decide_eq_true hc7) ?_
    refine we_true (by kernel_rfl) ?_
    refine we_draws (by kernel_rfl) [(0, 0), (1, 0), (2, 0), (3, 0), (4, 0), (5, 0), (6, 0), (8, 0), (9, 0), (7, 1), (10, 0), (11, 0), (12, 0)] (by kernel_rfl) ?_
    have hS30 := hS25.drew
    rcases hq4 : punctualref_up.f (IntKind.i64.wrap (z1 + e2.J)) e2.T with _ | r4
    ·rw [hq4] at h; cases h
    rw [hq4] at h
    simp only [] at h
    refine gb [0, 1, 2, 3, 4, 5, 6, 8, 9] [(84, vI e2.C), (83, pP b5 1), (81, vI e2.T), (80, pP b5 2), (79, vI (IntKind.i64.wrap (z1 + e2.J))), (78, vI e2.J), (77, pP b5 4), (76, vI z1), (75, vI z2)] [.loaded ⟨b5, 4, none⟩ (vI e2.J), .loaded ⟨b5, 2, none⟩ (vI e2.T), .loaded ⟨b5, 1, none⟩ (vI e2.C)] ⟨hS30.c 0, hS30.c 0, hS30.c 0, trivial⟩ ?_
    refine ge_call (d := some 82) (f := 86) (args := #[vI (IntKind.i64.wrap (z1 + e2.J)), vI e2.T]) (by kernel_rfl) (punctualref_up_ok (IntKind.i64.wrap (z1 + e2.J)) e2.T _ _ hq4) ?_
    rintro _ w13 ⟨rfl, hS31⟩
    refine ⟨_, rfl, hS31.below, ?_⟩
    have hS32 := hS30.call hS31
    refine gb0 [10, 11, 12] [(16, vI (IntKind.i64.wrap (z2 + (IntKind.i64.wrap (r4 * e2.C))))), (86, vI (IntKind.i64.wrap (z2 + (IntKind.i64.wrap (r4 * e2.C))))), (85, vI (IntKind.i64.wrap (r4 * e2.C)))] ?_
    refine gn hK20 ?_
    refine wr [(0, 0), (1, 0)] ?_
    refine ge_addn (d := 87) (ty := 3) (x := (.tmp 60)) (y := (.const (vI 1))) (t := 3) (t2 := 3) (k := .i64) (m := i1) (by kernel_rfl) (by kernel_rfl) (by kernel_rfl) (by have h0 := hR0.small; omega) ?_
    refine gb0 [1] [(60, vI ((i1 + 1 : Nat) : Int))] ?_
    have hS33 := hS32.bring 3 rfl
    have hS34 := hS33.bring 3 rfl
    have hS35 := hS34.bring 3 rfl
    have hS36 := hS35.takeN 3
    obtain rfl := si h
    exact ge_nil fun a hF => hQ _ _ _ (Outs.again ⟨hS36, hF.weaken ea⟩)
   ·rw [if_neg hc7] at h
    refine wk 74 (decide (e2.P ≥ e1.P)) false (decide_eq_false hc7) ?_
    refine we_false (by kernel_rfl) ?_
    refine we_skip fun a hF => hK20 _ _ ?_ a hF
    refine wr [(0, 0), (1, 0)] ?_
    refine ge_addn (d := 87) (ty := 3) (x := (.tmp 60)) (y := (.const (vI 1))) (t := 3) (t2 := 3) (k := .i64) (m := i1) (by kernel_rfl) (by kernel_rfl) (by kernel_rfl) (by have h0 := hR0.small; omega) ?_
    refine gb0 [1] [(60, vI ((i1 + 1 : Nat) : Int))] ?_
    have hS37 := hS25.bring 3 rfl
    have hS38 := hS37.bring 3 rfl
    have hS39 := hS38.bring 3 rfl
    have hS40 := hS39.takeN 3
    obtain rfl := si h
    exact ge_nil fun a hF => hQ _ _ _ (Outs.again ⟨hS40, hF.weaken ea⟩)
 ·rw [if_neg hc5] at h
  refine wk 61 (decide ((i1 : Int) < (l0.length : Int))) false (decide_eq_false hc5) ?_
  refine we_false (by kernel_rfl) ?_
  have hS41 := hS.bring 2 rfl
  have hS42 := hS41.bring 2 rfl
  have hS43 := hS42.bring 2 rfl
  obtain rfl := si h
  exact we_exit fun a hF => hQ _ _ _ (Outs.out nofun (Exits.here ⟨hS43, hF.weaken ea⟩))
abbrev punctualref_WithinOf.A0 (w0 : World) (l0 : List STask) (A0 : Option Addr) (c0 : Nat) (x1 : Int) (b1 : Nat) (e1 : STask) (b4 : Nat) (r3 : List Int) (Z1 : Option Addr) (cz1 : Nat) : Int → Act → World → Prop := fun (s : Int) a w => St w0 w [Own.blk b4 (.cells #[.string e1.Name, vI e1.C, vI e1.T, vI e1.D, vI e1.J, vI e1.O, vI e1.P] 51 (0, 0)), Own.blk b1 (.cells #[vI 0, vI 0] 39 (0, 0)), Own.of (.slice Z1 r3.length cz1) 3 r3] ∧ Frm 101 a [(0, .slice A0 l0.length c0), (1, vI x1), (9, pP b1 0), (13, pP b4 0), (14, (.slice Z1 r3.length cz1)), (15, vI s)]
abbrev punctualref_WithinOf.B0 (w0 : World) (x1 : Int) (b1 : Nat) : (Unit ⊕ (Int × SFault)) → Exit → Act → World → Prop := Exits 0 (fun (s : Unit) a w => St w0 w [Own.blk b1 (.cells #[vI 0, vI 0] 39 (0, 0))] ∧ Frm 101 a [(1, vI x1), (9, pP b1 0)]) (Rets Tryd.prog Tryd.f27 (punctualref_WithinOf.Post w0))
theorem punctualref_WithinOf_r0 (K : Nat) (w0 : World) (l0 : List STask) (A0 : Option Addr) (c0 : Nat) (x1 : Int) (x2 : Int) (l3 : List SWindow) (A3 : Option Addr) (c3 : Nat) (hR0 : RdL w0 A0 l0) (hL0 : l0.length ≤ c0) (hR3 : RdL w0 A3 l3) (hL3 : l3.length ≤ c3) (b1 : Nat) (r1 : Int × SFault) (b2 : Nat) (hc1 : r1.2.Code = 0) (r2 : SFault) (b3 : Nat) (hc2 : r2.Code = 0) (hc3 : 0 ≤ x1) (e1 : STask) (hx4 : l0[(x1).toNat]? = some e1) (b4 : Nat) (r3 : List Int) (Z1 : Option Addr) (cz1 : Nat) (s : Int) (o : Int ⊕ (Unit ⊕ (Int × SFault))) (h : punctualref_WithinOf.r0 K l0 x1 r1 e1 r3 s = some o) (a : Act) (w : World) (hA : punctualref_WithinOf.A0 w0 l0 A0 c0 x1 b1 e1 b4 r3 Z1 cz1 s a w) (Q : Exit → Act → World → Prop) (hQ : ∀ x a w, Outs (punctualref_WithinOf.A0 w0 l0 A0 c0 x1 b1 e1 b4 r3 Z1 cz1) (punctualref_WithinOf.B0 w0 x1 b1) o x a w → Q x a w) : (subF Tryd.f27 [1, 1, 1, 1, 1, 0, 1, 0, 0]).wp Tryd.prog Q a w := by
 obtain ⟨z1, hs⟩ : ∃ z, z = s := ⟨s, rfl⟩
 subst hs
 obtain ⟨hS, hF⟩ := hA
 replace hS : St w0 w [Own.blk b4 (.cells #[.string e1.Name, vI e1.C, vI e1.T, vI e1.D, vI e1.J, vI e1.O, vI e1.P] 51 (0, 0)), Own.blk b1 (.cells #[vI 0, vI 0] 39 (0, 0)), Own.of (.slice Z1 r3.length cz1) 3 r3] := hS
 simp only [punctualref_WithinOf.r0] at h
 refine (?_ : WE Tryd.prog 101 (subF Tryd.f27 [1, 1, 1, 1, 1, 0, 1, 0, 0]) Q [(0, .slice A0 l0.length c0), (1, vI x1), (9, pP b1 0), (13, pP b4 0), (14, (.slice Z1 r3.length cz1)), (15, vI z1)] w) a hF
 clear hF a
 refine ws fun K12 hK12 => ?_
 refine ws fun K13 hK13 => ?_
 refine wr [(0, 0), (1, 0), (2, 0), (3, 0), (4, 0), (5, 0), (6, 0)] ?_
 refine gb [0, 1, 2, 3, 4, 5, 6] [(53, .bool (decide ((IntKind.i64.wrap (z1 + e1.J)) ≤ e1.D))), (52, vI e1.D), (51, pP b4 3), (50, vI (IntKind.i64.wrap (z1 + e1.J))), (49, vI e1.J), (48, pP b4 4), (47, vI z1)] [.loaded ⟨b4, 4, none⟩ (vI e1.J), .loaded ⟨b4, 3, none⟩ (vI e1.D)] ⟨hS.c 0, hS.c 0, trivial⟩ ?_
 refine gn hK13 ?_
 by_cases hc4 : (IntKind.i64.wrap (z1 + e1.J)) ≤ e1.D
 ·rw [if_pos hc4] at h
  refine wk 53 (decide ((IntKind.i64.wrap (z1 + e1.J)) ≤ e1.D)) true (decide_eq_true hc4) ?_
  refine we_true (by kernel_rfl) ?_
  refine we_skip fun a hF => hK12 _ _ ?_ a hF
  refine ws fun K14 hK14 => ?_
  refine we_block ?_
  refine ws fun K15 hK15 => ?_
  refine wr [(0, 0), (1, 0), (2, 0)] ?_
  refine gb [0, 1, 2] [(16, vI e1.C), (57, vI e1.C), (56, pP b4 1)] [.loaded ⟨b4, 1, none⟩ (vI e1.C)] ⟨hS.c 0, trivial⟩ ?_
  refine gn hK15 ?_
  refine ws fun K16 hK16 => ?_
  refine ws fun K17 hK17 => ?_
  refine wr [(0, 0), (1, 0), (2, 0)] ?_
  refine gb0 [0, 1, 2] [(60, vI 0), (59, vI (l0.length : Int)), (58, .slice A0 l0.length c0)] ?_
  refine gn hK17 ?_
  refine we_block ?_
  have hS20 := hS.bring 2 rfl
  have hS21 := hS20.bring 2 rfl
  have hS22 := hS21.bring 2 rfl
  rcases hq5 : iter (punctualref_WithinOf.r1 l0 x1 e1 z1) K (e1.C, 0) with _ | (z4 | rr1)
  ·rw [hq5] at h; cases h
  ·rw [hq5] at h
   simp only [] at h
   refine we_iter (A := punctualref_WithinOf.A1 w0 l0 A0 c0 x1 b1 e1 b4 r3 Z1 cz1 z1) (B := punctualref_WithinOf.B1 w0 l0 A0 c0 x1 b1 e1 b4 r3 Z1 cz1 z1) hq5 (fun a hF => ⟨hS22, hF.weaken ea⟩) (fun s o hf a w hA Q hQ => punctualref_WithinOf_r1 K w0 l0 A0 c0 x1 x2 l3 A3 c3 hR0 hL0 hR3 hL3 b1 r1 b2 hc1 r2 b3 hc2 hc3 e1 hx4 b4 r3 Z1 cz1 z1 hc4 s o hf a w hA Q hQ) ?_
   rintro _ a w14 _ ⟨rfl, hS44, hF⟩
   replace hS44 : St w0 w14 [Own.blk b4 (.cells #[.string e1.Name, vI e1.C, vI e1.T, vI e1.D, vI e1.J, vI e1.O, vI e1.P] 51 (0, 0)), Own.blk b1 (.cells #[vI 0, vI 0] 39 (0, 0)), Own.of (.slice Z1 r3.length cz1) 3 r3] := hS44
   refine hK16 [(0, .slice A0 l0.length c0), (1, vI x1), (9, pP b1 0), (13, pP b4 0), (14, (.slice Z1 r3.length cz1)), (15, vI z1), (16, vI z4)] w14 ?_ a hF
   refine ws fun K23 hK23 => ?_
   refine wr [(0, 0), (1, 0), (2, 0), (3, 0), (4, 0), (5, 0)] ?_
   refine gb0 [0, 1] [(89, vI z1), (88, (.slice Z1 r3.length cz1))] ?_
   by_cases hc8 : 0 ≤ z1
   ·rw [if_pos hc8] at h
    rcases hx8 : r3[(z1).toNat]? with _ | e3
    ·rw [hx8] at h; cases h
    rw [hx8] at h
    simp only [] at h
    refine gi 90 0 24 3 1 r3.length cz1 (.tmp 88) (.tmp 89) Z1 .i64 z1 ((z1).toNat) ((hS44.rdAt 2 rfl).eqSome (pos_of_get hx8)) (Int.toNat_of_nonneg hc8).symm (lt_of_get hx8) ?_
    refine gb [3, 4, 5] [(93, .bool (decide (e3 ≥ z4))), (92, vI z4), (91, vI e3)] [.loaded ⟨blkOf Z1, offOf Z1 + ((z1).toNat) * 1, none⟩ (vI e3)] ⟨RdL.cell (j := 0) (hS44.rdAt 2 rfl) hx8 rfl, trivial⟩ ?_
    refine gn hK23 ?_
    by_cases hc9 : e3 ≥ z4
    ·rw [if_pos hc9] at h
     refine wk 93 (decide (e3 ≥ z4)) true (decide_eq_true hc9) ?_
     refine we_true (by kernel_rfl) ?_
     refine ws fun K24 hK24 => ?_
     refine wr [(0, 0), (1, 0), (2, 0), (3, 0), (4, 0), (5, 0), (6, 2)] ?_
     refine gb [0, 1, 2, 3, 4, 5] [(8, vI (IntKind.i64.wrap (z1 + e1.J))), (98, .agg #[vI 0, vI 0]), (97, vI (IntKind.i64.wrap (z1 + e1.J))), (96, vI e1.J), (95, pP b4 4), (94, vI z1)] [.loaded ⟨b4, 4, none⟩ (vI e1.J)] ⟨hS44.c 0, trivial⟩ ?_
     have hS45 := hS44.bring 1 rfl
     refine gs b1 0 #[vI 0, vI 0] 39 [vI 0, vI 0] hS45 fun w15 hS46 => ?_
     have hS47 : St w0 w15 [Own.blk b1 (.cells #[vI 0, vI 0] 39 (0, 0)), Own.blk b4 (.cells #[.string e1.Name, vI e1.C, vI e1.T, vI e1.D, vI e1.J, vI e1.O, vI e1.P] 51 (0, 0)), Own.of (.slice Z1 r3.length cz1) 3 r3] := hS46
     refine gn hK24 ?_
     have hS48 := hS47.takeN 0
     obtain rfl := si h
     exact we_ret fun a hF => hQ _ _ _ (Outs.out nofun (Exits.on ⟨rfl, (pr [.tmp 8, .cell 9 39] [vI (IntKind.i64.wrap (z1 + e1.J)), .agg #[vI 0, vI 0]] [.loaded ⟨b1, 0, none⟩ (vI 0), .loaded ⟨b1, 1, none⟩ (vI 0)] ⟨hS47.c 0, hS47.c 0, trivial⟩ ⟨rfl, hS48⟩) a hF⟩))
    ·rw [if_neg hc9] at h
     refine wk 93 (decide (e3 ≥ z4)) false (decide_eq_false hc9) ?_
     refine we_false (by kernel_rfl) ?_
     refine we_skip fun a hF => hK14 _ _ ?_ a hF
     refine wr [(0, 0), (1, 0), (2, 0)] ?_
     refine gb0 [0, 1, 2] [(15, vI (IntKind.i64.wrap (z1 + 1))), (55, vI (IntKind.i64.wrap (z1 + 1))), (54, vI z1)] ?_
     have hS49 := hS44.bring 2 rfl
     have hS50 := hS49.bring 2 rfl
     have hS51 := hS50.bring 2 rfl
     obtain rfl := si h
     exact ge_nil fun a hF => hQ _ _ _ (Outs.again ⟨hS51, hF.weaken ea⟩)
   ·rw [if_neg hc8] at h
    cases h
  ·rw [hq5] at h
   simp only [] at h
   refine we_iter (A := punctualref_WithinOf.A1 w0 l0 A0 c0 x1 b1 e1 b4 r3 Z1 cz1 z1) (B := punctualref_WithinOf.B1 w0 l0 A0 c0 x1 b1 e1 b4 r3 Z1 cz1 z1) hq5 (fun a hF => ⟨hS22, hF.weaken ea⟩) (fun s o hf a w hA Q hQ => punctualref_WithinOf_r1 K w0 l0 A0 c0 x1 x2 l3 A3 c3 hR0 hL0 hR3 hL3 b1 r1 b2 hc1 r2 b3 hc2 hc3 e1 hx4 b4 r3 Z1 cz1 z1 hc4 s o hf a w hA Q hQ) ?_
   rintro _ a w1 _ ⟨rfl, hb⟩
   obtain rfl := si h
   exact hQ _ _ _ (Outs.out nofun (Exits.on ⟨rfl, hb⟩))
 ·rw [if_neg hc4] at h
  refine wk 53 (decide ((IntKind.i64.wrap (z1 + e1.J)) ≤ e1.D)) false (decide_eq_false hc4) ?_
  refine we_false (by kernel_rfl) ?_
  have hS52 := hS.bring 1 rfl
  have hS53 := hS52.takeN 1
  obtain rfl := si h
  exact we_exit fun a hF => hQ _ _ _ (Outs.out nofun (Exits.here ⟨hS53, hF.weaken ea⟩))
theorem punctualref_WithinOf_ok (K : Nat) (l0 : List STask) (A0 : Option Addr) (c0 : Nat) (x1 : Int) (x2 : Int) (l3 : List SWindow) (A3 : Option Addr) (c3 : Nat) (w0 : World) (hR0 : RdL w0 A0 l0) (hL0 : l0.length ≤ c0) (hR3 : RdL w0 A3 l3) (hL3 : l3.length ≤ c3) (r : Int × SFault) (h : punctualref_WithinOf.f K l0 x1 x2 l3 = some r) :
  Calls Tryd.prog 27 #[.slice A0 l0.length c0, vI x1, vI x2, .slice A3 l3.length c3] w0 (punctualref_WithinOf.Post w0 r) := by
 have hS := St.start w0
 unfold punctualref_WithinOf.f at h
 refine calls_enter (n := 101) (args := [.slice A0 l0.length c0, vI x1, vI x2, .slice A3 l3.length c3]) (fn := Tryd.f27) rfl rfl rfl rfl ?_
 show WE _ _ _ _ [(0, .slice A0 l0.length c0), (1, vI x1), (2, vI x2), (3, .slice A3 l3.length c3)] _
 refine ws fun K1 hK1 => ?_
 refine wr [(0, 0), (1, 1)] ?_
 refine gb0 [0] [(8, vI 0)] ?_
 refine gw (some 9) (.cells #[vI 0, vI 0] 39) (fun b => pP b 0) hS fun b1 w1 hx1 hS1 => ?_
 refine gn hK1 ?_
 refine ws fun K2 hK2 => ?_
 refine ws fun K3 hK3 => ?_
 refine wr [(0, 0), (1, 0), (2, 1), (3, 0), (4, 0), (5, 0), (6, 1), (7, 0), (8, 2)] ?_
 rcases hq1 : punctualref_ResponseOf.f K l0 x1 0 with _ | r1
 ·rw [hq1] at h; cases h
 rw [hq1] at h
 simp only [] at h
 refine gb0 [0, 1] [(21, vI x1), (20, .slice A0 l0.length c0)] ?_
 refine ge_call (d := some 22) (f := 83) (args := #[.slice A0 l0.length c0, vI x1, vI 0]) (by kernel_rfl) (punctualref_ResponseOf_ok K l0 A0 c0 x1 0 _ (hS1.rd hR0) hL0 _ hq1) ?_
 rintro _ w2 ⟨rfl, hS2⟩
 refine ⟨_, rfl, hS2.below, ?_⟩
 have hS3 := hS1.call hS2
 refine gb0 [3, 4, 5] [(24, .agg #[vI r1.2.Code, vI r1.2.At]), (23, vI r1.1), (19, .tuple #[vI r1.1, .agg #[vI r1.2.Code, vI r1.2.At]])] ?_
 refine gw (some 11) (.cells #[vI 0, vI 0] 39) (fun b => pP b 0) hS3 fun b2 w3 hx2 hS4 => ?_
 refine gb0 [7] [(10, vI r1.1)] ?_
 refine gs b2 0 #[vI 0, vI 0] 39 [vI r1.2.Code, vI r1.2.At] hS4 fun w4 hS5 => ?_
 have hS6 : St w0 w4 [Own.blk b2 (.cells #[vI r1.2.Code, vI r1.2.At] 39 (0, 0)), Own.blk b1 (.cells #[vI 0, vI 0] 39 (0, 0))] := hS5
 refine gn hK3 ?_
 refine ws fun K4 hK4 => ?_
 refine wr [(0, 0), (1, 0), (2, 0)] ?_
 refine gb [0, 1, 2] [(27, .bool (r1.2.Code != 0)), (26, vI r1.2.Code), (25, pP b2 0)] [.loaded ⟨b2, 0, none⟩ (vI r1.2.Code)] ⟨hS6.c 0, trivial⟩ ?_
 refine gn hK4 ?_
 by_cases hc1 : r1.2.Code = 0
 ·rw [if_pos hc1] at h
  refine wk 27 (r1.2.Code != 0) false (bne_eq_false_iff_eq.2 hc1) ?_
  refine we_false (by kernel_rfl) ?_
  refine we_skip fun a hF => hK2 _ _ ?_ a hF
  refine ws fun K5 hK5 => ?_
  refine ws fun K6 hK6 => ?_
  refine wr [(0, 0), (1, 0), (2, 1), (3, 1), (4, 2)] ?_
  rcases hq2 : punctualref_CheckFrame.f K x2 l3 with _ | r2
  ·rw [hq2] at h; cases h
  rw [hq2] at h
  simp only [] at h
  refine gb0 [0, 1] [(30, .slice A3 l3.length c3), (29, vI x2)] ?_
  refine ge_call (d := some 31) (f := 84) (args := #[vI x2, .slice A3 l3.length c3]) (by kernel_rfl) (punctualref_CheckFrame_ok K x2 l3 A3 c3 _ (hS6.rd hR3) hL3 _ hq2) ?_
  rintro _ w5 ⟨rfl, hS7⟩
  refine ⟨_, rfl, hS7.below, ?_⟩
  have hS8 := hS6.call hS7
  refine gw (some 12) (.cells #[vI 0, vI 0] 39) (fun b => pP b 0) hS8 fun b3 w6 hx3 hS9 => ?_
  refine gs b3 0 #[vI 0, vI 0] 39 [vI r2.Code, vI r2.At] hS9 fun w7 hS10 => ?_
  have hS11 : St w0 w7 [Own.blk b3 (.cells #[vI r2.Code, vI r2.At] 39 (0, 0)), Own.blk b2 (.cells #[vI r1.2.Code, vI r1.2.At] 39 (0, 0)), Own.blk b1 (.cells #[vI 0, vI 0] 39 (0, 0))] := hS10
  refine gn hK6 ?_
  refine ws fun K7 hK7 => ?_
  refine wr [(0, 0), (1, 0), (2, 0)] ?_
  refine gb [0, 1, 2] [(34, .bool (r2.Code != 0)), (33, vI r2.Code), (32, pP b3 0)] [.loaded ⟨b3, 0, none⟩ (vI r2.Code)] ⟨hS11.c 0, trivial⟩ ?_
  refine gn hK7 ?_
  by_cases hc2 : r2.Code = 0
  ·rw [if_pos hc2] at h
   refine wk 34 (r2.Code != 0) false (bne_eq_false_iff_eq.2 hc2) ?_
   refine we_false (by kernel_rfl) ?_
   refine we_skip fun a hF => hK5 _ _ ?_ a hF
   refine ws fun K8 hK8 => ?_
   refine wr [(0, 0), (1, 0), (2, 0), (3, 0), (4, 1), (5, 2)] ?_
   refine gb0 [0, 1] [(37, vI x1), (36, .slice A0 l0.length c0)] ?_
   by_cases hc3 : 0 ≤ x1
   ·rw [if_pos hc3] at h
    rcases hx4 : l0[(x1).toNat]? with _ | e1
    ·rw [hx4] at h; cases h
    rw [hx4] at h
    simp only [] at h
    refine gi 38 0 47 51 7 l0.length c0 (.tmp 36) (.tmp 37) A0 .i64 x1 ((x1).toNat) ((hS11.rd hR0).eqSome (pos_of_get hx4)) (Int.toNat_of_nonneg hc3).symm (lt_of_get hx4) ?_
    refine gb [3] [(39, .agg #[.string e1.Name, vI e1.C, vI e1.T, vI e1.D, vI e1.J, vI e1.O, vI e1.P])] [.loaded ⟨blkOf A0, offOf A0 + ((x1).toNat) * 7, none⟩ (.string e1.Name), .loaded ⟨blkOf A0, offOf A0 + ((x1).toNat) * 7 + 1, none⟩ (vI e1.C), .loaded ⟨blkOf A0, offOf A0 + ((x1).toNat) * 7 + 2, none⟩ (vI e1.T), .loaded ⟨blkOf A0, offOf A0 + ((x1).toNat) * 7 + 3, none⟩ (vI e1.D), .loaded ⟨blkOf A0, offOf A0 + ((x1).toNat) * 7 + 4, none⟩ (vI e1.J), .loaded ⟨blkOf A0, offOf A0 + ((x1).toNat) * 7 + 5, none⟩ (vI e1.O), .loaded ⟨blkOf A0, offOf A0 + ((x1).toNat) * 7 + 6, none⟩ (vI e1.P)] ⟨RdL.cell (j := 0) (hS11.rd hR0) hx4 rfl, RdL.cell (j := 1) (hS11.rd hR0) hx4 rfl, RdL.cell (j := 2) (hS11.rd hR0) hx4 rfl, RdL.cell (j := 3) (hS11.rd hR0) hx4 rfl, RdL.cell (j := 4) (hS11.rd hR0) hx4 rfl, RdL.cell (j := 5) (hS11.rd hR0) hx4 rfl, RdL.cell (j := 6) (hS11.rd hR0) hx4 rfl, trivial⟩ ?_
    refine gw (some 13) (.cells #[.string (⟨#[]⟩), vI 0, vI 0, vI 0, vI 0, vI 0, vI 0] 51) (fun b => pP b 0) hS11 fun b4 w8 hx5 hS12 => ?_
    refine gs b4 0 #[.string (⟨#[]⟩), vI 0, vI 0, vI 0, vI 0, vI 0, vI 0] 51 [.string e1.Name, vI e1.C, vI e1.T, vI e1.D, vI e1.J, vI e1.O, vI e1.P] hS12 fun w9 hS13 => ?_
    have hS14 : St w0 w9 [Own.blk b4 (.cells #[.string e1.Name, vI e1.C, vI e1.T, vI e1.D, vI e1.J, vI e1.O, vI e1.P] 51 (0, 0)), Own.blk b3 (.cells #[vI r2.Code, vI r2.At] 39 (0, 0)), Own.blk b2 (.cells #[vI r1.2.Code, vI r1.2.At] 39 (0, 0)), Own.blk b1 (.cells #[vI 0, vI 0] 39 (0, 0))] := hS13
    refine gn hK8 ?_
    refine ws fun K9 hK9 => ?_
    refine wr [(0, 0), (1, 0), (2, 0), (3, 0), (4, 1), (5, 0)] ?_
    rcases hq3 : punctualref_Lean.f K x2 l3 e1.D with _ | r3
    ·rw [hq3] at h; cases h
    rw [hq3] at h
    simp only [] at h
    refine gb [0, 1, 2, 3] [(43, vI e1.D), (42, pP b4 3), (41, .slice A3 l3.length c3), (40, vI x2)] [.loaded ⟨b4, 3, none⟩ (vI e1.D)] ⟨hS14.c 0, trivial⟩ ?_
    refine ge_call (d := some 44) (f := 85) (args := #[vI x2, .slice A3 l3.length c3, vI e1.D]) (by kernel_rfl) (punctualref_Lean_ok K x2 l3 A3 c3 e1.D _ (hS14.rd hR3) hL3 _ hq3) ?_
    rintro _ w10 ⟨v1, rfl, hS15⟩
    refine ⟨_, rfl, hS15.below, ?_⟩
    have hS16 := hS14.call hS15
    refine gb0 [5] [(14, v1)] ?_
    refine gn hK9 ?_
    refine ws fun K10 hK10 => ?_
    refine ws fun K11 hK11 => ?_
    refine wr [(0, 0), (1, 0), (2, 0)] ?_
    refine gb [0, 1, 2] [(15, vI e1.C), (46, vI e1.C), (45, pP b4 1)] [.loaded ⟨b4, 1, none⟩ (vI e1.C)] ⟨hS16.c 1, trivial⟩ ?_
    refine gn hK11 ?_
    refine we_block ?_
    obtain ⟨Z1, cz1, rfl⟩ := hS16.open 0 rfl
    have hS17 := hS16.bring 4 rfl
    have hS18 := hS17.bring 2 rfl
    have hS19 := hS18.takeN 3
    rcases hq6 : iter (punctualref_WithinOf.r0 K l0 x1 r1 e1 r3) K e1.C with _ | (_ | rr2)
    ·rw [hq6] at h; cases h
    ·rw [hq6] at h
     simp only [] at h
     refine we_iter (A := punctualref_WithinOf.A0 w0 l0 A0 c0 x1 b1 e1 b4 r3 Z1 cz1) (B := punctualref_WithinOf.B0 w0 x1 b1) hq6 (fun a hF => ⟨hS19, hF.weaken ea⟩) (fun s o hf a w hA Q hQ => punctualref_WithinOf_r0 K w0 l0 A0 c0 x1 x2 l3 A3 c3 hR0 hL0 hR3 hL3 b1 r1 b2 hc1 r2 b3 hc2 hc3 e1 hx4 b4 r3 Z1 cz1 s o hf a w hA Q hQ) ?_
     rintro _ a w16 _ ⟨rfl, hS54, hF⟩
     replace hS54 : St w0 w16 [Own.blk b1 (.cells #[vI 0, vI 0] 39 (0, 0))] := hS54
     refine hK10 [(1, vI x1), (9, pP b1 0)] w16 ?_ a hF
     refine ws fun K25 hK25 => ?_
     refine wr [(0, 0), (1, 1), (2, 0), (3, 2)] ?_
     refine gb0 [0] [(99, vI x1)] ?_
     refine ge_call (d := some 100) (f := 74) (args := #[vI 13, vI x1]) (by kernel_rfl) (punctualref_F_ok 13 x1 _ _ rfl) ?_
     rintro _ w17 ⟨rfl, hS55⟩
     refine ⟨_, rfl, hS55.below, ?_⟩
     have hS56 := hS54.call hS55
     refine gb0 [2] [(8, vI 0)] ?_
     refine gs b1 0 #[vI 0, vI 0] 39 [vI ((punctualref_F.f 13 x1).Code), vI ((punctualref_F.f 13 x1).At)] hS56 fun w18 hS57 => ?_
     have hS58 : St w0 w18 [Own.blk b1 (.cells #[vI ((punctualref_F.f 13 x1).Code), vI ((punctualref_F.f 13 x1).At)] 39 (0, 0))] := hS57
     refine gn hK25 ?_
     have hS59 := hS58.takeN 0
     obtain rfl := si h
     exact we_ret (pr [.tmp 8, .cell 9 39] [vI 0, .agg #[vI ((punctualref_F.f 13 x1).Code), vI ((punctualref_F.f 13 x1).At)]] [.loaded ⟨b1, 0, none⟩ (vI ((punctualref_F.f 13 x1).Code)), .loaded ⟨b1, 1, none⟩ (vI ((punctualref_F.f 13 x1).At))] ⟨hS58.c 0, hS58.c 0, trivial⟩ ⟨rfl, hS59⟩)
    ·rw [hq6] at h
     simp only [] at h
     refine we_iter (A := punctualref_WithinOf.A0 w0 l0 A0 c0 x1 b1 e1 b4 r3 Z1 cz1) (B := punctualref_WithinOf.B0 w0 x1 b1) hq6 (fun a hF => ⟨hS19, hF.weaken ea⟩) (fun s o hf a w hA Q hQ => punctualref_WithinOf_r0 K w0 l0 A0 c0 x1 x2 l3 A3 c3 hR0 hL0 hR3 hL3 b1 r1 b2 hc1 r2 b3 hc2 hc3 e1 hx4 b4 r3 Z1 cz1 s o hf a w hA Q hQ) ?_
     rintro _ a w1 _ ⟨rfl, hb⟩
     obtain rfl := si h
     exact hb
   ·rw [if_neg hc3] at h
    cases h
  ·rw [if_neg hc2] at h
   refine wk 34 (r2.Code != 0) true (bne_iff_ne.2 hc2) ?_
   refine we_true (by kernel_rfl) ?_
   refine ws fun K26 hK26 => ?_
   refine we_draws (by kernel_rfl) [(0, 0), (1, 0), (2, 2)] (by kernel_rfl) ?_
   have hS60 := hS11.drew
   refine gb [0, 1] [(8, vI 0), (35, .agg #[vI r2.Code, vI r2.At])] [.loaded ⟨b3, 0, none⟩ (vI r2.Code), .loaded ⟨b3, 1, none⟩ (vI r2.At)] ⟨hS60.c 0, hS60.c 0, trivial⟩ ?_
   have hS61 := hS60.bring 2 rfl
   refine gs b1 0 #[vI 0, vI 0] 39 [vI r2.Code, vI r2.At] hS61 fun w19 hS62 => ?_
   have hS63 : St w0 w19 [Own.blk b1 (.cells #[vI r2.Code, vI r2.At] 39 (0, 0)), Own.blk b3 (.cells #[vI r2.Code, vI r2.At] 39 (0, 0)), Own.blk b2 (.cells #[vI r1.2.Code, vI r1.2.At] 39 (0, 0))] := hS62
   refine gn hK26 ?_
   have hS64 := hS63.takeN 0
   obtain rfl := si h
   exact we_ret (pr [.tmp 8, .cell 9 39] [vI 0, .agg #[vI r2.Code, vI r2.At]] [.loaded ⟨b1, 0, none⟩ (vI r2.Code), .loaded ⟨b1, 1, none⟩ (vI r2.At)] ⟨hS63.c 0, hS63.c 0, trivial⟩ ⟨rfl, hS64⟩)
 ·rw [if_neg hc1] at h
  refine wk 27 (r1.2.Code != 0) true (bne_iff_ne.2 hc1) ?_
  refine we_true (by kernel_rfl) ?_
  refine ws fun K27 hK27 => ?_
  refine we_draws (by kernel_rfl) [(0, 0), (1, 0), (2, 2)] (by kernel_rfl) ?_
  have hS65 := hS6.drew
  refine gb [0, 1] [(8, vI 0), (28, .agg #[vI r1.2.Code, vI r1.2.At])] [.loaded ⟨b2, 0, none⟩ (vI r1.2.Code), .loaded ⟨b2, 1, none⟩ (vI r1.2.At)] ⟨hS65.c 0, hS65.c 0, trivial⟩ ?_
  have hS66 := hS65.bring 1 rfl
  refine gs b1 0 #[vI 0, vI 0] 39 [vI r1.2.Code, vI r1.2.At] hS66 fun w20 hS67 => ?_
  have hS68 : St w0 w20 [Own.blk b1 (.cells #[vI r1.2.Code, vI r1.2.At] 39 (0, 0)), Own.blk b2 (.cells #[vI r1.2.Code, vI r1.2.At] 39 (0, 0))] := hS67
  refine gn hK27 ?_
  have hS69 := hS68.takeN 0
  obtain rfl := si h
  exact we_ret (pr [.tmp 8, .cell 9 39] [vI 0, .agg #[vI r1.2.Code, vI r1.2.At]] [.loaded ⟨b1, 0, none⟩ (vI r1.2.Code), .loaded ⟨b1, 1, none⟩ (vI r1.2.At)] ⟨hS68.c 0, hS68.c 0, trivial⟩ ⟨rfl, hS69⟩)

/-! punctual/punctualref.CheckJobs -/
abbrev punctualref_CheckJobs.Post (w0 : World) (r : SFault) (e : Ending) (w : World) : Prop := e = .returned (.agg #[vI r.Code, vI r.At]) ∧ St w0 w []
def punctualref_CheckJobs.r0 (l0 : List SJob) : Nat → Option (Nat ⊕ (Unit ⊕ SFault))
 | i1 =>
  if (i1 : Int) < (l0.length : Int) then
   match l0[i1]? with
   | none => none
   | some e1 =>
    if e1.At < 0 then
     some (.inr (.inr (punctualref_F.f 3 (i1 : Int))))
    else
     if e1.At > 60000 then
      some (.inr (.inr (punctualref_F.f 3 (i1 : Int))))
     else
      if e1.C < 1 then
       some (.inr (.inr (punctualref_F.f 3 (i1 : Int))))
      else
       if e1.C > 10000 then
        some (.inr (.inr (punctualref_F.f 3 (i1 : Int))))
       else
        if e1.Due < 0 then
         some (.inr (.inr (punctualref_F.f 3 (i1 : Int))))
        else
         if e1.Due > 80000 then
          some (.inr (.inr (punctualref_F.f 3 (i1 : Int))))
         else
          some (.inl (i1 + 1))
  else
   some (.inr (.inl ()))
def punctualref_CheckJobs.f (K : Nat) (l0 : List SJob) : Option SFault :=
 if (l0.length : Int) > 4000 then
  some (punctualref_F.f 2 0)
 else
  match iter (punctualref_CheckJobs.r0 l0) K 0 with
  | none => none
  | some (.inl _) =>
   some (⟨0, 0⟩ : SFault)
  | some (.inr rr1) =>
   some rr1
abbrev punctualref_CheckJobs.A0 (w0 : World) (l0 : List SJob) (A0 : Option Addr) (c0 : Nat) (b1 : Nat) : Nat → Act → World → Prop := fun (s : Nat) a w => St w0 w [Own.blk b1 (.cells #[vI 0, vI 0] 39 (0, 0))] ∧ Frm 48 a [(2, pP b1 0), (9, .slice A0 l0.length c0), (10, vI (l0.length : Int)), (11, vI (s : Int))]
abbrev punctualref_CheckJobs.B0 (w0 : World) (b1 : Nat) : (Unit ⊕ SFault) → Exit → Act → World → Prop := Exits 0 (fun (s : Unit) a w => St w0 w [Own.blk b1 (.cells #[vI 0, vI 0] 39 (0, 0))] ∧ Frm 48 a [(2, pP b1 0)]) (Rets Tryd.prog Tryd.f87 (punctualref_CheckJobs.Post w0))
theorem punctualref_CheckJobs_r0 (K : Nat) (w0 : World) (l0 : List SJob) (A0 : Option Addr) (c0 : Nat) (hR0 : RdL w0 A0 l0) (hL0 : l0.length ≤ c0) (b1 : Nat) (hc1 : ¬ ((l0.length : Int) > 4000)) (s : Nat) (o : Nat ⊕ (Unit ⊕ SFault)) (h : punctualref_CheckJobs.r0 l0 s = some o) (a : Act) (w : World) (hA : punctualref_CheckJobs.A0 w0 l0 A0 c0 b1 s a w) (Q : Exit → Act → World → Prop) (hQ : ∀ x a w, Outs (punctualref_CheckJobs.A0 w0 l0 A0 c0 b1) (punctualref_CheckJobs.B0 w0 b1) o x a w → Q x a w) : (subF Tryd.f87 [1, 1, 0, 1, 0, 0]).wp Tryd.prog Q a w := by
 obtain ⟨i1, hs⟩ : ∃ z, z = s := ⟨s, rfl⟩
 subst hs
 obtain ⟨hS, hF⟩ := hA
 replace hS : St w0 w [Own.blk b1 (.cells #[vI 0, vI 0] 39 (0, 0))] := hS
 simp only [punctualref_CheckJobs.r0] at h
 refine (?_ : WE Tryd.prog 48 (subF Tryd.f87 [1, 1, 0, 1, 0, 0]) Q [(2, pP b1 0), (9, .slice A0 l0.length c0), (10, vI (l0.length : Int)), (11, vI (i1 : Int))] w) a hF
 clear hF a
 refine ws fun K7 hK7 => ?_
 refine wr [(0, 0)] ?_
 refine gb0 [0] [(12, .bool (decide ((i1 : Int) < (l0.length : Int))))] ?_
 refine gn hK7 ?_
 refine ws fun K8 hK8 => ?_
 by_cases hc2 : (i1 : Int) < (l0.length : Int)
 ·rw [if_pos hc2] at h
  refine wk 12 (decide ((i1 : Int) < (l0.length : Int))) true (decide_eq_true hc2) ?_
  refine we_true (by kernel_rfl) ?_
  refine we_skip fun a hF => hK8 _ _ ?_ a hF
  refine ws fun K9 hK9 => ?_
  refine we_block ?_
  refine ws fun K10 hK10 => ?_
  refine wr [(0, 0), (1, 0), (2, 0), (3, 1), (4, 0), (5, 2)] ?_
  refine gb0 [0] [(13, vI (i1 : Int))] ?_
  rcases hx2 : l0[i1]? with _ | e1
  ·rw [hx2] at h; cases h
  rw [hx2] at h
  simp only [] at h
  refine gi 14 0 49 58 5 l0.length c0 (.tmp 9) (.tmp 11) A0 .i64 (i1 : Int) i1 ((hS.rd hR0).eqSome (pos_of_get hx2)) rfl (lt_of_get hx2) ?_
  refine gb [2] [(15, .agg #[vI e1.Task, vI e1.At, vI e1.C, vI e1.Due, vI e1.P])] [.loaded ⟨blkOf A0, offOf A0 + i1 * 5, none⟩ (vI e1.Task), .loaded ⟨blkOf A0, offOf A0 + i1 * 5 + 1, none⟩ (vI e1.At), .loaded ⟨blkOf A0, offOf A0 + i1 * 5 + 2, none⟩ (vI e1.C), .loaded ⟨blkOf A0, offOf A0 + i1 * 5 + 3, none⟩ (vI e1.Due), .loaded ⟨blkOf A0, offOf A0 + i1 * 5 + 4, none⟩ (vI e1.P)] ⟨RdL.cell (j := 0) (hS.rd hR0) hx2 rfl, RdL.cell (j := 1) (hS.rd hR0) hx2 rfl, RdL.cell (j := 2) (hS.rd hR0) hx2 rfl, RdL.cell (j := 3) (hS.rd hR0) hx2 rfl, RdL.cell (j := 4) (hS.rd hR0) hx2 rfl, trivial⟩ ?_
  refine gw (some 4) (.cells #[vI 0, vI 0, vI 0, vI 0, vI 0] 58) (fun b => pP b 0) hS fun b2 w4 hx3 hS7 => ?_
  refine gb0 [4] [(3, vI (i1 : Int))] ?_
  refine gs b2 0 #[vI 0, vI 0, vI 0, vI 0, vI 0] 58 [vI e1.Task, vI e1.At, vI e1.C, vI e1.Due, vI e1.P] hS7 fun w5 hS8 => ?_
  have hS9 : St w0 w5 [Own.blk b2 (.cells #[vI e1.Task, vI e1.At, vI e1.C, vI e1.Due, vI e1.P] 58 (0, 0)), Own.blk b1 (.cells #[vI 0, vI 0] 39 (0, 0))] := hS8
  refine gn hK10 ?_
  refine ws fun K11 hK11 => ?_
  refine wr [(0, 0), (1, 0), (2, 0), (3, 0), (4, 0), (5, 0), (6, 0), (7, 0), (8, 0), (9, 0), (10, 0), (11, 0), (12, 0), (13, 0), (14, 0), (15, 0), (16, 0), (17, 0), (18, 0), (19, 0), (20, 0), (21, 0), (22, 0), (23, 0), (24, 0), (25, 0), (26, 0), (27, 0)] ?_
  refine gb [0, 1, 2, 3] [(19, .bool (decide (e1.At < 0))), (18, .bool (decide (e1.At < 0))), (17, vI e1.At), (16, pP b2 1)] [.loaded ⟨b2, 1, none⟩ (vI e1.At)] ⟨hS9.c 0, trivial⟩ ?_
  by_cases hc3 : e1.At < 0
  ·rw [if_pos hc3] at h
   refine gk 19 (decide (e1.At < 0)) true (decide_eq_true hc3) ?_
   refine gb0 [4, 5, 6, 7, 8, 9, 10, 11, 12, 13, 14, 15, 16, 17, 18, 19, 20, 21, 22, 23, 24, 25, 26, 27] [(43, .bool true), (42, undef), (41, undef), (40, undef), (39, .bool true), (38, .bool true), (37, undef), (36, undef), (35, undef), (34, .bool true), (33, .bool true), (32, undef), (31, undef), (30, undef), (29, .bool true), (28, .bool true), (27, undef), (26, undef), (25, undef), (24, .bool true), (23, .bool true), (22, undef), (21, undef), (20, undef)] ?_
   refine gn hK11 ?_
   refine we_true (by kernel_rfl) ?_
   refine ws fun K12 hK12 => ?_
   refine wr [(0, 0), (1, 1), (2, 2)] ?_
   refine gb0 [0] [(44, vI (i1 : Int))] ?_
   refine ge_call (d := some 45) (f := 74) (args := #[vI 3, vI (i1 : Int)]) (by kernel_rfl) (punctualref_F_ok 3 (i1 : Int) _ _ rfl) ?_
   rintro _ w6 ⟨rfl, hS10⟩
   refine ⟨_, rfl, hS10.below, ?_⟩
   have hS11 := hS9.call hS10
   have hS12 := hS11.bring 1 rfl
   refine gs b1 0 #[vI 0, vI 0] 39 [vI ((punctualref_F.f 3 (i1 : Int)).Code), vI ((punctualref_F.f 3 (i1 : Int)).At)] hS12 fun w7 hS13 => ?_
   have hS14 : St w0 w7 [Own.blk b1 (.cells #[vI ((punctualref_F.f 3 (i1 : Int)).Code), vI ((punctualref_F.f 3 (i1 : Int)).At)] 39 (0, 0)), Own.blk b2 (.cells #[vI e1.Task, vI e1.At, vI e1.C, vI e1.Due, vI e1.P] 58 (0, 0))] := hS13
   refine gn hK12 ?_
   have hS15 := hS14.takeN 0
   obtain rfl := si h
   exact we_ret fun a hF => hQ _ _ _ (Outs.out nofun (Exits.on ⟨rfl, (pr [.cell 2 39] [.agg #[vI ((punctualref_F.f 3 (i1 : Int)).Code), vI ((punctualref_F.f 3 (i1 : Int)).At)]] [.loaded ⟨b1, 0, none⟩ (vI ((punctualref_F.f 3 (i1 : Int)).Code)), .loaded ⟨b1, 1, none⟩ (vI ((punctualref_F.f 3 (i1 : Int)).At))] ⟨hS14.c 0, hS14.c 0, trivial⟩ ⟨rfl, hS15⟩) a hF⟩))
  ·rw [if_neg hc3] at h
   refine gk 19 (decide (e1.At < 0)) false (decide_eq_false hc3) ?_
   refine gb [4, 5, 6, 7, 8] [(24, .bool (decide (e1.At > 60000))), (23, .bool (decide (e1.At > 60000))), (22, .bool (decide (e1.At > 60000))), (21, vI e1.At), (20, pP b2 1)] [.loaded ⟨b2, 1, none⟩ (vI e1.At)] ⟨hS9.c 0, trivial⟩ ?_
   by_cases hc4 : e1.At > 60000
   ·rw [if_pos hc4] at h
    refine gk 24 (decide (e1.At > 60000)) true (decide_eq_true hc4) ?_
    refine gb0 [9, 10, 11, 12, 13, 14, 15, 16, 17, 18, 19, 20, 21, 22, 23, 24, 25, 26, 27] [(43, .bool true), (42, undef), (41, undef), (40, undef), (39, .bool true), (38, .bool true), (37, undef), (36, undef), (35, undef), (34, .bool true), (33, .bool true), (32, undef), (31, undef), (30, undef), (29, .bool true), (28, .bool true), (27, undef), (26, undef), (25, undef)] ?_
    refine gn hK11 ?_
    refine we_true (by kernel_rfl) ?_
    refine ws fun K13 hK13 => ?_
    refine wr [(0, 0), (1, 1), (2, 2)] ?_
    refine gb0 [0] [(44, vI (i1 : Int))] ?_
    refine ge_call (d := some 45) (f := 74) (args := #[vI 3, vI (i1 : Int)]) (by kernel_rfl) (punctualref_F_ok 3 (i1 : Int) _ _ rfl) ?_
    rintro _ w8 ⟨rfl, hS16⟩
    refine ⟨_, rfl, hS16.below, ?_⟩
    have hS17 := hS9.call hS16
    have hS18 := hS17.bring 1 rfl
    refine gs b1 0 #[vI 0, vI 0] 39 [vI ((punctualref_F.f 3 (i1 : Int)).Code), vI ((punctualref_F.f 3 (i1 : Int)).At)] hS18 fun w9 hS19 => ?_
    have hS20 : St w0 w9 [Own.blk b1 (.cells #[vI ((punctualref_F.f 3 (i1 : Int)).Code), vI ((punctualref_F.f 3 (i1 : Int)).At)] 39 (0, 0)), Own.blk b2 (.cells #[vI e1.Task, vI e1.At, vI e1.C, vI e1.Due, vI e1.P] 58 (0, 0))] := hS19
    refine gn hK13 ?_
    have hS21 := hS20.takeN 0
    obtain rfl := si h
    exact we_ret fun a hF => hQ _ _ _ (Outs.out nofun (Exits.on ⟨rfl, (pr [.cell 2 39] [.agg #[vI ((punctualref_F.f 3 (i1 : Int)).Code), vI ((punctualref_F.f 3 (i1 : Int)).At)]] [.loaded ⟨b1, 0, none⟩ (vI ((punctualref_F.f 3 (i1 : Int)).Code)), .loaded ⟨b1, 1, none⟩ (vI ((punctualref_F.f 3 (i1 : Int)).At))] ⟨hS20.c 0, hS20.c 0, trivial⟩ ⟨rfl, hS21⟩) a hF⟩))
   ·rw [if_neg hc4] at h
    refine gk 24 (decide (e1.At > 60000)) false (decide_eq_false hc4) ?_
    refine gb [9, 10, 11, 12, 13] [(29, .bool (decide (e1.C < 1))), (28, .bool (decide (e1.C < 1))), (27, .bool (decide (e1.C < 1))), (26, vI e1.C), (25, pP b2 2)] [.loaded ⟨b2, 2, none⟩ (vI e1.C)] ⟨hS9.c 0, trivial⟩ ?_
    by_cases hc5 : e1.C < 1
    ·rw [if_pos hc5] at h
     refine gk 29 (decide (e1.C < 1)) true (decide_eq_true hc5) ?_
     refine gb0 [14, 15, 16, 17, 18, 19, 20, 21, 22, 23, 24, 25, 26, 27] [(43, .bool true), (42, undef), (41, undef), (40, undef), (39, .bool true), (38, .bool true), (37, undef), (36, undef), (35, undef), (34, .bool true), (33, .bool true), (32, undef), (31, undef), (30, undef)] ?_
     refine gn hK11 ?_
     refine we_true (by kernel_rfl) ?_
     refine ws fun K14 hK14 => ?_
     refine wr [(0, 0), (1, 1), (2, 2)] ?_
     refine gb0 [0] [(44, vI (i1 : Int))] ?_
     refine ge_call (d := some 45) (f := 74) (args := #[vI 3, vI (i1 : Int)]) (by kernel_rfl) (punctualref_F_ok 3 (i1 : Int) _ _ rfl) ?_
     rintro _ w10 ⟨rfl, hS22⟩
     refine ⟨_, rfl, hS22.below, ?_⟩
     have hS23 := hS9.call hS22
     have hS24 := hS23.bring 1 rfl
     refine gs b1 0 #[vI 0, vI 0] 39 [vI ((punctualref_F.f 3 (i1 : Int)).Code), vI ((punctualref_F.f 3 (i1 : Int)).At)] hS24 fun w11 hS25 => ?_
     have hS26 : St w0 w11 [Own.blk b1 (.cells #[vI ((punctualref_F.f 3 (i1 : Int)).Code), vI ((punctualref_F.f 3 (i1 : Int)).At)] 39 (0, 0)), Own.blk b2 (.cells #[vI e1.Task, vI e1.At, vI e1.C, vI e1.Due, vI e1.P] 58 (0, 0))] := hS25
     refine gn hK14 ?_
     have hS27 := hS26.takeN 0
     obtain rfl := si h
     exact we_ret fun a hF => hQ _ _ _ (Outs.out nofun (Exits.on ⟨rfl, (pr [.cell 2 39] [.agg #[vI ((punctualref_F.f 3 (i1 : Int)).Code), vI ((punctualref_F.f 3 (i1 : Int)).At)]] [.loaded ⟨b1, 0, none⟩ (vI ((punctualref_F.f 3 (i1 : Int)).Code)), .loaded ⟨b1, 1, none⟩ (vI ((punctualref_F.f 3 (i1 : Int)).At))] ⟨hS26.c 0, hS26.c 0, trivial⟩ ⟨rfl, hS27⟩) a hF⟩))
    ·rw [if_neg hc5] at h
     refine gk 29 (decide (e1.C < 1)) false (decide_eq_false hc5) ?_
     refine gb [14, 15, 16, 17, 18] [(34, .bool (decide (e1.C > 10000))), (33, .bool (decide (e1.C > 10000))), (32, .bool (decide (e1.C > 10000))), (31, vI e1.C), (30, pP b2 2)] [.loaded ⟨b2, 2, none⟩ (vI e1.C)] ⟨hS9.c 0, trivial⟩ ?_
     by_cases hc6 : e1.C > 10000
     ·rw [if_pos hc6] at h
      refine gk 34 (decide (e1.C > 10000)) true (decide_eq_true hc6) ?_
      refine gb0 [19, 20, 21, 22, 23, 24, 25, 26, 27] [(43, .bool true), (42, undef), (41, undef), (40, undef), (39, .bool true), (38, .bool true), (37, undef), (36, undef), (35, undef)] ?_
      refine gn hK11 ?_
      refine we_true (by kernel_rfl) ?_
      refine ws fun K15 hK15 => ?_
      refine wr [(0, 0), (1, 1), (2, 2)] ?_
      refine gb0 [0] [(44, vI (i1 : Int))] ?_
      refine ge_call (d := some 45) (f := 74) (args := #[vI 3, vI (i1 : Int)]) (by kernel_rfl) (punctualref_F_ok 3 (i1 : Int) _ _ rfl) ?_
      rintro _ w12 ⟨rfl, hS28⟩
      refine ⟨_, rfl, hS28.below, ?_⟩
      have hS29 := hS9.call hS28
      have hS30 := hS29.bring 1 rfl
      refine gs b1 0 #[vI 0, vI 0] 39 [vI ((punctualref_F.f 3 (i1 : Int)).Code), vI ((punctualref_F.f 3 (i1 : Int)).At)] hS30 fun w13 hS31 => ?_
      have hS32 : St w0 w13 [Own.blk b1 (.cells #[vI ((punctualref_F.f 3 (i1 : Int)).Code), vI ((punctualref_F.f 3 (i1 : Int)).At)] 39 (0, 0)), Own.blk b2 (.cells #[vI e1.Task, vI e1.At, vI e1.C, vI e1.Due, vI e1.P] 58 (0, 0))] := hS31
      refine gn hK15 ?_
      have hS33 := hS32.takeN 0
      obtain rfl := si h
      exact we_ret fun a hF => hQ _ _ _ (Outs.out nofun (Exits.on ⟨rfl, (pr [.cell 2 39] [.agg #[vI ((punctualref_F.f 3 (i1 : Int)).Code), vI ((punctualref_F.f 3 (i1 : Int)).At)]] [.loaded ⟨b1, 0, none⟩ (vI ((punctualref_F.f 3 (i1 : Int)).Code)), .loaded ⟨b1, 1, none⟩ (vI ((punctualref_F.f 3 (i1 : Int)).At))] ⟨hS32.c 0, hS32.c 0, trivial⟩ ⟨rfl, hS33⟩) a hF⟩))
     ·rw [if_neg hc6] at h
      refine gk 34 (decide (e1.C > 10000)) false (decide_eq_false hc6) ?_
      refine gb [19, 20, 21, 22, 23] [(39, .bool (decide (e1.Due < 0))), (38, .bool (decide (e1.Due < 0))), (37, .bool (decide (e1.Due < 0))), (36, vI e1.Due), (35, pP b2 3)] [.loaded ⟨b2, 3, none⟩ (vI e1.Due)] ⟨hS9.c 0, trivial⟩ ?_
      by_cases hc7 : e1.Due < 0
      ·rw [if_pos hc7] at h
       refine gk 39 (decide (e1.Due < 0)) true (decide_eq_true hc7) ?_
       refine gb0 [24, 25, 26, 27] [(43, .bool true), (42, undef), (41, undef), (40, undef)] ?_
       refine gn hK11 ?_
       refine we_true (by kernel_rfl) ?_
       refine ws fun K16 hK16 => ?_
       refine wr [(0, 0), (1, 1), (2, 2)] ?_
       refine gb0 [0] [(44, vI (i1 : Int))] ?_
       refine ge_call (d := some 45) (f := 74) (args := #[vI 3, vI (i1 : Int)]) (by kernel_rfl) (punctualref_F_ok 3 (i1 : Int) _ _ rfl) ?_
       rintro _ w14 ⟨rfl, hS34⟩
       refine ⟨_, rfl, hS34.below, ?_⟩
       have hS35 := hS9.call hS34
       have hS36 := hS35.bring 1 rfl
       refine gs b1 0 #[vI 0, vI 0] 39 [vI ((punctualref_F.f 3 (i1 : Int)).Code), vI ((punctualref_F.f 3 (i1 : Int)).At)] hS36 fun w15 hS37 => ?_
       have hS38 : St w0 w15 [Own.blk b1 (.cells #[vI ((punctualref_F.f 3 (i1 : Int)).Code), vI ((punctualref_F.f 3 (i1 : Int)).At)] 39 (0, 0)), Own.blk b2 (.cells #[vI e1.Task, vI e1.At, vI e1.C, vI e1.Due, vI e1.P] 58 (0, 0))] := hS37
       refine gn hK16 ?_
       have hS39 := hS38.takeN 0
       obtain rfl := si h
       exact we_ret fun a hF => hQ _ _ _ (Outs.out nofun (Exits.on ⟨rfl, (pr [.cell 2 39] [.agg #[vI ((punctualref_F.f 3 (i1 : Int)).Code), vI ((punctualref_F.f 3 (i1 : Int)).At)]] [.loaded ⟨b1, 0, none⟩ (vI ((punctualref_F.f 3 (i1 : Int)).Code)), .loaded ⟨b1, 1, none⟩ (vI ((punctualref_F.f 3 (i1 : Int)).At))] ⟨hS38.c 0, hS38.c 0, trivial⟩ ⟨rfl, hS39⟩) a hF⟩))
      ·rw [if_neg hc7] at h
       refine gk 39 (decide (e1.Due < 0)) false (decide_eq_false hc7) ?_
       refine gb [24, 25, 26, 27] [(43, .bool (decide (e1.Due > 80000))), (42, .bool (decide (e1.Due > 80000))), (41, vI e1.Due), (40, pP b2 3)] [.loaded ⟨b2, 3, none⟩ (vI e1.Due)] ⟨hS9.c 0, trivial⟩ ?_
       refine gn hK11 ?_
       by_cases hc8 : e1.Due > 80000
       ·rw [if_pos hc8] at h
        refine wk 43 (decide (e1.Due > 80000)) true (decide_eq_true hc8) ?_
        refine we_true (by kernel_rfl) ?_
        refine ws fun K17 hK17 => ?_
        refine wr [(0, 0), (1, 1), (2, 2)] ?_
        refine gb0 [0] [(44, vI (i1 : Int))] ?_
        refine ge_call (d := some 45) (f := 74) (args := #[vI 3, vI (i1 : Int)]) (by kernel_rfl) (punctualref_F_ok 3 (i1 : Int) _ _ rfl) ?_
        rintro _ w16 ⟨rfl, hS40⟩
        refine ⟨_, rfl, hS40.below, ?_⟩
        have hS41 := hS9.call hS40
        have hS42 := hS41.bring 1 rfl
        refine gs b1 0 #[vI 0, vI 0] 39 [vI ((punctualref_F.f 3 (i1 : Int)).Code), vI ((punctualref_F.f 3 (i1 : Int)).At)] hS42 fun w17 hS43 => ?_
        have hS44 : St w0 w17 [Own.blk b1 (.cells #[vI ((punctualref_F.f 3 (i1 : Int)).Code), vI ((punctualref_F.f 3 (i1 : Int)).At)] 39 (0, 0)), Own.blk b2 (.cells #[vI e1.Task, vI e1.At, vI e1.C, vI e1.Due, vI e1.P] 58 (0, 0))] := hS43
        refine gn hK17 ?_
        have hS45 := hS44.takeN 0
        obtain rfl := si h
        exact we_ret fun a hF => hQ _ _ _ (Outs.out nofun (Exits.on ⟨rfl, (pr [.cell 2 39] [.agg #[vI ((punctualref_F.f 3 (i1 : Int)).Code), vI ((punctualref_F.f 3 (i1 : Int)).At)]] [.loaded ⟨b1, 0, none⟩ (vI ((punctualref_F.f 3 (i1 : Int)).Code)), .loaded ⟨b1, 1, none⟩ (vI ((punctualref_F.f 3 (i1 : Int)).At))] ⟨hS44.c 0, hS44.c 0, trivial⟩ ⟨rfl, hS45⟩) a hF⟩))
       ·rw [if_neg hc8] at h
        refine wk 43 (decide (e1.Due > 80000)) false (decide_eq_false hc8) ?_
        refine we_false (by kernel_rfl) ?_
        refine we_skip fun a hF => hK9 _ _ ?_ a hF
        refine wr [(0, 0), (1, 0)] ?_
        refine ge_addn (d := 46) (ty := 3) (x := (.tmp 11)) (y := (.const (vI 1))) (t := 3) (t2 := 3) (k := .i64) (m := i1) (by kernel_rfl) (by kernel_rfl) (by kernel_rfl) (by have h0 := hR0.small; omega) ?_
        refine gb0 [1] [(11, vI ((i1 + 1 : Nat) : Int))] ?_
        have hS46 := hS9.bring 1 rfl
        have hS47 := hS46.takeN 1
        obtain rfl := si h
        exact ge_nil fun a hF => hQ _ _ _ (Outs.again ⟨hS47, hF.weaken ea⟩)
 ·rw [if_neg hc2] at h
  refine wk 12 (decide ((i1 : Int) < (l0.length : Int))) false (decide_eq_false hc2) ?_
  refine we_false (by kernel_rfl) ?_
  obtain rfl := si h
  exact we_exit fun a hF => hQ _ _ _ (Outs.out nofun (Exits.here ⟨hS, hF.weaken ea⟩))
theorem punctualref_CheckJobs_ok (K : Nat) (l0 : List SJob) (A0 : Option Addr) (c0 : Nat) (w0 : World) (hR0 : RdL w0 A0 l0) (hL0 : l0.length ≤ c0) (r : SFault) (h : punctualref_CheckJobs.f K l0 = some r) :
  Calls Tryd.prog 87 #[.slice A0 l0.length c0] w0 (punctualref_CheckJobs.Post w0 r) := by
 have hS := St.start w0
 unfold punctualref_CheckJobs.f at h
 refine calls_enter (n := 48) (args := [.slice A0 l0.length c0]) (fn := Tryd.f87) rfl rfl rfl rfl ?_
 show WE _ _ _ _ [(0, .slice A0 l0.length c0)] _
 refine ws fun K1 hK1 => ?_
 refine wr [(0, 1)] ?_
 refine gw (some 2) (.cells #[vI 0, vI 0] 39) (fun b => pP b 0) hS fun b1 w1 hx1 hS1 => ?_
 refine gn hK1 ?_
 refine ws fun K2 hK2 => ?_
 refine ws fun K3 hK3 => ?_
 refine wr [(0, 0), (1, 0), (2, 0)] ?_
 refine gb0 [0, 1, 2] [(7, .bool (decide ((l0.length : Int) > 4000))), (6, vI (l0.length : Int)), (5, .slice A0 l0.length c0)] ?_
 refine gn hK3 ?_
 by_cases hc1 : (l0.length : Int) > 4000
 ·rw [if_pos hc1] at h
  refine wk 7 (decide ((l0.length : Int) > 4000)) true (decide_eq_true hc1) ?_
  refine we_true (by kernel_rfl) ?_
  refine ws fun K4 hK4 => ?_
  refine wr [(0, 1), (1, 2)] ?_
  refine ge_call (d := some 8) (f := 74) (args := #[vI 2, vI 0]) (by kernel_rfl) (punctualref_F_ok 2 0 _ _ rfl) ?_
  rintro _ w2 ⟨rfl, hS2⟩
  refine ⟨_, rfl, hS2.below, ?_⟩
  have hS3 := hS1.call hS2
  refine gs b1 0 #[vI 0, vI 0] 39 [vI ((punctualref_F.f 2 0).Code), vI ((punctualref_F.f 2 0).At)] hS3 fun w3 hS4 => ?_
  have hS5 : St w0 w3 [Own.blk b1 (.cells #[vI ((punctualref_F.f 2 0).Code), vI ((punctualref_F.f 2 0).At)] 39 (0, 0))] := hS4
  refine gn hK4 ?_
  have hS6 := hS5.takeN 0
  obtain rfl := si h
  exact we_ret (pr [.cell 2 39] [.agg #[vI ((punctualref_F.f 2 0).Code), vI ((punctualref_F.f 2 0).At)]] [.loaded ⟨b1, 0, none⟩ (vI ((punctualref_F.f 2 0).Code)), .loaded ⟨b1, 1, none⟩ (vI ((punctualref_F.f 2 0).At))] ⟨hS5.c 0, hS5.c 0, trivial⟩ ⟨rfl, hS6⟩)
 ·rw [if_neg hc1] at h
  refine wk 7 (decide ((l0.length : Int) > 4000)) false (decide_eq_false hc1) ?_
  refine we_false (by kernel_rfl) ?_
  refine we_skip fun a hF => hK2 _ _ ?_ a hF
  refine ws fun K5 hK5 => ?_
  refine ws fun K6 hK6 => ?_
  refine wr [(0, 0), (1, 0), (2, 0)] ?_
  refine gb0 [0, 1, 2] [(11, vI 0), (10, vI (l0.length : Int)), (9, .slice A0 l0.length c0)] ?_
  refine gn hK6 ?_
  refine we_block ?_
  rcases hq8 : iter (punctualref_CheckJobs.r0 l0) K 0 with _ | (_ | rr1)
  ·rw [hq8] at h; cases h
  ·rw [hq8] at h
   simp only [] at h
   refine we_iter (A := punctualref_CheckJobs.A0 w0 l0 A0 c0 b1) (B := punctualref_CheckJobs.B0 w0 b1) hq8 (fun a hF => ⟨hS1, hF.weaken ea⟩) (fun s o hf a w hA Q hQ => punctualref_CheckJobs_r0 K w0 l0 A0 c0 hR0 hL0 b1 hc1 s o hf a w hA Q hQ) ?_
   rintro _ a w18 _ ⟨rfl, hS48, hF⟩
   replace hS48 : St w0 w18 [Own.blk b1 (.cells #[vI 0, vI 0] 39 (0, 0))] := hS48
   refine hK5 [(2, pP b1 0)] w18 ?_ a hF
   refine ws fun K18 hK18 => ?_
   refine wr [(0, 0), (1, 2)] ?_
   refine gb0 [0] [(47, .agg #[vI 0, vI 0])] ?_
   refine gs b1 0 #[vI 0, vI 0] 39 [vI 0, vI 0] hS48 fun w19 hS49 => ?_
   have hS50 : St w0 w19 [Own.blk b1 (.cells #[vI 0, vI 0] 39 (0, 0))] := hS49
   refine gn hK18 ?_
   have hS51 := hS50.takeN 0
   obtain rfl := si h
   exact we_ret (pr [.cell 2 39] [.agg #[vI 0, vI 0]] [.loaded ⟨b1, 0, none⟩ (vI 0), .loaded ⟨b1, 1, none⟩ (vI 0)] ⟨hS50.c 0, hS50.c 0, trivial⟩ ⟨rfl, hS51⟩)
  ·rw [hq8] at h
   simp only [] at h
   refine we_iter (A := punctualref_CheckJobs.A0 w0 l0 A0 c0 b1) (B := punctualref_CheckJobs.B0 w0 b1) hq8 (fun a hF => ⟨hS1, hF.weaken ea⟩) (fun s o hf a w hA Q hQ => punctualref_CheckJobs_r0 K w0 l0 A0 c0 hR0 hL0 b1 hc1 s o hf a w hA Q hQ) ?_
   rintro _ a w1 _ ⟨rfl, hb⟩
   obtain rfl := si h
   exact hb

/-! punctual/punctualref.HostedOf$1 -/
abbrev punctualref_HostedOf_1.Post (w0 : World) (r : Bool) (e : Ending) (w : World) : Prop := e = .returned (.bool r) ∧ St w0 w []
def punctualref_HostedOf_1.f (K : Nat) (x0 : Int) (xf_0 : Int) (lf_1 : List SWindow) : Option Bool :=
 match punctualref_There.f K xf_0 lf_1 x0 with
 | none => none
 | some r1 =>
  some r1
theorem punctualref_HostedOf_1_ok (K : Nat) (x0 : Int) (bf_0 : Nat) (xf_0 : Int) (bf_1 : Nat) (lf_1 : List SWindow) (Af_1 : Option Addr) (cf_1 : Nat) (w0 : World) (hBf_0 : Glob w0 bf_0 [vI xf_0]) (hRf_1 : RdL w0 Af_1 lf_1) (hLf_1 : lf_1.length ≤ cf_1) (hBf_1 : Glob w0 bf_1 [.slice Af_1 lf_1.length cf_1]) (r : Bool) (h : punctualref_HostedOf_1.f K x0 xf_0 lf_1 = some r) :
  Calls Tryd.prog 89 #[vI x0, pP bf_0 0, pP bf_1 0] w0 (punctualref_HostedOf_1.Post w0 r) := by
 have hS := St.start w0
 unfold punctualref_HostedOf_1.f at h
 refine calls_enter (n := 9) (args := [vI x0, pP bf_0 0, pP bf_1 0]) (fn := Tryd.f89) rfl rfl rfl rfl ?_
 show WE _ _ _ _ [(0, vI x0), (1, pP bf_0 0), (2, pP bf_1 0)] _
 refine ws fun K1 hK1 => ?_
 refine wr [(0, 0)] ?_
 refine gb0 [0] [(4, .bool false)] ?_
 refine gn hK1 ?_
 refine ws fun K2 hK2 => ?_
 refine wr [(0, 0), (1, 0), (2, 0), (3, 1), (4, 0)] ?_
 rcases hq1 : punctualref_There.f K xf_0 lf_1 x0 with _ | r1
 ·rw [hq1] at h; cases h
 rw [hq1] at h
 simp only [] at h
 refine gb [0, 1, 2] [(7, vI x0), (6, .slice Af_1 lf_1.length cf_1), (5, vI xf_0)] [.loaded ⟨bf_0, 0, none⟩ (vI xf_0), .loaded ⟨bf_1, 0, none⟩ (.slice Af_1 lf_1.length cf_1)] ⟨hS.glob hBf_0 rfl, hS.glob hBf_1 rfl, trivial⟩ ?_
 refine ge_call (d := some 8) (f := 90) (args := #[vI xf_0, .slice Af_1 lf_1.length cf_1, vI x0]) (by kernel_rfl) (punctualref_There_ok K xf_0 lf_1 Af_1 cf_1 x0 _ (hS.rd hRf_1) hLf_1 _ hq1) ?_
 rintro _ w1 ⟨rfl, hS1⟩
 refine ⟨_, rfl, hS1.below, ?_⟩
 have hS2 := hS.call hS1
 refine gb0 [4] [(4, .bool r1)] ?_
 refine gn hK2 ?_
 obtain rfl := si h
 exact we_ret (pr0 [.tmp 4] [.bool r1] ⟨rfl, hS2⟩)

/-! punctual/punctualref.Goes -/
abbrev punctualref_Goes.Post (w0 : World) (r : Bool) (e : Ending) (w : World) : Prop := e = .returned (.bool r) ∧ St w0 w []
def punctualref_Goes.p0 (l0 : List SJob) (x1 : Int) (x2 : Int) : Option ((Int × Int × Int × Int × Int × Int × Int × Int × Int × Int) ⊕ Bool) :=
  if 0 ≤ x1 then
   match l0[(x1).toNat]? with
   | none => none
   | some e1 =>
    if 0 ≤ x2 then
     match l0[(x2).toNat]? with
     | none => none
     | some e2 =>
      some (.inl (e1.Task, e1.At, e1.C, e1.Due, e1.P, e2.Task, e2.At, e2.C, e2.Due, e2.P))
    else
     none
  else
   none
def punctualref_Goes.f (l0 : List SJob) (x1 : Int) (x2 : Int) (x3 : Int) : Option Bool :=
 match punctualref_Goes.p0 l0 x1 x2 with
 | none => none
 | some (.inl (z11, z12, z13, z14, z15, z16, z17, z18, z19, z20)) =>
  if x3 = 1 then
   if z15 = z20 then
    if x3 = 2 then
     if z14 = z19 then
      if z12 = z17 then
       some (decide (x1 < x2))
      else
       some (decide (z12 < z17))
     else
      some (decide (z14 < z19))
    else
     if z12 = z17 then
      some (decide (x1 < x2))
     else
      some (decide (z12 < z17))
   else
    some (decide (z15 > z20))
  else
   if x3 = 2 then
    if z14 = z19 then
     if z12 = z17 then
      some (decide (x1 < x2))
     else
      some (decide (z12 < z17))
    else
     some (decide (z14 < z19))
   else
    if z12 = z17 then
     some (decide (x1 < x2))
    else
     some (decide (z12 < z17))
 | some (.inr rr1) =>
  some rr1
abbrev punctualref_Goes.A0 (w0 : World) (x1 : Int) (x2 : Int) (x3 : Int) : (Int × Int × Int × Int × Int × Int × Int × Int × Int × Int) → Act → World → Prop := fun (s : Int × Int × Int × Int × Int × Int × Int × Int × Int × Int) a w => ∃ (b1 : Nat) (b2 : Nat), St w0 w [Own.blk b1 (.cells #[vI s.1, vI s.2.1, vI s.2.2.1, vI s.2.2.2.1, vI s.2.2.2.2.1] 58 (0, 0)), Own.blk b2 (.cells #[vI s.2.2.2.2.2.1, vI s.2.2.2.2.2.2.1, vI s.2.2.2.2.2.2.2.1, vI s.2.2.2.2.2.2.2.2.1, vI s.2.2.2.2.2.2.2.2.2] 58 (0, 0))] ∧ Frm 60 a [(1, vI x1), (2, vI x2), (3, vI x3), (9, pP b1 0), (10, pP b2 0)]
abbrev punctualref_Goes.B0 (w0 : World) : Bool → Exit → Act → World → Prop := Rets Tryd.prog Tryd.f127 (punctualref_Goes.Post w0)
theorem punctualref_Goes_p0 (K : Nat) (w0 : World) (l0 : List SJob) (A0 : Option Addr) (c0 : Nat) (x1 : Int) (x2 : Int) (x3 : Int) (hR0 : RdL w0 A0 l0) (hL0 : l0.length ≤ c0) (o : (Int × Int × Int × Int × Int × Int × Int × Int × Int × Int) ⊕ Bool) (h : punctualref_Goes.p0 l0 x1 x2 = some o) (w : World) (hS : St w0 w []) (Q : Exit → Act → World → Prop) (hQ : ∀ x a w, Outs (punctualref_Goes.A0 w0 x1 x2 x3) (punctualref_Goes.B0 w0) o x a w → Q x a w) : WE Tryd.prog 60 (subF Tryd.f127 [1, 0]) Q [(0, .slice A0 l0.length c0), (1, vI x1), (2, vI x2), (3, vI x3), (8, .bool false)] w := by
 simp only [punctualref_Goes.p0] at h
 refine we_orders2 (by kernel_rfl) [(3, [⟨blkOf A0, offOf A0 + ((x1).toNat) * 5, none⟩, ⟨blkOf A0, offOf A0 + ((x1).toNat) * 5 + 1, none⟩, ⟨blkOf A0, offOf A0 + ((x1).toNat) * 5 + 2, none⟩, ⟨blkOf A0, offOf A0 + ((x1).toNat) * 5 + 3, none⟩, ⟨blkOf A0, offOf A0 + ((x1).toNat) * 5 + 4, none⟩]), (7, [⟨blkOf A0, offOf A0 + ((x2).toNat) * 5, none⟩, ⟨blkOf A0, offOf A0 + ((x2).toNat) * 5 + 1, none⟩, ⟨blkOf A0, offOf A0 + ((x2).toNat) * 5 + 2, none⟩, ⟨blkOf A0, offOf A0 + ((x2).toNat) * 5 + 3, none⟩, ⟨blkOf A0, offOf A0 + ((x2).toNat) * 5 + 4, none⟩])] (.vals [0] (.vals [1] (.vals [2] (.vals [3] (.vals [4] (.vals [5] (.vals [6] (.vals [7] (.alt 8 1 (.alt 9 1 (.alt 10 2 (.alt 11 2 .fin .nomore) .nomore) .nomore) (.alt 9 1 (.alt 8 1 (.alt 10 2 (.alt 11 2 .fin .nomore) .nomore) .nomore) .nomore)))))))))) (by kernel_rfl) ?_
 have hS1 := hS.drew
 refine go2_batch [0, 1] (ans := []) (vs := [(12, vI x1), (11, .slice A0 l0.length c0)]) (l := []) (by kernel_rfl) trivial mem_nil ?_
 by_cases hc1 : 0 ≤ x1
 ·rw [if_pos hc1] at h
  rcases hx1 : l0[(x1).toNat]? with _ | e1
  ·rw [hx1] at h; cases h
  rw [hx1] at h
  simp only [] at h
  refine go2_index (d := 13) (ty := 0) (t := 49) (el := 58) (sz := 5) (m := l0.length) (c := c0) (x := (.tmp 11)) (y := (.tmp 12)) (A := A0) (k' := .i64) (j := x1) (jn := ((x1).toNat)) (b0 := blkOf A0) (o0 := offOf A0) (by kernel_rfl) (by kernel_rfl) (by kernel_rfl) (by kernel_rfl) (by kernel_rfl) ((hS1.rd hR0).eqSome (pos_of_get hx1)) (Int.toNat_of_nonneg hc1).symm (lt_of_get hx1) ?_
  refine go2_batch [3] (ans := [.val (vI e1.Task), .val (vI e1.At), .val (vI e1.C), .val (vI e1.Due), .val (vI e1.P)]) (vs := [(14, .agg #[vI e1.Task, vI e1.At, vI e1.C, vI e1.Due, vI e1.P])]) (l := [.loaded ⟨blkOf A0, offOf A0 + ((x1).toNat) * 5, none⟩ (vI e1.Task), .loaded ⟨blkOf A0, offOf A0 + ((x1).toNat) * 5 + 1, none⟩ (vI e1.At), .loaded ⟨blkOf A0, offOf A0 + ((x1).toNat) * 5 + 2, none⟩ (vI e1.C), .loaded ⟨blkOf A0, offOf A0 + ((x1).toNat) * 5 + 3, none⟩ (vI e1.Due), .loaded ⟨blkOf A0, offOf A0 + ((x1).toNat) * 5 + 4, none⟩ (vI e1.P)]) (by kernel_rfl) ⟨RdL.cell (j := 0) (hS1.rd hR0) hx1 rfl, RdL.cell (j := 1) (hS1.rd hR0) hx1 rfl, RdL.cell (j := 2) (hS1.rd hR0) hx1 rfl, RdL.cell (j := 3) (hS1.rd hR0) hx1 rfl, RdL.cell (j := 4) (hS1.rd hR0) hx1 rfl, trivial⟩ (mem_one (by kernel_rfl)) ?_
  refine go2_batch [4, 5] (ans := []) (vs := [(16, vI x2), (15, .slice A0 l0.length c0)]) (l := []) (by kernel_rfl) trivial mem_nil ?_
  by_cases hc2 : 0 ≤ x2
  ·rw [if_pos hc2] at h
   rcases hx2 : l0[(x2).toNat]? with _ | e2
   ·rw [hx2] at h; cases h
   rw [hx2] at h
   simp only [] at h
   refine go2_index (d := 17) (ty := 0) (t := 49) (el := 58) (sz := 5) (m := l0.length) (c := c0) (x := (.tmp 15)) (y := (.tmp 16)) (A := A0) (k' := .i64) (j := x2) (jn := ((x2).toNat)) (b0 := blkOf A0) (o0 := offOf A0) (by kernel_rfl) (by kernel_rfl) (by kernel_rfl) (by kernel_rfl) (by kernel_rfl) ((hS1.rd hR0).eqSome (pos_of_get hx2)) (Int.toNat_of_nonneg hc2).symm (lt_of_get hx2) ?_
   refine go2_batch [7] (ans := [.val (vI e2.Task), .val (vI e2.At), .val (vI e2.C), .val (vI e2.Due), .val (vI e2.P)]) (vs := [(18, .agg #[vI e2.Task, vI e2.At, vI e2.C, vI e2.Due, vI e2.P])]) (l := [.loaded ⟨blkOf A0, offOf A0 + ((x2).toNat) * 5, none⟩ (vI e2.Task), .loaded ⟨blkOf A0, offOf A0 + ((x2).toNat) * 5 + 1, none⟩ (vI e2.At), .loaded ⟨blkOf A0, offOf A0 + ((x2).toNat) * 5 + 2, none⟩ (vI e2.C), .loaded ⟨blkOf A0, offOf A0 + ((x2).toNat) * 5 + 3, none⟩ (vI e2.Due), .loaded ⟨blkOf A0, offOf A0 + ((x2).toNat) * 5 + 4, none⟩ (vI e2.P)]) (by kernel_rfl) ⟨RdL.cell (j := 0) (hS1.rd hR0) hx2 rfl, RdL.cell (j := 1) (hS1.rd hR0) hx2 rfl, RdL.cell (j := 2) (hS1.rd hR0) hx2 rfl, RdL.cell (j := 3) (hS1.rd hR0) hx2 rfl, RdL.cell (j := 4) (hS1.rd hR0) hx2 rfl, trivial⟩ (mem_one (by kernel_rfl)) ?_
   refine go_alt2 (fun KK hKK => ?_) ?_
   ·refine ge_one2 ?_
    refine gw (some 9) (.cells #[vI 0, vI 0, vI 0, vI 0, vI 0] 58) (fun b => pP b 0) hS1 fun b3 w1 hx3 hS2 => ?_
    refine ge_nil fun a hF => hKK _ _ (RS.of2 (l := [.loaded ⟨blkOf A0, offOf A0 + ((x1).toNat) * 5, none⟩ (vI e1.Task), .loaded ⟨blkOf A0, offOf A0 + ((x1).toNat) * 5 + 1, none⟩ (vI e1.At), .loaded ⟨blkOf A0, offOf A0 + ((x1).toNat) * 5 + 2, none⟩ (vI e1.C), .loaded ⟨blkOf A0, offOf A0 + ((x1).toNat) * 5 + 3, none⟩ (vI e1.Due), .loaded ⟨blkOf A0, offOf A0 + ((x1).toNat) * 5 + 4, none⟩ (vI e1.P), .loaded ⟨blkOf A0, offOf A0 + ((x2).toNat) * 5, none⟩ (vI e2.Task), .loaded ⟨blkOf A0, offOf A0 + ((x2).toNat) * 5 + 1, none⟩ (vI e2.At), .loaded ⟨blkOf A0, offOf A0 + ((x2).toNat) * 5 + 2, none⟩ (vI e2.C), .loaded ⟨blkOf A0, offOf A0 + ((x2).toNat) * 5 + 3, none⟩ (vI e2.Due), .loaded ⟨blkOf A0, offOf A0 + ((x2).toNat) * 5 + 4, none⟩ (vI e2.P)]) (by kernel_rfl) ⟨RdL.cell (j := 0) (hS1.rd hR0) hx1 rfl, RdL.cell (j := 1) (hS1.rd hR0) hx1 rfl, RdL.cell (j := 2) (hS1.rd hR0) hx1 rfl, RdL.cell (j := 3) (hS1.rd hR0) hx1 rfl, RdL.cell (j := 4) (hS1.rd hR0) hx1 rfl, RdL.cell (j := 0) (hS1.rd hR0) hx2 rfl, RdL.cell (j := 1) (hS1.rd hR0) hx2 rfl, RdL.cell (j := 2) (hS1.rd hR0) hx2 rfl, RdL.cell (j := 3) (hS1.rd hR0) hx2 rfl, RdL.cell (j := 4) (hS1.rd hR0) hx2 rfl, trivial⟩ ⟨RdL.cell (j := 0) (hS2.rd hR0) hx1 rfl, RdL.cell (j := 1) (hS2.rd hR0) hx1 rfl, RdL.cell (j := 2) (hS2.rd hR0) hx1 rfl, RdL.cell (j := 3) (hS2.rd hR0) hx1 rfl, RdL.cell (j := 4) (hS2.rd hR0) hx1 rfl, RdL.cell (j := 0) (hS2.rd hR0) hx2 rfl, RdL.cell (j := 1) (hS2.rd hR0) hx2 rfl, RdL.cell (j := 2) (hS2.rd hR0) hx2 rfl, RdL.cell (j := 3) (hS2.rd hR0) hx2 rfl, RdL.cell (j := 4) (hS2.rd hR0) hx2 rfl, trivial⟩) ?_ a hF
    refine go_alt2 (fun KK hKK => ?_) ?_
    ·refine ge_one2 ?_
     refine gw (some 10) (.cells #[vI 0, vI 0, vI 0, vI 0, vI 0] 58) (fun b => pP b 0) hS2 fun b4 w2 hx4 hS3 => ?_
     refine ge_nil fun a hF => hKK _ _ (RS.of2 (l := [.loaded ⟨blkOf A0, offOf A0 + ((x1).toNat) * 5, none⟩ (vI e1.Task), .loaded ⟨blkOf A0, offOf A0 + ((x1).toNat) * 5 + 1, none⟩ (vI e1.At), .loaded ⟨blkOf A0, offOf A0 + ((x1).toNat) * 5 + 2, none⟩ (vI e1.C), .loaded ⟨blkOf A0, offOf A0 + ((x1).toNat) * 5 + 3, none⟩ (vI e1.Due), .loaded ⟨blkOf A0, offOf A0 + ((x1).toNat) * 5 + 4, none⟩ (vI e1.P), .loaded ⟨blkOf A0, offOf A0 + ((x2).toNat) * 5, none⟩ (vI e2.Task), .loaded ⟨blkOf A0, offOf A0 + ((x2).toNat) * 5 + 1, none⟩ (vI e2.At), .loaded ⟨blkOf A0, offOf A0 + ((x2).toNat) * 5 + 2, none⟩ (vI e2.C), .loaded ⟨blkOf A0, offOf A0 + ((x2).toNat) * 5 + 3, none⟩ (vI e2.Due), .loaded ⟨blkOf A0, offOf A0 + ((x2).toNat) * 5 + 4, none⟩ (vI e2.P)]) (by kernel_rfl) ⟨RdL.cell (j := 0) (hS2.rd hR0) hx1 rfl, RdL.cell (j := 1) (hS2.rd hR0) hx1 rfl, RdL.cell (j := 2) (hS2.rd hR0) hx1 rfl, RdL.cell (j := 3) (hS2.rd hR0) hx1 rfl, RdL.cell (j := 4) (hS2.rd hR0) hx1 rfl, RdL.cell (j := 0) (hS2.rd hR0) hx2 rfl, RdL.cell (j := 1) (hS2.rd hR0) hx2 rfl, RdL.cell (j := 2) (hS2.rd hR0) hx2 rfl, RdL.cell (j := 3) (hS2.rd hR0) hx2 rfl, RdL.cell (j := 4) (hS2.rd hR0) hx2 rfl, trivial⟩ ⟨RdL.cell (j := 0) (hS3.rd hR0) hx1 rfl, RdL.cell (j := 1) (hS3.rd hR0) hx1 rfl, RdL.cell (j := 2) (hS3.rd hR0) hx1 rfl, RdL.cell (j := 3) (hS3.rd hR0) hx1 rfl, RdL.cell (j := 4) (hS3.rd hR0) hx1 rfl, RdL.cell (j := 0) (hS3.rd hR0) hx2 rfl, RdL.cell (j := 1) (hS3.rd hR0) hx2 rfl, RdL.cell (j := 2) (hS3.rd hR0) hx2 rfl, RdL.cell (j := 3) (hS3.rd hR0) hx2 rfl, RdL.cell (j := 4) (hS3.rd hR0) hx2 rfl, trivial⟩) ?_ a hF
     refine go_alt2 (fun KK hKK => ?_) ?_
     ·have hS4 := hS3.bring 1 rfl
      refine gs b3 0 #[vI 0, vI 0, vI 0, vI 0, vI 0] 58 [vI e1.Task, vI e1.At, vI e1.C, vI e1.Due, vI e1.P] hS4 fun w3 hS5 => ?_
      have hS6 : St w0 w3 [Own.blk b3 (.cells #[vI e1.Task, vI e1.At, vI e1.C, vI e1.Due, vI e1.P] 58 (0, 0)), Own.blk b4 (.cells #[vI 0, vI 0, vI 0, vI 0, vI 0] 58 (0, 0))] := hS5
      refine ge_nil fun a hF => hKK _ _ (RS.of2 (l := [.loaded ⟨blkOf A0, offOf A0 + ((x2).toNat) * 5, none⟩ (vI e2.Task), .loaded ⟨blkOf A0, offOf A0 + ((x2).toNat) * 5 + 1, none⟩ (vI e2.At), .loaded ⟨blkOf A0, offOf A0 + ((x2).toNat) * 5 + 2, none⟩ (vI e2.C), .loaded ⟨blkOf A0, offOf A0 + ((x2).toNat) * 5 + 3, none⟩ (vI e2.Due), .loaded ⟨blkOf A0, offOf A0 + ((x2).toNat) * 5 + 4, none⟩ (vI e2.P)]) (by kernel_rfl) ⟨RdL.cell (j := 0) (hS3.rd hR0) hx2 rfl, RdL.cell (j := 1) (hS3.rd hR0) hx2 rfl, RdL.cell (j := 2) (hS3.rd hR0) hx2 rfl, RdL.cell (j := 3) (hS3.rd hR0) hx2 rfl, RdL.cell (j := 4) (hS3.rd hR0) hx2 rfl, trivial⟩ ⟨RdL.cell (j := 0) (hS6.rd hR0) hx2 rfl, RdL.cell (j := 1) (hS6.rd hR0) hx2 rfl, RdL.cell (j := 2) (hS6.rd hR0) hx2 rfl, RdL.cell (j := 3) (hS6.rd hR0) hx2 rfl, RdL.cell (j := 4) (hS6.rd hR0) hx2 rfl, trivial⟩) ?_ a hF
      refine go_alt2 (fun KK hKK => ?_) ?_
      ·have hS7 := hS6.bring 1 rfl
       refine gs b4 0 #[vI 0, vI 0, vI 0, vI 0, vI 0] 58 [vI e2.Task, vI e2.At, vI e2.C, vI e2.Due, vI e2.P] hS7 fun w4 hS8 => ?_
       have hS9 : St w0 w4 [Own.blk b4 (.cells #[vI e2.Task, vI e2.At, vI e2.C, vI e2.Due, vI e2.P] 58 (0, 0)), Own.blk b3 (.cells #[vI e1.Task, vI e1.At, vI e1.C, vI e1.Due, vI e1.P] 58 (0, 0))] := hS8
       refine ge_nil fun a hF => hKK _ _ (RS.of2 (l := []) (by kernel_rfl) trivial trivial) ?_ a hF
       have hS10 := hS9.bring 1 rfl
       obtain rfl := si h
       exact go_fin2 fun a hF => hQ _ _ _ (Outs.again ⟨b3, b4, hS10, hF.weaken ea⟩)
      exact go_nomore2
     exact go_nomore2
    exact go_nomore2
   refine go_alt2 (fun KK hKK => ?_) ?_
   ·refine ge_one2 ?_
    refine gw (some 10) (.cells #[vI 0, vI 0, vI 0, vI 0, vI 0] 58) (fun b => pP b 0) hS1 fun b3 w1 hx3 hS2 => ?_
    refine ge_nil fun a hF => hKK _ _ (RS.of2 (l := [.loaded ⟨blkOf A0, offOf A0 + ((x1).toNat) * 5, none⟩ (vI e1.Task), .loaded ⟨blkOf A0, offOf A0 + ((x1).toNat) * 5 + 1, none⟩ (vI e1.At), .loaded ⟨blkOf A0, offOf A0 + ((x1).toNat) * 5 + 2, none⟩ (vI e1.C), .loaded ⟨blkOf A0, offOf A0 + ((x1).toNat) * 5 + 3, none⟩ (vI e1.Due), .loaded ⟨blkOf A0, offOf A0 + ((x1).toNat) * 5 + 4, none⟩ (vI e1.P), .loaded ⟨blkOf A0, offOf A0 + ((x2).toNat) * 5, none⟩ (vI e2.Task), .loaded ⟨blkOf A0, offOf A0 + ((x2).toNat) * 5 + 1, none⟩ (vI e2.At), .loaded ⟨blkOf A0, offOf A0 + ((x2).toNat) * 5 + 2, none⟩ (vI e2.C), .loaded ⟨blkOf A0, offOf A0 + ((x2).toNat) * 5 + 3, none⟩ (vI e2.Due), .loaded ⟨blkOf A0, offOf A0 + ((x2).toNat) * 5 + 4, none⟩ (vI e2.P)]) (by kernel_rfl) ⟨RdL.cell (j := 0) (hS1.rd hR0) hx1 rfl, RdL.cell (j := 1) (hS1.rd hR0) hx1 rfl, RdL.cell (j := 2) (hS1.rd hR0) hx1 rfl, RdL.cell (j := 3) (hS1.rd hR0) hx1 rfl, RdL.cell (j := 4) (hS1.rd hR0) hx1 rfl, RdL.cell (j := 0) (hS1.rd hR0) hx2 rfl, RdL.cell (j := 1) (hS1.rd hR0) hx2 rfl, RdL.cell (j := 2) (hS1.rd hR0) hx2 rfl, RdL.cell (j := 3) (hS1.rd hR0) hx2 rfl, RdL.cell (j := 4) (hS1.rd hR0) hx2 rfl, trivial⟩ ⟨RdL.cell (j := 0) (hS2.rd hR0) hx1 rfl, RdL.cell (j := 1) (hS2.rd hR0) hx1 rfl, RdL.cell (j := 2) (hS2.rd hR0) hx1 rfl, RdL.cell (j := 3) (hS2.rd hR0) hx1 rfl, RdL.cell (j := 4) (hS2.rd hR0) hx1 rfl, RdL.cell (j := 0) (hS2.rd hR0) hx2 rfl, RdL.cell (j := 1) (hS2.rd hR0) hx2 rfl, RdL.cell (j := 2) (hS2.rd hR0) hx2 rfl, RdL.cell (j := 3) (hS2.rd hR0) hx2 rfl, RdL.cell (j := 4) (hS2.rd hR0) hx2 rfl, trivial⟩) ?_ a hF
    refine go_alt2 (fun KK hKK => ?_) ?_
    ·refine ge_one2 ?_
     refine gw (some 9) (.cells #[vI 0, vI 0, vI 0, vI 0, vI 0] 58) (fun b => pP b 0) hS2 fun b4 w2 hx4 hS3 => ?_
     refine ge_nil fun a hF => hKK _ _ (RS.of2 (l := [.loaded ⟨blkOf A0, offOf A0 + ((x1).toNat) * 5, none⟩ (vI e1.Task), .loaded ⟨blkOf A0, offOf A0 + ((x1).toNat) * 5 + 1, none⟩ (vI e1.At), .loaded ⟨blkOf A0, offOf A0 + ((x1).toNat) * 5 + 2, none⟩ (vI e1.C), .loaded ⟨blkOf A0, offOf A0 + ((x1).toNat) * 5 + 3, none⟩ (vI e1.Due), .loaded ⟨blkOf A0, offOf A0 + ((x1).toNat) * 5 + 4, none⟩ (vI e1.P), .loaded ⟨blkOf A0, offOf A0 + ((x2).toNat) * 5, none⟩ (vI e2.Task), .loaded ⟨blkOf A0, offOf A0 + ((x2).toNat) * 5 + 1, none⟩ (vI e2.At), .loaded ⟨blkOf A0, offOf A0 + ((x2).toNat) * 5 + 2, none⟩ (vI e2.C), .loaded ⟨blkOf A0, offOf A0 + ((x2).toNat) * 5 + 3, none⟩ (vI e2.Due), .loaded ⟨blkOf A0, offOf A0 + ((x2).toNat) * 5 + 4, none⟩ (vI e2.P)]) (by kernel_rfl) ⟨RdL.cell (j := 0) (hS2.rd hR0) hx1 rfl, RdL.cell (j := 1) (hS2.rd hR0) hx1 rfl, RdL.cell (j := 2) (hS2.rd hR0) hx1 rfl, RdL.cell (j := 3) (hS2.rd hR0) hx1 rfl, RdL.cell (j := 4) (hS2.rd hR0) hx1 rfl, RdL.cell (j := 0) (hS2.rd hR0) hx2 rfl, RdL.cell (j := 1) (hS2.rd hR0) hx2 rfl, RdL.cell (j := 2) (hS2.rd hR0) hx2 rfl, RdL.cell (j := 3) (hS2.rd hR0) hx2 rfl, RdL.cell (j := 4) (hS2.rd hR0) hx2 rfl, trivial⟩ ⟨RdL.cell (j := 0) (hS3.rd hR0) hx1 rfl, RdL.cell (j := 1) (hS3.rd hR0) hx1 rfl, RdL.cell (j := 2) (hS3.rd hR0) hx1 rfl, RdL.cell (j := 3) (hS3.rd hR0) hx1 rfl, RdL.cell (j := 4) (hS3.rd hR0) hx1 rfl, RdL.cell (j := 0) (hS3.rd hR0) hx2 rfl, RdL.cell (j := 1) (hS3.rd hR0) hx2 rfl, RdL.cell (j := 2) (hS3.rd hR0) hx2 rfl, RdL.cell (j := 3) (hS3.rd hR0) hx2 rfl, RdL.cell (j := 4) (hS3.rd hR0) hx2 rfl, trivial⟩) ?_ a hF
     refine go_alt2 (fun KK hKK => ?_) ?_
     ·refine gs b4 0 #[vI 0, vI 0, vI 0, vI 0, vI 0] 58 [vI e1.Task, vI e1.At, vI e1.C, vI e1.Due, vI e1.P] hS3 fun w3 hS4 => ?_
      have hS5 : St w0 w3 [Own.blk b4 (.cells #[vI e1.Task, vI e1.At, vI e1.C, vI e1.Due, vI e1.P] 58 (0, 0)), Own.blk b3 (.cells #[vI 0, vI 0, vI 0, vI 0, vI 0] 58 (0, 0))] := hS4
      refine ge_nil fun a hF => hKK _ _ (RS.of2 (l := [.loaded ⟨blkOf A0, offOf A0 + ((x2).toNat) * 5, none⟩ (vI e2.Task), .loaded ⟨blkOf A0, offOf A0 + ((x2).toNat) * 5 + 1, none⟩ (vI e2.At), .loaded ⟨blkOf A0, offOf A0 + ((x2).toNat) * 5 + 2, none⟩ (vI e2.C), .loaded ⟨blkOf A0, offOf A0 + ((x2).toNat) * 5 + 3, none⟩ (vI e2.Due), .loaded ⟨blkOf A0, offOf A0 + ((x2).toNat) * 5 + 4, none⟩ (vI e2.P)]) (by kernel_rfl) ⟨RdL.cell (j := 0) (hS3.rd hR0) hx2 rfl, RdL.cell (j := 1) (hS3.rd hR0) hx2 rfl, RdL.cell (j := 2) (hS3.rd hR0) hx2 rfl, RdL.cell (j := 3) (hS3.rd hR0) hx2 rfl, RdL.cell (j := 4) (hS3.rd hR0) hx2 rfl, trivial⟩ ⟨RdL.cell (j := 0) (hS5.rd hR0) hx2 rfl, RdL.cell (j := 1) (hS5.rd hR0) hx2 rfl, RdL.cell (j := 2) (hS5.rd hR0) hx2 rfl, RdL.cell (j := 3) (hS5.rd hR0) hx2 rfl, RdL.cell (j := 4) (hS5.rd hR0) hx2 rfl, trivial⟩) ?_ a hF
      refine go_alt2 (fun KK hKK => ?_) ?_
      ·have hS6 := hS5.bring 1 rfl
       refine gs b3 0 #[vI 0, vI 0, vI 0, vI 0, vI 0] 58 [vI e2.Task, vI e2.At, vI e2.C, vI e2.Due, vI e2.P] hS6 fun w4 hS7 => ?_
       have hS8 : St w0 w4 [Own.blk b3 (.cells #[vI e2.Task, vI e2.At, vI e2.C, vI e2.Due, vI e2.P] 58 (0, 0)), Own.blk b4 (.cells #[vI e1.Task, vI e1.At, vI e1.C, vI e1.Due, vI e1.P] 58 (0, 0))] := hS7
       refine ge_nil fun a hF => hKK _ _ (RS.of2 (l := []) (by kernel_rfl) trivial trivial) ?_ a hF
       have hS9 := hS8.bring 1 rfl
       obtain rfl := si h
       exact go_fin2 fun a hF => hQ _ _ _ (Outs.again ⟨b4, b3, hS9, hF.weaken ea⟩)
      exact go_nomore2
     exact go_nomore2
    exact go_nomore2
   exact go_nomore2
  ·rw [if_neg hc2] at h
   cases h
 ·rw [if_neg hc1] at h
  cases h
theorem punctualref_Goes_ok (l0 : List SJob) (A0 : Option Addr) (c0 : Nat) (x1 : Int) (x2 : Int) (x3 : Int) (w0 : World) (hR0 : RdL w0 A0 l0) (hL0 : l0.length ≤ c0) (r : Bool) (h : punctualref_Goes.f l0 x1 x2 x3 = some r) :
  Calls Tryd.prog 127 #[.slice A0 l0.length c0, vI x1, vI x2, vI x3] w0 (punctualref_Goes.Post w0 r) := by
 have hS := St.start w0
 unfold punctualref_Goes.f at h
 refine calls_enter (n := 60) (args := [.slice A0 l0.length c0, vI x1, vI x2, vI x3]) (fn := Tryd.f127) rfl rfl rfl rfl ?_
 show WE _ _ _ _ [(0, .slice A0 l0.length c0), (1, vI x1), (2, vI x2), (3, vI x3)] _
 refine ws fun K1 hK1 => ?_
 refine wr [(0, 0)] ?_
 refine gb0 [0] [(8, .bool false)] ?_
 refine gn hK1 ?_
 refine ws fun K2 hK2 => ?_
 rcases hq1 : punctualref_Goes.p0 l0 x1 x2 with _ | (⟨z11, z12, z13, z14, z15, z16, z17, z18, z19, z20⟩ | rr1)
 ·rw [hq1] at h; cases h
 ·rw [hq1] at h
  simp only [] at h
  refine we_keep (e' := [(0, .slice A0 l0.length c0), (1, vI x1), (2, vI x2), (3, vI x3), (8, .bool false)]) ea (punctualref_Goes_p0 0 w0 l0 A0 c0 x1 x2 x3 hR0 hL0 _ hq1 _ hS _ ?_)
  rintro _ a w5 ⟨rfl, b5, b6, hS10, hF⟩
  replace hS10 : St w0 w5 [Own.blk b5 (.cells #[vI z11, vI z12, vI z13, vI z14, vI z15] 58 (0, 0)), Own.blk b6 (.cells #[vI z16, vI z17, vI z18, vI z19, vI z20] 58 (0, 0))] := hS10
  refine hK2 [(1, vI x1), (2, vI x2), (3, vI x3), (9, pP b5 0), (10, pP b6 0)] w5 ?_ a hF
  refine ws fun K3 hK3 => ?_
  refine ws fun K4 hK4 => ?_
  refine wr [(0, 0), (1, 0), (2, 0), (3, 0), (4, 0), (5, 0), (6, 0), (7, 0), (8, 0)] ?_
  refine gb0 [0, 1, 2] [(21, .bool (x3 == 1)), (20, .bool (x3 == 1)), (19, vI x3)] ?_
  by_cases hc3 : x3 = 1
  ·rw [if_pos hc3] at h
   refine gk 21 (x3 == 1) true (beq_iff_eq.2 hc3) ?_
   refine gb [3, 4, 5, 6, 7, 8] [(27, .bool (z15 != z20)), (26, .bool (z15 != z20)), (25, vI z20), (24, pP b6 4), (23, vI z15), (22, pP b5 4)] [.loaded ⟨b5, 4, none⟩ (vI z15), .loaded ⟨b6, 4, none⟩ (vI z20)] ⟨hS10.c 0, hS10.c 1, trivial⟩ ?_
   refine gn hK4 ?_
   by_cases hc4 : z15 = z20
   ·rw [if_pos hc4] at h
    refine wk 27 (z15 != z20) false (bne_eq_false_iff_eq.2 hc4) ?_
    refine we_false (by kernel_rfl) ?_
    refine we_skip fun a hF => hK3 _ _ ?_ a hF
    refine ws fun K5 hK5 => ?_
    refine ws fun K6 hK6 => ?_
    refine wr [(0, 0), (1, 0), (2, 0), (3, 0), (4, 0), (5, 0), (6, 0), (7, 0), (8, 0)] ?_
    refine gb0 [0, 1, 2] [(35, .bool (x3 == 2)), (34, .bool (x3 == 2)), (33, vI x3)] ?_
    by_cases hc5 : x3 = 2
    ·rw [if_pos hc5] at h
     refine gk 35 (x3 == 2) true (beq_iff_eq.2 hc5) ?_
     refine gb [3, 4, 5, 6, 7, 8] [(41, .bool (z14 != z19)), (40, .bool (z14 != z19)), (39, vI z19), (38, pP b6 3), (37, vI z14), (36, pP b5 3)] [.loaded ⟨b5, 3, none⟩ (vI z14), .loaded ⟨b6, 3, none⟩ (vI z19)] ⟨hS10.c 0, hS10.c 1, trivial⟩ ?_
     refine gn hK6 ?_
     by_cases hc6 : z14 = z19
     ·rw [if_pos hc6] at h
      refine wk 41 (z14 != z19) false (bne_eq_false_iff_eq.2 hc6) ?_
      refine we_false (by kernel_rfl) ?_
      refine we_skip fun a hF => hK5 _ _ ?_ a hF
      refine ws fun K7 hK7 => ?_
      refine ws fun K8 hK8 => ?_
      refine wr [(0, 0), (1, 0), (2, 0), (3, 0), (4, 0)] ?_
      refine gb [0, 1, 2, 3, 4] [(51, .bool (z12 != z17)), (50, vI z17), (49, pP b6 1), (48, vI z12), (47, pP b5 1)] [.loaded ⟨b5, 1, none⟩ (vI z12), .loaded ⟨b6, 1, none⟩ (vI z17)] ⟨hS10.c 0, hS10.c 1, trivial⟩ ?_
      refine gn hK8 ?_
      by_cases hc7 : z12 = z17
      ·rw [if_pos hc7] at h
       refine wk 51 (z12 != z17) false (bne_eq_false_iff_eq.2 hc7) ?_
       refine we_false (by kernel_rfl) ?_
       refine we_skip fun a hF => hK7 _ _ ?_ a hF
       refine ws fun K9 hK9 => ?_
       refine wr [(0, 0), (1, 0), (2, 0), (3, 0)] ?_
       refine gb0 [0, 1, 2, 3] [(8, .bool (decide (x1 < x2))), (59, .bool (decide (x1 < x2))), (58, vI x2), (57, vI x1)] ?_
       refine gn hK9 ?_
       have hS11 := hS10.takeN 0
       obtain rfl := si h
       exact we_ret (pr0 [.tmp 8] [.bool (decide (x1 < x2))] ⟨rfl, hS11⟩)
      ·rw [if_neg hc7] at h
       refine wk 51 (z12 != z17) true (bne_iff_ne.2 hc7) ?_
       refine we_true (by kernel_rfl) ?_
       refine ws fun K10 hK10 => ?_
       refine wr [(0, 0), (1, 0), (2, 0), (3, 0), (4, 0), (5, 0)] ?_
       refine gb [0, 1, 2, 3, 4, 5] [(8, .bool (decide (z12 < z17))), (56, .bool (decide (z12 < z17))), (55, vI z17), (54, pP b6 1), (53, vI z12), (52, pP b5 1)] [.loaded ⟨b5, 1, none⟩ (vI z12), .loaded ⟨b6, 1, none⟩ (vI z17)] ⟨hS10.c 0, hS10.c 1, trivial⟩ ?_
       refine gn hK10 ?_
       have hS12 := hS10.takeN 0
       obtain rfl := si h
       exact we_ret (pr0 [.tmp 8] [.bool (decide (z12 < z17))] ⟨rfl, hS12⟩)
     ·rw [if_neg hc6] at h
      refine wk 41 (z14 != z19) true (bne_iff_ne.2 hc6) ?_
      refine we_true (by kernel_rfl) ?_
      refine ws fun K11 hK11 => ?_
      refine wr [(0, 0), (1, 0), (2, 0), (3, 0), (4, 0), (5, 0)] ?_
      refine gb [0, 1, 2, 3, 4, 5] [(8, .bool (decide (z14 < z19))), (46, .bool (decide (z14 < z19))), (45, vI z19), (44, pP b6 3), (43, vI z14), (42, pP b5 3)] [.loaded ⟨b5, 3, none⟩ (vI z14), .loaded ⟨b6, 3, none⟩ (vI z19)] ⟨hS10.c 0, hS10.c 1, trivial⟩ ?_
      refine gn hK11 ?_
      have hS13 := hS10.takeN 0
      obtain rfl := si h
      exact we_ret (pr0 [.tmp 8] [.bool (decide (z14 < z19))] ⟨rfl, hS13⟩)
    ·rw [if_neg hc5] at h
     refine gk 35 (x3 == 2) false (beq_eq_false_iff_ne.2 hc5) ?_
     refine gb0 [3, 4, 5, 6, 7, 8] [(41, .bool false), (40, undef), (39, undef), (38, undef), (37, undef), (36, undef)] ?_
     refine gn hK6 ?_
     refine we_false (by kernel_rfl) ?_
     refine we_skip fun a hF => hK5 _ _ ?_ a hF
     refine ws fun K12 hK12 => ?_
     refine ws fun K13 hK13 => ?_
     refine wr [(0, 0), (1, 0), (2, 0), (3, 0), (4, 0)] ?_
     refine gb [0, 1, 2, 3, 4] [(51, .bool (z12 != z17)), (50, vI z17), (49, pP b6 1), (48, vI z12), (47, pP b5 1)] [.loaded ⟨b5, 1, none⟩ (vI z12), .loaded ⟨b6, 1, none⟩ (vI z17)] ⟨hS10.c 0, hS10.c 1, trivial⟩ ?_
     refine gn hK13 ?_
     by_cases hc8 : z12 = z17
     ·rw [if_pos hc8] at h
      refine wk 51 (z12 != z17) false (bne_eq_false_iff_eq.2 hc8) ?_
      refine we_false (by kernel_rfl) ?_
      refine we_skip fun a hF => hK12 _ _ ?_ a hF
      refine ws fun K14 hK14 => ?_
      refine wr [(0, 0), (1, 0), (2, 0), (3, 0)] ?_
      refine gb0 [0, 1, 2, 3] [(8, .bool (decide (x1 < x2))), (59, .bool (decide (x1 < x2))), (58, vI x2), (57, vI x1)] ?_
      refine gn hK14 ?_
      have hS14 := hS10.takeN 0
      obtain rfl := si h
      exact we_ret (pr0 [.tmp 8] [.bool (decide (x1 < x2))] ⟨rfl, hS14⟩)
     ·rw [if_neg hc8] at h
      refine wk 51 (z12 != z17) true (bne_iff_ne.2 hc8) ?_
      refine we_true (by kernel_rfl) ?_
      refine ws fun K15 hK15 => ?_
      refine wr [(0, 0), (1, 0), (2, 0), (3, 0), (4, 0), (5, 0)] ?_
      refine gb [0, 1, 2, 3, 4, 5] [(8, .bool (decide (z12 < z17))), (56, .bool (decide (z12 < z17))), (55, vI z17), (54, pP b6 1), (53, vI z12), (52, pP b5 1)] [.loaded ⟨b5, 1, none⟩ (vI z12), .loaded ⟨b6, 1, none⟩ (vI z17)] ⟨hS10.c 0, hS10.c 1, trivial⟩ ?_
      refine gn hK15 ?_
      have hS15 := hS10.takeN 0
      obtain rfl := si h
      exact we_ret (pr0 [.tmp 8] [.bool (decide (z12 < z17))] ⟨rfl, hS15⟩)
   ·rw [if_neg hc4] at h
    refine wk 27 (z15 != z20) true (bne_iff_ne.2 hc4) ?_
    refine we_true (by kernel_rfl) ?_
    refine ws fun K16 hK16 => ?_
    refine wr [(0, 0), (1, 0), (2, 0), (3, 0), (4, 0), (5, 0)] ?_
    refine gb [0, 1, 2, 3, 4, 5] [(8, .bool (decide (z15 > z20))), (32, .bool (decide (z15 > z20))), (31, vI z20), (30, pP b6 4), (29, vI z15), (28, pP b5 4)] [.loaded ⟨b5, 4, none⟩ (vI z15), .loaded ⟨b6, 4, none⟩ (vI z20)] ⟨hS10.c 0, hS10.c 1, trivial⟩ ?_
    refine gn hK16 ?_
    have hS16 := hS10.takeN 0
    obtain rfl := si h
    exact we_ret (pr0 [.tmp 8] [.bool (decide (z15 > z20))] ⟨rfl, hS16⟩)
  ·rw [if_neg hc3] at h
   refine gk 21 (x3 == 1) false (beq_eq_false_iff_ne.2 hc3) ?_
   refine gb0 [3, 4, 5, 6, 7, 8] [(27, .bool false), (26, undef), (25, undef), (24, undef), (23, undef), (22, undef)] ?_
   refine gn hK4 ?_
   refine we_false (by kernel_rfl) ?_
   refine we_skip fun a hF => hK3 _ _ ?_ a hF
   refine ws fun K17 hK17 => ?_
   refine ws fun K18 hK18 => ?_
   refine wr [(0, 0), (1, 0), (2, 0), (3, 0), (4, 0), (5, 0), (6, 0), (7, 0), (8, 0)] ?_
   refine gb0 [0, 1, 2] [(35, .bool (x3 == 2)), (34, .bool (x3 == 2)), (33, vI x3)] ?_
   by_cases hc9 : x3 = 2
   ·rw [if_pos hc9] at h
    refine gk 35 (x3 == 2) true (beq_iff_eq.2 hc9) ?_
    refine gb [3, 4, 5, 6, 7, 8] [(41, .bool (z14 != z19)), (40, .bool (z14 != z19)), (39, vI z19), (38, pP b6 3), (37, vI z14), (36, pP b5 3)] [.loaded ⟨b5, 3, none⟩ (vI z14), .loaded ⟨b6, 3, none⟩ (vI z19)] ⟨hS10.c 0, hS10.c 1, trivial⟩ ?_
    refine gn hK18 ?_
    by_cases hc10 : z14 = z19
    ·rw [if_pos hc10] at h
     refine wk 41 (z14 != z19) false (bne_eq_false_iff_eq.2 hc10) ?_
     refine we_false (by kernel_rfl) ?_
     refine we_skip fun a hF => hK17 _ _ ?_ a hF
     refine ws fun K19 hK19 => ?_
     refine ws fun K20 hK20 => ?_
     refine wr [(0, 0), (1, 0), (2, 0), (3, 0), (4, 0)] ?_
     refine gb [0, 1, 2, 3, 4] [(51, .bool (z12 != z17)), (50, vI z17), (49, pP b6 1), (48, vI z12), (47, pP b5 1)] [.loaded ⟨b5, 1, none⟩ (vI z12), .loaded ⟨b6, 1, none⟩ (vI z17)] ⟨hS10.c 0, hS10.c 1, trivial⟩ ?_
     refine gn hK20 ?_
     by_cases hc11 : z12 = z17
     ·rw [if_pos hc11] at h
      refine wk 51 (z12 != z17) false (bne_eq_false_iff_eq.2 hc11) ?_
      refine we_false (by kernel_rfl) ?_
      refine we_skip fun a hF => hK19 _ _ ?_ a hF
      refine ws fun K21 hK21 => ?_
      refine wr [(0, 0), (1, 0), (2, 0), (3, 0)] ?_
      refine gb0 [0, 1, 2, 3] [(8, .bool (decide (x1 < x2))), (59, .bool (decide (x1 < x2))), (58, vI x2), (57, vI x1)] ?_
      refine gn hK21 ?_
      have hS17 := hS10.takeN 0
      obtain rfl := si h
      exact we_ret (pr0 [.tmp 8] [.bool (decide (x1 < x2))] ⟨rfl, hS17⟩)
     ·rw [if_neg hc11] at h
      refine wk 51 (z12 != z17) true (bne_iff_ne.2 hc11) ?_
      refine we_true (by kernel_rfl) ?_
      refine ws fun K22 hK22 => ?_
      refine wr [(0, 0), (1, 0), (2, 0), (3, 0), (4, 0), (5, 0)] ?_
      refine gb [0, 1, 2, 3, 4, 5] [(8, .bool (decide (z12 < z17))), (56, .bool (decide (z12 < z17))), (55, vI z17), (54, pP b6 1), (53, vI z12), (52, pP b5 1)] [.loaded ⟨b5, 1, none⟩ (vI z12), .loaded ⟨b6, 1, none⟩ (vI z17)] ⟨hS10.c 0, hS10.c 1, trivial⟩ ?_
      refine gn hK22 ?_
      have hS18 := hS10.takeN 0
      obtain rfl := si h
      exact we_ret (pr0 [.tmp 8] [.bool (decide (z12 < z17))] ⟨rfl, hS18⟩)
    ·rw [if_neg hc10] at h
     refine wk 41 (z14 != z19) true (bne_iff_ne.2 hc10) ?_
     refine we_true (by kernel_rfl) ?_
     refine ws fun K23 hK23 => ?_
     refine wr [(0, 0), (1, 0), (2, 0), (3, 0), (4, 0), (5, 0)] ?_
     refine gb [0, 1, 2, 3, 4, 5] [(8, .bool (decide (z14 < z19))), (46, .bool (decide (z14 < z19))), (45, vI z19), (44, pP b6 3), (43, vI z14), (42, pP b5 3)] [.loaded ⟨b5, 3, none⟩ (vI z14), .loaded ⟨b6, 3, none⟩ (vI z19)] ⟨hS10.c 0, hS10.c 1, trivial⟩ ?_
     refine gn hK23 ?_
     have hS19 := hS10.takeN 0
     obtain rfl := si h
     exact we_ret (pr0 [.tmp 8] [.bool (decide (z14 < z19))] ⟨rfl, hS19⟩)
   ·rw [if_neg hc9] at h
    refine gk 35 (x3 == 2) false (beq_eq_false_iff_ne.2 hc9) ?_
    refine gb0 [3, 4, 5, 6, 7, 8] [(41, .bool false), (40, undef), (39, undef), (38, undef), (37, undef), (36, undef)] ?_
    refine gn hK18 ?_
    refine we_false (by kernel_rfl) ?_
    refine we_skip fun a hF => hK17 _ _ ?_ a hF
    refine ws fun K24 hK24 => ?_
    refine ws fun K25 hK25 => ?_
    refine wr [(0, 0), (1, 0), (2, 0), (3, 0), (4, 0)] ?_
    refine gb [0, 1, 2, 3, 4] [(51, .bool (z12 != z17)), (50, vI z17), (49, pP b6 1), (48, vI z12), (47, pP b5 1)] [.loaded ⟨b5, 1, none⟩ (vI z12), .loaded ⟨b6, 1, none⟩ (vI z17)] ⟨hS10.c 0, hS10.c 1, trivial⟩ ?_
    refine gn hK25 ?_
    by_cases hc12 : z12 = z17
    ·rw [if_pos hc12] at h
     refine wk 51 (z12 != z17) false (bne_eq_false_iff_eq.2 hc12) ?_
     refine we_false (by kernel_rfl) ?_
     refine we_skip fun a hF => hK24 _ _ ?_ a hF
     refine ws fun K26 hK26 => ?_
     refine wr [(0, 0), (1, 0), (2, 0), (3, 0)] ?_
     refine gb0 [0, 1, 2, 3] [(8, .bool (decide (x1 < x2))), (59, .bool (decide (x1 < x2))), (58, vI x2), (57, vI x1)] ?_
     refine gn hK26 ?_
     have hS20 := hS10.takeN 0
     obtain rfl := si h
     exact we_ret (pr0 [.tmp 8] [.bool (decide (x1 < x2))] ⟨rfl, hS20⟩)
    ·rw [if_neg hc12] at h
     refine wk 51 (z12 != z17) true (bne_iff_ne.2 hc12) ?_
     refine we_true (by kernel_rfl) ?_
     refine ws fun K27 hK27 => ?_
     refine wr [(0, 0), (1, 0), (2, 0), (3, 0), (4, 0), (5, 0)] ?_
     refine gb [0, 1, 2, 3, 4, 5] [(8, .bool (decide (z12 < z17))), (56, .bool (decide (z12 < z17))), (55, vI z17), (54, pP b6 1), (53, vI z12), (52, pP b5 1)] [.loaded ⟨b5, 1, none⟩ (vI z12), .loaded ⟨b6, 1, none⟩ (vI z17)] ⟨hS10.c 0, hS10.c 1, trivial⟩ ?_
     refine gn hK27 ?_
     have hS21 := hS10.takeN 0
     obtain rfl := si h
     exact we_ret (pr0 [.tmp 8] [.bool (decide (z12 < z17))] ⟨rfl, hS21⟩)
 ·rw [hq1] at h
  simp only [] at h
  refine we_keep (e' := [(0, .slice A0 l0.length c0), (1, vI x1), (2, vI x2), (3, vI x3), (8, .bool false)]) ea (punctualref_Goes_p0 0 w0 l0 A0 c0 x1 x2 x3 hR0 hL0 _ hq1 _ hS _ ?_)
  rintro _ a w1 ⟨_, rfl, hb⟩
  obtain rfl := si h
  exact hb

/-! punctual/punctualref.Played -/
abbrev punctualref_Played.Post (w0 : World) (r : (List (List Int)) × (List Int)) (e : Ending) (w : World) : Prop := ∃ (y0 : Rows) (v1 : Value), e = .returned (.tuple #[(Rows.val y0), v1]) ∧ St w0 w [Own.nest y0 24 3 r.1, Own.of v1 3 r.2]
def punctualref_Played.r0 (l0 : List SJob) : Nat × (List Int) × (List (Int × Int)) → Option ((Nat × (List Int) × (List (Int × Int))) ⊕ (((List Int) × (List (Int × Int))) ⊕ ((List (List Int)) × (List Int))))
 | (i1, m1, mp1) =>
  if (i1 : Int) < (l0.length : Int) then
   match l0[i1]? with
   | none => none
   | some e1 =>
    match m1[i1]? with
    | none => none
    | some e2 =>
     some (.inl ((i1 + 1), (m1.set i1 (-1)), (mset mp1 (i1 : Int) e1.C)))
  else
   some (.inr (.inl (m1, mp1)))
def punctualref_Played.p3 (z1 : Int) (mp4 : List (Int × Int)) (i2 : Nat) (e3 : SJob) : Option (Bool ⊕ ((List (List Int)) × (List Int))) :=
  if e3.At ≤ z1 then
   some (.inl (decide (((mget mp4 (i2 : Int)).getD 0) > 0)))
  else
   some (.inl false)
def punctualref_Played.r4 (l0 : List SJob) (x1 : Int) (m8 : List Int) (i2 : Nat) : Int → Option (Int ⊕ (Int ⊕ ((List (List Int)) × (List Int))))
 | z2 =>
  if z2 > 0 then
   if 0 ≤ (IntKind.i64.wrap (z2 - 1)) then
    match m8[(IntKind.i64.wrap (z2 - 1)).toNat]? with
    | none => none
    | some e4 =>
     match punctualref_Goes.f l0 (i2 : Int) e4 x1 with
     | none => none
     | some r2 =>
      if r2 = true then
       some (.inl (IntKind.i64.wrap (z2 - 1)))
      else
       some (.inr (.inl z2))
   else
    none
  else
   some (.inr (.inl z2))
def punctualref_Played.r2 (K : Nat) (l0 : List SJob) (x1 : Int) (z1 : Int) (mp4 : List (Int × Int)) : (List Int) × Nat → Option (((List Int) × Nat) ⊕ ((List Int) ⊕ ((List (List Int)) × (List Int))))
 | (m8, i2) =>
  if (i2 : Int) < (l0.length : Int) then
   match l0[i2]? with
   | none => none
   | some e3 =>
    match punctualref_Played.p3 z1 mp4 i2 e3 with
    | none => none
    | some (.inl q2) =>
     if q2 = true then
      match iter (punctualref_Played.r4 l0 x1 m8 i2) K (m8.length : Int) with
      | none => none
      | some (.inl z4) =>
       if 0 ≤ z4 then
        if ((z4).toNat) ≤ m8.length then
         if ([(i2 : Int)] : List Int).length + ((m8.take m8.length).drop ((z4).toNat)).length ≤ 17592186044416 then
          if (m8.take ((z4).toNat)).length + (([(i2 : Int)] : List Int) ++ ((m8.take m8.length).drop ((z4).toNat))).length ≤ 17592186044416 then
           some (.inl (((m8.take ((z4).toNat)) ++ (([(i2 : Int)] : List Int) ++ ((m8.take m8.length).drop ((z4).toNat)))), (i2 + 1)))
          else
           none
         else
          none
        else
         none
       else
        none
      | some (.inr rr1) =>
       some (.inr (.inr rr1))
     else
      some (.inl (m8, (i2 + 1)))
    | some (.inr rr2) =>
     some (.inr (.inr rr2))
  else
   some (.inr (.inl m8))
def punctualref_Played.p5 (x2 : Bool) (z1 : Int) (m5 : List (List Int)) (mp4 : List (Int × Int)) (m10 : List Int) : Option ((List Int) ⊕ ((List (List Int)) × (List Int))) :=
  if x2 = true then
   some (.inl m10)
  else
   if z1 > 0 then
    if 0 ≤ (IntKind.i64.wrap (z1 - 1)) then
     match m5[(IntKind.i64.wrap (z1 - 1)).toNat]? with
     | none => none
     | some e5 =>
      if (e5.length : Int) > 0 then
       match e5[0]? with
       | none => none
       | some e6 =>
        if ((mget mp4 e6).getD 0) > 0 then
         some (.inl ([e6] : List Int))
        else
         some (.inl m10)
      else
       some (.inl m10)
    else
     none
   else
    some (.inl m10)
def punctualref_Played.p6 (x3 : Int) (m12 : List Int) : Option ((List Int) ⊕ ((List (List Int)) × (List Int))) :=
  if (m12.length : Int) > x3 then
   if 0 ≤ x3 then
    if ((x3).toNat) ≤ m12.length then
     some (.inl (m12.take ((x3).toNat)))
    else
     none
   else
    none
  else
   some (.inl m12)
def punctualref_Played.r7 (z1 : Int) (m14 : List Int) : Int × (List Int) × (List (Int × Int)) → Option ((Int × (List Int) × (List (Int × Int))) ⊕ (((List Int) × (List (Int × Int))) ⊕ ((List (List Int)) × (List Int))))
 | (z5, m15, mp5) =>
  if z5 < (m14.length : Int) then
   if 0 ≤ z5 then
    match m14[(z5).toNat]? with
    | none => none
    | some e8 =>
     if ((mget (mset mp5 e8 (IntKind.i64.wrap (((mget mp5 e8).getD 0) - 1))) e8).getD 0) = 0 then
      if 0 ≤ e8 then
       match m15[(e8).toNat]? with
       | none => none
       | some e9 =>
        some (.inl (IntKind.i64.wrap (z5 + 1), (m15.set ((e8).toNat) (IntKind.i64.wrap (z1 + 1))), (mset mp5 e8 (IntKind.i64.wrap (((mget mp5 e8).getD 0) - 1)))))
      else
       none
     else
      some (.inl (IntKind.i64.wrap (z5 + 1), m15, (mset mp5 e8 (IntKind.i64.wrap (((mget mp5 e8).getD 0) - 1)))))
   else
    none
  else
   some (.inr (.inl (m15, mp5)))
def punctualref_Played.r1 (K : Nat) (l0 : List SJob) (x1 : Int) (x2 : Bool) (x3 : Int) (x4 : Int) (xg5_0 : Int) (lg5_1 : List SWindow) : Int × (List Int) × (List (List Int)) × (List (Int × Int)) → Option ((Int × (List Int) × (List (List Int)) × (List (Int × Int))) ⊕ (((List Int) × (List (List Int))) ⊕ ((List (List Int)) × (List Int))))
 | (z1, m4, m5, mp4) =>
  if z1 < x4 then
   match punctualref_HostedOf_1.f K z1 xg5_0 lg5_1 with
   | none => none
   | some r1 =>
    if r1 = true then
     match iter (punctualref_Played.r2 K l0 x1 z1 mp4) K (([] : List Int), 0) with
     | none => none
     | some (.inl m10) =>
      match punctualref_Played.p5 x2 z1 m5 mp4 m10 with
      | none => none
      | some (.inl m12) =>
       match punctualref_Played.p6 x3 m12 with
       | none => none
       | some (.inl m14) =>
        if 0 ≤ z1 then
         match m5[(z1).toNat]? with
         | none => none
         | some e7 =>
          match iter (punctualref_Played.r7 z1 m14) K (0, m4, mp4) with
          | none => none
          | some (.inl (m17, mp7)) =>
           some (.inl (IntKind.i64.wrap (z1 + 1), m17, (m5.set ((z1).toNat) m14), mp7))
          | some (.inr rr3) =>
           some (.inr (.inr rr3))
        else
         none
       | some (.inr rr4) =>
        some (.inr (.inr rr4))
      | some (.inr rr5) =>
       some (.inr (.inr rr5))
     | some (.inr rr6) =>
      some (.inr (.inr rr6))
    else
     some (.inl (IntKind.i64.wrap (z1 + 1), m4, m5, mp4))
  else
   some (.inr (.inl (m4, m5)))
def punctualref_Played.f (K : Nat) (l0 : List SJob) (x1 : Int) (x2 : Bool) (x3 : Int) (x4 : Int) (xg5_0 : Int) (lg5_1 : List SWindow) : Option ((List (List Int)) × (List Int)) :=
 if l0.length ≤ 17592186044416 then
  match iter (punctualref_Played.r0 l0) K (0, (List.replicate l0.length (0 : Int)), ([] : List (Int × Int))) with
  | none => none
  | some (.inl (m3, mp3)) =>
   if 0 ≤ x4 then
    if ((x4).toNat) ≤ 5864062014805 then
     match iter (punctualref_Played.r1 K l0 x1 x2 x3 x4 xg5_0 lg5_1) K (0, m3, (List.replicate ((x4).toNat) ([] : List Int)), mp3) with
     | none => none
     | some (.inl (m18, m19)) =>
      some (m19, m18)
     | some (.inr rr7) =>
      some rr7
    else
     none
   else
    none
  | some (.inr rr8) =>
   some rr8
 else
  none
abbrev punctualref_Played.A0 (w0 : World) (l0 : List SJob) (A0 : Option Addr) (c0 : Nat) (x1 : Int) (x2 : Bool) (x3 : Int) (x4 : Int) (bg5_0 : Nat) (bg5_1 : Nat) (b1 : Nat) (Z1 : Option Addr) (cz1 : Nat) : (Nat × (List Int) × (List (Int × Int))) → Act → World → Prop := fun (s : Nat × (List Int) × (List (Int × Int))) a w => St w0 w [Own.of (.slice Z1 s.2.1.length cz1) 3 s.2.1, Own.map (κ := Int) (ν := Int) b1 s.2.2] ∧ Frm 169 a [(0, .slice A0 l0.length c0), (1, vI x1), (2, .bool x2), (3, vI x3), (4, vI x4), (5, .func (.func 89) #[] #[pP bg5_0 0, pP bg5_1 0]), (14, .map (some b1)), (15, (.slice Z1 s.2.1.length cz1)), (30, .slice A0 l0.length c0), (31, vI (l0.length : Int)), (32, vI (s.1 : Int))]
abbrev punctualref_Played.B0 (w0 : World) (l0 : List SJob) (A0 : Option Addr) (c0 : Nat) (x1 : Int) (x2 : Bool) (x3 : Int) (x4 : Int) (bg5_0 : Nat) (bg5_1 : Nat) (b1 : Nat) (Z1 : Option Addr) (cz1 : Nat) : (((List Int) × (List (Int × Int))) ⊕ ((List (List Int)) × (List Int))) → Exit → Act → World → Prop := Exits 0 (fun (s : (List Int) × (List (Int × Int))) a w => St w0 w [Own.of (.slice Z1 s.1.length cz1) 3 s.1, Own.map (κ := Int) (ν := Int) b1 s.2] ∧ Frm 169 a [(0, .slice A0 l0.length c0), (1, vI x1), (2, .bool x2), (3, vI x3), (4, vI x4), (5, .func (.func 89) #[] #[pP bg5_0 0, pP bg5_1 0]), (14, .map (some b1)), (15, (.slice Z1 s.1.length cz1))]) (Rets Tryd.prog Tryd.f88 (punctualref_Played.Post w0))
theorem punctualref_Played_r0 (K : Nat) (w0 : World) (l0 : List SJob) (A0 : Option Addr) (c0 : Nat) (x1 : Int) (x2 : Bool) (x3 : Int) (x4 : Int) (bg5_0 : Nat) (xg5_0 : Int) (bg5_1 : Nat) (lg5_1 : List SWindow) (Ag5_1 : Option Addr) (cg5_1 : Nat) (hR0 : RdL w0 A0 l0) (hL0 : l0.length ≤ c0) (hBg5_0 : Glob w0 bg5_0 [vI xg5_0]) (hRg5_1 : RdL w0 Ag5_1 lg5_1) (hLg5_1 : lg5_1.length ≤ cg5_1) (hBg5_1 : Glob w0 bg5_1 [.slice Ag5_1 lg5_1.length cg5_1]) (b1 : Nat) (hc1 : l0.length ≤ 17592186044416) (Z1 : Option Addr) (cz1 : Nat) (s : Nat × (List Int) × (List (Int × Int))) (o : (Nat × (List Int) × (List (Int × Int))) ⊕ (((List Int) × (List (Int × Int))) ⊕ ((List (List Int)) × (List Int)))) (h : punctualref_Played.r0 l0 s = some o) (a : Act) (w : World) (hA : punctualref_Played.A0 w0 l0 A0 c0 x1 x2 x3 x4 bg5_0 bg5_1 b1 Z1 cz1 s a w) (Q : Exit → Act → World → Prop) (hQ : ∀ x a w, Outs (punctualref_Played.A0 w0 l0 A0 c0 x1 x2 x3 x4 bg5_0 bg5_1 b1 Z1 cz1) (punctualref_Played.B0 w0 l0 A0 c0 x1 x2 x3 x4 bg5_0 bg5_1 b1 Z1 cz1) o x a w → Q x a w) : (subF Tryd.f88 [1, 1, 1, 0, 1, 0, 0]).wp Tryd.prog Q a w := by
 obtain ⟨i1, m1, mp1⟩ := s
 obtain ⟨hS, hF⟩ := hA
 replace hS : St w0 w [Own.of (.slice Z1 m1.length cz1) 3 m1, Own.map (κ := Int) (ν := Int) b1 mp1] := hS
 simp only [punctualref_Played.r0] at h
 refine (?_ : WE Tryd.prog 169 (subF Tryd.f88 [1, 1, 1, 0, 1, 0, 0]) Q [(0, .slice A0 l0.length c0), (1, vI x1), (2, .bool x2), (3, vI x3), (4, vI x4), (5, .func (.func 89) #[] #[pP bg5_0 0, pP bg5_1 0]), (14, .map (some b1)), (15, (.slice Z1 m1.length cz1)), (30, .slice A0 l0.length c0), (31, vI (l0.length : Int)), (32, vI (i1 : Int))] w) a hF
 clear hF a
 refine ws fun K6 hK6 => ?_
 refine wr [(0, 0)] ?_
 refine gb0 [0] [(33, .bool (decide ((i1 : Int) < (l0.length : Int))))] ?_
 refine gn hK6 ?_
 refine ws fun K7 hK7 => ?_
 by_cases hc2 : (i1 : Int) < (l0.length : Int)
 ·rw [if_pos hc2] at h
  refine wk 33 (decide ((i1 : Int) < (l0.length : Int))) true (decide_eq_true hc2) ?_
  refine we_true (by kernel_rfl) ?_
  refine we_skip fun a hF => hK7 _ _ ?_ a hF
  refine ws fun K8 hK8 => ?_
  refine we_block ?_
  refine ws fun K9 hK9 => ?_
  refine wr [(0, 0), (1, 0), (2, 0), (3, 1), (4, 0), (5, 2)] ?_
  refine gb0 [0] [(34, vI (i1 : Int))] ?_
  rcases hx2 : l0[i1]? with _ | e1
  ·rw [hx2] at h; cases h
  rw [hx2] at h
  simp only [] at h
  refine gi 35 0 49 58 5 l0.length c0 (.tmp 30) (.tmp 32) A0 .i64 (i1 : Int) i1 ((hS.rd hR0).eqSome (pos_of_get hx2)) rfl (lt_of_get hx2) ?_
  refine gb [2] [(36, .agg #[vI e1.Task, vI e1.At, vI e1.C, vI e1.Due, vI e1.P])] [.loaded ⟨blkOf A0, offOf A0 + i1 * 5, none⟩ (vI e1.Task), .loaded ⟨blkOf A0, offOf A0 + i1 * 5 + 1, none⟩ (vI e1.At), .loaded ⟨blkOf A0, offOf A0 + i1 * 5 + 2, none⟩ (vI e1.C), .loaded ⟨blkOf A0, offOf A0 + i1 * 5 + 3, none⟩ (vI e1.Due), .loaded ⟨blkOf A0, offOf A0 + i1 * 5 + 4, none⟩ (vI e1.P)] ⟨RdL.cell (j := 0) (hS.rd hR0) hx2 rfl, RdL.cell (j := 1) (hS.rd hR0) hx2 rfl, RdL.cell (j := 2) (hS.rd hR0) hx2 rfl, RdL.cell (j := 3) (hS.rd hR0) hx2 rfl, RdL.cell (j := 4) (hS.rd hR0) hx2 rfl, trivial⟩ ?_
  refine gw (some 17) (.cells #[vI 0, vI 0, vI 0, vI 0, vI 0] 58) (fun b => pP b 0) hS fun b2 w3 hx3 hS6 => ?_
  refine gb0 [4] [(16, vI (i1 : Int))] ?_
  refine gs b2 0 #[vI 0, vI 0, vI 0, vI 0, vI 0] 58 [vI e1.Task, vI e1.At, vI e1.C, vI e1.Due, vI e1.P] hS6 fun w4 hS7 => ?_
  have hS8 : St w0 w4 [Own.blk b2 (.cells #[vI e1.Task, vI e1.At, vI e1.C, vI e1.Due, vI e1.P] 58 (0, 0)), Own.of (.slice Z1 m1.length cz1) 3 m1, Own.map (κ := Int) (ν := Int) b1 mp1] := hS7
  refine gn hK9 ?_
  refine ws fun K10 hK10 => ?_
  refine wr [(0, 0), (1, 0), (2, 0), (3, 0), (4, 2)] ?_
  refine gb [0, 1, 2, 3] [(40, vI e1.C), (39, pP b2 2), (38, vI (i1 : Int)), (37, .map (some b1))] [.loaded ⟨b2, 2, none⟩ (vI e1.C)] ⟨hS8.c 0, trivial⟩ ?_
  have hS9 := hS8.bring 2 rfl
  refine ge_mapSet (κ := Int) (ν := Int) (b := b1) (ins := false) (mm := 0) (t := 161) (kt := 3) (et := 3) (x := (.tmp 37)) (y := (.tmp 38)) (u := (.tmp 40)) (ty := 0) (m := mp1) (k := (i1 : Int)) (v := e1.C) (vv := vI e1.C) (by kernel_rfl) (by kernel_rfl) (by kernel_rfl) (by kernel_rfl) rfl (by kernel_rfl) (by kernel_rfl) hS9 fun w5 hS10 => ?_
  refine gn hK10 ?_
  refine wr [(0, 0), (1, 0), (2, 0), (3, 2)] ?_
  refine gb0 [0, 1] [(42, vI (i1 : Int)), (41, (.slice Z1 m1.length cz1))] ?_
  rcases hx4 : m1[i1]? with _ | e2
  ·rw [hx4] at h; cases h
  rw [hx4] at h
  simp only [] at h
  refine gi 43 0 24 3 1 m1.length cz1 (.tmp 41) (.tmp 42) Z1 .i64 (i1 : Int) i1 ((hS10.rdAt 2 rfl).eqSome (pos_of_get hx4)) rfl (lt_of_get hx4) ?_
  have hS11 := hS10.bring 2 rfl
  refine ge_seti (α := Int) (A := Z1) (nn := m1.length) (c := cz1) (t := 3) (l := m1) (x := e2) (x' := (-1)) (jn := i1) (j := 0) (vs := [vI (-1)]) (l' := [.stored ⟨blkOf Z1, offOf Z1 + i1 * 1, none⟩ (vI (-1))]) hS11 (by kernel_rfl) (by kernel_rfl) hx4 rfl rfl rfl fun w6 hS12 => ?_
  have hS13 : St w0 w6 [Own.of (.slice Z1 m1.length cz1) 3 (m1.set i1 (-1)), Own.map (κ := Int) (ν := Int) b1 (mset mp1 (i1 : Int) e1.C), Own.blk b2 (.cells #[vI e1.Task, vI e1.At, vI e1.C, vI e1.Due, vI e1.P] 58 (0, 0))] := hS12
  have hE1 : m1.length = (m1.set i1 (-1)).length := hS13.lenAt 0 rfl
  have hS14 : St w0 w6 [Own.of (.slice Z1 (m1.set i1 (-1)).length cz1) 3 (m1.set i1 (-1)), Own.map (κ := Int) (ν := Int) b1 (mset mp1 (i1 : Int) e1.C), Own.blk b2 (.cells #[vI e1.Task, vI e1.At, vI e1.C, vI e1.Due, vI e1.P] 58 (0, 0))] := by rw [← hE1]; exact hS13
  refine ge_same (t := 15) (v := (.slice Z1 m1.length cz1)) (v' := (.slice Z1 (m1.set i1 (-1)).length cz1)) (by kernel_rfl) (by rw [hE1]) ?_
  refine ge_same (t := 41) (v := (.slice Z1 m1.length cz1)) (v' := (.slice Z1 (m1.set i1 (-1)).length cz1)) (by kernel_rfl) (by rw [hE1]) ?_
  refine gn hK8 ?_
  refine wr [(0, 0), (1, 0)] ?_
  refine ge_addn (d := 44) (ty := 3) (x := (.tmp 32)) (y := (.const (vI 1))) (t := 3) (t2 := 3) (k := .i64) (m := i1) (by kernel_rfl) (by kernel_rfl) (by kernel_rfl) (by have h0 := hR0.small; omega) ?_
  refine gb0 [1] [(32, vI ((i1 + 1 : Nat) : Int))] ?_
  have hS15 := hS14.bring 1 rfl
  have hS16 := hS15.bring 1 rfl
  have hS17 := hS16.takeN 2
  obtain rfl := si h
  exact ge_nil fun a hF => hQ _ _ _ (Outs.again ⟨hS17, hF.weaken ea⟩)
 ·rw [if_neg hc2] at h
  refine wk 33 (decide ((i1 : Int) < (l0.length : Int))) false (decide_eq_false hc2) ?_
  refine we_false (by kernel_rfl) ?_
  have hS18 := hS.bring 1 rfl
  have hS19 := hS18.bring 1 rfl
  obtain rfl := si h
  exact we_exit fun a hF => hQ _ _ _ (Outs.out nofun (Exits.here ⟨hS19, hF.weaken ea⟩))
abbrev punctualref_Played.A3 (w0 : World) (l0 : List SJob) (A0 : Option Addr) (c0 : Nat) (x1 : Int) (x2 : Bool) (x3 : Int) (x4 : Int) (bg5_0 : Nat) (bg5_1 : Nat) (b1 : Nat) (Z1 : Option Addr) (cz1 : Nat) (z1 : Int) (m4 : List Int) (m5 : List (List Int)) (xr2 : Rows) (mp4 : List (Int × Int)) (m8 : List Int) (i2 : Nat) (Z2 : Option Addr) (cz2 : Nat) : Bool → Act → World → Prop := fun (s : Bool) a w => St w0 w [Own.of (.slice Z1 m4.length cz1) 3 m4, Own.nest xr2 24 3 m5, Own.of (.slice Z2 m8.length cz2) 3 m8, Own.map (κ := Int) (ν := Int) b1 mp4] ∧ Frm 169 a [(0, .slice A0 l0.length c0), (1, vI x1), (2, .bool x2), (3, vI x3), (4, vI x4), (5, .func (.func 89) #[] #[pP bg5_0 0, pP bg5_1 0]), (14, .map (some b1)), (15, (.slice Z1 m4.length cz1)), (18, (Rows.val xr2)), (19, vI z1), (20, (.slice Z2 m8.length cz2)), (21, vI (i2 : Int)), (56, .slice A0 l0.length c0), (57, vI (l0.length : Int)), (58, vI (i2 : Int)), (72, .bool s)]
abbrev punctualref_Played.B3 (w0 : World) : ((List (List Int)) × (List Int)) → Exit → Act → World → Prop := Rets Tryd.prog Tryd.f88 (punctualref_Played.Post w0)
theorem punctualref_Played_p3 (K : Nat) (w0 : World) (l0 : List SJob) (A0 : Option Addr) (c0 : Nat) (x1 : Int) (x2 : Bool) (x3 : Int) (x4 : Int) (bg5_0 : Nat) (xg5_0 : Int) (bg5_1 : Nat) (lg5_1 : List SWindow) (Ag5_1 : Option Addr) (cg5_1 : Nat) (hR0 : RdL w0 A0 l0) (hL0 : l0.length ≤ c0) (hBg5_0 : Glob w0 bg5_0 [vI xg5_0]) (hRg5_1 : RdL w0 Ag5_1 lg5_1) (hLg5_1 : lg5_1.length ≤ cg5_1) (hBg5_1 : Glob w0 bg5_1 [.slice Ag5_1 lg5_1.length cg5_1]) (b1 : Nat) (hc1 : l0.length ≤ 17592186044416) (Z1 : Option Addr) (cz1 : Nat) (m3 : List Int) (mp3 : List (Int × Int)) (hc3 : 0 ≤ x4) (hc4 : ((x4).toNat) ≤ 5864062014805) (xr1 : Rows) (z1 : Int) (m4 : List Int) (m5 : List (List Int)) (xr2 : Rows) (mp4 : List (Int × Int)) (hc5 : z1 < x4) (r1 : Bool) (hc6 : r1 = true) (m8 : List Int) (i2 : Nat) (hc7 : (i2 : Int) < (l0.length : Int)) (e3 : SJob) (hx5 : l0[i2]? = some e3) (b3 : Nat) (Z2 : Option Addr) (cz2 : Nat) (o : Bool ⊕ ((List (List Int)) × (List Int))) (h : punctualref_Played.p3 z1 mp4 i2 e3 = some o) (w : World) (hS : St w0 w [Own.blk b3 (.cells #[vI e3.Task, vI e3.At, vI e3.C, vI e3.Due, vI e3.P] 58 (0, 0)), Own.of (.slice Z1 m4.length cz1) 3 m4, Own.nest xr2 24 3 m5, Own.of (.slice Z2 m8.length cz2) 3 m8, Own.map (κ := Int) (ν := Int) b1 mp4]) (Q : Exit → Act → World → Prop) (hQ : ∀ x a w, Outs (punctualref_Played.A3 w0 l0 A0 c0 x1 x2 x3 x4 bg5_0 bg5_1 b1 Z1 cz1 z1 m4 m5 xr2 mp4 m8 i2 Z2 cz2) (punctualref_Played.B3 w0) o x a w → Q x a w) : WE Tryd.prog 169 (subF Tryd.f88 [1, 1, 1, 1, 1, 0, 1, 0, 0, 1, 0, 0, 1, 1, 0, 1, 0, 0, 1, 1, 0, 0, 1, 0]) Q [(0, .slice A0 l0.length c0), (1, vI x1), (2, .bool x2), (3, vI x3), (4, vI x4), (5, .func (.func 89) #[] #[pP bg5_0 0, pP bg5_1 0]), (14, .map (some b1)), (15, (.slice Z1 m4.length cz1)), (18, (Rows.val xr2)), (19, vI z1), (20, (.slice Z2 m8.length cz2)), (21, vI (i2 : Int)), (22, pP b3 0), (56, .slice A0 l0.length c0), (57, vI (l0.length : Int)), (58, vI (i2 : Int)), (59, .bool true), (60, vI (i2 : Int)), (61, .pointer (some ⟨blkOf A0, offOf A0 + i2 * 5, none⟩)), (62, .agg #[vI e3.Task, vI e3.At, vI e3.C, vI e3.Due, vI e3.P])] w := by
 simp only [punctualref_Played.p3] at h
 refine wr [(0, 0), (1, 0), (2, 0), (3, 0), (4, 0), (5, 0), (6, 0), (7, 0), (8, 0), (9, 0)] ?_
 refine gb [0, 1, 2, 3, 4] [(67, .bool (decide (e3.At ≤ z1))), (66, .bool (decide (e3.At ≤ z1))), (65, vI z1), (64, vI e3.At), (63, pP b3 1)] [.loaded ⟨b3, 1, none⟩ (vI e3.At)] ⟨hS.c 0, trivial⟩ ?_
 by_cases hc8 : e3.At ≤ z1
 ·rw [if_pos hc8] at h
  refine gk 67 (decide (e3.At ≤ z1)) true (decide_eq_true hc8) ?_
  refine gb0 [5, 6] [(69, vI (i2 : Int)), (68, .map (some b1))] ?_
  refine ge_lookup (κ := Int) (ν := Int) (d := 70) (b := b1) (q := 4) (t := 161) (kt := 3) (et := 3) (x := (.tmp 68)) (y := (.tmp 69)) (ty := 3) (m := mp4) (k := (i2 : Int)) (z := 0) (v := ((mget mp4 (i2 : Int)).getD 0)) (zv := vI 0) (vv := vI ((mget mp4 (i2 : Int)).getD 0)) (by kernel_rfl) (by kernel_rfl) (by kernel_rfl) (by kernel_rfl) (by kernel_rfl) (fun w' => by kernel_rfl) rfl hS rfl rfl rfl ?_
  refine gb0 [8, 9] [(72, .bool (decide (((mget mp4 (i2 : Int)).getD 0) > 0))), (71, .bool (decide (((mget mp4 (i2 : Int)).getD 0) > 0)))] ?_
  have hS36 := hS.bring 4 rfl
  have hS37 := hS36.bring 4 rfl
  have hS38 := hS37.bring 4 rfl
  have hS39 := hS38.bring 4 rfl
  have hS40 := hS39.takeN 4
  obtain rfl := si h
  exact ge_nil fun a hF => hQ _ _ _ (Outs.again ⟨hS40, hF.weaken ea⟩)
 ·rw [if_neg hc8] at h
  refine gk 67 (decide (e3.At ≤ z1)) false (decide_eq_false hc8) ?_
  refine gb0 [5, 6, 7, 8, 9] [(72, .bool false), (71, undef), (70, undef), (69, undef), (68, undef)] ?_
  have hS41 := hS.bring 4 rfl
  have hS42 := hS41.bring 4 rfl
  have hS43 := hS42.bring 4 rfl
  have hS44 := hS43.bring 4 rfl
  have hS45 := hS44.takeN 4
  obtain rfl := si h
  exact ge_nil fun a hF => hQ _ _ _ (Outs.again ⟨hS45, hF.weaken ea⟩)
abbrev punctualref_Played.A4 (w0 : World) (l0 : List SJob) (A0 : Option Addr) (c0 : Nat) (x1 : Int) (x2 : Bool) (x3 : Int) (x4 : Int) (bg5_0 : Nat) (bg5_1 : Nat) (b1 : Nat) (Z1 : Option Addr) (cz1 : Nat) (z1 : Int) (m4 : List Int) (m5 : List (List Int)) (xr2 : Rows) (mp4 : List (Int × Int)) (m8 : List Int) (i2 : Nat) (Z2 : Option Addr) (cz2 : Nat) : Int → Act → World → Prop := fun (s : Int) a w => St w0 w [Own.of (.slice Z1 m4.length cz1) 3 m4, Own.nest xr2 24 3 m5, Own.of (.slice Z2 m8.length cz2) 3 m8, Own.map (κ := Int) (ν := Int) b1 mp4] ∧ Frm 169 a [(0, .slice A0 l0.length c0), (1, vI x1), (2, .bool x2), (3, vI x3), (4, vI x4), (5, .func (.func 89) #[] #[pP bg5_0 0, pP bg5_1 0]), (14, .map (some b1)), (15, (.slice Z1 m4.length cz1)), (18, (Rows.val xr2)), (19, vI z1), (20, (.slice Z2 m8.length cz2)), (21, vI (i2 : Int)), (23, vI s), (56, .slice A0 l0.length c0), (57, vI (l0.length : Int)), (58, vI (i2 : Int))]
abbrev punctualref_Played.B4 (w0 : World) (l0 : List SJob) (A0 : Option Addr) (c0 : Nat) (x1 : Int) (x2 : Bool) (x3 : Int) (x4 : Int) (bg5_0 : Nat) (bg5_1 : Nat) (b1 : Nat) (Z1 : Option Addr) (cz1 : Nat) (z1 : Int) (m4 : List Int) (m5 : List (List Int)) (xr2 : Rows) (mp4 : List (Int × Int)) (m8 : List Int) (i2 : Nat) (Z2 : Option Addr) (cz2 : Nat) : (Int ⊕ ((List (List Int)) × (List Int))) → Exit → Act → World → Prop := Exits 6 (fun (s : Int) a w => St w0 w [Own.of (.slice Z1 m4.length cz1) 3 m4, Own.nest xr2 24 3 m5, Own.of (.slice Z2 m8.length cz2) 3 m8, Own.map (κ := Int) (ν := Int) b1 mp4] ∧ Frm 169 a [(0, .slice A0 l0.length c0), (1, vI x1), (2, .bool x2), (3, vI x3), (4, vI x4), (5, .func (.func 89) #[] #[pP bg5_0 0, pP bg5_1 0]), (14, .map (some b1)), (15, (.slice Z1 m4.length cz1)), (18, (Rows.val xr2)), (19, vI z1), (20, (.slice Z2 m8.length cz2)), (21, vI (i2 : Int)), (23, vI s), (56, .slice A0 l0.length c0), (57, vI (l0.length : Int)), (58, vI (i2 : Int))]) (Rets Tryd.prog Tryd.f88 (punctualref_Played.Post w0))
theorem punctualref_Played_r4 (K : Nat) (w0 : World) (l0 : List SJob) (A0 : Option Addr) (c0 : Nat) (x1 : Int) (x2 : Bool) (x3 : Int) (x4 : Int) (bg5_0 : Nat) (xg5_0 : Int) (bg5_1 : Nat) (lg5_1 : List SWindow) (Ag5_1 : Option Addr) (cg5_1 : Nat) (hR0 : RdL w0 A0 l0) (hL0 : l0.length ≤ c0) (hBg5_0 : Glob w0 bg5_0 [vI xg5_0]) (hRg5_1 : RdL w0 Ag5_1 lg5_1) (hLg5_1 : lg5_1.length ≤ cg5_1) (hBg5_1 : Glob w0 bg5_1 [.slice Ag5_1 lg5_1.length cg5_1]) (b1 : Nat) (hc1 : l0.length ≤ 17592186044416) (Z1 : Option Addr) (cz1 : Nat) (m3 : List Int) (mp3 : List (Int × Int)) (hc3 : 0 ≤ x4) (hc4 : ((x4).toNat) ≤ 5864062014805) (xr1 : Rows) (z1 : Int) (m4 : List Int) (m5 : List (List Int)) (xr2 : Rows) (mp4 : List (Int × Int)) (hc5 : z1 < x4) (r1 : Bool) (hc6 : r1 = true) (m8 : List Int) (i2 : Nat) (hc7 : (i2 : Int) < (l0.length : Int)) (e3 : SJob) (hx5 : l0[i2]? = some e3) (b3 : Nat) (Z2 : Option Addr) (cz2 : Nat) (q2 : Bool) (hc9 : q2 = true) (s : Int) (o : Int ⊕ (Int ⊕ ((List (List Int)) × (List Int)))) (h : punctualref_Played.r4 l0 x1 m8 i2 s = some o) (a : Act) (w : World) (hA : punctualref_Played.A4 w0 l0 A0 c0 x1 x2 x3 x4 bg5_0 bg5_1 b1 Z1 cz1 z1 m4 m5 xr2 mp4 m8 i2 Z2 cz2 s a w) (Q : Exit → Act → World → Prop) (hQ : ∀ x a w, Outs (punctualref_Played.A4 w0 l0 A0 c0 x1 x2 x3 x4 bg5_0 bg5_1 b1 Z1 cz1 z1 m4 m5 xr2 mp4 m8 i2 Z2 cz2) (punctualref_Played.B4 w0 l0 A0 c0 x1 x2 x3 x4 bg5_0 bg5_1 b1 Z1 cz1 z1 m4 m5 xr2 mp4 m8 i2 Z2 cz2) o x a w → Q x a w) : (subF Tryd.f88 [1, 1, 1, 1, 1, 0, 1, 0, 0, 1, 0, 0, 1, 1, 0, 1, 0, 0, 1, 1, 0, 0, 1, 1, 0, 1, 0, 0, 0]).wp Tryd.prog Q a w := by
 obtain ⟨z2, hs⟩ : ∃ z, z = s := ⟨s, rfl⟩
 subst hs
 obtain ⟨hS, hF⟩ := hA
 replace hS : St w0 w [Own.of (.slice Z1 m4.length cz1) 3 m4, Own.nest xr2 24 3 m5, Own.of (.slice Z2 m8.length cz2) 3 m8, Own.map (κ := Int) (ν := Int) b1 mp4] := hS
 simp only [punctualref_Played.r4] at h
 refine (?_ : WE Tryd.prog 169 (subF Tryd.f88 [1, 1, 1, 1, 1, 0, 1, 0, 0, 1, 0, 0, 1, 1, 0, 1, 0, 0, 1, 1, 0, 0, 1, 1, 0, 1, 0, 0, 0]) Q [(0, .slice A0 l0.length c0), (1, vI x1), (2, .bool x2), (3, vI x3), (4, vI x4), (5, .func (.func 89) #[] #[pP bg5_0 0, pP bg5_1 0]), (14, .map (some b1)), (15, (.slice Z1 m4.length cz1)), (18, (Rows.val xr2)), (19, vI z1), (20, (.slice Z2 m8.length cz2)), (21, vI (i2 : Int)), (23, vI z2), (56, .slice A0 l0.length c0), (57, vI (l0.length : Int)), (58, vI (i2 : Int))] w) a hF
 clear hF a
 refine ws fun K29 hK29 => ?_
 refine ws fun K30 hK30 => ?_
 refine wr [(0, 0), (1, 0), (2, 0), (3, 0), (4, 0), (5, 0), (6, 0), (7, 0), (8, 0), (9, 0), (10, 0), (11, 1), (12, 0)] ?_
 refine gb0 [0, 1, 2] [(77, .bool (decide (z2 > 0))), (76, .bool (decide (z2 > 0))), (75, vI z2)] ?_
 by_cases hc10 : z2 > 0
 ·rw [if_pos hc10] at h
  refine gk 77 (decide (z2 > 0)) true (decide_eq_true hc10) ?_
  refine gb0 [3, 4, 5, 6, 7] [(82, vI (IntKind.i64.wrap (z2 - 1))), (81, vI z2), (80, (.slice Z2 m8.length cz2)), (79, vI (i2 : Int)), (78, .slice A0 l0.length c0)] ?_
  by_cases hc11 : 0 ≤ (IntKind.i64.wrap (z2 - 1))
  ·rw [if_pos hc11] at h
   rcases hx7 : m8[(IntKind.i64.wrap (z2 - 1)).toNat]? with _ | e4
   ·rw [hx7] at h; cases h
   rw [hx7] at h
   simp only [] at h
   refine gi 83 0 24 3 1 m8.length cz2 (.tmp 80) (.tmp 82) Z2 .i64 (IntKind.i64.wrap (z2 - 1)) ((IntKind.i64.wrap (z2 - 1)).toNat) ((hS.rdAt 2 rfl).eqSome (pos_of_get hx7)) (Int.toNat_of_nonneg hc11).symm (lt_of_get hx7) ?_
   rcases hq4 : punctualref_Goes.f l0 (i2 : Int) e4 x1 with _ | r2
   ·rw [hq4] at h; cases h
   rw [hq4] at h
   simp only [] at h
   refine gb [9, 10] [(85, vI x1), (84, vI e4)] [.loaded ⟨blkOf Z2, offOf Z2 + ((IntKind.i64.wrap (z2 - 1)).toNat) * 1, none⟩ (vI e4)] ⟨RdL.cell (j := 0) (hS.rdAt 2 rfl) hx7 rfl, trivial⟩ ?_
   refine ge_call (d := some 86) (f := 127) (args := #[.slice A0 l0.length c0, vI (i2 : Int), vI e4, vI x1]) (by kernel_rfl) (punctualref_Goes_ok l0 A0 c0 (i2 : Int) e4 x1 _ (hS.rd hR0) hL0 _ hq4) ?_
   rintro _ w13 ⟨rfl, hS51⟩
   refine ⟨_, rfl, hS51.below, ?_⟩
   have hS52 := hS.call hS51
   refine gb0 [12] [(87, .bool r2)] ?_
   refine gn hK30 ?_
   by_cases hc12 : r2 = true
   ·rw [if_pos hc12] at h
    refine wk 87 r2 true hc12 ?_
    refine we_true (by kernel_rfl) ?_
    refine we_skip fun a hF => hK29 _ _ ?_ a hF
    refine we_block ?_
    refine wr [(0, 0), (1, 0), (2, 0)] ?_
    refine gb0 [0, 1, 2] [(23, vI (IntKind.i64.wrap (z2 - 1))), (89, vI (IntKind.i64.wrap (z2 - 1))), (88, vI z2)] ?_
    have hS53 := hS52.bring 3 rfl
    have hS54 := hS53.bring 3 rfl
    have hS55 := hS54.bring 3 rfl
    have hS56 := hS55.bring 3 rfl
    obtain rfl := si h
    exact ge_nil fun a hF => hQ _ _ _ (Outs.again ⟨hS56, hF.weaken ea⟩)
   ·rw [if_neg hc12] at h
    refine wk 87 r2 false (Bool.eq_false_iff.2 hc12) ?_
    refine we_false (by kernel_rfl) ?_
    have hS57 := hS52.bring 3 rfl
    have hS58 := hS57.bring 3 rfl
    have hS59 := hS58.bring 3 rfl
    have hS60 := hS59.bring 3 rfl
    obtain rfl := si h
    exact we_exit fun a hF => hQ _ _ _ (Outs.out nofun (Exits.here ⟨hS60, hF.weaken ea⟩))
  ·rw [if_neg hc11] at h
   cases h
 ·rw [if_neg hc10] at h
  refine gk 77 (decide (z2 > 0)) false (decide_eq_false hc10) ?_
  refine gb0 [3, 4, 5, 6, 7, 8, 9, 10] [(85, undef), (84, undef), (83, undef), (82, undef), (81, undef), (80, undef), (79, undef), (78, undef)] ?_
  refine ge_off rfl rfl rfl (by kernel_rfl) ?_
  refine gb0 [12] [(87, .bool false)] ?_
  refine gn hK30 ?_
  refine we_false (by kernel_rfl) ?_
  have hS61 := hS.bring 3 rfl
  have hS62 := hS61.bring 3 rfl
  have hS63 := hS62.bring 3 rfl
  have hS64 := hS63.bring 3 rfl
  obtain rfl := si h
  exact we_exit fun a hF => hQ _ _ _ (Outs.out nofun (Exits.here ⟨hS64, hF.weaken ea⟩))
abbrev punctualref_Played.A2 (w0 : World) (l0 : List SJob) (A0 : Option Addr) (c0 : Nat) (x1 : Int) (x2 : Bool) (x3 : Int) (x4 : Int) (bg5_0 : Nat) (bg5_1 : Nat) (b1 : Nat) (Z1 : Option Addr) (cz1 : Nat) (z1 : Int) (m4 : List Int) (m5 : List (List Int)) (xr2 : Rows) (mp4 : List (Int × Int)) : ((List Int) × Nat) → Act → World → Prop := fun (s : (List Int) × Nat) a w => ∃ (v3 : Value), St w0 w [Own.of (.slice Z1 m4.length cz1) 3 m4, Own.nest xr2 24 3 m5, Own.of v3 3 s.1, Own.map (κ := Int) (ν := Int) b1 mp4] ∧ Frm 169 a [(0, .slice A0 l0.length c0), (1, vI x1), (2, .bool x2), (3, vI x3), (4, vI x4), (5, .func (.func 89) #[] #[pP bg5_0 0, pP bg5_1 0]), (14, .map (some b1)), (15, (.slice Z1 m4.length cz1)), (18, (Rows.val xr2)), (19, vI z1), (20, v3), (56, .slice A0 l0.length c0), (57, vI (l0.length : Int)), (58, vI (s.2 : Int))]
abbrev punctualref_Played.B2 (w0 : World) (l0 : List SJob) (A0 : Option Addr) (c0 : Nat) (x1 : Int) (x2 : Bool) (x3 : Int) (x4 : Int) (bg5_0 : Nat) (bg5_1 : Nat) (b1 : Nat) (Z1 : Option Addr) (cz1 : Nat) (z1 : Int) (m4 : List Int) (m5 : List (List Int)) (xr2 : Rows) (mp4 : List (Int × Int)) : ((List Int) ⊕ ((List (List Int)) × (List Int))) → Exit → Act → World → Prop := Exits 4 (fun (s : (List Int)) a w => ∃ (v4 : Value), St w0 w [Own.of (.slice Z1 m4.length cz1) 3 m4, Own.nest xr2 24 3 m5, Own.of v4 3 s, Own.map (κ := Int) (ν := Int) b1 mp4] ∧ Frm 169 a [(0, .slice A0 l0.length c0), (1, vI x1), (2, .bool x2), (3, vI x3), (4, vI x4), (5, .func (.func 89) #[] #[pP bg5_0 0, pP bg5_1 0]), (14, .map (some b1)), (15, (.slice Z1 m4.length cz1)), (18, (Rows.val xr2)), (19, vI z1), (20, v4)]) (Rets Tryd.prog Tryd.f88 (punctualref_Played.Post w0))
theorem punctualref_Played_r2 (K : Nat) (w0 : World) (l0 : List SJob) (A0 : Option Addr) (c0 : Nat) (x1 : Int) (x2 : Bool) (x3 : Int) (x4 : Int) (bg5_0 : Nat) (xg5_0 : Int) (bg5_1 : Nat) (lg5_1 : List SWindow) (Ag5_1 : Option Addr) (cg5_1 : Nat) (hR0 : RdL w0 A0 l0) (hL0 : l0.length ≤ c0) (hBg5_0 : Glob w0 bg5_0 [vI xg5_0]) (hRg5_1 : RdL w0 Ag5_1 lg5_1) (hLg5_1 : lg5_1.length ≤ cg5_1) (hBg5_1 : Glob w0 bg5_1 [.slice Ag5_1 lg5_1.length cg5_1]) (b1 : Nat) (hc1 : l0.length ≤ 17592186044416) (Z1 : Option Addr) (cz1 : Nat) (m3 : List Int) (mp3 : List (Int × Int)) (hc3 : 0 ≤ x4) (hc4 : ((x4).toNat) ≤ 5864062014805) (xr1 : Rows) (z1 : Int) (m4 : List Int) (m5 : List (List Int)) (xr2 : Rows) (mp4 : List (Int × Int)) (hc5 : z1 < x4) (r1 : Bool) (hc6 : r1 = true) (s : (List Int) × Nat) (o : ((List Int) × Nat) ⊕ ((List Int) ⊕ ((List (List Int)) × (List Int)))) (h : punctualref_Played.r2 K l0 x1 z1 mp4 s = some o) (a : Act) (w : World) (hA : punctualref_Played.A2 w0 l0 A0 c0 x1 x2 x3 x4 bg5_0 bg5_1 b1 Z1 cz1 z1 m4 m5 xr2 mp4 s a w) (Q : Exit → Act → World → Prop) (hQ : ∀ x a w, Outs (punctualref_Played.A2 w0 l0 A0 c0 x1 x2 x3 x4 bg5_0 bg5_1 b1 Z1 cz1 z1 m4 m5 xr2 mp4) (punctualref_Played.B2 w0 l0 A0 c0 x1 x2 x3 x4 bg5_0 bg5_1 b1 Z1 cz1 z1 m4 m5 xr2 mp4) o x a w → Q x a w) : (subF Tryd.f88 [1, 1, 1, 1, 1, 0, 1, 0, 0, 1, 0, 0, 1, 1, 0, 1, 0, 0]).wp Tryd.prog Q a w := by
 obtain ⟨m8, i2⟩ := s
 obtain ⟨v3, hS, hF⟩ := hA
 replace hS : St w0 w [Own.of (.slice Z1 m4.length cz1) 3 m4, Own.nest xr2 24 3 m5, Own.of v3 3 m8, Own.map (κ := Int) (ν := Int) b1 mp4] := hS
 simp only [punctualref_Played.r2] at h
 refine (?_ : WE Tryd.prog 169 (subF Tryd.f88 [1, 1, 1, 1, 1, 0, 1, 0, 0, 1, 0, 0, 1, 1, 0, 1, 0, 0]) Q [(0, .slice A0 l0.length c0), (1, vI x1), (2, .bool x2), (3, vI x3), (4, vI x4), (5, .func (.func 89) #[] #[pP bg5_0 0, pP bg5_1 0]), (14, .map (some b1)), (15, (.slice Z1 m4.length cz1)), (18, (Rows.val xr2)), (19, vI z1), (20, v3), (56, .slice A0 l0.length c0), (57, vI (l0.length : Int)), (58, vI (i2 : Int))] w) a hF
 clear hF a
 refine ws fun K22 hK22 => ?_
 refine wr [(0, 0)] ?_
 refine gb0 [0] [(59, .bool (decide ((i2 : Int) < (l0.length : Int))))] ?_
 refine gn hK22 ?_
 refine ws fun K23 hK23 => ?_
 by_cases hc7 : (i2 : Int) < (l0.length : Int)
 ·rw [if_pos hc7] at h
  refine wk 59 (decide ((i2 : Int) < (l0.length : Int))) true (decide_eq_true hc7) ?_
  refine we_true (by kernel_rfl) ?_
  refine we_skip fun a hF => hK23 _ _ ?_ a hF
  refine ws fun K24 hK24 => ?_
  refine we_block ?_
  refine ws fun K25 hK25 => ?_
  refine wr [(0, 0), (1, 0), (2, 0), (3, 1), (4, 0), (5, 2)] ?_
  refine gb0 [0] [(60, vI (i2 : Int))] ?_
  rcases hx5 : l0[i2]? with _ | e3
  ·rw [hx5] at h; cases h
  rw [hx5] at h
  simp only [] at h
  refine gi 61 0 49 58 5 l0.length c0 (.tmp 56) (.tmp 58) A0 .i64 (i2 : Int) i2 ((hS.rd hR0).eqSome (pos_of_get hx5)) rfl (lt_of_get hx5) ?_
  refine gb [2] [(62, .agg #[vI e3.Task, vI e3.At, vI e3.C, vI e3.Due, vI e3.P])] [.loaded ⟨blkOf A0, offOf A0 + i2 * 5, none⟩ (vI e3.Task), .loaded ⟨blkOf A0, offOf A0 + i2 * 5 + 1, none⟩ (vI e3.At), .loaded ⟨blkOf A0, offOf A0 + i2 * 5 + 2, none⟩ (vI e3.C), .loaded ⟨blkOf A0, offOf A0 + i2 * 5 + 3, none⟩ (vI e3.Due), .loaded ⟨blkOf A0, offOf A0 + i2 * 5 + 4, none⟩ (vI e3.P)] ⟨RdL.cell (j := 0) (hS.rd hR0) hx5 rfl, RdL.cell (j := 1) (hS.rd hR0) hx5 rfl, RdL.cell (j := 2) (hS.rd hR0) hx5 rfl, RdL.cell (j := 3) (hS.rd hR0) hx5 rfl, RdL.cell (j := 4) (hS.rd hR0) hx5 rfl, trivial⟩ ?_
  refine gw (some 22) (.cells #[vI 0, vI 0, vI 0, vI 0, vI 0] 58) (fun b => pP b 0) hS fun b3 w10 hx6 hS33 => ?_
  refine gb0 [4] [(21, vI (i2 : Int))] ?_
  refine gs b3 0 #[vI 0, vI 0, vI 0, vI 0, vI 0] 58 [vI e3.Task, vI e3.At, vI e3.C, vI e3.Due, vI e3.P] hS33 fun w11 hS34 => ?_
  have hS35 : St w0 w11 [Own.blk b3 (.cells #[vI e3.Task, vI e3.At, vI e3.C, vI e3.Due, vI e3.P] 58 (0, 0)), Own.of (.slice Z1 m4.length cz1) 3 m4, Own.nest xr2 24 3 m5, Own.of v3 3 m8, Own.map (κ := Int) (ν := Int) b1 mp4] := hS34
  refine gn hK25 ?_
  refine ws fun K26 hK26 => ?_
  obtain ⟨Z2, cz2, rfl⟩ := hS35.open 3 rfl
  rcases hq3 : punctualref_Played.p3 z1 mp4 i2 e3 with _ | (q2 | rr2)
  ·rw [hq3] at h; cases h
  ·rw [hq3] at h
   simp only [] at h
   refine we_keep (e' := [(0, .slice A0 l0.length c0), (1, vI x1), (2, .bool x2), (3, vI x3), (4, vI x4), (5, .func (.func 89) #[] #[pP bg5_0 0, pP bg5_1 0]), (14, .map (some b1)), (15, (.slice Z1 m4.length cz1)), (18, (Rows.val xr2)), (19, vI z1), (20, (.slice Z2 m8.length cz2)), (21, vI (i2 : Int)), (22, pP b3 0), (56, .slice A0 l0.length c0), (57, vI (l0.length : Int)), (58, vI (i2 : Int)), (59, .bool true), (60, vI (i2 : Int)), (61, .pointer (some ⟨blkOf A0, offOf A0 + i2 * 5, none⟩)), (62, .agg #[vI e3.Task, vI e3.At, vI e3.C, vI e3.Due, vI e3.P])]) ea (punctualref_Played_p3 K w0 l0 A0 c0 x1 x2 x3 x4 bg5_0 xg5_0 bg5_1 lg5_1 Ag5_1 cg5_1 hR0 hL0 hBg5_0 hRg5_1 hLg5_1 hBg5_1 b1 hc1 Z1 cz1 m3 mp3 hc3 hc4 xr1 z1 m4 m5 xr2 mp4 hc5 r1 hc6 m8 i2 hc7 e3 hx5 b3 Z2 cz2 _ hq3 _ hS35 _ ?_)
   rintro _ a w12 ⟨rfl, hS46, hF⟩
   replace hS46 : St w0 w12 [Own.of (.slice Z1 m4.length cz1) 3 m4, Own.nest xr2 24 3 m5, Own.of (.slice Z2 m8.length cz2) 3 m8, Own.map (κ := Int) (ν := Int) b1 mp4] := hS46
   refine hK26 [(0, .slice A0 l0.length c0), (1, vI x1), (2, .bool x2), (3, vI x3), (4, vI x4), (5, .func (.func 89) #[] #[pP bg5_0 0, pP bg5_1 0]), (14, .map (some b1)), (15, (.slice Z1 m4.length cz1)), (18, (Rows.val xr2)), (19, vI z1), (20, (.slice Z2 m8.length cz2)), (21, vI (i2 : Int)), (56, .slice A0 l0.length c0), (57, vI (l0.length : Int)), (58, vI (i2 : Int)), (72, .bool q2)] w12 ?_ a hF
   by_cases hc9 : q2 = true
   ·rw [if_pos hc9] at h
    refine wk 72 q2 true hc9 ?_
    refine we_true (by kernel_rfl) ?_
    refine ws fun K27 hK27 => ?_
    refine wr [(0, 0), (1, 0), (2, 0)] ?_
    refine gb0 [0, 1, 2] [(23, vI (m8.length : Int)), (74, vI (m8.length : Int)), (73, (.slice Z2 m8.length cz2))] ?_
    refine gn hK27 ?_
    refine ws fun K28 hK28 => ?_
    refine we_block ?_
    have hS47 := hS46.bring 3 rfl
    have hS48 := hS47.bring 3 rfl
    have hS49 := hS48.bring 3 rfl
    have hS50 := hS49.bring 3 rfl
    rcases hq5 : iter (punctualref_Played.r4 l0 x1 m8 i2) K (m8.length : Int) with _ | (z4 | rr1)
    ·rw [hq5] at h; cases h
    ·rw [hq5] at h
     simp only [] at h
     refine we_iter (A := punctualref_Played.A4 w0 l0 A0 c0 x1 x2 x3 x4 bg5_0 bg5_1 b1 Z1 cz1 z1 m4 m5 xr2 mp4 m8 i2 Z2 cz2) (B := punctualref_Played.B4 w0 l0 A0 c0 x1 x2 x3 x4 bg5_0 bg5_1 b1 Z1 cz1 z1 m4 m5 xr2 mp4 m8 i2 Z2 cz2) hq5 (fun a hF => ⟨hS50, hF.weaken ea⟩) (fun s o hf a w hA Q hQ => punctualref_Played_r4 K w0 l0 A0 c0 x1 x2 x3 x4 bg5_0 xg5_0 bg5_1 lg5_1 Ag5_1 cg5_1 hR0 hL0 hBg5_0 hRg5_1 hLg5_1 hBg5_1 b1 hc1 Z1 cz1 m3 mp3 hc3 hc4 xr1 z1 m4 m5 xr2 mp4 hc5 r1 hc6 m8 i2 hc7 e3 hx5 b3 Z2 cz2 q2 hc9 s o hf a w hA Q hQ) ?_
     rintro _ a w14 _ ⟨rfl, hS65, hF⟩
     replace hS65 : St w0 w14 [Own.of (.slice Z1 m4.length cz1) 3 m4, Own.nest xr2 24 3 m5, Own.of (.slice Z2 m8.length cz2) 3 m8, Own.map (κ := Int) (ν := Int) b1 mp4] := hS65
     refine hK28 [(0, .slice A0 l0.length c0), (1, vI x1), (2, .bool x2), (3, vI x3), (4, vI x4), (5, .func (.func 89) #[] #[pP bg5_0 0, pP bg5_1 0]), (14, .map (some b1)), (15, (.slice Z1 m4.length cz1)), (18, (Rows.val xr2)), (19, vI z1), (20, (.slice Z2 m8.length cz2)), (21, vI (i2 : Int)), (23, vI z4), (56, .slice A0 l0.length c0), (57, vI (l0.length : Int)), (58, vI (i2 : Int))] w14 ?_ a hF
     refine we_orders2 (by kernel_rfl) [] (.vals [0] (.vals [1] (.vals [2] (.vals [3] (.vals [5] (.vals [6] (.vals [7] (.alt 4 1 (.alt 8 2 (.alt 9 2 (.vals [10] .fin) .nomore) .nomore) .nomore)))))))) (by kernel_rfl) ?_
     have hS66 := hS65.drew
     refine go2_batch [0, 1] (ans := []) (vs := [(91, vI z4), (90, (.slice Z2 m8.length cz2))]) (l := []) (by kernel_rfl) trivial mem_nil ?_
     by_cases hc13 : 0 ≤ z4
     ·rw [if_pos hc13] at h
      by_cases hc14 : ((z4).toNat) ≤ m8.length
      ·rw [if_pos hc14] at h
       refine go2_sliceHi (d := 92) (ty := 24) (t := 24) (el := 3) (sz := 1) (m := m8.length) (c := cz2) (hn := ((z4).toNat)) (x := (.tmp 90)) (y := (.tmp 91)) (A := Z2) (k' := .i64) (hi := z4) (by kernel_rfl) (by kernel_rfl) (by kernel_rfl) (Int.toNat_of_nonneg hc13).symm (by kernel_rfl) (by kernel_rfl) (by have f0 := hc14; have f1 := (hS66.capAt 2 rfl); omega) ?_
       refine go2_same (t := 92) (v := .slice Z2 ((z4).toNat) cz2) (v' := .slice Z2 ((m8.take ((z4).toNat)).length) cz2) (by kernel_rfl) (congrArg (fun z => Value.slice Z2 z cz2) (show (z4).toNat = (m8.take ((z4).toNat)).length by have f0 := hc14; have f1 := (hS66.capAt 2 rfl); simp only [List.length_take]; omega)) ?_
       refine go2_batch [3, 5, 6] (ans := []) (vs := [(96, vI z4), (95, (.slice Z2 m8.length cz2)), (93, vI (i2 : Int))]) (l := []) (by kernel_rfl) trivial mem_nil ?_
       refine go2_part (d := 97) (ty := 24) (t := 24) (el := 3) (sz := 1) (m := m8.length) (c := cz2) (lo := ((z4).toNat)) (hi := m8.length) (x := (.tmp 95)) (xl := some (.tmp 96)) (xh := none) (A := Z2) (by kernel_rfl) (by kernel_rfl) ⟨.i64, z4, by kernel_rfl, (Int.toNat_of_nonneg hc13).symm⟩ rfl (by kernel_rfl) (by kernel_rfl) (by have f0 := hc14; have f1 := (hS66.capAt 2 rfl); omega) (by have f0 := hc14; have f1 := (hS66.capAt 2 rfl); omega) ?_
       refine go2_same (t := 97) (v := .slice (subA Z2 cz2 ((z4).toNat) 1) (m8.length - ((z4).toNat)) (cz2 - ((z4).toNat))) (v' := .slice (subA Z2 cz2 ((z4).toNat) 1) (((m8.take m8.length).drop ((z4).toNat)).length) (cz2 - ((z4).toNat))) (by kernel_rfl) (congrArg (fun z => Value.slice (subA Z2 cz2 ((z4).toNat) 1) z (cz2 - ((z4).toNat))) (show m8.length - ((z4).toNat) = ((m8.take m8.length).drop ((z4).toNat)).length by have f0 := hc14; have f1 := (hS66.capAt 2 rfl); simp only [List.length_drop, List.length_take]; omega)) ?_
       refine go_alt2 (fun KK hKK => ?_) ?_
       ·refine ge_one2 ?_
        refine gw (some 94) (.cells #[vI (i2 : Int)] 3) (fun b => .slice (some ⟨b, 0, none⟩) 1 1) hS66 fun b4 w15 hx8 hS67 => ?_
        refine ge_nil fun a hF => hKK _ _ (RS.of2 (l := []) (by kernel_rfl) trivial trivial) ?_ a hF
        refine go_alt2 (fun KK hKK => ?_) ?_
        ·have hS68 := hS67.asRow (α := Int) (c := 1) ([(i2 : Int)] : List Int) (Nat.le_refl _) (by decide) rfl rfl
         by_cases hc15 : ([(i2 : Int)] : List Int).length + ((m8.take m8.length).drop ((z4).toNat)).length ≤ 17592186044416
         ·rw [if_pos hc15] at h
          refine ge_appendL (α := Int) (m := 0) (d := 98) (t := 24) (el := 3) (bytes := 8) (c1 := (cz2 - ((z4).toNat))) (A1 := (subA Z2 cz2 ((z4).toNat) 1)) (x := (.tmp 94)) (y := (.tmp 97)) (ty := 24) (v := (.slice (some ⟨b4, 0, none⟩) 1 1)) (z := vI 0) (l := ([(i2 : Int)] : List Int)) (us := ((m8.take m8.length).drop ((z4).toNat))) (by kernel_rfl) (by kernel_rfl) (by kernel_rfl) (by kernel_rfl) (by kernel_rfl) rfl hS68 (RdL.part (hS68.rdAt 3 rfl) (hS68.capAt 3 rfl) ((z4).toNat) m8.length) rfl (Nat.mul_le_of_le_div _ _ _ hc15) fun v5 w16 hS69 => ?_
          have hS70 : St w0 w16 [Own.of v5 3 (([(i2 : Int)] : List Int) ++ ((m8.take m8.length).drop ((z4).toNat))), Own.of (.slice Z1 m4.length cz1) 3 m4, Own.nest xr2 24 3 m5, Own.of (.slice Z2 m8.length cz2) 3 m8, Own.map (κ := Int) (ν := Int) b1 mp4] := hS69
          refine ge_nil fun a hF => hKK _ _ (RS.of2 (l := []) (by kernel_rfl) trivial trivial) ?_ a hF
          refine go_alt2 (fun KK hKK => ?_) ?_
          ·have hS71 := hS70.bring 3 rfl
           have hS72 := hS71.shrink ((z4).toNat)
           obtain ⟨Z3, cz3, rfl⟩ := hS72.open 1 rfl
           by_cases hc16 : (m8.take ((z4).toNat)).length + (([(i2 : Int)] : List Int) ++ ((m8.take m8.length).drop ((z4).toNat))).length ≤ 17592186044416
           ·rw [if_pos hc16] at h
            refine ge_appendL (α := Int) (m := 0) (d := 99) (t := 24) (el := 3) (bytes := 8) (c1 := cz3) (A1 := Z3) (x := (.tmp 92)) (y := (.tmp 98)) (ty := 24) (v := (.slice Z2 (m8.take ((z4).toNat)).length cz2)) (z := vI 0) (l := (m8.take ((z4).toNat))) (us := (([(i2 : Int)] : List Int) ++ ((m8.take m8.length).drop ((z4).toNat)))) (by kernel_rfl) (by kernel_rfl) (by kernel_rfl) (by kernel_rfl) (by kernel_rfl) rfl hS72 (hS72.rdAt 1 rfl) rfl (Nat.mul_le_of_le_div _ _ _ hc16) fun v6 w17 hS73 => ?_
            have hS74 : St w0 w17 [Own.of v6 3 ((m8.take ((z4).toNat)) ++ (([(i2 : Int)] : List Int) ++ ((m8.take m8.length).drop ((z4).toNat)))), Own.of (.slice Z3 (([(i2 : Int)] : List Int) ++ ((m8.take m8.length).drop ((z4).toNat))).length cz3) 3 (([(i2 : Int)] : List Int) ++ ((m8.take m8.length).drop ((z4).toNat))), Own.of (.slice Z1 m4.length cz1) 3 m4, Own.nest xr2 24 3 m5, Own.map (κ := Int) (ν := Int) b1 mp4] := hS73
            refine ge_nil fun a hF => hKK _ _ (RS.of2 (l := []) (by kernel_rfl) trivial trivial) ?_ a hF
            refine go2_batch [10] (ans := []) (vs := [(20, v6)]) (l := []) (by kernel_rfl) trivial mem_nil ?_
            refine go_fin2 fun a hF => hK24 _ _ ?_ a hF
            refine wr [(0, 0), (1, 0)] ?_
            refine ge_addn (d := 100) (ty := 3) (x := (.tmp 58)) (y := (.const (vI 1))) (t := 3) (t2 := 3) (k := .i64) (m := i2) (by kernel_rfl) (by kernel_rfl) (by kernel_rfl) (by have h0 := hR0.small; omega) ?_
            refine gb0 [1] [(58, vI ((i2 + 1 : Nat) : Int))] ?_
            have hS75 := hS74.bring 4 rfl
            have hS76 := hS75.bring 1 rfl
            have hS77 := hS76.bring 4 rfl
            have hS78 := hS77.bring 4 rfl
            have hS79 := hS78.takeN 4
            obtain rfl := si h
            exact ge_nil fun a hF => hQ _ _ _ (Outs.again ⟨v6, hS79, hF.weaken ea⟩)
           ·rw [if_neg hc16] at h
            cases h
          exact go_nomore2
         ·rw [if_neg hc15] at h
          cases h
        exact go_nomore2
       exact go_nomore2
      ·rw [if_neg hc14] at h
       cases h
     ·rw [if_neg hc13] at h
      cases h
    ·rw [hq5] at h
     simp only [] at h
     refine we_iter (A := punctualref_Played.A4 w0 l0 A0 c0 x1 x2 x3 x4 bg5_0 bg5_1 b1 Z1 cz1 z1 m4 m5 xr2 mp4 m8 i2 Z2 cz2) (B := punctualref_Played.B4 w0 l0 A0 c0 x1 x2 x3 x4 bg5_0 bg5_1 b1 Z1 cz1 z1 m4 m5 xr2 mp4 m8 i2 Z2 cz2) hq5 (fun a hF => ⟨hS50, hF.weaken ea⟩) (fun s o hf a w hA Q hQ => punctualref_Played_r4 K w0 l0 A0 c0 x1 x2 x3 x4 bg5_0 xg5_0 bg5_1 lg5_1 Ag5_1 cg5_1 hR0 hL0 hBg5_0 hRg5_1 hLg5_1 hBg5_1 b1 hc1 Z1 cz1 m3 mp3 hc3 hc4 xr1 z1 m4 m5 xr2 mp4 hc5 r1 hc6 m8 i2 hc7 e3 hx5 b3 Z2 cz2 q2 hc9 s o hf a w hA Q hQ) ?_
     rintro _ a w1 _ ⟨rfl, hb⟩
     obtain rfl := si h
     exact hQ _ _ _ (Outs.out nofun (Exits.on ⟨rfl, hb⟩))
   ·rw [if_neg hc9] at h
    refine wk 72 q2 false (Bool.eq_false_iff.2 hc9) ?_
    refine we_false (by kernel_rfl) ?_
    refine we_skip fun a hF => hK24 _ _ ?_ a hF
    refine wr [(0, 0), (1, 0)] ?_
    refine ge_addn (d := 100) (ty := 3) (x := (.tmp 58)) (y := (.const (vI 1))) (t := 3) (t2 := 3) (k := .i64) (m := i2) (by kernel_rfl) (by kernel_rfl) (by kernel_rfl) (by have h0 := hR0.small; omega) ?_
    refine gb0 [1] [(58, vI ((i2 + 1 : Nat) : Int))] ?_
    have hS80 := hS46.bring 3 rfl
    have hS81 := hS80.bring 3 rfl
    have hS82 := hS81.bring 3 rfl
    have hS83 := hS82.bring 3 rfl
    obtain rfl := si h
    exact ge_nil fun a hF => hQ _ _ _ (Outs.again ⟨(.slice Z2 m8.length cz2), hS83, hF.weaken ea⟩)
  ·rw [hq3] at h
   simp only [] at h
   refine we_keep (e' := [(0, .slice A0 l0.length c0), (1, vI x1), (2, .bool x2), (3, vI x3), (4, vI x4), (5, .func (.func 89) #[] #[pP bg5_0 0, pP bg5_1 0]), (14, .map (some b1)), (15, (.slice Z1 m4.length cz1)), (18, (Rows.val xr2)), (19, vI z1), (20, (.slice Z2 m8.length cz2)), (21, vI (i2 : Int)), (22, pP b3 0), (56, .slice A0 l0.length c0), (57, vI (l0.length : Int)), (58, vI (i2 : Int)), (59, .bool true), (60, vI (i2 : Int)), (61, .pointer (some ⟨blkOf A0, offOf A0 + i2 * 5, none⟩)), (62, .agg #[vI e3.Task, vI e3.At, vI e3.C, vI e3.Due, vI e3.P])]) ea (punctualref_Played_p3 K w0 l0 A0 c0 x1 x2 x3 x4 bg5_0 xg5_0 bg5_1 lg5_1 Ag5_1 cg5_1 hR0 hL0 hBg5_0 hRg5_1 hLg5_1 hBg5_1 b1 hc1 Z1 cz1 m3 mp3 hc3 hc4 xr1 z1 m4 m5 xr2 mp4 hc5 r1 hc6 m8 i2 hc7 e3 hx5 b3 Z2 cz2 _ hq3 _ hS35 _ ?_)
   rintro _ a w1 ⟨_, rfl, hb⟩
   obtain rfl := si h
   exact hQ _ _ _ (Outs.out nofun (Exits.on ⟨rfl, hb⟩))
 ·rw [if_neg hc7] at h
  refine wk 59 (decide ((i2 : Int) < (l0.length : Int))) false (decide_eq_false hc7) ?_
  refine we_false (by kernel_rfl) ?_
  have hS84 := hS.bring 3 rfl
  have hS85 := hS84.bring 3 rfl
  have hS86 := hS85.bring 3 rfl
  have hS87 := hS86.bring 3 rfl
  obtain rfl := si h
  exact we_exit fun a hF => hQ _ _ _ (Outs.out nofun (Exits.here ⟨v3, hS87, hF.weaken ea⟩))
abbrev punctualref_Played.A5 (w0 : World) (l0 : List SJob) (A0 : Option Addr) (c0 : Nat) (x1 : Int) (x2 : Bool) (x3 : Int) (x4 : Int) (bg5_0 : Nat) (bg5_1 : Nat) (b1 : Nat) (Z1 : Option Addr) (cz1 : Nat) (z1 : Int) (m4 : List Int) (m5 : List (List Int)) (xr2 : Rows) (mp4 : List (Int × Int)) : (List Int) → Act → World → Prop := fun (s : (List Int)) a w => ∃ (v8 : Value), St w0 w [Own.of (.slice Z1 m4.length cz1) 3 m4, Own.nest xr2 24 3 m5, Own.of v8 3 s, Own.map (κ := Int) (ν := Int) b1 mp4] ∧ Frm 169 a [(0, .slice A0 l0.length c0), (1, vI x1), (2, .bool x2), (3, vI x3), (4, vI x4), (5, .func (.func 89) #[] #[pP bg5_0 0, pP bg5_1 0]), (14, .map (some b1)), (15, (.slice Z1 m4.length cz1)), (18, (Rows.val xr2)), (19, vI z1), (20, v8)]
abbrev punctualref_Played.B5 (w0 : World) : ((List (List Int)) × (List Int)) → Exit → Act → World → Prop := Rets Tryd.prog Tryd.f88 (punctualref_Played.Post w0)
theorem punctualref_Played_p5 (K : Nat) (w0 : World) (l0 : List SJob) (A0 : Option Addr) (c0 : Nat) (x1 : Int) (x2 : Bool) (x3 : Int) (x4 : Int) (bg5_0 : Nat) (xg5_0 : Int) (bg5_1 : Nat) (lg5_1 : List SWindow) (Ag5_1 : Option Addr) (cg5_1 : Nat) (hR0 : RdL w0 A0 l0) (hL0 : l0.length ≤ c0) (hBg5_0 : Glob w0 bg5_0 [vI xg5_0]) (hRg5_1 : RdL w0 Ag5_1 lg5_1) (hLg5_1 : lg5_1.length ≤ cg5_1) (hBg5_1 : Glob w0 bg5_1 [.slice Ag5_1 lg5_1.length cg5_1]) (b1 : Nat) (hc1 : l0.length ≤ 17592186044416) (Z1 : Option Addr) (cz1 : Nat) (m3 : List Int) (mp3 : List (Int × Int)) (hc3 : 0 ≤ x4) (hc4 : ((x4).toNat) ≤ 5864062014805) (xr1 : Rows) (z1 : Int) (m4 : List Int) (m5 : List (List Int)) (xr2 : Rows) (mp4 : List (Int × Int)) (hc5 : z1 < x4) (r1 : Bool) (hc6 : r1 = true) (m10 : List Int) (Z4 : Option Addr) (cz4 : Nat) (o : (List Int) ⊕ ((List (List Int)) × (List Int))) (h : punctualref_Played.p5 x2 z1 m5 mp4 m10 = some o) (w : World) (hS : St w0 w [Own.of (.slice Z1 m4.length cz1) 3 m4, Own.nest xr2 24 3 m5, Own.of (.slice Z4 m10.length cz4) 3 m10, Own.map (κ := Int) (ν := Int) b1 mp4]) (Q : Exit → Act → World → Prop) (hQ : ∀ x a w, Outs (punctualref_Played.A5 w0 l0 A0 c0 x1 x2 x3 x4 bg5_0 bg5_1 b1 Z1 cz1 z1 m4 m5 xr2 mp4) (punctualref_Played.B5 w0) o x a w → Q x a w) : WE Tryd.prog 169 (subF Tryd.f88 [1, 1, 1, 1, 1, 0, 1, 0, 0, 1, 0, 0, 1, 1, 1, 0]) Q [(0, .slice A0 l0.length c0), (1, vI x1), (2, .bool x2), (3, vI x3), (4, vI x4), (5, .func (.func 89) #[] #[pP bg5_0 0, pP bg5_1 0]), (14, .map (some b1)), (15, (.slice Z1 m4.length cz1)), (18, (Rows.val xr2)), (19, vI z1), (20, (.slice Z4 m10.length cz4))] w := by
 simp only [punctualref_Played.p5] at h
 refine ws fun K32 hK32 => ?_
 refine wr [(0, 0), (1, 0), (2, 0), (3, 0), (4, 0), (5, 0), (6, 0), (7, 0), (8, 0), (9, 0), (10, 0), (11, 0), (12, 0), (13, 0), (14, 0), (15, 0), (16, 0), (17, 0), (18, 0), (19, 0), (20, 0), (21, 0), (22, 0), (23, 0), (24, 0), (25, 0), (26, 0)] ?_
 refine gb0 [0, 1, 2] [(103, .bool (!x2)), (102, .bool (!x2)), (101, .bool x2)] ?_
 by_cases hc17 : x2 = true
 ·rw [if_pos hc17] at h
  refine gk 103 (!x2) false (congrArg (fun z => !z) hc17) ?_
  refine gb0 [3, 4, 5, 6, 7, 8, 9, 10, 11, 12, 13, 14, 15, 16, 17, 18, 19, 20, 21, 22, 23, 24, 25, 26] [(127, .bool false), (126, undef), (125, undef), (124, undef), (123, undef), (122, undef), (121, undef), (120, undef), (119, undef), (118, undef), (117, undef), (116, .bool false), (115, .bool false), (114, undef), (113, undef), (112, undef), (111, undef), (110, undef), (109, undef), (108, undef), (107, .bool false), (106, .bool false), (105, undef), (104, undef)] ?_
  refine gn hK32 ?_
  refine we_false (by kernel_rfl) ?_
  have hS89 := hS.bring 3 rfl
  have hS90 := hS89.bring 3 rfl
  have hS91 := hS90.bring 3 rfl
  have hS92 := hS91.bring 3 rfl
  obtain rfl := si h
  exact we_skip fun a hF => hQ _ _ _ (Outs.again ⟨(.slice Z4 m10.length cz4), hS92, hF.weaken ea⟩)
 ·rw [if_neg hc17] at h
  refine gk 103 (!x2) true (congrArg (fun z => !z) (Bool.eq_false_iff.2 hc17)) ?_
  refine gb0 [3, 4, 5, 6] [(107, .bool (decide (z1 > 0))), (106, .bool (decide (z1 > 0))), (105, .bool (decide (z1 > 0))), (104, vI z1)] ?_
  by_cases hc18 : z1 > 0
  ·rw [if_pos hc18] at h
   refine gk 107 (decide (z1 > 0)) true (decide_eq_true hc18) ?_
   refine gb0 [7, 8, 9] [(110, vI (IntKind.i64.wrap (z1 - 1))), (109, vI z1), (108, (Rows.val xr2))] ?_
   by_cases hc19 : 0 ≤ (IntKind.i64.wrap (z1 - 1))
   ·rw [if_pos hc19] at h
    rcases hx9 : m5[(IntKind.i64.wrap (z1 - 1)).toNat]? with _ | e5
    ·rw [hx9] at h; cases h
    rw [hx9] at h
    simp only [] at h
    obtain ⟨An1, cn1, hxn1, -, -⟩ := (hS.nestAt 1 rfl).nl.get hx9
    refine gi 111 0 76 24 1 xr2.n xr2.c (.tmp 108) (.tmp 110) xr2.A .i64 (IntKind.i64.wrap (z1 - 1)) ((IntKind.i64.wrap (z1 - 1)).toNat) ((hS.nestAt 1 rfl).rd.eqSome (pos_of_get hxn1)) (Int.toNat_of_nonneg hc19).symm (by have h0 := lt_of_get hx9; have h1 := (hS.nestAt 1 rfl).n; omega) ?_
    refine gb [11, 12, 13, 14, 15] [(116, .bool (decide ((e5.length : Int) > 0))), (115, .bool (decide ((e5.length : Int) > 0))), (114, .bool (decide ((e5.length : Int) > 0))), (113, vI (e5.length : Int)), (112, .slice An1 e5.length cn1)] [.loaded ⟨blkOf xr2.A, offOf xr2.A + ((IntKind.i64.wrap (z1 - 1)).toNat) * 1, none⟩ (.slice An1 e5.length cn1)] ⟨RdL.cell (j := 0) ((hS.nestAt 1 rfl).rd) hxn1 rfl, trivial⟩ ?_
    by_cases hc20 : (e5.length : Int) > 0
    ·rw [if_pos hc20] at h
     refine gk 116 (decide ((e5.length : Int) > 0)) true (decide_eq_true hc20) ?_
     refine gb0 [16, 17, 18, 19] [(120, vI (IntKind.i64.wrap (z1 - 1))), (119, vI z1), (118, (Rows.val xr2)), (117, .map (some b1))] ?_
     refine gi 121 0 76 24 1 xr2.n xr2.c (.tmp 118) (.tmp 120) xr2.A .i64 (IntKind.i64.wrap (z1 - 1)) ((IntKind.i64.wrap (z1 - 1)).toNat) ((hS.nestAt 1 rfl).rd.eqSome (pos_of_get hxn1)) (Int.toNat_of_nonneg hc19).symm (by have h0 := lt_of_get hx9; have h1 := (hS.nestAt 1 rfl).n; omega) ?_
     refine gb [21] [(122, .slice An1 e5.length cn1)] [.loaded ⟨blkOf xr2.A, offOf xr2.A + ((IntKind.i64.wrap (z1 - 1)).toNat) * 1, none⟩ (.slice An1 e5.length cn1)] ⟨RdL.cell (j := 0) ((hS.nestAt 1 rfl).rd) hxn1 rfl, trivial⟩ ?_
     rcases hx10 : e5[0]? with _ | e6
     ·rw [hx10] at h; cases h
     rw [hx10] at h
     simp only [] at h
     refine gi 123 0 24 3 1 e5.length cn1 (.tmp 122) (.const (vI 0)) An1 .i64 0 0 ((((hS.nestAt 1 rfl).nl.each _ _ _ hxn1 hx9).2.1).eqSome (pos_of_get hx10)) rfl (lt_of_get hx10) ?_
     refine gb [23] [(124, vI e6)] [.loaded ⟨blkOf An1, offOf An1 + 0 * 1, none⟩ (vI e6)] ⟨RdL.cell (j := 0) (((hS.nestAt 1 rfl).nl.each _ _ _ hxn1 hx9).2.1) hx10 rfl, trivial⟩ ?_
     refine ge_lookup (κ := Int) (ν := Int) (d := 125) (b := b1) (q := 3) (t := 161) (kt := 3) (et := 3) (x := (.tmp 117)) (y := (.tmp 124)) (ty := 3) (m := mp4) (k := e6) (z := 0) (v := ((mget mp4 e6).getD 0)) (zv := vI 0) (vv := vI ((mget mp4 e6).getD 0)) (by kernel_rfl) (by kernel_rfl) (by kernel_rfl) (by kernel_rfl) (by kernel_rfl) (fun w' => by kernel_rfl) rfl hS rfl rfl rfl ?_
     refine gb0 [25, 26] [(127, .bool (decide (((mget mp4 e6).getD 0) > 0))), (126, .bool (decide (((mget mp4 e6).getD 0) > 0)))] ?_
     refine gn hK32 ?_
     by_cases hc21 : ((mget mp4 e6).getD 0) > 0
     ·rw [if_pos hc21] at h
      refine wk 127 (decide (((mget mp4 e6).getD 0) > 0)) true (decide_eq_true hc21) ?_
      refine we_true (by kernel_rfl) ?_
      refine wr [(0, 0), (1, 0), (2, 0), (3, 0), (4, 0), (5, 0), (6, 0), (7, 1), (8, 0)] ?_
      refine gb0 [0, 1, 2] [(130, vI (IntKind.i64.wrap (z1 - 1))), (129, vI z1), (128, (Rows.val xr2))] ?_
      refine gi 131 0 76 24 1 xr2.n xr2.c (.tmp 128) (.tmp 130) xr2.A .i64 (IntKind.i64.wrap (z1 - 1)) ((IntKind.i64.wrap (z1 - 1)).toNat) ((hS.nestAt 1 rfl).rd.eqSome (pos_of_get hxn1)) (Int.toNat_of_nonneg hc19).symm (by have h0 := lt_of_get hx9; have h1 := (hS.nestAt 1 rfl).n; omega) ?_
      refine gb [4] [(132, .slice An1 e5.length cn1)] [.loaded ⟨blkOf xr2.A, offOf xr2.A + ((IntKind.i64.wrap (z1 - 1)).toNat) * 1, none⟩ (.slice An1 e5.length cn1)] ⟨RdL.cell (j := 0) ((hS.nestAt 1 rfl).rd) hxn1 rfl, trivial⟩ ?_
      refine gi 133 0 24 3 1 e5.length cn1 (.tmp 132) (.const (vI 0)) An1 .i64 0 0 ((((hS.nestAt 1 rfl).nl.each _ _ _ hxn1 hx9).2.1).eqSome (pos_of_get hx10)) rfl (lt_of_get hx10) ?_
      refine gb [6] [(134, vI e6)] [.loaded ⟨blkOf An1, offOf An1 + 0 * 1, none⟩ (vI e6)] ⟨RdL.cell (j := 0) (((hS.nestAt 1 rfl).nl.each _ _ _ hxn1 hx9).2.1) hx10 rfl, trivial⟩ ?_
      refine gw (some 135) (.cells #[vI e6] 3) (fun b => .slice (some ⟨b, 0, none⟩) 1 1) hS fun b5 w19 hx11 hS93 => ?_
      refine gb0 [8] [(20, .slice (some ⟨b5, 0, none⟩) 1 1)] ?_
      have hS94 := hS93.asRow (α := Int) (c := 1) ([e6] : List Int) (Nat.le_refl _) (by decide) rfl rfl
      have hS95 := hS94.bring 4 rfl
      have hS96 := hS95.bring 1 rfl
      have hS97 := hS96.bring 3 rfl
      have hS98 := hS97.bring 3 rfl
      have hS99 := hS98.takeN 4
      obtain rfl := si h
      exact ge_nil fun a hF => hQ _ _ _ (Outs.again ⟨(.slice (some ⟨b5, 0, none⟩) 1 1), hS99, hF.weaken ea⟩)
     ·rw [if_neg hc21] at h
      refine wk 127 (decide (((mget mp4 e6).getD 0) > 0)) false (decide_eq_false hc21) ?_
      refine we_false (by kernel_rfl) ?_
      have hS100 := hS.bring 3 rfl
      have hS101 := hS100.bring 3 rfl
      have hS102 := hS101.bring 3 rfl
      have hS103 := hS102.bring 3 rfl
      obtain rfl := si h
      exact we_skip fun a hF => hQ _ _ _ (Outs.again ⟨(.slice Z4 m10.length cz4), hS103, hF.weaken ea⟩)
    ·rw [if_neg hc20] at h
     refine gk 116 (decide ((e5.length : Int) > 0)) false (decide_eq_false hc20) ?_
     refine gb0 [16, 17, 18, 19, 20, 21, 22, 23, 24, 25, 26] [(127, .bool false), (126, undef), (125, undef), (124, undef), (123, undef), (122, undef), (121, undef), (120, undef), (119, undef), (118, undef), (117, undef)] ?_
     refine gn hK32 ?_
     refine we_false (by kernel_rfl) ?_
     have hS104 := hS.bring 3 rfl
     have hS105 := hS104.bring 3 rfl
     have hS106 := hS105.bring 3 rfl
     have hS107 := hS106.bring 3 rfl
     obtain rfl := si h
     exact we_skip fun a hF => hQ _ _ _ (Outs.again ⟨(.slice Z4 m10.length cz4), hS107, hF.weaken ea⟩)
   ·rw [if_neg hc19] at h
    cases h
  ·rw [if_neg hc18] at h
   refine gk 107 (decide (z1 > 0)) false (decide_eq_false hc18) ?_
   refine gb0 [7, 8, 9, 10, 11, 12, 13, 14, 15, 16, 17, 18, 19, 20, 21, 22, 23, 24, 25, 26] [(127, .bool false), (126, undef), (125, undef), (124, undef), (123, undef), (122, undef), (121, undef), (120, undef), (119, undef), (118, undef), (117, undef), (116, .bool false), (115, .bool false), (114, undef), (113, undef), (112, undef), (111, undef), (110, undef), (109, undef), (108, undef)] ?_
   refine gn hK32 ?_
   refine we_false (by kernel_rfl) ?_
   have hS108 := hS.bring 3 rfl
   have hS109 := hS108.bring 3 rfl
   have hS110 := hS109.bring 3 rfl
   have hS111 := hS110.bring 3 rfl
   obtain rfl := si h
   exact we_skip fun a hF => hQ _ _ _ (Outs.again ⟨(.slice Z4 m10.length cz4), hS111, hF.weaken ea⟩)
abbrev punctualref_Played.A6 (w0 : World) (l0 : List SJob) (A0 : Option Addr) (c0 : Nat) (x1 : Int) (x2 : Bool) (x3 : Int) (x4 : Int) (bg5_0 : Nat) (bg5_1 : Nat) (b1 : Nat) (Z1 : Option Addr) (cz1 : Nat) (z1 : Int) (m4 : List Int) (m5 : List (List Int)) (xr2 : Rows) (mp4 : List (Int × Int)) : (List Int) → Act → World → Prop := fun (s : (List Int)) a w => ∃ (v10 : Value), St w0 w [Own.of (.slice Z1 m4.length cz1) 3 m4, Own.nest xr2 24 3 m5, Own.of v10 3 s, Own.map (κ := Int) (ν := Int) b1 mp4] ∧ Frm 169 a [(0, .slice A0 l0.length c0), (1, vI x1), (2, .bool x2), (3, vI x3), (4, vI x4), (5, .func (.func 89) #[] #[pP bg5_0 0, pP bg5_1 0]), (14, .map (some b1)), (15, (.slice Z1 m4.length cz1)), (18, (Rows.val xr2)), (19, vI z1), (20, v10)]
abbrev punctualref_Played.B6 (w0 : World) : ((List (List Int)) × (List Int)) → Exit → Act → World → Prop := Rets Tryd.prog Tryd.f88 (punctualref_Played.Post w0)
theorem punctualref_Played_p6 (K : Nat) (w0 : World) (l0 : List SJob) (A0 : Option Addr) (c0 : Nat) (x1 : Int) (x2 : Bool) (x3 : Int) (x4 : Int) (bg5_0 : Nat) (xg5_0 : Int) (bg5_1 : Nat) (lg5_1 : List SWindow) (Ag5_1 : Option Addr) (cg5_1 : Nat) (hR0 : RdL w0 A0 l0) (hL0 : l0.length ≤ c0) (hBg5_0 : Glob w0 bg5_0 [vI xg5_0]) (hRg5_1 : RdL w0 Ag5_1 lg5_1) (hLg5_1 : lg5_1.length ≤ cg5_1) (hBg5_1 : Glob w0 bg5_1 [.slice Ag5_1 lg5_1.length cg5_1]) (b1 : Nat) (hc1 : l0.length ≤ 17592186044416) (Z1 : Option Addr) (cz1 : Nat) (m3 : List Int) (mp3 : List (Int × Int)) (hc3 : 0 ≤ x4) (hc4 : ((x4).toNat) ≤ 5864062014805) (xr1 : Rows) (z1 : Int) (m4 : List Int) (m5 : List (List Int)) (xr2 : Rows) (mp4 : List (Int × Int)) (hc5 : z1 < x4) (r1 : Bool) (hc6 : r1 = true) (m10 : List Int) (Z4 : Option Addr) (cz4 : Nat) (m12 : List Int) (Z5 : Option Addr) (cz5 : Nat) (o : (List Int) ⊕ ((List (List Int)) × (List Int))) (h : punctualref_Played.p6 x3 m12 = some o) (w : World) (hS : St w0 w [Own.of (.slice Z1 m4.length cz1) 3 m4, Own.nest xr2 24 3 m5, Own.of (.slice Z5 m12.length cz5) 3 m12, Own.map (κ := Int) (ν := Int) b1 mp4]) (Q : Exit → Act → World → Prop) (hQ : ∀ x a w, Outs (punctualref_Played.A6 w0 l0 A0 c0 x1 x2 x3 x4 bg5_0 bg5_1 b1 Z1 cz1 z1 m4 m5 xr2 mp4) (punctualref_Played.B6 w0) o x a w → Q x a w) : WE Tryd.prog 169 (subF Tryd.f88 [1, 1, 1, 1, 1, 0, 1, 0, 0, 1, 0, 0, 1, 1, 1, 1, 0]) Q [(0, .slice A0 l0.length c0), (1, vI x1), (2, .bool x2), (3, vI x3), (4, vI x4), (5, .func (.func 89) #[] #[pP bg5_0 0, pP bg5_1 0]), (14, .map (some b1)), (15, (.slice Z1 m4.length cz1)), (18, (Rows.val xr2)), (19, vI z1), (20, (.slice Z5 m12.length cz5))] w := by
 simp only [punctualref_Played.p6] at h
 refine ws fun K34 hK34 => ?_
 refine wr [(0, 0), (1, 0), (2, 0), (3, 0)] ?_
 refine gb0 [0, 1, 2, 3] [(139, .bool (decide ((m12.length : Int) > x3))), (138, vI x3), (137, vI (m12.length : Int)), (136, (.slice Z5 m12.length cz5))] ?_
 refine gn hK34 ?_
 by_cases hc22 : (m12.length : Int) > x3
 ·rw [if_pos hc22] at h
  refine wk 139 (decide ((m12.length : Int) > x3)) true (decide_eq_true hc22) ?_
  refine we_true (by kernel_rfl) ?_
  refine wr [(0, 0), (1, 0), (2, 0), (3, 0)] ?_
  refine gb0 [0, 1] [(141, vI x3), (140, (.slice Z5 m12.length cz5))] ?_
  by_cases hc23 : 0 ≤ x3
  ·rw [if_pos hc23] at h
   by_cases hc24 : ((x3).toNat) ≤ m12.length
   ·rw [if_pos hc24] at h
    refine ge_sliceHi (d := 142) (ty := 24) (t := 24) (el := 3) (sz := 1) (m := m12.length) (c := cz5) (hn := ((x3).toNat)) (x := (.tmp 140)) (y := (.tmp 141)) (A := Z5) (k' := .i64) (hi := x3) (by kernel_rfl) (by kernel_rfl) (by kernel_rfl) (Int.toNat_of_nonneg hc23).symm (by kernel_rfl) (by kernel_rfl) (by have f0 := hc24; have f1 := (hS.capAt 2 rfl); omega) ?_
    refine ge_same (t := 142) (v := .slice Z5 ((x3).toNat) cz5) (v' := .slice Z5 ((m12.take ((x3).toNat)).length) cz5) (by kernel_rfl) (congrArg (fun z => Value.slice Z5 z cz5) (show (x3).toNat = (m12.take ((x3).toNat)).length by have f0 := hc24; have f1 := (hS.capAt 2 rfl); simp only [List.length_take]; omega)) ?_
    refine gb0 [3] [(20, .slice Z5 ((m12.take ((x3).toNat)).length) cz5)] ?_
    have hS113 := hS.bring 2 rfl
    have hS114 := hS113.shrink ((x3).toNat)
    have hS115 := hS114.bring 3 rfl
    have hS116 := hS115.bring 1 rfl
    have hS117 := hS116.bring 3 rfl
    have hS118 := hS117.bring 3 rfl
    obtain rfl := si h
    exact ge_nil fun a hF => hQ _ _ _ (Outs.again ⟨(.slice Z5 (m12.take ((x3).toNat)).length cz5), hS118, hF.weaken ea⟩)
   ·rw [if_neg hc24] at h
    cases h
  ·rw [if_neg hc23] at h
   cases h
 ·rw [if_neg hc22] at h
  refine wk 139 (decide ((m12.length : Int) > x3)) false (decide_eq_false hc22) ?_
  refine we_false (by kernel_rfl) ?_
  have hS119 := hS.bring 3 rfl
  have hS120 := hS119.bring 3 rfl
  have hS121 := hS120.bring 3 rfl
  have hS122 := hS121.bring 3 rfl
  obtain rfl := si h
  exact we_skip fun a hF => hQ _ _ _ (Outs.again ⟨(.slice Z5 m12.length cz5), hS122, hF.weaken ea⟩)
abbrev punctualref_Played.A7 (w0 : World) (l0 : List SJob) (A0 : Option Addr) (c0 : Nat) (x1 : Int) (x2 : Bool) (x3 : Int) (x4 : Int) (bg5_0 : Nat) (bg5_1 : Nat) (b1 : Nat) (Z1 : Option Addr) (cz1 : Nat) (z1 : Int) (m5 : List (List Int)) (xr2 : Rows) (m14 : List Int) (Z6 : Option Addr) (cz6 : Nat) : (Int × (List Int) × (List (Int × Int))) → Act → World → Prop := fun (s : Int × (List Int) × (List (Int × Int))) a w => St w0 w [Own.of (.slice Z1 s.2.1.length cz1) 3 s.2.1, Own.nest (Rows.put xr2 ((z1).toNat) Z6 m14.length cz6) 24 3 (m5.set ((z1).toNat) m14), Own.map (κ := Int) (ν := Int) b1 s.2.2] ∧ Frm 169 a [(0, .slice A0 l0.length c0), (1, vI x1), (2, .bool x2), (3, vI x3), (4, vI x4), (5, .func (.func 89) #[] #[pP bg5_0 0, pP bg5_1 0]), (14, .map (some b1)), (15, (.slice Z1 s.2.1.length cz1)), (18, (Rows.val (Rows.put xr2 ((z1).toNat) Z6 m14.length cz6))), (19, vI z1), (147, .slice Z6 m14.length cz6), (148, vI (m14.length : Int)), (149, vI s.1)]
abbrev punctualref_Played.B7 (w0 : World) (l0 : List SJob) (A0 : Option Addr) (c0 : Nat) (x1 : Int) (x2 : Bool) (x3 : Int) (x4 : Int) (bg5_0 : Nat) (bg5_1 : Nat) (b1 : Nat) (Z1 : Option Addr) (cz1 : Nat) (z1 : Int) (m5 : List (List Int)) (xr2 : Rows) (m14 : List Int) (Z6 : Option Addr) (cz6 : Nat) : (((List Int) × (List (Int × Int))) ⊕ ((List (List Int)) × (List Int))) → Exit → Act → World → Prop := Exits 8 (fun (s : (List Int) × (List (Int × Int))) a w => St w0 w [Own.of (.slice Z1 s.1.length cz1) 3 s.1, Own.nest (Rows.put xr2 ((z1).toNat) Z6 m14.length cz6) 24 3 (m5.set ((z1).toNat) m14), Own.map (κ := Int) (ν := Int) b1 s.2] ∧ Frm 169 a [(0, .slice A0 l0.length c0), (1, vI x1), (2, .bool x2), (3, vI x3), (4, vI x4), (5, .func (.func 89) #[] #[pP bg5_0 0, pP bg5_1 0]), (14, .map (some b1)), (15, (.slice Z1 s.1.length cz1)), (18, (Rows.val (Rows.put xr2 ((z1).toNat) Z6 m14.length cz6))), (19, vI z1)]) (Rets Tryd.prog Tryd.f88 (punctualref_Played.Post w0))
theorem punctualref_Played_r7 (K : Nat) (w0 : World) (l0 : List SJob) (A0 : Option Addr) (c0 : Nat) (x1 : Int) (x2 : Bool) (x3 : Int) (x4 : Int) (bg5_0 : Nat) (xg5_0 : Int) (bg5_1 : Nat) (lg5_1 : List SWindow) (Ag5_1 : Option Addr) (cg5_1 : Nat) (hR0 : RdL w0 A0 l0) (hL0 : l0.length ≤ c0) (hBg5_0 : Glob w0 bg5_0 [vI xg5_0]) (hRg5_1 : RdL w0 Ag5_1 lg5_1) (hLg5_1 : lg5_1.length ≤ cg5_1) (hBg5_1 : Glob w0 bg5_1 [.slice Ag5_1 lg5_1.length cg5_1]) (b1 : Nat) (hc1 : l0.length ≤ 17592186044416) (Z1 : Option Addr) (cz1 : Nat) (m3 : List Int) (mp3 : List (Int × Int)) (hc3 : 0 ≤ x4) (hc4 : ((x4).toNat) ≤ 5864062014805) (xr1 : Rows) (z1 : Int) (m4 : List Int) (m5 : List (List Int)) (xr2 : Rows) (mp4 : List (Int × Int)) (hc5 : z1 < x4) (r1 : Bool) (hc6 : r1 = true) (m10 : List Int) (Z4 : Option Addr) (cz4 : Nat) (m12 : List Int) (Z5 : Option Addr) (cz5 : Nat) (m14 : List Int) (hc25 : 0 ≤ z1) (e7 : List Int) (hx12 : m5[(z1).toNat]? = some e7) (An2 : Option Addr) (cn2 : Nat) (hxn2 : xr2.hs[(z1).toNat]? = some ⟨An2, e7.length, cn2⟩) (Z6 : Option Addr) (cz6 : Nat) (hh1 : (Rows.put xr2 ((z1).toNat) Z6 m14.length cz6).hs[(z1).toNat]? = some ⟨Z6, m14.length, cz6⟩) (hx13 : (m5.set ((z1).toNat) m14)[(z1).toNat]? = some m14) (s : Int × (List Int) × (List (Int × Int))) (o : (Int × (List Int) × (List (Int × Int))) ⊕ (((List Int) × (List (Int × Int))) ⊕ ((List (List Int)) × (List Int)))) (h : punctualref_Played.r7 z1 m14 s = some o) (a : Act) (w : World) (hA : punctualref_Played.A7 w0 l0 A0 c0 x1 x2 x3 x4 bg5_0 bg5_1 b1 Z1 cz1 z1 m5 xr2 m14 Z6 cz6 s a w) (Q : Exit → Act → World → Prop) (hQ : ∀ x a w, Outs (punctualref_Played.A7 w0 l0 A0 c0 x1 x2 x3 x4 bg5_0 bg5_1 b1 Z1 cz1 z1 m5 xr2 m14 Z6 cz6) (punctualref_Played.B7 w0 l0 A0 c0 x1 x2 x3 x4 bg5_0 bg5_1 b1 Z1 cz1 z1 m5 xr2 m14 Z6 cz6) o x a w → Q x a w) : (subF Tryd.f88 [1, 1, 1, 1, 1, 0, 1, 0, 0, 1, 0, 0, 1, 1, 1, 1, 1, 1, 1, 0, 0]).wp Tryd.prog Q a w := by
 obtain ⟨z5, m15, mp5⟩ := s
 obtain ⟨hS, hF⟩ := hA
 replace hS : St w0 w [Own.of (.slice Z1 m15.length cz1) 3 m15, Own.nest (Rows.put xr2 ((z1).toNat) Z6 m14.length cz6) 24 3 (m5.set ((z1).toNat) m14), Own.map (κ := Int) (ν := Int) b1 mp5] := hS
 simp only [punctualref_Played.r7] at h
 refine (?_ : WE Tryd.prog 169 (subF Tryd.f88 [1, 1, 1, 1, 1, 0, 1, 0, 0, 1, 0, 0, 1, 1, 1, 1, 1, 1, 1, 0, 0]) Q [(0, .slice A0 l0.length c0), (1, vI x1), (2, .bool x2), (3, vI x3), (4, vI x4), (5, .func (.func 89) #[] #[pP bg5_0 0, pP bg5_1 0]), (14, .map (some b1)), (15, (.slice Z1 m15.length cz1)), (18, (Rows.val (Rows.put xr2 ((z1).toNat) Z6 m14.length cz6))), (19, vI z1), (147, .slice Z6 m14.length cz6), (148, vI (m14.length : Int)), (149, vI z5)] w) a hF
 clear hF a
 refine ws fun K37 hK37 => ?_
 refine wr [(0, 0)] ?_
 refine gb0 [0] [(150, .bool (decide (z5 < (m14.length : Int))))] ?_
 refine gn hK37 ?_
 refine ws fun K38 hK38 => ?_
 by_cases hc26 : z5 < (m14.length : Int)
 ·rw [if_pos hc26] at h
  refine wk 150 (decide (z5 < (m14.length : Int))) true (decide_eq_true hc26) ?_
  refine we_true (by kernel_rfl) ?_
  refine we_skip fun a hF => hK38 _ _ ?_ a hF
  refine ws fun K39 hK39 => ?_
  refine we_block ?_
  refine ws fun K40 hK40 => ?_
  refine wr [(0, 0), (1, 0), (2, 0)] ?_
  by_cases hc27 : 0 ≤ z5
  ·rw [if_pos hc27] at h
   rcases hx14 : m14[(z5).toNat]? with _ | e8
   ·rw [hx14] at h; cases h
   rw [hx14] at h
   simp only [] at h
   refine gi 151 0 24 3 1 m14.length cz6 (.tmp 147) (.tmp 149) Z6 .i64 z5 ((z5).toNat) ((((hS.nestAt 1 rfl).nl.each _ _ _ hh1 hx13).2.1).eqSome (pos_of_get hx14)) (Int.toNat_of_nonneg hc27).symm (lt_of_get hx14) ?_
   refine gb [1, 2] [(25, vI e8), (152, vI e8)] [.loaded ⟨blkOf Z6, offOf Z6 + ((z5).toNat) * 1, none⟩ (vI e8)] ⟨RdL.cell (j := 0) (((hS.nestAt 1 rfl).nl.each _ _ _ hh1 hx13).2.1) hx14 rfl, trivial⟩ ?_
   refine gn hK40 ?_
   refine ws fun K41 hK41 => ?_
   refine wr [(0, 0), (1, 0), (2, 0), (3, 0), (4, 2)] ?_
   refine gb0 [0, 1] [(154, vI e8), (153, .map (some b1))] ?_
   refine ge_lookup (κ := Int) (ν := Int) (d := 155) (b := b1) (q := 2) (t := 161) (kt := 3) (et := 3) (x := (.tmp 153)) (y := (.tmp 154)) (ty := 3) (m := mp5) (k := e8) (z := 0) (v := ((mget mp5 e8).getD 0)) (zv := vI 0) (vv := vI ((mget mp5 e8).getD 0)) (by kernel_rfl) (by kernel_rfl) (by kernel_rfl) (by kernel_rfl) (by kernel_rfl) (fun w' => by kernel_rfl) rfl hS rfl rfl rfl ?_
   refine gb0 [3] [(156, vI (IntKind.i64.wrap (((mget mp5 e8).getD 0) - 1)))] ?_
   have hS130 := hS.bring 2 rfl
   refine ge_mapSet (κ := Int) (ν := Int) (b := b1) (ins := false) (mm := 0) (t := 161) (kt := 3) (et := 3) (x := (.tmp 153)) (y := (.tmp 154)) (u := (.tmp 156)) (ty := 0) (m := mp5) (k := e8) (v := (IntKind.i64.wrap (((mget mp5 e8).getD 0) - 1))) (vv := vI (IntKind.i64.wrap (((mget mp5 e8).getD 0) - 1))) (by kernel_rfl) (by kernel_rfl) (by kernel_rfl) (by kernel_rfl) rfl (by kernel_rfl) (by kernel_rfl) hS130 fun w23 hS131 => ?_
   refine gn hK41 ?_
   refine ws fun K42 hK42 => ?_
   refine wr [(0, 0), (1, 0), (2, 0), (3, 0)] ?_
   refine gb0 [0, 1] [(158, vI e8), (157, .map (some b1))] ?_
   refine ge_lookup (κ := Int) (ν := Int) (d := 159) (b := b1) (q := 0) (t := 161) (kt := 3) (et := 3) (x := (.tmp 157)) (y := (.tmp 158)) (ty := 3) (m := (mset mp5 e8 (IntKind.i64.wrap (((mget mp5 e8).getD 0) - 1)))) (k := e8) (z := 0) (v := ((mget (mset mp5 e8 (IntKind.i64.wrap (((mget mp5 e8).getD 0) - 1))) e8).getD 0)) (zv := vI 0) (vv := vI ((mget (mset mp5 e8 (IntKind.i64.wrap (((mget mp5 e8).getD 0) - 1))) e8).getD 0)) (by kernel_rfl) (by kernel_rfl) (by kernel_rfl) (by kernel_rfl) (by kernel_rfl) (fun w' => by kernel_rfl) rfl hS131 rfl rfl rfl ?_
   refine gb0 [3] [(160, .bool (((mget (mset mp5 e8 (IntKind.i64.wrap (((mget mp5 e8).getD 0) - 1))) e8).getD 0) == 0))] ?_
   refine gn hK42 ?_
   by_cases hc28 : ((mget (mset mp5 e8 (IntKind.i64.wrap (((mget mp5 e8).getD 0) - 1))) e8).getD 0) = 0
   ·rw [if_pos hc28] at h
    refine wk 160 (((mget (mset mp5 e8 (IntKind.i64.wrap (((mget mp5 e8).getD 0) - 1))) e8).getD 0) == 0) true (beq_iff_eq.2 hc28) ?_
    refine we_true (by kernel_rfl) ?_
    refine wr [(0, 0), (1, 0), (2, 0), (3, 0), (4, 0), (5, 2)] ?_
    refine gb0 [0, 1, 2, 3] [(164, vI (IntKind.i64.wrap (z1 + 1))), (163, vI z1), (162, vI e8), (161, (.slice Z1 m15.length cz1))] ?_
    by_cases hc29 : 0 ≤ e8
    ·rw [if_pos hc29] at h
     rcases hx15 : m15[(e8).toNat]? with _ | e9
     ·rw [hx15] at h; cases h
     rw [hx15] at h
     simp only [] at h
     refine gi 165 0 24 3 1 m15.length cz1 (.tmp 161) (.tmp 162) Z1 .i64 e8 ((e8).toNat) ((hS131.rdAt 1 rfl).eqSome (pos_of_get hx15)) (Int.toNat_of_nonneg hc29).symm (lt_of_get hx15) ?_
     have hS132 := hS131.bring 1 rfl
     refine ge_seti (α := Int) (A := Z1) (nn := m15.length) (c := cz1) (t := 3) (l := m15) (x := e9) (x' := (IntKind.i64.wrap (z1 + 1))) (jn := ((e8).toNat)) (j := 0) (vs := [vI (IntKind.i64.wrap (z1 + 1))]) (l' := [.stored ⟨blkOf Z1, offOf Z1 + ((e8).toNat) * 1, none⟩ (vI (IntKind.i64.wrap (z1 + 1)))]) hS132 (by kernel_rfl) (by kernel_rfl) hx15 rfl rfl rfl fun w24 hS133 => ?_
     have hS134 : St w0 w24 [Own.of (.slice Z1 m15.length cz1) 3 (m15.set ((e8).toNat) (IntKind.i64.wrap (z1 + 1))), Own.map (κ := Int) (ν := Int) b1 (mset mp5 e8 (IntKind.i64.wrap (((mget mp5 e8).getD 0) - 1))), Own.nest (Rows.put xr2 ((z1).toNat) Z6 m14.length cz6) 24 3 (m5.set ((z1).toNat) m14)] := hS133
     have hE2 : m15.length = (m15.set ((e8).toNat) (IntKind.i64.wrap (z1 + 1))).length := hS134.lenAt 0 rfl
     have hS135 : St w0 w24 [Own.of (.slice Z1 (m15.set ((e8).toNat) (IntKind.i64.wrap (z1 + 1))).length cz1) 3 (m15.set ((e8).toNat) (IntKind.i64.wrap (z1 + 1))), Own.map (κ := Int) (ν := Int) b1 (mset mp5 e8 (IntKind.i64.wrap (((mget mp5 e8).getD 0) - 1))), Own.nest (Rows.put xr2 ((z1).toNat) Z6 m14.length cz6) 24 3 (m5.set ((z1).toNat) m14)] := by rw [← hE2]; exact hS134
     refine ge_same (t := 15) (v := (.slice Z1 m15.length cz1)) (v' := (.slice Z1 (m15.set ((e8).toNat) (IntKind.i64.wrap (z1 + 1))).length cz1)) (by kernel_rfl) (by rw [hE2]) ?_
     refine ge_same (t := 161) (v := (.slice Z1 m15.length cz1)) (v' := (.slice Z1 (m15.set ((e8).toNat) (IntKind.i64.wrap (z1 + 1))).length cz1)) (by kernel_rfl) (by rw [hE2]) ?_
     refine gn hK39 ?_
     refine wr [(0, 0), (1, 0)] ?_
     refine gb0 [0, 1] [(149, vI (IntKind.i64.wrap (z5 + 1))), (166, vI (IntKind.i64.wrap (z5 + 1)))] ?_
     have hS136 := hS135.bring 1 rfl
     have hS137 := hS136.bring 2 rfl
     have hS138 := hS137.bring 2 rfl
     obtain rfl := si h
     exact ge_nil fun a hF => hQ _ _ _ (Outs.again ⟨hS138, hF.weaken ea⟩)
    ·rw [if_neg hc29] at h
     cases h
   ·rw [if_neg hc28] at h
    refine wk 160 (((mget (mset mp5 e8 (IntKind.i64.wrap (((mget mp5 e8).getD 0) - 1))) e8).getD 0) == 0) false (beq_eq_false_iff_ne.2 hc28) ?_
    refine we_false (by kernel_rfl) ?_
    refine we_skip fun a hF => hK39 _ _ ?_ a hF
    refine wr [(0, 0), (1, 0)] ?_
    refine gb0 [0, 1] [(149, vI (IntKind.i64.wrap (z5 + 1))), (166, vI (IntKind.i64.wrap (z5 + 1)))] ?_
    have hS139 := hS131.bring 2 rfl
    have hS140 := hS139.bring 2 rfl
    obtain rfl := si h
    exact ge_nil fun a hF => hQ _ _ _ (Outs.again ⟨hS140, hF.weaken ea⟩)
  ·rw [if_neg hc27] at h
   cases h
 ·rw [if_neg hc26] at h
  refine wk 150 (decide (z5 < (m14.length : Int))) false (decide_eq_false hc26) ?_
  refine we_false (by kernel_rfl) ?_
  have hS141 := hS.bring 2 rfl
  have hS142 := hS141.bring 2 rfl
  have hS143 := hS142.bring 2 rfl
  obtain rfl := si h
  exact we_exit fun a hF => hQ _ _ _ (Outs.out nofun (Exits.here ⟨hS143, hF.weaken ea⟩))
abbrev punctualref_Played.A1 (w0 : World) (l0 : List SJob) (A0 : Option Addr) (c0 : Nat) (x1 : Int) (x2 : Bool) (x3 : Int) (x4 : Int) (bg5_0 : Nat) (bg5_1 : Nat) (b1 : Nat) (Z1 : Option Addr) (cz1 : Nat) : (Int × (List Int) × (List (List Int)) × (List (Int × Int))) → Act → World → Prop := fun (s : Int × (List Int) × (List (List Int)) × (List (Int × Int))) a w => ∃ (xr2 : Rows), St w0 w [Own.of (.slice Z1 s.2.1.length cz1) 3 s.2.1, Own.nest xr2 24 3 s.2.2.1, Own.map (κ := Int) (ν := Int) b1 s.2.2.2] ∧ Frm 169 a [(0, .slice A0 l0.length c0), (1, vI x1), (2, .bool x2), (3, vI x3), (4, vI x4), (5, .func (.func 89) #[] #[pP bg5_0 0, pP bg5_1 0]), (14, .map (some b1)), (15, (.slice Z1 s.2.1.length cz1)), (18, (Rows.val xr2)), (19, vI s.1)]
abbrev punctualref_Played.B1 (w0 : World) (Z1 : Option Addr) (cz1 : Nat) : (((List Int) × (List (List Int))) ⊕ ((List (List Int)) × (List Int))) → Exit → Act → World → Prop := Exits 2 (fun (s : (List Int) × (List (List Int))) a w => ∃ (xr3 : Rows), St w0 w [Own.of (.slice Z1 s.1.length cz1) 3 s.1, Own.nest xr3 24 3 s.2] ∧ Frm 169 a [(15, (.slice Z1 s.1.length cz1)), (18, (Rows.val xr3))]) (Rets Tryd.prog Tryd.f88 (punctualref_Played.Post w0))
theorem punctualref_Played_r1 (K : Nat) (w0 : World) (l0 : List SJob) (A0 : Option Addr) (c0 : Nat) (x1 : Int) (x2 : Bool) (x3 : Int) (x4 : Int) (bg5_0 : Nat) (xg5_0 : Int) (bg5_1 : Nat) (lg5_1 : List SWindow) (Ag5_1 : Option Addr) (cg5_1 : Nat) (hR0 : RdL w0 A0 l0) (hL0 : l0.length ≤ c0) (hBg5_0 : Glob w0 bg5_0 [vI xg5_0]) (hRg5_1 : RdL w0 Ag5_1 lg5_1) (hLg5_1 : lg5_1.length ≤ cg5_1) (hBg5_1 : Glob w0 bg5_1 [.slice Ag5_1 lg5_1.length cg5_1]) (b1 : Nat) (hc1 : l0.length ≤ 17592186044416) (Z1 : Option Addr) (cz1 : Nat) (m3 : List Int) (mp3 : List (Int × Int)) (hc3 : 0 ≤ x4) (hc4 : ((x4).toNat) ≤ 5864062014805) (xr1 : Rows) (s : Int × (List Int) × (List (List Int)) × (List (Int × Int))) (o : (Int × (List Int) × (List (List Int)) × (List (Int × Int))) ⊕ (((List Int) × (List (List Int))) ⊕ ((List (List Int)) × (List Int)))) (h : punctualref_Played.r1 K l0 x1 x2 x3 x4 xg5_0 lg5_1 s = some o) (a : Act) (w : World) (hA : punctualref_Played.A1 w0 l0 A0 c0 x1 x2 x3 x4 bg5_0 bg5_1 b1 Z1 cz1 s a w) (Q : Exit → Act → World → Prop) (hQ : ∀ x a w, Outs (punctualref_Played.A1 w0 l0 A0 c0 x1 x2 x3 x4 bg5_0 bg5_1 b1 Z1 cz1) (punctualref_Played.B1 w0 Z1 cz1) o x a w → Q x a w) : (subF Tryd.f88 [1, 1, 1, 1, 1, 0, 1, 0, 0]).wp Tryd.prog Q a w := by
 obtain ⟨z1, m4, m5, mp4⟩ := s
 obtain ⟨xr2, hS, hF⟩ := hA
 replace hS : St w0 w [Own.of (.slice Z1 m4.length cz1) 3 m4, Own.nest xr2 24 3 m5, Own.map (κ := Int) (ν := Int) b1 mp4] := hS
 simp only [punctualref_Played.r1] at h
 refine (?_ : WE Tryd.prog 169 (subF Tryd.f88 [1, 1, 1, 1, 1, 0, 1, 0, 0]) Q [(0, .slice A0 l0.length c0), (1, vI x1), (2, .bool x2), (3, vI x3), (4, vI x4), (5, .func (.func 89) #[] #[pP bg5_0 0, pP bg5_1 0]), (14, .map (some b1)), (15, (.slice Z1 m4.length cz1)), (18, (Rows.val xr2)), (19, vI z1)] w) a hF
 clear hF a
 refine ws fun K14 hK14 => ?_
 refine ws fun K15 hK15 => ?_
 refine wr [(0, 0), (1, 0), (2, 0)] ?_
 refine gb0 [0, 1, 2] [(49, .bool (decide (z1 < x4))), (48, vI x4), (47, vI z1)] ?_
 refine gn hK15 ?_
 by_cases hc5 : z1 < x4
 ·rw [if_pos hc5] at h
  refine wk 49 (decide (z1 < x4)) true (decide_eq_true hc5) ?_
  refine we_true (by kernel_rfl) ?_
  refine we_skip fun a hF => hK14 _ _ ?_ a hF
  refine ws fun K16 hK16 => ?_
  refine we_block ?_
  refine ws fun K17 hK17 => ?_
  refine ws fun K18 hK18 => ?_
  refine wr [(0, 0), (1, 0), (2, 1), (3, 0)] ?_
  rcases hq2 : punctualref_HostedOf_1.f K z1 xg5_0 lg5_1 with _ | r1
  ·rw [hq2] at h; cases h
  rw [hq2] at h
  simp only [] at h
  refine gb0 [0, 1] [(53, vI z1), (52, .func (.func 89) #[] #[pP bg5_0 0, pP bg5_1 0])] ?_
  refine ge_call (d := some 54) (f := 89) (args := #[vI z1, pP bg5_0 0, pP bg5_1 0]) (by kernel_rfl) (punctualref_HostedOf_1_ok K z1 bg5_0 xg5_0 bg5_1 lg5_1 Ag5_1 cg5_1 _ (Glob.ext hBg5_0 hS.below) (hS.rd hRg5_1) hLg5_1 (Glob.ext hBg5_1 hS.below) _ hq2) ?_
  rintro _ w9 ⟨rfl, hS26⟩
  refine ⟨_, rfl, hS26.below, ?_⟩
  have hS27 := hS.call hS26
  refine gb0 [3] [(55, .bool (!r1))] ?_
  refine gn hK18 ?_
  by_cases hc6 : r1 = true
  ·rw [if_pos hc6] at h
   refine wk 55 (!r1) false (congrArg (fun z => !z) hc6) ?_
   refine we_false (by kernel_rfl) ?_
   refine we_skip fun a hF => hK17 _ _ ?_ a hF
   refine ws fun K19 hK19 => ?_
   refine wr [(0, 0)] ?_
   refine gb0 [0] [(20, .slice none 0 0)] ?_
   refine gn hK19 ?_
   refine ws fun K20 hK20 => ?_
   refine ws fun K21 hK21 => ?_
   refine wr [(0, 0), (1, 0), (2, 0)] ?_
   refine gb0 [0, 1, 2] [(58, vI 0), (57, vI (l0.length : Int)), (56, .slice A0 l0.length c0)] ?_
   refine gn hK21 ?_
   refine we_block ?_
   have hS28 := hS27.nil (α := Int) 3
   have hS29 := hS28.bring 3 rfl
   have hS30 := hS29.bring 1 rfl
   have hS31 := hS30.bring 3 rfl
   have hS32 := hS31.bring 3 rfl
   rcases hq6 : iter (punctualref_Played.r2 K l0 x1 z1 mp4) K (([] : List Int), 0) with _ | (m10 | rr6)
   ·rw [hq6] at h; cases h
   ·rw [hq6] at h
    simp only [] at h
    refine we_iter (A := punctualref_Played.A2 w0 l0 A0 c0 x1 x2 x3 x4 bg5_0 bg5_1 b1 Z1 cz1 z1 m4 m5 xr2 mp4) (B := punctualref_Played.B2 w0 l0 A0 c0 x1 x2 x3 x4 bg5_0 bg5_1 b1 Z1 cz1 z1 m4 m5 xr2 mp4) hq6 (fun a hF => ⟨(.slice none 0 0), hS32, hF.weaken ea⟩) (fun s o hf a w hA Q hQ => punctualref_Played_r2 K w0 l0 A0 c0 x1 x2 x3 x4 bg5_0 xg5_0 bg5_1 lg5_1 Ag5_1 cg5_1 hR0 hL0 hBg5_0 hRg5_1 hLg5_1 hBg5_1 b1 hc1 Z1 cz1 m3 mp3 hc3 hc4 xr1 z1 m4 m5 xr2 mp4 hc5 r1 hc6 s o hf a w hA Q hQ) ?_
    rintro _ a w18 _ ⟨rfl, v7, hS88, hF⟩
    replace hS88 : St w0 w18 [Own.of (.slice Z1 m4.length cz1) 3 m4, Own.nest xr2 24 3 m5, Own.of v7 3 m10, Own.map (κ := Int) (ν := Int) b1 mp4] := hS88
    refine hK20 [(0, .slice A0 l0.length c0), (1, vI x1), (2, .bool x2), (3, vI x3), (4, vI x4), (5, .func (.func 89) #[] #[pP bg5_0 0, pP bg5_1 0]), (14, .map (some b1)), (15, (.slice Z1 m4.length cz1)), (18, (Rows.val xr2)), (19, vI z1), (20, v7)] w18 ?_ a hF
    refine ws fun K31 hK31 => ?_
    obtain ⟨Z4, cz4, rfl⟩ := hS88.open 2 rfl
    rcases hq7 : punctualref_Played.p5 x2 z1 m5 mp4 m10 with _ | (m12 | rr5)
    ·rw [hq7] at h; cases h
    ·rw [hq7] at h
     simp only [] at h
     refine we_keep (e' := [(0, .slice A0 l0.length c0), (1, vI x1), (2, .bool x2), (3, vI x3), (4, vI x4), (5, .func (.func 89) #[] #[pP bg5_0 0, pP bg5_1 0]), (14, .map (some b1)), (15, (.slice Z1 m4.length cz1)), (18, (Rows.val xr2)), (19, vI z1), (20, (.slice Z4 m10.length cz4))]) ea (punctualref_Played_p5 K w0 l0 A0 c0 x1 x2 x3 x4 bg5_0 xg5_0 bg5_1 lg5_1 Ag5_1 cg5_1 hR0 hL0 hBg5_0 hRg5_1 hLg5_1 hBg5_1 b1 hc1 Z1 cz1 m3 mp3 hc3 hc4 xr1 z1 m4 m5 xr2 mp4 hc5 r1 hc6 m10 Z4 cz4 _ hq7 _ hS88 _ ?_)
     rintro _ a w20 ⟨rfl, v9, hS112, hF⟩
     replace hS112 : St w0 w20 [Own.of (.slice Z1 m4.length cz1) 3 m4, Own.nest xr2 24 3 m5, Own.of v9 3 m12, Own.map (κ := Int) (ν := Int) b1 mp4] := hS112
     refine hK31 [(0, .slice A0 l0.length c0), (1, vI x1), (2, .bool x2), (3, vI x3), (4, vI x4), (5, .func (.func 89) #[] #[pP bg5_0 0, pP bg5_1 0]), (14, .map (some b1)), (15, (.slice Z1 m4.length cz1)), (18, (Rows.val xr2)), (19, vI z1), (20, v9)] w20 ?_ a hF
     refine ws fun K33 hK33 => ?_
     obtain ⟨Z5, cz5, rfl⟩ := hS112.open 2 rfl
     rcases hq8 : punctualref_Played.p6 x3 m12 with _ | (m14 | rr4)
     ·rw [hq8] at h; cases h
     ·rw [hq8] at h
      simp only [] at h
      refine we_keep (e' := [(0, .slice A0 l0.length c0), (1, vI x1), (2, .bool x2), (3, vI x3), (4, vI x4), (5, .func (.func 89) #[] #[pP bg5_0 0, pP bg5_1 0]), (14, .map (some b1)), (15, (.slice Z1 m4.length cz1)), (18, (Rows.val xr2)), (19, vI z1), (20, (.slice Z5 m12.length cz5))]) ea (punctualref_Played_p6 K w0 l0 A0 c0 x1 x2 x3 x4 bg5_0 xg5_0 bg5_1 lg5_1 Ag5_1 cg5_1 hR0 hL0 hBg5_0 hRg5_1 hLg5_1 hBg5_1 b1 hc1 Z1 cz1 m3 mp3 hc3 hc4 xr1 z1 m4 m5 xr2 mp4 hc5 r1 hc6 m10 Z4 cz4 m12 Z5 cz5 _ hq8 _ hS112 _ ?_)
      rintro _ a w21 ⟨rfl, v11, hS123, hF⟩
      replace hS123 : St w0 w21 [Own.of (.slice Z1 m4.length cz1) 3 m4, Own.nest xr2 24 3 m5, Own.of v11 3 m14, Own.map (κ := Int) (ν := Int) b1 mp4] := hS123
      refine hK33 [(0, .slice A0 l0.length c0), (1, vI x1), (2, .bool x2), (3, vI x3), (4, vI x4), (5, .func (.func 89) #[] #[pP bg5_0 0, pP bg5_1 0]), (14, .map (some b1)), (15, (.slice Z1 m4.length cz1)), (18, (Rows.val xr2)), (19, vI z1), (20, v11)] w21 ?_ a hF
      refine ws fun K35 hK35 => ?_
      refine wr [(0, 0), (1, 0), (2, 0), (3, 0), (4, 2)] ?_
      refine gb0 [0, 1, 2] [(145, v11), (144, vI z1), (143, (Rows.val xr2))] ?_
      by_cases hc25 : 0 ≤ z1
      ·rw [if_pos hc25] at h
       rcases hx12 : m5[(z1).toNat]? with _ | e7
       ·rw [hx12] at h; cases h
       rw [hx12] at h
       simp only [] at h
       obtain ⟨An2, cn2, hxn2, -, -⟩ := (hS123.nestAt 1 rfl).nl.get hx12
       refine gi 146 0 76 24 1 xr2.n xr2.c (.tmp 143) (.tmp 144) xr2.A .i64 z1 ((z1).toNat) ((hS123.nestAt 1 rfl).rd.eqSome (pos_of_get hxn2)) (Int.toNat_of_nonneg hc25).symm (by have h0 := lt_of_get hx12; have h1 := (hS123.nestAt 1 rfl).n; omega) ?_
       obtain ⟨Z6, cz6, rfl⟩ := hS123.open 2 rfl
       have hS124 := hS123.bring 1 rfl
       have hS125 := hS124.bring 2 rfl
       have hh1 := Rows.put_at (A := Z6) (n := m14.length) (c := cz6) (hS125.nestAt 1 rfl).nl.len (lt_of_get hx12)
       have hx13 := set_at (l := m14) hx12
       refine ge_nestSet (α := Int) (jn := ((z1).toNat)) (c := cz6) (T := 24) (t := 3) (A := Z6) (x := xr2) (l := m14) (ls := m5) (l' := [.stored ⟨blkOf xr2.A, offOf xr2.A + ((z1).toNat) * 1, none⟩ (.slice Z6 m14.length cz6)]) hS125 (by kernel_rfl) (by kernel_rfl) hx12 fun w22 hS126 => ?_
       refine gn hK35 ?_
       refine ws fun K36 hK36 => ?_
       refine wr [(0, 0), (1, 0), (2, 0)] ?_
       refine gb0 [0, 1, 2] [(149, vI 0), (148, vI (m14.length : Int)), (147, .slice Z6 m14.length cz6)] ?_
       refine gn hK36 ?_
       refine we_block ?_
       have hS127 := hS126.bring 2 rfl
       have hS128 := hS127.bring 1 rfl
       have hS129 := hS128.bring 2 rfl
       rcases hq9 : iter (punctualref_Played.r7 z1 m14) K (0, m4, mp4) with _ | (⟨m17, mp7⟩ | rr3)
       ·rw [hq9] at h; cases h
       ·rw [hq9] at h
        simp only [] at h
        refine we_iter (A := punctualref_Played.A7 w0 l0 A0 c0 x1 x2 x3 x4 bg5_0 bg5_1 b1 Z1 cz1 z1 m5 xr2 m14 Z6 cz6) (B := punctualref_Played.B7 w0 l0 A0 c0 x1 x2 x3 x4 bg5_0 bg5_1 b1 Z1 cz1 z1 m5 xr2 m14 Z6 cz6) hq9 (fun a hF => ⟨hS129, hF.weaken ea⟩) (fun s o hf a w hA Q hQ => punctualref_Played_r7 K w0 l0 A0 c0 x1 x2 x3 x4 bg5_0 xg5_0 bg5_1 lg5_1 Ag5_1 cg5_1 hR0 hL0 hBg5_0 hRg5_1 hLg5_1 hBg5_1 b1 hc1 Z1 cz1 m3 mp3 hc3 hc4 xr1 z1 m4 m5 xr2 mp4 hc5 r1 hc6 m10 Z4 cz4 m12 Z5 cz5 m14 hc25 e7 hx12 An2 cn2 hxn2 Z6 cz6 hh1 hx13 s o hf a w hA Q hQ) ?_
        rintro _ a w25 _ ⟨rfl, hS144, hF⟩
        replace hS144 : St w0 w25 [Own.of (.slice Z1 m17.length cz1) 3 m17, Own.nest (Rows.put xr2 ((z1).toNat) Z6 m14.length cz6) 24 3 (m5.set ((z1).toNat) m14), Own.map (κ := Int) (ν := Int) b1 mp7] := hS144
        refine hK16 [(0, .slice A0 l0.length c0), (1, vI x1), (2, .bool x2), (3, vI x3), (4, vI x4), (5, .func (.func 89) #[] #[pP bg5_0 0, pP bg5_1 0]), (14, .map (some b1)), (15, (.slice Z1 m17.length cz1)), (18, (Rows.val (Rows.put xr2 ((z1).toNat) Z6 m14.length cz6))), (19, vI z1)] w25 ?_ a hF
        refine wr [(0, 0), (1, 0), (2, 0)] ?_
        refine gb0 [0, 1, 2] [(19, vI (IntKind.i64.wrap (z1 + 1))), (51, vI (IntKind.i64.wrap (z1 + 1))), (50, vI z1)] ?_
        have hS145 := hS144.bring 2 rfl
        have hS146 := hS145.bring 2 rfl
        have hS147 := hS146.bring 2 rfl
        obtain rfl := si h
        exact ge_nil fun a hF => hQ _ _ _ (Outs.again ⟨(Rows.put xr2 ((z1).toNat) Z6 m14.length cz6), hS147, hF.weaken ea⟩)
       ·rw [hq9] at h
        simp only [] at h
        refine we_iter (A := punctualref_Played.A7 w0 l0 A0 c0 x1 x2 x3 x4 bg5_0 bg5_1 b1 Z1 cz1 z1 m5 xr2 m14 Z6 cz6) (B := punctualref_Played.B7 w0 l0 A0 c0 x1 x2 x3 x4 bg5_0 bg5_1 b1 Z1 cz1 z1 m5 xr2 m14 Z6 cz6) hq9 (fun a hF => ⟨hS129, hF.weaken ea⟩) (fun s o hf a w hA Q hQ => punctualref_Played_r7 K w0 l0 A0 c0 x1 x2 x3 x4 bg5_0 xg5_0 bg5_1 lg5_1 Ag5_1 cg5_1 hR0 hL0 hBg5_0 hRg5_1 hLg5_1 hBg5_1 b1 hc1 Z1 cz1 m3 mp3 hc3 hc4 xr1 z1 m4 m5 xr2 mp4 hc5 r1 hc6 m10 Z4 cz4 m12 Z5 cz5 m14 hc25 e7 hx12 An2 cn2 hxn2 Z6 cz6 hh1 hx13 s o hf a w hA Q hQ) ?_
        rintro _ a w1 _ ⟨rfl, hb⟩
        obtain rfl := si h
        exact hQ _ _ _ (Outs.out nofun (Exits.on ⟨rfl, hb⟩))
      ·rw [if_neg hc25] at h
       cases h
     ·rw [hq8] at h
      simp only [] at h
      refine we_keep (e' := [(0, .slice A0 l0.length c0), (1, vI x1), (2, .bool x2), (3, vI x3), (4, vI x4), (5, .func (.func 89) #[] #[pP bg5_0 0, pP bg5_1 0]), (14, .map (some b1)), (15, (.slice Z1 m4.length cz1)), (18, (Rows.val xr2)), (19, vI z1), (20, (.slice Z5 m12.length cz5))]) ea (punctualref_Played_p6 K w0 l0 A0 c0 x1 x2 x3 x4 bg5_0 xg5_0 bg5_1 lg5_1 Ag5_1 cg5_1 hR0 hL0 hBg5_0 hRg5_1 hLg5_1 hBg5_1 b1 hc1 Z1 cz1 m3 mp3 hc3 hc4 xr1 z1 m4 m5 xr2 mp4 hc5 r1 hc6 m10 Z4 cz4 m12 Z5 cz5 _ hq8 _ hS112 _ ?_)
      rintro _ a w1 ⟨_, rfl, hb⟩
      obtain rfl := si h
      exact hQ _ _ _ (Outs.out nofun (Exits.on ⟨rfl, hb⟩))
    ·rw [hq7] at h
     simp only [] at h
     refine we_keep (e' := [(0, .slice A0 l0.length c0), (1, vI x1), (2, .bool x2), (3, vI x3), (4, vI x4), (5, .func (.func 89) #[] #[pP bg5_0 0, pP bg5_1 0]), (14, .map (some b1)), (15, (.slice Z1 m4.length cz1)), (18, (Rows.val xr2)), (19, vI z1), (20, (.slice Z4 m10.length cz4))]) ea (punctualref_Played_p5 K w0 l0 A0 c0 x1 x2 x3 x4 bg5_0 xg5_0 bg5_1 lg5_1 Ag5_1 cg5_1 hR0 hL0 hBg5_0 hRg5_1 hLg5_1 hBg5_1 b1 hc1 Z1 cz1 m3 mp3 hc3 hc4 xr1 z1 m4 m5 xr2 mp4 hc5 r1 hc6 m10 Z4 cz4 _ hq7 _ hS88 _ ?_)
     rintro _ a w1 ⟨_, rfl, hb⟩
     obtain rfl := si h
     exact hQ _ _ _ (Outs.out nofun (Exits.on ⟨rfl, hb⟩))
   ·rw [hq6] at h
    simp only [] at h
    refine we_iter (A := punctualref_Played.A2 w0 l0 A0 c0 x1 x2 x3 x4 bg5_0 bg5_1 b1 Z1 cz1 z1 m4 m5 xr2 mp4) (B := punctualref_Played.B2 w0 l0 A0 c0 x1 x2 x3 x4 bg5_0 bg5_1 b1 Z1 cz1 z1 m4 m5 xr2 mp4) hq6 (fun a hF => ⟨(.slice none 0 0), hS32, hF.weaken ea⟩) (fun s o hf a w hA Q hQ => punctualref_Played_r2 K w0 l0 A0 c0 x1 x2 x3 x4 bg5_0 xg5_0 bg5_1 lg5_1 Ag5_1 cg5_1 hR0 hL0 hBg5_0 hRg5_1 hLg5_1 hBg5_1 b1 hc1 Z1 cz1 m3 mp3 hc3 hc4 xr1 z1 m4 m5 xr2 mp4 hc5 r1 hc6 s o hf a w hA Q hQ) ?_
    rintro _ a w1 _ ⟨rfl, hb⟩
    obtain rfl := si h
    exact hQ _ _ _ (Outs.out nofun (Exits.on ⟨rfl, hb⟩))
  ·rw [if_neg hc6] at h
   refine wk 55 (!r1) true (congrArg (fun z => !z) (Bool.eq_false_iff.2 hc6)) ?_
   refine we_true (by kernel_rfl) ?_
   refine we_exit fun a hF => hK16 _ _ ?_ a hF
   refine wr [(0, 0), (1, 0), (2, 0)] ?_
   refine gb0 [0, 1, 2] [(19, vI (IntKind.i64.wrap (z1 + 1))), (51, vI (IntKind.i64.wrap (z1 + 1))), (50, vI z1)] ?_
   have hS148 := hS27.bring 2 rfl
   have hS149 := hS148.bring 2 rfl
   have hS150 := hS149.bring 2 rfl
   obtain rfl := si h
   exact ge_nil fun a hF => hQ _ _ _ (Outs.again ⟨xr2, hS150, hF.weaken ea⟩)
 ·rw [if_neg hc5] at h
  refine wk 49 (decide (z1 < x4)) false (decide_eq_false hc5) ?_
  refine we_false (by kernel_rfl) ?_
  have hS151 := hS.bring 1 rfl
  have hS152 := hS151.bring 1 rfl
  have hS153 := hS152.takeN 2
  obtain rfl := si h
  exact we_exit fun a hF => hQ _ _ _ (Outs.out nofun (Exits.here ⟨xr2, hS153, hF.weaken ea⟩))
theorem punctualref_Played_ok (K : Nat) (l0 : List SJob) (A0 : Option Addr) (c0 : Nat) (x1 : Int) (x2 : Bool) (x3 : Int) (x4 : Int) (bg5_0 : Nat) (xg5_0 : Int) (bg5_1 : Nat) (lg5_1 : List SWindow) (Ag5_1 : Option Addr) (cg5_1 : Nat) (w0 : World) (hR0 : RdL w0 A0 l0) (hL0 : l0.length ≤ c0) (hBg5_0 : Glob w0 bg5_0 [vI xg5_0]) (hRg5_1 : RdL w0 Ag5_1 lg5_1) (hLg5_1 : lg5_1.length ≤ cg5_1) (hBg5_1 : Glob w0 bg5_1 [.slice Ag5_1 lg5_1.length cg5_1]) (r : (List (List Int)) × (List Int)) (h : punctualref_Played.f K l0 x1 x2 x3 x4 xg5_0 lg5_1 = some r) :
  Calls Tryd.prog 88 #[.slice A0 l0.length c0, vI x1, .bool x2, vI x3, vI x4, .func (.func 89) #[] #[pP bg5_0 0, pP bg5_1 0]] w0 (punctualref_Played.Post w0 r) := by
 have hS := St.start w0
 unfold punctualref_Played.f at h
 refine calls_enter (n := 169) (args := [.slice A0 l0.length c0, vI x1, .bool x2, vI x3, vI x4, .func (.func 89) #[] #[pP bg5_0 0, pP bg5_1 0]]) (fn := Tryd.f88) rfl rfl rfl rfl ?_
 show WE _ _ _ _ [(0, .slice A0 l0.length c0), (1, vI x1), (2, .bool x2), (3, vI x3), (4, vI x4), (5, .func (.func 89) #[] #[pP bg5_0 0, pP bg5_1 0])] _
 refine ws fun K1 hK1 => ?_
 refine wr [(0, 0), (1, 0)] ?_
 refine gb0 [0, 1] [(13, .slice none 0 0), (12, .slice none 0 0)] ?_
 refine gn hK1 ?_
 refine ws fun K2 hK2 => ?_
 refine wr [(0, 1), (1, 0)] ?_
 refine gw (some 26) (.map #[] 0) (fun b => .map (some b)) hS fun b1 w1 hx1 hS1 => ?_
 have hS2 := hS1.newMap (κ := Int) (ν := Int)
 refine gb0 [1] [(14, .map (some b1))] ?_
 refine gn hK2 ?_
 refine ws fun K3 hK3 => ?_
 refine wr [(0, 0), (1, 0), (2, 1), (3, 0)] ?_
 refine gb0 [0, 1] [(28, vI (l0.length : Int)), (27, .slice A0 l0.length c0)] ?_
 by_cases hc1 : l0.length ≤ 17592186044416
 ·rw [if_pos hc1] at h
  refine ge_make (α := Int) (d := 29) (t := 24) (el := 3) (bytes := 8) (l := l0.length) (c := l0.length) (x := (.tmp 28)) (y := (.tmp 28)) (ty := 24) (k1 := .i64) (k2 := .i64) (li := (l0.length : Int)) (ci := (l0.length : Int)) (z := vI 0) (z' := (0 : Int)) (by kernel_rfl) (by kernel_rfl) (by kernel_rfl) rfl rfl (by kernel_rfl) (by kernel_rfl) rfl hS2 (Nat.le_refl _) rfl (by omega) fun v1 w2 _ hS3 => ?_
  refine gb0 [3] [(15, v1)] ?_
  refine gn hK3 ?_
  refine ws fun K4 hK4 => ?_
  refine ws fun K5 hK5 => ?_
  refine wr [(0, 0), (1, 0), (2, 0)] ?_
  refine gb0 [0, 1, 2] [(32, vI 0), (31, vI (l0.length : Int)), (30, .slice A0 l0.length c0)] ?_
  refine gn hK5 ?_
  refine we_block ?_
  obtain ⟨Z1, cz1, rfl⟩ := hS3.open 0 rfl
  have hS4 := hS3.bring 1 rfl
  have hS5 := hS4.bring 1 rfl
  rcases hq1 : iter (punctualref_Played.r0 l0) K (0, (List.replicate l0.length (0 : Int)), ([] : List (Int × Int))) with _ | (⟨m3, mp3⟩ | rr8)
  ·rw [hq1] at h; cases h
  ·rw [hq1] at h
   simp only [] at h
   refine we_iter (A := punctualref_Played.A0 w0 l0 A0 c0 x1 x2 x3 x4 bg5_0 bg5_1 b1 Z1 cz1) (B := punctualref_Played.B0 w0 l0 A0 c0 x1 x2 x3 x4 bg5_0 bg5_1 b1 Z1 cz1) hq1 (fun a hF => ⟨hS5, hF.weaken ea⟩) (fun s o hf a w hA Q hQ => punctualref_Played_r0 K w0 l0 A0 c0 x1 x2 x3 x4 bg5_0 xg5_0 bg5_1 lg5_1 Ag5_1 cg5_1 hR0 hL0 hBg5_0 hRg5_1 hLg5_1 hBg5_1 b1 hc1 Z1 cz1 s o hf a w hA Q hQ) ?_
   rintro _ a w7 _ ⟨rfl, hS20, hF⟩
   replace hS20 : St w0 w7 [Own.of (.slice Z1 m3.length cz1) 3 m3, Own.map (κ := Int) (ν := Int) b1 mp3] := hS20
   refine hK4 [(0, .slice A0 l0.length c0), (1, vI x1), (2, .bool x2), (3, vI x3), (4, vI x4), (5, .func (.func 89) #[] #[pP bg5_0 0, pP bg5_1 0]), (14, .map (some b1)), (15, (.slice Z1 m3.length cz1))] w7 ?_ a hF
   refine ws fun K11 hK11 => ?_
   refine wr [(0, 0), (1, 1), (2, 0)] ?_
   refine gb0 [0] [(45, vI x4)] ?_
   by_cases hc3 : 0 ≤ x4
   ·rw [if_pos hc3] at h
    by_cases hc4 : ((x4).toNat) ≤ 5864062014805
    ·rw [if_pos hc4] at h
     refine ge_make (α := Hdr) (d := 46) (t := 76) (el := 24) (bytes := 24) (l := ((x4).toNat)) (c := ((x4).toNat)) (x := (.tmp 45)) (y := (.tmp 45)) (ty := 76) (k1 := .i64) (k2 := .i64) (li := x4) (ci := x4) (z := .slice none 0 0) (z' := (⟨none, 0, 0⟩ : Hdr)) (by kernel_rfl) (by kernel_rfl) (by kernel_rfl) (Int.toNat_of_nonneg hc3).symm (Int.toNat_of_nonneg hc3).symm (by kernel_rfl) (by kernel_rfl) rfl hS20 (Nat.le_refl _) rfl (by omega) fun v2 w8 _ hS21 => ?_
     obtain ⟨xr1, rfl, hS22⟩ := hS21.nestMake (α := Int) (e := 3)
     refine gb0 [2] [(18, (Rows.val xr1))] ?_
     refine gn hK11 ?_
     refine ws fun K12 hK12 => ?_
     refine ws fun K13 hK13 => ?_
     refine wr [(0, 0)] ?_
     refine gb0 [0] [(19, vI 0)] ?_
     refine gn hK13 ?_
     refine we_block ?_
     have hS23 := hS22.bring 2 rfl
     have hS24 := hS23.bring 1 rfl
     have hS25 := hS24.bring 2 rfl
     rcases hq10 : iter (punctualref_Played.r1 K l0 x1 x2 x3 x4 xg5_0 lg5_1) K (0, m3, (List.replicate ((x4).toNat) ([] : List Int)), mp3) with _ | (⟨m18, m19⟩ | rr7)
     ·rw [hq10] at h; cases h
     ·rw [hq10] at h
      simp only [] at h
      refine we_iter (A := punctualref_Played.A1 w0 l0 A0 c0 x1 x2 x3 x4 bg5_0 bg5_1 b1 Z1 cz1) (B := punctualref_Played.B1 w0 Z1 cz1) hq10 (fun a hF => ⟨xr1, hS25, hF.weaken ea⟩) (fun s o hf a w hA Q hQ => punctualref_Played_r1 K w0 l0 A0 c0 x1 x2 x3 x4 bg5_0 xg5_0 bg5_1 lg5_1 Ag5_1 cg5_1 hR0 hL0 hBg5_0 hRg5_1 hLg5_1 hBg5_1 b1 hc1 Z1 cz1 m3 mp3 hc3 hc4 xr1 s o hf a w hA Q hQ) ?_
      rintro _ a w26 _ ⟨rfl, xr4, hS154, hF⟩
      replace hS154 : St w0 w26 [Own.of (.slice Z1 m18.length cz1) 3 m18, Own.nest xr4 24 3 m19] := hS154
      refine hK12 [(15, (.slice Z1 m18.length cz1)), (18, (Rows.val xr4))] w26 ?_ a hF
      refine ws fun K43 hK43 => ?_
      refine wr [(0, 0), (1, 0), (2, 0), (3, 0)] ?_
      refine gb0 [0, 1, 2, 3] [(13, (.slice Z1 m18.length cz1)), (12, (Rows.val xr4)), (168, (.slice Z1 m18.length cz1)), (167, (Rows.val xr4))] ?_
      refine gn hK43 ?_
      have hS155 := hS154.bring 1 rfl
      obtain rfl := si h
      exact we_ret (pr0 [.tmp 12, .tmp 13] [(Rows.val xr4), (.slice Z1 m18.length cz1)] ⟨xr4, (.slice Z1 m18.length cz1), rfl, hS155⟩)
     ·rw [hq10] at h
      simp only [] at h
      refine we_iter (A := punctualref_Played.A1 w0 l0 A0 c0 x1 x2 x3 x4 bg5_0 bg5_1 b1 Z1 cz1) (B := punctualref_Played.B1 w0 Z1 cz1) hq10 (fun a hF => ⟨xr1, hS25, hF.weaken ea⟩) (fun s o hf a w hA Q hQ => punctualref_Played_r1 K w0 l0 A0 c0 x1 x2 x3 x4 bg5_0 xg5_0 bg5_1 lg5_1 Ag5_1 cg5_1 hR0 hL0 hBg5_0 hRg5_1 hLg5_1 hBg5_1 b1 hc1 Z1 cz1 m3 mp3 hc3 hc4 xr1 s o hf a w hA Q hQ) ?_
      rintro _ a w1 _ ⟨rfl, hb⟩
      obtain rfl := si h
      exact hb
    ·rw [if_neg hc4] at h
     cases h
   ·rw [if_neg hc3] at h
    cases h
  ·rw [hq1] at h
   simp only [] at h
   refine we_iter (A := punctualref_Played.A0 w0 l0 A0 c0 x1 x2 x3 x4 bg5_0 bg5_1 b1 Z1 cz1) (B := punctualref_Played.B0 w0 l0 A0 c0 x1 x2 x3 x4 bg5_0 bg5_1 b1 Z1 cz1) hq1 (fun a hF => ⟨hS5, hF.weaken ea⟩) (fun s o hf a w hA Q hQ => punctualref_Played_r0 K w0 l0 A0 c0 x1 x2 x3 x4 bg5_0 xg5_0 bg5_1 lg5_1 Ag5_1 cg5_1 hR0 hL0 hBg5_0 hRg5_1 hLg5_1 hBg5_1 b1 hc1 Z1 cz1 s o hf a w hA Q hQ) ?_
   rintro _ a w1 _ ⟨rfl, hb⟩
   obtain rfl := si h
   exact hb
 ·rw [if_neg hc1] at h
  cases h

/-! punctual/punctualref.One -/
abbrev punctualref_One.Post (w0 : World) (r : List Int) (e : Ending) (w : World) : Prop := ∃ (v0 : Value), e = .returned (v0) ∧ St w0 w [Own.of v0 3 r]
def punctualref_One.r0 (l0 : List (List Int)) : Int × (List Int) → Option ((Int × (List Int)) ⊕ ((List Int) ⊕ (List Int)))
 | (z1, m1) =>
  if z1 < (l0.length : Int) then
   if 0 ≤ z1 then
    match l0[(z1).toNat]? with
    | none => none
    | some e1 =>
     match m1[(z1).toNat]? with
     | none => none
     | some e2 =>
      if (e1.length : Int) > 0 then
       match e1[0]? with
       | none => none
       | some e3 =>
        match (m1.set ((z1).toNat) (-1))[(z1).toNat]? with
        | none => none
        | some e4 =>
         some (.inl (IntKind.i64.wrap (z1 + 1), ((m1.set ((z1).toNat) (-1)).set ((z1).toNat) e3)))
      else
       some (.inl (IntKind.i64.wrap (z1 + 1), (m1.set ((z1).toNat) (-1))))
   else
    none
  else
   some (.inr (.inl m1))
def punctualref_One.f (K : Nat) (l0 : List (List Int)) : Option (List Int) :=
 if l0.length ≤ 17592186044416 then
  match iter (punctualref_One.r0 l0) K (0, (List.replicate l0.length (0 : Int))) with
  | none => none
  | some (.inl m3) =>
   some m3
  | some (.inr rr1) =>
   some rr1
 else
  none
abbrev punctualref_One.A0 (w0 : World) (l0 : List (List Int)) (A0 : Option Addr) (c0 : Nat) (Z1 : Option Addr) (cz1 : Nat) : (Int × (List Int)) → Act → World → Prop := fun (s : Int × (List Int)) a w => St w0 w [Own.of (.slice Z1 s.2.length cz1) 3 s.2] ∧ Frm 30 a [(3, (.slice Z1 s.2.length cz1)), (9, .slice A0 l0.length c0), (10, vI (l0.length : Int)), (11, vI s.1)]
abbrev punctualref_One.B0 (w0 : World) (Z1 : Option Addr) (cz1 : Nat) : ((List Int) ⊕ (List Int)) → Exit → Act → World → Prop := Exits 0 (fun (s : (List Int)) a w => St w0 w [Own.of (.slice Z1 s.length cz1) 3 s] ∧ Frm 30 a [(3, (.slice Z1 s.length cz1))]) (Rets Tryd.prog Tryd.f91 (punctualref_One.Post w0))
theorem punctualref_One_r0 (K : Nat) (w0 : World) (l0 : List (List Int)) (hd0 : List Hdr) (A0 : Option Addr) (c0 : Nat) (hR0 : RdL w0 A0 hd0) (hL0 : l0.length ≤ c0) (hN0 : NestL w0 hd0 l0) (hc1 : l0.length ≤ 17592186044416) (Z1 : Option Addr) (cz1 : Nat) (s : Int × (List Int)) (o : (Int × (List Int)) ⊕ ((List Int) ⊕ (List Int))) (h : punctualref_One.r0 l0 s = some o) (a : Act) (w : World) (hA : punctualref_One.A0 w0 l0 A0 c0 Z1 cz1 s a w) (Q : Exit → Act → World → Prop) (hQ : ∀ x a w, Outs (punctualref_One.A0 w0 l0 A0 c0 Z1 cz1) (punctualref_One.B0 w0 Z1 cz1) o x a w → Q x a w) : (subF Tryd.f91 [1, 1, 0, 1, 0, 0]).wp Tryd.prog Q a w := by
 obtain ⟨z1, m1⟩ := s
 obtain ⟨hS, hF⟩ := hA
 replace hS : St w0 w [Own.of (.slice Z1 m1.length cz1) 3 m1] := hS
 simp only [punctualref_One.r0] at h
 refine (?_ : WE Tryd.prog 30 (subF Tryd.f91 [1, 1, 0, 1, 0, 0]) Q [(3, (.slice Z1 m1.length cz1)), (9, .slice A0 l0.length c0), (10, vI (l0.length : Int)), (11, vI z1)] w) a hF
 clear hF a
 refine ws fun K5 hK5 => ?_
 refine wr [(0, 0)] ?_
 refine gb0 [0] [(12, .bool (decide (z1 < (l0.length : Int))))] ?_
 refine gn hK5 ?_
 refine ws fun K6 hK6 => ?_
 by_cases hc2 : z1 < (l0.length : Int)
 ·rw [if_pos hc2] at h
  refine wk 12 (decide (z1 < (l0.length : Int))) true (decide_eq_true hc2) ?_
  refine we_true (by kernel_rfl) ?_
  refine we_skip fun a hF => hK6 _ _ ?_ a hF
  refine ws fun K7 hK7 => ?_
  refine we_block ?_
  refine ws fun K8 hK8 => ?_
  refine wr [(0, 0), (1, 0), (2, 0), (3, 0), (4, 0)] ?_
  refine gb0 [0] [(13, vI z1)] ?_
  by_cases hc3 : 0 ≤ z1
  ·rw [if_pos hc3] at h
   rcases hx1 : l0[(z1).toNat]? with _ | e1
   ·rw [hx1] at h; cases h
   rw [hx1] at h
   simp only [] at h
   obtain ⟨An1, cn1, hxn1, hRn1, hLn1⟩ := hN0.get hx1
   refine gi 14 0 76 24 1 l0.length c0 (.tmp 9) (.tmp 11) A0 .i64 z1 ((z1).toNat) ((hS.rd hR0).eqSome (pos_of_get hxn1)) (Int.toNat_of_nonneg hc3).symm (lt_of_get hx1) ?_
   refine gb [2, 3, 4] [(5, .slice An1 e1.length cn1), (4, vI z1), (15, .slice An1 e1.length cn1)] [.loaded ⟨blkOf A0, offOf A0 + ((z1).toNat) * 1, none⟩ (.slice An1 e1.length cn1)] ⟨RdL.cell (j := 0) (hS.rd hR0) hxn1 rfl, trivial⟩ ?_
   refine gn hK8 ?_
   refine ws fun K9 hK9 => ?_
   refine wr [(0, 0), (1, 0), (2, 0), (3, 2)] ?_
   refine gb0 [0, 1] [(17, vI z1), (16, (.slice Z1 m1.length cz1))] ?_
   rcases hx2 : m1[(z1).toNat]? with _ | e2
   ·rw [hx2] at h; cases h
   rw [hx2] at h
   simp only [] at h
   refine gi 18 0 24 3 1 m1.length cz1 (.tmp 16) (.tmp 17) Z1 .i64 z1 ((z1).toNat) ((hS.rdAt 0 rfl).eqSome (pos_of_get hx2)) (Int.toNat_of_nonneg hc3).symm (lt_of_get hx2) ?_
   refine ge_seti (α := Int) (A := Z1) (nn := m1.length) (c := cz1) (t := 3) (l := m1) (x := e2) (x' := (-1)) (jn := ((z1).toNat)) (j := 0) (vs := [vI (-1)]) (l' := [.stored ⟨blkOf Z1, offOf Z1 + ((z1).toNat) * 1, none⟩ (vI (-1))]) hS (by kernel_rfl) (by kernel_rfl) hx2 rfl rfl rfl fun w2 hS2 => ?_
   have hS3 : St w0 w2 [Own.of (.slice Z1 m1.length cz1) 3 (m1.set ((z1).toNat) (-1))] := hS2
   have hE1 : m1.length = (m1.set ((z1).toNat) (-1)).length := hS3.lenAt 0 rfl
   have hS4 : St w0 w2 [Own.of (.slice Z1 (m1.set ((z1).toNat) (-1)).length cz1) 3 (m1.set ((z1).toNat) (-1))] := by rw [← hE1]; exact hS3
   refine ge_same (t := 3) (v := (.slice Z1 m1.length cz1)) (v' := (.slice Z1 (m1.set ((z1).toNat) (-1)).length cz1)) (by kernel_rfl) (by rw [hE1]) ?_
   refine ge_same (t := 16) (v := (.slice Z1 m1.length cz1)) (v' := (.slice Z1 (m1.set ((z1).toNat) (-1)).length cz1)) (by kernel_rfl) (by rw [hE1]) ?_
   refine gn hK9 ?_
   refine ws fun K10 hK10 => ?_
   refine wr [(0, 0), (1, 0), (2, 0)] ?_
   refine gb0 [0, 1, 2] [(21, .bool (decide ((e1.length : Int) > 0))), (20, vI (e1.length : Int)), (19, .slice An1 e1.length cn1)] ?_
   refine gn hK10 ?_
   by_cases hc4 : (e1.length : Int) > 0
   ·rw [if_pos hc4] at h
    refine wk 21 (decide ((e1.length : Int) > 0)) true (decide_eq_true hc4) ?_
    refine we_true (by kernel_rfl) ?_
    refine wr [(0, 0), (1, 0), (2, 0), (3, 0), (4, 0), (5, 0), (6, 2)] ?_
    refine gb0 [0, 1, 2] [(24, .slice An1 e1.length cn1), (23, vI z1), (22, (.slice Z1 (m1.set ((z1).toNat) (-1)).length cz1))] ?_
    rcases hx3 : e1[0]? with _ | e3
    ·rw [hx3] at h; cases h
    rw [hx3] at h
    simp only [] at h
    refine gi 25 0 24 3 1 e1.length cn1 (.tmp 24) (.const (vI 0)) An1 .i64 0 0 ((hS4.rd hRn1).eqSome (pos_of_get hx3)) rfl (lt_of_get hx3) ?_
    refine gb [4] [(26, vI e3)] [.loaded ⟨blkOf An1, offOf An1 + 0 * 1, none⟩ (vI e3)] ⟨RdL.cell (j := 0) (hS4.rd hRn1) hx3 rfl, trivial⟩ ?_
    rcases hx4 : (m1.set ((z1).toNat) (-1))[(z1).toNat]? with _ | e4
    ·rw [hx4] at h; cases h
    rw [hx4] at h
    simp only [] at h
    refine gi 27 0 24 3 1 ((m1.set ((z1).toNat) (-1)).length) cz1 (.tmp 22) (.tmp 23) Z1 .i64 z1 ((z1).toNat) ((hS4.rdAt 0 rfl).eqSome (pos_of_get hx4)) (Int.toNat_of_nonneg hc3).symm (lt_of_get hx4) ?_
    refine ge_seti (α := Int) (A := Z1) (nn := ((m1.set ((z1).toNat) (-1)).length)) (c := cz1) (t := 3) (l := (m1.set ((z1).toNat) (-1))) (x := e4) (x' := e3) (jn := ((z1).toNat)) (j := 0) (vs := [vI e3]) (l' := [.stored ⟨blkOf Z1, offOf Z1 + ((z1).toNat) * 1, none⟩ (vI e3)]) hS4 (by kernel_rfl) (by kernel_rfl) hx4 rfl rfl rfl fun w3 hS5 => ?_
    have hS6 : St w0 w3 [Own.of (.slice Z1 (m1.set ((z1).toNat) (-1)).length cz1) 3 ((m1.set ((z1).toNat) (-1)).set ((z1).toNat) e3)] := hS5
    have hE2 : (m1.set ((z1).toNat) (-1)).length = ((m1.set ((z1).toNat) (-1)).set ((z1).toNat) e3).length := hS6.lenAt 0 rfl
    have hS7 : St w0 w3 [Own.of (.slice Z1 ((m1.set ((z1).toNat) (-1)).set ((z1).toNat) e3).length cz1) 3 ((m1.set ((z1).toNat) (-1)).set ((z1).toNat) e3)] := by rw [← hE2]; exact hS6
    refine ge_same (t := 3) (v := (.slice Z1 (m1.set ((z1).toNat) (-1)).length cz1)) (v' := (.slice Z1 ((m1.set ((z1).toNat) (-1)).set ((z1).toNat) e3).length cz1)) (by kernel_rfl) (by rw [hE2]) ?_
    refine ge_same (t := 16) (v := (.slice Z1 (m1.set ((z1).toNat) (-1)).length cz1)) (v' := (.slice Z1 ((m1.set ((z1).toNat) (-1)).set ((z1).toNat) e3).length cz1)) (by kernel_rfl) (by rw [hE2]) ?_
    refine ge_same (t := 22) (v := (.slice Z1 (m1.set ((z1).toNat) (-1)).length cz1)) (v' := (.slice Z1 ((m1.set ((z1).toNat) (-1)).set ((z1).toNat) e3).length cz1)) (by kernel_rfl) (by rw [hE2]) ?_
    refine gn hK7 ?_
    refine wr [(0, 0), (1, 0)] ?_
    refine gb0 [0, 1] [(11, vI (IntKind.i64.wrap (z1 + 1))), (28, vI (IntKind.i64.wrap (z1 + 1)))] ?_
    obtain rfl := si h
    exact ge_nil fun a hF => hQ _ _ _ (Outs.again ⟨hS7, hF.weaken ea⟩)
   ·rw [if_neg hc4] at h
    refine wk 21 (decide ((e1.length : Int) > 0)) false (decide_eq_false hc4) ?_
    refine we_false (by kernel_rfl) ?_
    refine we_skip fun a hF => hK7 _ _ ?_ a hF
    refine wr [(0, 0), (1, 0)] ?_
    refine gb0 [0, 1] [(11, vI (IntKind.i64.wrap (z1 + 1))), (28, vI (IntKind.i64.wrap (z1 + 1)))] ?_
    obtain rfl := si h
    exact ge_nil fun a hF => hQ _ _ _ (Outs.again ⟨hS4, hF.weaken ea⟩)
  ·rw [if_neg hc3] at h
   cases h
 ·rw [if_neg hc2] at h
  refine wk 12 (decide (z1 < (l0.length : Int))) false (decide_eq_false hc2) ?_
  refine we_false (by kernel_rfl) ?_
  obtain rfl := si h
  exact we_exit fun a hF => hQ _ _ _ (Outs.out nofun (Exits.here ⟨hS, hF.weaken ea⟩))
theorem punctualref_One_ok (K : Nat) (l0 : List (List Int)) (hd0 : List Hdr) (A0 : Option Addr) (c0 : Nat) (w0 : World) (hR0 : RdL w0 A0 hd0) (hL0 : l0.length ≤ c0) (hN0 : NestL w0 hd0 l0) (r : List Int) (h : punctualref_One.f K l0 = some r) :
  Calls Tryd.prog 91 #[.slice A0 l0.length c0] w0 (punctualref_One.Post w0 r) := by
 have hS := St.start w0
 unfold punctualref_One.f at h
 refine calls_enter (n := 30) (args := [.slice A0 l0.length c0]) (fn := Tryd.f91) rfl rfl rfl rfl ?_
 show WE _ _ _ _ [(0, .slice A0 l0.length c0)] _
 refine ws fun K1 hK1 => ?_
 refine wr [(0, 0)] ?_
 refine gb0 [0] [(2, .slice none 0 0)] ?_
 refine gn hK1 ?_
 refine ws fun K2 hK2 => ?_
 refine wr [(0, 0), (1, 0), (2, 1), (3, 0)] ?_
 refine gb0 [0, 1] [(7, vI (l0.length : Int)), (6, .slice A0 l0.length c0)] ?_
 by_cases hc1 : l0.length ≤ 17592186044416
 ·rw [if_pos hc1] at h
  refine ge_make (α := Int) (d := 8) (t := 24) (el := 3) (bytes := 8) (l := l0.length) (c := l0.length) (x := (.tmp 7)) (y := (.tmp 7)) (ty := 24) (k1 := .i64) (k2 := .i64) (li := (l0.length : Int)) (ci := (l0.length : Int)) (z := vI 0) (z' := (0 : Int)) (by kernel_rfl) (by kernel_rfl) (by kernel_rfl) rfl rfl (by kernel_rfl) (by kernel_rfl) rfl hS (Nat.le_refl _) rfl (by omega) fun v1 w1 _ hS1 => ?_
  refine gb0 [3] [(3, v1)] ?_
  refine gn hK2 ?_
  refine ws fun K3 hK3 => ?_
  refine ws fun K4 hK4 => ?_
  refine wr [(0, 0), (1, 0), (2, 0)] ?_
  refine gb0 [0, 1, 2] [(11, vI 0), (10, vI (l0.length : Int)), (9, .slice A0 l0.length c0)] ?_
  refine gn hK4 ?_
  refine we_block ?_
  obtain ⟨Z1, cz1, rfl⟩ := hS1.open 0 rfl
  rcases hq1 : iter (punctualref_One.r0 l0) K (0, (List.replicate l0.length (0 : Int))) with _ | (m3 | rr1)
  ·rw [hq1] at h; cases h
  ·rw [hq1] at h
   simp only [] at h
   refine we_iter (A := punctualref_One.A0 w0 l0 A0 c0 Z1 cz1) (B := punctualref_One.B0 w0 Z1 cz1) hq1 (fun a hF => ⟨hS1, hF.weaken ea⟩) (fun s o hf a w hA Q hQ => punctualref_One_r0 K w0 l0 hd0 A0 c0 hR0 hL0 hN0 hc1 Z1 cz1 s o hf a w hA Q hQ) ?_
   rintro _ a w4 _ ⟨rfl, hS8, hF⟩
   replace hS8 : St w0 w4 [Own.of (.slice Z1 m3.length cz1) 3 m3] := hS8
   refine hK3 [(3, (.slice Z1 m3.length cz1))] w4 ?_ a hF
   refine ws fun K11 hK11 => ?_
   refine wr [(0, 0), (1, 0)] ?_
   refine gb0 [0, 1] [(2, (.slice Z1 m3.length cz1)), (29, (.slice Z1 m3.length cz1))] ?_
   refine gn hK11 ?_
   obtain rfl := si h
   exact we_ret (pr0 [.tmp 2] [(.slice Z1 m3.length cz1)] ⟨(.slice Z1 m3.length cz1), rfl, hS8⟩)
  ·rw [hq1] at h
   simp only [] at h
   refine we_iter (A := punctualref_One.A0 w0 l0 A0 c0 Z1 cz1) (B := punctualref_One.B0 w0 Z1 cz1) hq1 (fun a hF => ⟨hS1, hF.weaken ea⟩) (fun s o hf a w hA Q hQ => punctualref_One_r0 K w0 l0 hd0 A0 c0 hR0 hL0 hN0 hc1 Z1 cz1 s o hf a w hA Q hQ) ?_
   rintro _ a w1 _ ⟨rfl, hb⟩
   obtain rfl := si h
   exact hb
 ·rw [if_neg hc1] at h
  cases h

structure SPlayed where
 Runs : List Int
 Ends : List Int
end Go.Proofs.YtcogbnkioobmkaaDoor.GV
