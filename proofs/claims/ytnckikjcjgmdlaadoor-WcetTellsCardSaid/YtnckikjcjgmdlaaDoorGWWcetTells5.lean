/- Walks of single functions, written by a program of this work. -/
import Derived.Test.YtnckikjcjgmdlaaDoorGWWcetTells4
namespace Go.Proofs.YtnckikjcjgmdlaaDoor.GV
open Go Go.RowKit
set_option linter.unusedVariables false
set_option linter.unusedSimpArgs false
set_option maxRecDepth 100000

/-! punctual/punctualref.Worst -/
abbrev punctualref_Worst.Post (w0 : World) (r : SBound × SFault) (e : Ending) (w : World) : Prop := ∃ (v0 : Value), e = .returned (.tuple #[.agg #[vI r.1.Worst, v0], .agg #[vI r.2.Code, vI r.2.At]]) ∧ St w0 w [Own.of v0 3 r.1.Rest]
def punctualref_Worst.r0 : Int × (List (Int × Int)) → Option ((Int × (List (Int × Int))) ⊕ ((List (Int × Int)) ⊕ (SBound × SFault)))
 | (z1, mp1) =>
  if z1 ≥ 0 then
   none
  else
   some (.inr (.inl mp1))
def punctualref_Worst.r1 (l0 : List SIns) (mp3 : List (Int × Int)) : Nat × (List Int) → Option ((Nat × (List Int)) ⊕ ((List Int) ⊕ (SBound × SFault)))
 | (i1, m1) =>
  if (i1 : Int) < (l0.length : Int) then
   if m1.length < 17592186044416 then
    some (.inl ((i1 + 1), (m1 ++ [((mget mp3 (i1 : Int)).getD 0)])))
   else
    none
  else
   some (.inr (.inl m1))
def punctualref_Worst.p2 (r1 : (Option PImage) × SFault) : Option ((Int × Int × Int × (List Int)) ⊕ (SBound × SFault)) :=
  some (.inl (r1.2.Code, r1.2.At, 0, ([] : List Int)))
def punctualref_Worst.r3 (K : Nat) (l0 : List SIns) (px1 : PImage) : Int × (List (Int × Int)) → Option ((Int × (List (Int × Int))) ⊕ ((List (Int × Int)) ⊕ (SBound × SFault)))
 | (z8, mp4) =>
  if z8 ≥ 0 then
   match punctualref_Image_Left.f K l0 px1.m_Regions z8 mp4 with
   | none => none
   | some r2 =>
    if ((mget (mset mp4 z8 r2) z8).getD 0) > 1099511627776 then
     some (.inr (.inr ((⟨0, ([] : List Int)⟩ : SBound), (punctualref_F.f 3 z8))))
    else
     some (.inl (IntKind.i64.wrap (z8 - 1), (mset mp4 z8 r2)))
  else
   some (.inr (.inl mp4))
def punctualref_Worst.r4 (l0 : List SIns) (mp6 : List (Int × Int)) : Nat × (List Int) → Option ((Nat × (List Int)) ⊕ ((List Int) ⊕ (SBound × SFault)))
 | (i2, m6) =>
  if (i2 : Int) < (l0.length : Int) then
   if m6.length < 17592186044416 then
    some (.inl ((i2 + 1), (m6 ++ [((mget mp6 (i2 : Int)).getD 0)])))
   else
    none
  else
   some (.inr (.inl m6))
def punctualref_Worst.p5 (r1 : (Option PImage) × SFault) : Option ((Int × Int × Int × (List Int)) ⊕ (SBound × SFault)) :=
  some (.inl (r1.2.Code, r1.2.At, 0, ([] : List Int)))
def punctualref_Worst.f (K : Nat) (l0 : List SIns) : Option (SBound × SFault) :=
 match punctualref_ReadImage.f K l0 with
 | none => none
 | some r1 =>
  match r1.1 with
  | none =>
   if r1.2.Code = 0 then
    match iter (punctualref_Worst.r0) K (IntKind.i64.wrap ((l0.length : Int) - 1), ([] : List (Int × Int))) with
    | none => none
    | some (.inl mp3) =>
     match iter (punctualref_Worst.r1 l0 mp3) K (0, ([] : List Int)) with
     | none => none
     | some (.inl m3) =>
      some ((⟨((mget mp3 0).getD 0), m3⟩ : SBound), (⟨0, 0⟩ : SFault))
     | some (.inr rr1) =>
      some rr1
    | some (.inr rr2) =>
     some rr2
   else
    match punctualref_Worst.p2 r1 with
    | none => none
    | some (.inl (z5, z6, z7, m5)) =>
     some ((⟨z7, m5⟩ : SBound), (⟨z5, z6⟩ : SFault))
    | some (.inr rr3) =>
     some rr3
  | some px1 =>
   if r1.2.Code = 0 then
    match iter (punctualref_Worst.r3 K l0 px1) K (IntKind.i64.wrap ((l0.length : Int) - 1), ([] : List (Int × Int))) with
    | none => none
    | some (.inl mp6) =>
     match iter (punctualref_Worst.r4 l0 mp6) K (0, ([] : List Int)) with
     | none => none
     | some (.inl m8) =>
      some ((⟨((mget mp6 0).getD 0), m8⟩ : SBound), (⟨0, 0⟩ : SFault))
     | some (.inr rr4) =>
      some rr4
    | some (.inr rr5) =>
     some rr5
   else
    match punctualref_Worst.p5 r1 with
    | none => none
    | some (.inl (z12, z13, z14, m10)) =>
     some ((⟨z14, m10⟩ : SBound), (⟨z12, z13⟩ : SFault))
    | some (.inr rr6) =>
     some rr6
abbrev punctualref_Worst.A0 (w0 : World) (l0 : List SIns) (A0 : Option Addr) (c0 : Nat) (b1 : Nat) (b2 : Nat) (b4 : Nat) (b5 : Nat) : (Int × (List (Int × Int))) → Act → World → Prop := fun (s : Int × (List (Int × Int))) a w => St w0 w [Own.blk b5 (.cells #[.map (some b4)] 62 (0, 0)), Own.blk b2 (.cells #[vI 0, vI 0] 25 (0, 0)), Own.blk b1 (.cells #[vI 0, .slice none 0 0] 42 (0, 0)), Own.map (κ := Int) (ν := Int) b4 s.2] ∧ Frm 60 a [(0, .slice A0 l0.length c0), (2, pP b1 0), (3, pP b2 0), (4, .pointer none), (6, pP b5 0), (7, vI s.1)]
abbrev punctualref_Worst.B0 (w0 : World) (l0 : List SIns) (A0 : Option Addr) (c0 : Nat) (b1 : Nat) (b2 : Nat) (b4 : Nat) (b5 : Nat) : ((List (Int × Int)) ⊕ (SBound × SFault)) → Exit → Act → World → Prop := Exits 0 (fun (s : (List (Int × Int))) a w => St w0 w [Own.blk b5 (.cells #[.map (some b4)] 62 (0, 0)), Own.blk b2 (.cells #[vI 0, vI 0] 25 (0, 0)), Own.blk b1 (.cells #[vI 0, .slice none 0 0] 42 (0, 0)), Own.map (κ := Int) (ν := Int) b4 s] ∧ Frm 60 a [(0, .slice A0 l0.length c0), (2, pP b1 0), (3, pP b2 0), (6, pP b5 0)]) (Rets Tryd.prog Tryd.f18 (punctualref_Worst.Post w0))
theorem punctualref_Worst_r0 (K : Nat) (w0 : World) (l0 : List SIns) (A0 : Option Addr) (c0 : Nat) (hR0 : RdL w0 A0 l0) (hL0 : l0.length ≤ c0) (b1 : Nat) (b2 : Nat) (r1 : (Option PImage) × SFault) (b3 : Nat) (hc1 : r1.2.Code = 0) (b4 : Nat) (b5 : Nat) (s : Int × (List (Int × Int))) (o : (Int × (List (Int × Int))) ⊕ ((List (Int × Int)) ⊕ (SBound × SFault))) (h : punctualref_Worst.r0 s = some o) (a : Act) (w : World) (hA : punctualref_Worst.A0 w0 l0 A0 c0 b1 b2 b4 b5 s a w) (Q : Exit → Act → World → Prop) (hQ : ∀ x a w, Outs (punctualref_Worst.A0 w0 l0 A0 c0 b1 b2 b4 b5) (punctualref_Worst.B0 w0 l0 A0 c0 b1 b2 b4 b5) o x a w → Q x a w) : (subF Tryd.f18 [1, 1, 1, 1, 0, 1, 0, 0]).wp Tryd.prog Q a w := by
 obtain ⟨z1, mp1⟩ := s
 obtain ⟨hS, hF⟩ := hA
 replace hS : St w0 w [Own.blk b5 (.cells #[.map (some b4)] 62 (0, 0)), Own.blk b2 (.cells #[vI 0, vI 0] 25 (0, 0)), Own.blk b1 (.cells #[vI 0, .slice none 0 0] 42 (0, 0)), Own.map (κ := Int) (ν := Int) b4 mp1] := hS
 simp only [punctualref_Worst.r0] at h
 refine (?_ : WE Tryd.prog 60 (subF Tryd.f18 [1, 1, 1, 1, 0, 1, 0, 0]) Q [(0, .slice A0 l0.length c0), (2, pP b1 0), (3, pP b2 0), (4, .pointer none), (6, pP b5 0), (7, vI z1)] w) a hF
 clear hF a
 refine ws fun K8 hK8 => ?_
 refine ws fun K9 hK9 => ?_
 refine wr [(0, 0), (1, 0)] ?_
 refine gb0 [0, 1] [(25, .bool (decide (z1 ≥ 0))), (24, vI z1)] ?_
 refine gn hK9 ?_
 by_cases hc2 : z1 ≥ 0
 ·rw [if_pos hc2] at h
  refine wk 25 (decide (z1 ≥ 0)) true (decide_eq_true hc2) ?_
  refine we_true (by kernel_rfl) ?_
  refine we_skip fun a hF => hK8 _ _ ?_ a hF
  refine ws fun K10 hK10 => ?_
  refine we_block ?_
  refine ws fun K11 hK11 => ?_
  refine we_draws (by kernel_rfl) [(0, 0), (1, 0), (2, 0), (3, 0), (4, 0), (5, 1), (6, 2)] (by kernel_rfl) ?_
  have hS18 := hS.drew
  refine gb [0, 1, 2, 3, 4] [(32, .func (.func 39) #[] #[pP b5 0]), (31, vI z1), (30, .pointer none), (29, vI z1), (28, .map (some b4))] [.loaded ⟨b5, 0, none⟩ (.map (some b4))] ⟨hS18.c 0, trivial⟩ ?_
  cases h
 ·rw [if_neg hc2] at h
  refine wk 25 (decide (z1 ≥ 0)) false (decide_eq_false hc2) ?_
  refine we_false (by kernel_rfl) ?_
  have hS19 := hS.bring 3 rfl
  have hS20 := hS19.bring 3 rfl
  have hS21 := hS20.bring 3 rfl
  have hS22 := hS21.bring 3 rfl
  obtain rfl := si h
  exact we_exit fun a hF => hQ _ _ _ (Outs.out nofun (Exits.here ⟨hS22, hF.weaken ea⟩))
abbrev punctualref_Worst.A1 (w0 : World) (l0 : List SIns) (b1 : Nat) (b2 : Nat) (b4 : Nat) (b5 : Nat) (mp3 : List (Int × Int)) (b6 : Nat) : (Nat × (List Int)) → Act → World → Prop := fun (s : Nat × (List Int)) a w => ∃ (v1 : Value), St w0 w [Own.blk b6 (.cells #[vI ((mget mp3 0).getD 0), v1] 42 (0, 0)), Own.blk b5 (.cells #[.map (some b4)] 62 (0, 0)), Own.blk b2 (.cells #[vI 0, vI 0] 25 (0, 0)), Own.blk b1 (.cells #[vI 0, .slice none 0 0] 42 (0, 0)), Own.of v1 3 s.2, Own.map (κ := Int) (ν := Int) b4 mp3] ∧ Frm 60 a [(2, pP b1 0), (3, pP b2 0), (6, pP b5 0), (8, pP b6 0), (45, vI (l0.length : Int)), (46, vI (s.1 : Int))]
abbrev punctualref_Worst.B1 (w0 : World) (b1 : Nat) (b2 : Nat) (mp3 : List (Int × Int)) (b6 : Nat) : ((List Int) ⊕ (SBound × SFault)) → Exit → Act → World → Prop := Exits 2 (fun (s : (List Int)) a w => ∃ (v2 : Value), St w0 w [Own.blk b6 (.cells #[vI ((mget mp3 0).getD 0), v2] 42 (0, 0)), Own.blk b2 (.cells #[vI 0, vI 0] 25 (0, 0)), Own.blk b1 (.cells #[vI 0, .slice none 0 0] 42 (0, 0)), Own.of v2 3 s] ∧ Frm 60 a [(2, pP b1 0), (3, pP b2 0), (8, pP b6 0)]) (Rets Tryd.prog Tryd.f18 (punctualref_Worst.Post w0))
theorem punctualref_Worst_r1 (K : Nat) (w0 : World) (l0 : List SIns) (A0 : Option Addr) (c0 : Nat) (hR0 : RdL w0 A0 l0) (hL0 : l0.length ≤ c0) (b1 : Nat) (b2 : Nat) (r1 : (Option PImage) × SFault) (b3 : Nat) (hc1 : r1.2.Code = 0) (b4 : Nat) (b5 : Nat) (mp3 : List (Int × Int)) (b6 : Nat) (s : Nat × (List Int)) (o : (Nat × (List Int)) ⊕ ((List Int) ⊕ (SBound × SFault))) (h : punctualref_Worst.r1 l0 mp3 s = some o) (a : Act) (w : World) (hA : punctualref_Worst.A1 w0 l0 b1 b2 b4 b5 mp3 b6 s a w) (Q : Exit → Act → World → Prop) (hQ : ∀ x a w, Outs (punctualref_Worst.A1 w0 l0 b1 b2 b4 b5 mp3 b6) (punctualref_Worst.B1 w0 b1 b2 mp3 b6) o x a w → Q x a w) : (subF Tryd.f18 [1, 1, 1, 1, 1, 1, 0, 1, 0, 0]).wp Tryd.prog Q a w := by
 obtain ⟨i1, m1⟩ := s
 obtain ⟨v1, hS, hF⟩ := hA
 replace hS : St w0 w [Own.blk b6 (.cells #[vI ((mget mp3 0).getD 0), v1] 42 (0, 0)), Own.blk b5 (.cells #[.map (some b4)] 62 (0, 0)), Own.blk b2 (.cells #[vI 0, vI 0] 25 (0, 0)), Own.blk b1 (.cells #[vI 0, .slice none 0 0] 42 (0, 0)), Own.of v1 3 m1, Own.map (κ := Int) (ν := Int) b4 mp3] := hS
 simp only [punctualref_Worst.r1] at h
 refine (?_ : WE Tryd.prog 60 (subF Tryd.f18 [1, 1, 1, 1, 1, 1, 0, 1, 0, 0]) Q [(2, pP b1 0), (3, pP b2 0), (6, pP b5 0), (8, pP b6 0), (45, vI (l0.length : Int)), (46, vI (i1 : Int))] w) a hF
 clear hF a
 refine ws fun K15 hK15 => ?_
 refine wr [(0, 0)] ?_
 refine gb0 [0] [(47, .bool (decide ((i1 : Int) < (l0.length : Int))))] ?_
 refine gn hK15 ?_
 refine ws fun K16 hK16 => ?_
 by_cases hc3 : (i1 : Int) < (l0.length : Int)
 ·rw [if_pos hc3] at h
  refine wk 47 (decide ((i1 : Int) < (l0.length : Int))) true (decide_eq_true hc3) ?_
  refine we_true (by kernel_rfl) ?_
  refine we_skip fun a hF => hK16 _ _ ?_ a hF
  refine ws fun K17 hK17 => ?_
  refine we_block ?_
  refine ws fun K18 hK18 => ?_
  refine wr [(0, 0), (1, 0)] ?_
  refine gb0 [0, 1] [(9, vI (i1 : Int)), (48, vI (i1 : Int))] ?_
  refine gn hK18 ?_
  refine wr [(0, 0), (1, 0), (2, 0), (3, 0), (4, 0), (5, 1), (6, 2), (7, 0), (8, 2)] ?_
  refine gb [0, 1, 2, 3] [(52, vI (i1 : Int)), (51, .map (some b4)), (50, v1), (49, pP b6 1)] [.loaded ⟨b6, 1, none⟩ (v1), .loaded ⟨b5, 0, none⟩ (.map (some b4))] ⟨hS.c 0, hS.c 1, trivial⟩ ?_
  refine ge_lookup (κ := Int) (ν := Int) (d := 53) (b := b4) (q := 5) (t := 62) (kt := 3) (et := 3) (x := (.tmp 51)) (y := (.tmp 52)) (ty := 3) (m := mp3) (k := (i1 : Int)) (z := 0) (v := ((mget mp3 (i1 : Int)).getD 0)) (zv := vI 0) (vv := vI ((mget mp3 (i1 : Int)).getD 0)) (by kernel_rfl) (by kernel_rfl) (by kernel_rfl) (by kernel_rfl) (by kernel_rfl) (fun w' => by kernel_rfl) rfl hS rfl rfl rfl ?_
  refine gw (some 54) (.cells #[vI ((mget mp3 (i1 : Int)).getD 0)] 3) (fun b => .slice (some ⟨b, 0, none⟩) 1 1) hS fun b7 w12 hx7 hS34 => ?_
  have hS35 := hS34.bring 5 rfl
  by_cases hc4 : m1.length < 17592186044416
  ·rw [if_pos hc4] at h
   refine ge_append (α := Int) (m := 0) (d := 55) (t := 37) (el := 3) (bytes := 8) (c1 := 1) (b1 := b7) (x := (.tmp 50)) (y := (.tmp 54)) (ty := 37) (v := v1) (z := vI 0) (l := m1) (u := ((mget mp3 (i1 : Int)).getD 0)) (by kernel_rfl) (by kernel_rfl) (by kernel_rfl) (by kernel_rfl) (by kernel_rfl) rfl hS35 rfl (by omega) fun v3 w13 hS36 => ?_
   refine gb0 [7] [(56, pP b6 1)] ?_
   obtain ⟨Z1, cz1, rfl⟩ := hS36.open 0 rfl
   have hS37 := hS36.bring 1 rfl
   refine gs b6 1 #[vI ((mget mp3 0).getD 0), v1] 42 [(.slice Z1 (m1 ++ [((mget mp3 (i1 : Int)).getD 0)]).length cz1)] hS37 fun w14 hS38 => ?_
   have hS39 : St w0 w14 [Own.blk b6 (.cells #[vI ((mget mp3 0).getD 0), (.slice Z1 (m1 ++ [((mget mp3 (i1 : Int)).getD 0)]).length cz1)] 42 (0, 0)), Own.of (.slice Z1 (m1 ++ [((mget mp3 (i1 : Int)).getD 0)]).length cz1) 3 (m1 ++ [((mget mp3 (i1 : Int)).getD 0)]), Own.blk b5 (.cells #[.map (some b4)] 62 (0, 0)), Own.blk b2 (.cells #[vI 0, vI 0] 25 (0, 0)), Own.blk b1 (.cells #[vI 0, .slice none 0 0] 42 (0, 0)), Own.map (κ := Int) (ν := Int) b4 mp3] := hS38
   refine gn hK17 ?_
   refine wr [(0, 0), (1, 0)] ?_
   refine ge_addn (d := 57) (ty := 3) (x := (.tmp 46)) (y := (.const (vI 1))) (t := 3) (t2 := 3) (k := .i64) (m := i1) (by kernel_rfl) (by kernel_rfl) (by kernel_rfl) (by have h0 := hR0.small; omega) ?_
   refine gb0 [1] [(46, vI ((i1 + 1 : Nat) : Int))] ?_
   have hS40 := hS39.bring 5 rfl
   have hS41 := hS40.bring 2 rfl
   have hS42 := hS41.bring 5 rfl
   have hS43 := hS42.bring 5 rfl
   have hS44 := hS43.bring 5 rfl
   have hS45 := hS44.bring 5 rfl
   obtain rfl := si h
   exact ge_nil fun a hF => hQ _ _ _ (Outs.again ⟨(.slice Z1 (m1 ++ [((mget mp3 (i1 : Int)).getD 0)]).length cz1), hS45, hF.weaken ea⟩)
  ·rw [if_neg hc4] at h
   cases h
 ·rw [if_neg hc3] at h
  refine wk 47 (decide ((i1 : Int) < (l0.length : Int))) false (decide_eq_false hc3) ?_
  refine we_false (by kernel_rfl) ?_
  have hS46 := hS.bring 4 rfl
  have hS47 := hS46.bring 4 rfl
  have hS48 := hS47.bring 4 rfl
  have hS49 := hS48.bring 3 rfl
  have hS50 := hS49.takeN 4
  obtain rfl := si h
  exact we_exit fun a hF => hQ _ _ _ (Outs.out nofun (Exits.here ⟨v1, hS50, hF.weaken ea⟩))
abbrev punctualref_Worst.A2 (w0 : World) (b1 : Nat) (b2 : Nat) : (Int × Int × Int × (List Int)) → Act → World → Prop := fun (s : Int × Int × Int × (List Int)) a w => ∃ (v5 : Value), St w0 w [Own.blk b2 (.cells #[vI s.1, vI s.2.1] 25 (0, 0)), Own.blk b1 (.cells #[vI s.2.2.1, v5] 42 (0, 0)), Own.of v5 3 s.2.2.2] ∧ Frm 60 a [(2, pP b1 0), (3, pP b2 0)]
abbrev punctualref_Worst.B2 (w0 : World) : (SBound × SFault) → Exit → Act → World → Prop := Rets Tryd.prog Tryd.f18 (punctualref_Worst.Post w0)
theorem punctualref_Worst_p2 (K : Nat) (w0 : World) (l0 : List SIns) (A0 : Option Addr) (c0 : Nat) (hR0 : RdL w0 A0 l0) (hL0 : l0.length ≤ c0) (b1 : Nat) (b2 : Nat) (r1 : (Option PImage) × SFault) (b3 : Nat) (hc1 : ¬ (r1.2.Code = 0)) (o : (Int × Int × Int × (List Int)) ⊕ (SBound × SFault)) (h : punctualref_Worst.p2 r1 = some o) (w : World) (hS : St w0 w [Own.blk b3 (.cells #[vI r1.2.Code, vI r1.2.At] 25 (0, 0)), Own.blk b2 (.cells #[vI 0, vI 0] 25 (0, 0)), Own.blk b1 (.cells #[vI 0, .slice none 0 0] 42 (0, 0))]) (Q : Exit → Act → World → Prop) (hQ : ∀ x a w, Outs (punctualref_Worst.A2 w0 b1 b2) (punctualref_Worst.B2 w0) o x a w → Q x a w) : WE Tryd.prog 60 (subF Tryd.f18 [1, 1, 0, 1, 0, 0]) Q [(0, .slice A0 l0.length c0), (2, pP b1 0), (3, pP b2 0), (4, .pointer none), (5, pP b3 0), (10, .tuple #[.pointer none, .agg #[vI r1.2.Code, vI r1.2.At]]), (11, .slice A0 l0.length c0), (12, .tuple #[.pointer none, .agg #[vI r1.2.Code, vI r1.2.At]]), (13, .pointer none), (14, .agg #[vI r1.2.Code, vI r1.2.At]), (15, pP b3 0), (16, vI r1.2.Code), (17, .bool true)] w := by
 simp only [punctualref_Worst.p2] at h
 refine we_orders2 (by kernel_rfl) [(1, [⟨b3, 0, none⟩, ⟨b3, 1, none⟩])] (.vals [0] (.vals [1] (.alt 2 2 (.alt 3 2 .fin .nomore) .nomore))) (by kernel_rfl) ?_
 have hS60 := hS.drew
 refine go2_batch [0] (ans := []) (vs := [(18, .agg #[vI 0, .slice none 0 0])]) (l := []) (by kernel_rfl) trivial mem_nil ?_
 refine go2_batch [1] (ans := [.val (vI r1.2.Code), .val (vI r1.2.At)]) (vs := [(19, .agg #[vI r1.2.Code, vI r1.2.At])]) (l := [.loaded ⟨b3, 0, none⟩ (vI r1.2.Code), .loaded ⟨b3, 1, none⟩ (vI r1.2.At)]) (by kernel_rfl) ⟨hS60.c 0, hS60.c 0, trivial⟩ (mem_one (by kernel_rfl)) ?_
 refine go_alt2 (fun KK hKK => ?_) ?_
 ·have hS61 := hS60.bring 2 rfl
  refine gs b1 0 #[vI 0, .slice none 0 0] 42 [vI 0, .slice none 0 0] hS61 fun w18 hS62 => ?_
  have hS63 : St w0 w18 [Own.blk b1 (.cells #[vI 0, .slice none 0 0] 42 (0, 0)), Own.blk b3 (.cells #[vI r1.2.Code, vI r1.2.At] 25 (0, 0)), Own.blk b2 (.cells #[vI 0, vI 0] 25 (0, 0))] := hS62
  refine ge_nil fun a hF => hKK _ _ (RS.of2 (l := [.loaded ⟨b3, 0, none⟩ (vI r1.2.Code), .loaded ⟨b3, 1, none⟩ (vI r1.2.At)]) (by kernel_rfl) ⟨hS60.c 0, hS60.c 0, trivial⟩ ⟨hS63.c 1, hS63.c 1, trivial⟩) ?_ a hF
  refine go_alt2 (fun KK hKK => ?_) ?_
  ·have hS64 := hS63.bring 2 rfl
   refine gs b2 0 #[vI 0, vI 0] 25 [vI r1.2.Code, vI r1.2.At] hS64 fun w19 hS65 => ?_
   have hS66 : St w0 w19 [Own.blk b2 (.cells #[vI r1.2.Code, vI r1.2.At] 25 (0, 0)), Own.blk b1 (.cells #[vI 0, .slice none 0 0] 42 (0, 0)), Own.blk b3 (.cells #[vI r1.2.Code, vI r1.2.At] 25 (0, 0))] := hS65
   refine ge_nil fun a hF => hKK _ _ (RS.of2 (l := []) (by kernel_rfl) trivial trivial) ?_ a hF
   have hS67 := hS66.nil (α := Int) 3
   have hS68 := hS67.bring 2 rfl
   have hS69 := hS68.bring 2 rfl
   have hS70 := hS69.takeN 3
   obtain rfl := si h
   exact go_fin2 fun a hF => hQ _ _ _ (Outs.again ⟨(.slice none 0 0), hS70, hF.weaken ea⟩)
  exact go_nomore2
 exact go_nomore2
abbrev punctualref_Worst.A3 (w0 : World) (l0 : List SIns) (A0 : Option Addr) (c0 : Nat) (b1 : Nat) (b2 : Nat) (px1 : PImage) (pb1 : Nat) (b9 : Nat) (b10 : Nat) (Z3 : Option Addr) (cz3 : Nat) : (Int × (List (Int × Int))) → Act → World → Prop := fun (s : Int × (List (Int × Int))) a w => St w0 w [Own.blk b10 (.cells #[.map (some b9)] 62 (0, 0)), Own.blk pb1 (.cells #[.slice A0 l0.length c0, (.slice Z3 px1.m_Regions.length cz3)] 70 (0, 0)), Own.blk b2 (.cells #[vI 0, vI 0] 25 (0, 0)), Own.blk b1 (.cells #[vI 0, .slice none 0 0] 42 (0, 0)), Own.of (.slice Z3 px1.m_Regions.length cz3) 74 px1.m_Regions, Own.map (κ := Int) (ν := Int) b9 s.2] ∧ Frm 60 a [(0, .slice A0 l0.length c0), (2, pP b1 0), (3, pP b2 0), (4, pP pb1 0), (6, pP b10 0), (7, vI s.1)]
abbrev punctualref_Worst.B3 (w0 : World) (l0 : List SIns) (A0 : Option Addr) (c0 : Nat) (b1 : Nat) (b2 : Nat) (b9 : Nat) (b10 : Nat) : ((List (Int × Int)) ⊕ (SBound × SFault)) → Exit → Act → World → Prop := Exits 0 (fun (s : (List (Int × Int))) a w => St w0 w [Own.blk b10 (.cells #[.map (some b9)] 62 (0, 0)), Own.blk b2 (.cells #[vI 0, vI 0] 25 (0, 0)), Own.blk b1 (.cells #[vI 0, .slice none 0 0] 42 (0, 0)), Own.map (κ := Int) (ν := Int) b9 s] ∧ Frm 60 a [(0, .slice A0 l0.length c0), (2, pP b1 0), (3, pP b2 0), (6, pP b10 0)]) (Rets Tryd.prog Tryd.f18 (punctualref_Worst.Post w0))
theorem punctualref_Worst_r3 (K : Nat) (w0 : World) (l0 : List SIns) (A0 : Option Addr) (c0 : Nat) (hR0 : RdL w0 A0 l0) (hL0 : l0.length ≤ c0) (b1 : Nat) (b2 : Nat) (r1 : (Option PImage) × SFault) (px1 : PImage) (pb1 : Nat) (b8 : Nat) (hc5 : r1.2.Code = 0) (b9 : Nat) (b10 : Nat) (Z3 : Option Addr) (cz3 : Nat) (s : Int × (List (Int × Int))) (o : (Int × (List (Int × Int))) ⊕ ((List (Int × Int)) ⊕ (SBound × SFault))) (h : punctualref_Worst.r3 K l0 px1 s = some o) (a : Act) (w : World) (hA : punctualref_Worst.A3 w0 l0 A0 c0 b1 b2 px1 pb1 b9 b10 Z3 cz3 s a w) (Q : Exit → Act → World → Prop) (hQ : ∀ x a w, Outs (punctualref_Worst.A3 w0 l0 A0 c0 b1 b2 px1 pb1 b9 b10 Z3 cz3) (punctualref_Worst.B3 w0 l0 A0 c0 b1 b2 b9 b10) o x a w → Q x a w) : (subF Tryd.f18 [1, 1, 1, 1, 0, 1, 0, 0]).wp Tryd.prog Q a w := by
 obtain ⟨z8, mp4⟩ := s
 obtain ⟨hS, hF⟩ := hA
 replace hS : St w0 w [Own.blk b10 (.cells #[.map (some b9)] 62 (0, 0)), Own.blk pb1 (.cells #[.slice A0 l0.length c0, (.slice Z3 px1.m_Regions.length cz3)] 70 (0, 0)), Own.blk b2 (.cells #[vI 0, vI 0] 25 (0, 0)), Own.blk b1 (.cells #[vI 0, .slice none 0 0] 42 (0, 0)), Own.of (.slice Z3 px1.m_Regions.length cz3) 74 px1.m_Regions, Own.map (κ := Int) (ν := Int) b9 mp4] := hS
 simp only [punctualref_Worst.r3] at h
 refine (?_ : WE Tryd.prog 60 (subF Tryd.f18 [1, 1, 1, 1, 0, 1, 0, 0]) Q [(0, .slice A0 l0.length c0), (2, pP b1 0), (3, pP b2 0), (4, pP pb1 0), (6, pP b10 0), (7, vI z8)] w) a hF
 clear hF a
 refine ws fun K26 hK26 => ?_
 refine ws fun K27 hK27 => ?_
 refine wr [(0, 0), (1, 0)] ?_
 refine gb0 [0, 1] [(25, .bool (decide (z8 ≥ 0))), (24, vI z8)] ?_
 refine gn hK27 ?_
 by_cases hc6 : z8 ≥ 0
 ·rw [if_pos hc6] at h
  refine wk 25 (decide (z8 ≥ 0)) true (decide_eq_true hc6) ?_
  refine we_true (by kernel_rfl) ?_
  refine we_skip fun a hF => hK26 _ _ ?_ a hF
  refine ws fun K28 hK28 => ?_
  refine we_block ?_
  refine ws fun K29 hK29 => ?_
  refine we_draws (by kernel_rfl) [(0, 0), (1, 0), (2, 0), (3, 0), (4, 0), (5, 1), (6, 2)] (by kernel_rfl) ?_
  have hS91 := hS.drew
  rcases hq5 : punctualref_Image_Left.f K l0 px1.m_Regions z8 mp4 with _ | r2
  ·rw [hq5] at h; cases h
  rw [hq5] at h
  simp only [] at h
  refine gb [0, 1, 2, 3, 4] [(32, .func (.func 39) #[] #[pP b10 0]), (31, vI z8), (30, pP pb1 0), (29, vI z8), (28, .map (some b9))] [.loaded ⟨b10, 0, none⟩ (.map (some b9))] ⟨hS91.c 0, trivial⟩ ?_
  refine ge_call (d := some 33) (f := 38) (args := #[pP pb1 0, vI z8, .func (.func 39) #[] #[pP b10 0]]) (by kernel_rfl) (punctualref_Image_Left_ok K pb1 l0 A0 c0 px1.m_Regions Z3 cz3 z8 b10 mp4 (some b9) _ (hS91.rd hR0) hL0 (hS91.rdAt 4 rfl) (hS91.capAt 4 rfl) (hS91.globOf 1 rfl) (hS91.rdMapAt 5 rfl) (hS91.globOf 0 rfl) _ hq5) ?_
  rintro _ w26 ⟨rfl, hS92⟩
  refine ⟨_, rfl, hS92.below, ?_⟩
  have hS93 := hS91.call hS92
  have hS94 := hS93.bring 5 rfl
  refine ge_mapSet (κ := Int) (ν := Int) (b := b9) (ins := false) (mm := 0) (t := 62) (kt := 3) (et := 3) (x := (.tmp 28)) (y := (.tmp 29)) (u := (.tmp 33)) (ty := 0) (m := mp4) (k := z8) (v := r2) (vv := vI r2) (by kernel_rfl) (by kernel_rfl) (by kernel_rfl) (by kernel_rfl) rfl (by kernel_rfl) (by kernel_rfl) hS94 fun w27 hS95 => ?_
  refine gn hK29 ?_
  refine ws fun K30 hK30 => ?_
  refine wr [(0, 0), (1, 0), (2, 0), (3, 0)] ?_
  refine gb [0, 1] [(35, vI z8), (34, .map (some b9))] [.loaded ⟨b10, 0, none⟩ (.map (some b9))] ⟨hS95.c 1, trivial⟩ ?_
  refine ge_lookup (κ := Int) (ν := Int) (d := 36) (b := b9) (q := 0) (t := 62) (kt := 3) (et := 3) (x := (.tmp 34)) (y := (.tmp 35)) (ty := 3) (m := (mset mp4 z8 r2)) (k := z8) (z := 0) (v := ((mget (mset mp4 z8 r2) z8).getD 0)) (zv := vI 0) (vv := vI ((mget (mset mp4 z8 r2) z8).getD 0)) (by kernel_rfl) (by kernel_rfl) (by kernel_rfl) (by kernel_rfl) (by kernel_rfl) (fun w' => by kernel_rfl) rfl hS95 rfl rfl rfl ?_
  refine gb0 [3] [(37, .bool (decide (((mget (mset mp4 z8 r2) z8).getD 0) > 1099511627776)))] ?_
  refine gn hK30 ?_
  by_cases hc7 : ((mget (mset mp4 z8 r2) z8).getD 0) > 1099511627776
  ·rw [if_pos hc7] at h
   refine wk 37 (decide (((mget (mset mp4 z8 r2) z8).getD 0) > 1099511627776)) true (decide_eq_true hc7) ?_
   refine we_true (by kernel_rfl) ?_
   refine ws fun K31 hK31 => ?_
   refine wr [(0, 0), (1, 0), (2, 1), (3, 2), (4, 2)] ?_
   refine gb0 [0, 1] [(39, vI z8), (38, .agg #[vI 0, .slice none 0 0])] ?_
   refine ge_call (d := some 40) (f := 9) (args := #[vI 3, vI z8]) (by kernel_rfl) (punctualref_F_ok 3 z8 _ _ rfl) ?_
   rintro _ w28 ⟨rfl, hS96⟩
   refine ⟨_, rfl, hS96.below, ?_⟩
   have hS97 := hS95.call hS96
   have hS98 := hS97.bring 4 rfl
   refine gs b1 0 #[vI 0, .slice none 0 0] 42 [vI 0, .slice none 0 0] hS98 fun w29 hS99 => ?_
   have hS100 : St w0 w29 [Own.blk b1 (.cells #[vI 0, .slice none 0 0] 42 (0, 0)), Own.map (κ := Int) (ν := Int) b9 (mset mp4 z8 r2), Own.blk b10 (.cells #[.map (some b9)] 62 (0, 0)), Own.blk pb1 (.cells #[.slice A0 l0.length c0, (.slice Z3 px1.m_Regions.length cz3)] 70 (0, 0)), Own.blk b2 (.cells #[vI 0, vI 0] 25 (0, 0)), Own.of (.slice Z3 px1.m_Regions.length cz3) 74 px1.m_Regions] := hS99
   have hS101 := hS100.bring 4 rfl
   refine gs b2 0 #[vI 0, vI 0] 25 [vI ((punctualref_F.f 3 z8).Code), vI ((punctualref_F.f 3 z8).At)] hS101 fun w30 hS102 => ?_
   have hS103 : St w0 w30 [Own.blk b2 (.cells #[vI ((punctualref_F.f 3 z8).Code), vI ((punctualref_F.f 3 z8).At)] 25 (0, 0)), Own.blk b1 (.cells #[vI 0, .slice none 0 0] 42 (0, 0)), Own.map (κ := Int) (ν := Int) b9 (mset mp4 z8 r2), Own.blk b10 (.cells #[.map (some b9)] 62 (0, 0)), Own.blk pb1 (.cells #[.slice A0 l0.length c0, (.slice Z3 px1.m_Regions.length cz3)] 70 (0, 0)), Own.of (.slice Z3 px1.m_Regions.length cz3) 74 px1.m_Regions] := hS102
   refine gn hK31 ?_
   have hS104 := hS103.nil (α := Int) 3
   have hS105 := hS104.takeN 1
   obtain rfl := si h
   exact we_ret fun a hF => hQ _ _ _ (Outs.out nofun (Exits.on ⟨rfl, (pr [.cell 2 42, .cell 3 25] [.agg #[vI 0, (.slice none 0 0)], .agg #[vI ((punctualref_F.f 3 z8).Code), vI ((punctualref_F.f 3 z8).At)]] [.loaded ⟨b1, 0, none⟩ (vI 0), .loaded ⟨b1, 1, none⟩ ((.slice none 0 0)), .loaded ⟨b2, 0, none⟩ (vI ((punctualref_F.f 3 z8).Code)), .loaded ⟨b2, 1, none⟩ (vI ((punctualref_F.f 3 z8).At))] ⟨hS104.c 2, hS104.c 2, hS104.c 1, hS104.c 1, trivial⟩ ⟨(.slice none 0 0), rfl, hS105⟩) a hF⟩))
  ·rw [if_neg hc7] at h
   refine wk 37 (decide (((mget (mset mp4 z8 r2) z8).getD 0) > 1099511627776)) false (decide_eq_false hc7) ?_
   refine we_false (by kernel_rfl) ?_
   refine we_skip fun a hF => hK28 _ _ ?_ a hF
   refine wr [(0, 0), (1, 0), (2, 0)] ?_
   refine gb0 [0, 1, 2] [(7, vI (IntKind.i64.wrap (z8 - 1))), (27, vI (IntKind.i64.wrap (z8 - 1))), (26, vI z8)] ?_
   have hS106 := hS95.bring 5 rfl
   have hS107 := hS106.bring 5 rfl
   have hS108 := hS107.bring 5 rfl
   have hS109 := hS108.bring 5 rfl
   have hS110 := hS109.bring 5 rfl
   obtain rfl := si h
   exact ge_nil fun a hF => hQ _ _ _ (Outs.again ⟨hS110, hF.weaken ea⟩)
 ·rw [if_neg hc6] at h
  refine wk 25 (decide (z8 ≥ 0)) false (decide_eq_false hc6) ?_
  refine we_false (by kernel_rfl) ?_
  have hS111 := hS.bring 5 rfl
  have hS112 := hS111.bring 4 rfl
  have hS113 := hS112.bring 4 rfl
  have hS114 := hS113.bring 3 rfl
  have hS115 := hS114.takeN 4
  obtain rfl := si h
  exact we_exit fun a hF => hQ _ _ _ (Outs.out nofun (Exits.here ⟨hS115, hF.weaken ea⟩))
abbrev punctualref_Worst.A4 (w0 : World) (l0 : List SIns) (b1 : Nat) (b2 : Nat) (b9 : Nat) (b10 : Nat) (mp6 : List (Int × Int)) (b11 : Nat) : (Nat × (List Int)) → Act → World → Prop := fun (s : Nat × (List Int)) a w => ∃ (v7 : Value), St w0 w [Own.blk b11 (.cells #[vI ((mget mp6 0).getD 0), v7] 42 (0, 0)), Own.blk b10 (.cells #[.map (some b9)] 62 (0, 0)), Own.blk b2 (.cells #[vI 0, vI 0] 25 (0, 0)), Own.blk b1 (.cells #[vI 0, .slice none 0 0] 42 (0, 0)), Own.of v7 3 s.2, Own.map (κ := Int) (ν := Int) b9 mp6] ∧ Frm 60 a [(2, pP b1 0), (3, pP b2 0), (6, pP b10 0), (8, pP b11 0), (45, vI (l0.length : Int)), (46, vI (s.1 : Int))]
abbrev punctualref_Worst.B4 (w0 : World) (b1 : Nat) (b2 : Nat) (mp6 : List (Int × Int)) (b11 : Nat) : ((List Int) ⊕ (SBound × SFault)) → Exit → Act → World → Prop := Exits 2 (fun (s : (List Int)) a w => ∃ (v8 : Value), St w0 w [Own.blk b11 (.cells #[vI ((mget mp6 0).getD 0), v8] 42 (0, 0)), Own.blk b2 (.cells #[vI 0, vI 0] 25 (0, 0)), Own.blk b1 (.cells #[vI 0, .slice none 0 0] 42 (0, 0)), Own.of v8 3 s] ∧ Frm 60 a [(2, pP b1 0), (3, pP b2 0), (8, pP b11 0)]) (Rets Tryd.prog Tryd.f18 (punctualref_Worst.Post w0))
theorem punctualref_Worst_r4 (K : Nat) (w0 : World) (l0 : List SIns) (A0 : Option Addr) (c0 : Nat) (hR0 : RdL w0 A0 l0) (hL0 : l0.length ≤ c0) (b1 : Nat) (b2 : Nat) (r1 : (Option PImage) × SFault) (px1 : PImage) (pb1 : Nat) (b8 : Nat) (hc5 : r1.2.Code = 0) (b9 : Nat) (b10 : Nat) (Z3 : Option Addr) (cz3 : Nat) (mp6 : List (Int × Int)) (b11 : Nat) (s : Nat × (List Int)) (o : (Nat × (List Int)) ⊕ ((List Int) ⊕ (SBound × SFault))) (h : punctualref_Worst.r4 l0 mp6 s = some o) (a : Act) (w : World) (hA : punctualref_Worst.A4 w0 l0 b1 b2 b9 b10 mp6 b11 s a w) (Q : Exit → Act → World → Prop) (hQ : ∀ x a w, Outs (punctualref_Worst.A4 w0 l0 b1 b2 b9 b10 mp6 b11) (punctualref_Worst.B4 w0 b1 b2 mp6 b11) o x a w → Q x a w) : (subF Tryd.f18 [1, 1, 1, 1, 1, 1, 0, 1, 0, 0]).wp Tryd.prog Q a w := by
 obtain ⟨i2, m6⟩ := s
 obtain ⟨v7, hS, hF⟩ := hA
 replace hS : St w0 w [Own.blk b11 (.cells #[vI ((mget mp6 0).getD 0), v7] 42 (0, 0)), Own.blk b10 (.cells #[.map (some b9)] 62 (0, 0)), Own.blk b2 (.cells #[vI 0, vI 0] 25 (0, 0)), Own.blk b1 (.cells #[vI 0, .slice none 0 0] 42 (0, 0)), Own.of v7 3 m6, Own.map (κ := Int) (ν := Int) b9 mp6] := hS
 simp only [punctualref_Worst.r4] at h
 refine (?_ : WE Tryd.prog 60 (subF Tryd.f18 [1, 1, 1, 1, 1, 1, 0, 1, 0, 0]) Q [(2, pP b1 0), (3, pP b2 0), (6, pP b10 0), (8, pP b11 0), (45, vI (l0.length : Int)), (46, vI (i2 : Int))] w) a hF
 clear hF a
 refine ws fun K35 hK35 => ?_
 refine wr [(0, 0)] ?_
 refine gb0 [0] [(47, .bool (decide ((i2 : Int) < (l0.length : Int))))] ?_
 refine gn hK35 ?_
 refine ws fun K36 hK36 => ?_
 by_cases hc8 : (i2 : Int) < (l0.length : Int)
 ·rw [if_pos hc8] at h
  refine wk 47 (decide ((i2 : Int) < (l0.length : Int))) true (decide_eq_true hc8) ?_
  refine we_true (by kernel_rfl) ?_
  refine we_skip fun a hF => hK36 _ _ ?_ a hF
  refine ws fun K37 hK37 => ?_
  refine we_block ?_
  refine ws fun K38 hK38 => ?_
  refine wr [(0, 0), (1, 0)] ?_
  refine gb0 [0, 1] [(9, vI (i2 : Int)), (48, vI (i2 : Int))] ?_
  refine gn hK38 ?_
  refine wr [(0, 0), (1, 0), (2, 0), (3, 0), (4, 0), (5, 1), (6, 2), (7, 0), (8, 2)] ?_
  refine gb [0, 1, 2, 3] [(52, vI (i2 : Int)), (51, .map (some b9)), (50, v7), (49, pP b11 1)] [.loaded ⟨b11, 1, none⟩ (v7), .loaded ⟨b10, 0, none⟩ (.map (some b9))] ⟨hS.c 0, hS.c 1, trivial⟩ ?_
  refine ge_lookup (κ := Int) (ν := Int) (d := 53) (b := b9) (q := 5) (t := 62) (kt := 3) (et := 3) (x := (.tmp 51)) (y := (.tmp 52)) (ty := 3) (m := mp6) (k := (i2 : Int)) (z := 0) (v := ((mget mp6 (i2 : Int)).getD 0)) (zv := vI 0) (vv := vI ((mget mp6 (i2 : Int)).getD 0)) (by kernel_rfl) (by kernel_rfl) (by kernel_rfl) (by kernel_rfl) (by kernel_rfl) (fun w' => by kernel_rfl) rfl hS rfl rfl rfl ?_
  refine gw (some 54) (.cells #[vI ((mget mp6 (i2 : Int)).getD 0)] 3) (fun b => .slice (some ⟨b, 0, none⟩) 1 1) hS fun b12 w34 hx12 hS127 => ?_
  have hS128 := hS127.bring 5 rfl
  by_cases hc9 : m6.length < 17592186044416
  ·rw [if_pos hc9] at h
   refine ge_append (α := Int) (m := 0) (d := 55) (t := 37) (el := 3) (bytes := 8) (c1 := 1) (b1 := b12) (x := (.tmp 50)) (y := (.tmp 54)) (ty := 37) (v := v7) (z := vI 0) (l := m6) (u := ((mget mp6 (i2 : Int)).getD 0)) (by kernel_rfl) (by kernel_rfl) (by kernel_rfl) (by kernel_rfl) (by kernel_rfl) rfl hS128 rfl (by omega) fun v9 w35 hS129 => ?_
   refine gb0 [7] [(56, pP b11 1)] ?_
   obtain ⟨Z4, cz4, rfl⟩ := hS129.open 0 rfl
   have hS130 := hS129.bring 1 rfl
   refine gs b11 1 #[vI ((mget mp6 0).getD 0), v7] 42 [(.slice Z4 (m6 ++ [((mget mp6 (i2 : Int)).getD 0)]).length cz4)] hS130 fun w36 hS131 => ?_
   have hS132 : St w0 w36 [Own.blk b11 (.cells #[vI ((mget mp6 0).getD 0), (.slice Z4 (m6 ++ [((mget mp6 (i2 : Int)).getD 0)]).length cz4)] 42 (0, 0)), Own.of (.slice Z4 (m6 ++ [((mget mp6 (i2 : Int)).getD 0)]).length cz4) 3 (m6 ++ [((mget mp6 (i2 : Int)).getD 0)]), Own.blk b10 (.cells #[.map (some b9)] 62 (0, 0)), Own.blk b2 (.cells #[vI 0, vI 0] 25 (0, 0)), Own.blk b1 (.cells #[vI 0, .slice none 0 0] 42 (0, 0)), Own.map (κ := Int) (ν := Int) b9 mp6] := hS131
   refine gn hK37 ?_
   refine wr [(0, 0), (1, 0)] ?_
   refine ge_addn (d := 57) (ty := 3) (x := (.tmp 46)) (y := (.const (vI 1))) (t := 3) (t2 := 3) (k := .i64) (m := i2) (by kernel_rfl) (by kernel_rfl) (by kernel_rfl) (by have h0 := hR0.small; omega) ?_
   refine gb0 [1] [(46, vI ((i2 + 1 : Nat) : Int))] ?_
   have hS133 := hS132.bring 5 rfl
   have hS134 := hS133.bring 2 rfl
   have hS135 := hS134.bring 5 rfl
   have hS136 := hS135.bring 5 rfl
   have hS137 := hS136.bring 5 rfl
   have hS138 := hS137.bring 5 rfl
   obtain rfl := si h
   exact ge_nil fun a hF => hQ _ _ _ (Outs.again ⟨(.slice Z4 (m6 ++ [((mget mp6 (i2 : Int)).getD 0)]).length cz4), hS138, hF.weaken ea⟩)
  ·rw [if_neg hc9] at h
   cases h
 ·rw [if_neg hc8] at h
  refine wk 47 (decide ((i2 : Int) < (l0.length : Int))) false (decide_eq_false hc8) ?_
  refine we_false (by kernel_rfl) ?_
  have hS139 := hS.bring 4 rfl
  have hS140 := hS139.bring 4 rfl
  have hS141 := hS140.bring 4 rfl
  have hS142 := hS141.bring 3 rfl
  have hS143 := hS142.takeN 4
  obtain rfl := si h
  exact we_exit fun a hF => hQ _ _ _ (Outs.out nofun (Exits.here ⟨v7, hS143, hF.weaken ea⟩))
abbrev punctualref_Worst.A5 (w0 : World) (b1 : Nat) (b2 : Nat) : (Int × Int × Int × (List Int)) → Act → World → Prop := fun (s : Int × Int × Int × (List Int)) a w => ∃ (v11 : Value), St w0 w [Own.blk b2 (.cells #[vI s.1, vI s.2.1] 25 (0, 0)), Own.blk b1 (.cells #[vI s.2.2.1, v11] 42 (0, 0)), Own.of v11 3 s.2.2.2] ∧ Frm 60 a [(2, pP b1 0), (3, pP b2 0)]
abbrev punctualref_Worst.B5 (w0 : World) : (SBound × SFault) → Exit → Act → World → Prop := Rets Tryd.prog Tryd.f18 (punctualref_Worst.Post w0)
theorem punctualref_Worst_p5 (K : Nat) (w0 : World) (l0 : List SIns) (A0 : Option Addr) (c0 : Nat) (hR0 : RdL w0 A0 l0) (hL0 : l0.length ≤ c0) (b1 : Nat) (b2 : Nat) (r1 : (Option PImage) × SFault) (px1 : PImage) (pb1 : Nat) (b8 : Nat) (hc5 : ¬ (r1.2.Code = 0)) (Z6 : Option Addr) (cz6 : Nat) (o : (Int × Int × Int × (List Int)) ⊕ (SBound × SFault)) (h : punctualref_Worst.p5 r1 = some o) (w : World) (hS : St w0 w [Own.blk b8 (.cells #[vI r1.2.Code, vI r1.2.At] 25 (0, 0)), Own.blk pb1 (.cells #[.slice A0 l0.length c0, (.slice Z6 px1.m_Regions.length cz6)] 70 (0, 0)), Own.of (.slice Z6 px1.m_Regions.length cz6) 74 px1.m_Regions, Own.blk b2 (.cells #[vI 0, vI 0] 25 (0, 0)), Own.blk b1 (.cells #[vI 0, .slice none 0 0] 42 (0, 0))]) (Q : Exit → Act → World → Prop) (hQ : ∀ x a w, Outs (punctualref_Worst.A5 w0 b1 b2) (punctualref_Worst.B5 w0) o x a w → Q x a w) : WE Tryd.prog 60 (subF Tryd.f18 [1, 1, 0, 1, 0, 0]) Q [(0, .slice A0 l0.length c0), (2, pP b1 0), (3, pP b2 0), (4, pP pb1 0), (5, pP b8 0), (10, .tuple #[pP pb1 0, .agg #[vI r1.2.Code, vI r1.2.At]]), (11, .slice A0 l0.length c0), (12, .tuple #[pP pb1 0, .agg #[vI r1.2.Code, vI r1.2.At]]), (13, pP pb1 0), (14, .agg #[vI r1.2.Code, vI r1.2.At]), (15, pP b8 0), (16, vI r1.2.Code), (17, .bool true)] w := by
 simp only [punctualref_Worst.p5] at h
 refine we_orders2 (by kernel_rfl) [(1, [⟨b8, 0, none⟩, ⟨b8, 1, none⟩])] (.vals [0] (.vals [1] (.alt 2 2 (.alt 3 2 .fin .nomore) .nomore))) (by kernel_rfl) ?_
 have hS153 := hS.drew
 refine go2_batch [0] (ans := []) (vs := [(18, .agg #[vI 0, .slice none 0 0])]) (l := []) (by kernel_rfl) trivial mem_nil ?_
 refine go2_batch [1] (ans := [.val (vI r1.2.Code), .val (vI r1.2.At)]) (vs := [(19, .agg #[vI r1.2.Code, vI r1.2.At])]) (l := [.loaded ⟨b8, 0, none⟩ (vI r1.2.Code), .loaded ⟨b8, 1, none⟩ (vI r1.2.At)]) (by kernel_rfl) ⟨hS153.c 0, hS153.c 0, trivial⟩ (mem_one (by kernel_rfl)) ?_
 refine go_alt2 (fun KK hKK => ?_) ?_
 ·have hS154 := hS153.bring 4 rfl
  refine gs b1 0 #[vI 0, .slice none 0 0] 42 [vI 0, .slice none 0 0] hS154 fun w40 hS155 => ?_
  have hS156 : St w0 w40 [Own.blk b1 (.cells #[vI 0, .slice none 0 0] 42 (0, 0)), Own.blk b8 (.cells #[vI r1.2.Code, vI r1.2.At] 25 (0, 0)), Own.blk pb1 (.cells #[.slice A0 l0.length c0, (.slice Z6 px1.m_Regions.length cz6)] 70 (0, 0)), Own.of (.slice Z6 px1.m_Regions.length cz6) 74 px1.m_Regions, Own.blk b2 (.cells #[vI 0, vI 0] 25 (0, 0))] := hS155
  refine ge_nil fun a hF => hKK _ _ (RS.of2 (l := [.loaded ⟨b8, 0, none⟩ (vI r1.2.Code), .loaded ⟨b8, 1, none⟩ (vI r1.2.At)]) (by kernel_rfl) ⟨hS153.c 0, hS153.c 0, trivial⟩ ⟨hS156.c 1, hS156.c 1, trivial⟩) ?_ a hF
  refine go_alt2 (fun KK hKK => ?_) ?_
  ·have hS157 := hS156.bring 4 rfl
   refine gs b2 0 #[vI 0, vI 0] 25 [vI r1.2.Code, vI r1.2.At] hS157 fun w41 hS158 => ?_
   have hS159 : St w0 w41 [Own.blk b2 (.cells #[vI r1.2.Code, vI r1.2.At] 25 (0, 0)), Own.blk b1 (.cells #[vI 0, .slice none 0 0] 42 (0, 0)), Own.blk b8 (.cells #[vI r1.2.Code, vI r1.2.At] 25 (0, 0)), Own.blk pb1 (.cells #[.slice A0 l0.length c0, (.slice Z6 px1.m_Regions.length cz6)] 70 (0, 0)), Own.of (.slice Z6 px1.m_Regions.length cz6) 74 px1.m_Regions] := hS158
   refine ge_nil fun a hF => hKK _ _ (RS.of2 (l := []) (by kernel_rfl) trivial trivial) ?_ a hF
   have hS160 := hS159.nil (α := Int) 3
   have hS161 := hS160.bring 2 rfl
   have hS162 := hS161.bring 2 rfl
   have hS163 := hS162.takeN 3
   obtain rfl := si h
   exact go_fin2 fun a hF => hQ _ _ _ (Outs.again ⟨(.slice none 0 0), hS163, hF.weaken ea⟩)
  exact go_nomore2
 exact go_nomore2
theorem punctualref_Worst_ok (K : Nat) (l0 : List SIns) (A0 : Option Addr) (c0 : Nat) (w0 : World) (hR0 : RdL w0 A0 l0) (hL0 : l0.length ≤ c0) (r : SBound × SFault) (h : punctualref_Worst.f K l0 = some r) :
  Calls Tryd.prog 18 #[.slice A0 l0.length c0] w0 (punctualref_Worst.Post w0 r) := by
 have hS := St.start w0
 unfold punctualref_Worst.f at h
 refine calls_enter (n := 60) (args := [.slice A0 l0.length c0]) (fn := Tryd.f18) rfl rfl rfl rfl ?_
 show WE _ _ _ _ [(0, .slice A0 l0.length c0)] _
 refine ws fun K1 hK1 => ?_
 refine wr [(0, 1), (1, 1)] ?_
 refine gw (some 2) (.cells #[vI 0, .slice none 0 0] 42) (fun b => pP b 0) hS fun b1 w1 hx1 hS1 => ?_
 refine gw (some 3) (.cells #[vI 0, vI 0] 25) (fun b => pP b 0) hS1 fun b2 w2 hx2 hS2 => ?_
 refine gn hK1 ?_
 refine ws fun K2 hK2 => ?_
 refine wr [(0, 0), (1, 1), (2, 0), (3, 0), (4, 0), (5, 1), (6, 0), (7, 2)] ?_
 rcases hq1 : punctualref_ReadImage.f K l0 with _ | r1
 ·rw [hq1] at h; cases h
 rw [hq1] at h
 simp only [] at h
 refine gb0 [0] [(11, .slice A0 l0.length c0)] ?_
 refine ge_call (d := some 12) (f := 11) (args := #[.slice A0 l0.length c0]) (by kernel_rfl) (punctualref_ReadImage_ok K l0 A0 c0 _ (hS2.rd hR0) hL0 _ hq1) ?_
 rintro _ w3 hP1
 unfold punctualref_ReadImage.Post at hP1
 rcases hro1 : r1.1 with _ | px1
 ·rw [hro1] at hP1 h
  simp only [] at hP1 h
  obtain ⟨rfl, hS3⟩ := hP1
  refine ⟨_, rfl, hS3.below, ?_⟩
  have hS4 := hS2.call hS3
  refine gb0 [2, 3, 4] [(14, .agg #[vI r1.2.Code, vI r1.2.At]), (13, .pointer none), (10, .tuple #[.pointer none, .agg #[vI r1.2.Code, vI r1.2.At]])] ?_
  refine gw (some 5) (.cells #[vI 0, vI 0] 25) (fun b => pP b 0) hS4 fun b3 w4 hx3 hS5 => ?_
  refine gb0 [6] [(4, .pointer none)] ?_
  refine gs b3 0 #[vI 0, vI 0] 25 [vI r1.2.Code, vI r1.2.At] hS5 fun w5 hS6 => ?_
  have hS7 : St w0 w5 [Own.blk b3 (.cells #[vI r1.2.Code, vI r1.2.At] 25 (0, 0)), Own.blk b2 (.cells #[vI 0, vI 0] 25 (0, 0)), Own.blk b1 (.cells #[vI 0, .slice none 0 0] 42 (0, 0))] := hS6
  refine gn hK2 ?_
  refine ws fun K3 hK3 => ?_
  refine ws fun K4 hK4 => ?_
  refine wr [(0, 0), (1, 0), (2, 0)] ?_
  refine gb [0, 1, 2] [(17, .bool (r1.2.Code != 0)), (16, vI r1.2.Code), (15, pP b3 0)] [.loaded ⟨b3, 0, none⟩ (vI r1.2.Code)] ⟨hS7.c 0, trivial⟩ ?_
  refine gn hK4 ?_
  by_cases hc1 : r1.2.Code = 0
  ·rw [if_pos hc1] at h
   refine wk 17 (r1.2.Code != 0) false (bne_eq_false_iff_eq.2 hc1) ?_
   refine we_false (by kernel_rfl) ?_
   refine we_skip fun a hF => hK3 _ _ ?_ a hF
   refine ws fun K5 hK5 => ?_
   refine wr [(0, 1), (1, 1), (2, 2)] ?_
   refine gw (some 20) (.map #[] 0) (fun b => .map (some b)) hS7 fun b4 w6 hx4 hS8 => ?_
   have hS9 := hS8.newMap (κ := Int) (ν := Int)
   refine gw (some 6) (.cells #[.map none] 62) (fun b => pP b 0) hS9 fun b5 w7 hx5 hS10 => ?_
   refine gs b5 0 #[.map none] 62 [.map (some b4)] hS10 fun w8 hS11 => ?_
   have hS12 : St w0 w8 [Own.blk b5 (.cells #[.map (some b4)] 62 (0, 0)), Own.map (κ := Int) (ν := Int) b4 ([] : List (Int × Int)), Own.blk b3 (.cells #[vI r1.2.Code, vI r1.2.At] 25 (0, 0)), Own.blk b2 (.cells #[vI 0, vI 0] 25 (0, 0)), Own.blk b1 (.cells #[vI 0, .slice none 0 0] 42 (0, 0))] := hS11
   refine gn hK5 ?_
   refine ws fun K6 hK6 => ?_
   refine ws fun K7 hK7 => ?_
   refine wr [(0, 0), (1, 0), (2, 0), (3, 0)] ?_
   refine gb0 [0, 1, 2, 3] [(7, vI (IntKind.i64.wrap ((l0.length : Int) - 1))), (23, vI (IntKind.i64.wrap ((l0.length : Int) - 1))), (22, vI (l0.length : Int)), (21, .slice A0 l0.length c0)] ?_
   refine gn hK7 ?_
   refine we_block ?_
   have hS13 := hS12.bring 1 rfl
   have hS14 := hS13.bring 4 rfl
   have hS15 := hS14.bring 4 rfl
   have hS16 := hS15.bring 3 rfl
   have hS17 := hS16.takeN 4
   rcases hq2 : iter (punctualref_Worst.r0) K (IntKind.i64.wrap ((l0.length : Int) - 1), ([] : List (Int × Int))) with _ | (mp3 | rr2)
   ·rw [hq2] at h; cases h
   ·rw [hq2] at h
    simp only [] at h
    refine we_iter (A := punctualref_Worst.A0 w0 l0 A0 c0 b1 b2 b4 b5) (B := punctualref_Worst.B0 w0 l0 A0 c0 b1 b2 b4 b5) hq2 (fun a hF => ⟨hS17, hF.weaken ea⟩) (fun s o hf a w hA Q hQ => punctualref_Worst_r0 K w0 l0 A0 c0 hR0 hL0 b1 b2 r1 b3 hc1 b4 b5 s o hf a w hA Q hQ) ?_
    rintro _ a w9 _ ⟨rfl, hS23, hF⟩
    replace hS23 : St w0 w9 [Own.blk b5 (.cells #[.map (some b4)] 62 (0, 0)), Own.blk b2 (.cells #[vI 0, vI 0] 25 (0, 0)), Own.blk b1 (.cells #[vI 0, .slice none 0 0] 42 (0, 0)), Own.map (κ := Int) (ν := Int) b4 mp3] := hS23
    refine hK6 [(0, .slice A0 l0.length c0), (2, pP b1 0), (3, pP b2 0), (6, pP b5 0)] w9 ?_ a hF
    refine ws fun K12 hK12 => ?_
    refine wr [(0, 0), (1, 0), (2, 0), (3, 1), (4, 2)] ?_
    refine gb [0] [(41, .map (some b4))] [.loaded ⟨b5, 0, none⟩ (.map (some b4))] ⟨hS23.c 0, trivial⟩ ?_
    refine ge_lookup (κ := Int) (ν := Int) (d := 42) (b := b4) (q := 3) (t := 62) (kt := 3) (et := 3) (x := (.tmp 41)) (y := (.const (vI 0))) (ty := 3) (m := mp3) (k := 0) (z := 0) (v := ((mget mp3 0).getD 0)) (zv := vI 0) (vv := vI ((mget mp3 0).getD 0)) (by kernel_rfl) (by kernel_rfl) (by kernel_rfl) (by kernel_rfl) (by kernel_rfl) (fun w' => by kernel_rfl) rfl hS23 rfl rfl rfl ?_
    refine gb0 [2] [(43, .agg #[vI ((mget mp3 0).getD 0), .slice none 0 0])] ?_
    refine gw (some 8) (.cells #[vI 0, .slice none 0 0] 42) (fun b => pP b 0) hS23 fun b6 w10 hx6 hS24 => ?_
    refine gs b6 0 #[vI 0, .slice none 0 0] 42 [vI ((mget mp3 0).getD 0), .slice none 0 0] hS24 fun w11 hS25 => ?_
    have hS26 : St w0 w11 [Own.blk b6 (.cells #[vI ((mget mp3 0).getD 0), .slice none 0 0] 42 (0, 0)), Own.blk b5 (.cells #[.map (some b4)] 62 (0, 0)), Own.blk b2 (.cells #[vI 0, vI 0] 25 (0, 0)), Own.blk b1 (.cells #[vI 0, .slice none 0 0] 42 (0, 0)), Own.map (κ := Int) (ν := Int) b4 mp3] := hS25
    refine gn hK12 ?_
    refine ws fun K13 hK13 => ?_
    refine ws fun K14 hK14 => ?_
    refine wr [(0, 0), (1, 0), (2, 0)] ?_
    refine gb0 [0, 1, 2] [(46, vI 0), (45, vI (l0.length : Int)), (44, .slice A0 l0.length c0)] ?_
    refine gn hK14 ?_
    refine we_block ?_
    have hS27 := hS26.nil (α := Int) 3
    have hS28 := hS27.bring 5 rfl
    have hS29 := hS28.bring 1 rfl
    have hS30 := hS29.bring 5 rfl
    have hS31 := hS30.bring 5 rfl
    have hS32 := hS31.bring 5 rfl
    have hS33 := hS32.bring 5 rfl
    rcases hq3 : iter (punctualref_Worst.r1 l0 mp3) K (0, ([] : List Int)) with _ | (m3 | rr1)
    ·rw [hq3] at h; cases h
    ·rw [hq3] at h
     simp only [] at h
     refine we_iter (A := punctualref_Worst.A1 w0 l0 b1 b2 b4 b5 mp3 b6) (B := punctualref_Worst.B1 w0 b1 b2 mp3 b6) hq3 (fun a hF => ⟨(.slice none 0 0), hS33, hF.weaken ea⟩) (fun s o hf a w hA Q hQ => punctualref_Worst_r1 K w0 l0 A0 c0 hR0 hL0 b1 b2 r1 b3 hc1 b4 b5 mp3 b6 s o hf a w hA Q hQ) ?_
     rintro _ a w15 _ ⟨rfl, v4, hS51, hF⟩
     replace hS51 : St w0 w15 [Own.blk b6 (.cells #[vI ((mget mp3 0).getD 0), v4] 42 (0, 0)), Own.blk b2 (.cells #[vI 0, vI 0] 25 (0, 0)), Own.blk b1 (.cells #[vI 0, .slice none 0 0] 42 (0, 0)), Own.of v4 3 m3] := hS51
     refine hK13 [(2, pP b1 0), (3, pP b2 0), (8, pP b6 0)] w15 ?_ a hF
     refine ws fun K19 hK19 => ?_
     refine wr [(0, 0), (1, 0), (2, 2), (3, 2)] ?_
     refine gb [0, 1] [(59, .agg #[vI 0, vI 0]), (58, .agg #[vI ((mget mp3 0).getD 0), v4])] [.loaded ⟨b6, 0, none⟩ (vI ((mget mp3 0).getD 0)), .loaded ⟨b6, 1, none⟩ (v4)] ⟨hS51.c 0, hS51.c 0, trivial⟩ ?_
     obtain ⟨Z2, cz2, rfl⟩ := hS51.open 3 rfl
     have hS52 := hS51.bring 2 rfl
     refine gs b1 0 #[vI 0, .slice none 0 0] 42 [vI ((mget mp3 0).getD 0), (.slice Z2 m3.length cz2)] hS52 fun w16 hS53 => ?_
     have hS54 : St w0 w16 [Own.blk b1 (.cells #[vI ((mget mp3 0).getD 0), (.slice Z2 m3.length cz2)] 42 (0, 0)), Own.blk b6 (.cells #[vI ((mget mp3 0).getD 0), (.slice Z2 m3.length cz2)] 42 (0, 0)), Own.blk b2 (.cells #[vI 0, vI 0] 25 (0, 0)), Own.of (.slice Z2 m3.length cz2) 3 m3] := hS53
     have hS55 := hS54.bring 2 rfl
     refine gs b2 0 #[vI 0, vI 0] 25 [vI 0, vI 0] hS55 fun w17 hS56 => ?_
     have hS57 : St w0 w17 [Own.blk b2 (.cells #[vI 0, vI 0] 25 (0, 0)), Own.blk b1 (.cells #[vI ((mget mp3 0).getD 0), (.slice Z2 m3.length cz2)] 42 (0, 0)), Own.blk b6 (.cells #[vI ((mget mp3 0).getD 0), (.slice Z2 m3.length cz2)] 42 (0, 0)), Own.of (.slice Z2 m3.length cz2) 3 m3] := hS56
     refine gn hK19 ?_
     have hS58 := hS57.bring 3 rfl
     have hS59 := hS58.takeN 1
     obtain rfl := si h
     exact we_ret (pr [.cell 2 42, .cell 3 25] [.agg #[vI ((mget mp3 0).getD 0), (.slice Z2 m3.length cz2)], .agg #[vI 0, vI 0]] [.loaded ⟨b1, 0, none⟩ (vI ((mget mp3 0).getD 0)), .loaded ⟨b1, 1, none⟩ ((.slice Z2 m3.length cz2)), .loaded ⟨b2, 0, none⟩ (vI 0), .loaded ⟨b2, 1, none⟩ (vI 0)] ⟨hS57.c 1, hS57.c 1, hS57.c 0, hS57.c 0, trivial⟩ ⟨(.slice Z2 m3.length cz2), rfl, hS59⟩)
    ·rw [hq3] at h
     simp only [] at h
     refine we_iter (A := punctualref_Worst.A1 w0 l0 b1 b2 b4 b5 mp3 b6) (B := punctualref_Worst.B1 w0 b1 b2 mp3 b6) hq3 (fun a hF => ⟨(.slice none 0 0), hS33, hF.weaken ea⟩) (fun s o hf a w hA Q hQ => punctualref_Worst_r1 K w0 l0 A0 c0 hR0 hL0 b1 b2 r1 b3 hc1 b4 b5 mp3 b6 s o hf a w hA Q hQ) ?_
     rintro _ a w1 _ ⟨rfl, hb⟩
     obtain rfl := si h
     exact hb
   ·rw [hq2] at h
    simp only [] at h
    refine we_iter (A := punctualref_Worst.A0 w0 l0 A0 c0 b1 b2 b4 b5) (B := punctualref_Worst.B0 w0 l0 A0 c0 b1 b2 b4 b5) hq2 (fun a hF => ⟨hS17, hF.weaken ea⟩) (fun s o hf a w hA Q hQ => punctualref_Worst_r0 K w0 l0 A0 c0 hR0 hL0 b1 b2 r1 b3 hc1 b4 b5 s o hf a w hA Q hQ) ?_
    rintro _ a w1 _ ⟨rfl, hb⟩
    obtain rfl := si h
    exact hb
  ·rw [if_neg hc1] at h
   refine wk 17 (r1.2.Code != 0) true (bne_iff_ne.2 hc1) ?_
   refine we_true (by kernel_rfl) ?_
   refine ws fun K20 hK20 => ?_
   rcases hq4 : punctualref_Worst.p2 r1 with _ | (⟨z5, z6, z7, m5⟩ | rr3)
   ·rw [hq4] at h; cases h
   ·rw [hq4] at h
    simp only [] at h
    refine we_keep (e' := [(0, .slice A0 l0.length c0), (2, pP b1 0), (3, pP b2 0), (4, .pointer none), (5, pP b3 0), (10, .tuple #[.pointer none, .agg #[vI r1.2.Code, vI r1.2.At]]), (11, .slice A0 l0.length c0), (12, .tuple #[.pointer none, .agg #[vI r1.2.Code, vI r1.2.At]]), (13, .pointer none), (14, .agg #[vI r1.2.Code, vI r1.2.At]), (15, pP b3 0), (16, vI r1.2.Code), (17, .bool true)]) ea (punctualref_Worst_p2 K w0 l0 A0 c0 hR0 hL0 b1 b2 r1 b3 hc1 _ hq4 _ hS7 _ ?_)
    rintro _ a w20 ⟨rfl, v6, hS71, hF⟩
    replace hS71 : St w0 w20 [Own.blk b2 (.cells #[vI z5, vI z6] 25 (0, 0)), Own.blk b1 (.cells #[vI z7, v6] 42 (0, 0)), Own.of v6 3 m5] := hS71
    refine hK20 [(2, pP b1 0), (3, pP b2 0)] w20 ?_ a hF
    have hS72 := hS71.bring 2 rfl
    have hS73 := hS72.takeN 1
    obtain rfl := si h
    exact we_ret (pr [.cell 2 42, .cell 3 25] [.agg #[vI z7, v6], .agg #[vI z5, vI z6]] [.loaded ⟨b1, 0, none⟩ (vI z7), .loaded ⟨b1, 1, none⟩ (v6), .loaded ⟨b2, 0, none⟩ (vI z5), .loaded ⟨b2, 1, none⟩ (vI z6)] ⟨hS71.c 1, hS71.c 1, hS71.c 0, hS71.c 0, trivial⟩ ⟨v6, rfl, hS73⟩)
   ·rw [hq4] at h
    simp only [] at h
    refine we_keep (e' := [(0, .slice A0 l0.length c0), (2, pP b1 0), (3, pP b2 0), (4, .pointer none), (5, pP b3 0), (10, .tuple #[.pointer none, .agg #[vI r1.2.Code, vI r1.2.At]]), (11, .slice A0 l0.length c0), (12, .tuple #[.pointer none, .agg #[vI r1.2.Code, vI r1.2.At]]), (13, .pointer none), (14, .agg #[vI r1.2.Code, vI r1.2.At]), (15, pP b3 0), (16, vI r1.2.Code), (17, .bool true)]) ea (punctualref_Worst_p2 K w0 l0 A0 c0 hR0 hL0 b1 b2 r1 b3 hc1 _ hq4 _ hS7 _ ?_)
    rintro _ a w1 ⟨_, rfl, hb⟩
    obtain rfl := si h
    exact hb
 ·rw [hro1] at hP1 h
  simp only [] at hP1 h
  obtain ⟨pb1, pv1, rfl, hS74⟩ := hP1
  refine ⟨_, rfl, hS74.below, ?_⟩
  have hS75 := hS2.call hS74
  refine gb0 [2, 3, 4] [(14, .agg #[vI r1.2.Code, vI r1.2.At]), (13, pP pb1 0), (10, .tuple #[pP pb1 0, .agg #[vI r1.2.Code, vI r1.2.At]])] ?_
  refine gw (some 5) (.cells #[vI 0, vI 0] 25) (fun b => pP b 0) hS75 fun b8 w21 hx8 hS76 => ?_
  refine gb0 [6] [(4, pP pb1 0)] ?_
  refine gs b8 0 #[vI 0, vI 0] 25 [vI r1.2.Code, vI r1.2.At] hS76 fun w22 hS77 => ?_
  have hS78 : St w0 w22 [Own.blk b8 (.cells #[vI r1.2.Code, vI r1.2.At] 25 (0, 0)), Own.blk pb1 (.cells #[.slice A0 l0.length c0, pv1] 70 (0, 0)), Own.of pv1 74 px1.m_Regions, Own.blk b2 (.cells #[vI 0, vI 0] 25 (0, 0)), Own.blk b1 (.cells #[vI 0, .slice none 0 0] 42 (0, 0))] := hS77
  refine gn hK2 ?_
  refine ws fun K21 hK21 => ?_
  refine ws fun K22 hK22 => ?_
  refine wr [(0, 0), (1, 0), (2, 0)] ?_
  refine gb [0, 1, 2] [(17, .bool (r1.2.Code != 0)), (16, vI r1.2.Code), (15, pP b8 0)] [.loaded ⟨b8, 0, none⟩ (vI r1.2.Code)] ⟨hS78.c 0, trivial⟩ ?_
  refine gn hK22 ?_
  by_cases hc5 : r1.2.Code = 0
  ·rw [if_pos hc5] at h
   refine wk 17 (r1.2.Code != 0) false (bne_eq_false_iff_eq.2 hc5) ?_
   refine we_false (by kernel_rfl) ?_
   refine we_skip fun a hF => hK21 _ _ ?_ a hF
   refine ws fun K23 hK23 => ?_
   refine wr [(0, 1), (1, 1), (2, 2)] ?_
   refine gw (some 20) (.map #[] 0) (fun b => .map (some b)) hS78 fun b9 w23 hx9 hS79 => ?_
   have hS80 := hS79.newMap (κ := Int) (ν := Int)
   refine gw (some 6) (.cells #[.map none] 62) (fun b => pP b 0) hS80 fun b10 w24 hx10 hS81 => ?_
   refine gs b10 0 #[.map none] 62 [.map (some b9)] hS81 fun w25 hS82 => ?_
   have hS83 : St w0 w25 [Own.blk b10 (.cells #[.map (some b9)] 62 (0, 0)), Own.map (κ := Int) (ν := Int) b9 ([] : List (Int × Int)), Own.blk b8 (.cells #[vI r1.2.Code, vI r1.2.At] 25 (0, 0)), Own.blk pb1 (.cells #[.slice A0 l0.length c0, pv1] 70 (0, 0)), Own.of pv1 74 px1.m_Regions, Own.blk b2 (.cells #[vI 0, vI 0] 25 (0, 0)), Own.blk b1 (.cells #[vI 0, .slice none 0 0] 42 (0, 0))] := hS82
   refine gn hK23 ?_
   refine ws fun K24 hK24 => ?_
   refine ws fun K25 hK25 => ?_
   refine wr [(0, 0), (1, 0), (2, 0), (3, 0)] ?_
   refine gb0 [0, 1, 2, 3] [(7, vI (IntKind.i64.wrap ((l0.length : Int) - 1))), (23, vI (IntKind.i64.wrap ((l0.length : Int) - 1))), (22, vI (l0.length : Int)), (21, .slice A0 l0.length c0)] ?_
   refine gn hK25 ?_
   refine we_block ?_
   obtain ⟨Z3, cz3, rfl⟩ := hS83.open 4 rfl
   have hS84 := hS83.bring 1 rfl
   have hS85 := hS84.bring 4 rfl
   have hS86 := hS85.bring 6 rfl
   have hS87 := hS86.bring 6 rfl
   have hS88 := hS87.bring 6 rfl
   have hS89 := hS88.bring 5 rfl
   have hS90 := hS89.takeN 6
   rcases hq7 : iter (punctualref_Worst.r3 K l0 px1) K (IntKind.i64.wrap ((l0.length : Int) - 1), ([] : List (Int × Int))) with _ | (mp6 | rr5)
   ·rw [hq7] at h; cases h
   ·rw [hq7] at h
    simp only [] at h
    refine we_iter (A := punctualref_Worst.A3 w0 l0 A0 c0 b1 b2 px1 pb1 b9 b10 Z3 cz3) (B := punctualref_Worst.B3 w0 l0 A0 c0 b1 b2 b9 b10) hq7 (fun a hF => ⟨hS90, hF.weaken ea⟩) (fun s o hf a w hA Q hQ => punctualref_Worst_r3 K w0 l0 A0 c0 hR0 hL0 b1 b2 r1 px1 pb1 b8 hc5 b9 b10 Z3 cz3 s o hf a w hA Q hQ) ?_
    rintro _ a w31 _ ⟨rfl, hS116, hF⟩
    replace hS116 : St w0 w31 [Own.blk b10 (.cells #[.map (some b9)] 62 (0, 0)), Own.blk b2 (.cells #[vI 0, vI 0] 25 (0, 0)), Own.blk b1 (.cells #[vI 0, .slice none 0 0] 42 (0, 0)), Own.map (κ := Int) (ν := Int) b9 mp6] := hS116
    refine hK24 [(0, .slice A0 l0.length c0), (2, pP b1 0), (3, pP b2 0), (6, pP b10 0)] w31 ?_ a hF
    refine ws fun K32 hK32 => ?_
    refine wr [(0, 0), (1, 0), (2, 0), (3, 1), (4, 2)] ?_
    refine gb [0] [(41, .map (some b9))] [.loaded ⟨b10, 0, none⟩ (.map (some b9))] ⟨hS116.c 0, trivial⟩ ?_
    refine ge_lookup (κ := Int) (ν := Int) (d := 42) (b := b9) (q := 3) (t := 62) (kt := 3) (et := 3) (x := (.tmp 41)) (y := (.const (vI 0))) (ty := 3) (m := mp6) (k := 0) (z := 0) (v := ((mget mp6 0).getD 0)) (zv := vI 0) (vv := vI ((mget mp6 0).getD 0)) (by kernel_rfl) (by kernel_rfl) (by kernel_rfl) (by kernel_rfl) (by kernel_rfl) (fun w' => by kernel_rfl) rfl hS116 rfl rfl rfl ?_
    refine gb0 [2] [(43, .agg #[vI ((mget mp6 0).getD 0), .slice none 0 0])] ?_
    refine gw (some 8) (.cells #[vI 0, .slice none 0 0] 42) (fun b => pP b 0) hS116 fun b11 w32 hx11 hS117 => ?_
    refine gs b11 0 #[vI 0, .slice none 0 0] 42 [vI ((mget mp6 0).getD 0), .slice none 0 0] hS117 fun w33 hS118 => ?_
    have hS119 : St w0 w33 [Own.blk b11 (.cells #[vI ((mget mp6 0).getD 0), .slice none 0 0] 42 (0, 0)), Own.blk b10 (.cells #[.map (some b9)] 62 (0, 0)), Own.blk b2 (.cells #[vI 0, vI 0] 25 (0, 0)), Own.blk b1 (.cells #[vI 0, .slice none 0 0] 42 (0, 0)), Own.map (κ := Int) (ν := Int) b9 mp6] := hS118
    refine gn hK32 ?_
    refine ws fun K33 hK33 => ?_
    refine ws fun K34 hK34 => ?_
    refine wr [(0, 0), (1, 0), (2, 0)] ?_
    refine gb0 [0, 1, 2] [(46, vI 0), (45, vI (l0.length : Int)), (44, .slice A0 l0.length c0)] ?_
    refine gn hK34 ?_
    refine we_block ?_
    have hS120 := hS119.nil (α := Int) 3
    have hS121 := hS120.bring 5 rfl
    have hS122 := hS121.bring 1 rfl
    have hS123 := hS122.bring 5 rfl
    have hS124 := hS123.bring 5 rfl
    have hS125 := hS124.bring 5 rfl
    have hS126 := hS125.bring 5 rfl
    rcases hq8 : iter (punctualref_Worst.r4 l0 mp6) K (0, ([] : List Int)) with _ | (m8 | rr4)
    ·rw [hq8] at h; cases h
    ·rw [hq8] at h
     simp only [] at h
     refine we_iter (A := punctualref_Worst.A4 w0 l0 b1 b2 b9 b10 mp6 b11) (B := punctualref_Worst.B4 w0 b1 b2 mp6 b11) hq8 (fun a hF => ⟨(.slice none 0 0), hS126, hF.weaken ea⟩) (fun s o hf a w hA Q hQ => punctualref_Worst_r4 K w0 l0 A0 c0 hR0 hL0 b1 b2 r1 px1 pb1 b8 hc5 b9 b10 Z3 cz3 mp6 b11 s o hf a w hA Q hQ) ?_
     rintro _ a w37 _ ⟨rfl, v10, hS144, hF⟩
     replace hS144 : St w0 w37 [Own.blk b11 (.cells #[vI ((mget mp6 0).getD 0), v10] 42 (0, 0)), Own.blk b2 (.cells #[vI 0, vI 0] 25 (0, 0)), Own.blk b1 (.cells #[vI 0, .slice none 0 0] 42 (0, 0)), Own.of v10 3 m8] := hS144
     refine hK33 [(2, pP b1 0), (3, pP b2 0), (8, pP b11 0)] w37 ?_ a hF
     refine ws fun K39 hK39 => ?_
     refine wr [(0, 0), (1, 0), (2, 2), (3, 2)] ?_
     refine gb [0, 1] [(59, .agg #[vI 0, vI 0]), (58, .agg #[vI ((mget mp6 0).getD 0), v10])] [.loaded ⟨b11, 0, none⟩ (vI ((mget mp6 0).getD 0)), .loaded ⟨b11, 1, none⟩ (v10)] ⟨hS144.c 0, hS144.c 0, trivial⟩ ?_
     obtain ⟨Z5, cz5, rfl⟩ := hS144.open 3 rfl
     have hS145 := hS144.bring 2 rfl
     refine gs b1 0 #[vI 0, .slice none 0 0] 42 [vI ((mget mp6 0).getD 0), (.slice Z5 m8.length cz5)] hS145 fun w38 hS146 => ?_
     have hS147 : St w0 w38 [Own.blk b1 (.cells #[vI ((mget mp6 0).getD 0), (.slice Z5 m8.length cz5)] 42 (0, 0)), Own.blk b11 (.cells #[vI ((mget mp6 0).getD 0), (.slice Z5 m8.length cz5)] 42 (0, 0)), Own.blk b2 (.cells #[vI 0, vI 0] 25 (0, 0)), Own.of (.slice Z5 m8.length cz5) 3 m8] := hS146
     have hS148 := hS147.bring 2 rfl
     refine gs b2 0 #[vI 0, vI 0] 25 [vI 0, vI 0] hS148 fun w39 hS149 => ?_
     have hS150 : St w0 w39 [Own.blk b2 (.cells #[vI 0, vI 0] 25 (0, 0)), Own.blk b1 (.cells #[vI ((mget mp6 0).getD 0), (.slice Z5 m8.length cz5)] 42 (0, 0)), Own.blk b11 (.cells #[vI ((mget mp6 0).getD 0), (.slice Z5 m8.length cz5)] 42 (0, 0)), Own.of (.slice Z5 m8.length cz5) 3 m8] := hS149
     refine gn hK39 ?_
     have hS151 := hS150.bring 3 rfl
     have hS152 := hS151.takeN 1
     obtain rfl := si h
     exact we_ret (pr [.cell 2 42, .cell 3 25] [.agg #[vI ((mget mp6 0).getD 0), (.slice Z5 m8.length cz5)], .agg #[vI 0, vI 0]] [.loaded ⟨b1, 0, none⟩ (vI ((mget mp6 0).getD 0)), .loaded ⟨b1, 1, none⟩ ((.slice Z5 m8.length cz5)), .loaded ⟨b2, 0, none⟩ (vI 0), .loaded ⟨b2, 1, none⟩ (vI 0)] ⟨hS150.c 1, hS150.c 1, hS150.c 0, hS150.c 0, trivial⟩ ⟨(.slice Z5 m8.length cz5), rfl, hS152⟩)
    ·rw [hq8] at h
     simp only [] at h
     refine we_iter (A := punctualref_Worst.A4 w0 l0 b1 b2 b9 b10 mp6 b11) (B := punctualref_Worst.B4 w0 b1 b2 mp6 b11) hq8 (fun a hF => ⟨(.slice none 0 0), hS126, hF.weaken ea⟩) (fun s o hf a w hA Q hQ => punctualref_Worst_r4 K w0 l0 A0 c0 hR0 hL0 b1 b2 r1 px1 pb1 b8 hc5 b9 b10 Z3 cz3 mp6 b11 s o hf a w hA Q hQ) ?_
     rintro _ a w1 _ ⟨rfl, hb⟩
     obtain rfl := si h
     exact hb
   ·rw [hq7] at h
    simp only [] at h
    refine we_iter (A := punctualref_Worst.A3 w0 l0 A0 c0 b1 b2 px1 pb1 b9 b10 Z3 cz3) (B := punctualref_Worst.B3 w0 l0 A0 c0 b1 b2 b9 b10) hq7 (fun a hF => ⟨hS90, hF.weaken ea⟩) (fun s o hf a w hA Q hQ => punctualref_Worst_r3 K w0 l0 A0 c0 hR0 hL0 b1 b2 r1 px1 pb1 b8 hc5 b9 b10 Z3 cz3 s o hf a w hA Q hQ) ?_
    rintro _ a w1 _ ⟨rfl, hb⟩
    obtain rfl := si h
    exact hb
  ·rw [if_neg hc5] at h
   refine wk 17 (r1.2.Code != 0) true (bne_iff_ne.2 hc5) ?_
   refine we_true (by kernel_rfl) ?_
   refine ws fun K40 hK40 => ?_
   obtain ⟨Z6, cz6, rfl⟩ := hS78.open 2 rfl
   rcases hq9 : punctualref_Worst.p5 r1 with _ | (⟨z12, z13, z14, m10⟩ | rr6)
   ·rw [hq9] at h; cases h
   ·rw [hq9] at h
    simp only [] at h
    refine we_keep (e' := [(0, .slice A0 l0.length c0), (2, pP b1 0), (3, pP b2 0), (4, pP pb1 0), (5, pP b8 0), (10, .tuple #[pP pb1 0, .agg #[vI r1.2.Code, vI r1.2.At]]), (11, .slice A0 l0.length c0), (12, .tuple #[pP pb1 0, .agg #[vI r1.2.Code, vI r1.2.At]]), (13, pP pb1 0), (14, .agg #[vI r1.2.Code, vI r1.2.At]), (15, pP b8 0), (16, vI r1.2.Code), (17, .bool true)]) ea (punctualref_Worst_p5 K w0 l0 A0 c0 hR0 hL0 b1 b2 r1 px1 pb1 b8 hc5 Z6 cz6 _ hq9 _ hS78 _ ?_)
    rintro _ a w42 ⟨rfl, v12, hS164, hF⟩
    replace hS164 : St w0 w42 [Own.blk b2 (.cells #[vI z12, vI z13] 25 (0, 0)), Own.blk b1 (.cells #[vI z14, v12] 42 (0, 0)), Own.of v12 3 m10] := hS164
    refine hK40 [(2, pP b1 0), (3, pP b2 0)] w42 ?_ a hF
    have hS165 := hS164.bring 2 rfl
    have hS166 := hS165.takeN 1
    obtain rfl := si h
    exact we_ret (pr [.cell 2 42, .cell 3 25] [.agg #[vI z14, v12], .agg #[vI z12, vI z13]] [.loaded ⟨b1, 0, none⟩ (vI z14), .loaded ⟨b1, 1, none⟩ (v12), .loaded ⟨b2, 0, none⟩ (vI z12), .loaded ⟨b2, 1, none⟩ (vI z13)] ⟨hS164.c 1, hS164.c 1, hS164.c 0, hS164.c 0, trivial⟩ ⟨v12, rfl, hS166⟩)
   ·rw [hq9] at h
    simp only [] at h
    refine we_keep (e' := [(0, .slice A0 l0.length c0), (2, pP b1 0), (3, pP b2 0), (4, pP pb1 0), (5, pP b8 0), (10, .tuple #[pP pb1 0, .agg #[vI r1.2.Code, vI r1.2.At]]), (11, .slice A0 l0.length c0), (12, .tuple #[pP pb1 0, .agg #[vI r1.2.Code, vI r1.2.At]]), (13, pP pb1 0), (14, .agg #[vI r1.2.Code, vI r1.2.At]), (15, pP b8 0), (16, vI r1.2.Code), (17, .bool true)]) ea (punctualref_Worst_p5 K w0 l0 A0 c0 hR0 hL0 b1 b2 r1 px1 pb1 b8 hc5 Z6 cz6 _ hq9 _ hS78 _ ?_)
    rintro _ a w1 ⟨_, rfl, hb⟩
    obtain rfl := si h
    exact hb

/-! punctual/punctualref.LockTimes -/
abbrev punctualref_LockTimes.Post (w0 : World) (r : (List Int) × SFault) (e : Ending) (w : World) : Prop := ∃ (v0 : Value), e = .returned (.tuple #[v0, .agg #[vI r.2.Code, vI r.2.At]]) ∧ St w0 w [Own.of v0 3 r.1]
def punctualref_LockTimes.r0 (l0 : List SIns) (r1 : SBound × SFault) : Nat × (List Int) → Option ((Nat × (List Int)) ⊕ ((List Int) ⊕ ((List Int) × SFault)))
 | (i1, m1) =>
  if (i1 : Int) < (l0.length : Int) then
   match l0[i1]? with
   | none => none
   | some e1 =>
    if e1.Op = 16 then
     match r1.1.Rest[i1 + 1]? with
     | none => none
     | some e2 =>
      if 0 ≤ e1.A then
       match m1[(e1.A).toNat]? with
       | none => none
       | some e3 =>
        if e2 > e3 then
         some (.inl ((i1 + 1), (m1.set ((e1.A).toNat) e2)))
        else
         some (.inl ((i1 + 1), m1))
      else
       none
    else
     some (.inl ((i1 + 1), m1))
  else
   some (.inr (.inl m1))
def punctualref_LockTimes.f (K : Nat) (l0 : List SIns) : Option ((List Int) × SFault) :=
 match punctualref_Worst.f K l0 with
 | none => none
 | some r1 =>
  if r1.2.Code = 0 then
   match iter (punctualref_LockTimes.r0 l0 r1) K (0, ([0, 0, 0, 0] : List Int)) with
   | none => none
   | some (.inl m3) =>
    some (m3, (⟨0, 0⟩ : SFault))
   | some (.inr rr1) =>
    some rr1
  else
   some (([] : List Int), r1.2)
abbrev punctualref_LockTimes.A0 (w0 : World) (l0 : List SIns) (A0 : Option Addr) (c0 : Nat) (b1 : Nat) (r1 : SBound × SFault) (b2 : Nat) (Z1 : Option Addr) (cz1 : Nat) (b4 : Nat) : (Nat × (List Int)) → Act → World → Prop := fun (s : Nat × (List Int)) a w => St w0 w [Own.blk b2 (.cells #[vI r1.1.Worst, (.slice Z1 r1.1.Rest.length cz1)] 42 (0, 0)), Own.blk b1 (.cells #[vI 0, vI 0] 25 (0, 0)), Own.of (.slice (some ⟨b4, 0, none⟩) s.2.length 4) 3 s.2, Own.of (.slice Z1 r1.1.Rest.length cz1) 3 r1.1.Rest] ∧ Frm 56 a [(3, pP b1 0), (4, pP b2 0), (6, (.slice (some ⟨b4, 0, none⟩) s.2.length 4)), (19, .slice A0 l0.length c0), (20, vI (l0.length : Int)), (21, vI (s.1 : Int))]
abbrev punctualref_LockTimes.B0 (w0 : World) (b1 : Nat) (b4 : Nat) : ((List Int) ⊕ ((List Int) × SFault)) → Exit → Act → World → Prop := Exits 0 (fun (s : (List Int)) a w => St w0 w [Own.blk b1 (.cells #[vI 0, vI 0] 25 (0, 0)), Own.of (.slice (some ⟨b4, 0, none⟩) s.length 4) 3 s] ∧ Frm 56 a [(3, pP b1 0), (6, (.slice (some ⟨b4, 0, none⟩) s.length 4))]) (Rets Tryd.prog Tryd.f19 (punctualref_LockTimes.Post w0))
theorem punctualref_LockTimes_r0 (K : Nat) (w0 : World) (l0 : List SIns) (A0 : Option Addr) (c0 : Nat) (hR0 : RdL w0 A0 l0) (hL0 : l0.length ≤ c0) (b1 : Nat) (r1 : SBound × SFault) (b2 : Nat) (b3 : Nat) (Z1 : Option Addr) (cz1 : Nat) (hc1 : r1.2.Code = 0) (b4 : Nat) (s : Nat × (List Int)) (o : (Nat × (List Int)) ⊕ ((List Int) ⊕ ((List Int) × SFault))) (h : punctualref_LockTimes.r0 l0 r1 s = some o) (a : Act) (w : World) (hA : punctualref_LockTimes.A0 w0 l0 A0 c0 b1 r1 b2 Z1 cz1 b4 s a w) (Q : Exit → Act → World → Prop) (hQ : ∀ x a w, Outs (punctualref_LockTimes.A0 w0 l0 A0 c0 b1 r1 b2 Z1 cz1 b4) (punctualref_LockTimes.B0 w0 b1 b4) o x a w → Q x a w) : (subF Tryd.f19 [1, 1, 1, 1, 0, 1, 0, 0]).wp Tryd.prog Q a w := by
 obtain ⟨i1, m1⟩ := s
 obtain ⟨hS, hF⟩ := hA
 replace hS : St w0 w [Own.blk b2 (.cells #[vI r1.1.Worst, (.slice Z1 r1.1.Rest.length cz1)] 42 (0, 0)), Own.blk b1 (.cells #[vI 0, vI 0] 25 (0, 0)), Own.of (.slice (some ⟨b4, 0, none⟩) m1.length 4) 3 m1, Own.of (.slice Z1 r1.1.Rest.length cz1) 3 r1.1.Rest] := hS
 simp only [punctualref_LockTimes.r0] at h
 refine (?_ : WE Tryd.prog 56 (subF Tryd.f19 [1, 1, 1, 1, 0, 1, 0, 0]) Q [(3, pP b1 0), (4, pP b2 0), (6, (.slice (some ⟨b4, 0, none⟩) m1.length 4)), (19, .slice A0 l0.length c0), (20, vI (l0.length : Int)), (21, vI (i1 : Int))] w) a hF
 clear hF a
 refine ws fun K8 hK8 => ?_
 refine wr [(0, 0)] ?_
 refine gb0 [0] [(22, .bool (decide ((i1 : Int) < (l0.length : Int))))] ?_
 refine gn hK8 ?_
 refine ws fun K9 hK9 => ?_
 by_cases hc2 : (i1 : Int) < (l0.length : Int)
 ·rw [if_pos hc2] at h
  refine wk 22 (decide ((i1 : Int) < (l0.length : Int))) true (decide_eq_true hc2) ?_
  refine we_true (by kernel_rfl) ?_
  refine we_skip fun a hF => hK9 _ _ ?_ a hF
  refine ws fun K10 hK10 => ?_
  refine we_block ?_
  refine ws fun K11 hK11 => ?_
  refine wr [(0, 0), (1, 0), (2, 0), (3, 1), (4, 0), (5, 2)] ?_
  refine gb0 [0] [(23, vI (i1 : Int))] ?_
  rcases hx5 : l0[i1]? with _ | e1
  ·rw [hx5] at h; cases h
  rw [hx5] at h
  simp only [] at h
  refine gi 24 0 22 29 3 l0.length c0 (.tmp 19) (.tmp 21) A0 .i64 (i1 : Int) i1 ((hS.rd hR0).eqSome (pos_of_get hx5)) rfl (lt_of_get hx5) ?_
  refine gb [2] [(25, .agg #[vI e1.Op, vI e1.A, vI e1.B])] [.loaded ⟨blkOf A0, offOf A0 + i1 * 3, none⟩ (vI e1.Op), .loaded ⟨blkOf A0, offOf A0 + i1 * 3 + 1, none⟩ (vI e1.A), .loaded ⟨blkOf A0, offOf A0 + i1 * 3 + 2, none⟩ (vI e1.B)] ⟨RdL.cell (j := 0) (hS.rd hR0) hx5 rfl, RdL.cell (j := 1) (hS.rd hR0) hx5 rfl, RdL.cell (j := 2) (hS.rd hR0) hx5 rfl, trivial⟩ ?_
  refine gw (some 8) (.cells #[vI 0, vI 0, vI 0] 29) (fun b => pP b 0) hS fun b5 w8 hx6 hS20 => ?_
  refine gb0 [4] [(7, vI (i1 : Int))] ?_
  refine gs b5 0 #[vI 0, vI 0, vI 0] 29 [vI e1.Op, vI e1.A, vI e1.B] hS20 fun w9 hS21 => ?_
  have hS22 : St w0 w9 [Own.blk b5 (.cells #[vI e1.Op, vI e1.A, vI e1.B] 29 (0, 0)), Own.blk b2 (.cells #[vI r1.1.Worst, (.slice Z1 r1.1.Rest.length cz1)] 42 (0, 0)), Own.blk b1 (.cells #[vI 0, vI 0] 25 (0, 0)), Own.of (.slice (some ⟨b4, 0, none⟩) m1.length 4) 3 m1, Own.of (.slice Z1 r1.1.Rest.length cz1) 3 r1.1.Rest] := hS21
  refine gn hK11 ?_
  refine ws fun K12 hK12 => ?_
  refine we_draws (by kernel_rfl) [(0, 0), (1, 0), (2, 0), (3, 0), (4, 0), (5, 0), (6, 0), (7, 0), (8, 0), (9, 0), (10, 0), (11, 0), (12, 0), (13, 0), (14, 0), (15, 0), (16, 0)] (by kernel_rfl) ?_
  have hS23 := hS22.drew
  refine gb [0, 1, 2, 3] [(29, .bool (e1.Op == 16)), (28, .bool (e1.Op == 16)), (27, vI e1.Op), (26, pP b5 0)] [.loaded ⟨b5, 0, none⟩ (vI e1.Op)] ⟨hS23.c 0, trivial⟩ ?_
  by_cases hc3 : e1.Op = 16
  ·rw [if_pos hc3] at h
   refine gk 29 (e1.Op == 16) true (beq_iff_eq.2 hc3) ?_
   refine gb [4, 5, 6] [(32, vI (i1 : Int)), (31, (.slice Z1 r1.1.Rest.length cz1)), (30, pP b2 1)] [.loaded ⟨b2, 1, none⟩ ((.slice Z1 r1.1.Rest.length cz1))] ⟨hS23.c 1, trivial⟩ ?_
   refine ge_addn (d := 33) (ty := 3) (x := (.tmp 32)) (y := (.const (vI 1))) (t := 3) (t2 := 3) (k := .i64) (m := i1) (by kernel_rfl) (by kernel_rfl) (by kernel_rfl) (by have h0 := hR0.small; omega) ?_
   rcases hx7 : r1.1.Rest[i1 + 1]? with _ | e2
   ·rw [hx7] at h; cases h
   rw [hx7] at h
   simp only [] at h
   refine gi 34 0 37 3 1 r1.1.Rest.length cz1 (.tmp 31) (.tmp 33) Z1 .i64 ((i1 + 1 : Nat) : Int) (i1 + 1) ((hS23.rdAt 4 rfl).eqSome (pos_of_get hx7)) rfl (lt_of_get hx7) ?_
   refine gb [9, 10, 11, 12] [(38, vI e1.A), (37, pP b5 1), (36, (.slice (some ⟨b4, 0, none⟩) m1.length 4)), (35, vI e2)] [.loaded ⟨blkOf Z1, offOf Z1 + (i1 + 1) * 1, none⟩ (vI e2), .loaded ⟨b5, 1, none⟩ (vI e1.A)] ⟨RdL.cell (j := 0) (hS23.rdAt 4 rfl) hx7 rfl, hS23.c 0, trivial⟩ ?_
   by_cases hc4 : 0 ≤ e1.A
   ·rw [if_pos hc4] at h
    rcases hx8 : m1[(e1.A).toNat]? with _ | e3
    ·rw [hx8] at h; cases h
    rw [hx8] at h
    simp only [] at h
    refine gi 39 0 37 3 1 m1.length 4 (.tmp 36) (.tmp 38) (some ⟨b4, 0, none⟩) .i64 e1.A ((e1.A).toNat) ((hS23.rdAt 3 rfl).eqSome (pos_of_get hx8)) (Int.toNat_of_nonneg hc4).symm (lt_of_get hx8) ?_
    refine gb [14, 15, 16] [(42, .bool (decide (e2 > e3))), (41, .bool (decide (e2 > e3))), (40, vI e3)] [.loaded ⟨blkOf (some ⟨b4, 0, none⟩), offOf (some ⟨b4, 0, none⟩) + ((e1.A).toNat) * 1, none⟩ (vI e3)] ⟨RdL.cell (j := 0) (hS23.rdAt 3 rfl) hx8 rfl, trivial⟩ ?_
    refine gn hK12 ?_
    by_cases hc5 : e2 > e3
    ·rw [if_pos hc5] at h
     refine wk 42 (decide (e2 > e3)) true (decide_eq_true hc5) ?_
     refine we_true (by kernel_rfl) ?_
     refine we_draws (by kernel_rfl) [(0, 0), (1, 0), (2, 0), (3, 0), (4, 0), (5, 0), (6, 0), (7, 0), (8, 0), (9, 0), (10, 2)] (by kernel_rfl) ?_
     have hS24 := hS23.drew
     refine gb [0, 1, 2, 3, 4, 5] [(48, vI (i1 : Int)), (47, (.slice Z1 r1.1.Rest.length cz1)), (46, pP b2 1), (45, vI e1.A), (44, pP b5 1), (43, (.slice (some ⟨b4, 0, none⟩) m1.length 4))] [.loaded ⟨b5, 1, none⟩ (vI e1.A), .loaded ⟨b2, 1, none⟩ ((.slice Z1 r1.1.Rest.length cz1))] ⟨hS24.c 0, hS24.c 1, trivial⟩ ?_
     refine ge_addn (d := 49) (ty := 3) (x := (.tmp 48)) (y := (.const (vI 1))) (t := 3) (t2 := 3) (k := .i64) (m := i1) (by kernel_rfl) (by kernel_rfl) (by kernel_rfl) (by have h0 := hR0.small; omega) ?_
     refine gi 50 0 37 3 1 r1.1.Rest.length cz1 (.tmp 47) (.tmp 49) Z1 .i64 ((i1 + 1 : Nat) : Int) (i1 + 1) ((hS24.rdAt 4 rfl).eqSome (pos_of_get hx7)) rfl (lt_of_get hx7) ?_
     refine gb [8] [(51, vI e2)] [.loaded ⟨blkOf Z1, offOf Z1 + (i1 + 1) * 1, none⟩ (vI e2)] ⟨RdL.cell (j := 0) (hS24.rdAt 4 rfl) hx7 rfl, trivial⟩ ?_
     refine gi 52 0 37 3 1 m1.length 4 (.tmp 43) (.tmp 45) (some ⟨b4, 0, none⟩) .i64 e1.A ((e1.A).toNat) ((hS24.rdAt 3 rfl).eqSome (pos_of_get hx8)) (Int.toNat_of_nonneg hc4).symm (lt_of_get hx8) ?_
     have hS25 := hS24.bring 3 rfl
     refine ge_seti (α := Int) (A := (some ⟨b4, 0, none⟩)) (nn := m1.length) (c := 4) (t := 3) (l := m1) (x := e3) (x' := e2) (jn := ((e1.A).toNat)) (j := 0) (vs := [vI e2]) (l' := [.stored ⟨blkOf (some ⟨b4, 0, none⟩), offOf (some ⟨b4, 0, none⟩) + ((e1.A).toNat) * 1, none⟩ (vI e2)]) hS25 (by kernel_rfl) (by kernel_rfl) hx8 rfl rfl rfl fun w10 hS26 => ?_
     have hS27 : St w0 w10 [Own.of (.slice (some ⟨b4, 0, none⟩) m1.length 4) 3 (m1.set ((e1.A).toNat) e2), Own.blk b5 (.cells #[vI e1.Op, vI e1.A, vI e1.B] 29 (0, 0)), Own.blk b2 (.cells #[vI r1.1.Worst, (.slice Z1 r1.1.Rest.length cz1)] 42 (0, 0)), Own.blk b1 (.cells #[vI 0, vI 0] 25 (0, 0)), Own.of (.slice Z1 r1.1.Rest.length cz1) 3 r1.1.Rest] := hS26
     have hE1 : m1.length = (m1.set ((e1.A).toNat) e2).length := hS27.lenAt 0 rfl
     have hS28 : St w0 w10 [Own.of (.slice (some ⟨b4, 0, none⟩) (m1.set ((e1.A).toNat) e2).length 4) 3 (m1.set ((e1.A).toNat) e2), Own.blk b5 (.cells #[vI e1.Op, vI e1.A, vI e1.B] 29 (0, 0)), Own.blk b2 (.cells #[vI r1.1.Worst, (.slice Z1 r1.1.Rest.length cz1)] 42 (0, 0)), Own.blk b1 (.cells #[vI 0, vI 0] 25 (0, 0)), Own.of (.slice Z1 r1.1.Rest.length cz1) 3 r1.1.Rest] := by rw [← hE1]; exact hS27
     refine ge_same (t := 6) (v := (.slice (some ⟨b4, 0, none⟩) m1.length 4)) (v' := (.slice (some ⟨b4, 0, none⟩) (m1.set ((e1.A).toNat) e2).length 4)) (by kernel_rfl) (by rw [hE1]) ?_
     refine ge_same (t := 36) (v := (.slice (some ⟨b4, 0, none⟩) m1.length 4)) (v' := (.slice (some ⟨b4, 0, none⟩) (m1.set ((e1.A).toNat) e2).length 4)) (by kernel_rfl) (by rw [hE1]) ?_
     refine ge_same (t := 43) (v := (.slice (some ⟨b4, 0, none⟩) m1.length 4)) (v' := (.slice (some ⟨b4, 0, none⟩) (m1.set ((e1.A).toNat) e2).length 4)) (by kernel_rfl) (by rw [hE1]) ?_
     refine gn hK10 ?_
     refine wr [(0, 0), (1, 0)] ?_
     refine ge_addn (d := 53) (ty := 3) (x := (.tmp 21)) (y := (.const (vI 1))) (t := 3) (t2 := 3) (k := .i64) (m := i1) (by kernel_rfl) (by kernel_rfl) (by kernel_rfl) (by have h0 := hR0.small; omega) ?_
     refine gb0 [1] [(21, vI ((i1 + 1 : Nat) : Int))] ?_
     have hS29 := hS28.bring 4 rfl
     have hS30 := hS29.bring 1 rfl
     have hS31 := hS30.bring 4 rfl
     have hS32 := hS31.bring 4 rfl
     have hS33 := hS32.takeN 4
     obtain rfl := si h
     exact ge_nil fun a hF => hQ _ _ _ (Outs.again ⟨hS33, hF.weaken ea⟩)
    ·rw [if_neg hc5] at h
     refine wk 42 (decide (e2 > e3)) false (decide_eq_false hc5) ?_
     refine we_false (by kernel_rfl) ?_
     refine we_skip fun a hF => hK10 _ _ ?_ a hF
     refine wr [(0, 0), (1, 0)] ?_
     refine ge_addn (d := 53) (ty := 3) (x := (.tmp 21)) (y := (.const (vI 1))) (t := 3) (t2 := 3) (k := .i64) (m := i1) (by kernel_rfl) (by kernel_rfl) (by kernel_rfl) (by have h0 := hR0.small; omega) ?_
     refine gb0 [1] [(21, vI ((i1 + 1 : Nat) : Int))] ?_
     have hS34 := hS23.bring 4 rfl
     have hS35 := hS34.bring 4 rfl
     have hS36 := hS35.bring 4 rfl
     have hS37 := hS36.bring 4 rfl
     have hS38 := hS37.takeN 4
     obtain rfl := si h
     exact ge_nil fun a hF => hQ _ _ _ (Outs.again ⟨hS38, hF.weaken ea⟩)
   ·rw [if_neg hc4] at h
    cases h
  ·rw [if_neg hc3] at h
   refine gk 29 (e1.Op == 16) false (beq_eq_false_iff_ne.2 hc3) ?_
   refine gb0 [4, 5, 6, 7, 8, 9, 10, 11, 12, 13, 14, 15, 16] [(42, .bool false), (41, undef), (40, undef), (39, undef), (38, undef), (37, undef), (36, undef), (35, undef), (34, undef), (33, undef), (32, undef), (31, undef), (30, undef)] ?_
   refine gn hK12 ?_
   refine we_false (by kernel_rfl) ?_
   refine we_skip fun a hF => hK10 _ _ ?_ a hF
   refine wr [(0, 0), (1, 0)] ?_
   refine ge_addn (d := 53) (ty := 3) (x := (.tmp 21)) (y := (.const (vI 1))) (t := 3) (t2 := 3) (k := .i64) (m := i1) (by kernel_rfl) (by kernel_rfl) (by kernel_rfl) (by have h0 := hR0.small; omega) ?_
   refine gb0 [1] [(21, vI ((i1 + 1 : Nat) : Int))] ?_
   have hS39 := hS23.bring 4 rfl
   have hS40 := hS39.bring 4 rfl
   have hS41 := hS40.bring 4 rfl
   have hS42 := hS41.bring 4 rfl
   have hS43 := hS42.takeN 4
   obtain rfl := si h
   exact ge_nil fun a hF => hQ _ _ _ (Outs.again ⟨hS43, hF.weaken ea⟩)
 ·rw [if_neg hc2] at h
  refine wk 22 (decide ((i1 : Int) < (l0.length : Int))) false (decide_eq_false hc2) ?_
  refine we_false (by kernel_rfl) ?_
  have hS44 := hS.bring 2 rfl
  have hS45 := hS44.bring 2 rfl
  have hS46 := hS45.takeN 2
  obtain rfl := si h
  exact we_exit fun a hF => hQ _ _ _ (Outs.out nofun (Exits.here ⟨hS46, hF.weaken ea⟩))
theorem punctualref_LockTimes_ok (K : Nat) (l0 : List SIns) (A0 : Option Addr) (c0 : Nat) (w0 : World) (hR0 : RdL w0 A0 l0) (hL0 : l0.length ≤ c0) (r : (List Int) × SFault) (h : punctualref_LockTimes.f K l0 = some r) :
  Calls Tryd.prog 19 #[.slice A0 l0.length c0] w0 (punctualref_LockTimes.Post w0 r) := by
 have hS := St.start w0
 unfold punctualref_LockTimes.f at h
 refine calls_enter (n := 56) (args := [.slice A0 l0.length c0]) (fn := Tryd.f19) rfl rfl rfl rfl ?_
 show WE _ _ _ _ [(0, .slice A0 l0.length c0)] _
 refine ws fun K1 hK1 => ?_
 refine wr [(0, 0), (1, 1)] ?_
 refine gb0 [0] [(2, .slice none 0 0)] ?_
 refine gw (some 3) (.cells #[vI 0, vI 0] 25) (fun b => pP b 0) hS fun b1 w1 hx1 hS1 => ?_
 refine gn hK1 ?_
 refine ws fun K2 hK2 => ?_
 refine wr [(0, 0), (1, 1), (2, 0), (3, 0), (4, 0), (5, 1), (6, 1), (7, 2), (8, 2)] ?_
 rcases hq1 : punctualref_Worst.f K l0 with _ | r1
 ·rw [hq1] at h; cases h
 rw [hq1] at h
 simp only [] at h
 refine gb0 [0] [(10, .slice A0 l0.length c0)] ?_
 refine ge_call (d := some 11) (f := 18) (args := #[.slice A0 l0.length c0]) (by kernel_rfl) (punctualref_Worst_ok K l0 A0 c0 _ (hS1.rd hR0) hL0 _ hq1) ?_
 rintro _ w2 ⟨v1, rfl, hS2⟩
 refine ⟨_, rfl, hS2.below, ?_⟩
 have hS3 := hS1.call hS2
 refine gb0 [2, 3, 4] [(13, .agg #[vI r1.2.Code, vI r1.2.At]), (12, .agg #[vI r1.1.Worst, v1]), (9, .tuple #[.agg #[vI r1.1.Worst, v1], .agg #[vI r1.2.Code, vI r1.2.At]])] ?_
 refine gw (some 4) (.cells #[vI 0, .slice none 0 0] 42) (fun b => pP b 0) hS3 fun b2 w3 hx2 hS4 => ?_
 refine gw (some 5) (.cells #[vI 0, vI 0] 25) (fun b => pP b 0) hS4 fun b3 w4 hx3 hS5 => ?_
 obtain ⟨Z1, cz1, rfl⟩ := hS5.open 2 rfl
 have hS6 := hS5.bring 1 rfl
 refine gs b2 0 #[vI 0, .slice none 0 0] 42 [vI r1.1.Worst, (.slice Z1 r1.1.Rest.length cz1)] hS6 fun w5 hS7 => ?_
 have hS8 : St w0 w5 [Own.blk b2 (.cells #[vI r1.1.Worst, (.slice Z1 r1.1.Rest.length cz1)] 42 (0, 0)), Own.blk b3 (.cells #[vI 0, vI 0] 25 (0, 0)), Own.of (.slice Z1 r1.1.Rest.length cz1) 3 r1.1.Rest, Own.blk b1 (.cells #[vI 0, vI 0] 25 (0, 0))] := hS7
 have hS9 := hS8.bring 1 rfl
 refine gs b3 0 #[vI 0, vI 0] 25 [vI r1.2.Code, vI r1.2.At] hS9 fun w6 hS10 => ?_
 have hS11 : St w0 w6 [Own.blk b3 (.cells #[vI r1.2.Code, vI r1.2.At] 25 (0, 0)), Own.blk b2 (.cells #[vI r1.1.Worst, (.slice Z1 r1.1.Rest.length cz1)] 42 (0, 0)), Own.of (.slice Z1 r1.1.Rest.length cz1) 3 r1.1.Rest, Own.blk b1 (.cells #[vI 0, vI 0] 25 (0, 0))] := hS10
 refine gn hK2 ?_
 refine ws fun K3 hK3 => ?_
 refine ws fun K4 hK4 => ?_
 refine wr [(0, 0), (1, 0), (2, 0)] ?_
 refine gb [0, 1, 2] [(16, .bool (r1.2.Code != 0)), (15, vI r1.2.Code), (14, pP b3 0)] [.loaded ⟨b3, 0, none⟩ (vI r1.2.Code)] ⟨hS11.c 0, trivial⟩ ?_
 refine gn hK4 ?_
 by_cases hc1 : r1.2.Code = 0
 ·rw [if_pos hc1] at h
  refine wk 16 (r1.2.Code != 0) false (bne_eq_false_iff_eq.2 hc1) ?_
  refine we_false (by kernel_rfl) ?_
  refine we_skip fun a hF => hK3 _ _ ?_ a hF
  refine ws fun K5 hK5 => ?_
  refine wr [(0, 1), (1, 0)] ?_
  refine gw (some 18) (.cells #[vI 0, vI 0, vI 0, vI 0] 3) (fun b => .slice (some ⟨b, 0, none⟩) 4 4) hS11 fun b4 w7 hx4 hS12 => ?_
  have hS13 := hS12.asRow (α := Int) (c := 4) ([0, 0, 0, 0] : List Int) (Nat.le_refl _) (by decide) rfl rfl
  have hS14 : St w0 w7 [Own.of (.slice (some ⟨b4, 0, none⟩) ([0, 0, 0, 0] : List Int).length 4) 3 ([0, 0, 0, 0] : List Int), Own.blk b3 (.cells #[vI r1.2.Code, vI r1.2.At] 25 (0, 0)), Own.blk b2 (.cells #[vI r1.1.Worst, (.slice Z1 r1.1.Rest.length cz1)] 42 (0, 0)), Own.of (.slice Z1 r1.1.Rest.length cz1) 3 r1.1.Rest, Own.blk b1 (.cells #[vI 0, vI 0] 25 (0, 0))] := by exact hS13
  refine ge_same (t := 18) (v := .slice (some ⟨b4, 0, none⟩) 4 4) (v' := (.slice (some ⟨b4, 0, none⟩) ([0, 0, 0, 0] : List Int).length 4)) (by kernel_rfl) rfl ?_
  refine gb0 [1] [(6, (.slice (some ⟨b4, 0, none⟩) ([0, 0, 0, 0] : List Int).length 4))] ?_
  refine gn hK5 ?_
  refine ws fun K6 hK6 => ?_
  refine ws fun K7 hK7 => ?_
  refine wr [(0, 0), (1, 0), (2, 0)] ?_
  refine gb0 [0, 1, 2] [(21, vI 0), (20, vI (l0.length : Int)), (19, .slice A0 l0.length c0)] ?_
  refine gn hK7 ?_
  refine we_block ?_
  have hS15 := hS14.bring 3 rfl
  have hS16 := hS15.bring 1 rfl
  have hS17 := hS16.bring 4 rfl
  have hS18 := hS17.bring 4 rfl
  have hS19 := hS18.takeN 4
  rcases hq2 : iter (punctualref_LockTimes.r0 l0 r1) K (0, ([0, 0, 0, 0] : List Int)) with _ | (m3 | rr1)
  ·rw [hq2] at h; cases h
  ·rw [hq2] at h
   simp only [] at h
   refine we_iter (A := punctualref_LockTimes.A0 w0 l0 A0 c0 b1 r1 b2 Z1 cz1 b4) (B := punctualref_LockTimes.B0 w0 b1 b4) hq2 (fun a hF => ⟨hS19, hF.weaken ea⟩) (fun s o hf a w hA Q hQ => punctualref_LockTimes_r0 K w0 l0 A0 c0 hR0 hL0 b1 r1 b2 b3 Z1 cz1 hc1 b4 s o hf a w hA Q hQ) ?_
   rintro _ a w11 _ ⟨rfl, hS47, hF⟩
   replace hS47 : St w0 w11 [Own.blk b1 (.cells #[vI 0, vI 0] 25 (0, 0)), Own.of (.slice (some ⟨b4, 0, none⟩) m3.length 4) 3 m3] := hS47
   refine hK6 [(3, pP b1 0), (6, (.slice (some ⟨b4, 0, none⟩) m3.length 4))] w11 ?_ a hF
   refine ws fun K13 hK13 => ?_
   refine wr [(0, 0), (1, 0), (2, 0), (3, 2)] ?_
   refine gb0 [0, 1, 2] [(2, (.slice (some ⟨b4, 0, none⟩) m3.length 4)), (55, .agg #[vI 0, vI 0]), (54, (.slice (some ⟨b4, 0, none⟩) m3.length 4))] ?_
   refine gs b1 0 #[vI 0, vI 0] 25 [vI 0, vI 0] hS47 fun w12 hS48 => ?_
   have hS49 : St w0 w12 [Own.blk b1 (.cells #[vI 0, vI 0] 25 (0, 0)), Own.of (.slice (some ⟨b4, 0, none⟩) m3.length 4) 3 m3] := hS48
   refine gn hK13 ?_
   have hS50 := hS49.bring 1 rfl
   have hS51 := hS50.takeN 1
   obtain rfl := si h
   exact we_ret (pr [.tmp 2, .cell 3 25] [(.slice (some ⟨b4, 0, none⟩) m3.length 4), .agg #[vI 0, vI 0]] [.loaded ⟨b1, 0, none⟩ (vI 0), .loaded ⟨b1, 1, none⟩ (vI 0)] ⟨hS49.c 0, hS49.c 0, trivial⟩ ⟨(.slice (some ⟨b4, 0, none⟩) m3.length 4), rfl, hS51⟩)
  ·rw [hq2] at h
   simp only [] at h
   refine we_iter (A := punctualref_LockTimes.A0 w0 l0 A0 c0 b1 r1 b2 Z1 cz1 b4) (B := punctualref_LockTimes.B0 w0 b1 b4) hq2 (fun a hF => ⟨hS19, hF.weaken ea⟩) (fun s o hf a w hA Q hQ => punctualref_LockTimes_r0 K w0 l0 A0 c0 hR0 hL0 b1 r1 b2 b3 Z1 cz1 hc1 b4 s o hf a w hA Q hQ) ?_
   rintro _ a w1 _ ⟨rfl, hb⟩
   obtain rfl := si h
   exact hb
 ·rw [if_neg hc1] at h
  refine wk 16 (r1.2.Code != 0) true (bne_iff_ne.2 hc1) ?_
  refine we_true (by kernel_rfl) ?_
  refine ws fun K14 hK14 => ?_
  refine we_draws (by kernel_rfl) [(0, 0), (1, 0), (2, 2)] (by kernel_rfl) ?_
  have hS52 := hS11.drew
  refine gb [0, 1] [(2, .slice none 0 0), (17, .agg #[vI r1.2.Code, vI r1.2.At])] [.loaded ⟨b3, 0, none⟩ (vI r1.2.Code), .loaded ⟨b3, 1, none⟩ (vI r1.2.At)] ⟨hS52.c 0, hS52.c 0, trivial⟩ ?_
  have hS53 := hS52.bring 3 rfl
  refine gs b1 0 #[vI 0, vI 0] 25 [vI r1.2.Code, vI r1.2.At] hS53 fun w13 hS54 => ?_
  have hS55 : St w0 w13 [Own.blk b1 (.cells #[vI r1.2.Code, vI r1.2.At] 25 (0, 0)), Own.blk b3 (.cells #[vI r1.2.Code, vI r1.2.At] 25 (0, 0)), Own.blk b2 (.cells #[vI r1.1.Worst, (.slice Z1 r1.1.Rest.length cz1)] 42 (0, 0)), Own.of (.slice Z1 r1.1.Rest.length cz1) 3 r1.1.Rest] := hS54
  refine gn hK14 ?_
  have hS56 := hS55.nil (α := Int) 3
  have hS57 := hS56.takeN 1
  obtain rfl := si h
  exact we_ret (pr [.tmp 2, .cell 3 25] [(.slice none 0 0), .agg #[vI r1.2.Code, vI r1.2.At]] [.loaded ⟨b1, 0, none⟩ (vI r1.2.Code), .loaded ⟨b1, 1, none⟩ (vI r1.2.At)] ⟨hS56.c 1, hS56.c 1, trivial⟩ ⟨(.slice none 0 0), rfl, hS57⟩)

/-! punctual/punctualsame.Lend[punctual/api.Ins] -/
abbrev punctualsame_Lend_api_Ins.Post (w0 : World) (n : Nat) (r : List SIns) (e : Ending) (w : World) : Prop := ∃ (A : Option Addr) (c : Nat), e = .returned (.slice A n c) ∧ r.length ≤ c ∧ St w0 w [Own.of (.slice A r.length c) 29 r]
def punctualsame_Lend_api_Ins.f (l0 : List SIns) (x1 : SIns) : Option (List SIns) :=
 if 0 ≤ (IntKind.i64.wrap ((l0.length : Int) + 3)) then
  if ((IntKind.i64.wrap ((l0.length : Int) + 3)).toNat) ≤ 5864062014805 then
   if (List.replicate 0 (⟨0, 0, 0⟩ : SIns)).length + l0.length ≤ 5864062014805 then
    if ((List.replicate 0 (⟨0, 0, 0⟩ : SIns)) ++ l0).length + 3 ≤ 5864062014805 then
     some (((List.replicate 0 (⟨0, 0, 0⟩ : SIns)) ++ l0) ++ ([x1, x1, x1] : List SIns))
    else
     none
   else
    none
  else
   none
 else
  none
theorem punctualsame_Lend_api_Ins_ok (l0 : List SIns) (A0 : Option Addr) (c0 : Nat) (x1 : SIns) (w0 : World) (hR0 : RdL w0 A0 l0) (hL0 : l0.length ≤ c0) (r : List SIns) (h : punctualsame_Lend_api_Ins.f l0 x1 = some r) :
  Calls Tryd.prog 10 #[.slice A0 l0.length c0, .agg #[vI x1.Op, vI x1.A, vI x1.B]] w0 (punctualsame_Lend_api_Ins.Post w0 l0.length r) := by
 have hS := St.start w0
 unfold punctualsame_Lend_api_Ins.f at h
 refine calls_enter (n := 21) (args := [.slice A0 l0.length c0, .agg #[vI x1.Op, vI x1.A, vI x1.B]]) (fn := Tryd.f10) rfl rfl rfl rfl ?_
 show WE _ _ _ _ [(0, .slice A0 l0.length c0), (1, .agg #[vI x1.Op, vI x1.A, vI x1.B])] _
 refine ws fun K1 hK1 => ?_
 refine wr [(0, 1), (1, 0)] ?_
 refine gw (some 3) (.cells #[vI x1.Op, vI x1.A, vI x1.B] 29) (fun b => pP b 0) hS fun b1 w1 hx1 hS1 => ?_
 refine gb0 [1] [(4, .slice none 0 0)] ?_
 refine gn hK1 ?_
 refine ws fun K2 hK2 => ?_
 refine we_orders2 (by kernel_rfl) [(6, [⟨b1, 0, none⟩, ⟨b1, 1, none⟩, ⟨b1, 2, none⟩]), (7, [⟨b1, 0, none⟩, ⟨b1, 1, none⟩, ⟨b1, 2, none⟩]), (8, [⟨b1, 0, none⟩, ⟨b1, 1, none⟩, ⟨b1, 2, none⟩])] (.vals [0] (.vals [1] (.vals [2] (.vals [4] (.vals [6] (.vals [7] (.vals [8] (.alt 3 1 (.alt 5 2 (.alt 9 1 (.alt 10 2 (.vals [11] .fin) .nomore) .nomore) (.alt 9 1 (.alt 5 2 (.alt 10 2 (.vals [11] .fin) .nomore) .nomore) .nomore)) (.alt 9 1 (.alt 3 1 (.alt 5 2 (.alt 10 2 (.vals [11] .fin) .nomore) .nomore) .nomore) .nomore))))))))) (by kernel_rfl) ?_
 have hS2 := hS1.drew
 refine go2_batch [0, 1, 2, 4] (ans := []) (vs := [(10, .slice A0 l0.length c0), (8, vI (IntKind.i64.wrap ((l0.length : Int) + 3))), (7, vI (l0.length : Int)), (6, .slice A0 l0.length c0)]) (l := []) (by kernel_rfl) trivial mem_nil ?_
 refine go2_batch [6] (ans := [.val (vI x1.Op), .val (vI x1.A), .val (vI x1.B)]) (vs := [(12, .agg #[vI x1.Op, vI x1.A, vI x1.B])]) (l := [.loaded ⟨b1, 0, none⟩ (vI x1.Op), .loaded ⟨b1, 1, none⟩ (vI x1.A), .loaded ⟨b1, 2, none⟩ (vI x1.B)]) (by kernel_rfl) ⟨hS2.c 0, hS2.c 0, hS2.c 0, trivial⟩ (mem_one (by kernel_rfl)) ?_
 refine go2_batch [7] (ans := [.val (vI x1.Op), .val (vI x1.A), .val (vI x1.B)]) (vs := [(13, .agg #[vI x1.Op, vI x1.A, vI x1.B])]) (l := [.loaded ⟨b1, 0, none⟩ (vI x1.Op), .loaded ⟨b1, 1, none⟩ (vI x1.A), .loaded ⟨b1, 2, none⟩ (vI x1.B)]) (by kernel_rfl) ⟨hS2.c 0, hS2.c 0, hS2.c 0, trivial⟩ (mem_one (by kernel_rfl)) ?_
 refine go2_batch [8] (ans := [.val (vI x1.Op), .val (vI x1.A), .val (vI x1.B)]) (vs := [(14, .agg #[vI x1.Op, vI x1.A, vI x1.B])]) (l := [.loaded ⟨b1, 0, none⟩ (vI x1.Op), .loaded ⟨b1, 1, none⟩ (vI x1.A), .loaded ⟨b1, 2, none⟩ (vI x1.B)]) (by kernel_rfl) ⟨hS2.c 0, hS2.c 0, hS2.c 0, trivial⟩ (mem_one (by kernel_rfl)) ?_
 by_cases hc1 : 0 ≤ (IntKind.i64.wrap ((l0.length : Int) + 3))
 ·rw [if_pos hc1] at h
  by_cases hc2 : ((IntKind.i64.wrap ((l0.length : Int) + 3)).toNat) ≤ 5864062014805
  ·rw [if_pos hc2] at h
   refine go_alt2 (fun KK hKK => ?_) ?_
   ·refine ge_one2 ?_
    refine ge_make (α := SIns) (d := 9) (t := 22) (el := 29) (bytes := 24) (l := 0) (c := ((IntKind.i64.wrap ((l0.length : Int) + 3)).toNat)) (x := (.const (vI 0))) (y := (.tmp 8)) (ty := 22) (k1 := .i64) (k2 := .i64) (li := 0) (ci := (IntKind.i64.wrap ((l0.length : Int) + 3))) (z := .agg #[vI 0, vI 0, vI 0]) (z' := (⟨0, 0, 0⟩ : SIns)) (by kernel_rfl) (by kernel_rfl) (by kernel_rfl) rfl (Int.toNat_of_nonneg hc1).symm (by kernel_rfl) (by kernel_rfl) rfl hS2 (Nat.zero_le _) rfl (by omega) fun v1 w2 _ hS3 => ?_
    refine ge_nil fun a hF => hKK _ _ (RS.of2 (l := [.loaded ⟨b1, 0, none⟩ (vI x1.Op), .loaded ⟨b1, 1, none⟩ (vI x1.A), .loaded ⟨b1, 2, none⟩ (vI x1.B), .loaded ⟨b1, 0, none⟩ (vI x1.Op), .loaded ⟨b1, 1, none⟩ (vI x1.A), .loaded ⟨b1, 2, none⟩ (vI x1.B), .loaded ⟨b1, 0, none⟩ (vI x1.Op), .loaded ⟨b1, 1, none⟩ (vI x1.A), .loaded ⟨b1, 2, none⟩ (vI x1.B)]) (by kernel_rfl) ⟨hS2.c 0, hS2.c 0, hS2.c 0, hS2.c 0, hS2.c 0, hS2.c 0, hS2.c 0, hS2.c 0, hS2.c 0, trivial⟩ ⟨hS3.c 1, hS3.c 1, hS3.c 1, hS3.c 1, hS3.c 1, hS3.c 1, hS3.c 1, hS3.c 1, hS3.c 1, trivial⟩) ?_ a hF
    refine go_alt2 (fun KK hKK => ?_) ?_
    ·by_cases hc3 : (List.replicate 0 (⟨0, 0, 0⟩ : SIns)).length + l0.length ≤ 5864062014805
     ·rw [if_pos hc3] at h
      refine ge_appendL (α := SIns) (m := 0) (d := 11) (t := 22) (el := 29) (bytes := 24) (c1 := c0) (A1 := A0) (x := (.tmp 9)) (y := (.tmp 10)) (ty := 22) (v := v1) (z := .agg #[vI 0, vI 0, vI 0]) (l := (List.replicate 0 (⟨0, 0, 0⟩ : SIns))) (us := l0) (by kernel_rfl) (by kernel_rfl) (by kernel_rfl) (by kernel_rfl) (by kernel_rfl) rfl hS3 (hS3.rd hR0) rfl (Nat.mul_le_of_le_div _ _ _ hc3) fun v2 w3 hS4 => ?_
      have hS5 : St w0 w3 [Own.of v2 29 ((List.replicate 0 (⟨0, 0, 0⟩ : SIns)) ++ l0), Own.blk b1 (.cells #[vI x1.Op, vI x1.A, vI x1.B] 29 (0, 0))] := hS4
      refine ge_nil fun a hF => hKK _ _ (RS.of2 (l := [.loaded ⟨b1, 0, none⟩ (vI x1.Op), .loaded ⟨b1, 1, none⟩ (vI x1.A), .loaded ⟨b1, 2, none⟩ (vI x1.B), .loaded ⟨b1, 0, none⟩ (vI x1.Op), .loaded ⟨b1, 1, none⟩ (vI x1.A), .loaded ⟨b1, 2, none⟩ (vI x1.B), .loaded ⟨b1, 0, none⟩ (vI x1.Op), .loaded ⟨b1, 1, none⟩ (vI x1.A), .loaded ⟨b1, 2, none⟩ (vI x1.B)]) (by kernel_rfl) ⟨hS3.c 1, hS3.c 1, hS3.c 1, hS3.c 1, hS3.c 1, hS3.c 1, hS3.c 1, hS3.c 1, hS3.c 1, trivial⟩ ⟨hS5.c 1, hS5.c 1, hS5.c 1, hS5.c 1, hS5.c 1, hS5.c 1, hS5.c 1, hS5.c 1, hS5.c 1, trivial⟩) ?_ a hF
      refine go_alt2 (fun KK hKK => ?_) ?_
      ·refine ge_one2 ?_
       refine gw (some 15) (.cells #[vI x1.Op, vI x1.A, vI x1.B, vI x1.Op, vI x1.A, vI x1.B, vI x1.Op, vI x1.A, vI x1.B] 29) (fun b => .slice (some ⟨b, 0, none⟩) 3 3) hS5 fun b2 w4 hx2 hS6 => ?_
       refine ge_nil fun a hF => hKK _ _ (RS.of2 (l := []) (by kernel_rfl) trivial trivial) ?_ a hF
       refine go_alt2 (fun KK hKK => ?_) ?_
       ·have hS7 := hS6.bring 1 rfl
        by_cases hc4 : ((List.replicate 0 (⟨0, 0, 0⟩ : SIns)) ++ l0).length + 3 ≤ 5864062014805
        ·rw [if_pos hc4] at h
         refine ge_appendL (α := SIns) (m := 0) (d := 16) (t := 22) (el := 29) (bytes := 24) (c1 := 3) (A1 := (some ⟨b2, 0, none⟩)) (x := (.tmp 11)) (y := (.tmp 15)) (ty := 22) (v := v2) (z := .agg #[vI 0, vI 0, vI 0]) (l := ((List.replicate 0 (⟨0, 0, 0⟩ : SIns)) ++ l0)) (us := ([x1, x1, x1] : List SIns)) (by kernel_rfl) (by kernel_rfl) (by kernel_rfl) (by kernel_rfl) (by kernel_rfl) rfl hS7 (hS7.rdBlk 1 ([x1, x1, x1] : List SIns) rfl rfl rfl) rfl (Nat.mul_le_of_le_div _ _ _ hc4) fun v3 w5 hS8 => ?_
         have hS9 : St w0 w5 [Own.of v3 29 (((List.replicate 0 (⟨0, 0, 0⟩ : SIns)) ++ l0) ++ ([x1, x1, x1] : List SIns)), Own.blk b2 (.cells #[vI x1.Op, vI x1.A, vI x1.B, vI x1.Op, vI x1.A, vI x1.B, vI x1.Op, vI x1.A, vI x1.B] 29 (0, 0)), Own.blk b1 (.cells #[vI x1.Op, vI x1.A, vI x1.B] 29 (0, 0))] := hS8
         refine ge_nil fun a hF => hKK _ _ (RS.of2 (l := [.loaded ⟨b1, 0, none⟩ (vI x1.Op), .loaded ⟨b1, 1, none⟩ (vI x1.A), .loaded ⟨b1, 2, none⟩ (vI x1.B), .loaded ⟨b1, 0, none⟩ (vI x1.Op), .loaded ⟨b1, 1, none⟩ (vI x1.A), .loaded ⟨b1, 2, none⟩ (vI x1.B), .loaded ⟨b1, 0, none⟩ (vI x1.Op), .loaded ⟨b1, 1, none⟩ (vI x1.A), .loaded ⟨b1, 2, none⟩ (vI x1.B)]) (by kernel_rfl) ⟨hS6.c 2, hS6.c 2, hS6.c 2, hS6.c 2, hS6.c 2, hS6.c 2, hS6.c 2, hS6.c 2, hS6.c 2, trivial⟩ ⟨hS9.c 2, hS9.c 2, hS9.c 2, hS9.c 2, hS9.c 2, hS9.c 2, hS9.c 2, hS9.c 2, hS9.c 2, trivial⟩) ?_ a hF
         refine go2_batch [11] (ans := []) (vs := [(5, v3)]) (l := []) (by kernel_rfl) trivial mem_nil ?_
         refine go_fin2 fun a hF => hK2 _ _ ?_ a hF
         refine ws fun K3 hK3 => ?_
         refine wr [(0, 0), (1, 0), (2, 0), (3, 0), (4, 0)] ?_
         refine gb0 [0, 1, 2] [(19, vI (l0.length : Int)), (18, .slice A0 l0.length c0), (17, v3)] ?_
         obtain ⟨Z1, cz1, rfl, hcp1⟩ := hS9.open2 0 rfl
         refine ge_sliceHi (d := 20) (ty := 22) (t := 22) (el := 29) (sz := 3) (m := ((((List.replicate 0 (⟨0, 0, 0⟩ : SIns)) ++ l0) ++ ([x1, x1, x1] : List SIns)).length)) (c := cz1) (hn := l0.length) (x := (.tmp 17)) (y := (.tmp 19)) (A := Z1) (k' := .i64) (hi := (l0.length : Int)) (by kernel_rfl) (by kernel_rfl) (by kernel_rfl) rfl (by kernel_rfl) (by kernel_rfl) (by have h0 := hcp1; simp only [List.length_append, List.length_cons, List.length_nil] at h0; omega) ?_
         refine gb0 [4] [(4, .slice Z1 l0.length cz1)] ?_
         refine gn hK3 ?_
         have hS10 := hS9.takeN 1
         obtain rfl := si h
         exact we_ret (pr0 [.tmp 4] [.slice Z1 l0.length cz1] ⟨Z1, cz1, rfl, hcp1, hS10⟩)
        ·rw [if_neg hc4] at h
         cases h
       exact go_nomore2
      exact go_nomore2
     ·rw [if_neg hc3] at h
      cases h
    refine go_alt2 (fun KK hKK => ?_) ?_
    ·refine ge_one2 ?_
     refine gw (some 15) (.cells #[vI x1.Op, vI x1.A, vI x1.B, vI x1.Op, vI x1.A, vI x1.B, vI x1.Op, vI x1.A, vI x1.B] 29) (fun b => .slice (some ⟨b, 0, none⟩) 3 3) hS3 fun b2 w3 hx2 hS4 => ?_
     refine ge_nil fun a hF => hKK _ _ (RS.of2 (l := []) (by kernel_rfl) trivial trivial) ?_ a hF
     refine go_alt2 (fun KK hKK => ?_) ?_
     ·have hS5 := hS4.bring 1 rfl
      by_cases hc3 : (List.replicate 0 (⟨0, 0, 0⟩ : SIns)).length + l0.length ≤ 5864062014805
      ·rw [if_pos hc3] at h
       refine ge_appendL (α := SIns) (m := 0) (d := 11) (t := 22) (el := 29) (bytes := 24) (c1 := c0) (A1 := A0) (x := (.tmp 9)) (y := (.tmp 10)) (ty := 22) (v := v1) (z := .agg #[vI 0, vI 0, vI 0]) (l := (List.replicate 0 (⟨0, 0, 0⟩ : SIns))) (us := l0) (by kernel_rfl) (by kernel_rfl) (by kernel_rfl) (by kernel_rfl) (by kernel_rfl) rfl hS5 (hS5.rd hR0) rfl (Nat.mul_le_of_le_div _ _ _ hc3) fun v2 w4 hS6 => ?_
       have hS7 : St w0 w4 [Own.of v2 29 ((List.replicate 0 (⟨0, 0, 0⟩ : SIns)) ++ l0), Own.blk b2 (.cells #[vI x1.Op, vI x1.A, vI x1.B, vI x1.Op, vI x1.A, vI x1.B, vI x1.Op, vI x1.A, vI x1.B] 29 (0, 0)), Own.blk b1 (.cells #[vI x1.Op, vI x1.A, vI x1.B] 29 (0, 0))] := hS6
       refine ge_nil fun a hF => hKK _ _ (RS.of2 (l := [.loaded ⟨b1, 0, none⟩ (vI x1.Op), .loaded ⟨b1, 1, none⟩ (vI x1.A), .loaded ⟨b1, 2, none⟩ (vI x1.B), .loaded ⟨b1, 0, none⟩ (vI x1.Op), .loaded ⟨b1, 1, none⟩ (vI x1.A), .loaded ⟨b1, 2, none⟩ (vI x1.B), .loaded ⟨b1, 0, none⟩ (vI x1.Op), .loaded ⟨b1, 1, none⟩ (vI x1.A), .loaded ⟨b1, 2, none⟩ (vI x1.B)]) (by kernel_rfl) ⟨hS4.c 2, hS4.c 2, hS4.c 2, hS4.c 2, hS4.c 2, hS4.c 2, hS4.c 2, hS4.c 2, hS4.c 2, trivial⟩ ⟨hS7.c 2, hS7.c 2, hS7.c 2, hS7.c 2, hS7.c 2, hS7.c 2, hS7.c 2, hS7.c 2, hS7.c 2, trivial⟩) ?_ a hF
       refine go_alt2 (fun KK hKK => ?_) ?_
       ·by_cases hc4 : ((List.replicate 0 (⟨0, 0, 0⟩ : SIns)) ++ l0).length + 3 ≤ 5864062014805
        ·rw [if_pos hc4] at h
         refine ge_appendL (α := SIns) (m := 0) (d := 16) (t := 22) (el := 29) (bytes := 24) (c1 := 3) (A1 := (some ⟨b2, 0, none⟩)) (x := (.tmp 11)) (y := (.tmp 15)) (ty := 22) (v := v2) (z := .agg #[vI 0, vI 0, vI 0]) (l := ((List.replicate 0 (⟨0, 0, 0⟩ : SIns)) ++ l0)) (us := ([x1, x1, x1] : List SIns)) (by kernel_rfl) (by kernel_rfl) (by kernel_rfl) (by kernel_rfl) (by kernel_rfl) rfl hS7 (hS7.rdBlk 1 ([x1, x1, x1] : List SIns) rfl rfl rfl) rfl (Nat.mul_le_of_le_div _ _ _ hc4) fun v3 w5 hS8 => ?_
         have hS9 : St w0 w5 [Own.of v3 29 (((List.replicate 0 (⟨0, 0, 0⟩ : SIns)) ++ l0) ++ ([x1, x1, x1] : List SIns)), Own.blk b2 (.cells #[vI x1.Op, vI x1.A, vI x1.B, vI x1.Op, vI x1.A, vI x1.B, vI x1.Op, vI x1.A, vI x1.B] 29 (0, 0)), Own.blk b1 (.cells #[vI x1.Op, vI x1.A, vI x1.B] 29 (0, 0))] := hS8
         refine ge_nil fun a hF => hKK _ _ (RS.of2 (l := [.loaded ⟨b1, 0, none⟩ (vI x1.Op), .loaded ⟨b1, 1, none⟩ (vI x1.A), .loaded ⟨b1, 2, none⟩ (vI x1.B), .loaded ⟨b1, 0, none⟩ (vI x1.Op), .loaded ⟨b1, 1, none⟩ (vI x1.A), .loaded ⟨b1, 2, none⟩ (vI x1.B), .loaded ⟨b1, 0, none⟩ (vI x1.Op), .loaded ⟨b1, 1, none⟩ (vI x1.A), .loaded ⟨b1, 2, none⟩ (vI x1.B)]) (by kernel_rfl) ⟨hS7.c 2, hS7.c 2, hS7.c 2, hS7.c 2, hS7.c 2, hS7.c 2, hS7.c 2, hS7.c 2, hS7.c 2, trivial⟩ ⟨hS9.c 2, hS9.c 2, hS9.c 2, hS9.c 2, hS9.c 2, hS9.c 2, hS9.c 2, hS9.c 2, hS9.c 2, trivial⟩) ?_ a hF
         refine go2_batch [11] (ans := []) (vs := [(5, v3)]) (l := []) (by kernel_rfl) trivial mem_nil ?_
         refine go_fin2 fun a hF => hK2 _ _ ?_ a hF
         refine ws fun K3 hK3 => ?_
         refine wr [(0, 0), (1, 0), (2, 0), (3, 0), (4, 0)] ?_
         refine gb0 [0, 1, 2] [(19, vI (l0.length : Int)), (18, .slice A0 l0.length c0), (17, v3)] ?_
         obtain ⟨Z1, cz1, rfl, hcp1⟩ := hS9.open2 0 rfl
         refine ge_sliceHi (d := 20) (ty := 22) (t := 22) (el := 29) (sz := 3) (m := ((((List.replicate 0 (⟨0, 0, 0⟩ : SIns)) ++ l0) ++ ([x1, x1, x1] : List SIns)).length)) (c := cz1) (hn := l0.length) (x := (.tmp 17)) (y := (.tmp 19)) (A := Z1) (k' := .i64) (hi := (l0.length : Int)) (by kernel_rfl) (by kernel_rfl) (by kernel_rfl) rfl (by kernel_rfl) (by kernel_rfl) (by have h0 := hcp1; simp only [List.length_append, List.length_cons, List.length_nil] at h0; omega) ?_
         refine gb0 [4] [(4, .slice Z1 l0.length cz1)] ?_
         refine gn hK3 ?_
         have hS10 := hS9.takeN 1
         obtain rfl := si h
         exact we_ret (pr0 [.tmp 4] [.slice Z1 l0.length cz1] ⟨Z1, cz1, rfl, hcp1, hS10⟩)
        ·rw [if_neg hc4] at h
         cases h
       exact go_nomore2
      ·rw [if_neg hc3] at h
       cases h
     exact go_nomore2
    exact go_nomore2
   refine go_alt2 (fun KK hKK => ?_) ?_
   ·refine ge_one2 ?_
    refine gw (some 15) (.cells #[vI x1.Op, vI x1.A, vI x1.B, vI x1.Op, vI x1.A, vI x1.B, vI x1.Op, vI x1.A, vI x1.B] 29) (fun b => .slice (some ⟨b, 0, none⟩) 3 3) hS2 fun b2 w2 hx2 hS3 => ?_
    refine ge_nil fun a hF => hKK _ _ (RS.of2 (l := []) (by kernel_rfl) trivial trivial) ?_ a hF
    refine go_alt2 (fun KK hKK => ?_) ?_
    ·refine ge_one2 ?_
     refine ge_make (α := SIns) (d := 9) (t := 22) (el := 29) (bytes := 24) (l := 0) (c := ((IntKind.i64.wrap ((l0.length : Int) + 3)).toNat)) (x := (.const (vI 0))) (y := (.tmp 8)) (ty := 22) (k1 := .i64) (k2 := .i64) (li := 0) (ci := (IntKind.i64.wrap ((l0.length : Int) + 3))) (z := .agg #[vI 0, vI 0, vI 0]) (z' := (⟨0, 0, 0⟩ : SIns)) (by kernel_rfl) (by kernel_rfl) (by kernel_rfl) rfl (Int.toNat_of_nonneg hc1).symm (by kernel_rfl) (by kernel_rfl) rfl hS3 (Nat.zero_le _) rfl (by omega) fun v1 w3 _ hS4 => ?_
     refine ge_nil fun a hF => hKK _ _ (RS.of2 (l := [.loaded ⟨b1, 0, none⟩ (vI x1.Op), .loaded ⟨b1, 1, none⟩ (vI x1.A), .loaded ⟨b1, 2, none⟩ (vI x1.B), .loaded ⟨b1, 0, none⟩ (vI x1.Op), .loaded ⟨b1, 1, none⟩ (vI x1.A), .loaded ⟨b1, 2, none⟩ (vI x1.B), .loaded ⟨b1, 0, none⟩ (vI x1.Op), .loaded ⟨b1, 1, none⟩ (vI x1.A), .loaded ⟨b1, 2, none⟩ (vI x1.B)]) (by kernel_rfl) ⟨hS3.c 1, hS3.c 1, hS3.c 1, hS3.c 1, hS3.c 1, hS3.c 1, hS3.c 1, hS3.c 1, hS3.c 1, trivial⟩ ⟨hS4.c 2, hS4.c 2, hS4.c 2, hS4.c 2, hS4.c 2, hS4.c 2, hS4.c 2, hS4.c 2, hS4.c 2, trivial⟩) ?_ a hF
     refine go_alt2 (fun KK hKK => ?_) ?_
     ·by_cases hc3 : (List.replicate 0 (⟨0, 0, 0⟩ : SIns)).length + l0.length ≤ 5864062014805
      ·rw [if_pos hc3] at h
       refine ge_appendL (α := SIns) (m := 0) (d := 11) (t := 22) (el := 29) (bytes := 24) (c1 := c0) (A1 := A0) (x := (.tmp 9)) (y := (.tmp 10)) (ty := 22) (v := v1) (z := .agg #[vI 0, vI 0, vI 0]) (l := (List.replicate 0 (⟨0, 0, 0⟩ : SIns))) (us := l0) (by kernel_rfl) (by kernel_rfl) (by kernel_rfl) (by kernel_rfl) (by kernel_rfl) rfl hS4 (hS4.rd hR0) rfl (Nat.mul_le_of_le_div _ _ _ hc3) fun v2 w4 hS5 => ?_
       have hS6 : St w0 w4 [Own.of v2 29 ((List.replicate 0 (⟨0, 0, 0⟩ : SIns)) ++ l0), Own.blk b2 (.cells #[vI x1.Op, vI x1.A, vI x1.B, vI x1.Op, vI x1.A, vI x1.B, vI x1.Op, vI x1.A, vI x1.B] 29 (0, 0)), Own.blk b1 (.cells #[vI x1.Op, vI x1.A, vI x1.B] 29 (0, 0))] := hS5
       refine ge_nil fun a hF => hKK _ _ (RS.of2 (l := [.loaded ⟨b1, 0, none⟩ (vI x1.Op), .loaded ⟨b1, 1, none⟩ (vI x1.A), .loaded ⟨b1, 2, none⟩ (vI x1.B), .loaded ⟨b1, 0, none⟩ (vI x1.Op), .loaded ⟨b1, 1, none⟩ (vI x1.A), .loaded ⟨b1, 2, none⟩ (vI x1.B), .loaded ⟨b1, 0, none⟩ (vI x1.Op), .loaded ⟨b1, 1, none⟩ (vI x1.A), .loaded ⟨b1, 2, none⟩ (vI x1.B)]) (by kernel_rfl) ⟨hS4.c 2, hS4.c 2, hS4.c 2, hS4.c 2, hS4.c 2, hS4.c 2, hS4.c 2, hS4.c 2, hS4.c 2, trivial⟩ ⟨hS6.c 2, hS6.c 2, hS6.c 2, hS6.c 2, hS6.c 2, hS6.c 2, hS6.c 2, hS6.c 2, hS6.c 2, trivial⟩) ?_ a hF
       refine go_alt2 (fun KK hKK => ?_) ?_
       ·by_cases hc4 : ((List.replicate 0 (⟨0, 0, 0⟩ : SIns)) ++ l0).length + 3 ≤ 5864062014805
        ·rw [if_pos hc4] at h
         refine ge_appendL (α := SIns) (m := 0) (d := 16) (t := 22) (el := 29) (bytes := 24) (c1 := 3) (A1 := (some ⟨b2, 0, none⟩)) (x := (.tmp 11)) (y := (.tmp 15)) (ty := 22) (v := v2) (z := .agg #[vI 0, vI 0, vI 0]) (l := ((List.replicate 0 (⟨0, 0, 0⟩ : SIns)) ++ l0)) (us := ([x1, x1, x1] : List SIns)) (by kernel_rfl) (by kernel_rfl) (by kernel_rfl) (by kernel_rfl) (by kernel_rfl) rfl hS6 (hS6.rdBlk 1 ([x1, x1, x1] : List SIns) rfl rfl rfl) rfl (Nat.mul_le_of_le_div _ _ _ hc4) fun v3 w5 hS7 => ?_
         have hS8 : St w0 w5 [Own.of v3 29 (((List.replicate 0 (⟨0, 0, 0⟩ : SIns)) ++ l0) ++ ([x1, x1, x1] : List SIns)), Own.blk b2 (.cells #[vI x1.Op, vI x1.A, vI x1.B, vI x1.Op, vI x1.A, vI x1.B, vI x1.Op, vI x1.A, vI x1.B] 29 (0, 0)), Own.blk b1 (.cells #[vI x1.Op, vI x1.A, vI x1.B] 29 (0, 0))] := hS7
         refine ge_nil fun a hF => hKK _ _ (RS.of2 (l := [.loaded ⟨b1, 0, none⟩ (vI x1.Op), .loaded ⟨b1, 1, none⟩ (vI x1.A), .loaded ⟨b1, 2, none⟩ (vI x1.B), .loaded ⟨b1, 0, none⟩ (vI x1.Op), .loaded ⟨b1, 1, none⟩ (vI x1.A), .loaded ⟨b1, 2, none⟩ (vI x1.B), .loaded ⟨b1, 0, none⟩ (vI x1.Op), .loaded ⟨b1, 1, none⟩ (vI x1.A), .loaded ⟨b1, 2, none⟩ (vI x1.B)]) (by kernel_rfl) ⟨hS6.c 2, hS6.c 2, hS6.c 2, hS6.c 2, hS6.c 2, hS6.c 2, hS6.c 2, hS6.c 2, hS6.c 2, trivial⟩ ⟨hS8.c 2, hS8.c 2, hS8.c 2, hS8.c 2, hS8.c 2, hS8.c 2, hS8.c 2, hS8.c 2, hS8.c 2, trivial⟩) ?_ a hF
         refine go2_batch [11] (ans := []) (vs := [(5, v3)]) (l := []) (by kernel_rfl) trivial mem_nil ?_
         refine go_fin2 fun a hF => hK2 _ _ ?_ a hF
         refine ws fun K3 hK3 => ?_
         refine wr [(0, 0), (1, 0), (2, 0), (3, 0), (4, 0)] ?_
         refine gb0 [0, 1, 2] [(19, vI (l0.length : Int)), (18, .slice A0 l0.length c0), (17, v3)] ?_
         obtain ⟨Z1, cz1, rfl, hcp1⟩ := hS8.open2 0 rfl
         refine ge_sliceHi (d := 20) (ty := 22) (t := 22) (el := 29) (sz := 3) (m := ((((List.replicate 0 (⟨0, 0, 0⟩ : SIns)) ++ l0) ++ ([x1, x1, x1] : List SIns)).length)) (c := cz1) (hn := l0.length) (x := (.tmp 17)) (y := (.tmp 19)) (A := Z1) (k' := .i64) (hi := (l0.length : Int)) (by kernel_rfl) (by kernel_rfl) (by kernel_rfl) rfl (by kernel_rfl) (by kernel_rfl) (by have h0 := hcp1; simp only [List.length_append, List.length_cons, List.length_nil] at h0; omega) ?_
         refine gb0 [4] [(4, .slice Z1 l0.length cz1)] ?_
         refine gn hK3 ?_
         have hS9 := hS8.takeN 1
         obtain rfl := si h
         exact we_ret (pr0 [.tmp 4] [.slice Z1 l0.length cz1] ⟨Z1, cz1, rfl, hcp1, hS9⟩)
        ·rw [if_neg hc4] at h
         cases h
       exact go_nomore2
      ·rw [if_neg hc3] at h
       cases h
     exact go_nomore2
    exact go_nomore2
   exact go_nomore2
  ·rw [if_neg hc2] at h
   cases h
 ·rw [if_neg hc1] at h
  cases h
theorem punctualsame_Lend_api_Ins_full (l0 : List SIns) (x1 : SIns) {r : List SIns} (h : punctualsame_Lend_api_Ins.f l0 x1 = some r) : r = l0 ++ [x1, x1, x1] := by
 unfold punctualsame_Lend_api_Ins.f at h
 repeat' split at h
 all_goals first | (exact (Option.some.inj h).symm) | cases h

/-! punctual/wcet.Held -/
abbrev wcet_Held.Post (w0 : World) (r : (List Int) × SFault) (e : Ending) (w : World) : Prop := ∃ (v0 : Value), e = .returned (.tuple #[v0, .agg #[vI r.2.Code, vI r.2.At]]) ∧ St w0 w [Own.of v0 3 r.1]
def wcet_Held.r0 (l0 : List SIns) (r1 : SBound × SFault) : Nat × (List Int) → Option ((Nat × (List Int)) ⊕ ((List Int) ⊕ ((List Int) × SFault)))
 | (i1, m1) =>
  if (i1 : Int) < (l0.length : Int) then
   match l0[i1]? with
   | none => none
   | some e1 =>
    if e1.Op = 16 then
     if 0 ≤ e1.A then
      match m1[(e1.A).toNat]? with
      | none => none
      | some e2 =>
       match r1.1.Rest[i1 + 1]? with
       | none => none
       | some e3 =>
        some (.inl ((i1 + 1), (m1.set ((e1.A).toNat) (gmax e2 e3))))
     else
      none
    else
     some (.inl ((i1 + 1), m1))
  else
   some (.inr (.inl m1))
def wcet_Held.f (K : Nat) (l0 : List SIns) : Option ((List Int) × SFault) :=
 match wcet_Analyse.f K l0 with
 | none => none
 | some r1 =>
  if r1.2.Code = 0 then
   match iter (wcet_Held.r0 l0 r1) K (0, (List.replicate 4 (0 : Int))) with
   | none => none
   | some (.inl m3) =>
    some (m3, (⟨0, 0⟩ : SFault))
   | some (.inr rr1) =>
    some rr1
  else
   some (([] : List Int), r1.2)
abbrev wcet_Held.A0 (w0 : World) (l0 : List SIns) (A0 : Option Addr) (c0 : Nat) (b1 : Nat) (r1 : SBound × SFault) (b2 : Nat) (Z1 : Option Addr) (cz1 : Nat) (Z2 : Option Addr) (cz2 : Nat) : (Nat × (List Int)) → Act → World → Prop := fun (s : Nat × (List Int)) a w => St w0 w [Own.blk b2 (.cells #[vI r1.1.Worst, (.slice Z1 r1.1.Rest.length cz1)] 42 (0, 0)), Own.blk b1 (.cells #[vI 0, vI 0] 25 (0, 0)), Own.of (.slice Z2 s.2.length cz2) 3 s.2, Own.of (.slice Z1 r1.1.Rest.length cz1) 3 r1.1.Rest] ∧ Frm 48 a [(3, pP b1 0), (4, pP b2 0), (6, (.slice Z2 s.2.length cz2)), (19, .slice A0 l0.length c0), (20, vI (l0.length : Int)), (21, vI (s.1 : Int))]
abbrev wcet_Held.B0 (w0 : World) (b1 : Nat) (Z2 : Option Addr) (cz2 : Nat) : ((List Int) ⊕ ((List Int) × SFault)) → Exit → Act → World → Prop := Exits 0 (fun (s : (List Int)) a w => St w0 w [Own.blk b1 (.cells #[vI 0, vI 0] 25 (0, 0)), Own.of (.slice Z2 s.length cz2) 3 s] ∧ Frm 48 a [(3, pP b1 0), (6, (.slice Z2 s.length cz2))]) (Rets Tryd.prog Tryd.f21 (wcet_Held.Post w0))
theorem wcet_Held_r0 (K : Nat) (w0 : World) (l0 : List SIns) (A0 : Option Addr) (c0 : Nat) (hR0 : RdL w0 A0 l0) (hL0 : l0.length ≤ c0) (b1 : Nat) (r1 : SBound × SFault) (b2 : Nat) (b3 : Nat) (Z1 : Option Addr) (cz1 : Nat) (hc1 : r1.2.Code = 0) (Z2 : Option Addr) (cz2 : Nat) (s : Nat × (List Int)) (o : (Nat × (List Int)) ⊕ ((List Int) ⊕ ((List Int) × SFault))) (h : wcet_Held.r0 l0 r1 s = some o) (a : Act) (w : World) (hA : wcet_Held.A0 w0 l0 A0 c0 b1 r1 b2 Z1 cz1 Z2 cz2 s a w) (Q : Exit → Act → World → Prop) (hQ : ∀ x a w, Outs (wcet_Held.A0 w0 l0 A0 c0 b1 r1 b2 Z1 cz1 Z2 cz2) (wcet_Held.B0 w0 b1 Z2 cz2) o x a w → Q x a w) : (subF Tryd.f21 [1, 1, 1, 1, 0, 1, 0, 0]).wp Tryd.prog Q a w := by
 obtain ⟨i1, m1⟩ := s
 obtain ⟨hS, hF⟩ := hA
 replace hS : St w0 w [Own.blk b2 (.cells #[vI r1.1.Worst, (.slice Z1 r1.1.Rest.length cz1)] 42 (0, 0)), Own.blk b1 (.cells #[vI 0, vI 0] 25 (0, 0)), Own.of (.slice Z2 m1.length cz2) 3 m1, Own.of (.slice Z1 r1.1.Rest.length cz1) 3 r1.1.Rest] := hS
 simp only [wcet_Held.r0] at h
 refine (?_ : WE Tryd.prog 48 (subF Tryd.f21 [1, 1, 1, 1, 0, 1, 0, 0]) Q [(3, pP b1 0), (4, pP b2 0), (6, (.slice Z2 m1.length cz2)), (19, .slice A0 l0.length c0), (20, vI (l0.length : Int)), (21, vI (i1 : Int))] w) a hF
 clear hF a
 refine ws fun K8 hK8 => ?_
 refine wr [(0, 0)] ?_
 refine gb0 [0] [(22, .bool (decide ((i1 : Int) < (l0.length : Int))))] ?_
 refine gn hK8 ?_
 refine ws fun K9 hK9 => ?_
 by_cases hc2 : (i1 : Int) < (l0.length : Int)
 ·rw [if_pos hc2] at h
  refine wk 22 (decide ((i1 : Int) < (l0.length : Int))) true (decide_eq_true hc2) ?_
  refine we_true (by kernel_rfl) ?_
  refine we_skip fun a hF => hK9 _ _ ?_ a hF
  refine ws fun K10 hK10 => ?_
  refine we_block ?_
  refine ws fun K11 hK11 => ?_
  refine wr [(0, 0), (1, 0), (2, 0), (3, 1), (4, 0), (5, 2)] ?_
  refine gb0 [0] [(23, vI (i1 : Int))] ?_
  rcases hx4 : l0[i1]? with _ | e1
  ·rw [hx4] at h; cases h
  rw [hx4] at h
  simp only [] at h
  refine gi 24 0 22 29 3 l0.length c0 (.tmp 19) (.tmp 21) A0 .i64 (i1 : Int) i1 ((hS.rd hR0).eqSome (pos_of_get hx4)) rfl (lt_of_get hx4) ?_
  refine gb [2] [(25, .agg #[vI e1.Op, vI e1.A, vI e1.B])] [.loaded ⟨blkOf A0, offOf A0 + i1 * 3, none⟩ (vI e1.Op), .loaded ⟨blkOf A0, offOf A0 + i1 * 3 + 1, none⟩ (vI e1.A), .loaded ⟨blkOf A0, offOf A0 + i1 * 3 + 2, none⟩ (vI e1.B)] ⟨RdL.cell (j := 0) (hS.rd hR0) hx4 rfl, RdL.cell (j := 1) (hS.rd hR0) hx4 rfl, RdL.cell (j := 2) (hS.rd hR0) hx4 rfl, trivial⟩ ?_
  refine gw (some 8) (.cells #[vI 0, vI 0, vI 0] 29) (fun b => pP b 0) hS fun b4 w8 hx5 hS18 => ?_
  refine gb0 [4] [(7, vI (i1 : Int))] ?_
  refine gs b4 0 #[vI 0, vI 0, vI 0] 29 [vI e1.Op, vI e1.A, vI e1.B] hS18 fun w9 hS19 => ?_
  have hS20 : St w0 w9 [Own.blk b4 (.cells #[vI e1.Op, vI e1.A, vI e1.B] 29 (0, 0)), Own.blk b2 (.cells #[vI r1.1.Worst, (.slice Z1 r1.1.Rest.length cz1)] 42 (0, 0)), Own.blk b1 (.cells #[vI 0, vI 0] 25 (0, 0)), Own.of (.slice Z2 m1.length cz2) 3 m1, Own.of (.slice Z1 r1.1.Rest.length cz1) 3 r1.1.Rest] := hS19
  refine gn hK11 ?_
  refine ws fun K12 hK12 => ?_
  refine wr [(0, 0), (1, 0), (2, 0)] ?_
  refine gb [0, 1, 2] [(28, .bool (e1.Op == 16)), (27, vI e1.Op), (26, pP b4 0)] [.loaded ⟨b4, 0, none⟩ (vI e1.Op)] ⟨hS20.c 0, trivial⟩ ?_
  refine gn hK12 ?_
  by_cases hc3 : e1.Op = 16
  ·rw [if_pos hc3] at h
   refine wk 28 (e1.Op == 16) true (beq_iff_eq.2 hc3) ?_
   refine we_true (by kernel_rfl) ?_
   refine we_draws (by kernel_rfl) [(0, 0), (1, 0), (2, 0), (3, 0), (4, 0), (5, 0), (6, 0), (7, 0), (8, 0), (9, 0), (10, 0), (11, 0), (12, 0), (13, 0), (14, 0), (15, 0), (16, 2)] (by kernel_rfl) ?_
   have hS21 := hS20.drew
   refine gb [0, 1, 2, 3, 4, 5] [(34, vI e1.A), (33, pP b4 1), (32, (.slice Z2 m1.length cz2)), (31, vI e1.A), (30, pP b4 1), (29, (.slice Z2 m1.length cz2))] [.loaded ⟨b4, 1, none⟩ (vI e1.A), .loaded ⟨b4, 1, none⟩ (vI e1.A)] ⟨hS21.c 0, hS21.c 0, trivial⟩ ?_
   by_cases hc4 : 0 ≤ e1.A
   ·rw [if_pos hc4] at h
    rcases hx6 : m1[(e1.A).toNat]? with _ | e2
    ·rw [hx6] at h; cases h
    rw [hx6] at h
    simp only [] at h
    refine gi 35 0 37 3 1 m1.length cz2 (.tmp 32) (.tmp 34) Z2 .i64 e1.A ((e1.A).toNat) ((hS21.rdAt 3 rfl).eqSome (pos_of_get hx6)) (Int.toNat_of_nonneg hc4).symm (lt_of_get hx6) ?_
    refine gb [7, 8, 9, 10] [(39, vI (i1 : Int)), (38, (.slice Z1 r1.1.Rest.length cz1)), (37, pP b2 1), (36, vI e2)] [.loaded ⟨blkOf Z2, offOf Z2 + ((e1.A).toNat) * 1, none⟩ (vI e2), .loaded ⟨b2, 1, none⟩ ((.slice Z1 r1.1.Rest.length cz1))] ⟨RdL.cell (j := 0) (hS21.rdAt 3 rfl) hx6 rfl, hS21.c 1, trivial⟩ ?_
    refine ge_addn (d := 40) (ty := 3) (x := (.tmp 39)) (y := (.const (vI 1))) (t := 3) (t2 := 3) (k := .i64) (m := i1) (by kernel_rfl) (by kernel_rfl) (by kernel_rfl) (by have h0 := hR0.small; omega) ?_
    rcases hx7 : r1.1.Rest[i1 + 1]? with _ | e3
    ·rw [hx7] at h; cases h
    rw [hx7] at h
    simp only [] at h
    refine gi 41 0 37 3 1 r1.1.Rest.length cz1 (.tmp 38) (.tmp 40) Z1 .i64 ((i1 + 1 : Nat) : Int) (i1 + 1) ((hS21.rdAt 4 rfl).eqSome (pos_of_get hx7)) rfl (lt_of_get hx7) ?_
    refine gb [13, 14] [(43, vI (gmax e2 e3)), (42, vI e3)] [.loaded ⟨blkOf Z1, offOf Z1 + (i1 + 1) * 1, none⟩ (vI e3)] ⟨RdL.cell (j := 0) (hS21.rdAt 4 rfl) hx7 rfl, trivial⟩ ?_
    refine gi 44 0 37 3 1 m1.length cz2 (.tmp 29) (.tmp 31) Z2 .i64 e1.A ((e1.A).toNat) ((hS21.rdAt 3 rfl).eqSome (pos_of_get hx6)) (Int.toNat_of_nonneg hc4).symm (lt_of_get hx6) ?_
    have hS22 := hS21.bring 3 rfl
    refine ge_seti (α := Int) (A := Z2) (nn := m1.length) (c := cz2) (t := 3) (l := m1) (x := e2) (x' := (gmax e2 e3)) (jn := ((e1.A).toNat)) (j := 0) (vs := [vI (gmax e2 e3)]) (l' := [.stored ⟨blkOf Z2, offOf Z2 + ((e1.A).toNat) * 1, none⟩ (vI (gmax e2 e3))]) hS22 (by kernel_rfl) (by kernel_rfl) hx6 rfl rfl rfl fun w10 hS23 => ?_
    have hS24 : St w0 w10 [Own.of (.slice Z2 m1.length cz2) 3 (m1.set ((e1.A).toNat) (gmax e2 e3)), Own.blk b4 (.cells #[vI e1.Op, vI e1.A, vI e1.B] 29 (0, 0)), Own.blk b2 (.cells #[vI r1.1.Worst, (.slice Z1 r1.1.Rest.length cz1)] 42 (0, 0)), Own.blk b1 (.cells #[vI 0, vI 0] 25 (0, 0)), Own.of (.slice Z1 r1.1.Rest.length cz1) 3 r1.1.Rest] := hS23
    have hE1 : m1.length = (m1.set ((e1.A).toNat) (gmax e2 e3)).length := hS24.lenAt 0 rfl
    have hS25 : St w0 w10 [Own.of (.slice Z2 (m1.set ((e1.A).toNat) (gmax e2 e3)).length cz2) 3 (m1.set ((e1.A).toNat) (gmax e2 e3)), Own.blk b4 (.cells #[vI e1.Op, vI e1.A, vI e1.B] 29 (0, 0)), Own.blk b2 (.cells #[vI r1.1.Worst, (.slice Z1 r1.1.Rest.length cz1)] 42 (0, 0)), Own.blk b1 (.cells #[vI 0, vI 0] 25 (0, 0)), Own.of (.slice Z1 r1.1.Rest.length cz1) 3 r1.1.Rest] := by rw [← hE1]; exact hS24
    refine ge_same (t := 6) (v := (.slice Z2 m1.length cz2)) (v' := (.slice Z2 (m1.set ((e1.A).toNat) (gmax e2 e3)).length cz2)) (by kernel_rfl) (by rw [hE1]) ?_
    refine ge_same (t := 29) (v := (.slice Z2 m1.length cz2)) (v' := (.slice Z2 (m1.set ((e1.A).toNat) (gmax e2 e3)).length cz2)) (by kernel_rfl) (by rw [hE1]) ?_
    refine ge_same (t := 32) (v := (.slice Z2 m1.length cz2)) (v' := (.slice Z2 (m1.set ((e1.A).toNat) (gmax e2 e3)).length cz2)) (by kernel_rfl) (by rw [hE1]) ?_
    refine gn hK10 ?_
    refine wr [(0, 0), (1, 0)] ?_
    refine ge_addn (d := 45) (ty := 3) (x := (.tmp 21)) (y := (.const (vI 1))) (t := 3) (t2 := 3) (k := .i64) (m := i1) (by kernel_rfl) (by kernel_rfl) (by kernel_rfl) (by have h0 := hR0.small; omega) ?_
    refine gb0 [1] [(21, vI ((i1 + 1 : Nat) : Int))] ?_
    have hS26 := hS25.bring 4 rfl
    have hS27 := hS26.bring 1 rfl
    have hS28 := hS27.bring 4 rfl
    have hS29 := hS28.bring 4 rfl
    have hS30 := hS29.takeN 4
    obtain rfl := si h
    exact ge_nil fun a hF => hQ _ _ _ (Outs.again ⟨hS30, hF.weaken ea⟩)
   ·rw [if_neg hc4] at h
    cases h
  ·rw [if_neg hc3] at h
   refine wk 28 (e1.Op == 16) false (beq_eq_false_iff_ne.2 hc3) ?_
   refine we_false (by kernel_rfl) ?_
   refine we_skip fun a hF => hK10 _ _ ?_ a hF
   refine wr [(0, 0), (1, 0)] ?_
   refine ge_addn (d := 45) (ty := 3) (x := (.tmp 21)) (y := (.const (vI 1))) (t := 3) (t2 := 3) (k := .i64) (m := i1) (by kernel_rfl) (by kernel_rfl) (by kernel_rfl) (by have h0 := hR0.small; omega) ?_
   refine gb0 [1] [(21, vI ((i1 + 1 : Nat) : Int))] ?_
   have hS31 := hS20.bring 4 rfl
   have hS32 := hS31.bring 4 rfl
   have hS33 := hS32.bring 4 rfl
   have hS34 := hS33.bring 4 rfl
   have hS35 := hS34.takeN 4
   obtain rfl := si h
   exact ge_nil fun a hF => hQ _ _ _ (Outs.again ⟨hS35, hF.weaken ea⟩)
 ·rw [if_neg hc2] at h
  refine wk 22 (decide ((i1 : Int) < (l0.length : Int))) false (decide_eq_false hc2) ?_
  refine we_false (by kernel_rfl) ?_
  have hS36 := hS.bring 2 rfl
  have hS37 := hS36.bring 2 rfl
  have hS38 := hS37.takeN 2
  obtain rfl := si h
  exact we_exit fun a hF => hQ _ _ _ (Outs.out nofun (Exits.here ⟨hS38, hF.weaken ea⟩))
theorem wcet_Held_ok (K : Nat) (l0 : List SIns) (A0 : Option Addr) (c0 : Nat) (w0 : World) (hR0 : RdL w0 A0 l0) (hL0 : l0.length ≤ c0) (r : (List Int) × SFault) (h : wcet_Held.f K l0 = some r) :
  Calls Tryd.prog 21 #[.slice A0 l0.length c0] w0 (wcet_Held.Post w0 r) := by
 have hS := St.start w0
 unfold wcet_Held.f at h
 refine calls_enter (n := 48) (args := [.slice A0 l0.length c0]) (fn := Tryd.f21) rfl rfl rfl rfl ?_
 show WE _ _ _ _ [(0, .slice A0 l0.length c0)] _
 refine ws fun K1 hK1 => ?_
 refine wr [(0, 0), (1, 1)] ?_
 refine gb0 [0] [(2, .slice none 0 0)] ?_
 refine gw (some 3) (.cells #[vI 0, vI 0] 25) (fun b => pP b 0) hS fun b1 w1 hx1 hS1 => ?_
 refine gn hK1 ?_
 refine ws fun K2 hK2 => ?_
 refine wr [(0, 0), (1, 1), (2, 0), (3, 0), (4, 0), (5, 1), (6, 1), (7, 2), (8, 2)] ?_
 rcases hq1 : wcet_Analyse.f K l0 with _ | r1
 ·rw [hq1] at h; cases h
 rw [hq1] at h
 simp only [] at h
 refine gb0 [0] [(10, .slice A0 l0.length c0)] ?_
 refine ge_call (d := some 11) (f := 20) (args := #[.slice A0 l0.length c0]) (by kernel_rfl) (wcet_Analyse_ok K l0 A0 c0 _ (hS1.rd hR0) hL0 _ hq1) ?_
 rintro _ w2 ⟨v1, rfl, hS2⟩
 refine ⟨_, rfl, hS2.below, ?_⟩
 have hS3 := hS1.call hS2
 refine gb0 [2, 3, 4] [(13, .agg #[vI r1.2.Code, vI r1.2.At]), (12, .agg #[vI r1.1.Worst, v1]), (9, .tuple #[.agg #[vI r1.1.Worst, v1], .agg #[vI r1.2.Code, vI r1.2.At]])] ?_
 refine gw (some 4) (.cells #[vI 0, .slice none 0 0] 42) (fun b => pP b 0) hS3 fun b2 w3 hx2 hS4 => ?_
 refine gw (some 5) (.cells #[vI 0, vI 0] 25) (fun b => pP b 0) hS4 fun b3 w4 hx3 hS5 => ?_
 obtain ⟨Z1, cz1, rfl⟩ := hS5.open 2 rfl
 have hS6 := hS5.bring 1 rfl
 refine gs b2 0 #[vI 0, .slice none 0 0] 42 [vI r1.1.Worst, (.slice Z1 r1.1.Rest.length cz1)] hS6 fun w5 hS7 => ?_
 have hS8 : St w0 w5 [Own.blk b2 (.cells #[vI r1.1.Worst, (.slice Z1 r1.1.Rest.length cz1)] 42 (0, 0)), Own.blk b3 (.cells #[vI 0, vI 0] 25 (0, 0)), Own.of (.slice Z1 r1.1.Rest.length cz1) 3 r1.1.Rest, Own.blk b1 (.cells #[vI 0, vI 0] 25 (0, 0))] := hS7
 have hS9 := hS8.bring 1 rfl
 refine gs b3 0 #[vI 0, vI 0] 25 [vI r1.2.Code, vI r1.2.At] hS9 fun w6 hS10 => ?_
 have hS11 : St w0 w6 [Own.blk b3 (.cells #[vI r1.2.Code, vI r1.2.At] 25 (0, 0)), Own.blk b2 (.cells #[vI r1.1.Worst, (.slice Z1 r1.1.Rest.length cz1)] 42 (0, 0)), Own.of (.slice Z1 r1.1.Rest.length cz1) 3 r1.1.Rest, Own.blk b1 (.cells #[vI 0, vI 0] 25 (0, 0))] := hS10
 refine gn hK2 ?_
 refine ws fun K3 hK3 => ?_
 refine ws fun K4 hK4 => ?_
 refine wr [(0, 0), (1, 0), (2, 0)] ?_
 refine gb [0, 1, 2] [(16, .bool (r1.2.Code != 0)), (15, vI r1.2.Code), (14, pP b3 0)] [.loaded ⟨b3, 0, none⟩ (vI r1.2.Code)] ⟨hS11.c 0, trivial⟩ ?_
 refine gn hK4 ?_
 by_cases hc1 : r1.2.Code = 0
 ·rw [if_pos hc1] at h
  refine wk 16 (r1.2.Code != 0) false (bne_eq_false_iff_eq.2 hc1) ?_
  refine we_false (by kernel_rfl) ?_
  refine we_skip fun a hF => hK3 _ _ ?_ a hF
  refine ws fun K5 hK5 => ?_
  refine wr [(0, 1), (1, 0)] ?_
  refine ge_make (α := Int) (d := 18) (t := 37) (el := 3) (bytes := 8) (l := 4) (c := 4) (x := (.const (vI 4))) (y := (.const (vI 4))) (ty := 37) (k1 := .i64) (k2 := .i64) (li := 4) (ci := 4) (z := vI 0) (z' := (0 : Int)) (by kernel_rfl) (by kernel_rfl) (by kernel_rfl) rfl rfl (by kernel_rfl) (by kernel_rfl) rfl hS11 (Nat.le_refl _) rfl (by omega) fun v2 w7 _ hS12 => ?_
  refine gb0 [1] [(6, v2)] ?_
  refine gn hK5 ?_
  refine ws fun K6 hK6 => ?_
  refine ws fun K7 hK7 => ?_
  refine wr [(0, 0), (1, 0), (2, 0)] ?_
  refine gb0 [0, 1, 2] [(21, vI 0), (20, vI (l0.length : Int)), (19, .slice A0 l0.length c0)] ?_
  refine gn hK7 ?_
  refine we_block ?_
  obtain ⟨Z2, cz2, rfl⟩ := hS12.open 0 rfl
  have hS13 := hS12.bring 3 rfl
  have hS14 := hS13.bring 1 rfl
  have hS15 := hS14.bring 4 rfl
  have hS16 := hS15.bring 4 rfl
  have hS17 := hS16.takeN 4
  rcases hq2 : iter (wcet_Held.r0 l0 r1) K (0, (List.replicate 4 (0 : Int))) with _ | (m3 | rr1)
  ·rw [hq2] at h; cases h
  ·rw [hq2] at h
   simp only [] at h
   refine we_iter (A := wcet_Held.A0 w0 l0 A0 c0 b1 r1 b2 Z1 cz1 Z2 cz2) (B := wcet_Held.B0 w0 b1 Z2 cz2) hq2 (fun a hF => ⟨hS17, hF.weaken ea⟩) (fun s o hf a w hA Q hQ => wcet_Held_r0 K w0 l0 A0 c0 hR0 hL0 b1 r1 b2 b3 Z1 cz1 hc1 Z2 cz2 s o hf a w hA Q hQ) ?_
   rintro _ a w11 _ ⟨rfl, hS39, hF⟩
   replace hS39 : St w0 w11 [Own.blk b1 (.cells #[vI 0, vI 0] 25 (0, 0)), Own.of (.slice Z2 m3.length cz2) 3 m3] := hS39
   refine hK6 [(3, pP b1 0), (6, (.slice Z2 m3.length cz2))] w11 ?_ a hF
   refine ws fun K13 hK13 => ?_
   refine wr [(0, 0), (1, 0), (2, 0), (3, 2)] ?_
   refine gb0 [0, 1, 2] [(2, (.slice Z2 m3.length cz2)), (47, .agg #[vI 0, vI 0]), (46, (.slice Z2 m3.length cz2))] ?_
   refine gs b1 0 #[vI 0, vI 0] 25 [vI 0, vI 0] hS39 fun w12 hS40 => ?_
   have hS41 : St w0 w12 [Own.blk b1 (.cells #[vI 0, vI 0] 25 (0, 0)), Own.of (.slice Z2 m3.length cz2) 3 m3] := hS40
   refine gn hK13 ?_
   have hS42 := hS41.bring 1 rfl
   have hS43 := hS42.takeN 1
   obtain rfl := si h
   exact we_ret (pr [.tmp 2, .cell 3 25] [(.slice Z2 m3.length cz2), .agg #[vI 0, vI 0]] [.loaded ⟨b1, 0, none⟩ (vI 0), .loaded ⟨b1, 1, none⟩ (vI 0)] ⟨hS41.c 0, hS41.c 0, trivial⟩ ⟨(.slice Z2 m3.length cz2), rfl, hS43⟩)
  ·rw [hq2] at h
   simp only [] at h
   refine we_iter (A := wcet_Held.A0 w0 l0 A0 c0 b1 r1 b2 Z1 cz1 Z2 cz2) (B := wcet_Held.B0 w0 b1 Z2 cz2) hq2 (fun a hF => ⟨hS17, hF.weaken ea⟩) (fun s o hf a w hA Q hQ => wcet_Held_r0 K w0 l0 A0 c0 hR0 hL0 b1 r1 b2 b3 Z1 cz1 hc1 Z2 cz2 s o hf a w hA Q hQ) ?_
   rintro _ a w1 _ ⟨rfl, hb⟩
   obtain rfl := si h
   exact hb
 ·rw [if_neg hc1] at h
  refine wk 16 (r1.2.Code != 0) true (bne_iff_ne.2 hc1) ?_
  refine we_true (by kernel_rfl) ?_
  refine ws fun K14 hK14 => ?_
  refine we_draws (by kernel_rfl) [(0, 0), (1, 0), (2, 2)] (by kernel_rfl) ?_
  have hS44 := hS11.drew
  refine gb [0, 1] [(2, .slice none 0 0), (17, .agg #[vI r1.2.Code, vI r1.2.At])] [.loaded ⟨b3, 0, none⟩ (vI r1.2.Code), .loaded ⟨b3, 1, none⟩ (vI r1.2.At)] ⟨hS44.c 0, hS44.c 0, trivial⟩ ?_
  have hS45 := hS44.bring 3 rfl
  refine gs b1 0 #[vI 0, vI 0] 25 [vI r1.2.Code, vI r1.2.At] hS45 fun w13 hS46 => ?_
  have hS47 : St w0 w13 [Own.blk b1 (.cells #[vI r1.2.Code, vI r1.2.At] 25 (0, 0)), Own.blk b3 (.cells #[vI r1.2.Code, vI r1.2.At] 25 (0, 0)), Own.blk b2 (.cells #[vI r1.1.Worst, (.slice Z1 r1.1.Rest.length cz1)] 42 (0, 0)), Own.of (.slice Z1 r1.1.Rest.length cz1) 3 r1.1.Rest] := hS46
  refine gn hK14 ?_
  have hS48 := hS47.nil (α := Int) 3
  have hS49 := hS48.takeN 1
  obtain rfl := si h
  exact we_ret (pr [.tmp 2, .cell 3 25] [(.slice none 0 0), .agg #[vI r1.2.Code, vI r1.2.At]] [.loaded ⟨b1, 0, none⟩ (vI r1.2.Code), .loaded ⟨b1, 1, none⟩ (vI r1.2.At)] ⟨hS48.c 1, hS48.c 1, trivial⟩ ⟨(.slice none 0 0), rfl, hS49⟩)

/-! punctual/punctualsame.Same[int] -/
abbrev punctualsame_Same_int.Post (w0 : World) (r : Bool) (e : Ending) (w : World) : Prop := e = .returned (.bool r) ∧ St w0 w []
def punctualsame_Same_int.r0 (l0 : List Int) (l1 : List Int) : Nat → Option (Nat ⊕ (Unit ⊕ Bool))
 | i1 =>
  if (i1 : Int) < (l0.length : Int) then
   match l0[i1]? with
   | none => none
   | some e1 =>
    match l1[i1]? with
    | none => none
    | some e2 =>
     if e1 = e2 then
      some (.inl (i1 + 1))
     else
      some (.inr (.inr false))
  else
   some (.inr (.inl ()))
def punctualsame_Same_int.f (K : Nat) (l0 : List Int) (l1 : List Int) : Option Bool :=
 if (l0.length : Int) = (l1.length : Int) then
  match iter (punctualsame_Same_int.r0 l0 l1) K 0 with
  | none => none
  | some (.inl _) =>
   some true
  | some (.inr rr1) =>
   some rr1
 else
  some false
abbrev punctualsame_Same_int.A0 (w0 : World) (l0 : List Int) (A0 : Option Addr) (c0 : Nat) (l1 : List Int) (A1 : Option Addr) (c1 : Nat) : Nat → Act → World → Prop := fun (s : Nat) a w => St w0 w [] ∧ Frm 26 a [(0, .slice A0 l0.length c0), (1, .slice A1 l1.length c1), (12, vI (l0.length : Int)), (13, vI (s : Int))]
abbrev punctualsame_Same_int.B0 (w0 : World) : (Unit ⊕ Bool) → Exit → Act → World → Prop := Exits 0 (fun (s : Unit) a w => St w0 w [] ∧ Frm 26 a []) (Rets Tryd.prog Tryd.f22 (punctualsame_Same_int.Post w0))
theorem punctualsame_Same_int_r0 (K : Nat) (w0 : World) (l0 : List Int) (A0 : Option Addr) (c0 : Nat) (l1 : List Int) (A1 : Option Addr) (c1 : Nat) (hR0 : RdL w0 A0 l0) (hL0 : l0.length ≤ c0) (hR1 : RdL w0 A1 l1) (hL1 : l1.length ≤ c1) (hc1 : (l0.length : Int) = (l1.length : Int)) (s : Nat) (o : Nat ⊕ (Unit ⊕ Bool)) (h : punctualsame_Same_int.r0 l0 l1 s = some o) (a : Act) (w : World) (hA : punctualsame_Same_int.A0 w0 l0 A0 c0 l1 A1 c1 s a w) (Q : Exit → Act → World → Prop) (hQ : ∀ x a w, Outs (punctualsame_Same_int.A0 w0 l0 A0 c0 l1 A1 c1) (punctualsame_Same_int.B0 w0) o x a w → Q x a w) : (subF Tryd.f22 [1, 1, 0, 1, 0, 0]).wp Tryd.prog Q a w := by
 obtain ⟨i1, hs⟩ : ∃ z, z = s := ⟨s, rfl⟩
 subst hs
 obtain ⟨hS, hF⟩ := hA
 replace hS : St w0 w [] := hS
 simp only [punctualsame_Same_int.r0] at h
 refine (?_ : WE Tryd.prog 26 (subF Tryd.f22 [1, 1, 0, 1, 0, 0]) Q [(0, .slice A0 l0.length c0), (1, .slice A1 l1.length c1), (12, vI (l0.length : Int)), (13, vI (i1 : Int))] w) a hF
 clear hF a
 refine ws fun K6 hK6 => ?_
 refine wr [(0, 0)] ?_
 refine gb0 [0] [(14, .bool (decide ((i1 : Int) < (l0.length : Int))))] ?_
 refine gn hK6 ?_
 refine ws fun K7 hK7 => ?_
 by_cases hc2 : (i1 : Int) < (l0.length : Int)
 ·rw [if_pos hc2] at h
  refine wk 14 (decide ((i1 : Int) < (l0.length : Int))) true (decide_eq_true hc2) ?_
  refine we_true (by kernel_rfl) ?_
  refine we_skip fun a hF => hK7 _ _ ?_ a hF
  refine ws fun K8 hK8 => ?_
  refine we_block ?_
  refine ws fun K9 hK9 => ?_
  refine wr [(0, 0), (1, 0)] ?_
  refine gb0 [0, 1] [(5, vI (i1 : Int)), (15, vI (i1 : Int))] ?_
  refine gn hK9 ?_
  refine ws fun K10 hK10 => ?_
  refine we_draws (by kernel_rfl) [(0, 0), (1, 0), (2, 0), (3, 0), (4, 0), (5, 0), (6, 0), (7, 0), (8, 0)] (by kernel_rfl) ?_
  have hS1 := hS.drew
  refine gb0 [0, 1] [(17, vI (i1 : Int)), (16, .slice A0 l0.length c0)] ?_
  rcases hx1 : l0[i1]? with _ | e1
  ·rw [hx1] at h; cases h
  rw [hx1] at h
  simp only [] at h
  refine gi 18 0 37 3 1 l0.length c0 (.tmp 16) (.tmp 17) A0 .i64 (i1 : Int) i1 ((hS1.rd hR0).eqSome (pos_of_get hx1)) rfl (lt_of_get hx1) ?_
  refine gb [3, 4, 5] [(21, vI (i1 : Int)), (20, .slice A1 l1.length c1), (19, vI e1)] [.loaded ⟨blkOf A0, offOf A0 + i1 * 1, none⟩ (vI e1)] ⟨RdL.cell (j := 0) (hS1.rd hR0) hx1 rfl, trivial⟩ ?_
  rcases hx2 : l1[i1]? with _ | e2
  ·rw [hx2] at h; cases h
  rw [hx2] at h
  simp only [] at h
  refine gi 22 0 37 3 1 l1.length c1 (.tmp 20) (.tmp 21) A1 .i64 (i1 : Int) i1 ((hS1.rd hR1).eqSome (pos_of_get hx2)) rfl (lt_of_get hx2) ?_
  refine gb [7, 8] [(24, .bool (e1 != e2)), (23, vI e2)] [.loaded ⟨blkOf A1, offOf A1 + i1 * 1, none⟩ (vI e2)] ⟨RdL.cell (j := 0) (hS1.rd hR1) hx2 rfl, trivial⟩ ?_
  refine gn hK10 ?_
  by_cases hc3 : e1 = e2
  ·rw [if_pos hc3] at h
   refine wk 24 (e1 != e2) false (bne_eq_false_iff_eq.2 hc3) ?_
   refine we_false (by kernel_rfl) ?_
   refine we_skip fun a hF => hK8 _ _ ?_ a hF
   refine wr [(0, 0), (1, 0)] ?_
   refine ge_addn (d := 25) (ty := 3) (x := (.tmp 13)) (y := (.const (vI 1))) (t := 3) (t2 := 3) (k := .i64) (m := i1) (by kernel_rfl) (by kernel_rfl) (by kernel_rfl) (by have h0 := hR0.small; omega) ?_
   refine gb0 [1] [(13, vI ((i1 + 1 : Nat) : Int))] ?_
   obtain rfl := si h
   exact ge_nil fun a hF => hQ _ _ _ (Outs.again ⟨hS1, hF.weaken ea⟩)
  ·rw [if_neg hc3] at h
   refine wk 24 (e1 != e2) true (bne_iff_ne.2 hc3) ?_
   refine we_true (by kernel_rfl) ?_
   refine ws fun K11 hK11 => ?_
   refine wr [(0, 0)] ?_
   refine gb0 [0] [(4, .bool false)] ?_
   refine gn hK11 ?_
   obtain rfl := si h
   exact we_ret fun a hF => hQ _ _ _ (Outs.out nofun (Exits.on ⟨rfl, (pr0 [.tmp 4] [.bool false] ⟨rfl, hS1⟩) a hF⟩))
 ·rw [if_neg hc2] at h
  refine wk 14 (decide ((i1 : Int) < (l0.length : Int))) false (decide_eq_false hc2) ?_
  refine we_false (by kernel_rfl) ?_
  obtain rfl := si h
  exact we_exit fun a hF => hQ _ _ _ (Outs.out nofun (Exits.here ⟨hS, hF.weaken trivial⟩))
theorem punctualsame_Same_int_ok (K : Nat) (l0 : List Int) (A0 : Option Addr) (c0 : Nat) (l1 : List Int) (A1 : Option Addr) (c1 : Nat) (w0 : World) (hR0 : RdL w0 A0 l0) (hL0 : l0.length ≤ c0) (hR1 : RdL w0 A1 l1) (hL1 : l1.length ≤ c1) (r : Bool) (h : punctualsame_Same_int.f K l0 l1 = some r) :
  Calls Tryd.prog 22 #[.slice A0 l0.length c0, .slice A1 l1.length c1] w0 (punctualsame_Same_int.Post w0 r) := by
 have hS := St.start w0
 unfold punctualsame_Same_int.f at h
 refine calls_enter (n := 26) (args := [.slice A0 l0.length c0, .slice A1 l1.length c1]) (fn := Tryd.f22) rfl rfl rfl rfl ?_
 show WE _ _ _ _ [(0, .slice A0 l0.length c0), (1, .slice A1 l1.length c1)] _
 refine ws fun K1 hK1 => ?_
 refine wr [(0, 0)] ?_
 refine gb0 [0] [(4, .bool false)] ?_
 refine gn hK1 ?_
 refine ws fun K2 hK2 => ?_
 refine ws fun K3 hK3 => ?_
 refine wr [(0, 0), (1, 0), (2, 0), (3, 0), (4, 0)] ?_
 refine gb0 [0, 1, 2, 3, 4] [(10, .bool ((l0.length : Int) != (l1.length : Int))), (9, vI (l1.length : Int)), (8, .slice A1 l1.length c1), (7, vI (l0.length : Int)), (6, .slice A0 l0.length c0)] ?_
 refine gn hK3 ?_
 by_cases hc1 : (l0.length : Int) = (l1.length : Int)
 ·rw [if_pos hc1] at h
  refine wk 10 ((l0.length : Int) != (l1.length : Int)) false (bne_eq_false_iff_eq.2 hc1) ?_
  refine we_false (by kernel_rfl) ?_
  refine we_skip fun a hF => hK2 _ _ ?_ a hF
  refine ws fun K4 hK4 => ?_
  refine ws fun K5 hK5 => ?_
  refine wr [(0, 0), (1, 0), (2, 0)] ?_
  refine gb0 [0, 1, 2] [(13, vI 0), (12, vI (l0.length : Int)), (11, .slice A0 l0.length c0)] ?_
  refine gn hK5 ?_
  refine we_block ?_
  rcases hq1 : iter (punctualsame_Same_int.r0 l0 l1) K 0 with _ | (_ | rr1)
  ·rw [hq1] at h; cases h
  ·rw [hq1] at h
   simp only [] at h
   refine we_iter (A := punctualsame_Same_int.A0 w0 l0 A0 c0 l1 A1 c1) (B := punctualsame_Same_int.B0 w0) hq1 (fun a hF => ⟨hS, hF.weaken ea⟩) (fun s o hf a w hA Q hQ => punctualsame_Same_int_r0 K w0 l0 A0 c0 l1 A1 c1 hR0 hL0 hR1 hL1 hc1 s o hf a w hA Q hQ) ?_
   rintro _ a w1 _ ⟨rfl, hS2, hF⟩
   replace hS2 : St w0 w1 [] := hS2
   refine hK4 [] w1 ?_ a hF
   refine ws fun K12 hK12 => ?_
   refine wr [(0, 0)] ?_
   refine gb0 [0] [(4, .bool true)] ?_
   refine gn hK12 ?_
   obtain rfl := si h
   exact we_ret (pr0 [.tmp 4] [.bool true] ⟨rfl, hS2⟩)
  ·rw [hq1] at h
   simp only [] at h
   refine we_iter (A := punctualsame_Same_int.A0 w0 l0 A0 c0 l1 A1 c1) (B := punctualsame_Same_int.B0 w0) hq1 (fun a hF => ⟨hS, hF.weaken ea⟩) (fun s o hf a w hA Q hQ => punctualsame_Same_int_r0 K w0 l0 A0 c0 l1 A1 c1 hR0 hL0 hR1 hL1 hc1 s o hf a w hA Q hQ) ?_
   rintro _ a w1 _ ⟨rfl, hb⟩
   obtain rfl := si h
   exact hb
 ·rw [if_neg hc1] at h
  refine wk 10 ((l0.length : Int) != (l1.length : Int)) true (bne_iff_ne.2 hc1) ?_
  refine we_true (by kernel_rfl) ?_
  refine ws fun K13 hK13 => ?_
  refine wr [(0, 0)] ?_
  refine gb0 [0] [(4, .bool false)] ?_
  refine gn hK13 ?_
  obtain rfl := si h
  exact we_ret (pr0 [.tmp 4] [.bool false] ⟨rfl, hS⟩)

/-! punctual/punctualsame.Still[punctual/api.Ins] -/
abbrev punctualsame_Still_api_Ins.Post (w0 : World) (r : Bool) (e : Ending) (w : World) : Prop := e = .returned (.bool r) ∧ St w0 w []
def punctualsame_Still_api_Ins.r0 (f0 : List SIns) (l1 : List SIns) (x2 : SIns) : Nat → Option (Nat ⊕ (Unit ⊕ Bool))
 | i1 =>
  if (i1 : Int) < (f0.length : Int) then
   match f0[i1]? with
   | none => none
   | some e1 =>
    if (i1 : Int) < (l1.length : Int) then
     match l1[i1]? with
     | none => none
     | some e2 =>
      if (SIns.eqb e1 e2) = true then
       if (i1 : Int) ≥ (l1.length : Int) then
        if (SIns.eqb e1 x2) = true then
         some (.inl (i1 + 1))
        else
         some (.inr (.inr false))
       else
        some (.inl (i1 + 1))
      else
       some (.inr (.inr false))
    else
     if (i1 : Int) ≥ (l1.length : Int) then
      if (SIns.eqb e1 x2) = true then
       some (.inl (i1 + 1))
      else
       some (.inr (.inr false))
     else
      some (.inl (i1 + 1))
  else
   some (.inr (.inl ()))
def punctualsame_Still_api_Ins.f (K : Nat) (f0 : List SIns) (l1 : List SIns) (x2 : SIns) : Option Bool :=
 if (IntKind.i64.wrap ((l1.length : Int) + 3)) = (f0.length : Int) then
  match iter (punctualsame_Still_api_Ins.r0 f0 l1 x2) K 0 with
  | none => none
  | some (.inl _) =>
   some true
  | some (.inr rr1) =>
   some rr1
 else
  none
abbrev punctualsame_Still_api_Ins.A0 (w0 : World) (f0 : List SIns) (A0 : Option Addr) (c0 : Nat) (l1 : List SIns) (A1 : Option Addr) (c1 : Nat) (x2 : SIns) (b1 : Nat) : Nat → Act → World → Prop := fun (s : Nat) a w => St w0 w [Own.blk b1 (.cells #[vI x2.Op, vI x2.A, vI x2.B] 29 (0, 0))] ∧ Frm 46 a [(1, .slice A1 l1.length c1), (5, pP b1 0), (15, .slice A0 f0.length c0), (16, vI (f0.length : Int)), (17, vI (s : Int))]
abbrev punctualsame_Still_api_Ins.B0 (w0 : World) : (Unit ⊕ Bool) → Exit → Act → World → Prop := Exits 0 (fun (s : Unit) a w => St w0 w [] ∧ Frm 46 a []) (Rets Tryd.prog Tryd.f12 (punctualsame_Still_api_Ins.Post w0))
theorem punctualsame_Still_api_Ins_r0 (K : Nat) (w0 : World) (f0 : List SIns) (A0 : Option Addr) (n0 : Nat) (c0 : Nat) (l1 : List SIns) (A1 : Option Addr) (c1 : Nat) (x2 : SIns) (hR0 : RdL w0 A0 f0) (hc0 : f0.length ≤ c0) (hR1 : RdL w0 A1 l1) (hL1 : l1.length ≤ c1) (b1 : Nat) (hc1 : (IntKind.i64.wrap ((l1.length : Int) + 3)) = (f0.length : Int)) (s : Nat) (o : Nat ⊕ (Unit ⊕ Bool)) (h : punctualsame_Still_api_Ins.r0 f0 l1 x2 s = some o) (a : Act) (w : World) (hA : punctualsame_Still_api_Ins.A0 w0 f0 A0 c0 l1 A1 c1 x2 b1 s a w) (Q : Exit → Act → World → Prop) (hQ : ∀ x a w, Outs (punctualsame_Still_api_Ins.A0 w0 f0 A0 c0 l1 A1 c1 x2 b1) (punctualsame_Still_api_Ins.B0 w0) o x a w → Q x a w) : (subF Tryd.f12 [1, 1, 0, 1, 0, 0]).wp Tryd.prog Q a w := by
 obtain ⟨i1, hs⟩ : ∃ z, z = s := ⟨s, rfl⟩
 subst hs
 obtain ⟨hS, hF⟩ := hA
 replace hS : St w0 w [Own.blk b1 (.cells #[vI x2.Op, vI x2.A, vI x2.B] 29 (0, 0))] := hS
 simp only [punctualsame_Still_api_Ins.r0] at h
 refine (?_ : WE Tryd.prog 46 (subF Tryd.f12 [1, 1, 0, 1, 0, 0]) Q [(1, .slice A1 l1.length c1), (5, pP b1 0), (15, .slice A0 f0.length c0), (16, vI (f0.length : Int)), (17, vI (i1 : Int))] w) a hF
 clear hF a
 refine ws fun K5 hK5 => ?_
 refine wr [(0, 0)] ?_
 refine gb0 [0] [(18, .bool (decide ((i1 : Int) < (f0.length : Int))))] ?_
 refine gn hK5 ?_
 refine ws fun K6 hK6 => ?_
 by_cases hc2 : (i1 : Int) < (f0.length : Int)
 ·rw [if_pos hc2] at h
  refine wk 18 (decide ((i1 : Int) < (f0.length : Int))) true (decide_eq_true hc2) ?_
  refine we_true (by kernel_rfl) ?_
  refine we_skip fun a hF => hK6 _ _ ?_ a hF
  refine ws fun K7 hK7 => ?_
  refine we_block ?_
  refine ws fun K8 hK8 => ?_
  refine wr [(0, 0), (1, 0), (2, 0), (3, 1), (4, 0), (5, 2)] ?_
  refine gb0 [0] [(19, vI (i1 : Int))] ?_
  rcases hx2 : f0[i1]? with _ | e1
  ·rw [hx2] at h; cases h
  rw [hx2] at h
  simp only [] at h
  refine gi 20 0 22 29 3 f0.length c0 (.tmp 15) (.tmp 17) A0 .i64 (i1 : Int) i1 ((hS.rd hR0).eqSome (pos_of_get hx2)) rfl (lt_of_get hx2) ?_
  refine gb [2] [(21, .agg #[vI e1.Op, vI e1.A, vI e1.B])] [.loaded ⟨blkOf A0, offOf A0 + i1 * 3, none⟩ (vI e1.Op), .loaded ⟨blkOf A0, offOf A0 + i1 * 3 + 1, none⟩ (vI e1.A), .loaded ⟨blkOf A0, offOf A0 + i1 * 3 + 2, none⟩ (vI e1.B)] ⟨RdL.cell (j := 0) (hS.rd hR0) hx2 rfl, RdL.cell (j := 1) (hS.rd hR0) hx2 rfl, RdL.cell (j := 2) (hS.rd hR0) hx2 rfl, trivial⟩ ?_
  refine gw (some 9) (.cells #[vI 0, vI 0, vI 0] 29) (fun b => pP b 0) hS fun b2 w2 hx3 hS2 => ?_
  refine gb0 [4] [(8, vI (i1 : Int))] ?_
  refine gs b2 0 #[vI 0, vI 0, vI 0] 29 [vI e1.Op, vI e1.A, vI e1.B] hS2 fun w3 hS3 => ?_
  have hS4 : St w0 w3 [Own.blk b2 (.cells #[vI e1.Op, vI e1.A, vI e1.B] 29 (0, 0)), Own.blk b1 (.cells #[vI x2.Op, vI x2.A, vI x2.B] 29 (0, 0))] := hS3
  refine gn hK8 ?_
  refine ws fun K9 hK9 => ?_
  refine we_draws (by kernel_rfl) [(0, 0), (1, 0), (2, 0), (3, 0), (4, 0), (5, 0), (6, 0), (7, 0), (8, 0), (9, 0), (10, 0), (11, 0), (12, 0), (13, 0), (14, 0), (15, 0), (16, 0), (17, 0), (18, 0), (19, 0), (20, 0), (21, 0), (22, 0)] (by kernel_rfl) ?_
  have hS5 := hS4.drew
  refine gb0 [0, 1, 2, 3, 4] [(26, .bool (decide ((i1 : Int) < (l1.length : Int)))), (25, .bool (decide ((i1 : Int) < (l1.length : Int)))), (24, vI (l1.length : Int)), (23, .slice A1 l1.length c1), (22, vI (i1 : Int))] ?_
  by_cases hc3 : (i1 : Int) < (l1.length : Int)
  ·rw [if_pos hc3] at h
   refine gk 26 (decide ((i1 : Int) < (l1.length : Int))) true (decide_eq_true hc3) ?_
   refine gb [5, 6, 7] [(29, vI (i1 : Int)), (28, .slice A1 l1.length c1), (27, .agg #[vI e1.Op, vI e1.A, vI e1.B])] [.loaded ⟨b2, 0, none⟩ (vI e1.Op), .loaded ⟨b2, 1, none⟩ (vI e1.A), .loaded ⟨b2, 2, none⟩ (vI e1.B)] ⟨hS5.c 0, hS5.c 0, hS5.c 0, trivial⟩ ?_
   rcases hx4 : l1[i1]? with _ | e2
   ·rw [hx4] at h; cases h
   rw [hx4] at h
   simp only [] at h
   refine gi 30 0 22 29 3 l1.length c1 (.tmp 28) (.tmp 29) A1 .i64 (i1 : Int) i1 ((hS5.rd hR1).eqSome (pos_of_get hx4)) rfl (lt_of_get hx4) ?_
   refine gb [9] [(31, .agg #[vI e2.Op, vI e2.A, vI e2.B])] [.loaded ⟨blkOf A1, offOf A1 + i1 * 3, none⟩ (vI e2.Op), .loaded ⟨blkOf A1, offOf A1 + i1 * 3 + 1, none⟩ (vI e2.A), .loaded ⟨blkOf A1, offOf A1 + i1 * 3 + 2, none⟩ (vI e2.B)] ⟨RdL.cell (j := 0) (hS5.rd hR1) hx4 rfl, RdL.cell (j := 1) (hS5.rd hR1) hx4 rfl, RdL.cell (j := 2) (hS5.rd hR1) hx4 rfl, trivial⟩ ?_
   refine ge_eqs (d := 32) (ty := 4) (op := .neq) (x := (.tmp 27)) (y := (.tmp 31)) (t := 29) (t2 := 29) (xs := #[vI e1.Op, vI e1.A, vI e1.B]) (ys := #[vI e2.Op, vI e2.A, vI e2.B]) (r := (SIns.eqb e1 e2)) (v := !(SIns.eqb e1 e2)) (by kernel_rfl) (by kernel_rfl) (by kernel_rfl) (by kernel_rfl) (by kernel_rfl) rfl ?_
   refine gb0 [11, 12] [(34, .bool (!(SIns.eqb e1 e2))), (33, .bool (!(SIns.eqb e1 e2)))] ?_
   by_cases hc4 : (SIns.eqb e1 e2) = true
   ·rw [if_pos hc4] at h
    refine gk 34 (!(SIns.eqb e1 e2)) false (congrArg (fun z => !z) hc4) ?_
    refine gb0 [13, 14, 15, 16, 17] [(39, .bool (decide ((i1 : Int) ≥ (l1.length : Int)))), (38, .bool (decide ((i1 : Int) ≥ (l1.length : Int)))), (37, vI (l1.length : Int)), (36, .slice A1 l1.length c1), (35, vI (i1 : Int))] ?_
    by_cases hc5 : (i1 : Int) ≥ (l1.length : Int)
    ·rw [if_pos hc5] at h
     refine gk 39 (decide ((i1 : Int) ≥ (l1.length : Int))) true (decide_eq_true hc5) ?_
     refine gb [18, 19] [(41, .agg #[vI x2.Op, vI x2.A, vI x2.B]), (40, .agg #[vI e1.Op, vI e1.A, vI e1.B])] [.loaded ⟨b2, 0, none⟩ (vI e1.Op), .loaded ⟨b2, 1, none⟩ (vI e1.A), .loaded ⟨b2, 2, none⟩ (vI e1.B), .loaded ⟨b1, 0, none⟩ (vI x2.Op), .loaded ⟨b1, 1, none⟩ (vI x2.A), .loaded ⟨b1, 2, none⟩ (vI x2.B)] ⟨hS5.c 0, hS5.c 0, hS5.c 0, hS5.c 1, hS5.c 1, hS5.c 1, trivial⟩ ?_
     refine ge_eqs (d := 42) (ty := 4) (op := .neq) (x := (.tmp 40)) (y := (.tmp 41)) (t := 29) (t2 := 29) (xs := #[vI e1.Op, vI e1.A, vI e1.B]) (ys := #[vI x2.Op, vI x2.A, vI x2.B]) (r := (SIns.eqb e1 x2)) (v := !(SIns.eqb e1 x2)) (by kernel_rfl) (by kernel_rfl) (by kernel_rfl) (by kernel_rfl) (by kernel_rfl) rfl ?_
     refine gb0 [21, 22] [(44, .bool (!(SIns.eqb e1 x2))), (43, .bool (!(SIns.eqb e1 x2)))] ?_
     refine gn hK9 ?_
     by_cases hc6 : (SIns.eqb e1 x2) = true
     ·rw [if_pos hc6] at h
      refine wk 44 (!(SIns.eqb e1 x2)) false (congrArg (fun z => !z) hc6) ?_
      refine we_false (by kernel_rfl) ?_
      refine we_skip fun a hF => hK7 _ _ ?_ a hF
      refine wr [(0, 0), (1, 0)] ?_
      refine ge_addn (d := 45) (ty := 3) (x := (.tmp 17)) (y := (.const (vI 1))) (t := 3) (t2 := 3) (k := .i64) (m := i1) (by kernel_rfl) (by kernel_rfl) (by kernel_rfl) (by have h0 := hR0.small; omega) ?_
      refine gb0 [1] [(17, vI ((i1 + 1 : Nat) : Int))] ?_
      have hS6 := hS5.bring 1 rfl
      have hS7 := hS6.takeN 1
      obtain rfl := si h
      exact ge_nil fun a hF => hQ _ _ _ (Outs.again ⟨hS7, hF.weaken ea⟩)
     ·rw [if_neg hc6] at h
      refine wk 44 (!(SIns.eqb e1 x2)) true (congrArg (fun z => !z) (Bool.eq_false_iff.2 hc6)) ?_
      refine we_true (by kernel_rfl) ?_
      refine ws fun K10 hK10 => ?_
      refine wr [(0, 0)] ?_
      refine gb0 [0] [(6, .bool false)] ?_
      refine gn hK10 ?_
      have hS8 := hS5.takeN 0
      obtain rfl := si h
      exact we_ret fun a hF => hQ _ _ _ (Outs.out nofun (Exits.on ⟨rfl, (pr0 [.tmp 6] [.bool false] ⟨rfl, hS8⟩) a hF⟩))
    ·rw [if_neg hc5] at h
     refine gk 39 (decide ((i1 : Int) ≥ (l1.length : Int))) false (decide_eq_false hc5) ?_
     refine gb0 [18, 19, 20, 21, 22] [(44, .bool false), (43, .bool false), (42, undef), (41, undef), (40, undef)] ?_
     refine gn hK9 ?_
     refine we_false (by kernel_rfl) ?_
     refine we_skip fun a hF => hK7 _ _ ?_ a hF
     refine wr [(0, 0), (1, 0)] ?_
     refine ge_addn (d := 45) (ty := 3) (x := (.tmp 17)) (y := (.const (vI 1))) (t := 3) (t2 := 3) (k := .i64) (m := i1) (by kernel_rfl) (by kernel_rfl) (by kernel_rfl) (by have h0 := hR0.small; omega) ?_
     refine gb0 [1] [(17, vI ((i1 + 1 : Nat) : Int))] ?_
     have hS9 := hS5.bring 1 rfl
     have hS10 := hS9.takeN 1
     obtain rfl := si h
     exact ge_nil fun a hF => hQ _ _ _ (Outs.again ⟨hS10, hF.weaken ea⟩)
   ·rw [if_neg hc4] at h
    refine gk 34 (!(SIns.eqb e1 e2)) true (congrArg (fun z => !z) (Bool.eq_false_iff.2 hc4)) ?_
    refine gb0 [13, 14, 15, 16, 17, 18, 19, 20, 21, 22] [(44, .bool true), (43, undef), (42, undef), (41, undef), (40, undef), (39, undef), (38, undef), (37, undef), (36, undef), (35, undef)] ?_
    refine gn hK9 ?_
    refine we_true (by kernel_rfl) ?_
    refine ws fun K11 hK11 => ?_
    refine wr [(0, 0)] ?_
    refine gb0 [0] [(6, .bool false)] ?_
    refine gn hK11 ?_
    have hS11 := hS5.takeN 0
    obtain rfl := si h
    exact we_ret fun a hF => hQ _ _ _ (Outs.out nofun (Exits.on ⟨rfl, (pr0 [.tmp 6] [.bool false] ⟨rfl, hS11⟩) a hF⟩))
  ·rw [if_neg hc3] at h
   refine gk 26 (decide ((i1 : Int) < (l1.length : Int))) false (decide_eq_false hc3) ?_
   refine gb0 [5, 6, 7, 8, 9, 10, 11, 12, 13, 14, 15, 16, 17] [(39, .bool (decide ((i1 : Int) ≥ (l1.length : Int)))), (38, .bool (decide ((i1 : Int) ≥ (l1.length : Int)))), (37, vI (l1.length : Int)), (36, .slice A1 l1.length c1), (35, vI (i1 : Int)), (34, .bool false), (33, .bool false), (32, undef), (31, undef), (30, undef), (29, undef), (28, undef), (27, undef)] ?_
   by_cases hc7 : (i1 : Int) ≥ (l1.length : Int)
   ·rw [if_pos hc7] at h
    refine gk 39 (decide ((i1 : Int) ≥ (l1.length : Int))) true (decide_eq_true hc7) ?_
    refine gb [18, 19] [(41, .agg #[vI x2.Op, vI x2.A, vI x2.B]), (40, .agg #[vI e1.Op, vI e1.A, vI e1.B])] [.loaded ⟨b2, 0, none⟩ (vI e1.Op), .loaded ⟨b2, 1, none⟩ (vI e1.A), .loaded ⟨b2, 2, none⟩ (vI e1.B), .loaded ⟨b1, 0, none⟩ (vI x2.Op), .loaded ⟨b1, 1, none⟩ (vI x2.A), .loaded ⟨b1, 2, none⟩ (vI x2.B)] ⟨hS5.c 0, hS5.c 0, hS5.c 0, hS5.c 1, hS5.c 1, hS5.c 1, trivial⟩ ?_
    refine ge_eqs (d := 42) (ty := 4) (op := .neq) (x := (.tmp 40)) (y := (.tmp 41)) (t := 29) (t2 := 29) (xs := #[vI e1.Op, vI e1.A, vI e1.B]) (ys := #[vI x2.Op, vI x2.A, vI x2.B]) (r := (SIns.eqb e1 x2)) (v := !(SIns.eqb e1 x2)) (by kernel_rfl) (by kernel_rfl) (by kernel_rfl) (by kernel_rfl) (by kernel_rfl) rfl ?_
    refine gb0 [21, 22] [(44, .bool (!(SIns.eqb e1 x2))), (43, .bool (!(SIns.eqb e1 x2)))] ?_
    refine gn hK9 ?_
    by_cases hc8 : (SIns.eqb e1 x2) = true
    ·rw [if_pos hc8] at h
     refine wk 44 (!(SIns.eqb e1 x2)) false (congrArg (fun z => !z) hc8) ?_
     refine we_false (by kernel_rfl) ?_
     refine we_skip fun a hF => hK7 _ _ ?_ a hF
     refine wr [(0, 0), (1, 0)] ?_
     refine ge_addn (d := 45) (ty := 3) (x := (.tmp 17)) (y := (.const (vI 1))) (t := 3) (t2 := 3) (k := .i64) (m := i1) (by kernel_rfl) (by kernel_rfl) (by kernel_rfl) (by have h0 := hR0.small; omega) ?_
     refine gb0 [1] [(17, vI ((i1 + 1 : Nat) : Int))] ?_
     have hS12 := hS5.bring 1 rfl
     have hS13 := hS12.takeN 1
     obtain rfl := si h
     exact ge_nil fun a hF => hQ _ _ _ (Outs.again ⟨hS13, hF.weaken ea⟩)
    ·rw [if_neg hc8] at h
     refine wk 44 (!(SIns.eqb e1 x2)) true (congrArg (fun z => !z) (Bool.eq_false_iff.2 hc8)) ?_
     refine we_true (by kernel_rfl) ?_
     refine ws fun K12 hK12 => ?_
     refine wr [(0, 0)] ?_
     refine gb0 [0] [(6, .bool false)] ?_
     refine gn hK12 ?_
     have hS14 := hS5.takeN 0
     obtain rfl := si h
     exact we_ret fun a hF => hQ _ _ _ (Outs.out nofun (Exits.on ⟨rfl, (pr0 [.tmp 6] [.bool false] ⟨rfl, hS14⟩) a hF⟩))
   ·rw [if_neg hc7] at h
    refine gk 39 (decide ((i1 : Int) ≥ (l1.length : Int))) false (decide_eq_false hc7) ?_
    refine gb0 [18, 19, 20, 21, 22] [(44, .bool false), (43, .bool false), (42, undef), (41, undef), (40, undef)] ?_
    refine gn hK9 ?_
    refine we_false (by kernel_rfl) ?_
    refine we_skip fun a hF => hK7 _ _ ?_ a hF
    refine wr [(0, 0), (1, 0)] ?_
    refine ge_addn (d := 45) (ty := 3) (x := (.tmp 17)) (y := (.const (vI 1))) (t := 3) (t2 := 3) (k := .i64) (m := i1) (by kernel_rfl) (by kernel_rfl) (by kernel_rfl) (by have h0 := hR0.small; omega) ?_
    refine gb0 [1] [(17, vI ((i1 + 1 : Nat) : Int))] ?_
    have hS15 := hS5.bring 1 rfl
    have hS16 := hS15.takeN 1
    obtain rfl := si h
    exact ge_nil fun a hF => hQ _ _ _ (Outs.again ⟨hS16, hF.weaken ea⟩)
 ·rw [if_neg hc2] at h
  refine wk 18 (decide ((i1 : Int) < (f0.length : Int))) false (decide_eq_false hc2) ?_
  refine we_false (by kernel_rfl) ?_
  have hS17 := hS.takeN 0
  obtain rfl := si h
  exact we_exit fun a hF => hQ _ _ _ (Outs.out nofun (Exits.here ⟨hS17, hF.weaken trivial⟩))
theorem punctualsame_Still_api_Ins_ok (K : Nat) (f0 : List SIns) (A0 : Option Addr) (n0 : Nat) (c0 : Nat) (l1 : List SIns) (A1 : Option Addr) (c1 : Nat) (x2 : SIns) (w0 : World) (hR0 : RdL w0 A0 f0) (hc0 : f0.length ≤ c0) (hR1 : RdL w0 A1 l1) (hL1 : l1.length ≤ c1) (r : Bool) (h : punctualsame_Still_api_Ins.f K f0 l1 x2 = some r) :
  Calls Tryd.prog 12 #[.slice A0 n0 c0, .slice A1 l1.length c1, .agg #[vI x2.Op, vI x2.A, vI x2.B]] w0 (punctualsame_Still_api_Ins.Post w0 r) := by
 have hS := St.start w0
 unfold punctualsame_Still_api_Ins.f at h
 refine calls_enter (n := 46) (args := [.slice A0 n0 c0, .slice A1 l1.length c1, .agg #[vI x2.Op, vI x2.A, vI x2.B]]) (fn := Tryd.f12) rfl rfl rfl rfl ?_
 show WE _ _ _ _ [(0, .slice A0 n0 c0), (1, .slice A1 l1.length c1), (2, .agg #[vI x2.Op, vI x2.A, vI x2.B])] _
 refine ws fun K1 hK1 => ?_
 refine wr [(0, 1), (1, 0)] ?_
 refine gw (some 5) (.cells #[vI x2.Op, vI x2.A, vI x2.B] 29) (fun b => pP b 0) hS fun b1 w1 hx1 hS1 => ?_
 refine gb0 [1] [(6, .bool false)] ?_
 refine gn hK1 ?_
 refine ws fun K2 hK2 => ?_
 refine wr [(0, 0), (1, 0), (2, 0), (3, 0), (4, 0), (5, 0)] ?_
 refine gb0 [0, 1, 2, 3] [(13, vI (IntKind.i64.wrap ((l1.length : Int) + 3))), (12, vI (l1.length : Int)), (11, .slice A1 l1.length c1), (10, .slice A0 n0 c0)] ?_
 by_cases hc1 : (IntKind.i64.wrap ((l1.length : Int) + 3)) = (f0.length : Int)
 ·rw [if_pos hc1] at h
  refine ge_sliceHi (d := 14) (ty := 22) (t := 22) (el := 29) (sz := 3) (m := n0) (c := c0) (hn := f0.length) (x := (.tmp 10)) (y := (.tmp 13)) (A := A0) (k' := .i64) (hi := (IntKind.i64.wrap ((l1.length : Int) + 3))) (by kernel_rfl) (by kernel_rfl) (by kernel_rfl) hc1 (by kernel_rfl) (by kernel_rfl) hc0 ?_
  refine gb0 [5] [(7, .slice A0 f0.length c0)] ?_
  refine gn hK2 ?_
  refine ws fun K3 hK3 => ?_
  refine ws fun K4 hK4 => ?_
  refine wr [(0, 0), (1, 0), (2, 0)] ?_
  refine gb0 [0, 1, 2] [(17, vI 0), (16, vI (f0.length : Int)), (15, .slice A0 f0.length c0)] ?_
  refine gn hK4 ?_
  refine we_block ?_
  rcases hq1 : iter (punctualsame_Still_api_Ins.r0 f0 l1 x2) K 0 with _ | (_ | rr1)
  ·rw [hq1] at h; cases h
  ·rw [hq1] at h
   simp only [] at h
   refine we_iter (A := punctualsame_Still_api_Ins.A0 w0 f0 A0 c0 l1 A1 c1 x2 b1) (B := punctualsame_Still_api_Ins.B0 w0) hq1 (fun a hF => ⟨hS1, hF.weaken ea⟩) (fun s o hf a w hA Q hQ => punctualsame_Still_api_Ins_r0 K w0 f0 A0 n0 c0 l1 A1 c1 x2 hR0 hc0 hR1 hL1 b1 hc1 s o hf a w hA Q hQ) ?_
   rintro _ a w4 _ ⟨rfl, hS18, hF⟩
   replace hS18 : St w0 w4 [] := hS18
   refine hK3 [] w4 ?_ a hF
   refine ws fun K13 hK13 => ?_
   refine wr [(0, 0)] ?_
   refine gb0 [0] [(6, .bool true)] ?_
   refine gn hK13 ?_
   obtain rfl := si h
   exact we_ret (pr0 [.tmp 6] [.bool true] ⟨rfl, hS18⟩)
  ·rw [hq1] at h
   simp only [] at h
   refine we_iter (A := punctualsame_Still_api_Ins.A0 w0 f0 A0 c0 l1 A1 c1 x2 b1) (B := punctualsame_Still_api_Ins.B0 w0) hq1 (fun a hF => ⟨hS1, hF.weaken ea⟩) (fun s o hf a w hA Q hQ => punctualsame_Still_api_Ins_r0 K w0 f0 A0 n0 c0 l1 A1 c1 x2 hR0 hc0 hR1 hL1 b1 hc1 s o hf a w hA Q hQ) ?_
   rintro _ a w1 _ ⟨rfl, hb⟩
   obtain rfl := si h
   exact hb
 ·rw [if_neg hc1] at h
  cases h

/-! punctual/punctualsame.Spoil[int] -/
theorem punctualsame_Spoil_int_ok (w0 w : World) {L : List Own} (A : Option Addr) (n c : Nat) (l : List Int) (hS : St w0 w (Own.of (.slice A n c) 3 l :: L)) : Calls Tryd.prog 23 #[.slice A n c] w (fun e w' => e = .returned (.tuple #[]) ∧ St w0 w' L) := by
 refine calls_enter (n := 6) (args := [.slice A n c]) (fn := Tryd.f23) rfl rfl rfl rfl ?_
 show WE _ _ _ _ [(0, .slice A n c)] _
 refine wr [(0, 0), (1, 0), (2, 0), (3, 0), (4, 2)] ?_
 refine gb0 [0, 1, 2] [(4, vI (c : Int)), (3, .slice A n c), (2, .slice A n c)] ?_
 refine ge_sliceHi (d := 5) (ty := 37) (t := 37) (el := 3) (sz := 1) (m := n) (c := c) (hn := c) (x := (.tmp 2)) (y := (.tmp 4)) (A := A) (k' := .i64) (hi := (c : Int)) (by kernel_rfl) (by kernel_rfl) (by kernel_rfl) rfl (by kernel_rfl) (by kernel_rfl) (Nat.le_refl _) ?_
 refine ge_clear (α := Int) (m := 0) (t := 37) (el := 3) (c := c) (k := n) (bytes := 8) (x := (.tmp 5)) (ty := 0) (A := A) (z := vI 0) (l := l) (by kernel_rfl) (by kernel_rfl) (by kernel_rfl) (by kernel_rfl) rfl rfl hS fun w1 hS1 => ?_
 exact ge_nil (pe0 [] [] ⟨rfl, hS1⟩)

/-! punctual/punctuallaw.WcetTells -/
abbrev WcetTells.Post (w0 : World) (r : Bool) (e : Ending) (w : World) : Prop := e = .returned (.bool r) ∧ St w0 w []
def WcetTells.r0 (K : Nat) (l0 : List SIns) (r2 : SBound × SFault) (r3 : (List Int) × SFault) : Nat → Option (Nat ⊕ (Unit ⊕ Bool))
 | i1 =>
  if (i1 : Int) < 2 then
   match wcet_Analyse.f K l0 with
   | none => none
   | some r5 =>
    match wcet_Held.f K l0 with
    | none => none
    | some r6 =>
     if (SFault.eqb r5.2 r2.2) = true then
      if r5.1.Worst = r2.1.Worst then
       match punctualsame_Same_int.f K r5.1.Rest r2.1.Rest with
       | none => none
       | some r7 =>
        if r7 = true then
         if (SFault.eqb r6.2 r3.2) = true then
          match punctualsame_Same_int.f K r6.1 r3.1 with
          | none => none
          | some r8 =>
           if r8 = true then
            match punctualsame_Still_api_Ins.f K (l0 ++ [(⟨(-1), (-2), (-3)⟩ : SIns), (⟨(-1), (-2), (-3)⟩ : SIns), (⟨(-1), (-2), (-3)⟩ : SIns)]) l0 (⟨(-1), (-2), (-3)⟩ : SIns) with
            | none => none
            | some r9 =>
             if r9 = true then
              some (.inl (i1 + 1))
             else
              some (.inr (.inr false))
           else
            some (.inr (.inr false))
         else
          some (.inr (.inr false))
        else
         some (.inr (.inr false))
      else
       some (.inr (.inr false))
     else
      some (.inr (.inr false))
  else
   some (.inr (.inl ()))
def WcetTells.f (K : Nat) (l0 : List SIns) : Option Bool :=
 match timed.f K with
 | none => none
 | some r1 =>
  if r1 = true then
   if (l0.length : Int) > 3000 then
    some true
   else
    match punctualref_Worst.f K l0 with
    | none => none
    | some r2 =>
     match punctualref_LockTimes.f K l0 with
     | none => none
     | some r3 =>
      match punctualsame_Lend_api_Ins.f l0 (⟨(-1), (-2), (-3)⟩ : SIns) with
      | none => none
      | some _ =>
       match iter (WcetTells.r0 K l0 r2 r3) K 0 with
       | none => none
       | some (.inl _) =>
        some true
       | some (.inr rr1) =>
        some rr1
  else
   some false
abbrev WcetTells.A0 (w0 : World) (l0 : List SIns) (A0 : Option Addr) (c0 : Nat) (r2 : SBound × SFault) (b1 : Nat) (b2 : Nat) (Z1 : Option Addr) (cz1 : Nat) (r3 : (List Int) × SFault) (b3 : Nat) (Z2 : Option Addr) (cz2 : Nat) (Z3 : Option Addr) (cz3 : Nat) : Nat → Act → World → Prop := fun (s : Nat) a w => St w0 w [Own.blk b3 (.cells #[vI r3.2.Code, vI r3.2.At] 25 (0, 0)), Own.blk b2 (.cells #[vI r2.2.Code, vI r2.2.At] 25 (0, 0)), Own.blk b1 (.cells #[vI r2.1.Worst, (.slice Z1 r2.1.Rest.length cz1)] 42 (0, 0)), Own.of (.slice Z3 r3.1.length cz3) 3 r3.1, Own.of (.slice Z2 (l0 ++ [(⟨(-1), (-2), (-3)⟩ : SIns), (⟨(-1), (-2), (-3)⟩ : SIns), (⟨(-1), (-2), (-3)⟩ : SIns)]).length cz2) 29 (l0 ++ [(⟨(-1), (-2), (-3)⟩ : SIns), (⟨(-1), (-2), (-3)⟩ : SIns), (⟨(-1), (-2), (-3)⟩ : SIns)]), Own.of (.slice Z1 r2.1.Rest.length cz1) 3 r2.1.Rest] ∧ Frm 84 a [(0, .slice A0 l0.length c0), (3, pP b1 0), (4, pP b2 0), (5, (.slice Z3 r3.1.length cz3)), (6, pP b3 0), (7, .slice Z2 l0.length cz2), (30, vI (s : Int))]
abbrev WcetTells.B0 (w0 : World) : (Unit ⊕ Bool) → Exit → Act → World → Prop := Exits 0 (fun (s : Unit) a w => St w0 w [] ∧ Frm 84 a []) (Rets Tryd.prog Tryd.f5 (WcetTells.Post w0))
theorem WcetTells_r0 (K : Nat) (w0 : World) (l0 : List SIns) (A0 : Option Addr) (c0 : Nat) (hR0 : RdL w0 A0 l0) (hL0 : l0.length ≤ c0) (hG0 : Glob w0 0 [vI (-1), vI (-2), vI (-3)]) (r1 : Bool) (hc1 : r1 = true) (hc2 : ¬ ((l0.length : Int) > 3000)) (r2 : SBound × SFault) (b1 : Nat) (b2 : Nat) (Z1 : Option Addr) (cz1 : Nat) (r3 : (List Int) × SFault) (b3 : Nat) (Z2 : Option Addr) (cz2 : Nat) (hcp1 : (l0 ++ [(⟨(-1), (-2), (-3)⟩ : SIns), (⟨(-1), (-2), (-3)⟩ : SIns), (⟨(-1), (-2), (-3)⟩ : SIns)]).length ≤ cz2) (Z3 : Option Addr) (cz3 : Nat) (s : Nat) (o : Nat ⊕ (Unit ⊕ Bool)) (h : WcetTells.r0 K l0 r2 r3 s = some o) (a : Act) (w : World) (hA : WcetTells.A0 w0 l0 A0 c0 r2 b1 b2 Z1 cz1 r3 b3 Z2 cz2 Z3 cz3 s a w) (Q : Exit → Act → World → Prop) (hQ : ∀ x a w, Outs (WcetTells.A0 w0 l0 A0 c0 r2 b1 b2 Z1 cz1 r3 b3 Z2 cz2 Z3 cz3) (WcetTells.B0 w0) o x a w → Q x a w) : (subF Tryd.f5 [1, 1, 1, 1, 1, 1, 0, 1, 0, 0]).wp Tryd.prog Q a w := by
 obtain ⟨i1, hs⟩ : ∃ z, z = s := ⟨s, rfl⟩
 subst hs
 obtain ⟨hS, hF⟩ := hA
 replace hS : St w0 w [Own.blk b3 (.cells #[vI r3.2.Code, vI r3.2.At] 25 (0, 0)), Own.blk b2 (.cells #[vI r2.2.Code, vI r2.2.At] 25 (0, 0)), Own.blk b1 (.cells #[vI r2.1.Worst, (.slice Z1 r2.1.Rest.length cz1)] 42 (0, 0)), Own.of (.slice Z3 r3.1.length cz3) 3 r3.1, Own.of (.slice Z2 (l0 ++ [(⟨(-1), (-2), (-3)⟩ : SIns), (⟨(-1), (-2), (-3)⟩ : SIns), (⟨(-1), (-2), (-3)⟩ : SIns)]).length cz2) 29 (l0 ++ [(⟨(-1), (-2), (-3)⟩ : SIns), (⟨(-1), (-2), (-3)⟩ : SIns), (⟨(-1), (-2), (-3)⟩ : SIns)]), Own.of (.slice Z1 r2.1.Rest.length cz1) 3 r2.1.Rest] := hS
 simp only [WcetTells.r0] at h
 refine (?_ : WE Tryd.prog 84 (subF Tryd.f5 [1, 1, 1, 1, 1, 1, 0, 1, 0, 0]) Q [(0, .slice A0 l0.length c0), (3, pP b1 0), (4, pP b2 0), (5, (.slice Z3 r3.1.length cz3)), (6, pP b3 0), (7, .slice Z2 l0.length cz2), (30, vI (i1 : Int))] w) a hF
 clear hF a
 refine ws fun K12 hK12 => ?_
 refine wr [(0, 0)] ?_
 refine gb0 [0] [(31, .bool (decide ((i1 : Int) < 2)))] ?_
 refine gn hK12 ?_
 refine ws fun K13 hK13 => ?_
 by_cases hc3 : (i1 : Int) < 2
 ·rw [if_pos hc3] at h
  refine wk 31 (decide ((i1 : Int) < 2)) true (decide_eq_true hc3) ?_
  refine we_true (by kernel_rfl) ?_
  refine we_skip fun a hF => hK13 _ _ ?_ a hF
  refine ws fun K14 hK14 => ?_
  refine we_block ?_
  refine ws fun K15 hK15 => ?_
  refine wr [(0, 0), (1, 1), (2, 0), (3, 0), (4, 0), (5, 1), (6, 1), (7, 2), (8, 2)] ?_
  rcases hq5 : wcet_Analyse.f K l0 with _ | r5
  ·rw [hq5] at h; cases h
  rw [hq5] at h
  simp only [] at h
  refine gb0 [0] [(33, .slice Z2 l0.length cz2)] ?_
  refine ge_call (d := some 34) (f := 20) (args := #[.slice Z2 l0.length cz2]) (by kernel_rfl) (wcet_Analyse_ok K l0 Z2 cz2 _ ((hS.rdAt 4 rfl).pre) (by have h0 := hcp1; simp only [List.length_append, List.length_cons, List.length_nil] at h0; omega) _ hq5) ?_
  rintro _ w11 ⟨v3, rfl, hS26⟩
  refine ⟨_, rfl, hS26.below, ?_⟩
  have hS27 := hS.call hS26
  refine gb0 [2, 3, 4] [(36, .agg #[vI r5.2.Code, vI r5.2.At]), (35, .agg #[vI r5.1.Worst, v3]), (32, .tuple #[.agg #[vI r5.1.Worst, v3], .agg #[vI r5.2.Code, vI r5.2.At]])] ?_
  refine gw (some 8) (.cells #[vI 0, .slice none 0 0] 42) (fun b => pP b 0) hS27 fun b4 w12 hx4 hS28 => ?_
  refine gw (some 9) (.cells #[vI 0, vI 0] 25) (fun b => pP b 0) hS28 fun b5 w13 hx5 hS29 => ?_
  obtain ⟨Z4, cz4, rfl⟩ := hS29.open 2 rfl
  have hS30 := hS29.bring 1 rfl
  refine gs b4 0 #[vI 0, .slice none 0 0] 42 [vI r5.1.Worst, (.slice Z4 r5.1.Rest.length cz4)] hS30 fun w14 hS31 => ?_
  have hS32 : St w0 w14 [Own.blk b4 (.cells #[vI r5.1.Worst, (.slice Z4 r5.1.Rest.length cz4)] 42 (0, 0)), Own.blk b5 (.cells #[vI 0, vI 0] 25 (0, 0)), Own.of (.slice Z4 r5.1.Rest.length cz4) 3 r5.1.Rest, Own.blk b3 (.cells #[vI r3.2.Code, vI r3.2.At] 25 (0, 0)), Own.blk b2 (.cells #[vI r2.2.Code, vI r2.2.At] 25 (0, 0)), Own.blk b1 (.cells #[vI r2.1.Worst, (.slice Z1 r2.1.Rest.length cz1)] 42 (0, 0)), Own.of (.slice Z3 r3.1.length cz3) 3 r3.1, Own.of (.slice Z2 (l0 ++ [(⟨(-1), (-2), (-3)⟩ : SIns), (⟨(-1), (-2), (-3)⟩ : SIns), (⟨(-1), (-2), (-3)⟩ : SIns)]).length cz2) 29 (l0 ++ [(⟨(-1), (-2), (-3)⟩ : SIns), (⟨(-1), (-2), (-3)⟩ : SIns), (⟨(-1), (-2), (-3)⟩ : SIns)]), Own.of (.slice Z1 r2.1.Rest.length cz1) 3 r2.1.Rest] := hS31
  have hS33 := hS32.bring 1 rfl
  refine gs b5 0 #[vI 0, vI 0] 25 [vI r5.2.Code, vI r5.2.At] hS33 fun w15 hS34 => ?_
  have hS35 : St w0 w15 [Own.blk b5 (.cells #[vI r5.2.Code, vI r5.2.At] 25 (0, 0)), Own.blk b4 (.cells #[vI r5.1.Worst, (.slice Z4 r5.1.Rest.length cz4)] 42 (0, 0)), Own.of (.slice Z4 r5.1.Rest.length cz4) 3 r5.1.Rest, Own.blk b3 (.cells #[vI r3.2.Code, vI r3.2.At] 25 (0, 0)), Own.blk b2 (.cells #[vI r2.2.Code, vI r2.2.At] 25 (0, 0)), Own.blk b1 (.cells #[vI r2.1.Worst, (.slice Z1 r2.1.Rest.length cz1)] 42 (0, 0)), Own.of (.slice Z3 r3.1.length cz3) 3 r3.1, Own.of (.slice Z2 (l0 ++ [(⟨(-1), (-2), (-3)⟩ : SIns), (⟨(-1), (-2), (-3)⟩ : SIns), (⟨(-1), (-2), (-3)⟩ : SIns)]).length cz2) 29 (l0 ++ [(⟨(-1), (-2), (-3)⟩ : SIns), (⟨(-1), (-2), (-3)⟩ : SIns), (⟨(-1), (-2), (-3)⟩ : SIns)]), Own.of (.slice Z1 r2.1.Rest.length cz1) 3 r2.1.Rest] := hS34
  refine gn hK15 ?_
  refine ws fun K16 hK16 => ?_
  refine wr [(0, 0), (1, 1), (2, 0), (3, 0), (4, 0), (5, 1), (6, 0), (7, 2)] ?_
  rcases hq6 : wcet_Held.f K l0 with _ | r6
  ·rw [hq6] at h; cases h
  rw [hq6] at h
  simp only [] at h
  refine gb0 [0] [(38, .slice Z2 l0.length cz2)] ?_
  refine ge_call (d := some 39) (f := 21) (args := #[.slice Z2 l0.length cz2]) (by kernel_rfl) (wcet_Held_ok K l0 Z2 cz2 _ ((hS35.rdAt 7 rfl).pre) (by have h0 := hcp1; simp only [List.length_append, List.length_cons, List.length_nil] at h0; omega) _ hq6) ?_
  rintro _ w16 ⟨v4, rfl, hS36⟩
  refine ⟨_, rfl, hS36.below, ?_⟩
  have hS37 := hS35.call hS36
  refine gb0 [2, 3, 4] [(41, .agg #[vI r6.2.Code, vI r6.2.At]), (40, v4), (37, .tuple #[v4, .agg #[vI r6.2.Code, vI r6.2.At]])] ?_
  refine gw (some 11) (.cells #[vI 0, vI 0] 25) (fun b => pP b 0) hS37 fun b6 w17 hx6 hS38 => ?_
  refine gb0 [6] [(10, v4)] ?_
  refine gs b6 0 #[vI 0, vI 0] 25 [vI r6.2.Code, vI r6.2.At] hS38 fun w18 hS39 => ?_
  have hS40 : St w0 w18 [Own.blk b6 (.cells #[vI r6.2.Code, vI r6.2.At] 25 (0, 0)), Own.of v4 3 r6.1, Own.blk b5 (.cells #[vI r5.2.Code, vI r5.2.At] 25 (0, 0)), Own.blk b4 (.cells #[vI r5.1.Worst, (.slice Z4 r5.1.Rest.length cz4)] 42 (0, 0)), Own.of (.slice Z4 r5.1.Rest.length cz4) 3 r5.1.Rest, Own.blk b3 (.cells #[vI r3.2.Code, vI r3.2.At] 25 (0, 0)), Own.blk b2 (.cells #[vI r2.2.Code, vI r2.2.At] 25 (0, 0)), Own.blk b1 (.cells #[vI r2.1.Worst, (.slice Z1 r2.1.Rest.length cz1)] 42 (0, 0)), Own.of (.slice Z3 r3.1.length cz3) 3 r3.1, Own.of (.slice Z2 (l0 ++ [(⟨(-1), (-2), (-3)⟩ : SIns), (⟨(-1), (-2), (-3)⟩ : SIns), (⟨(-1), (-2), (-3)⟩ : SIns)]).length cz2) 29 (l0 ++ [(⟨(-1), (-2), (-3)⟩ : SIns), (⟨(-1), (-2), (-3)⟩ : SIns), (⟨(-1), (-2), (-3)⟩ : SIns)]), Own.of (.slice Z1 r2.1.Rest.length cz1) 3 r2.1.Rest] := hS39
  refine gn hK16 ?_
  refine ws fun K17 hK17 => ?_
  refine ws fun K18 hK18 => ?_
  refine wr [(0, 0), (1, 0), (2, 0), (3, 0), (4, 0), (5, 0), (6, 0), (7, 0), (8, 0), (9, 0), (10, 0), (11, 0), (12, 0), (13, 0), (14, 0), (15, 1), (16, 0), (17, 0), (18, 0), (19, 0), (20, 0), (21, 0), (22, 0), (23, 0), (24, 0), (25, 0), (26, 1), (27, 0), (28, 0), (29, 0), (30, 0), (31, 0), (32, 0), (33, 1), (34, 0), (35, 0)] ?_
  refine gb [0, 1] [(43, .agg #[vI r2.2.Code, vI r2.2.At]), (42, .agg #[vI r5.2.Code, vI r5.2.At])] [.loaded ⟨b5, 0, none⟩ (vI r5.2.Code), .loaded ⟨b5, 1, none⟩ (vI r5.2.At), .loaded ⟨b2, 0, none⟩ (vI r2.2.Code), .loaded ⟨b2, 1, none⟩ (vI r2.2.At)] ⟨hS40.c 2, hS40.c 2, hS40.c 6, hS40.c 6, trivial⟩ ?_
  refine ge_eqs (d := 44) (ty := 4) (op := .neq) (x := (.tmp 42)) (y := (.tmp 43)) (t := 25) (t2 := 25) (xs := #[vI r5.2.Code, vI r5.2.At]) (ys := #[vI r2.2.Code, vI r2.2.At]) (r := (SFault.eqb r5.2 r2.2)) (v := !(SFault.eqb r5.2 r2.2)) (by kernel_rfl) (by kernel_rfl) (by kernel_rfl) (by kernel_rfl) (by kernel_rfl) rfl ?_
  refine gb0 [3] [(45, .bool (!(SFault.eqb r5.2 r2.2)))] ?_
  by_cases hc4 : (SFault.eqb r5.2 r2.2) = true
  ·rw [if_pos hc4] at h
   refine gk 45 (!(SFault.eqb r5.2 r2.2)) false (congrArg (fun z => !z) hc4) ?_
   refine gb [4, 5, 6, 7, 8, 9, 10] [(52, .bool (r5.1.Worst != r2.1.Worst)), (51, .bool (r5.1.Worst != r2.1.Worst)), (50, .bool (r5.1.Worst != r2.1.Worst)), (49, vI r2.1.Worst), (48, pP b1 0), (47, vI r5.1.Worst), (46, pP b4 0)] [.loaded ⟨b4, 0, none⟩ (vI r5.1.Worst), .loaded ⟨b1, 0, none⟩ (vI r2.1.Worst)] ⟨hS40.c 3, hS40.c 7, trivial⟩ ?_
   by_cases hc5 : r5.1.Worst = r2.1.Worst
   ·rw [if_pos hc5] at h
    refine gk 52 (r5.1.Worst != r2.1.Worst) false (bne_eq_false_iff_eq.2 hc5) ?_
    rcases hq7 : punctualsame_Same_int.f K r5.1.Rest r2.1.Rest with _ | r7
    ·rw [hq7] at h; cases h
    rw [hq7] at h
    simp only [] at h
    refine gb [11, 12, 13, 14] [(56, (.slice Z1 r2.1.Rest.length cz1)), (55, pP b1 1), (54, (.slice Z4 r5.1.Rest.length cz4)), (53, pP b4 1)] [.loaded ⟨b4, 1, none⟩ ((.slice Z4 r5.1.Rest.length cz4)), .loaded ⟨b1, 1, none⟩ ((.slice Z1 r2.1.Rest.length cz1))] ⟨hS40.c 3, hS40.c 7, trivial⟩ ?_
    refine ge_call (d := some 57) (f := 22) (args := #[(.slice Z4 r5.1.Rest.length cz4), (.slice Z1 r2.1.Rest.length cz1)]) (by kernel_rfl) (punctualsame_Same_int_ok K r5.1.Rest Z4 cz4 r2.1.Rest Z1 cz1 _ (hS40.rdAt 4 rfl) (hS40.capAt 4 rfl) (hS40.rdAt 10 rfl) (hS40.capAt 10 rfl) _ hq7) ?_
    rintro _ w19 ⟨rfl, hS41⟩
    refine ⟨_, rfl, hS41.below, ?_⟩
    have hS42 := hS40.call hS41
    refine gb0 [16, 17, 18] [(60, .bool (!r7)), (59, .bool (!r7)), (58, .bool (!r7))] ?_
    by_cases hc6 : r7 = true
    ·rw [if_pos hc6] at h
     refine gk 60 (!r7) false (congrArg (fun z => !z) hc6) ?_
     refine gb [19, 20] [(62, .agg #[vI r3.2.Code, vI r3.2.At]), (61, .agg #[vI r6.2.Code, vI r6.2.At])] [.loaded ⟨b6, 0, none⟩ (vI r6.2.Code), .loaded ⟨b6, 1, none⟩ (vI r6.2.At), .loaded ⟨b3, 0, none⟩ (vI r3.2.Code), .loaded ⟨b3, 1, none⟩ (vI r3.2.At)] ⟨hS42.c 0, hS42.c 0, hS42.c 5, hS42.c 5, trivial⟩ ?_
     refine ge_eqs (d := 63) (ty := 4) (op := .neq) (x := (.tmp 61)) (y := (.tmp 62)) (t := 25) (t2 := 25) (xs := #[vI r6.2.Code, vI r6.2.At]) (ys := #[vI r3.2.Code, vI r3.2.At]) (r := (SFault.eqb r6.2 r3.2)) (v := !(SFault.eqb r6.2 r3.2)) (by kernel_rfl) (by kernel_rfl) (by kernel_rfl) (by kernel_rfl) (by kernel_rfl) rfl ?_
     refine gb0 [22, 23] [(65, .bool (!(SFault.eqb r6.2 r3.2))), (64, .bool (!(SFault.eqb r6.2 r3.2)))] ?_
     by_cases hc7 : (SFault.eqb r6.2 r3.2) = true
     ·rw [if_pos hc7] at h
      refine gk 65 (!(SFault.eqb r6.2 r3.2)) false (congrArg (fun z => !z) hc7) ?_
      refine gb0 [24, 25] [(67, (.slice Z3 r3.1.length cz3)), (66, v4)] ?_
      obtain ⟨Z5, cz5, rfl⟩ := hS42.open 1 rfl
      rcases hq8 : punctualsame_Same_int.f K r6.1 r3.1 with _ | r8
      ·rw [hq8] at h; cases h
      rw [hq8] at h
      simp only [] at h
      refine ge_call (d := some 68) (f := 22) (args := #[(.slice Z5 r6.1.length cz5), (.slice Z3 r3.1.length cz3)]) (by kernel_rfl) (punctualsame_Same_int_ok K r6.1 Z5 cz5 r3.1 Z3 cz3 _ (hS42.rdAt 1 rfl) (hS42.capAt 1 rfl) (hS42.rdAt 8 rfl) (hS42.capAt 8 rfl) _ hq8) ?_
      rintro _ w20 ⟨rfl, hS43⟩
      refine ⟨_, rfl, hS43.below, ?_⟩
      have hS44 := hS42.call hS43
      refine gb0 [27, 28, 29] [(71, .bool (!r8)), (70, .bool (!r8)), (69, .bool (!r8))] ?_
      by_cases hc8 : r8 = true
      ·rw [if_pos hc8] at h
       refine gk 71 (!r8) false (congrArg (fun z => !z) hc8) ?_
       refine gb [30, 31, 32] [(74, .agg #[vI (-1), vI (-2), vI (-3)]), (73, .slice A0 l0.length c0), (72, .slice Z2 l0.length cz2)] [.loaded ⟨0, 0, none⟩ (vI (-1)), .loaded ⟨0, 1, none⟩ (vI (-2)), .loaded ⟨0, 2, none⟩ (vI (-3))] ⟨hS44.glob hG0 rfl, hS44.glob hG0 rfl, hS44.glob hG0 rfl, trivial⟩ ?_
       rcases hq9 : punctualsame_Still_api_Ins.f K (l0 ++ [(⟨(-1), (-2), (-3)⟩ : SIns), (⟨(-1), (-2), (-3)⟩ : SIns), (⟨(-1), (-2), (-3)⟩ : SIns)]) l0 (⟨(-1), (-2), (-3)⟩ : SIns) with _ | r9
       ·rw [hq9] at h; cases h
       rw [hq9] at h
       simp only [] at h
       refine ge_call (d := some 75) (f := 12) (args := #[.slice Z2 l0.length cz2, .slice A0 l0.length c0, .agg #[vI (-1), vI (-2), vI (-3)]]) (by kernel_rfl) (punctualsame_Still_api_Ins_ok K (l0 ++ [(⟨(-1), (-2), (-3)⟩ : SIns), (⟨(-1), (-2), (-3)⟩ : SIns), (⟨(-1), (-2), (-3)⟩ : SIns)]) Z2 l0.length cz2 l0 A0 c0 (⟨(-1), (-2), (-3)⟩ : SIns) _ (hS44.rdAt 9 rfl) hcp1 (hS44.rd hR0) hL0 _ hq9) ?_
       rintro _ w21 ⟨rfl, hS45⟩
       refine ⟨_, rfl, hS45.below, ?_⟩
       have hS46 := hS44.call hS45
       refine gb0 [34, 35] [(77, .bool (!r9)), (76, .bool (!r9))] ?_
       refine gn hK18 ?_
       by_cases hc9 : r9 = true
       ·rw [if_pos hc9] at h
        refine wk 77 (!r9) false (congrArg (fun z => !z) hc9) ?_
        refine we_false (by kernel_rfl) ?_
        refine we_skip fun a hF => hK17 _ _ ?_ a hF
        refine ws fun K19 hK19 => ?_
        refine wr [(0, 0), (1, 0), (2, 2)] ?_
        refine gb [0, 1] [(79, (.slice Z4 r5.1.Rest.length cz4)), (78, pP b4 1)] [.loaded ⟨b4, 1, none⟩ ((.slice Z4 r5.1.Rest.length cz4))] ⟨hS46.c 3, trivial⟩ ?_
        have hS47 := hS46.bring 4 rfl
        refine ge_call2 (m := 0) (d := some 80) (f := 23) (args := #[.slice Z4 r5.1.Rest.length cz4]) (by kernel_rfl) (punctualsame_Spoil_int_ok _ _ Z4 r5.1.Rest.length cz4 _ hS47) ?_
        rintro _ w22 ⟨rfl, hS48⟩
        refine ⟨_, rfl, ?_⟩
        refine gn hK19 ?_
        refine wr [(0, 0), (1, 2)] ?_
        refine gb0 [0] [(81, (.slice Z5 r6.1.length cz5))] ?_
        have hS49 := hS48.bring 1 rfl
        refine ge_call2 (m := 0) (d := some 82) (f := 23) (args := #[.slice Z5 r6.1.length cz5]) (by kernel_rfl) (punctualsame_Spoil_int_ok _ _ Z5 r6.1.length cz5 _ hS49) ?_
        rintro _ w23 ⟨rfl, hS50⟩
        refine ⟨_, rfl, ?_⟩
        refine gn hK14 ?_
        refine wr [(0, 0), (1, 0)] ?_
        refine ge_addn (d := 83) (ty := 3) (x := (.tmp 30)) (y := (.const (vI 1))) (t := 3) (t2 := 3) (k := .i64) (m := i1) (by kernel_rfl) (by kernel_rfl) (by kernel_rfl) (by omega) ?_
        refine gb0 [1] [(30, vI ((i1 + 1 : Nat) : Int))] ?_
        have hS51 := hS50.bring 8 rfl
        have hS52 := hS51.bring 8 rfl
        have hS53 := hS52.bring 8 rfl
        have hS54 := hS53.bring 8 rfl
        have hS55 := hS54.bring 8 rfl
        have hS56 := hS55.bring 8 rfl
        have hS57 := hS56.takeN 6
        obtain rfl := si h
        exact ge_nil fun a hF => hQ _ _ _ (Outs.again ⟨hS57, hF.weaken ea⟩)
       ·rw [if_neg hc9] at h
        refine wk 77 (!r9) true (congrArg (fun z => !z) (Bool.eq_false_iff.2 hc9)) ?_
        refine we_true (by kernel_rfl) ?_
        refine ws fun K20 hK20 => ?_
        refine wr [(0, 0)] ?_
        refine gb0 [0] [(2, .bool false)] ?_
        refine gn hK20 ?_
        have hS58 := hS46.takeN 0
        obtain rfl := si h
        exact we_ret fun a hF => hQ _ _ _ (Outs.out nofun (Exits.on ⟨rfl, (pr0 [.tmp 2] [.bool false] ⟨rfl, hS58⟩) a hF⟩))
      ·rw [if_neg hc8] at h
       refine gk 71 (!r8) true (congrArg (fun z => !z) (Bool.eq_false_iff.2 hc8)) ?_
       refine gb0 [30, 31, 32] [(74, undef), (73, undef), (72, undef)] ?_
       refine ge_off rfl rfl rfl (by kernel_rfl) ?_
       refine gb0 [34, 35] [(77, .bool true), (76, undef)] ?_
       refine gn hK18 ?_
       refine we_true (by kernel_rfl) ?_
       refine ws fun K21 hK21 => ?_
       refine wr [(0, 0)] ?_
       refine gb0 [0] [(2, .bool false)] ?_
       refine gn hK21 ?_
       have hS59 := hS44.takeN 0
       obtain rfl := si h
       exact we_ret fun a hF => hQ _ _ _ (Outs.out nofun (Exits.on ⟨rfl, (pr0 [.tmp 2] [.bool false] ⟨rfl, hS59⟩) a hF⟩))
     ·rw [if_neg hc7] at h
      refine gk 65 (!(SFault.eqb r6.2 r3.2)) true (congrArg (fun z => !z) (Bool.eq_false_iff.2 hc7)) ?_
      refine gb0 [24, 25] [(67, undef), (66, undef)] ?_
      refine ge_off rfl rfl rfl (by kernel_rfl) ?_
      refine gb0 [27, 28, 29, 30, 31, 32] [(74, undef), (73, undef), (72, undef), (71, .bool true), (70, .bool true), (69, undef)] ?_
      refine ge_off rfl rfl rfl (by kernel_rfl) ?_
      refine gb0 [34, 35] [(77, .bool true), (76, undef)] ?_
      refine gn hK18 ?_
      refine we_true (by kernel_rfl) ?_
      refine ws fun K22 hK22 => ?_
      refine wr [(0, 0)] ?_
      refine gb0 [0] [(2, .bool false)] ?_
      refine gn hK22 ?_
      have hS60 := hS42.takeN 0
      obtain rfl := si h
      exact we_ret fun a hF => hQ _ _ _ (Outs.out nofun (Exits.on ⟨rfl, (pr0 [.tmp 2] [.bool false] ⟨rfl, hS60⟩) a hF⟩))
    ·rw [if_neg hc6] at h
     refine gk 60 (!r7) true (congrArg (fun z => !z) (Bool.eq_false_iff.2 hc6)) ?_
     refine gb0 [19, 20, 21, 22, 23, 24, 25] [(67, undef), (66, undef), (65, .bool true), (64, .bool true), (63, undef), (62, undef), (61, undef)] ?_
     refine ge_off rfl rfl rfl (by kernel_rfl) ?_
     refine gb0 [27, 28, 29, 30, 31, 32] [(74, undef), (73, undef), (72, undef), (71, .bool true), (70, .bool true), (69, undef)] ?_
     refine ge_off rfl rfl rfl (by kernel_rfl) ?_
     refine gb0 [34, 35] [(77, .bool true), (76, undef)] ?_
     refine gn hK18 ?_
     refine we_true (by kernel_rfl) ?_
     refine ws fun K23 hK23 => ?_
     refine wr [(0, 0)] ?_
     refine gb0 [0] [(2, .bool false)] ?_
     refine gn hK23 ?_
     have hS61 := hS42.takeN 0
     obtain rfl := si h
     exact we_ret fun a hF => hQ _ _ _ (Outs.out nofun (Exits.on ⟨rfl, (pr0 [.tmp 2] [.bool false] ⟨rfl, hS61⟩) a hF⟩))
   ·rw [if_neg hc5] at h
    refine gk 52 (r5.1.Worst != r2.1.Worst) true (bne_iff_ne.2 hc5) ?_
    refine gb0 [11, 12, 13, 14] [(56, undef), (55, undef), (54, undef), (53, undef)] ?_
    refine ge_off rfl rfl rfl (by kernel_rfl) ?_
    refine gb0 [16, 17, 18, 19, 20, 21, 22, 23, 24, 25] [(67, undef), (66, undef), (65, .bool true), (64, .bool true), (63, undef), (62, undef), (61, undef), (60, .bool true), (59, .bool true), (58, undef)] ?_
    refine ge_off rfl rfl rfl (by kernel_rfl) ?_
    refine gb0 [27, 28, 29, 30, 31, 32] [(74, undef), (73, undef), (72, undef), (71, .bool true), (70, .bool true), (69, undef)] ?_
    refine ge_off rfl rfl rfl (by kernel_rfl) ?_
    refine gb0 [34, 35] [(77, .bool true), (76, undef)] ?_
    refine gn hK18 ?_
    refine we_true (by kernel_rfl) ?_
    refine ws fun K24 hK24 => ?_
    refine wr [(0, 0)] ?_
    refine gb0 [0] [(2, .bool false)] ?_
    refine gn hK24 ?_
    have hS62 := hS40.takeN 0
    obtain rfl := si h
    exact we_ret fun a hF => hQ _ _ _ (Outs.out nofun (Exits.on ⟨rfl, (pr0 [.tmp 2] [.bool false] ⟨rfl, hS62⟩) a hF⟩))
  ·rw [if_neg hc4] at h
   refine gk 45 (!(SFault.eqb r5.2 r2.2)) true (congrArg (fun z => !z) (Bool.eq_false_iff.2 hc4)) ?_
   refine gb0 [4, 5, 6, 7, 8, 9, 10, 11, 12, 13, 14] [(56, undef), (55, undef), (54, undef), (53, undef), (52, .bool true), (51, .bool true), (50, undef), (49, undef), (48, undef), (47, undef), (46, undef)] ?_
   refine ge_off rfl rfl rfl (by kernel_rfl) ?_
   refine gb0 [16, 17, 18, 19, 20, 21, 22, 23, 24, 25] [(67, undef), (66, undef), (65, .bool true), (64, .bool true), (63, undef), (62, undef), (61, undef), (60, .bool true), (59, .bool true), (58, undef)] ?_
   refine ge_off rfl rfl rfl (by kernel_rfl) ?_
   refine gb0 [27, 28, 29, 30, 31, 32] [(74, undef), (73, undef), (72, undef), (71, .bool true), (70, .bool true), (69, undef)] ?_
   refine ge_off rfl rfl rfl (by kernel_rfl) ?_
   refine gb0 [34, 35] [(77, .bool true), (76, undef)] ?_
   refine gn hK18 ?_
   refine we_true (by kernel_rfl) ?_
   refine ws fun K25 hK25 => ?_
   refine wr [(0, 0)] ?_
   refine gb0 [0] [(2, .bool false)] ?_
   refine gn hK25 ?_
   have hS63 := hS40.takeN 0
   obtain rfl := si h
   exact we_ret fun a hF => hQ _ _ _ (Outs.out nofun (Exits.on ⟨rfl, (pr0 [.tmp 2] [.bool false] ⟨rfl, hS63⟩) a hF⟩))
 ·rw [if_neg hc3] at h
  refine wk 31 (decide ((i1 : Int) < 2)) false (decide_eq_false hc3) ?_
  refine we_false (by kernel_rfl) ?_
  have hS64 := hS.takeN 0
  obtain rfl := si h
  exact we_exit fun a hF => hQ _ _ _ (Outs.out nofun (Exits.here ⟨hS64, hF.weaken trivial⟩))
theorem WcetTells_ok (K : Nat) (l0 : List SIns) (A0 : Option Addr) (c0 : Nat) (w0 : World) (hR0 : RdL w0 A0 l0) (hL0 : l0.length ≤ c0) (hG0 : Glob w0 0 [vI (-1), vI (-2), vI (-3)]) (r : Bool) (h : WcetTells.f K l0 = some r) :
  Calls Tryd.prog 5 #[.slice A0 l0.length c0] w0 (WcetTells.Post w0 r) := by
 have hS := St.start w0
 unfold WcetTells.f at h
 refine calls_enter (n := 84) (args := [.slice A0 l0.length c0]) (fn := Tryd.f5) rfl rfl rfl rfl ?_
 show WE _ _ _ _ [(0, .slice A0 l0.length c0)] _
 refine ws fun K1 hK1 => ?_
 refine wr [(0, 0)] ?_
 refine gb0 [0] [(2, .bool false)] ?_
 refine gn hK1 ?_
 refine ws fun K2 hK2 => ?_
 refine ws fun K3 hK3 => ?_
 refine wr [(0, 1), (1, 0)] ?_
 rcases hq1 : timed.f K with _ | r1
 ·rw [hq1] at h; cases h
 rw [hq1] at h
 simp only [] at h
 refine ge_call (d := some 12) (f := 13) (args := #[]) (by kernel_rfl) (timed_ok K _ _ hq1) ?_
 rintro _ w1 ⟨rfl, hS1⟩
 refine ⟨_, rfl, hS1.below, ?_⟩
 have hS2 := hS.call hS1
 refine gb0 [1] [(13, .bool (!r1))] ?_
 refine gn hK3 ?_
 by_cases hc1 : r1 = true
 ·rw [if_pos hc1] at h
  refine wk 13 (!r1) false (congrArg (fun z => !z) hc1) ?_
  refine we_false (by kernel_rfl) ?_
  refine we_skip fun a hF => hK2 _ _ ?_ a hF
  refine ws fun K4 hK4 => ?_
  refine ws fun K5 hK5 => ?_
  refine wr [(0, 0), (1, 0), (2, 0)] ?_
  refine gb0 [0, 1, 2] [(16, .bool (decide ((l0.length : Int) > 3000))), (15, vI (l0.length : Int)), (14, .slice A0 l0.length c0)] ?_
  refine gn hK5 ?_
  by_cases hc2 : (l0.length : Int) > 3000
  ·rw [if_pos hc2] at h
   refine wk 16 (decide ((l0.length : Int) > 3000)) true (decide_eq_true hc2) ?_
   refine we_true (by kernel_rfl) ?_
   refine ws fun K6 hK6 => ?_
   refine wr [(0, 0)] ?_
   refine gb0 [0] [(2, .bool true)] ?_
   refine gn hK6 ?_
   obtain rfl := si h
   exact we_ret (pr0 [.tmp 2] [.bool true] ⟨rfl, hS2⟩)
  ·rw [if_neg hc2] at h
   refine wk 16 (decide ((l0.length : Int) > 3000)) false (decide_eq_false hc2) ?_
   refine we_false (by kernel_rfl) ?_
   refine we_skip fun a hF => hK4 _ _ ?_ a hF
   refine ws fun K7 hK7 => ?_
   refine wr [(0, 0), (1, 1), (2, 0), (3, 0), (4, 0), (5, 1), (6, 1), (7, 2), (8, 2)] ?_
   rcases hq2 : punctualref_Worst.f K l0 with _ | r2
   ·rw [hq2] at h; cases h
   rw [hq2] at h
   simp only [] at h
   refine gb0 [0] [(18, .slice A0 l0.length c0)] ?_
   refine ge_call (d := some 19) (f := 18) (args := #[.slice A0 l0.length c0]) (by kernel_rfl) (punctualref_Worst_ok K l0 A0 c0 _ (hS2.rd hR0) hL0 _ hq2) ?_
   rintro _ w2 ⟨v1, rfl, hS3⟩
   refine ⟨_, rfl, hS3.below, ?_⟩
   have hS4 := hS2.call hS3
   refine gb0 [2, 3, 4] [(21, .agg #[vI r2.2.Code, vI r2.2.At]), (20, .agg #[vI r2.1.Worst, v1]), (17, .tuple #[.agg #[vI r2.1.Worst, v1], .agg #[vI r2.2.Code, vI r2.2.At]])] ?_
   refine gw (some 3) (.cells #[vI 0, .slice none 0 0] 42) (fun b => pP b 0) hS4 fun b1 w3 hx1 hS5 => ?_
   refine gw (some 4) (.cells #[vI 0, vI 0] 25) (fun b => pP b 0) hS5 fun b2 w4 hx2 hS6 => ?_
   obtain ⟨Z1, cz1, rfl⟩ := hS6.open 2 rfl
   have hS7 := hS6.bring 1 rfl
   refine gs b1 0 #[vI 0, .slice none 0 0] 42 [vI r2.1.Worst, (.slice Z1 r2.1.Rest.length cz1)] hS7 fun w5 hS8 => ?_
   have hS9 : St w0 w5 [Own.blk b1 (.cells #[vI r2.1.Worst, (.slice Z1 r2.1.Rest.length cz1)] 42 (0, 0)), Own.blk b2 (.cells #[vI 0, vI 0] 25 (0, 0)), Own.of (.slice Z1 r2.1.Rest.length cz1) 3 r2.1.Rest] := hS8
   have hS10 := hS9.bring 1 rfl
   refine gs b2 0 #[vI 0, vI 0] 25 [vI r2.2.Code, vI r2.2.At] hS10 fun w6 hS11 => ?_
   have hS12 : St w0 w6 [Own.blk b2 (.cells #[vI r2.2.Code, vI r2.2.At] 25 (0, 0)), Own.blk b1 (.cells #[vI r2.1.Worst, (.slice Z1 r2.1.Rest.length cz1)] 42 (0, 0)), Own.of (.slice Z1 r2.1.Rest.length cz1) 3 r2.1.Rest] := hS11
   refine gn hK7 ?_
   refine ws fun K8 hK8 => ?_
   refine wr [(0, 0), (1, 1), (2, 0), (3, 0), (4, 0), (5, 1), (6, 0), (7, 2)] ?_
   rcases hq3 : punctualref_LockTimes.f K l0 with _ | r3
   ·rw [hq3] at h; cases h
   rw [hq3] at h
   simp only [] at h
   refine gb0 [0] [(23, .slice A0 l0.length c0)] ?_
   refine ge_call (d := some 24) (f := 19) (args := #[.slice A0 l0.length c0]) (by kernel_rfl) (punctualref_LockTimes_ok K l0 A0 c0 _ (hS12.rd hR0) hL0 _ hq3) ?_
   rintro _ w7 ⟨v2, rfl, hS13⟩
   refine ⟨_, rfl, hS13.below, ?_⟩
   have hS14 := hS12.call hS13
   refine gb0 [2, 3, 4] [(26, .agg #[vI r3.2.Code, vI r3.2.At]), (25, v2), (22, .tuple #[v2, .agg #[vI r3.2.Code, vI r3.2.At]])] ?_
   refine gw (some 6) (.cells #[vI 0, vI 0] 25) (fun b => pP b 0) hS14 fun b3 w8 hx3 hS15 => ?_
   refine gb0 [6] [(5, v2)] ?_
   refine gs b3 0 #[vI 0, vI 0] 25 [vI r3.2.Code, vI r3.2.At] hS15 fun w9 hS16 => ?_
   have hS17 : St w0 w9 [Own.blk b3 (.cells #[vI r3.2.Code, vI r3.2.At] 25 (0, 0)), Own.of v2 3 r3.1, Own.blk b2 (.cells #[vI r2.2.Code, vI r2.2.At] 25 (0, 0)), Own.blk b1 (.cells #[vI r2.1.Worst, (.slice Z1 r2.1.Rest.length cz1)] 42 (0, 0)), Own.of (.slice Z1 r2.1.Rest.length cz1) 3 r2.1.Rest] := hS16
   refine gn hK8 ?_
   refine ws fun K9 hK9 => ?_
   refine wr [(0, 0), (1, 0), (2, 1), (3, 0)] ?_
   refine gb [0, 1] [(28, .agg #[vI (-1), vI (-2), vI (-3)]), (27, .slice A0 l0.length c0)] [.loaded ⟨0, 0, none⟩ (vI (-1)), .loaded ⟨0, 1, none⟩ (vI (-2)), .loaded ⟨0, 2, none⟩ (vI (-3))] ⟨hS17.glob hG0 rfl, hS17.glob hG0 rfl, hS17.glob hG0 rfl, trivial⟩ ?_
   rcases hq4 : punctualsame_Lend_api_Ins.f l0 (⟨(-1), (-2), (-3)⟩ : SIns) with _ | r4
   ·rw [hq4] at h; cases h
   rw [hq4] at h
   simp only [] at h
   obtain rfl := punctualsame_Lend_api_Ins_full _ _ hq4
   refine ge_call (d := some 29) (f := 10) (args := #[.slice A0 l0.length c0, .agg #[vI (-1), vI (-2), vI (-3)]]) (by kernel_rfl) (punctualsame_Lend_api_Ins_ok l0 A0 c0 (⟨(-1), (-2), (-3)⟩ : SIns) _ (hS17.rd hR0) hL0 _ hq4) ?_
   rintro _ w10 ⟨Z2, cz2, rfl, hcp1, hS18⟩
   refine ⟨_, rfl, hS18.below, ?_⟩
   have hS19 := hS17.call hS18
   refine gb0 [3] [(7, .slice Z2 l0.length cz2)] ?_
   refine gn hK9 ?_
   refine ws fun K10 hK10 => ?_
   refine ws fun K11 hK11 => ?_
   refine wr [(0, 0)] ?_
   refine gb0 [0] [(30, vI 0)] ?_
   refine gn hK11 ?_
   refine we_block ?_
   obtain ⟨Z3, cz3, rfl⟩ := hS19.open 2 rfl
   have hS20 := hS19.bring 5 rfl
   have hS21 := hS20.bring 1 rfl
   have hS22 := hS21.bring 3 rfl
   have hS23 := hS22.bring 5 rfl
   have hS24 := hS23.bring 5 rfl
   have hS25 := hS24.bring 5 rfl
   rcases hq10 : iter (WcetTells.r0 K l0 r2 r3) K 0 with _ | (_ | rr1)
   ·rw [hq10] at h; cases h
   ·rw [hq10] at h
    simp only [] at h
    refine we_iter (A := WcetTells.A0 w0 l0 A0 c0 r2 b1 b2 Z1 cz1 r3 b3 Z2 cz2 Z3 cz3) (B := WcetTells.B0 w0) hq10 (fun a hF => ⟨hS25, hF.weaken ea⟩) (fun s o hf a w hA Q hQ => WcetTells_r0 K w0 l0 A0 c0 hR0 hL0 hG0 r1 hc1 hc2 r2 b1 b2 Z1 cz1 r3 b3 Z2 cz2 hcp1 Z3 cz3 s o hf a w hA Q hQ) ?_
    rintro _ a w24 _ ⟨rfl, hS65, hF⟩
    replace hS65 : St w0 w24 [] := hS65
    refine hK10 [] w24 ?_ a hF
    refine ws fun K26 hK26 => ?_
    refine wr [(0, 0)] ?_
    refine gb0 [0] [(2, .bool true)] ?_
    refine gn hK26 ?_
    obtain rfl := si h
    exact we_ret (pr0 [.tmp 2] [.bool true] ⟨rfl, hS65⟩)
   ·rw [hq10] at h
    simp only [] at h
    refine we_iter (A := WcetTells.A0 w0 l0 A0 c0 r2 b1 b2 Z1 cz1 r3 b3 Z2 cz2 Z3 cz3) (B := WcetTells.B0 w0) hq10 (fun a hF => ⟨hS25, hF.weaken ea⟩) (fun s o hf a w hA Q hQ => WcetTells_r0 K w0 l0 A0 c0 hR0 hL0 hG0 r1 hc1 hc2 r2 b1 b2 Z1 cz1 r3 b3 Z2 cz2 hcp1 Z3 cz3 s o hf a w hA Q hQ) ?_
    rintro _ a w1 _ ⟨rfl, hb⟩
    obtain rfl := si h
    exact hb
 ·rw [if_neg hc1] at h
  refine wk 13 (!r1) true (congrArg (fun z => !z) (Bool.eq_false_iff.2 hc1)) ?_
  refine we_true (by kernel_rfl) ?_
  refine ws fun K27 hK27 => ?_
  refine wr [(0, 0)] ?_
  refine gb0 [0] [(2, .bool false)] ?_
  refine gn hK27 ?_
  obtain rfl := si h
  exact we_ret (pr0 [.tmp 2] [.bool false] ⟨rfl, hS2⟩)
end Go.Proofs.YtnckikjcjgmdlaaDoor.GV
