/- Walks of single functions, written by a program of this work. -/
import Derived.Test.YtnckikjcjgmdlaaGWBodyChecks2
namespace Go.Proofs.Ytnckikjcjgmdlaa.GV
open Go Go.RowKit
set_option linter.unusedVariables false
set_option linter.unusedSimpArgs false
set_option maxRecDepth 100000

structure SFault where
 Code : Int
 At : Int
def SFault.eqb (x y : SFault) : Bool := ((x.Code == y.Code) && ((x.At == y.At) && true))
instance : Ok SFault := ⟨fun x => Ok.ok x.Code ∧ Ok.ok x.At ∧ True⟩
instance : Flat SFault := ⟨2, fun x => [vI x.Code, vI x.At], fun _ => rfl, fun _ => rfl, by decide⟩

/-! punctual/tongue.Check -/
abbrev tongue_Check.Post (w0 : World) (r : SFault) (e : Ending) (w : World) : Prop := e = .returned (.agg #[vI r.Code, vI r.At]) ∧ St w0 w []
def tongue_Check.f (K : Nat) (l0 : List SStmt) : Option SFault :=
 match tongue_Count.f K l0 with
 | none => none
 | some r1 =>
  if r1 > 200 then
   some (⟨2, 0⟩ : SFault)
  else
   match tongue_checker_list.f K (-1) 0 0 false false false false l0 0 with
   | none => none
   | some r2 =>
    some (⟨r2.2.2.1, r2.2.2.2.1⟩ : SFault)
theorem tongue_Check_ok (K : Nat) (Z : Zone) (l0 : List SStmt) (A0 : Option Addr) (c0 : Nat) (w0 : World) (hZ : ∀ w, Sub w0 w → Z w) (hR0 : RdZ Z A0 l0) (hL0 : l0.length ≤ c0) (r : SFault) (h : tongue_Check.f K l0 = some r) :
  Calls Try.prog 20 #[.slice A0 l0.length c0] w0 (tongue_Check.Post w0 r) := by
 have hS := St.start w0
 unfold tongue_Check.f at h
 refine calls_enter (n := 17) (args := [.slice A0 l0.length c0]) (fn := Try.f20) rfl rfl rfl rfl ?_
 show WE _ _ _ _ [(0, .slice A0 l0.length c0)] _
 refine ws fun K1 hK1 => ?_
 refine wr [(0, 1)] ?_
 refine gw (some 2) (.cells #[vI 0, vI 0] 40) (fun b => pP b 0) hS fun b1 w1 hx1 hS1 => ?_
 refine gn hK1 ?_
 refine ws fun K2 hK2 => ?_
 refine ws fun K3 hK3 => ?_
 refine wr [(0, 0), (1, 1), (2, 0)] ?_
 rcases hq1 : tongue_Count.f K l0 with _ | r1
 ·rw [hq1] at h; cases h
 rw [hq1] at h
 simp only [] at h
 refine gb0 [0] [(4, .slice A0 l0.length c0)] ?_
 refine ge_call (d := some 5) (f := 23) (args := #[.slice A0 l0.length c0]) (by kernel_rfl) (tongue_Count_ok K Z l0 A0 c0 _ (fun w' k => (hZ w' (hS1.subw.trans k))) hR0 hL0 _ hq1) ?_
 rintro _ w2 ⟨rfl, hS2⟩
 refine ⟨_, rfl, hS2.below, ?_⟩
 have hS3 := hS1.call hS2
 refine gb0 [2] [(6, .bool (decide (r1 > 200)))] ?_
 refine gn hK3 ?_
 by_cases hc1 : r1 > 200
 ·rw [if_pos hc1] at h
  refine wk 6 (decide (r1 > 200)) true (decide_eq_true hc1) ?_
  refine we_true (by kernel_rfl) ?_
  refine ws fun K4 hK4 => ?_
  refine wr [(0, 0), (1, 2)] ?_
  refine gb0 [0] [(7, .agg #[vI 2, vI 0])] ?_
  refine gs b1 0 #[vI 0, vI 0] 40 [vI 2, vI 0] hS3 fun w3 hS4 => ?_
  have hS5 := hS4.nc #[vI 2, vI 0] (by kernel_rfl)
  refine gn hK4 ?_
  have hS6 := hS5.takeN 0
  obtain rfl := si h
  exact we_ret (pr [.cell 2 40] [.agg #[vI 2, vI 0]] [.loaded ⟨b1, 0, none⟩ (vI 2), .loaded ⟨b1, 1, none⟩ (vI 0)] ⟨hS5.c 0, hS5.c 0, trivial⟩ ⟨rfl, hS6⟩)
 ·rw [if_neg hc1] at h
  refine wk 6 (decide (r1 > 200)) false (decide_eq_false hc1) ?_
  refine we_false (by kernel_rfl) ?_
  refine we_skip fun a hF => hK2 _ _ ?_ a hF
  refine ws fun K5 hK5 => ?_
  refine wr [(0, 0), (1, 1), (2, 0)] ?_
  refine gb0 [0] [(8, .agg #[vI (-1), vI 0, vI 0, .bool false, .bool false, .bool false, .bool false])] ?_
  refine gw (some 9) (.cells #[vI (-1), vI 0, vI 0, .bool false, .bool false, .bool false, .bool false] 93) (fun b => pP b 0) hS3 fun b2 w4 hx2 hS7 => ?_
  refine gb0 [2] [(3, pP b2 0)] ?_
  refine gn hK5 ?_
  refine ws fun K6 hK6 => ?_
  refine wr [(0, 0), (1, 0), (2, 2)] ?_
  refine gb0 [0, 1] [(11, .slice A0 l0.length c0), (10, pP b2 0)] ?_
  rcases hq2 : tongue_checker_list.f K (-1) 0 0 false false false false l0 0 with _ | r2
  ·rw [hq2] at h; cases h
  rw [hq2] at h
  simp only [] at h
  have hS9 := hS7.packN 1
  refine ge_call2 (m := 0) (d := some 12) (f := 51) (args := #[pP b2 0, .slice A0 l0.length c0, vI 0]) (by kernel_rfl) (tongue_checker_list_ok K Z b2 (-1) 0 0 false false false false l0 A0 c0 0 _ _ _ hS9 (fun w L h w' k => (hZ w' (h.subw.trans k))) hR0 hL0 _ hq2) ?_
  rintro _ w5 ⟨rfl, hS8⟩
  refine ⟨_, rfl, ?_⟩
  have hS10 := hS8.unpack [Own.blk b2 (.cells #[vI r2.2.1, vI r2.2.2.1, vI r2.2.2.2.1, .bool r2.2.2.2.2.1, .bool r2.2.2.2.2.2.1, .bool r2.2.2.2.2.2.2.1, .bool r2.2.2.2.2.2.2.2] 93 (0, 0))]
  refine gn hK6 ?_
  refine ws fun K7 hK7 => ?_
  refine wr [(0, 0), (1, 0), (2, 0), (3, 0), (4, 2)] ?_
  refine gb [0, 1, 2, 3] [(16, .agg #[vI r2.2.2.1, vI r2.2.2.2.1]), (15, pP b2 1), (14, pP b2 0), (13, pP b2 0)] [.loaded ⟨b2, 1, none⟩ (vI r2.2.2.1), .loaded ⟨b2, 2, none⟩ (vI r2.2.2.2.1)] ⟨hS10.c 0, hS10.c 0, trivial⟩ ?_
  have hS11 := hS10.bring 1 rfl
  refine gs b1 0 #[vI 0, vI 0] 40 [vI r2.2.2.1, vI r2.2.2.2.1] hS11 fun w6 hS12 => ?_
  have hS13 := hS12.nc #[vI r2.2.2.1, vI r2.2.2.2.1] (by kernel_rfl)
  refine gn hK7 ?_
  have hS14 := hS13.takeN 0
  obtain rfl := si h
  exact we_ret (pr [.cell 2 40] [.agg #[vI r2.2.2.1, vI r2.2.2.2.1]] [.loaded ⟨b1, 0, none⟩ (vI r2.2.2.1), .loaded ⟨b1, 1, none⟩ (vI r2.2.2.2.1)] ⟨hS13.c 0, hS13.c 0, trivial⟩ ⟨rfl, hS14⟩)

/-! punctual/punctualref.F -/
abbrev punctualref_F.Post (w0 : World) (r : SFault) (e : Ending) (w : World) : Prop := e = .returned (.agg #[vI r.Code, vI r.At]) ∧ St w0 w []
def punctualref_F.f (x0 : Int) (x1 : Int) : SFault :=
 (⟨x0, x1⟩ : SFault)
theorem punctualref_F_ok (x0 : Int) (x1 : Int) (w0 : World) (r : SFault) (h : punctualref_F.f x0 x1 = r) :
  Calls Try.prog 22 #[vI x0, vI x1] w0 (punctualref_F.Post w0 r) := by
 have hS := St.start w0
 unfold punctualref_F.f at h
 refine calls_enter (n := 8) (args := [vI x0, vI x1]) (fn := Try.f22) rfl rfl rfl rfl ?_
 show WE _ _ _ _ [(0, vI x0), (1, vI x1)] _
 refine ws fun K1 hK1 => ?_
 refine wr [(0, 1)] ?_
 refine gw (some 4) (.cells #[vI 0, vI 0] 40) (fun b => pP b 0) hS fun b1 w1 hx1 hS1 => ?_
 refine gn hK1 ?_
 refine ws fun K2 hK2 => ?_
 refine wr [(0, 0), (1, 0), (2, 0), (3, 2)] ?_
 refine gb0 [0, 1, 2] [(7, .agg #[vI x0, vI x1]), (6, vI x1), (5, vI x0)] ?_
 refine gs b1 0 #[vI 0, vI 0] 40 [vI x0, vI x1] hS1 fun w2 hS2 => ?_
 have hS3 := hS2.nc #[vI x0, vI x1] (by kernel_rfl)
 refine gn hK2 ?_
 have hS4 := hS3.takeN 0
 subst h
 exact we_ret (pr [.cell 4 40] [.agg #[vI x0, vI x1]] [.loaded ⟨b1, 0, none⟩ (vI x0), .loaded ⟨b1, 1, none⟩ (vI x1)] ⟨hS3.c 0, hS3.c 0, trivial⟩ ⟨rfl, hS4⟩)

/-! punctual/punctualsame.deepExpr -/
abbrev punctualsame_deepExpr.Post (w0 : World) (r : Int) (e : Ending) (w : World) : Prop := e = .returned (vI r) ∧ St w0 w []
abbrev punctualsame_deepExpr.Rec (rec_punctualsame_deepExpr : Int → Int → (List SExpr) → Option Int) : Prop := ∀ (Z : Zone) (x0_0 : Int) (x0_1 : Int) (l0_2 : List SExpr) (A0_2 : Option Addr) (c0_2 : Nat) (w0 : World) (hZ : ∀ w, Sub w0 w → Z w) (hR0_2 : RdZ Z A0_2 l0_2) (hL0_2 : l0_2.length ≤ c0_2) (r : Int) (h : rec_punctualsame_deepExpr x0_0 x0_1 l0_2 = some r), Calls Try.prog 77 #[.agg #[vI x0_0, vI x0_1, .slice A0_2 l0_2.length c0_2]] w0 (punctualsame_deepExpr.Post w0 r)
def punctualsame_deepExpr.r0 (l0_2 : List SExpr) (rec_punctualsame_deepExpr : Int → Int → (List SExpr) → Option Int) : Int × Nat → Option ((Int × Nat) ⊕ (Int ⊕ Int))
 | (z1, i1) =>
  if (i1 : Int) < (l0_2.length : Int) then
   match l0_2[i1]? with
   | none => none
   | some e1 =>
    match rec_punctualsame_deepExpr e1.Kind e1.N e1.A with
    | none => none
    | some r1 =>
     some (.inl (gmax z1 (IntKind.i64.wrap (1 + r1)), (i1 + 1)))
  else
   some (.inr (.inl z1))
def punctualsame_deepExpr.b (K : Nat) (rec_punctualsame_deepExpr : Int → Int → (List SExpr) → Option Int) (x0_0 : Int) (x0_1 : Int) (l0_2 : List SExpr) : Option Int :=
 match iter (punctualsame_deepExpr.r0 l0_2 rec_punctualsame_deepExpr) K (1, 0) with
 | none => none
 | some (.inl z3) =>
  some z3
 | some (.inr rr1) =>
  some rr1
abbrev punctualsame_deepExpr.A0 (w0 : World) (l0_2 : List SExpr) (A0_2 : Option Addr) (c0_2 : Nat) : (Int × Nat) → Act → World → Prop := fun (s : Int × Nat) a w => St w0 w [] ∧ Frm 20 a [(3, vI s.1), (7, .slice A0_2 l0_2.length c0_2), (8, vI (l0_2.length : Int)), (9, vI (s.2 : Int))]
abbrev punctualsame_deepExpr.B0 (w0 : World) : (Int ⊕ Int) → Exit → Act → World → Prop := Exits 0 (fun (s : Int) a w => St w0 w [] ∧ Frm 20 a [(3, vI s)]) (Rets Try.prog Try.f77 (punctualsame_deepExpr.Post w0))
theorem punctualsame_deepExpr_r0 (K : Nat) (w0 : World) (Z : Zone) (x0_0 : Int) (x0_1 : Int) (l0_2 : List SExpr) (A0_2 : Option Addr) (c0_2 : Nat) (hZ : ∀ w, Sub w0 w → Z w) (hR0_2 : RdZ Z A0_2 l0_2) (hL0_2 : l0_2.length ≤ c0_2) (rec_punctualsame_deepExpr : Int → Int → (List SExpr) → Option Int) (hr_punctualsame_deepExpr : punctualsame_deepExpr.Rec rec_punctualsame_deepExpr) (b1 : Nat) (s : Int × Nat) (o : (Int × Nat) ⊕ (Int ⊕ Int)) (h : punctualsame_deepExpr.r0 l0_2 rec_punctualsame_deepExpr s = some o) (a : Act) (w : World) (hA : punctualsame_deepExpr.A0 w0 l0_2 A0_2 c0_2 s a w) (Q : Exit → Act → World → Prop) (hQ : ∀ x a w, Outs (punctualsame_deepExpr.A0 w0 l0_2 A0_2 c0_2) (punctualsame_deepExpr.B0 w0) o x a w → Q x a w) : (subF Try.f77 [1, 1, 0, 1, 0, 0]).wp Try.prog Q a w := by
 obtain ⟨z1, i1⟩ := s
 obtain ⟨hS, hF⟩ := hA
 replace hS : St w0 w [] := hS
 simp only [punctualsame_deepExpr.r0] at h
 refine (?_ : WE Try.prog 20 (subF Try.f77 [1, 1, 0, 1, 0, 0]) Q [(3, vI z1), (7, .slice A0_2 l0_2.length c0_2), (8, vI (l0_2.length : Int)), (9, vI (i1 : Int))] w) a hF
 clear hF a
 refine ws fun K5 hK5 => ?_
 refine wr [(0, 0)] ?_
 refine gb0 [0] [(10, .bool (decide ((i1 : Int) < (l0_2.length : Int))))] ?_
 refine gn hK5 ?_
 refine ws fun K6 hK6 => ?_
 by_cases hc1 : (i1 : Int) < (l0_2.length : Int)
 ·rw [if_pos hc1] at h
  refine wk 10 (decide ((i1 : Int) < (l0_2.length : Int))) true (decide_eq_true hc1) ?_
  refine we_true (by kernel_rfl) ?_
  refine we_skip fun a hF => hK6 _ _ ?_ a hF
  refine ws fun K7 hK7 => ?_
  refine we_block ?_
  refine ws fun K8 hK8 => ?_
  refine wr [(0, 0), (1, 0), (2, 1), (3, 2)] ?_
  rcases hx2 : l0_2[i1]? with _ | e1
  ·rw [hx2] at h; cases h
  rw [hx2] at h
  simp only [] at h
  obtain ⟨An1, cn1, hCs1, hLn1, hRn1⟩ := SExpr.getZ hR0_2 hx2
  refine gi 11 0 43 45 3 l0_2.length c0_2 (.tmp 7) (.tmp 9) A0_2 .i64 (i1 : Int) i1 (hR0_2.eqSome (hZ _ hS.subw) (pos_of_get hx2)) rfl (lt_of_get hx2) ?_
  refine gb [1] [(12, .agg #[vI e1.Kind, vI e1.N, .slice An1 e1.A.length cn1])] [.loaded ⟨blkOf A0_2, offOf A0_2 + i1 * 3, none⟩ (vI e1.Kind), .loaded ⟨blkOf A0_2, offOf A0_2 + i1 * 3 + 1, none⟩ (vI e1.N), .loaded ⟨blkOf A0_2, offOf A0_2 + i1 * 3 + 2, none⟩ (.slice An1 e1.A.length cn1)] ⟨hCs1 _ (hZ _ hS.subw) 0 _ rfl, hCs1 _ (hZ _ hS.subw) 1 _ rfl, hCs1 _ (hZ _ hS.subw) 2 _ rfl, trivial⟩ ?_
  refine gw (some 5) (.cells #[vI 0, vI 0, .slice none 0 0] 45) (fun b => pP b 0) hS fun b2 w2 hx3 hS3 => ?_
  refine gs b2 0 #[vI 0, vI 0, .slice none 0 0] 45 [vI e1.Kind, vI e1.N, .slice An1 e1.A.length cn1] hS3 fun w3 hS4 => ?_
  have hS5 := hS4.nc #[vI e1.Kind, vI e1.N, .slice An1 e1.A.length cn1] (by kernel_rfl)
  refine gn hK8 ?_
  refine wr [(0, 0), (1, 0), (2, 1), (3, 0), (4, 0), (5, 0)] ?_
  rcases hq1 : rec_punctualsame_deepExpr e1.Kind e1.N e1.A with _ | r1
  ·rw [hq1] at h; cases h
  rw [hq1] at h
  simp only [] at h
  refine gb [0, 1] [(14, .agg #[vI e1.Kind, vI e1.N, .slice An1 e1.A.length cn1]), (13, vI z1)] [.loaded ⟨b2, 0, none⟩ (vI e1.Kind), .loaded ⟨b2, 1, none⟩ (vI e1.N), .loaded ⟨b2, 2, none⟩ (.slice An1 e1.A.length cn1)] ⟨hS5.c 0, hS5.c 0, hS5.c 0, trivial⟩ ?_
  refine ge_call (d := some 15) (f := 77) (args := #[.agg #[vI e1.Kind, vI e1.N, .slice An1 e1.A.length cn1]]) (by kernel_rfl) (hr_punctualsame_deepExpr Z e1.Kind e1.N e1.A An1 cn1 _ (fun w' k => (hZ w' (hS5.subw.trans k))) hRn1 hLn1 _ hq1) ?_
  rintro _ w4 ⟨rfl, hS6⟩
  refine ⟨_, rfl, hS6.below, ?_⟩
  have hS7 := hS5.call hS6
  refine gb0 [3, 4, 5] [(3, vI (gmax z1 (IntKind.i64.wrap (1 + r1)))), (17, vI (gmax z1 (IntKind.i64.wrap (1 + r1)))), (16, vI (IntKind.i64.wrap (1 + r1)))] ?_
  refine gn hK7 ?_
  refine wr [(0, 0), (1, 0)] ?_
  refine ge_addn (d := 18) (ty := 3) (x := (.tmp 9)) (y := (.const (vI 1))) (t := 3) (t2 := 3) (k := .i64) (m := i1) (by kernel_rfl) (by kernel_rfl) (by kernel_rfl) (by have h0 := RdZ.small hR0_2 (hZ _ hS7.subw); omega) ?_
  refine gb0 [1] [(9, vI ((i1 + 1 : Nat) : Int))] ?_
  have hS8 := hS7.takeN 0
  obtain rfl := si h
  exact ge_nil fun a hF => hQ _ _ _ (Outs.again ⟨hS8, hF.weaken ea⟩)
 ·rw [if_neg hc1] at h
  refine wk 10 (decide ((i1 : Int) < (l0_2.length : Int))) false (decide_eq_false hc1) ?_
  refine we_false (by kernel_rfl) ?_
  obtain rfl := si h
  exact we_exit fun a hF => hQ _ _ _ (Outs.out nofun (Exits.here ⟨hS, hF.weaken ea⟩))
theorem punctualsame_deepExpr_step (K : Nat) (rec_punctualsame_deepExpr : Int → Int → (List SExpr) → Option Int) (hr_punctualsame_deepExpr : punctualsame_deepExpr.Rec rec_punctualsame_deepExpr) (Z : Zone) (x0_0 : Int) (x0_1 : Int) (l0_2 : List SExpr) (A0_2 : Option Addr) (c0_2 : Nat) (w0 : World) (hZ : ∀ w, Sub w0 w → Z w) (hR0_2 : RdZ Z A0_2 l0_2) (hL0_2 : l0_2.length ≤ c0_2) (r : Int) (h : punctualsame_deepExpr.b K rec_punctualsame_deepExpr x0_0 x0_1 l0_2 = some r) :
  Calls Try.prog 77 #[.agg #[vI x0_0, vI x0_1, .slice A0_2 l0_2.length c0_2]] w0 (punctualsame_deepExpr.Post w0 r) := by
 have hS := St.start w0
 unfold punctualsame_deepExpr.b at h
 refine calls_enter (n := 20) (args := [.agg #[vI x0_0, vI x0_1, .slice A0_2 l0_2.length c0_2]]) (fn := Try.f77) rfl rfl rfl rfl ?_
 show WE _ _ _ _ [(0, .agg #[vI x0_0, vI x0_1, .slice A0_2 l0_2.length c0_2])] _
 refine ws fun K1 hK1 => ?_
 refine wr [(0, 1), (1, 0)] ?_
 refine gw (some 1) (.cells #[vI x0_0, vI x0_1, .slice A0_2 l0_2.length c0_2] 45) (fun b => pP b 0) hS fun b1 w1 hx1 hS1 => ?_
 refine gb0 [1] [(2, vI 0)] ?_
 refine gn hK1 ?_
 refine ws fun K2 hK2 => ?_
 refine wr [(0, 0)] ?_
 refine gb0 [0] [(3, vI 1)] ?_
 refine gn hK2 ?_
 refine ws fun K3 hK3 => ?_
 refine ws fun K4 hK4 => ?_
 refine wr [(0, 0), (1, 0), (2, 0), (3, 0)] ?_
 refine gb [0, 1, 2, 3] [(9, vI 0), (8, vI (l0_2.length : Int)), (7, .slice A0_2 l0_2.length c0_2), (6, pP b1 2)] [.loaded ⟨b1, 2, none⟩ (.slice A0_2 l0_2.length c0_2)] ⟨hS1.c 0, trivial⟩ ?_
 refine gn hK4 ?_
 refine we_block ?_
 have hS2 := hS1.takeN 0
 rcases hq2 : iter (punctualsame_deepExpr.r0 l0_2 rec_punctualsame_deepExpr) K (1, 0) with _ | (z3 | rr1)
 ·rw [hq2] at h; cases h
 ·rw [hq2] at h
  simp only [] at h
  refine we_iter (A := punctualsame_deepExpr.A0 w0 l0_2 A0_2 c0_2) (B := punctualsame_deepExpr.B0 w0) hq2 (fun a hF => ⟨hS2, hF.weaken ea⟩) (fun s o hf a w hA Q hQ => punctualsame_deepExpr_r0 K w0 Z x0_0 x0_1 l0_2 A0_2 c0_2 hZ hR0_2 hL0_2 rec_punctualsame_deepExpr hr_punctualsame_deepExpr b1 s o hf a w hA Q hQ) ?_
  rintro _ a w5 _ ⟨rfl, hS9, hF⟩
  replace hS9 : St w0 w5 [] := hS9
  refine hK3 [(3, vI z3)] w5 ?_ a hF
  refine ws fun K9 hK9 => ?_
  refine wr [(0, 0), (1, 0)] ?_
  refine gb0 [0, 1] [(2, vI z3), (19, vI z3)] ?_
  refine gn hK9 ?_
  obtain rfl := si h
  exact we_ret (pr0 [.tmp 2] [vI z3] ⟨rfl, hS9⟩)
 ·rw [hq2] at h
  simp only [] at h
  refine we_iter (A := punctualsame_deepExpr.A0 w0 l0_2 A0_2 c0_2) (B := punctualsame_deepExpr.B0 w0) hq2 (fun a hF => ⟨hS2, hF.weaken ea⟩) (fun s o hf a w hA Q hQ => punctualsame_deepExpr_r0 K w0 Z x0_0 x0_1 l0_2 A0_2 c0_2 hZ hR0_2 hL0_2 rec_punctualsame_deepExpr hr_punctualsame_deepExpr b1 s o hf a w hA Q hQ) ?_
  rintro _ a w1 _ ⟨rfl, hb⟩
  obtain rfl := si h
  exact hb
def punctualsame_deepExpr.recs (K : Nat) : Nat → (Int → Int → (List SExpr) → Option Int)
 | 0 => fun _ _ _ => none
 | n + 1 => punctualsame_deepExpr.b K (punctualsame_deepExpr.recs K n)
theorem punctualsame_deepExpr_all (K n : Nat) : punctualsame_deepExpr.Rec (punctualsame_deepExpr.recs K n) := by
 induction n with
 | zero => exact (by unfold punctualsame_deepExpr.Rec; intros; rename_i h; cases (show none = some _ from h))
 | succ n ih => exact punctualsame_deepExpr_step K _ ih
def punctualsame_deepExpr.f (K : Nat) (x0_0 : Int) (x0_1 : Int) (l0_2 : List SExpr) : Option Int := (punctualsame_deepExpr.recs K K) x0_0 x0_1 l0_2
theorem punctualsame_deepExpr_ok (K : Nat) (Z : Zone) (x0_0 : Int) (x0_1 : Int) (l0_2 : List SExpr) (A0_2 : Option Addr) (c0_2 : Nat) (w0 : World) (hZ : ∀ w, Sub w0 w → Z w) (hR0_2 : RdZ Z A0_2 l0_2) (hL0_2 : l0_2.length ≤ c0_2) (r : Int) (h : punctualsame_deepExpr.f K x0_0 x0_1 l0_2 = some r) : Calls Try.prog 77 #[.agg #[vI x0_0, vI x0_1, .slice A0_2 l0_2.length c0_2]] w0 (punctualsame_deepExpr.Post w0 r) := (punctualsame_deepExpr_all K K) Z x0_0 x0_1 l0_2 A0_2 c0_2 w0 hZ hR0_2 hL0_2 r h

/-! punctual/punctualsame.Deep -/
abbrev punctualsame_Deep.Post (w0 : World) (r : Int) (e : Ending) (w : World) : Prop := e = .returned (vI r) ∧ St w0 w []
abbrev punctualsame_Deep.Rec (rec_punctualsame_Deep : (List SStmt) → Option Int) : Prop := ∀ (Z : Zone) (l0 : List SStmt) (A0 : Option Addr) (c0 : Nat) (w0 : World) (hZ : ∀ w, Sub w0 w → Z w) (hR0 : RdZ Z A0 l0) (hL0 : l0.length ≤ c0) (r : Int) (h : rec_punctualsame_Deep l0 = some r), Calls Try.prog 52 #[.slice A0 l0.length c0] w0 (punctualsame_Deep.Post w0 r)
def punctualsame_Deep.r0 (K : Nat) (l0 : List SStmt) (rec_punctualsame_Deep : (List SStmt) → Option Int) : Int × Nat → Option ((Int × Nat) ⊕ (Int ⊕ Int))
 | (z1, i1) =>
  if (i1 : Int) < (l0.length : Int) then
   match l0[i1]? with
   | none => none
   | some e1 =>
    match rec_punctualsame_Deep e1.Body with
    | none => none
    | some r1 =>
     match rec_punctualsame_Deep e1.Else with
     | none => none
     | some r2 =>
      match punctualsame_deepExpr.f K e1.E.Kind e1.E.N e1.E.A with
      | none => none
      | some r3 =>
       match punctualsame_deepExpr.f K e1.If.A.Kind e1.If.A.N e1.If.A.A with
       | none => none
       | some r4 =>
        match punctualsame_deepExpr.f K e1.If.B.Kind e1.If.B.N e1.If.B.A with
        | none => none
        | some r5 =>
         some (.inl (gmax (gmax (gmax (gmax z1 (IntKind.i64.wrap (1 + (gmax r1 r2)))) r3) r4) r5, (i1 + 1)))
  else
   some (.inr (.inl z1))
def punctualsame_Deep.b (K : Nat) (rec_punctualsame_Deep : (List SStmt) → Option Int) (l0 : List SStmt) : Option Int :=
 match iter (punctualsame_Deep.r0 K l0 rec_punctualsame_Deep) K (0, 0) with
 | none => none
 | some (.inl z3) =>
  some z3
 | some (.inr rr1) =>
  some rr1
abbrev punctualsame_Deep.A0 (w0 : World) (l0 : List SStmt) (A0 : Option Addr) (c0 : Nat) : (Int × Nat) → Act → World → Prop := fun (s : Int × Nat) a w => St w0 w [] ∧ Frm 35 a [(3, vI s.1), (6, .slice A0 l0.length c0), (7, vI (l0.length : Int)), (8, vI (s.2 : Int))]
abbrev punctualsame_Deep.B0 (w0 : World) : (Int ⊕ Int) → Exit → Act → World → Prop := Exits 0 (fun (s : Int) a w => St w0 w [] ∧ Frm 35 a [(3, vI s)]) (Rets Try.prog Try.f52 (punctualsame_Deep.Post w0))
theorem punctualsame_Deep_r0 (K : Nat) (w0 : World) (Z : Zone) (l0 : List SStmt) (A0 : Option Addr) (c0 : Nat) (hZ : ∀ w, Sub w0 w → Z w) (hR0 : RdZ Z A0 l0) (hL0 : l0.length ≤ c0) (rec_punctualsame_Deep : (List SStmt) → Option Int) (hr_punctualsame_Deep : punctualsame_Deep.Rec rec_punctualsame_Deep) (s : Int × Nat) (o : (Int × Nat) ⊕ (Int ⊕ Int)) (h : punctualsame_Deep.r0 K l0 rec_punctualsame_Deep s = some o) (a : Act) (w : World) (hA : punctualsame_Deep.A0 w0 l0 A0 c0 s a w) (Q : Exit → Act → World → Prop) (hQ : ∀ x a w, Outs (punctualsame_Deep.A0 w0 l0 A0 c0) (punctualsame_Deep.B0 w0) o x a w → Q x a w) : (subF Try.f52 [1, 1, 0, 1, 0, 0]).wp Try.prog Q a w := by
 obtain ⟨z1, i1⟩ := s
 obtain ⟨hS, hF⟩ := hA
 replace hS : St w0 w [] := hS
 simp only [punctualsame_Deep.r0] at h
 refine (?_ : WE Try.prog 35 (subF Try.f52 [1, 1, 0, 1, 0, 0]) Q [(3, vI z1), (6, .slice A0 l0.length c0), (7, vI (l0.length : Int)), (8, vI (i1 : Int))] w) a hF
 clear hF a
 refine ws fun K5 hK5 => ?_
 refine wr [(0, 0)] ?_
 refine gb0 [0] [(9, .bool (decide ((i1 : Int) < (l0.length : Int))))] ?_
 refine gn hK5 ?_
 refine ws fun K6 hK6 => ?_
 by_cases hc1 : (i1 : Int) < (l0.length : Int)
 ·rw [if_pos hc1] at h
  refine wk 9 (decide ((i1 : Int) < (l0.length : Int))) true (decide_eq_true hc1) ?_
  refine we_true (by kernel_rfl) ?_
  refine we_skip fun a hF => hK6 _ _ ?_ a hF
  refine ws fun K7 hK7 => ?_
  refine we_block ?_
  refine ws fun K8 hK8 => ?_
  refine wr [(0, 0), (1, 0), (2, 1), (3, 2)] ?_
  rcases hx1 : l0[i1]? with _ | e1
  ·rw [hx1] at h; cases h
  rw [hx1] at h
  simp only [] at h
  obtain ⟨An1, cn1, An2, cn2, An3, cn3, An4, cn4, An5, cn5, hCs1, hLn1, hRn1, hLn2, hRn2, hLn3, hRn3, hLn4, hRn4, hLn5, hRn5⟩ := SStmt.getZ hR0 hx1
  refine gi 10 0 38 49 14 l0.length c0 (.tmp 6) (.tmp 8) A0 .i64 (i1 : Int) i1 (hR0.eqSome (hZ _ hS.subw) (pos_of_get hx1)) rfl (lt_of_get hx1) ?_
  refine gb [1] [(11, .agg #[vI e1.Kind, vI e1.N, vI e1.E.Kind, vI e1.E.N, .slice An1 e1.E.A.length cn1, vI e1.If.Kind, vI e1.If.A.Kind, vI e1.If.A.N, .slice An2 e1.If.A.A.length cn2, vI e1.If.B.Kind, vI e1.If.B.N, .slice An3 e1.If.B.A.length cn3, .slice An4 e1.Body.length cn4, .slice An5 e1.Else.length cn5])] [.loaded ⟨blkOf A0, offOf A0 + i1 * 14, none⟩ (vI e1.Kind), .loaded ⟨blkOf A0, offOf A0 + i1 * 14 + 1, none⟩ (vI e1.N), .loaded ⟨blkOf A0, offOf A0 + i1 * 14 + 2, none⟩ (vI e1.E.Kind), .loaded ⟨blkOf A0, offOf A0 + i1 * 14 + 3, none⟩ (vI e1.E.N), .loaded ⟨blkOf A0, offOf A0 + i1 * 14 + 4, none⟩ (.slice An1 e1.E.A.length cn1), .loaded ⟨blkOf A0, offOf A0 + i1 * 14 + 5, none⟩ (vI e1.If.Kind), .loaded ⟨blkOf A0, offOf A0 + i1 * 14 + 6, none⟩ (vI e1.If.A.Kind), .loaded ⟨blkOf A0, offOf A0 + i1 * 14 + 7, none⟩ (vI e1.If.A.N), .loaded ⟨blkOf A0, offOf A0 + i1 * 14 + 8, none⟩ (.slice An2 e1.If.A.A.length cn2), .loaded ⟨blkOf A0, offOf A0 + i1 * 14 + 9, none⟩ (vI e1.If.B.Kind), .loaded ⟨blkOf A0, offOf A0 + i1 * 14 + 10, none⟩ (vI e1.If.B.N), .loaded ⟨blkOf A0, offOf A0 + i1 * 14 + 11, none⟩ (.slice An3 e1.If.B.A.length cn3), .loaded ⟨blkOf A0, offOf A0 + i1 * 14 + 12, none⟩ (.slice An4 e1.Body.length cn4), .loaded ⟨blkOf A0, offOf A0 + i1 * 14 + 13, none⟩ (.slice An5 e1.Else.length cn5)] ⟨hCs1 _ (hZ _ hS.subw) 0 _ rfl, hCs1 _ (hZ _ hS.subw) 1 _ rfl, hCs1 _ (hZ _ hS.subw) 2 _ rfl, hCs1 _ (hZ _ hS.subw) 3 _ rfl, hCs1 _ (hZ _ hS.subw) 4 _ rfl, hCs1 _ (hZ _ hS.subw) 5 _ rfl, hCs1 _ (hZ _ hS.subw) 6 _ rfl, hCs1 _ (hZ _ hS.subw) 7 _ rfl, hCs1 _ (hZ _ hS.subw) 8 _ rfl, hCs1 _ (hZ _ hS.subw) 9 _ rfl, hCs1 _ (hZ _ hS.subw) 10 _ rfl, hCs1 _ (hZ _ hS.subw) 11 _ rfl, hCs1 _ (hZ _ hS.subw) 12 _ rfl, hCs1 _ (hZ _ hS.subw) 13 _ rfl, trivial⟩ ?_
  refine gw (some 5) (.cells #[vI 0, vI 0, vI 0, vI 0, .slice none 0 0, vI 0, vI 0, vI 0, .slice none 0 0, vI 0, vI 0, .slice none 0 0, .slice none 0 0, .slice none 0 0] 49) (fun b => pP b 0) hS fun b1 w1 hx2 hS1 => ?_
  refine gs b1 0 #[vI 0, vI 0, vI 0, vI 0, .slice none 0 0, vI 0, vI 0, vI 0, .slice none 0 0, vI 0, vI 0, .slice none 0 0, .slice none 0 0, .slice none 0 0] 49 [vI e1.Kind, vI e1.N, vI e1.E.Kind, vI e1.E.N, .slice An1 e1.E.A.length cn1, vI e1.If.Kind, vI e1.If.A.Kind, vI e1.If.A.N, .slice An2 e1.If.A.A.length cn2, vI e1.If.B.Kind, vI e1.If.B.N, .slice An3 e1.If.B.A.length cn3, .slice An4 e1.Body.length cn4, .slice An5 e1.Else.length cn5] hS1 fun w2 hS2 => ?_
  have hS3 := hS2.nc #[vI e1.Kind, vI e1.N, vI e1.E.Kind, vI e1.E.N, .slice An1 e1.E.A.length cn1, vI e1.If.Kind, vI e1.If.A.Kind, vI e1.If.A.N, .slice An2 e1.If.A.A.length cn2, vI e1.If.B.Kind, vI e1.If.B.N, .slice An3 e1.If.B.A.length cn3, .slice An4 e1.Body.length cn4, .slice An5 e1.Else.length cn5] (by kernel_rfl)
  refine gn hK8 ?_
  refine we_draws (by kernel_rfl) [(0, 0), (1, 0), (2, 0), (4, 0), (5, 0), (9, 0), (10, 0), (12, 0), (13, 0), (14, 0), (16, 0), (17, 0), (18, 0), (3, 1), (6, 1), (7, 0), (8, 0), (11, 1), (15, 1), (19, 1), (20, 0), (21, 0)] (by kernel_rfl) ?_
  have hS4 := hS3.drew
  rcases hq1 : rec_punctualsame_Deep e1.Body with _ | r1
  ·rw [hq1] at h; cases h
  rw [hq1] at h
  simp only [] at h
  refine gb [0, 1, 2, 4, 5, 9, 10, 12, 13, 14, 16, 17, 18] [(30, .agg #[vI e1.If.B.Kind, vI e1.If.B.N, .slice An3 e1.If.B.A.length cn3]), (29, pP b1 9), (28, pP b1 5), (26, .agg #[vI e1.If.A.Kind, vI e1.If.A.N, .slice An2 e1.If.A.A.length cn2]), (25, pP b1 6), (24, pP b1 5), (22, .agg #[vI e1.E.Kind, vI e1.E.N, .slice An1 e1.E.A.length cn1]), (21, pP b1 2), (17, .slice An5 e1.Else.length cn5), (16, pP b1 13), (14, .slice An4 e1.Body.length cn4), (13, pP b1 12), (12, vI z1)] [.loaded ⟨b1, 12, none⟩ (.slice An4 e1.Body.length cn4), .loaded ⟨b1, 13, none⟩ (.slice An5 e1.Else.length cn5), .loaded ⟨b1, 2, none⟩ (vI e1.E.Kind), .loaded ⟨b1, 3, none⟩ (vI e1.E.N), .loaded ⟨b1, 4, none⟩ (.slice An1 e1.E.A.length cn1), .loaded ⟨b1, 6, none⟩ (vI e1.If.A.Kind), .loaded ⟨b1, 7, none⟩ (vI e1.If.A.N), .loaded ⟨b1, 8, none⟩ (.slice An2 e1.If.A.A.length cn2), .loaded ⟨b1, 9, none⟩ (vI e1.If.B.Kind), .loaded ⟨b1, 10, none⟩ (vI e1.If.B.N), .loaded ⟨b1, 11, none⟩ (.slice An3 e1.If.B.A.length cn3)] ⟨hS4.c 0, hS4.c 0, hS4.c 0, hS4.c 0, hS4.c 0, hS4.c 0, hS4.c 0, hS4.c 0, hS4.c 0, hS4.c 0, hS4.c 0, trivial⟩ ?_
  refine ge_call (d := some 15) (f := 52) (args := #[.slice An4 e1.Body.length cn4]) (by kernel_rfl) (hr_punctualsame_Deep Z e1.Body An4 cn4 _ (fun w' k => (hZ w' (hS4.subw.trans k))) hRn4 hLn4 _ hq1) ?_
  rintro _ w3 ⟨rfl, hS5⟩
  refine ⟨_, rfl, hS5.below, ?_⟩
  have hS6 := hS4.call hS5
  rcases hq2 : rec_punctualsame_Deep e1.Else with _ | r2
  ·rw [hq2] at h; cases h
  rw [hq2] at h
  simp only [] at h
  refine ge_call (d := some 18) (f := 52) (args := #[.slice An5 e1.Else.length cn5]) (by kernel_rfl) (hr_punctualsame_Deep Z e1.Else An5 cn5 _ (fun w' k => (hZ w' (hS6.subw.trans k))) hRn5 hLn5 _ hq2) ?_
  rintro _ w4 ⟨rfl, hS7⟩
  refine ⟨_, rfl, hS7.below, ?_⟩
  have hS8 := hS6.call hS7
  rcases hq3 : punctualsame_deepExpr.f K e1.E.Kind e1.E.N e1.E.A with _ | r3
  ·rw [hq3] at h; cases h
  rw [hq3] at h
  simp only [] at h
  refine gb0 [7, 8] [(20, vI (IntKind.i64.wrap (1 + (gmax r1 r2)))), (19, vI (gmax r1 r2))] ?_
  refine ge_call (d := some 23) (f := 77) (args := #[.agg #[vI e1.E.Kind, vI e1.E.N, .slice An1 e1.E.A.length cn1]]) (by kernel_rfl) (punctualsame_deepExpr_ok K Z e1.E.Kind e1.E.N e1.E.A An1 cn1 _ (fun w' k => (hZ w' (hS8.subw.trans k))) hRn1 hLn1 _ hq3) ?_
  rintro _ w5 ⟨rfl, hS9⟩
  refine ⟨_, rfl, hS9.below, ?_⟩
  have hS10 := hS8.call hS9
  rcases hq4 : punctualsame_deepExpr.f K e1.If.A.Kind e1.If.A.N e1.If.A.A with _ | r4
  ·rw [hq4] at h; cases h
  rw [hq4] at h
  simp only [] at h
  refine ge_call (d := some 27) (f := 77) (args := #[.agg #[vI e1.If.A.Kind, vI e1.If.A.N, .slice An2 e1.If.A.A.length cn2]]) (by kernel_rfl) (punctualsame_deepExpr_ok K Z e1.If.A.Kind e1.If.A.N e1.If.A.A An2 cn2 _ (fun w' k => (hZ w' (hS10.subw.trans k))) hRn2 hLn2 _ hq4) ?_
  rintro _ w6 ⟨rfl, hS11⟩
  refine ⟨_, rfl, hS11.below, ?_⟩
  have hS12 := hS10.call hS11
  rcases hq5 : punctualsame_deepExpr.f K e1.If.B.Kind e1.If.B.N e1.If.B.A with _ | r5
  ·rw [hq5] at h; cases h
  rw [hq5] at h
  simp only [] at h
  refine ge_call (d := some 31) (f := 77) (args := #[.agg #[vI e1.If.B.Kind, vI e1.If.B.N, .slice An3 e1.If.B.A.length cn3]]) (by kernel_rfl) (punctualsame_deepExpr_ok K Z e1.If.B.Kind e1.If.B.N e1.If.B.A An3 cn3 _ (fun w' k => (hZ w' (hS12.subw.trans k))) hRn3 hLn3 _ hq5) ?_
  rintro _ w7 ⟨rfl, hS13⟩
  refine ⟨_, rfl, hS13.below, ?_⟩
  have hS14 := hS12.call hS13
  refine gb0 [20, 21] [(3, vI (gmax (gmax (gmax (gmax z1 (IntKind.i64.wrap (1 + (gmax r1 r2)))) r3) r4) r5)), (32, vI (gmax (gmax (gmax (gmax z1 (IntKind.i64.wrap (1 + (gmax r1 r2)))) r3) r4) r5))] ?_
  refine gn hK7 ?_
  refine wr [(0, 0), (1, 0)] ?_
  refine ge_addn (d := 33) (ty := 3) (x := (.tmp 8)) (y := (.const (vI 1))) (t := 3) (t2 := 3) (k := .i64) (m := i1) (by kernel_rfl) (by kernel_rfl) (by kernel_rfl) (by have h0 := RdZ.small hR0 (hZ _ hS14.subw); omega) ?_
  refine gb0 [1] [(8, vI ((i1 + 1 : Nat) : Int))] ?_
  have hS15 := hS14.takeN 0
  obtain rfl := si h
  exact ge_nil fun a hF => hQ _ _ _ (Outs.again ⟨hS15, hF.weaken ea⟩)
 ·rw [if_neg hc1] at h
  refine wk 9 (decide ((i1 : Int) < (l0.length : Int))) false (decide_eq_false hc1) ?_
  refine we_false (by kernel_rfl) ?_
  obtain rfl := si h
  exact we_exit fun a hF => hQ _ _ _ (Outs.out nofun (Exits.here ⟨hS, hF.weaken ea⟩))
theorem punctualsame_Deep_step (K : Nat) (rec_punctualsame_Deep : (List SStmt) → Option Int) (hr_punctualsame_Deep : punctualsame_Deep.Rec rec_punctualsame_Deep) (Z : Zone) (l0 : List SStmt) (A0 : Option Addr) (c0 : Nat) (w0 : World) (hZ : ∀ w, Sub w0 w → Z w) (hR0 : RdZ Z A0 l0) (hL0 : l0.length ≤ c0) (r : Int) (h : punctualsame_Deep.b K rec_punctualsame_Deep l0 = some r) :
  Calls Try.prog 52 #[.slice A0 l0.length c0] w0 (punctualsame_Deep.Post w0 r) := by
 have hS := St.start w0
 unfold punctualsame_Deep.b at h
 refine calls_enter (n := 35) (args := [.slice A0 l0.length c0]) (fn := Try.f52) rfl rfl rfl rfl ?_
 show WE _ _ _ _ [(0, .slice A0 l0.length c0)] _
 refine ws fun K1 hK1 => ?_
 refine wr [(0, 0)] ?_
 refine gb0 [0] [(2, vI 0)] ?_
 refine gn hK1 ?_
 refine ws fun K2 hK2 => ?_
 refine wr [(0, 0)] ?_
 refine gb0 [0] [(3, vI 0)] ?_
 refine gn hK2 ?_
 refine ws fun K3 hK3 => ?_
 refine ws fun K4 hK4 => ?_
 refine wr [(0, 0), (1, 0), (2, 0)] ?_
 refine gb0 [0, 1, 2] [(8, vI 0), (7, vI (l0.length : Int)), (6, .slice A0 l0.length c0)] ?_
 refine gn hK4 ?_
 refine we_block ?_
 rcases hq6 : iter (punctualsame_Deep.r0 K l0 rec_punctualsame_Deep) K (0, 0) with _ | (z3 | rr1)
 ·rw [hq6] at h; cases h
 ·rw [hq6] at h
  simp only [] at h
  refine we_iter (A := punctualsame_Deep.A0 w0 l0 A0 c0) (B := punctualsame_Deep.B0 w0) hq6 (fun a hF => ⟨hS, hF.weaken ea⟩) (fun s o hf a w hA Q hQ => punctualsame_Deep_r0 K w0 Z l0 A0 c0 hZ hR0 hL0 rec_punctualsame_Deep hr_punctualsame_Deep s o hf a w hA Q hQ) ?_
  rintro _ a w8 _ ⟨rfl, hS16, hF⟩
  replace hS16 : St w0 w8 [] := hS16
  refine hK3 [(3, vI z3)] w8 ?_ a hF
  refine ws fun K9 hK9 => ?_
  refine wr [(0, 0), (1, 0)] ?_
  refine gb0 [0, 1] [(2, vI z3), (34, vI z3)] ?_
  refine gn hK9 ?_
  obtain rfl := si h
  exact we_ret (pr0 [.tmp 2] [vI z3] ⟨rfl, hS16⟩)
 ·rw [hq6] at h
  simp only [] at h
  refine we_iter (A := punctualsame_Deep.A0 w0 l0 A0 c0) (B := punctualsame_Deep.B0 w0) hq6 (fun a hF => ⟨hS, hF.weaken ea⟩) (fun s o hf a w hA Q hQ => punctualsame_Deep_r0 K w0 Z l0 A0 c0 hZ hR0 hL0 rec_punctualsame_Deep hr_punctualsame_Deep s o hf a w hA Q hQ) ?_
  rintro _ a w1 _ ⟨rfl, hb⟩
  obtain rfl := si h
  exact hb
def punctualsame_Deep.recs (K : Nat) : Nat → ((List SStmt) → Option Int)
 | 0 => fun _ => none
 | n + 1 => punctualsame_Deep.b K (punctualsame_Deep.recs K n)
theorem punctualsame_Deep_all (K n : Nat) : punctualsame_Deep.Rec (punctualsame_Deep.recs K n) := by
 induction n with
 | zero => exact (by unfold punctualsame_Deep.Rec; intros; rename_i h; cases (show none = some _ from h))
 | succ n ih => exact punctualsame_Deep_step K _ ih
def punctualsame_Deep.f (K : Nat) (l0 : List SStmt) : Option Int := (punctualsame_Deep.recs K K) l0
theorem punctualsame_Deep_ok (K : Nat) (Z : Zone) (l0 : List SStmt) (A0 : Option Addr) (c0 : Nat) (w0 : World) (hZ : ∀ w, Sub w0 w → Z w) (hR0 : RdZ Z A0 l0) (hL0 : l0.length ≤ c0) (r : Int) (h : punctualsame_Deep.f K l0 = some r) : Calls Try.prog 52 #[.slice A0 l0.length c0] w0 (punctualsame_Deep.Post w0 r) := (punctualsame_Deep_all K K) Z l0 A0 c0 w0 hZ hR0 hL0 r h

/-! punctual/punctualref.Size -/
abbrev punctualref_Size.Post (w0 : World) (r : Int) (e : Ending) (w : World) : Prop := e = .returned (vI r) ∧ St w0 w []
abbrev punctualref_Size.Rec (rec_punctualref_Size : (List SStmt) → Option Int) : Prop := ∀ (Z : Zone) (l0 : List SStmt) (A0 : Option Addr) (c0 : Nat) (w0 : World) (hZ : ∀ w, Sub w0 w → Z w) (hR0 : RdZ Z A0 l0) (hL0 : l0.length ≤ c0) (r : Int) (h : rec_punctualref_Size l0 = some r), Calls Try.prog 27 #[.slice A0 l0.length c0] w0 (punctualref_Size.Post w0 r)
def punctualref_Size.r0 (l0 : List SStmt) (rec_punctualref_Size : (List SStmt) → Option Int) : Int × Nat → Option ((Int × Nat) ⊕ (Int ⊕ Int))
 | (z1, i1) =>
  if (i1 : Int) < (l0.length : Int) then
   match l0[i1]? with
   | none => none
   | some e1 =>
    match rec_punctualref_Size e1.Body with
    | none => none
    | some r1 =>
     match rec_punctualref_Size e1.Else with
     | none => none
     | some r2 =>
      some (.inl (IntKind.i64.wrap ((IntKind.i64.wrap ((IntKind.i64.wrap (z1 + 1)) + r1)) + r2), (i1 + 1)))
  else
   some (.inr (.inl z1))
def punctualref_Size.b (K : Nat) (rec_punctualref_Size : (List SStmt) → Option Int) (l0 : List SStmt) : Option Int :=
 match iter (punctualref_Size.r0 l0 rec_punctualref_Size) K (0, 0) with
 | none => none
 | some (.inl z3) =>
  some z3
 | some (.inr rr1) =>
  some rr1
abbrev punctualref_Size.A0 (w0 : World) (l0 : List SStmt) (A0 : Option Addr) (c0 : Nat) : (Int × Nat) → Act → World → Prop := fun (s : Int × Nat) a w => St w0 w [] ∧ Frm 24 a [(3, vI s.1), (6, .slice A0 l0.length c0), (7, vI (l0.length : Int)), (8, vI (s.2 : Int))]
abbrev punctualref_Size.B0 (w0 : World) : (Int ⊕ Int) → Exit → Act → World → Prop := Exits 0 (fun (s : Int) a w => St w0 w [] ∧ Frm 24 a [(3, vI s)]) (Rets Try.prog Try.f27 (punctualref_Size.Post w0))
theorem punctualref_Size_r0 (K : Nat) (w0 : World) (Z : Zone) (l0 : List SStmt) (A0 : Option Addr) (c0 : Nat) (hZ : ∀ w, Sub w0 w → Z w) (hR0 : RdZ Z A0 l0) (hL0 : l0.length ≤ c0) (rec_punctualref_Size : (List SStmt) → Option Int) (hr_punctualref_Size : punctualref_Size.Rec rec_punctualref_Size) (s : Int × Nat) (o : (Int × Nat) ⊕ (Int ⊕ Int)) (h : punctualref_Size.r0 l0 rec_punctualref_Size s = some o) (a : Act) (w : World) (hA : punctualref_Size.A0 w0 l0 A0 c0 s a w) (Q : Exit → Act → World → Prop) (hQ : ∀ x a w, Outs (punctualref_Size.A0 w0 l0 A0 c0) (punctualref_Size.B0 w0) o x a w → Q x a w) : (subF Try.f27 [1, 1, 0, 1, 0, 0]).wp Try.prog Q a w := by
 obtain ⟨z1, i1⟩ := s
 obtain ⟨hS, hF⟩ := hA
 replace hS : St w0 w [] := hS
 simp only [punctualref_Size.r0] at h
 refine (?_ : WE Try.prog 24 (subF Try.f27 [1, 1, 0, 1, 0, 0]) Q [(3, vI z1), (6, .slice A0 l0.length c0), (7, vI (l0.length : Int)), (8, vI (i1 : Int))] w) a hF
 clear hF a
 refine ws fun K5 hK5 => ?_
 refine wr [(0, 0)] ?_
 refine gb0 [0] [(9, .bool (decide ((i1 : Int) < (l0.length : Int))))] ?_
 refine gn hK5 ?_
 refine ws fun K6 hK6 => ?_
 by_cases hc1 : (i1 : Int) < (l0.length : Int)
 ·rw [if_pos hc1] at h
  refine wk 9 (decide ((i1 : Int) < (l0.length : Int))) true (decide_eq_true hc1) ?_
  refine we_true (by kernel_rfl) ?_
  refine we_skip fun a hF => hK6 _ _ ?_ a hF
  refine ws fun K7 hK7 => ?_
  refine we_block ?_
  refine ws fun K8 hK8 => ?_
  refine wr [(0, 0), (1, 0), (2, 1), (3, 2)] ?_
  rcases hx1 : l0[i1]? with _ | e1
  ·rw [hx1] at h; cases h
  rw [hx1] at h
  simp only [] at h
  obtain ⟨An1, cn1, An2, cn2, An3, cn3, An4, cn4, An5, cn5, hCs1, hLn1, hRn1, hLn2, hRn2, hLn3, hRn3, hLn4, hRn4, hLn5, hRn5⟩ := SStmt.getZ hR0 hx1
  refine gi 10 0 38 49 14 l0.length c0 (.tmp 6) (.tmp 8) A0 .i64 (i1 : Int) i1 (hR0.eqSome (hZ _ hS.subw) (pos_of_get hx1)) rfl (lt_of_get hx1) ?_
  refine gb [1] [(11, .agg #[vI e1.Kind, vI e1.N, vI e1.E.Kind, vI e1.E.N, .slice An1 e1.E.A.length cn1, vI e1.If.Kind, vI e1.If.A.Kind, vI e1.If.A.N, .slice An2 e1.If.A.A.length cn2, vI e1.If.B.Kind, vI e1.If.B.N, .slice An3 e1.If.B.A.length cn3, .slice An4 e1.Body.length cn4, .slice An5 e1.Else.length cn5])] [.loaded ⟨blkOf A0, offOf A0 + i1 * 14, none⟩ (vI e1.Kind), .loaded ⟨blkOf A0, offOf A0 + i1 * 14 + 1, none⟩ (vI e1.N), .loaded ⟨blkOf A0, offOf A0 + i1 * 14 + 2, none⟩ (vI e1.E.Kind), .loaded ⟨blkOf A0, offOf A0 + i1 * 14 + 3, none⟩ (vI e1.E.N), .loaded ⟨blkOf A0, offOf A0 + i1 * 14 + 4, none⟩ (.slice An1 e1.E.A.length cn1), .loaded ⟨blkOf A0, offOf A0 + i1 * 14 + 5, none⟩ (vI e1.If.Kind), .loaded ⟨blkOf A0, offOf A0 + i1 * 14 + 6, none⟩ (vI e1.If.A.Kind), .loaded ⟨blkOf A0, offOf A0 + i1 * 14 + 7, none⟩ (vI e1.If.A.N), .loaded ⟨blkOf A0, offOf A0 + i1 * 14 + 8, none⟩ (.slice An2 e1.If.A.A.length cn2), .loaded ⟨blkOf A0, offOf A0 + i1 * 14 + 9, none⟩ (vI e1.If.B.Kind), .loaded ⟨blkOf A0, offOf A0 + i1 * 14 + 10, none⟩ (vI e1.If.B.N), .loaded ⟨blkOf A0, offOf A0 + i1 * 14 + 11, none⟩ (.slice An3 e1.If.B.A.length cn3), .loaded ⟨blkOf A0, offOf A0 + i1 * 14 + 12, none⟩ (.slice An4 e1.Body.length cn4), .loaded ⟨blkOf A0, offOf A0 + i1 * 14 + 13, none⟩ (.slice An5 e1.Else.length cn5)] ⟨hCs1 _ (hZ _ hS.subw) 0 _ rfl, hCs1 _ (hZ _ hS.subw) 1 _ rfl, hCs1 _ (hZ _ hS.subw) 2 _ rfl, hCs1 _ (hZ _ hS.subw) 3 _ rfl, hCs1 _ (hZ _ hS.subw) 4 _ rfl, hCs1 _ (hZ _ hS.subw) 5 _ rfl, hCs1 _ (hZ _ hS.subw) 6 _ rfl, hCs1 _ (hZ _ hS.subw) 7 _ rfl, hCs1 _ (hZ _ hS.subw) 8 _ rfl, hCs1 _ (hZ _ hS.subw) 9 _ rfl, hCs1 _ (hZ _ hS.subw) 10 _ rfl, hCs1 _ (hZ _ hS.subw) 11 _ rfl, hCs1 _ (hZ _ hS.subw) 12 _ rfl, hCs1 _ (hZ _ hS.subw) 13 _ rfl, trivial⟩ ?_
  refine gw (some 5) (.cells #[vI 0, vI 0, vI 0, vI 0, .slice none 0 0, vI 0, vI 0, vI 0, .slice none 0 0, vI 0, vI 0, .slice none 0 0, .slice none 0 0, .slice none 0 0] 49) (fun b => pP b 0) hS fun b1 w1 hx2 hS1 => ?_
  refine gs b1 0 #[vI 0, vI 0, vI 0, vI 0, .slice none 0 0, vI 0, vI 0, vI 0, .slice none 0 0, vI 0, vI 0, .slice none 0 0, .slice none 0 0, .slice none 0 0] 49 [vI e1.Kind, vI e1.N, vI e1.E.Kind, vI e1.E.N, .slice An1 e1.E.A.length cn1, vI e1.If.Kind, vI e1.If.A.Kind, vI e1.If.A.N, .slice An2 e1.If.A.A.length cn2, vI e1.If.B.Kind, vI e1.If.B.N, .slice An3 e1.If.B.A.length cn3, .slice An4 e1.Body.length cn4, .slice An5 e1.Else.length cn5] hS1 fun w2 hS2 => ?_
  have hS3 := hS2.nc #[vI e1.Kind, vI e1.N, vI e1.E.Kind, vI e1.E.N, .slice An1 e1.E.A.length cn1, vI e1.If.Kind, vI e1.If.A.Kind, vI e1.If.A.N, .slice An2 e1.If.A.A.length cn2, vI e1.If.B.Kind, vI e1.If.B.N, .slice An3 e1.If.B.A.length cn3, .slice An4 e1.Body.length cn4, .slice An5 e1.Else.length cn5] (by kernel_rfl)
  refine gn hK8 ?_
  refine we_draws (by kernel_rfl) [(0, 0), (1, 0), (2, 0), (3, 0), (6, 0), (7, 0), (4, 1), (5, 0), (8, 1), (9, 0), (10, 0)] (by kernel_rfl) ?_
  have hS4 := hS3.drew
  rcases hq1 : rec_punctualref_Size e1.Body with _ | r1
  ·rw [hq1] at h; cases h
  rw [hq1] at h
  simp only [] at h
  refine gb [0, 1, 2, 3, 6, 7] [(19, .slice An5 e1.Else.length cn5), (18, pP b1 13), (15, .slice An4 e1.Body.length cn4), (14, pP b1 12), (13, vI (IntKind.i64.wrap (z1 + 1))), (12, vI z1)] [.loaded ⟨b1, 12, none⟩ (.slice An4 e1.Body.length cn4), .loaded ⟨b1, 13, none⟩ (.slice An5 e1.Else.length cn5)] ⟨hS4.c 0, hS4.c 0, trivial⟩ ?_
  refine ge_call (d := some 16) (f := 27) (args := #[.slice An4 e1.Body.length cn4]) (by kernel_rfl) (hr_punctualref_Size Z e1.Body An4 cn4 _ (fun w' k => (hZ w' (hS4.subw.trans k))) hRn4 hLn4 _ hq1) ?_
  rintro _ w3 ⟨rfl, hS5⟩
  refine ⟨_, rfl, hS5.below, ?_⟩
  have hS6 := hS4.call hS5
  rcases hq2 : rec_punctualref_Size e1.Else with _ | r2
  ·rw [hq2] at h; cases h
  rw [hq2] at h
  simp only [] at h
  refine gb0 [5] [(17, vI (IntKind.i64.wrap ((IntKind.i64.wrap (z1 + 1)) + r1)))] ?_
  refine ge_call (d := some 20) (f := 27) (args := #[.slice An5 e1.Else.length cn5]) (by kernel_rfl) (hr_punctualref_Size Z e1.Else An5 cn5 _ (fun w' k => (hZ w' (hS6.subw.trans k))) hRn5 hLn5 _ hq2) ?_
  rintro _ w4 ⟨rfl, hS7⟩
  refine ⟨_, rfl, hS7.below, ?_⟩
  have hS8 := hS6.call hS7
  refine gb0 [9, 10] [(3, vI (IntKind.i64.wrap ((IntKind.i64.wrap ((IntKind.i64.wrap (z1 + 1)) + r1)) + r2))), (21, vI (IntKind.i64.wrap ((IntKind.i64.wrap ((IntKind.i64.wrap (z1 + 1)) + r1)) + r2)))] ?_
  refine gn hK7 ?_
  refine wr [(0, 0), (1, 0)] ?_
  refine ge_addn (d := 22) (ty := 3) (x := (.tmp 8)) (y := (.const (vI 1))) (t := 3) (t2 := 3) (k := .i64) (m := i1) (by kernel_rfl) (by kernel_rfl) (by kernel_rfl) (by have h0 := RdZ.small hR0 (hZ _ hS8.subw); omega) ?_
  refine gb0 [1] [(8, vI ((i1 + 1 : Nat) : Int))] ?_
  have hS9 := hS8.takeN 0
  obtain rfl := si h
  exact ge_nil fun a hF => hQ _ _ _ (Outs.again ⟨hS9, hF.weaken ea⟩)
 ·rw [if_neg hc1] at h
  refine wk 9 (decide ((i1 : Int) < (l0.length : Int))) false (decide_eq_false hc1) ?_
  refine we_false (by kernel_rfl) ?_
  obtain rfl := si h
  exact we_exit fun a hF => hQ _ _ _ (Outs.out nofun (Exits.here ⟨hS, hF.weaken ea⟩))
theorem punctualref_Size_step (K : Nat) (rec_punctualref_Size : (List SStmt) → Option Int) (hr_punctualref_Size : punctualref_Size.Rec rec_punctualref_Size) (Z : Zone) (l0 : List SStmt) (A0 : Option Addr) (c0 : Nat) (w0 : World) (hZ : ∀ w, Sub w0 w → Z w) (hR0 : RdZ Z A0 l0) (hL0 : l0.length ≤ c0) (r : Int) (h : punctualref_Size.b K rec_punctualref_Size l0 = some r) :
  Calls Try.prog 27 #[.slice A0 l0.length c0] w0 (punctualref_Size.Post w0 r) := by
 have hS := St.start w0
 unfold punctualref_Size.b at h
 refine calls_enter (n := 24) (args := [.slice A0 l0.length c0]) (fn := Try.f27) rfl rfl rfl rfl ?_
 show WE _ _ _ _ [(0, .slice A0 l0.length c0)] _
 refine ws fun K1 hK1 => ?_
 refine wr [(0, 0)] ?_
 refine gb0 [0] [(2, vI 0)] ?_
 refine gn hK1 ?_
 refine ws fun K2 hK2 => ?_
 refine wr [(0, 0)] ?_
 refine gb0 [0] [(3, vI 0)] ?_
 refine gn hK2 ?_
 refine ws fun K3 hK3 => ?_
 refine ws fun K4 hK4 => ?_
 refine wr [(0, 0), (1, 0), (2, 0)] ?_
 refine gb0 [0, 1, 2] [(8, vI 0), (7, vI (l0.length : Int)), (6, .slice A0 l0.length c0)] ?_
 refine gn hK4 ?_
 refine we_block ?_
 rcases hq3 : iter (punctualref_Size.r0 l0 rec_punctualref_Size) K (0, 0) with _ | (z3 | rr1)
 ·rw [hq3] at h; cases h
 ·rw [hq3] at h
  simp only [] at h
  refine we_iter (A := punctualref_Size.A0 w0 l0 A0 c0) (B := punctualref_Size.B0 w0) hq3 (fun a hF => ⟨hS, hF.weaken ea⟩) (fun s o hf a w hA Q hQ => punctualref_Size_r0 K w0 Z l0 A0 c0 hZ hR0 hL0 rec_punctualref_Size hr_punctualref_Size s o hf a w hA Q hQ) ?_
  rintro _ a w5 _ ⟨rfl, hS10, hF⟩
  replace hS10 : St w0 w5 [] := hS10
  refine hK3 [(3, vI z3)] w5 ?_ a hF
  refine ws fun K9 hK9 => ?_
  refine wr [(0, 0), (1, 0)] ?_
  refine gb0 [0, 1] [(2, vI z3), (23, vI z3)] ?_
  refine gn hK9 ?_
  obtain rfl := si h
  exact we_ret (pr0 [.tmp 2] [vI z3] ⟨rfl, hS10⟩)
 ·rw [hq3] at h
  simp only [] at h
  refine we_iter (A := punctualref_Size.A0 w0 l0 A0 c0) (B := punctualref_Size.B0 w0) hq3 (fun a hF => ⟨hS, hF.weaken ea⟩) (fun s o hf a w hA Q hQ => punctualref_Size_r0 K w0 Z l0 A0 c0 hZ hR0 hL0 rec_punctualref_Size hr_punctualref_Size s o hf a w hA Q hQ) ?_
  rintro _ a w1 _ ⟨rfl, hb⟩
  obtain rfl := si h
  exact hb
def punctualref_Size.recs (K : Nat) : Nat → ((List SStmt) → Option Int)
 | 0 => fun _ => none
 | n + 1 => punctualref_Size.b K (punctualref_Size.recs K n)
theorem punctualref_Size_all (K n : Nat) : punctualref_Size.Rec (punctualref_Size.recs K n) := by
 induction n with
 | zero => exact (by unfold punctualref_Size.Rec; intros; rename_i h; cases (show none = some _ from h))
 | succ n ih => exact punctualref_Size_step K _ ih
def punctualref_Size.f (K : Nat) (l0 : List SStmt) : Option Int := (punctualref_Size.recs K K) l0
theorem punctualref_Size_ok (K : Nat) (Z : Zone) (l0 : List SStmt) (A0 : Option Addr) (c0 : Nat) (w0 : World) (hZ : ∀ w, Sub w0 w → Z w) (hR0 : RdZ Z A0 l0) (hL0 : l0.length ≤ c0) (r : Int) (h : punctualref_Size.f K l0 = some r) : Calls Try.prog 27 #[.slice A0 l0.length c0] w0 (punctualref_Size.Post w0 r) := (punctualref_Size_all K K) Z l0 A0 c0 w0 hZ hR0 hL0 r h

/-! punctual/punctuallaw.claims -/
abbrev claims.Post (w0 : World) (r : Bool) (e : Ending) (w : World) : Prop := e = .returned (.bool r) ∧ St w0 w []
def claims.f (K : Nat) (l0 : List SStmt) : Option Bool :=
 match punctualsame_Deep.f K l0 with
 | none => none
 | some r1 =>
  if r1 ≤ 300 then
   match punctualref_Size.f K l0 with
   | none => none
   | some r2 =>
    some (decide (r2 ≤ 2000))
  else
   some false
theorem claims_ok (K : Nat) (Z : Zone) (l0 : List SStmt) (A0 : Option Addr) (c0 : Nat) (w0 : World) (hZ : ∀ w, Sub w0 w → Z w) (hR0 : RdZ Z A0 l0) (hL0 : l0.length ≤ c0) (r : Bool) (h : claims.f K l0 = some r) :
  Calls Try.prog 24 #[.slice A0 l0.length c0] w0 (claims.Post w0 r) := by
 have hS := St.start w0
 unfold claims.f at h
 refine calls_enter (n := 11) (args := [.slice A0 l0.length c0]) (fn := Try.f24) rfl rfl rfl rfl ?_
 show WE _ _ _ _ [(0, .slice A0 l0.length c0)] _
 refine ws fun K1 hK1 => ?_
 refine wr [(0, 0)] ?_
 refine gb0 [0] [(2, .bool false)] ?_
 refine gn hK1 ?_
 refine ws fun K2 hK2 => ?_
 refine wr [(0, 0), (1, 1), (2, 0), (3, 0), (4, 0), (5, 1), (6, 0), (7, 0), (8, 0)] ?_
 rcases hq1 : punctualsame_Deep.f K l0 with _ | r1
 ·rw [hq1] at h; cases h
 rw [hq1] at h
 simp only [] at h
 refine gb0 [0] [(3, .slice A0 l0.length c0)] ?_
 refine ge_call (d := some 4) (f := 52) (args := #[.slice A0 l0.length c0]) (by kernel_rfl) (punctualsame_Deep_ok K Z l0 A0 c0 _ (fun w' k => (hZ w' (hS.subw.trans k))) hR0 hL0 _ hq1) ?_
 rintro _ w1 ⟨rfl, hS1⟩
 refine ⟨_, rfl, hS1.below, ?_⟩
 have hS2 := hS.call hS1
 refine gb0 [2, 3] [(6, .bool (decide (r1 ≤ 300))), (5, .bool (decide (r1 ≤ 300)))] ?_
 by_cases hc1 : r1 ≤ 300
 ·rw [if_pos hc1] at h
  refine gk 6 (decide (r1 ≤ 300)) true (decide_eq_true hc1) ?_
  rcases hq2 : punctualref_Size.f K l0 with _ | r2
  ·rw [hq2] at h; cases h
  rw [hq2] at h
  simp only [] at h
  refine gb0 [4] [(7, .slice A0 l0.length c0)] ?_
  refine ge_call (d := some 8) (f := 27) (args := #[.slice A0 l0.length c0]) (by kernel_rfl) (punctualref_Size_ok K Z l0 A0 c0 _ (fun w' k => (hZ w' (hS2.subw.trans k))) hR0 hL0 _ hq2) ?_
  rintro _ w2 ⟨rfl, hS3⟩
  refine ⟨_, rfl, hS3.below, ?_⟩
  have hS4 := hS2.call hS3
  refine gb0 [6, 7, 8] [(2, .bool (decide (r2 ≤ 2000))), (10, .bool (decide (r2 ≤ 2000))), (9, .bool (decide (r2 ≤ 2000)))] ?_
  refine gn hK2 ?_
  obtain rfl := si h
  exact we_ret (pr0 [.tmp 2] [.bool (decide (r2 ≤ 2000))] ⟨rfl, hS4⟩)
 ·rw [if_neg hc1] at h
  refine gk 6 (decide (r1 ≤ 300)) false (decide_eq_false hc1) ?_
  refine gb0 [4] [(7, undef)] ?_
  refine ge_off rfl rfl rfl (by kernel_rfl) ?_
  refine gb0 [6, 7, 8] [(2, .bool false), (10, .bool false), (9, undef)] ?_
  refine gn hK2 ?_
  obtain rfl := si h
  exact we_ret (pr0 [.tmp 2] [.bool false] ⟨rfl, hS2⟩)

/-! punctual/punctualsame.twinExpr -/
abbrev punctualsame_twinExpr.Post (w0 : World) (Z : Zone) (r : SExpr) (e : Ending) (w : World) : Prop := ∃ (A2 : Option Addr) (c2 : Nat) (ft : List Nat) (wf : World), e = .returned (.agg #[vI r.Kind, vI r.N, .slice A2 r.A.length c2]) ∧ r.A.length ≤ c2 ∧ RdZ (Zand Z wf) A2 r.A ∧ St w0 w [Own.frz ft wf]
abbrev punctualsame_twinExpr.Rec (rec_punctualsame_twinExpr : Int → Int → (List SExpr) → Option SExpr) : Prop := ∀ (Z : Zone) (x0_0 : Int) (x0_1 : Int) (l0_2 : List SExpr) (A0_2 : Option Addr) (c0_2 : Nat) (w0 : World) (hZ : ∀ w, Sub w0 w → Z w) (hR0_2 : RdZ Z A0_2 l0_2) (hL0_2 : l0_2.length ≤ c0_2) (r : SExpr) (h : rec_punctualsame_twinExpr x0_0 x0_1 l0_2 = some r), Calls Try.prog 53 #[.agg #[vI x0_0, vI x0_1, .slice A0_2 l0_2.length c0_2]] w0 (punctualsame_twinExpr.Post w0 Z r)
def punctualsame_twinExpr.r0 (l0_2 : List SExpr) (rec_punctualsame_twinExpr : Int → Int → (List SExpr) → Option SExpr) : (List SExpr) × Nat → Option (((List SExpr) × Nat) ⊕ ((List SExpr) ⊕ SExpr))
 | (m1, i1) =>
  if (i1 : Int) < (l0_2.length : Int) then
   match l0_2[i1]? with
   | none => none
   | some e1 =>
    match rec_punctualsame_twinExpr e1.Kind e1.N e1.A with
    | none => none
    | some r1 =>
     if m1.length < 3518437208883 then
      some (.inl ((m1 ++ [r1]), (i1 + 1)))
     else
      none
  else
   some (.inr (.inl m1))
def punctualsame_twinExpr.b (K : Nat) (rec_punctualsame_twinExpr : Int → Int → (List SExpr) → Option SExpr) (x0_0 : Int) (x0_1 : Int) (l0_2 : List SExpr) : Option SExpr :=
 match iter (punctualsame_twinExpr.r0 l0_2 rec_punctualsame_twinExpr) K (([] : List SExpr), 0) with
 | none => none
 | some (.inl m3) =>
  some (⟨x0_0, x0_1, m3⟩ : SExpr)
 | some (.inr rr1) =>
  some rr1
abbrev punctualsame_twinExpr.A0 (w0 : World) (Z : Zone) (x0_0 : Int) (x0_1 : Int) (l0_2 : List SExpr) (A0_2 : Option Addr) (c0_2 : Nat) (wf1 : World) (b1 : Nat) (b2 : Nat) : ((List SExpr) × Nat) → Act → World → Prop := fun (s : (List SExpr) × Nat) a w => ∃ (ft2 : List Nat) (wf2 : World) (v1 : Value) (hds1 : List HExpr), Sub wf1 wf2 ∧ DRows (Zand Z wf2) hds1 s.1 ∧ St w0 w [Own.blk b2 (.cells #[vI 0, vI 0, .slice none 0 0] 45 (0, 0)), Own.blk b1 (.cells #[vI x0_0, vI x0_1, .slice A0_2 l0_2.length c0_2] 45 (0, 0)), Own.of v1 45 hds1, Own.frz ft2 wf2] ∧ Frm 22 a [(1, pP b1 0), (2, pP b2 0), (3, v1), (7, .slice A0_2 l0_2.length c0_2), (8, vI (l0_2.length : Int)), (9, vI (s.2 : Int))]
abbrev punctualsame_twinExpr.B0 (w0 : World) (Z : Zone) (x0_0 : Int) (x0_1 : Int) (l0_2 : List SExpr) (A0_2 : Option Addr) (c0_2 : Nat) (wf1 : World) (b1 : Nat) (b2 : Nat) : ((List SExpr) ⊕ SExpr) → Exit → Act → World → Prop := Exits 0 (fun (s : (List SExpr)) a w => ∃ (ft3 : List Nat) (wf3 : World) (v2 : Value) (hds2 : List HExpr), Sub wf1 wf3 ∧ DRows (Zand Z wf3) hds2 s ∧ St w0 w [Own.blk b2 (.cells #[vI 0, vI 0, .slice none 0 0] 45 (0, 0)), Own.blk b1 (.cells #[vI x0_0, vI x0_1, .slice A0_2 l0_2.length c0_2] 45 (0, 0)), Own.of v2 45 hds2, Own.frz ft3 wf3] ∧ Frm 22 a [(1, pP b1 0), (2, pP b2 0), (3, v2)]) (Rets Try.prog Try.f53 (punctualsame_twinExpr.Post w0 Z))
theorem punctualsame_twinExpr_r0 (K : Nat) (w0 : World) (Z : Zone) (x0_0 : Int) (x0_1 : Int) (l0_2 : List SExpr) (A0_2 : Option Addr) (c0_2 : Nat) (hZ : ∀ w, Sub w0 w → Z w) (hR0_2 : RdZ Z A0_2 l0_2) (hL0_2 : l0_2.length ≤ c0_2) (rec_punctualsame_twinExpr : Int → Int → (List SExpr) → Option SExpr) (hr_punctualsame_twinExpr : punctualsame_twinExpr.Rec rec_punctualsame_twinExpr) (ft1 : List Nat) (wf1 : World) (b1 : Nat) (b2 : Nat) (s : (List SExpr) × Nat) (o : ((List SExpr) × Nat) ⊕ ((List SExpr) ⊕ SExpr)) (h : punctualsame_twinExpr.r0 l0_2 rec_punctualsame_twinExpr s = some o) (a : Act) (w : World) (hA : punctualsame_twinExpr.A0 w0 Z x0_0 x0_1 l0_2 A0_2 c0_2 wf1 b1 b2 s a w) (Q : Exit → Act → World → Prop) (hQ : ∀ x a w, Outs (punctualsame_twinExpr.A0 w0 Z x0_0 x0_1 l0_2 A0_2 c0_2 wf1 b1 b2) (punctualsame_twinExpr.B0 w0 Z x0_0 x0_1 l0_2 A0_2 c0_2 wf1 b1 b2) o x a w → Q x a w) : (subF Try.f53 [1, 1, 0, 1, 0, 0]).wp Try.prog Q a w := by
 obtain ⟨m1, i1⟩ := s
 obtain ⟨ft2, wf2, v1, hds1, hsb1, hd1, hS, hF⟩ := hA
 replace hS : St w0 w [Own.blk b2 (.cells #[vI 0, vI 0, .slice none 0 0] 45 (0, 0)), Own.blk b1 (.cells #[vI x0_0, vI x0_1, .slice A0_2 l0_2.length c0_2] 45 (0, 0)), Own.of v1 45 hds1, Own.frz ft2 wf2] := hS
 simp only [punctualsame_twinExpr.r0] at h
 refine (?_ : WE Try.prog 22 (subF Try.f53 [1, 1, 0, 1, 0, 0]) Q [(1, pP b1 0), (2, pP b2 0), (3, v1), (7, .slice A0_2 l0_2.length c0_2), (8, vI (l0_2.length : Int)), (9, vI (i1 : Int))] w) a hF
 clear hF a
 refine ws fun K5 hK5 => ?_
 refine wr [(0, 0)] ?_
 refine gb0 [0] [(10, .bool (decide ((i1 : Int) < (l0_2.length : Int))))] ?_
 refine gn hK5 ?_
 refine ws fun K6 hK6 => ?_
 by_cases hc1 : (i1 : Int) < (l0_2.length : Int)
 ·rw [if_pos hc1] at h
  refine wk 10 (decide ((i1 : Int) < (l0_2.length : Int))) true (decide_eq_true hc1) ?_
  refine we_true (by kernel_rfl) ?_
  refine we_skip fun a hF => hK6 _ _ ?_ a hF
  refine ws fun K7 hK7 => ?_
  refine we_block ?_
  refine ws fun K8 hK8 => ?_
  refine wr [(0, 0), (1, 0), (2, 1), (3, 2)] ?_
  rcases hx3 : l0_2[i1]? with _ | e1
  ·rw [hx3] at h; cases h
  rw [hx3] at h
  simp only [] at h
  obtain ⟨An1, cn1, hCs1, hLn1, hRn1⟩ := SExpr.getZ hR0_2 hx3
  refine gi 11 0 43 45 3 l0_2.length c0_2 (.tmp 7) (.tmp 9) A0_2 .i64 (i1 : Int) i1 (hR0_2.eqSome (hZ _ hS.subw) (pos_of_get hx3)) rfl (lt_of_get hx3) ?_
  refine gb [1] [(12, .agg #[vI e1.Kind, vI e1.N, .slice An1 e1.A.length cn1])] [.loaded ⟨blkOf A0_2, offOf A0_2 + i1 * 3, none⟩ (vI e1.Kind), .loaded ⟨blkOf A0_2, offOf A0_2 + i1 * 3 + 1, none⟩ (vI e1.N), .loaded ⟨blkOf A0_2, offOf A0_2 + i1 * 3 + 2, none⟩ (.slice An1 e1.A.length cn1)] ⟨hCs1 _ (hZ _ hS.subw) 0 _ rfl, hCs1 _ (hZ _ hS.subw) 1 _ rfl, hCs1 _ (hZ _ hS.subw) 2 _ rfl, trivial⟩ ?_
  refine gw (some 5) (.cells #[vI 0, vI 0, .slice none 0 0] 45) (fun b => pP b 0) hS fun b3 w3 hx4 hS9 => ?_
  refine gs b3 0 #[vI 0, vI 0, .slice none 0 0] 45 [vI e1.Kind, vI e1.N, .slice An1 e1.A.length cn1] hS9 fun w4 hS10 => ?_
  have hS11 := hS10.nc #[vI e1.Kind, vI e1.N, .slice An1 e1.A.length cn1] (by kernel_rfl)
  refine gn hK8 ?_
  refine wr [(0, 0), (1, 0), (2, 1), (3, 1), (4, 2), (5, 0)] ?_
  rcases hq1 : rec_punctualsame_twinExpr e1.Kind e1.N e1.A with _ | r1
  ·rw [hq1] at h; cases h
  rw [hq1] at h
  simp only [] at h
  refine gb [0, 1] [(14, .agg #[vI e1.Kind, vI e1.N, .slice An1 e1.A.length cn1]), (13, v1)] [.loaded ⟨b3, 0, none⟩ (vI e1.Kind), .loaded ⟨b3, 1, none⟩ (vI e1.N), .loaded ⟨b3, 2, none⟩ (.slice An1 e1.A.length cn1)] ⟨hS11.c 0, hS11.c 0, hS11.c 0, trivial⟩ ?_
  refine ge_call (d := some 15) (f := 53) (args := #[.agg #[vI e1.Kind, vI e1.N, .slice An1 e1.A.length cn1]]) (by kernel_rfl) (hr_punctualsame_twinExpr (Zand Z wf2) e1.Kind e1.N e1.A An1 cn1 _ (fun w' k => ⟨(hZ w' (hS11.subw.trans k)), (hS11.frzSub 4 rfl).trans k⟩) (hRn1.up (ZLe.in _ _)) hLn1 _ hq1) ?_
  rintro _ w5 ⟨A1, c1, ft4, wf4, rfl, hL1, hR1, hS12⟩
  refine ⟨_, rfl, hS12.below, ?_⟩
  have hS13 := hS11.call hS12
  have hS14 := hS13.bring 5 rfl
  have hS15 := hS14.bring 1 rfl
  obtain ⟨ft5, wf5, hsb3, hsb4, hS16⟩ := hS15.frzMerge
  replace hR1 : RdZ (Zand Z wf5) A1 r1.A := hR1.up (ZLe.both hsb4 hsb3)
  refine gw (some 16) (.cells #[vI r1.Kind, vI r1.N, .slice A1 r1.A.length c1] 45) (fun b => .slice (some ⟨b, 0, none⟩) 1 1) hS16 fun b4 w6 hx5 hS17 => ?_
  have hS18 := hS17.bring 5 rfl
  by_cases hc2 : m1.length < 3518437208883
  ·rw [if_pos hc2] at h
   have hd3 : DRows (Zand Z wf5) (hds1 ++ [(⟨r1.Kind, r1.N, ⟨A1, r1.A.length, c1⟩⟩ : HExpr)]) (m1 ++ [r1]) := DRows.add (hd1.up (ZLe.up hsb4)) (SExpr.mkZ r1 hL1 hR1)
   refine ge_append (α := HExpr) (m := 0) (d := 17) (t := 43) (el := 45) (bytes := 40) (c1 := 1) (b1 := b4) (x := (.tmp 13)) (y := (.tmp 16)) (ty := 43) (v := v1) (z := .agg #[vI 0, vI 0, .slice none 0 0]) (l := hds1) (u := (⟨r1.Kind, r1.N, ⟨A1, r1.A.length, c1⟩⟩ : HExpr)) (by kernel_rfl) (by kernel_rfl) (by kernel_rfl) (by kernel_rfl) (by kernel_rfl) rfl hS18 rfl (by have h0 : hds1.length = m1.length := DRows.len (hd1.up (ZLe.up hsb4)); omega) fun v3 w7 hS19 => ?_
   refine gb0 [5] [(3, v3)] ?_
   refine gn hK7 ?_
   refine wr [(0, 0), (1, 0)] ?_
   refine ge_addn (d := 18) (ty := 3) (x := (.tmp 9)) (y := (.const (vI 1))) (t := 3) (t2 := 3) (k := .i64) (m := i1) (by kernel_rfl) (by kernel_rfl) (by kernel_rfl) (by have h0 := RdZ.small hR0_2 (hZ _ hS19.subw); omega) ?_
   refine gb0 [1] [(9, vI ((i1 + 1 : Nat) : Int))] ?_
   have hS20 := hS19.bring 1 rfl
   have hS21 := hS20.bring 1 rfl
   have hS22 := hS21.bring 4 rfl
   have hS23 := hS22.bring 4 rfl
   have hS24 := hS23.takeN 4
   obtain rfl := si h
   exact ge_nil fun a hF => hQ _ _ _ (Outs.again ⟨ft5, wf5, v3, (hds1 ++ [(⟨r1.Kind, r1.N, ⟨A1, r1.A.length, c1⟩⟩ : HExpr)]), (hsb1.trans hsb4), hd3, hS24, hF.weaken ea⟩)
  ·rw [if_neg hc2] at h
   cases h
 ·rw [if_neg hc1] at h
  refine wk 10 (decide ((i1 : Int) < (l0_2.length : Int))) false (decide_eq_false hc1) ?_
  refine we_false (by kernel_rfl) ?_
  have hS25 := hS.bring 3 rfl
  have hS26 := hS25.bring 3 rfl
  have hS27 := hS26.bring 3 rfl
  have hS28 := hS27.bring 3 rfl
  obtain rfl := si h
  exact we_exit fun a hF => hQ _ _ _ (Outs.out nofun (Exits.here ⟨ft2, wf2, v1, hds1, hsb1, hd1, hS28, hF.weaken ea⟩))
theorem punctualsame_twinExpr_step (K : Nat) (rec_punctualsame_twinExpr : Int → Int → (List SExpr) → Option SExpr) (hr_punctualsame_twinExpr : punctualsame_twinExpr.Rec rec_punctualsame_twinExpr) (Z : Zone) (x0_0 : Int) (x0_1 : Int) (l0_2 : List SExpr) (A0_2 : Option Addr) (c0_2 : Nat) (w0 : World) (hZ : ∀ w, Sub w0 w → Z w) (hR0_2 : RdZ Z A0_2 l0_2) (hL0_2 : l0_2.length ≤ c0_2) (r : SExpr) (h : punctualsame_twinExpr.b K rec_punctualsame_twinExpr x0_0 x0_1 l0_2 = some r) :
  Calls Try.prog 53 #[.agg #[vI x0_0, vI x0_1, .slice A0_2 l0_2.length c0_2]] w0 (punctualsame_twinExpr.Post w0 Z r) := by
 have hS := St.start w0
 unfold punctualsame_twinExpr.b at h
 refine calls_enter (n := 22) (args := [.agg #[vI x0_0, vI x0_1, .slice A0_2 l0_2.length c0_2]]) (fn := Try.f53) rfl rfl rfl rfl ?_
 show WE _ _ _ _ [(0, .agg #[vI x0_0, vI x0_1, .slice A0_2 l0_2.length c0_2])] _
 obtain ⟨ft1, wf1, hS1⟩ := hS.frz0
 refine ws fun K1 hK1 => ?_
 refine wr [(0, 1), (1, 1)] ?_
 refine gw (some 1) (.cells #[vI x0_0, vI x0_1, .slice A0_2 l0_2.length c0_2] 45) (fun b => pP b 0) hS1 fun b1 w1 hx1 hS2 => ?_
 refine gw (some 2) (.cells #[vI 0, vI 0, .slice none 0 0] 45) (fun b => pP b 0) hS2 fun b2 w2 hx2 hS3 => ?_
 refine gn hK1 ?_
 refine ws fun K2 hK2 => ?_
 refine wr [(0, 0)] ?_
 refine gb0 [0] [(3, .slice none 0 0)] ?_
 refine gn hK2 ?_
 refine ws fun K3 hK3 => ?_
 refine ws fun K4 hK4 => ?_
 refine wr [(0, 0), (1, 0), (2, 0), (3, 0)] ?_
 refine gb [0, 1, 2, 3] [(9, vI 0), (8, vI (l0_2.length : Int)), (7, .slice A0_2 l0_2.length c0_2), (6, pP b1 2)] [.loaded ⟨b1, 2, none⟩ (.slice A0_2 l0_2.length c0_2)] ⟨hS3.c 1, trivial⟩ ?_
 refine gn hK4 ?_
 refine we_block ?_
 have hS4 := hS3.nil (α := HExpr) 45
 have hS5 := hS4.bring 3 rfl
 have hS6 := hS5.bring 1 rfl
 have hS7 := hS6.bring 3 rfl
 have hS8 := hS7.bring 3 rfl
 rcases hq2 : iter (punctualsame_twinExpr.r0 l0_2 rec_punctualsame_twinExpr) K (([] : List SExpr), 0) with _ | (m3 | rr1)
 ·rw [hq2] at h; cases h
 ·rw [hq2] at h
  simp only [] at h
  refine we_iter (A := punctualsame_twinExpr.A0 w0 Z x0_0 x0_1 l0_2 A0_2 c0_2 wf1 b1 b2) (B := punctualsame_twinExpr.B0 w0 Z x0_0 x0_1 l0_2 A0_2 c0_2 wf1 b1 b2) hq2 (fun a hF => ⟨ft1, wf1, (.slice none 0 0), ([] : List HExpr), (Sub.refl _), (DRows.nil _), hS8, hF.weaken ea⟩) (fun s o hf a w hA Q hQ => punctualsame_twinExpr_r0 K w0 Z x0_0 x0_1 l0_2 A0_2 c0_2 hZ hR0_2 hL0_2 rec_punctualsame_twinExpr hr_punctualsame_twinExpr ft1 wf1 b1 b2 s o hf a w hA Q hQ) ?_
  rintro _ a w8 _ ⟨rfl, ft6, wf6, v4, hds3, hRz1, hRz2, hS29, hF⟩
  replace hS29 : St w0 w8 [Own.blk b2 (.cells #[vI 0, vI 0, .slice none 0 0] 45 (0, 0)), Own.blk b1 (.cells #[vI x0_0, vI x0_1, .slice A0_2 l0_2.length c0_2] 45 (0, 0)), Own.of v4 45 hds3, Own.frz ft6 wf6] := hS29
  refine hK3 [(1, pP b1 0), (2, pP b2 0), (3, v4)] w8 ?_ a hF
  refine ws fun K9 hK9 => ?_
  refine wr [(0, 0), (1, 0), (2, 2)] ?_
  refine gb0 [0, 1] [(20, pP b1 2), (19, v4)] ?_
  obtain ⟨Z1, cz1, rfl⟩ := hS29.dopen 2 rfl hRz2
  have hS30 := hS29.bring 3 rfl
  have hS31 := hS30.bring 3 rfl
  obtain ⟨ft7, wf7, hsb5, -, hRd1, hLd1, hS32⟩ := hS31.dfrz (Z := Z) hRz2
  have hS33 := hS32.bring 2 rfl
  refine gs b1 2 #[vI x0_0, vI x0_1, .slice A0_2 l0_2.length c0_2] 45 [.slice Z1 m3.length cz1] hS33 fun w9 hS34 => ?_
  have hS35 := hS34.nc #[vI x0_0, vI x0_1, .slice Z1 m3.length cz1] (by kernel_rfl)
  refine gn hK9 ?_
  refine ws fun K10 hK10 => ?_
  refine wr [(0, 0), (1, 2)] ?_
  refine gb [0] [(21, .agg #[vI x0_0, vI x0_1, .slice Z1 m3.length cz1])] [.loaded ⟨b1, 0, none⟩ (vI x0_0), .loaded ⟨b1, 1, none⟩ (vI x0_1), .loaded ⟨b1, 2, none⟩ (.slice Z1 m3.length cz1)] ⟨hS35.c 0, hS35.c 0, hS35.c 0, trivial⟩ ?_
  have hS36 := hS35.bring 2 rfl
  refine gs b2 0 #[vI 0, vI 0, .slice none 0 0] 45 [vI x0_0, vI x0_1, .slice Z1 m3.length cz1] hS36 fun w10 hS37 => ?_
  have hS38 := hS37.nc #[vI x0_0, vI x0_1, .slice Z1 m3.length cz1] (by kernel_rfl)
  refine gn hK10 ?_
  have hS39 := hS38.bring 2 rfl
  have hS40 := hS39.takeN 1
  obtain rfl := si h
  exact we_ret (pr [.cell 2 45] [.agg #[vI x0_0, vI x0_1, .slice Z1 m3.length cz1]] [.loaded ⟨b2, 0, none⟩ (vI x0_0), .loaded ⟨b2, 1, none⟩ (vI x0_1), .loaded ⟨b2, 2, none⟩ (.slice Z1 m3.length cz1)] ⟨hS38.c 0, hS38.c 0, hS38.c 0, trivial⟩ ⟨Z1, cz1, ft7, wf7, rfl, hLd1, hRd1, hS40⟩)
 ·rw [hq2] at h
  simp only [] at h
  refine we_iter (A := punctualsame_twinExpr.A0 w0 Z x0_0 x0_1 l0_2 A0_2 c0_2 wf1 b1 b2) (B := punctualsame_twinExpr.B0 w0 Z x0_0 x0_1 l0_2 A0_2 c0_2 wf1 b1 b2) hq2 (fun a hF => ⟨ft1, wf1, (.slice none 0 0), ([] : List HExpr), (Sub.refl _), (DRows.nil _), hS8, hF.weaken ea⟩) (fun s o hf a w hA Q hQ => punctualsame_twinExpr_r0 K w0 Z x0_0 x0_1 l0_2 A0_2 c0_2 hZ hR0_2 hL0_2 rec_punctualsame_twinExpr hr_punctualsame_twinExpr ft1 wf1 b1 b2 s o hf a w hA Q hQ) ?_
  rintro _ a w1 _ ⟨rfl, hb⟩
  obtain rfl := si h
  exact hb
def punctualsame_twinExpr.recs (K : Nat) : Nat → (Int → Int → (List SExpr) → Option SExpr)
 | 0 => fun _ _ _ => none
 | n + 1 => punctualsame_twinExpr.b K (punctualsame_twinExpr.recs K n)
theorem punctualsame_twinExpr_all (K n : Nat) : punctualsame_twinExpr.Rec (punctualsame_twinExpr.recs K n) := by
 induction n with
 | zero => exact (by unfold punctualsame_twinExpr.Rec; intros; rename_i h; cases (show none = some _ from h))
 | succ n ih => exact punctualsame_twinExpr_step K _ ih
def punctualsame_twinExpr.f (K : Nat) (x0_0 : Int) (x0_1 : Int) (l0_2 : List SExpr) : Option SExpr := (punctualsame_twinExpr.recs K K) x0_0 x0_1 l0_2
theorem punctualsame_twinExpr_ok (K : Nat) (Z : Zone) (x0_0 : Int) (x0_1 : Int) (l0_2 : List SExpr) (A0_2 : Option Addr) (c0_2 : Nat) (w0 : World) (hZ : ∀ w, Sub w0 w → Z w) (hR0_2 : RdZ Z A0_2 l0_2) (hL0_2 : l0_2.length ≤ c0_2) (r : SExpr) (h : punctualsame_twinExpr.f K x0_0 x0_1 l0_2 = some r) : Calls Try.prog 53 #[.agg #[vI x0_0, vI x0_1, .slice A0_2 l0_2.length c0_2]] w0 (punctualsame_twinExpr.Post w0 Z r) := (punctualsame_twinExpr_all K K) Z x0_0 x0_1 l0_2 A0_2 c0_2 w0 hZ hR0_2 hL0_2 r h

/-! punctual/punctualsame.Twin -/
abbrev punctualsame_Twin.Post (w0 : World) (Z : Zone) (r : List SStmt) (e : Ending) (w : World) : Prop := ∃ (v1 : Value) (hds1 : List HStmt) (ft : List Nat) (wf : World), e = .returned (v1) ∧ DRows (Zand Z wf) hds1 r ∧ St w0 w [Own.of v1 49 hds1, Own.frz ft wf]
abbrev punctualsame_Twin.Rec (rec_punctualsame_Twin : (List SStmt) → Option (List SStmt)) : Prop := ∀ (Z : Zone) (l0 : List SStmt) (A0 : Option Addr) (c0 : Nat) (w0 : World) (hZ : ∀ w, Sub w0 w → Z w) (hR0 : RdZ Z A0 l0) (hL0 : l0.length ≤ c0) (r : List SStmt) (h : rec_punctualsame_Twin l0 = some r), Calls Try.prog 25 #[.slice A0 l0.length c0] w0 (punctualsame_Twin.Post w0 Z r)
def punctualsame_Twin.p1 (K : Nat) (e1 : SStmt) : Option ((Int × Int × (List SExpr) × Int × Int × (List SExpr) × Int × Int × (List SExpr)) ⊕ (List SStmt)) :=
  match punctualsame_twinExpr.f K e1.E.Kind e1.E.N e1.E.A with
  | none => none
  | some r1 =>
   match punctualsame_twinExpr.f K e1.If.A.Kind e1.If.A.N e1.If.A.A with
   | none => none
   | some r2 =>
    match punctualsame_twinExpr.f K e1.If.B.Kind e1.If.B.N e1.If.B.A with
    | none => none
    | some r3 =>
     some (.inl (r1.Kind, r1.N, r1.A, r2.Kind, r2.N, r2.A, r3.Kind, r3.N, r3.A))
def punctualsame_Twin.r0 (K : Nat) (l0 : List SStmt) (rec_punctualsame_Twin : (List SStmt) → Option (List SStmt)) : (List SStmt) × Nat → Option (((List SStmt) × Nat) ⊕ ((List SStmt) ⊕ (List SStmt)))
 | (m1, i1) =>
  if (i1 : Int) < (l0.length : Int) then
   match l0[i1]? with
   | none => none
   | some e1 =>
    match punctualsame_Twin.p1 K e1 with
    | none => none
    | some (.inl (z7, z8, m6, z9, z10, m7, z11, z12, m8)) =>
     match rec_punctualsame_Twin e1.Body with
     | none => none
     | some r4 =>
      match rec_punctualsame_Twin e1.Else with
      | none => none
      | some r5 =>
       if m1.length < 733007751850 then
        some (.inl ((m1 ++ [(⟨e1.Kind, e1.N, (⟨z7, z8, m6⟩ : SExpr), (⟨e1.If.Kind, (⟨z9, z10, m7⟩ : SExpr), (⟨z11, z12, m8⟩ : SExpr)⟩ : SCond), r4, r5⟩ : SStmt)]), (i1 + 1)))
       else
        none
    | some (.inr rr1) =>
     some (.inr (.inr rr1))
  else
   some (.inr (.inl m1))
def punctualsame_Twin.b (K : Nat) (rec_punctualsame_Twin : (List SStmt) → Option (List SStmt)) (l0 : List SStmt) : Option (List SStmt) :=
 match iter (punctualsame_Twin.r0 K l0 rec_punctualsame_Twin) K (([] : List SStmt), 0) with
 | none => none
 | some (.inl m9) =>
  some m9
 | some (.inr rr2) =>
  some rr2
abbrev punctualsame_Twin.A1 (w0 : World) (Z : Zone) (l0 : List SStmt) (A0 : Option Addr) (c0 : Nat) (wf2 : World) (v1 : Value) (hds1 : List HStmt) (i1 : Nat) (e1 : SStmt) (An4 : Option Addr) (cn4 : Nat) (An5 : Option Addr) (cn5 : Nat) (b1 : Nat) : (Int × Int × (List SExpr) × Int × Int × (List SExpr) × Int × Int × (List SExpr)) → Act → World → Prop := fun (s : Int × Int × (List SExpr) × Int × Int × (List SExpr) × Int × Int × (List SExpr)) a w => ∃ (ft4 : List Nat) (wf4 : World) (Z1 : Option Addr) (cz1 : Nat) (Z2 : Option Addr) (cz2 : Nat) (Z3 : Option Addr) (cz3 : Nat), Sub wf2 wf4 ∧ RdZ (Zand Z wf4) Z1 s.2.2.1 ∧ s.2.2.1.length ≤ cz1 ∧ RdZ (Zand Z wf4) Z2 s.2.2.2.2.2.1 ∧ s.2.2.2.2.2.1.length ≤ cz2 ∧ RdZ (Zand Z wf4) Z3 s.2.2.2.2.2.2.2.2 ∧ s.2.2.2.2.2.2.2.2.length ≤ cz3 ∧ St w0 w [Own.blk b1 (.cells #[vI e1.Kind, vI e1.N, vI s.1, vI s.2.1, .slice Z1 s.2.2.1.length cz1, vI e1.If.Kind, vI s.2.2.2.1, vI s.2.2.2.2.1, .slice Z2 s.2.2.2.2.2.1.length cz2, vI s.2.2.2.2.2.2.1, vI s.2.2.2.2.2.2.2.1, .slice Z3 s.2.2.2.2.2.2.2.2.length cz3, .slice An4 e1.Body.length cn4, .slice An5 e1.Else.length cn5] 49 (0, 0)), Own.of v1 49 hds1, Own.frz ft4 wf4] ∧ Frm 42 a [(3, v1), (5, pP b1 0), (6, .slice A0 l0.length c0), (7, vI (l0.length : Int)), (8, vI (i1 : Int))]
abbrev punctualsame_Twin.B1 (w0 : World) (Z : Zone) : (List SStmt) → Exit → Act → World → Prop := Rets Try.prog Try.f25 (punctualsame_Twin.Post w0 Z)
theorem punctualsame_Twin_p1 (K : Nat) (w0 : World) (Z : Zone) (l0 : List SStmt) (A0 : Option Addr) (c0 : Nat) (hZ : ∀ w, Sub w0 w → Z w) (hR0 : RdZ Z A0 l0) (hL0 : l0.length ≤ c0) (rec_punctualsame_Twin : (List SStmt) → Option (List SStmt)) (hr_punctualsame_Twin : punctualsame_Twin.Rec rec_punctualsame_Twin) (ft1 : List Nat) (wf1 : World) (ft2 : List Nat) (wf2 : World) (m1 : List SStmt) (v1 : Value) (hds1 : List HStmt) (i1 : Nat) (hsb1 : Sub wf1 wf2) (hd1 : DRows (Zand Z wf2) hds1 m1) (hc1 : (i1 : Int) < (l0.length : Int)) (e1 : SStmt) (hx1 : l0[i1]? = some e1) (An1 : Option Addr) (cn1 : Nat) (An2 : Option Addr) (cn2 : Nat) (An3 : Option Addr) (cn3 : Nat) (An4 : Option Addr) (cn4 : Nat) (An5 : Option Addr) (cn5 : Nat) (hCs1 : CellsAt Z A0 (i1 * 14) [vI e1.Kind, vI e1.N, vI e1.E.Kind, vI e1.E.N, .slice An1 e1.E.A.length cn1, vI e1.If.Kind, vI e1.If.A.Kind, vI e1.If.A.N, .slice An2 e1.If.A.A.length cn2, vI e1.If.B.Kind, vI e1.If.B.N, .slice An3 e1.If.B.A.length cn3, .slice An4 e1.Body.length cn4, .slice An5 e1.Else.length cn5]) (hLn1 : e1.E.A.length ≤ cn1) (hRn1 : RdZ Z An1 e1.E.A) (hLn2 : e1.If.A.A.length ≤ cn2) (hRn2 : RdZ Z An2 e1.If.A.A) (hLn3 : e1.If.B.A.length ≤ cn3) (hRn3 : RdZ Z An3 e1.If.B.A) (hLn4 : e1.Body.length ≤ cn4) (hRn4 : RdZ Z An4 e1.Body) (hLn5 : e1.Else.length ≤ cn5) (hRn5 : RdZ Z An5 e1.Else) (b1 : Nat) (o : (Int × Int × (List SExpr) × Int × Int × (List SExpr) × Int × Int × (List SExpr)) ⊕ (List SStmt)) (h : punctualsame_Twin.p1 K e1 = some o) (w : World) (hS : St w0 w [Own.blk b1 (.cells #[vI e1.Kind, vI e1.N, vI e1.E.Kind, vI e1.E.N, .slice An1 e1.E.A.length cn1, vI e1.If.Kind, vI e1.If.A.Kind, vI e1.If.A.N, .slice An2 e1.If.A.A.length cn2, vI e1.If.B.Kind, vI e1.If.B.N, .slice An3 e1.If.B.A.length cn3, .slice An4 e1.Body.length cn4, .slice An5 e1.Else.length cn5] 49 (0, 0)), Own.of v1 49 hds1, Own.frz ft2 wf2]) (Q : Exit → Act → World → Prop) (hQ : ∀ x a w, Outs (punctualsame_Twin.A1 w0 Z l0 A0 c0 wf2 v1 hds1 i1 e1 An4 cn4 An5 cn5 b1) (punctualsame_Twin.B1 w0 Z) o x a w → Q x a w) : WE Try.prog 42 (subF Try.f25 [1, 1, 0, 1, 0, 0, 1, 1, 0, 0, 1, 0]) Q [(3, v1), (5, pP b1 0), (6, .slice A0 l0.length c0), (7, vI (l0.length : Int)), (8, vI (i1 : Int)), (9, .bool true), (10, .pointer (some ⟨blkOf A0, offOf A0 + i1 * 14, none⟩)), (11, .agg #[vI e1.Kind, vI e1.N, vI e1.E.Kind, vI e1.E.N, .slice An1 e1.E.A.length cn1, vI e1.If.Kind, vI e1.If.A.Kind, vI e1.If.A.N, .slice An2 e1.If.A.A.length cn2, vI e1.If.B.Kind, vI e1.If.B.N, .slice An3 e1.If.B.A.length cn3, .slice An4 e1.Body.length cn4, .slice An5 e1.Else.length cn5])] w := by
 simp only [punctualsame_Twin.p1] at h
 refine we_orders3 (by kernel_rfl) [(1, [⟨b1, 2, none⟩, ⟨b1, 3, none⟩, ⟨b1, 4, none⟩], [2, 6, 10], []), (5, [⟨b1, 6, none⟩, ⟨b1, 7, none⟩, ⟨b1, 8, none⟩], [6, 10], []), (9, [⟨b1, 9, none⟩, ⟨b1, 10, none⟩, ⟨b1, 11, none⟩], [], [])] (.vals [0] (.vals [1] (.vals [3] (.vals [4] (.vals [5] (.vals [7] (.vals [8] (.vals [9] (.alt 2 1 (.vals [11] (.alt 6 1 (.alt 10 1 (.alt 12 2 (.vals [13] (.vals [14] (.alt 15 2 (.vals [16] (.vals [17] (.alt 18 2 .fin .nomore))) .nomore))) .nomore) .nomore) .nomore)) .nomore))))))))) (by kernel_rfl) (by kernel_rfl) ?_
 have hS8 := hS.drew
 refine go3_batch [0] (ans := []) (vs := [(12, pP b1 2)]) (l := []) (by kernel_rfl) trivial mem_nil3 ?_
 refine go3_batch [1] (ans := [.val (vI e1.E.Kind), .val (vI e1.E.N), .val (.slice An1 e1.E.A.length cn1)]) (vs := [(13, .agg #[vI e1.E.Kind, vI e1.E.N, .slice An1 e1.E.A.length cn1])]) (l := [.loaded ⟨b1, 2, none⟩ (vI e1.E.Kind), .loaded ⟨b1, 3, none⟩ (vI e1.E.N), .loaded ⟨b1, 4, none⟩ (.slice An1 e1.E.A.length cn1)]) (by kernel_rfl) ⟨hS8.c 0, hS8.c 0, hS8.c 0, trivial⟩ (mem_one3 (by kernel_rfl)) ?_
 refine go3_batch [3, 4] (ans := []) (vs := [(16, pP b1 6), (15, pP b1 5)]) (l := []) (by kernel_rfl) trivial mem_nil3 ?_
 refine go3_batch [5] (ans := [.val (vI e1.If.A.Kind), .val (vI e1.If.A.N), .val (.slice An2 e1.If.A.A.length cn2)]) (vs := [(17, .agg #[vI e1.If.A.Kind, vI e1.If.A.N, .slice An2 e1.If.A.A.length cn2])]) (l := [.loaded ⟨b1, 6, none⟩ (vI e1.If.A.Kind), .loaded ⟨b1, 7, none⟩ (vI e1.If.A.N), .loaded ⟨b1, 8, none⟩ (.slice An2 e1.If.A.A.length cn2)]) (by kernel_rfl) ⟨hS8.c 0, hS8.c 0, hS8.c 0, trivial⟩ (mem_one3 (by kernel_rfl)) ?_
 refine go3_batch [7, 8] (ans := []) (vs := [(20, pP b1 9), (19, pP b1 5)]) (l := []) (by kernel_rfl) trivial mem_nil3 ?_
 refine go3_batch [9] (ans := [.val (vI e1.If.B.Kind), .val (vI e1.If.B.N), .val (.slice An3 e1.If.B.A.length cn3)]) (vs := [(21, .agg #[vI e1.If.B.Kind, vI e1.If.B.N, .slice An3 e1.If.B.A.length cn3])]) (l := [.loaded ⟨b1, 9, none⟩ (vI e1.If.B.Kind), .loaded ⟨b1, 10, none⟩ (vI e1.If.B.N), .loaded ⟨b1, 11, none⟩ (.slice An3 e1.If.B.A.length cn3)]) (by kernel_rfl) ⟨hS8.c 0, hS8.c 0, hS8.c 0, trivial⟩ (mem_one3 (by kernel_rfl)) ?_
 refine go_alt3 (fun KK hKK => ?_) ?_
 ·refine ge_one2 ?_
  rcases hq1 : punctualsame_twinExpr.f K e1.E.Kind e1.E.N e1.E.A with _ | r1
  ·rw [hq1] at h; cases h
  rw [hq1] at h
  simp only [] at h
  refine ge_call (d := some 14) (f := 53) (args := #[.agg #[vI e1.E.Kind, vI e1.E.N, .slice An1 e1.E.A.length cn1]]) (by kernel_rfl) (punctualsame_twinExpr_ok K (Zand Z wf2) e1.E.Kind e1.E.N e1.E.A An1 cn1 _ (fun w' k => ⟨(hZ w' (hS8.subw.trans k)), (hS8.frzSub 2 rfl).trans k⟩) (hRn1.up (ZLe.in _ _)) hLn1 _ hq1) ?_
  rintro _ w3 ⟨A1, c1, ft5, wf5, rfl, hL1, hR1, hS9⟩
  refine ⟨_, rfl, hS9.below, ?_⟩
  have hS10 := hS8.call hS9
  have hS11 := hS10.bring 3 rfl
  have hS12 := hS11.bring 1 rfl
  obtain ⟨ft6, wf6, hsb4, hsb5, hS13⟩ := hS12.frzMerge
  replace hR1 : RdZ (Zand Z wf6) A1 r1.A := hR1.up (ZLe.both hsb5 hsb4)
  refine ge_nil fun a hF => hKK _ _ (RS.of2 (l := [.loaded ⟨b1, 6, none⟩ (vI e1.If.A.Kind), .loaded ⟨b1, 7, none⟩ (vI e1.If.A.N), .loaded ⟨b1, 8, none⟩ (.slice An2 e1.If.A.A.length cn2), .loaded ⟨b1, 9, none⟩ (vI e1.If.B.Kind), .loaded ⟨b1, 10, none⟩ (vI e1.If.B.N), .loaded ⟨b1, 11, none⟩ (.slice An3 e1.If.B.A.length cn3)]) (by kernel_rfl) ⟨hS8.c 0, hS8.c 0, hS8.c 0, hS8.c 0, hS8.c 0, hS8.c 0, trivial⟩ ⟨hS13.c 1, hS13.c 1, hS13.c 1, hS13.c 1, hS13.c 1, hS13.c 1, trivial⟩) ?_ a hF
  refine go3_batch [11] (ans := []) (vs := [(23, pP b1 2)]) (l := []) (by kernel_rfl) trivial mem_nil3 ?_
  refine go_alt3 (fun KK hKK => ?_) ?_
  ·refine ge_one2 ?_
   rcases hq2 : punctualsame_twinExpr.f K e1.If.A.Kind e1.If.A.N e1.If.A.A with _ | r2
   ·rw [hq2] at h; cases h
   rw [hq2] at h
   simp only [] at h
   refine ge_call (d := some 18) (f := 53) (args := #[.agg #[vI e1.If.A.Kind, vI e1.If.A.N, .slice An2 e1.If.A.A.length cn2]]) (by kernel_rfl) (punctualsame_twinExpr_ok K (Zand Z wf6) e1.If.A.Kind e1.If.A.N e1.If.A.A An2 cn2 _ (fun w' k => ⟨(hZ w' (hS13.subw.trans k)), (hS13.frzSub 0 rfl).trans k⟩) (hRn2.up (ZLe.in _ _)) hLn2 _ hq2) ?_
   rintro _ w4 ⟨A2, c2, ft7, wf7, rfl, hL2, hR2, hS14⟩
   refine ⟨_, rfl, hS14.below, ?_⟩
   have hS15 := hS13.call hS14
   have hS16 := hS15.bring 1 rfl
   have hS17 := hS16.bring 1 rfl
   obtain ⟨ft8, wf8, hsb6, hsb7, hS18⟩ := hS17.frzMerge
   replace hR2 : RdZ (Zand Z wf8) A2 r2.A := hR2.up (ZLe.both hsb7 hsb6)
   refine ge_nil fun a hF => hKK _ _ (RS.of2 (l := [.loaded ⟨b1, 9, none⟩ (vI e1.If.B.Kind), .loaded ⟨b1, 10, none⟩ (vI e1.If.B.N), .loaded ⟨b1, 11, none⟩ (.slice An3 e1.If.B.A.length cn3)]) (by kernel_rfl) ⟨hS13.c 1, hS13.c 1, hS13.c 1, trivial⟩ ⟨hS18.c 1, hS18.c 1, hS18.c 1, trivial⟩) ?_ a hF
   refine go_alt3 (fun KK hKK => ?_) ?_
   ·refine ge_one2 ?_
    rcases hq3 : punctualsame_twinExpr.f K e1.If.B.Kind e1.If.B.N e1.If.B.A with _ | r3
    ·rw [hq3] at h; cases h
    rw [hq3] at h
    simp only [] at h
    refine ge_call (d := some 22) (f := 53) (args := #[.agg #[vI e1.If.B.Kind, vI e1.If.B.N, .slice An3 e1.If.B.A.length cn3]]) (by kernel_rfl) (punctualsame_twinExpr_ok K (Zand Z wf8) e1.If.B.Kind e1.If.B.N e1.If.B.A An3 cn3 _ (fun w' k => ⟨(hZ w' (hS18.subw.trans k)), (hS18.frzSub 0 rfl).trans k⟩) (hRn3.up (ZLe.in _ _)) hLn3 _ hq3) ?_
    rintro _ w5 ⟨A3, c3, ft9, wf9, rfl, hL3, hR3, hS19⟩
    refine ⟨_, rfl, hS19.below, ?_⟩
    have hS20 := hS18.call hS19
    have hS21 := hS20.bring 1 rfl
    have hS22 := hS21.bring 1 rfl
    obtain ⟨ft10, wf10, hsb8, hsb9, hS23⟩ := hS22.frzMerge
    replace hR3 : RdZ (Zand Z wf10) A3 r3.A := hR3.up (ZLe.both hsb9 hsb8)
    refine ge_nil fun a hF => hKK _ _ (RS.of2 (l := []) (by kernel_rfl) trivial trivial) ?_ a hF
    refine go_alt3 (fun KK hKK => ?_) ?_
    ·have hS24 := hS23.bring 1 rfl
     refine gs b1 2 #[vI e1.Kind, vI e1.N, vI e1.E.Kind, vI e1.E.N, .slice An1 e1.E.A.length cn1, vI e1.If.Kind, vI e1.If.A.Kind, vI e1.If.A.N, .slice An2 e1.If.A.A.length cn2, vI e1.If.B.Kind, vI e1.If.B.N, .slice An3 e1.If.B.A.length cn3, .slice An4 e1.Body.length cn4, .slice An5 e1.Else.length cn5] 49 [vI r1.Kind, vI r1.N, .slice A1 r1.A.length c1] hS24 fun w6 hS25 => ?_
     have hS26 := hS25.nc #[vI e1.Kind, vI e1.N, vI r1.Kind, vI r1.N, .slice A1 r1.A.length c1, vI e1.If.Kind, vI e1.If.A.Kind, vI e1.If.A.N, .slice An2 e1.If.A.A.length cn2, vI e1.If.B.Kind, vI e1.If.B.N, .slice An3 e1.If.B.A.length cn3, .slice An4 e1.Body.length cn4, .slice An5 e1.Else.length cn5] (by kernel_rfl)
     refine ge_nil fun a hF => hKK _ _ (RS.of2 (l := []) (by kernel_rfl) trivial trivial) ?_ a hF
     refine go3_batch [13, 14] (ans := []) (vs := [(25, pP b1 6), (24, pP b1 5)]) (l := []) (by kernel_rfl) trivial mem_nil3 ?_
     refine go_alt3 (fun KK hKK => ?_) ?_
     ·refine gs b1 6 #[vI e1.Kind, vI e1.N, vI r1.Kind, vI r1.N, .slice A1 r1.A.length c1, vI e1.If.Kind, vI e1.If.A.Kind, vI e1.If.A.N, .slice An2 e1.If.A.A.length cn2, vI e1.If.B.Kind, vI e1.If.B.N, .slice An3 e1.If.B.A.length cn3, .slice An4 e1.Body.length cn4, .slice An5 e1.Else.length cn5] 49 [vI r2.Kind, vI r2.N, .slice A2 r2.A.length c2] hS26 fun w7 hS27 => ?_
      have hS28 := hS27.nc #[vI e1.Kind, vI e1.N, vI r1.Kind, vI r1.N, .slice A1 r1.A.length c1, vI e1.If.Kind, vI r2.Kind, vI r2.N, .slice A2 r2.A.length c2, vI e1.If.B.Kind, vI e1.If.B.N, .slice An3 e1.If.B.A.length cn3, .slice An4 e1.Body.length cn4, .slice An5 e1.Else.length cn5] (by kernel_rfl)
      refine ge_nil fun a hF => hKK _ _ (RS.of2 (l := []) (by kernel_rfl) trivial trivial) ?_ a hF
      refine go3_batch [16, 17] (ans := []) (vs := [(27, pP b1 9), (26, pP b1 5)]) (l := []) (by kernel_rfl) trivial mem_nil3 ?_
      refine go_alt3 (fun KK hKK => ?_) ?_
      ·refine gs b1 9 #[vI e1.Kind, vI e1.N, vI r1.Kind, vI r1.N, .slice A1 r1.A.length c1, vI e1.If.Kind, vI r2.Kind, vI r2.N, .slice A2 r2.A.length c2, vI e1.If.B.Kind, vI e1.If.B.N, .slice An3 e1.If.B.A.length cn3, .slice An4 e1.Body.length cn4, .slice An5 e1.Else.length cn5] 49 [vI r3.Kind, vI r3.N, .slice A3 r3.A.length c3] hS28 fun w8 hS29 => ?_
       have hS30 := hS29.nc #[vI e1.Kind, vI e1.N, vI r1.Kind, vI r1.N, .slice A1 r1.A.length c1, vI e1.If.Kind, vI r2.Kind, vI r2.N, .slice A2 r2.A.length c2, vI r3.Kind, vI r3.N, .slice A3 r3.A.length c3, .slice An4 e1.Body.length cn4, .slice An5 e1.Else.length cn5] (by kernel_rfl)
       refine ge_nil fun a hF => hKK _ _ (RS.of2 (l := []) (by kernel_rfl) trivial trivial) ?_ a hF
       have hS31 := hS30.bring 1 rfl
       have hS32 := hS31.bring 2 rfl
       have hS33 := hS32.bring 2 rfl
       obtain rfl := si h
       exact go_fin3 fun a hF => hQ _ _ _ (Outs.again ⟨ft10, wf10, A1, c1, A2, c2, A3, c3, ((hsb5.trans hsb7).trans hsb9), (hR1.up (ZLe.up (hsb7.trans hsb9))), hL1, (hR2.up (ZLe.up hsb9)), hL2, hR3, hL3, hS33, hF.weaken ea⟩)
      exact go_nomore3
     exact go_nomore3
    exact go_nomore3
   exact go_nomore3
  exact go_nomore3
 exact go_nomore3
abbrev punctualsame_Twin.A0 (w0 : World) (Z : Zone) (l0 : List SStmt) (A0 : Option Addr) (c0 : Nat) (wf1 : World) : ((List SStmt) × Nat) → Act → World → Prop := fun (s : (List SStmt) × Nat) a w => ∃ (ft2 : List Nat) (wf2 : World) (v1 : Value) (hds1 : List HStmt), Sub wf1 wf2 ∧ DRows (Zand Z wf2) hds1 s.1 ∧ St w0 w [Own.of v1 49 hds1, Own.frz ft2 wf2] ∧ Frm 42 a [(3, v1), (6, .slice A0 l0.length c0), (7, vI (l0.length : Int)), (8, vI (s.2 : Int))]
abbrev punctualsame_Twin.B0 (w0 : World) (Z : Zone) (wf1 : World) : ((List SStmt) ⊕ (List SStmt)) → Exit → Act → World → Prop := Exits 0 (fun (s : (List SStmt)) a w => ∃ (ft3 : List Nat) (wf3 : World) (v2 : Value) (hds2 : List HStmt), Sub wf1 wf3 ∧ DRows (Zand Z wf3) hds2 s ∧ St w0 w [Own.of v2 49 hds2, Own.frz ft3 wf3] ∧ Frm 42 a [(3, v2)]) (Rets Try.prog Try.f25 (punctualsame_Twin.Post w0 Z))
theorem punctualsame_Twin_r0 (K : Nat) (w0 : World) (Z : Zone) (l0 : List SStmt) (A0 : Option Addr) (c0 : Nat) (hZ : ∀ w, Sub w0 w → Z w) (hR0 : RdZ Z A0 l0) (hL0 : l0.length ≤ c0) (rec_punctualsame_Twin : (List SStmt) → Option (List SStmt)) (hr_punctualsame_Twin : punctualsame_Twin.Rec rec_punctualsame_Twin) (ft1 : List Nat) (wf1 : World) (s : (List SStmt) × Nat) (o : ((List SStmt) × Nat) ⊕ ((List SStmt) ⊕ (List SStmt))) (h : punctualsame_Twin.r0 K l0 rec_punctualsame_Twin s = some o) (a : Act) (w : World) (hA : punctualsame_Twin.A0 w0 Z l0 A0 c0 wf1 s a w) (Q : Exit → Act → World → Prop) (hQ : ∀ x a w, Outs (punctualsame_Twin.A0 w0 Z l0 A0 c0 wf1) (punctualsame_Twin.B0 w0 Z wf1) o x a w → Q x a w) : (subF Try.f25 [1, 1, 0, 1, 0, 0]).wp Try.prog Q a w := by
 obtain ⟨m1, i1⟩ := s
 obtain ⟨ft2, wf2, v1, hds1, hsb1, hd1, hS, hF⟩ := hA
 replace hS : St w0 w [Own.of v1 49 hds1, Own.frz ft2 wf2] := hS
 simp only [punctualsame_Twin.r0] at h
 refine (?_ : WE Try.prog 42 (subF Try.f25 [1, 1, 0, 1, 0, 0]) Q [(3, v1), (6, .slice A0 l0.length c0), (7, vI (l0.length : Int)), (8, vI (i1 : Int))] w) a hF
 clear hF a
 refine ws fun K5 hK5 => ?_
 refine wr [(0, 0)] ?_
 refine gb0 [0] [(9, .bool (decide ((i1 : Int) < (l0.length : Int))))] ?_
 refine gn hK5 ?_
 refine ws fun K6 hK6 => ?_
 by_cases hc1 : (i1 : Int) < (l0.length : Int)
 ·rw [if_pos hc1] at h
  refine wk 9 (decide ((i1 : Int) < (l0.length : Int))) true (decide_eq_true hc1) ?_
  refine we_true (by kernel_rfl) ?_
  refine we_skip fun a hF => hK6 _ _ ?_ a hF
  refine ws fun K7 hK7 => ?_
  refine we_block ?_
  refine ws fun K8 hK8 => ?_
  refine wr [(0, 0), (1, 0), (2, 1), (3, 2)] ?_
  rcases hx1 : l0[i1]? with _ | e1
  ·rw [hx1] at h; cases h
  rw [hx1] at h
  simp only [] at h
  obtain ⟨An1, cn1, An2, cn2, An3, cn3, An4, cn4, An5, cn5, hCs1, hLn1, hRn1, hLn2, hRn2, hLn3, hRn3, hLn4, hRn4, hLn5, hRn5⟩ := SStmt.getZ hR0 hx1
  refine gi 10 0 38 49 14 l0.length c0 (.tmp 6) (.tmp 8) A0 .i64 (i1 : Int) i1 (hR0.eqSome (hZ _ hS.subw) (pos_of_get hx1)) rfl (lt_of_get hx1) ?_
  refine gb [1] [(11, .agg #[vI e1.Kind, vI e1.N, vI e1.E.Kind, vI e1.E.N, .slice An1 e1.E.A.length cn1, vI e1.If.Kind, vI e1.If.A.Kind, vI e1.If.A.N, .slice An2 e1.If.A.A.length cn2, vI e1.If.B.Kind, vI e1.If.B.N, .slice An3 e1.If.B.A.length cn3, .slice An4 e1.Body.length cn4, .slice An5 e1.Else.length cn5])] [.loaded ⟨blkOf A0, offOf A0 + i1 * 14, none⟩ (vI e1.Kind), .loaded ⟨blkOf A0, offOf A0 + i1 * 14 + 1, none⟩ (vI e1.N), .loaded ⟨blkOf A0, offOf A0 + i1 * 14 + 2, none⟩ (vI e1.E.Kind), .loaded ⟨blkOf A0, offOf A0 + i1 * 14 + 3, none⟩ (vI e1.E.N), .loaded ⟨blkOf A0, offOf A0 + i1 * 14 + 4, none⟩ (.slice An1 e1.E.A.length cn1), .loaded ⟨blkOf A0, offOf A0 + i1 * 14 + 5, none⟩ (vI e1.If.Kind), .loaded ⟨blkOf A0, offOf A0 + i1 * 14 + 6, none⟩ (vI e1.If.A.Kind), .loaded ⟨blkOf A0, offOf A0 + i1 * 14 + 7, none⟩ (vI e1.If.A.N), .loaded ⟨blkOf A0, offOf A0 + i1 * 14 + 8, none⟩ (.slice An2 e1.If.A.A.length cn2), .loaded ⟨blkOf A0, offOf A0 + i1 * 14 + 9, none⟩ (vI e1.If.B.Kind), .loaded ⟨blkOf A0, offOf A0 + i1 * 14 + 10, none⟩ (vI e1.If.B.N), .loaded ⟨blkOf A0, offOf A0 + i1 * 14 + 11, none⟩ (.slice An3 e1.If.B.A.length cn3), .loaded ⟨blkOf A0, offOf A0 + i1 * 14 + 12, none⟩ (.slice An4 e1.Body.length cn4), .loaded ⟨blkOf A0, offOf A0 + i1 * 14 + 13, none⟩ (.slice An5 e1.Else.length cn5)] ⟨hCs1 _ (hZ _ hS.subw) 0 _ rfl, hCs1 _ (hZ _ hS.subw) 1 _ rfl, hCs1 _ (hZ _ hS.subw) 2 _ rfl, hCs1 _ (hZ _ hS.subw) 3 _ rfl, hCs1 _ (hZ _ hS.subw) 4 _ rfl, hCs1 _ (hZ _ hS.subw) 5 _ rfl, hCs1 _ (hZ _ hS.subw) 6 _ rfl, hCs1 _ (hZ _ hS.subw) 7 _ rfl, hCs1 _ (hZ _ hS.subw) 8 _ rfl, hCs1 _ (hZ _ hS.subw) 9 _ rfl, hCs1 _ (hZ _ hS.subw) 10 _ rfl, hCs1 _ (hZ _ hS.subw) 11 _ rfl, hCs1 _ (hZ _ hS.subw) 12 _ rfl, hCs1 _ (hZ _ hS.subw) 13 _ rfl, trivial⟩ ?_
  refine gw (some 5) (.cells #[vI 0, vI 0, vI 0, vI 0, .slice none 0 0, vI 0, vI 0, vI 0, .slice none 0 0, vI 0, vI 0, .slice none 0 0, .slice none 0 0, .slice none 0 0] 49) (fun b => pP b 0) hS fun b1 w1 hx2 hS5 => ?_
  refine gs b1 0 #[vI 0, vI 0, vI 0, vI 0, .slice none 0 0, vI 0, vI 0, vI 0, .slice none 0 0, vI 0, vI 0, .slice none 0 0, .slice none 0 0, .slice none 0 0] 49 [vI e1.Kind, vI e1.N, vI e1.E.Kind, vI e1.E.N, .slice An1 e1.E.A.length cn1, vI e1.If.Kind, vI e1.If.A.Kind, vI e1.If.A.N, .slice An2 e1.If.A.A.length cn2, vI e1.If.B.Kind, vI e1.If.B.N, .slice An3 e1.If.B.A.length cn3, .slice An4 e1.Body.length cn4, .slice An5 e1.Else.length cn5] hS5 fun w2 hS6 => ?_
  have hS7 := hS6.nc #[vI e1.Kind, vI e1.N, vI e1.E.Kind, vI e1.E.N, .slice An1 e1.E.A.length cn1, vI e1.If.Kind, vI e1.If.A.Kind, vI e1.If.A.N, .slice An2 e1.If.A.A.length cn2, vI e1.If.B.Kind, vI e1.If.B.N, .slice An3 e1.If.B.A.length cn3, .slice An4 e1.Body.length cn4, .slice An5 e1.Else.length cn5] (by kernel_rfl)
  refine gn hK8 ?_
  refine ws fun K9 hK9 => ?_
  rcases hq4 : punctualsame_Twin.p1 K e1 with _ | (⟨z7, z8, m6, z9, z10, m7, z11, z12, m8⟩ | rr1)
  ·rw [hq4] at h; cases h
  ·rw [hq4] at h
   simp only [] at h
   refine we_keep (e' := [(3, v1), (5, pP b1 0), (6, .slice A0 l0.length c0), (7, vI (l0.length : Int)), (8, vI (i1 : Int)), (9, .bool true), (10, .pointer (some ⟨blkOf A0, offOf A0 + i1 * 14, none⟩)), (11, .agg #[vI e1.Kind, vI e1.N, vI e1.E.Kind, vI e1.E.N, .slice An1 e1.E.A.length cn1, vI e1.If.Kind, vI e1.If.A.Kind, vI e1.If.A.N, .slice An2 e1.If.A.A.length cn2, vI e1.If.B.Kind, vI e1.If.B.N, .slice An3 e1.If.B.A.length cn3, .slice An4 e1.Body.length cn4, .slice An5 e1.Else.length cn5])]) ea (punctualsame_Twin_p1 K w0 Z l0 A0 c0 hZ hR0 hL0 rec_punctualsame_Twin hr_punctualsame_Twin ft1 wf1 ft2 wf2 m1 v1 hds1 i1 hsb1 hd1 hc1 e1 hx1 An1 cn1 An2 cn2 An3 cn3 An4 cn4 An5 cn5 hCs1 hLn1 hRn1 hLn2 hRn2 hLn3 hRn3 hLn4 hRn4 hLn5 hRn5 b1 _ hq4 _ hS7 _ ?_)
   rintro _ a w9 ⟨rfl, ft11, wf11, Z4, cz4, Z5, cz5, Z6, cz6, hRz4, hRz5, hRz6, hRz7, hRz8, hRz9, hRz10, hS34, hF⟩
   replace hS34 : St w0 w9 [Own.blk b1 (.cells #[vI e1.Kind, vI e1.N, vI z7, vI z8, .slice Z4 m6.length cz4, vI e1.If.Kind, vI z9, vI z10, .slice Z5 m7.length cz5, vI z11, vI z12, .slice Z6 m8.length cz6, .slice An4 e1.Body.length cn4, .slice An5 e1.Else.length cn5] 49 (0, 0)), Own.of v1 49 hds1, Own.frz ft11 wf11] := hS34
   refine hK9 [(3, v1), (5, pP b1 0), (6, .slice A0 l0.length c0), (7, vI (l0.length : Int)), (8, vI (i1 : Int))] w9 ?_ a hF
   refine ws fun K10 hK10 => ?_
   refine we_draws (by kernel_rfl) [(0, 0), (1, 0), (3, 0), (4, 0), (2, 1), (6, 0), (5, 1), (7, 2), (8, 0), (9, 2)] (by kernel_rfl) ?_
   have hS35 := hS34.drew
   rcases hq5 : rec_punctualsame_Twin e1.Body with _ | r4
   ·rw [hq5] at h; cases h
   rw [hq5] at h
   simp only [] at h
   refine gb [0, 1, 3, 4] [(32, .slice An5 e1.Else.length cn5), (31, pP b1 13), (29, .slice An4 e1.Body.length cn4), (28, pP b1 12)] [.loaded ⟨b1, 12, none⟩ (.slice An4 e1.Body.length cn4), .loaded ⟨b1, 13, none⟩ (.slice An5 e1.Else.length cn5)] ⟨hS35.c 0, hS35.c 0, trivial⟩ ?_
   refine ge_call (d := some 30) (f := 25) (args := #[.slice An4 e1.Body.length cn4]) (by kernel_rfl) (hr_punctualsame_Twin (Zand Z wf11) e1.Body An4 cn4 _ (fun w' k => ⟨(hZ w' (hS35.subw.trans k)), (hS35.frzSub 2 rfl).trans k⟩) (hRn4.up (ZLe.in _ _)) hLn4 _ hq5) ?_
   rintro _ w10 ⟨v3, hds3, ft12, wf12, rfl, hd3, hS36⟩
   refine ⟨_, rfl, hS36.below, ?_⟩
   have hS37 := hS35.call hS36
   have hS38 := hS37.bring 4 rfl
   have hS39 := hS38.bring 2 rfl
   obtain ⟨ft13, wf13, hsb10, hsb11, hS40⟩ := hS39.frzMerge
   replace hd3 : DRows (Zand Z wf13) hds3 r4 := hd3.up (ZLe.both hsb11 hsb10)
   rcases hq6 : rec_punctualsame_Twin e1.Else with _ | r5
   ·rw [hq6] at h; cases h
   rw [hq6] at h
   simp only [] at h
   refine gb0 [6] [(34, pP b1 12)] ?_
   refine ge_call (d := some 33) (f := 25) (args := #[.slice An5 e1.Else.length cn5]) (by kernel_rfl) (hr_punctualsame_Twin (Zand Z wf13) e1.Else An5 cn5 _ (fun w' k => ⟨(hZ w' (hS40.subw.trans k)), (hS40.frzSub 0 rfl).trans k⟩) (hRn5.up (ZLe.in _ _)) hLn5 _ hq6) ?_
   rintro _ w11 ⟨v4, hds4, ft14, wf14, rfl, hd4, hS41⟩
   refine ⟨_, rfl, hS41.below, ?_⟩
   have hS42 := hS40.call hS41
   have hS43 := hS42.bring 2 rfl
   have hS44 := hS43.bring 2 rfl
   obtain ⟨ft15, wf15, hsb12, hsb13, hS45⟩ := hS44.frzMerge
   replace hd4 : DRows (Zand Z wf15) hds4 r5 := hd4.up (ZLe.both hsb13 hsb12)
   obtain ⟨Z7, cz7, rfl⟩ := hS45.dopen 2 rfl hd3
   have hS46 := hS45.bring 2 rfl
   obtain ⟨ft16, wf16, hsb14, -, hRd1, hLd1, hS47⟩ := hS46.dfrz (Z := Z) (hd3.up (ZLe.up hsb13))
   have hS48 := hS47.bring 2 rfl
   refine gs b1 12 #[vI e1.Kind, vI e1.N, vI z7, vI z8, .slice Z4 m6.length cz4, vI e1.If.Kind, vI z9, vI z10, .slice Z5 m7.length cz5, vI z11, vI z12, .slice Z6 m8.length cz6, .slice An4 e1.Body.length cn4, .slice An5 e1.Else.length cn5] 49 [.slice Z7 r4.length cz7] hS48 fun w12 hS49 => ?_
   have hS50 := hS49.nc #[vI e1.Kind, vI e1.N, vI z7, vI z8, .slice Z4 m6.length cz4, vI e1.If.Kind, vI z9, vI z10, .slice Z5 m7.length cz5, vI z11, vI z12, .slice Z6 m8.length cz6, .slice Z7 r4.length cz7, .slice An5 e1.Else.length cn5] (by kernel_rfl)
   refine gb0 [8] [(35, pP b1 13)] ?_
   obtain ⟨Z8, cz8, rfl⟩ := hS50.dopen 2 rfl hd4
   have hS51 := hS50.bring 1 rfl
   have hS52 := hS51.bring 2 rfl
   obtain ⟨ft17, wf17, hsb15, -, hRd2, hLd2, hS53⟩ := hS52.dfrz (Z := Z) (hd4.up (ZLe.up hsb14))
   have hS54 := hS53.bring 1 rfl
   refine gs b1 13 #[vI e1.Kind, vI e1.N, vI z7, vI z8, .slice Z4 m6.length cz4, vI e1.If.Kind, vI z9, vI z10, .slice Z5 m7.length cz5, vI z11, vI z12, .slice Z6 m8.length cz6, .slice Z7 r4.length cz7, .slice An5 e1.Else.length cn5] 49 [.slice Z8 r5.length cz8] hS54 fun w13 hS55 => ?_
   have hS56 := hS55.nc #[vI e1.Kind, vI e1.N, vI z7, vI z8, .slice Z4 m6.length cz4, vI e1.If.Kind, vI z9, vI z10, .slice Z5 m7.length cz5, vI z11, vI z12, .slice Z6 m8.length cz6, .slice Z7 r4.length cz7, .slice Z8 r5.length cz8] (by kernel_rfl)
   refine gn hK10 ?_
   refine wr [(0, 0), (1, 0), (2, 1), (3, 2), (4, 0)] ?_
   refine gb [0, 1] [(37, .agg #[vI e1.Kind, vI e1.N, vI z7, vI z8, .slice Z4 m6.length cz4, vI e1.If.Kind, vI z9, vI z10, .slice Z5 m7.length cz5, vI z11, vI z12, .slice Z6 m8.length cz6, .slice Z7 r4.length cz7, .slice Z8 r5.length cz8]), (36, v1)] [.loaded ⟨b1, 0, none⟩ (vI e1.Kind), .loaded ⟨b1, 1, none⟩ (vI e1.N), .loaded ⟨b1, 2, none⟩ (vI z7), .loaded ⟨b1, 3, none⟩ (vI z8), .loaded ⟨b1, 4, none⟩ (.slice Z4 m6.length cz4), .loaded ⟨b1, 5, none⟩ (vI e1.If.Kind), .loaded ⟨b1, 6, none⟩ (vI z9), .loaded ⟨b1, 7, none⟩ (vI z10), .loaded ⟨b1, 8, none⟩ (.slice Z5 m7.length cz5), .loaded ⟨b1, 9, none⟩ (vI z11), .loaded ⟨b1, 10, none⟩ (vI z12), .loaded ⟨b1, 11, none⟩ (.slice Z6 m8.length cz6), .loaded ⟨b1, 12, none⟩ (.slice Z7 r4.length cz7), .loaded ⟨b1, 13, none⟩ (.slice Z8 r5.length cz8)] ⟨hS56.c 0, hS56.c 0, hS56.c 0, hS56.c 0, hS56.c 0, hS56.c 0, hS56.c 0, hS56.c 0, hS56.c 0, hS56.c 0, hS56.c 0, hS56.c 0, hS56.c 0, hS56.c 0, trivial⟩ ?_
   refine gw (some 38) (.cells #[vI e1.Kind, vI e1.N, vI z7, vI z8, .slice Z4 m6.length cz4, vI e1.If.Kind, vI z9, vI z10, .slice Z5 m7.length cz5, vI z11, vI z12, .slice Z6 m8.length cz6, .slice Z7 r4.length cz7, .slice Z8 r5.length cz8] 49) (fun b => .slice (some ⟨b, 0, none⟩) 1 1) hS56 fun b2 w14 hx3 hS57 => ?_
   have hS58 := hS57.bring 3 rfl
   by_cases hc2 : m1.length < 733007751850
   ·rw [if_pos hc2] at h
    have hd5 : DRows (Zand Z wf17) (hds1 ++ [(⟨e1.Kind, e1.N, z7, z8, ⟨Z4, m6.length, cz4⟩, e1.If.Kind, z9, z10, ⟨Z5, m7.length, cz5⟩, z11, z12, ⟨Z6, m8.length, cz6⟩, ⟨Z7, r4.length, cz7⟩, ⟨Z8, r5.length, cz8⟩⟩ : HStmt)]) (m1 ++ [(⟨e1.Kind, e1.N, (⟨z7, z8, m6⟩ : SExpr), (⟨e1.If.Kind, (⟨z9, z10, m7⟩ : SExpr), (⟨z11, z12, m8⟩ : SExpr)⟩ : SCond), r4, r5⟩ : SStmt)]) := DRows.add (hd1.up (ZLe.up ((((hRz4.trans hsb11).trans hsb13).trans hsb14).trans hsb15))) (SStmt.mkZ (⟨e1.Kind, e1.N, (⟨z7, z8, m6⟩ : SExpr), (⟨e1.If.Kind, (⟨z9, z10, m7⟩ : SExpr), (⟨z11, z12, m8⟩ : SExpr)⟩ : SCond), r4, r5⟩ : SStmt) hRz6 (hRz5.up (ZLe.up (((hsb11.trans hsb13).trans hsb14).trans hsb15))) hRz8 (hRz7.up (ZLe.up (((hsb11.trans hsb13).trans hsb14).trans hsb15))) hRz10 (hRz9.up (ZLe.up (((hsb11.trans hsb13).trans hsb14).trans hsb15))) hLd1 (hRd1.up (ZLe.up hsb15)) hLd2 hRd2)
    refine ge_append (α := HStmt) (m := 0) (d := 39) (t := 38) (el := 49) (bytes := 192) (c1 := 1) (b1 := b2) (x := (.tmp 36)) (y := (.tmp 38)) (ty := 38) (v := v1) (z := .agg #[vI 0, vI 0, vI 0, vI 0, .slice none 0 0, vI 0, vI 0, vI 0, .slice none 0 0, vI 0, vI 0, .slice none 0 0, .slice none 0 0, .slice none 0 0]) (l := hds1) (u := (⟨e1.Kind, e1.N, z7, z8, ⟨Z4, m6.length, cz4⟩, e1.If.Kind, z9, z10, ⟨Z5, m7.length, cz5⟩, z11, z12, ⟨Z6, m8.length, cz6⟩, ⟨Z7, r4.length, cz7⟩, ⟨Z8, r5.length, cz8⟩⟩ : HStmt)) (by kernel_rfl) (by kernel_rfl) (by kernel_rfl) (by kernel_rfl) (by kernel_rfl) rfl hS58 rfl (by have h0 : hds1.length = m1.length := DRows.len (hd1.up (ZLe.up ((((hRz4.trans hsb11).trans hsb13).trans hsb14).trans hsb15))); omega) fun v5 w15 hS59 => ?_
    refine gb0 [4] [(3, v5)] ?_
    refine gn hK7 ?_
    refine wr [(0, 0), (1, 0)] ?_
    refine ge_addn (d := 40) (ty := 3) (x := (.tmp 8)) (y := (.const (vI 1))) (t := 3) (t2 := 3) (k := .i64) (m := i1) (by kernel_rfl) (by kernel_rfl) (by kernel_rfl) (by have h0 := RdZ.small hR0 (hZ _ hS59.subw); omega) ?_
    refine gb0 [1] [(8, vI ((i1 + 1 : Nat) : Int))] ?_
    have hS60 := hS59.bring 2 rfl
    have hS61 := hS60.bring 1 rfl
    have hS62 := hS61.takeN 2
    obtain rfl := si h
    exact ge_nil fun a hF => hQ _ _ _ (Outs.again ⟨ft17, wf17, v5, (hds1 ++ [(⟨e1.Kind, e1.N, z7, z8, ⟨Z4, m6.length, cz4⟩, e1.If.Kind, z9, z10, ⟨Z5, m7.length, cz5⟩, z11, z12, ⟨Z6, m8.length, cz6⟩, ⟨Z7, r4.length, cz7⟩, ⟨Z8, r5.length, cz8⟩⟩ : HStmt)]), (((((hsb1.trans hRz4).trans hsb11).trans hsb13).trans hsb14).trans hsb15), hd5, hS62, hF.weaken ea⟩)
   ·rw [if_neg hc2] at h
    cases h
  ·rw [hq4] at h
   simp only [] at h
   refine we_keep (e' := [(3, v1), (5, pP b1 0), (6, .slice A0 l0.length c0), (7, vI (l0.length : Int)), (8, vI (i1 : Int)), (9, .bool true), (10, .pointer (some ⟨blkOf A0, offOf A0 + i1 * 14, none⟩)), (11, .agg #[vI e1.Kind, vI e1.N, vI e1.E.Kind, vI e1.E.N, .slice An1 e1.E.A.length cn1, vI e1.If.Kind, vI e1.If.A.Kind, vI e1.If.A.N, .slice An2 e1.If.A.A.length cn2, vI e1.If.B.Kind, vI e1.If.B.N, .slice An3 e1.If.B.A.length cn3, .slice An4 e1.Body.length cn4, .slice An5 e1.Else.length cn5])]) ea (punctualsame_Twin_p1 K w0 Z l0 A0 c0 hZ hR0 hL0 rec_punctualsame_Twin hr_punctualsame_Twin ft1 wf1 ft2 wf2 m1 v1 hds1 i1 hsb1 hd1 hc1 e1 hx1 An1 cn1 An2 cn2 An3 cn3 An4 cn4 An5 cn5 hCs1 hLn1 hRn1 hLn2 hRn2 hLn3 hRn3 hLn4 hRn4 hLn5 hRn5 b1 _ hq4 _ hS7 _ ?_)
   rintro _ a w1 ⟨_, rfl, hb⟩
   obtain rfl := si h
   exact hQ _ _ _ (Outs.out nofun (Exits.on ⟨rfl, hb⟩))
 ·rw [if_neg hc1] at h
  refine wk 9 (decide ((i1 : Int) < (l0.length : Int))) false (decide_eq_false hc1) ?_
  refine we_false (by kernel_rfl) ?_
  have hS63 := hS.bring 1 rfl
  have hS64 := hS63.bring 1 rfl
  obtain rfl := si h
  exact we_exit fun a hF => hQ _ _ _ (Outs.out nofun (Exits.here ⟨ft2, wf2, v1, hds1, hsb1, hd1, hS64, hF.weaken ea⟩))
theorem punctualsame_Twin_step (K : Nat) (rec_punctualsame_Twin : (List SStmt) → Option (List SStmt)) (hr_punctualsame_Twin : punctualsame_Twin.Rec rec_punctualsame_Twin) (Z : Zone) (l0 : List SStmt) (A0 : Option Addr) (c0 : Nat) (w0 : World) (hZ : ∀ w, Sub w0 w → Z w) (hR0 : RdZ Z A0 l0) (hL0 : l0.length ≤ c0) (r : List SStmt) (h : punctualsame_Twin.b K rec_punctualsame_Twin l0 = some r) :
  Calls Try.prog 25 #[.slice A0 l0.length c0] w0 (punctualsame_Twin.Post w0 Z r) := by
 have hS := St.start w0
 unfold punctualsame_Twin.b at h
 refine calls_enter (n := 42) (args := [.slice A0 l0.length c0]) (fn := Try.f25) rfl rfl rfl rfl ?_
 show WE _ _ _ _ [(0, .slice A0 l0.length c0)] _
 obtain ⟨ft1, wf1, hS1⟩ := hS.frz0
 refine ws fun K1 hK1 => ?_
 refine wr [(0, 0)] ?_
 refine gb0 [0] [(2, .slice none 0 0)] ?_
 refine gn hK1 ?_
 refine ws fun K2 hK2 => ?_
 refine wr [(0, 0)] ?_
 refine gb0 [0] [(3, .slice none 0 0)] ?_
 refine gn hK2 ?_
 refine ws fun K3 hK3 => ?_
 refine ws fun K4 hK4 => ?_
 refine wr [(0, 0), (1, 0), (2, 0)] ?_
 refine gb0 [0, 1, 2] [(8, vI 0), (7, vI (l0.length : Int)), (6, .slice A0 l0.length c0)] ?_
 refine gn hK4 ?_
 refine we_block ?_
 have hS2 := hS1.nil (α := HStmt) 49
 have hS3 := hS2.bring 1 rfl
 have hS4 := hS3.bring 1 rfl
 rcases hq7 : iter (punctualsame_Twin.r0 K l0 rec_punctualsame_Twin) K (([] : List SStmt), 0) with _ | (m9 | rr2)
 ·rw [hq7] at h; cases h
 ·rw [hq7] at h
  simp only [] at h
  refine we_iter (A := punctualsame_Twin.A0 w0 Z l0 A0 c0 wf1) (B := punctualsame_Twin.B0 w0 Z wf1) hq7 (fun a hF => ⟨ft1, wf1, (.slice none 0 0), ([] : List HStmt), (Sub.refl _), (DRows.nil _), hS4, hF.weaken ea⟩) (fun s o hf a w hA Q hQ => punctualsame_Twin_r0 K w0 Z l0 A0 c0 hZ hR0 hL0 rec_punctualsame_Twin hr_punctualsame_Twin ft1 wf1 s o hf a w hA Q hQ) ?_
  rintro _ a w16 _ ⟨rfl, ft18, wf18, v6, hds5, hRz11, hRz12, hS65, hF⟩
  replace hS65 : St w0 w16 [Own.of v6 49 hds5, Own.frz ft18 wf18] := hS65
  refine hK3 [(3, v6)] w16 ?_ a hF
  refine ws fun K11 hK11 => ?_
  refine wr [(0, 0), (1, 0)] ?_
  refine gb0 [0, 1] [(2, v6), (41, v6)] ?_
  refine gn hK11 ?_
  have hS66 := hS65.bring 1 rfl
  have hS67 := hS66.bring 1 rfl
  obtain rfl := si h
  exact we_ret (pr0 [.tmp 2] [v6] ⟨v6, hds5, ft18, wf18, rfl, hRz12, hS67⟩)
 ·rw [hq7] at h
  simp only [] at h
  refine we_iter (A := punctualsame_Twin.A0 w0 Z l0 A0 c0 wf1) (B := punctualsame_Twin.B0 w0 Z wf1) hq7 (fun a hF => ⟨ft1, wf1, (.slice none 0 0), ([] : List HStmt), (Sub.refl _), (DRows.nil _), hS4, hF.weaken ea⟩) (fun s o hf a w hA Q hQ => punctualsame_Twin_r0 K w0 Z l0 A0 c0 hZ hR0 hL0 rec_punctualsame_Twin hr_punctualsame_Twin ft1 wf1 s o hf a w hA Q hQ) ?_
  rintro _ a w1 _ ⟨rfl, hb⟩
  obtain rfl := si h
  exact hb
def punctualsame_Twin.recs (K : Nat) : Nat → ((List SStmt) → Option (List SStmt))
 | 0 => fun _ => none
 | n + 1 => punctualsame_Twin.b K (punctualsame_Twin.recs K n)
theorem punctualsame_Twin_all (K n : Nat) : punctualsame_Twin.Rec (punctualsame_Twin.recs K n) := by
 induction n with
 | zero => exact (by unfold punctualsame_Twin.Rec; intros; rename_i h; cases (show none = some _ from h))
 | succ n ih => exact punctualsame_Twin_step K _ ih
def punctualsame_Twin.f (K : Nat) (l0 : List SStmt) : Option (List SStmt) := (punctualsame_Twin.recs K K) l0
theorem punctualsame_Twin_ok (K : Nat) (Z : Zone) (l0 : List SStmt) (A0 : Option Addr) (c0 : Nat) (w0 : World) (hZ : ∀ w, Sub w0 w → Z w) (hR0 : RdZ Z A0 l0) (hL0 : l0.length ≤ c0) (r : List SStmt) (h : punctualsame_Twin.f K l0 = some r) : Calls Try.prog 25 #[.slice A0 l0.length c0] w0 (punctualsame_Twin.Post w0 Z r) := (punctualsame_Twin_all K K) Z l0 A0 c0 w0 hZ hR0 hL0 r h

structure Sstatement where
 s : SStmt
 deep : Int
 locks : List Int

structure Hstatement where
 f0 : Int
 f1 : Int
 f2 : Int
 f3 : Int
 f4 : Hdr
 f5 : Int
 f6 : Int
 f7 : Int
 f8 : Hdr
 f9 : Int
 f10 : Int
 f11 : Hdr
 f12 : Hdr
 f13 : Hdr
 f14 : Int
 f15 : Hdr
instance : Flat Hstatement := ⟨16, fun x => [vI x.f0, vI x.f1, vI x.f2, vI x.f3, .slice x.f4.A x.f4.n x.f4.c, vI x.f5, vI x.f6, vI x.f7, .slice x.f8.A x.f8.n x.f8.c, vI x.f9, vI x.f10, .slice x.f11.A x.f11.n x.f11.c, .slice x.f12.A x.f12.n x.f12.c, .slice x.f13.A x.f13.n x.f13.c, vI x.f14, .slice x.f15.A x.f15.n x.f15.c], fun _ => rfl, fun _ => rfl, by decide⟩
def Rstatement (Z : Zone) (h : Hstatement) (x : Sstatement) : Prop := h.f0 = x.s.Kind ∧ h.f1 = x.s.N ∧ h.f2 = x.s.E.Kind ∧ h.f3 = x.s.E.N ∧ (h.f4.n = x.s.E.A.length ∧ x.s.E.A.length ≤ h.f4.c ∧ RdZ Z h.f4.A x.s.E.A) ∧ h.f5 = x.s.If.Kind ∧ h.f6 = x.s.If.A.Kind ∧ h.f7 = x.s.If.A.N ∧ (h.f8.n = x.s.If.A.A.length ∧ x.s.If.A.A.length ≤ h.f8.c ∧ RdZ Z h.f8.A x.s.If.A.A) ∧ h.f9 = x.s.If.B.Kind ∧ h.f10 = x.s.If.B.N ∧ (h.f11.n = x.s.If.B.A.length ∧ x.s.If.B.A.length ≤ h.f11.c ∧ RdZ Z h.f11.A x.s.If.B.A) ∧ (h.f12.n = x.s.Body.length ∧ x.s.Body.length ≤ h.f12.c ∧ RdZ Z h.f12.A x.s.Body) ∧ (h.f13.n = x.s.Else.length ∧ x.s.Else.length ≤ h.f13.c ∧ RdZ Z h.f13.A x.s.Else) ∧ h.f14 = x.deep ∧ (h.f15.n = x.locks.length ∧ x.locks.length ≤ h.f15.c ∧ RdF Z h.f15.A x.locks) ∧ True
theorem Rstatement.up {Z Z' : Zone} {h : Hstatement} {x : Sstatement} (k : ZLe Z Z') (r : Rstatement Z h x) : Rstatement Z' h x := by
 obtain ⟨e0, e1, e2, e3, ⟨q4, k4, r4⟩, e5, e6, e7, ⟨q8, k8, r8⟩, e9, e10, ⟨q11, k11, r11⟩, ⟨q12, k12, r12⟩, ⟨q13, k13, r13⟩, e14, ⟨q15, k15, r15⟩, _⟩ := r
 exact ⟨e0, e1, e2, e3, ⟨q4, k4, r4.up k⟩, e5, e6, e7, ⟨q8, k8, r8.up k⟩, e9, e10, ⟨q11, k11, r11.up k⟩, ⟨q12, k12, r12.up k⟩, ⟨q13, k13, r13.up k⟩, e14, ⟨q15, k15, r15.up k⟩, trivial⟩
instance : DRep Sstatement := ⟨Hstatement, inferInstance, Rstatement, fun k r => Rstatement.up k r⟩
theorem Sstatement.getZ {Z : Zone} {A : Option Addr} {l : List Sstatement} (h : RdZ Z A l) {k : Nat} {x : Sstatement} (hx : l[k]? = some x) : ∃ (A4 : Option Addr) (c4 : Nat) (A8 : Option Addr) (c8 : Nat) (A11 : Option Addr) (c11 : Nat) (A12 : Option Addr) (c12 : Nat) (A13 : Option Addr) (c13 : Nat) (A15 : Option Addr) (c15 : Nat), CellsAt Z A (k * 16) [vI x.s.Kind, vI x.s.N, vI x.s.E.Kind, vI x.s.E.N, .slice A4 x.s.E.A.length c4, vI x.s.If.Kind, vI x.s.If.A.Kind, vI x.s.If.A.N, .slice A8 x.s.If.A.A.length c8, vI x.s.If.B.Kind, vI x.s.If.B.N, .slice A11 x.s.If.B.A.length c11, .slice A12 x.s.Body.length c12, .slice A13 x.s.Else.length c13, vI x.deep, .slice A15 x.locks.length c15] ∧ x.s.E.A.length ≤ c4 ∧ RdZ Z A4 x.s.E.A ∧ x.s.If.A.A.length ≤ c8 ∧ RdZ Z A8 x.s.If.A.A ∧ x.s.If.B.A.length ≤ c11 ∧ RdZ Z A11 x.s.If.B.A ∧ x.s.Body.length ≤ c12 ∧ RdZ Z A12 x.s.Body ∧ x.s.Else.length ≤ c13 ∧ RdZ Z A13 x.s.Else ∧ x.locks.length ≤ c15 ∧ RdF Z A15 x.locks := by
 obtain ⟨(y : Hstatement), r, hc⟩ := h.get hx
 have r' : Rstatement Z y x := r
 have hc' : CellsAt Z A (k * 16) [vI y.f0, vI y.f1, vI y.f2, vI y.f3, .slice y.f4.A y.f4.n y.f4.c, vI y.f5, vI y.f6, vI y.f7, .slice y.f8.A y.f8.n y.f8.c, vI y.f9, vI y.f10, .slice y.f11.A y.f11.n y.f11.c, .slice y.f12.A y.f12.n y.f12.c, .slice y.f13.A y.f13.n y.f13.c, vI y.f14, .slice y.f15.A y.f15.n y.f15.c] := hc
 obtain ⟨e0, e1, e2, e3, ⟨q4, k4, r4⟩, e5, e6, e7, ⟨q8, k8, r8⟩, e9, e10, ⟨q11, k11, r11⟩, ⟨q12, k12, r12⟩, ⟨q13, k13, r13⟩, e14, ⟨q15, k15, r15⟩, _⟩ := r'
 rw [e0, e1, e2, e3, q4, e5, e6, e7, q8, e9, e10, q11, q12, q13, e14, q15] at hc'
 exact ⟨y.f4.A, y.f4.c, y.f8.A, y.f8.c, y.f11.A, y.f11.c, y.f12.A, y.f12.c, y.f13.A, y.f13.c, y.f15.A, y.f15.c, hc', k4, r4, k8, r8, k11, r11, k12, r12, k13, r13, k15, r15⟩
instance : Ok Sstatement := ⟨fun x => Ok.ok x.s.Kind ∧ Ok.ok x.s.N ∧ Ok.ok x.s.E.Kind ∧ Ok.ok x.s.E.N ∧ (x.s.E.A.length * 40 ≤ 140737488351232 ∧ ∀ z ∈ x.s.E.A, Ok.ok z) ∧ Ok.ok x.s.If.Kind ∧ Ok.ok x.s.If.A.Kind ∧ Ok.ok x.s.If.A.N ∧ (x.s.If.A.A.length * 40 ≤ 140737488351232 ∧ ∀ z ∈ x.s.If.A.A, Ok.ok z) ∧ Ok.ok x.s.If.B.Kind ∧ Ok.ok x.s.If.B.N ∧ (x.s.If.B.A.length * 40 ≤ 140737488351232 ∧ ∀ z ∈ x.s.If.B.A, Ok.ok z) ∧ (x.s.Body.length * 192 ≤ 140737488351232 ∧ ∀ z ∈ x.s.Body, Ok.ok z) ∧ (x.s.Else.length * 192 ≤ 140737488351232 ∧ ∀ z ∈ x.s.Else, Ok.ok z) ∧ Ok.ok x.deep ∧ (x.locks.length * 8 ≤ 140737488351232 ∧ ∀ z ∈ x.locks, Ok.ok z) ∧ True⟩
theorem Sstatement.mkZ {Z : Zone} (x : Sstatement) {A4 : Option Addr} {c4 : Nat} {A8 : Option Addr} {c8 : Nat} {A11 : Option Addr} {c11 : Nat} {A12 : Option Addr} {c12 : Nat} {A13 : Option Addr} {c13 : Nat} {A15 : Option Addr} {c15 : Nat} (k4 : x.s.E.A.length ≤ c4) (r4 : RdZ Z A4 x.s.E.A) (k8 : x.s.If.A.A.length ≤ c8) (r8 : RdZ Z A8 x.s.If.A.A) (k11 : x.s.If.B.A.length ≤ c11) (r11 : RdZ Z A11 x.s.If.B.A) (k12 : x.s.Body.length ≤ c12) (r12 : RdZ Z A12 x.s.Body) (k13 : x.s.Else.length ≤ c13) (r13 : RdZ Z A13 x.s.Else) (k15 : x.locks.length ≤ c15) (r15 : RdF Z A15 x.locks) : DRep.rel (α := Sstatement) Z (⟨x.s.Kind, x.s.N, x.s.E.Kind, x.s.E.N, ⟨A4, x.s.E.A.length, c4⟩, x.s.If.Kind, x.s.If.A.Kind, x.s.If.A.N, ⟨A8, x.s.If.A.A.length, c8⟩, x.s.If.B.Kind, x.s.If.B.N, ⟨A11, x.s.If.B.A.length, c11⟩, ⟨A12, x.s.Body.length, c12⟩, ⟨A13, x.s.Else.length, c13⟩, x.deep, ⟨A15, x.locks.length, c15⟩⟩ : Hstatement) x := by
 exact ⟨rfl, rfl, rfl, rfl, ⟨rfl, k4, r4⟩, rfl, rfl, rfl, ⟨rfl, k8, r8⟩, rfl, rfl, ⟨rfl, k11, r11⟩, ⟨rfl, k12, r12⟩, ⟨rfl, k13, r13⟩, rfl, ⟨rfl, k15, r15⟩, trivial⟩
mutual
def Sstatement.blk : Sstatement → Nat
 | ⟨⟨_, _, ⟨_, _, a4⟩, ⟨_, ⟨_, _, a8⟩, ⟨_, _, a11⟩⟩, a12, a13⟩, _, a15⟩ => 1 + SExpr.blkL a4 + SExpr.blkL a8 + SExpr.blkL a11 + SStmt.blkL a12 + SStmt.blkL a13 + a15.length
def Sstatement.blkL : List Sstatement → Nat
 | [] => 0
 | x :: l => x.blk + Sstatement.blkL l
end
theorem Sstatement.blkL_sum : ∀ l : List Sstatement, Sstatement.blkL l = (l.map Sstatement.blk).sum
 | [] => by simp [Sstatement.blkL]
 | x :: l => by simp [Sstatement.blkL, Sstatement.blkL_sum l]

/-! punctual/punctualref.Flat -/
abbrev punctualref_Flat.Post (w0 : World) (Z : Zone) (r : List Sstatement) (e : Ending) (w : World) : Prop := ∃ (v1 : Value) (hds1 : List Hstatement) (ft : List Nat) (wf : World), e = .returned (v1) ∧ DRows (Zand Z wf) hds1 r ∧ St w0 w [Own.of v1 99 hds1, Own.frz ft wf]
abbrev punctualref_Flat.Rec (rec_punctualref_Flat : (List SStmt) → Int → (List Int) → Int → Option (List Sstatement)) : Prop := ∀ (Z : Zone) (l0 : List SStmt) (A0 : Option Addr) (c0 : Nat) (x1 : Int) (l2 : List Int) (A2 : Option Addr) (c2 : Nat) (x3 : Int) (w0 : World) (hZ : ∀ w, Sub w0 w → Z w) (hR0 : RdZ Z A0 l0) (hL0 : l0.length ≤ c0) (hR2 : RdF Z A2 l2) (hL2 : l2.length ≤ c2) (r : List Sstatement) (h : rec_punctualref_Flat l0 x1 l2 x3 = some r), Calls Try.prog 54 #[.slice A0 l0.length c0, vI x1, .slice A2 l2.length c2, vI x3] w0 (punctualref_Flat.Post w0 Z r)
def punctualref_Flat.p1 (l2 : List Int) (e1 : SStmt) : Option ((List Int) ⊕ (List Sstatement)) :=
  if e1.Kind = 6 then
   if 0 + l2.length ≤ 17592186044416 then
    if l2.length < 17592186044416 then
     some (.inl (l2 ++ [e1.N]))
    else
     none
   else
    none
  else
   some (.inl l2)
def punctualref_Flat.r0 (l0 : List SStmt) (x1 : Int) (l2 : List Int) (x3 : Int) (rec_punctualref_Flat : (List SStmt) → Int → (List Int) → Int → Option (List Sstatement)) : (List Sstatement) × Nat → Option (((List Sstatement) × Nat) ⊕ ((List Sstatement) ⊕ (List Sstatement)))
 | (m1, i1) =>
  if (i1 : Int) < (l0.length : Int) then
   match l0[i1]? with
   | none => none
   | some e1 =>
    if (m1.length : Int) > x3 then
     some (.inr (.inr m1))
    else
     if m1.length < 628292358729 then
      match punctualref_Flat.p1 l2 e1 with
      | none => none
      | some (.inl m4) =>
       match rec_punctualref_Flat e1.Body (IntKind.i64.wrap (x1 + 1)) m4 x3 with
       | none => none
       | some r1 =>
        if (m1 ++ [(⟨e1, x1, l2⟩ : Sstatement)]).length + r1.length ≤ 628292358729 then
         match rec_punctualref_Flat e1.Else (IntKind.i64.wrap (x1 + 1)) m4 x3 with
         | none => none
         | some r2 =>
          if ((m1 ++ [(⟨e1, x1, l2⟩ : Sstatement)]) ++ r1).length + r2.length ≤ 628292358729 then
           some (.inl ((((m1 ++ [(⟨e1, x1, l2⟩ : Sstatement)]) ++ r1) ++ r2), (i1 + 1)))
          else
           none
        else
         none
      | some (.inr rr1) =>
       some (.inr (.inr rr1))
     else
      none
  else
   some (.inr (.inl m1))
def punctualref_Flat.b (K : Nat) (rec_punctualref_Flat : (List SStmt) → Int → (List Int) → Int → Option (List Sstatement)) (l0 : List SStmt) (x1 : Int) (l2 : List Int) (x3 : Int) : Option (List Sstatement) :=
 match iter (punctualref_Flat.r0 l0 x1 l2 x3 rec_punctualref_Flat) K (([] : List Sstatement), 0) with
 | none => none
 | some (.inl m5) =>
  some m5
 | some (.inr rr2) =>
  some rr2
abbrev punctualref_Flat.A1 (w0 : World) (Z : Zone) (l0 : List SStmt) (A0 : Option Addr) (c0 : Nat) (x1 : Int) (l2 : List Int) (A2 : Option Addr) (c2 : Nat) (x3 : Int) (wf2 : World) (hds1 : List Hstatement) (i1 : Nat) (e1 : SStmt) (An1 : Option Addr) (cn1 : Nat) (An2 : Option Addr) (cn2 : Nat) (An3 : Option Addr) (cn3 : Nat) (An4 : Option Addr) (cn4 : Nat) (An5 : Option Addr) (cn5 : Nat) (b1 : Nat) (v3 : Value) : (List Int) → Act → World → Prop := fun (s : (List Int)) a w => ∃ (ft4 : List Nat) (wf4 : World) (Z2 : Option Addr) (cz2 : Nat), Sub wf2 wf4 ∧ RdF (Zand Z wf4) Z2 s ∧ s.length ≤ cz2 ∧ St w0 w [Own.blk b1 (.cells #[vI e1.Kind, vI e1.N, vI e1.E.Kind, vI e1.E.N, .slice An1 e1.E.A.length cn1, vI e1.If.Kind, vI e1.If.A.Kind, vI e1.If.A.N, .slice An2 e1.If.A.A.length cn2, vI e1.If.B.Kind, vI e1.If.B.N, .slice An3 e1.If.B.A.length cn3, .slice An4 e1.Body.length cn4, .slice An5 e1.Else.length cn5] 49 (0, 0)), Own.of v3 99 (hds1 ++ [(⟨e1.Kind, e1.N, e1.E.Kind, e1.E.N, ⟨An1, e1.E.A.length, cn1⟩, e1.If.Kind, e1.If.A.Kind, e1.If.A.N, ⟨An2, e1.If.A.A.length, cn2⟩, e1.If.B.Kind, e1.If.B.N, ⟨An3, e1.If.B.A.length, cn3⟩, ⟨An4, e1.Body.length, cn4⟩, ⟨An5, e1.Else.length, cn5⟩, x1, ⟨A2, l2.length, c2⟩⟩ : Hstatement)]), Own.frz ft4 wf4] ∧ Frm 62 a [(1, vI x1), (2, .slice A2 l2.length c2), (3, vI x3), (9, v3), (11, pP b1 0), (12, .slice Z2 s.length cz2), (13, .slice A0 l0.length c0), (14, vI (l0.length : Int)), (15, vI (i1 : Int))]
abbrev punctualref_Flat.B1 (w0 : World) (Z : Zone) : (List Sstatement) → Exit → Act → World → Prop := Rets Try.prog Try.f54 (punctualref_Flat.Post w0 Z)
theorem punctualref_Flat_p1 (K : Nat) (w0 : World) (Z : Zone) (l0 : List SStmt) (A0 : Option Addr) (c0 : Nat) (x1 : Int) (l2 : List Int) (A2 : Option Addr) (c2 : Nat) (x3 : Int) (hZ : ∀ w, Sub w0 w → Z w) (hR0 : RdZ Z A0 l0) (hL0 : l0.length ≤ c0) (hR2 : RdF Z A2 l2) (hL2 : l2.length ≤ c2) (rec_punctualref_Flat : (List SStmt) → Int → (List Int) → Int → Option (List Sstatement)) (hr_punctualref_Flat : punctualref_Flat.Rec rec_punctualref_Flat) (ft1 : List Nat) (wf1 : World) (ft2 : List Nat) (wf2 : World) (m1 : List Sstatement) (hds1 : List Hstatement) (i1 : Nat) (hsb1 : Sub wf1 wf2) (hd1 : DRows (Zand Z wf2) hds1 m1) (hc1 : (i1 : Int) < (l0.length : Int)) (e1 : SStmt) (hx1 : l0[i1]? = some e1) (An1 : Option Addr) (cn1 : Nat) (An2 : Option Addr) (cn2 : Nat) (An3 : Option Addr) (cn3 : Nat) (An4 : Option Addr) (cn4 : Nat) (An5 : Option Addr) (cn5 : Nat) (hCs1 : CellsAt Z A0 (i1 * 14) [vI e1.Kind, vI e1.N, vI e1.E.Kind, vI e1.E.N, .slice An1 e1.E.A.length cn1, vI e1.If.Kind, vI e1.If.A.Kind, vI e1.If.A.N, .slice An2 e1.If.A.A.length cn2, vI e1.If.B.Kind, vI e1.If.B.N, .slice An3 e1.If.B.A.length cn3, .slice An4 e1.Body.length cn4, .slice An5 e1.Else.length cn5]) (hLn1 : e1.E.A.length ≤ cn1) (hRn1 : RdZ Z An1 e1.E.A) (hLn2 : e1.If.A.A.length ≤ cn2) (hRn2 : RdZ Z An2 e1.If.A.A) (hLn3 : e1.If.B.A.length ≤ cn3) (hRn3 : RdZ Z An3 e1.If.B.A) (hLn4 : e1.Body.length ≤ cn4) (hRn4 : RdZ Z An4 e1.Body) (hLn5 : e1.Else.length ≤ cn5) (hRn5 : RdZ Z An5 e1.Else) (b1 : Nat) (Z1 : Option Addr) (cz1 : Nat) (hc2 : ¬ ((m1.length : Int) > x3)) (b2 : Nat) (hc3 : m1.length < 628292358729) (v3 : Value) (hd3 : DRows (Zand Z wf2) (hds1 ++ [(⟨e1.Kind, e1.N, e1.E.Kind, e1.E.N, ⟨An1, e1.E.A.length, cn1⟩, e1.If.Kind, e1.If.A.Kind, e1.If.A.N, ⟨An2, e1.If.A.A.length, cn2⟩, e1.If.B.Kind, e1.If.B.N, ⟨An3, e1.If.B.A.length, cn3⟩, ⟨An4, e1.Body.length, cn4⟩, ⟨An5, e1.Else.length, cn5⟩, x1, ⟨A2, l2.length, c2⟩⟩ : Hstatement)]) (m1 ++ [(⟨e1, x1, l2⟩ : Sstatement)])) (o : (List Int) ⊕ (List Sstatement)) (h : punctualref_Flat.p1 l2 e1 = some o) (w : World) (hS : St w0 w [Own.of v3 99 (hds1 ++ [(⟨e1.Kind, e1.N, e1.E.Kind, e1.E.N, ⟨An1, e1.E.A.length, cn1⟩, e1.If.Kind, e1.If.A.Kind, e1.If.A.N, ⟨An2, e1.If.A.A.length, cn2⟩, e1.If.B.Kind, e1.If.B.N, ⟨An3, e1.If.B.A.length, cn3⟩, ⟨An4, e1.Body.length, cn4⟩, ⟨An5, e1.Else.length, cn5⟩, x1, ⟨A2, l2.length, c2⟩⟩ : Hstatement)]), Own.blk b1 (.cells #[vI e1.Kind, vI e1.N, vI e1.E.Kind, vI e1.E.N, .slice An1 e1.E.A.length cn1, vI e1.If.Kind, vI e1.If.A.Kind, vI e1.If.A.N, .slice An2 e1.If.A.A.length cn2, vI e1.If.B.Kind, vI e1.If.B.N, .slice An3 e1.If.B.A.length cn3, .slice An4 e1.Body.length cn4, .slice An5 e1.Else.length cn5] 49 (0, 0)), Own.frz ft2 wf2]) (Q : Exit → Act → World → Prop) (hQ : ∀ x a w, Outs (punctualref_Flat.A1 w0 Z l0 A0 c0 x1 l2 A2 c2 x3 wf2 hds1 i1 e1 An1 cn1 An2 cn2 An3 cn3 An4 cn4 An5 cn5 b1 v3) (punctualref_Flat.B1 w0 Z) o x a w → Q x a w) : WE Try.prog 62 (subF Try.f54 [1, 1, 0, 1, 0, 0, 1, 1, 0, 0, 1, 1, 1, 1, 0]) Q [(1, vI x1), (2, .slice A2 l2.length c2), (3, vI x3), (9, v3), (11, pP b1 0), (12, .slice A2 l2.length c2), (13, .slice A0 l0.length c0), (14, vI (l0.length : Int)), (15, vI (i1 : Int)), (16, .bool true), (17, .pointer (some ⟨blkOf A0, offOf A0 + i1 * 14, none⟩)), (18, .agg #[vI e1.Kind, vI e1.N, vI e1.E.Kind, vI e1.E.N, .slice An1 e1.E.A.length cn1, vI e1.If.Kind, vI e1.If.A.Kind, vI e1.If.A.N, .slice An2 e1.If.A.A.length cn2, vI e1.If.B.Kind, vI e1.If.B.N, .slice An3 e1.If.B.A.length cn3, .slice An4 e1.Body.length cn4, .slice An5 e1.Else.length cn5]), (19, (.slice Z1 m1.length cz1)), (20, vI (m1.length : Int)), (21, vI x3), (22, .bool false), (24, (.slice Z1 m1.length cz1)), (25, .agg #[vI e1.Kind, vI e1.N, vI e1.E.Kind, vI e1.E.N, .slice An1 e1.E.A.length cn1, vI e1.If.Kind, vI e1.If.A.Kind, vI e1.If.A.N, .slice An2 e1.If.A.A.length cn2, vI e1.If.B.Kind, vI e1.If.B.N, .slice An3 e1.If.B.A.length cn3, .slice An4 e1.Body.length cn4, .slice An5 e1.Else.length cn5]), (26, vI x1), (27, .slice A2 l2.length c2), (28, .agg #[vI e1.Kind, vI e1.N, vI e1.E.Kind, vI e1.E.N, .slice An1 e1.E.A.length cn1, vI e1.If.Kind, vI e1.If.A.Kind, vI e1.If.A.N, .slice An2 e1.If.A.A.length cn2, vI e1.If.B.Kind, vI e1.If.B.N, .slice An3 e1.If.B.A.length cn3, .slice An4 e1.Body.length cn4, .slice An5 e1.Else.length cn5, vI x1, .slice A2 l2.length c2]), (29, .slice (some ⟨b2, 0, none⟩) 1 1), (30, v3), (31, .slice A2 l2.length c2)] w := by
 simp only [punctualref_Flat.p1] at h
 refine ws fun K15 hK15 => ?_
 refine wr [(0, 0), (1, 0), (2, 0)] ?_
 refine gb [0, 1, 2] [(34, .bool (e1.Kind == 6)), (33, vI e1.Kind), (32, pP b1 0)] [.loaded ⟨b1, 0, none⟩ (vI e1.Kind)] ⟨hS.c 1, trivial⟩ ?_
 refine gn hK15 ?_
 by_cases hc4 : e1.Kind = 6
 ·rw [if_pos hc4] at h
  refine wk 34 (e1.Kind == 6) true (beq_iff_eq.2 hc4) ?_
  refine we_true (by kernel_rfl) ?_
  refine we_orders3 (by kernel_rfl) [(4, [⟨b1, 1, none⟩], [5, 6], [])] (.vals [1] (.vals [3] (.vals [4] (.alt 0 1 (.alt 2 2 (.alt 5 1 (.alt 6 2 (.vals [7] .fin) .nomore) .nomore) (.alt 5 1 (.alt 2 2 (.alt 6 2 (.vals [7] .fin) .nomore) .nomore) .nomore)) (.alt 5 1 (.alt 0 1 (.alt 2 2 (.alt 6 2 (.vals [7] .fin) .nomore) .nomore) .nomore) .nomore))))) (by kernel_rfl) (by kernel_rfl) ?_
  have hS14 := hS.drew
  refine go3_batch [1, 3] (ans := []) (vs := [(38, pP b1 1), (36, .slice A2 l2.length c2)]) (l := []) (by kernel_rfl) trivial mem_nil3 ?_
  refine go3_batch [4] (ans := [.val (vI e1.N)]) (vs := [(39, vI e1.N)]) (l := [.loaded ⟨b1, 1, none⟩ (vI e1.N)]) (by kernel_rfl) ⟨hS14.c 1, trivial⟩ (mem_one3 (by kernel_rfl)) ?_
  refine go_alt3 (fun KK hKK => ?_) ?_
  ·refine ge_one2 ?_
   refine gw (some 35) (.cells #[] 3) (fun b => .slice (some ⟨b, 0, none⟩) 0 0) hS14 fun b3 w5 hx4 hS15 => ?_
   refine ge_nil fun a hF => hKK _ _ (RS.of2 (l := [.loaded ⟨b1, 1, none⟩ (vI e1.N)]) (by kernel_rfl) ⟨hS14.c 1, trivial⟩ ⟨hS15.c 2, trivial⟩) ?_ a hF
   refine go_alt3 (fun KK hKK => ?_) ?_
   ·have hS16 := hS15.asRow (α := Int) (c := 0) ([] : List Int) (Nat.le_refl _) (by decide) rfl rfl
    by_cases hc5 : 0 + l2.length ≤ 17592186044416
    ·rw [if_pos hc5] at h
     refine ge_appendL (α := Int) (m := 0) (d := 37) (t := 24) (el := 3) (bytes := 8) (c1 := c2) (A1 := A2) (x := (.tmp 35)) (y := (.tmp 36)) (ty := 24) (v := (.slice (some ⟨b3, 0, none⟩) 0 0)) (z := vI 0) (l := ([] : List Int)) (us := l2) (by kernel_rfl) (by kernel_rfl) (by kernel_rfl) (by kernel_rfl) (by kernel_rfl) rfl hS16 (hR2 _ (hZ _ hS16.subw)) rfl (Nat.mul_le_of_le_div _ _ _ hc5) fun v4 w6 hS17 => ?_
     have hS18 : St w0 w6 [Own.of v4 3 l2, Own.of v3 99 (hds1 ++ [(⟨e1.Kind, e1.N, e1.E.Kind, e1.E.N, ⟨An1, e1.E.A.length, cn1⟩, e1.If.Kind, e1.If.A.Kind, e1.If.A.N, ⟨An2, e1.If.A.A.length, cn2⟩, e1.If.B.Kind, e1.If.B.N, ⟨An3, e1.If.B.A.length, cn3⟩, ⟨An4, e1.Body.length, cn4⟩, ⟨An5, e1.Else.length, cn5⟩, x1, ⟨A2, l2.length, c2⟩⟩ : Hstatement)]), Own.blk b1 (.cells #[vI e1.Kind, vI e1.N, vI e1.E.Kind, vI e1.E.N, .slice An1 e1.E.A.length cn1, vI e1.If.Kind, vI e1.If.A.Kind, vI e1.If.A.N, .slice An2 e1.If.A.A.length cn2, vI e1.If.B.Kind, vI e1.If.B.N, .slice An3 e1.If.B.A.length cn3, .slice An4 e1.Body.length cn4, .slice An5 e1.Else.length cn5] 49 (0, 0)), Own.frz ft2 wf2] := hS17
     refine ge_nil fun a hF => hKK _ _ (RS.of2 (l := [.loaded ⟨b1, 1, none⟩ (vI e1.N)]) (by kernel_rfl) ⟨hS15.c 2, trivial⟩ ⟨hS18.c 2, trivial⟩) ?_ a hF
     refine go_alt3 (fun KK hKK => ?_) ?_
     ·refine ge_one2 ?_
      refine gw (some 40) (.cells #[vI e1.N] 3) (fun b => .slice (some ⟨b, 0, none⟩) 1 1) hS18 fun b4 w7 hx5 hS19 => ?_
      refine ge_nil fun a hF => hKK _ _ (RS.of2 (l := []) (by kernel_rfl) trivial trivial) ?_ a hF
      refine go_alt3 (fun KK hKK => ?_) ?_
      ·have hS20 := hS19.bring 1 rfl
       by_cases hc6 : l2.length < 17592186044416
       ·rw [if_pos hc6] at h
        refine ge_append (α := Int) (m := 0) (d := 41) (t := 24) (el := 3) (bytes := 8) (c1 := 1) (b1 := b4) (x := (.tmp 37)) (y := (.tmp 40)) (ty := 24) (v := v4) (z := vI 0) (l := l2) (u := e1.N) (by kernel_rfl) (by kernel_rfl) (by kernel_rfl) (by kernel_rfl) (by kernel_rfl) rfl hS20 rfl (by omega) fun v5 w8 hS21 => ?_
        refine ge_nil fun a hF => hKK _ _ (RS.of2 (l := []) (by kernel_rfl) trivial trivial) ?_ a hF
        refine go3_batch [7] (ans := []) (vs := [(12, v5)]) (l := []) (by kernel_rfl) trivial mem_nil3 ?_
        obtain ⟨Z3, cz3, rfl⟩ := hS21.open 0 rfl
        have hS22 := hS21.bring 3 rfl
        have hS23 := hS22.bring 1 rfl
        obtain ⟨ft5, wf5, hsb4, -, hRd1, hLd1, hS24⟩ := hS23.ffrz Z
        have hS25 := hS24.bring 1 rfl
        have hS26 := hS25.bring 2 rfl
        obtain rfl := si h
        exact go_fin3 fun a hF => hQ _ _ _ (Outs.again ⟨ft5, wf5, Z3, cz3, hsb4, hRd1, hLd1, hS26, hF.weaken ea⟩)
       ·rw [if_neg hc6] at h
        cases h
      exact go_nomore3
     exact go_nomore3
    ·rw [if_neg hc5] at h
     cases h
   refine go_alt3 (fun KK hKK => ?_) ?_
   ·refine ge_one2 ?_
    refine gw (some 40) (.cells #[vI e1.N] 3) (fun b => .slice (some ⟨b, 0, none⟩) 1 1) hS15 fun b4 w6 hx5 hS16 => ?_
    refine ge_nil fun a hF => hKK _ _ (RS.of2 (l := []) (by kernel_rfl) trivial trivial) ?_ a hF
    refine go_alt3 (fun KK hKK => ?_) ?_
    ·have hS17 := hS16.bring 1 rfl
     have hS18 := hS17.asRow (α := Int) (c := 0) ([] : List Int) (Nat.le_refl _) (by decide) rfl rfl
     by_cases hc5 : 0 + l2.length ≤ 17592186044416
     ·rw [if_pos hc5] at h
      refine ge_appendL (α := Int) (m := 0) (d := 37) (t := 24) (el := 3) (bytes := 8) (c1 := c2) (A1 := A2) (x := (.tmp 35)) (y := (.tmp 36)) (ty := 24) (v := (.slice (some ⟨b3, 0, none⟩) 0 0)) (z := vI 0) (l := ([] : List Int)) (us := l2) (by kernel_rfl) (by kernel_rfl) (by kernel_rfl) (by kernel_rfl) (by kernel_rfl) rfl hS18 (hR2 _ (hZ _ hS18.subw)) rfl (Nat.mul_le_of_le_div _ _ _ hc5) fun v4 w7 hS19 => ?_
      have hS20 : St w0 w7 [Own.of v4 3 l2, Own.blk b4 (.cells #[vI e1.N] 3 (0, 0)), Own.of v3 99 (hds1 ++ [(⟨e1.Kind, e1.N, e1.E.Kind, e1.E.N, ⟨An1, e1.E.A.length, cn1⟩, e1.If.Kind, e1.If.A.Kind, e1.If.A.N, ⟨An2, e1.If.A.A.length, cn2⟩, e1.If.B.Kind, e1.If.B.N, ⟨An3, e1.If.B.A.length, cn3⟩, ⟨An4, e1.Body.length, cn4⟩, ⟨An5, e1.Else.length, cn5⟩, x1, ⟨A2, l2.length, c2⟩⟩ : Hstatement)]), Own.blk b1 (.cells #[vI e1.Kind, vI e1.N, vI e1.E.Kind, vI e1.E.N, .slice An1 e1.E.A.length cn1, vI e1.If.Kind, vI e1.If.A.Kind, vI e1.If.A.N, .slice An2 e1.If.A.A.length cn2, vI e1.If.B.Kind, vI e1.If.B.N, .slice An3 e1.If.B.A.length cn3, .slice An4 e1.Body.length cn4, .slice An5 e1.Else.length cn5] 49 (0, 0)), Own.frz ft2 wf2] := hS19
      refine ge_nil fun a hF => hKK _ _ (RS.of2 (l := [.loaded ⟨b1, 1, none⟩ (vI e1.N)]) (by kernel_rfl) ⟨hS16.c 3, trivial⟩ ⟨hS20.c 3, trivial⟩) ?_ a hF
      refine go_alt3 (fun KK hKK => ?_) ?_
      ·have hS21 := hS20.bring 1 rfl
       have hS22 := hS21.bring 1 rfl
       by_cases hc6 : l2.length < 17592186044416
       ·rw [if_pos hc6] at h
        refine ge_append (α := Int) (m := 0) (d := 41) (t := 24) (el := 3) (bytes := 8) (c1 := 1) (b1 := b4) (x := (.tmp 37)) (y := (.tmp 40)) (ty := 24) (v := v4) (z := vI 0) (l := l2) (u := e1.N) (by kernel_rfl) (by kernel_rfl) (by kernel_rfl) (by kernel_rfl) (by kernel_rfl) rfl hS22 rfl (by omega) fun v5 w8 hS23 => ?_
        refine ge_nil fun a hF => hKK _ _ (RS.of2 (l := []) (by kernel_rfl) trivial trivial) ?_ a hF
        refine go3_batch [7] (ans := []) (vs := [(12, v5)]) (l := []) (by kernel_rfl) trivial mem_nil3 ?_
        obtain ⟨Z3, cz3, rfl⟩ := hS23.open 0 rfl
        have hS24 := hS23.bring 3 rfl
        have hS25 := hS24.bring 1 rfl
        obtain ⟨ft5, wf5, hsb4, -, hRd1, hLd1, hS26⟩ := hS25.ffrz Z
        have hS27 := hS26.bring 1 rfl
        have hS28 := hS27.bring 2 rfl
        obtain rfl := si h
        exact go_fin3 fun a hF => hQ _ _ _ (Outs.again ⟨ft5, wf5, Z3, cz3, hsb4, hRd1, hLd1, hS28, hF.weaken ea⟩)
       ·rw [if_neg hc6] at h
        cases h
      exact go_nomore3
     ·rw [if_neg hc5] at h
      cases h
    exact go_nomore3
   exact go_nomore3
  refine go_alt3 (fun KK hKK => ?_) ?_
  ·refine ge_one2 ?_
   refine gw (some 40) (.cells #[vI e1.N] 3) (fun b => .slice (some ⟨b, 0, none⟩) 1 1) hS14 fun b3 w5 hx4 hS15 => ?_
   refine ge_nil fun a hF => hKK _ _ (RS.of2 (l := []) (by kernel_rfl) trivial trivial) ?_ a hF
   refine go_alt3 (fun KK hKK => ?_) ?_
   ·refine ge_one2 ?_
    refine gw (some 35) (.cells #[] 3) (fun b => .slice (some ⟨b, 0, none⟩) 0 0) hS15 fun b4 w6 hx5 hS16 => ?_
    refine ge_nil fun a hF => hKK _ _ (RS.of2 (l := [.loaded ⟨b1, 1, none⟩ (vI e1.N)]) (by kernel_rfl) ⟨hS15.c 2, trivial⟩ ⟨hS16.c 3, trivial⟩) ?_ a hF
    refine go_alt3 (fun KK hKK => ?_) ?_
    ·have hS17 := hS16.asRow (α := Int) (c := 0) ([] : List Int) (Nat.le_refl _) (by decide) rfl rfl
     by_cases hc5 : 0 + l2.length ≤ 17592186044416
     ·rw [if_pos hc5] at h
      refine ge_appendL (α := Int) (m := 0) (d := 37) (t := 24) (el := 3) (bytes := 8) (c1 := c2) (A1 := A2) (x := (.tmp 35)) (y := (.tmp 36)) (ty := 24) (v := (.slice (some ⟨b4, 0, none⟩) 0 0)) (z := vI 0) (l := ([] : List Int)) (us := l2) (by kernel_rfl) (by kernel_rfl) (by kernel_rfl) (by kernel_rfl) (by kernel_rfl) rfl hS17 (hR2 _ (hZ _ hS17.subw)) rfl (Nat.mul_le_of_le_div _ _ _ hc5) fun v4 w7 hS18 => ?_
      have hS19 : St w0 w7 [Own.of v4 3 l2, Own.blk b3 (.cells #[vI e1.N] 3 (0, 0)), Own.of v3 99 (hds1 ++ [(⟨e1.Kind, e1.N, e1.E.Kind, e1.E.N, ⟨An1, e1.E.A.length, cn1⟩, e1.If.Kind, e1.If.A.Kind, e1.If.A.N, ⟨An2, e1.If.A.A.length, cn2⟩, e1.If.B.Kind, e1.If.B.N, ⟨An3, e1.If.B.A.length, cn3⟩, ⟨An4, e1.Body.length, cn4⟩, ⟨An5, e1.Else.length, cn5⟩, x1, ⟨A2, l2.length, c2⟩⟩ : Hstatement)]), Own.blk b1 (.cells #[vI e1.Kind, vI e1.N, vI e1.E.Kind, vI e1.E.N, .slice An1 e1.E.A.length cn1, vI e1.If.Kind, vI e1.If.A.Kind, vI e1.If.A.N, .slice An2 e1.If.A.A.length cn2, vI e1.If.B.Kind, vI e1.If.B.N, .slice An3 e1.If.B.A.length cn3, .slice An4 e1.Body.length cn4, .slice An5 e1.Else.length cn5] 49 (0, 0)), Own.frz ft2 wf2] := hS18
      refine ge_nil fun a hF => hKK _ _ (RS.of2 (l := [.loaded ⟨b1, 1, none⟩ (vI e1.N)]) (by kernel_rfl) ⟨hS16.c 3, trivial⟩ ⟨hS19.c 3, trivial⟩) ?_ a hF
      refine go_alt3 (fun KK hKK => ?_) ?_
      ·have hS20 := hS19.bring 1 rfl
       have hS21 := hS20.bring 1 rfl
       by_cases hc6 : l2.length < 17592186044416
       ·rw [if_pos hc6] at h
        refine ge_append (α := Int) (m := 0) (d := 41) (t := 24) (el := 3) (bytes := 8) (c1 := 1) (b1 := b3) (x := (.tmp 37)) (y := (.tmp 40)) (ty := 24) (v := v4) (z := vI 0) (l := l2) (u := e1.N) (by kernel_rfl) (by kernel_rfl) (by kernel_rfl) (by kernel_rfl) (by kernel_rfl) rfl hS21 rfl (by omega) fun v5 w8 hS22 => ?_
        refine ge_nil fun a hF => hKK _ _ (RS.of2 (l := []) (by kernel_rfl) trivial trivial) ?_ a hF
        refine go3_batch [7] (ans := []) (vs := [(12, v5)]) (l := []) (by kernel_rfl) trivial mem_nil3 ?_
        obtain ⟨Z3, cz3, rfl⟩ := hS22.open 0 rfl
        have hS23 := hS22.bring 3 rfl
        have hS24 := hS23.bring 1 rfl
        obtain ⟨ft5, wf5, hsb4, -, hRd1, hLd1, hS25⟩ := hS24.ffrz Z
        have hS26 := hS25.bring 1 rfl
        have hS27 := hS26.bring 2 rfl
        obtain rfl := si h
        exact go_fin3 fun a hF => hQ _ _ _ (Outs.again ⟨ft5, wf5, Z3, cz3, hsb4, hRd1, hLd1, hS27, hF.weaken ea⟩)
       ·rw [if_neg hc6] at h
        cases h
      exact go_nomore3
     ·rw [if_neg hc5] at h
      cases h
    exact go_nomore3
   exact go_nomore3
  exact go_nomore3
 ·rw [if_neg hc4] at h
  refine wk 34 (e1.Kind == 6) false (beq_eq_false_iff_ne.2 hc4) ?_
  refine we_false (by kernel_rfl) ?_
  have hS28 := hS.bring 2 rfl
  have hS29 := hS28.bring 1 rfl
  have hS30 := hS29.bring 2 rfl
  obtain rfl := si h
  exact we_skip fun a hF => hQ _ _ _ (Outs.again ⟨ft2, wf2, A2, c2, (Sub.refl _), (hR2.up (ZLe.in _ _)), hL2, hS30, hF.weaken ea⟩)
abbrev punctualref_Flat.A0 (w0 : World) (Z : Zone) (l0 : List SStmt) (A0 : Option Addr) (c0 : Nat) (x1 : Int) (l2 : List Int) (A2 : Option Addr) (c2 : Nat) (x3 : Int) (wf1 : World) : ((List Sstatement) × Nat) → Act → World → Prop := fun (s : (List Sstatement) × Nat) a w => ∃ (ft2 : List Nat) (wf2 : World) (v1 : Value) (hds1 : List Hstatement), Sub wf1 wf2 ∧ DRows (Zand Z wf2) hds1 s.1 ∧ St w0 w [Own.of v1 99 hds1, Own.frz ft2 wf2] ∧ Frm 62 a [(1, vI x1), (2, .slice A2 l2.length c2), (3, vI x3), (9, v1), (13, .slice A0 l0.length c0), (14, vI (l0.length : Int)), (15, vI (s.2 : Int))]
abbrev punctualref_Flat.B0 (w0 : World) (Z : Zone) (wf1 : World) : ((List Sstatement) ⊕ (List Sstatement)) → Exit → Act → World → Prop := Exits 0 (fun (s : (List Sstatement)) a w => ∃ (ft3 : List Nat) (wf3 : World) (v2 : Value) (hds2 : List Hstatement), Sub wf1 wf3 ∧ DRows (Zand Z wf3) hds2 s ∧ St w0 w [Own.of v2 99 hds2, Own.frz ft3 wf3] ∧ Frm 62 a [(9, v2)]) (Rets Try.prog Try.f54 (punctualref_Flat.Post w0 Z))
theorem punctualref_Flat_r0 (K : Nat) (w0 : World) (Z : Zone) (l0 : List SStmt) (A0 : Option Addr) (c0 : Nat) (x1 : Int) (l2 : List Int) (A2 : Option Addr) (c2 : Nat) (x3 : Int) (hZ : ∀ w, Sub w0 w → Z w) (hR0 : RdZ Z A0 l0) (hL0 : l0.length ≤ c0) (hR2 : RdF Z A2 l2) (hL2 : l2.length ≤ c2) (rec_punctualref_Flat : (List SStmt) → Int → (List Int) → Int → Option (List Sstatement)) (hr_punctualref_Flat : punctualref_Flat.Rec rec_punctualref_Flat) (ft1 : List Nat) (wf1 : World) (s : (List Sstatement) × Nat) (o : ((List Sstatement) × Nat) ⊕ ((List Sstatement) ⊕ (List Sstatement))) (h : punctualref_Flat.r0 l0 x1 l2 x3 rec_punctualref_Flat s = some o) (a : Act) (w : World) (hA : punctualref_Flat.A0 w0 Z l0 A0 c0 x1 l2 A2 c2 x3 wf1 s a w) (Q : Exit → Act → World → Prop) (hQ : ∀ x a w, Outs (punctualref_Flat.A0 w0 Z l0 A0 c0 x1 l2 A2 c2 x3 wf1) (punctualref_Flat.B0 w0 Z wf1) o x a w → Q x a w) : (subF Try.f54 [1, 1, 0, 1, 0, 0]).wp Try.prog Q a w := by
 obtain ⟨m1, i1⟩ := s
 obtain ⟨ft2, wf2, v1, hds1, hsb1, hd1, hS, hF⟩ := hA
 replace hS : St w0 w [Own.of v1 99 hds1, Own.frz ft2 wf2] := hS
 simp only [punctualref_Flat.r0] at h
 refine (?_ : WE Try.prog 62 (subF Try.f54 [1, 1, 0, 1, 0, 0]) Q [(1, vI x1), (2, .slice A2 l2.length c2), (3, vI x3), (9, v1), (13, .slice A0 l0.length c0), (14, vI (l0.length : Int)), (15, vI (i1 : Int))] w) a hF
 clear hF a
 refine ws fun K5 hK5 => ?_
 refine wr [(0, 0)] ?_
 refine gb0 [0] [(16, .bool (decide ((i1 : Int) < (l0.length : Int))))] ?_
 refine gn hK5 ?_
 refine ws fun K6 hK6 => ?_
 by_cases hc1 : (i1 : Int) < (l0.length : Int)
 ·rw [if_pos hc1] at h
  refine wk 16 (decide ((i1 : Int) < (l0.length : Int))) true (decide_eq_true hc1) ?_
  refine we_true (by kernel_rfl) ?_
  refine we_skip fun a hF => hK6 _ _ ?_ a hF
  refine ws fun K7 hK7 => ?_
  refine we_block ?_
  refine ws fun K8 hK8 => ?_
  refine wr [(0, 0), (1, 0), (2, 1), (3, 2)] ?_
  rcases hx1 : l0[i1]? with _ | e1
  ·rw [hx1] at h; cases h
  rw [hx1] at h
  simp only [] at h
  obtain ⟨An1, cn1, An2, cn2, An3, cn3, An4, cn4, An5, cn5, hCs1, hLn1, hRn1, hLn2, hRn2, hLn3, hRn3, hLn4, hRn4, hLn5, hRn5⟩ := SStmt.getZ hR0 hx1
  refine gi 17 0 38 49 14 l0.length c0 (.tmp 13) (.tmp 15) A0 .i64 (i1 : Int) i1 (hR0.eqSome (hZ _ hS.subw) (pos_of_get hx1)) rfl (lt_of_get hx1) ?_
  refine gb [1] [(18, .agg #[vI e1.Kind, vI e1.N, vI e1.E.Kind, vI e1.E.N, .slice An1 e1.E.A.length cn1, vI e1.If.Kind, vI e1.If.A.Kind, vI e1.If.A.N, .slice An2 e1.If.A.A.length cn2, vI e1.If.B.Kind, vI e1.If.B.N, .slice An3 e1.If.B.A.length cn3, .slice An4 e1.Body.length cn4, .slice An5 e1.Else.length cn5])] [.loaded ⟨blkOf A0, offOf A0 + i1 * 14, none⟩ (vI e1.Kind), .loaded ⟨blkOf A0, offOf A0 + i1 * 14 + 1, none⟩ (vI e1.N), .loaded ⟨blkOf A0, offOf A0 + i1 * 14 + 2, none⟩ (vI e1.E.Kind), .loaded ⟨blkOf A0, offOf A0 + i1 * 14 + 3, none⟩ (vI e1.E.N), .loaded ⟨blkOf A0, offOf A0 + i1 * 14 + 4, none⟩ (.slice An1 e1.E.A.length cn1), .loaded ⟨blkOf A0, offOf A0 + i1 * 14 + 5, none⟩ (vI e1.If.Kind), .loaded ⟨blkOf A0, offOf A0 + i1 * 14 + 6, none⟩ (vI e1.If.A.Kind), .loaded ⟨blkOf A0, offOf A0 + i1 * 14 + 7, none⟩ (vI e1.If.A.N), .loaded ⟨blkOf A0, offOf A0 + i1 * 14 + 8, none⟩ (.slice An2 e1.If.A.A.length cn2), .loaded ⟨blkOf A0, offOf A0 + i1 * 14 + 9, none⟩ (vI e1.If.B.Kind), .loaded ⟨blkOf A0, offOf A0 + i1 * 14 + 10, none⟩ (vI e1.If.B.N), .loaded ⟨blkOf A0, offOf A0 + i1 * 14 + 11, none⟩ (.slice An3 e1.If.B.A.length cn3), .loaded ⟨blkOf A0, offOf A0 + i1 * 14 + 12, none⟩ (.slice An4 e1.Body.length cn4), .loaded ⟨blkOf A0, offOf A0 + i1 * 14 + 13, none⟩ (.slice An5 e1.Else.length cn5)] ⟨hCs1 _ (hZ _ hS.subw) 0 _ rfl, hCs1 _ (hZ _ hS.subw) 1 _ rfl, hCs1 _ (hZ _ hS.subw) 2 _ rfl, hCs1 _ (hZ _ hS.subw) 3 _ rfl, hCs1 _ (hZ _ hS.subw) 4 _ rfl, hCs1 _ (hZ _ hS.subw) 5 _ rfl, hCs1 _ (hZ _ hS.subw) 6 _ rfl, hCs1 _ (hZ _ hS.subw) 7 _ rfl, hCs1 _ (hZ _ hS.subw) 8 _ rfl, hCs1 _ (hZ _ hS.subw) 9 _ rfl, hCs1 _ (hZ _ hS.subw) 10 _ rfl, hCs1 _ (hZ _ hS.subw) 11 _ rfl, hCs1 _ (hZ _ hS.subw) 12 _ rfl, hCs1 _ (hZ _ hS.subw) 13 _ rfl, trivial⟩ ?_
  refine gw (some 11) (.cells #[vI 0, vI 0, vI 0, vI 0, .slice none 0 0, vI 0, vI 0, vI 0, .slice none 0 0, vI 0, vI 0, .slice none 0 0, .slice none 0 0, .slice none 0 0] 49) (fun b => pP b 0) hS fun b1 w1 hx2 hS5 => ?_
  refine gs b1 0 #[vI 0, vI 0, vI 0, vI 0, .slice none 0 0, vI 0, vI 0, vI 0, .slice none 0 0, vI 0, vI 0, .slice none 0 0, .slice none 0 0, .slice none 0 0] 49 [vI e1.Kind, vI e1.N, vI e1.E.Kind, vI e1.E.N, .slice An1 e1.E.A.length cn1, vI e1.If.Kind, vI e1.If.A.Kind, vI e1.If.A.N, .slice An2 e1.If.A.A.length cn2, vI e1.If.B.Kind, vI e1.If.B.N, .slice An3 e1.If.B.A.length cn3, .slice An4 e1.Body.length cn4, .slice An5 e1.Else.length cn5] hS5 fun w2 hS6 => ?_
  have hS7 := hS6.nc #[vI e1.Kind, vI e1.N, vI e1.E.Kind, vI e1.E.N, .slice An1 e1.E.A.length cn1, vI e1.If.Kind, vI e1.If.A.Kind, vI e1.If.A.N, .slice An2 e1.If.A.A.length cn2, vI e1.If.B.Kind, vI e1.If.B.N, .slice An3 e1.If.B.A.length cn3, .slice An4 e1.Body.length cn4, .slice An5 e1.Else.length cn5] (by kernel_rfl)
  refine gn hK8 ?_
  refine ws fun K9 hK9 => ?_
  refine ws fun K10 hK10 => ?_
  refine wr [(0, 0), (1, 0), (2, 0), (3, 0)] ?_
  refine gb0 [0] [(19, v1)] ?_
  obtain ⟨Z1, cz1, rfl⟩ := hS7.dopen 1 rfl hd1
  refine gb0 [1, 2, 3] [(22, .bool (decide ((m1.length : Int) > x3))), (21, vI x3), (20, vI (m1.length : Int))] ?_
  refine gn hK10 ?_
  by_cases hc2 : (m1.length : Int) > x3
  ·rw [if_pos hc2] at h
   refine wk 22 (decide ((m1.length : Int) > x3)) true (decide_eq_true hc2) ?_
   refine we_true (by kernel_rfl) ?_
   refine ws fun K11 hK11 => ?_
   refine wr [(0, 0), (1, 0)] ?_
   refine gb0 [0, 1] [(8, (.slice Z1 m1.length cz1)), (23, (.slice Z1 m1.length cz1))] ?_
   refine gn hK11 ?_
   have hS8 := hS7.bring 2 rfl
   have hS9 := hS8.bring 2 rfl
   have hS10 := hS9.takeN 2
   obtain rfl := si h
   exact we_ret fun a hF => hQ _ _ _ (Outs.out nofun (Exits.on ⟨rfl, (pr0 [.tmp 8] [(.slice Z1 m1.length cz1)] ⟨(.slice Z1 m1.length cz1), hds1, ft2, wf2, rfl, hd1, hS10⟩) a hF⟩))
  ·rw [if_neg hc2] at h
   refine wk 22 (decide ((m1.length : Int) > x3)) false (decide_eq_false hc2) ?_
   refine we_false (by kernel_rfl) ?_
   refine we_skip fun a hF => hK9 _ _ ?_ a hF
   refine ws fun K12 hK12 => ?_
   refine wr [(0, 0), (1, 0), (2, 0), (3, 0), (4, 0), (5, 1), (6, 2), (7, 0)] ?_
   refine gb [0, 1, 2, 3, 4] [(28, .agg #[vI e1.Kind, vI e1.N, vI e1.E.Kind, vI e1.E.N, .slice An1 e1.E.A.length cn1, vI e1.If.Kind, vI e1.If.A.Kind, vI e1.If.A.N, .slice An2 e1.If.A.A.length cn2, vI e1.If.B.Kind, vI e1.If.B.N, .slice An3 e1.If.B.A.length cn3, .slice An4 e1.Body.length cn4, .slice An5 e1.Else.length cn5, vI x1, .slice A2 l2.length c2]), (27, .slice A2 l2.length c2), (26, vI x1), (25, .agg #[vI e1.Kind, vI e1.N, vI e1.E.Kind, vI e1.E.N, .slice An1 e1.E.A.length cn1, vI e1.If.Kind, vI e1.If.A.Kind, vI e1.If.A.N, .slice An2 e1.If.A.A.length cn2, vI e1.If.B.Kind, vI e1.If.B.N, .slice An3 e1.If.B.A.length cn3, .slice An4 e1.Body.length cn4, .slice An5 e1.Else.length cn5]), (24, (.slice Z1 m1.length cz1))] [.loaded ⟨b1, 0, none⟩ (vI e1.Kind), .loaded ⟨b1, 1, none⟩ (vI e1.N), .loaded ⟨b1, 2, none⟩ (vI e1.E.Kind), .loaded ⟨b1, 3, none⟩ (vI e1.E.N), .loaded ⟨b1, 4, none⟩ (.slice An1 e1.E.A.length cn1), .loaded ⟨b1, 5, none⟩ (vI e1.If.Kind), .loaded ⟨b1, 6, none⟩ (vI e1.If.A.Kind), .loaded ⟨b1, 7, none⟩ (vI e1.If.A.N), .loaded ⟨b1, 8, none⟩ (.slice An2 e1.If.A.A.length cn2), .loaded ⟨b1, 9, none⟩ (vI e1.If.B.Kind), .loaded ⟨b1, 10, none⟩ (vI e1.If.B.N), .loaded ⟨b1, 11, none⟩ (.slice An3 e1.If.B.A.length cn3), .loaded ⟨b1, 12, none⟩ (.slice An4 e1.Body.length cn4), .loaded ⟨b1, 13, none⟩ (.slice An5 e1.Else.length cn5)] ⟨hS7.c 0, hS7.c 0, hS7.c 0, hS7.c 0, hS7.c 0, hS7.c 0, hS7.c 0, hS7.c 0, hS7.c 0, hS7.c 0, hS7.c 0, hS7.c 0, hS7.c 0, hS7.c 0, trivial⟩ ?_
   refine gw (some 29) (.cells #[vI e1.Kind, vI e1.N, vI e1.E.Kind, vI e1.E.N, .slice An1 e1.E.A.length cn1, vI e1.If.Kind, vI e1.If.A.Kind, vI e1.If.A.N, .slice An2 e1.If.A.A.length cn2, vI e1.If.B.Kind, vI e1.If.B.N, .slice An3 e1.If.B.A.length cn3, .slice An4 e1.Body.length cn4, .slice An5 e1.Else.length cn5, vI x1, .slice A2 l2.length c2] 99) (fun b => .slice (some ⟨b, 0, none⟩) 1 1) hS7 fun b2 w3 hx3 hS11 => ?_
   have hS12 := hS11.bring 2 rfl
   by_cases hc3 : m1.length < 628292358729
   ·rw [if_pos hc3] at h
    have hd3 : DRows (Zand Z wf2) (hds1 ++ [(⟨e1.Kind, e1.N, e1.E.Kind, e1.E.N, ⟨An1, e1.E.A.length, cn1⟩, e1.If.Kind, e1.If.A.Kind, e1.If.A.N, ⟨An2, e1.If.A.A.length, cn2⟩, e1.If.B.Kind, e1.If.B.N, ⟨An3, e1.If.B.A.length, cn3⟩, ⟨An4, e1.Body.length, cn4⟩, ⟨An5, e1.Else.length, cn5⟩, x1, ⟨A2, l2.length, c2⟩⟩ : Hstatement)]) (m1 ++ [(⟨e1, x1, l2⟩ : Sstatement)]) := DRows.add hd1 (Sstatement.mkZ (⟨e1, x1, l2⟩ : Sstatement) hLn1 (hRn1.up (ZLe.in _ _)) hLn2 (hRn2.up (ZLe.in _ _)) hLn3 (hRn3.up (ZLe.in _ _)) hLn4 (hRn4.up (ZLe.in _ _)) hLn5 (hRn5.up (ZLe.in _ _)) hL2 (hR2.up (ZLe.in _ _)))
    refine ge_append (α := Hstatement) (m := 0) (d := 30) (t := 96) (el := 99) (bytes := 224) (c1 := 1) (b1 := b2) (x := (.tmp 24)) (y := (.tmp 29)) (ty := 96) (v := (.slice Z1 m1.length cz1)) (z := .agg #[vI 0, vI 0, vI 0, vI 0, .slice none 0 0, vI 0, vI 0, vI 0, .slice none 0 0, vI 0, vI 0, .slice none 0 0, .slice none 0 0, .slice none 0 0, vI 0, .slice none 0 0]) (l := hds1) (u := (⟨e1.Kind, e1.N, e1.E.Kind, e1.E.N, ⟨An1, e1.E.A.length, cn1⟩, e1.If.Kind, e1.If.A.Kind, e1.If.A.N, ⟨An2, e1.If.A.A.length, cn2⟩, e1.If.B.Kind, e1.If.B.N, ⟨An3, e1.If.B.A.length, cn3⟩, ⟨An4, e1.Body.length, cn4⟩, ⟨An5, e1.Else.length, cn5⟩, x1, ⟨A2, l2.length, c2⟩⟩ : Hstatement)) (by kernel_rfl) (by kernel_rfl) (by kernel_rfl) (by kernel_rfl) (by kernel_rfl) rfl hS12 rfl (by have h0 : hds1.length = m1.length := DRows.len hd1; omega) fun v3 w4 hS13 => ?_
    refine gb0 [7] [(9, v3)] ?_
    refine gn hK12 ?_
    refine ws fun K13 hK13 => ?_
    refine wr [(0, 0), (1, 0)] ?_
    refine gb0 [0, 1] [(12, .slice A2 l2.length c2), (31, .slice A2 l2.length c2)] ?_
    refine gn hK13 ?_
    refine ws fun K14 hK14 => ?_
    rcases hq1 : punctualref_Flat.p1 l2 e1 with _ | (m4 | rr1)
    ·rw [hq1] at h; cases h
    ·rw [hq1] at h
     simp only [] at h
     refine we_keep (e' := [(1, vI x1), (2, .slice A2 l2.length c2), (3, vI x3), (9, v3), (11, pP b1 0), (12, .slice A2 l2.length c2), (13, .slice A0 l0.length c0), (14, vI (l0.length : Int)), (15, vI (i1 : Int)), (16, .bool true), (17, .pointer (some ⟨blkOf A0, offOf A0 + i1 * 14, none⟩)), (18, .agg #[vI e1.Kind, vI e1.N, vI e1.E.Kind, vI e1.E.N, .slice An1 e1.E.A.length cn1, vI e1.If.Kind, vI e1.If.A.Kind, vI e1.If.A.N, .slice An2 e1.If.A.A.length cn2, vI e1.If.B.Kind, vI e1.If.B.N, .slice An3 e1.If.B.A.length cn3, .slice An4 e1.Body.length cn4, .slice An5 e1.Else.length cn5]), (19, (.slice Z1 m1.length cz1)), (20, vI (m1.length : Int)), (21, vI x3), (22, .bool false), (24, (.slice Z1 m1.length cz1)), (25, .agg #[vI e1.Kind, vI e1.N, vI e1.E.Kind, vI e1.E.N, .slice An1 e1.E.A.length cn1, vI e1.If.Kind, vI e1.If.A.Kind, vI e1.If.A.N, .slice An2 e1.If.A.A.length cn2, vI e1.If.B.Kind, vI e1.If.B.N, .slice An3 e1.If.B.A.length cn3, .slice An4 e1.Body.length cn4, .slice An5 e1.Else.length cn5]), (26, vI x1), (27, .slice A2 l2.length c2), (28, .agg #[vI e1.Kind, vI e1.N, vI e1.E.Kind, vI e1.E.N, .slice An1 e1.E.A.length cn1, vI e1.If.Kind, vI e1.If.A.Kind, vI e1.If.A.N, .slice An2 e1.If.A.A.length cn2, vI e1.If.B.Kind, vI e1.If.B.N, .slice An3 e1.If.B.A.length cn3, .slice An4 e1.Body.length cn4, .slice An5 e1.Else.length cn5, vI x1, .slice A2 l2.length c2]), (29, .slice (some ⟨b2, 0, none⟩) 1 1), (30, v3), (31, .slice A2 l2.length c2)]) ea (punctualref_Flat_p1 K w0 Z l0 A0 c0 x1 l2 A2 c2 x3 hZ hR0 hL0 hR2 hL2 rec_punctualref_Flat hr_punctualref_Flat ft1 wf1 ft2 wf2 m1 hds1 i1 hsb1 hd1 hc1 e1 hx1 An1 cn1 An2 cn2 An3 cn3 An4 cn4 An5 cn5 hCs1 hLn1 hRn1 hLn2 hRn2 hLn3 hRn3 hLn4 hRn4 hLn5 hRn5 b1 Z1 cz1 hc2 b2 hc3 v3 hd3 _ hq1 _ hS13 _ ?_)
     rintro _ a w9 ⟨rfl, ft6, wf6, Z4, cz4, hRz2, hRz3, hRz4, hS31, hF⟩
     replace hS31 : St w0 w9 [Own.blk b1 (.cells #[vI e1.Kind, vI e1.N, vI e1.E.Kind, vI e1.E.N, .slice An1 e1.E.A.length cn1, vI e1.If.Kind, vI e1.If.A.Kind, vI e1.If.A.N, .slice An2 e1.If.A.A.length cn2, vI e1.If.B.Kind, vI e1.If.B.N, .slice An3 e1.If.B.A.length cn3, .slice An4 e1.Body.length cn4, .slice An5 e1.Else.length cn5] 49 (0, 0)), Own.of v3 99 (hds1 ++ [(⟨e1.Kind, e1.N, e1.E.Kind, e1.E.N, ⟨An1, e1.E.A.length, cn1⟩, e1.If.Kind, e1.If.A.Kind, e1.If.A.N, ⟨An2, e1.If.A.A.length, cn2⟩, e1.If.B.Kind, e1.If.B.N, ⟨An3, e1.If.B.A.length, cn3⟩, ⟨An4, e1.Body.length, cn4⟩, ⟨An5, e1.Else.length, cn5⟩, x1, ⟨A2, l2.length, c2⟩⟩ : Hstatement)]), Own.frz ft6 wf6] := hS31
     refine hK14 [(1, vI x1), (2, .slice A2 l2.length c2), (3, vI x3), (9, v3), (11, pP b1 0), (12, .slice Z4 m4.length cz4), (13, .slice A0 l0.length c0), (14, vI (l0.length : Int)), (15, vI (i1 : Int))] w9 ?_ a hF
     refine ws fun K16 hK16 => ?_
     refine wr [(0, 0), (1, 0), (2, 0), (3, 0), (4, 0), (5, 0), (6, 0), (7, 1), (8, 2), (9, 0)] ?_
     rcases hq2 : rec_punctualref_Flat e1.Body (IntKind.i64.wrap (x1 + 1)) m4 x3 with _ | r1
     ·rw [hq2] at h; cases h
     rw [hq2] at h
     simp only [] at h
     refine gb [0, 1, 2, 3, 4, 5, 6] [(48, vI x3), (47, .slice Z4 m4.length cz4), (46, vI (IntKind.i64.wrap (x1 + 1))), (45, vI x1), (44, .slice An4 e1.Body.length cn4), (43, pP b1 12), (42, v3)] [.loaded ⟨b1, 12, none⟩ (.slice An4 e1.Body.length cn4)] ⟨hS31.c 0, trivial⟩ ?_
     refine ge_call (d := some 49) (f := 54) (args := #[.slice An4 e1.Body.length cn4, vI (IntKind.i64.wrap (x1 + 1)), .slice Z4 m4.length cz4, vI x3]) (by kernel_rfl) (hr_punctualref_Flat (Zand Z wf6) e1.Body An4 cn4 (IntKind.i64.wrap (x1 + 1)) m4 Z4 cz4 x3 _ (fun w' k => ⟨(hZ w' (hS31.subw.trans k)), (hS31.frzSub 2 rfl).trans k⟩) (hRn4.up (ZLe.in _ _)) hLn4 hRz3 hRz4 _ hq2) ?_
     rintro _ w10 ⟨v6, hds3, ft7, wf7, rfl, hd4, hS32⟩
     refine ⟨_, rfl, hS32.below, ?_⟩
     have hS33 := hS31.call hS32
     have hS34 := hS33.bring 4 rfl
     have hS35 := hS34.bring 2 rfl
     obtain ⟨ft8, wf8, hsb5, hsb6, hS36⟩ := hS35.frzMerge
     replace hd4 : DRows (Zand Z wf8) hds3 r1 := hd4.up (ZLe.both hsb6 hsb5)
     obtain ⟨Z5, cz5, rfl⟩ := hS36.dopen 1 rfl hd4
     have hS37 := hS36.bring 1 rfl
     obtain ⟨ft9, wf9, hsb7, -, hRd2, hLd2, hS38⟩ := hS37.dfrz (Z := Z) hd4
     obtain ⟨hds4, hd5, hf1⟩ := hRd2.ex
     have hS39 := hS38.bring 2 rfl
     by_cases hc7 : (m1 ++ [(⟨e1, x1, l2⟩ : Sstatement)]).length + r1.length ≤ 628292358729
     ·rw [if_pos hc7] at h
      have hd6 : DRows (Zand Z wf9) ((hds1 ++ [(⟨e1.Kind, e1.N, e1.E.Kind, e1.E.N, ⟨An1, e1.E.A.length, cn1⟩, e1.If.Kind, e1.If.A.Kind, e1.If.A.N, ⟨An2, e1.If.A.A.length, cn2⟩, e1.If.B.Kind, e1.If.B.N, ⟨An3, e1.If.B.A.length, cn3⟩, ⟨An4, e1.Body.length, cn4⟩, ⟨An5, e1.Else.length, cn5⟩, x1, ⟨A2, l2.length, c2⟩⟩ : Hstatement)]) ++ hds4) ((m1 ++ [(⟨e1, x1, l2⟩ : Sstatement)]) ++ r1) := DRows.app (hd3.up (ZLe.up ((hRz2.trans hsb6).trans hsb7))) hd5
      refine ge_same (t := 49) (v := .slice Z5 r1.length cz5) (v' := .slice Z5 hds4.length cz5) (by kernel_rfl) (congrArg (fun z => Value.slice Z5 z cz5) (show r1.length = hds4.length from (DRows.len hd5).symm)) ?_
      refine ge_appendL (α := Hstatement) (m := 0) (d := 50) (t := 96) (el := 99) (bytes := 224) (c1 := cz5) (A1 := Z5) (x := (.tmp 42)) (y := (.tmp 49)) (ty := 96) (v := v3) (z := .agg #[vI 0, vI 0, vI 0, vI 0, .slice none 0 0, vI 0, vI 0, vI 0, .slice none 0 0, vI 0, vI 0, .slice none 0 0, .slice none 0 0, .slice none 0 0, vI 0, .slice none 0 0]) (l := (hds1 ++ [(⟨e1.Kind, e1.N, e1.E.Kind, e1.E.N, ⟨An1, e1.E.A.length, cn1⟩, e1.If.Kind, e1.If.A.Kind, e1.If.A.N, ⟨An2, e1.If.A.A.length, cn2⟩, e1.If.B.Kind, e1.If.B.N, ⟨An3, e1.If.B.A.length, cn3⟩, ⟨An4, e1.Body.length, cn4⟩, ⟨An5, e1.Else.length, cn5⟩, x1, ⟨A2, l2.length, c2⟩⟩ : Hstatement)])) (us := hds4) (by kernel_rfl) (by kernel_rfl) (by kernel_rfl) (by kernel_rfl) (by kernel_rfl) rfl hS39 (hf1 _ ⟨(hZ _ hS39.subw), (hS39.frzSub 1 rfl)⟩) rfl (Nat.mul_le_of_le_div _ _ _ (by have h0 : (hds1 ++ [(⟨e1.Kind, e1.N, e1.E.Kind, e1.E.N, ⟨An1, e1.E.A.length, cn1⟩, e1.If.Kind, e1.If.A.Kind, e1.If.A.N, ⟨An2, e1.If.A.A.length, cn2⟩, e1.If.B.Kind, e1.If.B.N, ⟨An3, e1.If.B.A.length, cn3⟩, ⟨An4, e1.Body.length, cn4⟩, ⟨An5, e1.Else.length, cn5⟩, x1, ⟨A2, l2.length, c2⟩⟩ : Hstatement)]).length = (m1 ++ [(⟨e1, x1, l2⟩ : Sstatement)]).length := DRows.len (hd3.up (ZLe.up ((hRz2.trans hsb6).trans hsb7))); have h1 : hds4.length = r1.length := DRows.len hd5; omega)) fun v7 w11 hS40 => ?_
      have hS41 : St w0 w11 [Own.of v7 99 ((hds1 ++ [(⟨e1.Kind, e1.N, e1.E.Kind, e1.E.N, ⟨An1, e1.E.A.length, cn1⟩, e1.If.Kind, e1.If.A.Kind, e1.If.A.N, ⟨An2, e1.If.A.A.length, cn2⟩, e1.If.B.Kind, e1.If.B.N, ⟨An3, e1.If.B.A.length, cn3⟩, ⟨An4, e1.Body.length, cn4⟩, ⟨An5, e1.Else.length, cn5⟩, x1, ⟨A2, l2.length, c2⟩⟩ : Hstatement)]) ++ hds4), Own.frz ft9 wf9, Own.blk b1 (.cells #[vI e1.Kind, vI e1.N, vI e1.E.Kind, vI e1.E.N, .slice An1 e1.E.A.length cn1, vI e1.If.Kind, vI e1.If.A.Kind, vI e1.If.A.N, .slice An2 e1.If.A.A.length cn2, vI e1.If.B.Kind, vI e1.If.B.N, .slice An3 e1.If.B.A.length cn3, .slice An4 e1.Body.length cn4, .slice An5 e1.Else.length cn5] 49 (0, 0))] := hS40
      refine gb0 [9] [(9, v7)] ?_
      refine gn hK16 ?_
      refine wr [(0, 0), (1, 0), (2, 0), (3, 0), (4, 0), (5, 0), (6, 0), (7, 1), (8, 2), (9, 0)] ?_
      rcases hq3 : rec_punctualref_Flat e1.Else (IntKind.i64.wrap (x1 + 1)) m4 x3 with _ | r2
      ·rw [hq3] at h; cases h
      rw [hq3] at h
      simp only [] at h
      refine gb [0, 1, 2, 3, 4, 5, 6] [(57, vI x3), (56, .slice Z4 m4.length cz4), (55, vI (IntKind.i64.wrap (x1 + 1))), (54, vI x1), (53, .slice An5 e1.Else.length cn5), (52, pP b1 13), (51, v7)] [.loaded ⟨b1, 13, none⟩ (.slice An5 e1.Else.length cn5)] ⟨hS41.c 2, trivial⟩ ?_
      refine ge_call (d := some 58) (f := 54) (args := #[.slice An5 e1.Else.length cn5, vI (IntKind.i64.wrap (x1 + 1)), .slice Z4 m4.length cz4, vI x3]) (by kernel_rfl) (hr_punctualref_Flat (Zand Z wf9) e1.Else An5 cn5 (IntKind.i64.wrap (x1 + 1)) m4 Z4 cz4 x3 _ (fun w' k => ⟨(hZ w' (hS41.subw.trans k)), (hS41.frzSub 1 rfl).trans k⟩) (hRn5.up (ZLe.in _ _)) hLn5 (hRz3.up (ZLe.up (hsb6.trans hsb7))) hRz4 _ hq3) ?_
      rintro _ w12 ⟨v8, hds5, ft10, wf10, rfl, hd7, hS42⟩
      refine ⟨_, rfl, hS42.below, ?_⟩
      have hS43 := hS41.call hS42
      have hS44 := hS43.bring 3 rfl
      have hS45 := hS44.bring 2 rfl
      obtain ⟨ft11, wf11, hsb8, hsb9, hS46⟩ := hS45.frzMerge
      replace hd7 : DRows (Zand Z wf11) hds5 r2 := hd7.up (ZLe.both hsb9 hsb8)
      obtain ⟨Z6, cz6, rfl⟩ := hS46.dopen 1 rfl hd7
      have hS47 := hS46.bring 1 rfl
      obtain ⟨ft12, wf12, hsb10, -, hRd3, hLd3, hS48⟩ := hS47.dfrz (Z := Z) hd7
      obtain ⟨hds6, hd8, hf2⟩ := hRd3.ex
      have hS49 := hS48.bring 1 rfl
      by_cases hc8 : ((m1 ++ [(⟨e1, x1, l2⟩ : Sstatement)]) ++ r1).length + r2.length ≤ 628292358729
      ·rw [if_pos hc8] at h
       have hd9 : DRows (Zand Z wf12) (((hds1 ++ [(⟨e1.Kind, e1.N, e1.E.Kind, e1.E.N, ⟨An1, e1.E.A.length, cn1⟩, e1.If.Kind, e1.If.A.Kind, e1.If.A.N, ⟨An2, e1.If.A.A.length, cn2⟩, e1.If.B.Kind, e1.If.B.N, ⟨An3, e1.If.B.A.length, cn3⟩, ⟨An4, e1.Body.length, cn4⟩, ⟨An5, e1.Else.length, cn5⟩, x1, ⟨A2, l2.length, c2⟩⟩ : Hstatement)]) ++ hds4) ++ hds6) (((m1 ++ [(⟨e1, x1, l2⟩ : Sstatement)]) ++ r1) ++ r2) := DRows.app (hd6.up (ZLe.up (hsb9.trans hsb10))) hd8
       refine ge_same (t := 58) (v := .slice Z6 r2.length cz6) (v' := .slice Z6 hds6.length cz6) (by kernel_rfl) (congrArg (fun z => Value.slice Z6 z cz6) (show r2.length = hds6.length from (DRows.len hd8).symm)) ?_
       refine ge_appendL (α := Hstatement) (m := 0) (d := 59) (t := 96) (el := 99) (bytes := 224) (c1 := cz6) (A1 := Z6) (x := (.tmp 51)) (y := (.tmp 58)) (ty := 96) (v := v7) (z := .agg #[vI 0, vI 0, vI 0, vI 0, .slice none 0 0, vI 0, vI 0, vI 0, .slice none 0 0, vI 0, vI 0, .slice none 0 0, .slice none 0 0, .slice none 0 0, vI 0, .slice none 0 0]) (l := ((hds1 ++ [(⟨e1.Kind, e1.N, e1.E.Kind, e1.E.N, ⟨An1, e1.E.A.length, cn1⟩, e1.If.Kind, e1.If.A.Kind, e1.If.A.N, ⟨An2, e1.If.A.A.length, cn2⟩, e1.If.B.Kind, e1.If.B.N, ⟨An3, e1.If.B.A.length, cn3⟩, ⟨An4, e1.Body.length, cn4⟩, ⟨An5, e1.Else.length, cn5⟩, x1, ⟨A2, l2.length, c2⟩⟩ : Hstatement)]) ++ hds4)) (us := hds6) (by kernel_rfl) (by kernel_rfl) (by kernel_rfl) (by kernel_rfl) (by kernel_rfl) rfl hS49 (hf2 _ ⟨(hZ _ hS49.subw), (hS49.frzSub 1 rfl)⟩) rfl (Nat.mul_le_of_le_div _ _ _ (by have h0 : ((hds1 ++ [(⟨e1.Kind, e1.N, e1.E.Kind, e1.E.N, ⟨An1, e1.E.A.length, cn1⟩, e1.If.Kind, e1.If.A.Kind, e1.If.A.N, ⟨An2, e1.If.A.A.length, cn2⟩, e1.If.B.Kind, e1.If.B.N, ⟨An3, e1.If.B.A.length, cn3⟩, ⟨An4, e1.Body.length, cn4⟩, ⟨An5, e1.Else.length, cn5⟩, x1, ⟨A2, l2.length, c2⟩⟩ : Hstatement)]) ++ hds4).length = ((m1 ++ [(⟨e1, x1, l2⟩ : Sstatement)]) ++ r1).length := DRows.len (hd6.up (ZLe.up (hsb9.trans hsb10))); have h1 : hds6.length = r2.length := DRows.len hd8; omega)) fun v9 w13 hS50 => ?_
       have hS51 : St w0 w13 [Own.of v9 99 (((hds1 ++ [(⟨e1.Kind, e1.N, e1.E.Kind, e1.E.N, ⟨An1, e1.E.A.length, cn1⟩, e1.If.Kind, e1.If.A.Kind, e1.If.A.N, ⟨An2, e1.If.A.A.length, cn2⟩, e1.If.B.Kind, e1.If.B.N, ⟨An3, e1.If.B.A.length, cn3⟩, ⟨An4, e1.Body.length, cn4⟩, ⟨An5, e1.Else.length, cn5⟩, x1, ⟨A2, l2.length, c2⟩⟩ : Hstatement)]) ++ hds4) ++ hds6), Own.frz ft12 wf12, Own.blk b1 (.cells #[vI e1.Kind, vI e1.N, vI e1.E.Kind, vI e1.E.N, .slice An1 e1.E.A.length cn1, vI e1.If.Kind, vI e1.If.A.Kind, vI e1.If.A.N, .slice An2 e1.If.A.A.length cn2, vI e1.If.B.Kind, vI e1.If.B.N, .slice An3 e1.If.B.A.length cn3, .slice An4 e1.Body.length cn4, .slice An5 e1.Else.length cn5] 49 (0, 0))] := hS50
       refine gb0 [9] [(9, v9)] ?_
       refine gn hK7 ?_
       refine wr [(0, 0), (1, 0)] ?_
       refine ge_addn (d := 60) (ty := 3) (x := (.tmp 15)) (y := (.const (vI 1))) (t := 3) (t2 := 3) (k := .i64) (m := i1) (by kernel_rfl) (by kernel_rfl) (by kernel_rfl) (by have h0 := RdZ.small hR0 (hZ _ hS51.subw); omega) ?_
       refine gb0 [1] [(15, vI ((i1 + 1 : Nat) : Int))] ?_
       have hS52 := hS51.bring 1 rfl
       have hS53 := hS52.bring 1 rfl
       have hS54 := hS53.takeN 2
       obtain rfl := si h
       exact ge_nil fun a hF => hQ _ _ _ (Outs.again ⟨ft12, wf12, v9, (((hds1 ++ [(⟨e1.Kind, e1.N, e1.E.Kind, e1.E.N, ⟨An1, e1.E.A.length, cn1⟩, e1.If.Kind, e1.If.A.Kind, e1.If.A.N, ⟨An2, e1.If.A.A.length, cn2⟩, e1.If.B.Kind, e1.If.B.N, ⟨An3, e1.If.B.A.length, cn3⟩, ⟨An4, e1.Body.length, cn4⟩, ⟨An5, e1.Else.length, cn5⟩, x1, ⟨A2, l2.length, c2⟩⟩ : Hstatement)]) ++ hds4) ++ hds6), (((((hsb1.trans hRz2).trans hsb6).trans hsb7).trans hsb9).trans hsb10), hd9, hS54, hF.weaken ea⟩)
      ·rw [if_neg hc8] at h
       cases h
     ·rw [if_neg hc7] at h
      cases h
    ·rw [hq1] at h
     simp only [] at h
     refine we_keep (e' := [(1, vI x1), (2, .slice A2 l2.length c2), (3, vI x3), (9, v3), (11, pP b1 0), (12, .slice A2 l2.length c2), (13, .slice A0 l0.length c0), (14, vI (l0.length : Int)), (15, vI (i1 : Int)), (16, .bool true), (17, .pointer (some ⟨blkOf A0, offOf A0 + i1 * 14, none⟩)), (18, .agg #[vI e1.Kind, vI e1.N, vI e1.E.Kind, vI e1.E.N, .slice An1 e1.E.A.length cn1, vI e1.If.Kind, vI e1.If.A.Kind, vI e1.If.A.N, .slice An2 e1.If.A.A.length cn2, vI e1.If.B.Kind, vI e1.If.B.N, .slice An3 e1.If.B.A.length cn3, .slice An4 e1.Body.length cn4, .slice An5 e1.Else.length cn5]), (19, (.slice Z1 m1.length cz1)), (20, vI (m1.length : Int)), (21, vI x3), (22, .bool false), (24, (.slice Z1 m1.length cz1)), (25, .agg #[vI e1.Kind, vI e1.N, vI e1.E.Kind, vI e1.E.N, .slice An1 e1.E.A.length cn1, vI e1.If.Kind, vI e1.If.A.Kind, vI e1.If.A.N, .slice An2 e1.If.A.A.length cn2, vI e1.If.B.Kind, vI e1.If.B.N, .slice An3 e1.If.B.A.length cn3, .slice An4 e1.Body.length cn4, .slice An5 e1.Else.length cn5]), (26, vI x1), (27, .slice A2 l2.length c2), (28, .agg #[vI e1.Kind, vI e1.N, vI e1.E.Kind, vI e1.E.N, .slice An1 e1.E.A.length cn1, vI e1.If.Kind, vI e1.If.A.Kind, vI e1.If.A.N, .slice An2 e1.If.A.A.length cn2, vI e1.If.B.Kind, vI e1.If.B.N, .slice An3 e1.If.B.A.length cn3, .slice An4 e1.Body.length cn4, .slice An5 e1.Else.length cn5, vI x1, .slice A2 l2.length c2]), (29, .slice (some ⟨b2, 0, none⟩) 1 1), (30, v3), (31, .slice A2 l2.length c2)]) ea (punctualref_Flat_p1 K w0 Z l0 A0 c0 x1 l2 A2 c2 x3 hZ hR0 hL0 hR2 hL2 rec_punctualref_Flat hr_punctualref_Flat ft1 wf1 ft2 wf2 m1 hds1 i1 hsb1 hd1 hc1 e1 hx1 An1 cn1 An2 cn2 An3 cn3 An4 cn4 An5 cn5 hCs1 hLn1 hRn1 hLn2 hRn2 hLn3 hRn3 hLn4 hRn4 hLn5 hRn5 b1 Z1 cz1 hc2 b2 hc3 v3 hd3 _ hq1 _ hS13 _ ?_)
     rintro _ a w1 ⟨_, rfl, hb⟩
     obtain rfl := si h
     exact hQ _ _ _ (Outs.out nofun (Exits.on ⟨rfl, hb⟩))
   ·rw [if_neg hc3] at h
    cases h
 ·rw [if_neg hc1] at h
  refine wk 16 (decide ((i1 : Int) < (l0.length : Int))) false (decide_eq_false hc1) ?_
  refine we_false (by kernel_rfl) ?_
  have hS55 := hS.bring 1 rfl
  have hS56 := hS55.bring 1 rfl
  obtain rfl := si h
  exact we_exit fun a hF => hQ _ _ _ (Outs.out nofun (Exits.here ⟨ft2, wf2, v1, hds1, hsb1, hd1, hS56, hF.weaken ea⟩))
theorem punctualref_Flat_step (K : Nat) (rec_punctualref_Flat : (List SStmt) → Int → (List Int) → Int → Option (List Sstatement)) (hr_punctualref_Flat : punctualref_Flat.Rec rec_punctualref_Flat) (Z : Zone) (l0 : List SStmt) (A0 : Option Addr) (c0 : Nat) (x1 : Int) (l2 : List Int) (A2 : Option Addr) (c2 : Nat) (x3 : Int) (w0 : World) (hZ : ∀ w, Sub w0 w → Z w) (hR0 : RdZ Z A0 l0) (hL0 : l0.length ≤ c0) (hR2 : RdF Z A2 l2) (hL2 : l2.length ≤ c2) (r : List Sstatement) (h : punctualref_Flat.b K rec_punctualref_Flat l0 x1 l2 x3 = some r) :
  Calls Try.prog 54 #[.slice A0 l0.length c0, vI x1, .slice A2 l2.length c2, vI x3] w0 (punctualref_Flat.Post w0 Z r) := by
 have hS := St.start w0
 unfold punctualref_Flat.b at h
 refine calls_enter (n := 62) (args := [.slice A0 l0.length c0, vI x1, .slice A2 l2.length c2, vI x3]) (fn := Try.f54) rfl rfl rfl rfl ?_
 show WE _ _ _ _ [(0, .slice A0 l0.length c0), (1, vI x1), (2, .slice A2 l2.length c2), (3, vI x3)] _
 obtain ⟨ft1, wf1, hS1⟩ := hS.frz0
 refine ws fun K1 hK1 => ?_
 refine wr [(0, 0)] ?_
 refine gb0 [0] [(8, .slice none 0 0)] ?_
 refine gn hK1 ?_
 refine ws fun K2 hK2 => ?_
 refine wr [(0, 0)] ?_
 refine gb0 [0] [(9, .slice none 0 0)] ?_
 refine gn hK2 ?_
 refine ws fun K3 hK3 => ?_
 refine ws fun K4 hK4 => ?_
 refine wr [(0, 0), (1, 0), (2, 0)] ?_
 refine gb0 [0, 1, 2] [(15, vI 0), (14, vI (l0.length : Int)), (13, .slice A0 l0.length c0)] ?_
 refine gn hK4 ?_
 refine we_block ?_
 have hS2 := hS1.nil (α := Hstatement) 99
 have hS3 := hS2.bring 1 rfl
 have hS4 := hS3.bring 1 rfl
 rcases hq4 : iter (punctualref_Flat.r0 l0 x1 l2 x3 rec_punctualref_Flat) K (([] : List Sstatement), 0) with _ | (m5 | rr2)
 ·rw [hq4] at h; cases h
 ·rw [hq4] at h
  simp only [] at h
  refine we_iter (A := punctualref_Flat.A0 w0 Z l0 A0 c0 x1 l2 A2 c2 x3 wf1) (B := punctualref_Flat.B0 w0 Z wf1) hq4 (fun a hF => ⟨ft1, wf1, (.slice none 0 0), ([] : List Hstatement), (Sub.refl _), (DRows.nil _), hS4, hF.weaken ea⟩) (fun s o hf a w hA Q hQ => punctualref_Flat_r0 K w0 Z l0 A0 c0 x1 l2 A2 c2 x3 hZ hR0 hL0 hR2 hL2 rec_punctualref_Flat hr_punctualref_Flat ft1 wf1 s o hf a w hA Q hQ) ?_
  rintro _ a w14 _ ⟨rfl, ft13, wf13, v10, hds7, hRz5, hRz6, hS57, hF⟩
  replace hS57 : St w0 w14 [Own.of v10 99 hds7, Own.frz ft13 wf13] := hS57
  refine hK3 [(9, v10)] w14 ?_ a hF
  refine ws fun K17 hK17 => ?_
  refine wr [(0, 0), (1, 0)] ?_
  refine gb0 [0, 1] [(8, v10), (61, v10)] ?_
  refine gn hK17 ?_
  have hS58 := hS57.bring 1 rfl
  have hS59 := hS58.bring 1 rfl
  obtain rfl := si h
  exact we_ret (pr0 [.tmp 8] [v10] ⟨v10, hds7, ft13, wf13, rfl, hRz6, hS59⟩)
 ·rw [hq4] at h
  simp only [] at h
  refine we_iter (A := punctualref_Flat.A0 w0 Z l0 A0 c0 x1 l2 A2 c2 x3 wf1) (B := punctualref_Flat.B0 w0 Z wf1) hq4 (fun a hF => ⟨ft1, wf1, (.slice none 0 0), ([] : List Hstatement), (Sub.refl _), (DRows.nil _), hS4, hF.weaken ea⟩) (fun s o hf a w hA Q hQ => punctualref_Flat_r0 K w0 Z l0 A0 c0 x1 l2 A2 c2 x3 hZ hR0 hL0 hR2 hL2 rec_punctualref_Flat hr_punctualref_Flat ft1 wf1 s o hf a w hA Q hQ) ?_
  rintro _ a w1 _ ⟨rfl, hb⟩
  obtain rfl := si h
  exact hb
def punctualref_Flat.recs (K : Nat) : Nat → ((List SStmt) → Int → (List Int) → Int → Option (List Sstatement))
 | 0 => fun _ _ _ _ => none
 | n + 1 => punctualref_Flat.b K (punctualref_Flat.recs K n)
theorem punctualref_Flat_all (K n : Nat) : punctualref_Flat.Rec (punctualref_Flat.recs K n) := by
 induction n with
 | zero => exact (by unfold punctualref_Flat.Rec; intros; rename_i h; cases (show none = some _ from h))
 | succ n ih => exact punctualref_Flat_step K _ ih
def punctualref_Flat.f (K : Nat) (l0 : List SStmt) (x1 : Int) (l2 : List Int) (x3 : Int) : Option (List Sstatement) := (punctualref_Flat.recs K K) l0 x1 l2 x3
theorem punctualref_Flat_ok (K : Nat) (Z : Zone) (l0 : List SStmt) (A0 : Option Addr) (c0 : Nat) (x1 : Int) (l2 : List Int) (A2 : Option Addr) (c2 : Nat) (x3 : Int) (w0 : World) (hZ : ∀ w, Sub w0 w → Z w) (hR0 : RdZ Z A0 l0) (hL0 : l0.length ≤ c0) (hR2 : RdF Z A2 l2) (hL2 : l2.length ≤ c2) (r : List Sstatement) (h : punctualref_Flat.f K l0 x1 l2 x3 = some r) : Calls Try.prog 54 #[.slice A0 l0.length c0, vI x1, .slice A2 l2.length c2, vI x3] w0 (punctualref_Flat.Post w0 Z r) := (punctualref_Flat_all K K) Z l0 A0 c0 x1 l2 A2 c2 x3 w0 hZ hR0 hL0 hR2 hL2 r h

/-! punctual/punctualref.emptyExpr -/
abbrev punctualref_emptyExpr.Post (w0 : World) (r : Bool) (e : Ending) (w : World) : Prop := e = .returned (.bool r) ∧ St w0 w []
def punctualref_emptyExpr.f (x0_0 : Int) (x0_1 : Int) (l0_2 : List SExpr) : Bool :=
 if x0_0 = 0 then
  if x0_1 = 0 then
   ((l0_2.length : Int) == 0)
  else
   false
 else
  false
theorem punctualref_emptyExpr_ok (Z : Zone) (x0_0 : Int) (x0_1 : Int) (l0_2 : List SExpr) (A0_2 : Option Addr) (c0_2 : Nat) (w0 : World) (hZ : ∀ w, Sub w0 w → Z w) (hR0_2 : RdZ Z A0_2 l0_2) (hL0_2 : l0_2.length ≤ c0_2) (r : Bool) (h : punctualref_emptyExpr.f x0_0 x0_1 l0_2 = r) :
  Calls Try.prog 78 #[.agg #[vI x0_0, vI x0_1, .slice A0_2 l0_2.length c0_2]] w0 (punctualref_emptyExpr.Post w0 r) := by
 have hS := St.start w0
 unfold punctualref_emptyExpr.f at h
 refine calls_enter (n := 17) (args := [.agg #[vI x0_0, vI x0_1, .slice A0_2 l0_2.length c0_2]]) (fn := Try.f78) rfl rfl rfl rfl ?_
 show WE _ _ _ _ [(0, .agg #[vI x0_0, vI x0_1, .slice A0_2 l0_2.length c0_2])] _
 refine ws fun K1 hK1 => ?_
 refine wr [(0, 1), (1, 0)] ?_
 refine gw (some 1) (.cells #[vI x0_0, vI x0_1, .slice A0_2 l0_2.length c0_2] 45) (fun b => pP b 0) hS fun b1 w1 hx1 hS1 => ?_
 refine gb0 [1] [(2, .bool false)] ?_
 refine gn hK1 ?_
 refine ws fun K2 hK2 => ?_
 refine wr [(0, 0), (1, 0), (2, 0), (3, 0), (4, 0), (5, 0), (6, 0), (7, 0), (8, 0), (9, 0), (10, 0), (11, 0), (12, 0), (13, 0), (14, 0)] ?_
 refine gb [0, 1, 2, 3] [(6, .bool (x0_0 == 0)), (5, .bool (x0_0 == 0)), (4, vI x0_0), (3, pP b1 0)] [.loaded ⟨b1, 0, none⟩ (vI x0_0)] ⟨hS1.c 0, trivial⟩ ?_
 by_cases hc1 : x0_0 = 0
 ·rw [if_pos hc1] at h
  refine gk 6 (x0_0 == 0) true (beq_iff_eq.2 hc1) ?_
  refine gb [4, 5, 6, 7, 8] [(11, .bool (x0_1 == 0)), (10, .bool (x0_1 == 0)), (9, .bool (x0_1 == 0)), (8, vI x0_1), (7, pP b1 1)] [.loaded ⟨b1, 1, none⟩ (vI x0_1)] ⟨hS1.c 0, trivial⟩ ?_
  by_cases hc2 : x0_1 = 0
  ·rw [if_pos hc2] at h
   refine gk 11 (x0_1 == 0) true (beq_iff_eq.2 hc2) ?_
   refine gb [9, 10, 11, 12, 13, 14] [(2, .bool ((l0_2.length : Int) == 0)), (16, .bool ((l0_2.length : Int) == 0)), (15, .bool ((l0_2.length : Int) == 0)), (14, vI (l0_2.length : Int)), (13, .slice A0_2 l0_2.length c0_2), (12, pP b1 2)] [.loaded ⟨b1, 2, none⟩ (.slice A0_2 l0_2.length c0_2)] ⟨hS1.c 0, trivial⟩ ?_
   refine gn hK2 ?_
   have hS2 := hS1.takeN 0
   subst h
   exact we_ret (pr0 [.tmp 2] [.bool ((l0_2.length : Int) == 0)] ⟨rfl, hS2⟩)
  ·rw [if_neg hc2] at h
   refine gk 11 (x0_1 == 0) false (beq_eq_false_iff_ne.2 hc2) ?_
   refine gb0 [9, 10, 11, 12, 13, 14] [(2, .bool false), (16, .bool false), (15, undef), (14, undef), (13, undef), (12, undef)] ?_
   refine gn hK2 ?_
   have hS3 := hS1.takeN 0
   subst h
   exact we_ret (pr0 [.tmp 2] [.bool false] ⟨rfl, hS3⟩)
 ·rw [if_neg hc1] at h
  refine gk 6 (x0_0 == 0) false (beq_eq_false_iff_ne.2 hc1) ?_
  refine gb0 [4, 5, 6, 7, 8, 9, 10, 11, 12, 13, 14] [(2, .bool false), (16, .bool false), (15, undef), (14, undef), (13, undef), (12, undef), (11, .bool false), (10, .bool false), (9, undef), (8, undef), (7, undef)] ?_
  refine gn hK2 ?_
  have hS4 := hS1.takeN 0
  subst h
  exact we_ret (pr0 [.tmp 2] [.bool false] ⟨rfl, hS4⟩)

/-! punctual/punctualref.nodes -/
abbrev punctualref_nodes.Post (w0 : World) (Z : Zone) (r : List SExpr) (e : Ending) (w : World) : Prop := ∃ (v1 : Value) (hds1 : List HExpr) (ft : List Nat) (wf : World), e = .returned (v1) ∧ DRows (Zand Z wf) hds1 r ∧ St w0 w [Own.of v1 45 hds1, Own.frz ft wf]
abbrev punctualref_nodes.Rec (rec_punctualref_nodes : Int → Int → (List SExpr) → Int → Option (List SExpr)) : Prop := ∀ (Z : Zone) (x0_0 : Int) (x0_1 : Int) (l0_2 : List SExpr) (A0_2 : Option Addr) (c0_2 : Nat) (x1 : Int) (w0 : World) (hZ : ∀ w, Sub w0 w → Z w) (hR0_2 : RdZ Z A0_2 l0_2) (hL0_2 : l0_2.length ≤ c0_2) (r : List SExpr) (h : rec_punctualref_nodes x0_0 x0_1 l0_2 x1 = some r), Calls Try.prog 98 #[.agg #[vI x0_0, vI x0_1, .slice A0_2 l0_2.length c0_2], vI x1] w0 (punctualref_nodes.Post w0 Z r)
def punctualref_nodes.r0 (l0_2 : List SExpr) (x1 : Int) (rec_punctualref_nodes : Int → Int → (List SExpr) → Int → Option (List SExpr)) : (List SExpr) × Nat → Option (((List SExpr) × Nat) ⊕ ((List SExpr) ⊕ (List SExpr)))
 | (m1, i1) =>
  if (i1 : Int) < (l0_2.length : Int) then
   match l0_2[i1]? with
   | none => none
   | some e1 =>
    if (m1.length : Int) > x1 then
     some (.inr (.inr m1))
    else
     match rec_punctualref_nodes e1.Kind e1.N e1.A x1 with
     | none => none
     | some r1 =>
      if m1.length + r1.length ≤ 3518437208883 then
       some (.inl ((m1 ++ r1), (i1 + 1)))
      else
       none
  else
   some (.inr (.inl m1))
def punctualref_nodes.b (K : Nat) (rec_punctualref_nodes : Int → Int → (List SExpr) → Int → Option (List SExpr)) (x0_0 : Int) (x0_1 : Int) (l0_2 : List SExpr) (x1 : Int) : Option (List SExpr) :=
 match iter (punctualref_nodes.r0 l0_2 x1 rec_punctualref_nodes) K (([(⟨x0_0, x0_1, l0_2⟩ : SExpr)] : List SExpr), 0) with
 | none => none
 | some (.inl m3) =>
  some m3
 | some (.inr rr1) =>
  some rr1
abbrev punctualref_nodes.A0 (w0 : World) (Z : Zone) (l0_2 : List SExpr) (A0_2 : Option Addr) (c0_2 : Nat) (x1 : Int) (wf1 : World) : ((List SExpr) × Nat) → Act → World → Prop := fun (s : (List SExpr) × Nat) a w => ∃ (ft2 : List Nat) (wf2 : World) (v1 : Value) (hds1 : List HExpr), Sub wf1 wf2 ∧ DRows (Zand Z wf2) hds1 s.1 ∧ St w0 w [Own.of v1 45 hds1, Own.frz ft2 wf2] ∧ Frm 29 a [(1, vI x1), (5, v1), (11, .slice A0_2 l0_2.length c0_2), (12, vI (l0_2.length : Int)), (13, vI (s.2 : Int))]
abbrev punctualref_nodes.B0 (w0 : World) (Z : Zone) (wf1 : World) : ((List SExpr) ⊕ (List SExpr)) → Exit → Act → World → Prop := Exits 0 (fun (s : (List SExpr)) a w => ∃ (ft3 : List Nat) (wf3 : World) (v2 : Value) (hds2 : List HExpr), Sub wf1 wf3 ∧ DRows (Zand Z wf3) hds2 s ∧ St w0 w [Own.of v2 45 hds2, Own.frz ft3 wf3] ∧ Frm 29 a [(5, v2)]) (Rets Try.prog Try.f98 (punctualref_nodes.Post w0 Z))
theorem punctualref_nodes_r0 (K : Nat) (w0 : World) (Z : Zone) (x0_0 : Int) (x0_1 : Int) (l0_2 : List SExpr) (A0_2 : Option Addr) (c0_2 : Nat) (x1 : Int) (hZ : ∀ w, Sub w0 w → Z w) (hR0_2 : RdZ Z A0_2 l0_2) (hL0_2 : l0_2.length ≤ c0_2) (rec_punctualref_nodes : Int → Int → (List SExpr) → Int → Option (List SExpr)) (hr_punctualref_nodes : punctualref_nodes.Rec rec_punctualref_nodes) (ft1 : List Nat) (wf1 : World) (b1 : Nat) (b2 : Nat) (s : (List SExpr) × Nat) (o : ((List SExpr) × Nat) ⊕ ((List SExpr) ⊕ (List SExpr))) (h : punctualref_nodes.r0 l0_2 x1 rec_punctualref_nodes s = some o) (a : Act) (w : World) (hA : punctualref_nodes.A0 w0 Z l0_2 A0_2 c0_2 x1 wf1 s a w) (Q : Exit → Act → World → Prop) (hQ : ∀ x a w, Outs (punctualref_nodes.A0 w0 Z l0_2 A0_2 c0_2 x1 wf1) (punctualref_nodes.B0 w0 Z wf1) o x a w → Q x a w) : (subF Try.f98 [1, 1, 0, 1, 0, 0]).wp Try.prog Q a w := by
 obtain ⟨m1, i1⟩ := s
 obtain ⟨ft2, wf2, v1, hds1, hsb1, hd1, hS, hF⟩ := hA
 replace hS : St w0 w [Own.of v1 45 hds1, Own.frz ft2 wf2] := hS
 simp only [punctualref_nodes.r0] at h
 refine (?_ : WE Try.prog 29 (subF Try.f98 [1, 1, 0, 1, 0, 0]) Q [(1, vI x1), (5, v1), (11, .slice A0_2 l0_2.length c0_2), (12, vI (l0_2.length : Int)), (13, vI (i1 : Int))] w) a hF
 clear hF a
 refine ws fun K5 hK5 => ?_
 refine wr [(0, 0)] ?_
 refine gb0 [0] [(14, .bool (decide ((i1 : Int) < (l0_2.length : Int))))] ?_
 refine gn hK5 ?_
 refine ws fun K6 hK6 => ?_
 by_cases hc1 : (i1 : Int) < (l0_2.length : Int)
 ·rw [if_pos hc1] at h
  refine wk 14 (decide ((i1 : Int) < (l0_2.length : Int))) true (decide_eq_true hc1) ?_
  refine we_true (by kernel_rfl) ?_
  refine we_skip fun a hF => hK6 _ _ ?_ a hF
  refine ws fun K7 hK7 => ?_
  refine we_block ?_
  refine ws fun K8 hK8 => ?_
  refine wr [(0, 0), (1, 0), (2, 1), (3, 2)] ?_
  rcases hx3 : l0_2[i1]? with _ | e1
  ·rw [hx3] at h; cases h
  rw [hx3] at h
  simp only [] at h
  obtain ⟨An1, cn1, hCs1, hLn1, hRn1⟩ := SExpr.getZ hR0_2 hx3
  refine gi 15 0 43 45 3 l0_2.length c0_2 (.tmp 11) (.tmp 13) A0_2 .i64 (i1 : Int) i1 (hR0_2.eqSome (hZ _ hS.subw) (pos_of_get hx3)) rfl (lt_of_get hx3) ?_
  refine gb [1] [(16, .agg #[vI e1.Kind, vI e1.N, .slice An1 e1.A.length cn1])] [.loaded ⟨blkOf A0_2, offOf A0_2 + i1 * 3, none⟩ (vI e1.Kind), .loaded ⟨blkOf A0_2, offOf A0_2 + i1 * 3 + 1, none⟩ (vI e1.N), .loaded ⟨blkOf A0_2, offOf A0_2 + i1 * 3 + 2, none⟩ (.slice An1 e1.A.length cn1)] ⟨hCs1 _ (hZ _ hS.subw) 0 _ rfl, hCs1 _ (hZ _ hS.subw) 1 _ rfl, hCs1 _ (hZ _ hS.subw) 2 _ rfl, trivial⟩ ?_
  refine gw (some 7) (.cells #[vI 0, vI 0, .slice none 0 0] 45) (fun b => pP b 0) hS fun b3 w3 hx4 hS8 => ?_
  refine gs b3 0 #[vI 0, vI 0, .slice none 0 0] 45 [vI e1.Kind, vI e1.N, .slice An1 e1.A.length cn1] hS8 fun w4 hS9 => ?_
  have hS10 := hS9.nc #[vI e1.Kind, vI e1.N, .slice An1 e1.A.length cn1] (by kernel_rfl)
  refine gn hK8 ?_
  refine ws fun K9 hK9 => ?_
  refine ws fun K10 hK10 => ?_
  refine wr [(0, 0), (1, 0), (2, 0), (3, 0)] ?_
  refine gb0 [0] [(17, v1)] ?_
  obtain ⟨Z1, cz1, rfl⟩ := hS10.dopen 1 rfl hd1
  refine gb0 [1, 2, 3] [(20, .bool (decide ((m1.length : Int) > x1))), (19, vI x1), (18, vI (m1.length : Int))] ?_
  refine gn hK10 ?_
  by_cases hc2 : (m1.length : Int) > x1
  ·rw [if_pos hc2] at h
   refine wk 20 (decide ((m1.length : Int) > x1)) true (decide_eq_true hc2) ?_
   refine we_true (by kernel_rfl) ?_
   refine ws fun K11 hK11 => ?_
   refine wr [(0, 0), (1, 0)] ?_
   refine gb0 [0, 1] [(4, (.slice Z1 m1.length cz1)), (21, (.slice Z1 m1.length cz1))] ?_
   refine gn hK11 ?_
   have hS11 := hS10.bring 2 rfl
   have hS12 := hS11.bring 2 rfl
   have hS13 := hS12.takeN 2
   obtain rfl := si h
   exact we_ret fun a hF => hQ _ _ _ (Outs.out nofun (Exits.on ⟨rfl, (pr0 [.tmp 4] [(.slice Z1 m1.length cz1)] ⟨(.slice Z1 m1.length cz1), hds1, ft2, wf2, rfl, hd1, hS13⟩) a hF⟩))
  ·rw [if_neg hc2] at h
   refine wk 20 (decide ((m1.length : Int) > x1)) false (decide_eq_false hc2) ?_
   refine we_false (by kernel_rfl) ?_
   refine we_skip fun a hF => hK9 _ _ ?_ a hF
   refine wr [(0, 0), (1, 0), (2, 0), (3, 1), (4, 2), (5, 0)] ?_
   rcases hq1 : rec_punctualref_nodes e1.Kind e1.N e1.A x1 with _ | r1
   ·rw [hq1] at h; cases h
   rw [hq1] at h
   simp only [] at h
   refine gb [0, 1, 2] [(24, vI x1), (23, .agg #[vI e1.Kind, vI e1.N, .slice An1 e1.A.length cn1]), (22, (.slice Z1 m1.length cz1))] [.loaded ⟨b3, 0, none⟩ (vI e1.Kind), .loaded ⟨b3, 1, none⟩ (vI e1.N), .loaded ⟨b3, 2, none⟩ (.slice An1 e1.A.length cn1)] ⟨hS10.c 0, hS10.c 0, hS10.c 0, trivial⟩ ?_
   refine ge_call (d := some 25) (f := 98) (args := #[.agg #[vI e1.Kind, vI e1.N, .slice An1 e1.A.length cn1], vI x1]) (by kernel_rfl) (hr_punctualref_nodes (Zand Z wf2) e1.Kind e1.N e1.A An1 cn1 x1 _ (fun w' k => ⟨(hZ w' (hS10.subw.trans k)), (hS10.frzSub 2 rfl).trans k⟩) (hRn1.up (ZLe.in _ _)) hLn1 _ hq1) ?_
   rintro _ w5 ⟨v3, hds3, ft4, wf4, rfl, hd4, hS14⟩
   refine ⟨_, rfl, hS14.below, ?_⟩
   have hS15 := hS10.call hS14
   have hS16 := hS15.bring 4 rfl
   have hS17 := hS16.bring 2 rfl
   obtain ⟨ft5, wf5, hsb3, hsb4, hS18⟩ := hS17.frzMerge
   replace hd4 : DRows (Zand Z wf5) hds3 r1 := hd4.up (ZLe.both hsb4 hsb3)
   obtain ⟨Z2, cz2, rfl⟩ := hS18.dopen 1 rfl hd4
   have hS19 := hS18.bring 1 rfl
   obtain ⟨ft6, wf6, hsb5, -, hRd1, hLd1, hS20⟩ := hS19.dfrz (Z := Z) hd4
   obtain ⟨hds4, hd5, hf1⟩ := hRd1.ex
   have hS21 := hS20.bring 2 rfl
   by_cases hc3 : m1.length + r1.length ≤ 3518437208883
   ·rw [if_pos hc3] at h
    have hd6 : DRows (Zand Z wf6) (hds1 ++ hds4) (m1 ++ r1) := DRows.app (hd1.up (ZLe.up (hsb4.trans hsb5))) hd5
    refine ge_same (t := 25) (v := .slice Z2 r1.length cz2) (v' := .slice Z2 hds4.length cz2) (by kernel_rfl) (congrArg (fun z => Value.slice Z2 z cz2) (show r1.length = hds4.length from (DRows.len hd5).symm)) ?_
    refine ge_appendL (α := HExpr) (m := 0) (d := 26) (t := 43) (el := 45) (bytes := 40) (c1 := cz2) (A1 := Z2) (x := (.tmp 22)) (y := (.tmp 25)) (ty := 43) (v := (.slice Z1 m1.length cz1)) (z := .agg #[vI 0, vI 0, .slice none 0 0]) (l := hds1) (us := hds4) (by kernel_rfl) (by kernel_rfl) (by kernel_rfl) (by kernel_rfl) (by kernel_rfl) rfl hS21 (hf1 _ ⟨(hZ _ hS21.subw), (hS21.frzSub 1 rfl)⟩) rfl (Nat.mul_le_of_le_div _ _ _ (by have h0 : hds1.length = m1.length := DRows.len (hd1.up (ZLe.up (hsb4.trans hsb5))); have h1 : hds4.length = r1.length := DRows.len hd5; omega)) fun v4 w6 hS22 => ?_
    have hS23 : St w0 w6 [Own.of v4 45 (hds1 ++ hds4), Own.frz ft6 wf6, Own.blk b3 (.cells #[vI e1.Kind, vI e1.N, .slice An1 e1.A.length cn1] 45 (0, 0))] := hS22
    refine gb0 [5] [(5, v4)] ?_
    refine gn hK7 ?_
    refine wr [(0, 0), (1, 0)] ?_
    refine ge_addn (d := 27) (ty := 3) (x := (.tmp 13)) (y := (.const (vI 1))) (t := 3) (t2 := 3) (k := .i64) (m := i1) (by kernel_rfl) (by kernel_rfl) (by kernel_rfl) (by have h0 := RdZ.small hR0_2 (hZ _ hS23.subw); omega) ?_
    refine gb0 [1] [(13, vI ((i1 + 1 : Nat) : Int))] ?_
    have hS24 := hS23.bring 1 rfl
    have hS25 := hS24.bring 1 rfl
    have hS26 := hS25.takeN 2
    obtain rfl := si h
    exact ge_nil fun a hF => hQ _ _ _ (Outs.again ⟨ft6, wf6, v4, (hds1 ++ hds4), ((hsb1.trans hsb4).trans hsb5), hd6, hS26, hF.weaken ea⟩)
   ·rw [if_neg hc3] at h
    cases h
 ·rw [if_neg hc1] at h
  refine wk 14 (decide ((i1 : Int) < (l0_2.length : Int))) false (decide_eq_false hc1) ?_
  refine we_false (by kernel_rfl) ?_
  have hS27 := hS.bring 1 rfl
  have hS28 := hS27.bring 1 rfl
  obtain rfl := si h
  exact we_exit fun a hF => hQ _ _ _ (Outs.out nofun (Exits.here ⟨ft2, wf2, v1, hds1, hsb1, hd1, hS28, hF.weaken ea⟩))
theorem punctualref_nodes_step (K : Nat) (rec_punctualref_nodes : Int → Int → (List SExpr) → Int → Option (List SExpr)) (hr_punctualref_nodes : punctualref_nodes.Rec rec_punctualref_nodes) (Z : Zone) (x0_0 : Int) (x0_1 : Int) (l0_2 : List SExpr) (A0_2 : Option Addr) (c0_2 : Nat) (x1 : Int) (w0 : World) (hZ : ∀ w, Sub w0 w → Z w) (hR0_2 : RdZ Z A0_2 l0_2) (hL0_2 : l0_2.length ≤ c0_2) (r : List SExpr) (h : punctualref_nodes.b K rec_punctualref_nodes x0_0 x0_1 l0_2 x1 = some r) :
  Calls Try.prog 98 #[.agg #[vI x0_0, vI x0_1, .slice A0_2 l0_2.length c0_2], vI x1] w0 (punctualref_nodes.Post w0 Z r) := by
 have hS := St.start w0
 unfold punctualref_nodes.b at h
 refine calls_enter (n := 29) (args := [.agg #[vI x0_0, vI x0_1, .slice A0_2 l0_2.length c0_2], vI x1]) (fn := Try.f98) rfl rfl rfl rfl ?_
 show WE _ _ _ _ [(0, .agg #[vI x0_0, vI x0_1, .slice A0_2 l0_2.length c0_2]), (1, vI x1)] _
 obtain ⟨ft1, wf1, hS1⟩ := hS.frz0
 refine ws fun K1 hK1 => ?_
 refine wr [(0, 1), (1, 0)] ?_
 refine gw (some 2) (.cells #[vI x0_0, vI x0_1, .slice A0_2 l0_2.length c0_2] 45) (fun b => pP b 0) hS1 fun b1 w1 hx1 hS2 => ?_
 refine gb0 [1] [(4, .slice none 0 0)] ?_
 refine gn hK1 ?_
 refine ws fun K2 hK2 => ?_
 refine wr [(0, 0), (1, 1), (2, 0)] ?_
 refine gb [0] [(8, .agg #[vI x0_0, vI x0_1, .slice A0_2 l0_2.length c0_2])] [.loaded ⟨b1, 0, none⟩ (vI x0_0), .loaded ⟨b1, 1, none⟩ (vI x0_1), .loaded ⟨b1, 2, none⟩ (.slice A0_2 l0_2.length c0_2)] ⟨hS2.c 0, hS2.c 0, hS2.c 0, trivial⟩ ?_
 refine gw (some 9) (.cells #[vI x0_0, vI x0_1, .slice A0_2 l0_2.length c0_2] 45) (fun b => .slice (some ⟨b, 0, none⟩) 1 1) hS2 fun b2 w2 hx2 hS3 => ?_
 refine gb0 [2] [(5, .slice (some ⟨b2, 0, none⟩) 1 1)] ?_
 refine gn hK2 ?_
 refine ws fun K3 hK3 => ?_
 refine ws fun K4 hK4 => ?_
 refine wr [(0, 0), (1, 0), (2, 0), (3, 0)] ?_
 refine gb [0, 1, 2, 3] [(13, vI 0), (12, vI (l0_2.length : Int)), (11, .slice A0_2 l0_2.length c0_2), (10, pP b1 2)] [.loaded ⟨b1, 2, none⟩ (.slice A0_2 l0_2.length c0_2)] ⟨hS3.c 1, trivial⟩ ?_
 refine gn hK4 ?_
 refine we_block ?_
 have hS4 := hS3.asRow (α := HExpr) (c := 1) ([(⟨x0_0, x0_1, ⟨A0_2, l0_2.length, c0_2⟩⟩ : HExpr)] : List HExpr) (Nat.le_refl _) (by decide) rfl rfl
 have hd3 : DRows (Zand Z wf1) ([(⟨x0_0, x0_1, ⟨A0_2, l0_2.length, c0_2⟩⟩ : HExpr)] : List HExpr) ([(⟨x0_0, x0_1, l0_2⟩ : SExpr)] : List SExpr) := (DRows.add (DRows.nil _) (SExpr.mkZ (⟨x0_0, x0_1, l0_2⟩ : SExpr) hL0_2 (hR0_2.up (ZLe.in _ _))))
 have hS5 := hS4.bring 2 rfl
 have hS6 := hS5.bring 1 rfl
 have hS7 := hS6.takeN 2
 rcases hq2 : iter (punctualref_nodes.r0 l0_2 x1 rec_punctualref_nodes) K (([(⟨x0_0, x0_1, l0_2⟩ : SExpr)] : List SExpr), 0) with _ | (m3 | rr1)
 ·rw [hq2] at h; cases h
 ·rw [hq2] at h
  simp only [] at h
  refine we_iter (A := punctualref_nodes.A0 w0 Z l0_2 A0_2 c0_2 x1 wf1) (B := punctualref_nodes.B0 w0 Z wf1) hq2 (fun a hF => ⟨ft1, wf1, (.slice (some ⟨b2, 0, none⟩) ([(⟨x0_0, x0_1, l0_2⟩ : SExpr)] : List SExpr).length 1), ([(⟨x0_0, x0_1, ⟨A0_2, l0_2.length, c0_2⟩⟩ : HExpr)] : List HExpr), (Sub.refl _), hd3, hS7, hF.weaken ea⟩) (fun s o hf a w hA Q hQ => punctualref_nodes_r0 K w0 Z x0_0 x0_1 l0_2 A0_2 c0_2 x1 hZ hR0_2 hL0_2 rec_punctualref_nodes hr_punctualref_nodes ft1 wf1 b1 b2 s o hf a w hA Q hQ) ?_
  rintro _ a w7 _ ⟨rfl, ft7, wf7, v5, hds5, hRz1, hRz2, hS29, hF⟩
  replace hS29 : St w0 w7 [Own.of v5 45 hds5, Own.frz ft7 wf7] := hS29
  refine hK3 [(5, v5)] w7 ?_ a hF
  refine ws fun K12 hK12 => ?_
  refine wr [(0, 0), (1, 0)] ?_
  refine gb0 [0, 1] [(4, v5), (28, v5)] ?_
  refine gn hK12 ?_
  have hS30 := hS29.bring 1 rfl
  have hS31 := hS30.bring 1 rfl
  obtain rfl := si h
  exact we_ret (pr0 [.tmp 4] [v5] ⟨v5, hds5, ft7, wf7, rfl, hRz2, hS31⟩)
 ·rw [hq2] at h
  simp only [] at h
  refine we_iter (A := punctualref_nodes.A0 w0 Z l0_2 A0_2 c0_2 x1 wf1) (B := punctualref_nodes.B0 w0 Z wf1) hq2 (fun a hF => ⟨ft1, wf1, (.slice (some ⟨b2, 0, none⟩) ([(⟨x0_0, x0_1, l0_2⟩ : SExpr)] : List SExpr).length 1), ([(⟨x0_0, x0_1, ⟨A0_2, l0_2.length, c0_2⟩⟩ : HExpr)] : List HExpr), (Sub.refl _), hd3, hS7, hF.weaken ea⟩) (fun s o hf a w hA Q hQ => punctualref_nodes_r0 K w0 Z x0_0 x0_1 l0_2 A0_2 c0_2 x1 hZ hR0_2 hL0_2 rec_punctualref_nodes hr_punctualref_nodes ft1 wf1 b1 b2 s o hf a w hA Q hQ) ?_
  rintro _ a w1 _ ⟨rfl, hb⟩
  obtain rfl := si h
  exact hb
def punctualref_nodes.recs (K : Nat) : Nat → (Int → Int → (List SExpr) → Int → Option (List SExpr))
 | 0 => fun _ _ _ _ => none
 | n + 1 => punctualref_nodes.b K (punctualref_nodes.recs K n)
theorem punctualref_nodes_all (K n : Nat) : punctualref_nodes.Rec (punctualref_nodes.recs K n) := by
 induction n with
 | zero => exact (by unfold punctualref_nodes.Rec; intros; rename_i h; cases (show none = some _ from h))
 | succ n ih => exact punctualref_nodes_step K _ ih
def punctualref_nodes.f (K : Nat) (x0_0 : Int) (x0_1 : Int) (l0_2 : List SExpr) (x1 : Int) : Option (List SExpr) := (punctualref_nodes.recs K K) x0_0 x0_1 l0_2 x1
theorem punctualref_nodes_ok (K : Nat) (Z : Zone) (x0_0 : Int) (x0_1 : Int) (l0_2 : List SExpr) (A0_2 : Option Addr) (c0_2 : Nat) (x1 : Int) (w0 : World) (hZ : ∀ w, Sub w0 w → Z w) (hR0_2 : RdZ Z A0_2 l0_2) (hL0_2 : l0_2.length ≤ c0_2) (r : List SExpr) (h : punctualref_nodes.f K x0_0 x0_1 l0_2 x1 = some r) : Calls Try.prog 98 #[.agg #[vI x0_0, vI x0_1, .slice A0_2 l0_2.length c0_2], vI x1] w0 (punctualref_nodes.Post w0 Z r) := (punctualref_nodes_all K K) Z x0_0 x0_1 l0_2 A0_2 c0_2 x1 w0 hZ hR0_2 hL0_2 r h

/-! punctual/punctualref.wrongExpr -/
abbrev punctualref_wrongExpr.Post (w0 : World) (r : Int) (e : Ending) (w : World) : Prop := e = .returned (vI r) ∧ St w0 w []
def punctualref_wrongExpr.r0 (r1 : List SExpr) : Nat → Option (Nat ⊕ (Unit ⊕ Int))
 | i1 =>
  if (i1 : Int) < (r1.length : Int) then
   match r1[i1]? with
   | none => none
   | some e1 =>
    if (i1 : Int) = 30 then
     some (.inr (.inr 2))
    else
     if ((mget (mset (mset (mset (mset (mset (mset (mset ([] : List (Int × Int)) 1 0) 2 0) 3 0) 4 1) 5 2) 6 2) 7 2) e1.Kind).isSome) = true then
      if (e1.A.length : Int) = ((mget (mset (mset (mset (mset (mset (mset (mset ([] : List (Int × Int)) 1 0) 2 0) 3 0) 4 1) 5 2) 6 2) 7 2) e1.Kind).getD 0) then
       if e1.N < 0 then
        some (.inr (.inr 3))
       else
        if e1.N > ((mget (mset (mset (mset ([] : List (Int × Int)) 1 999999999) 2 7) 3 3) e1.Kind).getD 0) then
         some (.inr (.inr 3))
        else
         some (.inl (i1 + 1))
      else
       some (.inr (.inr 6))
     else
      some (.inr (.inr 6))
  else
   some (.inr (.inl ()))
def punctualref_wrongExpr.f (K : Nat) (x0_0 : Int) (x0_1 : Int) (l0_2 : List SExpr) : Option Int :=
 match punctualref_nodes.f K x0_0 x0_1 l0_2 31 with
 | none => none
 | some r1 =>
  match iter (punctualref_wrongExpr.r0 r1) K 0 with
  | none => none
  | some (.inl _) =>
   some 0
  | some (.inr rr1) =>
   some rr1
abbrev punctualref_wrongExpr.A0 (w0 : World) (r1 : List SExpr) (Z1 : Option Addr) (cz1 : Nat) (wf4 : World) : Nat → Act → World → Prop := fun (s : Nat) a w => ∃ (ft5 : List Nat) (wf5 : World), Sub wf4 wf5 ∧ St w0 w [Own.frz ft5 wf5] ∧ Frm 50 a [(9, .slice Z1 r1.length cz1), (10, vI (r1.length : Int)), (11, vI (s : Int))]
abbrev punctualref_wrongExpr.B0 (w0 : World) (wf4 : World) : (Unit ⊕ Int) → Exit → Act → World → Prop := Exits 0 (fun (s : Unit) a w => ∃ (ft6 : List Nat) (wf6 : World), Sub wf4 wf6 ∧ St w0 w [Own.frz ft6 wf6] ∧ Frm 50 a []) (Rets Try.prog Try.f79 (punctualref_wrongExpr.Post w0))
theorem punctualref_wrongExpr_r0 (K : Nat) (w0 : World) (Z : Zone) (x0_0 : Int) (x0_1 : Int) (l0_2 : List SExpr) (A0_2 : Option Addr) (c0_2 : Nat) (hZ : ∀ w, Sub w0 w → Z w) (hR0_2 : RdZ Z A0_2 l0_2) (hL0_2 : l0_2.length ≤ c0_2) (ft1 : List Nat) (wf1 : World) (b1 : Nat) (r1 : List SExpr) (hds1 : List HExpr) (ft2 : List Nat) (wf2 : World) (ft3 : List Nat) (wf3 : World) (hsb1 : Sub wf2 wf3) (hsb2 : Sub wf1 wf3) (hd1 : DRows (Zand Z wf3) hds1 r1) (Z1 : Option Addr) (cz1 : Nat) (ft4 : List Nat) (wf4 : World) (hsb3 : Sub wf3 wf4) (hRd1 : RdZ (Zand Z wf4) Z1 r1) (hLd1 : r1.length ≤ cz1) (s : Nat) (o : Nat ⊕ (Unit ⊕ Int)) (h : punctualref_wrongExpr.r0 r1 s = some o) (a : Act) (w : World) (hA : punctualref_wrongExpr.A0 w0 r1 Z1 cz1 wf4 s a w) (Q : Exit → Act → World → Prop) (hQ : ∀ x a w, Outs (punctualref_wrongExpr.A0 w0 r1 Z1 cz1 wf4) (punctualref_wrongExpr.B0 w0 wf4) o x a w → Q x a w) : (subF Try.f79 [1, 0, 1, 0, 0]).wp Try.prog Q a w := by
 obtain ⟨i1, hs⟩ : ∃ z, z = s := ⟨s, rfl⟩
 subst hs
 obtain ⟨ft5, wf5, hsb4, hS, hF⟩ := hA
 replace hS : St w0 w [Own.frz ft5 wf5] := hS
 simp only [punctualref_wrongExpr.r0] at h
 refine (?_ : WE Try.prog 50 (subF Try.f79 [1, 0, 1, 0, 0]) Q [(9, .slice Z1 r1.length cz1), (10, vI (r1.length : Int)), (11, vI (i1 : Int))] w) a hF
 clear hF a
 refine ws fun K4 hK4 => ?_
 refine wr [(0, 0)] ?_
 refine gb0 [0] [(12, .bool (decide ((i1 : Int) < (r1.length : Int))))] ?_
 refine gn hK4 ?_
 refine ws fun K5 hK5 => ?_
 by_cases hc1 : (i1 : Int) < (r1.length : Int)
 ·rw [if_pos hc1] at h
  refine wk 12 (decide ((i1 : Int) < (r1.length : Int))) true (decide_eq_true hc1) ?_
  refine we_true (by kernel_rfl) ?_
  refine we_skip fun a hF => hK5 _ _ ?_ a hF
  refine ws fun K6 hK6 => ?_
  refine we_block ?_
  refine ws fun K7 hK7 => ?_
  refine wr [(0, 0), (1, 0), (2, 0), (3, 1), (4, 0), (5, 2)] ?_
  refine gb0 [0] [(13, vI (i1 : Int))] ?_
  rcases hx2 : r1[i1]? with _ | e1
  ·rw [hx2] at h; cases h
  rw [hx2] at h
  simp only [] at h
  obtain ⟨An1, cn1, hCs1, hLn1, hRn1⟩ := SExpr.getZ hRd1 hx2
  refine gi 14 0 43 45 3 r1.length cz1 (.tmp 9) (.tmp 11) Z1 .i64 (i1 : Int) i1 (hRd1.eqSome ⟨(hZ _ hS.subw), (hsb4.trans (hS.frzSub 0 rfl))⟩ (pos_of_get hx2)) rfl (lt_of_get hx2) ?_
  refine gb [2] [(15, .agg #[vI e1.Kind, vI e1.N, .slice An1 e1.A.length cn1])] [.loaded ⟨blkOf Z1, offOf Z1 + i1 * 3, none⟩ (vI e1.Kind), .loaded ⟨blkOf Z1, offOf Z1 + i1 * 3 + 1, none⟩ (vI e1.N), .loaded ⟨blkOf Z1, offOf Z1 + i1 * 3 + 2, none⟩ (.slice An1 e1.A.length cn1)] ⟨hCs1 _ ⟨(hZ _ hS.subw), (hsb4.trans (hS.frzSub 0 rfl))⟩ 0 _ rfl, hCs1 _ ⟨(hZ _ hS.subw), (hsb4.trans (hS.frzSub 0 rfl))⟩ 1 _ rfl, hCs1 _ ⟨(hZ _ hS.subw), (hsb4.trans (hS.frzSub 0 rfl))⟩ 2 _ rfl, trivial⟩ ?_
  refine gw (some 4) (.cells #[vI 0, vI 0, .slice none 0 0] 45) (fun b => pP b 0) hS fun b2 w3 hx3 hS11 => ?_
  refine gb0 [4] [(3, vI (i1 : Int))] ?_
  refine gs b2 0 #[vI 0, vI 0, .slice none 0 0] 45 [vI e1.Kind, vI e1.N, .slice An1 e1.A.length cn1] hS11 fun w4 hS12 => ?_
  have hS13 := hS12.nc #[vI e1.Kind, vI e1.N, .slice An1 e1.A.length cn1] (by kernel_rfl)
  refine gn hK7 ?_
  refine ws fun K8 hK8 => ?_
  refine ws fun K9 hK9 => ?_
  refine wr [(0, 0), (1, 0)] ?_
  refine gb0 [0, 1] [(17, .bool ((i1 : Int) == 30)), (16, vI (i1 : Int))] ?_
  refine gn hK9 ?_
  by_cases hc2 : (i1 : Int) = 30
  ·rw [if_pos hc2] at h
   refine wk 17 ((i1 : Int) == 30) true (beq_iff_eq.2 hc2) ?_
   refine we_true (by kernel_rfl) ?_
   refine ws fun K10 hK10 => ?_
   refine wr [(0, 0)] ?_
   refine gb0 [0] [(2, vI 2)] ?_
   refine gn hK10 ?_
   have hS14 := hS13.takeN 0
   obtain rfl := si h
   exact we_ret fun a hF => hQ _ _ _ (Outs.out nofun (Exits.on ⟨rfl, (pr0 [.tmp 2] [vI 2] ⟨rfl, hS14⟩) a hF⟩))
  ·rw [if_neg hc2] at h
   refine wk 17 ((i1 : Int) == 30) false (beq_eq_false_iff_ne.2 hc2) ?_
   refine we_false (by kernel_rfl) ?_
   refine we_skip fun a hF => hK8 _ _ ?_ a hF
   refine ws fun K11 hK11 => ?_
   refine wr [(0, 1), (1, 2), (2, 2), (3, 2), (4, 2), (5, 2), (6, 2), (7, 2), (8, 0), (9, 0), (10, 0), (11, 0), (12, 0), (13, 0), (14, 0), (15, 0), (16, 0)] ?_
   refine gw (some 19) (.map #[] 0) (fun b => .map (some b)) hS13 fun b3 w5 hx4 hS15 => ?_
   have hS16 := hS15.newMap (κ := Int) (ν := Int)
   refine ge_mapSet (κ := Int) (ν := Int) (b := b3) (ins := true) (mm := 0) (t := 113) (kt := 3) (et := 3) (x := (.tmp 19)) (y := (.const (vI 1))) (u := (.const (vI 0))) (ty := 0) (m := ([] : List (Int × Int))) (k := 1) (v := 0) (vv := vI 0) (by kernel_rfl) (by kernel_rfl) (by kernel_rfl) (by kernel_rfl) rfl (by kernel_rfl) (by kernel_rfl) hS16 fun w6 hS17 => ?_
   refine ge_mapSet (κ := Int) (ν := Int) (b := b3) (ins := true) (mm := 0) (t := 113) (kt := 3) (et := 3) (x := (.tmp 19)) (y := (.const (vI 2))) (u := (.const (vI 0))) (ty := 0) (m := (mset ([] : List (Int × Int)) 1 0)) (k := 2) (v := 0) (vv := vI 0) (by kernel_rfl) (by kernel_rfl) (by kernel_rfl) (by kernel_rfl) rfl (by kernel_rfl) (by kernel_rfl) hS17 fun w7 hS18 => ?_
   refine ge_mapSet (κ := Int) (ν := Int) (b := b3) (ins := true) (mm := 0) (t := 113) (kt := 3) (et := 3) (x := (.tmp 19)) (y := (.const (vI 3))) (u := (.const (vI 0))) (ty := 0) (m := (mset (mset ([] : List (Int × Int)) 1 0) 2 0)) (k := 3) (v := 0) (vv := vI 0) (by kernel_rfl) (by kernel_rfl) (by kernel_rfl) (by kernel_rfl) rfl (by kernel_rfl) (by kernel_rfl) hS18 fun w8 hS19 => ?_
   refine ge_mapSet (κ := Int) (ν := Int) (b := b3) (ins := true) (mm := 0) (t := 113) (kt := 3) (et := 3) (x := (.tmp 19)) (y := (.const (vI 4))) (u := (.const (vI 1))) (ty := 0) (m := (mset (mset (mset ([] : List (Int × Int)) 1 0) 2 0) 3 0)) (k := 4) (v := 1) (vv := vI 1) (by kernel_rfl) (by kernel_rfl) (by kernel_rfl) (by kernel_rfl) rfl (by kernel_rfl) (by kernel_rfl) hS19 fun w9 hS20 => ?_
   refine ge_mapSet (κ := Int) (ν := Int) (b := b3) (ins := true) (mm := 0) (t := 113) (kt := 3) (et := 3) (x := (.tmp 19)) (y := (.const (vI 5))) (u := (.const (vI 2))) (ty := 0) (m := (mset (mset (mset (mset ([] : List (Int × Int)) 1 0) 2 0) 3 0) 4 1)) (k := 5) (v := 2) (vv := vI 2) (by kernel_rfl) (by kernel_rfl) (by kernel_rfl) (by kernel_rfl) rfl (by kernel_rfl) (by kernel_rfl) hS20 fun w10 hS21 => ?_
   refine ge_mapSet (κ := Int) (ν := Int) (b := b3) (ins := true) (mm := 0) (t := 113) (kt := 3) (et := 3) (x := (.tmp 19)) (y := (.const (vI 6))) (u := (.const (vI 2))) (ty := 0) (m := (mset (mset (mset (mset (mset ([] : List (Int × Int)) 1 0) 2 0) 3 0) 4 1) 5 2)) (k := 6) (v := 2) (vv := vI 2) (by kernel_rfl) (by kernel_rfl) (by kernel_rfl) (by kernel_rfl) rfl (by kernel_rfl) (by kernel_rfl) hS21 fun w11 hS22 => ?_
   refine ge_mapSet (κ := Int) (ν := Int) (b := b3) (ins := true) (mm := 0) (t := 113) (kt := 3) (et := 3) (x := (.tmp 19)) (y := (.const (vI 7))) (u := (.const (vI 2))) (ty := 0) (m := (mset (mset (mset (mset (mset (mset ([] : List (Int × Int)) 1 0) 2 0) 3 0) 4 1) 5 2) 6 2)) (k := 7) (v := 2) (vv := vI 2) (by kernel_rfl) (by kernel_rfl) (by kernel_rfl) (by kernel_rfl) rfl (by kernel_rfl) (by kernel_rfl) hS22 fun w12 hS23 => ?_
   refine gb [8, 9, 10] [(22, vI e1.Kind), (21, pP b2 0), (20, .map (some b3))] [.loaded ⟨b2, 0, none⟩ (vI e1.Kind)] ⟨hS23.c 1, trivial⟩ ?_
   refine ge_lookup2 (κ := Int) (ν := Int) (d := 23) (b := b3) (q := 0) (t := 113) (kt := 3) (et := 3) (x := (.tmp 20)) (y := (.tmp 22)) (ty := 160) (m := (mset (mset (mset (mset (mset (mset (mset ([] : List (Int × Int)) 1 0) 2 0) 3 0) 4 1) 5 2) 6 2) 7 2)) (k := e1.Kind) (z := 0) (v := ((mget (mset (mset (mset (mset (mset (mset (mset ([] : List (Int × Int)) 1 0) 2 0) 3 0) 4 1) 5 2) 6 2) 7 2) e1.Kind).getD 0)) (zv := vI 0) (vv := vI ((mget (mset (mset (mset (mset (mset (mset (mset ([] : List (Int × Int)) 1 0) 2 0) 3 0) 4 1) 5 2) 6 2) 7 2) e1.Kind).getD 0)) (by kernel_rfl) (by kernel_rfl) (by kernel_rfl) (by kernel_rfl) (by kernel_rfl) (fun w' => by kernel_rfl) rfl hS23 rfl rfl rfl ?_
   refine gb0 [12, 13, 14, 15, 16] [(6, .bool ((mget (mset (mset (mset (mset (mset (mset (mset ([] : List (Int × Int)) 1 0) 2 0) 3 0) 4 1) 5 2) 6 2) 7 2) e1.Kind).isSome)), (5, vI ((mget (mset (mset (mset (mset (mset (mset (mset ([] : List (Int × Int)) 1 0) 2 0) 3 0) 4 1) 5 2) 6 2) 7 2) e1.Kind).getD 0)), (25, .bool ((mget (mset (mset (mset (mset (mset (mset (mset ([] : List (Int × Int)) 1 0) 2 0) 3 0) 4 1) 5 2) 6 2) 7 2) e1.Kind).isSome)), (24, vI ((mget (mset (mset (mset (mset (mset (mset (mset ([] : List (Int × Int)) 1 0) 2 0) 3 0) 4 1) 5 2) 6 2) 7 2) e1.Kind).getD 0)), (18, .tuple #[vI ((mget (mset (mset (mset (mset (mset (mset (mset ([] : List (Int × Int)) 1 0) 2 0) 3 0) 4 1) 5 2) 6 2) 7 2) e1.Kind).getD 0), .bool ((mget (mset (mset (mset (mset (mset (mset (mset ([] : List (Int × Int)) 1 0) 2 0) 3 0) 4 1) 5 2) 6 2) 7 2) e1.Kind).isSome)])] ?_
   refine gn hK11 ?_
   refine ws fun K12 hK12 => ?_
   refine ws fun K13 hK13 => ?_
   refine wr [(0, 0), (1, 0), (2, 0), (3, 0), (4, 0), (5, 0), (6, 0), (7, 0), (8, 0)] ?_
   refine gb0 [0, 1, 2] [(28, .bool (!((mget (mset (mset (mset (mset (mset (mset (mset ([] : List (Int × Int)) 1 0) 2 0) 3 0) 4 1) 5 2) 6 2) 7 2) e1.Kind).isSome))), (27, .bool (!((mget (mset (mset (mset (mset (mset (mset (mset ([] : List (Int × Int)) 1 0) 2 0) 3 0) 4 1) 5 2) 6 2) 7 2) e1.Kind).isSome))), (26, .bool ((mget (mset (mset (mset (mset (mset (mset (mset ([] : List (Int × Int)) 1 0) 2 0) 3 0) 4 1) 5 2) 6 2) 7 2) e1.Kind).isSome))] ?_
   by_cases hc3 : ((mget (mset (mset (mset (mset (mset (mset (mset ([] : List (Int × Int)) 1 0) 2 0) 3 0) 4 1) 5 2) 6 2) 7 2) e1.Kind).isSome) = true
   ·rw [if_pos hc3] at h
    refine gk 28 (!((mget (mset (mset (mset (mset (mset (mset (mset ([] : List (Int × Int)) 1 0) 2 0) 3 0) 4 1) 5 2) 6 2) 7 2) e1.Kind).isSome)) false (congrArg (fun z => !z) hc3) ?_
    refine gb [3, 4, 5, 6, 7, 8] [(34, .bool ((e1.A.length : Int) != ((mget (mset (mset (mset (mset (mset (mset (mset ([] : List (Int × Int)) 1 0) 2 0) 3 0) 4 1) 5 2) 6 2) 7 2) e1.Kind).getD 0))), (33, .bool ((e1.A.length : Int) != ((mget (mset (mset (mset (mset (mset (mset (mset ([] : List (Int × Int)) 1 0) 2 0) 3 0) 4 1) 5 2) 6 2) 7 2) e1.Kind).getD 0))), (32, vI ((mget (mset (mset (mset (mset (mset (mset (mset ([] : List (Int × Int)) 1 0) 2 0) 3 0) 4 1) 5 2) 6 2) 7 2) e1.Kind).getD 0)), (31, vI (e1.A.length : Int)), (30, .slice An1 e1.A.length cn1), (29, pP b2 2)] [.loaded ⟨b2, 2, none⟩ (.slice An1 e1.A.length cn1)] ⟨hS23.c 1, trivial⟩ ?_
    refine gn hK13 ?_
    by_cases hc4 : (e1.A.length : Int) = ((mget (mset (mset (mset (mset (mset (mset (mset ([] : List (Int × Int)) 1 0) 2 0) 3 0) 4 1) 5 2) 6 2) 7 2) e1.Kind).getD 0)
    ·rw [if_pos hc4] at h
     refine wk 34 ((e1.A.length : Int) != ((mget (mset (mset (mset (mset (mset (mset (mset ([] : List (Int × Int)) 1 0) 2 0) 3 0) 4 1) 5 2) 6 2) 7 2) e1.Kind).getD 0)) false (bne_eq_false_iff_eq.2 hc4) ?_
     refine we_false (by kernel_rfl) ?_
     refine we_skip fun a hF => hK12 _ _ ?_ a hF
     refine ws fun K14 hK14 => ?_
     refine wr [(0, 1), (1, 2), (2, 2), (3, 2), (4, 0), (5, 0), (6, 0), (7, 0), (8, 0)] ?_
     refine gw (some 35) (.map #[] 0) (fun b => .map (some b)) hS23 fun b4 w13 hx5 hS24 => ?_
     have hS25 := hS24.newMap (κ := Int) (ν := Int)
     refine ge_mapSet (κ := Int) (ν := Int) (b := b4) (ins := true) (mm := 0) (t := 113) (kt := 3) (et := 3) (x := (.tmp 35)) (y := (.const (vI 1))) (u := (.const (vI 999999999))) (ty := 0) (m := ([] : List (Int × Int))) (k := 1) (v := 999999999) (vv := vI 999999999) (by kernel_rfl) (by kernel_rfl) (by kernel_rfl) (by kernel_rfl) rfl (by kernel_rfl) (by kernel_rfl) hS25 fun w14 hS26 => ?_
     refine ge_mapSet (κ := Int) (ν := Int) (b := b4) (ins := true) (mm := 0) (t := 113) (kt := 3) (et := 3) (x := (.tmp 35)) (y := (.const (vI 2))) (u := (.const (vI 7))) (ty := 0) (m := (mset ([] : List (Int × Int)) 1 999999999)) (k := 2) (v := 7) (vv := vI 7) (by kernel_rfl) (by kernel_rfl) (by kernel_rfl) (by kernel_rfl) rfl (by kernel_rfl) (by kernel_rfl) hS26 fun w15 hS27 => ?_
     refine ge_mapSet (κ := Int) (ν := Int) (b := b4) (ins := true) (mm := 0) (t := 113) (kt := 3) (et := 3) (x := (.tmp 35)) (y := (.const (vI 3))) (u := (.const (vI 3))) (ty := 0) (m := (mset (mset ([] : List (Int × Int)) 1 999999999) 2 7)) (k := 3) (v := 3) (vv := vI 3) (by kernel_rfl) (by kernel_rfl) (by kernel_rfl) (by kernel_rfl) rfl (by kernel_rfl) (by kernel_rfl) hS27 fun w16 hS28 => ?_
     refine gb [4, 5, 6] [(38, vI e1.Kind), (37, pP b2 0), (36, .map (some b4))] [.loaded ⟨b2, 0, none⟩ (vI e1.Kind)] ⟨hS28.c 2, trivial⟩ ?_
     refine ge_lookup (κ := Int) (ν := Int) (d := 39) (b := b4) (q := 0) (t := 113) (kt := 3) (et := 3) (x := (.tmp 36)) (y := (.tmp 38)) (ty := 3) (m := (mset (mset (mset ([] : List (Int × Int)) 1 999999999) 2 7) 3 3)) (k := e1.Kind) (z := 0) (v := ((mget (mset (mset (mset ([] : List (Int × Int)) 1 999999999) 2 7) 3 3) e1.Kind).getD 0)) (zv := vI 0) (vv := vI ((mget (mset (mset (mset ([] : List (Int × Int)) 1 999999999) 2 7) 3 3) e1.Kind).getD 0)) (by kernel_rfl) (by kernel_rfl) (by kernel_rfl) (by kernel_rfl) (by kernel_rfl) (fun w' => by kernel_rfl) rfl hS28 rfl rfl rfl ?_
     refine gb0 [8] [(7, vI ((mget (mset (mset (mset ([] : List (Int × Int)) 1 999999999) 2 7) 3 3) e1.Kind).getD 0))] ?_
     refine gn hK14 ?_
     refine ws fun K15 hK15 => ?_
     refine wr [(0, 0), (1, 0), (2, 0), (3, 0), (4, 0), (5, 0), (6, 0), (7, 0), (8, 0)] ?_
     refine gb [0, 1, 2, 3] [(43, .bool (decide (e1.N < 0))), (42, .bool (decide (e1.N < 0))), (41, vI e1.N), (40, pP b2 1)] [.loaded ⟨b2, 1, none⟩ (vI e1.N)] ⟨hS28.c 2, trivial⟩ ?_
     by_cases hc5 : e1.N < 0
     ·rw [if_pos hc5] at h
      refine gk 43 (decide (e1.N < 0)) true (decide_eq_true hc5) ?_
      refine gb0 [4, 5, 6, 7, 8] [(48, .bool true), (47, undef), (46, undef), (45, undef), (44, undef)] ?_
      refine gn hK15 ?_
      refine we_true (by kernel_rfl) ?_
      refine ws fun K16 hK16 => ?_
      refine wr [(0, 0)] ?_
      refine gb0 [0] [(2, vI 3)] ?_
      refine gn hK16 ?_
      have hS29 := hS28.takeN 0
      obtain rfl := si h
      exact we_ret fun a hF => hQ _ _ _ (Outs.out nofun (Exits.on ⟨rfl, (pr0 [.tmp 2] [vI 3] ⟨rfl, hS29⟩) a hF⟩))
     ·rw [if_neg hc5] at h
      refine gk 43 (decide (e1.N < 0)) false (decide_eq_false hc5) ?_
      refine gb [4, 5, 6, 7, 8] [(48, .bool (decide (e1.N > ((mget (mset (mset (mset ([] : List (Int × Int)) 1 999999999) 2 7) 3 3) e1.Kind).getD 0)))), (47, .bool (decide (e1.N > ((mget (mset (mset (mset ([] : List (Int × Int)) 1 999999999) 2 7) 3 3) e1.Kind).getD 0)))), (46, vI ((mget (mset (mset (mset ([] : List (Int × Int)) 1 999999999) 2 7) 3 3) e1.Kind).getD 0)), (45, vI e1.N), (44, pP b2 1)] [.loaded ⟨b2, 1, none⟩ (vI e1.N)] ⟨hS28.c 2, trivial⟩ ?_
      refine gn hK15 ?_
      by_cases hc6 : e1.N > ((mget (mset (mset (mset ([] : List (Int × Int)) 1 999999999) 2 7) 3 3) e1.Kind).getD 0)
      ·rw [if_pos hc6] at h
       refine wk 48 (decide (e1.N > ((mget (mset (mset (mset ([] : List (Int × Int)) 1 999999999) 2 7) 3 3) e1.Kind).getD 0))) true (decide_eq_true hc6) ?_
       refine we_true (by kernel_rfl) ?_
       refine ws fun K17 hK17 => ?_
       refine wr [(0, 0)] ?_
       refine gb0 [0] [(2, vI 3)] ?_
       refine gn hK17 ?_
       have hS30 := hS28.takeN 0
       obtain rfl := si h
       exact we_ret fun a hF => hQ _ _ _ (Outs.out nofun (Exits.on ⟨rfl, (pr0 [.tmp 2] [vI 3] ⟨rfl, hS30⟩) a hF⟩))
      ·rw [if_neg hc6] at h
       refine wk 48 (decide (e1.N > ((mget (mset (mset (mset ([] : List (Int × Int)) 1 999999999) 2 7) 3 3) e1.Kind).getD 0))) false (decide_eq_false hc6) ?_
       refine we_false (by kernel_rfl) ?_
       refine we_skip fun a hF => hK6 _ _ ?_ a hF
       refine wr [(0, 0), (1, 0)] ?_
       refine ge_addn (d := 49) (ty := 3) (x := (.tmp 11)) (y := (.const (vI 1))) (t := 3) (t2 := 3) (k := .i64) (m := i1) (by kernel_rfl) (by kernel_rfl) (by kernel_rfl) (by have h0 := RdZ.small hRd1 ⟨(hZ _ hS28.subw), (hsb4.trans (hS28.frzSub 3 rfl))⟩; omega) ?_
       refine gb0 [1] [(11, vI ((i1 + 1 : Nat) : Int))] ?_
       have hS31 := hS28.bring 3 rfl
       have hS32 := hS31.takeN 1
       obtain rfl := si h
       exact ge_nil fun a hF => hQ _ _ _ (Outs.again ⟨ft5, wf5, hsb4, hS32, hF.weaken ea⟩)
    ·rw [if_neg hc4] at h
     refine wk 34 ((e1.A.length : Int) != ((mget (mset (mset (mset (mset (mset (mset (mset ([] : List (Int × Int)) 1 0) 2 0) 3 0) 4 1) 5 2) 6 2) 7 2) e1.Kind).getD 0)) true (bne_iff_ne.2 hc4) ?_
     refine we_true (by kernel_rfl) ?_
     refine ws fun K18 hK18 => ?_
     refine wr [(0, 0)] ?_
     refine gb0 [0] [(2, vI 6)] ?_
     refine gn hK18 ?_
     have hS33 := hS23.takeN 0
     obtain rfl := si h
     exact we_ret fun a hF => hQ _ _ _ (Outs.out nofun (Exits.on ⟨rfl, (pr0 [.tmp 2] [vI 6] ⟨rfl, hS33⟩) a hF⟩))
   ·rw [if_neg hc3] at h
    refine gk 28 (!((mget (mset (mset (mset (mset (mset (mset (mset ([] : List (Int × Int)) 1 0) 2 0) 3 0) 4 1) 5 2) 6 2) 7 2) e1.Kind).isSome)) true (congrArg (fun z => !z) (Bool.eq_false_iff.2 hc3)) ?_
    refine gb0 [3, 4, 5, 6, 7, 8] [(34, .bool true), (33, undef), (32, undef), (31, undef), (30, undef), (29, undef)] ?_
    refine gn hK13 ?_
    refine we_true (by kernel_rfl) ?_
    refine ws fun K19 hK19 => ?_
    refine wr [(0, 0)] ?_
    refine gb0 [0] [(2, vI 6)] ?_
    refine gn hK19 ?_
    have hS34 := hS23.takeN 0
    obtain rfl := si h
    exact we_ret fun a hF => hQ _ _ _ (Outs.out nofun (Exits.on ⟨rfl, (pr0 [.tmp 2] [vI 6] ⟨rfl, hS34⟩) a hF⟩))
 ·rw [if_neg hc1] at h
  refine wk 12 (decide ((i1 : Int) < (r1.length : Int))) false (decide_eq_false hc1) ?_
  refine we_false (by kernel_rfl) ?_
  obtain rfl := si h
  exact we_exit fun a hF => hQ _ _ _ (Outs.out nofun (Exits.here ⟨ft5, wf5, hsb4, hS, hF.weaken trivial⟩))
theorem punctualref_wrongExpr_ok (K : Nat) (Z : Zone) (x0_0 : Int) (x0_1 : Int) (l0_2 : List SExpr) (A0_2 : Option Addr) (c0_2 : Nat) (w0 : World) (hZ : ∀ w, Sub w0 w → Z w) (hR0_2 : RdZ Z A0_2 l0_2) (hL0_2 : l0_2.length ≤ c0_2) (r : Int) (h : punctualref_wrongExpr.f K x0_0 x0_1 l0_2 = some r) :
  Calls Try.prog 79 #[.agg #[vI x0_0, vI x0_1, .slice A0_2 l0_2.length c0_2]] w0 (punctualref_wrongExpr.Post w0 r) := by
 have hS := St.start w0
 unfold punctualref_wrongExpr.f at h
 refine calls_enter (n := 50) (args := [.agg #[vI x0_0, vI x0_1, .slice A0_2 l0_2.length c0_2]]) (fn := Try.f79) rfl rfl rfl rfl ?_
 show WE _ _ _ _ [(0, .agg #[vI x0_0, vI x0_1, .slice A0_2 l0_2.length c0_2])] _
 obtain ⟨ft1, wf1, hS1⟩ := hS.frz0
 refine ws fun K1 hK1 => ?_
 refine wr [(0, 1), (1, 0)] ?_
 refine gw (some 1) (.cells #[vI x0_0, vI x0_1, .slice A0_2 l0_2.length c0_2] 45) (fun b => pP b 0) hS1 fun b1 w1 hx1 hS2 => ?_
 refine gb0 [1] [(2, vI 0)] ?_
 refine gn hK1 ?_
 refine ws fun K2 hK2 => ?_
 refine ws fun K3 hK3 => ?_
 refine wr [(0, 0), (1, 1), (2, 0), (3, 0)] ?_
 rcases hq1 : punctualref_nodes.f K x0_0 x0_1 l0_2 31 with _ | r1
 ·rw [hq1] at h; cases h
 rw [hq1] at h
 simp only [] at h
 refine gb [0] [(8, .agg #[vI x0_0, vI x0_1, .slice A0_2 l0_2.length c0_2])] [.loaded ⟨b1, 0, none⟩ (vI x0_0), .loaded ⟨b1, 1, none⟩ (vI x0_1), .loaded ⟨b1, 2, none⟩ (.slice A0_2 l0_2.length c0_2)] ⟨hS2.c 0, hS2.c 0, hS2.c 0, trivial⟩ ?_
 refine ge_call (d := some 9) (f := 98) (args := #[.agg #[vI x0_0, vI x0_1, .slice A0_2 l0_2.length c0_2], vI 31]) (by kernel_rfl) (punctualref_nodes_ok K (Zand Z wf1) x0_0 x0_1 l0_2 A0_2 c0_2 31 _ (fun w' k => ⟨(hZ w' (hS2.subw.trans k)), (hS2.frzSub 1 rfl).trans k⟩) (hR0_2.up (ZLe.in _ _)) hL0_2 _ hq1) ?_
 rintro _ w2 ⟨v1, hds1, ft2, wf2, rfl, hd1, hS3⟩
 refine ⟨_, rfl, hS3.below, ?_⟩
 have hS4 := hS2.call hS3
 have hS5 := hS4.bring 3 rfl
 have hS6 := hS5.bring 2 rfl
 obtain ⟨ft3, wf3, hsb1, hsb2, hS7⟩ := hS6.frzMerge
 replace hd1 : DRows (Zand Z wf3) hds1 r1 := hd1.up (ZLe.both hsb2 hsb1)
 obtain ⟨Z1, cz1, rfl⟩ := hS7.dopen 1 rfl hd1
 refine gb0 [2, 3] [(11, vI 0), (10, vI (r1.length : Int))] ?_
 refine gn hK3 ?_
 refine we_block ?_
 have hS8 := hS7.bring 1 rfl
 obtain ⟨ft4, wf4, hsb3, -, hRd1, hLd1, hS9⟩ := hS8.dfrz (Z := Z) hd1
 have hS10 := hS9.takeN 1
 rcases hq2 : iter (punctualref_wrongExpr.r0 r1) K 0 with _ | (_ | rr1)
 ·rw [hq2] at h; cases h
 ·rw [hq2] at h
  simp only [] at h
  refine we_iter (A := punctualref_wrongExpr.A0 w0 r1 Z1 cz1 wf4) (B := punctualref_wrongExpr.B0 w0 wf4) hq2 (fun a hF => ⟨ft4, wf4, (Sub.refl _), hS10, hF.weaken ea⟩) (fun s o hf a w hA Q hQ => punctualref_wrongExpr_r0 K w0 Z x0_0 x0_1 l0_2 A0_2 c0_2 hZ hR0_2 hL0_2 ft1 wf1 b1 r1 hds1 ft2 wf2 ft3 wf3 hsb1 hsb2 hd1 Z1 cz1 ft4 wf4 hsb3 hRd1 hLd1 s o hf a w hA Q hQ) ?_
  rintro _ a w17 _ ⟨rfl, ft7, wf7, hRz1, hS35, hF⟩
  replace hS35 : St w0 w17 [Own.frz ft7 wf7] := hS35
  refine hK2 [] w17 ?_ a hF
  refine ws fun K20 hK20 => ?_
  refine wr [(0, 0)] ?_
  refine gb0 [0] [(2, vI 0)] ?_
  refine gn hK20 ?_
  have hS36 := hS35.takeN 0
  obtain rfl := si h
  exact we_ret (pr0 [.tmp 2] [vI 0] ⟨rfl, hS36⟩)
 ·rw [hq2] at h
  simp only [] at h
  refine we_iter (A := punctualref_wrongExpr.A0 w0 r1 Z1 cz1 wf4) (B := punctualref_wrongExpr.B0 w0 wf4) hq2 (fun a hF => ⟨ft4, wf4, (Sub.refl _), hS10, hF.weaken ea⟩) (fun s o hf a w hA Q hQ => punctualref_wrongExpr_r0 K w0 Z x0_0 x0_1 l0_2 A0_2 c0_2 hZ hR0_2 hL0_2 ft1 wf1 b1 r1 hds1 ft2 wf2 ft3 wf3 hsb1 hsb2 hd1 Z1 cz1 ft4 wf4 hsb3 hRd1 hLd1 s o hf a w hA Q hQ) ?_
  rintro _ a w1 _ ⟨rfl, hb⟩
  obtain rfl := si h
  exact hb
end Go.Proofs.Ytnckikjcjgmdlaa.GV
