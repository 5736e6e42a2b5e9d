/- Walks of single functions, written by a program of this work. -/
import Derived.Test.YtlipdmblinjjaaaDoorGWFixedRanks1
namespace Go.Proofs.YtlipdmblinjjaaaDoor.GV
open Go Go.RowKit
set_option linter.unusedVariables false
set_option linter.unusedSimpArgs false
set_option maxRecDepth 100000

/-! slices.symMergeCmpFunc[int] -/
abbrev slices_symMergeCmpFunc_int.Post (w0 : World) (l0 : List Int) (A0 : Option Addr) (c0 : Nat) (x1 : Int) (x2 : Int) (x3 : Int) (bg4_0 : Nat) (bg4_1 : Nat) (lg4_1 : List STask) (Ag4_1 : Option Addr) (cg4_1 : Nat) (LT : List Own) (r : List Int) (e : Ending) (w : World) : Prop := e = .returned (.tuple #[]) ∧ l0.length = r.length ∧ St w0 w [Own.of (.slice A0 r.length c0) 3 r, Own.blk bg4_0 (.cells #[.func (.func 82) #[] #[]] 80 (0, 0)), Own.blk bg4_1 (.cells #[.slice Ag4_1 lg4_1.length cg4_1] 40 (0, 0)), Own.all LT]
def slices_symMergeCmpFunc_int.r0 (l0 : List Int) (x1 : Int) (lg4_1 : List STask) : Int × Int → Option ((Int × Int) ⊕ (Int ⊕ (List Int)))
 | (z1, z2) =>
  if z1 < z2 then
   if 0 ≤ (IntKind.i64.wrap (Int.fdiv (IntKind.u64.wrap (IntKind.i64.wrap (z1 + z2))) (2 ^ 1))) then
    match l0[(IntKind.i64.wrap (Int.fdiv (IntKind.u64.wrap (IntKind.i64.wrap (z1 + z2))) (2 ^ 1))).toNat]? with
    | none => none
    | some e1 =>
     if 0 ≤ x1 then
      match l0[(x1).toNat]? with
      | none => none
      | some e2 =>
       match fixed_ranked_1.f e1 e2 lg4_1 with
       | none => none
       | some r1 =>
        if r1 < 0 then
         some (.inl (IntKind.i64.wrap ((IntKind.i64.wrap (Int.fdiv (IntKind.u64.wrap (IntKind.i64.wrap (z1 + z2))) (2 ^ 1))) + 1), z2))
        else
         some (.inl (z1, IntKind.i64.wrap (Int.fdiv (IntKind.u64.wrap (IntKind.i64.wrap (z1 + z2))) (2 ^ 1))))
     else
      none
   else
    none
  else
   some (.inr (.inl z1))
def slices_symMergeCmpFunc_int.r1 (z4 : Int) : Int × (List Int) → Option ((Int × (List Int)) ⊕ ((List Int) ⊕ (List Int)))
 | (z5, m1) =>
  if z5 < (IntKind.i64.wrap (z4 - 1)) then
   if 0 ≤ (IntKind.i64.wrap (z5 + 1)) then
    match m1[(IntKind.i64.wrap (z5 + 1)).toNat]? with
    | none => none
    | some e3 =>
     if 0 ≤ z5 then
      match m1[(z5).toNat]? with
      | none => none
      | some e4 =>
       match (m1.set ((z5).toNat) e3)[(IntKind.i64.wrap (z5 + 1)).toNat]? with
       | none => none
       | some e5 =>
        some (.inl (IntKind.i64.wrap (z5 + 1), ((m1.set ((z5).toNat) e3).set ((IntKind.i64.wrap (z5 + 1)).toNat) e4)))
     else
      none
   else
    none
  else
   some (.inr (.inl m1))
def slices_symMergeCmpFunc_int.r2 (l0 : List Int) (x2 : Int) (lg4_1 : List STask) : Int × Int → Option ((Int × Int) ⊕ (Int ⊕ (List Int)))
 | (z6, z7) =>
  if z6 < z7 then
   if 0 ≤ x2 then
    match l0[(x2).toNat]? with
    | none => none
    | some e6 =>
     if 0 ≤ (IntKind.i64.wrap (Int.fdiv (IntKind.u64.wrap (IntKind.i64.wrap (z6 + z7))) (2 ^ 1))) then
      match l0[(IntKind.i64.wrap (Int.fdiv (IntKind.u64.wrap (IntKind.i64.wrap (z6 + z7))) (2 ^ 1))).toNat]? with
      | none => none
      | some e7 =>
       match fixed_ranked_1.f e6 e7 lg4_1 with
       | none => none
       | some r2 =>
        if r2 < 0 then
         some (.inl (z6, IntKind.i64.wrap (Int.fdiv (IntKind.u64.wrap (IntKind.i64.wrap (z6 + z7))) (2 ^ 1))))
        else
         some (.inl (IntKind.i64.wrap ((IntKind.i64.wrap (Int.fdiv (IntKind.u64.wrap (IntKind.i64.wrap (z6 + z7))) (2 ^ 1))) + 1), z7))
     else
      none
   else
    none
  else
   some (.inr (.inl z6))
def slices_symMergeCmpFunc_int.r3 (z9 : Int) : Int × (List Int) → Option ((Int × (List Int)) ⊕ ((List Int) ⊕ (List Int)))
 | (z10, m4) =>
  if z10 > z9 then
   if 0 ≤ (IntKind.i64.wrap (z10 - 1)) then
    match m4[(IntKind.i64.wrap (z10 - 1)).toNat]? with
    | none => none
    | some e8 =>
     if 0 ≤ z10 then
      match m4[(z10).toNat]? with
      | none => none
      | some e9 =>
       match (m4.set ((z10).toNat) e8)[(IntKind.i64.wrap (z10 - 1)).toNat]? with
       | none => none
       | some e10 =>
        some (.inl (IntKind.i64.wrap (z10 - 1), ((m4.set ((z10).toNat) e8).set ((IntKind.i64.wrap (z10 - 1)).toNat) e9)))
     else
      none
   else
    none
  else
   some (.inr (.inl m4))
def slices_symMergeCmpFunc_int.p4 (x1 : Int) (x2 : Int) (x3 : Int) : Option ((Int × Int) ⊕ (List Int)) :=
  if x2 > (IntKind.i64.wrap (Int.fdiv (IntKind.u64.wrap (IntKind.i64.wrap (x1 + x3))) (2 ^ 1))) then
   some (.inl (IntKind.i64.wrap ((IntKind.i64.wrap ((IntKind.i64.wrap (Int.fdiv (IntKind.u64.wrap (IntKind.i64.wrap (x1 + x3))) (2 ^ 1))) + x2)) - x3), IntKind.i64.wrap (Int.fdiv (IntKind.u64.wrap (IntKind.i64.wrap (x1 + x3))) (2 ^ 1))))
  else
   some (.inl (x1, x2))
def slices_symMergeCmpFunc_int.r5 (l0 : List Int) (x1 : Int) (x2 : Int) (x3 : Int) (lg4_1 : List STask) : Int × Int → Option ((Int × Int) ⊕ (Int ⊕ (List Int)))
 | (z15, z16) =>
  if z15 < z16 then
   if 0 ≤ (IntKind.i64.wrap ((IntKind.i64.wrap ((IntKind.i64.wrap ((IntKind.i64.wrap (Int.fdiv (IntKind.u64.wrap (IntKind.i64.wrap (x1 + x3))) (2 ^ 1))) + x2)) - 1)) - (IntKind.i64.wrap (Int.fdiv (IntKind.u64.wrap (IntKind.i64.wrap (z15 + z16))) (2 ^ 1))))) then
    match l0[(IntKind.i64.wrap ((IntKind.i64.wrap ((IntKind.i64.wrap ((IntKind.i64.wrap (Int.fdiv (IntKind.u64.wrap (IntKind.i64.wrap (x1 + x3))) (2 ^ 1))) + x2)) - 1)) - (IntKind.i64.wrap (Int.fdiv (IntKind.u64.wrap (IntKind.i64.wrap (z15 + z16))) (2 ^ 1))))).toNat]? with
    | none => none
    | some e11 =>
     if 0 ≤ (IntKind.i64.wrap (Int.fdiv (IntKind.u64.wrap (IntKind.i64.wrap (z15 + z16))) (2 ^ 1))) then
      match l0[(IntKind.i64.wrap (Int.fdiv (IntKind.u64.wrap (IntKind.i64.wrap (z15 + z16))) (2 ^ 1))).toNat]? with
      | none => none
      | some e12 =>
       match fixed_ranked_1.f e11 e12 lg4_1 with
       | none => none
       | some r3 =>
        if r3 < 0 then
         some (.inl (z15, IntKind.i64.wrap (Int.fdiv (IntKind.u64.wrap (IntKind.i64.wrap (z15 + z16))) (2 ^ 1))))
        else
         some (.inl (IntKind.i64.wrap ((IntKind.i64.wrap (Int.fdiv (IntKind.u64.wrap (IntKind.i64.wrap (z15 + z16))) (2 ^ 1))) + 1), z16))
     else
      none
   else
    none
  else
   some (.inr (.inl z15))
def slices_symMergeCmpFunc_int.p6 (K : Nat) (l0 : List Int) (x1 : Int) (x2 : Int) (x3 : Int) (lg4_1 : List STask) (z18 : Int) : Option ((List Int) ⊕ (List Int)) :=
  if z18 < x2 then
   if x2 < (IntKind.i64.wrap ((IntKind.i64.wrap ((IntKind.i64.wrap (Int.fdiv (IntKind.u64.wrap (IntKind.i64.wrap (x1 + x3))) (2 ^ 1))) + x2)) - z18)) then
    match slices_rotateCmpFunc_int.f K l0 z18 x2 (IntKind.i64.wrap ((IntKind.i64.wrap ((IntKind.i64.wrap (Int.fdiv (IntKind.u64.wrap (IntKind.i64.wrap (x1 + x3))) (2 ^ 1))) + x2)) - z18)) lg4_1 with
    | none => none
    | some r4 =>
     some (.inl r4)
   else
    some (.inl l0)
  else
   some (.inl l0)
def slices_symMergeCmpFunc_int.b (K : Nat) (recf : (List Int) → Int → Int → Int → (List STask) → Option (List Int)) (l0 : List Int) (x1 : Int) (x2 : Int) (x3 : Int) (lg4_1 : List STask) : Option (List Int) :=
 if (IntKind.i64.wrap (x2 - x1)) = 1 then
  match iter (slices_symMergeCmpFunc_int.r0 l0 x1 lg4_1) K (x2, x3) with
  | none => none
  | some (.inl z4) =>
   match iter (slices_symMergeCmpFunc_int.r1 z4) K (x1, l0) with
   | none => none
   | some (.inl m3) =>
    some m3
   | some (.inr rr1) =>
    some rr1
  | some (.inr rr2) =>
   some rr2
 else
  if (IntKind.i64.wrap (x3 - x2)) = 1 then
   match iter (slices_symMergeCmpFunc_int.r2 l0 x2 lg4_1) K (x1, x2) with
   | none => none
   | some (.inl z9) =>
    match iter (slices_symMergeCmpFunc_int.r3 z9) K (x2, l0) with
    | none => none
    | some (.inl m6) =>
     some m6
    | some (.inr rr3) =>
     some rr3
   | some (.inr rr4) =>
    some rr4
  else
   match slices_symMergeCmpFunc_int.p4 x1 x2 x3 with
   | none => none
   | some (.inl (z13, z14)) =>
    match iter (slices_symMergeCmpFunc_int.r5 l0 x1 x2 x3 lg4_1) K (z13, z14) with
    | none => none
    | some (.inl z18) =>
     match slices_symMergeCmpFunc_int.p6 K l0 x1 x2 x3 lg4_1 z18 with
     | none => none
     | some (.inl m8) =>
      if x1 < z18 then
       if z18 < (IntKind.i64.wrap (Int.fdiv (IntKind.u64.wrap (IntKind.i64.wrap (x1 + x3))) (2 ^ 1))) then
        match recf m8 x1 z18 (IntKind.i64.wrap (Int.fdiv (IntKind.u64.wrap (IntKind.i64.wrap (x1 + x3))) (2 ^ 1))) lg4_1 with
        | none => none
        | some r5 =>
         if (IntKind.i64.wrap (Int.fdiv (IntKind.u64.wrap (IntKind.i64.wrap (x1 + x3))) (2 ^ 1))) < (IntKind.i64.wrap ((IntKind.i64.wrap ((IntKind.i64.wrap (Int.fdiv (IntKind.u64.wrap (IntKind.i64.wrap (x1 + x3))) (2 ^ 1))) + x2)) - z18)) then
          if (IntKind.i64.wrap ((IntKind.i64.wrap ((IntKind.i64.wrap (Int.fdiv (IntKind.u64.wrap (IntKind.i64.wrap (x1 + x3))) (2 ^ 1))) + x2)) - z18)) < x3 then
           match recf r5 (IntKind.i64.wrap (Int.fdiv (IntKind.u64.wrap (IntKind.i64.wrap (x1 + x3))) (2 ^ 1))) (IntKind.i64.wrap ((IntKind.i64.wrap ((IntKind.i64.wrap (Int.fdiv (IntKind.u64.wrap (IntKind.i64.wrap (x1 + x3))) (2 ^ 1))) + x2)) - z18)) x3 lg4_1 with
           | none => none
           | some r6 =>
            some r6
          else
           some r5
         else
          some r5
       else
        if (IntKind.i64.wrap (Int.fdiv (IntKind.u64.wrap (IntKind.i64.wrap (x1 + x3))) (2 ^ 1))) < (IntKind.i64.wrap ((IntKind.i64.wrap ((IntKind.i64.wrap (Int.fdiv (IntKind.u64.wrap (IntKind.i64.wrap (x1 + x3))) (2 ^ 1))) + x2)) - z18)) then
         if (IntKind.i64.wrap ((IntKind.i64.wrap ((IntKind.i64.wrap (Int.fdiv (IntKind.u64.wrap (IntKind.i64.wrap (x1 + x3))) (2 ^ 1))) + x2)) - z18)) < x3 then
          match recf m8 (IntKind.i64.wrap (Int.fdiv (IntKind.u64.wrap (IntKind.i64.wrap (x1 + x3))) (2 ^ 1))) (IntKind.i64.wrap ((IntKind.i64.wrap ((IntKind.i64.wrap (Int.fdiv (IntKind.u64.wrap (IntKind.i64.wrap (x1 + x3))) (2 ^ 1))) + x2)) - z18)) x3 lg4_1 with
          | none => none
          | some r7 =>
           some r7
         else
          some m8
        else
         some m8
      else
       if (IntKind.i64.wrap (Int.fdiv (IntKind.u64.wrap (IntKind.i64.wrap (x1 + x3))) (2 ^ 1))) < (IntKind.i64.wrap ((IntKind.i64.wrap ((IntKind.i64.wrap (Int.fdiv (IntKind.u64.wrap (IntKind.i64.wrap (x1 + x3))) (2 ^ 1))) + x2)) - z18)) then
        if (IntKind.i64.wrap ((IntKind.i64.wrap ((IntKind.i64.wrap (Int.fdiv (IntKind.u64.wrap (IntKind.i64.wrap (x1 + x3))) (2 ^ 1))) + x2)) - z18)) < x3 then
         match recf m8 (IntKind.i64.wrap (Int.fdiv (IntKind.u64.wrap (IntKind.i64.wrap (x1 + x3))) (2 ^ 1))) (IntKind.i64.wrap ((IntKind.i64.wrap ((IntKind.i64.wrap (Int.fdiv (IntKind.u64.wrap (IntKind.i64.wrap (x1 + x3))) (2 ^ 1))) + x2)) - z18)) x3 lg4_1 with
         | none => none
         | some r8 =>
          some r8
        else
         some m8
       else
        some m8
     | some (.inr rr5) =>
      some rr5
    | some (.inr rr6) =>
     some rr6
   | some (.inr rr7) =>
    some rr7
abbrev slices_symMergeCmpFunc_int.A0 (w0 : World) (l0 : List Int) (A0 : Option Addr) (c0 : Nat) (x1 : Int) (bg4_0 : Nat) (bg4_1 : Nat) (lg4_1 : List STask) (Ag4_1 : Option Addr) (cg4_1 : Nat) (LT : List Own) : (Int × Int) → Act → World → Prop := fun (s : Int × Int) a w => St w0 w [Own.blk bg4_0 (.cells #[.func (.func 82) #[] #[]] 80 (0, 0)), Own.blk bg4_1 (.cells #[.slice Ag4_1 lg4_1.length cg4_1] 40 (0, 0)), Own.of (.slice A0 l0.length c0) 3 l0, Own.all LT] ∧ Frm 220 a [(0, (.slice A0 l0.length c0)), (1, vI x1), (4, .func (.func 101) #[] #[pP bg4_0 0, pP bg4_1 0]), (10, vI s.1), (11, vI s.2)]
abbrev slices_symMergeCmpFunc_int.B0 (w0 : World) (l0 : List Int) (A0 : Option Addr) (c0 : Nat) (x1 : Int) (x2 : Int) (x3 : Int) (bg4_0 : Nat) (bg4_1 : Nat) (lg4_1 : List STask) (Ag4_1 : Option Addr) (cg4_1 : Nat) (LT : List Own) : (Int ⊕ (List Int)) → Exit → Act → World → Prop := Exits 0 (fun (s : Int) a w => St w0 w [Own.blk bg4_0 (.cells #[.func (.func 82) #[] #[]] 80 (0, 0)), Own.blk bg4_1 (.cells #[.slice Ag4_1 lg4_1.length cg4_1] 40 (0, 0)), Own.of (.slice A0 l0.length c0) 3 l0, Own.all LT] ∧ Frm 220 a [(0, (.slice A0 l0.length c0)), (1, vI x1), (4, .func (.func 101) #[] #[pP bg4_0 0, pP bg4_1 0]), (10, vI s)]) (Rets Tryd.prog Tryd.f119 (slices_symMergeCmpFunc_int.Post w0 l0 A0 c0 x1 x2 x3 bg4_0 bg4_1 lg4_1 Ag4_1 cg4_1 LT))
theorem slices_symMergeCmpFunc_int_r0 (K : Nat) (w0 : World) (l0 : List Int) (A0 : Option Addr) (c0 : Nat) (x1 : Int) (x2 : Int) (x3 : Int) (bg4_0 : Nat) (bg4_1 : Nat) (lg4_1 : List STask) (Ag4_1 : Option Addr) (cg4_1 : Nat) (LT : List Own) (hRg4_1 : RdL w0 Ag4_1 lg4_1) (hLg4_1 : lg4_1.length ≤ cg4_1) (recf : (List Int) → Int → Int → Int → (List STask) → Option (List Int)) (hrec : ∀ (l0 : List Int) (A0 : Option Addr) (c0 : Nat) (x1 : Int) (x2 : Int) (x3 : Int) (bg4_0 : Nat) (bg4_1 : Nat) (lg4_1 : List STask) (Ag4_1 : Option Addr) (cg4_1 : Nat) (w0 wE : World) (LT : List Own) (hS : St w0 wE [Own.of (.slice A0 l0.length c0) 3 l0, Own.blk bg4_0 (.cells #[.func (.func 82) #[] #[]] 80 (0, 0)), Own.blk bg4_1 (.cells #[.slice Ag4_1 lg4_1.length cg4_1] 40 (0, 0)), Own.all LT]) (hRg4_1 : RdL w0 Ag4_1 lg4_1) (hLg4_1 : lg4_1.length ≤ cg4_1) (r : List Int) (h : recf l0 x1 x2 x3 lg4_1 = some r), Calls Tryd.prog 119 #[(.slice A0 l0.length c0), vI x1, vI x2, vI x3, .func (.func 101) #[] #[pP bg4_0 0, pP bg4_1 0]] wE (slices_symMergeCmpFunc_int.Post w0 l0 A0 c0 x1 x2 x3 bg4_0 bg4_1 lg4_1 Ag4_1 cg4_1 LT r)) (hc1 : (IntKind.i64.wrap (x2 - x1)) = 1) (s : Int × Int) (o : (Int × Int) ⊕ (Int ⊕ (List Int))) (h : slices_symMergeCmpFunc_int.r0 l0 x1 lg4_1 s = some o) (a : Act) (w : World) (hA : slices_symMergeCmpFunc_int.A0 w0 l0 A0 c0 x1 bg4_0 bg4_1 lg4_1 Ag4_1 cg4_1 LT s a w) (Q : Exit → Act → World → Prop) (hQ : ∀ x a w, Outs (slices_symMergeCmpFunc_int.A0 w0 l0 A0 c0 x1 bg4_0 bg4_1 lg4_1 Ag4_1 cg4_1 LT) (slices_symMergeCmpFunc_int.B0 w0 l0 A0 c0 x1 x2 x3 bg4_0 bg4_1 lg4_1 Ag4_1 cg4_1 LT) o x a w → Q x a w) : (subF Tryd.f119 [0, 1, 0, 1, 1, 0, 0, 0]).wp Tryd.prog Q a w := by
 obtain ⟨z1, z2⟩ := s
 obtain ⟨hS, hF⟩ := hA
 replace hS : St w0 w [Own.blk bg4_0 (.cells #[.func (.func 82) #[] #[]] 80 (0, 0)), Own.blk bg4_1 (.cells #[.slice Ag4_1 lg4_1.length cg4_1] 40 (0, 0)), Own.of (.slice A0 l0.length c0) 3 l0, Own.all LT] := hS
 simp only [slices_symMergeCmpFunc_int.r0] at h
 refine (?_ : WE Tryd.prog 220 (subF Tryd.f119 [0, 1, 0, 1, 1, 0, 0, 0]) Q [(0, (.slice A0 l0.length c0)), (1, vI x1), (4, .func (.func 101) #[] #[pP bg4_0 0, pP bg4_1 0]), (10, vI z1), (11, vI z2)] w) a hF
 clear hF a
 refine ws fun K6 hK6 => ?_
 refine ws fun K7 hK7 => ?_
 refine wr [(0, 0), (1, 0), (2, 0)] ?_
 refine gb0 [0, 1, 2] [(33, .bool (decide (z1 < z2))), (32, vI z2), (31, vI z1)] ?_
 refine gn hK7 ?_
 by_cases hc2 : z1 < z2
 ·rw [if_pos hc2] at h
  refine wk 33 (decide (z1 < z2)) true (decide_eq_true hc2) ?_
  refine we_true (by kernel_rfl) ?_
  refine we_skip fun a hF => hK6 _ _ ?_ a hF
  refine we_block ?_
  refine ws fun K8 hK8 => ?_
  refine wr [(0, 0), (1, 0), (2, 0), (3, 0), (4, 0), (5, 0), (6, 0)] ?_
  refine gb0 [0, 1, 2, 3, 4, 5, 6] [(12, vI (IntKind.i64.wrap (Int.fdiv (IntKind.u64.wrap (IntKind.i64.wrap (z1 + z2))) (2 ^ 1)))), (39, vI (IntKind.i64.wrap (Int.fdiv (IntKind.u64.wrap (IntKind.i64.wrap (z1 + z2))) (2 ^ 1)))), (38, .int .u64 (Int.fdiv (IntKind.u64.wrap (IntKind.i64.wrap (z1 + z2))) (2 ^ 1))), (37, .int .u64 (IntKind.u64.wrap (IntKind.i64.wrap (z1 + z2)))), (36, vI (IntKind.i64.wrap (z1 + z2))), (35, vI z2), (34, vI z1)] ?_
  refine gn hK8 ?_
  refine ws fun K9 hK9 => ?_
  refine we_draws (by kernel_rfl) [(0, 0), (1, 0), (2, 0), (3, 0), (4, 0), (5, 0), (6, 0), (7, 0), (8, 0), (9, 1), (10, 0)] (by kernel_rfl) ?_
  have hS5 := hS.drew
  refine gb0 [0, 1, 2] [(42, vI (IntKind.i64.wrap (Int.fdiv (IntKind.u64.wrap (IntKind.i64.wrap (z1 + z2))) (2 ^ 1)))), (41, (.slice A0 l0.length c0)), (40, .func (.func 101) #[] #[pP bg4_0 0, pP bg4_1 0])] ?_
  by_cases hc3 : 0 ≤ (IntKind.i64.wrap (Int.fdiv (IntKind.u64.wrap (IntKind.i64.wrap (z1 + z2))) (2 ^ 1)))
  ·rw [if_pos hc3] at h
   rcases hx1 : l0[(IntKind.i64.wrap (Int.fdiv (IntKind.u64.wrap (IntKind.i64.wrap (z1 + z2))) (2 ^ 1))).toNat]? with _ | e1
   ·rw [hx1] at h; cases h
   rw [hx1] at h
   simp only [] at h
   refine gi 43 0 23 3 1 l0.length c0 (.tmp 41) (.tmp 42) A0 .i64 (IntKind.i64.wrap (Int.fdiv (IntKind.u64.wrap (IntKind.i64.wrap (z1 + z2))) (2 ^ 1))) ((IntKind.i64.wrap (Int.fdiv (IntKind.u64.wrap (IntKind.i64.wrap (z1 + z2))) (2 ^ 1))).toNat) ((hS5.rdAt 2 rfl).eqSome (pos_of_get hx1)) (Int.toNat_of_nonneg hc3).symm (lt_of_get hx1) ?_
   refine gb [4, 5, 6] [(46, vI x1), (45, (.slice A0 l0.length c0)), (44, vI e1)] [.loaded ⟨blkOf A0, offOf A0 + ((IntKind.i64.wrap (Int.fdiv (IntKind.u64.wrap (IntKind.i64.wrap (z1 + z2))) (2 ^ 1))).toNat) * 1, none⟩ (vI e1)] ⟨RdL.cell (j := 0) (hS5.rdAt 2 rfl) hx1 rfl, trivial⟩ ?_
   by_cases hc4 : 0 ≤ x1
   ·rw [if_pos hc4] at h
    rcases hx2 : l0[(x1).toNat]? with _ | e2
    ·rw [hx2] at h; cases h
    rw [hx2] at h
    simp only [] at h
    refine gi 47 0 23 3 1 l0.length c0 (.tmp 45) (.tmp 46) A0 .i64 x1 ((x1).toNat) ((hS5.rdAt 2 rfl).eqSome (pos_of_get hx2)) (Int.toNat_of_nonneg hc4).symm (lt_of_get hx2) ?_
    rcases hq1 : fixed_ranked_1.f e1 e2 lg4_1 with _ | r1
    ·rw [hq1] at h; cases h
    rw [hq1] at h
    simp only [] at h
    refine gb [8] [(48, vI e2)] [.loaded ⟨blkOf A0, offOf A0 + ((x1).toNat) * 1, none⟩ (vI e2)] ⟨RdL.cell (j := 0) (hS5.rdAt 2 rfl) hx2 rfl, trivial⟩ ?_
    refine ge_call (d := some 49) (f := 101) (args := #[vI e1, vI e2, pP bg4_0 0, pP bg4_1 0]) (by kernel_rfl) (fixed_ranked_1_ok e1 e2 bg4_0 bg4_1 lg4_1 Ag4_1 cg4_1 _ (hS5.globOf 0 rfl) (hS5.rd hRg4_1) hLg4_1 (hS5.globOf 1 rfl) _ hq1) ?_
    rintro _ w1 ⟨rfl, hS6⟩
    refine ⟨_, rfl, hS6.below, ?_⟩
    have hS7 := hS5.call hS6
    refine gb0 [10] [(50, .bool (decide (r1 < 0)))] ?_
    refine gn hK9 ?_
    by_cases hc5 : r1 < 0
    ·rw [if_pos hc5] at h
     refine wk 50 (decide (r1 < 0)) true (decide_eq_true hc5) ?_
     refine we_true (by kernel_rfl) ?_
     refine wr [(0, 0), (1, 0), (2, 0)] ?_
     refine gb0 [0, 1, 2] [(10, vI (IntKind.i64.wrap ((IntKind.i64.wrap (Int.fdiv (IntKind.u64.wrap (IntKind.i64.wrap (z1 + z2))) (2 ^ 1))) + 1))), (52, vI (IntKind.i64.wrap ((IntKind.i64.wrap (Int.fdiv (IntKind.u64.wrap (IntKind.i64.wrap (z1 + z2))) (2 ^ 1))) + 1))), (51, vI (IntKind.i64.wrap (Int.fdiv (IntKind.u64.wrap (IntKind.i64.wrap (z1 + z2))) (2 ^ 1))))] ?_
     have hS8 := hS7.bring 3 rfl
     have hS9 := hS8.bring 3 rfl
     have hS10 := hS9.bring 3 rfl
     have hS11 := hS10.bring 3 rfl
     obtain rfl := si h
     exact ge_nil fun a hF => hQ _ _ _ (Outs.again ⟨hS11, hF.weaken ea⟩)
    ·rw [if_neg hc5] at h
     refine wk 50 (decide (r1 < 0)) false (decide_eq_false hc5) ?_
     refine we_false (by kernel_rfl) ?_
     refine wr [(0, 0), (1, 0)] ?_
     refine gb0 [0, 1] [(11, vI (IntKind.i64.wrap (Int.fdiv (IntKind.u64.wrap (IntKind.i64.wrap (z1 + z2))) (2 ^ 1)))), (53, vI (IntKind.i64.wrap (Int.fdiv (IntKind.u64.wrap (IntKind.i64.wrap (z1 + z2))) (2 ^ 1))))] ?_
     have hS12 := hS7.bring 3 rfl
     have hS13 := hS12.bring 3 rfl
     have hS14 := hS13.bring 3 rfl
     have hS15 := hS14.bring 3 rfl
     obtain rfl := si h
     exact ge_nil fun a hF => hQ _ _ _ (Outs.again ⟨hS15, hF.weaken ea⟩)
   ·rw [if_neg hc4] at h
    cases h
  ·rw [if_neg hc3] at h
   cases h
 ·rw [if_neg hc2] at h
  refine wk 33 (decide (z1 < z2)) false (decide_eq_false hc2) ?_
  refine we_false (by kernel_rfl) ?_
  have hS16 := hS.bring 3 rfl
  have hS17 := hS16.bring 3 rfl
  have hS18 := hS17.bring 3 rfl
  have hS19 := hS18.bring 3 rfl
  obtain rfl := si h
  exact we_exit fun a hF => hQ _ _ _ (Outs.out nofun (Exits.here ⟨hS19, hF.weaken ea⟩))
abbrev slices_symMergeCmpFunc_int.A1 (w0 : World) (l0 : List Int) (A0 : Option Addr) (c0 : Nat) (bg4_0 : Nat) (bg4_1 : Nat) (lg4_1 : List STask) (Ag4_1 : Option Addr) (cg4_1 : Nat) (LT : List Own) (z4 : Int) : (Int × (List Int)) → Act → World → Prop := fun (s : Int × (List Int)) a w => l0.length = s.2.length ∧ St w0 w [Own.blk bg4_0 (.cells #[.func (.func 82) #[] #[]] 80 (0, 0)), Own.blk bg4_1 (.cells #[.slice Ag4_1 lg4_1.length cg4_1] 40 (0, 0)), Own.of (.slice A0 s.2.length c0) 3 s.2, Own.all LT] ∧ Frm 220 a [(0, (.slice A0 s.2.length c0)), (4, .func (.func 101) #[] #[pP bg4_0 0, pP bg4_1 0]), (10, vI z4), (13, vI s.1)]
abbrev slices_symMergeCmpFunc_int.B1 (w0 : World) (l0 : List Int) (A0 : Option Addr) (c0 : Nat) (x1 : Int) (x2 : Int) (x3 : Int) (bg4_0 : Nat) (bg4_1 : Nat) (lg4_1 : List STask) (Ag4_1 : Option Addr) (cg4_1 : Nat) (LT : List Own) : ((List Int) ⊕ (List Int)) → Exit → Act → World → Prop := Exits 2 (fun (s : (List Int)) a w => l0.length = s.length ∧ St w0 w [Own.blk bg4_0 (.cells #[.func (.func 82) #[] #[]] 80 (0, 0)), Own.blk bg4_1 (.cells #[.slice Ag4_1 lg4_1.length cg4_1] 40 (0, 0)), Own.of (.slice A0 s.length c0) 3 s, Own.all LT] ∧ Frm 220 a [(0, (.slice A0 s.length c0)), (4, .func (.func 101) #[] #[pP bg4_0 0, pP bg4_1 0])]) (Rets Tryd.prog Tryd.f119 (slices_symMergeCmpFunc_int.Post w0 l0 A0 c0 x1 x2 x3 bg4_0 bg4_1 lg4_1 Ag4_1 cg4_1 LT))
theorem slices_symMergeCmpFunc_int_r1 (K : Nat) (w0 : World) (l0 : List Int) (A0 : Option Addr) (c0 : Nat) (x1 : Int) (x2 : Int) (x3 : Int) (bg4_0 : Nat) (bg4_1 : Nat) (lg4_1 : List STask) (Ag4_1 : Option Addr) (cg4_1 : Nat) (LT : List Own) (hRg4_1 : RdL w0 Ag4_1 lg4_1) (hLg4_1 : lg4_1.length ≤ cg4_1) (recf : (List Int) → Int → Int → Int → (List STask) → Option (List Int)) (hrec : ∀ (l0 : List Int) (A0 : Option Addr) (c0 : Nat) (x1 : Int) (x2 : Int) (x3 : Int) (bg4_0 : Nat) (bg4_1 : Nat) (lg4_1 : List STask) (Ag4_1 : Option Addr) (cg4_1 : Nat) (w0 wE : World) (LT : List Own) (hS : St w0 wE [Own.of (.slice A0 l0.length c0) 3 l0, Own.blk bg4_0 (.cells #[.func (.func 82) #[] #[]] 80 (0, 0)), Own.blk bg4_1 (.cells #[.slice Ag4_1 lg4_1.length cg4_1] 40 (0, 0)), Own.all LT]) (hRg4_1 : RdL w0 Ag4_1 lg4_1) (hLg4_1 : lg4_1.length ≤ cg4_1) (r : List Int) (h : recf l0 x1 x2 x3 lg4_1 = some r), Calls Tryd.prog 119 #[(.slice A0 l0.length c0), vI x1, vI x2, vI x3, .func (.func 101) #[] #[pP bg4_0 0, pP bg4_1 0]] wE (slices_symMergeCmpFunc_int.Post w0 l0 A0 c0 x1 x2 x3 bg4_0 bg4_1 lg4_1 Ag4_1 cg4_1 LT r)) (hc1 : (IntKind.i64.wrap (x2 - x1)) = 1) (z4 : Int) (s : Int × (List Int)) (o : (Int × (List Int)) ⊕ ((List Int) ⊕ (List Int))) (h : slices_symMergeCmpFunc_int.r1 z4 s = some o) (a : Act) (w : World) (hA : slices_symMergeCmpFunc_int.A1 w0 l0 A0 c0 bg4_0 bg4_1 lg4_1 Ag4_1 cg4_1 LT z4 s a w) (Q : Exit → Act → World → Prop) (hQ : ∀ x a w, Outs (slices_symMergeCmpFunc_int.A1 w0 l0 A0 c0 bg4_0 bg4_1 lg4_1 Ag4_1 cg4_1 LT z4) (slices_symMergeCmpFunc_int.B1 w0 l0 A0 c0 x1 x2 x3 bg4_0 bg4_1 lg4_1 Ag4_1 cg4_1 LT) o x a w → Q x a w) : (subF Tryd.f119 [0, 1, 0, 1, 1, 1, 0, 1, 0, 0]).wp Tryd.prog Q a w := by
 obtain ⟨z5, m1⟩ := s
 obtain ⟨hLio1, hS, hF⟩ := hA
 replace hS : St w0 w [Own.blk bg4_0 (.cells #[.func (.func 82) #[] #[]] 80 (0, 0)), Own.blk bg4_1 (.cells #[.slice Ag4_1 lg4_1.length cg4_1] 40 (0, 0)), Own.of (.slice A0 m1.length c0) 3 m1, Own.all LT] := hS
 simp only [slices_symMergeCmpFunc_int.r1] at h
 refine (?_ : WE Tryd.prog 220 (subF Tryd.f119 [0, 1, 0, 1, 1, 1, 0, 1, 0, 0]) Q [(0, (.slice A0 m1.length c0)), (4, .func (.func 101) #[] #[pP bg4_0 0, pP bg4_1 0]), (10, vI z4), (13, vI z5)] w) a hF
 clear hF a
 refine ws fun K12 hK12 => ?_
 refine ws fun K13 hK13 => ?_
 refine wr [(0, 0), (1, 0), (2, 0), (3, 0)] ?_
 refine gb0 [0, 1, 2, 3] [(58, .bool (decide (z5 < (IntKind.i64.wrap (z4 - 1))))), (57, vI (IntKind.i64.wrap (z4 - 1))), (56, vI z4), (55, vI z5)] ?_
 refine gn hK13 ?_
 by_cases hc6 : z5 < (IntKind.i64.wrap (z4 - 1))
 ·rw [if_pos hc6] at h
  refine wk 58 (decide (z5 < (IntKind.i64.wrap (z4 - 1)))) true (decide_eq_true hc6) ?_
  refine we_true (by kernel_rfl) ?_
  refine we_skip fun a hF => hK12 _ _ ?_ a hF
  refine ws fun K14 hK14 => ?_
  refine we_block ?_
  refine we_orders2 (by kernel_rfl) [(9, [⟨blkOf A0, offOf A0 + ((IntKind.i64.wrap (z5 + 1)).toNat) * 1, none⟩]), (13, [⟨blkOf A0, offOf A0 + ((z5).toNat) * 1, none⟩])] (.vals [0] (.vals [1] (.vals [2] (.vals [3] (.vals [4] (.vals [5] (.vals [6] (.vals [7] (.vals [8] (.vals [9] (.vals [10] (.vals [11] (.vals [12] (.vals [13] (.vals [14] (.alt 15 2 (.vals [16] (.alt 17 2 .fin .nomore)) .nomore)))))))))))))))) (by kernel_rfl) ?_
  have hS25 := hS.drew
  refine go2_batch [0, 1, 2, 3, 4, 5, 6, 7] (ans := []) (vs := [(68, vI (IntKind.i64.wrap (z5 + 1))), (67, vI z5), (66, (.slice A0 m1.length c0)), (65, vI (IntKind.i64.wrap (z5 + 1))), (64, vI z5), (63, (.slice A0 m1.length c0)), (62, vI z5), (61, (.slice A0 m1.length c0))]) (l := []) (by kernel_rfl) trivial mem_nil ?_
  by_cases hc7 : 0 ≤ (IntKind.i64.wrap (z5 + 1))
  ·rw [if_pos hc7] at h
   rcases hx3 : m1[(IntKind.i64.wrap (z5 + 1)).toNat]? with _ | e3
   ·rw [hx3] at h; cases h
   rw [hx3] at h
   simp only [] at h
   refine go2_index (d := 69) (ty := 0) (t := 23) (el := 3) (sz := 1) (m := m1.length) (c := c0) (x := (.tmp 66)) (y := (.tmp 68)) (A := A0) (k' := .i64) (j := (IntKind.i64.wrap (z5 + 1))) (jn := ((IntKind.i64.wrap (z5 + 1)).toNat)) (b0 := blkOf A0) (o0 := offOf A0) (by kernel_rfl) (by kernel_rfl) (by kernel_rfl) (by kernel_rfl) (by kernel_rfl) ((hS25.rdAt 2 rfl).eqSome (pos_of_get hx3)) (Int.toNat_of_nonneg hc7).symm (lt_of_get hx3) ?_
   refine go2_batch [9] (ans := [.val (vI e3)]) (vs := [(70, vI e3)]) (l := [.loaded ⟨blkOf A0, offOf A0 + ((IntKind.i64.wrap (z5 + 1)).toNat) * 1, none⟩ (vI e3)]) (by kernel_rfl) ⟨RdL.cell (j := 0) (hS25.rdAt 2 rfl) hx3 rfl, trivial⟩ (mem_one (by kernel_rfl)) ?_
   refine go2_batch [10, 11] (ans := []) (vs := [(72, vI z5), (71, (.slice A0 m1.length c0))]) (l := []) (by kernel_rfl) trivial mem_nil ?_
   by_cases hc8 : 0 ≤ z5
   ·rw [if_pos hc8] at h
    rcases hx4 : m1[(z5).toNat]? with _ | e4
    ·rw [hx4] at h; cases h
    rw [hx4] at h
    simp only [] at h
    refine go2_index (d := 73) (ty := 0) (t := 23) (el := 3) (sz := 1) (m := m1.length) (c := c0) (x := (.tmp 71)) (y := (.tmp 72)) (A := A0) (k' := .i64) (j := z5) (jn := ((z5).toNat)) (b0 := blkOf A0) (o0 := offOf A0) (by kernel_rfl) (by kernel_rfl) (by kernel_rfl) (by kernel_rfl) (by kernel_rfl) ((hS25.rdAt 2 rfl).eqSome (pos_of_get hx4)) (Int.toNat_of_nonneg hc8).symm (lt_of_get hx4) ?_
    refine go2_batch [13] (ans := [.val (vI e4)]) (vs := [(74, vI e4)]) (l := [.loaded ⟨blkOf A0, offOf A0 + ((z5).toNat) * 1, none⟩ (vI e4)]) (by kernel_rfl) ⟨RdL.cell (j := 0) (hS25.rdAt 2 rfl) hx4 rfl, trivial⟩ (mem_one (by kernel_rfl)) ?_
    refine go2_index (d := 75) (ty := 0) (t := 23) (el := 3) (sz := 1) (m := m1.length) (c := c0) (x := (.tmp 61)) (y := (.tmp 62)) (A := A0) (k' := .i64) (j := z5) (jn := ((z5).toNat)) (b0 := blkOf A0) (o0 := offOf A0) (by kernel_rfl) (by kernel_rfl) (by kernel_rfl) (by kernel_rfl) (by kernel_rfl) ((hS25.rdAt 2 rfl).eqSome (pos_of_get hx4)) (Int.toNat_of_nonneg hc8).symm (lt_of_get hx4) ?_
    refine go_alt2 (fun KK hKK => ?_) ?_
    ·have hS26 := hS25.bring 2 rfl
     refine ge_seti (α := Int) (A := A0) (nn := m1.length) (c := c0) (t := 3) (l := m1) (x := e4) (x' := e3) (jn := ((z5).toNat)) (j := 0) (vs := [vI e3]) (l' := [.stored ⟨blkOf A0, offOf A0 + ((z5).toNat) * 1, none⟩ (vI e3)]) hS26 (by kernel_rfl) (by kernel_rfl) hx4 rfl rfl rfl fun w3 hS27 => ?_
     have hS28 : St w0 w3 [Own.of (.slice A0 m1.length c0) 3 (m1.set ((z5).toNat) e3), Own.blk bg4_0 (.cells #[.func (.func 82) #[] #[]] 80 (0, 0)), Own.blk bg4_1 (.cells #[.slice Ag4_1 lg4_1.length cg4_1] 40 (0, 0)), Own.all LT] := hS27
     have hE1 : m1.length = (m1.set ((z5).toNat) e3).length := hS28.lenAt 0 rfl
     have hS29 : St w0 w3 [Own.of (.slice A0 (m1.set ((z5).toNat) e3).length c0) 3 (m1.set ((z5).toNat) e3), Own.blk bg4_0 (.cells #[.func (.func 82) #[] #[]] 80 (0, 0)), Own.blk bg4_1 (.cells #[.slice Ag4_1 lg4_1.length cg4_1] 40 (0, 0)), Own.all LT] := by rw [← hE1]; exact hS28
     refine ge_same (t := 0) (v := (.slice A0 m1.length c0)) (v' := (.slice A0 (m1.set ((z5).toNat) e3).length c0)) (by kernel_rfl) (by rw [hE1]) ?_
     refine ge_same (t := 61) (v := (.slice A0 m1.length c0)) (v' := (.slice A0 (m1.set ((z5).toNat) e3).length c0)) (by kernel_rfl) (by rw [hE1]) ?_
     refine ge_same (t := 63) (v := (.slice A0 m1.length c0)) (v' := (.slice A0 (m1.set ((z5).toNat) e3).length c0)) (by kernel_rfl) (by rw [hE1]) ?_
     refine ge_same (t := 66) (v := (.slice A0 m1.length c0)) (v' := (.slice A0 (m1.set ((z5).toNat) e3).length c0)) (by kernel_rfl) (by rw [hE1]) ?_
     refine ge_same (t := 71) (v := (.slice A0 m1.length c0)) (v' := (.slice A0 (m1.set ((z5).toNat) e3).length c0)) (by kernel_rfl) (by rw [hE1]) ?_
     refine ge_nil fun a hF => hKK _ _ (RS.of2 (l := []) (by kernel_rfl) trivial trivial) ?_ a hF
     rcases hx5 : (m1.set ((z5).toNat) e3)[(IntKind.i64.wrap (z5 + 1)).toNat]? with _ | e5
     ·rw [hx5] at h; cases h
     rw [hx5] at h
     simp only [] at h
     refine go2_index (d := 76) (ty := 0) (t := 23) (el := 3) (sz := 1) (m := (m1.set ((z5).toNat) e3).length) (c := c0) (x := (.tmp 63)) (y := (.tmp 65)) (A := A0) (k' := .i64) (j := (IntKind.i64.wrap (z5 + 1))) (jn := ((IntKind.i64.wrap (z5 + 1)).toNat)) (b0 := blkOf A0) (o0 := offOf A0) (by kernel_rfl) (by kernel_rfl) (by kernel_rfl) (by kernel_rfl) (by kernel_rfl) ((hS29.rdAt 0 rfl).eqSome (pos_of_get hx5)) (Int.toNat_of_nonneg hc7).symm (lt_of_get hx5) ?_
     refine go_alt2 (fun KK hKK => ?_) ?_
     ·refine ge_seti (α := Int) (A := A0) (nn := ((m1.set ((z5).toNat) e3).length)) (c := c0) (t := 3) (l := (m1.set ((z5).toNat) e3)) (x := e5) (x' := e4) (jn := ((IntKind.i64.wrap (z5 + 1)).toNat)) (j := 0) (vs := [vI e4]) (l' := [.stored ⟨blkOf A0, offOf A0 + ((IntKind.i64.wrap (z5 + 1)).toNat) * 1, none⟩ (vI e4)]) hS29 (by kernel_rfl) (by kernel_rfl) hx5 rfl rfl rfl fun w4 hS30 => ?_
      have hS31 : St w0 w4 [Own.of (.slice A0 (m1.set ((z5).toNat) e3).length c0) 3 ((m1.set ((z5).toNat) e3).set ((IntKind.i64.wrap (z5 + 1)).toNat) e4), Own.blk bg4_0 (.cells #[.func (.func 82) #[] #[]] 80 (0, 0)), Own.blk bg4_1 (.cells #[.slice Ag4_1 lg4_1.length cg4_1] 40 (0, 0)), Own.all LT] := hS30
      have hE2 : (m1.set ((z5).toNat) e3).length = ((m1.set ((z5).toNat) e3).set ((IntKind.i64.wrap (z5 + 1)).toNat) e4).length := hS31.lenAt 0 rfl
      have hS32 : St w0 w4 [Own.of (.slice A0 ((m1.set ((z5).toNat) e3).set ((IntKind.i64.wrap (z5 + 1)).toNat) e4).length c0) 3 ((m1.set ((z5).toNat) e3).set ((IntKind.i64.wrap (z5 + 1)).toNat) e4), Own.blk bg4_0 (.cells #[.func (.func 82) #[] #[]] 80 (0, 0)), Own.blk bg4_1 (.cells #[.slice Ag4_1 lg4_1.length cg4_1] 40 (0, 0)), Own.all LT] := by rw [← hE2]; exact hS31
      refine ge_same (t := 0) (v := (.slice A0 (m1.set ((z5).toNat) e3).length c0)) (v' := (.slice A0 ((m1.set ((z5).toNat) e3).set ((IntKind.i64.wrap (z5 + 1)).toNat) e4).length c0)) (by kernel_rfl) (by rw [hE2]) ?_
      refine ge_same (t := 61) (v := (.slice A0 (m1.set ((z5).toNat) e3).length c0)) (v' := (.slice A0 ((m1.set ((z5).toNat) e3).set ((IntKind.i64.wrap (z5 + 1)).toNat) e4).length c0)) (by kernel_rfl) (by rw [hE2]) ?_
      refine ge_same (t := 63) (v := (.slice A0 (m1.set ((z5).toNat) e3).length c0)) (v' := (.slice A0 ((m1.set ((z5).toNat) e3).set ((IntKind.i64.wrap (z5 + 1)).toNat) e4).length c0)) (by kernel_rfl) (by rw [hE2]) ?_
      refine ge_same (t := 66) (v := (.slice A0 (m1.set ((z5).toNat) e3).length c0)) (v' := (.slice A0 ((m1.set ((z5).toNat) e3).set ((IntKind.i64.wrap (z5 + 1)).toNat) e4).length c0)) (by kernel_rfl) (by rw [hE2]) ?_
      refine ge_same (t := 71) (v := (.slice A0 (m1.set ((z5).toNat) e3).length c0)) (v' := (.slice A0 ((m1.set ((z5).toNat) e3).set ((IntKind.i64.wrap (z5 + 1)).toNat) e4).length c0)) (by kernel_rfl) (by rw [hE2]) ?_
      refine ge_nil fun a hF => hKK _ _ (RS.of2 (l := []) (by kernel_rfl) trivial trivial) ?_ a hF
      refine go_fin2 fun a hF => hK14 _ _ ?_ a hF
      refine wr [(0, 0), (1, 0), (2, 0)] ?_
      refine gb0 [0, 1, 2] [(13, vI (IntKind.i64.wrap (z5 + 1))), (60, vI (IntKind.i64.wrap (z5 + 1))), (59, vI z5)] ?_
      have hS33 := hS32.bring 3 rfl
      have hS34 := hS33.bring 1 rfl
      have hS35 := hS34.bring 3 rfl
      have hS36 := hS35.bring 3 rfl
      obtain rfl := si h
      exact ge_nil fun a hF => hQ _ _ _ (Outs.again ⟨(Eq.trans hLio1 (by simp only [List.length_set])), hS36, hF.weaken ea⟩)
     exact go_nomore2
    exact go_nomore2
   ·rw [if_neg hc8] at h
    cases h
  ·rw [if_neg hc7] at h
   cases h
 ·rw [if_neg hc6] at h
  refine wk 58 (decide (z5 < (IntKind.i64.wrap (z4 - 1)))) false (decide_eq_false hc6) ?_
  refine we_false (by kernel_rfl) ?_
  have hS37 := hS.bring 3 rfl
  have hS38 := hS37.bring 3 rfl
  have hS39 := hS38.bring 3 rfl
  have hS40 := hS39.bring 3 rfl
  obtain rfl := si h
  exact we_exit fun a hF => hQ _ _ _ (Outs.out nofun (Exits.here ⟨hLio1, hS40, hF.weaken ea⟩))
abbrev slices_symMergeCmpFunc_int.A2 (w0 : World) (l0 : List Int) (A0 : Option Addr) (c0 : Nat) (x2 : Int) (bg4_0 : Nat) (bg4_1 : Nat) (lg4_1 : List STask) (Ag4_1 : Option Addr) (cg4_1 : Nat) (LT : List Own) : (Int × Int) → Act → World → Prop := fun (s : Int × Int) a w => St w0 w [Own.blk bg4_0 (.cells #[.func (.func 82) #[] #[]] 80 (0, 0)), Own.blk bg4_1 (.cells #[.slice Ag4_1 lg4_1.length cg4_1] 40 (0, 0)), Own.of (.slice A0 l0.length c0) 3 l0, Own.all LT] ∧ Frm 220 a [(0, (.slice A0 l0.length c0)), (2, vI x2), (4, .func (.func 101) #[] #[pP bg4_0 0, pP bg4_1 0]), (14, vI s.1), (15, vI s.2)]
abbrev slices_symMergeCmpFunc_int.B2 (w0 : World) (l0 : List Int) (A0 : Option Addr) (c0 : Nat) (x1 : Int) (x2 : Int) (x3 : Int) (bg4_0 : Nat) (bg4_1 : Nat) (lg4_1 : List STask) (Ag4_1 : Option Addr) (cg4_1 : Nat) (LT : List Own) : (Int ⊕ (List Int)) → Exit → Act → World → Prop := Exits 4 (fun (s : Int) a w => St w0 w [Own.blk bg4_0 (.cells #[.func (.func 82) #[] #[]] 80 (0, 0)), Own.blk bg4_1 (.cells #[.slice Ag4_1 lg4_1.length cg4_1] 40 (0, 0)), Own.of (.slice A0 l0.length c0) 3 l0, Own.all LT] ∧ Frm 220 a [(0, (.slice A0 l0.length c0)), (2, vI x2), (4, .func (.func 101) #[] #[pP bg4_0 0, pP bg4_1 0]), (14, vI s)]) (Rets Tryd.prog Tryd.f119 (slices_symMergeCmpFunc_int.Post w0 l0 A0 c0 x1 x2 x3 bg4_0 bg4_1 lg4_1 Ag4_1 cg4_1 LT))
theorem slices_symMergeCmpFunc_int_r2 (K : Nat) (w0 : World) (l0 : List Int) (A0 : Option Addr) (c0 : Nat) (x1 : Int) (x2 : Int) (x3 : Int) (bg4_0 : Nat) (bg4_1 : Nat) (lg4_1 : List STask) (Ag4_1 : Option Addr) (cg4_1 : Nat) (LT : List Own) (hRg4_1 : RdL w0 Ag4_1 lg4_1) (hLg4_1 : lg4_1.length ≤ cg4_1) (recf : (List Int) → Int → Int → Int → (List STask) → Option (List Int)) (hrec : ∀ (l0 : List Int) (A0 : Option Addr) (c0 : Nat) (x1 : Int) (x2 : Int) (x3 : Int) (bg4_0 : Nat) (bg4_1 : Nat) (lg4_1 : List STask) (Ag4_1 : Option Addr) (cg4_1 : Nat) (w0 wE : World) (LT : List Own) (hS : St w0 wE [Own.of (.slice A0 l0.length c0) 3 l0, Own.blk bg4_0 (.cells #[.func (.func 82) #[] #[]] 80 (0, 0)), Own.blk bg4_1 (.cells #[.slice Ag4_1 lg4_1.length cg4_1] 40 (0, 0)), Own.all LT]) (hRg4_1 : RdL w0 Ag4_1 lg4_1) (hLg4_1 : lg4_1.length ≤ cg4_1) (r : List Int) (h : recf l0 x1 x2 x3 lg4_1 = some r), Calls Tryd.prog 119 #[(.slice A0 l0.length c0), vI x1, vI x2, vI x3, .func (.func 101) #[] #[pP bg4_0 0, pP bg4_1 0]] wE (slices_symMergeCmpFunc_int.Post w0 l0 A0 c0 x1 x2 x3 bg4_0 bg4_1 lg4_1 Ag4_1 cg4_1 LT r)) (hc1 : ¬ ((IntKind.i64.wrap (x2 - x1)) = 1)) (hc9 : (IntKind.i64.wrap (x3 - x2)) = 1) (s : Int × Int) (o : (Int × Int) ⊕ (Int ⊕ (List Int))) (h : slices_symMergeCmpFunc_int.r2 l0 x2 lg4_1 s = some o) (a : Act) (w : World) (hA : slices_symMergeCmpFunc_int.A2 w0 l0 A0 c0 x2 bg4_0 bg4_1 lg4_1 Ag4_1 cg4_1 LT s a w) (Q : Exit → Act → World → Prop) (hQ : ∀ x a w, Outs (slices_symMergeCmpFunc_int.A2 w0 l0 A0 c0 x2 bg4_0 bg4_1 lg4_1 Ag4_1 cg4_1 LT) (slices_symMergeCmpFunc_int.B2 w0 l0 A0 c0 x1 x2 x3 bg4_0 bg4_1 lg4_1 Ag4_1 cg4_1 LT) o x a w → Q x a w) : (subF Tryd.f119 [1, 0, 1, 0, 1, 1, 0, 0, 0]).wp Tryd.prog Q a w := by
 obtain ⟨z6, z7⟩ := s
 obtain ⟨hS, hF⟩ := hA
 replace hS : St w0 w [Own.blk bg4_0 (.cells #[.func (.func 82) #[] #[]] 80 (0, 0)), Own.blk bg4_1 (.cells #[.slice Ag4_1 lg4_1.length cg4_1] 40 (0, 0)), Own.of (.slice A0 l0.length c0) 3 l0, Own.all LT] := hS
 simp only [slices_symMergeCmpFunc_int.r2] at h
 refine (?_ : WE Tryd.prog 220 (subF Tryd.f119 [1, 0, 1, 0, 1, 1, 0, 0, 0]) Q [(0, (.slice A0 l0.length c0)), (2, vI x2), (4, .func (.func 101) #[] #[pP bg4_0 0, pP bg4_1 0]), (14, vI z6), (15, vI z7)] w) a hF
 clear hF a
 refine ws fun K20 hK20 => ?_
 refine ws fun K21 hK21 => ?_
 refine wr [(0, 0), (1, 0), (2, 0)] ?_
 refine gb0 [0, 1, 2] [(85, .bool (decide (z6 < z7))), (84, vI z7), (83, vI z6)] ?_
 refine gn hK21 ?_
 by_cases hc10 : z6 < z7
 ·rw [if_pos hc10] at h
  refine wk 85 (decide (z6 < z7)) true (decide_eq_true hc10) ?_
  refine we_true (by kernel_rfl) ?_
  refine we_skip fun a hF => hK20 _ _ ?_ a hF
  refine we_block ?_
  refine ws fun K22 hK22 => ?_
  refine wr [(0, 0), (1, 0), (2, 0), (3, 0), (4, 0), (5, 0), (6, 0)] ?_
  refine gb0 [0, 1, 2, 3, 4, 5, 6] [(16, vI (IntKind.i64.wrap (Int.fdiv (IntKind.u64.wrap (IntKind.i64.wrap (z6 + z7))) (2 ^ 1)))), (91, vI (IntKind.i64.wrap (Int.fdiv (IntKind.u64.wrap (IntKind.i64.wrap (z6 + z7))) (2 ^ 1)))), (90, .int .u64 (Int.fdiv (IntKind.u64.wrap (IntKind.i64.wrap (z6 + z7))) (2 ^ 1))), (89, .int .u64 (IntKind.u64.wrap (IntKind.i64.wrap (z6 + z7)))), (88, vI (IntKind.i64.wrap (z6 + z7))), (87, vI z7), (86, vI z6)] ?_
  refine gn hK22 ?_
  refine ws fun K23 hK23 => ?_
  refine we_draws (by kernel_rfl) [(0, 0), (1, 0), (2, 0), (3, 0), (4, 0), (5, 0), (6, 0), (7, 0), (8, 0), (9, 1), (10, 0), (11, 0)] (by kernel_rfl) ?_
  have hS50 := hS.drew
  refine gb0 [0, 1, 2] [(94, vI x2), (93, (.slice A0 l0.length c0)), (92, .func (.func 101) #[] #[pP bg4_0 0, pP bg4_1 0])] ?_
  by_cases hc11 : 0 ≤ x2
  ·rw [if_pos hc11] at h
   rcases hx6 : l0[(x2).toNat]? with _ | e6
   ·rw [hx6] at h; cases h
   rw [hx6] at h
   simp only [] at h
   refine gi 95 0 23 3 1 l0.length c0 (.tmp 93) (.tmp 94) A0 .i64 x2 ((x2).toNat) ((hS50.rdAt 2 rfl).eqSome (pos_of_get hx6)) (Int.toNat_of_nonneg hc11).symm (lt_of_get hx6) ?_
   refine gb [4, 5, 6] [(98, vI (IntKind.i64.wrap (Int.fdiv (IntKind.u64.wrap (IntKind.i64.wrap (z6 + z7))) (2 ^ 1)))), (97, (.slice A0 l0.length c0)), (96, vI e6)] [.loaded ⟨blkOf A0, offOf A0 + ((x2).toNat) * 1, none⟩ (vI e6)] ⟨RdL.cell (j := 0) (hS50.rdAt 2 rfl) hx6 rfl, trivial⟩ ?_
   by_cases hc12 : 0 ≤ (IntKind.i64.wrap (Int.fdiv (IntKind.u64.wrap (IntKind.i64.wrap (z6 + z7))) (2 ^ 1)))
   ·rw [if_pos hc12] at h
    rcases hx7 : l0[(IntKind.i64.wrap (Int.fdiv (IntKind.u64.wrap (IntKind.i64.wrap (z6 + z7))) (2 ^ 1))).toNat]? with _ | e7
    ·rw [hx7] at h; cases h
    rw [hx7] at h
    simp only [] at h
    refine gi 99 0 23 3 1 l0.length c0 (.tmp 97) (.tmp 98) A0 .i64 (IntKind.i64.wrap (Int.fdiv (IntKind.u64.wrap (IntKind.i64.wrap (z6 + z7))) (2 ^ 1))) ((IntKind.i64.wrap (Int.fdiv (IntKind.u64.wrap (IntKind.i64.wrap (z6 + z7))) (2 ^ 1))).toNat) ((hS50.rdAt 2 rfl).eqSome (pos_of_get hx7)) (Int.toNat_of_nonneg hc12).symm (lt_of_get hx7) ?_
    rcases hq4 : fixed_ranked_1.f e6 e7 lg4_1 with _ | r2
    ·rw [hq4] at h; cases h
    rw [hq4] at h
    simp only [] at h
    refine gb [8] [(100, vI e7)] [.loaded ⟨blkOf A0, offOf A0 + ((IntKind.i64.wrap (Int.fdiv (IntKind.u64.wrap (IntKind.i64.wrap (z6 + z7))) (2 ^ 1))).toNat) * 1, none⟩ (vI e7)] ⟨RdL.cell (j := 0) (hS50.rdAt 2 rfl) hx7 rfl, trivial⟩ ?_
    refine ge_call (d := some 101) (f := 101) (args := #[vI e6, vI e7, pP bg4_0 0, pP bg4_1 0]) (by kernel_rfl) (fixed_ranked_1_ok e6 e7 bg4_0 bg4_1 lg4_1 Ag4_1 cg4_1 _ (hS50.globOf 0 rfl) (hS50.rd hRg4_1) hLg4_1 (hS50.globOf 1 rfl) _ hq4) ?_
    rintro _ w6 ⟨rfl, hS51⟩
    refine ⟨_, rfl, hS51.below, ?_⟩
    have hS52 := hS50.call hS51
    refine gb0 [10, 11] [(103, .bool (!(decide (r2 < 0)))), (102, .bool (decide (r2 < 0)))] ?_
    refine gn hK23 ?_
    by_cases hc13 : r2 < 0
    ·rw [if_pos hc13] at h
     refine wk 103 (!(decide (r2 < 0))) false (congrArg (fun z => !z) (decide_eq_true hc13)) ?_
     refine we_false (by kernel_rfl) ?_
     refine wr [(0, 0), (1, 0)] ?_
     refine gb0 [0, 1] [(15, vI (IntKind.i64.wrap (Int.fdiv (IntKind.u64.wrap (IntKind.i64.wrap (z6 + z7))) (2 ^ 1)))), (106, vI (IntKind.i64.wrap (Int.fdiv (IntKind.u64.wrap (IntKind.i64.wrap (z6 + z7))) (2 ^ 1))))] ?_
     have hS53 := hS52.bring 3 rfl
     have hS54 := hS53.bring 3 rfl
     have hS55 := hS54.bring 3 rfl
     have hS56 := hS55.bring 3 rfl
     obtain rfl := si h
     exact ge_nil fun a hF => hQ _ _ _ (Outs.again ⟨hS56, hF.weaken ea⟩)
    ·rw [if_neg hc13] at h
     refine wk 103 (!(decide (r2 < 0))) true (congrArg (fun z => !z) (decide_eq_false hc13)) ?_
     refine we_true (by kernel_rfl) ?_
     refine wr [(0, 0), (1, 0), (2, 0)] ?_
     refine gb0 [0, 1, 2] [(14, vI (IntKind.i64.wrap ((IntKind.i64.wrap (Int.fdiv (IntKind.u64.wrap (IntKind.i64.wrap (z6 + z7))) (2 ^ 1))) + 1))), (105, vI (IntKind.i64.wrap ((IntKind.i64.wrap (Int.fdiv (IntKind.u64.wrap (IntKind.i64.wrap (z6 + z7))) (2 ^ 1))) + 1))), (104, vI (IntKind.i64.wrap (Int.fdiv (IntKind.u64.wrap (IntKind.i64.wrap (z6 + z7))) (2 ^ 1))))] ?_
     have hS57 := hS52.bring 3 rfl
     have hS58 := hS57.bring 3 rfl
     have hS59 := hS58.bring 3 rfl
     have hS60 := hS59.bring 3 rfl
     obtain rfl := si h
     exact ge_nil fun a hF => hQ _ _ _ (Outs.again ⟨hS60, hF.weaken ea⟩)
   ·rw [if_neg hc12] at h
    cases h
  ·rw [if_neg hc11] at h
   cases h
 ·rw [if_neg hc10] at h
  refine wk 85 (decide (z6 < z7)) false (decide_eq_false hc10) ?_
  refine we_false (by kernel_rfl) ?_
  have hS61 := hS.bring 3 rfl
  have hS62 := hS61.bring 3 rfl
  have hS63 := hS62.bring 3 rfl
  have hS64 := hS63.bring 3 rfl
  obtain rfl := si h
  exact we_exit fun a hF => hQ _ _ _ (Outs.out nofun (Exits.here ⟨hS64, hF.weaken ea⟩))
abbrev slices_symMergeCmpFunc_int.A3 (w0 : World) (l0 : List Int) (A0 : Option Addr) (c0 : Nat) (bg4_0 : Nat) (bg4_1 : Nat) (lg4_1 : List STask) (Ag4_1 : Option Addr) (cg4_1 : Nat) (LT : List Own) (z9 : Int) : (Int × (List Int)) → Act → World → Prop := fun (s : Int × (List Int)) a w => l0.length = s.2.length ∧ St w0 w [Own.blk bg4_0 (.cells #[.func (.func 82) #[] #[]] 80 (0, 0)), Own.blk bg4_1 (.cells #[.slice Ag4_1 lg4_1.length cg4_1] 40 (0, 0)), Own.of (.slice A0 s.2.length c0) 3 s.2, Own.all LT] ∧ Frm 220 a [(0, (.slice A0 s.2.length c0)), (4, .func (.func 101) #[] #[pP bg4_0 0, pP bg4_1 0]), (14, vI z9), (17, vI s.1)]
abbrev slices_symMergeCmpFunc_int.B3 (w0 : World) (l0 : List Int) (A0 : Option Addr) (c0 : Nat) (x1 : Int) (x2 : Int) (x3 : Int) (bg4_0 : Nat) (bg4_1 : Nat) (lg4_1 : List STask) (Ag4_1 : Option Addr) (cg4_1 : Nat) (LT : List Own) : ((List Int) ⊕ (List Int)) → Exit → Act → World → Prop := Exits 6 (fun (s : (List Int)) a w => l0.length = s.length ∧ St w0 w [Own.blk bg4_0 (.cells #[.func (.func 82) #[] #[]] 80 (0, 0)), Own.blk bg4_1 (.cells #[.slice Ag4_1 lg4_1.length cg4_1] 40 (0, 0)), Own.of (.slice A0 s.length c0) 3 s, Own.all LT] ∧ Frm 220 a [(0, (.slice A0 s.length c0)), (4, .func (.func 101) #[] #[pP bg4_0 0, pP bg4_1 0])]) (Rets Tryd.prog Tryd.f119 (slices_symMergeCmpFunc_int.Post w0 l0 A0 c0 x1 x2 x3 bg4_0 bg4_1 lg4_1 Ag4_1 cg4_1 LT))
theorem slices_symMergeCmpFunc_int_r3 (K : Nat) (w0 : World) (l0 : List Int) (A0 : Option Addr) (c0 : Nat) (x1 : Int) (x2 : Int) (x3 : Int) (bg4_0 : Nat) (bg4_1 : Nat) (lg4_1 : List STask) (Ag4_1 : Option Addr) (cg4_1 : Nat) (LT : List Own) (hRg4_1 : RdL w0 Ag4_1 lg4_1) (hLg4_1 : lg4_1.length ≤ cg4_1) (recf : (List Int) → Int → Int → Int → (List STask) → Option (List Int)) (hrec : ∀ (l0 : List Int) (A0 : Option Addr) (c0 : Nat) (x1 : Int) (x2 : Int) (x3 : Int) (bg4_0 : Nat) (bg4_1 : Nat) (lg4_1 : List STask) (Ag4_1 : Option Addr) (cg4_1 : Nat) (w0 wE : World) (LT : List Own) (hS : St w0 wE [Own.of (.slice A0 l0.length c0) 3 l0, Own.blk bg4_0 (.cells #[.func (.func 82) #[] #[]] 80 (0, 0)), Own.blk bg4_1 (.cells #[.slice Ag4_1 lg4_1.length cg4_1] 40 (0, 0)), Own.all LT]) (hRg4_1 : RdL w0 Ag4_1 lg4_1) (hLg4_1 : lg4_1.length ≤ cg4_1) (r : List Int) (h : recf l0 x1 x2 x3 lg4_1 = some r), Calls Tryd.prog 119 #[(.slice A0 l0.length c0), vI x1, vI x2, vI x3, .func (.func 101) #[] #[pP bg4_0 0, pP bg4_1 0]] wE (slices_symMergeCmpFunc_int.Post w0 l0 A0 c0 x1 x2 x3 bg4_0 bg4_1 lg4_1 Ag4_1 cg4_1 LT r)) (hc1 : ¬ ((IntKind.i64.wrap (x2 - x1)) = 1)) (hc9 : (IntKind.i64.wrap (x3 - x2)) = 1) (z9 : Int) (s : Int × (List Int)) (o : (Int × (List Int)) ⊕ ((List Int) ⊕ (List Int))) (h : slices_symMergeCmpFunc_int.r3 z9 s = some o) (a : Act) (w : World) (hA : slices_symMergeCmpFunc_int.A3 w0 l0 A0 c0 bg4_0 bg4_1 lg4_1 Ag4_1 cg4_1 LT z9 s a w) (Q : Exit → Act → World → Prop) (hQ : ∀ x a w, Outs (slices_symMergeCmpFunc_int.A3 w0 l0 A0 c0 bg4_0 bg4_1 lg4_1 Ag4_1 cg4_1 LT z9) (slices_symMergeCmpFunc_int.B3 w0 l0 A0 c0 x1 x2 x3 bg4_0 bg4_1 lg4_1 Ag4_1 cg4_1 LT) o x a w → Q x a w) : (subF Tryd.f119 [1, 0, 1, 0, 1, 1, 1, 0, 1, 0, 0]).wp Tryd.prog Q a w := by
 obtain ⟨z10, m4⟩ := s
 obtain ⟨hLio3, hS, hF⟩ := hA
 replace hS : St w0 w [Own.blk bg4_0 (.cells #[.func (.func 82) #[] #[]] 80 (0, 0)), Own.blk bg4_1 (.cells #[.slice Ag4_1 lg4_1.length cg4_1] 40 (0, 0)), Own.of (.slice A0 m4.length c0) 3 m4, Own.all LT] := hS
 simp only [slices_symMergeCmpFunc_int.r3] at h
 refine (?_ : WE Tryd.prog 220 (subF Tryd.f119 [1, 0, 1, 0, 1, 1, 1, 0, 1, 0, 0]) Q [(0, (.slice A0 m4.length c0)), (4, .func (.func 101) #[] #[pP bg4_0 0, pP bg4_1 0]), (14, vI z9), (17, vI z10)] w) a hF
 clear hF a
 refine ws fun K26 hK26 => ?_
 refine ws fun K27 hK27 => ?_
 refine wr [(0, 0), (1, 0), (2, 0)] ?_
 refine gb0 [0, 1, 2] [(110, .bool (decide (z10 > z9))), (109, vI z9), (108, vI z10)] ?_
 refine gn hK27 ?_
 by_cases hc14 : z10 > z9
 ·rw [if_pos hc14] at h
  refine wk 110 (decide (z10 > z9)) true (decide_eq_true hc14) ?_
  refine we_true (by kernel_rfl) ?_
  refine we_skip fun a hF => hK26 _ _ ?_ a hF
  refine ws fun K28 hK28 => ?_
  refine we_block ?_
  refine we_orders2 (by kernel_rfl) [(9, [⟨blkOf A0, offOf A0 + ((IntKind.i64.wrap (z10 - 1)).toNat) * 1, none⟩]), (13, [⟨blkOf A0, offOf A0 + ((z10).toNat) * 1, none⟩])] (.vals [0] (.vals [1] (.vals [2] (.vals [3] (.vals [4] (.vals [5] (.vals [6] (.vals [7] (.vals [8] (.vals [9] (.vals [10] (.vals [11] (.vals [12] (.vals [13] (.vals [14] (.alt 15 2 (.vals [16] (.alt 17 2 .fin .nomore)) .nomore)))))))))))))))) (by kernel_rfl) ?_
  have hS70 := hS.drew
  refine go2_batch [0, 1, 2, 3, 4, 5, 6, 7] (ans := []) (vs := [(120, vI (IntKind.i64.wrap (z10 - 1))), (119, vI z10), (118, (.slice A0 m4.length c0)), (117, vI (IntKind.i64.wrap (z10 - 1))), (116, vI z10), (115, (.slice A0 m4.length c0)), (114, vI z10), (113, (.slice A0 m4.length c0))]) (l := []) (by kernel_rfl) trivial mem_nil ?_
  by_cases hc15 : 0 ≤ (IntKind.i64.wrap (z10 - 1))
  ·rw [if_pos hc15] at h
   rcases hx8 : m4[(IntKind.i64.wrap (z10 - 1)).toNat]? with _ | e8
   ·rw [hx8] at h; cases h
   rw [hx8] at h
   simp only [] at h
   refine go2_index (d := 121) (ty := 0) (t := 23) (el := 3) (sz := 1) (m := m4.length) (c := c0) (x := (.tmp 118)) (y := (.tmp 120)) (A := A0) (k' := .i64) (j := (IntKind.i64.wrap (z10 - 1))) (jn := ((IntKind.i64.wrap (z10 - 1)).toNat)) (b0 := blkOf A0) (o0 := offOf A0) (by kernel_rfl) (by kernel_rfl) (by kernel_rfl) (by kernel_rfl) (by kernel_rfl) ((hS70.rdAt 2 rfl).eqSome (pos_of_get hx8)) (Int.toNat_of_nonneg hc15).symm (lt_of_get hx8) ?_
   refine go2_batch [9] (ans := [.val (vI e8)]) (vs := [(122, vI e8)]) (l := [.loaded ⟨blkOf A0, offOf A0 + ((IntKind.i64.wrap (z10 - 1)).toNat) * 1, none⟩ (vI e8)]) (by kernel_rfl) ⟨RdL.cell (j := 0) (hS70.rdAt 2 rfl) hx8 rfl, trivial⟩ (mem_one (by kernel_rfl)) ?_
   refine go2_batch [10, 11] (ans := []) (vs := [(124, vI z10), (123, (.slice A0 m4.length c0))]) (l := []) (by kernel_rfl) trivial mem_nil ?_
   by_cases hc16 : 0 ≤ z10
   ·rw [if_pos hc16] at h
    rcases hx9 : m4[(z10).toNat]? with _ | e9
    ·rw [hx9] at h; cases h
    rw [hx9] at h
    simp only [] at h
    refine go2_index (d := 125) (ty := 0) (t := 23) (el := 3) (sz := 1) (m := m4.length) (c := c0) (x := (.tmp 123)) (y := (.tmp 124)) (A := A0) (k' := .i64) (j := z10) (jn := ((z10).toNat)) (b0 := blkOf A0) (o0 := offOf A0) (by kernel_rfl) (by kernel_rfl) (by kernel_rfl) (by kernel_rfl) (by kernel_rfl) ((hS70.rdAt 2 rfl).eqSome (pos_of_get hx9)) (Int.toNat_of_nonneg hc16).symm (lt_of_get hx9) ?_
    refine go2_batch [13] (ans := [.val (vI e9)]) (vs := [(126, vI e9)]) (l := [.loaded ⟨blkOf A0, offOf A0 + ((z10).toNat) * 1, none⟩ (vI e9)]) (by kernel_rfl) ⟨RdL.cell (j := 0) (hS70.rdAt 2 rfl) hx9 rfl, trivial⟩ (mem_one (by kernel_rfl)) ?_
    refine go2_index (d := 127) (ty := 0) (t := 23) (el := 3) (sz := 1) (m := m4.length) (c := c0) (x := (.tmp 113)) (y := (.tmp 114)) (A := A0) (k' := .i64) (j := z10) (jn := ((z10).toNat)) (b0 := blkOf A0) (o0 := offOf A0) (by kernel_rfl) (by kernel_rfl) (by kernel_rfl) (by kernel_rfl) (by kernel_rfl) ((hS70.rdAt 2 rfl).eqSome (pos_of_get hx9)) (Int.toNat_of_nonneg hc16).symm (lt_of_get hx9) ?_
    refine go_alt2 (fun KK hKK => ?_) ?_
    ·have hS71 := hS70.bring 2 rfl
     refine ge_seti (α := Int) (A := A0) (nn := m4.length) (c := c0) (t := 3) (l := m4) (x := e9) (x' := e8) (jn := ((z10).toNat)) (j := 0) (vs := [vI e8]) (l' := [.stored ⟨blkOf A0, offOf A0 + ((z10).toNat) * 1, none⟩ (vI e8)]) hS71 (by kernel_rfl) (by kernel_rfl) hx9 rfl rfl rfl fun w8 hS72 => ?_
     have hS73 : St w0 w8 [Own.of (.slice A0 m4.length c0) 3 (m4.set ((z10).toNat) e8), Own.blk bg4_0 (.cells #[.func (.func 82) #[] #[]] 80 (0, 0)), Own.blk bg4_1 (.cells #[.slice Ag4_1 lg4_1.length cg4_1] 40 (0, 0)), Own.all LT] := hS72
     have hE3 : m4.length = (m4.set ((z10).toNat) e8).length := hS73.lenAt 0 rfl
     have hS74 : St w0 w8 [Own.of (.slice A0 (m4.set ((z10).toNat) e8).length c0) 3 (m4.set ((z10).toNat) e8), Own.blk bg4_0 (.cells #[.func (.func 82) #[] #[]] 80 (0, 0)), Own.blk bg4_1 (.cells #[.slice Ag4_1 lg4_1.length cg4_1] 40 (0, 0)), Own.all LT] := by rw [← hE3]; exact hS73
     refine ge_same (t := 0) (v := (.slice A0 m4.length c0)) (v' := (.slice A0 (m4.set ((z10).toNat) e8).length c0)) (by kernel_rfl) (by rw [hE3]) ?_
     refine ge_same (t := 113) (v := (.slice A0 m4.length c0)) (v' := (.slice A0 (m4.set ((z10).toNat) e8).length c0)) (by kernel_rfl) (by rw [hE3]) ?_
     refine ge_same (t := 115) (v := (.slice A0 m4.length c0)) (v' := (.slice A0 (m4.set ((z10).toNat) e8).length c0)) (by kernel_rfl) (by rw [hE3]) ?_
     refine ge_same (t := 118) (v := (.slice A0 m4.length c0)) (v' := (.slice A0 (m4.set ((z10).toNat) e8).length c0)) (by kernel_rfl) (by rw [hE3]) ?_
     refine ge_same (t := 123) (v := (.slice A0 m4.length c0)) (v' := (.slice A0 (m4.set ((z10).toNat) e8).length c0)) (by kernel_rfl) (by rw [hE3]) ?_
     refine ge_nil fun a hF => hKK _ _ (RS.of2 (l := []) (by kernel_rfl) trivial trivial) ?_ a hF
     rcases hx10 : (m4.set ((z10).toNat) e8)[(IntKind.i64.wrap (z10 - 1)).toNat]? with _ | e10
     ·rw [hx10] at h; cases h
     rw [hx10] at h
     simp only [] at h
     refine go2_index (d := 128) (ty := 0) (t := 23) (el := 3) (sz := 1) (m := (m4.set ((z10).toNat) e8).length) (c := c0) (x := (.tmp 115)) (y := (.tmp 117)) (A := A0) (k' := .i64) (j := (IntKind.i64.wrap (z10 - 1))) (jn := ((IntKind.i64.wrap (z10 - 1)).toNat)) (b0 := blkOf A0) (o0 := offOf A0) (by kernel_rfl) (by kernel_rfl) (by kernel_rfl) (by kernel_rfl) (by kernel_rfl) ((hS74.rdAt 0 rfl).eqSome (pos_of_get hx10)) (Int.toNat_of_nonneg hc15).symm (lt_of_get hx10) ?_
     refine go_alt2 (fun KK hKK => ?_) ?_
     ·refine ge_seti (α := Int) (A := A0) (nn := ((m4.set ((z10).toNat) e8).length)) (c := c0) (t := 3) (l := (m4.set ((z10).toNat) e8)) (x := e10) (x' := e9) (jn := ((IntKind.i64.wrap (z10 - 1)).toNat)) (j := 0) (vs := [vI e9]) (l' := [.stored ⟨blkOf A0, offOf A0 + ((IntKind.i64.wrap (z10 - 1)).toNat) * 1, none⟩ (vI e9)]) hS74 (by kernel_rfl) (by kernel_rfl) hx10 rfl rfl rfl fun w9 hS75 => ?_
      have hS76 : St w0 w9 [Own.of (.slice A0 (m4.set ((z10).toNat) e8).length c0) 3 ((m4.set ((z10).toNat) e8).set ((IntKind.i64.wrap (z10 - 1)).toNat) e9), Own.blk bg4_0 (.cells #[.func (.func 82) #[] #[]] 80 (0, 0)), Own.blk bg4_1 (.cells #[.slice Ag4_1 lg4_1.length cg4_1] 40 (0, 0)), Own.all LT] := hS75
      have hE4 : (m4.set ((z10).toNat) e8).length = ((m4.set ((z10).toNat) e8).set ((IntKind.i64.wrap (z10 - 1)).toNat) e9).length := hS76.lenAt 0 rfl
      have hS77 : St w0 w9 [Own.of (.slice A0 ((m4.set ((z10).toNat) e8).set ((IntKind.i64.wrap (z10 - 1)).toNat) e9).length c0) 3 ((m4.set ((z10).toNat) e8).set ((IntKind.i64.wrap (z10 - 1)).toNat) e9), Own.blk bg4_0 (.cells #[.func (.func 82) #[] #[]] 80 (0, 0)), Own.blk bg4_1 (.cells #[.slice Ag4_1 lg4_1.length cg4_1] 40 (0, 0)), Own.all LT] := by rw [← hE4]; exact hS76
      refine ge_same (t := 0) (v := (.slice A0 (m4.set ((z10).toNat) e8).length c0)) (v' := (.slice A0 ((m4.set ((z10).toNat) e8).set ((IntKind.i64.wrap (z10 - 1)).toNat) e9).length c0)) (by kernel_rfl) (by rw [hE4]) ?_
      refine ge_same (t := 113) (v := (.slice A0 (m4.set ((z10).toNat) e8).length c0)) (v' := (.slice A0 ((m4.set ((z10).toNat) e8).set ((IntKind.i64.wrap (z10 - 1)).toNat) e9).length c0)) (by kernel_rfl) (by rw [hE4]) ?_
      refine ge_same (t := 115) (v := (.slice A0 (m4.set ((z10).toNat) e8).length c0)) (v' := (.slice A0 ((m4.set ((z10).toNat) e8).set ((IntKind.i64.wrap (z10 - 1)).toNat) e9).length c0)) (by kernel_rfl) (by rw [hE4]) ?_
      refine ge_same (t := 118) (v := (.slice A0 (m4.set ((z10).toNat) e8).length c0)) (v' := (.slice A0 ((m4.set ((z10).toNat) e8).set ((IntKind.i64.wrap (z10 - 1)).toNat) e9).length c0)) (by kernel_rfl) (by rw [hE4]) ?_
      refine ge_same (t := 123) (v := (.slice A0 (m4.set ((z10).toNat) e8).length c0)) (v' := (.slice A0 ((m4.set ((z10).toNat) e8).set ((IntKind.i64.wrap (z10 - 1)).toNat) e9).length c0)) (by kernel_rfl) (by rw [hE4]) ?_
      refine ge_nil fun a hF => hKK _ _ (RS.of2 (l := []) (by kernel_rfl) trivial trivial) ?_ a hF
      refine go_fin2 fun a hF => hK28 _ _ ?_ a hF
      refine wr [(0, 0), (1, 0), (2, 0)] ?_
      refine gb0 [0, 1, 2] [(17, vI (IntKind.i64.wrap (z10 - 1))), (112, vI (IntKind.i64.wrap (z10 - 1))), (111, vI z10)] ?_
      have hS78 := hS77.bring 3 rfl
      have hS79 := hS78.bring 1 rfl
      have hS80 := hS79.bring 3 rfl
      have hS81 := hS80.bring 3 rfl
      obtain rfl := si h
      exact ge_nil fun a hF => hQ _ _ _ (Outs.again ⟨(Eq.trans hLio3 (by simp only [List.length_set])), hS81, hF.weaken ea⟩)
     exact go_nomore2
    exact go_nomore2
   ·rw [if_neg hc16] at h
    cases h
  ·rw [if_neg hc15] at h
   cases h
 ·rw [if_neg hc14] at h
  refine wk 110 (decide (z10 > z9)) false (decide_eq_false hc14) ?_
  refine we_false (by kernel_rfl) ?_
  have hS82 := hS.bring 3 rfl
  have hS83 := hS82.bring 3 rfl
  have hS84 := hS83.bring 3 rfl
  have hS85 := hS84.bring 3 rfl
  obtain rfl := si h
  exact we_exit fun a hF => hQ _ _ _ (Outs.out nofun (Exits.here ⟨hLio3, hS85, hF.weaken ea⟩))
abbrev slices_symMergeCmpFunc_int.A4 (w0 : World) (l0 : List Int) (A0 : Option Addr) (c0 : Nat) (x1 : Int) (x2 : Int) (x3 : Int) (bg4_0 : Nat) (bg4_1 : Nat) (lg4_1 : List STask) (Ag4_1 : Option Addr) (cg4_1 : Nat) (LT : List Own) : (Int × Int) → Act → World → Prop := fun (s : Int × Int) a w => St w0 w [Own.blk bg4_0 (.cells #[.func (.func 82) #[] #[]] 80 (0, 0)), Own.blk bg4_1 (.cells #[.slice Ag4_1 lg4_1.length cg4_1] 40 (0, 0)), Own.of (.slice A0 l0.length c0) 3 l0, Own.all LT] ∧ Frm 220 a [(0, (.slice A0 l0.length c0)), (1, vI x1), (2, vI x2), (3, vI x3), (4, .func (.func 101) #[] #[pP bg4_0 0, pP bg4_1 0]), (18, vI (IntKind.i64.wrap (Int.fdiv (IntKind.u64.wrap (IntKind.i64.wrap (x1 + x3))) (2 ^ 1)))), (19, vI (IntKind.i64.wrap ((IntKind.i64.wrap (Int.fdiv (IntKind.u64.wrap (IntKind.i64.wrap (x1 + x3))) (2 ^ 1))) + x2))), (20, vI s.1), (21, vI s.2)]
abbrev slices_symMergeCmpFunc_int.B4 (w0 : World) (l0 : List Int) (A0 : Option Addr) (c0 : Nat) (x1 : Int) (x2 : Int) (x3 : Int) (bg4_0 : Nat) (bg4_1 : Nat) (lg4_1 : List STask) (Ag4_1 : Option Addr) (cg4_1 : Nat) (LT : List Own) : (List Int) → Exit → Act → World → Prop := Rets Tryd.prog Tryd.f119 (slices_symMergeCmpFunc_int.Post w0 l0 A0 c0 x1 x2 x3 bg4_0 bg4_1 lg4_1 Ag4_1 cg4_1 LT)
theorem slices_symMergeCmpFunc_int_p4 (K : Nat) (w0 : World) (l0 : List Int) (A0 : Option Addr) (c0 : Nat) (x1 : Int) (x2 : Int) (x3 : Int) (bg4_0 : Nat) (bg4_1 : Nat) (lg4_1 : List STask) (Ag4_1 : Option Addr) (cg4_1 : Nat) (LT : List Own) (hRg4_1 : RdL w0 Ag4_1 lg4_1) (hLg4_1 : lg4_1.length ≤ cg4_1) (recf : (List Int) → Int → Int → Int → (List STask) → Option (List Int)) (hrec : ∀ (l0 : List Int) (A0 : Option Addr) (c0 : Nat) (x1 : Int) (x2 : Int) (x3 : Int) (bg4_0 : Nat) (bg4_1 : Nat) (lg4_1 : List STask) (Ag4_1 : Option Addr) (cg4_1 : Nat) (w0 wE : World) (LT : List Own) (hS : St w0 wE [Own.of (.slice A0 l0.length c0) 3 l0, Own.blk bg4_0 (.cells #[.func (.func 82) #[] #[]] 80 (0, 0)), Own.blk bg4_1 (.cells #[.slice Ag4_1 lg4_1.length cg4_1] 40 (0, 0)), Own.all LT]) (hRg4_1 : RdL w0 Ag4_1 lg4_1) (hLg4_1 : lg4_1.length ≤ cg4_1) (r : List Int) (h : recf l0 x1 x2 x3 lg4_1 = some r), Calls Tryd.prog 119 #[(.slice A0 l0.length c0), vI x1, vI x2, vI x3, .func (.func 101) #[] #[pP bg4_0 0, pP bg4_1 0]] wE (slices_symMergeCmpFunc_int.Post w0 l0 A0 c0 x1 x2 x3 bg4_0 bg4_1 lg4_1 Ag4_1 cg4_1 LT r)) (hc1 : ¬ ((IntKind.i64.wrap (x2 - x1)) = 1)) (hc9 : ¬ ((IntKind.i64.wrap (x3 - x2)) = 1)) (o : (Int × Int) ⊕ (List Int)) (h : slices_symMergeCmpFunc_int.p4 x1 x2 x3 = some o) (w : World) (hS : St w0 w [Own.of (.slice A0 l0.length c0) 3 l0, Own.blk bg4_0 (.cells #[.func (.func 82) #[] #[]] 80 (0, 0)), Own.blk bg4_1 (.cells #[.slice Ag4_1 lg4_1.length cg4_1] 40 (0, 0)), Own.all LT]) (Q : Exit → Act → World → Prop) (hQ : ∀ x a w, Outs (slices_symMergeCmpFunc_int.A4 w0 l0 A0 c0 x1 x2 x3 bg4_0 bg4_1 lg4_1 Ag4_1 cg4_1 LT) (slices_symMergeCmpFunc_int.B4 w0 l0 A0 c0 x1 x2 x3 bg4_0 bg4_1 lg4_1 Ag4_1 cg4_1 LT) o x a w → Q x a w) : WE Tryd.prog 220 (subF Tryd.f119 [1, 1, 1, 1, 1, 0]) Q [(0, (.slice A0 l0.length c0)), (1, vI x1), (2, vI x2), (3, vI x3), (4, .func (.func 101) #[] #[pP bg4_0 0, pP bg4_1 0]), (18, vI (IntKind.i64.wrap (Int.fdiv (IntKind.u64.wrap (IntKind.i64.wrap (x1 + x3))) (2 ^ 1)))), (19, vI (IntKind.i64.wrap ((IntKind.i64.wrap (Int.fdiv (IntKind.u64.wrap (IntKind.i64.wrap (x1 + x3))) (2 ^ 1))) + x2))), (20, vI 0), (21, vI 0), (25, vI x2), (26, vI x1), (27, vI (IntKind.i64.wrap (x2 - x1))), (28, .bool false), (77, vI x3), (78, vI x2), (79, vI (IntKind.i64.wrap (x3 - x2))), (80, .bool false), (129, vI x1), (130, vI x3), (131, vI (IntKind.i64.wrap (x1 + x3))), (132, .int .u64 (IntKind.u64.wrap (IntKind.i64.wrap (x1 + x3)))), (133, .int .u64 (Int.fdiv (IntKind.u64.wrap (IntKind.i64.wrap (x1 + x3))) (2 ^ 1))), (134, vI (IntKind.i64.wrap (Int.fdiv (IntKind.u64.wrap (IntKind.i64.wrap (x1 + x3))) (2 ^ 1)))), (135, vI (IntKind.i64.wrap (Int.fdiv (IntKind.u64.wrap (IntKind.i64.wrap (x1 + x3))) (2 ^ 1)))), (136, vI x2), (137, vI (IntKind.i64.wrap ((IntKind.i64.wrap (Int.fdiv (IntKind.u64.wrap (IntKind.i64.wrap (x1 + x3))) (2 ^ 1))) + x2)))] w := by
 simp only [slices_symMergeCmpFunc_int.p4] at h
 refine ws fun K33 hK33 => ?_
 refine wr [(0, 0), (1, 0), (2, 0)] ?_
 refine gb0 [0, 1, 2] [(140, .bool (decide (x2 > (IntKind.i64.wrap (Int.fdiv (IntKind.u64.wrap (IntKind.i64.wrap (x1 + x3))) (2 ^ 1)))))), (139, vI (IntKind.i64.wrap (Int.fdiv (IntKind.u64.wrap (IntKind.i64.wrap (x1 + x3))) (2 ^ 1)))), (138, vI x2)] ?_
 refine gn hK33 ?_
 by_cases hc17 : x2 > (IntKind.i64.wrap (Int.fdiv (IntKind.u64.wrap (IntKind.i64.wrap (x1 + x3))) (2 ^ 1)))
 ·rw [if_pos hc17] at h
  refine wk 140 (decide (x2 > (IntKind.i64.wrap (Int.fdiv (IntKind.u64.wrap (IntKind.i64.wrap (x1 + x3))) (2 ^ 1))))) true (decide_eq_true hc17) ?_
  refine we_true (by kernel_rfl) ?_
  refine ws fun K34 hK34 => ?_
  refine wr [(0, 0), (1, 0), (2, 0), (3, 0)] ?_
  refine gb0 [0, 1, 2, 3] [(20, vI (IntKind.i64.wrap ((IntKind.i64.wrap ((IntKind.i64.wrap (Int.fdiv (IntKind.u64.wrap (IntKind.i64.wrap (x1 + x3))) (2 ^ 1))) + x2)) - x3))), (143, vI (IntKind.i64.wrap ((IntKind.i64.wrap ((IntKind.i64.wrap (Int.fdiv (IntKind.u64.wrap (IntKind.i64.wrap (x1 + x3))) (2 ^ 1))) + x2)) - x3))), (142, vI x3), (141, vI (IntKind.i64.wrap ((IntKind.i64.wrap (Int.fdiv (IntKind.u64.wrap (IntKind.i64.wrap (x1 + x3))) (2 ^ 1))) + x2)))] ?_
  refine gn hK34 ?_
  refine wr [(0, 0), (1, 0)] ?_
  refine gb0 [0, 1] [(21, vI (IntKind.i64.wrap (Int.fdiv (IntKind.u64.wrap (IntKind.i64.wrap (x1 + x3))) (2 ^ 1)))), (144, vI (IntKind.i64.wrap (Int.fdiv (IntKind.u64.wrap (IntKind.i64.wrap (x1 + x3))) (2 ^ 1))))] ?_
  have hS91 := hS.bring 3 rfl
  have hS92 := hS91.bring 1 rfl
  have hS93 := hS92.bring 3 rfl
  have hS94 := hS93.bring 3 rfl
  obtain rfl := si h
  exact ge_nil fun a hF => hQ _ _ _ (Outs.again ⟨hS94, hF.weaken ea⟩)
 ·rw [if_neg hc17] at h
  refine wk 140 (decide (x2 > (IntKind.i64.wrap (Int.fdiv (IntKind.u64.wrap (IntKind.i64.wrap (x1 + x3))) (2 ^ 1))))) false (decide_eq_false hc17) ?_
  refine we_false (by kernel_rfl) ?_
  refine ws fun K35 hK35 => ?_
  refine wr [(0, 0), (1, 0)] ?_
  refine gb0 [0, 1] [(20, vI x1), (145, vI x1)] ?_
  refine gn hK35 ?_
  refine wr [(0, 0), (1, 0)] ?_
  refine gb0 [0, 1] [(21, vI x2), (146, vI x2)] ?_
  have hS95 := hS.bring 3 rfl
  have hS96 := hS95.bring 1 rfl
  have hS97 := hS96.bring 3 rfl
  have hS98 := hS97.bring 3 rfl
  obtain rfl := si h
  exact ge_nil fun a hF => hQ _ _ _ (Outs.again ⟨hS98, hF.weaken ea⟩)
abbrev slices_symMergeCmpFunc_int.A5 (w0 : World) (l0 : List Int) (A0 : Option Addr) (c0 : Nat) (x1 : Int) (x2 : Int) (x3 : Int) (bg4_0 : Nat) (bg4_1 : Nat) (lg4_1 : List STask) (Ag4_1 : Option Addr) (cg4_1 : Nat) (LT : List Own) : (Int × Int) → Act → World → Prop := fun (s : Int × Int) a w => St w0 w [Own.blk bg4_0 (.cells #[.func (.func 82) #[] #[]] 80 (0, 0)), Own.blk bg4_1 (.cells #[.slice Ag4_1 lg4_1.length cg4_1] 40 (0, 0)), Own.of (.slice A0 l0.length c0) 3 l0, Own.all LT] ∧ Frm 220 a [(0, (.slice A0 l0.length c0)), (1, vI x1), (2, vI x2), (3, vI x3), (4, .func (.func 101) #[] #[pP bg4_0 0, pP bg4_1 0]), (18, vI (IntKind.i64.wrap (Int.fdiv (IntKind.u64.wrap (IntKind.i64.wrap (x1 + x3))) (2 ^ 1)))), (19, vI (IntKind.i64.wrap ((IntKind.i64.wrap (Int.fdiv (IntKind.u64.wrap (IntKind.i64.wrap (x1 + x3))) (2 ^ 1))) + x2))), (20, vI s.1), (21, vI s.2), (22, vI (IntKind.i64.wrap ((IntKind.i64.wrap ((IntKind.i64.wrap (Int.fdiv (IntKind.u64.wrap (IntKind.i64.wrap (x1 + x3))) (2 ^ 1))) + x2)) - 1)))]
abbrev slices_symMergeCmpFunc_int.B5 (w0 : World) (l0 : List Int) (A0 : Option Addr) (c0 : Nat) (x1 : Int) (x2 : Int) (x3 : Int) (bg4_0 : Nat) (bg4_1 : Nat) (lg4_1 : List STask) (Ag4_1 : Option Addr) (cg4_1 : Nat) (LT : List Own) : (Int ⊕ (List Int)) → Exit → Act → World → Prop := Exits 8 (fun (s : Int) a w => St w0 w [Own.blk bg4_0 (.cells #[.func (.func 82) #[] #[]] 80 (0, 0)), Own.blk bg4_1 (.cells #[.slice Ag4_1 lg4_1.length cg4_1] 40 (0, 0)), Own.of (.slice A0 l0.length c0) 3 l0, Own.all LT] ∧ Frm 220 a [(0, (.slice A0 l0.length c0)), (1, vI x1), (2, vI x2), (3, vI x3), (4, .func (.func 101) #[] #[pP bg4_0 0, pP bg4_1 0]), (18, vI (IntKind.i64.wrap (Int.fdiv (IntKind.u64.wrap (IntKind.i64.wrap (x1 + x3))) (2 ^ 1)))), (19, vI (IntKind.i64.wrap ((IntKind.i64.wrap (Int.fdiv (IntKind.u64.wrap (IntKind.i64.wrap (x1 + x3))) (2 ^ 1))) + x2))), (20, vI s)]) (Rets Tryd.prog Tryd.f119 (slices_symMergeCmpFunc_int.Post w0 l0 A0 c0 x1 x2 x3 bg4_0 bg4_1 lg4_1 Ag4_1 cg4_1 LT))
theorem slices_symMergeCmpFunc_int_r5 (K : Nat) (w0 : World) (l0 : List Int) (A0 : Option Addr) (c0 : Nat) (x1 : Int) (x2 : Int) (x3 : Int) (bg4_0 : Nat) (bg4_1 : Nat) (lg4_1 : List STask) (Ag4_1 : Option Addr) (cg4_1 : Nat) (LT : List Own) (hRg4_1 : RdL w0 Ag4_1 lg4_1) (hLg4_1 : lg4_1.length ≤ cg4_1) (recf : (List Int) → Int → Int → Int → (List STask) → Option (List Int)) (hrec : ∀ (l0 : List Int) (A0 : Option Addr) (c0 : Nat) (x1 : Int) (x2 : Int) (x3 : Int) (bg4_0 : Nat) (bg4_1 : Nat) (lg4_1 : List STask) (Ag4_1 : Option Addr) (cg4_1 : Nat) (w0 wE : World) (LT : List Own) (hS : St w0 wE [Own.of (.slice A0 l0.length c0) 3 l0, Own.blk bg4_0 (.cells #[.func (.func 82) #[] #[]] 80 (0, 0)), Own.blk bg4_1 (.cells #[.slice Ag4_1 lg4_1.length cg4_1] 40 (0, 0)), Own.all LT]) (hRg4_1 : RdL w0 Ag4_1 lg4_1) (hLg4_1 : lg4_1.length ≤ cg4_1) (r : List Int) (h : recf l0 x1 x2 x3 lg4_1 = some r), Calls Tryd.prog 119 #[(.slice A0 l0.length c0), vI x1, vI x2, vI x3, .func (.func 101) #[] #[pP bg4_0 0, pP bg4_1 0]] wE (slices_symMergeCmpFunc_int.Post w0 l0 A0 c0 x1 x2 x3 bg4_0 bg4_1 lg4_1 Ag4_1 cg4_1 LT r)) (hc1 : ¬ ((IntKind.i64.wrap (x2 - x1)) = 1)) (hc9 : ¬ ((IntKind.i64.wrap (x3 - x2)) = 1)) (z13 : Int) (z14 : Int) (s : Int × Int) (o : (Int × Int) ⊕ (Int ⊕ (List Int))) (h : slices_symMergeCmpFunc_int.r5 l0 x1 x2 x3 lg4_1 s = some o) (a : Act) (w : World) (hA : slices_symMergeCmpFunc_int.A5 w0 l0 A0 c0 x1 x2 x3 bg4_0 bg4_1 lg4_1 Ag4_1 cg4_1 LT s a w) (Q : Exit → Act → World → Prop) (hQ : ∀ x a w, Outs (slices_symMergeCmpFunc_int.A5 w0 l0 A0 c0 x1 x2 x3 bg4_0 bg4_1 lg4_1 Ag4_1 cg4_1 LT) (slices_symMergeCmpFunc_int.B5 w0 l0 A0 c0 x1 x2 x3 bg4_0 bg4_1 lg4_1 Ag4_1 cg4_1 LT) o x a w → Q x a w) : (subF Tryd.f119 [1, 1, 1, 1, 1, 1, 1, 0, 0, 0]).wp Tryd.prog Q a w := by
 obtain ⟨z15, z16⟩ := s
 obtain ⟨hS, hF⟩ := hA
 replace hS : St w0 w [Own.blk bg4_0 (.cells #[.func (.func 82) #[] #[]] 80 (0, 0)), Own.blk bg4_1 (.cells #[.slice Ag4_1 lg4_1.length cg4_1] 40 (0, 0)), Own.of (.slice A0 l0.length c0) 3 l0, Own.all LT] := hS
 simp only [slices_symMergeCmpFunc_int.r5] at h
 refine (?_ : WE Tryd.prog 220 (subF Tryd.f119 [1, 1, 1, 1, 1, 1, 1, 0, 0, 0]) Q [(0, (.slice A0 l0.length c0)), (1, vI x1), (2, vI x2), (3, vI x3), (4, .func (.func 101) #[] #[pP bg4_0 0, pP bg4_1 0]), (18, vI (IntKind.i64.wrap (Int.fdiv (IntKind.u64.wrap (IntKind.i64.wrap (x1 + x3))) (2 ^ 1)))), (19, vI (IntKind.i64.wrap ((IntKind.i64.wrap (Int.fdiv (IntKind.u64.wrap (IntKind.i64.wrap (x1 + x3))) (2 ^ 1))) + x2))), (20, vI z15), (21, vI z16), (22, vI (IntKind.i64.wrap ((IntKind.i64.wrap ((IntKind.i64.wrap (Int.fdiv (IntKind.u64.wrap (IntKind.i64.wrap (x1 + x3))) (2 ^ 1))) + x2)) - 1)))] w) a hF
 clear hF a
 refine ws fun K38 hK38 => ?_
 refine ws fun K39 hK39 => ?_
 refine wr [(0, 0), (1, 0), (2, 0)] ?_
 refine gb0 [0, 1, 2] [(151, .bool (decide (z15 < z16))), (150, vI z16), (149, vI z15)] ?_
 refine gn hK39 ?_
 by_cases hc18 : z15 < z16
 ·rw [if_pos hc18] at h
  refine wk 151 (decide (z15 < z16)) true (decide_eq_true hc18) ?_
  refine we_true (by kernel_rfl) ?_
  refine we_skip fun a hF => hK38 _ _ ?_ a hF
  refine we_block ?_
  refine ws fun K40 hK40 => ?_
  refine wr [(0, 0), (1, 0), (2, 0), (3, 0), (4, 0), (5, 0), (6, 0)] ?_
  refine gb0 [0, 1, 2, 3, 4, 5, 6] [(23, vI (IntKind.i64.wrap (Int.fdiv (IntKind.u64.wrap (IntKind.i64.wrap (z15 + z16))) (2 ^ 1)))), (157, vI (IntKind.i64.wrap (Int.fdiv (IntKind.u64.wrap (IntKind.i64.wrap (z15 + z16))) (2 ^ 1)))), (156, .int .u64 (Int.fdiv (IntKind.u64.wrap (IntKind.i64.wrap (z15 + z16))) (2 ^ 1))), (155, .int .u64 (IntKind.u64.wrap (IntKind.i64.wrap (z15 + z16)))), (154, vI (IntKind.i64.wrap (z15 + z16))), (153, vI z16), (152, vI z15)] ?_
  refine gn hK40 ?_
  refine ws fun K41 hK41 => ?_
  refine we_draws (by kernel_rfl) [(0, 0), (1, 0), (2, 0), (3, 0), (4, 0), (5, 0), (6, 0), (7, 0), (8, 0), (9, 0), (10, 0), (11, 1), (12, 0), (13, 0)] (by kernel_rfl) ?_
  have hS104 := hS.drew
  refine gb0 [0, 1, 2, 3, 4] [(162, vI (IntKind.i64.wrap ((IntKind.i64.wrap ((IntKind.i64.wrap ((IntKind.i64.wrap (Int.fdiv (IntKind.u64.wrap (IntKind.i64.wrap (x1 + x3))) (2 ^ 1))) + x2)) - 1)) - (IntKind.i64.wrap (Int.fdiv (IntKind.u64.wrap (IntKind.i64.wrap (z15 + z16))) (2 ^ 1)))))), (161, vI (IntKind.i64.wrap (Int.fdiv (IntKind.u64.wrap (IntKind.i64.wrap (z15 + z16))) (2 ^ 1)))), (160, vI (IntKind.i64.wrap ((IntKind.i64.wrap ((IntKind.i64.wrap (Int.fdiv (IntKind.u64.wrap (IntKind.i64.wrap (x1 + x3))) (2 ^ 1))) + x2)) - 1))), (159, (.slice A0 l0.length c0)), (158, .func (.func 101) #[] #[pP bg4_0 0, pP bg4_1 0])] ?_
  by_cases hc19 : 0 ≤ (IntKind.i64.wrap ((IntKind.i64.wrap ((IntKind.i64.wrap ((IntKind.i64.wrap (Int.fdiv (IntKind.u64.wrap (IntKind.i64.wrap (x1 + x3))) (2 ^ 1))) + x2)) - 1)) - (IntKind.i64.wrap (Int.fdiv (IntKind.u64.wrap (IntKind.i64.wrap (z15 + z16))) (2 ^ 1)))))
  ·rw [if_pos hc19] at h
   rcases hx11 : l0[(IntKind.i64.wrap ((IntKind.i64.wrap ((IntKind.i64.wrap ((IntKind.i64.wrap (Int.fdiv (IntKind.u64.wrap (IntKind.i64.wrap (x1 + x3))) (2 ^ 1))) + x2)) - 1)) - (IntKind.i64.wrap (Int.fdiv (IntKind.u64.wrap (IntKind.i64.wrap (z15 + z16))) (2 ^ 1))))).toNat]? with _ | e11
   ·rw [hx11] at h; cases h
   rw [hx11] at h
   simp only [] at h
   refine gi 163 0 23 3 1 l0.length c0 (.tmp 159) (.tmp 162) A0 .i64 (IntKind.i64.wrap ((IntKind.i64.wrap ((IntKind.i64.wrap ((IntKind.i64.wrap (Int.fdiv (IntKind.u64.wrap (IntKind.i64.wrap (x1 + x3))) (2 ^ 1))) + x2)) - 1)) - (IntKind.i64.wrap (Int.fdiv (IntKind.u64.wrap (IntKind.i64.wrap (z15 + z16))) (2 ^ 1))))) ((IntKind.i64.wrap ((IntKind.i64.wrap ((IntKind.i64.wrap ((IntKind.i64.wrap (Int.fdiv (IntKind.u64.wrap (IntKind.i64.wrap (x1 + x3))) (2 ^ 1))) + x2)) - 1)) - (IntKind.i64.wrap (Int.fdiv (IntKind.u64.wrap (IntKind.i64.wrap (z15 + z16))) (2 ^ 1))))).toNat) ((hS104.rdAt 2 rfl).eqSome (pos_of_get hx11)) (Int.toNat_of_nonneg hc19).symm (lt_of_get hx11) ?_
   refine gb [6, 7, 8] [(166, vI (IntKind.i64.wrap (Int.fdiv (IntKind.u64.wrap (IntKind.i64.wrap (z15 + z16))) (2 ^ 1)))), (165, (.slice A0 l0.length c0)), (164, vI e11)] [.loaded ⟨blkOf A0, offOf A0 + ((IntKind.i64.wrap ((IntKind.i64.wrap ((IntKind.i64.wrap ((IntKind.i64.wrap (Int.fdiv (IntKind.u64.wrap (IntKind.i64.wrap (x1 + x3))) (2 ^ 1))) + x2)) - 1)) - (IntKind.i64.wrap (Int.fdiv (IntKind.u64.wrap (IntKind.i64.wrap (z15 + z16))) (2 ^ 1))))).toNat) * 1, none⟩ (vI e11)] ⟨RdL.cell (j := 0) (hS104.rdAt 2 rfl) hx11 rfl, trivial⟩ ?_
   by_cases hc20 : 0 ≤ (IntKind.i64.wrap (Int.fdiv (IntKind.u64.wrap (IntKind.i64.wrap (z15 + z16))) (2 ^ 1)))
   ·rw [if_pos hc20] at h
    rcases hx12 : l0[(IntKind.i64.wrap (Int.fdiv (IntKind.u64.wrap (IntKind.i64.wrap (z15 + z16))) (2 ^ 1))).toNat]? with _ | e12
    ·rw [hx12] at h; cases h
    rw [hx12] at h
    simp only [] at h
    refine gi 167 0 23 3 1 l0.length c0 (.tmp 165) (.tmp 166) A0 .i64 (IntKind.i64.wrap (Int.fdiv (IntKind.u64.wrap (IntKind.i64.wrap (z15 + z16))) (2 ^ 1))) ((IntKind.i64.wrap (Int.fdiv (IntKind.u64.wrap (IntKind.i64.wrap (z15 + z16))) (2 ^ 1))).toNat) ((hS104.rdAt 2 rfl).eqSome (pos_of_get hx12)) (Int.toNat_of_nonneg hc20).symm (lt_of_get hx12) ?_
    rcases hq8 : fixed_ranked_1.f e11 e12 lg4_1 with _ | r3
    ·rw [hq8] at h; cases h
    rw [hq8] at h
    simp only [] at h
    refine gb [10] [(168, vI e12)] [.loaded ⟨blkOf A0, offOf A0 + ((IntKind.i64.wrap (Int.fdiv (IntKind.u64.wrap (IntKind.i64.wrap (z15 + z16))) (2 ^ 1))).toNat) * 1, none⟩ (vI e12)] ⟨RdL.cell (j := 0) (hS104.rdAt 2 rfl) hx12 rfl, trivial⟩ ?_
    refine ge_call (d := some 169) (f := 101) (args := #[vI e11, vI e12, pP bg4_0 0, pP bg4_1 0]) (by kernel_rfl) (fixed_ranked_1_ok e11 e12 bg4_0 bg4_1 lg4_1 Ag4_1 cg4_1 _ (hS104.globOf 0 rfl) (hS104.rd hRg4_1) hLg4_1 (hS104.globOf 1 rfl) _ hq8) ?_
    rintro _ w12 ⟨rfl, hS105⟩
    refine ⟨_, rfl, hS105.below, ?_⟩
    have hS106 := hS104.call hS105
    refine gb0 [12, 13] [(171, .bool (!(decide (r3 < 0)))), (170, .bool (decide (r3 < 0)))] ?_
    refine gn hK41 ?_
    by_cases hc21 : r3 < 0
    ·rw [if_pos hc21] at h
     refine wk 171 (!(decide (r3 < 0))) false (congrArg (fun z => !z) (decide_eq_true hc21)) ?_
     refine we_false (by kernel_rfl) ?_
     refine wr [(0, 0), (1, 0)] ?_
     refine gb0 [0, 1] [(21, vI (IntKind.i64.wrap (Int.fdiv (IntKind.u64.wrap (IntKind.i64.wrap (z15 + z16))) (2 ^ 1)))), (174, vI (IntKind.i64.wrap (Int.fdiv (IntKind.u64.wrap (IntKind.i64.wrap (z15 + z16))) (2 ^ 1))))] ?_
     have hS107 := hS106.bring 3 rfl
     have hS108 := hS107.bring 3 rfl
     have hS109 := hS108.bring 3 rfl
     have hS110 := hS109.bring 3 rfl
     obtain rfl := si h
     exact ge_nil fun a hF => hQ _ _ _ (Outs.again ⟨hS110, hF.weaken ea⟩)
    ·rw [if_neg hc21] at h
     refine wk 171 (!(decide (r3 < 0))) true (congrArg (fun z => !z) (decide_eq_false hc21)) ?_
     refine we_true (by kernel_rfl) ?_
     refine wr [(0, 0), (1, 0), (2, 0)] ?_
     refine gb0 [0, 1, 2] [(20, vI (IntKind.i64.wrap ((IntKind.i64.wrap (Int.fdiv (IntKind.u64.wrap (IntKind.i64.wrap (z15 + z16))) (2 ^ 1))) + 1))), (173, vI (IntKind.i64.wrap ((IntKind.i64.wrap (Int.fdiv (IntKind.u64.wrap (IntKind.i64.wrap (z15 + z16))) (2 ^ 1))) + 1))), (172, vI (IntKind.i64.wrap (Int.fdiv (IntKind.u64.wrap (IntKind.i64.wrap (z15 + z16))) (2 ^ 1))))] ?_
     have hS111 := hS106.bring 3 rfl
     have hS112 := hS111.bring 3 rfl
     have hS113 := hS112.bring 3 rfl
     have hS114 := hS113.bring 3 rfl
     obtain rfl := si h
     exact ge_nil fun a hF => hQ _ _ _ (Outs.again ⟨hS114, hF.weaken ea⟩)
   ·rw [if_neg hc20] at h
    cases h
  ·rw [if_neg hc19] at h
   cases h
 ·rw [if_neg hc18] at h
  refine wk 151 (decide (z15 < z16)) false (decide_eq_false hc18) ?_
  refine we_false (by kernel_rfl) ?_
  have hS115 := hS.bring 3 rfl
  have hS116 := hS115.bring 3 rfl
  have hS117 := hS116.bring 3 rfl
  have hS118 := hS117.bring 3 rfl
  obtain rfl := si h
  exact we_exit fun a hF => hQ _ _ _ (Outs.out nofun (Exits.here ⟨hS118, hF.weaken ea⟩))
abbrev slices_symMergeCmpFunc_int.A6 (w0 : World) (l0 : List Int) (A0 : Option Addr) (c0 : Nat) (x1 : Int) (x2 : Int) (x3 : Int) (bg4_0 : Nat) (bg4_1 : Nat) (lg4_1 : List STask) (Ag4_1 : Option Addr) (cg4_1 : Nat) (LT : List Own) (z18 : Int) : (List Int) → Act → World → Prop := fun (s : (List Int)) a w => l0.length = s.length ∧ St w0 w [Own.blk bg4_0 (.cells #[.func (.func 82) #[] #[]] 80 (0, 0)), Own.blk bg4_1 (.cells #[.slice Ag4_1 lg4_1.length cg4_1] 40 (0, 0)), Own.of (.slice A0 s.length c0) 3 s, Own.all LT] ∧ Frm 220 a [(0, (.slice A0 s.length c0)), (1, vI x1), (3, vI x3), (4, .func (.func 101) #[] #[pP bg4_0 0, pP bg4_1 0]), (18, vI (IntKind.i64.wrap (Int.fdiv (IntKind.u64.wrap (IntKind.i64.wrap (x1 + x3))) (2 ^ 1)))), (20, vI z18), (24, vI (IntKind.i64.wrap ((IntKind.i64.wrap ((IntKind.i64.wrap (Int.fdiv (IntKind.u64.wrap (IntKind.i64.wrap (x1 + x3))) (2 ^ 1))) + x2)) - z18)))]
abbrev slices_symMergeCmpFunc_int.B6 (w0 : World) (l0 : List Int) (A0 : Option Addr) (c0 : Nat) (x1 : Int) (x2 : Int) (x3 : Int) (bg4_0 : Nat) (bg4_1 : Nat) (lg4_1 : List STask) (Ag4_1 : Option Addr) (cg4_1 : Nat) (LT : List Own) : (List Int) → Exit → Act → World → Prop := Rets Tryd.prog Tryd.f119 (slices_symMergeCmpFunc_int.Post w0 l0 A0 c0 x1 x2 x3 bg4_0 bg4_1 lg4_1 Ag4_1 cg4_1 LT)
theorem slices_symMergeCmpFunc_int_p6 (K : Nat) (w0 : World) (l0 : List Int) (A0 : Option Addr) (c0 : Nat) (x1 : Int) (x2 : Int) (x3 : Int) (bg4_0 : Nat) (bg4_1 : Nat) (lg4_1 : List STask) (Ag4_1 : Option Addr) (cg4_1 : Nat) (LT : List Own) (hRg4_1 : RdL w0 Ag4_1 lg4_1) (hLg4_1 : lg4_1.length ≤ cg4_1) (recf : (List Int) → Int → Int → Int → (List STask) → Option (List Int)) (hrec : ∀ (l0 : List Int) (A0 : Option Addr) (c0 : Nat) (x1 : Int) (x2 : Int) (x3 : Int) (bg4_0 : Nat) (bg4_1 : Nat) (lg4_1 : List STask) (Ag4_1 : Option Addr) (cg4_1 : Nat) (w0 wE : World) (LT : List Own) (hS : St w0 wE [Own.of (.slice A0 l0.length c0) 3 l0, Own.blk bg4_0 (.cells #[.func (.func 82) #[] #[]] 80 (0, 0)), Own.blk bg4_1 (.cells #[.slice Ag4_1 lg4_1.length cg4_1] 40 (0, 0)), Own.all LT]) (hRg4_1 : RdL w0 Ag4_1 lg4_1) (hLg4_1 : lg4_1.length ≤ cg4_1) (r : List Int) (h : recf l0 x1 x2 x3 lg4_1 = some r), Calls Tryd.prog 119 #[(.slice A0 l0.length c0), vI x1, vI x2, vI x3, .func (.func 101) #[] #[pP bg4_0 0, pP bg4_1 0]] wE (slices_symMergeCmpFunc_int.Post w0 l0 A0 c0 x1 x2 x3 bg4_0 bg4_1 lg4_1 Ag4_1 cg4_1 LT r)) (hc1 : ¬ ((IntKind.i64.wrap (x2 - x1)) = 1)) (hc9 : ¬ ((IntKind.i64.wrap (x3 - x2)) = 1)) (z13 : Int) (z14 : Int) (z18 : Int) (o : (List Int) ⊕ (List Int)) (h : slices_symMergeCmpFunc_int.p6 K l0 x1 x2 x3 lg4_1 z18 = some o) (w : World) (hS : St w0 w [Own.blk bg4_0 (.cells #[.func (.func 82) #[] #[]] 80 (0, 0)), Own.blk bg4_1 (.cells #[.slice Ag4_1 lg4_1.length cg4_1] 40 (0, 0)), Own.of (.slice A0 l0.length c0) 3 l0, Own.all LT]) (Q : Exit → Act → World → Prop) (hQ : ∀ x a w, Outs (slices_symMergeCmpFunc_int.A6 w0 l0 A0 c0 x1 x2 x3 bg4_0 bg4_1 lg4_1 Ag4_1 cg4_1 LT z18) (slices_symMergeCmpFunc_int.B6 w0 l0 A0 c0 x1 x2 x3 bg4_0 bg4_1 lg4_1 Ag4_1 cg4_1 LT) o x a w → Q x a w) : WE Tryd.prog 220 (subF Tryd.f119 [1, 1, 1, 1, 1, 1, 1, 1, 1, 0]) Q [(0, (.slice A0 l0.length c0)), (1, vI x1), (2, vI x2), (3, vI x3), (4, .func (.func 101) #[] #[pP bg4_0 0, pP bg4_1 0]), (18, vI (IntKind.i64.wrap (Int.fdiv (IntKind.u64.wrap (IntKind.i64.wrap (x1 + x3))) (2 ^ 1)))), (19, vI (IntKind.i64.wrap ((IntKind.i64.wrap (Int.fdiv (IntKind.u64.wrap (IntKind.i64.wrap (x1 + x3))) (2 ^ 1))) + x2))), (20, vI z18), (24, vI (IntKind.i64.wrap ((IntKind.i64.wrap ((IntKind.i64.wrap (Int.fdiv (IntKind.u64.wrap (IntKind.i64.wrap (x1 + x3))) (2 ^ 1))) + x2)) - z18))), (175, vI (IntKind.i64.wrap ((IntKind.i64.wrap (Int.fdiv (IntKind.u64.wrap (IntKind.i64.wrap (x1 + x3))) (2 ^ 1))) + x2))), (176, vI z18), (177, vI (IntKind.i64.wrap ((IntKind.i64.wrap ((IntKind.i64.wrap (Int.fdiv (IntKind.u64.wrap (IntKind.i64.wrap (x1 + x3))) (2 ^ 1))) + x2)) - z18)))] w := by
 simp only [slices_symMergeCmpFunc_int.p6] at h
 refine ws fun K44 hK44 => ?_
 refine wr [(0, 0), (1, 0), (2, 0), (3, 0), (4, 0), (5, 0), (6, 0), (7, 0)] ?_
 refine gb0 [0, 1, 2, 3] [(181, .bool (decide (z18 < x2))), (180, .bool (decide (z18 < x2))), (179, vI x2), (178, vI z18)] ?_
 by_cases hc22 : z18 < x2
 ·rw [if_pos hc22] at h
  refine gk 181 (decide (z18 < x2)) true (decide_eq_true hc22) ?_
  refine gb0 [4, 5, 6, 7] [(185, .bool (decide (x2 < (IntKind.i64.wrap ((IntKind.i64.wrap ((IntKind.i64.wrap (Int.fdiv (IntKind.u64.wrap (IntKind.i64.wrap (x1 + x3))) (2 ^ 1))) + x2)) - z18))))), (184, .bool (decide (x2 < (IntKind.i64.wrap ((IntKind.i64.wrap ((IntKind.i64.wrap (Int.fdiv (IntKind.u64.wrap (IntKind.i64.wrap (x1 + x3))) (2 ^ 1))) + x2)) - z18))))), (183, vI (IntKind.i64.wrap ((IntKind.i64.wrap ((IntKind.i64.wrap (Int.fdiv (IntKind.u64.wrap (IntKind.i64.wrap (x1 + x3))) (2 ^ 1))) + x2)) - z18))), (182, vI x2)] ?_
  refine gn hK44 ?_
  by_cases hc23 : x2 < (IntKind.i64.wrap ((IntKind.i64.wrap ((IntKind.i64.wrap (Int.fdiv (IntKind.u64.wrap (IntKind.i64.wrap (x1 + x3))) (2 ^ 1))) + x2)) - z18))
  ·rw [if_pos hc23] at h
   refine wk 185 (decide (x2 < (IntKind.i64.wrap ((IntKind.i64.wrap ((IntKind.i64.wrap (Int.fdiv (IntKind.u64.wrap (IntKind.i64.wrap (x1 + x3))) (2 ^ 1))) + x2)) - z18)))) true (decide_eq_true hc23) ?_
   refine we_true (by kernel_rfl) ?_
   refine wr [(0, 0), (1, 0), (2, 0), (3, 0), (4, 0), (5, 2)] ?_
   refine gb0 [0, 1, 2, 3, 4] [(190, .func (.func 101) #[] #[pP bg4_0 0, pP bg4_1 0]), (189, vI (IntKind.i64.wrap ((IntKind.i64.wrap ((IntKind.i64.wrap (Int.fdiv (IntKind.u64.wrap (IntKind.i64.wrap (x1 + x3))) (2 ^ 1))) + x2)) - z18))), (188, vI x2), (187, vI z18), (186, (.slice A0 l0.length c0))] ?_
   rcases hq10 : slices_rotateCmpFunc_int.f K l0 z18 x2 (IntKind.i64.wrap ((IntKind.i64.wrap ((IntKind.i64.wrap (Int.fdiv (IntKind.u64.wrap (IntKind.i64.wrap (x1 + x3))) (2 ^ 1))) + x2)) - z18)) lg4_1 with _ | r4
   ·rw [hq10] at h; cases h
   rw [hq10] at h
   simp only [] at h
   have hS120 := hS.bring 1 rfl
   have hS121 := hS120.bring 1 rfl
   have hS122 := hS121.bring 2 rfl
   have hS124 : St w0 w [Own.of (.slice A0 l0.length c0) 3 l0, Own.blk bg4_0 (.cells #[.func (.func 82) #[] #[]] 80 (0, 0)), Own.blk bg4_1 (.cells #[.slice Ag4_1 lg4_1.length cg4_1] 40 (0, 0)), Own.all [Own.all LT]] := hS122.packN 3
   refine ge_call2 (m := 0) (d := some 191) (f := 126) (args := #[.slice A0 l0.length c0, vI z18, vI x2, vI (IntKind.i64.wrap ((IntKind.i64.wrap ((IntKind.i64.wrap (Int.fdiv (IntKind.u64.wrap (IntKind.i64.wrap (x1 + x3))) (2 ^ 1))) + x2)) - z18)), .func (.func 101) #[] #[pP bg4_0 0, pP bg4_1 0]]) (by kernel_rfl) (slices_rotateCmpFunc_int_ok K l0 A0 c0 z18 x2 (IntKind.i64.wrap ((IntKind.i64.wrap ((IntKind.i64.wrap (Int.fdiv (IntKind.u64.wrap (IntKind.i64.wrap (x1 + x3))) (2 ^ 1))) + x2)) - z18)) bg4_0 bg4_1 lg4_1 Ag4_1 cg4_1 _ _ _ hS124 hRg4_1 hLg4_1 _ hq10) ?_
   rintro _ w14 ⟨rfl, hE5, hS123⟩
   refine ⟨_, rfl, ?_⟩
   have hS125 : St w0 w14 [Own.of (.slice A0 r4.length c0) 3 r4, Own.blk bg4_0 (.cells #[.func (.func 82) #[] #[]] 80 (0, 0)), Own.blk bg4_1 (.cells #[.slice Ag4_1 lg4_1.length cg4_1] 40 (0, 0)), Own.all LT] := hS123.unpack [Own.of (.slice A0 r4.length c0) 3 r4, Own.blk bg4_0 (.cells #[.func (.func 82) #[] #[]] 80 (0, 0)), Own.blk bg4_1 (.cells #[.slice Ag4_1 lg4_1.length cg4_1] 40 (0, 0))]
   refine ge_same (t := 0) (v := (.slice A0 l0.length c0)) (v' := (.slice A0 r4.length c0)) (by kernel_rfl) (by rw [show l0.length = r4.length from hE5]) ?_
   refine ge_same (t := 186) (v := (.slice A0 l0.length c0)) (v' := (.slice A0 r4.length c0)) (by kernel_rfl) (by rw [show l0.length = r4.length from hE5]) ?_
   have hLio6 : l0.length = r4.length := Eq.trans rfl hE5
   have hS126 := hS125.bring 3 rfl
   have hS127 := hS126.bring 1 rfl
   have hS128 := hS127.bring 3 rfl
   have hS129 := hS128.bring 3 rfl
   obtain rfl := si h
   exact ge_nil fun a hF => hQ _ _ _ (Outs.again ⟨hLio6, hS129, hF.weaken ea⟩)
  ·rw [if_neg hc23] at h
   refine wk 185 (decide (x2 < (IntKind.i64.wrap ((IntKind.i64.wrap ((IntKind.i64.wrap (Int.fdiv (IntKind.u64.wrap (IntKind.i64.wrap (x1 + x3))) (2 ^ 1))) + x2)) - z18)))) false (decide_eq_false hc23) ?_
   refine we_false (by kernel_rfl) ?_
   have hS130 := hS.bring 3 rfl
   have hS131 := hS130.bring 3 rfl
   have hS132 := hS131.bring 3 rfl
   have hS133 := hS132.bring 3 rfl
   obtain rfl := si h
   exact we_skip fun a hF => hQ _ _ _ (Outs.again ⟨rfl, hS133, hF.weaken ea⟩)
 ·rw [if_neg hc22] at h
  refine gk 181 (decide (z18 < x2)) false (decide_eq_false hc22) ?_
  refine gb0 [4, 5, 6, 7] [(185, .bool false), (184, undef), (183, undef), (182, undef)] ?_
  refine gn hK44 ?_
  refine we_false (by kernel_rfl) ?_
  have hS134 := hS.bring 3 rfl
  have hS135 := hS134.bring 3 rfl
  have hS136 := hS135.bring 3 rfl
  have hS137 := hS136.bring 3 rfl
  obtain rfl := si h
  exact we_skip fun a hF => hQ _ _ _ (Outs.again ⟨rfl, hS137, hF.weaken ea⟩)
theorem slices_symMergeCmpFunc_int_step (K : Nat) (recf : (List Int) → Int → Int → Int → (List STask) → Option (List Int)) (hrec : ∀ (l0 : List Int) (A0 : Option Addr) (c0 : Nat) (x1 : Int) (x2 : Int) (x3 : Int) (bg4_0 : Nat) (bg4_1 : Nat) (lg4_1 : List STask) (Ag4_1 : Option Addr) (cg4_1 : Nat) (w0 wE : World) (LT : List Own) (hS : St w0 wE [Own.of (.slice A0 l0.length c0) 3 l0, Own.blk bg4_0 (.cells #[.func (.func 82) #[] #[]] 80 (0, 0)), Own.blk bg4_1 (.cells #[.slice Ag4_1 lg4_1.length cg4_1] 40 (0, 0)), Own.all LT]) (hRg4_1 : RdL w0 Ag4_1 lg4_1) (hLg4_1 : lg4_1.length ≤ cg4_1) (r : List Int) (h : recf l0 x1 x2 x3 lg4_1 = some r), Calls Tryd.prog 119 #[(.slice A0 l0.length c0), vI x1, vI x2, vI x3, .func (.func 101) #[] #[pP bg4_0 0, pP bg4_1 0]] wE (slices_symMergeCmpFunc_int.Post w0 l0 A0 c0 x1 x2 x3 bg4_0 bg4_1 lg4_1 Ag4_1 cg4_1 LT r)) (l0 : List Int) (A0 : Option Addr) (c0 : Nat) (x1 : Int) (x2 : Int) (x3 : Int) (bg4_0 : Nat) (bg4_1 : Nat) (lg4_1 : List STask) (Ag4_1 : Option Addr) (cg4_1 : Nat) (w0 wE : World) (LT : List Own) (hS : St w0 wE [Own.of (.slice A0 l0.length c0) 3 l0, Own.blk bg4_0 (.cells #[.func (.func 82) #[] #[]] 80 (0, 0)), Own.blk bg4_1 (.cells #[.slice Ag4_1 lg4_1.length cg4_1] 40 (0, 0)), Own.all LT]) (hRg4_1 : RdL w0 Ag4_1 lg4_1) (hLg4_1 : lg4_1.length ≤ cg4_1) (r : List Int) (h : slices_symMergeCmpFunc_int.b K recf l0 x1 x2 x3 lg4_1 = some r) :
  Calls Tryd.prog 119 #[(.slice A0 l0.length c0), vI x1, vI x2, vI x3, .func (.func 101) #[] #[pP bg4_0 0, pP bg4_1 0]] wE (slices_symMergeCmpFunc_int.Post w0 l0 A0 c0 x1 x2 x3 bg4_0 bg4_1 lg4_1 Ag4_1 cg4_1 LT r) := by
 unfold slices_symMergeCmpFunc_int.b at h
 refine calls_enter (n := 220) (args := [(.slice A0 l0.length c0), vI x1, vI x2, vI x3, .func (.func 101) #[] #[pP bg4_0 0, pP bg4_1 0]]) (fn := Tryd.f119) rfl rfl rfl rfl ?_
 show WE _ _ _ _ [(0, (.slice A0 l0.length c0)), (1, vI x1), (2, vI x2), (3, vI x3), (4, .func (.func 101) #[] #[pP bg4_0 0, pP bg4_1 0])] _
 refine ws fun K1 hK1 => ?_
 refine ws fun K2 hK2 => ?_
 refine wr [(0, 0), (1, 0), (2, 0), (3, 0)] ?_
 refine gb0 [0, 1, 2, 3] [(28, .bool ((IntKind.i64.wrap (x2 - x1)) == 1)), (27, vI (IntKind.i64.wrap (x2 - x1))), (26, vI x1), (25, vI x2)] ?_
 refine gn hK2 ?_
 by_cases hc1 : (IntKind.i64.wrap (x2 - x1)) = 1
 ·rw [if_pos hc1] at h
  refine wk 28 ((IntKind.i64.wrap (x2 - x1)) == 1) true (beq_iff_eq.2 hc1) ?_
  refine we_true (by kernel_rfl) ?_
  refine ws fun K3 hK3 => ?_
  refine wr [(0, 0), (1, 0)] ?_
  refine gb0 [0, 1] [(10, vI x2), (29, vI x2)] ?_
  refine gn hK3 ?_
  refine ws fun K4 hK4 => ?_
  refine wr [(0, 0), (1, 0)] ?_
  refine gb0 [0, 1] [(11, vI x3), (30, vI x3)] ?_
  refine gn hK4 ?_
  refine ws fun K5 hK5 => ?_
  refine we_block ?_
  have hS1 := hS.bring 3 rfl
  have hS2 := hS1.bring 1 rfl
  have hS3 := hS2.bring 3 rfl
  have hS4 := hS3.bring 3 rfl
  rcases hq2 : iter (slices_symMergeCmpFunc_int.r0 l0 x1 lg4_1) K (x2, x3) with _ | (z4 | rr2)
  ·rw [hq2] at h; cases h
  ·rw [hq2] at h
   simp only [] at h
   refine we_iter (A := slices_symMergeCmpFunc_int.A0 w0 l0 A0 c0 x1 bg4_0 bg4_1 lg4_1 Ag4_1 cg4_1 LT) (B := slices_symMergeCmpFunc_int.B0 w0 l0 A0 c0 x1 x2 x3 bg4_0 bg4_1 lg4_1 Ag4_1 cg4_1 LT) hq2 (fun a hF => ⟨hS4, hF.weaken ea⟩) (fun s o hf a w hA Q hQ => slices_symMergeCmpFunc_int_r0 K w0 l0 A0 c0 x1 x2 x3 bg4_0 bg4_1 lg4_1 Ag4_1 cg4_1 LT hRg4_1 hLg4_1 recf hrec hc1 s o hf a w hA Q hQ) ?_
   rintro _ a w2 _ ⟨rfl, hS20, hF⟩
   replace hS20 : St w0 w2 [Own.blk bg4_0 (.cells #[.func (.func 82) #[] #[]] 80 (0, 0)), Own.blk bg4_1 (.cells #[.slice Ag4_1 lg4_1.length cg4_1] 40 (0, 0)), Own.of (.slice A0 l0.length c0) 3 l0, Own.all LT] := hS20
   refine hK5 [(0, (.slice A0 l0.length c0)), (1, vI x1), (4, .func (.func 101) #[] #[pP bg4_0 0, pP bg4_1 0]), (10, vI z4)] w2 ?_ a hF
   refine ws fun K10 hK10 => ?_
   refine ws fun K11 hK11 => ?_
   refine wr [(0, 0), (1, 0)] ?_
   refine gb0 [0, 1] [(13, vI x1), (54, vI x1)] ?_
   refine gn hK11 ?_
   refine we_block ?_
   have hS21 := hS20.bring 3 rfl
   have hS22 := hS21.bring 3 rfl
   have hS23 := hS22.bring 3 rfl
   have hS24 := hS23.bring 3 rfl
   rcases hq3 : iter (slices_symMergeCmpFunc_int.r1 z4) K (x1, l0) with _ | (m3 | rr1)
   ·rw [hq3] at h; cases h
   ·rw [hq3] at h
    simp only [] at h
    refine we_iter (A := slices_symMergeCmpFunc_int.A1 w0 l0 A0 c0 bg4_0 bg4_1 lg4_1 Ag4_1 cg4_1 LT z4) (B := slices_symMergeCmpFunc_int.B1 w0 l0 A0 c0 x1 x2 x3 bg4_0 bg4_1 lg4_1 Ag4_1 cg4_1 LT) hq3 (fun a hF => ⟨rfl, hS24, hF.weaken ea⟩) (fun s o hf a w hA Q hQ => slices_symMergeCmpFunc_int_r1 K w0 l0 A0 c0 x1 x2 x3 bg4_0 bg4_1 lg4_1 Ag4_1 cg4_1 LT hRg4_1 hLg4_1 recf hrec hc1 z4 s o hf a w hA Q hQ) ?_
    rintro _ a w5 _ ⟨rfl, hRz1, hS41, hF⟩
    replace hS41 : St w0 w5 [Own.blk bg4_0 (.cells #[.func (.func 82) #[] #[]] 80 (0, 0)), Own.blk bg4_1 (.cells #[.slice Ag4_1 lg4_1.length cg4_1] 40 (0, 0)), Own.of (.slice A0 m3.length c0) 3 m3, Own.all LT] := hS41
    refine hK10 [(0, (.slice A0 m3.length c0)), (4, .func (.func 101) #[] #[pP bg4_0 0, pP bg4_1 0])] w5 ?_ a hF
    have hS42 := hS41.bring 3 rfl
    have hS43 := hS42.bring 2 rfl
    have hS44 := hS43.bring 2 rfl
    have hS45 := hS44.bring 3 rfl
    obtain rfl := si h
    exact we_ret (pr0 [] [] ⟨rfl, hRz1, hS45⟩)
   ·rw [hq3] at h
    simp only [] at h
    refine we_iter (A := slices_symMergeCmpFunc_int.A1 w0 l0 A0 c0 bg4_0 bg4_1 lg4_1 Ag4_1 cg4_1 LT z4) (B := slices_symMergeCmpFunc_int.B1 w0 l0 A0 c0 x1 x2 x3 bg4_0 bg4_1 lg4_1 Ag4_1 cg4_1 LT) hq3 (fun a hF => ⟨rfl, hS24, hF.weaken ea⟩) (fun s o hf a w hA Q hQ => slices_symMergeCmpFunc_int_r1 K w0 l0 A0 c0 x1 x2 x3 bg4_0 bg4_1 lg4_1 Ag4_1 cg4_1 LT hRg4_1 hLg4_1 recf hrec hc1 z4 s o hf a w hA Q hQ) ?_
    rintro _ a w1 _ ⟨rfl, hb⟩
    obtain rfl := si h
    exact hb
  ·rw [hq2] at h
   simp only [] at h
   refine we_iter (A := slices_symMergeCmpFunc_int.A0 w0 l0 A0 c0 x1 bg4_0 bg4_1 lg4_1 Ag4_1 cg4_1 LT) (B := slices_symMergeCmpFunc_int.B0 w0 l0 A0 c0 x1 x2 x3 bg4_0 bg4_1 lg4_1 Ag4_1 cg4_1 LT) hq2 (fun a hF => ⟨hS4, hF.weaken ea⟩) (fun s o hf a w hA Q hQ => slices_symMergeCmpFunc_int_r0 K w0 l0 A0 c0 x1 x2 x3 bg4_0 bg4_1 lg4_1 Ag4_1 cg4_1 LT hRg4_1 hLg4_1 recf hrec hc1 s o hf a w hA Q hQ) ?_
   rintro _ a w1 _ ⟨rfl, hb⟩
   obtain rfl := si h
   exact hb
 ·rw [if_neg hc1] at h
  refine wk 28 ((IntKind.i64.wrap (x2 - x1)) == 1) false (beq_eq_false_iff_ne.2 hc1) ?_
  refine we_false (by kernel_rfl) ?_
  refine we_skip fun a hF => hK1 _ _ ?_ a hF
  refine ws fun K15 hK15 => ?_
  refine ws fun K16 hK16 => ?_
  refine wr [(0, 0), (1, 0), (2, 0), (3, 0)] ?_
  refine gb0 [0, 1, 2, 3] [(80, .bool ((IntKind.i64.wrap (x3 - x2)) == 1)), (79, vI (IntKind.i64.wrap (x3 - x2))), (78, vI x2), (77, vI x3)] ?_
  refine gn hK16 ?_
  by_cases hc9 : (IntKind.i64.wrap (x3 - x2)) = 1
  ·rw [if_pos hc9] at h
   refine wk 80 ((IntKind.i64.wrap (x3 - x2)) == 1) true (beq_iff_eq.2 hc9) ?_
   refine we_true (by kernel_rfl) ?_
   refine ws fun K17 hK17 => ?_
   refine wr [(0, 0), (1, 0)] ?_
   refine gb0 [0, 1] [(14, vI x1), (81, vI x1)] ?_
   refine gn hK17 ?_
   refine ws fun K18 hK18 => ?_
   refine wr [(0, 0), (1, 0)] ?_
   refine gb0 [0, 1] [(15, vI x2), (82, vI x2)] ?_
   refine gn hK18 ?_
   refine ws fun K19 hK19 => ?_
   refine we_block ?_
   have hS46 := hS.bring 3 rfl
   have hS47 := hS46.bring 1 rfl
   have hS48 := hS47.bring 3 rfl
   have hS49 := hS48.bring 3 rfl
   rcases hq5 : iter (slices_symMergeCmpFunc_int.r2 l0 x2 lg4_1) K (x1, x2) with _ | (z9 | rr4)
   ·rw [hq5] at h; cases h
   ·rw [hq5] at h
    simp only [] at h
    refine we_iter (A := slices_symMergeCmpFunc_int.A2 w0 l0 A0 c0 x2 bg4_0 bg4_1 lg4_1 Ag4_1 cg4_1 LT) (B := slices_symMergeCmpFunc_int.B2 w0 l0 A0 c0 x1 x2 x3 bg4_0 bg4_1 lg4_1 Ag4_1 cg4_1 LT) hq5 (fun a hF => ⟨hS49, hF.weaken ea⟩) (fun s o hf a w hA Q hQ => slices_symMergeCmpFunc_int_r2 K w0 l0 A0 c0 x1 x2 x3 bg4_0 bg4_1 lg4_1 Ag4_1 cg4_1 LT hRg4_1 hLg4_1 recf hrec hc1 hc9 s o hf a w hA Q hQ) ?_
    rintro _ a w7 _ ⟨rfl, hS65, hF⟩
    replace hS65 : St w0 w7 [Own.blk bg4_0 (.cells #[.func (.func 82) #[] #[]] 80 (0, 0)), Own.blk bg4_1 (.cells #[.slice Ag4_1 lg4_1.length cg4_1] 40 (0, 0)), Own.of (.slice A0 l0.length c0) 3 l0, Own.all LT] := hS65
    refine hK19 [(0, (.slice A0 l0.length c0)), (2, vI x2), (4, .func (.func 101) #[] #[pP bg4_0 0, pP bg4_1 0]), (14, vI z9)] w7 ?_ a hF
    refine ws fun K24 hK24 => ?_
    refine ws fun K25 hK25 => ?_
    refine wr [(0, 0), (1, 0)] ?_
    refine gb0 [0, 1] [(17, vI x2), (107, vI x2)] ?_
    refine gn hK25 ?_
    refine we_block ?_
    have hS66 := hS65.bring 3 rfl
    have hS67 := hS66.bring 3 rfl
    have hS68 := hS67.bring 3 rfl
    have hS69 := hS68.bring 3 rfl
    rcases hq6 : iter (slices_symMergeCmpFunc_int.r3 z9) K (x2, l0) with _ | (m6 | rr3)
    ·rw [hq6] at h; cases h
    ·rw [hq6] at h
     simp only [] at h
     refine we_iter (A := slices_symMergeCmpFunc_int.A3 w0 l0 A0 c0 bg4_0 bg4_1 lg4_1 Ag4_1 cg4_1 LT z9) (B := slices_symMergeCmpFunc_int.B3 w0 l0 A0 c0 x1 x2 x3 bg4_0 bg4_1 lg4_1 Ag4_1 cg4_1 LT) hq6 (fun a hF => ⟨rfl, hS69, hF.weaken ea⟩) (fun s o hf a w hA Q hQ => slices_symMergeCmpFunc_int_r3 K w0 l0 A0 c0 x1 x2 x3 bg4_0 bg4_1 lg4_1 Ag4_1 cg4_1 LT hRg4_1 hLg4_1 recf hrec hc1 hc9 z9 s o hf a w hA Q hQ) ?_
     rintro _ a w10 _ ⟨rfl, hRz2, hS86, hF⟩
     replace hS86 : St w0 w10 [Own.blk bg4_0 (.cells #[.func (.func 82) #[] #[]] 80 (0, 0)), Own.blk bg4_1 (.cells #[.slice Ag4_1 lg4_1.length cg4_1] 40 (0, 0)), Own.of (.slice A0 m6.length c0) 3 m6, Own.all LT] := hS86
     refine hK24 [(0, (.slice A0 m6.length c0)), (4, .func (.func 101) #[] #[pP bg4_0 0, pP bg4_1 0])] w10 ?_ a hF
     have hS87 := hS86.bring 3 rfl
     have hS88 := hS87.bring 2 rfl
     have hS89 := hS88.bring 2 rfl
     have hS90 := hS89.bring 3 rfl
     obtain rfl := si h
     exact we_ret (pr0 [] [] ⟨rfl, hRz2, hS90⟩)
    ·rw [hq6] at h
     simp only [] at h
     refine we_iter (A := slices_symMergeCmpFunc_int.A3 w0 l0 A0 c0 bg4_0 bg4_1 lg4_1 Ag4_1 cg4_1 LT z9) (B := slices_symMergeCmpFunc_int.B3 w0 l0 A0 c0 x1 x2 x3 bg4_0 bg4_1 lg4_1 Ag4_1 cg4_1 LT) hq6 (fun a hF => ⟨rfl, hS69, hF.weaken ea⟩) (fun s o hf a w hA Q hQ => slices_symMergeCmpFunc_int_r3 K w0 l0 A0 c0 x1 x2 x3 bg4_0 bg4_1 lg4_1 Ag4_1 cg4_1 LT hRg4_1 hLg4_1 recf hrec hc1 hc9 z9 s o hf a w hA Q hQ) ?_
     rintro _ a w1 _ ⟨rfl, hb⟩
     obtain rfl := si h
     exact hb
   ·rw [hq5] at h
    simp only [] at h
    refine we_iter (A := slices_symMergeCmpFunc_int.A2 w0 l0 A0 c0 x2 bg4_0 bg4_1 lg4_1 Ag4_1 cg4_1 LT) (B := slices_symMergeCmpFunc_int.B2 w0 l0 A0 c0 x1 x2 x3 bg4_0 bg4_1 lg4_1 Ag4_1 cg4_1 LT) hq5 (fun a hF => ⟨hS49, hF.weaken ea⟩) (fun s o hf a w hA Q hQ => slices_symMergeCmpFunc_int_r2 K w0 l0 A0 c0 x1 x2 x3 bg4_0 bg4_1 lg4_1 Ag4_1 cg4_1 LT hRg4_1 hLg4_1 recf hrec hc1 hc9 s o hf a w hA Q hQ) ?_
    rintro _ a w1 _ ⟨rfl, hb⟩
    obtain rfl := si h
    exact hb
  ·rw [if_neg hc9] at h
   refine wk 80 ((IntKind.i64.wrap (x3 - x2)) == 1) false (beq_eq_false_iff_ne.2 hc9) ?_
   refine we_false (by kernel_rfl) ?_
   refine we_skip fun a hF => hK15 _ _ ?_ a hF
   refine ws fun K29 hK29 => ?_
   refine wr [(0, 0), (1, 0), (2, 0), (3, 0), (4, 0), (5, 0), (6, 0)] ?_
   refine gb0 [0, 1, 2, 3, 4, 5, 6] [(18, vI (IntKind.i64.wrap (Int.fdiv (IntKind.u64.wrap (IntKind.i64.wrap (x1 + x3))) (2 ^ 1)))), (134, vI (IntKind.i64.wrap (Int.fdiv (IntKind.u64.wrap (IntKind.i64.wrap (x1 + x3))) (2 ^ 1)))), (133, .int .u64 (Int.fdiv (IntKind.u64.wrap (IntKind.i64.wrap (x1 + x3))) (2 ^ 1))), (132, .int .u64 (IntKind.u64.wrap (IntKind.i64.wrap (x1 + x3)))), (131, vI (IntKind.i64.wrap (x1 + x3))), (130, vI x3), (129, vI x1)] ?_
   refine gn hK29 ?_
   refine ws fun K30 hK30 => ?_
   refine wr [(0, 0), (1, 0), (2, 0), (3, 0)] ?_
   refine gb0 [0, 1, 2, 3] [(19, vI (IntKind.i64.wrap ((IntKind.i64.wrap (Int.fdiv (IntKind.u64.wrap (IntKind.i64.wrap (x1 + x3))) (2 ^ 1))) + x2))), (137, vI (IntKind.i64.wrap ((IntKind.i64.wrap (Int.fdiv (IntKind.u64.wrap (IntKind.i64.wrap (x1 + x3))) (2 ^ 1))) + x2))), (136, vI x2), (135, vI (IntKind.i64.wrap (Int.fdiv (IntKind.u64.wrap (IntKind.i64.wrap (x1 + x3))) (2 ^ 1))))] ?_
   refine gn hK30 ?_
   refine ws fun K31 hK31 => ?_
   refine wr [(0, 0), (1, 0)] ?_
   refine gb0 [0, 1] [(21, vI 0), (20, vI 0)] ?_
   refine gn hK31 ?_
   refine ws fun K32 hK32 => ?_
   rcases hq7 : slices_symMergeCmpFunc_int.p4 x1 x2 x3 with _ | (⟨z13, z14⟩ | rr7)
   ·rw [hq7] at h; cases h
   ·rw [hq7] at h
    simp only [] at h
    refine we_keep (e' := [(0, (.slice A0 l0.length c0)), (1, vI x1), (2, vI x2), (3, vI x3), (4, .func (.func 101) #[] #[pP bg4_0 0, pP bg4_1 0]), (18, vI (IntKind.i64.wrap (Int.fdiv (IntKind.u64.wrap (IntKind.i64.wrap (x1 + x3))) (2 ^ 1)))), (19, vI (IntKind.i64.wrap ((IntKind.i64.wrap (Int.fdiv (IntKind.u64.wrap (IntKind.i64.wrap (x1 + x3))) (2 ^ 1))) + x2))), (20, vI 0), (21, vI 0), (25, vI x2), (26, vI x1), (27, vI (IntKind.i64.wrap (x2 - x1))), (28, .bool false), (77, vI x3), (78, vI x2), (79, vI (IntKind.i64.wrap (x3 - x2))), (80, .bool false), (129, vI x1), (130, vI x3), (131, vI (IntKind.i64.wrap (x1 + x3))), (132, .int .u64 (IntKind.u64.wrap (IntKind.i64.wrap (x1 + x3)))), (133, .int .u64 (Int.fdiv (IntKind.u64.wrap (IntKind.i64.wrap (x1 + x3))) (2 ^ 1))), (134, vI (IntKind.i64.wrap (Int.fdiv (IntKind.u64.wrap (IntKind.i64.wrap (x1 + x3))) (2 ^ 1)))), (135, vI (IntKind.i64.wrap (Int.fdiv (IntKind.u64.wrap (IntKind.i64.wrap (x1 + x3))) (2 ^ 1)))), (136, vI x2), (137, vI (IntKind.i64.wrap ((IntKind.i64.wrap (Int.fdiv (IntKind.u64.wrap (IntKind.i64.wrap (x1 + x3))) (2 ^ 1))) + x2)))]) ea (slices_symMergeCmpFunc_int_p4 K w0 l0 A0 c0 x1 x2 x3 bg4_0 bg4_1 lg4_1 Ag4_1 cg4_1 LT hRg4_1 hLg4_1 recf hrec hc1 hc9 _ hq7 _ hS _ ?_)
    rintro _ a w11 ⟨rfl, hS99, hF⟩
    replace hS99 : St w0 w11 [Own.blk bg4_0 (.cells #[.func (.func 82) #[] #[]] 80 (0, 0)), Own.blk bg4_1 (.cells #[.slice Ag4_1 lg4_1.length cg4_1] 40 (0, 0)), Own.of (.slice A0 l0.length c0) 3 l0, Own.all LT] := hS99
    refine hK32 [(0, (.slice A0 l0.length c0)), (1, vI x1), (2, vI x2), (3, vI x3), (4, .func (.func 101) #[] #[pP bg4_0 0, pP bg4_1 0]), (18, vI (IntKind.i64.wrap (Int.fdiv (IntKind.u64.wrap (IntKind.i64.wrap (x1 + x3))) (2 ^ 1)))), (19, vI (IntKind.i64.wrap ((IntKind.i64.wrap (Int.fdiv (IntKind.u64.wrap (IntKind.i64.wrap (x1 + x3))) (2 ^ 1))) + x2))), (20, vI z13), (21, vI z14)] w11 ?_ a hF
    refine ws fun K36 hK36 => ?_
    refine wr [(0, 0), (1, 0), (2, 0)] ?_
    refine gb0 [0, 1, 2] [(22, vI (IntKind.i64.wrap ((IntKind.i64.wrap ((IntKind.i64.wrap (Int.fdiv (IntKind.u64.wrap (IntKind.i64.wrap (x1 + x3))) (2 ^ 1))) + x2)) - 1))), (148, vI (IntKind.i64.wrap ((IntKind.i64.wrap ((IntKind.i64.wrap (Int.fdiv (IntKind.u64.wrap (IntKind.i64.wrap (x1 + x3))) (2 ^ 1))) + x2)) - 1))), (147, vI (IntKind.i64.wrap ((IntKind.i64.wrap (Int.fdiv (IntKind.u64.wrap (IntKind.i64.wrap (x1 + x3))) (2 ^ 1))) + x2)))] ?_
    refine gn hK36 ?_
    refine ws fun K37 hK37 => ?_
    refine we_block ?_
    have hS100 := hS99.bring 3 rfl
    have hS101 := hS100.bring 3 rfl
    have hS102 := hS101.bring 3 rfl
    have hS103 := hS102.bring 3 rfl
    rcases hq9 : iter (slices_symMergeCmpFunc_int.r5 l0 x1 x2 x3 lg4_1) K (z13, z14) with _ | (z18 | rr6)
    ·rw [hq9] at h; cases h
    ·rw [hq9] at h
     simp only [] at h
     refine we_iter (A := slices_symMergeCmpFunc_int.A5 w0 l0 A0 c0 x1 x2 x3 bg4_0 bg4_1 lg4_1 Ag4_1 cg4_1 LT) (B := slices_symMergeCmpFunc_int.B5 w0 l0 A0 c0 x1 x2 x3 bg4_0 bg4_1 lg4_1 Ag4_1 cg4_1 LT) hq9 (fun a hF => ⟨hS103, hF.weaken ea⟩) (fun s o hf a w hA Q hQ => slices_symMergeCmpFunc_int_r5 K w0 l0 A0 c0 x1 x2 x3 bg4_0 bg4_1 lg4_1 Ag4_1 cg4_1 LT hRg4_1 hLg4_1 recf hrec hc1 hc9 z13 z14 s o hf a w hA Q hQ) ?_
     rintro _ a w13 _ ⟨rfl, hS119, hF⟩
     replace hS119 : St w0 w13 [Own.blk bg4_0 (.cells #[.func (.func 82) #[] #[]] 80 (0, 0)), Own.blk bg4_1 (.cells #[.slice Ag4_1 lg4_1.length cg4_1] 40 (0, 0)), Own.of (.slice A0 l0.length c0) 3 l0, Own.all LT] := hS119
     refine hK37 [(0, (.slice A0 l0.length c0)), (1, vI x1), (2, vI x2), (3, vI x3), (4, .func (.func 101) #[] #[pP bg4_0 0, pP bg4_1 0]), (18, vI (IntKind.i64.wrap (Int.fdiv (IntKind.u64.wrap (IntKind.i64.wrap (x1 + x3))) (2 ^ 1)))), (19, vI (IntKind.i64.wrap ((IntKind.i64.wrap (Int.fdiv (IntKind.u64.wrap (IntKind.i64.wrap (x1 + x3))) (2 ^ 1))) + x2))), (20, vI z18)] w13 ?_ a hF
     refine ws fun K42 hK42 => ?_
     refine wr [(0, 0), (1, 0), (2, 0), (3, 0)] ?_
     refine gb0 [0, 1, 2, 3] [(24, vI (IntKind.i64.wrap ((IntKind.i64.wrap ((IntKind.i64.wrap (Int.fdiv (IntKind.u64.wrap (IntKind.i64.wrap (x1 + x3))) (2 ^ 1))) + x2)) - z18))), (177, vI (IntKind.i64.wrap ((IntKind.i64.wrap ((IntKind.i64.wrap (Int.fdiv (IntKind.u64.wrap (IntKind.i64.wrap (x1 + x3))) (2 ^ 1))) + x2)) - z18))), (176, vI z18), (175, vI (IntKind.i64.wrap ((IntKind.i64.wrap (Int.fdiv (IntKind.u64.wrap (IntKind.i64.wrap (x1 + x3))) (2 ^ 1))) + x2)))] ?_
     refine gn hK42 ?_
     refine ws fun K43 hK43 => ?_
     rcases hq11 : slices_symMergeCmpFunc_int.p6 K l0 x1 x2 x3 lg4_1 z18 with _ | (m8 | rr5)
     ·rw [hq11] at h; cases h
     ·rw [hq11] at h
      simp only [] at h
      refine we_keep (e' := [(0, (.slice A0 l0.length c0)), (1, vI x1), (2, vI x2), (3, vI x3), (4, .func (.func 101) #[] #[pP bg4_0 0, pP bg4_1 0]), (18, vI (IntKind.i64.wrap (Int.fdiv (IntKind.u64.wrap (IntKind.i64.wrap (x1 + x3))) (2 ^ 1)))), (19, vI (IntKind.i64.wrap ((IntKind.i64.wrap (Int.fdiv (IntKind.u64.wrap (IntKind.i64.wrap (x1 + x3))) (2 ^ 1))) + x2))), (20, vI z18), (24, vI (IntKind.i64.wrap ((IntKind.i64.wrap ((IntKind.i64.wrap (Int.fdiv (IntKind.u64.wrap (IntKind.i64.wrap (x1 + x3))) (2 ^ 1))) + x2)) - z18))), (175, vI (IntKind.i64.wrap ((IntKind.i64.wrap (Int.fdiv (IntKind.u64.wrap (IntKind.i64.wrap (x1 + x3))) (2 ^ 1))) + x2))), (176, vI z18), (177, vI (IntKind.i64.wrap ((IntKind.i64.wrap ((IntKind.i64.wrap (Int.fdiv (IntKind.u64.wrap (IntKind.i64.wrap (x1 + x3))) (2 ^ 1))) + x2)) - z18)))]) ea (slices_symMergeCmpFunc_int_p6 K w0 l0 A0 c0 x1 x2 x3 bg4_0 bg4_1 lg4_1 Ag4_1 cg4_1 LT hRg4_1 hLg4_1 recf hrec hc1 hc9 z13 z14 z18 _ hq11 _ hS119 _ ?_)
      rintro _ a w15 ⟨rfl, hRz3, hS138, hF⟩
      replace hS138 : St w0 w15 [Own.blk bg4_0 (.cells #[.func (.func 82) #[] #[]] 80 (0, 0)), Own.blk bg4_1 (.cells #[.slice Ag4_1 lg4_1.length cg4_1] 40 (0, 0)), Own.of (.slice A0 m8.length c0) 3 m8, Own.all LT] := hS138
      refine hK43 [(0, (.slice A0 m8.length c0)), (1, vI x1), (3, vI x3), (4, .func (.func 101) #[] #[pP bg4_0 0, pP bg4_1 0]), (18, vI (IntKind.i64.wrap (Int.fdiv (IntKind.u64.wrap (IntKind.i64.wrap (x1 + x3))) (2 ^ 1)))), (20, vI z18), (24, vI (IntKind.i64.wrap ((IntKind.i64.wrap ((IntKind.i64.wrap (Int.fdiv (IntKind.u64.wrap (IntKind.i64.wrap (x1 + x3))) (2 ^ 1))) + x2)) - z18)))] w15 ?_ a hF
      refine ws fun K45 hK45 => ?_
      refine ws fun K46 hK46 => ?_
      refine wr [(0, 0), (1, 0), (2, 0), (3, 0), (4, 0), (5, 0), (6, 0), (7, 0)] ?_
      refine gb0 [0, 1, 2, 3] [(195, .bool (decide (x1 < z18))), (194, .bool (decide (x1 < z18))), (193, vI z18), (192, vI x1)] ?_
      by_cases hc24 : x1 < z18
      ·rw [if_pos hc24] at h
       refine gk 195 (decide (x1 < z18)) true (decide_eq_true hc24) ?_
       refine gb0 [4, 5, 6, 7] [(199, .bool (decide (z18 < (IntKind.i64.wrap (Int.fdiv (IntKind.u64.wrap (IntKind.i64.wrap (x1 + x3))) (2 ^ 1)))))), (198, .bool (decide (z18 < (IntKind.i64.wrap (Int.fdiv (IntKind.u64.wrap (IntKind.i64.wrap (x1 + x3))) (2 ^ 1)))))), (197, vI (IntKind.i64.wrap (Int.fdiv (IntKind.u64.wrap (IntKind.i64.wrap (x1 + x3))) (2 ^ 1)))), (196, vI z18)] ?_
       refine gn hK46 ?_
       by_cases hc25 : z18 < (IntKind.i64.wrap (Int.fdiv (IntKind.u64.wrap (IntKind.i64.wrap (x1 + x3))) (2 ^ 1)))
       ·rw [if_pos hc25] at h
        refine wk 199 (decide (z18 < (IntKind.i64.wrap (Int.fdiv (IntKind.u64.wrap (IntKind.i64.wrap (x1 + x3))) (2 ^ 1))))) true (decide_eq_true hc25) ?_
        refine we_true (by kernel_rfl) ?_
        refine wr [(0, 0), (1, 0), (2, 0), (3, 0), (4, 0), (5, 2)] ?_
        refine gb0 [0, 1, 2, 3, 4] [(204, .func (.func 101) #[] #[pP bg4_0 0, pP bg4_1 0]), (203, vI (IntKind.i64.wrap (Int.fdiv (IntKind.u64.wrap (IntKind.i64.wrap (x1 + x3))) (2 ^ 1)))), (202, vI z18), (201, vI x1), (200, (.slice A0 m8.length c0))] ?_
        rcases hq12 : recf m8 x1 z18 (IntKind.i64.wrap (Int.fdiv (IntKind.u64.wrap (IntKind.i64.wrap (x1 + x3))) (2 ^ 1))) lg4_1 with _ | r5
        ·rw [hq12] at h; cases h
        rw [hq12] at h
        simp only [] at h
        have hS139 := hS138.bring 1 rfl
        have hS140 := hS139.bring 1 rfl
        have hS141 := hS140.bring 2 rfl
        have hS143 : St w0 w15 [Own.of (.slice A0 m8.length c0) 3 m8, Own.blk bg4_0 (.cells #[.func (.func 82) #[] #[]] 80 (0, 0)), Own.blk bg4_1 (.cells #[.slice Ag4_1 lg4_1.length cg4_1] 40 (0, 0)), Own.all [Own.all LT]] := hS141.packN 3
        refine ge_call2 (m := 0) (d := some 205) (f := 119) (args := #[.slice A0 m8.length c0, vI x1, vI z18, vI (IntKind.i64.wrap (Int.fdiv (IntKind.u64.wrap (IntKind.i64.wrap (x1 + x3))) (2 ^ 1))), .func (.func 101) #[] #[pP bg4_0 0, pP bg4_1 0]]) (by kernel_rfl) (hrec m8 A0 c0 x1 z18 (IntKind.i64.wrap (Int.fdiv (IntKind.u64.wrap (IntKind.i64.wrap (x1 + x3))) (2 ^ 1))) bg4_0 bg4_1 lg4_1 Ag4_1 cg4_1 _ _ _ hS143 hRg4_1 hLg4_1 _ hq12) ?_
        rintro _ w16 ⟨rfl, hE6, hS142⟩
        refine ⟨_, rfl, ?_⟩
        have hS144 : St w0 w16 [Own.of (.slice A0 r5.length c0) 3 r5, Own.blk bg4_0 (.cells #[.func (.func 82) #[] #[]] 80 (0, 0)), Own.blk bg4_1 (.cells #[.slice Ag4_1 lg4_1.length cg4_1] 40 (0, 0)), Own.all LT] := hS142.unpack [Own.of (.slice A0 r5.length c0) 3 r5, Own.blk bg4_0 (.cells #[.func (.func 82) #[] #[]] 80 (0, 0)), Own.blk bg4_1 (.cells #[.slice Ag4_1 lg4_1.length cg4_1] 40 (0, 0))]
        refine ge_same (t := 0) (v := (.slice A0 m8.length c0)) (v' := (.slice A0 r5.length c0)) (by kernel_rfl) (by rw [show m8.length = r5.length from hE6]) ?_
        refine ge_same (t := 200) (v := (.slice A0 m8.length c0)) (v' := (.slice A0 r5.length c0)) (by kernel_rfl) (by rw [show m8.length = r5.length from hE6]) ?_
        have hLio7 : l0.length = r5.length := Eq.trans hRz3 hE6
        refine gn hK45 ?_
        refine ws fun K47 hK47 => ?_
        refine wr [(0, 0), (1, 0), (2, 0), (3, 0), (4, 0), (5, 0), (6, 0), (7, 0)] ?_
        refine gb0 [0, 1, 2, 3] [(209, .bool (decide ((IntKind.i64.wrap (Int.fdiv (IntKind.u64.wrap (IntKind.i64.wrap (x1 + x3))) (2 ^ 1))) < (IntKind.i64.wrap ((IntKind.i64.wrap ((IntKind.i64.wrap (Int.fdiv (IntKind.u64.wrap (IntKind.i64.wrap (x1 + x3))) (2 ^ 1))) + x2)) - z18))))), (208, .bool (decide ((IntKind.i64.wrap (Int.fdiv (IntKind.u64.wrap (IntKind.i64.wrap (x1 + x3))) (2 ^ 1))) < (IntKind.i64.wrap ((IntKind.i64.wrap ((IntKind.i64.wrap (Int.fdiv (IntKind.u64.wrap (IntKind.i64.wrap (x1 + x3))) (2 ^ 1))) + x2)) - z18))))), (207, vI (IntKind.i64.wrap ((IntKind.i64.wrap ((IntKind.i64.wrap (Int.fdiv (IntKind.u64.wrap (IntKind.i64.wrap (x1 + x3))) (2 ^ 1))) + x2)) - z18))), (206, vI (IntKind.i64.wrap (Int.fdiv (IntKind.u64.wrap (IntKind.i64.wrap (x1 + x3))) (2 ^ 1))))] ?_
        by_cases hc26 : (IntKind.i64.wrap (Int.fdiv (IntKind.u64.wrap (IntKind.i64.wrap (x1 + x3))) (2 ^ 1))) < (IntKind.i64.wrap ((IntKind.i64.wrap ((IntKind.i64.wrap (Int.fdiv (IntKind.u64.wrap (IntKind.i64.wrap (x1 + x3))) (2 ^ 1))) + x2)) - z18))
        ·rw [if_pos hc26] at h
         refine gk 209 (decide ((IntKind.i64.wrap (Int.fdiv (IntKind.u64.wrap (IntKind.i64.wrap (x1 + x3))) (2 ^ 1))) < (IntKind.i64.wrap ((IntKind.i64.wrap ((IntKind.i64.wrap (Int.fdiv (IntKind.u64.wrap (IntKind.i64.wrap (x1 + x3))) (2 ^ 1))) + x2)) - z18)))) true (decide_eq_true hc26) ?_
         refine gb0 [4, 5, 6, 7] [(213, .bool (decide ((IntKind.i64.wrap ((IntKind.i64.wrap ((IntKind.i64.wrap (Int.fdiv (IntKind.u64.wrap (IntKind.i64.wrap (x1 + x3))) (2 ^ 1))) + x2)) - z18)) < x3))), (212, .bool (decide ((IntKind.i64.wrap ((IntKind.i64.wrap ((IntKind.i64.wrap (Int.fdiv (IntKind.u64.wrap (IntKind.i64.wrap (x1 + x3))) (2 ^ 1))) + x2)) - z18)) < x3))), (211, vI x3), (210, vI (IntKind.i64.wrap ((IntKind.i64.wrap ((IntKind.i64.wrap (Int.fdiv (IntKind.u64.wrap (IntKind.i64.wrap (x1 + x3))) (2 ^ 1))) + x2)) - z18)))] ?_
         refine gn hK47 ?_
         by_cases hc27 : (IntKind.i64.wrap ((IntKind.i64.wrap ((IntKind.i64.wrap (Int.fdiv (IntKind.u64.wrap (IntKind.i64.wrap (x1 + x3))) (2 ^ 1))) + x2)) - z18)) < x3
         ·rw [if_pos hc27] at h
          refine wk 213 (decide ((IntKind.i64.wrap ((IntKind.i64.wrap ((IntKind.i64.wrap (Int.fdiv (IntKind.u64.wrap (IntKind.i64.wrap (x1 + x3))) (2 ^ 1))) + x2)) - z18)) < x3)) true (decide_eq_true hc27) ?_
          refine we_true (by kernel_rfl) ?_
          refine wr [(0, 0), (1, 0), (2, 0), (3, 0), (4, 0), (5, 2)] ?_
          refine gb0 [0, 1, 2, 3, 4] [(218, .func (.func 101) #[] #[pP bg4_0 0, pP bg4_1 0]), (217, vI x3), (216, vI (IntKind.i64.wrap ((IntKind.i64.wrap ((IntKind.i64.wrap (Int.fdiv (IntKind.u64.wrap (IntKind.i64.wrap (x1 + x3))) (2 ^ 1))) + x2)) - z18))), (215, vI (IntKind.i64.wrap (Int.fdiv (IntKind.u64.wrap (IntKind.i64.wrap (x1 + x3))) (2 ^ 1)))), (214, (.slice A0 r5.length c0))] ?_
          rcases hq13 : recf r5 (IntKind.i64.wrap (Int.fdiv (IntKind.u64.wrap (IntKind.i64.wrap (x1 + x3))) (2 ^ 1))) (IntKind.i64.wrap ((IntKind.i64.wrap ((IntKind.i64.wrap (Int.fdiv (IntKind.u64.wrap (IntKind.i64.wrap (x1 + x3))) (2 ^ 1))) + x2)) - z18)) x3 lg4_1 with _ | r6
          ·rw [hq13] at h; cases h
          rw [hq13] at h
          simp only [] at h
          have hS145 := hS144.bring 2 rfl
          have hS146 := hS145.bring 2 rfl
          have hS147 := hS146.bring 2 rfl
          have hS149 : St w0 w16 [Own.of (.slice A0 r5.length c0) 3 r5, Own.blk bg4_0 (.cells #[.func (.func 82) #[] #[]] 80 (0, 0)), Own.blk bg4_1 (.cells #[.slice Ag4_1 lg4_1.length cg4_1] 40 (0, 0)), Own.all [Own.all LT]] := hS147.packN 3
          refine ge_call2 (m := 0) (d := some 219) (f := 119) (args := #[.slice A0 r5.length c0, vI (IntKind.i64.wrap (Int.fdiv (IntKind.u64.wrap (IntKind.i64.wrap (x1 + x3))) (2 ^ 1))), vI (IntKind.i64.wrap ((IntKind.i64.wrap ((IntKind.i64.wrap (Int.fdiv (IntKind.u64.wrap (IntKind.i64.wrap (x1 + x3))) (2 ^ 1))) + x2)) - z18)), vI x3, .func (.func 101) #[] #[pP bg4_0 0, pP bg4_1 0]]) (by kernel_rfl) (hrec r5 A0 c0 (IntKind.i64.wrap (Int.fdiv (IntKind.u64.wrap (IntKind.i64.wrap (x1 + x3))) (2 ^ 1))) (IntKind.i64.wrap ((IntKind.i64.wrap ((IntKind.i64.wrap (Int.fdiv (IntKind.u64.wrap (IntKind.i64.wrap (x1 + x3))) (2 ^ 1))) + x2)) - z18)) x3 bg4_0 bg4_1 lg4_1 Ag4_1 cg4_1 _ _ _ hS149 hRg4_1 hLg4_1 _ hq13) ?_
          rintro _ w17 ⟨rfl, hE7, hS148⟩
          refine ⟨_, rfl, ?_⟩
          have hS150 : St w0 w17 [Own.of (.slice A0 r6.length c0) 3 r6, Own.blk bg4_0 (.cells #[.func (.func 82) #[] #[]] 80 (0, 0)), Own.blk bg4_1 (.cells #[.slice Ag4_1 lg4_1.length cg4_1] 40 (0, 0)), Own.all LT] := hS148.unpack [Own.of (.slice A0 r6.length c0) 3 r6, Own.blk bg4_0 (.cells #[.func (.func 82) #[] #[]] 80 (0, 0)), Own.blk bg4_1 (.cells #[.slice Ag4_1 lg4_1.length cg4_1] 40 (0, 0))]
          refine ge_same (t := 0) (v := (.slice A0 r5.length c0)) (v' := (.slice A0 r6.length c0)) (by kernel_rfl) (by rw [show r5.length = r6.length from hE7]) ?_
          refine ge_same (t := 200) (v := (.slice A0 r5.length c0)) (v' := (.slice A0 r6.length c0)) (by kernel_rfl) (by rw [show r5.length = r6.length from hE7]) ?_
          refine ge_same (t := 214) (v := (.slice A0 r5.length c0)) (v' := (.slice A0 r6.length c0)) (by kernel_rfl) (by rw [show r5.length = r6.length from hE7]) ?_
          have hLio8 : l0.length = r6.length := Eq.trans hLio7 hE7
          have hS151 := hS150.bring 3 rfl
          have hS152 := hS151.bring 3 rfl
          have hS153 := hS152.bring 3 rfl
          have hS154 := hS153.bring 3 rfl
          obtain rfl := si h
          exact ge_nil (pe0 [] [] ⟨rfl, hLio8, hS154⟩)
         ·rw [if_neg hc27] at h
          refine wk 213 (decide ((IntKind.i64.wrap ((IntKind.i64.wrap ((IntKind.i64.wrap (Int.fdiv (IntKind.u64.wrap (IntKind.i64.wrap (x1 + x3))) (2 ^ 1))) + x2)) - z18)) < x3)) false (decide_eq_false hc27) ?_
          refine we_false (by kernel_rfl) ?_
          have hS155 := hS144.bring 3 rfl
          have hS156 := hS155.bring 3 rfl
          have hS157 := hS156.bring 3 rfl
          have hS158 := hS157.bring 3 rfl
          obtain rfl := si h
          exact we_skip (pe0 [] [] ⟨rfl, hLio7, hS158⟩)
        ·rw [if_neg hc26] at h
         refine gk 209 (decide ((IntKind.i64.wrap (Int.fdiv (IntKind.u64.wrap (IntKind.i64.wrap (x1 + x3))) (2 ^ 1))) < (IntKind.i64.wrap ((IntKind.i64.wrap ((IntKind.i64.wrap (Int.fdiv (IntKind.u64.wrap (IntKind.i64.wrap (x1 + x3))) (2 ^ 1))) + x2)) - z18)))) false (decide_eq_false hc26) ?_
         refine gb0 [4, 5, 6, 7] [(213, .bool false), (212, undef), (211, undef), (210, undef)] ?_
         refine gn hK47 ?_
         refine we_false (by kernel_rfl) ?_
         have hS159 := hS144.bring 3 rfl
         have hS160 := hS159.bring 3 rfl
         have hS161 := hS160.bring 3 rfl
         have hS162 := hS161.bring 3 rfl
         obtain rfl := si h
         exact we_skip (pe0 [] [] ⟨rfl, hLio7, hS162⟩)
       ·rw [if_neg hc25] at h
        refine wk 199 (decide (z18 < (IntKind.i64.wrap (Int.fdiv (IntKind.u64.wrap (IntKind.i64.wrap (x1 + x3))) (2 ^ 1))))) false (decide_eq_false hc25) ?_
        refine we_false (by kernel_rfl) ?_
        refine we_skip fun a hF => hK45 _ _ ?_ a hF
        refine ws fun K48 hK48 => ?_
        refine wr [(0, 0), (1, 0), (2, 0), (3, 0), (4, 0), (5, 0), (6, 0), (7, 0)] ?_
        refine gb0 [0, 1, 2, 3] [(209, .bool (decide ((IntKind.i64.wrap (Int.fdiv (IntKind.u64.wrap (IntKind.i64.wrap (x1 + x3))) (2 ^ 1))) < (IntKind.i64.wrap ((IntKind.i64.wrap ((IntKind.i64.wrap (Int.fdiv (IntKind.u64.wrap (IntKind.i64.wrap (x1 + x3))) (2 ^ 1))) + x2)) - z18))))), (208, .bool (decide ((IntKind.i64.wrap (Int.fdiv (IntKind.u64.wrap (IntKind.i64.wrap (x1 + x3))) (2 ^ 1))) < (IntKind.i64.wrap ((IntKind.i64.wrap ((IntKind.i64.wrap (Int.fdiv (IntKind.u64.wrap (IntKind.i64.wrap (x1 + x3))) (2 ^ 1))) + x2)) - z18))))), (207, vI (IntKind.i64.wrap ((IntKind.i64.wrap ((IntKind.i64.wrap (Int.fdiv (IntKind.u64.wrap (IntKind.i64.wrap (x1 + x3))) (2 ^ 1))) + x2)) - z18))), (206, vI (IntKind.i64.wrap (Int.fdiv (IntKind.u64.wrap (IntKind.i64.wrap (x1 + x3))) (2 ^ 1))))] ?_
        by_cases hc28 : (IntKind.i64.wrap (Int.fdiv (IntKind.u64.wrap (IntKind.i64.wrap (x1 + x3))) (2 ^ 1))) < (IntKind.i64.wrap ((IntKind.i64.wrap ((IntKind.i64.wrap (Int.fdiv (IntKind.u64.wrap (IntKind.i64.wrap (x1 + x3))) (2 ^ 1))) + x2)) - z18))
        ·rw [if_pos hc28] at h
         refine gk 209 (decide ((IntKind.i64.wrap (Int.fdiv (IntKind.u64.wrap (IntKind.i64.wrap (x1 + x3))) (2 ^ 1))) < (IntKind.i64.wrap ((IntKind.i64.wrap ((IntKind.i64.wrap (Int.fdiv (IntKind.u64.wrap (IntKind.i64.wrap (x1 + x3))) (2 ^ 1))) + x2)) - z18)))) true (decide_eq_true hc28) ?_
         refine gb0 [4, 5, 6, 7] [(213, .bool (decide ((IntKind.i64.wrap ((IntKind.i64.wrap ((IntKind.i64.wrap (Int.fdiv (IntKind.u64.wrap (IntKind.i64.wrap (x1 + x3))) (2 ^ 1))) + x2)) - z18)) < x3))), (212, .bool (decide ((IntKind.i64.wrap ((IntKind.i64.wrap ((IntKind.i64.wrap (Int.fdiv (IntKind.u64.wrap (IntKind.i64.wrap (x1 + x3))) (2 ^ 1))) + x2)) - z18)) < x3))), (211, vI x3), (210, vI (IntKind.i64.wrap ((IntKind.i64.wrap ((IntKind.i64.wrap (Int.fdiv (IntKind.u64.wrap (IntKind.i64.wrap (x1 + x3))) (2 ^ 1))) + x2)) - z18)))] ?_
         refine gn hK48 ?_
         by_cases hc29 : (IntKind.i64.wrap ((IntKind.i64.wrap ((IntKind.i64.wrap (Int.fdiv (IntKind.u64.wrap (IntKind.i64.wrap (x1 + x3))) (2 ^ 1))) + x2)) - z18)) < x3
         ·rw [if_pos hc29] at h
          refine wk 213 (decide ((IntKind.i64.wrap ((IntKind.i64.wrap ((IntKind.i64.wrap (Int.fdiv (IntKind.u64.wrap (IntKind.i64.wrap (x1 + x3))) (2 ^ 1))) + x2)) - z18)) < x3)) true (decide_eq_true hc29) ?_
          refine we_true (by kernel_rfl) ?_
          refine wr [(0, 0), (1, 0), (2, 0), (3, 0), (4, 0), (5, 2)] ?_
          refine gb0 [0, 1, 2, 3, 4] [(218, .func (.func 101) #[] #[pP bg4_0 0, pP bg4_1 0]), (217, vI x3), (216, vI (IntKind.i64.wrap ((IntKind.i64.wrap ((IntKind.i64.wrap (Int.fdiv (IntKind.u64.wrap (IntKind.i64.wrap (x1 + x3))) (2 ^ 1))) + x2)) - z18))), (215, vI (IntKind.i64.wrap (Int.fdiv (IntKind.u64.wrap (IntKind.i64.wrap (x1 + x3))) (2 ^ 1)))), (214, (.slice A0 m8.length c0))] ?_
          rcases hq14 : recf m8 (IntKind.i64.wrap (Int.fdiv (IntKind.u64.wrap (IntKind.i64.wrap (x1 + x3))) (2 ^ 1))) (IntKind.i64.wrap ((IntKind.i64.wrap ((IntKind.i64.wrap (Int.fdiv (IntKind.u64.wrap (IntKind.i64.wrap (x1 + x3))) (2 ^ 1))) + x2)) - z18)) x3 lg4_1 with _ | r7
          ·rw [hq14] at h; cases h
          rw [hq14] at h
          simp only [] at h
          have hS163 := hS138.bring 1 rfl
          have hS164 := hS163.bring 1 rfl
          have hS165 := hS164.bring 2 rfl
          have hS167 : St w0 w15 [Own.of (.slice A0 m8.length c0) 3 m8, Own.blk bg4_0 (.cells #[.func (.func 82) #[] #[]] 80 (0, 0)), Own.blk bg4_1 (.cells #[.slice Ag4_1 lg4_1.length cg4_1] 40 (0, 0)), Own.all [Own.all LT]] := hS165.packN 3
          refine ge_call2 (m := 0) (d := some 219) (f := 119) (args := #[.slice A0 m8.length c0, vI (IntKind.i64.wrap (Int.fdiv (IntKind.u64.wrap (IntKind.i64.wrap (x1 + x3))) (2 ^ 1))), vI (IntKind.i64.wrap ((IntKind.i64.wrap ((IntKind.i64.wrap (Int.fdiv (IntKind.u64.wrap (IntKind.i64.wrap (x1 + x3))) (2 ^ 1))) + x2)) - z18)), vI x3, .func (.func 101) #[] #[pP bg4_0 0, pP bg4_1 0]]) (by kernel_rfl) (hrec m8 A0 c0 (IntKind.i64.wrap (Int.fdiv (IntKind.u64.wrap (IntKind.i64.wrap (x1 + x3))) (2 ^ 1))) (IntKind.i64.wrap ((IntKind.i64.wrap ((IntKind.i64.wrap (Int.fdiv (IntKind.u64.wrap (IntKind.i64.wrap (x1 + x3))) (2 ^ 1))) + x2)) - z18)) x3 bg4_0 bg4_1 lg4_1 Ag4_1 cg4_1 _ _ _ hS167 hRg4_1 hLg4_1 _ hq14) ?_
          rintro _ w18 ⟨rfl, hE8, hS166⟩
          refine ⟨_, rfl, ?_⟩
          have hS168 : St w0 w18 [Own.of (.slice A0 r7.length c0) 3 r7, Own.blk bg4_0 (.cells #[.func (.func 82) #[] #[]] 80 (0, 0)), Own.blk bg4_1 (.cells #[.slice Ag4_1 lg4_1.length cg4_1] 40 (0, 0)), Own.all LT] := hS166.unpack [Own.of (.slice A0 r7.length c0) 3 r7, Own.blk bg4_0 (.cells #[.func (.func 82) #[] #[]] 80 (0, 0)), Own.blk bg4_1 (.cells #[.slice Ag4_1 lg4_1.length cg4_1] 40 (0, 0))]
          refine ge_same (t := 0) (v := (.slice A0 m8.length c0)) (v' := (.slice A0 r7.length c0)) (by kernel_rfl) (by rw [show m8.length = r7.length from hE8]) ?_
          refine ge_same (t := 214) (v := (.slice A0 m8.length c0)) (v' := (.slice A0 r7.length c0)) (by kernel_rfl) (by rw [show m8.length = r7.length from hE8]) ?_
          have hLio9 : l0.length = r7.length := Eq.trans hRz3 hE8
          have hS169 := hS168.bring 3 rfl
          have hS170 := hS169.bring 3 rfl
          have hS171 := hS170.bring 3 rfl
          have hS172 := hS171.bring 3 rfl
          obtain rfl := si h
          exact ge_nil (pe0 [] [] ⟨rfl, hLio9, hS172⟩)
         ·rw [if_neg hc29] at h
          refine wk 213 (decide ((IntKind.i64.wrap ((IntKind.i64.wrap ((IntKind.i64.wrap (Int.fdiv (IntKind.u64.wrap (IntKind.i64.wrap (x1 + x3))) (2 ^ 1))) + x2)) - z18)) < x3)) false (decide_eq_false hc29) ?_
          refine we_false (by kernel_rfl) ?_
          have hS173 := hS138.bring 3 rfl
          have hS174 := hS173.bring 2 rfl
          have hS175 := hS174.bring 2 rfl
          have hS176 := hS175.bring 3 rfl
          obtain rfl := si h
          exact we_skip (pe0 [] [] ⟨rfl, hRz3, hS176⟩)
        ·rw [if_neg hc28] at h
         refine gk 209 (decide ((IntKind.i64.wrap (Int.fdiv (IntKind.u64.wrap (IntKind.i64.wrap (x1 + x3))) (2 ^ 1))) < (IntKind.i64.wrap ((IntKind.i64.wrap ((IntKind.i64.wrap (Int.fdiv (IntKind.u64.wrap (IntKind.i64.wrap (x1 + x3))) (2 ^ 1))) + x2)) - z18)))) false (decide_eq_false hc28) ?_
         refine gb0 [4, 5, 6, 7] [(213, .bool false), (212, undef), (211, undef), (210, undef)] ?_
         refine gn hK48 ?_
         refine we_false (by kernel_rfl) ?_
         have hS177 := hS138.bring 3 rfl
         have hS178 := hS177.bring 2 rfl
         have hS179 := hS178.bring 2 rfl
         have hS180 := hS179.bring 3 rfl
         obtain rfl := si h
         exact we_skip (pe0 [] [] ⟨rfl, hRz3, hS180⟩)
      ·rw [if_neg hc24] at h
       refine gk 195 (decide (x1 < z18)) false (decide_eq_false hc24) ?_
       refine gb0 [4, 5, 6, 7] [(199, .bool false), (198, undef), (197, undef), (196, undef)] ?_
       refine gn hK46 ?_
       refine we_false (by kernel_rfl) ?_
       refine we_skip fun a hF => hK45 _ _ ?_ a hF
       refine ws fun K49 hK49 => ?_
       refine wr [(0, 0), (1, 0), (2, 0), (3, 0), (4, 0), (5, 0), (6, 0), (7, 0)] ?_
       refine gb0 [0, 1, 2, 3] [(209, .bool (decide ((IntKind.i64.wrap (Int.fdiv (IntKind.u64.wrap (IntKind.i64.wrap (x1 + x3))) (2 ^ 1))) < (IntKind.i64.wrap ((IntKind.i64.wrap ((IntKind.i64.wrap (Int.fdiv (IntKind.u64.wrap (IntKind.i64.wrap (x1 + x3))) (2 ^ 1))) + x2)) - z18))))), (208, .bool (decide ((IntKind.i64.wrap (Int.fdiv (IntKind.u64.wrap (IntKind.i64.wrap (x1 + x3))) (2 ^ 1))) < (IntKind.i64.wrap ((IntKind.i64.wrap ((IntKind.i64.wrap (Int.fdiv (IntKind.u64.wrap (IntKind.i64.wrap (x1 + x3))) (2 ^ 1))) + x2)) - z18))))), (207, vI (IntKind.i64.wrap ((IntKind.i64.wrap ((IntKind.i64.wrap (Int.fdiv (IntKind.u64.wrap (IntKind.i64.wrap (x1 + x3))) (2 ^ 1))) + x2)) - z18))), (206, vI (IntKind.i64.wrap (Int.fdiv (IntKind.u64.wrap (IntKind.i64.wrap (x1 + x3))) (2 ^ 1))))] ?_
       by_cases hc30 : (IntKind.i64.wrap (Int.fdiv (IntKind.u64.wrap (IntKind.i64.wrap (x1 + x3))) (2 ^ 1))) < (IntKind.i64.wrap ((IntKind.i64.wrap ((IntKind.i64.wrap (Int.fdiv (IntKind.u64.wrap (IntKind.i64.wrap (x1 + x3))) (2 ^ 1))) + x2)) - z18))
       ·rw [if_pos hc30] at h
        refine gk 209 (decide ((IntKind.i64.wrap (Int.fdiv (IntKind.u64.wrap (IntKind.i64.wrap (x1 + x3))) (2 ^ 1))) < (IntKind.i64.wrap ((IntKind.i64.wrap ((IntKind.i64.wrap (Int.fdiv (IntKind.u64.wrap (IntKind.i64.wrap (x1 + x3))) (2 ^ 1))) + x2)) - z18)))) true (decide_eq_true hc30) ?_
        refine gb0 [4, 5, 6, 7] [(213, .bool (decide ((IntKind.i64.wrap ((IntKind.i64.wrap ((IntKind.i64.wrap (Int.fdiv (IntKind.u64.wrap (IntKind.i64.wrap (x1 + x3))) (2 ^ 1))) + x2)) - z18)) < x3))), (212, .bool (decide ((IntKind.i64.wrap ((IntKind.i64.wrap ((IntKind.i64.wrap (Int.fdiv (IntKind.u64.wrap (IntKind.i64.wrap (x1 + x3))) (2 ^ 1))) + x2)) - z18)) < x3))), (211, vI x3), (210, vI (IntKind.i64.wrap ((IntKind.i64.wrap ((IntKind.i64.wrap (Int.fdiv (IntKind.u64.wrap (IntKind.i64.wrap (x1 + x3))) (2 ^ 1))) + x2)) - z18)))] ?_
        refine gn hK49 ?_
        by_cases hc31 : (IntKind.i64.wrap ((IntKind.i64.wrap ((IntKind.i64.wrap (Int.fdiv (IntKind.u64.wrap (IntKind.i64.wrap (x1 + x3))) (2 ^ 1))) + x2)) - z18)) < x3
        ·rw [if_pos hc31] at h
         refine wk 213 (decide ((IntKind.i64.wrap ((IntKind.i64.wrap ((IntKind.i64.wrap (Int.fdiv (IntKind.u64.wrap (IntKind.i64.wrap (x1 + x3))) (2 ^ 1))) + x2)) - z18)) < x3)) true (decide_eq_true hc31) ?_
         refine we_true (by kernel_rfl) ?_
         refine wr [(0, 0), (1, 0), (2, 0), (3, 0), (4, 0), (5, 2)] ?_
         refine gb0 [0, 1, 2, 3, 4] [(218, .func (.func 101) #[] #[pP bg4_0 0, pP bg4_1 0]), (217, vI x3), (216, vI (IntKind.i64.wrap ((IntKind.i64.wrap ((IntKind.i64.wrap (Int.fdiv (IntKind.u64.wrap (IntKind.i64.wrap (x1 + x3))) (2 ^ 1))) + x2)) - z18))), (215, vI (IntKind.i64.wrap (Int.fdiv (IntKind.u64.wrap (IntKind.i64.wrap (x1 + x3))) (2 ^ 1)))), (214, (.slice A0 m8.length c0))] ?_
         rcases hq15 : recf m8 (IntKind.i64.wrap (Int.fdiv (IntKind.u64.wrap (IntKind.i64.wrap (x1 + x3))) (2 ^ 1))) (IntKind.i64.wrap ((IntKind.i64.wrap ((IntKind.i64.wrap (Int.fdiv (IntKind.u64.wrap (IntKind.i64.wrap (x1 + x3))) (2 ^ 1))) + x2)) - z18)) x3 lg4_1 with _ | r8
         ·rw [hq15] at h; cases h
         rw [hq15] at h
         simp only [] at h
         have hS181 := hS138.bring 1 rfl
         have hS182 := hS181.bring 1 rfl
         have hS183 := hS182.bring 2 rfl
         have hS185 : St w0 w15 [Own.of (.slice A0 m8.length c0) 3 m8, Own.blk bg4_0 (.cells #[.func (.func 82) #[] #[]] 80 (0, 0)), Own.blk bg4_1 (.cells #[.slice Ag4_1 lg4_1.length cg4_1] 40 (0, 0)), Own.all [Own.all LT]] := hS183.packN 3
         refine ge_call2 (m := 0) (d := some 219) (f := 119) (args := #[.slice A0 m8.length c0, vI (IntKind.i64.wrap (Int.fdiv (IntKind.u64.wrap (IntKind.i64.wrap (x1 + x3))) (2 ^ 1))), vI (IntKind.i64.wrap ((IntKind.i64.wrap ((IntKind.i64.wrap (Int.fdiv (IntKind.u64.wrap (IntKind.i64.wrap (x1 + x3))) (2 ^ 1))) + x2)) - z18)), vI x3, .func (.func 101) #[] #[pP bg4_0 0, pP bg4_1 0]]) (by kernel_rfl) (hrec m8 A0 c0 (IntKind.i64.wrap (Int.fdiv (IntKind.u64.wrap (IntKind.i64.wrap (x1 + x3))) (2 ^ 1))) (IntKind.i64.wrap ((IntKind.i64.wrap ((IntKind.i64.wrap (Int.fdiv (IntKind.u64.wrap (IntKind.i64.wrap (x1 + x3))) (2 ^ 1))) + x2)) - z18)) x3 bg4_0 bg4_1 lg4_1 Ag4_1 cg4_1 _ _ _ hS185 hRg4_1 hLg4_1 _ hq15) ?_
         rintro _ w19 ⟨rfl, hE9, hS184⟩
         refine ⟨_, rfl, ?_⟩
         have hS186 : St w0 w19 [Own.of (.slice A0 r8.length c0) 3 r8, Own.blk bg4_0 (.cells #[.func (.func 82) #[] #[]] 80 (0, 0)), Own.blk bg4_1 (.cells #[.slice Ag4_1 lg4_1.length cg4_1] 40 (0, 0)), Own.all LT] := hS184.unpack [Own.of (.slice A0 r8.length c0) 3 r8, Own.blk bg4_0 (.cells #[.func (.func 82) #[] #[]] 80 (0, 0)), Own.blk bg4_1 (.cells #[.slice Ag4_1 lg4_1.length cg4_1] 40 (0, 0))]
         refine ge_same (t := 0) (v := (.slice A0 m8.length c0)) (v' := (.slice A0 r8.length c0)) (by kernel_rfl) (by rw [show m8.length = r8.length from hE9]) ?_
         refine ge_same (t := 214) (v := (.slice A0 m8.length c0)) (v' := (.slice A0 r8.length c0)) (by kernel_rfl) (by rw [show m8.length = r8.length from hE9]) ?_
         have hLio10 : l0.length = r8.length := Eq.trans hRz3 hE9
         have hS187 := hS186.bring 3 rfl
         have hS188 := hS187.bring 3 rfl
         have hS189 := hS188.bring 3 rfl
         have hS190 := hS189.bring 3 rfl
         obtain rfl := si h
         exact ge_nil (pe0 [] [] ⟨rfl, hLio10, hS190⟩)
        ·rw [if_neg hc31] at h
         refine wk 213 (decide ((IntKind.i64.wrap ((IntKind.i64.wrap ((IntKind.i64.wrap (Int.fdiv (IntKind.u64.wrap (IntKind.i64.wrap (x1 + x3))) (2 ^ 1))) + x2)) - z18)) < x3)) false (decide_eq_false hc31) ?_
         refine we_false (by kernel_rfl) ?_
         have hS191 := hS138.bring 3 rfl
         have hS192 := hS191.bring 2 rfl
         have hS193 := hS192.bring 2 rfl
         have hS194 := hS193.bring 3 rfl
         obtain rfl := si h
         exact we_skip (pe0 [] [] ⟨rfl, hRz3, hS194⟩)
       ·rw [if_neg hc30] at h
        refine gk 209 (decide ((IntKind.i64.wrap (Int.fdiv (IntKind.u64.wrap (IntKind.i64.wrap (x1 + x3))) (2 ^ 1))) < (IntKind.i64.wrap ((IntKind.i64.wrap ((IntKind.i64.wrap (Int.fdiv (IntKind.u64.wrap (IntKind.i64.wrap (x1 + x3))) (2 ^ 1))) + x2)) - z18)))) false (decide_eq_false hc30) ?_
        refine gb0 [4, 5, 6, 7] [(213, .bool false), (212, undef), (211, undef), (210, undef)] ?_
        refine gn hK49 ?_
        refine we_false (by kernel_rfl) ?_
        have hS195 := hS138.bring 3 rfl
        have hS196 := hS195.bring 2 rfl
        have hS197 := hS196.bring 2 rfl
        have hS198 := hS197.bring 3 rfl
        obtain rfl := si h
        exact we_skip (pe0 [] [] ⟨rfl, hRz3, hS198⟩)
     ·rw [hq11] at h
      simp only [] at h
      refine we_keep (e' := [(0, (.slice A0 l0.length c0)), (1, vI x1), (2, vI x2), (3, vI x3), (4, .func (.func 101) #[] #[pP bg4_0 0, pP bg4_1 0]), (18, vI (IntKind.i64.wrap (Int.fdiv (IntKind.u64.wrap (IntKind.i64.wrap (x1 + x3))) (2 ^ 1)))), (19, vI (IntKind.i64.wrap ((IntKind.i64.wrap (Int.fdiv (IntKind.u64.wrap (IntKind.i64.wrap (x1 + x3))) (2 ^ 1))) + x2))), (20, vI z18), (24, vI (IntKind.i64.wrap ((IntKind.i64.wrap ((IntKind.i64.wrap (Int.fdiv (IntKind.u64.wrap (IntKind.i64.wrap (x1 + x3))) (2 ^ 1))) + x2)) - z18))), (175, vI (IntKind.i64.wrap ((IntKind.i64.wrap (Int.fdiv (IntKind.u64.wrap (IntKind.i64.wrap (x1 + x3))) (2 ^ 1))) + x2))), (176, vI z18), (177, vI (IntKind.i64.wrap ((IntKind.i64.wrap ((IntKind.i64.wrap (Int.fdiv (IntKind.u64.wrap (IntKind.i64.wrap (x1 + x3))) (2 ^ 1))) + x2)) - z18)))]) ea (slices_symMergeCmpFunc_int_p6 K w0 l0 A0 c0 x1 x2 x3 bg4_0 bg4_1 lg4_1 Ag4_1 cg4_1 LT hRg4_1 hLg4_1 recf hrec hc1 hc9 z13 z14 z18 _ hq11 _ hS119 _ ?_)
      rintro _ a w1 ⟨_, rfl, hb⟩
      obtain rfl := si h
      exact hb
    ·rw [hq9] at h
     simp only [] at h
     refine we_iter (A := slices_symMergeCmpFunc_int.A5 w0 l0 A0 c0 x1 x2 x3 bg4_0 bg4_1 lg4_1 Ag4_1 cg4_1 LT) (B := slices_symMergeCmpFunc_int.B5 w0 l0 A0 c0 x1 x2 x3 bg4_0 bg4_1 lg4_1 Ag4_1 cg4_1 LT) hq9 (fun a hF => ⟨hS103, hF.weaken ea⟩) (fun s o hf a w hA Q hQ => slices_symMergeCmpFunc_int_r5 K w0 l0 A0 c0 x1 x2 x3 bg4_0 bg4_1 lg4_1 Ag4_1 cg4_1 LT hRg4_1 hLg4_1 recf hrec hc1 hc9 z13 z14 s o hf a w hA Q hQ) ?_
     rintro _ a w1 _ ⟨rfl, hb⟩
     obtain rfl := si h
     exact hb
   ·rw [hq7] at h
    simp only [] at h
    refine we_keep (e' := [(0, (.slice A0 l0.length c0)), (1, vI x1), (2, vI x2), (3, vI x3), (4, .func (.func 101) #[] #[pP bg4_0 0, pP bg4_1 0]), (18, vI (IntKind.i64.wrap (Int.fdiv (IntKind.u64.wrap (IntKind.i64.wrap (x1 + x3))) (2 ^ 1)))), (19, vI (IntKind.i64.wrap ((IntKind.i64.wrap (Int.fdiv (IntKind.u64.wrap (IntKind.i64.wrap (x1 + x3))) (2 ^ 1))) + x2))), (20, vI 0), (21, vI 0), (25, vI x2), (26, vI x1), (27, vI (IntKind.i64.wrap (x2 - x1))), (28, .bool false), (77, vI x3), (78, vI x2), (79, vI (IntKind.i64.wrap (x3 - x2))), (80, .bool false), (129, vI x1), (130, vI x3), (131, vI (IntKind.i64.wrap (x1 + x3))), (132, .int .u64 (IntKind.u64.wrap (IntKind.i64.wrap (x1 + x3)))), (133, .int .u64 (Int.fdiv (IntKind.u64.wrap (IntKind.i64.wrap (x1 + x3))) (2 ^ 1))), (134, vI (IntKind.i64.wrap (Int.fdiv (IntKind.u64.wrap (IntKind.i64.wrap (x1 + x3))) (2 ^ 1)))), (135, vI (IntKind.i64.wrap (Int.fdiv (IntKind.u64.wrap (IntKind.i64.wrap (x1 + x3))) (2 ^ 1)))), (136, vI x2), (137, vI (IntKind.i64.wrap ((IntKind.i64.wrap (Int.fdiv (IntKind.u64.wrap (IntKind.i64.wrap (x1 + x3))) (2 ^ 1))) + x2)))]) ea (slices_symMergeCmpFunc_int_p4 K w0 l0 A0 c0 x1 x2 x3 bg4_0 bg4_1 lg4_1 Ag4_1 cg4_1 LT hRg4_1 hLg4_1 recf hrec hc1 hc9 _ hq7 _ hS _ ?_)
    rintro _ a w1 ⟨_, rfl, hb⟩
    obtain rfl := si h
    exact hb
def slices_symMergeCmpFunc_int.rec (K : Nat) : Nat → (List Int) → Int → Int → Int → (List STask) → Option (List Int)
 | 0 => fun _ _ _ _ _ => none
 | n + 1 => fun l0 x1 x2 x3 lg4_1 => slices_symMergeCmpFunc_int.b K (slices_symMergeCmpFunc_int.rec K n) l0 x1 x2 x3 lg4_1
def slices_symMergeCmpFunc_int.f (K : Nat) (l0 : List Int) (x1 : Int) (x2 : Int) (x3 : Int) (lg4_1 : List STask) : Option (List Int) := slices_symMergeCmpFunc_int.rec K K l0 x1 x2 x3 lg4_1
theorem slices_symMergeCmpFunc_int_ok (K : Nat) (l0 : List Int) (A0 : Option Addr) (c0 : Nat) (x1 : Int) (x2 : Int) (x3 : Int) (bg4_0 : Nat) (bg4_1 : Nat) (lg4_1 : List STask) (Ag4_1 : Option Addr) (cg4_1 : Nat) (w0 wE : World) (LT : List Own) (hS : St w0 wE [Own.of (.slice A0 l0.length c0) 3 l0, Own.blk bg4_0 (.cells #[.func (.func 82) #[] #[]] 80 (0, 0)), Own.blk bg4_1 (.cells #[.slice Ag4_1 lg4_1.length cg4_1] 40 (0, 0)), Own.all LT]) (hRg4_1 : RdL w0 Ag4_1 lg4_1) (hLg4_1 : lg4_1.length ≤ cg4_1) (r : List Int) (h : slices_symMergeCmpFunc_int.f K l0 x1 x2 x3 lg4_1 = some r) :
  Calls Tryd.prog 119 #[(.slice A0 l0.length c0), vI x1, vI x2, vI x3, .func (.func 101) #[] #[pP bg4_0 0, pP bg4_1 0]] wE (slices_symMergeCmpFunc_int.Post w0 l0 A0 c0 x1 x2 x3 bg4_0 bg4_1 lg4_1 Ag4_1 cg4_1 LT r) := by
 have key : ∀ (n : Nat) (l0 : List Int) (A0 : Option Addr) (c0 : Nat) (x1 : Int) (x2 : Int) (x3 : Int) (bg4_0 : Nat) (bg4_1 : Nat) (lg4_1 : List STask) (Ag4_1 : Option Addr) (cg4_1 : Nat) (w0 wE : World) (LT : List Own) (hS : St w0 wE [Own.of (.slice A0 l0.length c0) 3 l0, Own.blk bg4_0 (.cells #[.func (.func 82) #[] #[]] 80 (0, 0)), Own.blk bg4_1 (.cells #[.slice Ag4_1 lg4_1.length cg4_1] 40 (0, 0)), Own.all LT]) (hRg4_1 : RdL w0 Ag4_1 lg4_1) (hLg4_1 : lg4_1.length ≤ cg4_1) (r : List Int) (h : slices_symMergeCmpFunc_int.rec K n l0 x1 x2 x3 lg4_1 = some r), Calls Tryd.prog 119 #[(.slice A0 l0.length c0), vI x1, vI x2, vI x3, .func (.func 101) #[] #[pP bg4_0 0, pP bg4_1 0]] wE (slices_symMergeCmpFunc_int.Post w0 l0 A0 c0 x1 x2 x3 bg4_0 bg4_1 lg4_1 Ag4_1 cg4_1 LT r) := by
  intro n
  induction n with
  | zero => intros; rename_i h; cases h
  | succ n ih => exact fun l0 A0 c0 x1 x2 x3 bg4_0 bg4_1 lg4_1 Ag4_1 cg4_1 w0 wE LT hS hRg4_1 hLg4_1 r h => slices_symMergeCmpFunc_int_step K (slices_symMergeCmpFunc_int.rec K n) ih l0 A0 c0 x1 x2 x3 bg4_0 bg4_1 lg4_1 Ag4_1 cg4_1 w0 wE LT hS hRg4_1 hLg4_1 r h
 exact key K l0 A0 c0 x1 x2 x3 bg4_0 bg4_1 lg4_1 Ag4_1 cg4_1 w0 wE LT hS hRg4_1 hLg4_1 r h

/-! slices.stableCmpFunc[int] -/
abbrev slices_stableCmpFunc_int.Post (w0 : World) (l0 : List Int) (A0 : Option Addr) (c0 : Nat) (x1 : Int) (bg2_0 : Nat) (bg2_1 : Nat) (lg2_1 : List STask) (Ag2_1 : Option Addr) (cg2_1 : Nat) (LT : List Own) (r : List Int) (e : Ending) (w : World) : Prop := e = .returned (.tuple #[]) ∧ l0.length = r.length ∧ St w0 w [Own.of (.slice A0 r.length c0) 3 r, Own.blk bg2_0 (.cells #[.func (.func 82) #[] #[]] 80 (0, 0)), Own.blk bg2_1 (.cells #[.slice Ag2_1 lg2_1.length cg2_1] 40 (0, 0)), Own.all LT]
def slices_stableCmpFunc_int.r0 (K : Nat) (x1 : Int) (lg2_1 : List STask) : Int × Int × (List Int) → Option ((Int × Int × (List Int)) ⊕ ((Int × (List Int)) ⊕ (List Int)))
 | (z1, z2, m1) =>
  if z2 ≤ x1 then
   match slices_insertionSortCmpFunc_int.f K m1 z1 z2 lg2_1 with
   | none => none
   | some r1 =>
    some (.inl (z2, IntKind.i64.wrap (z2 + 20), r1))
  else
   some (.inr (.inl (z1, m1)))
def slices_stableCmpFunc_int.r2 (K : Nat) (x1 : Int) (lg2_1 : List STask) (z5 : Int) : Int × Int × (List Int) → Option ((Int × Int × (List Int)) ⊕ ((Int × (List Int)) ⊕ (List Int)))
 | (z6, z7, m6) =>
  if z7 ≤ x1 then
   match slices_symMergeCmpFunc_int.f K m6 z6 (IntKind.i64.wrap (z6 + z5)) z7 lg2_1 with
   | none => none
   | some r3 =>
    some (.inl (z7, IntKind.i64.wrap (z7 + (IntKind.i64.wrap (2 * z5))), r3))
  else
   some (.inr (.inl (z6, m6)))
def slices_stableCmpFunc_int.r1 (K : Nat) (x1 : Int) (lg2_1 : List STask) (r2 : List Int) : Int × (List Int) → Option ((Int × (List Int)) ⊕ ((List Int) ⊕ (List Int)))
 | (z5, m4) =>
  if z5 < x1 then
   match iter (slices_stableCmpFunc_int.r2 K x1 lg2_1 z5) K (0, IntKind.i64.wrap (2 * z5), m4) with
   | none => none
   | some (.inl (z9, m8)) =>
    if (IntKind.i64.wrap (z9 + z5)) < x1 then
     match slices_symMergeCmpFunc_int.f K m8 z9 (IntKind.i64.wrap (z9 + z5)) x1 lg2_1 with
     | none => none
     | some r4 =>
      some (.inl (IntKind.i64.wrap (z5 * 2), r4))
    else
     some (.inl (IntKind.i64.wrap (z5 * 2), m8))
   | some (.inr rr1) =>
    some (.inr (.inr rr1))
  else
   some (.inr (.inl m4))
def slices_stableCmpFunc_int.f (K : Nat) (l0 : List Int) (x1 : Int) (lg2_1 : List STask) : Option (List Int) :=
 match iter (slices_stableCmpFunc_int.r0 K x1 lg2_1) K (0, 20, l0) with
 | none => none
 | some (.inl (z4, m3)) =>
  match slices_insertionSortCmpFunc_int.f K m3 z4 x1 lg2_1 with
  | none => none
  | some r2 =>
   match iter (slices_stableCmpFunc_int.r1 K x1 lg2_1 r2) K (20, r2) with
   | none => none
   | some (.inl m9) =>
    some m9
   | some (.inr rr2) =>
    some rr2
 | some (.inr rr3) =>
  some rr3
abbrev slices_stableCmpFunc_int.A0 (w0 : World) (l0 : List Int) (A0 : Option Addr) (c0 : Nat) (x1 : Int) (bg2_0 : Nat) (bg2_1 : Nat) (lg2_1 : List STask) (Ag2_1 : Option Addr) (cg2_1 : Nat) (LT : List Own) : (Int × Int × (List Int)) → Act → World → Prop := fun (s : Int × Int × (List Int)) a w => l0.length = s.2.2.length ∧ St w0 w [Own.blk bg2_0 (.cells #[.func (.func 82) #[] #[]] 80 (0, 0)), Own.blk bg2_1 (.cells #[.slice Ag2_1 lg2_1.length cg2_1] 40 (0, 0)), Own.of (.slice A0 s.2.2.length c0) 3 s.2.2, Own.all LT] ∧ Frm 63 a [(0, (.slice A0 s.2.2.length c0)), (1, vI x1), (2, .func (.func 101) #[] #[pP bg2_0 0, pP bg2_1 0]), (6, vI 20), (7, vI s.1), (8, vI s.2.1)]
abbrev slices_stableCmpFunc_int.B0 (w0 : World) (l0 : List Int) (A0 : Option Addr) (c0 : Nat) (x1 : Int) (bg2_0 : Nat) (bg2_1 : Nat) (lg2_1 : List STask) (Ag2_1 : Option Addr) (cg2_1 : Nat) (LT : List Own) : ((Int × (List Int)) ⊕ (List Int)) → Exit → Act → World → Prop := Exits 0 (fun (s : Int × (List Int)) a w => l0.length = s.2.length ∧ St w0 w [Own.blk bg2_0 (.cells #[.func (.func 82) #[] #[]] 80 (0, 0)), Own.blk bg2_1 (.cells #[.slice Ag2_1 lg2_1.length cg2_1] 40 (0, 0)), Own.of (.slice A0 s.2.length c0) 3 s.2, Own.all LT] ∧ Frm 63 a [(0, (.slice A0 s.2.length c0)), (1, vI x1), (2, .func (.func 101) #[] #[pP bg2_0 0, pP bg2_1 0]), (6, vI 20), (7, vI s.1)]) (Rets Tryd.prog Tryd.f107 (slices_stableCmpFunc_int.Post w0 l0 A0 c0 x1 bg2_0 bg2_1 lg2_1 Ag2_1 cg2_1 LT))
theorem slices_stableCmpFunc_int_r0 (K : Nat) (w0 : World) (l0 : List Int) (A0 : Option Addr) (c0 : Nat) (x1 : Int) (bg2_0 : Nat) (bg2_1 : Nat) (lg2_1 : List STask) (Ag2_1 : Option Addr) (cg2_1 : Nat) (LT : List Own) (hRg2_1 : RdL w0 Ag2_1 lg2_1) (hLg2_1 : lg2_1.length ≤ cg2_1) (s : Int × Int × (List Int)) (o : (Int × Int × (List Int)) ⊕ ((Int × (List Int)) ⊕ (List Int))) (h : slices_stableCmpFunc_int.r0 K x1 lg2_1 s = some o) (a : Act) (w : World) (hA : slices_stableCmpFunc_int.A0 w0 l0 A0 c0 x1 bg2_0 bg2_1 lg2_1 Ag2_1 cg2_1 LT s a w) (Q : Exit → Act → World → Prop) (hQ : ∀ x a w, Outs (slices_stableCmpFunc_int.A0 w0 l0 A0 c0 x1 bg2_0 bg2_1 lg2_1 Ag2_1 cg2_1 LT) (slices_stableCmpFunc_int.B0 w0 l0 A0 c0 x1 bg2_0 bg2_1 lg2_1 Ag2_1 cg2_1 LT) o x a w → Q x a w) : (subF Tryd.f107 [1, 1, 0, 0, 0]).wp Tryd.prog Q a w := by
 obtain ⟨z1, z2, m1⟩ := s
 obtain ⟨hLio1, hS, hF⟩ := hA
 replace hS : St w0 w [Own.blk bg2_0 (.cells #[.func (.func 82) #[] #[]] 80 (0, 0)), Own.blk bg2_1 (.cells #[.slice Ag2_1 lg2_1.length cg2_1] 40 (0, 0)), Own.of (.slice A0 m1.length c0) 3 m1, Own.all LT] := hS
 simp only [slices_stableCmpFunc_int.r0] at h
 refine (?_ : WE Tryd.prog 63 (subF Tryd.f107 [1, 1, 0, 0, 0]) Q [(0, (.slice A0 m1.length c0)), (1, vI x1), (2, .func (.func 101) #[] #[pP bg2_0 0, pP bg2_1 0]), (6, vI 20), (7, vI z1), (8, vI z2)] w) a hF
 clear hF a
 refine ws fun K4 hK4 => ?_
 refine ws fun K5 hK5 => ?_
 refine wr [(0, 0), (1, 0), (2, 0)] ?_
 refine gb0 [0, 1, 2] [(13, .bool (decide (z2 ≤ x1))), (12, vI x1), (11, vI z2)] ?_
 refine gn hK5 ?_
 by_cases hc1 : z2 ≤ x1
 ·rw [if_pos hc1] at h
  refine wk 13 (decide (z2 ≤ x1)) true (decide_eq_true hc1) ?_
  refine we_true (by kernel_rfl) ?_
  refine we_skip fun a hF => hK4 _ _ ?_ a hF
  refine we_block ?_
  refine ws fun K6 hK6 => ?_
  refine wr [(0, 0), (1, 0), (2, 0), (3, 0), (4, 2)] ?_
  refine gb0 [0, 1, 2, 3] [(17, .func (.func 101) #[] #[pP bg2_0 0, pP bg2_1 0]), (16, vI z2), (15, vI z1), (14, (.slice A0 m1.length c0))] ?_
  rcases hq1 : slices_insertionSortCmpFunc_int.f K m1 z1 z2 lg2_1 with _ | r1
  ·rw [hq1] at h; cases h
  rw [hq1] at h
  simp only [] at h
  have hS5 := hS.bring 1 rfl
  have hS6 := hS5.bring 1 rfl
  have hS7 := hS6.bring 2 rfl
  have hS9 : St w0 w [Own.of (.slice A0 m1.length c0) 3 m1, Own.blk bg2_0 (.cells #[.func (.func 82) #[] #[]] 80 (0, 0)), Own.blk bg2_1 (.cells #[.slice Ag2_1 lg2_1.length cg2_1] 40 (0, 0)), Own.all [Own.all LT]] := hS7.packN 3
  refine ge_call2 (m := 0) (d := some 18) (f := 108) (args := #[.slice A0 m1.length c0, vI z1, vI z2, .func (.func 101) #[] #[pP bg2_0 0, pP bg2_1 0]]) (by kernel_rfl) (slices_insertionSortCmpFunc_int_ok K m1 A0 c0 z1 z2 bg2_0 bg2_1 lg2_1 Ag2_1 cg2_1 _ _ _ hS9 hRg2_1 hLg2_1 _ hq1) ?_
  rintro _ w1 ⟨rfl, hE1, hS8⟩
  refine ⟨_, rfl, ?_⟩
  have hS10 : St w0 w1 [Own.of (.slice A0 r1.length c0) 3 r1, Own.blk bg2_0 (.cells #[.func (.func 82) #[] #[]] 80 (0, 0)), Own.blk bg2_1 (.cells #[.slice Ag2_1 lg2_1.length cg2_1] 40 (0, 0)), Own.all LT] := hS8.unpack [Own.of (.slice A0 r1.length c0) 3 r1, Own.blk bg2_0 (.cells #[.func (.func 82) #[] #[]] 80 (0, 0)), Own.blk bg2_1 (.cells #[.slice Ag2_1 lg2_1.length cg2_1] 40 (0, 0))]
  refine ge_same (t := 0) (v := (.slice A0 m1.length c0)) (v' := (.slice A0 r1.length c0)) (by kernel_rfl) (by rw [show m1.length = r1.length from hE1]) ?_
  refine ge_same (t := 14) (v := (.slice A0 m1.length c0)) (v' := (.slice A0 r1.length c0)) (by kernel_rfl) (by rw [show m1.length = r1.length from hE1]) ?_
  have hLio3 : l0.length = r1.length := Eq.trans hLio1 hE1
  refine gn hK6 ?_
  refine ws fun K7 hK7 => ?_
  refine wr [(0, 0), (1, 0)] ?_
  refine gb0 [0, 1] [(7, vI z2), (19, vI z2)] ?_
  refine gn hK7 ?_
  refine wr [(0, 0), (1, 0), (2, 0), (3, 0)] ?_
  refine gb0 [0, 1, 2, 3] [(8, vI (IntKind.i64.wrap (z2 + 20))), (22, vI (IntKind.i64.wrap (z2 + 20))), (21, vI 20), (20, vI z2)] ?_
  have hS11 := hS10.bring 3 rfl
  have hS12 := hS11.bring 1 rfl
  have hS13 := hS12.bring 3 rfl
  have hS14 := hS13.bring 3 rfl
  obtain rfl := si h
  exact ge_nil fun a hF => hQ _ _ _ (Outs.again ⟨hLio3, hS14, hF.weaken ea⟩)
 ·rw [if_neg hc1] at h
  refine wk 13 (decide (z2 ≤ x1)) false (decide_eq_false hc1) ?_
  refine we_false (by kernel_rfl) ?_
  have hS15 := hS.bring 3 rfl
  have hS16 := hS15.bring 3 rfl
  have hS17 := hS16.bring 3 rfl
  have hS18 := hS17.bring 3 rfl
  obtain rfl := si h
  exact we_exit fun a hF => hQ _ _ _ (Outs.out nofun (Exits.here ⟨hLio1, hS18, hF.weaken ea⟩))
abbrev slices_stableCmpFunc_int.A2 (w0 : World) (l0 : List Int) (A0 : Option Addr) (c0 : Nat) (x1 : Int) (bg2_0 : Nat) (bg2_1 : Nat) (lg2_1 : List STask) (Ag2_1 : Option Addr) (cg2_1 : Nat) (LT : List Own) (z5 : Int) : (Int × Int × (List Int)) → Act → World → Prop := fun (s : Int × Int × (List Int)) a w => l0.length = s.2.2.length ∧ St w0 w [Own.blk bg2_0 (.cells #[.func (.func 82) #[] #[]] 80 (0, 0)), Own.blk bg2_1 (.cells #[.slice Ag2_1 lg2_1.length cg2_1] 40 (0, 0)), Own.of (.slice A0 s.2.2.length c0) 3 s.2.2, Own.all LT] ∧ Frm 63 a [(0, (.slice A0 s.2.2.length c0)), (1, vI x1), (2, .func (.func 101) #[] #[pP bg2_0 0, pP bg2_1 0]), (6, vI z5), (7, vI s.1), (8, vI s.2.1)]
abbrev slices_stableCmpFunc_int.B2 (w0 : World) (l0 : List Int) (A0 : Option Addr) (c0 : Nat) (x1 : Int) (bg2_0 : Nat) (bg2_1 : Nat) (lg2_1 : List STask) (Ag2_1 : Option Addr) (cg2_1 : Nat) (LT : List Own) (z5 : Int) : ((Int × (List Int)) ⊕ (List Int)) → Exit → Act → World → Prop := Exits 4 (fun (s : Int × (List Int)) a w => l0.length = s.2.length ∧ St w0 w [Own.blk bg2_0 (.cells #[.func (.func 82) #[] #[]] 80 (0, 0)), Own.blk bg2_1 (.cells #[.slice Ag2_1 lg2_1.length cg2_1] 40 (0, 0)), Own.of (.slice A0 s.2.length c0) 3 s.2, Own.all LT] ∧ Frm 63 a [(0, (.slice A0 s.2.length c0)), (1, vI x1), (2, .func (.func 101) #[] #[pP bg2_0 0, pP bg2_1 0]), (6, vI z5), (7, vI s.1)]) (Rets Tryd.prog Tryd.f107 (slices_stableCmpFunc_int.Post w0 l0 A0 c0 x1 bg2_0 bg2_1 lg2_1 Ag2_1 cg2_1 LT))
theorem slices_stableCmpFunc_int_r2 (K : Nat) (w0 : World) (l0 : List Int) (A0 : Option Addr) (c0 : Nat) (x1 : Int) (bg2_0 : Nat) (bg2_1 : Nat) (lg2_1 : List STask) (Ag2_1 : Option Addr) (cg2_1 : Nat) (LT : List Own) (hRg2_1 : RdL w0 Ag2_1 lg2_1) (hLg2_1 : lg2_1.length ≤ cg2_1) (z4 : Int) (m3 : List Int) (hRz1 : l0.length = m3.length) (r2 : List Int) (hLio4 : l0.length = r2.length) (z5 : Int) (m4 : List Int) (hLio5 : l0.length = m4.length) (hc2 : z5 < x1) (s : Int × Int × (List Int)) (o : (Int × Int × (List Int)) ⊕ ((Int × (List Int)) ⊕ (List Int))) (h : slices_stableCmpFunc_int.r2 K x1 lg2_1 z5 s = some o) (a : Act) (w : World) (hA : slices_stableCmpFunc_int.A2 w0 l0 A0 c0 x1 bg2_0 bg2_1 lg2_1 Ag2_1 cg2_1 LT z5 s a w) (Q : Exit → Act → World → Prop) (hQ : ∀ x a w, Outs (slices_stableCmpFunc_int.A2 w0 l0 A0 c0 x1 bg2_0 bg2_1 lg2_1 Ag2_1 cg2_1 LT z5) (slices_stableCmpFunc_int.B2 w0 l0 A0 c0 x1 bg2_0 bg2_1 lg2_1 Ag2_1 cg2_1 LT z5) o x a w → Q x a w) : (subF Tryd.f107 [1, 1, 1, 1, 0, 0, 1, 0, 1, 0, 0, 0]).wp Tryd.prog Q a w := by
 obtain ⟨z6, z7, m6⟩ := s
 obtain ⟨hLio7, hS, hF⟩ := hA
 replace hS : St w0 w [Own.blk bg2_0 (.cells #[.func (.func 82) #[] #[]] 80 (0, 0)), Own.blk bg2_1 (.cells #[.slice Ag2_1 lg2_1.length cg2_1] 40 (0, 0)), Own.of (.slice A0 m6.length c0) 3 m6, Own.all LT] := hS
 simp only [slices_stableCmpFunc_int.r2] at h
 refine (?_ : WE Tryd.prog 63 (subF Tryd.f107 [1, 1, 1, 1, 0, 0, 1, 0, 1, 0, 0, 0]) Q [(0, (.slice A0 m6.length c0)), (1, vI x1), (2, .func (.func 101) #[] #[pP bg2_0 0, pP bg2_1 0]), (6, vI z5), (7, vI z6), (8, vI z7)] w) a hF
 clear hF a
 refine ws fun K13 hK13 => ?_
 refine ws fun K14 hK14 => ?_
 refine wr [(0, 0), (1, 0), (2, 0)] ?_
 refine gb0 [0, 1, 2] [(35, .bool (decide (z7 ≤ x1))), (34, vI x1), (33, vI z7)] ?_
 refine gn hK14 ?_
 by_cases hc3 : z7 ≤ x1
 ·rw [if_pos hc3] at h
  refine wk 35 (decide (z7 ≤ x1)) true (decide_eq_true hc3) ?_
  refine we_true (by kernel_rfl) ?_
  refine we_skip fun a hF => hK13 _ _ ?_ a hF
  refine we_block ?_
  refine ws fun K15 hK15 => ?_
  refine wr [(0, 0), (1, 0), (2, 0), (3, 0), (4, 0), (5, 0), (6, 0), (7, 2)] ?_
  refine gb0 [0, 1, 2, 3, 4, 5, 6] [(42, .func (.func 101) #[] #[pP bg2_0 0, pP bg2_1 0]), (41, vI z7), (40, vI (IntKind.i64.wrap (z6 + z5))), (39, vI z5), (38, vI z6), (37, vI z6), (36, (.slice A0 m6.length c0))] ?_
  rcases hq4 : slices_symMergeCmpFunc_int.f K m6 z6 (IntKind.i64.wrap (z6 + z5)) z7 lg2_1 with _ | r3
  ·rw [hq4] at h; cases h
  rw [hq4] at h
  simp only [] at h
  have hS34 := hS.bring 1 rfl
  have hS35 := hS34.bring 1 rfl
  have hS36 := hS35.bring 2 rfl
  have hS38 : St w0 w [Own.of (.slice A0 m6.length c0) 3 m6, Own.blk bg2_0 (.cells #[.func (.func 82) #[] #[]] 80 (0, 0)), Own.blk bg2_1 (.cells #[.slice Ag2_1 lg2_1.length cg2_1] 40 (0, 0)), Own.all [Own.all LT]] := hS36.packN 3
  refine ge_call2 (m := 0) (d := some 43) (f := 119) (args := #[.slice A0 m6.length c0, vI z6, vI (IntKind.i64.wrap (z6 + z5)), vI z7, .func (.func 101) #[] #[pP bg2_0 0, pP bg2_1 0]]) (by kernel_rfl) (slices_symMergeCmpFunc_int_ok K m6 A0 c0 z6 (IntKind.i64.wrap (z6 + z5)) z7 bg2_0 bg2_1 lg2_1 Ag2_1 cg2_1 _ _ _ hS38 hRg2_1 hLg2_1 _ hq4) ?_
  rintro _ w4 ⟨rfl, hE3, hS37⟩
  refine ⟨_, rfl, ?_⟩
  have hS39 : St w0 w4 [Own.of (.slice A0 r3.length c0) 3 r3, Own.blk bg2_0 (.cells #[.func (.func 82) #[] #[]] 80 (0, 0)), Own.blk bg2_1 (.cells #[.slice Ag2_1 lg2_1.length cg2_1] 40 (0, 0)), Own.all LT] := hS37.unpack [Own.of (.slice A0 r3.length c0) 3 r3, Own.blk bg2_0 (.cells #[.func (.func 82) #[] #[]] 80 (0, 0)), Own.blk bg2_1 (.cells #[.slice Ag2_1 lg2_1.length cg2_1] 40 (0, 0))]
  refine ge_same (t := 0) (v := (.slice A0 m6.length c0)) (v' := (.slice A0 r3.length c0)) (by kernel_rfl) (by rw [show m6.length = r3.length from hE3]) ?_
  refine ge_same (t := 36) (v := (.slice A0 m6.length c0)) (v' := (.slice A0 r3.length c0)) (by kernel_rfl) (by rw [show m6.length = r3.length from hE3]) ?_
  have hLio9 : l0.length = r3.length := Eq.trans hLio7 hE3
  refine gn hK15 ?_
  refine ws fun K16 hK16 => ?_
  refine wr [(0, 0), (1, 0)] ?_
  refine gb0 [0, 1] [(7, vI z7), (44, vI z7)] ?_
  refine gn hK16 ?_
  refine wr [(0, 0), (1, 0), (2, 0), (3, 0), (4, 0)] ?_
  refine gb0 [0, 1, 2, 3, 4] [(8, vI (IntKind.i64.wrap (z7 + (IntKind.i64.wrap (2 * z5))))), (48, vI (IntKind.i64.wrap (z7 + (IntKind.i64.wrap (2 * z5))))), (47, vI (IntKind.i64.wrap (2 * z5))), (46, vI z5), (45, vI z7)] ?_
  have hS40 := hS39.bring 3 rfl
  have hS41 := hS40.bring 1 rfl
  have hS42 := hS41.bring 3 rfl
  have hS43 := hS42.bring 3 rfl
  obtain rfl := si h
  exact ge_nil fun a hF => hQ _ _ _ (Outs.again ⟨hLio9, hS43, hF.weaken ea⟩)
 ·rw [if_neg hc3] at h
  refine wk 35 (decide (z7 ≤ x1)) false (decide_eq_false hc3) ?_
  refine we_false (by kernel_rfl) ?_
  have hS44 := hS.bring 3 rfl
  have hS45 := hS44.bring 3 rfl
  have hS46 := hS45.bring 3 rfl
  have hS47 := hS46.bring 3 rfl
  obtain rfl := si h
  exact we_exit fun a hF => hQ _ _ _ (Outs.out nofun (Exits.here ⟨hLio7, hS47, hF.weaken ea⟩))
abbrev slices_stableCmpFunc_int.A1 (w0 : World) (l0 : List Int) (A0 : Option Addr) (c0 : Nat) (x1 : Int) (bg2_0 : Nat) (bg2_1 : Nat) (lg2_1 : List STask) (Ag2_1 : Option Addr) (cg2_1 : Nat) (LT : List Own) : (Int × (List Int)) → Act → World → Prop := fun (s : Int × (List Int)) a w => l0.length = s.2.length ∧ St w0 w [Own.blk bg2_0 (.cells #[.func (.func 82) #[] #[]] 80 (0, 0)), Own.blk bg2_1 (.cells #[.slice Ag2_1 lg2_1.length cg2_1] 40 (0, 0)), Own.of (.slice A0 s.2.length c0) 3 s.2, Own.all LT] ∧ Frm 63 a [(0, (.slice A0 s.2.length c0)), (1, vI x1), (2, .func (.func 101) #[] #[pP bg2_0 0, pP bg2_1 0]), (6, vI s.1)]
abbrev slices_stableCmpFunc_int.B1 (w0 : World) (l0 : List Int) (A0 : Option Addr) (c0 : Nat) (x1 : Int) (bg2_0 : Nat) (bg2_1 : Nat) (lg2_1 : List STask) (Ag2_1 : Option Addr) (cg2_1 : Nat) (LT : List Own) : ((List Int) ⊕ (List Int)) → Exit → Act → World → Prop := Exits 2 (fun (s : (List Int)) a w => l0.length = s.length ∧ St w0 w [Own.blk bg2_0 (.cells #[.func (.func 82) #[] #[]] 80 (0, 0)), Own.blk bg2_1 (.cells #[.slice Ag2_1 lg2_1.length cg2_1] 40 (0, 0)), Own.of (.slice A0 s.length c0) 3 s, Own.all LT] ∧ Frm 63 a [(0, (.slice A0 s.length c0)), (2, .func (.func 101) #[] #[pP bg2_0 0, pP bg2_1 0])]) (Rets Tryd.prog Tryd.f107 (slices_stableCmpFunc_int.Post w0 l0 A0 c0 x1 bg2_0 bg2_1 lg2_1 Ag2_1 cg2_1 LT))
theorem slices_stableCmpFunc_int_r1 (K : Nat) (w0 : World) (l0 : List Int) (A0 : Option Addr) (c0 : Nat) (x1 : Int) (bg2_0 : Nat) (bg2_1 : Nat) (lg2_1 : List STask) (Ag2_1 : Option Addr) (cg2_1 : Nat) (LT : List Own) (hRg2_1 : RdL w0 Ag2_1 lg2_1) (hLg2_1 : lg2_1.length ≤ cg2_1) (z4 : Int) (m3 : List Int) (hRz1 : l0.length = m3.length) (r2 : List Int) (hLio4 : l0.length = r2.length) (s : Int × (List Int)) (o : (Int × (List Int)) ⊕ ((List Int) ⊕ (List Int))) (h : slices_stableCmpFunc_int.r1 K x1 lg2_1 r2 s = some o) (a : Act) (w : World) (hA : slices_stableCmpFunc_int.A1 w0 l0 A0 c0 x1 bg2_0 bg2_1 lg2_1 Ag2_1 cg2_1 LT s a w) (Q : Exit → Act → World → Prop) (hQ : ∀ x a w, Outs (slices_stableCmpFunc_int.A1 w0 l0 A0 c0 x1 bg2_0 bg2_1 lg2_1 Ag2_1 cg2_1 LT) (slices_stableCmpFunc_int.B1 w0 l0 A0 c0 x1 bg2_0 bg2_1 lg2_1 Ag2_1 cg2_1 LT) o x a w → Q x a w) : (subF Tryd.f107 [1, 1, 1, 1, 0, 0]).wp Tryd.prog Q a w := by
 obtain ⟨z5, m4⟩ := s
 obtain ⟨hLio5, hS, hF⟩ := hA
 replace hS : St w0 w [Own.blk bg2_0 (.cells #[.func (.func 82) #[] #[]] 80 (0, 0)), Own.blk bg2_1 (.cells #[.slice Ag2_1 lg2_1.length cg2_1] 40 (0, 0)), Own.of (.slice A0 m4.length c0) 3 m4, Own.all LT] := hS
 simp only [slices_stableCmpFunc_int.r1] at h
 refine (?_ : WE Tryd.prog 63 (subF Tryd.f107 [1, 1, 1, 1, 0, 0]) Q [(0, (.slice A0 m4.length c0)), (1, vI x1), (2, .func (.func 101) #[] #[pP bg2_0 0, pP bg2_1 0]), (6, vI z5)] w) a hF
 clear hF a
 refine ws fun K9 hK9 => ?_
 refine ws fun K10 hK10 => ?_
 refine wr [(0, 0), (1, 0), (2, 0)] ?_
 refine gb0 [0, 1, 2] [(30, .bool (decide (z5 < x1))), (29, vI x1), (28, vI z5)] ?_
 refine gn hK10 ?_
 by_cases hc2 : z5 < x1
 ·rw [if_pos hc2] at h
  refine wk 30 (decide (z5 < x1)) true (decide_eq_true hc2) ?_
  refine we_true (by kernel_rfl) ?_
  refine we_skip fun a hF => hK9 _ _ ?_ a hF
  refine we_block ?_
  refine ws fun K11 hK11 => ?_
  refine wr [(0, 0), (1, 0), (2, 0), (3, 0)] ?_
  refine gb0 [0, 1, 2, 3] [(8, vI (IntKind.i64.wrap (2 * z5))), (7, vI 0), (32, vI (IntKind.i64.wrap (2 * z5))), (31, vI z5)] ?_
  refine gn hK11 ?_
  refine ws fun K12 hK12 => ?_
  refine we_block ?_
  have hS30 := hS.bring 3 rfl
  have hS31 := hS30.bring 3 rfl
  have hS32 := hS31.bring 3 rfl
  have hS33 := hS32.bring 3 rfl
  rcases hq5 : iter (slices_stableCmpFunc_int.r2 K x1 lg2_1 z5) K (0, IntKind.i64.wrap (2 * z5), m4) with _ | (⟨z9, m8⟩ | rr1)
  ·rw [hq5] at h; cases h
  ·rw [hq5] at h
   simp only [] at h
   refine we_iter (A := slices_stableCmpFunc_int.A2 w0 l0 A0 c0 x1 bg2_0 bg2_1 lg2_1 Ag2_1 cg2_1 LT z5) (B := slices_stableCmpFunc_int.B2 w0 l0 A0 c0 x1 bg2_0 bg2_1 lg2_1 Ag2_1 cg2_1 LT z5) hq5 (fun a hF => ⟨hLio5, hS33, hF.weaken ea⟩) (fun s o hf a w hA Q hQ => slices_stableCmpFunc_int_r2 K w0 l0 A0 c0 x1 bg2_0 bg2_1 lg2_1 Ag2_1 cg2_1 LT hRg2_1 hLg2_1 z4 m3 hRz1 r2 hLio4 z5 m4 hLio5 hc2 s o hf a w hA Q hQ) ?_
   rintro _ a w5 _ ⟨rfl, hRz2, hS48, hF⟩
   replace hS48 : St w0 w5 [Own.blk bg2_0 (.cells #[.func (.func 82) #[] #[]] 80 (0, 0)), Own.blk bg2_1 (.cells #[.slice Ag2_1 lg2_1.length cg2_1] 40 (0, 0)), Own.of (.slice A0 m8.length c0) 3 m8, Own.all LT] := hS48
   refine hK12 [(0, (.slice A0 m8.length c0)), (1, vI x1), (2, .func (.func 101) #[] #[pP bg2_0 0, pP bg2_1 0]), (6, vI z5), (7, vI z9)] w5 ?_ a hF
   refine ws fun K17 hK17 => ?_
   refine ws fun K18 hK18 => ?_
   refine wr [(0, 0), (1, 0), (2, 0), (3, 0)] ?_
   refine gb0 [0, 1, 2, 3] [(9, vI (IntKind.i64.wrap (z9 + z5))), (51, vI (IntKind.i64.wrap (z9 + z5))), (50, vI z5), (49, vI z9)] ?_
   refine gn hK18 ?_
   refine ws fun K19 hK19 => ?_
   refine wr [(0, 0), (1, 0), (2, 0)] ?_
   refine gb0 [0, 1, 2] [(54, .bool (decide ((IntKind.i64.wrap (z9 + z5)) < x1))), (53, vI x1), (52, vI (IntKind.i64.wrap (z9 + z5)))] ?_
   refine gn hK19 ?_
   by_cases hc4 : (IntKind.i64.wrap (z9 + z5)) < x1
   ·rw [if_pos hc4] at h
    refine wk 54 (decide ((IntKind.i64.wrap (z9 + z5)) < x1)) true (decide_eq_true hc4) ?_
    refine we_true (by kernel_rfl) ?_
    refine wr [(0, 0), (1, 0), (2, 0), (3, 0), (4, 0), (5, 2)] ?_
    refine gb0 [0, 1, 2, 3, 4] [(59, .func (.func 101) #[] #[pP bg2_0 0, pP bg2_1 0]), (58, vI x1), (57, vI (IntKind.i64.wrap (z9 + z5))), (56, vI z9), (55, (.slice A0 m8.length c0))] ?_
    rcases hq6 : slices_symMergeCmpFunc_int.f K m8 z9 (IntKind.i64.wrap (z9 + z5)) x1 lg2_1 with _ | r4
    ·rw [hq6] at h; cases h
    rw [hq6] at h
    simp only [] at h
    have hS49 := hS48.bring 1 rfl
    have hS50 := hS49.bring 1 rfl
    have hS51 := hS50.bring 2 rfl
    have hS53 : St w0 w5 [Own.of (.slice A0 m8.length c0) 3 m8, Own.blk bg2_0 (.cells #[.func (.func 82) #[] #[]] 80 (0, 0)), Own.blk bg2_1 (.cells #[.slice Ag2_1 lg2_1.length cg2_1] 40 (0, 0)), Own.all [Own.all LT]] := hS51.packN 3
    refine ge_call2 (m := 0) (d := some 60) (f := 119) (args := #[.slice A0 m8.length c0, vI z9, vI (IntKind.i64.wrap (z9 + z5)), vI x1, .func (.func 101) #[] #[pP bg2_0 0, pP bg2_1 0]]) (by kernel_rfl) (slices_symMergeCmpFunc_int_ok K m8 A0 c0 z9 (IntKind.i64.wrap (z9 + z5)) x1 bg2_0 bg2_1 lg2_1 Ag2_1 cg2_1 _ _ _ hS53 hRg2_1 hLg2_1 _ hq6) ?_
    rintro _ w6 ⟨rfl, hE4, hS52⟩
    refine ⟨_, rfl, ?_⟩
    have hS54 : St w0 w6 [Own.of (.slice A0 r4.length c0) 3 r4, Own.blk bg2_0 (.cells #[.func (.func 82) #[] #[]] 80 (0, 0)), Own.blk bg2_1 (.cells #[.slice Ag2_1 lg2_1.length cg2_1] 40 (0, 0)), Own.all LT] := hS52.unpack [Own.of (.slice A0 r4.length c0) 3 r4, Own.blk bg2_0 (.cells #[.func (.func 82) #[] #[]] 80 (0, 0)), Own.blk bg2_1 (.cells #[.slice Ag2_1 lg2_1.length cg2_1] 40 (0, 0))]
    refine ge_same (t := 0) (v := (.slice A0 m8.length c0)) (v' := (.slice A0 r4.length c0)) (by kernel_rfl) (by rw [show m8.length = r4.length from hE4]) ?_
    refine ge_same (t := 55) (v := (.slice A0 m8.length c0)) (v' := (.slice A0 r4.length c0)) (by kernel_rfl) (by rw [show m8.length = r4.length from hE4]) ?_
    have hLio10 : l0.length = r4.length := Eq.trans hRz2 hE4
    refine gn hK17 ?_
    refine wr [(0, 0), (1, 0), (2, 0)] ?_
    refine gb0 [0, 1, 2] [(6, vI (IntKind.i64.wrap (z5 * 2))), (62, vI (IntKind.i64.wrap (z5 * 2))), (61, vI z5)] ?_
    have hS55 := hS54.bring 3 rfl
    have hS56 := hS55.bring 1 rfl
    have hS57 := hS56.bring 3 rfl
    have hS58 := hS57.bring 3 rfl
    obtain rfl := si h
    exact ge_nil fun a hF => hQ _ _ _ (Outs.again ⟨hLio10, hS58, hF.weaken ea⟩)
   ·rw [if_neg hc4] at h
    refine wk 54 (decide ((IntKind.i64.wrap (z9 + z5)) < x1)) false (decide_eq_false hc4) ?_
    refine we_false (by kernel_rfl) ?_
    refine we_skip fun a hF => hK17 _ _ ?_ a hF
    refine wr [(0, 0), (1, 0), (2, 0)] ?_
    refine gb0 [0, 1, 2] [(6, vI (IntKind.i64.wrap (z5 * 2))), (62, vI (IntKind.i64.wrap (z5 * 2))), (61, vI z5)] ?_
    have hS59 := hS48.bring 3 rfl
    have hS60 := hS59.bring 3 rfl
    have hS61 := hS60.bring 3 rfl
    have hS62 := hS61.bring 3 rfl
    obtain rfl := si h
    exact ge_nil fun a hF => hQ _ _ _ (Outs.again ⟨hRz2, hS62, hF.weaken ea⟩)
  ·rw [hq5] at h
   simp only [] at h
   refine we_iter (A := slices_stableCmpFunc_int.A2 w0 l0 A0 c0 x1 bg2_0 bg2_1 lg2_1 Ag2_1 cg2_1 LT z5) (B := slices_stableCmpFunc_int.B2 w0 l0 A0 c0 x1 bg2_0 bg2_1 lg2_1 Ag2_1 cg2_1 LT z5) hq5 (fun a hF => ⟨hLio5, hS33, hF.weaken ea⟩) (fun s o hf a w hA Q hQ => slices_stableCmpFunc_int_r2 K w0 l0 A0 c0 x1 bg2_0 bg2_1 lg2_1 Ag2_1 cg2_1 LT hRg2_1 hLg2_1 z4 m3 hRz1 r2 hLio4 z5 m4 hLio5 hc2 s o hf a w hA Q hQ) ?_
   rintro _ a w1 _ ⟨rfl, hb⟩
   obtain rfl := si h
   exact hQ _ _ _ (Outs.out nofun (Exits.on ⟨rfl, hb⟩))
 ·rw [if_neg hc2] at h
  refine wk 30 (decide (z5 < x1)) false (decide_eq_false hc2) ?_
  refine we_false (by kernel_rfl) ?_
  have hS63 := hS.bring 3 rfl
  have hS64 := hS63.bring 3 rfl
  have hS65 := hS64.bring 3 rfl
  have hS66 := hS65.bring 3 rfl
  obtain rfl := si h
  exact we_exit fun a hF => hQ _ _ _ (Outs.out nofun (Exits.here ⟨hLio5, hS66, hF.weaken ea⟩))
theorem slices_stableCmpFunc_int_ok (K : Nat) (l0 : List Int) (A0 : Option Addr) (c0 : Nat) (x1 : Int) (bg2_0 : Nat) (bg2_1 : Nat) (lg2_1 : List STask) (Ag2_1 : Option Addr) (cg2_1 : Nat) (w0 wE : World) (LT : List Own) (hS : St w0 wE [Own.of (.slice A0 l0.length c0) 3 l0, Own.blk bg2_0 (.cells #[.func (.func 82) #[] #[]] 80 (0, 0)), Own.blk bg2_1 (.cells #[.slice Ag2_1 lg2_1.length cg2_1] 40 (0, 0)), Own.all LT]) (hRg2_1 : RdL w0 Ag2_1 lg2_1) (hLg2_1 : lg2_1.length ≤ cg2_1) (r : List Int) (h : slices_stableCmpFunc_int.f K l0 x1 lg2_1 = some r) :
  Calls Tryd.prog 107 #[(.slice A0 l0.length c0), vI x1, .func (.func 101) #[] #[pP bg2_0 0, pP bg2_1 0]] wE (slices_stableCmpFunc_int.Post w0 l0 A0 c0 x1 bg2_0 bg2_1 lg2_1 Ag2_1 cg2_1 LT r) := by
 unfold slices_stableCmpFunc_int.f at h
 refine calls_enter (n := 63) (args := [(.slice A0 l0.length c0), vI x1, .func (.func 101) #[] #[pP bg2_0 0, pP bg2_1 0]]) (fn := Tryd.f107) rfl rfl rfl rfl ?_
 show WE _ _ _ _ [(0, (.slice A0 l0.length c0)), (1, vI x1), (2, .func (.func 101) #[] #[pP bg2_0 0, pP bg2_1 0])] _
 refine ws fun K1 hK1 => ?_
 refine wr [(0, 0)] ?_
 refine gb0 [0] [(6, vI 20)] ?_
 refine gn hK1 ?_
 refine ws fun K2 hK2 => ?_
 refine wr [(0, 0), (1, 0), (2, 0)] ?_
 refine gb0 [0, 1, 2] [(8, vI 20), (7, vI 0), (10, vI 20)] ?_
 refine gn hK2 ?_
 refine ws fun K3 hK3 => ?_
 refine we_block ?_
 have hS1 := hS.bring 3 rfl
 have hS2 := hS1.bring 1 rfl
 have hS3 := hS2.bring 3 rfl
 have hS4 := hS3.bring 3 rfl
 rcases hq2 : iter (slices_stableCmpFunc_int.r0 K x1 lg2_1) K (0, 20, l0) with _ | (⟨z4, m3⟩ | rr3)
 ·rw [hq2] at h; cases h
 ·rw [hq2] at h
  simp only [] at h
  refine we_iter (A := slices_stableCmpFunc_int.A0 w0 l0 A0 c0 x1 bg2_0 bg2_1 lg2_1 Ag2_1 cg2_1 LT) (B := slices_stableCmpFunc_int.B0 w0 l0 A0 c0 x1 bg2_0 bg2_1 lg2_1 Ag2_1 cg2_1 LT) hq2 (fun a hF => ⟨rfl, hS4, hF.weaken ea⟩) (fun s o hf a w hA Q hQ => slices_stableCmpFunc_int_r0 K w0 l0 A0 c0 x1 bg2_0 bg2_1 lg2_1 Ag2_1 cg2_1 LT hRg2_1 hLg2_1 s o hf a w hA Q hQ) ?_
  rintro _ a w2 _ ⟨rfl, hRz1, hS19, hF⟩
  replace hS19 : St w0 w2 [Own.blk bg2_0 (.cells #[.func (.func 82) #[] #[]] 80 (0, 0)), Own.blk bg2_1 (.cells #[.slice Ag2_1 lg2_1.length cg2_1] 40 (0, 0)), Own.of (.slice A0 m3.length c0) 3 m3, Own.all LT] := hS19
  refine hK3 [(0, (.slice A0 m3.length c0)), (1, vI x1), (2, .func (.func 101) #[] #[pP bg2_0 0, pP bg2_1 0]), (6, vI 20), (7, vI z4)] w2 ?_ a hF
  refine ws fun K8 hK8 => ?_
  refine wr [(0, 0), (1, 0), (2, 0), (3, 0), (4, 2)] ?_
  refine gb0 [0, 1, 2, 3] [(26, .func (.func 101) #[] #[pP bg2_0 0, pP bg2_1 0]), (25, vI x1), (24, vI z4), (23, (.slice A0 m3.length c0))] ?_
  rcases hq3 : slices_insertionSortCmpFunc_int.f K m3 z4 x1 lg2_1 with _ | r2
  ·rw [hq3] at h; cases h
  rw [hq3] at h
  simp only [] at h
  have hS20 := hS19.bring 1 rfl
  have hS21 := hS20.bring 1 rfl
  have hS22 := hS21.bring 2 rfl
  have hS24 : St w0 w2 [Own.of (.slice A0 m3.length c0) 3 m3, Own.blk bg2_0 (.cells #[.func (.func 82) #[] #[]] 80 (0, 0)), Own.blk bg2_1 (.cells #[.slice Ag2_1 lg2_1.length cg2_1] 40 (0, 0)), Own.all [Own.all LT]] := hS22.packN 3
  refine ge_call2 (m := 0) (d := some 27) (f := 108) (args := #[.slice A0 m3.length c0, vI z4, vI x1, .func (.func 101) #[] #[pP bg2_0 0, pP bg2_1 0]]) (by kernel_rfl) (slices_insertionSortCmpFunc_int_ok K m3 A0 c0 z4 x1 bg2_0 bg2_1 lg2_1 Ag2_1 cg2_1 _ _ _ hS24 hRg2_1 hLg2_1 _ hq3) ?_
  rintro _ w3 ⟨rfl, hE2, hS23⟩
  refine ⟨_, rfl, ?_⟩
  have hS25 : St w0 w3 [Own.of (.slice A0 r2.length c0) 3 r2, Own.blk bg2_0 (.cells #[.func (.func 82) #[] #[]] 80 (0, 0)), Own.blk bg2_1 (.cells #[.slice Ag2_1 lg2_1.length cg2_1] 40 (0, 0)), Own.all LT] := hS23.unpack [Own.of (.slice A0 r2.length c0) 3 r2, Own.blk bg2_0 (.cells #[.func (.func 82) #[] #[]] 80 (0, 0)), Own.blk bg2_1 (.cells #[.slice Ag2_1 lg2_1.length cg2_1] 40 (0, 0))]
  refine ge_same (t := 0) (v := (.slice A0 m3.length c0)) (v' := (.slice A0 r2.length c0)) (by kernel_rfl) (by rw [show m3.length = r2.length from hE2]) ?_
  refine ge_same (t := 23) (v := (.slice A0 m3.length c0)) (v' := (.slice A0 r2.length c0)) (by kernel_rfl) (by rw [show m3.length = r2.length from hE2]) ?_
  have hLio4 : l0.length = r2.length := Eq.trans hRz1 hE2
  refine gn hK8 ?_
  refine we_block ?_
  have hS26 := hS25.bring 3 rfl
  have hS27 := hS26.bring 1 rfl
  have hS28 := hS27.bring 3 rfl
  have hS29 := hS28.bring 3 rfl
  rcases hq7 : iter (slices_stableCmpFunc_int.r1 K x1 lg2_1 r2) K (20, r2) with _ | (m9 | rr2)
  ·rw [hq7] at h; cases h
  ·rw [hq7] at h
   simp only [] at h
   refine we_iter (A := slices_stableCmpFunc_int.A1 w0 l0 A0 c0 x1 bg2_0 bg2_1 lg2_1 Ag2_1 cg2_1 LT) (B := slices_stableCmpFunc_int.B1 w0 l0 A0 c0 x1 bg2_0 bg2_1 lg2_1 Ag2_1 cg2_1 LT) hq7 (fun a hF => ⟨hLio4, hS29, hF.weaken ea⟩) (fun s o hf a w hA Q hQ => slices_stableCmpFunc_int_r1 K w0 l0 A0 c0 x1 bg2_0 bg2_1 lg2_1 Ag2_1 cg2_1 LT hRg2_1 hLg2_1 z4 m3 hRz1 r2 hLio4 s o hf a w hA Q hQ) ?_
   rintro _ a w7 _ ⟨rfl, hRz3, hS67, hF⟩
   replace hS67 : St w0 w7 [Own.blk bg2_0 (.cells #[.func (.func 82) #[] #[]] 80 (0, 0)), Own.blk bg2_1 (.cells #[.slice Ag2_1 lg2_1.length cg2_1] 40 (0, 0)), Own.of (.slice A0 m9.length c0) 3 m9, Own.all LT] := hS67
   have hS68 := hS67.bring 3 rfl
   have hS69 := hS68.bring 2 rfl
   have hS70 := hS69.bring 2 rfl
   have hS71 := hS70.bring 3 rfl
   obtain rfl := si h
   exact (pe0 [] [] ⟨rfl, hRz3, hS71⟩) a hF
  ·rw [hq7] at h
   simp only [] at h
   refine we_iter (A := slices_stableCmpFunc_int.A1 w0 l0 A0 c0 x1 bg2_0 bg2_1 lg2_1 Ag2_1 cg2_1 LT) (B := slices_stableCmpFunc_int.B1 w0 l0 A0 c0 x1 bg2_0 bg2_1 lg2_1 Ag2_1 cg2_1 LT) hq7 (fun a hF => ⟨hLio4, hS29, hF.weaken ea⟩) (fun s o hf a w hA Q hQ => slices_stableCmpFunc_int_r1 K w0 l0 A0 c0 x1 bg2_0 bg2_1 lg2_1 Ag2_1 cg2_1 LT hRg2_1 hLg2_1 z4 m3 hRz1 r2 hLio4 s o hf a w hA Q hQ) ?_
   rintro _ a w1 _ ⟨rfl, hb⟩
   obtain rfl := si h
   exact hb
 ·rw [hq2] at h
  simp only [] at h
  refine we_iter (A := slices_stableCmpFunc_int.A0 w0 l0 A0 c0 x1 bg2_0 bg2_1 lg2_1 Ag2_1 cg2_1 LT) (B := slices_stableCmpFunc_int.B0 w0 l0 A0 c0 x1 bg2_0 bg2_1 lg2_1 Ag2_1 cg2_1 LT) hq2 (fun a hF => ⟨rfl, hS4, hF.weaken ea⟩) (fun s o hf a w hA Q hQ => slices_stableCmpFunc_int_r0 K w0 l0 A0 c0 x1 bg2_0 bg2_1 lg2_1 Ag2_1 cg2_1 LT hRg2_1 hLg2_1 s o hf a w hA Q hQ) ?_
  rintro _ a w1 _ ⟨rfl, hb⟩
  obtain rfl := si h
  exact hb

/-! slices.SortStableFunc[[]int,int] -/
abbrev slices_SortStableFunc_int_int.Post (w0 : World) (l0 : List Int) (A0 : Option Addr) (c0 : Nat) (bg1_0 : Nat) (bg1_1 : Nat) (lg1_1 : List STask) (Ag1_1 : Option Addr) (cg1_1 : Nat) (LT : List Own) (r : List Int) (e : Ending) (w : World) : Prop := e = .returned (.tuple #[]) ∧ l0.length = r.length ∧ St w0 w [Own.of (.slice A0 r.length c0) 3 r, Own.blk bg1_0 (.cells #[.func (.func 82) #[] #[]] 80 (0, 0)), Own.blk bg1_1 (.cells #[.slice Ag1_1 lg1_1.length cg1_1] 40 (0, 0)), Own.all LT]
def slices_SortStableFunc_int_int.f (K : Nat) (l0 : List Int) (lg1_1 : List STask) : Option (List Int) :=
 match slices_stableCmpFunc_int.f K l0 (l0.length : Int) lg1_1 with
 | none => none
 | some r1 =>
  some r1
theorem slices_SortStableFunc_int_int_ok (K : Nat) (l0 : List Int) (A0 : Option Addr) (c0 : Nat) (bg1_0 : Nat) (bg1_1 : Nat) (lg1_1 : List STask) (Ag1_1 : Option Addr) (cg1_1 : Nat) (w0 wE : World) (LT : List Own) (hS : St w0 wE [Own.of (.slice A0 l0.length c0) 3 l0, Own.blk bg1_0 (.cells #[.func (.func 82) #[] #[]] 80 (0, 0)), Own.blk bg1_1 (.cells #[.slice Ag1_1 lg1_1.length cg1_1] 40 (0, 0)), Own.all LT]) (hRg1_1 : RdL w0 Ag1_1 lg1_1) (hLg1_1 : lg1_1.length ≤ cg1_1) (r : List Int) (h : slices_SortStableFunc_int_int.f K l0 lg1_1 = some r) :
  Calls Tryd.prog 100 #[(.slice A0 l0.length c0), .func (.func 101) #[] #[pP bg1_0 0, pP bg1_1 0]] wE (slices_SortStableFunc_int_int.Post w0 l0 A0 c0 bg1_0 bg1_1 lg1_1 Ag1_1 cg1_1 LT r) := by
 unfold slices_SortStableFunc_int_int.f at h
 refine calls_enter (n := 9) (args := [(.slice A0 l0.length c0), .func (.func 101) #[] #[pP bg1_0 0, pP bg1_1 0]]) (fn := Tryd.f100) rfl rfl rfl rfl ?_
 show WE _ _ _ _ [(0, (.slice A0 l0.length c0)), (1, .func (.func 101) #[] #[pP bg1_0 0, pP bg1_1 0])] _
 refine wr [(0, 0), (1, 0), (2, 0), (3, 0), (4, 2)] ?_
 refine gb0 [0, 1, 2, 3] [(7, .func (.func 101) #[] #[pP bg1_0 0, pP bg1_1 0]), (6, vI (l0.length : Int)), (5, (.slice A0 l0.length c0)), (4, (.slice A0 l0.length c0))] ?_
 rcases hq1 : slices_stableCmpFunc_int.f K l0 (l0.length : Int) lg1_1 with _ | r1
 ·rw [hq1] at h; cases h
 rw [hq1] at h
 simp only [] at h
 have hS1 := hS.bring 2 rfl
 have hS2 := hS1.bring 2 rfl
 have hS3 := hS2.bring 2 rfl
 have hS5 : St w0 wE [Own.of (.slice A0 l0.length c0) 3 l0, Own.blk bg1_0 (.cells #[.func (.func 82) #[] #[]] 80 (0, 0)), Own.blk bg1_1 (.cells #[.slice Ag1_1 lg1_1.length cg1_1] 40 (0, 0)), Own.all [Own.all LT]] := hS3.packN 3
 refine ge_call2 (m := 0) (d := some 8) (f := 107) (args := #[.slice A0 l0.length c0, vI (l0.length : Int), .func (.func 101) #[] #[pP bg1_0 0, pP bg1_1 0]]) (by kernel_rfl) (slices_stableCmpFunc_int_ok K l0 A0 c0 (l0.length : Int) bg1_0 bg1_1 lg1_1 Ag1_1 cg1_1 _ _ _ hS5 hRg1_1 hLg1_1 _ hq1) ?_
 rintro _ w1 ⟨rfl, hE1, hS4⟩
 refine ⟨_, rfl, ?_⟩
 have hS6 : St w0 w1 [Own.of (.slice A0 r1.length c0) 3 r1, Own.blk bg1_0 (.cells #[.func (.func 82) #[] #[]] 80 (0, 0)), Own.blk bg1_1 (.cells #[.slice Ag1_1 lg1_1.length cg1_1] 40 (0, 0)), Own.all LT] := hS4.unpack [Own.of (.slice A0 r1.length c0) 3 r1, Own.blk bg1_0 (.cells #[.func (.func 82) #[] #[]] 80 (0, 0)), Own.blk bg1_1 (.cells #[.slice Ag1_1 lg1_1.length cg1_1] 40 (0, 0))]
 refine ge_same (t := 0) (v := (.slice A0 l0.length c0)) (v' := (.slice A0 r1.length c0)) (by kernel_rfl) (by rw [show l0.length = r1.length from hE1]) ?_
 refine ge_same (t := 4) (v := (.slice A0 l0.length c0)) (v' := (.slice A0 r1.length c0)) (by kernel_rfl) (by rw [show l0.length = r1.length from hE1]) ?_
 refine ge_same (t := 5) (v := (.slice A0 l0.length c0)) (v' := (.slice A0 r1.length c0)) (by kernel_rfl) (by rw [show l0.length = r1.length from hE1]) ?_
 have hLio1 : l0.length = r1.length := Eq.trans rfl hE1
 have hS7 := hS6.bring 3 rfl
 have hS8 := hS7.bring 3 rfl
 have hS9 := hS8.bring 3 rfl
 have hS10 := hS9.bring 3 rfl
 obtain rfl := si h
 exact ge_nil (pe0 [] [] ⟨rfl, hLio1, hS10⟩)

/-! slices.Clone[[]punctual/api.Task,punctual/api.Task] -/
abbrev slices_Clone_api_Task_api_Task.Post (w0 : World) (r : List STask) (e : Ending) (w : World) : Prop := ∃ (v0 : Value), e = .returned (v0) ∧ St w0 w [Own.of v0 46 r]
def slices_Clone_api_Task_api_Task.f (l0 : List STask) : Option (List STask) :=
 if 0 + l0.length ≤ 2199023255552 then
  some l0
 else
  none
theorem slices_Clone_api_Task_api_Task_ok (l0 : List STask) (A0 : Option Addr) (c0 : Nat) (w0 : World) (hR0 : RdL w0 A0 l0) (hL0 : l0.length ≤ c0) (r : List STask) (h : slices_Clone_api_Task_api_Task.f l0 = some r) :
  Calls Tryd.prog 86 #[.slice A0 l0.length c0] w0 (slices_Clone_api_Task_api_Task.Post w0 r) := by
 have hS := St.start w0
 unfold slices_Clone_api_Task_api_Task.f at h
 rcases A0 with _ | ad
 ·obtain rfl := RdL.nil_of hR0
  rw [if_pos (by decide)] at h
  refine calls_enter (n := 8) (args := [.slice none ([] : List STask).length c0]) (fn := Tryd.f86) rfl rfl rfl rfl ?_
  show WE _ _ _ _ [(0, .slice none ([] : List STask).length c0)] _
  refine ws fun K1 hK1 => ?_
  refine wr [(0, 0)] ?_
  refine gb0 [0] [(2, .slice none 0 0)] ?_
  refine gn hK1 ?_
  refine ws fun K2 hK2 => ?_
  refine ws fun K3 hK3 => ?_
  refine wr [(0, 0), (1, 0)] ?_
  refine gb0 [0, 1] [(4, .bool true), (3, .slice none (([] : List STask).length) c0)] ?_
  refine gn hK3 ?_
  refine we_true (by kernel_rfl) ?_
  refine ws fun K4 hK4 => ?_
  refine wr [(0, 0)] ?_
  refine gb0 [0] [(2, .slice none 0 0)] ?_
  refine gn hK4 ?_
  have hS1 := hS.nil (α := STask) 46
  obtain rfl := si h
  exact we_ret (pr0 [.tmp 2] [(.slice none 0 0)] ⟨(.slice none 0 0), rfl, hS1⟩)
 ·refine calls_enter (n := 8) (args := [.slice (some ad) l0.length c0]) (fn := Tryd.f86) rfl rfl rfl rfl ?_
  show WE _ _ _ _ [(0, .slice (some ad) l0.length c0)] _
  refine ws fun K5 hK5 => ?_
  refine wr [(0, 0)] ?_
  refine gb0 [0] [(2, .slice none 0 0)] ?_
  refine gn hK5 ?_
  refine ws fun K6 hK6 => ?_
  refine ws fun K7 hK7 => ?_
  refine wr [(0, 0), (1, 0)] ?_
  refine gb0 [0, 1] [(4, .bool false), (3, .slice (some ad) l0.length c0)] ?_
  refine gn hK7 ?_
  refine we_false (by kernel_rfl) ?_
  refine we_skip fun a hF => hK6 _ _ ?_ a hF
  refine ws fun K8 hK8 => ?_
  refine wr [(0, 1), (1, 0), (2, 2), (3, 0)] ?_
  refine gw (some 5) (.cells #[] 46) (fun b => .slice (some ⟨b, 0, none⟩) 0 0) hS fun b1 w1 hx1 hS2 => ?_
  refine gb0 [1] [(6, .slice (some ad) l0.length c0)] ?_
  have hS3 := hS2.asRow (α := STask) (c := 0) ([] : List STask) (Nat.le_refl _) (by decide) rfl rfl
  by_cases hc1 : 0 + l0.length ≤ 2199023255552
  ·rw [if_pos hc1] at h
   refine ge_appendL (α := STask) (m := 0) (d := 7) (t := 40) (el := 46) (bytes := 64) (c1 := c0) (A1 := (some ad)) (x := (.tmp 5)) (y := (.tmp 6)) (ty := 40) (v := (.slice (some ⟨b1, 0, none⟩) 0 0)) (z := .agg #[.string (⟨#[]⟩), vI 0, vI 0, vI 0, vI 0, vI 0, vI 0]) (l := ([] : List STask)) (us := l0) (by kernel_rfl) (by kernel_rfl) (by kernel_rfl) (by kernel_rfl) (by kernel_rfl) rfl hS3 (hS3.rd hR0) rfl (Nat.mul_le_of_le_div _ _ _ hc1) fun v1 w2 hS4 => ?_
   have hS5 : St w0 w2 [Own.of v1 46 l0] := hS4
   refine gb0 [3] [(2, v1)] ?_
   refine gn hK8 ?_
   obtain rfl := si h
   exact we_ret (pr0 [.tmp 2] [v1] ⟨v1, rfl, hS5⟩)
  ·rw [if_neg hc1] at h
   cases h

/-! punctual/fixed.ranked -/
abbrev fixed_ranked.Post (w0 : World) (r : List STask) (e : Ending) (w : World) : Prop := ∃ (v0 : Value), e = .returned (v0) ∧ St w0 w [Own.of v0 46 r]
def fixed_ranked.r0 (l0 : List STask) : Int × (List Int) → Option ((Int × (List Int)) ⊕ ((List Int) ⊕ (List STask)))
 | (z1, m1) =>
  if z1 < ((List.replicate l0.length (0 : Int)).length : Int) then
   if 0 ≤ z1 then
    match m1[(z1).toNat]? with
    | none => none
    | some e1 =>
     some (.inl (IntKind.i64.wrap (z1 + 1), (m1.set ((z1).toNat) z1)))
   else
    none
  else
   some (.inr (.inl m1))
def fixed_ranked.r1 (l0 : List STask) (r1 : List Int) : Nat × (List STask) → Option ((Nat × (List STask)) ⊕ ((List STask) ⊕ (List STask)))
 | (i1, m4) =>
  if (i1 : Int) < (r1.length : Int) then
   match r1[i1]? with
   | none => none
   | some e2 =>
    if 0 ≤ e2 then
     match m4[(e2).toNat]? with
     | none => none
     | some e3 =>
      some (.inl ((i1 + 1), (m4.set ((e2).toNat) (⟨e3.Name, e3.C, e3.T, e3.D, e3.J, e3.O, IntKind.i64.wrap ((l0.length : Int) - (i1 : Int))⟩ : STask))))
    else
     none
  else
   some (.inr (.inl m4))
def fixed_ranked.f (K : Nat) (l0 : List STask) : Option (List STask) :=
 if l0.length ≤ 17592186044416 then
  match iter (fixed_ranked.r0 l0) K (0, (List.replicate l0.length (0 : Int))) with
  | none => none
  | some (.inl m3) =>
   match slices_SortStableFunc_int_int.f K m3 l0 with
   | none => none
   | some r1 =>
    match slices_Clone_api_Task_api_Task.f l0 with
    | none => none
    | some r2 =>
     match iter (fixed_ranked.r1 l0 r1) K (0, r2) with
     | none => none
     | some (.inl m6) =>
      some m6
     | some (.inr rr1) =>
      some rr1
  | some (.inr rr2) =>
   some rr2
 else
  none
abbrev fixed_ranked.A0 (w0 : World) (l0 : List STask) (A0 : Option Addr) (c0 : Nat) (b1 : Nat) (b2 : Nat) (Z1 : Option Addr) (cz1 : Nat) : (Int × (List Int)) → Act → World → Prop := fun (s : Int × (List Int)) a w => St w0 w [Own.blk b2 (.cells #[.func (.func 82) #[] #[]] 80 (0, 0)), Own.blk b1 (.cells #[.slice A0 l0.length c0] 40 (0, 0)), Own.of (.slice Z1 s.2.length cz1) 3 s.2] ∧ Frm 45 a [(2, pP b1 0), (3, pP b2 0), (5, (.slice Z1 s.2.length cz1)), (14, vI ((List.replicate l0.length (0 : Int)).length : Int)), (15, vI s.1)]
abbrev fixed_ranked.B0 (w0 : World) (l0 : List STask) (A0 : Option Addr) (c0 : Nat) (b1 : Nat) (b2 : Nat) (Z1 : Option Addr) (cz1 : Nat) : ((List Int) ⊕ (List STask)) → Exit → Act → World → Prop := Exits 0 (fun (s : (List Int)) a w => St w0 w [Own.blk b2 (.cells #[.func (.func 82) #[] #[]] 80 (0, 0)), Own.blk b1 (.cells #[.slice A0 l0.length c0] 40 (0, 0)), Own.of (.slice Z1 s.length cz1) 3 s] ∧ Frm 45 a [(2, pP b1 0), (3, pP b2 0), (5, (.slice Z1 s.length cz1))]) (Rets Tryd.prog Tryd.f81 (fixed_ranked.Post w0))
theorem fixed_ranked_r0 (K : Nat) (w0 : World) (l0 : List STask) (A0 : Option Addr) (c0 : Nat) (hR0 : RdL w0 A0 l0) (hL0 : l0.length ≤ c0) (b1 : Nat) (b2 : Nat) (hc1 : l0.length ≤ 17592186044416) (Z1 : Option Addr) (cz1 : Nat) (s : Int × (List Int)) (o : (Int × (List Int)) ⊕ ((List Int) ⊕ (List STask))) (h : fixed_ranked.r0 l0 s = some o) (a : Act) (w : World) (hA : fixed_ranked.A0 w0 l0 A0 c0 b1 b2 Z1 cz1 s a w) (Q : Exit → Act → World → Prop) (hQ : ∀ x a w, Outs (fixed_ranked.A0 w0 l0 A0 c0 b1 b2 Z1 cz1) (fixed_ranked.B0 w0 l0 A0 c0 b1 b2 Z1 cz1) o x a w → Q x a w) : (subF Tryd.f81 [1, 1, 0, 1, 0, 0]).wp Tryd.prog Q a w := by
 obtain ⟨z1, m1⟩ := s
 obtain ⟨hS, hF⟩ := hA
 replace hS : St w0 w [Own.blk b2 (.cells #[.func (.func 82) #[] #[]] 80 (0, 0)), Own.blk b1 (.cells #[.slice A0 l0.length c0] 40 (0, 0)), Own.of (.slice Z1 m1.length cz1) 3 m1] := hS
 simp only [fixed_ranked.r0] at h
 refine (?_ : WE Tryd.prog 45 (subF Tryd.f81 [1, 1, 0, 1, 0, 0]) Q [(2, pP b1 0), (3, pP b2 0), (5, (.slice Z1 m1.length cz1)), (14, vI ((List.replicate l0.length (0 : Int)).length : Int)), (15, vI z1)] w) a hF
 clear hF a
 refine ws fun K5 hK5 => ?_
 refine wr [(0, 0)] ?_
 refine gb0 [0] [(16, .bool (decide (z1 < ((List.replicate l0.length (0 : Int)).length : Int))))] ?_
 refine gn hK5 ?_
 refine ws fun K6 hK6 => ?_
 by_cases hc2 : z1 < ((List.replicate l0.length (0 : Int)).length : Int)
 ·rw [if_pos hc2] at h
  refine wk 16 (decide (z1 < ((List.replicate l0.length (0 : Int)).length : Int))) true (decide_eq_true hc2) ?_
  refine we_true (by kernel_rfl) ?_
  refine we_skip fun a hF => hK6 _ _ ?_ a hF
  refine ws fun K7 hK7 => ?_
  refine we_block ?_
  refine ws fun K8 hK8 => ?_
  refine wr [(0, 0), (1, 0)] ?_
  refine gb0 [0, 1] [(6, vI z1), (17, vI z1)] ?_
  refine gn hK8 ?_
  refine wr [(0, 0), (1, 0), (2, 0), (3, 0), (4, 2)] ?_
  refine gb0 [0, 1, 2] [(20, vI z1), (19, vI z1), (18, (.slice Z1 m1.length cz1))] ?_
  by_cases hc3 : 0 ≤ z1
  ·rw [if_pos hc3] at h
   rcases hx3 : m1[(z1).toNat]? with _ | e1
   ·rw [hx3] at h; cases h
   rw [hx3] at h
   simp only [] at h
   refine gi 21 0 23 3 1 m1.length cz1 (.tmp 18) (.tmp 19) Z1 .i64 z1 ((z1).toNat) ((hS.rdAt 2 rfl).eqSome (pos_of_get hx3)) (Int.toNat_of_nonneg hc3).symm (lt_of_get hx3) ?_
   have hS6 := hS.bring 2 rfl
   refine ge_seti (α := Int) (A := Z1) (nn := m1.length) (c := cz1) (t := 3) (l := m1) (x := e1) (x' := z1) (jn := ((z1).toNat)) (j := 0) (vs := [vI z1]) (l' := [.stored ⟨blkOf Z1, offOf Z1 + ((z1).toNat) * 1, none⟩ (vI z1)]) hS6 (by kernel_rfl) (by kernel_rfl) hx3 rfl rfl rfl fun w4 hS7 => ?_
   have hS8 : St w0 w4 [Own.of (.slice Z1 m1.length cz1) 3 (m1.set ((z1).toNat) z1), Own.blk b2 (.cells #[.func (.func 82) #[] #[]] 80 (0, 0)), Own.blk b1 (.cells #[.slice A0 l0.length c0] 40 (0, 0))] := hS7
   have hE1 : m1.length = (m1.set ((z1).toNat) z1).length := hS8.lenAt 0 rfl
   have hS9 : St w0 w4 [Own.of (.slice Z1 (m1.set ((z1).toNat) z1).length cz1) 3 (m1.set ((z1).toNat) z1), Own.blk b2 (.cells #[.func (.func 82) #[] #[]] 80 (0, 0)), Own.blk b1 (.cells #[.slice A0 l0.length c0] 40 (0, 0))] := by rw [← hE1]; exact hS8
   refine ge_same (t := 5) (v := (.slice Z1 m1.length cz1)) (v' := (.slice Z1 (m1.set ((z1).toNat) z1).length cz1)) (by kernel_rfl) (by rw [hE1]) ?_
   refine ge_same (t := 18) (v := (.slice Z1 m1.length cz1)) (v' := (.slice Z1 (m1.set ((z1).toNat) z1).length cz1)) (by kernel_rfl) (by rw [hE1]) ?_
   refine gn hK7 ?_
   refine wr [(0, 0), (1, 0)] ?_
   refine gb0 [0, 1] [(15, vI (IntKind.i64.wrap (z1 + 1))), (22, vI (IntKind.i64.wrap (z1 + 1)))] ?_
   have hS10 := hS9.bring 2 rfl
   have hS11 := hS10.bring 2 rfl
   obtain rfl := si h
   exact ge_nil fun a hF => hQ _ _ _ (Outs.again ⟨hS11, hF.weaken ea⟩)
  ·rw [if_neg hc3] at h
   cases h
 ·rw [if_neg hc2] at h
  refine wk 16 (decide (z1 < ((List.replicate l0.length (0 : Int)).length : Int))) false (decide_eq_false hc2) ?_
  refine we_false (by kernel_rfl) ?_
  have hS12 := hS.bring 2 rfl
  have hS13 := hS12.bring 2 rfl
  have hS14 := hS13.bring 2 rfl
  obtain rfl := si h
  exact we_exit fun a hF => hQ _ _ _ (Outs.out nofun (Exits.here ⟨hS14, hF.weaken ea⟩))
abbrev fixed_ranked.A1 (w0 : World) (l0 : List STask) (A0 : Option Addr) (c0 : Nat) (b1 : Nat) (Z1 : Option Addr) (cz1 : Nat) (r1 : List Int) (Z2 : Option Addr) (cz2 : Nat) : (Nat × (List STask)) → Act → World → Prop := fun (s : Nat × (List STask)) a w => St w0 w [Own.blk b1 (.cells #[.slice A0 l0.length c0] 40 (0, 0)), Own.of (.slice Z2 s.2.length cz2) 46 s.2, Own.of (.slice Z1 r1.length cz1) 3 r1] ∧ Frm 45 a [(2, pP b1 0), (7, (.slice Z2 s.2.length cz2)), (28, (.slice Z1 r1.length cz1)), (29, vI (r1.length : Int)), (30, vI (s.1 : Int))]
abbrev fixed_ranked.B1 (w0 : World) (Z2 : Option Addr) (cz2 : Nat) : ((List STask) ⊕ (List STask)) → Exit → Act → World → Prop := Exits 2 (fun (s : (List STask)) a w => St w0 w [Own.of (.slice Z2 s.length cz2) 46 s] ∧ Frm 45 a [(7, (.slice Z2 s.length cz2))]) (Rets Tryd.prog Tryd.f81 (fixed_ranked.Post w0))
theorem fixed_ranked_r1 (K : Nat) (w0 : World) (l0 : List STask) (A0 : Option Addr) (c0 : Nat) (hR0 : RdL w0 A0 l0) (hL0 : l0.length ≤ c0) (b1 : Nat) (b2 : Nat) (hc1 : l0.length ≤ 17592186044416) (Z1 : Option Addr) (cz1 : Nat) (m3 : List Int) (r1 : List Int) (r2 : List STask) (Z2 : Option Addr) (cz2 : Nat) (s : Nat × (List STask)) (o : (Nat × (List STask)) ⊕ ((List STask) ⊕ (List STask))) (h : fixed_ranked.r1 l0 r1 s = some o) (a : Act) (w : World) (hA : fixed_ranked.A1 w0 l0 A0 c0 b1 Z1 cz1 r1 Z2 cz2 s a w) (Q : Exit → Act → World → Prop) (hQ : ∀ x a w, Outs (fixed_ranked.A1 w0 l0 A0 c0 b1 Z1 cz1 r1 Z2 cz2) (fixed_ranked.B1 w0 Z2 cz2) o x a w → Q x a w) : (subF Tryd.f81 [1, 1, 1, 1, 1, 0, 1, 0, 0]).wp Tryd.prog Q a w := by
 obtain ⟨i1, m4⟩ := s
 obtain ⟨hS, hF⟩ := hA
 replace hS : St w0 w [Own.blk b1 (.cells #[.slice A0 l0.length c0] 40 (0, 0)), Own.of (.slice Z2 m4.length cz2) 46 m4, Own.of (.slice Z1 r1.length cz1) 3 r1] := hS
 simp only [fixed_ranked.r1] at h
 refine (?_ : WE Tryd.prog 45 (subF Tryd.f81 [1, 1, 1, 1, 1, 0, 1, 0, 0]) Q [(2, pP b1 0), (7, (.slice Z2 m4.length cz2)), (28, (.slice Z1 r1.length cz1)), (29, vI (r1.length : Int)), (30, vI (i1 : Int))] w) a hF
 clear hF a
 refine ws fun K13 hK13 => ?_
 refine wr [(0, 0)] ?_
 refine gb0 [0] [(31, .bool (decide ((i1 : Int) < (r1.length : Int))))] ?_
 refine gn hK13 ?_
 refine ws fun K14 hK14 => ?_
 by_cases hc4 : (i1 : Int) < (r1.length : Int)
 ·rw [if_pos hc4] at h
  refine wk 31 (decide ((i1 : Int) < (r1.length : Int))) true (decide_eq_true hc4) ?_
  refine we_true (by kernel_rfl) ?_
  refine we_skip fun a hF => hK14 _ _ ?_ a hF
  refine ws fun K15 hK15 => ?_
  refine we_block ?_
  refine ws fun K16 hK16 => ?_
  refine wr [(0, 0), (1, 0), (2, 0), (3, 0), (4, 0)] ?_
  refine gb0 [0] [(32, vI (i1 : Int))] ?_
  rcases hx4 : r1[i1]? with _ | e2
  ·rw [hx4] at h; cases h
  rw [hx4] at h
  simp only [] at h
  refine gi 33 0 23 3 1 r1.length cz1 (.tmp 28) (.tmp 30) Z1 .i64 (i1 : Int) i1 ((hS.rdAt 2 rfl).eqSome (pos_of_get hx4)) rfl (lt_of_get hx4) ?_
  refine gb [2, 3, 4] [(9, vI e2), (8, vI (i1 : Int)), (34, vI e2)] [.loaded ⟨blkOf Z1, offOf Z1 + i1 * 1, none⟩ (vI e2)] ⟨RdL.cell (j := 0) (hS.rdAt 2 rfl) hx4 rfl, trivial⟩ ?_
  refine gn hK16 ?_
  refine wr [(0, 0), (1, 0), (2, 0), (3, 0), (4, 0), (5, 0), (6, 0), (7, 0), (8, 2)] ?_
  refine gb [0, 1, 2, 3, 4, 5] [(40, vI (IntKind.i64.wrap ((l0.length : Int) - (i1 : Int)))), (39, vI (i1 : Int)), (38, vI (l0.length : Int)), (37, .slice A0 l0.length c0), (36, vI e2), (35, (.slice Z2 m4.length cz2))] [.loaded ⟨b1, 0, none⟩ (.slice A0 l0.length c0)] ⟨hS.c 0, trivial⟩ ?_
  by_cases hc5 : 0 ≤ e2
  ·rw [if_pos hc5] at h
   rcases hx5 : m4[(e2).toNat]? with _ | e3
   ·rw [hx5] at h; cases h
   rw [hx5] at h
   simp only [] at h
   refine gi 41 0 40 46 7 m4.length cz2 (.tmp 35) (.tmp 36) Z2 .i64 e2 ((e2).toNat) ((hS.rdAt 1 rfl).eqSome (pos_of_get hx5)) (Int.toNat_of_nonneg hc5).symm (lt_of_get hx5) ?_
   refine gb0 [7] [(42, .pointer (some ⟨blkOf Z2, offOf Z2 + (e2).toNat * 7 + 6, none⟩))] ?_
   have hS28 := hS.bring 1 rfl
   refine ge_seti (α := STask) (A := Z2) (nn := m4.length) (c := cz2) (t := 46) (l := m4) (x := e3) (x' := (⟨e3.Name, e3.C, e3.T, e3.D, e3.J, e3.O, IntKind.i64.wrap ((l0.length : Int) - (i1 : Int))⟩ : STask)) (jn := ((e2).toNat)) (j := 6) (vs := [vI (IntKind.i64.wrap ((l0.length : Int) - (i1 : Int)))]) (l' := [.stored ⟨blkOf Z2, offOf Z2 + ((e2).toNat) * 7 + 6, none⟩ (vI (IntKind.i64.wrap ((l0.length : Int) - (i1 : Int))))]) hS28 (by kernel_rfl) (by kernel_rfl) hx5 rfl rfl rfl fun w8 hS29 => ?_
   have hS30 : St w0 w8 [Own.of (.slice Z2 m4.length cz2) 46 (m4.set ((e2).toNat) (⟨e3.Name, e3.C, e3.T, e3.D, e3.J, e3.O, IntKind.i64.wrap ((l0.length : Int) - (i1 : Int))⟩ : STask)), Own.blk b1 (.cells #[.slice A0 l0.length c0] 40 (0, 0)), Own.of (.slice Z1 r1.length cz1) 3 r1] := hS29
   have hE3 : m4.length = (m4.set ((e2).toNat) (⟨e3.Name, e3.C, e3.T, e3.D, e3.J, e3.O, IntKind.i64.wrap ((l0.length : Int) - (i1 : Int))⟩ : STask)).length := hS30.lenAt 0 rfl
   have hS31 : St w0 w8 [Own.of (.slice Z2 (m4.set ((e2).toNat) (⟨e3.Name, e3.C, e3.T, e3.D, e3.J, e3.O, IntKind.i64.wrap ((l0.length : Int) - (i1 : Int))⟩ : STask)).length cz2) 46 (m4.set ((e2).toNat) (⟨e3.Name, e3.C, e3.T, e3.D, e3.J, e3.O, IntKind.i64.wrap ((l0.length : Int) - (i1 : Int))⟩ : STask)), Own.blk b1 (.cells #[.slice A0 l0.length c0] 40 (0, 0)), Own.of (.slice Z1 r1.length cz1) 3 r1] := by rw [← hE3]; exact hS30
   refine ge_same (t := 7) (v := (.slice Z2 m4.length cz2)) (v' := (.slice Z2 (m4.set ((e2).toNat) (⟨e3.Name, e3.C, e3.T, e3.D, e3.J, e3.O, IntKind.i64.wrap ((l0.length : Int) - (i1 : Int))⟩ : STask)).length cz2)) (by kernel_rfl) (by rw [hE3]) ?_
   refine ge_same (t := 35) (v := (.slice Z2 m4.length cz2)) (v' := (.slice Z2 (m4.set ((e2).toNat) (⟨e3.Name, e3.C, e3.T, e3.D, e3.J, e3.O, IntKind.i64.wrap ((l0.length : Int) - (i1 : Int))⟩ : STask)).length cz2)) (by kernel_rfl) (by rw [hE3]) ?_
   refine gn hK15 ?_
   refine wr [(0, 0), (1, 0)] ?_
   refine ge_addn (d := 43) (ty := 3) (x := (.tmp 30)) (y := (.const (vI 1))) (t := 3) (t2 := 3) (k := .i64) (m := i1) (by kernel_rfl) (by kernel_rfl) (by kernel_rfl) (by have h0 := hS31.ofSmall 2 rfl; omega) ?_
   refine gb0 [1] [(30, vI ((i1 + 1 : Nat) : Int))] ?_
   have hS32 := hS31.bring 2 rfl
   have hS33 := hS32.bring 1 rfl
   have hS34 := hS33.bring 2 rfl
   obtain rfl := si h
   exact ge_nil fun a hF => hQ _ _ _ (Outs.again ⟨hS34, hF.weaken ea⟩)
  ·rw [if_neg hc5] at h
   cases h
 ·rw [if_neg hc4] at h
  refine wk 31 (decide ((i1 : Int) < (r1.length : Int))) false (decide_eq_false hc4) ?_
  refine we_false (by kernel_rfl) ?_
  have hS35 := hS.bring 1 rfl
  have hS36 := hS35.takeN 1
  obtain rfl := si h
  exact we_exit fun a hF => hQ _ _ _ (Outs.out nofun (Exits.here ⟨hS36, hF.weaken ea⟩))
theorem fixed_ranked_ok (K : Nat) (l0 : List STask) (A0 : Option Addr) (c0 : Nat) (w0 : World) (hR0 : RdL w0 A0 l0) (hL0 : l0.length ≤ c0) (r : List STask) (h : fixed_ranked.f K l0 = some r) :
  Calls Tryd.prog 81 #[.slice A0 l0.length c0, .func (.func 82) #[] #[]] w0 (fixed_ranked.Post w0 r) := by
 have hS := St.start w0
 unfold fixed_ranked.f at h
 refine calls_enter (n := 45) (args := [.slice A0 l0.length c0, .func (.func 82) #[] #[]]) (fn := Tryd.f81) rfl rfl rfl rfl ?_
 show WE _ _ _ _ [(0, .slice A0 l0.length c0), (1, .func (.func 82) #[] #[])] _
 refine ws fun K1 hK1 => ?_
 refine wr [(0, 1), (1, 1), (2, 0)] ?_
 refine gw (some 2) (.cells #[.slice A0 l0.length c0] 40) (fun b => pP b 0) hS fun b1 w1 hx1 hS1 => ?_
 refine gw (some 3) (.cells #[.func (.func 82) #[] #[]] 80) (fun b => pP b 0) hS1 fun b2 w2 hx2 hS2 => ?_
 refine gb0 [2] [(4, .slice none 0 0)] ?_
 refine gn hK1 ?_
 refine ws fun K2 hK2 => ?_
 refine wr [(0, 0), (1, 0), (2, 1), (3, 0)] ?_
 refine gb [0, 1] [(11, vI (l0.length : Int)), (10, .slice A0 l0.length c0)] [.loaded ⟨b1, 0, none⟩ (.slice A0 l0.length c0)] ⟨hS2.c 1, trivial⟩ ?_
 by_cases hc1 : l0.length ≤ 17592186044416
 ·rw [if_pos hc1] at h
  refine ge_make (α := Int) (d := 12) (t := 23) (el := 3) (bytes := 8) (l := l0.length) (c := l0.length) (x := (.tmp 11)) (y := (.tmp 11)) (ty := 23) (k1 := .i64) (k2 := .i64) (li := (l0.length : Int)) (ci := (l0.length : Int)) (z := vI 0) (z' := (0 : Int)) (by kernel_rfl) (by kernel_rfl) (by kernel_rfl) rfl rfl (by kernel_rfl) (by kernel_rfl) rfl hS2 (Nat.le_refl _) rfl (by omega) fun v1 w3 _ hS3 => ?_
  refine gb0 [3] [(5, v1)] ?_
  refine gn hK2 ?_
  refine ws fun K3 hK3 => ?_
  refine ws fun K4 hK4 => ?_
  refine wr [(0, 0), (1, 0), (2, 0)] ?_
  refine gb0 [0] [(13, v1)] ?_
  obtain ⟨Z1, cz1, rfl⟩ := hS3.open 0 rfl
  refine gb0 [1, 2] [(15, vI 0), (14, vI ((List.replicate l0.length (0 : Int)).length : Int))] ?_
  refine gn hK4 ?_
  refine we_block ?_
  have hS4 := hS3.bring 2 rfl
  have hS5 := hS4.bring 2 rfl
  rcases hq1 : iter (fixed_ranked.r0 l0) K (0, (List.replicate l0.length (0 : Int))) with _ | (m3 | rr2)
  ·rw [hq1] at h; cases h
  ·rw [hq1] at h
   simp only [] at h
   refine we_iter (A := fixed_ranked.A0 w0 l0 A0 c0 b1 b2 Z1 cz1) (B := fixed_ranked.B0 w0 l0 A0 c0 b1 b2 Z1 cz1) hq1 (fun a hF => ⟨hS5, hF.weaken ea⟩) (fun s o hf a w hA Q hQ => fixed_ranked_r0 K w0 l0 A0 c0 hR0 hL0 b1 b2 hc1 Z1 cz1 s o hf a w hA Q hQ) ?_
   rintro _ a w5 _ ⟨rfl, hS15, hF⟩
   replace hS15 : St w0 w5 [Own.blk b2 (.cells #[.func (.func 82) #[] #[]] 80 (0, 0)), Own.blk b1 (.cells #[.slice A0 l0.length c0] 40 (0, 0)), Own.of (.slice Z1 m3.length cz1) 3 m3] := hS15
   refine hK3 [(2, pP b1 0), (3, pP b2 0), (5, (.slice Z1 m3.length cz1))] w5 ?_ a hF
   refine ws fun K9 hK9 => ?_
   refine wr [(0, 0), (1, 0), (2, 2)] ?_
   refine gb0 [0, 1] [(24, .func (.func 101) #[] #[pP b2 0, pP b1 0]), (23, (.slice Z1 m3.length cz1))] ?_
   rcases hq2 : slices_SortStableFunc_int_int.f K m3 l0 with _ | r1
   ·rw [hq2] at h; cases h
   rw [hq2] at h
   simp only [] at h
   have hS16 := hS15.bring 1 rfl
   have hS17 := hS16.bring 1 rfl
   have hS18 := hS17.bring 2 rfl
   have hS20 : St w0 w5 [Own.of (.slice Z1 m3.length cz1) 3 m3, Own.blk b2 (.cells #[.func (.func 82) #[] #[]] 80 (0, 0)), Own.blk b1 (.cells #[.slice A0 l0.length c0] 40 (0, 0)), Own.all []] := hS18.packN 3
   refine ge_call2 (m := 0) (d := some 25) (f := 100) (args := #[.slice Z1 m3.length cz1, .func (.func 101) #[] #[pP b2 0, pP b1 0]]) (by kernel_rfl) (slices_SortStableFunc_int_int_ok K m3 Z1 cz1 b2 b1 l0 A0 c0 _ _ _ hS20 hR0 hL0 _ hq2) ?_
   rintro _ w6 ⟨rfl, hE2, hS19⟩
   refine ⟨_, rfl, ?_⟩
   have hS21 : St w0 w6 [Own.of (.slice Z1 r1.length cz1) 3 r1, Own.blk b2 (.cells #[.func (.func 82) #[] #[]] 80 (0, 0)), Own.blk b1 (.cells #[.slice A0 l0.length c0] 40 (0, 0))] := hS19.unpack [Own.of (.slice Z1 r1.length cz1) 3 r1, Own.blk b2 (.cells #[.func (.func 82) #[] #[]] 80 (0, 0)), Own.blk b1 (.cells #[.slice A0 l0.length c0] 40 (0, 0))]
   refine ge_same (t := 5) (v := (.slice Z1 m3.length cz1)) (v' := (.slice Z1 r1.length cz1)) (by kernel_rfl) (by rw [show m3.length = r1.length from hE2]) ?_
   refine ge_same (t := 23) (v := (.slice Z1 m3.length cz1)) (v' := (.slice Z1 r1.length cz1)) (by kernel_rfl) (by rw [show m3.length = r1.length from hE2]) ?_
   refine gn hK9 ?_
   refine ws fun K10 hK10 => ?_
   refine wr [(0, 0), (1, 1), (2, 0)] ?_
   rcases hq3 : slices_Clone_api_Task_api_Task.f l0 with _ | r2
   ·rw [hq3] at h; cases h
   rw [hq3] at h
   simp only [] at h
   refine gb [0] [(26, .slice A0 l0.length c0)] [.loaded ⟨b1, 0, none⟩ (.slice A0 l0.length c0)] ⟨hS21.c 2, trivial⟩ ?_
   refine ge_call (d := some 27) (f := 86) (args := #[.slice A0 l0.length c0]) (by kernel_rfl) (slices_Clone_api_Task_api_Task_ok l0 A0 c0 _ (hS21.rd hR0) hL0 _ hq3) ?_
   rintro _ w7 ⟨v2, rfl, hS22⟩
   refine ⟨_, rfl, hS22.below, ?_⟩
   have hS23 := hS21.call hS22
   refine gb0 [2] [(7, v2)] ?_
   refine gn hK10 ?_
   refine ws fun K11 hK11 => ?_
   refine ws fun K12 hK12 => ?_
   refine wr [(0, 0), (1, 0), (2, 0)] ?_
   refine gb0 [0, 1, 2] [(30, vI 0), (29, vI (r1.length : Int)), (28, (.slice Z1 r1.length cz1))] ?_
   refine gn hK12 ?_
   refine we_block ?_
   obtain ⟨Z2, cz2, rfl⟩ := hS23.open 0 rfl
   have hS24 := hS23.bring 1 rfl
   have hS25 := hS24.bring 1 rfl
   have hS26 := hS25.bring 3 rfl
   have hS27 := hS26.takeN 3
   rcases hq4 : iter (fixed_ranked.r1 l0 r1) K (0, r2) with _ | (m6 | rr1)
   ·rw [hq4] at h; cases h
   ·rw [hq4] at h
    simp only [] at h
    refine we_iter (A := fixed_ranked.A1 w0 l0 A0 c0 b1 Z1 cz1 r1 Z2 cz2) (B := fixed_ranked.B1 w0 Z2 cz2) hq4 (fun a hF => ⟨hS27, hF.weaken ea⟩) (fun s o hf a w hA Q hQ => fixed_ranked_r1 K w0 l0 A0 c0 hR0 hL0 b1 b2 hc1 Z1 cz1 m3 r1 r2 Z2 cz2 s o hf a w hA Q hQ) ?_
    rintro _ a w9 _ ⟨rfl, hS37, hF⟩
    replace hS37 : St w0 w9 [Own.of (.slice Z2 m6.length cz2) 46 m6] := hS37
    refine hK11 [(7, (.slice Z2 m6.length cz2))] w9 ?_ a hF
    refine ws fun K17 hK17 => ?_
    refine wr [(0, 0), (1, 0)] ?_
    refine gb0 [0, 1] [(4, (.slice Z2 m6.length cz2)), (44, (.slice Z2 m6.length cz2))] ?_
    refine gn hK17 ?_
    obtain rfl := si h
    exact we_ret (pr0 [.tmp 4] [(.slice Z2 m6.length cz2)] ⟨(.slice Z2 m6.length cz2), rfl, hS37⟩)
   ·rw [hq4] at h
    simp only [] at h
    refine we_iter (A := fixed_ranked.A1 w0 l0 A0 c0 b1 Z1 cz1 r1 Z2 cz2) (B := fixed_ranked.B1 w0 Z2 cz2) hq4 (fun a hF => ⟨hS27, hF.weaken ea⟩) (fun s o hf a w hA Q hQ => fixed_ranked_r1 K w0 l0 A0 c0 hR0 hL0 b1 b2 hc1 Z1 cz1 m3 r1 r2 Z2 cz2 s o hf a w hA Q hQ) ?_
    rintro _ a w1 _ ⟨rfl, hb⟩
    obtain rfl := si h
    exact hb
  ·rw [hq1] at h
   simp only [] at h
   refine we_iter (A := fixed_ranked.A0 w0 l0 A0 c0 b1 b2 Z1 cz1) (B := fixed_ranked.B0 w0 l0 A0 c0 b1 b2 Z1 cz1) hq1 (fun a hF => ⟨hS5, hF.weaken ea⟩) (fun s o hf a w hA Q hQ => fixed_ranked_r0 K w0 l0 A0 c0 hR0 hL0 b1 b2 hc1 Z1 cz1 s o hf a w hA Q hQ) ?_
   rintro _ a w1 _ ⟨rfl, hb⟩
   obtain rfl := si h
   exact hb
 ·rw [if_neg hc1] at h
  cases h

/-! punctual/fixed.Rates -/
abbrev fixed_Rates.Post (w0 : World) (r : (List STask) × SFault) (e : Ending) (w : World) : Prop := ∃ (v0 : Value), e = .returned (.tuple #[v0, .agg #[vI r.2.Code, vI r.2.At]]) ∧ St w0 w [Own.of v0 46 r.1]
def fixed_Rates.f (K : Nat) (l0 : List STask) : Option ((List STask) × SFault) :=
 match tasks_Check.f K l0 with
 | none => none
 | some r1 =>
  if r1.Code = 0 then
   match fixed_ranked.f K l0 with
   | none => none
   | some r2 =>
    some (r2, (⟨0, 0⟩ : SFault))
  else
   some (([] : List STask), r1)
theorem fixed_Rates_ok (K : Nat) (l0 : List STask) (A0 : Option Addr) (c0 : Nat) (w0 : World) (hR0 : RdL w0 A0 l0) (hL0 : l0.length ≤ c0) (r : (List STask) × SFault) (h : fixed_Rates.f K l0 = some r) :
  Calls Tryd.prog 50 #[.slice A0 l0.length c0] w0 (fixed_Rates.Post w0 r) := by
 have hS := St.start w0
 unfold fixed_Rates.f at h
 refine calls_enter (n := 14) (args := [.slice A0 l0.length c0]) (fn := Tryd.f50) rfl rfl rfl rfl ?_
 show WE _ _ _ _ [(0, .slice A0 l0.length c0)] _
 refine ws fun K1 hK1 => ?_
 refine wr [(0, 0), (1, 1)] ?_
 refine gb0 [0] [(2, .slice none 0 0)] ?_
 refine gw (some 3) (.cells #[vI 0, vI 0] 26) (fun b => pP b 0) hS fun b1 w1 hx1 hS1 => ?_
 refine gn hK1 ?_
 refine ws fun K2 hK2 => ?_
 refine ws fun K3 hK3 => ?_
 refine wr [(0, 0), (1, 1), (2, 1), (3, 2)] ?_
 rcases hq1 : tasks_Check.f K l0 with _ | r1
 ·rw [hq1] at h; cases h
 rw [hq1] at h
 simp only [] at h
 refine gb0 [0] [(5, .slice A0 l0.length c0)] ?_
 refine ge_call (d := some 6) (f := 19) (args := #[.slice A0 l0.length c0]) (by kernel_rfl) (tasks_Check_ok K l0 A0 c0 _ (hS1.rd hR0) hL0 _ hq1) ?_
 rintro _ w2 ⟨rfl, hS2⟩
 refine ⟨_, rfl, hS2.below, ?_⟩
 have hS3 := hS1.call hS2
 refine gw (some 4) (.cells #[vI 0, vI 0] 26) (fun b => pP b 0) hS3 fun b2 w3 hx2 hS4 => ?_
 refine gs b2 0 #[vI 0, vI 0] 26 [vI r1.Code, vI r1.At] hS4 fun w4 hS5 => ?_
 have hS6 : St w0 w4 [Own.blk b2 (.cells #[vI r1.Code, vI r1.At] 26 (0, 0)), Own.blk b1 (.cells #[vI 0, vI 0] 26 (0, 0))] := hS5
 refine gn hK3 ?_
 refine ws fun K4 hK4 => ?_
 refine wr [(0, 0), (1, 0), (2, 0)] ?_
 refine gb [0, 1, 2] [(9, .bool (r1.Code != 0)), (8, vI r1.Code), (7, pP b2 0)] [.loaded ⟨b2, 0, none⟩ (vI r1.Code)] ⟨hS6.c 0, trivial⟩ ?_
 refine gn hK4 ?_
 by_cases hc1 : r1.Code = 0
 ·rw [if_pos hc1] at h
  refine wk 9 (r1.Code != 0) false (bne_eq_false_iff_eq.2 hc1) ?_
  refine we_false (by kernel_rfl) ?_
  refine we_skip fun a hF => hK2 _ _ ?_ a hF
  refine ws fun K5 hK5 => ?_
  refine wr [(0, 0), (1, 1), (2, 0), (3, 0), (4, 2)] ?_
  rcases hq2 : fixed_ranked.f K l0 with _ | r2
  ·rw [hq2] at h; cases h
  rw [hq2] at h
  simp only [] at h
  refine gb0 [0] [(11, .slice A0 l0.length c0)] ?_
  refine ge_call (d := some 12) (f := 81) (args := #[.slice A0 l0.length c0, .func (.func 82) #[] #[]]) (by kernel_rfl) (fixed_ranked_ok K l0 A0 c0 _ (hS6.rd hR0) hL0 _ hq2) ?_
  rintro _ w5 ⟨v1, rfl, hS7⟩
  refine ⟨_, rfl, hS7.below, ?_⟩
  have hS8 := hS6.call hS7
  refine gb0 [2, 3] [(2, v1), (13, .agg #[vI 0, vI 0])] ?_
  have hS9 := hS8.bring 2 rfl
  refine gs b1 0 #[vI 0, vI 0] 26 [vI 0, vI 0] hS9 fun w6 hS10 => ?_
  have hS11 : St w0 w6 [Own.blk b1 (.cells #[vI 0, vI 0] 26 (0, 0)), Own.of v1 46 r2, Own.blk b2 (.cells #[vI r1.Code, vI r1.At] 26 (0, 0))] := hS10
  refine gn hK5 ?_
  have hS12 := hS11.bring 1 rfl
  have hS13 := hS12.takeN 1
  obtain rfl := si h
  exact we_ret (pr [.tmp 2, .cell 3 26] [v1, .agg #[vI 0, vI 0]] [.loaded ⟨b1, 0, none⟩ (vI 0), .loaded ⟨b1, 1, none⟩ (vI 0)] ⟨hS11.c 0, hS11.c 0, trivial⟩ ⟨v1, rfl, hS13⟩)
 ·rw [if_neg hc1] at h
  refine wk 9 (r1.Code != 0) true (bne_iff_ne.2 hc1) ?_
  refine we_true (by kernel_rfl) ?_
  refine ws fun K6 hK6 => ?_
  refine we_draws (by kernel_rfl) [(0, 0), (1, 0), (2, 2)] (by kernel_rfl) ?_
  have hS14 := hS6.drew
  refine gb [0, 1] [(2, .slice none 0 0), (10, .agg #[vI r1.Code, vI r1.At])] [.loaded ⟨b2, 0, none⟩ (vI r1.Code), .loaded ⟨b2, 1, none⟩ (vI r1.At)] ⟨hS14.c 0, hS14.c 0, trivial⟩ ?_
  have hS15 := hS14.bring 1 rfl
  refine gs b1 0 #[vI 0, vI 0] 26 [vI r1.Code, vI r1.At] hS15 fun w7 hS16 => ?_
  have hS17 : St w0 w7 [Own.blk b1 (.cells #[vI r1.Code, vI r1.At] 26 (0, 0)), Own.blk b2 (.cells #[vI r1.Code, vI r1.At] 26 (0, 0))] := hS16
  refine gn hK6 ?_
  have hS18 := hS17.nil (α := STask) 46
  have hS19 := hS18.takeN 1
  obtain rfl := si h
  exact we_ret (pr [.tmp 2, .cell 3 26] [(.slice none 0 0), .agg #[vI r1.Code, vI r1.At]] [.loaded ⟨b1, 0, none⟩ (vI r1.Code), .loaded ⟨b1, 1, none⟩ (vI r1.At)] ⟨hS18.c 1, hS18.c 1, trivial⟩ ⟨(.slice none 0 0), rfl, hS19⟩)

/-! punctual/punctuallaw.few -/
abbrev few.Post (w0 : World) (r : Bool) (e : Ending) (w : World) : Prop := e = .returned (.bool r) ∧ St w0 w []
def few.f (x0 : Int) : Bool :=
 decide (x0 ≤ 5000)
theorem few_ok (x0 : Int) (w0 : World) (r : Bool) (h : few.f x0 = r) :
  Calls Tryd.prog 13 #[vI x0] w0 (few.Post w0 r) := by
 have hS := St.start w0
 unfold few.f at h
 refine calls_enter (n := 5) (args := [vI x0]) (fn := Tryd.f13) rfl rfl rfl rfl ?_
 show WE _ _ _ _ [(0, vI x0)] _
 refine ws fun K1 hK1 => ?_
 refine wr [(0, 0)] ?_
 refine gb0 [0] [(2, .bool false)] ?_
 refine gn hK1 ?_
 refine ws fun K2 hK2 => ?_
 refine wr [(0, 0), (1, 0), (2, 0)] ?_
 refine gb0 [0, 1, 2] [(2, .bool (decide (x0 ≤ 5000))), (4, .bool (decide (x0 ≤ 5000))), (3, vI x0)] ?_
 refine gn hK2 ?_
 subst h
 exact we_ret (pr0 [.tmp 2] [.bool (decide (x0 ≤ 5000))] ⟨rfl, hS⟩)

/-! punctual/punctualsame.Lend[punctual/api.Task] -/
abbrev punctualsame_Lend_api_Task.Post (w0 : World) (n : Nat) (r : List STask) (e : Ending) (w : World) : Prop := ∃ (A : Option Addr) (c : Nat), e = .returned (.slice A n c) ∧ r.length ≤ c ∧ St w0 w [Own.of (.slice A r.length c) 46 r]
def punctualsame_Lend_api_Task.f (l0 : List STask) (x1 : STask) : Option (List STask) :=
 if 0 ≤ (IntKind.i64.wrap ((l0.length : Int) + 3)) then
  if ((IntKind.i64.wrap ((l0.length : Int) + 3)).toNat) ≤ 2199023255552 then
   if (List.replicate 0 (⟨⟨#[]⟩, 0, 0, 0, 0, 0, 0⟩ : STask)).length + l0.length ≤ 2199023255552 then
    if ((List.replicate 0 (⟨⟨#[]⟩, 0, 0, 0, 0, 0, 0⟩ : STask)) ++ l0).length + 3 ≤ 2199023255552 then
     some (((List.replicate 0 (⟨⟨#[]⟩, 0, 0, 0, 0, 0, 0⟩ : STask)) ++ l0) ++ ([x1, x1, x1] : List STask))
    else
     none
   else
    none
  else
   none
 else
  none
theorem punctualsame_Lend_api_Task_ok (l0 : List STask) (A0 : Option Addr) (c0 : Nat) (x1 : STask) (w0 : World) (hR0 : RdL w0 A0 l0) (hL0 : l0.length ≤ c0) (r : List STask) (h : punctualsame_Lend_api_Task.f l0 x1 = some r) :
  Calls Tryd.prog 22 #[.slice A0 l0.length c0, .agg #[.string x1.Name, vI x1.C, vI x1.T, vI x1.D, vI x1.J, vI x1.O, vI x1.P]] w0 (punctualsame_Lend_api_Task.Post w0 l0.length r) := by
 have hS := St.start w0
 unfold punctualsame_Lend_api_Task.f at h
 refine calls_enter (n := 21) (args := [.slice A0 l0.length c0, .agg #[.string x1.Name, vI x1.C, vI x1.T, vI x1.D, vI x1.J, vI x1.O, vI x1.P]]) (fn := Tryd.f22) rfl rfl rfl rfl ?_
 show WE _ _ _ _ [(0, .slice A0 l0.length c0), (1, .agg #[.string x1.Name, vI x1.C, vI x1.T, vI x1.D, vI x1.J, vI x1.O, vI x1.P])] _
 refine ws fun K1 hK1 => ?_
 refine wr [(0, 1), (1, 0)] ?_
 refine gw (some 3) (.cells #[.string x1.Name, vI x1.C, vI x1.T, vI x1.D, vI x1.J, vI x1.O, vI x1.P] 46) (fun b => pP b 0) hS fun b1 w1 hx1 hS1 => ?_
 refine gb0 [1] [(4, .slice none 0 0)] ?_
 refine gn hK1 ?_
 refine ws fun K2 hK2 => ?_
 refine we_orders2 (by kernel_rfl) [(6, [⟨b1, 0, none⟩, ⟨b1, 1, none⟩, ⟨b1, 2, none⟩, ⟨b1, 3, none⟩, ⟨b1, 4, none⟩, ⟨b1, 5, none⟩, ⟨b1, 6, none⟩]), (7, [⟨b1, 0, none⟩, ⟨b1, 1, none⟩, ⟨b1, 2, none⟩, ⟨b1, 3, none⟩, ⟨b1, 4, none⟩, ⟨b1, 5, none⟩, ⟨b1, 6, none⟩]), (8, [⟨b1, 0, none⟩, ⟨b1, 1, none⟩, ⟨b1, 2, none⟩, ⟨b1, 3, none⟩, ⟨b1, 4, none⟩, ⟨b1, 5, none⟩, ⟨b1, 6, none⟩])] (.vals [0] (.vals [1] (.vals [2] (.vals [4] (.vals [6] (.vals [7] (.vals [8] (.alt 3 1 (.alt 5 2 (.alt 9 1 (.alt 10 2 (.vals [11] .fin) .nomore) .nomore) (.alt 9 1 (.alt 5 2 (.alt 10 2 (.vals [11] .fin) .nomore) .nomore) .nomore)) (.alt 9 1 (.alt 3 1 (.alt 5 2 (.alt 10 2 (.vals [11] .fin) .nomore) .nomore) .nomore) .nomore))))))))) (by kernel_rfl) ?_
 have hS2 := hS1.drew
 refine go2_batch [0, 1, 2, 4] (ans := []) (vs := [(10, .slice A0 l0.length c0), (8, vI (IntKind.i64.wrap ((l0.length : Int) + 3))), (7, vI (l0.length : Int)), (6, .slice A0 l0.length c0)]) (l := []) (by kernel_rfl) trivial mem_nil ?_
 refine go2_batch [6] (ans := [.val (.string x1.Name), .val (vI x1.C), .val (vI x1.T), .val (vI x1.D), .val (vI x1.J), .val (vI x1.O), .val (vI x1.P)]) (vs := [(12, .agg #[.string x1.Name, vI x1.C, vI x1.T, vI x1.D, vI x1.J, vI x1.O, vI x1.P])]) (l := [.loaded ⟨b1, 0, none⟩ (.string x1.Name), .loaded ⟨b1, 1, none⟩ (vI x1.C), .loaded ⟨b1, 2, none⟩ (vI x1.T), .loaded ⟨b1, 3, none⟩ (vI x1.D), .loaded ⟨b1, 4, none⟩ (vI x1.J), .loaded ⟨b1, 5, none⟩ (vI x1.O), .loaded ⟨b1, 6, none⟩ (vI x1.P)]) (by kernel_rfl) ⟨hS2.c 0, hS2.c 0, hS2.c 0, hS2.c 0, hS2.c 0, hS2.c 0, hS2.c 0, trivial⟩ (mem_one (by kernel_rfl)) ?_
 refine go2_batch [7] (ans := [.val (.string x1.Name), .val (vI x1.C), .val (vI x1.T), .val (vI x1.D), .val (vI x1.J), .val (vI x1.O), .val (vI x1.P)]) (vs := [(13, .agg #[.string x1.Name, vI x1.C, vI x1.T, vI x1.D, vI x1.J, vI x1.O, vI x1.P])]) (l := [.loaded ⟨b1, 0, none⟩ (.string x1.Name), .loaded ⟨b1, 1, none⟩ (vI x1.C), .loaded ⟨b1, 2, none⟩ (vI x1.T), .loaded ⟨b1, 3, none⟩ (vI x1.D), .loaded ⟨b1, 4, none⟩ (vI x1.J), .loaded ⟨b1, 5, none⟩ (vI x1.O), .loaded ⟨b1, 6, none⟩ (vI x1.P)]) (by kernel_rfl) ⟨hS2.c 0, hS2.c 0, hS2.c 0, hS2.c 0, hS2.c 0, hS2.c 0, hS2.c 0, trivial⟩ (mem_one (by kernel_rfl)) ?_
 refine go2_batch [8] (ans := [.val (.string x1.Name), .val (vI x1.C), .val (vI x1.T), .val (vI x1.D), .val (vI x1.J), .val (vI x1.O), .val (vI x1.P)]) (vs := [(14, .agg #[.string x1.Name, vI x1.C, vI x1.T, vI x1.D, vI x1.J, vI x1.O, vI x1.P])]) (l := [.loaded ⟨b1, 0, none⟩ (.string x1.Name), .loaded ⟨b1, 1, none⟩ (vI x1.C), .loaded ⟨b1, 2, none⟩ (vI x1.T), .loaded ⟨b1, 3, none⟩ (vI x1.D), .loaded ⟨b1, 4, none⟩ (vI x1.J), .loaded ⟨b1, 5, none⟩ (vI x1.O), .loaded ⟨b1, 6, none⟩ (vI x1.P)]) (by kernel_rfl) ⟨hS2.c 0, hS2.c 0, hS2.c 0, hS2.c 0, hS2.c 0, hS2.c 0, hS2.c 0, trivial⟩ (mem_one (by kernel_rfl)) ?_
 by_cases hc1 : 0 ≤ (IntKind.i64.wrap ((l0.length : Int) + 3))
 ·rw [if_pos hc1] at h
  by_cases hc2 : ((IntKind.i64.wrap ((l0.length : Int) + 3)).toNat) ≤ 2199023255552
  ·rw [if_pos hc2] at h
   refine go_alt2 (fun KK hKK => ?_) ?_
   ·refine ge_one2 ?_
    refine ge_make (α := STask) (d := 9) (t := 40) (el := 46) (bytes := 64) (l := 0) (c := ((IntKind.i64.wrap ((l0.length : Int) + 3)).toNat)) (x := (.const (vI 0))) (y := (.tmp 8)) (ty := 40) (k1 := .i64) (k2 := .i64) (li := 0) (ci := (IntKind.i64.wrap ((l0.length : Int) + 3))) (z := .agg #[.string (⟨#[]⟩), vI 0, vI 0, vI 0, vI 0, vI 0, vI 0]) (z' := (⟨⟨#[]⟩, 0, 0, 0, 0, 0, 0⟩ : STask)) (by kernel_rfl) (by kernel_rfl) (by kernel_rfl) rfl (Int.toNat_of_nonneg hc1).symm (by kernel_rfl) (by kernel_rfl) rfl hS2 (Nat.zero_le _) rfl (by omega) fun v1 w2 _ hS3 => ?_
    refine ge_nil fun a hF => hKK _ _ (RS.of2 (l := [.loaded ⟨b1, 0, none⟩ (.string x1.Name), .loaded ⟨b1, 1, none⟩ (vI x1.C), .loaded ⟨b1, 2, none⟩ (vI x1.T), .loaded ⟨b1, 3, none⟩ (vI x1.D), .loaded ⟨b1, 4, none⟩ (vI x1.J), .loaded ⟨b1, 5, none⟩ (vI x1.O), .loaded ⟨b1, 6, none⟩ (vI x1.P), .loaded ⟨b1, 0, none⟩ (.string x1.Name), .loaded ⟨b1, 1, none⟩ (vI x1.C), .loaded ⟨b1, 2, none⟩ (vI x1.T), .loaded ⟨b1, 3, none⟩ (vI x1.D), .loaded ⟨b1, 4, none⟩ (vI x1.J), .loaded ⟨b1, 5, none⟩ (vI x1.O), .loaded ⟨b1, 6, none⟩ (vI x1.P), .loaded ⟨b1, 0, none⟩ (.string x1.Name), .loaded ⟨b1, 1, none⟩ (vI x1.C), .loaded ⟨b1, 2, none⟩ (vI x1.T), .loaded ⟨b1, 3, none⟩ (vI x1.D), .loaded ⟨b1, 4, none⟩ (vI x1.J), .loaded ⟨b1, 5, none⟩ (vI x1.O), .loaded ⟨b1, 6, none⟩ (vI x1.P)]) (by kernel_rfl) ⟨hS2.c 0, hS2.c 0, hS2.c 0, hS2.c 0, hS2.c 0, hS2.c 0, hS2.c 0, hS2.c 0, hS2.c 0, hS2.c 0, hS2.c 0, hS2.c 0, hS2.c 0, hS2.c 0, hS2.c 0, hS2.c 0, hS2.c 0, hS2.c 0, hS2.c 0, hS2.c 0, hS2.c 0, trivial⟩ ⟨hS3.c 1, hS3.c 1, hS3.c 1, hS3.c 1, hS3.c 1, hS3.c 1, hS3.c 1, hS3.c 1, hS3.c 1, hS3.c 1, hS3.c 1, hS3.c 1, hS3.c 1, hS3.c 1, hS3.c 1, hS3.c 1, hS3.c 1, hS3.c 1, hS3.c 1, hS3.c 1, hS3.c 1, trivial⟩) ?_ a hF
    refine go_alt2 (fun KK hKK => ?_) ?_
    ·by_cases hc3 : (List.replicate 0 (⟨⟨#[]⟩, 0, 0, 0, 0, 0, 0⟩ : STask)).length + l0.length ≤ 2199023255552
     ·rw [if_pos hc3] at h
      refine ge_appendL (α := STask) (m := 0) (d := 11) (t := 40) (el := 46) (bytes := 64) (c1 := c0) (A1 := A0) (x := (.tmp 9)) (y := (.tmp 10)) (ty := 40) (v := v1) (z := .agg #[.string (⟨#[]⟩), vI 0, vI 0, vI 0, vI 0, vI 0, vI 0]) (l := (List.replicate 0 (⟨⟨#[]⟩, 0, 0, 0, 0, 0, 0⟩ : STask))) (us := l0) (by kernel_rfl) (by kernel_rfl) (by kernel_rfl) (by kernel_rfl) (by kernel_rfl) rfl hS3 (hS3.rd hR0) rfl (Nat.mul_le_of_le_div _ _ _ hc3) fun v2 w3 hS4 => ?_
      have hS5 : St w0 w3 [Own.of v2 46 ((List.replicate 0 (⟨⟨#[]⟩, 0, 0, 0, 0, 0, 0⟩ : STask)) ++ l0), Own.blk b1 (.cells #[.string x1.Name, vI x1.C, vI x1.T, vI x1.D, vI x1.J, vI x1.O, vI x1.P] 46 (0, 0))] := hS4
      refine ge_nil fun a hF => hKK _ _ (RS.of2 (l := [.loaded ⟨b1, 0, none⟩ (.string x1.Name), .loaded ⟨b1, 1, none⟩ (vI x1.C), .loaded ⟨b1, 2, none⟩ (vI x1.T), .loaded ⟨b1, 3, none⟩ (vI x1.D), .loaded ⟨b1, 4, none⟩ (vI x1.J), .loaded ⟨b1, 5, none⟩ (vI x1.O), .loaded ⟨b1, 6, none⟩ (vI x1.P), .loaded ⟨b1, 0, none⟩ (.string x1.Name), .loaded ⟨b1, 1, none⟩ (vI x1.C), .loaded ⟨b1, 2, none⟩ (vI x1.T), .loaded ⟨b1, 3, none⟩ (vI x1.D), .loaded ⟨b1, 4, none⟩ (vI x1.J), .loaded ⟨b1, 5, none⟩ (vI x1.O), .loaded ⟨b1, 6, none⟩ (vI x1.P), .loaded ⟨b1, 0, none⟩ (.string x1.Name), .loaded ⟨b1, 1, none⟩ (vI x1.C), .loaded ⟨b1, 2, none⟩ (vI x1.T), .loaded ⟨b1, 3, none⟩ (vI x1.D), .loaded ⟨b1, 4, none⟩ (vI x1.J), .loaded ⟨b1, 5, none⟩ (vI x1.O), .loaded ⟨b1, 6, none⟩ (vI x1.P)]) (by kernel_rfl) ⟨hS3.c 1, hS3.c 1, hS3.c 1, hS3.c 1, hS3.c 1, hS3.c 1, hS3.c 1, hS3.c 1, hS3.c 1, hS3.c 1, hS3.c 1, hS3.c 1, hS3.c 1, hS3.c 1, hS3.c 1, hS3.c 1, hS3.c 1, hS3.c 1, hS3.c 1, hS3.c 1, hS3.c 1, trivial⟩ ⟨hS5.c 1, hS5.c 1, hS5.c 1, hS5.c 1, hS5.c 1, hS5.c 1, hS5.c 1, hS5.c 1, hS5.c 1, hS5.c 1, hS5.c 1, hS5.c 1, hS5.c 1, hS5.c 1, hS5.c 1, hS5.c 1, hS5.c 1, hS5.c 1, hS5.c 1, hS5.c 1, hS5.c 1, trivial⟩) ?_ a hF
      refine go_alt2 (fun KK hKK => ?_) ?_
      ·refine ge_one2 ?_
       refine gw (some 15) (.cells #[.string x1.Name, vI x1.C, vI x1.T, vI x1.D, vI x1.J, vI x1.O, vI x1.P, .string x1.Name, vI x1.C, vI x1.T, vI x1.D, vI x1.J, vI x1.O, vI x1.P, .string x1.Name, vI x1.C, vI x1.T, vI x1.D, vI x1.J, vI x1.O, vI x1.P] 46) (fun b => .slice (some ⟨b, 0, none⟩) 3 3) hS5 fun b2 w4 hx2 hS6 => ?_
       refine ge_nil fun a hF => hKK _ _ (RS.of2 (l := []) (by kernel_rfl) trivial trivial) ?_ a hF
       refine go_alt2 (fun KK hKK => ?_) ?_
       ·have hS7 := hS6.bring 1 rfl
        by_cases hc4 : ((List.replicate 0 (⟨⟨#[]⟩, 0, 0, 0, 0, 0, 0⟩ : STask)) ++ l0).length + 3 ≤ 2199023255552
        ·rw [if_pos hc4] at h
         refine ge_appendL (α := STask) (m := 0) (d := 16) (t := 40) (el := 46) (bytes := 64) (c1 := 3) (A1 := (some ⟨b2, 0, none⟩)) (x := (.tmp 11)) (y := (.tmp 15)) (ty := 40) (v := v2) (z := .agg #[.string (⟨#[]⟩), vI 0, vI 0, vI 0, vI 0, vI 0, vI 0]) (l := ((List.replicate 0 (⟨⟨#[]⟩, 0, 0, 0, 0, 0, 0⟩ : STask)) ++ l0)) (us := ([x1, x1, x1] : List STask)) (by kernel_rfl) (by kernel_rfl) (by kernel_rfl) (by kernel_rfl) (by kernel_rfl) rfl hS7 (hS7.rdBlk 1 ([x1, x1, x1] : List STask) rfl rfl rfl) rfl (Nat.mul_le_of_le_div _ _ _ hc4) fun v3 w5 hS8 => ?_
         have hS9 : St w0 w5 [Own.of v3 46 (((List.replicate 0 (⟨⟨#[]⟩, 0, 0, 0, 0, 0, 0⟩ : STask)) ++ l0) ++ ([x1, x1, x1] : List STask)), Own.blk b2 (.cells #[.string x1.Name, vI x1.C, vI x1.T, vI x1.D, vI x1.J, vI x1.O, vI x1.P, .string x1.Name, vI x1.C, vI x1.T, vI x1.D, vI x1.J, vI x1.O, vI x1.P, .string x1.Name, vI x1.C, vI x1.T, vI x1.D, vI x1.J, vI x1.O, vI x1.P] 46 (0, 0)), Own.blk b1 (.cells #[.string x1.Name, vI x1.C, vI x1.T, vI x1.D, vI x1.J, vI x1.O, vI x1.P] 46 (0, 0))] := hS8
         refine ge_nil fun a hF => hKK _ _ (RS.of2 (l := [.loaded ⟨b1, 0, none⟩ (.string x1.Name), .loaded ⟨b1, 1, none⟩ (vI x1.C), .loaded ⟨b1, 2, none⟩ (vI x1.T), .loaded ⟨b1, 3, none⟩ (vI x1.D), .loaded ⟨b1, 4, none⟩ (vI x1.J), .loaded ⟨b1, 5, none⟩ (vI x1.O), .loaded ⟨b1, 6, none⟩ (vI x1.P), .loaded ⟨b1, 0, none⟩ (.string x1.Name), .loaded ⟨b1, 1, none⟩ (vI x1.C), .loaded ⟨b1, 2, none⟩ (vI x1.T), .loaded ⟨b1, 3, none⟩ (vI x1.D), .loaded ⟨b1, 4, none⟩ (vI x1.J), .loaded ⟨b1, 5, none⟩ (vI x1.O), .loaded ⟨b1, 6, none⟩ (vI x1.P), .loaded ⟨b1, 0, none⟩ (.string x1.Name), .loaded ⟨b1, 1, none⟩ (vI x1.C), .loaded ⟨b1, 2, none⟩ (vI x1.T), .loaded ⟨b1, 3, none⟩ (vI x1.D), .loaded ⟨b1, 4, none⟩ (vI x1.J), .loaded ⟨b1, 5, none⟩ (vI x1.O), .loaded ⟨b1, 6, none⟩ (vI x1.P)]) (by kernel_rfl) ⟨hS6.c 2, hS6.c 2, hS6.c 2, hS6.c 2, hS6.c 2, hS6.c 2, hS6.c 2, hS6.c 2, hS6.c 2, hS6.c 2, hS6.c 2, hS6.c 2, hS6.c 2, hS6.c 2, hS6.c 2, hS6.c 2, hS6.c 2, hS6.c 2, hS6.c 2, hS6.c 2, hS6.c 2, trivial⟩ ⟨hS9.c 2, hS9.c 2, hS9.c 2, hS9.c 2, hS9.c 2, hS9.c 2, hS9.c 2, hS9.c 2, hS9.c 2, hS9.c 2, hS9.c 2, hS9.c 2, hS9.c 2, hS9.c 2, hS9.c 2, hS9.c 2, hS9.c 2, hS9.c 2, hS9.c 2, hS9.c 2, hS9.c 2, trivial⟩) ?_ a hF
         refine go2_batch [11] (ans := []) (vs := [(5, v3)]) (l := []) (by kernel_rfl) trivial mem_nil ?_
         refine go_fin2 fun a hF => hK2 _ _ ?_ a hF
         refine ws fun K3 hK3 => ?_
         refine wr [(0, 0), (1, 0), (2, 0), (3, 0), (4, 0)] ?_
         refine gb0 [0, 1, 2] [(19, vI (l0.length : Int)), (18, .slice A0 l0.length c0), (17, v3)] ?_
         obtain ⟨Z1, cz1, rfl, hcp1⟩ := hS9.open2 0 rfl
         refine ge_sliceHi (d := 20) (ty := 40) (t := 40) (el := 46) (sz := 7) (m := ((((List.replicate 0 (⟨⟨#[]⟩, 0, 0, 0, 0, 0, 0⟩ : STask)) ++ l0) ++ ([x1, x1, x1] : List STask)).length)) (c := cz1) (hn := l0.length) (x := (.tmp 17)) (y := (.tmp 19)) (A := Z1) (k' := .i64) (hi := (l0.length : Int)) (by kernel_rfl) (by kernel_rfl) (by kernel_rfl) rfl (by kernel_rfl) (by kernel_rfl) (by have h0 := hcp1; simp only [List.length_append, List.length_cons, List.length_nil] at h0; omega) ?_
         refine gb0 [4] [(4, .slice Z1 l0.length cz1)] ?_
         refine gn hK3 ?_
         have hS10 := hS9.takeN 1
         obtain rfl := si h
         exact we_ret (pr0 [.tmp 4] [.slice Z1 l0.length cz1] ⟨Z1, cz1, rfl, hcp1, hS10⟩)
        ·rw [if_neg hc4] at h
         cases h
       exact go_nomore2
      exact go_nomore2
     ·rw [if_neg hc3] at h
      cases h
    refine go_alt2 (fun KK hKK => ?_) ?_
    ·refine ge_one2 ?_
     refine gw (some 15) (.cells #[.string x1.Name, vI x1.C, vI x1.T, vI x1.D, vI x1.J, vI x1.O, vI x1.P, .string x1.Name, vI x1.C, vI x1.T, vI x1.D, vI x1.J, vI x1.O, vI x1.P, .string x1.Name, vI x1.C, vI x1.T, vI x1.D, vI x1.J, vI x1.O, vI x1.P] 46) (fun b => .slice (some ⟨b, 0, none⟩) 3 3) hS3 fun b2 w3 hx2 hS4 => ?_
     refine ge_nil fun a hF => hKK _ _ (RS.of2 (l := []) (by kernel_rfl) trivial trivial) ?_ a hF
     refine go_alt2 (fun KK hKK => ?_) ?_
     ·have hS5 := hS4.bring 1 rfl
      by_cases hc3 : (List.replicate 0 (⟨⟨#[]⟩, 0, 0, 0, 0, 0, 0⟩ : STask)).length + l0.length ≤ 2199023255552
      ·rw [if_pos hc3] at h
       refine ge_appendL (α := STask) (m := 0) (d := 11) (t := 40) (el := 46) (bytes := 64) (c1 := c0) (A1 := A0) (x := (.tmp 9)) (y := (.tmp 10)) (ty := 40) (v := v1) (z := .agg #[.string (⟨#[]⟩), vI 0, vI 0, vI 0, vI 0, vI 0, vI 0]) (l := (List.replicate 0 (⟨⟨#[]⟩, 0, 0, 0, 0, 0, 0⟩ : STask))) (us := l0) (by kernel_rfl) (by kernel_rfl) (by kernel_rfl) (by kernel_rfl) (by kernel_rfl) rfl hS5 (hS5.rd hR0) rfl (Nat.mul_le_of_le_div _ _ _ hc3) fun v2 w4 hS6 => ?_
       have hS7 : St w0 w4 [Own.of v2 46 ((List.replicate 0 (⟨⟨#[]⟩, 0, 0, 0, 0, 0, 0⟩ : STask)) ++ l0), Own.blk b2 (.cells #[.string x1.Name, vI x1.C, vI x1.T, vI x1.D, vI x1.J, vI x1.O, vI x1.P, .string x1.Name, vI x1.C, vI x1.T, vI x1.D, vI x1.J, vI x1.O, vI x1.P, .string x1.Name, vI x1.C, vI x1.T, vI x1.D, vI x1.J, vI x1.O, vI x1.P] 46 (0, 0)), Own.blk b1 (.cells #[.string x1.Name, vI x1.C, vI x1.T, vI x1.D, vI x1.J, vI x1.O, vI x1.P] 46 (0, 0))] := hS6
       refine ge_nil fun a hF => hKK _ _ (RS.of2 (l := [.loaded ⟨b1, 0, none⟩ (.string x1.Name), .loaded ⟨b1, 1, none⟩ (vI x1.C), .loaded ⟨b1, 2, none⟩ (vI x1.T), .loaded ⟨b1, 3, none⟩ (vI x1.D), .loaded ⟨b1, 4, none⟩ (vI x1.J), .loaded ⟨b1, 5, none⟩ (vI x1.O), .loaded ⟨b1, 6, none⟩ (vI x1.P), .loaded ⟨b1, 0, none⟩ (.string x1.Name), .loaded ⟨b1, 1, none⟩ (vI x1.C), .loaded ⟨b1, 2, none⟩ (vI x1.T), .loaded ⟨b1, 3, none⟩ (vI x1.D), .loaded ⟨b1, 4, none⟩ (vI x1.J), .loaded ⟨b1, 5, none⟩ (vI x1.O), .loaded ⟨b1, 6, none⟩ (vI x1.P), .loaded ⟨b1, 0, none⟩ (.string x1.Name), .loaded ⟨b1, 1, none⟩ (vI x1.C), .loaded ⟨b1, 2, none⟩ (vI x1.T), .loaded ⟨b1, 3, none⟩ (vI x1.D), .loaded ⟨b1, 4, none⟩ (vI x1.J), .loaded ⟨b1, 5, none⟩ (vI x1.O), .loaded ⟨b1, 6, none⟩ (vI x1.P)]) (by kernel_rfl) ⟨hS4.c 2, hS4.c 2, hS4.c 2, hS4.c 2, hS4.c 2, hS4.c 2, hS4.c 2, hS4.c 2, hS4.c 2, hS4.c 2, hS4.c 2, hS4.c 2, hS4.c 2, hS4.c 2, hS4.c 2, hS4.c 2, hS4.c 2, hS4.c 2, hS4.c 2, hS4.c 2, hS4.c 2, trivial⟩ ⟨hS7.c 2, hS7.c 2, hS7.c 2, hS7.c 2, hS7.c 2, hS7.c 2, hS7.c 2, hS7.c 2, hS7.c 2, hS7.c 2, hS7.c 2, hS7.c 2, hS7.c 2, hS7.c 2, hS7.c 2, hS7.c 2, hS7.c 2, hS7.c 2, hS7.c 2, hS7.c 2, hS7.c 2, trivial⟩) ?_ a hF
       refine go_alt2 (fun KK hKK => ?_) ?_
       ·by_cases hc4 : ((List.replicate 0 (⟨⟨#[]⟩, 0, 0, 0, 0, 0, 0⟩ : STask)) ++ l0).length + 3 ≤ 2199023255552
        ·rw [if_pos hc4] at h
         refine ge_appendL (α := STask) (m := 0) (d := 16) (t := 40) (el := 46) (bytes := 64) (c1 := 3) (A1 := (some ⟨b2, 0, none⟩)) (x := (.tmp 11)) (y := (.tmp 15)) (ty := 40) (v := v2) (z := .agg #[.string (⟨#[]⟩), vI 0, vI 0, vI 0, vI 0, vI 0, vI 0]) (l := ((List.replicate 0 (⟨⟨#[]⟩, 0, 0, 0, 0, 0, 0⟩ : STask)) ++ l0)) (us := ([x1, x1, x1] : List STask)) (by kernel_rfl) (by kernel_rfl) (by kernel_rfl) (by kernel_rfl) (by kernel_rfl) rfl hS7 (hS7.rdBlk 1 ([x1, x1, x1] : List STask) rfl rfl rfl) rfl (Nat.mul_le_of_le_div _ _ _ hc4) fun v3 w5 hS8 => ?_
         have hS9 : St w0 w5 [Own.of v3 46 (((List.replicate 0 (⟨⟨#[]⟩, 0, 0, 0, 0, 0, 0⟩ : STask)) ++ l0) ++ ([x1, x1, x1] : List STask)), Own.blk b2 (.cells #[.string x1.Name, vI x1.C, vI x1.T, vI x1.D, vI x1.J, vI x1.O, vI x1.P, .string x1.Name, vI x1.C, vI x1.T, vI x1.D, vI x1.J, vI x1.O, vI x1.P, .string x1.Name, vI x1.C, vI x1.T, vI x1.D, vI x1.J, vI x1.O, vI x1.P] 46 (0, 0)), Own.blk b1 (.cells #[.string x1.Name, vI x1.C, vI x1.T, vI x1.D, vI x1.J, vI x1.O, vI x1.P] 46 (0, 0))] := hS8
         refine ge_nil fun a hF => hKK _ _ (RS.of2 (l := [.loaded ⟨b1, 0, none⟩ (.string x1.Name), .loaded ⟨b1, 1, none⟩ (vI x1.C), .loaded ⟨b1, 2, none⟩ (vI x1.T), .loaded ⟨b1, 3, none⟩ (vI x1.D), .loaded ⟨b1, 4, none⟩ (vI x1.J), .loaded ⟨b1, 5, none⟩ (vI x1.O), .loaded ⟨b1, 6, none⟩ (vI x1.P), .loaded ⟨b1, 0, none⟩ (.string x1.Name), .loaded ⟨b1, 1, none⟩ (vI x1.C), .loaded ⟨b1, 2, none⟩ (vI x1.T), .loaded ⟨b1, 3, none⟩ (vI x1.D), .loaded ⟨b1, 4, none⟩ (vI x1.J), .loaded ⟨b1, 5, none⟩ (vI x1.O), .loaded ⟨b1, 6, none⟩ (vI x1.P), .loaded ⟨b1, 0, none⟩ (.string x1.Name), .loaded ⟨b1, 1, none⟩ (vI x1.C), .loaded ⟨b1, 2, none⟩ (vI x1.T), .loaded ⟨b1, 3, none⟩ (vI x1.D), .loaded ⟨b1, 4, none⟩ (vI x1.J), .loaded ⟨b1, 5, none⟩ (vI x1.O), .loaded ⟨b1, 6, none⟩ (vI x1.P)]) (by kernel_rfl) ⟨hS7.c 2, hS7.c 2, hS7.c 2, hS7.c 2, hS7.c 2, hS7.c 2, hS7.c 2, hS7.c 2, hS7.c 2, hS7.c 2, hS7.c 2, hS7.c 2, hS7.c 2, hS7.c 2, hS7.c 2, hS7.c 2, hS7.c 2, hS7.c 2, hS7.c 2, hS7.c 2, hS7.c 2, trivial⟩ ⟨hS9.c 2, hS9.c 2, hS9.c 2, hS9.c 2, hS9.c 2, hS9.c 2, hS9.c 2, hS9.c 2, hS9.c 2, hS9.c 2, hS9.c 2, hS9.c 2, hS9.c 2, hS9.c 2, hS9.c 2, hS9.c 2, hS9.c 2, hS9.c 2, hS9.c 2, hS9.c 2, hS9.c 2, trivial⟩) ?_ a hF
         refine go2_batch [11] (ans := []) (vs := [(5, v3)]) (l := []) (by kernel_rfl) trivial mem_nil ?_
         refine go_fin2 fun a hF => hK2 _ _ ?_ a hF
         refine ws fun K3 hK3 => ?_
         refine wr [(0, 0), (1, 0), (2, 0), (3, 0), (4, 0)] ?_
         refine gb0 [0, 1, 2] [(19, vI (l0.length : Int)), (18, .slice A0 l0.length c0), (17, v3)] ?_
         obtain ⟨Z1, cz1, rfl, hcp1⟩ := hS9.open2 0 rfl
         refine ge_sliceHi (d := 20) (ty := 40) (t := 40) (el := 46) (sz := 7) (m := ((((List.replicate 0 (⟨⟨#[]⟩, 0, 0, 0, 0, 0, 0⟩ : STask)) ++ l0) ++ ([x1, x1, x1] : List STask)).length)) (c := cz1) (hn := l0.length) (x := (.tmp 17)) (y := (.tmp 19)) (A := Z1) (k' := .i64) (hi := (l0.length : Int)) (by kernel_rfl) (by kernel_rfl) (by kernel_rfl) rfl (by kernel_rfl) (by kernel_rfl) (by have h0 := hcp1; simp only [List.length_append, List.length_cons, List.length_nil] at h0; omega) ?_
         refine gb0 [4] [(4, .slice Z1 l0.length cz1)] ?_
         refine gn hK3 ?_
         have hS10 := hS9.takeN 1
         obtain rfl := si h
         exact we_ret (pr0 [.tmp 4] [.slice Z1 l0.length cz1] ⟨Z1, cz1, rfl, hcp1, hS10⟩)
        ·rw [if_neg hc4] at h
         cases h
       exact go_nomore2
      ·rw [if_neg hc3] at h
       cases h
     exact go_nomore2
    exact go_nomore2
   refine go_alt2 (fun KK hKK => ?_) ?_
   ·refine ge_one2 ?_
    refine gw (some 15) (.cells #[.string x1.Name, vI x1.C, vI x1.T, vI x1.D, vI x1.J, vI x1.O, vI x1.P, .string x1.Name, vI x1.C, vI x1.T, vI x1.D, vI x1.J, vI x1.O, vI x1.P, .string x1.Name, vI x1.C, vI x1.T, vI x1.D, vI x1.J, vI x1.O, vI x1.P] 46) (fun b => .slice (some ⟨b, 0, none⟩) 3 3) hS2 fun b2 w2 hx2 hS3 => ?_
    refine ge_nil fun a hF => hKK _ _ (RS.of2 (l := []) (by kernel_rfl) trivial trivial) ?_ a hF
    refine go_alt2 (fun KK hKK => ?_) ?_
    ·refine ge_one2 ?_
     refine ge_make (α := STask) (d := 9) (t := 40) (el := 46) (bytes := 64) (l := 0) (c := ((IntKind.i64.wrap ((l0.length : Int) + 3)).toNat)) (x := (.const (vI 0))) (y := (.tmp 8)) (ty := 40) (k1 := .i64) (k2 := .i64) (li := 0) (ci := (IntKind.i64.wrap ((l0.length : Int) + 3))) (z := .agg #[.string (⟨#[]⟩), vI 0, vI 0, vI 0, vI 0, vI 0, vI 0]) (z' := (⟨⟨#[]⟩, 0, 0, 0, 0, 0, 0⟩ : STask)) (by kernel_rfl) (by kernel_rfl) (by kernel_rfl) rfl (Int.toNat_of_nonneg hc1).symm (by kernel_rfl) (by kernel_rfl) rfl hS3 (Nat.zero_le _) rfl (by omega) fun v1 w3 _ hS4 => ?_
     refine ge_nil fun a hF => hKK _ _ (RS.of2 (l := [.loaded ⟨b1, 0, none⟩ (.string x1.Name), .loaded ⟨b1, 1, none⟩ (vI x1.C), .loaded ⟨b1, 2, none⟩ (vI x1.T), .loaded ⟨b1, 3, none⟩ (vI x1.D), .loaded ⟨b1, 4, none⟩ (vI x1.J), .loaded ⟨b1, 5, none⟩ (vI x1.O), .loaded ⟨b1, 6, none⟩ (vI x1.P), .loaded ⟨b1, 0, none⟩ (.string x1.Name), .loaded ⟨b1, 1, none⟩ (vI x1.C), .loaded ⟨b1, 2, none⟩ (vI x1.T), .loaded ⟨b1, 3, none⟩ (vI x1.D), .loaded ⟨b1, 4, none⟩ (vI x1.J), .loaded ⟨b1, 5, none⟩ (vI x1.O), .loaded ⟨b1, 6, none⟩ (vI x1.P), .loaded ⟨b1, 0, none⟩ (.string x1.Name), .loaded ⟨b1, 1, none⟩ (vI x1.C), .loaded ⟨b1, 2, none⟩ (vI x1.T), .loaded ⟨b1, 3, none⟩ (vI x1.D), .loaded ⟨b1, 4, none⟩ (vI x1.J), .loaded ⟨b1, 5, none⟩ (vI x1.O), .loaded ⟨b1, 6, none⟩ (vI x1.P)]) (by kernel_rfl) ⟨hS3.c 1, hS3.c 1, hS3.c 1, hS3.c 1, hS3.c 1, hS3.c 1, hS3.c 1, hS3.c 1, hS3.c 1, hS3.c 1, hS3.c 1, hS3.c 1, hS3.c 1, hS3.c 1, hS3.c 1, hS3.c 1, hS3.c 1, hS3.c 1, hS3.c 1, hS3.c 1, hS3.c 1, trivial⟩ ⟨hS4.c 2, hS4.c 2, hS4.c 2, hS4.c 2, hS4.c 2, hS4.c 2, hS4.c 2, hS4.c 2, hS4.c 2, hS4.c 2, hS4.c 2, hS4.c 2, hS4.c 2, hS4.c 2, hS4.c 2, hS4.c 2, hS4.c 2, hS4.c 2, hS4.c 2, hS4.c 2, hS4.c 2, trivial⟩) ?_ a hF
     refine go_alt2 (fun KK hKK => ?_) ?_
     ·by_cases hc3 : (List.replicate 0 (⟨⟨#[]⟩, 0, 0, 0, 0, 0, 0⟩ : STask)).length + l0.length ≤ 2199023255552
      ·rw [if_pos hc3] at h
       refine ge_appendL (α := STask) (m := 0) (d := 11) (t := 40) (el := 46) (bytes := 64) (c1 := c0) (A1 := A0) (x := (.tmp 9)) (y := (.tmp 10)) (ty := 40) (v := v1) (z := .agg #[.string (⟨#[]⟩), vI 0, vI 0, vI 0, vI 0, vI 0, vI 0]) (l := (List.replicate 0 (⟨⟨#[]⟩, 0, 0, 0, 0, 0, 0⟩ : STask))) (us := l0) (by kernel_rfl) (by kernel_rfl) (by kernel_rfl) (by kernel_rfl) (by kernel_rfl) rfl hS4 (hS4.rd hR0) rfl (Nat.mul_le_of_le_div _ _ _ hc3) fun v2 w4 hS5 => ?_
       have hS6 : St w0 w4 [Own.of v2 46 ((List.replicate 0 (⟨⟨#[]⟩, 0, 0, 0, 0, 0, 0⟩ : STask)) ++ l0), Own.blk b2 (.cells #[.string x1.Name, vI x1.C, vI x1.T, vI x1.D, vI x1.J, vI x1.O, vI x1.P, .string x1.Name, vI x1.C, vI x1.T, vI x1.D, vI x1.J, vI x1.O, vI x1.P, .string x1.Name, vI x1.C, vI x1.T, vI x1.D, vI x1.J, vI x1.O, vI x1.P] 46 (0, 0)), Own.blk b1 (.cells #[.string x1.Name, vI x1.C, vI x1.T, vI x1.D, vI x1.J, vI x1.O, vI x1.P] 46 (0, 0))] := hS5
       refine ge_nil fun a hF => hKK _ _ (RS.of2 (l := [.loaded ⟨b1, 0, none⟩ (.string x1.Name), .loaded ⟨b1, 1, none⟩ (vI x1.C), .loaded ⟨b1, 2, none⟩ (vI x1.T), .loaded ⟨b1, 3, none⟩ (vI x1.D), .loaded ⟨b1, 4, none⟩ (vI x1.J), .loaded ⟨b1, 5, none⟩ (vI x1.O), .loaded ⟨b1, 6, none⟩ (vI x1.P), .loaded ⟨b1, 0, none⟩ (.string x1.Name), .loaded ⟨b1, 1, none⟩ (vI x1.C), .loaded ⟨b1, 2, none⟩ (vI x1.T), .loaded ⟨b1, 3, none⟩ (vI x1.D), .loaded ⟨b1, 4, none⟩ (vI x1.J), .loaded ⟨b1, 5, none⟩ (vI x1.O), .loaded ⟨b1, 6, none⟩ (vI x1.P), .loaded ⟨b1, 0, none⟩ (.string x1.Name), .loaded ⟨b1, 1, none⟩ (vI x1.C), .loaded ⟨b1, 2, none⟩ (vI x1.T), .loaded ⟨b1, 3, none⟩ (vI x1.D), .loaded ⟨b1, 4, none⟩ (vI x1.J), .loaded ⟨b1, 5, none⟩ (vI x1.O), .loaded ⟨b1, 6, none⟩ (vI x1.P)]) (by kernel_rfl) ⟨hS4.c 2, hS4.c 2, hS4.c 2, hS4.c 2, hS4.c 2, hS4.c 2, hS4.c 2, hS4.c 2, hS4.c 2, hS4.c 2, hS4.c 2, hS4.c 2, hS4.c 2, hS4.c 2, hS4.c 2, hS4.c 2, hS4.c 2, hS4.c 2, hS4.c 2, hS4.c 2, hS4.c 2, trivial⟩ ⟨hS6.c 2, hS6.c 2, hS6.c 2, hS6.c 2, hS6.c 2, hS6.c 2, hS6.c 2, hS6.c 2, hS6.c 2, hS6.c 2, hS6.c 2, hS6.c 2, hS6.c 2, hS6.c 2, hS6.c 2, hS6.c 2, hS6.c 2, hS6.c 2, hS6.c 2, hS6.c 2, hS6.c 2, trivial⟩) ?_ a hF
       refine go_alt2 (fun KK hKK => ?_) ?_
       ·by_cases hc4 : ((List.replicate 0 (⟨⟨#[]⟩, 0, 0, 0, 0, 0, 0⟩ : STask)) ++ l0).length + 3 ≤ 2199023255552
        ·rw [if_pos hc4] at h
         refine ge_appendL (α := STask) (m := 0) (d := 16) (t := 40) (el := 46) (bytes := 64) (c1 := 3) (A1 := (some ⟨b2, 0, none⟩)) (x := (.tmp 11)) (y := (.tmp 15)) (ty := 40) (v := v2) (z := .agg #[.string (⟨#[]⟩), vI 0, vI 0, vI 0, vI 0, vI 0, vI 0]) (l := ((List.replicate 0 (⟨⟨#[]⟩, 0, 0, 0, 0, 0, 0⟩ : STask)) ++ l0)) (us := ([x1, x1, x1] : List STask)) (by kernel_rfl) (by kernel_rfl) (by kernel_rfl) (by kernel_rfl) (by kernel_rfl) rfl hS6 (hS6.rdBlk 1 ([x1, x1, x1] : List STask) rfl rfl rfl) rfl (Nat.mul_le_of_le_div _ _ _ hc4) fun v3 w5 hS7 => ?_
         have hS8 : St w0 w5 [Own.of v3 46 (((List.replicate 0 (⟨⟨#[]⟩, 0, 0, 0, 0, 0, 0⟩ : STask)) ++ l0) ++ ([x1, x1, x1] : List STask)), Own.blk b2 (.cells #[.string x1.Name, vI x1.C, vI x1.T, vI x1.D, vI x1.J, vI x1.O, vI x1.P, .string x1.Name, vI x1.C, vI x1.T, vI x1.D, vI x1.J, vI x1.O, vI x1.P, .string x1.Name, vI x1.C, vI x1.T, vI x1.D, vI x1.J, vI x1.O, vI x1.P] 46 (0, 0)), Own.blk b1 (.cells #[.string x1.Name, vI x1.C, vI x1.T, vI x1.D, vI x1.J, vI x1.O, vI x1.P] 46 (0, 0))] := hS7
         refine ge_nil fun a hF => hKK _ _ (RS.of2 (l := [.loaded ⟨b1, 0, none⟩ (.string x1.Name), .loaded ⟨b1, 1, none⟩ (vI x1.C), .loaded ⟨b1, 2, none⟩ (vI x1.T), .loaded ⟨b1, 3, none⟩ (vI x1.D), .loaded ⟨b1, 4, none⟩ (vI x1.J), .loaded ⟨b1, 5, none⟩ (vI x1.O), .loaded ⟨b1, 6, none⟩ (vI x1.P), .loaded ⟨b1, 0, none⟩ (.string x1.Name), .loaded ⟨b1, 1, none⟩ (vI x1.C), .loaded ⟨b1, 2, none⟩ (vI x1.T), .loaded ⟨b1, 3, none⟩ (vI x1.D), .loaded ⟨b1, 4, none⟩ (vI x1.J), .loaded ⟨b1, 5, none⟩ (vI x1.O), .loaded ⟨b1, 6, none⟩ (vI x1.P), .loaded ⟨b1, 0, none⟩ (.string x1.Name), .loaded ⟨b1, 1, none⟩ (vI x1.C), .loaded ⟨b1, 2, none⟩ (vI x1.T), .loaded ⟨b1, 3, none⟩ (vI x1.D), .loaded ⟨b1, 4, none⟩ (vI x1.J), .loaded ⟨b1, 5, none⟩ (vI x1.O), .loaded ⟨b1, 6, none⟩ (vI x1.P)]) (by kernel_rfl) ⟨hS6.c 2, hS6.c 2, hS6.c 2, hS6.c 2, hS6.c 2, hS6.c 2, hS6.c 2, hS6.c 2, hS6.c 2, hS6.c 2, hS6.c 2, hS6.c 2, hS6.c 2, hS6.c 2, hS6.c 2, hS6.c 2, hS6.c 2, hS6.c 2, hS6.c 2, hS6.c 2, hS6.c 2, trivial⟩ ⟨hS8.c 2, hS8.c 2, hS8.c 2, hS8.c 2, hS8.c 2, hS8.c 2, hS8.c 2, hS8.c 2, hS8.c 2, hS8.c 2, hS8.c 2, hS8.c 2, hS8.c 2, hS8.c 2, hS8.c 2, hS8.c 2, hS8.c 2, hS8.c 2, hS8.c 2, hS8.c 2, hS8.c 2, trivial⟩) ?_ a hF
         refine go2_batch [11] (ans := []) (vs := [(5, v3)]) (l := []) (by kernel_rfl) trivial mem_nil ?_
         refine go_fin2 fun a hF => hK2 _ _ ?_ a hF
         refine ws fun K3 hK3 => ?_
         refine wr [(0, 0), (1, 0), (2, 0), (3, 0), (4, 0)] ?_
         refine gb0 [0, 1, 2] [(19, vI (l0.length : Int)), (18, .slice A0 l0.length c0), (17, v3)] ?_
         obtain ⟨Z1, cz1, rfl, hcp1⟩ := hS8.open2 0 rfl
         refine ge_sliceHi (d := 20) (ty := 40) (t := 40) (el := 46) (sz := 7) (m := ((((List.replicate 0 (⟨⟨#[]⟩, 0, 0, 0, 0, 0, 0⟩ : STask)) ++ l0) ++ ([x1, x1, x1] : List STask)).length)) (c := cz1) (hn := l0.length) (x := (.tmp 17)) (y := (.tmp 19)) (A := Z1) (k' := .i64) (hi := (l0.length : Int)) (by kernel_rfl) (by kernel_rfl) (by kernel_rfl) rfl (by kernel_rfl) (by kernel_rfl) (by have h0 := hcp1; simp only [List.length_append, List.length_cons, List.length_nil] at h0; omega) ?_
         refine gb0 [4] [(4, .slice Z1 l0.length cz1)] ?_
         refine gn hK3 ?_
         have hS9 := hS8.takeN 1
         obtain rfl := si h
         exact we_ret (pr0 [.tmp 4] [.slice Z1 l0.length cz1] ⟨Z1, cz1, rfl, hcp1, hS9⟩)
        ·rw [if_neg hc4] at h
         cases h
       exact go_nomore2
      ·rw [if_neg hc3] at h
       cases h
     exact go_nomore2
    exact go_nomore2
   exact go_nomore2
  ·rw [if_neg hc2] at h
   cases h
 ·rw [if_neg hc1] at h
  cases h
theorem punctualsame_Lend_api_Task_full (l0 : List STask) (x1 : STask) {r : List STask} (h : punctualsame_Lend_api_Task.f l0 x1 = some r) : r = l0 ++ [x1, x1, x1] := by
 unfold punctualsame_Lend_api_Task.f at h
 repeat' split at h
 all_goals first | (exact (Option.some.inj h).symm) | cases h

/-! punctual/punctualsame.Lend[int] -/
abbrev punctualsame_Lend_int.Post (w0 : World) (n : Nat) (r : List Int) (e : Ending) (w : World) : Prop := ∃ (A : Option Addr) (c : Nat), e = .returned (.slice A n c) ∧ r.length ≤ c ∧ St w0 w [Own.of (.slice A r.length c) 3 r]
def punctualsame_Lend_int.f (l0 : List Int) (x1 : Int) : Option (List Int) :=
 if 0 ≤ (IntKind.i64.wrap ((l0.length : Int) + 3)) then
  if ((IntKind.i64.wrap ((l0.length : Int) + 3)).toNat) ≤ 17592186044416 then
   if (List.replicate 0 (0 : Int)).length + l0.length ≤ 17592186044416 then
    if ((List.replicate 0 (0 : Int)) ++ l0).length + 3 ≤ 17592186044416 then
     some (((List.replicate 0 (0 : Int)) ++ l0) ++ ([x1, x1, x1] : List Int))
    else
     none
   else
    none
  else
   none
 else
  none
theorem punctualsame_Lend_int_ok (l0 : List Int) (A0 : Option Addr) (c0 : Nat) (x1 : Int) (w0 : World) (hR0 : RdL w0 A0 l0) (hL0 : l0.length ≤ c0) (r : List Int) (h : punctualsame_Lend_int.f l0 x1 = some r) :
  Calls Tryd.prog 15 #[.slice A0 l0.length c0, vI x1] w0 (punctualsame_Lend_int.Post w0 l0.length r) := by
 have hS := St.start w0
 unfold punctualsame_Lend_int.f at h
 refine calls_enter (n := 21) (args := [.slice A0 l0.length c0, vI x1]) (fn := Tryd.f15) rfl rfl rfl rfl ?_
 show WE _ _ _ _ [(0, .slice A0 l0.length c0), (1, vI x1)] _
 refine ws fun K1 hK1 => ?_
 refine wr [(0, 0)] ?_
 refine gb0 [0] [(4, .slice none 0 0)] ?_
 refine gn hK1 ?_
 refine ws fun K2 hK2 => ?_
 refine wr [(0, 0), (1, 0), (2, 0), (3, 1), (4, 0), (5, 2), (6, 0), (7, 0), (8, 0), (9, 1), (10, 2), (11, 0)] ?_
 refine gb0 [0, 1, 2] [(8, vI (IntKind.i64.wrap ((l0.length : Int) + 3))), (7, vI (l0.length : Int)), (6, .slice A0 l0.length c0)] ?_
 by_cases hc1 : 0 ≤ (IntKind.i64.wrap ((l0.length : Int) + 3))
 ·rw [if_pos hc1] at h
  by_cases hc2 : ((IntKind.i64.wrap ((l0.length : Int) + 3)).toNat) ≤ 17592186044416
  ·rw [if_pos hc2] at h
   refine ge_make (α := Int) (d := 9) (t := 23) (el := 3) (bytes := 8) (l := 0) (c := ((IntKind.i64.wrap ((l0.length : Int) + 3)).toNat)) (x := (.const (vI 0))) (y := (.tmp 8)) (ty := 23) (k1 := .i64) (k2 := .i64) (li := 0) (ci := (IntKind.i64.wrap ((l0.length : Int) + 3))) (z := vI 0) (z' := (0 : Int)) (by kernel_rfl) (by kernel_rfl) (by kernel_rfl) rfl (Int.toNat_of_nonneg hc1).symm (by kernel_rfl) (by kernel_rfl) rfl hS (Nat.zero_le _) rfl (by omega) fun v1 w1 _ hS1 => ?_
   refine gb0 [4] [(10, .slice A0 l0.length c0)] ?_
   by_cases hc3 : (List.replicate 0 (0 : Int)).length + l0.length ≤ 17592186044416
   ·rw [if_pos hc3] at h
    refine ge_appendL (α := Int) (m := 0) (d := 11) (t := 23) (el := 3) (bytes := 8) (c1 := c0) (A1 := A0) (x := (.tmp 9)) (y := (.tmp 10)) (ty := 23) (v := v1) (z := vI 0) (l := (List.replicate 0 (0 : Int))) (us := l0) (by kernel_rfl) (by kernel_rfl) (by kernel_rfl) (by kernel_rfl) (by kernel_rfl) rfl hS1 (hS1.rd hR0) rfl (Nat.mul_le_of_le_div _ _ _ hc3) fun v2 w2 hS2 => ?_
    have hS3 : St w0 w2 [Own.of v2 3 ((List.replicate 0 (0 : Int)) ++ l0)] := hS2
    refine gb0 [6, 7, 8] [(14, vI x1), (13, vI x1), (12, vI x1)] ?_
    refine gw (some 15) (.cells #[vI x1, vI x1, vI x1] 3) (fun b => .slice (some ⟨b, 0, none⟩) 3 3) hS3 fun b1 w3 hx1 hS4 => ?_
    have hS5 := hS4.bring 1 rfl
    by_cases hc4 : ((List.replicate 0 (0 : Int)) ++ l0).length + 3 ≤ 17592186044416
    ·rw [if_pos hc4] at h
     refine ge_appendL (α := Int) (m := 0) (d := 16) (t := 23) (el := 3) (bytes := 8) (c1 := 3) (A1 := (some ⟨b1, 0, none⟩)) (x := (.tmp 11)) (y := (.tmp 15)) (ty := 23) (v := v2) (z := vI 0) (l := ((List.replicate 0 (0 : Int)) ++ l0)) (us := ([x1, x1, x1] : List Int)) (by kernel_rfl) (by kernel_rfl) (by kernel_rfl) (by kernel_rfl) (by kernel_rfl) rfl hS5 (hS5.rdBlk 1 ([x1, x1, x1] : List Int) rfl rfl rfl) rfl (Nat.mul_le_of_le_div _ _ _ hc4) fun v3 w4 hS6 => ?_
     have hS7 : St w0 w4 [Own.of v3 3 (((List.replicate 0 (0 : Int)) ++ l0) ++ ([x1, x1, x1] : List Int)), Own.blk b1 (.cells #[vI x1, vI x1, vI x1] 3 (0, 0))] := hS6
     refine gb0 [11] [(5, v3)] ?_
     refine gn hK2 ?_
     refine ws fun K3 hK3 => ?_
     refine wr [(0, 0), (1, 0), (2, 0), (3, 0), (4, 0)] ?_
     refine gb0 [0, 1, 2] [(19, vI (l0.length : Int)), (18, .slice A0 l0.length c0), (17, v3)] ?_
     obtain ⟨Z1, cz1, rfl, hcp1⟩ := hS7.open2 0 rfl
     refine ge_sliceHi (d := 20) (ty := 23) (t := 23) (el := 3) (sz := 1) (m := ((((List.replicate 0 (0 : Int)) ++ l0) ++ ([x1, x1, x1] : List Int)).length)) (c := cz1) (hn := l0.length) (x := (.tmp 17)) (y := (.tmp 19)) (A := Z1) (k' := .i64) (hi := (l0.length : Int)) (by kernel_rfl) (by kernel_rfl) (by kernel_rfl) rfl (by kernel_rfl) (by kernel_rfl) (by have h0 := hcp1; simp only [List.length_append, List.length_cons, List.length_nil] at h0; omega) ?_
     refine gb0 [4] [(4, .slice Z1 l0.length cz1)] ?_
     refine gn hK3 ?_
     have hS8 := hS7.takeN 1
     obtain rfl := si h
     exact we_ret (pr0 [.tmp 4] [.slice Z1 l0.length cz1] ⟨Z1, cz1, rfl, hcp1, hS8⟩)
    ·rw [if_neg hc4] at h
     cases h
   ·rw [if_neg hc3] at h
    cases h
  ·rw [if_neg hc2] at h
   cases h
 ·rw [if_neg hc1] at h
  cases h
theorem punctualsame_Lend_int_full (l0 : List Int) (x1 : Int) {r : List Int} (h : punctualsame_Lend_int.f l0 x1 = some r) : r = l0 ++ [x1, x1, x1] := by
 unfold punctualsame_Lend_int.f at h
 repeat' split at h
 all_goals first | (exact (Option.some.inj h).symm) | cases h

/-! punctual/punctualref.F -/
abbrev punctualref_F.Post (w0 : World) (r : SFault) (e : Ending) (w : World) : Prop := e = .returned (.agg #[vI r.Code, vI r.At]) ∧ St w0 w []
def punctualref_F.f (x0 : Int) (x1 : Int) : SFault :=
 (⟨x0, x1⟩ : SFault)
theorem punctualref_F_ok (x0 : Int) (x1 : Int) (w0 : World) (r : SFault) (h : punctualref_F.f x0 x1 = r) :
  Calls Tryd.prog 21 #[vI x0, vI x1] w0 (punctualref_F.Post w0 r) := by
 have hS := St.start w0
 unfold punctualref_F.f at h
 refine calls_enter (n := 8) (args := [vI x0, vI x1]) (fn := Tryd.f21) rfl rfl rfl rfl ?_
 show WE _ _ _ _ [(0, vI x0), (1, vI x1)] _
 refine ws fun K1 hK1 => ?_
 refine wr [(0, 1)] ?_
 refine gw (some 4) (.cells #[vI 0, vI 0] 26) (fun b => pP b 0) hS fun b1 w1 hx1 hS1 => ?_
 refine gn hK1 ?_
 refine ws fun K2 hK2 => ?_
 refine wr [(0, 0), (1, 0), (2, 0), (3, 2)] ?_
 refine gb0 [0, 1, 2] [(7, .agg #[vI x0, vI x1]), (6, vI x1), (5, vI x0)] ?_
 refine gs b1 0 #[vI 0, vI 0] 26 [vI x0, vI x1] hS1 fun w2 hS2 => ?_
 have hS3 : St w0 w2 [Own.blk b1 (.cells #[vI x0, vI x1] 26 (0, 0))] := hS2
 refine gn hK2 ?_
 have hS4 := hS3.takeN 0
 subst h
 exact we_ret (pr [.cell 4 26] [.agg #[vI x0, vI x1]] [.loaded ⟨b1, 0, none⟩ (vI x0), .loaded ⟨b1, 1, none⟩ (vI x1)] ⟨hS3.c 0, hS3.c 0, trivial⟩ ⟨rfl, hS4⟩)

structure A6Int where
 a0 : Int
 a1 : Int
 a2 : Int
 a3 : Int
 a4 : Int
 a5 : Int
def A6Int.eqb (x y : A6Int) : Bool := ((x.a0 == y.a0) && ((x.a1 == y.a1) && ((x.a2 == y.a2) && ((x.a3 == y.a3) && ((x.a4 == y.a4) && ((x.a5 == y.a5) && true))))))
instance : Ok A6Int := ⟨fun x => Ok.ok x.a0 ∧ Ok.ok x.a1 ∧ Ok.ok x.a2 ∧ Ok.ok x.a3 ∧ Ok.ok x.a4 ∧ Ok.ok x.a5 ∧ True⟩
instance : Flat A6Int := ⟨6, fun x => [vI x.a0, vI x.a1, vI x.a2, vI x.a3, vI x.a4, vI x.a5], fun _ => rfl, fun _ => rfl, by decide⟩

/-! punctual/punctualref.sixOf -/
abbrev punctualref_sixOf.Post (w0 : World) (r : A6Int) (e : Ending) (w : World) : Prop := e = .returned (.agg #[vI r.a0, vI r.a1, vI r.a2, vI r.a3, vI r.a4, vI r.a5]) ∧ St w0 w []
def punctualref_sixOf.f (x0 : STask) : A6Int :=
 (⟨x0.C, x0.T, x0.D, x0.J, x0.O, x0.P⟩ : A6Int)
theorem punctualref_sixOf_ok (x0 : STask) (w0 : World) (r : A6Int) (h : punctualref_sixOf.f x0 = r) :
  Calls Tryd.prog 66 #[.agg #[.string x0.Name, vI x0.C, vI x0.T, vI x0.D, vI x0.J, vI x0.O, vI x0.P]] w0 (punctualref_sixOf.Post w0 r) := by
 have hS := St.start w0
 unfold punctualref_sixOf.f at h
 refine calls_enter (n := 16) (args := [.agg #[.string x0.Name, vI x0.C, vI x0.T, vI x0.D, vI x0.J, vI x0.O, vI x0.P]]) (fn := Tryd.f66) rfl rfl rfl rfl ?_
 show WE _ _ _ _ [(0, .agg #[.string x0.Name, vI x0.C, vI x0.T, vI x0.D, vI x0.J, vI x0.O, vI x0.P])] _
 refine ws fun K1 hK1 => ?_
 refine wr [(0, 1), (1, 1)] ?_
 refine gw (some 1) (.cells #[.string x0.Name, vI x0.C, vI x0.T, vI x0.D, vI x0.J, vI x0.O, vI x0.P] 46) (fun b => pP b 0) hS fun b1 w1 hx1 hS1 => ?_
 refine gw (some 2) (.cells #[vI 0, vI 0, vI 0, vI 0, vI 0, vI 0] 94) (fun b => pP b 0) hS1 fun b2 w2 hx2 hS2 => ?_
 refine gn hK1 ?_
 refine ws fun K2 hK2 => ?_
 refine wr [(0, 0), (1, 0), (2, 0), (3, 0), (4, 0), (5, 0), (6, 0), (7, 0), (8, 0), (9, 0), (10, 0), (11, 0), (12, 0), (13, 2)] ?_
 refine gb [0, 1, 2, 3, 4, 5, 6, 7, 8, 9, 10, 11, 12] [(15, .agg #[vI x0.C, vI x0.T, vI x0.D, vI x0.J, vI x0.O, vI x0.P]), (14, vI x0.P), (13, pP b1 6), (12, vI x0.O), (11, pP b1 5), (10, vI x0.J), (9, pP b1 4), (8, vI x0.D), (7, pP b1 3), (6, vI x0.T), (5, pP b1 2), (4, vI x0.C), (3, pP b1 1)] [.loaded ⟨b1, 1, none⟩ (vI x0.C), .loaded ⟨b1, 2, none⟩ (vI x0.T), .loaded ⟨b1, 3, none⟩ (vI x0.D), .loaded ⟨b1, 4, none⟩ (vI x0.J), .loaded ⟨b1, 5, none⟩ (vI x0.O), .loaded ⟨b1, 6, none⟩ (vI x0.P)] ⟨hS2.c 1, hS2.c 1, hS2.c 1, hS2.c 1, hS2.c 1, hS2.c 1, trivial⟩ ?_
 refine gs b2 0 #[vI 0, vI 0, vI 0, vI 0, vI 0, vI 0] 94 [vI x0.C, vI x0.T, vI x0.D, vI x0.J, vI x0.O, vI x0.P] hS2 fun w3 hS3 => ?_
 have hS4 : St w0 w3 [Own.blk b2 (.cells #[vI x0.C, vI x0.T, vI x0.D, vI x0.J, vI x0.O, vI x0.P] 94 (0, 0)), Own.blk b1 (.cells #[.string x0.Name, vI x0.C, vI x0.T, vI x0.D, vI x0.J, vI x0.O, vI x0.P] 46 (0, 0))] := hS3
 refine gn hK2 ?_
 have hS5 := hS4.takeN 0
 subst h
 exact we_ret (pr [.cell 2 94] [.agg #[vI x0.C, vI x0.T, vI x0.D, vI x0.J, vI x0.O, vI x0.P]] [.loaded ⟨b2, 0, none⟩ (vI x0.C), .loaded ⟨b2, 1, none⟩ (vI x0.T), .loaded ⟨b2, 2, none⟩ (vI x0.D), .loaded ⟨b2, 3, none⟩ (vI x0.J), .loaded ⟨b2, 4, none⟩ (vI x0.O), .loaded ⟨b2, 5, none⟩ (vI x0.P)] ⟨hS4.c 0, hS4.c 0, hS4.c 0, hS4.c 0, hS4.c 0, hS4.c 0, trivial⟩ ⟨rfl, hS5⟩)
end Go.Proofs.YtlipdmblinjjaaaDoor.GV
