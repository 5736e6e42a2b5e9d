/- Walks of single functions, written by a program of this work. -/
import Derived.Test.YtnckikjcjgmdlaaGWBodyChecks3
namespace Go.Proofs.Ytnckikjcjgmdlaa.GV
open Go Go.RowKit
set_option linter.unusedVariables false
set_option linter.unusedSimpArgs false
set_option maxRecDepth 100000

/-! punctual/punctualref.wrongStatement -/
abbrev punctualref_wrongStatement.Post (w0 : World) (r : Int) (e : Ending) (w : World) : Prop := e = .returned (vI r) ∧ St w0 w []
def punctualref_wrongStatement.p0 (x0_0_0 : Int) : Option (Unit ⊕ Int) :=
  if x0_0_0 < 1 then
   some (.inr 6)
  else
   if x0_0_0 > 7 then
    some (.inr 6)
   else
    some (.inl ())
def punctualref_wrongStatement.p1 (x0_0_1 : Int) (e1 : Int) (e2 : Int) : Option (Unit ⊕ Int) :=
  if x0_0_1 < e1 then
   some (.inr 3)
  else
   if x0_0_1 > e2 then
    some (.inr 3)
   else
    some (.inl ())
def punctualref_wrongStatement.p2 (x0_0_0 : Int) : Option (Bool ⊕ Int) :=
  if x0_0_0 = 1 then
   some (.inl true)
  else
   some (.inl (x0_0_0 == 2))
def punctualref_wrongStatement.p3 (x0_0_0 : Int) : Option (Bool ⊕ Int) :=
  if x0_0_0 = 3 then
   some (.inl true)
  else
   some (.inl (x0_0_0 == 5))
def punctualref_wrongStatement.p4 (x0_0_0 : Int) : Option (Bool ⊕ Int) :=
  if x0_0_0 ≥ 3 then
   some (.inl (decide (x0_0_0 ≤ 6)))
  else
   some (.inl false)
def punctualref_wrongStatement.p5 (x0_0_2_0 : Int) (x0_0_2_1 : Int) (l0_0_2_2 : List SExpr) (q2 : Bool) : Option (Unit ⊕ Int) :=
  if q2 = true then
   some (.inl ())
  else
   if (punctualref_emptyExpr.f x0_0_2_0 x0_0_2_1 l0_0_2_2) = true then
    some (.inl ())
   else
    some (.inr 6)
def punctualref_wrongStatement.p6 (x0_0_3_0 : Int) (x0_0_3_1_0 : Int) (x0_0_3_1_1 : Int) (l0_0_3_1_2 : List SExpr) (x0_0_3_2_0 : Int) (x0_0_3_2_1 : Int) (l0_0_3_2_2 : List SExpr) (q4 : Bool) : Option (Unit ⊕ Int) :=
  if q4 = true then
   some (.inl ())
  else
   if x0_0_3_0 = 0 then
    if (punctualref_emptyExpr.f x0_0_3_1_0 x0_0_3_1_1 l0_0_3_1_2) = true then
     if (punctualref_emptyExpr.f x0_0_3_2_0 x0_0_3_2_1 l0_0_3_2_2) = true then
      some (.inl ())
     else
      some (.inr 6)
    else
     some (.inr 6)
   else
    some (.inr 6)
def punctualref_wrongStatement.p7 (x0_0_0 : Int) (l0_0_4 : List SStmt) (l0_0_5 : List SStmt) (q6 : Bool) : Option (Unit ⊕ Int) :=
  if q6 = true then
   if x0_0_0 = 3 then
    some (.inl ())
   else
    if (l0_0_5.length : Int) > 0 then
     some (.inr 6)
    else
     some (.inl ())
  else
   if (l0_0_4.length : Int) > 0 then
    some (.inr 6)
   else
    if x0_0_0 = 3 then
     some (.inl ())
    else
     if (l0_0_5.length : Int) > 0 then
      some (.inr 6)
     else
      some (.inl ())
def punctualref_wrongStatement.p8 (K : Nat) (x0_0_2_0 : Int) (x0_0_2_1 : Int) (l0_0_2_2 : List SExpr) (q2 : Bool) : Option (Unit ⊕ Int) :=
  if q2 = true then
   match punctualref_wrongExpr.f K x0_0_2_0 x0_0_2_1 l0_0_2_2 with
   | none => none
   | some r1 =>
    if r1 = 0 then
     some (.inl ())
    else
     some (.inr r1)
  else
   some (.inl ())
def punctualref_wrongStatement.p9 (K : Nat) (x0_0_3_0 : Int) (x0_0_3_1_0 : Int) (x0_0_3_1_1 : Int) (l0_0_3_1_2 : List SExpr) (x0_0_3_2_0 : Int) (x0_0_3_2_1 : Int) (l0_0_3_2_2 : List SExpr) (q4 : Bool) : Option (Unit ⊕ Int) :=
  if q4 = true then
   if x0_0_3_0 < 1 then
    some (.inr 6)
   else
    if x0_0_3_0 > 4 then
     some (.inr 6)
    else
     match punctualref_wrongExpr.f K x0_0_3_1_0 x0_0_3_1_1 l0_0_3_1_2 with
     | none => none
     | some r2 =>
      if r2 = 0 then
       match punctualref_wrongExpr.f K x0_0_3_2_0 x0_0_3_2_1 l0_0_3_2_2 with
       | none => none
       | some r3 =>
        if r3 = 0 then
         some (.inl ())
        else
         some (.inr r3)
      else
       some (.inr r2)
  else
   some (.inl ())
def punctualref_wrongStatement.r10 (x0_0_1 : Int) (l0_2 : List Int) : Nat → Option (Nat ⊕ (Unit ⊕ Int))
 | i1 =>
  if (i1 : Int) < (l0_2.length : Int) then
   match l0_2[i1]? with
   | none => none
   | some e3 =>
    if e3 = x0_0_1 then
     some (.inr (.inr 10))
    else
     some (.inl (i1 + 1))
  else
   some (.inr (.inl ()))
def punctualref_wrongStatement.r11 (x0_0_1 : Int) (l0_2 : List Int) : Nat → Option (Nat ⊕ (Unit ⊕ Int))
 | i2 =>
  if (i2 : Int) < (l0_2.length : Int) then
   match l0_2[i2]? with
   | none => none
   | some e4 =>
    if e4 = x0_0_1 then
     some (.inr (.inr 10))
    else
     some (.inl (i2 + 1))
  else
   some (.inr (.inl ()))
def punctualref_wrongStatement.f (K : Nat) (x0_0_0 : Int) (x0_0_1 : Int) (x0_0_2_0 : Int) (x0_0_2_1 : Int) (l0_0_2_2 : List SExpr) (x0_0_3_0 : Int) (x0_0_3_1_0 : Int) (x0_0_3_1_1 : Int) (l0_0_3_1_2 : List SExpr) (x0_0_3_2_0 : Int) (x0_0_3_2_1 : Int) (l0_0_3_2_2 : List SExpr) (l0_0_4 : List SStmt) (l0_0_5 : List SStmt) (x0_1 : Int) (l0_2 : List Int) : Option Int :=
 match punctualref_wrongStatement.p0 x0_0_0 with
 | none => none
 | some (.inl _) =>
  if 0 ≤ x0_0_0 then
   match ([0, 0, 0, 0, 0, 0, 0, 1] : List Int)[(x0_0_0).toNat]? with
   | none => none
   | some e1 =>
    match ([0, 7, 3, 0, 1000, 1000, 3, 1000] : List Int)[(x0_0_0).toNat]? with
    | none => none
    | some e2 =>
     match punctualref_wrongStatement.p1 x0_0_1 e1 e2 with
     | none => none
     | some (.inl _) =>
      match punctualref_wrongStatement.p2 x0_0_0 with
      | none => none
      | some (.inl q2) =>
       match punctualref_wrongStatement.p3 x0_0_0 with
       | none => none
       | some (.inl q4) =>
        match punctualref_wrongStatement.p4 x0_0_0 with
        | none => none
        | some (.inl q6) =>
         match punctualref_wrongStatement.p5 x0_0_2_0 x0_0_2_1 l0_0_2_2 q2 with
         | none => none
         | some (.inl _) =>
          match punctualref_wrongStatement.p6 x0_0_3_0 x0_0_3_1_0 x0_0_3_1_1 l0_0_3_1_2 x0_0_3_2_0 x0_0_3_2_1 l0_0_3_2_2 q4 with
          | none => none
          | some (.inl _) =>
           match punctualref_wrongStatement.p7 x0_0_0 l0_0_4 l0_0_5 q6 with
           | none => none
           | some (.inl _) =>
            match punctualref_wrongStatement.p8 K x0_0_2_0 x0_0_2_1 l0_0_2_2 q2 with
            | none => none
            | some (.inl _) =>
             match punctualref_wrongStatement.p9 K x0_0_3_0 x0_0_3_1_0 x0_0_3_1_1 l0_0_3_1_2 x0_0_3_2_0 x0_0_3_2_1 l0_0_3_2_2 q4 with
             | none => none
             | some (.inl _) =>
              if q6 = true then
               if x0_1 ≥ 6 then
                some 2
               else
                if x0_0_0 = 6 then
                 match iter (punctualref_wrongStatement.r10 x0_0_1 l0_2) K 0 with
                 | none => none
                 | some (.inl _) =>
                  some 0
                 | some (.inr rr1) =>
                  some rr1
                else
                 some 0
              else
               if x0_0_0 = 6 then
                match iter (punctualref_wrongStatement.r11 x0_0_1 l0_2) K 0 with
                | none => none
                | some (.inl _) =>
                 some 0
                | some (.inr rr2) =>
                 some rr2
               else
                some 0
             | some (.inr rr3) =>
              some rr3
            | some (.inr rr4) =>
             some rr4
           | some (.inr rr5) =>
            some rr5
          | some (.inr rr6) =>
           some rr6
         | some (.inr rr7) =>
          some rr7
        | some (.inr rr8) =>
         some rr8
       | some (.inr rr9) =>
        some rr9
      | some (.inr rr10) =>
       some rr10
     | some (.inr rr11) =>
      some rr11
  else
   none
 | some (.inr rr12) =>
  some rr12
abbrev punctualref_wrongStatement.A0 (w0 : World) (x0_0_0 : Int) (x0_0_1 : Int) (x0_0_2_0 : Int) (x0_0_2_1 : Int) (l0_0_2_2 : List SExpr) (A0_0_2_2 : Option Addr) (c0_0_2_2 : Nat) (x0_0_3_0 : Int) (x0_0_3_1_0 : Int) (x0_0_3_1_1 : Int) (l0_0_3_1_2 : List SExpr) (A0_0_3_1_2 : Option Addr) (c0_0_3_1_2 : Nat) (x0_0_3_2_0 : Int) (x0_0_3_2_1 : Int) (l0_0_3_2_2 : List SExpr) (A0_0_3_2_2 : Option Addr) (c0_0_3_2_2 : Nat) (l0_0_4 : List SStmt) (A0_0_4 : Option Addr) (c0_0_4 : Nat) (l0_0_5 : List SStmt) (A0_0_5 : Option Addr) (c0_0_5 : Nat) (x0_1 : Int) (l0_2 : List Int) (A0_2 : Option Addr) (c0_2 : Nat) (b1 : Nat) (b2 : Nat) : Unit → Act → World → Prop := fun (s : Unit) a w => St w0 w [Own.blk b2 (.cells #[vI x0_0_0, vI x0_0_1, vI x0_0_2_0, vI x0_0_2_1, .slice A0_0_2_2 l0_0_2_2.length c0_0_2_2, vI x0_0_3_0, vI x0_0_3_1_0, vI x0_0_3_1_1, .slice A0_0_3_1_2 l0_0_3_1_2.length c0_0_3_1_2, vI x0_0_3_2_0, vI x0_0_3_2_1, .slice A0_0_3_2_2 l0_0_3_2_2.length c0_0_3_2_2, .slice A0_0_4 l0_0_4.length c0_0_4, .slice A0_0_5 l0_0_5.length c0_0_5] 49 (0, 0)), Own.blk b1 (.cells #[vI x0_0_0, vI x0_0_1, vI x0_0_2_0, vI x0_0_2_1, .slice A0_0_2_2 l0_0_2_2.length c0_0_2_2, vI x0_0_3_0, vI x0_0_3_1_0, vI x0_0_3_1_1, .slice A0_0_3_1_2 l0_0_3_1_2.length c0_0_3_1_2, vI x0_0_3_2_0, vI x0_0_3_2_1, .slice A0_0_3_2_2 l0_0_3_2_2.length c0_0_3_2_2, .slice A0_0_4 l0_0_4.length c0_0_4, .slice A0_0_5 l0_0_5.length c0_0_5, vI x0_1, .slice A0_2 l0_2.length c0_2] 99 (0, 0))] ∧ Frm 170 a [(1, pP b1 0), (3, pP b2 0)]
abbrev punctualref_wrongStatement.B0 (w0 : World) : Int → Exit → Act → World → Prop := Rets Try.prog Try.f55 (punctualref_wrongStatement.Post w0)
theorem punctualref_wrongStatement_p0 (K : Nat) (w0 : World) (Z : Zone) (x0_0_0 : Int) (x0_0_1 : Int) (x0_0_2_0 : Int) (x0_0_2_1 : Int) (l0_0_2_2 : List SExpr) (A0_0_2_2 : Option Addr) (c0_0_2_2 : Nat) (x0_0_3_0 : Int) (x0_0_3_1_0 : Int) (x0_0_3_1_1 : Int) (l0_0_3_1_2 : List SExpr) (A0_0_3_1_2 : Option Addr) (c0_0_3_1_2 : Nat) (x0_0_3_2_0 : Int) (x0_0_3_2_1 : Int) (l0_0_3_2_2 : List SExpr) (A0_0_3_2_2 : Option Addr) (c0_0_3_2_2 : Nat) (l0_0_4 : List SStmt) (A0_0_4 : Option Addr) (c0_0_4 : Nat) (l0_0_5 : List SStmt) (A0_0_5 : Option Addr) (c0_0_5 : Nat) (x0_1 : Int) (l0_2 : List Int) (A0_2 : Option Addr) (c0_2 : Nat) (hZ : ∀ w, Sub w0 w → Z w) (hR0_0_2_2 : RdZ Z A0_0_2_2 l0_0_2_2) (hL0_0_2_2 : l0_0_2_2.length ≤ c0_0_2_2) (hR0_0_3_1_2 : RdZ Z A0_0_3_1_2 l0_0_3_1_2) (hL0_0_3_1_2 : l0_0_3_1_2.length ≤ c0_0_3_1_2) (hR0_0_3_2_2 : RdZ Z A0_0_3_2_2 l0_0_3_2_2) (hL0_0_3_2_2 : l0_0_3_2_2.length ≤ c0_0_3_2_2) (hR0_0_4 : RdZ Z A0_0_4 l0_0_4) (hL0_0_4 : l0_0_4.length ≤ c0_0_4) (hR0_0_5 : RdZ Z A0_0_5 l0_0_5) (hL0_0_5 : l0_0_5.length ≤ c0_0_5) (hR0_2 : RdL w0 A0_2 l0_2) (hL0_2 : l0_2.length ≤ c0_2) (b1 : Nat) (b2 : Nat) (o : Unit ⊕ Int) (h : punctualref_wrongStatement.p0 x0_0_0 = some o) (w : World) (hS : St w0 w [Own.blk b2 (.cells #[vI x0_0_0, vI x0_0_1, vI x0_0_2_0, vI x0_0_2_1, .slice A0_0_2_2 l0_0_2_2.length c0_0_2_2, vI x0_0_3_0, vI x0_0_3_1_0, vI x0_0_3_1_1, .slice A0_0_3_1_2 l0_0_3_1_2.length c0_0_3_1_2, vI x0_0_3_2_0, vI x0_0_3_2_1, .slice A0_0_3_2_2 l0_0_3_2_2.length c0_0_3_2_2, .slice A0_0_4 l0_0_4.length c0_0_4, .slice A0_0_5 l0_0_5.length c0_0_5] 49 (0, 0)), Own.blk b1 (.cells #[vI x0_0_0, vI x0_0_1, vI x0_0_2_0, vI x0_0_2_1, .slice A0_0_2_2 l0_0_2_2.length c0_0_2_2, vI x0_0_3_0, vI x0_0_3_1_0, vI x0_0_3_1_1, .slice A0_0_3_1_2 l0_0_3_1_2.length c0_0_3_1_2, vI x0_0_3_2_0, vI x0_0_3_2_1, .slice A0_0_3_2_2 l0_0_3_2_2.length c0_0_3_2_2, .slice A0_0_4 l0_0_4.length c0_0_4, .slice A0_0_5 l0_0_5.length c0_0_5, vI x0_1, .slice A0_2 l0_2.length c0_2] 99 (0, 0))]) (Q : Exit → Act → World → Prop) (hQ : ∀ x a w, Outs (punctualref_wrongStatement.A0 w0 x0_0_0 x0_0_1 x0_0_2_0 x0_0_2_1 l0_0_2_2 A0_0_2_2 c0_0_2_2 x0_0_3_0 x0_0_3_1_0 x0_0_3_1_1 l0_0_3_1_2 A0_0_3_1_2 c0_0_3_1_2 x0_0_3_2_0 x0_0_3_2_1 l0_0_3_2_2 A0_0_3_2_2 c0_0_3_2_2 l0_0_4 A0_0_4 c0_0_4 l0_0_5 A0_0_5 c0_0_5 x0_1 l0_2 A0_2 c0_2 b1 b2) (punctualref_wrongStatement.B0 w0) o x a w → Q x a w) : WE Try.prog 170 (subF Try.f55 [1, 1, 0]) Q [(0, .agg #[vI x0_0_0, vI x0_0_1, vI x0_0_2_0, vI x0_0_2_1, .slice A0_0_2_2 l0_0_2_2.length c0_0_2_2, vI x0_0_3_0, vI x0_0_3_1_0, vI x0_0_3_1_1, .slice A0_0_3_1_2 l0_0_3_1_2.length c0_0_3_1_2, vI x0_0_3_2_0, vI x0_0_3_2_1, .slice A0_0_3_2_2 l0_0_3_2_2.length c0_0_3_2_2, .slice A0_0_4 l0_0_4.length c0_0_4, .slice A0_0_5 l0_0_5.length c0_0_5, vI x0_1, .slice A0_2 l0_2.length c0_2]), (1, pP b1 0), (2, vI 0), (3, pP b2 0), (14, pP b1 0), (15, .agg #[vI x0_0_0, vI x0_0_1, vI x0_0_2_0, vI x0_0_2_1, .slice A0_0_2_2 l0_0_2_2.length c0_0_2_2, vI x0_0_3_0, vI x0_0_3_1_0, vI x0_0_3_1_1, .slice A0_0_3_1_2 l0_0_3_1_2.length c0_0_3_1_2, vI x0_0_3_2_0, vI x0_0_3_2_1, .slice A0_0_3_2_2 l0_0_3_2_2.length c0_0_3_2_2, .slice A0_0_4 l0_0_4.length c0_0_4, .slice A0_0_5 l0_0_5.length c0_0_5])] w := by
 simp only [punctualref_wrongStatement.p0] at h
 refine ws fun K4 hK4 => ?_
 refine wr [(0, 0), (1, 0), (2, 0), (3, 0), (4, 0), (5, 0), (6, 0), (7, 0)] ?_
 refine gb [0, 1, 2, 3] [(19, .bool (decide (x0_0_0 < 1))), (18, .bool (decide (x0_0_0 < 1))), (17, vI x0_0_0), (16, pP b2 0)] [.loaded ⟨b2, 0, none⟩ (vI x0_0_0)] ⟨hS.c 0, trivial⟩ ?_
 by_cases hc1 : x0_0_0 < 1
 ·rw [if_pos hc1] at h
  refine gk 19 (decide (x0_0_0 < 1)) true (decide_eq_true hc1) ?_
  refine gb0 [4, 5, 6, 7] [(23, .bool true), (22, undef), (21, undef), (20, undef)] ?_
  refine gn hK4 ?_
  refine we_true (by kernel_rfl) ?_
  refine ws fun K5 hK5 => ?_
  refine wr [(0, 0)] ?_
  refine gb0 [0] [(2, vI 6)] ?_
  refine gn hK5 ?_
  have hS5 := hS.takeN 0
  obtain rfl := si h
  exact we_ret fun a hF => hQ _ _ _ (Outs.out nofun ⟨rfl, (pr0 [.tmp 2] [vI 6] ⟨rfl, hS5⟩) a hF⟩)
 ·rw [if_neg hc1] at h
  refine gk 19 (decide (x0_0_0 < 1)) false (decide_eq_false hc1) ?_
  refine gb [4, 5, 6, 7] [(23, .bool (decide (x0_0_0 > 7))), (22, .bool (decide (x0_0_0 > 7))), (21, vI x0_0_0), (20, pP b2 0)] [.loaded ⟨b2, 0, none⟩ (vI x0_0_0)] ⟨hS.c 0, trivial⟩ ?_
  refine gn hK4 ?_
  by_cases hc2 : x0_0_0 > 7
  ·rw [if_pos hc2] at h
   refine wk 23 (decide (x0_0_0 > 7)) true (decide_eq_true hc2) ?_
   refine we_true (by kernel_rfl) ?_
   refine ws fun K6 hK6 => ?_
   refine wr [(0, 0)] ?_
   refine gb0 [0] [(2, vI 6)] ?_
   refine gn hK6 ?_
   have hS6 := hS.takeN 0
   obtain rfl := si h
   exact we_ret fun a hF => hQ _ _ _ (Outs.out nofun ⟨rfl, (pr0 [.tmp 2] [vI 6] ⟨rfl, hS6⟩) a hF⟩)
  ·rw [if_neg hc2] at h
   refine wk 23 (decide (x0_0_0 > 7)) false (decide_eq_false hc2) ?_
   refine we_false (by kernel_rfl) ?_
   have hS7 := hS.bring 1 rfl
   have hS8 := hS7.bring 1 rfl
   obtain rfl := si h
   exact we_skip fun a hF => hQ _ _ _ (Outs.again ⟨hS8, hF.weaken ea⟩)
abbrev punctualref_wrongStatement.A1 (w0 : World) (x0_0_0 : Int) (x0_0_1 : Int) (x0_0_2_0 : Int) (x0_0_2_1 : Int) (l0_0_2_2 : List SExpr) (A0_0_2_2 : Option Addr) (c0_0_2_2 : Nat) (x0_0_3_0 : Int) (x0_0_3_1_0 : Int) (x0_0_3_1_1 : Int) (l0_0_3_1_2 : List SExpr) (A0_0_3_1_2 : Option Addr) (c0_0_3_1_2 : Nat) (x0_0_3_2_0 : Int) (x0_0_3_2_1 : Int) (l0_0_3_2_2 : List SExpr) (A0_0_3_2_2 : Option Addr) (c0_0_3_2_2 : Nat) (l0_0_4 : List SStmt) (A0_0_4 : Option Addr) (c0_0_4 : Nat) (l0_0_5 : List SStmt) (A0_0_5 : Option Addr) (c0_0_5 : Nat) (x0_1 : Int) (l0_2 : List Int) (A0_2 : Option Addr) (c0_2 : Nat) (b1 : Nat) (b2 : Nat) : Unit → Act → World → Prop := fun (s : Unit) a w => St w0 w [Own.blk b2 (.cells #[vI x0_0_0, vI x0_0_1, vI x0_0_2_0, vI x0_0_2_1, .slice A0_0_2_2 l0_0_2_2.length c0_0_2_2, vI x0_0_3_0, vI x0_0_3_1_0, vI x0_0_3_1_1, .slice A0_0_3_1_2 l0_0_3_1_2.length c0_0_3_1_2, vI x0_0_3_2_0, vI x0_0_3_2_1, .slice A0_0_3_2_2 l0_0_3_2_2.length c0_0_3_2_2, .slice A0_0_4 l0_0_4.length c0_0_4, .slice A0_0_5 l0_0_5.length c0_0_5] 49 (0, 0)), Own.blk b1 (.cells #[vI x0_0_0, vI x0_0_1, vI x0_0_2_0, vI x0_0_2_1, .slice A0_0_2_2 l0_0_2_2.length c0_0_2_2, vI x0_0_3_0, vI x0_0_3_1_0, vI x0_0_3_1_1, .slice A0_0_3_1_2 l0_0_3_1_2.length c0_0_3_1_2, vI x0_0_3_2_0, vI x0_0_3_2_1, .slice A0_0_3_2_2 l0_0_3_2_2.length c0_0_3_2_2, .slice A0_0_4 l0_0_4.length c0_0_4, .slice A0_0_5 l0_0_5.length c0_0_5, vI x0_1, .slice A0_2 l0_2.length c0_2] 99 (0, 0))] ∧ Frm 170 a [(1, pP b1 0), (3, pP b2 0)]
abbrev punctualref_wrongStatement.B1 (w0 : World) : Int → Exit → Act → World → Prop := Rets Try.prog Try.f55 (punctualref_wrongStatement.Post w0)
theorem punctualref_wrongStatement_p1 (K : Nat) (w0 : World) (Z : Zone) (x0_0_0 : Int) (x0_0_1 : Int) (x0_0_2_0 : Int) (x0_0_2_1 : Int) (l0_0_2_2 : List SExpr) (A0_0_2_2 : Option Addr) (c0_0_2_2 : Nat) (x0_0_3_0 : Int) (x0_0_3_1_0 : Int) (x0_0_3_1_1 : Int) (l0_0_3_1_2 : List SExpr) (A0_0_3_1_2 : Option Addr) (c0_0_3_1_2 : Nat) (x0_0_3_2_0 : Int) (x0_0_3_2_1 : Int) (l0_0_3_2_2 : List SExpr) (A0_0_3_2_2 : Option Addr) (c0_0_3_2_2 : Nat) (l0_0_4 : List SStmt) (A0_0_4 : Option Addr) (c0_0_4 : Nat) (l0_0_5 : List SStmt) (A0_0_5 : Option Addr) (c0_0_5 : Nat) (x0_1 : Int) (l0_2 : List Int) (A0_2 : Option Addr) (c0_2 : Nat) (hZ : ∀ w, Sub w0 w → Z w) (hR0_0_2_2 : RdZ Z A0_0_2_2 l0_0_2_2) (hL0_0_2_2 : l0_0_2_2.length ≤ c0_0_2_2) (hR0_0_3_1_2 : RdZ Z A0_0_3_1_2 l0_0_3_1_2) (hL0_0_3_1_2 : l0_0_3_1_2.length ≤ c0_0_3_1_2) (hR0_0_3_2_2 : RdZ Z A0_0_3_2_2 l0_0_3_2_2) (hL0_0_3_2_2 : l0_0_3_2_2.length ≤ c0_0_3_2_2) (hR0_0_4 : RdZ Z A0_0_4 l0_0_4) (hL0_0_4 : l0_0_4.length ≤ c0_0_4) (hR0_0_5 : RdZ Z A0_0_5 l0_0_5) (hL0_0_5 : l0_0_5.length ≤ c0_0_5) (hR0_2 : RdL w0 A0_2 l0_2) (hL0_2 : l0_2.length ≤ c0_2) (b1 : Nat) (b2 : Nat) (b3 : Nat) (hc3 : 0 ≤ x0_0_0) (e1 : Int) (hx4 : ([0, 0, 0, 0, 0, 0, 0, 1] : List Int)[(x0_0_0).toNat]? = some e1) (b4 : Nat) (e2 : Int) (hx6 : ([0, 7, 3, 0, 1000, 1000, 3, 1000] : List Int)[(x0_0_0).toNat]? = some e2) (o : Unit ⊕ Int) (h : punctualref_wrongStatement.p1 x0_0_1 e1 e2 = some o) (w : World) (hS : St w0 w [Own.blk b4 (.cells #[vI 0, vI 7, vI 3, vI 0, vI 1000, vI 1000, vI 3, vI 1000] 3 (0, 0)), Own.blk b3 (.cells #[vI 0, vI 0, vI 0, vI 0, vI 0, vI 0, vI 0, vI 1] 3 (0, 0)), Own.blk b2 (.cells #[vI x0_0_0, vI x0_0_1, vI x0_0_2_0, vI x0_0_2_1, .slice A0_0_2_2 l0_0_2_2.length c0_0_2_2, vI x0_0_3_0, vI x0_0_3_1_0, vI x0_0_3_1_1, .slice A0_0_3_1_2 l0_0_3_1_2.length c0_0_3_1_2, vI x0_0_3_2_0, vI x0_0_3_2_1, .slice A0_0_3_2_2 l0_0_3_2_2.length c0_0_3_2_2, .slice A0_0_4 l0_0_4.length c0_0_4, .slice A0_0_5 l0_0_5.length c0_0_5] 49 (0, 0)), Own.blk b1 (.cells #[vI x0_0_0, vI x0_0_1, vI x0_0_2_0, vI x0_0_2_1, .slice A0_0_2_2 l0_0_2_2.length c0_0_2_2, vI x0_0_3_0, vI x0_0_3_1_0, vI x0_0_3_1_1, .slice A0_0_3_1_2 l0_0_3_1_2.length c0_0_3_1_2, vI x0_0_3_2_0, vI x0_0_3_2_1, .slice A0_0_3_2_2 l0_0_3_2_2.length c0_0_3_2_2, .slice A0_0_4 l0_0_4.length c0_0_4, .slice A0_0_5 l0_0_5.length c0_0_5, vI x0_1, .slice A0_2 l0_2.length c0_2] 99 (0, 0))]) (Q : Exit → Act → World → Prop) (hQ : ∀ x a w, Outs (punctualref_wrongStatement.A1 w0 x0_0_0 x0_0_1 x0_0_2_0 x0_0_2_1 l0_0_2_2 A0_0_2_2 c0_0_2_2 x0_0_3_0 x0_0_3_1_0 x0_0_3_1_1 l0_0_3_1_2 A0_0_3_1_2 c0_0_3_1_2 x0_0_3_2_0 x0_0_3_2_1 l0_0_3_2_2 A0_0_3_2_2 c0_0_3_2_2 l0_0_4 A0_0_4 c0_0_4 l0_0_5 A0_0_5 c0_0_5 x0_1 l0_2 A0_2 c0_2 b1 b2) (punctualref_wrongStatement.B1 w0) o x a w → Q x a w) : WE Try.prog 170 (subF Try.f55 [1, 1, 1, 1, 1, 0]) Q [(1, pP b1 0), (3, pP b2 0), (4, vI e1), (5, vI e2), (24, .slice (some ⟨b3, 0, none⟩) 8 8), (25, pP b2 0), (26, vI x0_0_0), (27, .pointer (some ⟨blkOf (some ⟨b3, 0, none⟩), offOf (some ⟨b3, 0, none⟩) + (x0_0_0).toNat * 1, none⟩)), (28, vI e1), (29, .slice (some ⟨b4, 0, none⟩) 8 8), (30, pP b2 0), (31, vI x0_0_0), (32, .pointer (some ⟨blkOf (some ⟨b4, 0, none⟩), offOf (some ⟨b4, 0, none⟩) + (x0_0_0).toNat * 1, none⟩)), (33, vI e2)] w := by
 simp only [punctualref_wrongStatement.p1] at h
 refine ws fun K10 hK10 => ?_
 refine wr [(0, 0), (1, 0), (2, 0), (3, 0), (4, 0), (5, 0), (6, 0), (7, 0), (8, 0), (9, 0)] ?_
 refine gb [0, 1, 2, 3, 4] [(38, .bool (decide (x0_0_1 < e1))), (37, .bool (decide (x0_0_1 < e1))), (36, vI e1), (35, vI x0_0_1), (34, pP b2 1)] [.loaded ⟨b2, 1, none⟩ (vI x0_0_1)] ⟨hS.c 2, trivial⟩ ?_
 by_cases hc4 : x0_0_1 < e1
 ·rw [if_pos hc4] at h
  refine gk 38 (decide (x0_0_1 < e1)) true (decide_eq_true hc4) ?_
  refine gb0 [5, 6, 7, 8, 9] [(43, .bool true), (42, undef), (41, undef), (40, undef), (39, undef)] ?_
  refine gn hK10 ?_
  refine we_true (by kernel_rfl) ?_
  refine ws fun K11 hK11 => ?_
  refine wr [(0, 0)] ?_
  refine gb0 [0] [(2, vI 3)] ?_
  refine gn hK11 ?_
  have hS12 := hS.takeN 0
  obtain rfl := si h
  exact we_ret fun a hF => hQ _ _ _ (Outs.out nofun ⟨rfl, (pr0 [.tmp 2] [vI 3] ⟨rfl, hS12⟩) a hF⟩)
 ·rw [if_neg hc4] at h
  refine gk 38 (decide (x0_0_1 < e1)) false (decide_eq_false hc4) ?_
  refine gb [5, 6, 7, 8, 9] [(43, .bool (decide (x0_0_1 > e2))), (42, .bool (decide (x0_0_1 > e2))), (41, vI e2), (40, vI x0_0_1), (39, pP b2 1)] [.loaded ⟨b2, 1, none⟩ (vI x0_0_1)] ⟨hS.c 2, trivial⟩ ?_
  refine gn hK10 ?_
  by_cases hc5 : x0_0_1 > e2
  ·rw [if_pos hc5] at h
   refine wk 43 (decide (x0_0_1 > e2)) true (decide_eq_true hc5) ?_
   refine we_true (by kernel_rfl) ?_
   refine ws fun K12 hK12 => ?_
   refine wr [(0, 0)] ?_
   refine gb0 [0] [(2, vI 3)] ?_
   refine gn hK12 ?_
   have hS13 := hS.takeN 0
   obtain rfl := si h
   exact we_ret fun a hF => hQ _ _ _ (Outs.out nofun ⟨rfl, (pr0 [.tmp 2] [vI 3] ⟨rfl, hS13⟩) a hF⟩)
  ·rw [if_neg hc5] at h
   refine wk 43 (decide (x0_0_1 > e2)) false (decide_eq_false hc5) ?_
   refine we_false (by kernel_rfl) ?_
   have hS14 := hS.bring 3 rfl
   have hS15 := hS14.bring 3 rfl
   have hS16 := hS15.takeN 2
   obtain rfl := si h
   exact we_skip fun a hF => hQ _ _ _ (Outs.again ⟨hS16, hF.weaken ea⟩)
abbrev punctualref_wrongStatement.A2 (w0 : World) (x0_0_0 : Int) (x0_0_1 : Int) (x0_0_2_0 : Int) (x0_0_2_1 : Int) (l0_0_2_2 : List SExpr) (A0_0_2_2 : Option Addr) (c0_0_2_2 : Nat) (x0_0_3_0 : Int) (x0_0_3_1_0 : Int) (x0_0_3_1_1 : Int) (l0_0_3_1_2 : List SExpr) (A0_0_3_1_2 : Option Addr) (c0_0_3_1_2 : Nat) (x0_0_3_2_0 : Int) (x0_0_3_2_1 : Int) (l0_0_3_2_2 : List SExpr) (A0_0_3_2_2 : Option Addr) (c0_0_3_2_2 : Nat) (l0_0_4 : List SStmt) (A0_0_4 : Option Addr) (c0_0_4 : Nat) (l0_0_5 : List SStmt) (A0_0_5 : Option Addr) (c0_0_5 : Nat) (x0_1 : Int) (l0_2 : List Int) (A0_2 : Option Addr) (c0_2 : Nat) (b1 : Nat) (b2 : Nat) : Bool → Act → World → Prop := fun (s : Bool) a w => St w0 w [Own.blk b2 (.cells #[vI x0_0_0, vI x0_0_1, vI x0_0_2_0, vI x0_0_2_1, .slice A0_0_2_2 l0_0_2_2.length c0_0_2_2, vI x0_0_3_0, vI x0_0_3_1_0, vI x0_0_3_1_1, .slice A0_0_3_1_2 l0_0_3_1_2.length c0_0_3_1_2, vI x0_0_3_2_0, vI x0_0_3_2_1, .slice A0_0_3_2_2 l0_0_3_2_2.length c0_0_3_2_2, .slice A0_0_4 l0_0_4.length c0_0_4, .slice A0_0_5 l0_0_5.length c0_0_5] 49 (0, 0)), Own.blk b1 (.cells #[vI x0_0_0, vI x0_0_1, vI x0_0_2_0, vI x0_0_2_1, .slice A0_0_2_2 l0_0_2_2.length c0_0_2_2, vI x0_0_3_0, vI x0_0_3_1_0, vI x0_0_3_1_1, .slice A0_0_3_1_2 l0_0_3_1_2.length c0_0_3_1_2, vI x0_0_3_2_0, vI x0_0_3_2_1, .slice A0_0_3_2_2 l0_0_3_2_2.length c0_0_3_2_2, .slice A0_0_4 l0_0_4.length c0_0_4, .slice A0_0_5 l0_0_5.length c0_0_5, vI x0_1, .slice A0_2 l0_2.length c0_2] 99 (0, 0))] ∧ Frm 170 a [(1, pP b1 0), (3, pP b2 0), (6, .bool s)]
abbrev punctualref_wrongStatement.B2 (w0 : World) : Int → Exit → Act → World → Prop := Rets Try.prog Try.f55 (punctualref_wrongStatement.Post w0)
theorem punctualref_wrongStatement_p2 (K : Nat) (w0 : World) (Z : Zone) (x0_0_0 : Int) (x0_0_1 : Int) (x0_0_2_0 : Int) (x0_0_2_1 : Int) (l0_0_2_2 : List SExpr) (A0_0_2_2 : Option Addr) (c0_0_2_2 : Nat) (x0_0_3_0 : Int) (x0_0_3_1_0 : Int) (x0_0_3_1_1 : Int) (l0_0_3_1_2 : List SExpr) (A0_0_3_1_2 : Option Addr) (c0_0_3_1_2 : Nat) (x0_0_3_2_0 : Int) (x0_0_3_2_1 : Int) (l0_0_3_2_2 : List SExpr) (A0_0_3_2_2 : Option Addr) (c0_0_3_2_2 : Nat) (l0_0_4 : List SStmt) (A0_0_4 : Option Addr) (c0_0_4 : Nat) (l0_0_5 : List SStmt) (A0_0_5 : Option Addr) (c0_0_5 : Nat) (x0_1 : Int) (l0_2 : List Int) (A0_2 : Option Addr) (c0_2 : Nat) (hZ : ∀ w, Sub w0 w → Z w) (hR0_0_2_2 : RdZ Z A0_0_2_2 l0_0_2_2) (hL0_0_2_2 : l0_0_2_2.length ≤ c0_0_2_2) (hR0_0_3_1_2 : RdZ Z A0_0_3_1_2 l0_0_3_1_2) (hL0_0_3_1_2 : l0_0_3_1_2.length ≤ c0_0_3_1_2) (hR0_0_3_2_2 : RdZ Z A0_0_3_2_2 l0_0_3_2_2) (hL0_0_3_2_2 : l0_0_3_2_2.length ≤ c0_0_3_2_2) (hR0_0_4 : RdZ Z A0_0_4 l0_0_4) (hL0_0_4 : l0_0_4.length ≤ c0_0_4) (hR0_0_5 : RdZ Z A0_0_5 l0_0_5) (hL0_0_5 : l0_0_5.length ≤ c0_0_5) (hR0_2 : RdL w0 A0_2 l0_2) (hL0_2 : l0_2.length ≤ c0_2) (b1 : Nat) (b2 : Nat) (b3 : Nat) (hc3 : 0 ≤ x0_0_0) (e1 : Int) (hx4 : ([0, 0, 0, 0, 0, 0, 0, 1] : List Int)[(x0_0_0).toNat]? = some e1) (b4 : Nat) (e2 : Int) (hx6 : ([0, 7, 3, 0, 1000, 1000, 3, 1000] : List Int)[(x0_0_0).toNat]? = some e2) (o : Bool ⊕ Int) (h : punctualref_wrongStatement.p2 x0_0_0 = some o) (w : World) (hS : St w0 w [Own.blk b2 (.cells #[vI x0_0_0, vI x0_0_1, vI x0_0_2_0, vI x0_0_2_1, .slice A0_0_2_2 l0_0_2_2.length c0_0_2_2, vI x0_0_3_0, vI x0_0_3_1_0, vI x0_0_3_1_1, .slice A0_0_3_1_2 l0_0_3_1_2.length c0_0_3_1_2, vI x0_0_3_2_0, vI x0_0_3_2_1, .slice A0_0_3_2_2 l0_0_3_2_2.length c0_0_3_2_2, .slice A0_0_4 l0_0_4.length c0_0_4, .slice A0_0_5 l0_0_5.length c0_0_5] 49 (0, 0)), Own.blk b1 (.cells #[vI x0_0_0, vI x0_0_1, vI x0_0_2_0, vI x0_0_2_1, .slice A0_0_2_2 l0_0_2_2.length c0_0_2_2, vI x0_0_3_0, vI x0_0_3_1_0, vI x0_0_3_1_1, .slice A0_0_3_1_2 l0_0_3_1_2.length c0_0_3_1_2, vI x0_0_3_2_0, vI x0_0_3_2_1, .slice A0_0_3_2_2 l0_0_3_2_2.length c0_0_3_2_2, .slice A0_0_4 l0_0_4.length c0_0_4, .slice A0_0_5 l0_0_5.length c0_0_5, vI x0_1, .slice A0_2 l0_2.length c0_2] 99 (0, 0))]) (Q : Exit → Act → World → Prop) (hQ : ∀ x a w, Outs (punctualref_wrongStatement.A2 w0 x0_0_0 x0_0_1 x0_0_2_0 x0_0_2_1 l0_0_2_2 A0_0_2_2 c0_0_2_2 x0_0_3_0 x0_0_3_1_0 x0_0_3_1_1 l0_0_3_1_2 A0_0_3_1_2 c0_0_3_1_2 x0_0_3_2_0 x0_0_3_2_1 l0_0_3_2_2 A0_0_3_2_2 c0_0_3_2_2 l0_0_4 A0_0_4 c0_0_4 l0_0_5 A0_0_5 c0_0_5 x0_1 l0_2 A0_2 c0_2 b1 b2) (punctualref_wrongStatement.B2 w0) o x a w → Q x a w) : WE Try.prog 170 (subF Try.f55 [1, 1, 1, 1, 1, 1, 0]) Q [(1, pP b1 0), (3, pP b2 0)] w := by
 simp only [punctualref_wrongStatement.p2] at h
 refine wr [(0, 0), (1, 0), (2, 0), (3, 0), (4, 0), (5, 0), (6, 0), (7, 0), (8, 0)] ?_
 refine gb [0, 1, 2, 3] [(47, .bool (x0_0_0 == 1)), (46, .bool (x0_0_0 == 1)), (45, vI x0_0_0), (44, pP b2 0)] [.loaded ⟨b2, 0, none⟩ (vI x0_0_0)] ⟨hS.c 0, trivial⟩ ?_
 by_cases hc6 : x0_0_0 = 1
 ·rw [if_pos hc6] at h
  refine gk 47 (x0_0_0 == 1) true (beq_iff_eq.2 hc6) ?_
  refine gb0 [4, 5, 6, 7, 8] [(6, .bool true), (51, .bool true), (50, undef), (49, undef), (48, undef)] ?_
  have hS18 := hS.bring 1 rfl
  have hS19 := hS18.bring 1 rfl
  obtain rfl := si h
  exact ge_nil fun a hF => hQ _ _ _ (Outs.again ⟨hS19, hF.weaken ea⟩)
 ·rw [if_neg hc6] at h
  refine gk 47 (x0_0_0 == 1) false (beq_eq_false_iff_ne.2 hc6) ?_
  refine gb [4, 5, 6, 7, 8] [(6, .bool (x0_0_0 == 2)), (51, .bool (x0_0_0 == 2)), (50, .bool (x0_0_0 == 2)), (49, vI x0_0_0), (48, pP b2 0)] [.loaded ⟨b2, 0, none⟩ (vI x0_0_0)] ⟨hS.c 0, trivial⟩ ?_
  have hS20 := hS.bring 1 rfl
  have hS21 := hS20.bring 1 rfl
  obtain rfl := si h
  exact ge_nil fun a hF => hQ _ _ _ (Outs.again ⟨hS21, hF.weaken ea⟩)
abbrev punctualref_wrongStatement.A3 (w0 : World) (x0_0_0 : Int) (x0_0_1 : Int) (x0_0_2_0 : Int) (x0_0_2_1 : Int) (l0_0_2_2 : List SExpr) (A0_0_2_2 : Option Addr) (c0_0_2_2 : Nat) (x0_0_3_0 : Int) (x0_0_3_1_0 : Int) (x0_0_3_1_1 : Int) (l0_0_3_1_2 : List SExpr) (A0_0_3_1_2 : Option Addr) (c0_0_3_1_2 : Nat) (x0_0_3_2_0 : Int) (x0_0_3_2_1 : Int) (l0_0_3_2_2 : List SExpr) (A0_0_3_2_2 : Option Addr) (c0_0_3_2_2 : Nat) (l0_0_4 : List SStmt) (A0_0_4 : Option Addr) (c0_0_4 : Nat) (l0_0_5 : List SStmt) (A0_0_5 : Option Addr) (c0_0_5 : Nat) (x0_1 : Int) (l0_2 : List Int) (A0_2 : Option Addr) (c0_2 : Nat) (b1 : Nat) (b2 : Nat) (q2 : Bool) : Bool → Act → World → Prop := fun (s : Bool) a w => St w0 w [Own.blk b2 (.cells #[vI x0_0_0, vI x0_0_1, vI x0_0_2_0, vI x0_0_2_1, .slice A0_0_2_2 l0_0_2_2.length c0_0_2_2, vI x0_0_3_0, vI x0_0_3_1_0, vI x0_0_3_1_1, .slice A0_0_3_1_2 l0_0_3_1_2.length c0_0_3_1_2, vI x0_0_3_2_0, vI x0_0_3_2_1, .slice A0_0_3_2_2 l0_0_3_2_2.length c0_0_3_2_2, .slice A0_0_4 l0_0_4.length c0_0_4, .slice A0_0_5 l0_0_5.length c0_0_5] 49 (0, 0)), Own.blk b1 (.cells #[vI x0_0_0, vI x0_0_1, vI x0_0_2_0, vI x0_0_2_1, .slice A0_0_2_2 l0_0_2_2.length c0_0_2_2, vI x0_0_3_0, vI x0_0_3_1_0, vI x0_0_3_1_1, .slice A0_0_3_1_2 l0_0_3_1_2.length c0_0_3_1_2, vI x0_0_3_2_0, vI x0_0_3_2_1, .slice A0_0_3_2_2 l0_0_3_2_2.length c0_0_3_2_2, .slice A0_0_4 l0_0_4.length c0_0_4, .slice A0_0_5 l0_0_5.length c0_0_5, vI x0_1, .slice A0_2 l0_2.length c0_2] 99 (0, 0))] ∧ Frm 170 a [(1, pP b1 0), (3, pP b2 0), (6, .bool q2), (7, .bool s)]
abbrev punctualref_wrongStatement.B3 (w0 : World) : Int → Exit → Act → World → Prop := Rets Try.prog Try.f55 (punctualref_wrongStatement.Post w0)
theorem punctualref_wrongStatement_p3 (K : Nat) (w0 : World) (Z : Zone) (x0_0_0 : Int) (x0_0_1 : Int) (x0_0_2_0 : Int) (x0_0_2_1 : Int) (l0_0_2_2 : List SExpr) (A0_0_2_2 : Option Addr) (c0_0_2_2 : Nat) (x0_0_3_0 : Int) (x0_0_3_1_0 : Int) (x0_0_3_1_1 : Int) (l0_0_3_1_2 : List SExpr) (A0_0_3_1_2 : Option Addr) (c0_0_3_1_2 : Nat) (x0_0_3_2_0 : Int) (x0_0_3_2_1 : Int) (l0_0_3_2_2 : List SExpr) (A0_0_3_2_2 : Option Addr) (c0_0_3_2_2 : Nat) (l0_0_4 : List SStmt) (A0_0_4 : Option Addr) (c0_0_4 : Nat) (l0_0_5 : List SStmt) (A0_0_5 : Option Addr) (c0_0_5 : Nat) (x0_1 : Int) (l0_2 : List Int) (A0_2 : Option Addr) (c0_2 : Nat) (hZ : ∀ w, Sub w0 w → Z w) (hR0_0_2_2 : RdZ Z A0_0_2_2 l0_0_2_2) (hL0_0_2_2 : l0_0_2_2.length ≤ c0_0_2_2) (hR0_0_3_1_2 : RdZ Z A0_0_3_1_2 l0_0_3_1_2) (hL0_0_3_1_2 : l0_0_3_1_2.length ≤ c0_0_3_1_2) (hR0_0_3_2_2 : RdZ Z A0_0_3_2_2 l0_0_3_2_2) (hL0_0_3_2_2 : l0_0_3_2_2.length ≤ c0_0_3_2_2) (hR0_0_4 : RdZ Z A0_0_4 l0_0_4) (hL0_0_4 : l0_0_4.length ≤ c0_0_4) (hR0_0_5 : RdZ Z A0_0_5 l0_0_5) (hL0_0_5 : l0_0_5.length ≤ c0_0_5) (hR0_2 : RdL w0 A0_2 l0_2) (hL0_2 : l0_2.length ≤ c0_2) (b1 : Nat) (b2 : Nat) (b3 : Nat) (hc3 : 0 ≤ x0_0_0) (e1 : Int) (hx4 : ([0, 0, 0, 0, 0, 0, 0, 1] : List Int)[(x0_0_0).toNat]? = some e1) (b4 : Nat) (e2 : Int) (hx6 : ([0, 7, 3, 0, 1000, 1000, 3, 1000] : List Int)[(x0_0_0).toNat]? = some e2) (q2 : Bool) (o : Bool ⊕ Int) (h : punctualref_wrongStatement.p3 x0_0_0 = some o) (w : World) (hS : St w0 w [Own.blk b2 (.cells #[vI x0_0_0, vI x0_0_1, vI x0_0_2_0, vI x0_0_2_1, .slice A0_0_2_2 l0_0_2_2.length c0_0_2_2, vI x0_0_3_0, vI x0_0_3_1_0, vI x0_0_3_1_1, .slice A0_0_3_1_2 l0_0_3_1_2.length c0_0_3_1_2, vI x0_0_3_2_0, vI x0_0_3_2_1, .slice A0_0_3_2_2 l0_0_3_2_2.length c0_0_3_2_2, .slice A0_0_4 l0_0_4.length c0_0_4, .slice A0_0_5 l0_0_5.length c0_0_5] 49 (0, 0)), Own.blk b1 (.cells #[vI x0_0_0, vI x0_0_1, vI x0_0_2_0, vI x0_0_2_1, .slice A0_0_2_2 l0_0_2_2.length c0_0_2_2, vI x0_0_3_0, vI x0_0_3_1_0, vI x0_0_3_1_1, .slice A0_0_3_1_2 l0_0_3_1_2.length c0_0_3_1_2, vI x0_0_3_2_0, vI x0_0_3_2_1, .slice A0_0_3_2_2 l0_0_3_2_2.length c0_0_3_2_2, .slice A0_0_4 l0_0_4.length c0_0_4, .slice A0_0_5 l0_0_5.length c0_0_5, vI x0_1, .slice A0_2 l0_2.length c0_2] 99 (0, 0))]) (Q : Exit → Act → World → Prop) (hQ : ∀ x a w, Outs (punctualref_wrongStatement.A3 w0 x0_0_0 x0_0_1 x0_0_2_0 x0_0_2_1 l0_0_2_2 A0_0_2_2 c0_0_2_2 x0_0_3_0 x0_0_3_1_0 x0_0_3_1_1 l0_0_3_1_2 A0_0_3_1_2 c0_0_3_1_2 x0_0_3_2_0 x0_0_3_2_1 l0_0_3_2_2 A0_0_3_2_2 c0_0_3_2_2 l0_0_4 A0_0_4 c0_0_4 l0_0_5 A0_0_5 c0_0_5 x0_1 l0_2 A0_2 c0_2 b1 b2 q2) (punctualref_wrongStatement.B3 w0) o x a w → Q x a w) : WE Try.prog 170 (subF Try.f55 [1, 1, 1, 1, 1, 1, 1, 0]) Q [(1, pP b1 0), (3, pP b2 0), (6, .bool q2)] w := by
 simp only [punctualref_wrongStatement.p3] at h
 refine wr [(0, 0), (1, 0), (2, 0), (3, 0), (4, 0), (5, 0), (6, 0), (7, 0), (8, 0)] ?_
 refine gb [0, 1, 2, 3] [(55, .bool (x0_0_0 == 3)), (54, .bool (x0_0_0 == 3)), (53, vI x0_0_0), (52, pP b2 0)] [.loaded ⟨b2, 0, none⟩ (vI x0_0_0)] ⟨hS.c 0, trivial⟩ ?_
 by_cases hc7 : x0_0_0 = 3
 ·rw [if_pos hc7] at h
  refine gk 55 (x0_0_0 == 3) true (beq_iff_eq.2 hc7) ?_
  refine gb0 [4, 5, 6, 7, 8] [(7, .bool true), (59, .bool true), (58, undef), (57, undef), (56, undef)] ?_
  have hS23 := hS.bring 1 rfl
  have hS24 := hS23.bring 1 rfl
  obtain rfl := si h
  exact ge_nil fun a hF => hQ _ _ _ (Outs.again ⟨hS24, hF.weaken ea⟩)
 ·rw [if_neg hc7] at h
  refine gk 55 (x0_0_0 == 3) false (beq_eq_false_iff_ne.2 hc7) ?_
  refine gb [4, 5, 6, 7, 8] [(7, .bool (x0_0_0 == 5)), (59, .bool (x0_0_0 == 5)), (58, .bool (x0_0_0 == 5)), (57, vI x0_0_0), (56, pP b2 0)] [.loaded ⟨b2, 0, none⟩ (vI x0_0_0)] ⟨hS.c 0, trivial⟩ ?_
  have hS25 := hS.bring 1 rfl
  have hS26 := hS25.bring 1 rfl
  obtain rfl := si h
  exact ge_nil fun a hF => hQ _ _ _ (Outs.again ⟨hS26, hF.weaken ea⟩)
abbrev punctualref_wrongStatement.A4 (w0 : World) (x0_0_0 : Int) (x0_0_1 : Int) (x0_0_2_0 : Int) (x0_0_2_1 : Int) (l0_0_2_2 : List SExpr) (A0_0_2_2 : Option Addr) (c0_0_2_2 : Nat) (x0_0_3_0 : Int) (x0_0_3_1_0 : Int) (x0_0_3_1_1 : Int) (l0_0_3_1_2 : List SExpr) (A0_0_3_1_2 : Option Addr) (c0_0_3_1_2 : Nat) (x0_0_3_2_0 : Int) (x0_0_3_2_1 : Int) (l0_0_3_2_2 : List SExpr) (A0_0_3_2_2 : Option Addr) (c0_0_3_2_2 : Nat) (l0_0_4 : List SStmt) (A0_0_4 : Option Addr) (c0_0_4 : Nat) (l0_0_5 : List SStmt) (A0_0_5 : Option Addr) (c0_0_5 : Nat) (x0_1 : Int) (l0_2 : List Int) (A0_2 : Option Addr) (c0_2 : Nat) (b1 : Nat) (b2 : Nat) (q2 : Bool) (q4 : Bool) : Bool → Act → World → Prop := fun (s : Bool) a w => St w0 w [Own.blk b2 (.cells #[vI x0_0_0, vI x0_0_1, vI x0_0_2_0, vI x0_0_2_1, .slice A0_0_2_2 l0_0_2_2.length c0_0_2_2, vI x0_0_3_0, vI x0_0_3_1_0, vI x0_0_3_1_1, .slice A0_0_3_1_2 l0_0_3_1_2.length c0_0_3_1_2, vI x0_0_3_2_0, vI x0_0_3_2_1, .slice A0_0_3_2_2 l0_0_3_2_2.length c0_0_3_2_2, .slice A0_0_4 l0_0_4.length c0_0_4, .slice A0_0_5 l0_0_5.length c0_0_5] 49 (0, 0)), Own.blk b1 (.cells #[vI x0_0_0, vI x0_0_1, vI x0_0_2_0, vI x0_0_2_1, .slice A0_0_2_2 l0_0_2_2.length c0_0_2_2, vI x0_0_3_0, vI x0_0_3_1_0, vI x0_0_3_1_1, .slice A0_0_3_1_2 l0_0_3_1_2.length c0_0_3_1_2, vI x0_0_3_2_0, vI x0_0_3_2_1, .slice A0_0_3_2_2 l0_0_3_2_2.length c0_0_3_2_2, .slice A0_0_4 l0_0_4.length c0_0_4, .slice A0_0_5 l0_0_5.length c0_0_5, vI x0_1, .slice A0_2 l0_2.length c0_2] 99 (0, 0))] ∧ Frm 170 a [(1, pP b1 0), (3, pP b2 0), (6, .bool q2), (7, .bool q4), (8, .bool s)]
abbrev punctualref_wrongStatement.B4 (w0 : World) : Int → Exit → Act → World → Prop := Rets Try.prog Try.f55 (punctualref_wrongStatement.Post w0)
theorem punctualref_wrongStatement_p4 (K : Nat) (w0 : World) (Z : Zone) (x0_0_0 : Int) (x0_0_1 : Int) (x0_0_2_0 : Int) (x0_0_2_1 : Int) (l0_0_2_2 : List SExpr) (A0_0_2_2 : Option Addr) (c0_0_2_2 : Nat) (x0_0_3_0 : Int) (x0_0_3_1_0 : Int) (x0_0_3_1_1 : Int) (l0_0_3_1_2 : List SExpr) (A0_0_3_1_2 : Option Addr) (c0_0_3_1_2 : Nat) (x0_0_3_2_0 : Int) (x0_0_3_2_1 : Int) (l0_0_3_2_2 : List SExpr) (A0_0_3_2_2 : Option Addr) (c0_0_3_2_2 : Nat) (l0_0_4 : List SStmt) (A0_0_4 : Option Addr) (c0_0_4 : Nat) (l0_0_5 : List SStmt) (A0_0_5 : Option Addr) (c0_0_5 : Nat) (x0_1 : Int) (l0_2 : List Int) (A0_2 : Option Addr) (c0_2 : Nat) (hZ : ∀ w, Sub w0 w → Z w) (hR0_0_2_2 : RdZ Z A0_0_2_2 l0_0_2_2) (hL0_0_2_2 : l0_0_2_2.length ≤ c0_0_2_2) (hR0_0_3_1_2 : RdZ Z A0_0_3_1_2 l0_0_3_1_2) (hL0_0_3_1_2 : l0_0_3_1_2.length ≤ c0_0_3_1_2) (hR0_0_3_2_2 : RdZ Z A0_0_3_2_2 l0_0_3_2_2) (hL0_0_3_2_2 : l0_0_3_2_2.length ≤ c0_0_3_2_2) (hR0_0_4 : RdZ Z A0_0_4 l0_0_4) (hL0_0_4 : l0_0_4.length ≤ c0_0_4) (hR0_0_5 : RdZ Z A0_0_5 l0_0_5) (hL0_0_5 : l0_0_5.length ≤ c0_0_5) (hR0_2 : RdL w0 A0_2 l0_2) (hL0_2 : l0_2.length ≤ c0_2) (b1 : Nat) (b2 : Nat) (b3 : Nat) (hc3 : 0 ≤ x0_0_0) (e1 : Int) (hx4 : ([0, 0, 0, 0, 0, 0, 0, 1] : List Int)[(x0_0_0).toNat]? = some e1) (b4 : Nat) (e2 : Int) (hx6 : ([0, 7, 3, 0, 1000, 1000, 3, 1000] : List Int)[(x0_0_0).toNat]? = some e2) (q2 : Bool) (q4 : Bool) (o : Bool ⊕ Int) (h : punctualref_wrongStatement.p4 x0_0_0 = some o) (w : World) (hS : St w0 w [Own.blk b2 (.cells #[vI x0_0_0, vI x0_0_1, vI x0_0_2_0, vI x0_0_2_1, .slice A0_0_2_2 l0_0_2_2.length c0_0_2_2, vI x0_0_3_0, vI x0_0_3_1_0, vI x0_0_3_1_1, .slice A0_0_3_1_2 l0_0_3_1_2.length c0_0_3_1_2, vI x0_0_3_2_0, vI x0_0_3_2_1, .slice A0_0_3_2_2 l0_0_3_2_2.length c0_0_3_2_2, .slice A0_0_4 l0_0_4.length c0_0_4, .slice A0_0_5 l0_0_5.length c0_0_5] 49 (0, 0)), Own.blk b1 (.cells #[vI x0_0_0, vI x0_0_1, vI x0_0_2_0, vI x0_0_2_1, .slice A0_0_2_2 l0_0_2_2.length c0_0_2_2, vI x0_0_3_0, vI x0_0_3_1_0, vI x0_0_3_1_1, .slice A0_0_3_1_2 l0_0_3_1_2.length c0_0_3_1_2, vI x0_0_3_2_0, vI x0_0_3_2_1, .slice A0_0_3_2_2 l0_0_3_2_2.length c0_0_3_2_2, .slice A0_0_4 l0_0_4.length c0_0_4, .slice A0_0_5 l0_0_5.length c0_0_5, vI x0_1, .slice A0_2 l0_2.length c0_2] 99 (0, 0))]) (Q : Exit → Act → World → Prop) (hQ : ∀ x a w, Outs (punctualref_wrongStatement.A4 w0 x0_0_0 x0_0_1 x0_0_2_0 x0_0_2_1 l0_0_2_2 A0_0_2_2 c0_0_2_2 x0_0_3_0 x0_0_3_1_0 x0_0_3_1_1 l0_0_3_1_2 A0_0_3_1_2 c0_0_3_1_2 x0_0_3_2_0 x0_0_3_2_1 l0_0_3_2_2 A0_0_3_2_2 c0_0_3_2_2 l0_0_4 A0_0_4 c0_0_4 l0_0_5 A0_0_5 c0_0_5 x0_1 l0_2 A0_2 c0_2 b1 b2 q2 q4) (punctualref_wrongStatement.B4 w0) o x a w → Q x a w) : WE Try.prog 170 (subF Try.f55 [1, 1, 1, 1, 1, 1, 1, 1, 0]) Q [(1, pP b1 0), (3, pP b2 0), (6, .bool q2), (7, .bool q4)] w := by
 simp only [punctualref_wrongStatement.p4] at h
 refine wr [(0, 0), (1, 0), (2, 0), (3, 0), (4, 0), (5, 0), (6, 0), (7, 0), (8, 0)] ?_
 refine gb [0, 1, 2, 3] [(63, .bool (decide (x0_0_0 ≥ 3))), (62, .bool (decide (x0_0_0 ≥ 3))), (61, vI x0_0_0), (60, pP b2 0)] [.loaded ⟨b2, 0, none⟩ (vI x0_0_0)] ⟨hS.c 0, trivial⟩ ?_
 by_cases hc8 : x0_0_0 ≥ 3
 ·rw [if_pos hc8] at h
  refine gk 63 (decide (x0_0_0 ≥ 3)) true (decide_eq_true hc8) ?_
  refine gb [4, 5, 6, 7, 8] [(8, .bool (decide (x0_0_0 ≤ 6))), (67, .bool (decide (x0_0_0 ≤ 6))), (66, .bool (decide (x0_0_0 ≤ 6))), (65, vI x0_0_0), (64, pP b2 0)] [.loaded ⟨b2, 0, none⟩ (vI x0_0_0)] ⟨hS.c 0, trivial⟩ ?_
  have hS28 := hS.bring 1 rfl
  have hS29 := hS28.bring 1 rfl
  obtain rfl := si h
  exact ge_nil fun a hF => hQ _ _ _ (Outs.again ⟨hS29, hF.weaken ea⟩)
 ·rw [if_neg hc8] at h
  refine gk 63 (decide (x0_0_0 ≥ 3)) false (decide_eq_false hc8) ?_
  refine gb0 [4, 5, 6, 7, 8] [(8, .bool false), (67, .bool false), (66, undef), (65, undef), (64, undef)] ?_
  have hS30 := hS.bring 1 rfl
  have hS31 := hS30.bring 1 rfl
  obtain rfl := si h
  exact ge_nil fun a hF => hQ _ _ _ (Outs.again ⟨hS31, hF.weaken ea⟩)
abbrev punctualref_wrongStatement.A5 (w0 : World) (x0_0_0 : Int) (x0_0_1 : Int) (x0_0_2_0 : Int) (x0_0_2_1 : Int) (l0_0_2_2 : List SExpr) (A0_0_2_2 : Option Addr) (c0_0_2_2 : Nat) (x0_0_3_0 : Int) (x0_0_3_1_0 : Int) (x0_0_3_1_1 : Int) (l0_0_3_1_2 : List SExpr) (A0_0_3_1_2 : Option Addr) (c0_0_3_1_2 : Nat) (x0_0_3_2_0 : Int) (x0_0_3_2_1 : Int) (l0_0_3_2_2 : List SExpr) (A0_0_3_2_2 : Option Addr) (c0_0_3_2_2 : Nat) (l0_0_4 : List SStmt) (A0_0_4 : Option Addr) (c0_0_4 : Nat) (l0_0_5 : List SStmt) (A0_0_5 : Option Addr) (c0_0_5 : Nat) (x0_1 : Int) (l0_2 : List Int) (A0_2 : Option Addr) (c0_2 : Nat) (b1 : Nat) (b2 : Nat) (q2 : Bool) (q4 : Bool) (q6 : Bool) : Unit → Act → World → Prop := fun (s : Unit) a w => St w0 w [Own.blk b2 (.cells #[vI x0_0_0, vI x0_0_1, vI x0_0_2_0, vI x0_0_2_1, .slice A0_0_2_2 l0_0_2_2.length c0_0_2_2, vI x0_0_3_0, vI x0_0_3_1_0, vI x0_0_3_1_1, .slice A0_0_3_1_2 l0_0_3_1_2.length c0_0_3_1_2, vI x0_0_3_2_0, vI x0_0_3_2_1, .slice A0_0_3_2_2 l0_0_3_2_2.length c0_0_3_2_2, .slice A0_0_4 l0_0_4.length c0_0_4, .slice A0_0_5 l0_0_5.length c0_0_5] 49 (0, 0)), Own.blk b1 (.cells #[vI x0_0_0, vI x0_0_1, vI x0_0_2_0, vI x0_0_2_1, .slice A0_0_2_2 l0_0_2_2.length c0_0_2_2, vI x0_0_3_0, vI x0_0_3_1_0, vI x0_0_3_1_1, .slice A0_0_3_1_2 l0_0_3_1_2.length c0_0_3_1_2, vI x0_0_3_2_0, vI x0_0_3_2_1, .slice A0_0_3_2_2 l0_0_3_2_2.length c0_0_3_2_2, .slice A0_0_4 l0_0_4.length c0_0_4, .slice A0_0_5 l0_0_5.length c0_0_5, vI x0_1, .slice A0_2 l0_2.length c0_2] 99 (0, 0))] ∧ Frm 170 a [(1, pP b1 0), (3, pP b2 0), (6, .bool q2), (7, .bool q4), (8, .bool q6)]
abbrev punctualref_wrongStatement.B5 (w0 : World) : Int → Exit → Act → World → Prop := Rets Try.prog Try.f55 (punctualref_wrongStatement.Post w0)
theorem punctualref_wrongStatement_p5 (K : Nat) (w0 : World) (Z : Zone) (x0_0_0 : Int) (x0_0_1 : Int) (x0_0_2_0 : Int) (x0_0_2_1 : Int) (l0_0_2_2 : List SExpr) (A0_0_2_2 : Option Addr) (c0_0_2_2 : Nat) (x0_0_3_0 : Int) (x0_0_3_1_0 : Int) (x0_0_3_1_1 : Int) (l0_0_3_1_2 : List SExpr) (A0_0_3_1_2 : Option Addr) (c0_0_3_1_2 : Nat) (x0_0_3_2_0 : Int) (x0_0_3_2_1 : Int) (l0_0_3_2_2 : List SExpr) (A0_0_3_2_2 : Option Addr) (c0_0_3_2_2 : Nat) (l0_0_4 : List SStmt) (A0_0_4 : Option Addr) (c0_0_4 : Nat) (l0_0_5 : List SStmt) (A0_0_5 : Option Addr) (c0_0_5 : Nat) (x0_1 : Int) (l0_2 : List Int) (A0_2 : Option Addr) (c0_2 : Nat) (hZ : ∀ w, Sub w0 w → Z w) (hR0_0_2_2 : RdZ Z A0_0_2_2 l0_0_2_2) (hL0_0_2_2 : l0_0_2_2.length ≤ c0_0_2_2) (hR0_0_3_1_2 : RdZ Z A0_0_3_1_2 l0_0_3_1_2) (hL0_0_3_1_2 : l0_0_3_1_2.length ≤ c0_0_3_1_2) (hR0_0_3_2_2 : RdZ Z A0_0_3_2_2 l0_0_3_2_2) (hL0_0_3_2_2 : l0_0_3_2_2.length ≤ c0_0_3_2_2) (hR0_0_4 : RdZ Z A0_0_4 l0_0_4) (hL0_0_4 : l0_0_4.length ≤ c0_0_4) (hR0_0_5 : RdZ Z A0_0_5 l0_0_5) (hL0_0_5 : l0_0_5.length ≤ c0_0_5) (hR0_2 : RdL w0 A0_2 l0_2) (hL0_2 : l0_2.length ≤ c0_2) (b1 : Nat) (b2 : Nat) (b3 : Nat) (hc3 : 0 ≤ x0_0_0) (e1 : Int) (hx4 : ([0, 0, 0, 0, 0, 0, 0, 1] : List Int)[(x0_0_0).toNat]? = some e1) (b4 : Nat) (e2 : Int) (hx6 : ([0, 7, 3, 0, 1000, 1000, 3, 1000] : List Int)[(x0_0_0).toNat]? = some e2) (q2 : Bool) (q4 : Bool) (q6 : Bool) (o : Unit ⊕ Int) (h : punctualref_wrongStatement.p5 x0_0_2_0 x0_0_2_1 l0_0_2_2 q2 = some o) (w : World) (hS : St w0 w [Own.blk b2 (.cells #[vI x0_0_0, vI x0_0_1, vI x0_0_2_0, vI x0_0_2_1, .slice A0_0_2_2 l0_0_2_2.length c0_0_2_2, vI x0_0_3_0, vI x0_0_3_1_0, vI x0_0_3_1_1, .slice A0_0_3_1_2 l0_0_3_1_2.length c0_0_3_1_2, vI x0_0_3_2_0, vI x0_0_3_2_1, .slice A0_0_3_2_2 l0_0_3_2_2.length c0_0_3_2_2, .slice A0_0_4 l0_0_4.length c0_0_4, .slice A0_0_5 l0_0_5.length c0_0_5] 49 (0, 0)), Own.blk b1 (.cells #[vI x0_0_0, vI x0_0_1, vI x0_0_2_0, vI x0_0_2_1, .slice A0_0_2_2 l0_0_2_2.length c0_0_2_2, vI x0_0_3_0, vI x0_0_3_1_0, vI x0_0_3_1_1, .slice A0_0_3_1_2 l0_0_3_1_2.length c0_0_3_1_2, vI x0_0_3_2_0, vI x0_0_3_2_1, .slice A0_0_3_2_2 l0_0_3_2_2.length c0_0_3_2_2, .slice A0_0_4 l0_0_4.length c0_0_4, .slice A0_0_5 l0_0_5.length c0_0_5, vI x0_1, .slice A0_2 l0_2.length c0_2] 99 (0, 0))]) (Q : Exit → Act → World → Prop) (hQ : ∀ x a w, Outs (punctualref_wrongStatement.A5 w0 x0_0_0 x0_0_1 x0_0_2_0 x0_0_2_1 l0_0_2_2 A0_0_2_2 c0_0_2_2 x0_0_3_0 x0_0_3_1_0 x0_0_3_1_1 l0_0_3_1_2 A0_0_3_1_2 c0_0_3_1_2 x0_0_3_2_0 x0_0_3_2_1 l0_0_3_2_2 A0_0_3_2_2 c0_0_3_2_2 l0_0_4 A0_0_4 c0_0_4 l0_0_5 A0_0_5 c0_0_5 x0_1 l0_2 A0_2 c0_2 b1 b2 q2 q4 q6) (punctualref_wrongStatement.B5 w0) o x a w → Q x a w) : WE Try.prog 170 (subF Try.f55 [1, 1, 1, 1, 1, 1, 1, 1, 1, 0]) Q [(1, pP b1 0), (3, pP b2 0), (6, .bool q2), (7, .bool q4), (8, .bool q6)] w := by
 simp only [punctualref_wrongStatement.p5] at h
 refine ws fun K17 hK17 => ?_
 refine wr [(0, 0), (1, 0), (2, 0), (3, 0), (4, 0), (5, 1), (6, 0), (7, 0)] ?_
 refine gb0 [0, 1, 2] [(70, .bool (!q2)), (69, .bool (!q2)), (68, .bool q2)] ?_
 by_cases hc9 : q2 = true
 ·rw [if_pos hc9] at h
  refine gk 70 (!q2) false (congrArg (fun z => !z) hc9) ?_
  refine gb0 [3, 4] [(72, undef), (71, undef)] ?_
  refine ge_off rfl rfl rfl (by kernel_rfl) ?_
  refine gb0 [6, 7] [(75, .bool false), (74, undef)] ?_
  refine gn hK17 ?_
  refine we_false (by kernel_rfl) ?_
  have hS33 := hS.bring 1 rfl
  have hS34 := hS33.bring 1 rfl
  obtain rfl := si h
  exact we_skip fun a hF => hQ _ _ _ (Outs.again ⟨hS34, hF.weaken ea⟩)
 ·rw [if_neg hc9] at h
  refine gk 70 (!q2) true (congrArg (fun z => !z) (Bool.eq_false_iff.2 hc9)) ?_
  refine gb [3, 4] [(72, .agg #[vI x0_0_2_0, vI x0_0_2_1, .slice A0_0_2_2 l0_0_2_2.length c0_0_2_2]), (71, pP b2 2)] [.loaded ⟨b2, 2, none⟩ (vI x0_0_2_0), .loaded ⟨b2, 3, none⟩ (vI x0_0_2_1), .loaded ⟨b2, 4, none⟩ (.slice A0_0_2_2 l0_0_2_2.length c0_0_2_2)] ⟨hS.c 0, hS.c 0, hS.c 0, trivial⟩ ?_
  refine ge_call (d := some 73) (f := 78) (args := #[.agg #[vI x0_0_2_0, vI x0_0_2_1, .slice A0_0_2_2 l0_0_2_2.length c0_0_2_2]]) (by kernel_rfl) (punctualref_emptyExpr_ok Z x0_0_2_0 x0_0_2_1 l0_0_2_2 A0_0_2_2 c0_0_2_2 _ (fun w' k => (hZ w' (hS.subw.trans k))) hR0_0_2_2 hL0_0_2_2 _ rfl) ?_
  rintro _ w11 ⟨rfl, hS35⟩
  refine ⟨_, rfl, hS35.below, ?_⟩
  have hS36 := hS.call hS35
  refine gb0 [6, 7] [(75, .bool (!(punctualref_emptyExpr.f x0_0_2_0 x0_0_2_1 l0_0_2_2))), (74, .bool (!(punctualref_emptyExpr.f x0_0_2_0 x0_0_2_1 l0_0_2_2)))] ?_
  refine gn hK17 ?_
  by_cases hc10 : (punctualref_emptyExpr.f x0_0_2_0 x0_0_2_1 l0_0_2_2) = true
  ·rw [if_pos hc10] at h
   refine wk 75 (!(punctualref_emptyExpr.f x0_0_2_0 x0_0_2_1 l0_0_2_2)) false (congrArg (fun z => !z) hc10) ?_
   refine we_false (by kernel_rfl) ?_
   have hS37 := hS36.bring 1 rfl
   have hS38 := hS37.bring 1 rfl
   obtain rfl := si h
   exact we_skip fun a hF => hQ _ _ _ (Outs.again ⟨hS38, hF.weaken ea⟩)
  ·rw [if_neg hc10] at h
   refine wk 75 (!(punctualref_emptyExpr.f x0_0_2_0 x0_0_2_1 l0_0_2_2)) true (congrArg (fun z => !z) (Bool.eq_false_iff.2 hc10)) ?_
   refine we_true (by kernel_rfl) ?_
   refine ws fun K18 hK18 => ?_
   refine wr [(0, 0)] ?_
   refine gb0 [0] [(2, vI 6)] ?_
   refine gn hK18 ?_
   have hS39 := hS36.takeN 0
   obtain rfl := si h
   exact we_ret fun a hF => hQ _ _ _ (Outs.out nofun ⟨rfl, (pr0 [.tmp 2] [vI 6] ⟨rfl, hS39⟩) a hF⟩)
abbrev punctualref_wrongStatement.A6 (w0 : World) (x0_0_0 : Int) (x0_0_1 : Int) (x0_0_2_0 : Int) (x0_0_2_1 : Int) (l0_0_2_2 : List SExpr) (A0_0_2_2 : Option Addr) (c0_0_2_2 : Nat) (x0_0_3_0 : Int) (x0_0_3_1_0 : Int) (x0_0_3_1_1 : Int) (l0_0_3_1_2 : List SExpr) (A0_0_3_1_2 : Option Addr) (c0_0_3_1_2 : Nat) (x0_0_3_2_0 : Int) (x0_0_3_2_1 : Int) (l0_0_3_2_2 : List SExpr) (A0_0_3_2_2 : Option Addr) (c0_0_3_2_2 : Nat) (l0_0_4 : List SStmt) (A0_0_4 : Option Addr) (c0_0_4 : Nat) (l0_0_5 : List SStmt) (A0_0_5 : Option Addr) (c0_0_5 : Nat) (x0_1 : Int) (l0_2 : List Int) (A0_2 : Option Addr) (c0_2 : Nat) (b1 : Nat) (b2 : Nat) (q2 : Bool) (q4 : Bool) (q6 : Bool) : Unit → Act → World → Prop := fun (s : Unit) a w => St w0 w [Own.blk b2 (.cells #[vI x0_0_0, vI x0_0_1, vI x0_0_2_0, vI x0_0_2_1, .slice A0_0_2_2 l0_0_2_2.length c0_0_2_2, vI x0_0_3_0, vI x0_0_3_1_0, vI x0_0_3_1_1, .slice A0_0_3_1_2 l0_0_3_1_2.length c0_0_3_1_2, vI x0_0_3_2_0, vI x0_0_3_2_1, .slice A0_0_3_2_2 l0_0_3_2_2.length c0_0_3_2_2, .slice A0_0_4 l0_0_4.length c0_0_4, .slice A0_0_5 l0_0_5.length c0_0_5] 49 (0, 0)), Own.blk b1 (.cells #[vI x0_0_0, vI x0_0_1, vI x0_0_2_0, vI x0_0_2_1, .slice A0_0_2_2 l0_0_2_2.length c0_0_2_2, vI x0_0_3_0, vI x0_0_3_1_0, vI x0_0_3_1_1, .slice A0_0_3_1_2 l0_0_3_1_2.length c0_0_3_1_2, vI x0_0_3_2_0, vI x0_0_3_2_1, .slice A0_0_3_2_2 l0_0_3_2_2.length c0_0_3_2_2, .slice A0_0_4 l0_0_4.length c0_0_4, .slice A0_0_5 l0_0_5.length c0_0_5, vI x0_1, .slice A0_2 l0_2.length c0_2] 99 (0, 0))] ∧ Frm 170 a [(1, pP b1 0), (3, pP b2 0), (6, .bool q2), (7, .bool q4), (8, .bool q6)]
abbrev punctualref_wrongStatement.B6 (w0 : World) : Int → Exit → Act → World → Prop := Rets Try.prog Try.f55 (punctualref_wrongStatement.Post w0)
theorem punctualref_wrongStatement_p6 (K : Nat) (w0 : World) (Z : Zone) (x0_0_0 : Int) (x0_0_1 : Int) (x0_0_2_0 : Int) (x0_0_2_1 : Int) (l0_0_2_2 : List SExpr) (A0_0_2_2 : Option Addr) (c0_0_2_2 : Nat) (x0_0_3_0 : Int) (x0_0_3_1_0 : Int) (x0_0_3_1_1 : Int) (l0_0_3_1_2 : List SExpr) (A0_0_3_1_2 : Option Addr) (c0_0_3_1_2 : Nat) (x0_0_3_2_0 : Int) (x0_0_3_2_1 : Int) (l0_0_3_2_2 : List SExpr) (A0_0_3_2_2 : Option Addr) (c0_0_3_2_2 : Nat) (l0_0_4 : List SStmt) (A0_0_4 : Option Addr) (c0_0_4 : Nat) (l0_0_5 : List SStmt) (A0_0_5 : Option Addr) (c0_0_5 : Nat) (x0_1 : Int) (l0_2 : List Int) (A0_2 : Option Addr) (c0_2 : Nat) (hZ : ∀ w, Sub w0 w → Z w) (hR0_0_2_2 : RdZ Z A0_0_2_2 l0_0_2_2) (hL0_0_2_2 : l0_0_2_2.length ≤ c0_0_2_2) (hR0_0_3_1_2 : RdZ Z A0_0_3_1_2 l0_0_3_1_2) (hL0_0_3_1_2 : l0_0_3_1_2.length ≤ c0_0_3_1_2) (hR0_0_3_2_2 : RdZ Z A0_0_3_2_2 l0_0_3_2_2) (hL0_0_3_2_2 : l0_0_3_2_2.length ≤ c0_0_3_2_2) (hR0_0_4 : RdZ Z A0_0_4 l0_0_4) (hL0_0_4 : l0_0_4.length ≤ c0_0_4) (hR0_0_5 : RdZ Z A0_0_5 l0_0_5) (hL0_0_5 : l0_0_5.length ≤ c0_0_5) (hR0_2 : RdL w0 A0_2 l0_2) (hL0_2 : l0_2.length ≤ c0_2) (b1 : Nat) (b2 : Nat) (b3 : Nat) (hc3 : 0 ≤ x0_0_0) (e1 : Int) (hx4 : ([0, 0, 0, 0, 0, 0, 0, 1] : List Int)[(x0_0_0).toNat]? = some e1) (b4 : Nat) (e2 : Int) (hx6 : ([0, 7, 3, 0, 1000, 1000, 3, 1000] : List Int)[(x0_0_0).toNat]? = some e2) (q2 : Bool) (q4 : Bool) (q6 : Bool) (o : Unit ⊕ Int) (h : punctualref_wrongStatement.p6 x0_0_3_0 x0_0_3_1_0 x0_0_3_1_1 l0_0_3_1_2 x0_0_3_2_0 x0_0_3_2_1 l0_0_3_2_2 q4 = some o) (w : World) (hS : St w0 w [Own.blk b2 (.cells #[vI x0_0_0, vI x0_0_1, vI x0_0_2_0, vI x0_0_2_1, .slice A0_0_2_2 l0_0_2_2.length c0_0_2_2, vI x0_0_3_0, vI x0_0_3_1_0, vI x0_0_3_1_1, .slice A0_0_3_1_2 l0_0_3_1_2.length c0_0_3_1_2, vI x0_0_3_2_0, vI x0_0_3_2_1, .slice A0_0_3_2_2 l0_0_3_2_2.length c0_0_3_2_2, .slice A0_0_4 l0_0_4.length c0_0_4, .slice A0_0_5 l0_0_5.length c0_0_5] 49 (0, 0)), Own.blk b1 (.cells #[vI x0_0_0, vI x0_0_1, vI x0_0_2_0, vI x0_0_2_1, .slice A0_0_2_2 l0_0_2_2.length c0_0_2_2, vI x0_0_3_0, vI x0_0_3_1_0, vI x0_0_3_1_1, .slice A0_0_3_1_2 l0_0_3_1_2.length c0_0_3_1_2, vI x0_0_3_2_0, vI x0_0_3_2_1, .slice A0_0_3_2_2 l0_0_3_2_2.length c0_0_3_2_2, .slice A0_0_4 l0_0_4.length c0_0_4, .slice A0_0_5 l0_0_5.length c0_0_5, vI x0_1, .slice A0_2 l0_2.length c0_2] 99 (0, 0))]) (Q : Exit → Act → World → Prop) (hQ : ∀ x a w, Outs (punctualref_wrongStatement.A6 w0 x0_0_0 x0_0_1 x0_0_2_0 x0_0_2_1 l0_0_2_2 A0_0_2_2 c0_0_2_2 x0_0_3_0 x0_0_3_1_0 x0_0_3_1_1 l0_0_3_1_2 A0_0_3_1_2 c0_0_3_1_2 x0_0_3_2_0 x0_0_3_2_1 l0_0_3_2_2 A0_0_3_2_2 c0_0_3_2_2 l0_0_4 A0_0_4 c0_0_4 l0_0_5 A0_0_5 c0_0_5 x0_1 l0_2 A0_2 c0_2 b1 b2 q2 q4 q6) (punctualref_wrongStatement.B6 w0) o x a w → Q x a w) : WE Try.prog 170 (subF Try.f55 [1, 1, 1, 1, 1, 1, 1, 1, 1, 1, 0]) Q [(1, pP b1 0), (3, pP b2 0), (6, .bool q2), (7, .bool q4), (8, .bool q6)] w := by
 simp only [punctualref_wrongStatement.p6] at h
 refine ws fun K20 hK20 => ?_
 refine wr [(0, 0), (1, 0), (2, 0), (3, 0), (4, 0), (5, 0), (6, 0), (7, 0), (8, 0), (9, 0), (10, 0), (11, 1), (12, 0), (13, 0), (14, 0), (15, 0), (16, 0), (17, 0), (18, 1), (19, 0), (20, 0), (21, 0)] ?_
 refine gb0 [0, 1, 2] [(78, .bool (!q4)), (77, .bool (!q4)), (76, .bool q4)] ?_
 by_cases hc11 : q4 = true
 ·rw [if_pos hc11] at h
  refine gk 78 (!q4) false (congrArg (fun z => !z) hc11) ?_
  refine gb0 [3, 4, 5, 6, 7, 8, 9, 10] [(86, undef), (85, undef), (84, undef), (83, undef), (82, undef), (81, undef), (80, undef), (79, undef)] ?_
  refine ge_off rfl rfl rfl (by kernel_rfl) ?_
  refine gb0 [12, 13, 14, 15, 16, 17] [(93, undef), (92, undef), (91, undef), (90, undef), (89, undef), (88, undef)] ?_
  refine ge_off rfl rfl rfl (by kernel_rfl) ?_
  refine gb0 [19, 20, 21] [(97, .bool false), (96, undef), (95, undef)] ?_
  refine gn hK20 ?_
  refine we_false (by kernel_rfl) ?_
  have hS41 := hS.bring 1 rfl
  have hS42 := hS41.bring 1 rfl
  obtain rfl := si h
  exact we_skip fun a hF => hQ _ _ _ (Outs.again ⟨hS42, hF.weaken ea⟩)
 ·rw [if_neg hc11] at h
  refine gk 78 (!q4) true (congrArg (fun z => !z) (Bool.eq_false_iff.2 hc11)) ?_
  refine gb [3, 4, 5, 6, 7] [(83, .bool (x0_0_3_0 != 0)), (82, .bool (x0_0_3_0 != 0)), (81, vI x0_0_3_0), (80, pP b2 5), (79, pP b2 5)] [.loaded ⟨b2, 5, none⟩ (vI x0_0_3_0)] ⟨hS.c 0, trivial⟩ ?_
  by_cases hc12 : x0_0_3_0 = 0
  ·rw [if_pos hc12] at h
   refine gk 83 (x0_0_3_0 != 0) false (bne_eq_false_iff_eq.2 hc12) ?_
   refine gb [8, 9, 10] [(86, .agg #[vI x0_0_3_1_0, vI x0_0_3_1_1, .slice A0_0_3_1_2 l0_0_3_1_2.length c0_0_3_1_2]), (85, pP b2 6), (84, pP b2 5)] [.loaded ⟨b2, 6, none⟩ (vI x0_0_3_1_0), .loaded ⟨b2, 7, none⟩ (vI x0_0_3_1_1), .loaded ⟨b2, 8, none⟩ (.slice A0_0_3_1_2 l0_0_3_1_2.length c0_0_3_1_2)] ⟨hS.c 0, hS.c 0, hS.c 0, trivial⟩ ?_
   refine ge_call (d := some 87) (f := 78) (args := #[.agg #[vI x0_0_3_1_0, vI x0_0_3_1_1, .slice A0_0_3_1_2 l0_0_3_1_2.length c0_0_3_1_2]]) (by kernel_rfl) (punctualref_emptyExpr_ok Z x0_0_3_1_0 x0_0_3_1_1 l0_0_3_1_2 A0_0_3_1_2 c0_0_3_1_2 _ (fun w' k => (hZ w' (hS.subw.trans k))) hR0_0_3_1_2 hL0_0_3_1_2 _ rfl) ?_
   rintro _ w13 ⟨rfl, hS43⟩
   refine ⟨_, rfl, hS43.below, ?_⟩
   have hS44 := hS.call hS43
   refine gb0 [12, 13, 14] [(90, .bool (!(punctualref_emptyExpr.f x0_0_3_1_0 x0_0_3_1_1 l0_0_3_1_2))), (89, .bool (!(punctualref_emptyExpr.f x0_0_3_1_0 x0_0_3_1_1 l0_0_3_1_2))), (88, .bool (!(punctualref_emptyExpr.f x0_0_3_1_0 x0_0_3_1_1 l0_0_3_1_2)))] ?_
   by_cases hc13 : (punctualref_emptyExpr.f x0_0_3_1_0 x0_0_3_1_1 l0_0_3_1_2) = true
   ·rw [if_pos hc13] at h
    refine gk 90 (!(punctualref_emptyExpr.f x0_0_3_1_0 x0_0_3_1_1 l0_0_3_1_2)) false (congrArg (fun z => !z) hc13) ?_
    refine gb [15, 16, 17] [(93, .agg #[vI x0_0_3_2_0, vI x0_0_3_2_1, .slice A0_0_3_2_2 l0_0_3_2_2.length c0_0_3_2_2]), (92, pP b2 9), (91, pP b2 5)] [.loaded ⟨b2, 9, none⟩ (vI x0_0_3_2_0), .loaded ⟨b2, 10, none⟩ (vI x0_0_3_2_1), .loaded ⟨b2, 11, none⟩ (.slice A0_0_3_2_2 l0_0_3_2_2.length c0_0_3_2_2)] ⟨hS44.c 0, hS44.c 0, hS44.c 0, trivial⟩ ?_
    refine ge_call (d := some 94) (f := 78) (args := #[.agg #[vI x0_0_3_2_0, vI x0_0_3_2_1, .slice A0_0_3_2_2 l0_0_3_2_2.length c0_0_3_2_2]]) (by kernel_rfl) (punctualref_emptyExpr_ok Z x0_0_3_2_0 x0_0_3_2_1 l0_0_3_2_2 A0_0_3_2_2 c0_0_3_2_2 _ (fun w' k => (hZ w' (hS44.subw.trans k))) hR0_0_3_2_2 hL0_0_3_2_2 _ rfl) ?_
    rintro _ w14 ⟨rfl, hS45⟩
    refine ⟨_, rfl, hS45.below, ?_⟩
    have hS46 := hS44.call hS45
    refine gb0 [19, 20, 21] [(97, .bool (!(punctualref_emptyExpr.f x0_0_3_2_0 x0_0_3_2_1 l0_0_3_2_2))), (96, .bool (!(punctualref_emptyExpr.f x0_0_3_2_0 x0_0_3_2_1 l0_0_3_2_2))), (95, .bool (!(punctualref_emptyExpr.f x0_0_3_2_0 x0_0_3_2_1 l0_0_3_2_2)))] ?_
    refine gn hK20 ?_
    by_cases hc14 : (punctualref_emptyExpr.f x0_0_3_2_0 x0_0_3_2_1 l0_0_3_2_2) = true
    ·rw [if_pos hc14] at h
     refine wk 97 (!(punctualref_emptyExpr.f x0_0_3_2_0 x0_0_3_2_1 l0_0_3_2_2)) false (congrArg (fun z => !z) hc14) ?_
     refine we_false (by kernel_rfl) ?_
     have hS47 := hS46.bring 1 rfl
     have hS48 := hS47.bring 1 rfl
     obtain rfl := si h
     exact we_skip fun a hF => hQ _ _ _ (Outs.again ⟨hS48, hF.weaken ea⟩)
    ·rw [if_neg hc14] at h
     refine wk 97 (!(punctualref_emptyExpr.f x0_0_3_2_0 x0_0_3_2_1 l0_0_3_2_2)) true (congrArg (fun z => !z) (Bool.eq_false_iff.2 hc14)) ?_
     refine we_true (by kernel_rfl) ?_
     refine ws fun K21 hK21 => ?_
     refine wr [(0, 0)] ?_
     refine gb0 [0] [(2, vI 6)] ?_
     refine gn hK21 ?_
     have hS49 := hS46.takeN 0
     obtain rfl := si h
     exact we_ret fun a hF => hQ _ _ _ (Outs.out nofun ⟨rfl, (pr0 [.tmp 2] [vI 6] ⟨rfl, hS49⟩) a hF⟩)
   ·rw [if_neg hc13] at h
    refine gk 90 (!(punctualref_emptyExpr.f x0_0_3_1_0 x0_0_3_1_1 l0_0_3_1_2)) true (congrArg (fun z => !z) (Bool.eq_false_iff.2 hc13)) ?_
    refine gb0 [15, 16, 17] [(93, undef), (92, undef), (91, undef)] ?_
    refine ge_off rfl rfl rfl (by kernel_rfl) ?_
    refine gb0 [19, 20, 21] [(97, .bool true), (96, .bool true), (95, undef)] ?_
    refine gn hK20 ?_
    refine we_true (by kernel_rfl) ?_
    refine ws fun K22 hK22 => ?_
    refine wr [(0, 0)] ?_
    refine gb0 [0] [(2, vI 6)] ?_
    refine gn hK22 ?_
    have hS50 := hS44.takeN 0
    obtain rfl := si h
    exact we_ret fun a hF => hQ _ _ _ (Outs.out nofun ⟨rfl, (pr0 [.tmp 2] [vI 6] ⟨rfl, hS50⟩) a hF⟩)
  ·rw [if_neg hc12] at h
   refine gk 83 (x0_0_3_0 != 0) true (bne_iff_ne.2 hc12) ?_
   refine gb0 [8, 9, 10] [(86, undef), (85, undef), (84, undef)] ?_
   refine ge_off rfl rfl rfl (by kernel_rfl) ?_
   refine gb0 [12, 13, 14, 15, 16, 17] [(93, undef), (92, undef), (91, undef), (90, .bool true), (89, .bool true), (88, undef)] ?_
   refine ge_off rfl rfl rfl (by kernel_rfl) ?_
   refine gb0 [19, 20, 21] [(97, .bool true), (96, .bool true), (95, undef)] ?_
   refine gn hK20 ?_
   refine we_true (by kernel_rfl) ?_
   refine ws fun K23 hK23 => ?_
   refine wr [(0, 0)] ?_
   refine gb0 [0] [(2, vI 6)] ?_
   refine gn hK23 ?_
   have hS51 := hS.takeN 0
   obtain rfl := si h
   exact we_ret fun a hF => hQ _ _ _ (Outs.out nofun ⟨rfl, (pr0 [.tmp 2] [vI 6] ⟨rfl, hS51⟩) a hF⟩)
abbrev punctualref_wrongStatement.A7 (w0 : World) (x0_0_0 : Int) (x0_0_1 : Int) (x0_0_2_0 : Int) (x0_0_2_1 : Int) (l0_0_2_2 : List SExpr) (A0_0_2_2 : Option Addr) (c0_0_2_2 : Nat) (x0_0_3_0 : Int) (x0_0_3_1_0 : Int) (x0_0_3_1_1 : Int) (l0_0_3_1_2 : List SExpr) (A0_0_3_1_2 : Option Addr) (c0_0_3_1_2 : Nat) (x0_0_3_2_0 : Int) (x0_0_3_2_1 : Int) (l0_0_3_2_2 : List SExpr) (A0_0_3_2_2 : Option Addr) (c0_0_3_2_2 : Nat) (l0_0_4 : List SStmt) (A0_0_4 : Option Addr) (c0_0_4 : Nat) (l0_0_5 : List SStmt) (A0_0_5 : Option Addr) (c0_0_5 : Nat) (x0_1 : Int) (l0_2 : List Int) (A0_2 : Option Addr) (c0_2 : Nat) (b1 : Nat) (b2 : Nat) (q2 : Bool) (q4 : Bool) (q6 : Bool) : Unit → Act → World → Prop := fun (s : Unit) a w => St w0 w [Own.blk b2 (.cells #[vI x0_0_0, vI x0_0_1, vI x0_0_2_0, vI x0_0_2_1, .slice A0_0_2_2 l0_0_2_2.length c0_0_2_2, vI x0_0_3_0, vI x0_0_3_1_0, vI x0_0_3_1_1, .slice A0_0_3_1_2 l0_0_3_1_2.length c0_0_3_1_2, vI x0_0_3_2_0, vI x0_0_3_2_1, .slice A0_0_3_2_2 l0_0_3_2_2.length c0_0_3_2_2, .slice A0_0_4 l0_0_4.length c0_0_4, .slice A0_0_5 l0_0_5.length c0_0_5] 49 (0, 0)), Own.blk b1 (.cells #[vI x0_0_0, vI x0_0_1, vI x0_0_2_0, vI x0_0_2_1, .slice A0_0_2_2 l0_0_2_2.length c0_0_2_2, vI x0_0_3_0, vI x0_0_3_1_0, vI x0_0_3_1_1, .slice A0_0_3_1_2 l0_0_3_1_2.length c0_0_3_1_2, vI x0_0_3_2_0, vI x0_0_3_2_1, .slice A0_0_3_2_2 l0_0_3_2_2.length c0_0_3_2_2, .slice A0_0_4 l0_0_4.length c0_0_4, .slice A0_0_5 l0_0_5.length c0_0_5, vI x0_1, .slice A0_2 l0_2.length c0_2] 99 (0, 0))] ∧ Frm 170 a [(1, pP b1 0), (3, pP b2 0), (6, .bool q2), (7, .bool q4), (8, .bool q6)]
abbrev punctualref_wrongStatement.B7 (w0 : World) : Int → Exit → Act → World → Prop := Rets Try.prog Try.f55 (punctualref_wrongStatement.Post w0)
theorem punctualref_wrongStatement_p7 (K : Nat) (w0 : World) (Z : Zone) (x0_0_0 : Int) (x0_0_1 : Int) (x0_0_2_0 : Int) (x0_0_2_1 : Int) (l0_0_2_2 : List SExpr) (A0_0_2_2 : Option Addr) (c0_0_2_2 : Nat) (x0_0_3_0 : Int) (x0_0_3_1_0 : Int) (x0_0_3_1_1 : Int) (l0_0_3_1_2 : List SExpr) (A0_0_3_1_2 : Option Addr) (c0_0_3_1_2 : Nat) (x0_0_3_2_0 : Int) (x0_0_3_2_1 : Int) (l0_0_3_2_2 : List SExpr) (A0_0_3_2_2 : Option Addr) (c0_0_3_2_2 : Nat) (l0_0_4 : List SStmt) (A0_0_4 : Option Addr) (c0_0_4 : Nat) (l0_0_5 : List SStmt) (A0_0_5 : Option Addr) (c0_0_5 : Nat) (x0_1 : Int) (l0_2 : List Int) (A0_2 : Option Addr) (c0_2 : Nat) (hZ : ∀ w, Sub w0 w → Z w) (hR0_0_2_2 : RdZ Z A0_0_2_2 l0_0_2_2) (hL0_0_2_2 : l0_0_2_2.length ≤ c0_0_2_2) (hR0_0_3_1_2 : RdZ Z A0_0_3_1_2 l0_0_3_1_2) (hL0_0_3_1_2 : l0_0_3_1_2.length ≤ c0_0_3_1_2) (hR0_0_3_2_2 : RdZ Z A0_0_3_2_2 l0_0_3_2_2) (hL0_0_3_2_2 : l0_0_3_2_2.length ≤ c0_0_3_2_2) (hR0_0_4 : RdZ Z A0_0_4 l0_0_4) (hL0_0_4 : l0_0_4.length ≤ c0_0_4) (hR0_0_5 : RdZ Z A0_0_5 l0_0_5) (hL0_0_5 : l0_0_5.length ≤ c0_0_5) (hR0_2 : RdL w0 A0_2 l0_2) (hL0_2 : l0_2.length ≤ c0_2) (b1 : Nat) (b2 : Nat) (b3 : Nat) (hc3 : 0 ≤ x0_0_0) (e1 : Int) (hx4 : ([0, 0, 0, 0, 0, 0, 0, 1] : List Int)[(x0_0_0).toNat]? = some e1) (b4 : Nat) (e2 : Int) (hx6 : ([0, 7, 3, 0, 1000, 1000, 3, 1000] : List Int)[(x0_0_0).toNat]? = some e2) (q2 : Bool) (q4 : Bool) (q6 : Bool) (o : Unit ⊕ Int) (h : punctualref_wrongStatement.p7 x0_0_0 l0_0_4 l0_0_5 q6 = some o) (w : World) (hS : St w0 w [Own.blk b2 (.cells #[vI x0_0_0, vI x0_0_1, vI x0_0_2_0, vI x0_0_2_1, .slice A0_0_2_2 l0_0_2_2.length c0_0_2_2, vI x0_0_3_0, vI x0_0_3_1_0, vI x0_0_3_1_1, .slice A0_0_3_1_2 l0_0_3_1_2.length c0_0_3_1_2, vI x0_0_3_2_0, vI x0_0_3_2_1, .slice A0_0_3_2_2 l0_0_3_2_2.length c0_0_3_2_2, .slice A0_0_4 l0_0_4.length c0_0_4, .slice A0_0_5 l0_0_5.length c0_0_5] 49 (0, 0)), Own.blk b1 (.cells #[vI x0_0_0, vI x0_0_1, vI x0_0_2_0, vI x0_0_2_1, .slice A0_0_2_2 l0_0_2_2.length c0_0_2_2, vI x0_0_3_0, vI x0_0_3_1_0, vI x0_0_3_1_1, .slice A0_0_3_1_2 l0_0_3_1_2.length c0_0_3_1_2, vI x0_0_3_2_0, vI x0_0_3_2_1, .slice A0_0_3_2_2 l0_0_3_2_2.length c0_0_3_2_2, .slice A0_0_4 l0_0_4.length c0_0_4, .slice A0_0_5 l0_0_5.length c0_0_5, vI x0_1, .slice A0_2 l0_2.length c0_2] 99 (0, 0))]) (Q : Exit → Act → World → Prop) (hQ : ∀ x a w, Outs (punctualref_wrongStatement.A7 w0 x0_0_0 x0_0_1 x0_0_2_0 x0_0_2_1 l0_0_2_2 A0_0_2_2 c0_0_2_2 x0_0_3_0 x0_0_3_1_0 x0_0_3_1_1 l0_0_3_1_2 A0_0_3_1_2 c0_0_3_1_2 x0_0_3_2_0 x0_0_3_2_1 l0_0_3_2_2 A0_0_3_2_2 c0_0_3_2_2 l0_0_4 A0_0_4 c0_0_4 l0_0_5 A0_0_5 c0_0_5 x0_1 l0_2 A0_2 c0_2 b1 b2 q2 q4 q6) (punctualref_wrongStatement.B7 w0) o x a w → Q x a w) : WE Try.prog 170 (subF Try.f55 [1, 1, 1, 1, 1, 1, 1, 1, 1, 1, 1, 0]) Q [(1, pP b1 0), (3, pP b2 0), (6, .bool q2), (7, .bool q4), (8, .bool q6)] w := by
 simp only [punctualref_wrongStatement.p7] at h
 refine ws fun K25 hK25 => ?_
 refine wr [(0, 0), (1, 0), (2, 0), (3, 0), (4, 0), (5, 0), (6, 0), (7, 0), (8, 0), (9, 0), (10, 0), (11, 0), (12, 0), (13, 0), (14, 0), (15, 0), (16, 0), (17, 0), (18, 0)] ?_
 refine gb0 [0, 1, 2] [(100, .bool (!q6)), (99, .bool (!q6)), (98, .bool q6)] ?_
 by_cases hc15 : q6 = true
 ·rw [if_pos hc15] at h
  refine gk 100 (!q6) false (congrArg (fun z => !z) hc15) ?_
  refine gb [3, 4, 5, 6, 7, 8, 9, 10, 11, 12] [(110, .bool (x0_0_0 != 3)), (109, .bool (x0_0_0 != 3)), (108, vI x0_0_0), (107, pP b2 0), (106, .bool false), (105, .bool false), (104, undef), (103, undef), (102, undef), (101, undef)] [.loaded ⟨b2, 0, none⟩ (vI x0_0_0)] ⟨hS.c 0, trivial⟩ ?_
  by_cases hc16 : x0_0_0 = 3
  ·rw [if_pos hc16] at h
   refine gk 110 (x0_0_0 != 3) false (bne_eq_false_iff_eq.2 hc16) ?_
   refine gb0 [13, 14, 15, 16, 17, 18] [(116, .bool false), (115, .bool false), (114, undef), (113, undef), (112, undef), (111, undef)] ?_
   refine gn hK25 ?_
   refine we_false (by kernel_rfl) ?_
   have hS53 := hS.bring 1 rfl
   have hS54 := hS53.bring 1 rfl
   obtain rfl := si h
   exact we_skip fun a hF => hQ _ _ _ (Outs.again ⟨hS54, hF.weaken ea⟩)
  ·rw [if_neg hc16] at h
   refine gk 110 (x0_0_0 != 3) true (bne_iff_ne.2 hc16) ?_
   refine gb [13, 14, 15, 16, 17, 18] [(116, .bool (decide ((l0_0_5.length : Int) > 0))), (115, .bool (decide ((l0_0_5.length : Int) > 0))), (114, .bool (decide ((l0_0_5.length : Int) > 0))), (113, vI (l0_0_5.length : Int)), (112, .slice A0_0_5 l0_0_5.length c0_0_5), (111, pP b2 13)] [.loaded ⟨b2, 13, none⟩ (.slice A0_0_5 l0_0_5.length c0_0_5)] ⟨hS.c 0, trivial⟩ ?_
   refine gn hK25 ?_
   by_cases hc17 : (l0_0_5.length : Int) > 0
   ·rw [if_pos hc17] at h
    refine wk 116 (decide ((l0_0_5.length : Int) > 0)) true (decide_eq_true hc17) ?_
    refine we_true (by kernel_rfl) ?_
    refine ws fun K26 hK26 => ?_
    refine wr [(0, 0)] ?_
    refine gb0 [0] [(2, vI 6)] ?_
    refine gn hK26 ?_
    have hS55 := hS.takeN 0
    obtain rfl := si h
    exact we_ret fun a hF => hQ _ _ _ (Outs.out nofun ⟨rfl, (pr0 [.tmp 2] [vI 6] ⟨rfl, hS55⟩) a hF⟩)
   ·rw [if_neg hc17] at h
    refine wk 116 (decide ((l0_0_5.length : Int) > 0)) false (decide_eq_false hc17) ?_
    refine we_false (by kernel_rfl) ?_
    have hS56 := hS.bring 1 rfl
    have hS57 := hS56.bring 1 rfl
    obtain rfl := si h
    exact we_skip fun a hF => hQ _ _ _ (Outs.again ⟨hS57, hF.weaken ea⟩)
 ·rw [if_neg hc15] at h
  refine gk 100 (!q6) true (congrArg (fun z => !z) (Bool.eq_false_iff.2 hc15)) ?_
  refine gb [3, 4, 5, 6, 7, 8] [(106, .bool (decide ((l0_0_4.length : Int) > 0))), (105, .bool (decide ((l0_0_4.length : Int) > 0))), (104, .bool (decide ((l0_0_4.length : Int) > 0))), (103, vI (l0_0_4.length : Int)), (102, .slice A0_0_4 l0_0_4.length c0_0_4), (101, pP b2 12)] [.loaded ⟨b2, 12, none⟩ (.slice A0_0_4 l0_0_4.length c0_0_4)] ⟨hS.c 0, trivial⟩ ?_
  by_cases hc18 : (l0_0_4.length : Int) > 0
  ·rw [if_pos hc18] at h
   refine gk 106 (decide ((l0_0_4.length : Int) > 0)) true (decide_eq_true hc18) ?_
   refine gb0 [9, 10, 11, 12, 13, 14, 15, 16, 17, 18] [(116, .bool true), (115, undef), (114, undef), (113, undef), (112, undef), (111, undef), (110, undef), (109, undef), (108, undef), (107, undef)] ?_
   refine gn hK25 ?_
   refine we_true (by kernel_rfl) ?_
   refine ws fun K27 hK27 => ?_
   refine wr [(0, 0)] ?_
   refine gb0 [0] [(2, vI 6)] ?_
   refine gn hK27 ?_
   have hS58 := hS.takeN 0
   obtain rfl := si h
   exact we_ret fun a hF => hQ _ _ _ (Outs.out nofun ⟨rfl, (pr0 [.tmp 2] [vI 6] ⟨rfl, hS58⟩) a hF⟩)
  ·rw [if_neg hc18] at h
   refine gk 106 (decide ((l0_0_4.length : Int) > 0)) false (decide_eq_false hc18) ?_
   refine gb [9, 10, 11, 12] [(110, .bool (x0_0_0 != 3)), (109, .bool (x0_0_0 != 3)), (108, vI x0_0_0), (107, pP b2 0)] [.loaded ⟨b2, 0, none⟩ (vI x0_0_0)] ⟨hS.c 0, trivial⟩ ?_
   by_cases hc19 : x0_0_0 = 3
   ·rw [if_pos hc19] at h
    refine gk 110 (x0_0_0 != 3) false (bne_eq_false_iff_eq.2 hc19) ?_
    refine gb0 [13, 14, 15, 16, 17, 18] [(116, .bool false), (115, .bool false), (114, undef), (113, undef), (112, undef), (111, undef)] ?_
    refine gn hK25 ?_
    refine we_false (by kernel_rfl) ?_
    have hS59 := hS.bring 1 rfl
    have hS60 := hS59.bring 1 rfl
    obtain rfl := si h
    exact we_skip fun a hF => hQ _ _ _ (Outs.again ⟨hS60, hF.weaken ea⟩)
   ·rw [if_neg hc19] at h
    refine gk 110 (x0_0_0 != 3) true (bne_iff_ne.2 hc19) ?_
    refine gb [13, 14, 15, 16, 17, 18] [(116, .bool (decide ((l0_0_5.length : Int) > 0))), (115, .bool (decide ((l0_0_5.length : Int) > 0))), (114, .bool (decide ((l0_0_5.length : Int) > 0))), (113, vI (l0_0_5.length : Int)), (112, .slice A0_0_5 l0_0_5.length c0_0_5), (111, pP b2 13)] [.loaded ⟨b2, 13, none⟩ (.slice A0_0_5 l0_0_5.length c0_0_5)] ⟨hS.c 0, trivial⟩ ?_
    refine gn hK25 ?_
    by_cases hc20 : (l0_0_5.length : Int) > 0
    ·rw [if_pos hc20] at h
     refine wk 116 (decide ((l0_0_5.length : Int) > 0)) true (decide_eq_true hc20) ?_
     refine we_true (by kernel_rfl) ?_
     refine ws fun K28 hK28 => ?_
     refine wr [(0, 0)] ?_
     refine gb0 [0] [(2, vI 6)] ?_
     refine gn hK28 ?_
     have hS61 := hS.takeN 0
     obtain rfl := si h
     exact we_ret fun a hF => hQ _ _ _ (Outs.out nofun ⟨rfl, (pr0 [.tmp 2] [vI 6] ⟨rfl, hS61⟩) a hF⟩)
    ·rw [if_neg hc20] at h
     refine wk 116 (decide ((l0_0_5.length : Int) > 0)) false (decide_eq_false hc20) ?_
     refine we_false (by kernel_rfl) ?_
     have hS62 := hS.bring 1 rfl
     have hS63 := hS62.bring 1 rfl
     obtain rfl := si h
     exact we_skip fun a hF => hQ _ _ _ (Outs.again ⟨hS63, hF.weaken ea⟩)
abbrev punctualref_wrongStatement.A8 (w0 : World) (x0_0_0 : Int) (x0_0_1 : Int) (x0_0_2_0 : Int) (x0_0_2_1 : Int) (l0_0_2_2 : List SExpr) (A0_0_2_2 : Option Addr) (c0_0_2_2 : Nat) (x0_0_3_0 : Int) (x0_0_3_1_0 : Int) (x0_0_3_1_1 : Int) (l0_0_3_1_2 : List SExpr) (A0_0_3_1_2 : Option Addr) (c0_0_3_1_2 : Nat) (x0_0_3_2_0 : Int) (x0_0_3_2_1 : Int) (l0_0_3_2_2 : List SExpr) (A0_0_3_2_2 : Option Addr) (c0_0_3_2_2 : Nat) (l0_0_4 : List SStmt) (A0_0_4 : Option Addr) (c0_0_4 : Nat) (l0_0_5 : List SStmt) (A0_0_5 : Option Addr) (c0_0_5 : Nat) (x0_1 : Int) (l0_2 : List Int) (A0_2 : Option Addr) (c0_2 : Nat) (b1 : Nat) (b2 : Nat) (q4 : Bool) (q6 : Bool) : Unit → Act → World → Prop := fun (s : Unit) a w => St w0 w [Own.blk b2 (.cells #[vI x0_0_0, vI x0_0_1, vI x0_0_2_0, vI x0_0_2_1, .slice A0_0_2_2 l0_0_2_2.length c0_0_2_2, vI x0_0_3_0, vI x0_0_3_1_0, vI x0_0_3_1_1, .slice A0_0_3_1_2 l0_0_3_1_2.length c0_0_3_1_2, vI x0_0_3_2_0, vI x0_0_3_2_1, .slice A0_0_3_2_2 l0_0_3_2_2.length c0_0_3_2_2, .slice A0_0_4 l0_0_4.length c0_0_4, .slice A0_0_5 l0_0_5.length c0_0_5] 49 (0, 0)), Own.blk b1 (.cells #[vI x0_0_0, vI x0_0_1, vI x0_0_2_0, vI x0_0_2_1, .slice A0_0_2_2 l0_0_2_2.length c0_0_2_2, vI x0_0_3_0, vI x0_0_3_1_0, vI x0_0_3_1_1, .slice A0_0_3_1_2 l0_0_3_1_2.length c0_0_3_1_2, vI x0_0_3_2_0, vI x0_0_3_2_1, .slice A0_0_3_2_2 l0_0_3_2_2.length c0_0_3_2_2, .slice A0_0_4 l0_0_4.length c0_0_4, .slice A0_0_5 l0_0_5.length c0_0_5, vI x0_1, .slice A0_2 l0_2.length c0_2] 99 (0, 0))] ∧ Frm 170 a [(1, pP b1 0), (3, pP b2 0), (7, .bool q4), (8, .bool q6)]
abbrev punctualref_wrongStatement.B8 (w0 : World) : Int → Exit → Act → World → Prop := Rets Try.prog Try.f55 (punctualref_wrongStatement.Post w0)
theorem punctualref_wrongStatement_p8 (K : Nat) (w0 : World) (Z : Zone) (x0_0_0 : Int) (x0_0_1 : Int) (x0_0_2_0 : Int) (x0_0_2_1 : Int) (l0_0_2_2 : List SExpr) (A0_0_2_2 : Option Addr) (c0_0_2_2 : Nat) (x0_0_3_0 : Int) (x0_0_3_1_0 : Int) (x0_0_3_1_1 : Int) (l0_0_3_1_2 : List SExpr) (A0_0_3_1_2 : Option Addr) (c0_0_3_1_2 : Nat) (x0_0_3_2_0 : Int) (x0_0_3_2_1 : Int) (l0_0_3_2_2 : List SExpr) (A0_0_3_2_2 : Option Addr) (c0_0_3_2_2 : Nat) (l0_0_4 : List SStmt) (A0_0_4 : Option Addr) (c0_0_4 : Nat) (l0_0_5 : List SStmt) (A0_0_5 : Option Addr) (c0_0_5 : Nat) (x0_1 : Int) (l0_2 : List Int) (A0_2 : Option Addr) (c0_2 : Nat) (hZ : ∀ w, Sub w0 w → Z w) (hR0_0_2_2 : RdZ Z A0_0_2_2 l0_0_2_2) (hL0_0_2_2 : l0_0_2_2.length ≤ c0_0_2_2) (hR0_0_3_1_2 : RdZ Z A0_0_3_1_2 l0_0_3_1_2) (hL0_0_3_1_2 : l0_0_3_1_2.length ≤ c0_0_3_1_2) (hR0_0_3_2_2 : RdZ Z A0_0_3_2_2 l0_0_3_2_2) (hL0_0_3_2_2 : l0_0_3_2_2.length ≤ c0_0_3_2_2) (hR0_0_4 : RdZ Z A0_0_4 l0_0_4) (hL0_0_4 : l0_0_4.length ≤ c0_0_4) (hR0_0_5 : RdZ Z A0_0_5 l0_0_5) (hL0_0_5 : l0_0_5.length ≤ c0_0_5) (hR0_2 : RdL w0 A0_2 l0_2) (hL0_2 : l0_2.length ≤ c0_2) (b1 : Nat) (b2 : Nat) (b3 : Nat) (hc3 : 0 ≤ x0_0_0) (e1 : Int) (hx4 : ([0, 0, 0, 0, 0, 0, 0, 1] : List Int)[(x0_0_0).toNat]? = some e1) (b4 : Nat) (e2 : Int) (hx6 : ([0, 7, 3, 0, 1000, 1000, 3, 1000] : List Int)[(x0_0_0).toNat]? = some e2) (q2 : Bool) (q4 : Bool) (q6 : Bool) (o : Unit ⊕ Int) (h : punctualref_wrongStatement.p8 K x0_0_2_0 x0_0_2_1 l0_0_2_2 q2 = some o) (w : World) (hS : St w0 w [Own.blk b2 (.cells #[vI x0_0_0, vI x0_0_1, vI x0_0_2_0, vI x0_0_2_1, .slice A0_0_2_2 l0_0_2_2.length c0_0_2_2, vI x0_0_3_0, vI x0_0_3_1_0, vI x0_0_3_1_1, .slice A0_0_3_1_2 l0_0_3_1_2.length c0_0_3_1_2, vI x0_0_3_2_0, vI x0_0_3_2_1, .slice A0_0_3_2_2 l0_0_3_2_2.length c0_0_3_2_2, .slice A0_0_4 l0_0_4.length c0_0_4, .slice A0_0_5 l0_0_5.length c0_0_5] 49 (0, 0)), Own.blk b1 (.cells #[vI x0_0_0, vI x0_0_1, vI x0_0_2_0, vI x0_0_2_1, .slice A0_0_2_2 l0_0_2_2.length c0_0_2_2, vI x0_0_3_0, vI x0_0_3_1_0, vI x0_0_3_1_1, .slice A0_0_3_1_2 l0_0_3_1_2.length c0_0_3_1_2, vI x0_0_3_2_0, vI x0_0_3_2_1, .slice A0_0_3_2_2 l0_0_3_2_2.length c0_0_3_2_2, .slice A0_0_4 l0_0_4.length c0_0_4, .slice A0_0_5 l0_0_5.length c0_0_5, vI x0_1, .slice A0_2 l0_2.length c0_2] 99 (0, 0))]) (Q : Exit → Act → World → Prop) (hQ : ∀ x a w, Outs (punctualref_wrongStatement.A8 w0 x0_0_0 x0_0_1 x0_0_2_0 x0_0_2_1 l0_0_2_2 A0_0_2_2 c0_0_2_2 x0_0_3_0 x0_0_3_1_0 x0_0_3_1_1 l0_0_3_1_2 A0_0_3_1_2 c0_0_3_1_2 x0_0_3_2_0 x0_0_3_2_1 l0_0_3_2_2 A0_0_3_2_2 c0_0_3_2_2 l0_0_4 A0_0_4 c0_0_4 l0_0_5 A0_0_5 c0_0_5 x0_1 l0_2 A0_2 c0_2 b1 b2 q4 q6) (punctualref_wrongStatement.B8 w0) o x a w → Q x a w) : WE Try.prog 170 (subF Try.f55 [1, 1, 1, 1, 1, 1, 1, 1, 1, 1, 1, 1, 0]) Q [(1, pP b1 0), (3, pP b2 0), (6, .bool q2), (7, .bool q4), (8, .bool q6)] w := by
 simp only [punctualref_wrongStatement.p8] at h
 refine ws fun K30 hK30 => ?_
 refine wr [(0, 0)] ?_
 refine gb0 [0] [(117, .bool q2)] ?_
 refine gn hK30 ?_
 by_cases hc21 : q2 = true
 ·rw [if_pos hc21] at h
  refine wk 117 q2 true hc21 ?_
  refine we_true (by kernel_rfl) ?_
  refine ws fun K31 hK31 => ?_
  refine wr [(0, 0), (1, 0), (2, 1), (3, 0)] ?_
  rcases hq12 : punctualref_wrongExpr.f K x0_0_2_0 x0_0_2_1 l0_0_2_2 with _ | r1
  ·rw [hq12] at h; cases h
  rw [hq12] at h
  simp only [] at h
  refine gb [0, 1] [(119, .agg #[vI x0_0_2_0, vI x0_0_2_1, .slice A0_0_2_2 l0_0_2_2.length c0_0_2_2]), (118, pP b2 2)] [.loaded ⟨b2, 2, none⟩ (vI x0_0_2_0), .loaded ⟨b2, 3, none⟩ (vI x0_0_2_1), .loaded ⟨b2, 4, none⟩ (.slice A0_0_2_2 l0_0_2_2.length c0_0_2_2)] ⟨hS.c 0, hS.c 0, hS.c 0, trivial⟩ ?_
  refine ge_call (d := some 120) (f := 79) (args := #[.agg #[vI x0_0_2_0, vI x0_0_2_1, .slice A0_0_2_2 l0_0_2_2.length c0_0_2_2]]) (by kernel_rfl) (punctualref_wrongExpr_ok K Z x0_0_2_0 x0_0_2_1 l0_0_2_2 A0_0_2_2 c0_0_2_2 _ (fun w' k => (hZ w' (hS.subw.trans k))) hR0_0_2_2 hL0_0_2_2 _ hq12) ?_
  rintro _ w17 ⟨rfl, hS65⟩
  refine ⟨_, rfl, hS65.below, ?_⟩
  have hS66 := hS.call hS65
  refine gb0 [3] [(9, vI r1)] ?_
  refine gn hK31 ?_
  refine ws fun K32 hK32 => ?_
  refine wr [(0, 0), (1, 0)] ?_
  refine gb0 [0, 1] [(122, .bool (r1 != 0)), (121, vI r1)] ?_
  refine gn hK32 ?_
  by_cases hc22 : r1 = 0
  ·rw [if_pos hc22] at h
   refine wk 122 (r1 != 0) false (bne_eq_false_iff_eq.2 hc22) ?_
   refine we_false (by kernel_rfl) ?_
   have hS67 := hS66.bring 1 rfl
   have hS68 := hS67.bring 1 rfl
   obtain rfl := si h
   exact we_skip fun a hF => hQ _ _ _ (Outs.again ⟨hS68, hF.weaken ea⟩)
  ·rw [if_neg hc22] at h
   refine wk 122 (r1 != 0) true (bne_iff_ne.2 hc22) ?_
   refine we_true (by kernel_rfl) ?_
   refine ws fun K33 hK33 => ?_
   refine wr [(0, 0), (1, 0)] ?_
   refine gb0 [0, 1] [(2, vI r1), (123, vI r1)] ?_
   refine gn hK33 ?_
   have hS69 := hS66.takeN 0
   obtain rfl := si h
   exact we_ret fun a hF => hQ _ _ _ (Outs.out nofun ⟨rfl, (pr0 [.tmp 2] [vI r1] ⟨rfl, hS69⟩) a hF⟩)
 ·rw [if_neg hc21] at h
  refine wk 117 q2 false (Bool.eq_false_iff.2 hc21) ?_
  refine we_false (by kernel_rfl) ?_
  have hS70 := hS.bring 1 rfl
  have hS71 := hS70.bring 1 rfl
  obtain rfl := si h
  exact we_skip fun a hF => hQ _ _ _ (Outs.again ⟨hS71, hF.weaken ea⟩)
abbrev punctualref_wrongStatement.A9 (w0 : World) (x0_0_0 : Int) (x0_0_1 : Int) (x0_0_2_0 : Int) (x0_0_2_1 : Int) (l0_0_2_2 : List SExpr) (A0_0_2_2 : Option Addr) (c0_0_2_2 : Nat) (x0_0_3_0 : Int) (x0_0_3_1_0 : Int) (x0_0_3_1_1 : Int) (l0_0_3_1_2 : List SExpr) (A0_0_3_1_2 : Option Addr) (c0_0_3_1_2 : Nat) (x0_0_3_2_0 : Int) (x0_0_3_2_1 : Int) (l0_0_3_2_2 : List SExpr) (A0_0_3_2_2 : Option Addr) (c0_0_3_2_2 : Nat) (l0_0_4 : List SStmt) (A0_0_4 : Option Addr) (c0_0_4 : Nat) (l0_0_5 : List SStmt) (A0_0_5 : Option Addr) (c0_0_5 : Nat) (x0_1 : Int) (l0_2 : List Int) (A0_2 : Option Addr) (c0_2 : Nat) (b1 : Nat) (b2 : Nat) (q6 : Bool) : Unit → Act → World → Prop := fun (s : Unit) a w => St w0 w [Own.blk b2 (.cells #[vI x0_0_0, vI x0_0_1, vI x0_0_2_0, vI x0_0_2_1, .slice A0_0_2_2 l0_0_2_2.length c0_0_2_2, vI x0_0_3_0, vI x0_0_3_1_0, vI x0_0_3_1_1, .slice A0_0_3_1_2 l0_0_3_1_2.length c0_0_3_1_2, vI x0_0_3_2_0, vI x0_0_3_2_1, .slice A0_0_3_2_2 l0_0_3_2_2.length c0_0_3_2_2, .slice A0_0_4 l0_0_4.length c0_0_4, .slice A0_0_5 l0_0_5.length c0_0_5] 49 (0, 0)), Own.blk b1 (.cells #[vI x0_0_0, vI x0_0_1, vI x0_0_2_0, vI x0_0_2_1, .slice A0_0_2_2 l0_0_2_2.length c0_0_2_2, vI x0_0_3_0, vI x0_0_3_1_0, vI x0_0_3_1_1, .slice A0_0_3_1_2 l0_0_3_1_2.length c0_0_3_1_2, vI x0_0_3_2_0, vI x0_0_3_2_1, .slice A0_0_3_2_2 l0_0_3_2_2.length c0_0_3_2_2, .slice A0_0_4 l0_0_4.length c0_0_4, .slice A0_0_5 l0_0_5.length c0_0_5, vI x0_1, .slice A0_2 l0_2.length c0_2] 99 (0, 0))] ∧ Frm 170 a [(1, pP b1 0), (3, pP b2 0), (8, .bool q6)]
abbrev punctualref_wrongStatement.B9 (w0 : World) : Int → Exit → Act → World → Prop := Rets Try.prog Try.f55 (punctualref_wrongStatement.Post w0)
theorem punctualref_wrongStatement_p9 (K : Nat) (w0 : World) (Z : Zone) (x0_0_0 : Int) (x0_0_1 : Int) (x0_0_2_0 : Int) (x0_0_2_1 : Int) (l0_0_2_2 : List SExpr) (A0_0_2_2 : Option Addr) (c0_0_2_2 : Nat) (x0_0_3_0 : Int) (x0_0_3_1_0 : Int) (x0_0_3_1_1 : Int) (l0_0_3_1_2 : List SExpr) (A0_0_3_1_2 : Option Addr) (c0_0_3_1_2 : Nat) (x0_0_3_2_0 : Int) (x0_0_3_2_1 : Int) (l0_0_3_2_2 : List SExpr) (A0_0_3_2_2 : Option Addr) (c0_0_3_2_2 : Nat) (l0_0_4 : List SStmt) (A0_0_4 : Option Addr) (c0_0_4 : Nat) (l0_0_5 : List SStmt) (A0_0_5 : Option Addr) (c0_0_5 : Nat) (x0_1 : Int) (l0_2 : List Int) (A0_2 : Option Addr) (c0_2 : Nat) (hZ : ∀ w, Sub w0 w → Z w) (hR0_0_2_2 : RdZ Z A0_0_2_2 l0_0_2_2) (hL0_0_2_2 : l0_0_2_2.length ≤ c0_0_2_2) (hR0_0_3_1_2 : RdZ Z A0_0_3_1_2 l0_0_3_1_2) (hL0_0_3_1_2 : l0_0_3_1_2.length ≤ c0_0_3_1_2) (hR0_0_3_2_2 : RdZ Z A0_0_3_2_2 l0_0_3_2_2) (hL0_0_3_2_2 : l0_0_3_2_2.length ≤ c0_0_3_2_2) (hR0_0_4 : RdZ Z A0_0_4 l0_0_4) (hL0_0_4 : l0_0_4.length ≤ c0_0_4) (hR0_0_5 : RdZ Z A0_0_5 l0_0_5) (hL0_0_5 : l0_0_5.length ≤ c0_0_5) (hR0_2 : RdL w0 A0_2 l0_2) (hL0_2 : l0_2.length ≤ c0_2) (b1 : Nat) (b2 : Nat) (b3 : Nat) (hc3 : 0 ≤ x0_0_0) (e1 : Int) (hx4 : ([0, 0, 0, 0, 0, 0, 0, 1] : List Int)[(x0_0_0).toNat]? = some e1) (b4 : Nat) (e2 : Int) (hx6 : ([0, 7, 3, 0, 1000, 1000, 3, 1000] : List Int)[(x0_0_0).toNat]? = some e2) (q2 : Bool) (q4 : Bool) (q6 : Bool) (o : Unit ⊕ Int) (h : punctualref_wrongStatement.p9 K x0_0_3_0 x0_0_3_1_0 x0_0_3_1_1 l0_0_3_1_2 x0_0_3_2_0 x0_0_3_2_1 l0_0_3_2_2 q4 = some o) (w : World) (hS : St w0 w [Own.blk b2 (.cells #[vI x0_0_0, vI x0_0_1, vI x0_0_2_0, vI x0_0_2_1, .slice A0_0_2_2 l0_0_2_2.length c0_0_2_2, vI x0_0_3_0, vI x0_0_3_1_0, vI x0_0_3_1_1, .slice A0_0_3_1_2 l0_0_3_1_2.length c0_0_3_1_2, vI x0_0_3_2_0, vI x0_0_3_2_1, .slice A0_0_3_2_2 l0_0_3_2_2.length c0_0_3_2_2, .slice A0_0_4 l0_0_4.length c0_0_4, .slice A0_0_5 l0_0_5.length c0_0_5] 49 (0, 0)), Own.blk b1 (.cells #[vI x0_0_0, vI x0_0_1, vI x0_0_2_0, vI x0_0_2_1, .slice A0_0_2_2 l0_0_2_2.length c0_0_2_2, vI x0_0_3_0, vI x0_0_3_1_0, vI x0_0_3_1_1, .slice A0_0_3_1_2 l0_0_3_1_2.length c0_0_3_1_2, vI x0_0_3_2_0, vI x0_0_3_2_1, .slice A0_0_3_2_2 l0_0_3_2_2.length c0_0_3_2_2, .slice A0_0_4 l0_0_4.length c0_0_4, .slice A0_0_5 l0_0_5.length c0_0_5, vI x0_1, .slice A0_2 l0_2.length c0_2] 99 (0, 0))]) (Q : Exit → Act → World → Prop) (hQ : ∀ x a w, Outs (punctualref_wrongStatement.A9 w0 x0_0_0 x0_0_1 x0_0_2_0 x0_0_2_1 l0_0_2_2 A0_0_2_2 c0_0_2_2 x0_0_3_0 x0_0_3_1_0 x0_0_3_1_1 l0_0_3_1_2 A0_0_3_1_2 c0_0_3_1_2 x0_0_3_2_0 x0_0_3_2_1 l0_0_3_2_2 A0_0_3_2_2 c0_0_3_2_2 l0_0_4 A0_0_4 c0_0_4 l0_0_5 A0_0_5 c0_0_5 x0_1 l0_2 A0_2 c0_2 b1 b2 q6) (punctualref_wrongStatement.B9 w0) o x a w → Q x a w) : WE Try.prog 170 (subF Try.f55 [1, 1, 1, 1, 1, 1, 1, 1, 1, 1, 1, 1, 1, 0]) Q [(1, pP b1 0), (3, pP b2 0), (7, .bool q4), (8, .bool q6)] w := by
 simp only [punctualref_wrongStatement.p9] at h
 refine ws fun K35 hK35 => ?_
 refine wr [(0, 0)] ?_
 refine gb0 [0] [(124, .bool q4)] ?_
 refine gn hK35 ?_
 by_cases hc23 : q4 = true
 ·rw [if_pos hc23] at h
  refine wk 124 q4 true hc23 ?_
  refine we_true (by kernel_rfl) ?_
  refine ws fun K36 hK36 => ?_
  refine ws fun K37 hK37 => ?_
  refine wr [(0, 0), (1, 0), (2, 0), (3, 0), (4, 0), (5, 0), (6, 0), (7, 0), (8, 0), (9, 0)] ?_
  refine gb [0, 1, 2, 3, 4] [(129, .bool (decide (x0_0_3_0 < 1))), (128, .bool (decide (x0_0_3_0 < 1))), (127, vI x0_0_3_0), (126, pP b2 5), (125, pP b2 5)] [.loaded ⟨b2, 5, none⟩ (vI x0_0_3_0)] ⟨hS.c 0, trivial⟩ ?_
  by_cases hc24 : x0_0_3_0 < 1
  ·rw [if_pos hc24] at h
   refine gk 129 (decide (x0_0_3_0 < 1)) true (decide_eq_true hc24) ?_
   refine gb0 [5, 6, 7, 8, 9] [(134, .bool true), (133, undef), (132, undef), (131, undef), (130, undef)] ?_
   refine gn hK37 ?_
   refine we_true (by kernel_rfl) ?_
   refine ws fun K38 hK38 => ?_
   refine wr [(0, 0)] ?_
   refine gb0 [0] [(2, vI 6)] ?_
   refine gn hK38 ?_
   have hS73 := hS.takeN 0
   obtain rfl := si h
   exact we_ret fun a hF => hQ _ _ _ (Outs.out nofun ⟨rfl, (pr0 [.tmp 2] [vI 6] ⟨rfl, hS73⟩) a hF⟩)
  ·rw [if_neg hc24] at h
   refine gk 129 (decide (x0_0_3_0 < 1)) false (decide_eq_false hc24) ?_
   refine gb [5, 6, 7, 8, 9] [(134, .bool (decide (x0_0_3_0 > 4))), (133, .bool (decide (x0_0_3_0 > 4))), (132, vI x0_0_3_0), (131, pP b2 5), (130, pP b2 5)] [.loaded ⟨b2, 5, none⟩ (vI x0_0_3_0)] ⟨hS.c 0, trivial⟩ ?_
   refine gn hK37 ?_
   by_cases hc25 : x0_0_3_0 > 4
   ·rw [if_pos hc25] at h
    refine wk 134 (decide (x0_0_3_0 > 4)) true (decide_eq_true hc25) ?_
    refine we_true (by kernel_rfl) ?_
    refine ws fun K39 hK39 => ?_
    refine wr [(0, 0)] ?_
    refine gb0 [0] [(2, vI 6)] ?_
    refine gn hK39 ?_
    have hS74 := hS.takeN 0
    obtain rfl := si h
    exact we_ret fun a hF => hQ _ _ _ (Outs.out nofun ⟨rfl, (pr0 [.tmp 2] [vI 6] ⟨rfl, hS74⟩) a hF⟩)
   ·rw [if_neg hc25] at h
    refine wk 134 (decide (x0_0_3_0 > 4)) false (decide_eq_false hc25) ?_
    refine we_false (by kernel_rfl) ?_
    refine we_skip fun a hF => hK36 _ _ ?_ a hF
    refine ws fun K40 hK40 => ?_
    refine ws fun K41 hK41 => ?_
    refine wr [(0, 0), (1, 0), (2, 0), (3, 1), (4, 0)] ?_
    rcases hq14 : punctualref_wrongExpr.f K x0_0_3_1_0 x0_0_3_1_1 l0_0_3_1_2 with _ | r2
    ·rw [hq14] at h; cases h
    rw [hq14] at h
    simp only [] at h
    refine gb [0, 1, 2] [(137, .agg #[vI x0_0_3_1_0, vI x0_0_3_1_1, .slice A0_0_3_1_2 l0_0_3_1_2.length c0_0_3_1_2]), (136, pP b2 6), (135, pP b2 5)] [.loaded ⟨b2, 6, none⟩ (vI x0_0_3_1_0), .loaded ⟨b2, 7, none⟩ (vI x0_0_3_1_1), .loaded ⟨b2, 8, none⟩ (.slice A0_0_3_1_2 l0_0_3_1_2.length c0_0_3_1_2)] ⟨hS.c 0, hS.c 0, hS.c 0, trivial⟩ ?_
    refine ge_call (d := some 138) (f := 79) (args := #[.agg #[vI x0_0_3_1_0, vI x0_0_3_1_1, .slice A0_0_3_1_2 l0_0_3_1_2.length c0_0_3_1_2]]) (by kernel_rfl) (punctualref_wrongExpr_ok K Z x0_0_3_1_0 x0_0_3_1_1 l0_0_3_1_2 A0_0_3_1_2 c0_0_3_1_2 _ (fun w' k => (hZ w' (hS.subw.trans k))) hR0_0_3_1_2 hL0_0_3_1_2 _ hq14) ?_
    rintro _ w19 ⟨rfl, hS75⟩
    refine ⟨_, rfl, hS75.below, ?_⟩
    have hS76 := hS.call hS75
    refine gb0 [4] [(10, vI r2)] ?_
    refine gn hK41 ?_
    refine ws fun K42 hK42 => ?_
    refine wr [(0, 0), (1, 0)] ?_
    refine gb0 [0, 1] [(140, .bool (r2 != 0)), (139, vI r2)] ?_
    refine gn hK42 ?_
    by_cases hc26 : r2 = 0
    ·rw [if_pos hc26] at h
     refine wk 140 (r2 != 0) false (bne_eq_false_iff_eq.2 hc26) ?_
     refine we_false (by kernel_rfl) ?_
     refine we_skip fun a hF => hK40 _ _ ?_ a hF
     refine ws fun K43 hK43 => ?_
     refine wr [(0, 0), (1, 0), (2, 0), (3, 1), (4, 0)] ?_
     rcases hq15 : punctualref_wrongExpr.f K x0_0_3_2_0 x0_0_3_2_1 l0_0_3_2_2 with _ | r3
     ·rw [hq15] at h; cases h
     rw [hq15] at h
     simp only [] at h
     refine gb [0, 1, 2] [(144, .agg #[vI x0_0_3_2_0, vI x0_0_3_2_1, .slice A0_0_3_2_2 l0_0_3_2_2.length c0_0_3_2_2]), (143, pP b2 9), (142, pP b2 5)] [.loaded ⟨b2, 9, none⟩ (vI x0_0_3_2_0), .loaded ⟨b2, 10, none⟩ (vI x0_0_3_2_1), .loaded ⟨b2, 11, none⟩ (.slice A0_0_3_2_2 l0_0_3_2_2.length c0_0_3_2_2)] ⟨hS76.c 0, hS76.c 0, hS76.c 0, trivial⟩ ?_
     refine ge_call (d := some 145) (f := 79) (args := #[.agg #[vI x0_0_3_2_0, vI x0_0_3_2_1, .slice A0_0_3_2_2 l0_0_3_2_2.length c0_0_3_2_2]]) (by kernel_rfl) (punctualref_wrongExpr_ok K Z x0_0_3_2_0 x0_0_3_2_1 l0_0_3_2_2 A0_0_3_2_2 c0_0_3_2_2 _ (fun w' k => (hZ w' (hS76.subw.trans k))) hR0_0_3_2_2 hL0_0_3_2_2 _ hq15) ?_
     rintro _ w20 ⟨rfl, hS77⟩
     refine ⟨_, rfl, hS77.below, ?_⟩
     have hS78 := hS76.call hS77
     refine gb0 [4] [(11, vI r3)] ?_
     refine gn hK43 ?_
     refine ws fun K44 hK44 => ?_
     refine wr [(0, 0), (1, 0)] ?_
     refine gb0 [0, 1] [(147, .bool (r3 != 0)), (146, vI r3)] ?_
     refine gn hK44 ?_
     by_cases hc27 : r3 = 0
     ·rw [if_pos hc27] at h
      refine wk 147 (r3 != 0) false (bne_eq_false_iff_eq.2 hc27) ?_
      refine we_false (by kernel_rfl) ?_
      have hS79 := hS78.bring 1 rfl
      have hS80 := hS79.bring 1 rfl
      obtain rfl := si h
      exact we_skip fun a hF => hQ _ _ _ (Outs.again ⟨hS80, hF.weaken ea⟩)
     ·rw [if_neg hc27] at h
      refine wk 147 (r3 != 0) true (bne_iff_ne.2 hc27) ?_
      refine we_true (by kernel_rfl) ?_
      refine ws fun K45 hK45 => ?_
      refine wr [(0, 0), (1, 0)] ?_
      refine gb0 [0, 1] [(2, vI r3), (148, vI r3)] ?_
      refine gn hK45 ?_
      have hS81 := hS78.takeN 0
      obtain rfl := si h
      exact we_ret fun a hF => hQ _ _ _ (Outs.out nofun ⟨rfl, (pr0 [.tmp 2] [vI r3] ⟨rfl, hS81⟩) a hF⟩)
    ·rw [if_neg hc26] at h
     refine wk 140 (r2 != 0) true (bne_iff_ne.2 hc26) ?_
     refine we_true (by kernel_rfl) ?_
     refine ws fun K46 hK46 => ?_
     refine wr [(0, 0), (1, 0)] ?_
     refine gb0 [0, 1] [(2, vI r2), (141, vI r2)] ?_
     refine gn hK46 ?_
     have hS82 := hS76.takeN 0
     obtain rfl := si h
     exact we_ret fun a hF => hQ _ _ _ (Outs.out nofun ⟨rfl, (pr0 [.tmp 2] [vI r2] ⟨rfl, hS82⟩) a hF⟩)
 ·rw [if_neg hc23] at h
  refine wk 124 q4 false (Bool.eq_false_iff.2 hc23) ?_
  refine we_false (by kernel_rfl) ?_
  have hS83 := hS.bring 1 rfl
  have hS84 := hS83.bring 1 rfl
  obtain rfl := si h
  exact we_skip fun a hF => hQ _ _ _ (Outs.again ⟨hS84, hF.weaken ea⟩)
abbrev punctualref_wrongStatement.A10 (w0 : World) (x0_0_0 : Int) (x0_0_1 : Int) (x0_0_2_0 : Int) (x0_0_2_1 : Int) (l0_0_2_2 : List SExpr) (A0_0_2_2 : Option Addr) (c0_0_2_2 : Nat) (x0_0_3_0 : Int) (x0_0_3_1_0 : Int) (x0_0_3_1_1 : Int) (l0_0_3_1_2 : List SExpr) (A0_0_3_1_2 : Option Addr) (c0_0_3_1_2 : Nat) (x0_0_3_2_0 : Int) (x0_0_3_2_1 : Int) (l0_0_3_2_2 : List SExpr) (A0_0_3_2_2 : Option Addr) (c0_0_3_2_2 : Nat) (l0_0_4 : List SStmt) (A0_0_4 : Option Addr) (c0_0_4 : Nat) (l0_0_5 : List SStmt) (A0_0_5 : Option Addr) (c0_0_5 : Nat) (l0_2 : List Int) (A0_2 : Option Addr) (c0_2 : Nat) (b2 : Nat) : Nat → Act → World → Prop := fun (s : Nat) a w => St w0 w [Own.blk b2 (.cells #[vI x0_0_0, vI x0_0_1, vI x0_0_2_0, vI x0_0_2_1, .slice A0_0_2_2 l0_0_2_2.length c0_0_2_2, vI x0_0_3_0, vI x0_0_3_1_0, vI x0_0_3_1_1, .slice A0_0_3_1_2 l0_0_3_1_2.length c0_0_3_1_2, vI x0_0_3_2_0, vI x0_0_3_2_1, .slice A0_0_3_2_2 l0_0_3_2_2.length c0_0_3_2_2, .slice A0_0_4 l0_0_4.length c0_0_4, .slice A0_0_5 l0_0_5.length c0_0_5] 49 (0, 0))] ∧ Frm 170 a [(3, pP b2 0), (159, .slice A0_2 l0_2.length c0_2), (160, vI (l0_2.length : Int)), (161, vI (s : Int))]
abbrev punctualref_wrongStatement.B10 (w0 : World) : (Unit ⊕ Int) → Exit → Act → World → Prop := Exits 0 (fun (s : Unit) a w => St w0 w [] ∧ Frm 170 a []) (Rets Try.prog Try.f55 (punctualref_wrongStatement.Post w0))
theorem punctualref_wrongStatement_r10 (K : Nat) (w0 : World) (Z : Zone) (x0_0_0 : Int) (x0_0_1 : Int) (x0_0_2_0 : Int) (x0_0_2_1 : Int) (l0_0_2_2 : List SExpr) (A0_0_2_2 : Option Addr) (c0_0_2_2 : Nat) (x0_0_3_0 : Int) (x0_0_3_1_0 : Int) (x0_0_3_1_1 : Int) (l0_0_3_1_2 : List SExpr) (A0_0_3_1_2 : Option Addr) (c0_0_3_1_2 : Nat) (x0_0_3_2_0 : Int) (x0_0_3_2_1 : Int) (l0_0_3_2_2 : List SExpr) (A0_0_3_2_2 : Option Addr) (c0_0_3_2_2 : Nat) (l0_0_4 : List SStmt) (A0_0_4 : Option Addr) (c0_0_4 : Nat) (l0_0_5 : List SStmt) (A0_0_5 : Option Addr) (c0_0_5 : Nat) (x0_1 : Int) (l0_2 : List Int) (A0_2 : Option Addr) (c0_2 : Nat) (hZ : ∀ w, Sub w0 w → Z w) (hR0_0_2_2 : RdZ Z A0_0_2_2 l0_0_2_2) (hL0_0_2_2 : l0_0_2_2.length ≤ c0_0_2_2) (hR0_0_3_1_2 : RdZ Z A0_0_3_1_2 l0_0_3_1_2) (hL0_0_3_1_2 : l0_0_3_1_2.length ≤ c0_0_3_1_2) (hR0_0_3_2_2 : RdZ Z A0_0_3_2_2 l0_0_3_2_2) (hL0_0_3_2_2 : l0_0_3_2_2.length ≤ c0_0_3_2_2) (hR0_0_4 : RdZ Z A0_0_4 l0_0_4) (hL0_0_4 : l0_0_4.length ≤ c0_0_4) (hR0_0_5 : RdZ Z A0_0_5 l0_0_5) (hL0_0_5 : l0_0_5.length ≤ c0_0_5) (hR0_2 : RdL w0 A0_2 l0_2) (hL0_2 : l0_2.length ≤ c0_2) (b1 : Nat) (b2 : Nat) (b3 : Nat) (hc3 : 0 ≤ x0_0_0) (e1 : Int) (hx4 : ([0, 0, 0, 0, 0, 0, 0, 1] : List Int)[(x0_0_0).toNat]? = some e1) (b4 : Nat) (e2 : Int) (hx6 : ([0, 7, 3, 0, 1000, 1000, 3, 1000] : List Int)[(x0_0_0).toNat]? = some e2) (q2 : Bool) (q4 : Bool) (q6 : Bool) (hc28 : q6 = true) (hc29 : ¬ (x0_1 ≥ 6)) (hc30 : x0_0_0 = 6) (s : Nat) (o : Nat ⊕ (Unit ⊕ Int)) (h : punctualref_wrongStatement.r10 x0_0_1 l0_2 s = some o) (a : Act) (w : World) (hA : punctualref_wrongStatement.A10 w0 x0_0_0 x0_0_1 x0_0_2_0 x0_0_2_1 l0_0_2_2 A0_0_2_2 c0_0_2_2 x0_0_3_0 x0_0_3_1_0 x0_0_3_1_1 l0_0_3_1_2 A0_0_3_1_2 c0_0_3_1_2 x0_0_3_2_0 x0_0_3_2_1 l0_0_3_2_2 A0_0_3_2_2 c0_0_3_2_2 l0_0_4 A0_0_4 c0_0_4 l0_0_5 A0_0_5 c0_0_5 l0_2 A0_2 c0_2 b2 s a w) (Q : Exit → Act → World → Prop) (hQ : ∀ x a w, Outs (punctualref_wrongStatement.A10 w0 x0_0_0 x0_0_1 x0_0_2_0 x0_0_2_1 l0_0_2_2 A0_0_2_2 c0_0_2_2 x0_0_3_0 x0_0_3_1_0 x0_0_3_1_1 l0_0_3_1_2 A0_0_3_1_2 c0_0_3_1_2 x0_0_3_2_0 x0_0_3_2_1 l0_0_3_2_2 A0_0_3_2_2 c0_0_3_2_2 l0_0_4 A0_0_4 c0_0_4 l0_0_5 A0_0_5 c0_0_5 l0_2 A0_2 c0_2 b2) (punctualref_wrongStatement.B10 w0) o x a w → Q x a w) : (subF Try.f55 [1, 1, 1, 1, 1, 1, 1, 1, 1, 1, 1, 1, 1, 1, 1, 0, 1, 0, 1, 0, 0]).wp Try.prog Q a w := by
 obtain ⟨i1, hs⟩ : ∃ z, z = s := ⟨s, rfl⟩
 subst hs
 obtain ⟨hS, hF⟩ := hA
 replace hS : St w0 w [Own.blk b2 (.cells #[vI x0_0_0, vI x0_0_1, vI x0_0_2_0, vI x0_0_2_1, .slice A0_0_2_2 l0_0_2_2.length c0_0_2_2, vI x0_0_3_0, vI x0_0_3_1_0, vI x0_0_3_1_1, .slice A0_0_3_1_2 l0_0_3_1_2.length c0_0_3_1_2, vI x0_0_3_2_0, vI x0_0_3_2_1, .slice A0_0_3_2_2 l0_0_3_2_2.length c0_0_3_2_2, .slice A0_0_4 l0_0_4.length c0_0_4, .slice A0_0_5 l0_0_5.length c0_0_5] 49 (0, 0))] := hS
 simp only [punctualref_wrongStatement.r10] at h
 refine (?_ : WE Try.prog 170 (subF Try.f55 [1, 1, 1, 1, 1, 1, 1, 1, 1, 1, 1, 1, 1, 1, 1, 0, 1, 0, 1, 0, 0]) Q [(3, pP b2 0), (159, .slice A0_2 l0_2.length c0_2), (160, vI (l0_2.length : Int)), (161, vI (i1 : Int))] w) a hF
 clear hF a
 refine ws fun K53 hK53 => ?_
 refine wr [(0, 0)] ?_
 refine gb0 [0] [(162, .bool (decide ((i1 : Int) < (l0_2.length : Int))))] ?_
 refine gn hK53 ?_
 refine ws fun K54 hK54 => ?_
 by_cases hc31 : (i1 : Int) < (l0_2.length : Int)
 ·rw [if_pos hc31] at h
  refine wk 162 (decide ((i1 : Int) < (l0_2.length : Int))) true (decide_eq_true hc31) ?_
  refine we_true (by kernel_rfl) ?_
  refine we_skip fun a hF => hK54 _ _ ?_ a hF
  refine ws fun K55 hK55 => ?_
  refine we_block ?_
  refine ws fun K56 hK56 => ?_
  refine wr [(0, 0), (1, 0), (2, 0)] ?_
  rcases hx7 : l0_2[i1]? with _ | e3
  ·rw [hx7] at h; cases h
  rw [hx7] at h
  simp only [] at h
  refine gi 163 0 24 3 1 l0_2.length c0_2 (.tmp 159) (.tmp 161) A0_2 .i64 (i1 : Int) i1 ((hS.rd hR0_2).eqSome (pos_of_get hx7)) rfl (lt_of_get hx7) ?_
  refine gb [1, 2] [(13, vI e3), (164, vI e3)] [.loaded ⟨blkOf A0_2, offOf A0_2 + i1 * 1, none⟩ (vI e3)] ⟨RdL.cell (j := 0) (hS.rd hR0_2) hx7 rfl, trivial⟩ ?_
  refine gn hK56 ?_
  refine ws fun K57 hK57 => ?_
  refine wr [(0, 0), (1, 0), (2, 0), (3, 0)] ?_
  refine gb [0, 1, 2, 3] [(168, .bool (e3 == x0_0_1)), (167, vI x0_0_1), (166, pP b2 1), (165, vI e3)] [.loaded ⟨b2, 1, none⟩ (vI x0_0_1)] ⟨hS.c 0, trivial⟩ ?_
  refine gn hK57 ?_
  by_cases hc32 : e3 = x0_0_1
  ·rw [if_pos hc32] at h
   refine wk 168 (e3 == x0_0_1) true (beq_iff_eq.2 hc32) ?_
   refine we_true (by kernel_rfl) ?_
   refine ws fun K58 hK58 => ?_
   refine wr [(0, 0)] ?_
   refine gb0 [0] [(2, vI 10)] ?_
   refine gn hK58 ?_
   have hS88 := hS.takeN 0
   obtain rfl := si h
   exact we_ret fun a hF => hQ _ _ _ (Outs.out nofun (Exits.on ⟨rfl, (pr0 [.tmp 2] [vI 10] ⟨rfl, hS88⟩) a hF⟩))
  ·rw [if_neg hc32] at h
   refine wk 168 (e3 == x0_0_1) false (beq_eq_false_iff_ne.2 hc32) ?_
   refine we_false (by kernel_rfl) ?_
   refine we_skip fun a hF => hK55 _ _ ?_ a hF
   refine wr [(0, 0), (1, 0)] ?_
   refine ge_addn (d := 169) (ty := 3) (x := (.tmp 161)) (y := (.const (vI 1))) (t := 3) (t2 := 3) (k := .i64) (m := i1) (by kernel_rfl) (by kernel_rfl) (by kernel_rfl) (by have h0 := hR0_2.small; omega) ?_
   refine gb0 [1] [(161, vI ((i1 + 1 : Nat) : Int))] ?_
   obtain rfl := si h
   exact ge_nil fun a hF => hQ _ _ _ (Outs.again ⟨hS, hF.weaken ea⟩)
 ·rw [if_neg hc31] at h
  refine wk 162 (decide ((i1 : Int) < (l0_2.length : Int))) false (decide_eq_false hc31) ?_
  refine we_false (by kernel_rfl) ?_
  have hS89 := hS.takeN 0
  obtain rfl := si h
  exact we_exit fun a hF => hQ _ _ _ (Outs.out nofun (Exits.here ⟨hS89, hF.weaken trivial⟩))
abbrev punctualref_wrongStatement.A11 (w0 : World) (x0_0_0 : Int) (x0_0_1 : Int) (x0_0_2_0 : Int) (x0_0_2_1 : Int) (l0_0_2_2 : List SExpr) (A0_0_2_2 : Option Addr) (c0_0_2_2 : Nat) (x0_0_3_0 : Int) (x0_0_3_1_0 : Int) (x0_0_3_1_1 : Int) (l0_0_3_1_2 : List SExpr) (A0_0_3_1_2 : Option Addr) (c0_0_3_1_2 : Nat) (x0_0_3_2_0 : Int) (x0_0_3_2_1 : Int) (l0_0_3_2_2 : List SExpr) (A0_0_3_2_2 : Option Addr) (c0_0_3_2_2 : Nat) (l0_0_4 : List SStmt) (A0_0_4 : Option Addr) (c0_0_4 : Nat) (l0_0_5 : List SStmt) (A0_0_5 : Option Addr) (c0_0_5 : Nat) (l0_2 : List Int) (A0_2 : Option Addr) (c0_2 : Nat) (b2 : Nat) : Nat → Act → World → Prop := fun (s : Nat) a w => St w0 w [Own.blk b2 (.cells #[vI x0_0_0, vI x0_0_1, vI x0_0_2_0, vI x0_0_2_1, .slice A0_0_2_2 l0_0_2_2.length c0_0_2_2, vI x0_0_3_0, vI x0_0_3_1_0, vI x0_0_3_1_1, .slice A0_0_3_1_2 l0_0_3_1_2.length c0_0_3_1_2, vI x0_0_3_2_0, vI x0_0_3_2_1, .slice A0_0_3_2_2 l0_0_3_2_2.length c0_0_3_2_2, .slice A0_0_4 l0_0_4.length c0_0_4, .slice A0_0_5 l0_0_5.length c0_0_5] 49 (0, 0))] ∧ Frm 170 a [(3, pP b2 0), (159, .slice A0_2 l0_2.length c0_2), (160, vI (l0_2.length : Int)), (161, vI (s : Int))]
abbrev punctualref_wrongStatement.B11 (w0 : World) : (Unit ⊕ Int) → Exit → Act → World → Prop := Exits 0 (fun (s : Unit) a w => St w0 w [] ∧ Frm 170 a []) (Rets Try.prog Try.f55 (punctualref_wrongStatement.Post w0))
theorem punctualref_wrongStatement_r11 (K : Nat) (w0 : World) (Z : Zone) (x0_0_0 : Int) (x0_0_1 : Int) (x0_0_2_0 : Int) (x0_0_2_1 : Int) (l0_0_2_2 : List SExpr) (A0_0_2_2 : Option Addr) (c0_0_2_2 : Nat) (x0_0_3_0 : Int) (x0_0_3_1_0 : Int) (x0_0_3_1_1 : Int) (l0_0_3_1_2 : List SExpr) (A0_0_3_1_2 : Option Addr) (c0_0_3_1_2 : Nat) (x0_0_3_2_0 : Int) (x0_0_3_2_1 : Int) (l0_0_3_2_2 : List SExpr) (A0_0_3_2_2 : Option Addr) (c0_0_3_2_2 : Nat) (l0_0_4 : List SStmt) (A0_0_4 : Option Addr) (c0_0_4 : Nat) (l0_0_5 : List SStmt) (A0_0_5 : Option Addr) (c0_0_5 : Nat) (x0_1 : Int) (l0_2 : List Int) (A0_2 : Option Addr) (c0_2 : Nat) (hZ : ∀ w, Sub w0 w → Z w) (hR0_0_2_2 : RdZ Z A0_0_2_2 l0_0_2_2) (hL0_0_2_2 : l0_0_2_2.length ≤ c0_0_2_2) (hR0_0_3_1_2 : RdZ Z A0_0_3_1_2 l0_0_3_1_2) (hL0_0_3_1_2 : l0_0_3_1_2.length ≤ c0_0_3_1_2) (hR0_0_3_2_2 : RdZ Z A0_0_3_2_2 l0_0_3_2_2) (hL0_0_3_2_2 : l0_0_3_2_2.length ≤ c0_0_3_2_2) (hR0_0_4 : RdZ Z A0_0_4 l0_0_4) (hL0_0_4 : l0_0_4.length ≤ c0_0_4) (hR0_0_5 : RdZ Z A0_0_5 l0_0_5) (hL0_0_5 : l0_0_5.length ≤ c0_0_5) (hR0_2 : RdL w0 A0_2 l0_2) (hL0_2 : l0_2.length ≤ c0_2) (b1 : Nat) (b2 : Nat) (b3 : Nat) (hc3 : 0 ≤ x0_0_0) (e1 : Int) (hx4 : ([0, 0, 0, 0, 0, 0, 0, 1] : List Int)[(x0_0_0).toNat]? = some e1) (b4 : Nat) (e2 : Int) (hx6 : ([0, 7, 3, 0, 1000, 1000, 3, 1000] : List Int)[(x0_0_0).toNat]? = some e2) (q2 : Bool) (q4 : Bool) (q6 : Bool) (hc28 : ¬ (q6 = true)) (hc33 : x0_0_0 = 6) (s : Nat) (o : Nat ⊕ (Unit ⊕ Int)) (h : punctualref_wrongStatement.r11 x0_0_1 l0_2 s = some o) (a : Act) (w : World) (hA : punctualref_wrongStatement.A11 w0 x0_0_0 x0_0_1 x0_0_2_0 x0_0_2_1 l0_0_2_2 A0_0_2_2 c0_0_2_2 x0_0_3_0 x0_0_3_1_0 x0_0_3_1_1 l0_0_3_1_2 A0_0_3_1_2 c0_0_3_1_2 x0_0_3_2_0 x0_0_3_2_1 l0_0_3_2_2 A0_0_3_2_2 c0_0_3_2_2 l0_0_4 A0_0_4 c0_0_4 l0_0_5 A0_0_5 c0_0_5 l0_2 A0_2 c0_2 b2 s a w) (Q : Exit → Act → World → Prop) (hQ : ∀ x a w, Outs (punctualref_wrongStatement.A11 w0 x0_0_0 x0_0_1 x0_0_2_0 x0_0_2_1 l0_0_2_2 A0_0_2_2 c0_0_2_2 x0_0_3_0 x0_0_3_1_0 x0_0_3_1_1 l0_0_3_1_2 A0_0_3_1_2 c0_0_3_1_2 x0_0_3_2_0 x0_0_3_2_1 l0_0_3_2_2 A0_0_3_2_2 c0_0_3_2_2 l0_0_4 A0_0_4 c0_0_4 l0_0_5 A0_0_5 c0_0_5 l0_2 A0_2 c0_2 b2) (punctualref_wrongStatement.B11 w0) o x a w → Q x a w) : (subF Try.f55 [1, 1, 1, 1, 1, 1, 1, 1, 1, 1, 1, 1, 1, 1, 1, 0, 1, 0, 1, 0, 0]).wp Try.prog Q a w := by
 obtain ⟨i2, hs⟩ : ∃ z, z = s := ⟨s, rfl⟩
 subst hs
 obtain ⟨hS, hF⟩ := hA
 replace hS : St w0 w [Own.blk b2 (.cells #[vI x0_0_0, vI x0_0_1, vI x0_0_2_0, vI x0_0_2_1, .slice A0_0_2_2 l0_0_2_2.length c0_0_2_2, vI x0_0_3_0, vI x0_0_3_1_0, vI x0_0_3_1_1, .slice A0_0_3_1_2 l0_0_3_1_2.length c0_0_3_1_2, vI x0_0_3_2_0, vI x0_0_3_2_1, .slice A0_0_3_2_2 l0_0_3_2_2.length c0_0_3_2_2, .slice A0_0_4 l0_0_4.length c0_0_4, .slice A0_0_5 l0_0_5.length c0_0_5] 49 (0, 0))] := hS
 simp only [punctualref_wrongStatement.r11] at h
 refine (?_ : WE Try.prog 170 (subF Try.f55 [1, 1, 1, 1, 1, 1, 1, 1, 1, 1, 1, 1, 1, 1, 1, 0, 1, 0, 1, 0, 0]) Q [(3, pP b2 0), (159, .slice A0_2 l0_2.length c0_2), (160, vI (l0_2.length : Int)), (161, vI (i2 : Int))] w) a hF
 clear hF a
 refine ws fun K64 hK64 => ?_
 refine wr [(0, 0)] ?_
 refine gb0 [0] [(162, .bool (decide ((i2 : Int) < (l0_2.length : Int))))] ?_
 refine gn hK64 ?_
 refine ws fun K65 hK65 => ?_
 by_cases hc34 : (i2 : Int) < (l0_2.length : Int)
 ·rw [if_pos hc34] at h
  refine wk 162 (decide ((i2 : Int) < (l0_2.length : Int))) true (decide_eq_true hc34) ?_
  refine we_true (by kernel_rfl) ?_
  refine we_skip fun a hF => hK65 _ _ ?_ a hF
  refine ws fun K66 hK66 => ?_
  refine we_block ?_
  refine ws fun K67 hK67 => ?_
  refine wr [(0, 0), (1, 0), (2, 0)] ?_
  rcases hx8 : l0_2[i2]? with _ | e4
  ·rw [hx8] at h; cases h
  rw [hx8] at h
  simp only [] at h
  refine gi 163 0 24 3 1 l0_2.length c0_2 (.tmp 159) (.tmp 161) A0_2 .i64 (i2 : Int) i2 ((hS.rd hR0_2).eqSome (pos_of_get hx8)) rfl (lt_of_get hx8) ?_
  refine gb [1, 2] [(13, vI e4), (164, vI e4)] [.loaded ⟨blkOf A0_2, offOf A0_2 + i2 * 1, none⟩ (vI e4)] ⟨RdL.cell (j := 0) (hS.rd hR0_2) hx8 rfl, trivial⟩ ?_
  refine gn hK67 ?_
  refine ws fun K68 hK68 => ?_
  refine wr [(0, 0), (1, 0), (2, 0), (3, 0)] ?_
  refine gb [0, 1, 2, 3] [(168, .bool (e4 == x0_0_1)), (167, vI x0_0_1), (166, pP b2 1), (165, vI e4)] [.loaded ⟨b2, 1, none⟩ (vI x0_0_1)] ⟨hS.c 0, trivial⟩ ?_
  refine gn hK68 ?_
  by_cases hc35 : e4 = x0_0_1
  ·rw [if_pos hc35] at h
   refine wk 168 (e4 == x0_0_1) true (beq_iff_eq.2 hc35) ?_
   refine we_true (by kernel_rfl) ?_
   refine ws fun K69 hK69 => ?_
   refine wr [(0, 0)] ?_
   refine gb0 [0] [(2, vI 10)] ?_
   refine gn hK69 ?_
   have hS93 := hS.takeN 0
   obtain rfl := si h
   exact we_ret fun a hF => hQ _ _ _ (Outs.out nofun (Exits.on ⟨rfl, (pr0 [.tmp 2] [vI 10] ⟨rfl, hS93⟩) a hF⟩))
  ·rw [if_neg hc35] at h
   refine wk 168 (e4 == x0_0_1) false (beq_eq_false_iff_ne.2 hc35) ?_
   refine we_false (by kernel_rfl) ?_
   refine we_skip fun a hF => hK66 _ _ ?_ a hF
   refine wr [(0, 0), (1, 0)] ?_
   refine ge_addn (d := 169) (ty := 3) (x := (.tmp 161)) (y := (.const (vI 1))) (t := 3) (t2 := 3) (k := .i64) (m := i2) (by kernel_rfl) (by kernel_rfl) (by kernel_rfl) (by have h0 := hR0_2.small; omega) ?_
   refine gb0 [1] [(161, vI ((i2 + 1 : Nat) : Int))] ?_
   obtain rfl := si h
   exact ge_nil fun a hF => hQ _ _ _ (Outs.again ⟨hS, hF.weaken ea⟩)
 ·rw [if_neg hc34] at h
  refine wk 162 (decide ((i2 : Int) < (l0_2.length : Int))) false (decide_eq_false hc34) ?_
  refine we_false (by kernel_rfl) ?_
  have hS94 := hS.takeN 0
  obtain rfl := si h
  exact we_exit fun a hF => hQ _ _ _ (Outs.out nofun (Exits.here ⟨hS94, hF.weaken trivial⟩))
theorem punctualref_wrongStatement_ok (K : Nat) (Z : Zone) (x0_0_0 : Int) (x0_0_1 : Int) (x0_0_2_0 : Int) (x0_0_2_1 : Int) (l0_0_2_2 : List SExpr) (A0_0_2_2 : Option Addr) (c0_0_2_2 : Nat) (x0_0_3_0 : Int) (x0_0_3_1_0 : Int) (x0_0_3_1_1 : Int) (l0_0_3_1_2 : List SExpr) (A0_0_3_1_2 : Option Addr) (c0_0_3_1_2 : Nat) (x0_0_3_2_0 : Int) (x0_0_3_2_1 : Int) (l0_0_3_2_2 : List SExpr) (A0_0_3_2_2 : Option Addr) (c0_0_3_2_2 : Nat) (l0_0_4 : List SStmt) (A0_0_4 : Option Addr) (c0_0_4 : Nat) (l0_0_5 : List SStmt) (A0_0_5 : Option Addr) (c0_0_5 : Nat) (x0_1 : Int) (l0_2 : List Int) (A0_2 : Option Addr) (c0_2 : Nat) (w0 : World) (hZ : ∀ w, Sub w0 w → Z w) (hR0_0_2_2 : RdZ Z A0_0_2_2 l0_0_2_2) (hL0_0_2_2 : l0_0_2_2.length ≤ c0_0_2_2) (hR0_0_3_1_2 : RdZ Z A0_0_3_1_2 l0_0_3_1_2) (hL0_0_3_1_2 : l0_0_3_1_2.length ≤ c0_0_3_1_2) (hR0_0_3_2_2 : RdZ Z A0_0_3_2_2 l0_0_3_2_2) (hL0_0_3_2_2 : l0_0_3_2_2.length ≤ c0_0_3_2_2) (hR0_0_4 : RdZ Z A0_0_4 l0_0_4) (hL0_0_4 : l0_0_4.length ≤ c0_0_4) (hR0_0_5 : RdZ Z A0_0_5 l0_0_5) (hL0_0_5 : l0_0_5.length ≤ c0_0_5) (hR0_2 : RdL w0 A0_2 l0_2) (hL0_2 : l0_2.length ≤ c0_2) (r : Int) (h : punctualref_wrongStatement.f K x0_0_0 x0_0_1 x0_0_2_0 x0_0_2_1 l0_0_2_2 x0_0_3_0 x0_0_3_1_0 x0_0_3_1_1 l0_0_3_1_2 x0_0_3_2_0 x0_0_3_2_1 l0_0_3_2_2 l0_0_4 l0_0_5 x0_1 l0_2 = some r) :
  Calls Try.prog 55 #[.agg #[vI x0_0_0, vI x0_0_1, vI x0_0_2_0, vI x0_0_2_1, .slice A0_0_2_2 l0_0_2_2.length c0_0_2_2, vI x0_0_3_0, vI x0_0_3_1_0, vI x0_0_3_1_1, .slice A0_0_3_1_2 l0_0_3_1_2.length c0_0_3_1_2, vI x0_0_3_2_0, vI x0_0_3_2_1, .slice A0_0_3_2_2 l0_0_3_2_2.length c0_0_3_2_2, .slice A0_0_4 l0_0_4.length c0_0_4, .slice A0_0_5 l0_0_5.length c0_0_5, vI x0_1, .slice A0_2 l0_2.length c0_2]] w0 (punctualref_wrongStatement.Post w0 r) := by
 have hS := St.start w0
 unfold punctualref_wrongStatement.f at h
 refine calls_enter (n := 170) (args := [.agg #[vI x0_0_0, vI x0_0_1, vI x0_0_2_0, vI x0_0_2_1, .slice A0_0_2_2 l0_0_2_2.length c0_0_2_2, vI x0_0_3_0, vI x0_0_3_1_0, vI x0_0_3_1_1, .slice A0_0_3_1_2 l0_0_3_1_2.length c0_0_3_1_2, vI x0_0_3_2_0, vI x0_0_3_2_1, .slice A0_0_3_2_2 l0_0_3_2_2.length c0_0_3_2_2, .slice A0_0_4 l0_0_4.length c0_0_4, .slice A0_0_5 l0_0_5.length c0_0_5, vI x0_1, .slice A0_2 l0_2.length c0_2]]) (fn := Try.f55) rfl rfl rfl rfl ?_
 show WE _ _ _ _ [(0, .agg #[vI x0_0_0, vI x0_0_1, vI x0_0_2_0, vI x0_0_2_1, .slice A0_0_2_2 l0_0_2_2.length c0_0_2_2, vI x0_0_3_0, vI x0_0_3_1_0, vI x0_0_3_1_1, .slice A0_0_3_1_2 l0_0_3_1_2.length c0_0_3_1_2, vI x0_0_3_2_0, vI x0_0_3_2_1, .slice A0_0_3_2_2 l0_0_3_2_2.length c0_0_3_2_2, .slice A0_0_4 l0_0_4.length c0_0_4, .slice A0_0_5 l0_0_5.length c0_0_5, vI x0_1, .slice A0_2 l0_2.length c0_2])] _
 refine ws fun K1 hK1 => ?_
 refine wr [(0, 1), (1, 0)] ?_
 refine gw (some 1) (.cells #[vI x0_0_0, vI x0_0_1, vI x0_0_2_0, vI x0_0_2_1, .slice A0_0_2_2 l0_0_2_2.length c0_0_2_2, vI x0_0_3_0, vI x0_0_3_1_0, vI x0_0_3_1_1, .slice A0_0_3_1_2 l0_0_3_1_2.length c0_0_3_1_2, vI x0_0_3_2_0, vI x0_0_3_2_1, .slice A0_0_3_2_2 l0_0_3_2_2.length c0_0_3_2_2, .slice A0_0_4 l0_0_4.length c0_0_4, .slice A0_0_5 l0_0_5.length c0_0_5, vI x0_1, .slice A0_2 l0_2.length c0_2] 99) (fun b => pP b 0) hS fun b1 w1 hx1 hS1 => ?_
 refine gb0 [1] [(2, vI 0)] ?_
 refine gn hK1 ?_
 refine ws fun K2 hK2 => ?_
 refine wr [(0, 0), (1, 0), (2, 1), (3, 2)] ?_
 refine gb [0, 1] [(15, .agg #[vI x0_0_0, vI x0_0_1, vI x0_0_2_0, vI x0_0_2_1, .slice A0_0_2_2 l0_0_2_2.length c0_0_2_2, vI x0_0_3_0, vI x0_0_3_1_0, vI x0_0_3_1_1, .slice A0_0_3_1_2 l0_0_3_1_2.length c0_0_3_1_2, vI x0_0_3_2_0, vI x0_0_3_2_1, .slice A0_0_3_2_2 l0_0_3_2_2.length c0_0_3_2_2, .slice A0_0_4 l0_0_4.length c0_0_4, .slice A0_0_5 l0_0_5.length c0_0_5]), (14, pP b1 0)] [.loaded ⟨b1, 0, none⟩ (vI x0_0_0), .loaded ⟨b1, 1, none⟩ (vI x0_0_1), .loaded ⟨b1, 2, none⟩ (vI x0_0_2_0), .loaded ⟨b1, 3, none⟩ (vI x0_0_2_1), .loaded ⟨b1, 4, none⟩ (.slice A0_0_2_2 l0_0_2_2.length c0_0_2_2), .loaded ⟨b1, 5, none⟩ (vI x0_0_3_0), .loaded ⟨b1, 6, none⟩ (vI x0_0_3_1_0), .loaded ⟨b1, 7, none⟩ (vI x0_0_3_1_1), .loaded ⟨b1, 8, none⟩ (.slice A0_0_3_1_2 l0_0_3_1_2.length c0_0_3_1_2), .loaded ⟨b1, 9, none⟩ (vI x0_0_3_2_0), .loaded ⟨b1, 10, none⟩ (vI x0_0_3_2_1), .loaded ⟨b1, 11, none⟩ (.slice A0_0_3_2_2 l0_0_3_2_2.length c0_0_3_2_2), .loaded ⟨b1, 12, none⟩ (.slice A0_0_4 l0_0_4.length c0_0_4), .loaded ⟨b1, 13, none⟩ (.slice A0_0_5 l0_0_5.length c0_0_5)] ⟨hS1.c 0, hS1.c 0, hS1.c 0, hS1.c 0, hS1.c 0, hS1.c 0, hS1.c 0, hS1.c 0, hS1.c 0, hS1.c 0, hS1.c 0, hS1.c 0, hS1.c 0, hS1.c 0, trivial⟩ ?_
 refine gw (some 3) (.cells #[vI 0, vI 0, vI 0, vI 0, .slice none 0 0, vI 0, vI 0, vI 0, .slice none 0 0, vI 0, vI 0, .slice none 0 0, .slice none 0 0, .slice none 0 0] 49) (fun b => pP b 0) hS1 fun b2 w2 hx2 hS2 => ?_
 refine gs b2 0 #[vI 0, vI 0, vI 0, vI 0, .slice none 0 0, vI 0, vI 0, vI 0, .slice none 0 0, vI 0, vI 0, .slice none 0 0, .slice none 0 0, .slice none 0 0] 49 [vI x0_0_0, vI x0_0_1, vI x0_0_2_0, vI x0_0_2_1, .slice A0_0_2_2 l0_0_2_2.length c0_0_2_2, vI x0_0_3_0, vI x0_0_3_1_0, vI x0_0_3_1_1, .slice A0_0_3_1_2 l0_0_3_1_2.length c0_0_3_1_2, vI x0_0_3_2_0, vI x0_0_3_2_1, .slice A0_0_3_2_2 l0_0_3_2_2.length c0_0_3_2_2, .slice A0_0_4 l0_0_4.length c0_0_4, .slice A0_0_5 l0_0_5.length c0_0_5] hS2 fun w3 hS3 => ?_
 have hS4 := hS3.nc #[vI x0_0_0, vI x0_0_1, vI x0_0_2_0, vI x0_0_2_1, .slice A0_0_2_2 l0_0_2_2.length c0_0_2_2, vI x0_0_3_0, vI x0_0_3_1_0, vI x0_0_3_1_1, .slice A0_0_3_1_2 l0_0_3_1_2.length c0_0_3_1_2, vI x0_0_3_2_0, vI x0_0_3_2_1, .slice A0_0_3_2_2 l0_0_3_2_2.length c0_0_3_2_2, .slice A0_0_4 l0_0_4.length c0_0_4, .slice A0_0_5 l0_0_5.length c0_0_5] (by kernel_rfl)
 refine gn hK2 ?_
 refine ws fun K3 hK3 => ?_
 rcases hq1 : punctualref_wrongStatement.p0 x0_0_0 with _ | (_ | rr12)
 ·rw [hq1] at h; cases h
 ·rw [hq1] at h
  simp only [] at h
  refine we_keep (e' := [(0, .agg #[vI x0_0_0, vI x0_0_1, vI x0_0_2_0, vI x0_0_2_1, .slice A0_0_2_2 l0_0_2_2.length c0_0_2_2, vI x0_0_3_0, vI x0_0_3_1_0, vI x0_0_3_1_1, .slice A0_0_3_1_2 l0_0_3_1_2.length c0_0_3_1_2, vI x0_0_3_2_0, vI x0_0_3_2_1, .slice A0_0_3_2_2 l0_0_3_2_2.length c0_0_3_2_2, .slice A0_0_4 l0_0_4.length c0_0_4, .slice A0_0_5 l0_0_5.length c0_0_5, vI x0_1, .slice A0_2 l0_2.length c0_2]), (1, pP b1 0), (2, vI 0), (3, pP b2 0), (14, pP b1 0), (15, .agg #[vI x0_0_0, vI x0_0_1, vI x0_0_2_0, vI x0_0_2_1, .slice A0_0_2_2 l0_0_2_2.length c0_0_2_2, vI x0_0_3_0, vI x0_0_3_1_0, vI x0_0_3_1_1, .slice A0_0_3_1_2 l0_0_3_1_2.length c0_0_3_1_2, vI x0_0_3_2_0, vI x0_0_3_2_1, .slice A0_0_3_2_2 l0_0_3_2_2.length c0_0_3_2_2, .slice A0_0_4 l0_0_4.length c0_0_4, .slice A0_0_5 l0_0_5.length c0_0_5])]) ea (punctualref_wrongStatement_p0 K w0 Z x0_0_0 x0_0_1 x0_0_2_0 x0_0_2_1 l0_0_2_2 A0_0_2_2 c0_0_2_2 x0_0_3_0 x0_0_3_1_0 x0_0_3_1_1 l0_0_3_1_2 A0_0_3_1_2 c0_0_3_1_2 x0_0_3_2_0 x0_0_3_2_1 l0_0_3_2_2 A0_0_3_2_2 c0_0_3_2_2 l0_0_4 A0_0_4 c0_0_4 l0_0_5 A0_0_5 c0_0_5 x0_1 l0_2 A0_2 c0_2 hZ hR0_0_2_2 hL0_0_2_2 hR0_0_3_1_2 hL0_0_3_1_2 hR0_0_3_2_2 hL0_0_3_2_2 hR0_0_4 hL0_0_4 hR0_0_5 hL0_0_5 hR0_2 hL0_2 b1 b2 _ hq1 _ hS4 _ ?_)
  rintro _ a w4 ⟨rfl, hS9, hF⟩
  replace hS9 : St w0 w4 [Own.blk b2 (.cells #[vI x0_0_0, vI x0_0_1, vI x0_0_2_0, vI x0_0_2_1, .slice A0_0_2_2 l0_0_2_2.length c0_0_2_2, vI x0_0_3_0, vI x0_0_3_1_0, vI x0_0_3_1_1, .slice A0_0_3_1_2 l0_0_3_1_2.length c0_0_3_1_2, vI x0_0_3_2_0, vI x0_0_3_2_1, .slice A0_0_3_2_2 l0_0_3_2_2.length c0_0_3_2_2, .slice A0_0_4 l0_0_4.length c0_0_4, .slice A0_0_5 l0_0_5.length c0_0_5] 49 (0, 0)), Own.blk b1 (.cells #[vI x0_0_0, vI x0_0_1, vI x0_0_2_0, vI x0_0_2_1, .slice A0_0_2_2 l0_0_2_2.length c0_0_2_2, vI x0_0_3_0, vI x0_0_3_1_0, vI x0_0_3_1_1, .slice A0_0_3_1_2 l0_0_3_1_2.length c0_0_3_1_2, vI x0_0_3_2_0, vI x0_0_3_2_1, .slice A0_0_3_2_2 l0_0_3_2_2.length c0_0_3_2_2, .slice A0_0_4 l0_0_4.length c0_0_4, .slice A0_0_5 l0_0_5.length c0_0_5, vI x0_1, .slice A0_2 l0_2.length c0_2] 99 (0, 0))] := hS9
  refine hK3 [(1, pP b1 0), (3, pP b2 0)] w4 ?_ a hF
  refine ws fun K7 hK7 => ?_
  refine wr [(0, 1), (1, 0), (2, 0), (3, 0), (4, 0), (5, 0)] ?_
  refine gw (some 24) (.cells #[vI 0, vI 0, vI 0, vI 0, vI 0, vI 0, vI 0, vI 1] 3) (fun b => .slice (some ⟨b, 0, none⟩) 8 8) hS9 fun b3 w5 hx3 hS10 => ?_
  refine gb [1, 2] [(26, vI x0_0_0), (25, pP b2 0)] [.loaded ⟨b2, 0, none⟩ (vI x0_0_0)] ⟨hS10.c 1, trivial⟩ ?_
  by_cases hc3 : 0 ≤ x0_0_0
  ·rw [if_pos hc3] at h
   rcases hx4 : ([0, 0, 0, 0, 0, 0, 0, 1] : List Int)[(x0_0_0).toNat]? with _ | e1
   ·rw [hx4] at h; cases h
   rw [hx4] at h
   simp only [] at h
   refine gi 27 0 24 3 1 8 8 (.tmp 24) (.tmp 26) (some ⟨b3, 0, none⟩) .i64 x0_0_0 ((x0_0_0).toNat) ((hS10.rdBlk 0 ([0, 0, 0, 0, 0, 0, 0, 1] : List Int) rfl rfl rfl).eqSome (pos_of_get hx4)) (Int.toNat_of_nonneg hc3).symm (lt_of_get hx4) ?_
   refine gb [4, 5] [(4, vI e1), (28, vI e1)] [.loaded ⟨blkOf (some ⟨b3, 0, none⟩), offOf (some ⟨b3, 0, none⟩) + ((x0_0_0).toNat) * 1, none⟩ (vI e1)] ⟨RdL.cell (j := 0) (hS10.rdBlk 0 ([0, 0, 0, 0, 0, 0, 0, 1] : List Int) rfl rfl rfl) hx4 rfl, trivial⟩ ?_
   refine gn hK7 ?_
   refine ws fun K8 hK8 => ?_
   refine wr [(0, 1), (1, 0), (2, 0), (3, 0), (4, 0), (5, 0)] ?_
   refine gw (some 29) (.cells #[vI 0, vI 7, vI 3, vI 0, vI 1000, vI 1000, vI 3, vI 1000] 3) (fun b => .slice (some ⟨b, 0, none⟩) 8 8) hS10 fun b4 w6 hx5 hS11 => ?_
   refine gb [1, 2] [(31, vI x0_0_0), (30, pP b2 0)] [.loaded ⟨b2, 0, none⟩ (vI x0_0_0)] ⟨hS11.c 2, trivial⟩ ?_
   rcases hx6 : ([0, 7, 3, 0, 1000, 1000, 3, 1000] : List Int)[(x0_0_0).toNat]? with _ | e2
   ·rw [hx6] at h; cases h
   rw [hx6] at h
   simp only [] at h
   refine gi 32 0 24 3 1 8 8 (.tmp 29) (.tmp 31) (some ⟨b4, 0, none⟩) .i64 x0_0_0 ((x0_0_0).toNat) ((hS11.rdBlk 0 ([0, 7, 3, 0, 1000, 1000, 3, 1000] : List Int) rfl rfl rfl).eqSome (pos_of_get hx6)) (Int.toNat_of_nonneg hc3).symm (lt_of_get hx6) ?_
   refine gb [4, 5] [(5, vI e2), (33, vI e2)] [.loaded ⟨blkOf (some ⟨b4, 0, none⟩), offOf (some ⟨b4, 0, none⟩) + ((x0_0_0).toNat) * 1, none⟩ (vI e2)] ⟨RdL.cell (j := 0) (hS11.rdBlk 0 ([0, 7, 3, 0, 1000, 1000, 3, 1000] : List Int) rfl rfl rfl) hx6 rfl, trivial⟩ ?_
   refine gn hK8 ?_
   refine ws fun K9 hK9 => ?_
   rcases hq2 : punctualref_wrongStatement.p1 x0_0_1 e1 e2 with _ | (_ | rr11)
   ·rw [hq2] at h; cases h
   ·rw [hq2] at h
    simp only [] at h
    refine we_keep (e' := [(1, pP b1 0), (3, pP b2 0), (4, vI e1), (5, vI e2), (24, .slice (some ⟨b3, 0, none⟩) 8 8), (25, pP b2 0), (26, vI x0_0_0), (27, .pointer (some ⟨blkOf (some ⟨b3, 0, none⟩), offOf (some ⟨b3, 0, none⟩) + (x0_0_0).toNat * 1, none⟩)), (28, vI e1), (29, .slice (some ⟨b4, 0, none⟩) 8 8), (30, pP b2 0), (31, vI x0_0_0), (32, .pointer (some ⟨blkOf (some ⟨b4, 0, none⟩), offOf (some ⟨b4, 0, none⟩) + (x0_0_0).toNat * 1, none⟩)), (33, vI e2)]) ea (punctualref_wrongStatement_p1 K w0 Z x0_0_0 x0_0_1 x0_0_2_0 x0_0_2_1 l0_0_2_2 A0_0_2_2 c0_0_2_2 x0_0_3_0 x0_0_3_1_0 x0_0_3_1_1 l0_0_3_1_2 A0_0_3_1_2 c0_0_3_1_2 x0_0_3_2_0 x0_0_3_2_1 l0_0_3_2_2 A0_0_3_2_2 c0_0_3_2_2 l0_0_4 A0_0_4 c0_0_4 l0_0_5 A0_0_5 c0_0_5 x0_1 l0_2 A0_2 c0_2 hZ hR0_0_2_2 hL0_0_2_2 hR0_0_3_1_2 hL0_0_3_1_2 hR0_0_3_2_2 hL0_0_3_2_2 hR0_0_4 hL0_0_4 hR0_0_5 hL0_0_5 hR0_2 hL0_2 b1 b2 b3 hc3 e1 hx4 b4 e2 hx6 _ hq2 _ hS11 _ ?_)
    rintro _ a w7 ⟨rfl, hS17, hF⟩
    replace hS17 : St w0 w7 [Own.blk b2 (.cells #[vI x0_0_0, vI x0_0_1, vI x0_0_2_0, vI x0_0_2_1, .slice A0_0_2_2 l0_0_2_2.length c0_0_2_2, vI x0_0_3_0, vI x0_0_3_1_0, vI x0_0_3_1_1, .slice A0_0_3_1_2 l0_0_3_1_2.length c0_0_3_1_2, vI x0_0_3_2_0, vI x0_0_3_2_1, .slice A0_0_3_2_2 l0_0_3_2_2.length c0_0_3_2_2, .slice A0_0_4 l0_0_4.length c0_0_4, .slice A0_0_5 l0_0_5.length c0_0_5] 49 (0, 0)), Own.blk b1 (.cells #[vI x0_0_0, vI x0_0_1, vI x0_0_2_0, vI x0_0_2_1, .slice A0_0_2_2 l0_0_2_2.length c0_0_2_2, vI x0_0_3_0, vI x0_0_3_1_0, vI x0_0_3_1_1, .slice A0_0_3_1_2 l0_0_3_1_2.length c0_0_3_1_2, vI x0_0_3_2_0, vI x0_0_3_2_1, .slice A0_0_3_2_2 l0_0_3_2_2.length c0_0_3_2_2, .slice A0_0_4 l0_0_4.length c0_0_4, .slice A0_0_5 l0_0_5.length c0_0_5, vI x0_1, .slice A0_2 l0_2.length c0_2] 99 (0, 0))] := hS17
    refine hK9 [(1, pP b1 0), (3, pP b2 0)] w7 ?_ a hF
    refine ws fun K13 hK13 => ?_
    rcases hq3 : punctualref_wrongStatement.p2 x0_0_0 with _ | (q2 | rr10)
    ·rw [hq3] at h; cases h
    ·rw [hq3] at h
     simp only [] at h
     refine we_keep (e' := [(1, pP b1 0), (3, pP b2 0)]) ea (punctualref_wrongStatement_p2 K w0 Z x0_0_0 x0_0_1 x0_0_2_0 x0_0_2_1 l0_0_2_2 A0_0_2_2 c0_0_2_2 x0_0_3_0 x0_0_3_1_0 x0_0_3_1_1 l0_0_3_1_2 A0_0_3_1_2 c0_0_3_1_2 x0_0_3_2_0 x0_0_3_2_1 l0_0_3_2_2 A0_0_3_2_2 c0_0_3_2_2 l0_0_4 A0_0_4 c0_0_4 l0_0_5 A0_0_5 c0_0_5 x0_1 l0_2 A0_2 c0_2 hZ hR0_0_2_2 hL0_0_2_2 hR0_0_3_1_2 hL0_0_3_1_2 hR0_0_3_2_2 hL0_0_3_2_2 hR0_0_4 hL0_0_4 hR0_0_5 hL0_0_5 hR0_2 hL0_2 b1 b2 b3 hc3 e1 hx4 b4 e2 hx6 _ hq3 _ hS17 _ ?_)
     rintro _ a w8 ⟨rfl, hS22, hF⟩
     replace hS22 : St w0 w8 [Own.blk b2 (.cells #[vI x0_0_0, vI x0_0_1, vI x0_0_2_0, vI x0_0_2_1, .slice A0_0_2_2 l0_0_2_2.length c0_0_2_2, vI x0_0_3_0, vI x0_0_3_1_0, vI x0_0_3_1_1, .slice A0_0_3_1_2 l0_0_3_1_2.length c0_0_3_1_2, vI x0_0_3_2_0, vI x0_0_3_2_1, .slice A0_0_3_2_2 l0_0_3_2_2.length c0_0_3_2_2, .slice A0_0_4 l0_0_4.length c0_0_4, .slice A0_0_5 l0_0_5.length c0_0_5] 49 (0, 0)), Own.blk b1 (.cells #[vI x0_0_0, vI x0_0_1, vI x0_0_2_0, vI x0_0_2_1, .slice A0_0_2_2 l0_0_2_2.length c0_0_2_2, vI x0_0_3_0, vI x0_0_3_1_0, vI x0_0_3_1_1, .slice A0_0_3_1_2 l0_0_3_1_2.length c0_0_3_1_2, vI x0_0_3_2_0, vI x0_0_3_2_1, .slice A0_0_3_2_2 l0_0_3_2_2.length c0_0_3_2_2, .slice A0_0_4 l0_0_4.length c0_0_4, .slice A0_0_5 l0_0_5.length c0_0_5, vI x0_1, .slice A0_2 l0_2.length c0_2] 99 (0, 0))] := hS22
     refine hK13 [(1, pP b1 0), (3, pP b2 0), (6, .bool q2)] w8 ?_ a hF
     refine ws fun K14 hK14 => ?_
     rcases hq4 : punctualref_wrongStatement.p3 x0_0_0 with _ | (q4 | rr9)
     ·rw [hq4] at h; cases h
     ·rw [hq4] at h
      simp only [] at h
      refine we_keep (e' := [(1, pP b1 0), (3, pP b2 0), (6, .bool q2)]) ea (punctualref_wrongStatement_p3 K w0 Z x0_0_0 x0_0_1 x0_0_2_0 x0_0_2_1 l0_0_2_2 A0_0_2_2 c0_0_2_2 x0_0_3_0 x0_0_3_1_0 x0_0_3_1_1 l0_0_3_1_2 A0_0_3_1_2 c0_0_3_1_2 x0_0_3_2_0 x0_0_3_2_1 l0_0_3_2_2 A0_0_3_2_2 c0_0_3_2_2 l0_0_4 A0_0_4 c0_0_4 l0_0_5 A0_0_5 c0_0_5 x0_1 l0_2 A0_2 c0_2 hZ hR0_0_2_2 hL0_0_2_2 hR0_0_3_1_2 hL0_0_3_1_2 hR0_0_3_2_2 hL0_0_3_2_2 hR0_0_4 hL0_0_4 hR0_0_5 hL0_0_5 hR0_2 hL0_2 b1 b2 b3 hc3 e1 hx4 b4 e2 hx6 q2 _ hq4 _ hS22 _ ?_)
      rintro _ a w9 ⟨rfl, hS27, hF⟩
      replace hS27 : St w0 w9 [Own.blk b2 (.cells #[vI x0_0_0, vI x0_0_1, vI x0_0_2_0, vI x0_0_2_1, .slice A0_0_2_2 l0_0_2_2.length c0_0_2_2, vI x0_0_3_0, vI x0_0_3_1_0, vI x0_0_3_1_1, .slice A0_0_3_1_2 l0_0_3_1_2.length c0_0_3_1_2, vI x0_0_3_2_0, vI x0_0_3_2_1, .slice A0_0_3_2_2 l0_0_3_2_2.length c0_0_3_2_2, .slice A0_0_4 l0_0_4.length c0_0_4, .slice A0_0_5 l0_0_5.length c0_0_5] 49 (0, 0)), Own.blk b1 (.cells #[vI x0_0_0, vI x0_0_1, vI x0_0_2_0, vI x0_0_2_1, .slice A0_0_2_2 l0_0_2_2.length c0_0_2_2, vI x0_0_3_0, vI x0_0_3_1_0, vI x0_0_3_1_1, .slice A0_0_3_1_2 l0_0_3_1_2.length c0_0_3_1_2, vI x0_0_3_2_0, vI x0_0_3_2_1, .slice A0_0_3_2_2 l0_0_3_2_2.length c0_0_3_2_2, .slice A0_0_4 l0_0_4.length c0_0_4, .slice A0_0_5 l0_0_5.length c0_0_5, vI x0_1, .slice A0_2 l0_2.length c0_2] 99 (0, 0))] := hS27
      refine hK14 [(1, pP b1 0), (3, pP b2 0), (6, .bool q2), (7, .bool q4)] w9 ?_ a hF
      refine ws fun K15 hK15 => ?_
      rcases hq5 : punctualref_wrongStatement.p4 x0_0_0 with _ | (q6 | rr8)
      ·rw [hq5] at h; cases h
      ·rw [hq5] at h
       simp only [] at h
       refine we_keep (e' := [(1, pP b1 0), (3, pP b2 0), (6, .bool q2), (7, .bool q4)]) ea (punctualref_wrongStatement_p4 K w0 Z x0_0_0 x0_0_1 x0_0_2_0 x0_0_2_1 l0_0_2_2 A0_0_2_2 c0_0_2_2 x0_0_3_0 x0_0_3_1_0 x0_0_3_1_1 l0_0_3_1_2 A0_0_3_1_2 c0_0_3_1_2 x0_0_3_2_0 x0_0_3_2_1 l0_0_3_2_2 A0_0_3_2_2 c0_0_3_2_2 l0_0_4 A0_0_4 c0_0_4 l0_0_5 A0_0_5 c0_0_5 x0_1 l0_2 A0_2 c0_2 hZ hR0_0_2_2 hL0_0_2_2 hR0_0_3_1_2 hL0_0_3_1_2 hR0_0_3_2_2 hL0_0_3_2_2 hR0_0_4 hL0_0_4 hR0_0_5 hL0_0_5 hR0_2 hL0_2 b1 b2 b3 hc3 e1 hx4 b4 e2 hx6 q2 q4 _ hq5 _ hS27 _ ?_)
       rintro _ a w10 ⟨rfl, hS32, hF⟩
       replace hS32 : St w0 w10 [Own.blk b2 (.cells #[vI x0_0_0, vI x0_0_1, vI x0_0_2_0, vI x0_0_2_1, .slice A0_0_2_2 l0_0_2_2.length c0_0_2_2, vI x0_0_3_0, vI x0_0_3_1_0, vI x0_0_3_1_1, .slice A0_0_3_1_2 l0_0_3_1_2.length c0_0_3_1_2, vI x0_0_3_2_0, vI x0_0_3_2_1, .slice A0_0_3_2_2 l0_0_3_2_2.length c0_0_3_2_2, .slice A0_0_4 l0_0_4.length c0_0_4, .slice A0_0_5 l0_0_5.length c0_0_5] 49 (0, 0)), Own.blk b1 (.cells #[vI x0_0_0, vI x0_0_1, vI x0_0_2_0, vI x0_0_2_1, .slice A0_0_2_2 l0_0_2_2.length c0_0_2_2, vI x0_0_3_0, vI x0_0_3_1_0, vI x0_0_3_1_1, .slice A0_0_3_1_2 l0_0_3_1_2.length c0_0_3_1_2, vI x0_0_3_2_0, vI x0_0_3_2_1, .slice A0_0_3_2_2 l0_0_3_2_2.length c0_0_3_2_2, .slice A0_0_4 l0_0_4.length c0_0_4, .slice A0_0_5 l0_0_5.length c0_0_5, vI x0_1, .slice A0_2 l0_2.length c0_2] 99 (0, 0))] := hS32
       refine hK15 [(1, pP b1 0), (3, pP b2 0), (6, .bool q2), (7, .bool q4), (8, .bool q6)] w10 ?_ a hF
       refine ws fun K16 hK16 => ?_
       rcases hq7 : punctualref_wrongStatement.p5 x0_0_2_0 x0_0_2_1 l0_0_2_2 q2 with _ | (_ | rr7)
       ·rw [hq7] at h; cases h
       ·rw [hq7] at h
        simp only [] at h
        refine we_keep (e' := [(1, pP b1 0), (3, pP b2 0), (6, .bool q2), (7, .bool q4), (8, .bool q6)]) ea (punctualref_wrongStatement_p5 K w0 Z x0_0_0 x0_0_1 x0_0_2_0 x0_0_2_1 l0_0_2_2 A0_0_2_2 c0_0_2_2 x0_0_3_0 x0_0_3_1_0 x0_0_3_1_1 l0_0_3_1_2 A0_0_3_1_2 c0_0_3_1_2 x0_0_3_2_0 x0_0_3_2_1 l0_0_3_2_2 A0_0_3_2_2 c0_0_3_2_2 l0_0_4 A0_0_4 c0_0_4 l0_0_5 A0_0_5 c0_0_5 x0_1 l0_2 A0_2 c0_2 hZ hR0_0_2_2 hL0_0_2_2 hR0_0_3_1_2 hL0_0_3_1_2 hR0_0_3_2_2 hL0_0_3_2_2 hR0_0_4 hL0_0_4 hR0_0_5 hL0_0_5 hR0_2 hL0_2 b1 b2 b3 hc3 e1 hx4 b4 e2 hx6 q2 q4 q6 _ hq7 _ hS32 _ ?_)
        rintro _ a w12 ⟨rfl, hS40, hF⟩
        replace hS40 : St w0 w12 [Own.blk b2 (.cells #[vI x0_0_0, vI x0_0_1, vI x0_0_2_0, vI x0_0_2_1, .slice A0_0_2_2 l0_0_2_2.length c0_0_2_2, vI x0_0_3_0, vI x0_0_3_1_0, vI x0_0_3_1_1, .slice A0_0_3_1_2 l0_0_3_1_2.length c0_0_3_1_2, vI x0_0_3_2_0, vI x0_0_3_2_1, .slice A0_0_3_2_2 l0_0_3_2_2.length c0_0_3_2_2, .slice A0_0_4 l0_0_4.length c0_0_4, .slice A0_0_5 l0_0_5.length c0_0_5] 49 (0, 0)), Own.blk b1 (.cells #[vI x0_0_0, vI x0_0_1, vI x0_0_2_0, vI x0_0_2_1, .slice A0_0_2_2 l0_0_2_2.length c0_0_2_2, vI x0_0_3_0, vI x0_0_3_1_0, vI x0_0_3_1_1, .slice A0_0_3_1_2 l0_0_3_1_2.length c0_0_3_1_2, vI x0_0_3_2_0, vI x0_0_3_2_1, .slice A0_0_3_2_2 l0_0_3_2_2.length c0_0_3_2_2, .slice A0_0_4 l0_0_4.length c0_0_4, .slice A0_0_5 l0_0_5.length c0_0_5, vI x0_1, .slice A0_2 l0_2.length c0_2] 99 (0, 0))] := hS40
        refine hK16 [(1, pP b1 0), (3, pP b2 0), (6, .bool q2), (7, .bool q4), (8, .bool q6)] w12 ?_ a hF
        refine ws fun K19 hK19 => ?_
        rcases hq10 : punctualref_wrongStatement.p6 x0_0_3_0 x0_0_3_1_0 x0_0_3_1_1 l0_0_3_1_2 x0_0_3_2_0 x0_0_3_2_1 l0_0_3_2_2 q4 with _ | (_ | rr6)
        ·rw [hq10] at h; cases h
        ·rw [hq10] at h
         simp only [] at h
         refine we_keep (e' := [(1, pP b1 0), (3, pP b2 0), (6, .bool q2), (7, .bool q4), (8, .bool q6)]) ea (punctualref_wrongStatement_p6 K w0 Z x0_0_0 x0_0_1 x0_0_2_0 x0_0_2_1 l0_0_2_2 A0_0_2_2 c0_0_2_2 x0_0_3_0 x0_0_3_1_0 x0_0_3_1_1 l0_0_3_1_2 A0_0_3_1_2 c0_0_3_1_2 x0_0_3_2_0 x0_0_3_2_1 l0_0_3_2_2 A0_0_3_2_2 c0_0_3_2_2 l0_0_4 A0_0_4 c0_0_4 l0_0_5 A0_0_5 c0_0_5 x0_1 l0_2 A0_2 c0_2 hZ hR0_0_2_2 hL0_0_2_2 hR0_0_3_1_2 hL0_0_3_1_2 hR0_0_3_2_2 hL0_0_3_2_2 hR0_0_4 hL0_0_4 hR0_0_5 hL0_0_5 hR0_2 hL0_2 b1 b2 b3 hc3 e1 hx4 b4 e2 hx6 q2 q4 q6 _ hq10 _ hS40 _ ?_)
         rintro _ a w15 ⟨rfl, hS52, hF⟩
         replace hS52 : St w0 w15 [Own.blk b2 (.cells #[vI x0_0_0, vI x0_0_1, vI x0_0_2_0, vI x0_0_2_1, .slice A0_0_2_2 l0_0_2_2.length c0_0_2_2, vI x0_0_3_0, vI x0_0_3_1_0, vI x0_0_3_1_1, .slice A0_0_3_1_2 l0_0_3_1_2.length c0_0_3_1_2, vI x0_0_3_2_0, vI x0_0_3_2_1, .slice A0_0_3_2_2 l0_0_3_2_2.length c0_0_3_2_2, .slice A0_0_4 l0_0_4.length c0_0_4, .slice A0_0_5 l0_0_5.length c0_0_5] 49 (0, 0)), Own.blk b1 (.cells #[vI x0_0_0, vI x0_0_1, vI x0_0_2_0, vI x0_0_2_1, .slice A0_0_2_2 l0_0_2_2.length c0_0_2_2, vI x0_0_3_0, vI x0_0_3_1_0, vI x0_0_3_1_1, .slice A0_0_3_1_2 l0_0_3_1_2.length c0_0_3_1_2, vI x0_0_3_2_0, vI x0_0_3_2_1, .slice A0_0_3_2_2 l0_0_3_2_2.length c0_0_3_2_2, .slice A0_0_4 l0_0_4.length c0_0_4, .slice A0_0_5 l0_0_5.length c0_0_5, vI x0_1, .slice A0_2 l0_2.length c0_2] 99 (0, 0))] := hS52
         refine hK19 [(1, pP b1 0), (3, pP b2 0), (6, .bool q2), (7, .bool q4), (8, .bool q6)] w15 ?_ a hF
         refine ws fun K24 hK24 => ?_
         rcases hq11 : punctualref_wrongStatement.p7 x0_0_0 l0_0_4 l0_0_5 q6 with _ | (_ | rr5)
         ·rw [hq11] at h; cases h
         ·rw [hq11] at h
          simp only [] at h
          refine we_keep (e' := [(1, pP b1 0), (3, pP b2 0), (6, .bool q2), (7, .bool q4), (8, .bool q6)]) ea (punctualref_wrongStatement_p7 K w0 Z x0_0_0 x0_0_1 x0_0_2_0 x0_0_2_1 l0_0_2_2 A0_0_2_2 c0_0_2_2 x0_0_3_0 x0_0_3_1_0 x0_0_3_1_1 l0_0_3_1_2 A0_0_3_1_2 c0_0_3_1_2 x0_0_3_2_0 x0_0_3_2_1 l0_0_3_2_2 A0_0_3_2_2 c0_0_3_2_2 l0_0_4 A0_0_4 c0_0_4 l0_0_5 A0_0_5 c0_0_5 x0_1 l0_2 A0_2 c0_2 hZ hR0_0_2_2 hL0_0_2_2 hR0_0_3_1_2 hL0_0_3_1_2 hR0_0_3_2_2 hL0_0_3_2_2 hR0_0_4 hL0_0_4 hR0_0_5 hL0_0_5 hR0_2 hL0_2 b1 b2 b3 hc3 e1 hx4 b4 e2 hx6 q2 q4 q6 _ hq11 _ hS52 _ ?_)
          rintro _ a w16 ⟨rfl, hS64, hF⟩
          replace hS64 : St w0 w16 [Own.blk b2 (.cells #[vI x0_0_0, vI x0_0_1, vI x0_0_2_0, vI x0_0_2_1, .slice A0_0_2_2 l0_0_2_2.length c0_0_2_2, vI x0_0_3_0, vI x0_0_3_1_0, vI x0_0_3_1_1, .slice A0_0_3_1_2 l0_0_3_1_2.length c0_0_3_1_2, vI x0_0_3_2_0, vI x0_0_3_2_1, .slice A0_0_3_2_2 l0_0_3_2_2.length c0_0_3_2_2, .slice A0_0_4 l0_0_4.length c0_0_4, .slice A0_0_5 l0_0_5.length c0_0_5] 49 (0, 0)), Own.blk b1 (.cells #[vI x0_0_0, vI x0_0_1, vI x0_0_2_0, vI x0_0_2_1, .slice A0_0_2_2 l0_0_2_2.length c0_0_2_2, vI x0_0_3_0, vI x0_0_3_1_0, vI x0_0_3_1_1, .slice A0_0_3_1_2 l0_0_3_1_2.length c0_0_3_1_2, vI x0_0_3_2_0, vI x0_0_3_2_1, .slice A0_0_3_2_2 l0_0_3_2_2.length c0_0_3_2_2, .slice A0_0_4 l0_0_4.length c0_0_4, .slice A0_0_5 l0_0_5.length c0_0_5, vI x0_1, .slice A0_2 l0_2.length c0_2] 99 (0, 0))] := hS64
          refine hK24 [(1, pP b1 0), (3, pP b2 0), (6, .bool q2), (7, .bool q4), (8, .bool q6)] w16 ?_ a hF
          refine ws fun K29 hK29 => ?_
          rcases hq13 : punctualref_wrongStatement.p8 K x0_0_2_0 x0_0_2_1 l0_0_2_2 q2 with _ | (_ | rr4)
          ·rw [hq13] at h; cases h
          ·rw [hq13] at h
           simp only [] at h
           refine we_keep (e' := [(1, pP b1 0), (3, pP b2 0), (6, .bool q2), (7, .bool q4), (8, .bool q6)]) ea (punctualref_wrongStatement_p8 K w0 Z x0_0_0 x0_0_1 x0_0_2_0 x0_0_2_1 l0_0_2_2 A0_0_2_2 c0_0_2_2 x0_0_3_0 x0_0_3_1_0 x0_0_3_1_1 l0_0_3_1_2 A0_0_3_1_2 c0_0_3_1_2 x0_0_3_2_0 x0_0_3_2_1 l0_0_3_2_2 A0_0_3_2_2 c0_0_3_2_2 l0_0_4 A0_0_4 c0_0_4 l0_0_5 A0_0_5 c0_0_5 x0_1 l0_2 A0_2 c0_2 hZ hR0_0_2_2 hL0_0_2_2 hR0_0_3_1_2 hL0_0_3_1_2 hR0_0_3_2_2 hL0_0_3_2_2 hR0_0_4 hL0_0_4 hR0_0_5 hL0_0_5 hR0_2 hL0_2 b1 b2 b3 hc3 e1 hx4 b4 e2 hx6 q2 q4 q6 _ hq13 _ hS64 _ ?_)
           rintro _ a w18 ⟨rfl, hS72, hF⟩
           replace hS72 : St w0 w18 [Own.blk b2 (.cells #[vI x0_0_0, vI x0_0_1, vI x0_0_2_0, vI x0_0_2_1, .slice A0_0_2_2 l0_0_2_2.length c0_0_2_2, vI x0_0_3_0, vI x0_0_3_1_0, vI x0_0_3_1_1, .slice A0_0_3_1_2 l0_0_3_1_2.length c0_0_3_1_2, vI x0_0_3_2_0, vI x0_0_3_2_1, .slice A0_0_3_2_2 l0_0_3_2_2.length c0_0_3_2_2, .slice A0_0_4 l0_0_4.length c0_0_4, .slice A0_0_5 l0_0_5.length c0_0_5] 49 (0, 0)), Own.blk b1 (.cells #[vI x0_0_0, vI x0_0_1, vI x0_0_2_0, vI x0_0_2_1, .slice A0_0_2_2 l0_0_2_2.length c0_0_2_2, vI x0_0_3_0, vI x0_0_3_1_0, vI x0_0_3_1_1, .slice A0_0_3_1_2 l0_0_3_1_2.length c0_0_3_1_2, vI x0_0_3_2_0, vI x0_0_3_2_1, .slice A0_0_3_2_2 l0_0_3_2_2.length c0_0_3_2_2, .slice A0_0_4 l0_0_4.length c0_0_4, .slice A0_0_5 l0_0_5.length c0_0_5, vI x0_1, .slice A0_2 l0_2.length c0_2] 99 (0, 0))] := hS72
           refine hK29 [(1, pP b1 0), (3, pP b2 0), (7, .bool q4), (8, .bool q6)] w18 ?_ a hF
           refine ws fun K34 hK34 => ?_
           rcases hq16 : punctualref_wrongStatement.p9 K x0_0_3_0 x0_0_3_1_0 x0_0_3_1_1 l0_0_3_1_2 x0_0_3_2_0 x0_0_3_2_1 l0_0_3_2_2 q4 with _ | (_ | rr3)
           ·rw [hq16] at h; cases h
           ·rw [hq16] at h
            simp only [] at h
            refine we_keep (e' := [(1, pP b1 0), (3, pP b2 0), (7, .bool q4), (8, .bool q6)]) ea (punctualref_wrongStatement_p9 K w0 Z x0_0_0 x0_0_1 x0_0_2_0 x0_0_2_1 l0_0_2_2 A0_0_2_2 c0_0_2_2 x0_0_3_0 x0_0_3_1_0 x0_0_3_1_1 l0_0_3_1_2 A0_0_3_1_2 c0_0_3_1_2 x0_0_3_2_0 x0_0_3_2_1 l0_0_3_2_2 A0_0_3_2_2 c0_0_3_2_2 l0_0_4 A0_0_4 c0_0_4 l0_0_5 A0_0_5 c0_0_5 x0_1 l0_2 A0_2 c0_2 hZ hR0_0_2_2 hL0_0_2_2 hR0_0_3_1_2 hL0_0_3_1_2 hR0_0_3_2_2 hL0_0_3_2_2 hR0_0_4 hL0_0_4 hR0_0_5 hL0_0_5 hR0_2 hL0_2 b1 b2 b3 hc3 e1 hx4 b4 e2 hx6 q2 q4 q6 _ hq16 _ hS72 _ ?_)
            rintro _ a w21 ⟨rfl, hS85, hF⟩
            replace hS85 : St w0 w21 [Own.blk b2 (.cells #[vI x0_0_0, vI x0_0_1, vI x0_0_2_0, vI x0_0_2_1, .slice A0_0_2_2 l0_0_2_2.length c0_0_2_2, vI x0_0_3_0, vI x0_0_3_1_0, vI x0_0_3_1_1, .slice A0_0_3_1_2 l0_0_3_1_2.length c0_0_3_1_2, vI x0_0_3_2_0, vI x0_0_3_2_1, .slice A0_0_3_2_2 l0_0_3_2_2.length c0_0_3_2_2, .slice A0_0_4 l0_0_4.length c0_0_4, .slice A0_0_5 l0_0_5.length c0_0_5] 49 (0, 0)), Own.blk b1 (.cells #[vI x0_0_0, vI x0_0_1, vI x0_0_2_0, vI x0_0_2_1, .slice A0_0_2_2 l0_0_2_2.length c0_0_2_2, vI x0_0_3_0, vI x0_0_3_1_0, vI x0_0_3_1_1, .slice A0_0_3_1_2 l0_0_3_1_2.length c0_0_3_1_2, vI x0_0_3_2_0, vI x0_0_3_2_1, .slice A0_0_3_2_2 l0_0_3_2_2.length c0_0_3_2_2, .slice A0_0_4 l0_0_4.length c0_0_4, .slice A0_0_5 l0_0_5.length c0_0_5, vI x0_1, .slice A0_2 l0_2.length c0_2] 99 (0, 0))] := hS85
            refine hK34 [(1, pP b1 0), (3, pP b2 0), (8, .bool q6)] w21 ?_ a hF
            refine ws fun K47 hK47 => ?_
            refine ws fun K48 hK48 => ?_
            refine wr [(0, 0), (1, 0), (2, 0), (3, 0), (4, 0), (5, 0)] ?_
            refine gb0 [0, 1] [(150, .bool q6), (149, .bool q6)] ?_
            by_cases hc28 : q6 = true
            ·rw [if_pos hc28] at h
             refine gk 150 q6 true hc28 ?_
             refine gb [2, 3, 4, 5] [(154, .bool (decide (x0_1 ≥ 6))), (153, .bool (decide (x0_1 ≥ 6))), (152, vI x0_1), (151, pP b1 14)] [.loaded ⟨b1, 14, none⟩ (vI x0_1)] ⟨hS85.c 1, trivial⟩ ?_
             refine gn hK48 ?_
             by_cases hc29 : x0_1 ≥ 6
             ·rw [if_pos hc29] at h
              refine wk 154 (decide (x0_1 ≥ 6)) true (decide_eq_true hc29) ?_
              refine we_true (by kernel_rfl) ?_
              refine ws fun K49 hK49 => ?_
              refine wr [(0, 0)] ?_
              refine gb0 [0] [(2, vI 2)] ?_
              refine gn hK49 ?_
              have hS86 := hS85.takeN 0
              obtain rfl := si h
              exact we_ret (pr0 [.tmp 2] [vI 2] ⟨rfl, hS86⟩)
             ·rw [if_neg hc29] at h
              refine wk 154 (decide (x0_1 ≥ 6)) false (decide_eq_false hc29) ?_
              refine we_false (by kernel_rfl) ?_
              refine we_skip fun a hF => hK47 _ _ ?_ a hF
              refine ws fun K50 hK50 => ?_
              refine ws fun K51 hK51 => ?_
              refine wr [(0, 0), (1, 0), (2, 0)] ?_
              refine gb [0, 1, 2] [(157, .bool (x0_0_0 == 6)), (156, vI x0_0_0), (155, pP b2 0)] [.loaded ⟨b2, 0, none⟩ (vI x0_0_0)] ⟨hS85.c 0, trivial⟩ ?_
              refine gn hK51 ?_
              by_cases hc30 : x0_0_0 = 6
              ·rw [if_pos hc30] at h
               refine wk 157 (x0_0_0 == 6) true (beq_iff_eq.2 hc30) ?_
               refine we_true (by kernel_rfl) ?_
               refine ws fun K52 hK52 => ?_
               refine wr [(0, 0), (1, 0), (2, 0), (3, 0)] ?_
               refine gb [0, 1, 2, 3] [(161, vI 0), (160, vI (l0_2.length : Int)), (159, .slice A0_2 l0_2.length c0_2), (158, pP b1 15)] [.loaded ⟨b1, 15, none⟩ (.slice A0_2 l0_2.length c0_2)] ⟨hS85.c 1, trivial⟩ ?_
               refine gn hK52 ?_
               refine we_block ?_
               have hS87 := hS85.takeN 1
               rcases hq17 : iter (punctualref_wrongStatement.r10 x0_0_1 l0_2) K 0 with _ | (_ | rr1)
               ·rw [hq17] at h; cases h
               ·rw [hq17] at h
                simp only [] at h
                refine we_iter (A := punctualref_wrongStatement.A10 w0 x0_0_0 x0_0_1 x0_0_2_0 x0_0_2_1 l0_0_2_2 A0_0_2_2 c0_0_2_2 x0_0_3_0 x0_0_3_1_0 x0_0_3_1_1 l0_0_3_1_2 A0_0_3_1_2 c0_0_3_1_2 x0_0_3_2_0 x0_0_3_2_1 l0_0_3_2_2 A0_0_3_2_2 c0_0_3_2_2 l0_0_4 A0_0_4 c0_0_4 l0_0_5 A0_0_5 c0_0_5 l0_2 A0_2 c0_2 b2) (B := punctualref_wrongStatement.B10 w0) hq17 (fun a hF => ⟨hS87, hF.weaken ea⟩) (fun s o hf a w hA Q hQ => punctualref_wrongStatement_r10 K w0 Z x0_0_0 x0_0_1 x0_0_2_0 x0_0_2_1 l0_0_2_2 A0_0_2_2 c0_0_2_2 x0_0_3_0 x0_0_3_1_0 x0_0_3_1_1 l0_0_3_1_2 A0_0_3_1_2 c0_0_3_1_2 x0_0_3_2_0 x0_0_3_2_1 l0_0_3_2_2 A0_0_3_2_2 c0_0_3_2_2 l0_0_4 A0_0_4 c0_0_4 l0_0_5 A0_0_5 c0_0_5 x0_1 l0_2 A0_2 c0_2 hZ hR0_0_2_2 hL0_0_2_2 hR0_0_3_1_2 hL0_0_3_1_2 hR0_0_3_2_2 hL0_0_3_2_2 hR0_0_4 hL0_0_4 hR0_0_5 hL0_0_5 hR0_2 hL0_2 b1 b2 b3 hc3 e1 hx4 b4 e2 hx6 q2 q4 q6 hc28 hc29 hc30 s o hf a w hA Q hQ) ?_
                rintro _ a w22 _ ⟨rfl, hS90, hF⟩
                replace hS90 : St w0 w22 [] := hS90
                refine hK50 [] w22 ?_ a hF
                refine ws fun K59 hK59 => ?_
                refine wr [(0, 0)] ?_
                refine gb0 [0] [(2, vI 0)] ?_
                refine gn hK59 ?_
                obtain rfl := si h
                exact we_ret (pr0 [.tmp 2] [vI 0] ⟨rfl, hS90⟩)
               ·rw [hq17] at h
                simp only [] at h
                refine we_iter (A := punctualref_wrongStatement.A10 w0 x0_0_0 x0_0_1 x0_0_2_0 x0_0_2_1 l0_0_2_2 A0_0_2_2 c0_0_2_2 x0_0_3_0 x0_0_3_1_0 x0_0_3_1_1 l0_0_3_1_2 A0_0_3_1_2 c0_0_3_1_2 x0_0_3_2_0 x0_0_3_2_1 l0_0_3_2_2 A0_0_3_2_2 c0_0_3_2_2 l0_0_4 A0_0_4 c0_0_4 l0_0_5 A0_0_5 c0_0_5 l0_2 A0_2 c0_2 b2) (B := punctualref_wrongStatement.B10 w0) hq17 (fun a hF => ⟨hS87, hF.weaken ea⟩) (fun s o hf a w hA Q hQ => punctualref_wrongStatement_r10 K w0 Z x0_0_0 x0_0_1 x0_0_2_0 x0_0_2_1 l0_0_2_2 A0_0_2_2 c0_0_2_2 x0_0_3_0 x0_0_3_1_0 x0_0_3_1_1 l0_0_3_1_2 A0_0_3_1_2 c0_0_3_1_2 x0_0_3_2_0 x0_0_3_2_1 l0_0_3_2_2 A0_0_3_2_2 c0_0_3_2_2 l0_0_4 A0_0_4 c0_0_4 l0_0_5 A0_0_5 c0_0_5 x0_1 l0_2 A0_2 c0_2 hZ hR0_0_2_2 hL0_0_2_2 hR0_0_3_1_2 hL0_0_3_1_2 hR0_0_3_2_2 hL0_0_3_2_2 hR0_0_4 hL0_0_4 hR0_0_5 hL0_0_5 hR0_2 hL0_2 b1 b2 b3 hc3 e1 hx4 b4 e2 hx6 q2 q4 q6 hc28 hc29 hc30 s o hf a w hA Q hQ) ?_
                rintro _ a w1 _ ⟨rfl, hb⟩
                obtain rfl := si h
                exact hb
              ·rw [if_neg hc30] at h
               refine wk 157 (x0_0_0 == 6) false (beq_eq_false_iff_ne.2 hc30) ?_
               refine we_false (by kernel_rfl) ?_
               refine we_skip fun a hF => hK50 _ _ ?_ a hF
               refine ws fun K60 hK60 => ?_
               refine wr [(0, 0)] ?_
               refine gb0 [0] [(2, vI 0)] ?_
               refine gn hK60 ?_
               have hS91 := hS85.takeN 0
               obtain rfl := si h
               exact we_ret (pr0 [.tmp 2] [vI 0] ⟨rfl, hS91⟩)
            ·rw [if_neg hc28] at h
             refine gk 150 q6 false (Bool.eq_false_iff.2 hc28) ?_
             refine gb0 [2, 3, 4, 5] [(154, .bool false), (153, undef), (152, undef), (151, undef)] ?_
             refine gn hK48 ?_
             refine we_false (by kernel_rfl) ?_
             refine we_skip fun a hF => hK47 _ _ ?_ a hF
             refine ws fun K61 hK61 => ?_
             refine ws fun K62 hK62 => ?_
             refine wr [(0, 0), (1, 0), (2, 0)] ?_
             refine gb [0, 1, 2] [(157, .bool (x0_0_0 == 6)), (156, vI x0_0_0), (155, pP b2 0)] [.loaded ⟨b2, 0, none⟩ (vI x0_0_0)] ⟨hS85.c 0, trivial⟩ ?_
             refine gn hK62 ?_
             by_cases hc33 : x0_0_0 = 6
             ·rw [if_pos hc33] at h
              refine wk 157 (x0_0_0 == 6) true (beq_iff_eq.2 hc33) ?_
              refine we_true (by kernel_rfl) ?_
              refine ws fun K63 hK63 => ?_
              refine wr [(0, 0), (1, 0), (2, 0), (3, 0)] ?_
              refine gb [0, 1, 2, 3] [(161, vI 0), (160, vI (l0_2.length : Int)), (159, .slice A0_2 l0_2.length c0_2), (158, pP b1 15)] [.loaded ⟨b1, 15, none⟩ (.slice A0_2 l0_2.length c0_2)] ⟨hS85.c 1, trivial⟩ ?_
              refine gn hK63 ?_
              refine we_block ?_
              have hS92 := hS85.takeN 1
              rcases hq18 : iter (punctualref_wrongStatement.r11 x0_0_1 l0_2) K 0 with _ | (_ | rr2)
              ·rw [hq18] at h; cases h
              ·rw [hq18] at h
               simp only [] at h
               refine we_iter (A := punctualref_wrongStatement.A11 w0 x0_0_0 x0_0_1 x0_0_2_0 x0_0_2_1 l0_0_2_2 A0_0_2_2 c0_0_2_2 x0_0_3_0 x0_0_3_1_0 x0_0_3_1_1 l0_0_3_1_2 A0_0_3_1_2 c0_0_3_1_2 x0_0_3_2_0 x0_0_3_2_1 l0_0_3_2_2 A0_0_3_2_2 c0_0_3_2_2 l0_0_4 A0_0_4 c0_0_4 l0_0_5 A0_0_5 c0_0_5 l0_2 A0_2 c0_2 b2) (B := punctualref_wrongStatement.B11 w0) hq18 (fun a hF => ⟨hS92, hF.weaken ea⟩) (fun s o hf a w hA Q hQ => punctualref_wrongStatement_r11 K w0 Z x0_0_0 x0_0_1 x0_0_2_0 x0_0_2_1 l0_0_2_2 A0_0_2_2 c0_0_2_2 x0_0_3_0 x0_0_3_1_0 x0_0_3_1_1 l0_0_3_1_2 A0_0_3_1_2 c0_0_3_1_2 x0_0_3_2_0 x0_0_3_2_1 l0_0_3_2_2 A0_0_3_2_2 c0_0_3_2_2 l0_0_4 A0_0_4 c0_0_4 l0_0_5 A0_0_5 c0_0_5 x0_1 l0_2 A0_2 c0_2 hZ hR0_0_2_2 hL0_0_2_2 hR0_0_3_1_2 hL0_0_3_1_2 hR0_0_3_2_2 hL0_0_3_2_2 hR0_0_4 hL0_0_4 hR0_0_5 hL0_0_5 hR0_2 hL0_2 b1 b2 b3 hc3 e1 hx4 b4 e2 hx6 q2 q4 q6 hc28 hc33 s o hf a w hA Q hQ) ?_
               rintro _ a w23 _ ⟨rfl, hS95, hF⟩
               replace hS95 : St w0 w23 [] := hS95
               refine hK61 [] w23 ?_ a hF
               refine ws fun K70 hK70 => ?_
               refine wr [(0, 0)] ?_
               refine gb0 [0] [(2, vI 0)] ?_
               refine gn hK70 ?_
               obtain rfl := si h
               exact we_ret (pr0 [.tmp 2] [vI 0] ⟨rfl, hS95⟩)
              ·rw [hq18] at h
               simp only [] at h
               refine we_iter (A := punctualref_wrongStatement.A11 w0 x0_0_0 x0_0_1 x0_0_2_0 x0_0_2_1 l0_0_2_2 A0_0_2_2 c0_0_2_2 x0_0_3_0 x0_0_3_1_0 x0_0_3_1_1 l0_0_3_1_2 A0_0_3_1_2 c0_0_3_1_2 x0_0_3_2_0 x0_0_3_2_1 l0_0_3_2_2 A0_0_3_2_2 c0_0_3_2_2 l0_0_4 A0_0_4 c0_0_4 l0_0_5 A0_0_5 c0_0_5 l0_2 A0_2 c0_2 b2) (B := punctualref_wrongStatement.B11 w0) hq18 (fun a hF => ⟨hS92, hF.weaken ea⟩) (fun s o hf a w hA Q hQ => punctualref_wrongStatement_r11 K w0 Z x0_0_0 x0_0_1 x0_0_2_0 x0_0_2_1 l0_0_2_2 A0_0_2_2 c0_0_2_2 x0_0_3_0 x0_0_3_1_0 x0_0_3_1_1 l0_0_3_1_2 A0_0_3_1_2 c0_0_3_1_2 x0_0_3_2_0 x0_0_3_2_1 l0_0_3_2_2 A0_0_3_2_2 c0_0_3_2_2 l0_0_4 A0_0_4 c0_0_4 l0_0_5 A0_0_5 c0_0_5 x0_1 l0_2 A0_2 c0_2 hZ hR0_0_2_2 hL0_0_2_2 hR0_0_3_1_2 hL0_0_3_1_2 hR0_0_3_2_2 hL0_0_3_2_2 hR0_0_4 hL0_0_4 hR0_0_5 hL0_0_5 hR0_2 hL0_2 b1 b2 b3 hc3 e1 hx4 b4 e2 hx6 q2 q4 q6 hc28 hc33 s o hf a w hA Q hQ) ?_
               rintro _ a w1 _ ⟨rfl, hb⟩
               obtain rfl := si h
               exact hb
             ·rw [if_neg hc33] at h
              refine wk 157 (x0_0_0 == 6) false (beq_eq_false_iff_ne.2 hc33) ?_
              refine we_false (by kernel_rfl) ?_
              refine we_skip fun a hF => hK61 _ _ ?_ a hF
              refine ws fun K71 hK71 => ?_
              refine wr [(0, 0)] ?_
              refine gb0 [0] [(2, vI 0)] ?_
              refine gn hK71 ?_
              have hS96 := hS85.takeN 0
              obtain rfl := si h
              exact we_ret (pr0 [.tmp 2] [vI 0] ⟨rfl, hS96⟩)
           ·rw [hq16] at h
            simp only [] at h
            refine we_keep (e' := [(1, pP b1 0), (3, pP b2 0), (7, .bool q4), (8, .bool q6)]) ea (punctualref_wrongStatement_p9 K w0 Z x0_0_0 x0_0_1 x0_0_2_0 x0_0_2_1 l0_0_2_2 A0_0_2_2 c0_0_2_2 x0_0_3_0 x0_0_3_1_0 x0_0_3_1_1 l0_0_3_1_2 A0_0_3_1_2 c0_0_3_1_2 x0_0_3_2_0 x0_0_3_2_1 l0_0_3_2_2 A0_0_3_2_2 c0_0_3_2_2 l0_0_4 A0_0_4 c0_0_4 l0_0_5 A0_0_5 c0_0_5 x0_1 l0_2 A0_2 c0_2 hZ hR0_0_2_2 hL0_0_2_2 hR0_0_3_1_2 hL0_0_3_1_2 hR0_0_3_2_2 hL0_0_3_2_2 hR0_0_4 hL0_0_4 hR0_0_5 hL0_0_5 hR0_2 hL0_2 b1 b2 b3 hc3 e1 hx4 b4 e2 hx6 q2 q4 q6 _ hq16 _ hS72 _ ?_)
            rintro _ a w1 ⟨_, rfl, hb⟩
            obtain rfl := si h
            exact hb
          ·rw [hq13] at h
           simp only [] at h
           refine we_keep (e' := [(1, pP b1 0), (3, pP b2 0), (6, .bool q2), (7, .bool q4), (8, .bool q6)]) ea (punctualref_wrongStatement_p8 K w0 Z x0_0_0 x0_0_1 x0_0_2_0 x0_0_2_1 l0_0_2_2 A0_0_2_2 c0_0_2_2 x0_0_3_0 x0_0_3_1_0 x0_0_3_1_1 l0_0_3_1_2 A0_0_3_1_2 c0_0_3_1_2 x0_0_3_2_0 x0_0_3_2_1 l0_0_3_2_2 A0_0_3_2_2 c0_0_3_2_2 l0_0_4 A0_0_4 c0_0_4 l0_0_5 A0_0_5 c0_0_5 x0_1 l0_2 A0_2 c0_2 hZ hR0_0_2_2 hL0_0_2_2 hR0_0_3_1_2 hL0_0_3_1_2 hR0_0_3_2_2 hL0_0_3_2_2 hR0_0_4 hL0_0_4 hR0_0_5 hL0_0_5 hR0_2 hL0_2 b1 b2 b3 hc3 e1 hx4 b4 e2 hx6 q2 q4 q6 _ hq13 _ hS64 _ ?_)
           rintro _ a w1 ⟨_, rfl, hb⟩
           obtain rfl := si h
           exact hb
         ·rw [hq11] at h
          simp only [] at h
          refine we_keep (e' := [(1, pP b1 0), (3, pP b2 0), (6, .bool q2), (7, .bool q4), (8, .bool q6)]) ea (punctualref_wrongStatement_p7 K w0 Z x0_0_0 x0_0_1 x0_0_2_0 x0_0_2_1 l0_0_2_2 A0_0_2_2 c0_0_2_2 x0_0_3_0 x0_0_3_1_0 x0_0_3_1_1 l0_0_3_1_2 A0_0_3_1_2 c0_0_3_1_2 x0_0_3_2_0 x0_0_3_2_1 l0_0_3_2_2 A0_0_3_2_2 c0_0_3_2_2 l0_0_4 A0_0_4 c0_0_4 l0_0_5 A0_0_5 c0_0_5 x0_1 l0_2 A0_2 c0_2 hZ hR0_0_2_2 hL0_0_2_2 hR0_0_3_1_2 hL0_0_3_1_2 hR0_0_3_2_2 hL0_0_3_2_2 hR0_0_4 hL0_0_4 hR0_0_5 hL0_0_5 hR0_2 hL0_2 b1 b2 b3 hc3 e1 hx4 b4 e2 hx6 q2 q4 q6 _ hq11 _ hS52 _ ?_)
          rintro _ a w1 ⟨_, rfl, hb⟩
          obtain rfl := si h
          exact hb
        ·rw [hq10] at h
         simp only [] at h
         refine we_keep (e' := [(1, pP b1 0), (3, pP b2 0), (6, .bool q2), (7, .bool q4), (8, .bool q6)]) ea (punctualref_wrongStatement_p6 K w0 Z x0_0_0 x0_0_1 x0_0_2_0 x0_0_2_1 l0_0_2_2 A0_0_2_2 c0_0_2_2 x0_0_3_0 x0_0_3_1_0 x0_0_3_1_1 l0_0_3_1_2 A0_0_3_1_2 c0_0_3_1_2 x0_0_3_2_0 x0_0_3_2_1 l0_0_3_2_2 A0_0_3_2_2 c0_0_3_2_2 l0_0_4 A0_0_4 c0_0_4 l0_0_5 A0_0_5 c0_0_5 x0_1 l0_2 A0_2 c0_2 hZ hR0_0_2_2 hL0_0_2_2 hR0_0_3_1_2 hL0_0_3_1_2 hR0_0_3_2_2 hL0_0_3_2_2 hR0_0_4 hL0_0_4 hR0_0_5 hL0_0_5 hR0_2 hL0_2 b1 b2 b3 hc3 e1 hx4 b4 e2 hx6 q2 q4 q6 _ hq10 _ hS40 _ ?_)
         rintro _ a w1 ⟨_, rfl, hb⟩
         obtain rfl := si h
         exact hb
       ·rw [hq7] at h
        simp only [] at h
        refine we_keep (e' := [(1, pP b1 0), (3, pP b2 0), (6, .bool q2), (7, .bool q4), (8, .bool q6)]) ea (punctualref_wrongStatement_p5 K w0 Z x0_0_0 x0_0_1 x0_0_2_0 x0_0_2_1 l0_0_2_2 A0_0_2_2 c0_0_2_2 x0_0_3_0 x0_0_3_1_0 x0_0_3_1_1 l0_0_3_1_2 A0_0_3_1_2 c0_0_3_1_2 x0_0_3_2_0 x0_0_3_2_1 l0_0_3_2_2 A0_0_3_2_2 c0_0_3_2_2 l0_0_4 A0_0_4 c0_0_4 l0_0_5 A0_0_5 c0_0_5 x0_1 l0_2 A0_2 c0_2 hZ hR0_0_2_2 hL0_0_2_2 hR0_0_3_1_2 hL0_0_3_1_2 hR0_0_3_2_2 hL0_0_3_2_2 hR0_0_4 hL0_0_4 hR0_0_5 hL0_0_5 hR0_2 hL0_2 b1 b2 b3 hc3 e1 hx4 b4 e2 hx6 q2 q4 q6 _ hq7 _ hS32 _ ?_)
        rintro _ a w1 ⟨_, rfl, hb⟩
        obtain rfl := si h
        exact hb
      ·rw [hq5] at h
       simp only [] at h
       refine we_keep (e' := [(1, pP b1 0), (3, pP b2 0), (6, .bool q2), (7, .bool q4)]) ea (punctualref_wrongStatement_p4 K w0 Z x0_0_0 x0_0_1 x0_0_2_0 x0_0_2_1 l0_0_2_2 A0_0_2_2 c0_0_2_2 x0_0_3_0 x0_0_3_1_0 x0_0_3_1_1 l0_0_3_1_2 A0_0_3_1_2 c0_0_3_1_2 x0_0_3_2_0 x0_0_3_2_1 l0_0_3_2_2 A0_0_3_2_2 c0_0_3_2_2 l0_0_4 A0_0_4 c0_0_4 l0_0_5 A0_0_5 c0_0_5 x0_1 l0_2 A0_2 c0_2 hZ hR0_0_2_2 hL0_0_2_2 hR0_0_3_1_2 hL0_0_3_1_2 hR0_0_3_2_2 hL0_0_3_2_2 hR0_0_4 hL0_0_4 hR0_0_5 hL0_0_5 hR0_2 hL0_2 b1 b2 b3 hc3 e1 hx4 b4 e2 hx6 q2 q4 _ hq5 _ hS27 _ ?_)
       rintro _ a w1 ⟨_, rfl, hb⟩
       obtain rfl := si h
       exact hb
     ·rw [hq4] at h
      simp only [] at h
      refine we_keep (e' := [(1, pP b1 0), (3, pP b2 0), (6, .bool q2)]) ea (punctualref_wrongStatement_p3 K w0 Z x0_0_0 x0_0_1 x0_0_2_0 x0_0_2_1 l0_0_2_2 A0_0_2_2 c0_0_2_2 x0_0_3_0 x0_0_3_1_0 x0_0_3_1_1 l0_0_3_1_2 A0_0_3_1_2 c0_0_3_1_2 x0_0_3_2_0 x0_0_3_2_1 l0_0_3_2_2 A0_0_3_2_2 c0_0_3_2_2 l0_0_4 A0_0_4 c0_0_4 l0_0_5 A0_0_5 c0_0_5 x0_1 l0_2 A0_2 c0_2 hZ hR0_0_2_2 hL0_0_2_2 hR0_0_3_1_2 hL0_0_3_1_2 hR0_0_3_2_2 hL0_0_3_2_2 hR0_0_4 hL0_0_4 hR0_0_5 hL0_0_5 hR0_2 hL0_2 b1 b2 b3 hc3 e1 hx4 b4 e2 hx6 q2 _ hq4 _ hS22 _ ?_)
      rintro _ a w1 ⟨_, rfl, hb⟩
      obtain rfl := si h
      exact hb
    ·rw [hq3] at h
     simp only [] at h
     refine we_keep (e' := [(1, pP b1 0), (3, pP b2 0)]) ea (punctualref_wrongStatement_p2 K w0 Z x0_0_0 x0_0_1 x0_0_2_0 x0_0_2_1 l0_0_2_2 A0_0_2_2 c0_0_2_2 x0_0_3_0 x0_0_3_1_0 x0_0_3_1_1 l0_0_3_1_2 A0_0_3_1_2 c0_0_3_1_2 x0_0_3_2_0 x0_0_3_2_1 l0_0_3_2_2 A0_0_3_2_2 c0_0_3_2_2 l0_0_4 A0_0_4 c0_0_4 l0_0_5 A0_0_5 c0_0_5 x0_1 l0_2 A0_2 c0_2 hZ hR0_0_2_2 hL0_0_2_2 hR0_0_3_1_2 hL0_0_3_1_2 hR0_0_3_2_2 hL0_0_3_2_2 hR0_0_4 hL0_0_4 hR0_0_5 hL0_0_5 hR0_2 hL0_2 b1 b2 b3 hc3 e1 hx4 b4 e2 hx6 _ hq3 _ hS17 _ ?_)
     rintro _ a w1 ⟨_, rfl, hb⟩
     obtain rfl := si h
     exact hb
   ·rw [hq2] at h
    simp only [] at h
    refine we_keep (e' := [(1, pP b1 0), (3, pP b2 0), (4, vI e1), (5, vI e2), (24, .slice (some ⟨b3, 0, none⟩) 8 8), (25, pP b2 0), (26, vI x0_0_0), (27, .pointer (some ⟨blkOf (some ⟨b3, 0, none⟩), offOf (some ⟨b3, 0, none⟩) + (x0_0_0).toNat * 1, none⟩)), (28, vI e1), (29, .slice (some ⟨b4, 0, none⟩) 8 8), (30, pP b2 0), (31, vI x0_0_0), (32, .pointer (some ⟨blkOf (some ⟨b4, 0, none⟩), offOf (some ⟨b4, 0, none⟩) + (x0_0_0).toNat * 1, none⟩)), (33, vI e2)]) ea (punctualref_wrongStatement_p1 K w0 Z x0_0_0 x0_0_1 x0_0_2_0 x0_0_2_1 l0_0_2_2 A0_0_2_2 c0_0_2_2 x0_0_3_0 x0_0_3_1_0 x0_0_3_1_1 l0_0_3_1_2 A0_0_3_1_2 c0_0_3_1_2 x0_0_3_2_0 x0_0_3_2_1 l0_0_3_2_2 A0_0_3_2_2 c0_0_3_2_2 l0_0_4 A0_0_4 c0_0_4 l0_0_5 A0_0_5 c0_0_5 x0_1 l0_2 A0_2 c0_2 hZ hR0_0_2_2 hL0_0_2_2 hR0_0_3_1_2 hL0_0_3_1_2 hR0_0_3_2_2 hL0_0_3_2_2 hR0_0_4 hL0_0_4 hR0_0_5 hL0_0_5 hR0_2 hL0_2 b1 b2 b3 hc3 e1 hx4 b4 e2 hx6 _ hq2 _ hS11 _ ?_)
    rintro _ a w1 ⟨_, rfl, hb⟩
    obtain rfl := si h
    exact hb
  ·rw [if_neg hc3] at h
   cases h
 ·rw [hq1] at h
  simp only [] at h
  refine we_keep (e' := [(0, .agg #[vI x0_0_0, vI x0_0_1, vI x0_0_2_0, vI x0_0_2_1, .slice A0_0_2_2 l0_0_2_2.length c0_0_2_2, vI x0_0_3_0, vI x0_0_3_1_0, vI x0_0_3_1_1, .slice A0_0_3_1_2 l0_0_3_1_2.length c0_0_3_1_2, vI x0_0_3_2_0, vI x0_0_3_2_1, .slice A0_0_3_2_2 l0_0_3_2_2.length c0_0_3_2_2, .slice A0_0_4 l0_0_4.length c0_0_4, .slice A0_0_5 l0_0_5.length c0_0_5, vI x0_1, .slice A0_2 l0_2.length c0_2]), (1, pP b1 0), (2, vI 0), (3, pP b2 0), (14, pP b1 0), (15, .agg #[vI x0_0_0, vI x0_0_1, vI x0_0_2_0, vI x0_0_2_1, .slice A0_0_2_2 l0_0_2_2.length c0_0_2_2, vI x0_0_3_0, vI x0_0_3_1_0, vI x0_0_3_1_1, .slice A0_0_3_1_2 l0_0_3_1_2.length c0_0_3_1_2, vI x0_0_3_2_0, vI x0_0_3_2_1, .slice A0_0_3_2_2 l0_0_3_2_2.length c0_0_3_2_2, .slice A0_0_4 l0_0_4.length c0_0_4, .slice A0_0_5 l0_0_5.length c0_0_5])]) ea (punctualref_wrongStatement_p0 K w0 Z x0_0_0 x0_0_1 x0_0_2_0 x0_0_2_1 l0_0_2_2 A0_0_2_2 c0_0_2_2 x0_0_3_0 x0_0_3_1_0 x0_0_3_1_1 l0_0_3_1_2 A0_0_3_1_2 c0_0_3_1_2 x0_0_3_2_0 x0_0_3_2_1 l0_0_3_2_2 A0_0_3_2_2 c0_0_3_2_2 l0_0_4 A0_0_4 c0_0_4 l0_0_5 A0_0_5 c0_0_5 x0_1 l0_2 A0_2 c0_2 hZ hR0_0_2_2 hL0_0_2_2 hR0_0_3_1_2 hL0_0_3_1_2 hR0_0_3_2_2 hL0_0_3_2_2 hR0_0_4 hL0_0_4 hR0_0_5 hL0_0_5 hR0_2 hL0_2 b1 b2 _ hq1 _ hS4 _ ?_)
  rintro _ a w1 ⟨_, rfl, hb⟩
  obtain rfl := si h
  exact hb

/-! punctual/punctualref.CheckBody -/
abbrev punctualref_CheckBody.Post (w0 : World) (r : SFault) (e : Ending) (w : World) : Prop := e = .returned (.agg #[vI r.Code, vI r.At]) ∧ St w0 w []
def punctualref_CheckBody.r0 (K : Nat) (r2 : List Sstatement) : Nat → Option (Nat ⊕ (Unit ⊕ SFault))
 | i1 =>
  if (i1 : Int) < (r2.length : Int) then
   match r2[i1]? with
   | none => none
   | some e1 =>
    match punctualref_wrongStatement.f K e1.s.Kind e1.s.N e1.s.E.Kind e1.s.E.N e1.s.E.A e1.s.If.Kind e1.s.If.A.Kind e1.s.If.A.N e1.s.If.A.A e1.s.If.B.Kind e1.s.If.B.N e1.s.If.B.A e1.s.Body e1.s.Else e1.deep e1.locks with
    | none => none
    | some r3 =>
     if r3 = 0 then
      some (.inl (i1 + 1))
     else
      some (.inr (.inr (punctualref_F.f r3 (i1 : Int))))
  else
   some (.inr (.inl ()))
def punctualref_CheckBody.f (K : Nat) (l0 : List SStmt) : Option SFault :=
 match punctualref_Size.f K l0 with
 | none => none
 | some r1 =>
  if r1 > 200 then
   some (punctualref_F.f 2 0)
  else
   match punctualref_Flat.f K l0 0 ([] : List Int) 200 with
   | none => none
   | some r2 =>
    match iter (punctualref_CheckBody.r0 K r2) K 0 with
    | none => none
    | some (.inl _) =>
     some (⟨0, 0⟩ : SFault)
    | some (.inr rr1) =>
     some rr1
abbrev punctualref_CheckBody.A0 (w0 : World) (b1 : Nat) (r2 : List Sstatement) (Z1 : Option Addr) (cz1 : Nat) (wf4 : World) : Nat → Act → World → Prop := fun (s : Nat) a w => ∃ (ft5 : List Nat) (wf5 : World), Sub wf4 wf5 ∧ St w0 w [Own.blk b1 (.cells #[vI 0, vI 0] 40 (0, 0)), Own.frz ft5 wf5] ∧ Frm 27 a [(2, pP b1 0), (11, .slice Z1 r2.length cz1), (12, vI (r2.length : Int)), (13, vI (s : Int))]
abbrev punctualref_CheckBody.B0 (w0 : World) (b1 : Nat) (wf4 : World) : (Unit ⊕ SFault) → Exit → Act → World → Prop := Exits 0 (fun (s : Unit) a w => ∃ (ft6 : List Nat) (wf6 : World), Sub wf4 wf6 ∧ St w0 w [Own.blk b1 (.cells #[vI 0, vI 0] 40 (0, 0)), Own.frz ft6 wf6] ∧ Frm 27 a [(2, pP b1 0)]) (Rets Try.prog Try.f26 (punctualref_CheckBody.Post w0))
theorem punctualref_CheckBody_r0 (K : Nat) (w0 : World) (Z : Zone) (l0 : List SStmt) (A0 : Option Addr) (c0 : Nat) (hZ : ∀ w, Sub w0 w → Z w) (hR0 : RdZ Z A0 l0) (hL0 : l0.length ≤ c0) (ft1 : List Nat) (wf1 : World) (b1 : Nat) (r1 : Int) (hc1 : ¬ (r1 > 200)) (r2 : List Sstatement) (hds1 : List Hstatement) (ft2 : List Nat) (wf2 : World) (ft3 : List Nat) (wf3 : World) (hsb1 : Sub wf2 wf3) (hsb2 : Sub wf1 wf3) (hd1 : DRows (Zand Z wf3) hds1 r2) (Z1 : Option Addr) (cz1 : Nat) (ft4 : List Nat) (wf4 : World) (hsb3 : Sub wf3 wf4) (hRd1 : RdZ (Zand Z wf4) Z1 r2) (hLd1 : r2.length ≤ cz1) (s : Nat) (o : Nat ⊕ (Unit ⊕ SFault)) (h : punctualref_CheckBody.r0 K r2 s = some o) (a : Act) (w : World) (hA : punctualref_CheckBody.A0 w0 b1 r2 Z1 cz1 wf4 s a w) (Q : Exit → Act → World → Prop) (hQ : ∀ x a w, Outs (punctualref_CheckBody.A0 w0 b1 r2 Z1 cz1 wf4) (punctualref_CheckBody.B0 w0 b1 wf4) o x a w → Q x a w) : (subF Try.f26 [1, 1, 0, 1, 0, 0]).wp Try.prog Q a w := by
 obtain ⟨i1, hs⟩ : ∃ z, z = s := ⟨s, rfl⟩
 subst hs
 obtain ⟨ft5, wf5, hsb4, hS, hF⟩ := hA
 replace hS : St w0 w [Own.blk b1 (.cells #[vI 0, vI 0] 40 (0, 0)), Own.frz ft5 wf5] := hS
 simp only [punctualref_CheckBody.r0] at h
 refine (?_ : WE Try.prog 27 (subF Try.f26 [1, 1, 0, 1, 0, 0]) Q [(2, pP b1 0), (11, .slice Z1 r2.length cz1), (12, vI (r2.length : Int)), (13, vI (i1 : Int))] w) a hF
 clear hF a
 refine ws fun K7 hK7 => ?_
 refine wr [(0, 0)] ?_
 refine gb0 [0] [(14, .bool (decide ((i1 : Int) < (r2.length : Int))))] ?_
 refine gn hK7 ?_
 refine ws fun K8 hK8 => ?_
 by_cases hc2 : (i1 : Int) < (r2.length : Int)
 ·rw [if_pos hc2] at h
  refine wk 14 (decide ((i1 : Int) < (r2.length : Int))) true (decide_eq_true hc2) ?_
  refine we_true (by kernel_rfl) ?_
  refine we_skip fun a hF => hK8 _ _ ?_ a hF
  refine ws fun K9 hK9 => ?_
  refine we_block ?_
  refine ws fun K10 hK10 => ?_
  refine wr [(0, 0), (1, 0), (2, 0), (3, 1), (4, 0), (5, 2)] ?_
  refine gb0 [0] [(15, vI (i1 : Int))] ?_
  rcases hx2 : r2[i1]? with _ | e1
  ·rw [hx2] at h; cases h
  rw [hx2] at h
  simp only [] at h
  obtain ⟨An1, cn1, An2, cn2, An3, cn3, An4, cn4, An5, cn5, An6, cn6, hCs1, hLn1, hRn1, hLn2, hRn2, hLn3, hRn3, hLn4, hRn4, hLn5, hRn5, hLn6, hRn6⟩ := Sstatement.getZ hRd1 hx2
  refine gi 16 0 96 99 16 r2.length cz1 (.tmp 11) (.tmp 13) Z1 .i64 (i1 : Int) i1 (hRd1.eqSome ⟨(hZ _ hS.subw), (hsb4.trans (hS.frzSub 1 rfl))⟩ (pos_of_get hx2)) rfl (lt_of_get hx2) ?_
  refine gb [2] [(17, .agg #[vI e1.s.Kind, vI e1.s.N, vI e1.s.E.Kind, vI e1.s.E.N, .slice An1 e1.s.E.A.length cn1, vI e1.s.If.Kind, vI e1.s.If.A.Kind, vI e1.s.If.A.N, .slice An2 e1.s.If.A.A.length cn2, vI e1.s.If.B.Kind, vI e1.s.If.B.N, .slice An3 e1.s.If.B.A.length cn3, .slice An4 e1.s.Body.length cn4, .slice An5 e1.s.Else.length cn5, vI e1.deep, .slice An6 e1.locks.length cn6])] [.loaded ⟨blkOf Z1, offOf Z1 + i1 * 16, none⟩ (vI e1.s.Kind), .loaded ⟨blkOf Z1, offOf Z1 + i1 * 16 + 1, none⟩ (vI e1.s.N), .loaded ⟨blkOf Z1, offOf Z1 + i1 * 16 + 2, none⟩ (vI e1.s.E.Kind), .loaded ⟨blkOf Z1, offOf Z1 + i1 * 16 + 3, none⟩ (vI e1.s.E.N), .loaded ⟨blkOf Z1, offOf Z1 + i1 * 16 + 4, none⟩ (.slice An1 e1.s.E.A.length cn1), .loaded ⟨blkOf Z1, offOf Z1 + i1 * 16 + 5, none⟩ (vI e1.s.If.Kind), .loaded ⟨blkOf Z1, offOf Z1 + i1 * 16 + 6, none⟩ (vI e1.s.If.A.Kind), .loaded ⟨blkOf Z1, offOf Z1 + i1 * 16 + 7, none⟩ (vI e1.s.If.A.N), .loaded ⟨blkOf Z1, offOf Z1 + i1 * 16 + 8, none⟩ (.slice An2 e1.s.If.A.A.length cn2), .loaded ⟨blkOf Z1, offOf Z1 + i1 * 16 + 9, none⟩ (vI e1.s.If.B.Kind), .loaded ⟨blkOf Z1, offOf Z1 + i1 * 16 + 10, none⟩ (vI e1.s.If.B.N), .loaded ⟨blkOf Z1, offOf Z1 + i1 * 16 + 11, none⟩ (.slice An3 e1.s.If.B.A.length cn3), .loaded ⟨blkOf Z1, offOf Z1 + i1 * 16 + 12, none⟩ (.slice An4 e1.s.Body.length cn4), .loaded ⟨blkOf Z1, offOf Z1 + i1 * 16 + 13, none⟩ (.slice An5 e1.s.Else.length cn5), .loaded ⟨blkOf Z1, offOf Z1 + i1 * 16 + 14, none⟩ (vI e1.deep), .loaded ⟨blkOf Z1, offOf Z1 + i1 * 16 + 15, none⟩ (.slice An6 e1.locks.length cn6)] ⟨hCs1 _ ⟨(hZ _ hS.subw), (hsb4.trans (hS.frzSub 1 rfl))⟩ 0 _ rfl, hCs1 _ ⟨(hZ _ hS.subw), (hsb4.trans (hS.frzSub 1 rfl))⟩ 1 _ rfl, hCs1 _ ⟨(hZ _ hS.subw), (hsb4.trans (hS.frzSub 1 rfl))⟩ 2 _ rfl, hCs1 _ ⟨(hZ _ hS.subw), (hsb4.trans (hS.frzSub 1 rfl))⟩ 3 _ rfl, hCs1 _ ⟨(hZ _ hS.subw), (hsb4.trans (hS.frzSub 1 rfl))⟩ 4 _ rfl, hCs1 _ ⟨(hZ _ hS.subw), (hsb4.trans (hS.frzSub 1 rfl))⟩ 5 _ rfl, hCs1 _ ⟨(hZ _ hS.subw), (hsb4.trans (hS.frzSub 1 rfl))⟩ 6 _ rfl, hCs1 _ ⟨(hZ _ hS.subw), (hsb4.trans (hS.frzSub 1 rfl))⟩ 7 _ rfl, hCs1 _ ⟨(hZ _ hS.subw), (hsb4.trans (hS.frzSub 1 rfl))⟩ 8 _ rfl, hCs1 _ ⟨(hZ _ hS.subw), (hsb4.trans (hS.frzSub 1 rfl))⟩ 9 _ rfl, hCs1 _ ⟨(hZ _ hS.subw), (hsb4.trans (hS.frzSub 1 rfl))⟩ 10 _ rfl, hCs1 _ ⟨(hZ _ hS.subw), (hsb4.trans (hS.frzSub 1 rfl))⟩ 11 _ rfl, hCs1 _ ⟨(hZ _ hS.subw), (hsb4.trans (hS.frzSub 1 rfl))⟩ 12 _ rfl, hCs1 _ ⟨(hZ _ hS.subw), (hsb4.trans (hS.frzSub 1 rfl))⟩ 13 _ rfl, hCs1 _ ⟨(hZ _ hS.subw), (hsb4.trans (hS.frzSub 1 rfl))⟩ 14 _ rfl, hCs1 _ ⟨(hZ _ hS.subw), (hsb4.trans (hS.frzSub 1 rfl))⟩ 15 _ rfl, trivial⟩ ?_
  refine gw (some 4) (.cells #[vI 0, vI 0, vI 0, vI 0, .slice none 0 0, vI 0, vI 0, vI 0, .slice none 0 0, vI 0, vI 0, .slice none 0 0, .slice none 0 0, .slice none 0 0, vI 0, .slice none 0 0] 99) (fun b => pP b 0) hS fun b2 w6 hx3 hS18 => ?_
  refine gb0 [4] [(3, vI (i1 : Int))] ?_
  refine gs b2 0 #[vI 0, vI 0, vI 0, vI 0, .slice none 0 0, vI 0, vI 0, vI 0, .slice none 0 0, vI 0, vI 0, .slice none 0 0, .slice none 0 0, .slice none 0 0, vI 0, .slice none 0 0] 99 [vI e1.s.Kind, vI e1.s.N, vI e1.s.E.Kind, vI e1.s.E.N, .slice An1 e1.s.E.A.length cn1, vI e1.s.If.Kind, vI e1.s.If.A.Kind, vI e1.s.If.A.N, .slice An2 e1.s.If.A.A.length cn2, vI e1.s.If.B.Kind, vI e1.s.If.B.N, .slice An3 e1.s.If.B.A.length cn3, .slice An4 e1.s.Body.length cn4, .slice An5 e1.s.Else.length cn5, vI e1.deep, .slice An6 e1.locks.length cn6] hS18 fun w7 hS19 => ?_
  have hS20 := hS19.nc #[vI e1.s.Kind, vI e1.s.N, vI e1.s.E.Kind, vI e1.s.E.N, .slice An1 e1.s.E.A.length cn1, vI e1.s.If.Kind, vI e1.s.If.A.Kind, vI e1.s.If.A.N, .slice An2 e1.s.If.A.A.length cn2, vI e1.s.If.B.Kind, vI e1.s.If.B.N, .slice An3 e1.s.If.B.A.length cn3, .slice An4 e1.s.Body.length cn4, .slice An5 e1.s.Else.length cn5, vI e1.deep, .slice An6 e1.locks.length cn6] (by kernel_rfl)
  refine gn hK10 ?_
  refine ws fun K11 hK11 => ?_
  refine wr [(0, 0), (1, 1), (2, 0)] ?_
  rcases hq4 : punctualref_wrongStatement.f K e1.s.Kind e1.s.N e1.s.E.Kind e1.s.E.N e1.s.E.A e1.s.If.Kind e1.s.If.A.Kind e1.s.If.A.N e1.s.If.A.A e1.s.If.B.Kind e1.s.If.B.N e1.s.If.B.A e1.s.Body e1.s.Else e1.deep e1.locks with _ | r3
  ·rw [hq4] at h; cases h
  rw [hq4] at h
  simp only [] at h
  refine gb [0] [(18, .agg #[vI e1.s.Kind, vI e1.s.N, vI e1.s.E.Kind, vI e1.s.E.N, .slice An1 e1.s.E.A.length cn1, vI e1.s.If.Kind, vI e1.s.If.A.Kind, vI e1.s.If.A.N, .slice An2 e1.s.If.A.A.length cn2, vI e1.s.If.B.Kind, vI e1.s.If.B.N, .slice An3 e1.s.If.B.A.length cn3, .slice An4 e1.s.Body.length cn4, .slice An5 e1.s.Else.length cn5, vI e1.deep, .slice An6 e1.locks.length cn6])] [.loaded ⟨b2, 0, none⟩ (vI e1.s.Kind), .loaded ⟨b2, 1, none⟩ (vI e1.s.N), .loaded ⟨b2, 2, none⟩ (vI e1.s.E.Kind), .loaded ⟨b2, 3, none⟩ (vI e1.s.E.N), .loaded ⟨b2, 4, none⟩ (.slice An1 e1.s.E.A.length cn1), .loaded ⟨b2, 5, none⟩ (vI e1.s.If.Kind), .loaded ⟨b2, 6, none⟩ (vI e1.s.If.A.Kind), .loaded ⟨b2, 7, none⟩ (vI e1.s.If.A.N), .loaded ⟨b2, 8, none⟩ (.slice An2 e1.s.If.A.A.length cn2), .loaded ⟨b2, 9, none⟩ (vI e1.s.If.B.Kind), .loaded ⟨b2, 10, none⟩ (vI e1.s.If.B.N), .loaded ⟨b2, 11, none⟩ (.slice An3 e1.s.If.B.A.length cn3), .loaded ⟨b2, 12, none⟩ (.slice An4 e1.s.Body.length cn4), .loaded ⟨b2, 13, none⟩ (.slice An5 e1.s.Else.length cn5), .loaded ⟨b2, 14, none⟩ (vI e1.deep), .loaded ⟨b2, 15, none⟩ (.slice An6 e1.locks.length cn6)] ⟨hS20.c 0, hS20.c 0, hS20.c 0, hS20.c 0, hS20.c 0, hS20.c 0, hS20.c 0, hS20.c 0, hS20.c 0, hS20.c 0, hS20.c 0, hS20.c 0, hS20.c 0, hS20.c 0, hS20.c 0, hS20.c 0, trivial⟩ ?_
  refine ge_call (d := some 19) (f := 55) (args := #[.agg #[vI e1.s.Kind, vI e1.s.N, vI e1.s.E.Kind, vI e1.s.E.N, .slice An1 e1.s.E.A.length cn1, vI e1.s.If.Kind, vI e1.s.If.A.Kind, vI e1.s.If.A.N, .slice An2 e1.s.If.A.A.length cn2, vI e1.s.If.B.Kind, vI e1.s.If.B.N, .slice An3 e1.s.If.B.A.length cn3, .slice An4 e1.s.Body.length cn4, .slice An5 e1.s.Else.length cn5, vI e1.deep, .slice An6 e1.locks.length cn6]]) (by kernel_rfl) (punctualref_wrongStatement_ok K (Zand Z wf5) e1.s.Kind e1.s.N e1.s.E.Kind e1.s.E.N e1.s.E.A An1 cn1 e1.s.If.Kind e1.s.If.A.Kind e1.s.If.A.N e1.s.If.A.A An2 cn2 e1.s.If.B.Kind e1.s.If.B.N e1.s.If.B.A An3 cn3 e1.s.Body An4 cn4 e1.s.Else An5 cn5 e1.deep e1.locks An6 cn6 _ (fun w' k => ⟨(hZ w' (hS20.subw.trans k)), (hS20.frzSub 2 rfl).trans k⟩) (hRn1.up (ZLe.up hsb4)) hLn1 (hRn2.up (ZLe.up hsb4)) hLn2 (hRn3.up (ZLe.up hsb4)) hLn3 (hRn4.up (ZLe.up hsb4)) hLn4 (hRn5.up (ZLe.up hsb4)) hLn5 (hRn6 _ ⟨(hZ _ hS20.subw), (hsb4.trans (hS20.frzSub 2 rfl))⟩) hLn6 _ hq4) ?_
  rintro _ w8 ⟨rfl, hS21⟩
  refine ⟨_, rfl, hS21.below, ?_⟩
  have hS22 := hS20.call hS21
  refine gb0 [2] [(5, vI r3)] ?_
  refine gn hK11 ?_
  refine ws fun K12 hK12 => ?_
  refine wr [(0, 0), (1, 0)] ?_
  refine gb0 [0, 1] [(21, .bool (r3 != 0)), (20, vI r3)] ?_
  refine gn hK12 ?_
  by_cases hc3 : r3 = 0
  ·rw [if_pos hc3] at h
   refine wk 21 (r3 != 0) false (bne_eq_false_iff_eq.2 hc3) ?_
   refine we_false (by kernel_rfl) ?_
   refine we_skip fun a hF => hK9 _ _ ?_ a hF
   refine wr [(0, 0), (1, 0)] ?_
   refine ge_addn (d := 25) (ty := 3) (x := (.tmp 13)) (y := (.const (vI 1))) (t := 3) (t2 := 3) (k := .i64) (m := i1) (by kernel_rfl) (by kernel_rfl) (by kernel_rfl) (by have h0 := RdZ.small hRd1 ⟨(hZ _ hS22.subw), (hsb4.trans (hS22.frzSub 2 rfl))⟩; omega) ?_
   refine gb0 [1] [(13, vI ((i1 + 1 : Nat) : Int))] ?_
   have hS23 := hS22.bring 2 rfl
   have hS24 := hS23.bring 2 rfl
   have hS25 := hS24.takeN 2
   obtain rfl := si h
   exact ge_nil fun a hF => hQ _ _ _ (Outs.again ⟨ft5, wf5, hsb4, hS25, hF.weaken ea⟩)
  ·rw [if_neg hc3] at h
   refine wk 21 (r3 != 0) true (bne_iff_ne.2 hc3) ?_
   refine we_true (by kernel_rfl) ?_
   refine ws fun K13 hK13 => ?_
   refine wr [(0, 0), (1, 0), (2, 1), (3, 2)] ?_
   refine gb0 [0, 1] [(23, vI (i1 : Int)), (22, vI r3)] ?_
   refine ge_call (d := some 24) (f := 22) (args := #[vI r3, vI (i1 : Int)]) (by kernel_rfl) (punctualref_F_ok r3 (i1 : Int) _ _ rfl) ?_
   rintro _ w9 ⟨rfl, hS26⟩
   refine ⟨_, rfl, hS26.below, ?_⟩
   have hS27 := hS22.call hS26
   have hS28 := hS27.bring 1 rfl
   refine gs b1 0 #[vI 0, vI 0] 40 [vI ((punctualref_F.f r3 (i1 : Int)).Code), vI ((punctualref_F.f r3 (i1 : Int)).At)] hS28 fun w10 hS29 => ?_
   have hS30 := hS29.nc #[vI ((punctualref_F.f r3 (i1 : Int)).Code), vI ((punctualref_F.f r3 (i1 : Int)).At)] (by kernel_rfl)
   refine gn hK13 ?_
   have hS31 := hS30.takeN 0
   obtain rfl := si h
   exact we_ret fun a hF => hQ _ _ _ (Outs.out nofun (Exits.on ⟨rfl, (pr [.cell 2 40] [.agg #[vI ((punctualref_F.f r3 (i1 : Int)).Code), vI ((punctualref_F.f r3 (i1 : Int)).At)]] [.loaded ⟨b1, 0, none⟩ (vI ((punctualref_F.f r3 (i1 : Int)).Code)), .loaded ⟨b1, 1, none⟩ (vI ((punctualref_F.f r3 (i1 : Int)).At))] ⟨hS30.c 0, hS30.c 0, trivial⟩ ⟨rfl, hS31⟩) a hF⟩))
 ·rw [if_neg hc2] at h
  refine wk 14 (decide ((i1 : Int) < (r2.length : Int))) false (decide_eq_false hc2) ?_
  refine we_false (by kernel_rfl) ?_
  have hS32 := hS.bring 1 rfl
  have hS33 := hS32.bring 1 rfl
  obtain rfl := si h
  exact we_exit fun a hF => hQ _ _ _ (Outs.out nofun (Exits.here ⟨ft5, wf5, hsb4, hS33, hF.weaken ea⟩))
theorem punctualref_CheckBody_ok (K : Nat) (Z : Zone) (l0 : List SStmt) (A0 : Option Addr) (c0 : Nat) (w0 : World) (hZ : ∀ w, Sub w0 w → Z w) (hR0 : RdZ Z A0 l0) (hL0 : l0.length ≤ c0) (r : SFault) (h : punctualref_CheckBody.f K l0 = some r) :
  Calls Try.prog 26 #[.slice A0 l0.length c0] w0 (punctualref_CheckBody.Post w0 r) := by
 have hS := St.start w0
 unfold punctualref_CheckBody.f at h
 refine calls_enter (n := 27) (args := [.slice A0 l0.length c0]) (fn := Try.f26) rfl rfl rfl rfl ?_
 show WE _ _ _ _ [(0, .slice A0 l0.length c0)] _
 obtain ⟨ft1, wf1, hS1⟩ := hS.frz0
 refine ws fun K1 hK1 => ?_
 refine wr [(0, 1)] ?_
 refine gw (some 2) (.cells #[vI 0, vI 0] 40) (fun b => pP b 0) hS1 fun b1 w1 hx1 hS2 => ?_
 refine gn hK1 ?_
 refine ws fun K2 hK2 => ?_
 refine ws fun K3 hK3 => ?_
 refine wr [(0, 0), (1, 1), (2, 0)] ?_
 rcases hq1 : punctualref_Size.f K l0 with _ | r1
 ·rw [hq1] at h; cases h
 rw [hq1] at h
 simp only [] at h
 refine gb0 [0] [(6, .slice A0 l0.length c0)] ?_
 refine ge_call (d := some 7) (f := 27) (args := #[.slice A0 l0.length c0]) (by kernel_rfl) (punctualref_Size_ok K (Zand Z wf1) l0 A0 c0 _ (fun w' k => ⟨(hZ w' (hS2.subw.trans k)), (hS2.frzSub 1 rfl).trans k⟩) (hR0.up (ZLe.in _ _)) hL0 _ hq1) ?_
 rintro _ w2 ⟨rfl, hS3⟩
 refine ⟨_, rfl, hS3.below, ?_⟩
 have hS4 := hS2.call hS3
 refine gb0 [2] [(8, .bool (decide (r1 > 200)))] ?_
 refine gn hK3 ?_
 by_cases hc1 : r1 > 200
 ·rw [if_pos hc1] at h
  refine wk 8 (decide (r1 > 200)) true (decide_eq_true hc1) ?_
  refine we_true (by kernel_rfl) ?_
  refine ws fun K4 hK4 => ?_
  refine wr [(0, 1), (1, 2)] ?_
  refine ge_call (d := some 9) (f := 22) (args := #[vI 2, vI 0]) (by kernel_rfl) (punctualref_F_ok 2 0 _ _ rfl) ?_
  rintro _ w3 ⟨rfl, hS5⟩
  refine ⟨_, rfl, hS5.below, ?_⟩
  have hS6 := hS4.call hS5
  refine gs b1 0 #[vI 0, vI 0] 40 [vI ((punctualref_F.f 2 0).Code), vI ((punctualref_F.f 2 0).At)] hS6 fun w4 hS7 => ?_
  have hS8 := hS7.nc #[vI ((punctualref_F.f 2 0).Code), vI ((punctualref_F.f 2 0).At)] (by kernel_rfl)
  refine gn hK4 ?_
  have hS9 := hS8.takeN 0
  obtain rfl := si h
  exact we_ret (pr [.cell 2 40] [.agg #[vI ((punctualref_F.f 2 0).Code), vI ((punctualref_F.f 2 0).At)]] [.loaded ⟨b1, 0, none⟩ (vI ((punctualref_F.f 2 0).Code)), .loaded ⟨b1, 1, none⟩ (vI ((punctualref_F.f 2 0).At))] ⟨hS8.c 0, hS8.c 0, trivial⟩ ⟨rfl, hS9⟩)
 ·rw [if_neg hc1] at h
  refine wk 8 (decide (r1 > 200)) false (decide_eq_false hc1) ?_
  refine we_false (by kernel_rfl) ?_
  refine we_skip fun a hF => hK2 _ _ ?_ a hF
  refine ws fun K5 hK5 => ?_
  refine ws fun K6 hK6 => ?_
  refine wr [(0, 0), (1, 1), (2, 0), (3, 0)] ?_
  rcases hq3 : punctualref_Flat.f K l0 0 ([] : List Int) 200 with _ | r2
  ·rw [hq3] at h; cases h
  rw [hq3] at h
  simp only [] at h
  refine gb0 [0] [(10, .slice A0 l0.length c0)] ?_
  refine ge_call (d := some 11) (f := 54) (args := #[.slice A0 l0.length c0, vI 0, .slice none 0 0, vI 200]) (by kernel_rfl) (punctualref_Flat_ok K (Zand Z wf1) l0 A0 c0 0 ([] : List Int) none 0 200 _ (fun w' k => ⟨(hZ w' (hS4.subw.trans k)), (hS4.frzSub 1 rfl).trans k⟩) (hR0.up (ZLe.in _ _)) hL0 (by first | exact RdL.nil _ | exact RdF.nil _ | exact RdZ.nil _) (Nat.zero_le _) _ hq3) ?_
  rintro _ w5 ⟨v1, hds1, ft2, wf2, rfl, hd1, hS10⟩
  refine ⟨_, rfl, hS10.below, ?_⟩
  have hS11 := hS4.call hS10
  have hS12 := hS11.bring 3 rfl
  have hS13 := hS12.bring 2 rfl
  obtain ⟨ft3, wf3, hsb1, hsb2, hS14⟩ := hS13.frzMerge
  replace hd1 : DRows (Zand Z wf3) hds1 r2 := hd1.up (ZLe.both hsb2 hsb1)
  obtain ⟨Z1, cz1, rfl⟩ := hS14.dopen 1 rfl hd1
  refine gb0 [2, 3] [(13, vI 0), (12, vI (r2.length : Int))] ?_
  refine gn hK6 ?_
  refine we_block ?_
  have hS15 := hS14.bring 1 rfl
  obtain ⟨ft4, wf4, hsb3, -, hRd1, hLd1, hS16⟩ := hS15.dfrz (Z := Z) hd1
  have hS17 := hS16.bring 1 rfl
  rcases hq6 : iter (punctualref_CheckBody.r0 K r2) K 0 with _ | (_ | rr1)
  ·rw [hq6] at h; cases h
  ·rw [hq6] at h
   simp only [] at h
   refine we_iter (A := punctualref_CheckBody.A0 w0 b1 r2 Z1 cz1 wf4) (B := punctualref_CheckBody.B0 w0 b1 wf4) hq6 (fun a hF => ⟨ft4, wf4, (Sub.refl _), hS17, hF.weaken ea⟩) (fun s o hf a w hA Q hQ => punctualref_CheckBody_r0 K w0 Z l0 A0 c0 hZ hR0 hL0 ft1 wf1 b1 r1 hc1 r2 hds1 ft2 wf2 ft3 wf3 hsb1 hsb2 hd1 Z1 cz1 ft4 wf4 hsb3 hRd1 hLd1 s o hf a w hA Q hQ) ?_
   rintro _ a w11 _ ⟨rfl, ft7, wf7, hRz1, hS34, hF⟩
   replace hS34 : St w0 w11 [Own.blk b1 (.cells #[vI 0, vI 0] 40 (0, 0)), Own.frz ft7 wf7] := hS34
   refine hK5 [(2, pP b1 0)] w11 ?_ a hF
   refine ws fun K14 hK14 => ?_
   refine wr [(0, 0), (1, 2)] ?_
   refine gb0 [0] [(26, .agg #[vI 0, vI 0])] ?_
   refine gs b1 0 #[vI 0, vI 0] 40 [vI 0, vI 0] hS34 fun w12 hS35 => ?_
   have hS36 := hS35.nc #[vI 0, vI 0] (by kernel_rfl)
   refine gn hK14 ?_
   have hS37 := hS36.takeN 0
   obtain rfl := si h
   exact we_ret (pr [.cell 2 40] [.agg #[vI 0, vI 0]] [.loaded ⟨b1, 0, none⟩ (vI 0), .loaded ⟨b1, 1, none⟩ (vI 0)] ⟨hS36.c 0, hS36.c 0, trivial⟩ ⟨rfl, hS37⟩)
  ·rw [hq6] at h
   simp only [] at h
   refine we_iter (A := punctualref_CheckBody.A0 w0 b1 r2 Z1 cz1 wf4) (B := punctualref_CheckBody.B0 w0 b1 wf4) hq6 (fun a hF => ⟨ft4, wf4, (Sub.refl _), hS17, hF.weaken ea⟩) (fun s o hf a w hA Q hQ => punctualref_CheckBody_r0 K w0 Z l0 A0 c0 hZ hR0 hL0 ft1 wf1 b1 r1 hc1 r2 hds1 ft2 wf2 ft3 wf3 hsb1 hsb2 hd1 Z1 cz1 ft4 wf4 hsb3 hRd1 hLd1 s o hf a w hA Q hQ) ?_
   rintro _ a w1 _ ⟨rfl, hb⟩
   obtain rfl := si h
   exact hb

/-! punctual/punctualsame.Exprs -/
abbrev punctualsame_Exprs.Post (w0 : World) (r : Bool) (e : Ending) (w : World) : Prop := e = .returned (.bool r) ∧ St w0 w []
abbrev punctualsame_Exprs.Rec (rec_punctualsame_Exprs : Int → Int → (List SExpr) → Int → Int → (List SExpr) → Option Bool) : Prop := ∀ (Z : Zone) (x0_0 : Int) (x0_1 : Int) (l0_2 : List SExpr) (A0_2 : Option Addr) (c0_2 : Nat) (x1_0 : Int) (x1_1 : Int) (l1_2 : List SExpr) (A1_2 : Option Addr) (c1_2 : Nat) (w0 : World) (hZ : ∀ w, Sub w0 w → Z w) (hR0_2 : RdZ Z A0_2 l0_2) (hL0_2 : l0_2.length ≤ c0_2) (hR1_2 : RdZ Z A1_2 l1_2) (hL1_2 : l1_2.length ≤ c1_2) (r : Bool) (h : rec_punctualsame_Exprs x0_0 x0_1 l0_2 x1_0 x1_1 l1_2 = some r), Calls Try.prog 56 #[.agg #[vI x0_0, vI x0_1, .slice A0_2 l0_2.length c0_2], .agg #[vI x1_0, vI x1_1, .slice A1_2 l1_2.length c1_2]] w0 (punctualsame_Exprs.Post w0 r)
def punctualsame_Exprs.p0 (x0_0 : Int) (x0_1 : Int) (l0_2 : List SExpr) (x1_0 : Int) (x1_1 : Int) (l1_2 : List SExpr) : Option (Unit ⊕ Bool) :=
  if x0_0 = x1_0 then
   if x0_1 = x1_1 then
    if (l0_2.length : Int) = (l1_2.length : Int) then
     some (.inl ())
    else
     some (.inr false)
   else
    some (.inr false)
  else
   some (.inr false)
def punctualsame_Exprs.r1 (l0_2 : List SExpr) (l1_2 : List SExpr) (rec_punctualsame_Exprs : Int → Int → (List SExpr) → Int → Int → (List SExpr) → Option Bool) : Nat → Option (Nat ⊕ (Unit ⊕ Bool))
 | i1 =>
  if (i1 : Int) < (l0_2.length : Int) then
   match l0_2[i1]? with
   | none => none
   | some e1 =>
    match l1_2[i1]? with
    | none => none
    | some e2 =>
     match rec_punctualsame_Exprs e1.Kind e1.N e1.A e2.Kind e2.N e2.A with
     | none => none
     | some r1 =>
      if r1 = true then
       some (.inl (i1 + 1))
      else
       some (.inr (.inr false))
  else
   some (.inr (.inl ()))
def punctualsame_Exprs.b (K : Nat) (rec_punctualsame_Exprs : Int → Int → (List SExpr) → Int → Int → (List SExpr) → Option Bool) (x0_0 : Int) (x0_1 : Int) (l0_2 : List SExpr) (x1_0 : Int) (x1_1 : Int) (l1_2 : List SExpr) : Option Bool :=
 match punctualsame_Exprs.p0 x0_0 x0_1 l0_2 x1_0 x1_1 l1_2 with
 | none => none
 | some (.inl _) =>
  match iter (punctualsame_Exprs.r1 l0_2 l1_2 rec_punctualsame_Exprs) K 0 with
  | none => none
  | some (.inl _) =>
   some true
  | some (.inr rr1) =>
   some rr1
 | some (.inr rr2) =>
  some rr2
abbrev punctualsame_Exprs.A0 (w0 : World) (x0_0 : Int) (x0_1 : Int) (l0_2 : List SExpr) (A0_2 : Option Addr) (c0_2 : Nat) (x1_0 : Int) (x1_1 : Int) (l1_2 : List SExpr) (A1_2 : Option Addr) (c1_2 : Nat) (b1 : Nat) (b2 : Nat) : Unit → Act → World → Prop := fun (s : Unit) a w => St w0 w [Own.blk b2 (.cells #[vI x1_0, vI x1_1, .slice A1_2 l1_2.length c1_2] 45 (0, 0)), Own.blk b1 (.cells #[vI x0_0, vI x0_1, .slice A0_2 l0_2.length c0_2] 45 (0, 0))] ∧ Frm 46 a [(2, pP b1 0), (3, pP b2 0)]
abbrev punctualsame_Exprs.B0 (w0 : World) : Bool → Exit → Act → World → Prop := Rets Try.prog Try.f56 (punctualsame_Exprs.Post w0)
theorem punctualsame_Exprs_p0 (K : Nat) (w0 : World) (Z : Zone) (x0_0 : Int) (x0_1 : Int) (l0_2 : List SExpr) (A0_2 : Option Addr) (c0_2 : Nat) (x1_0 : Int) (x1_1 : Int) (l1_2 : List SExpr) (A1_2 : Option Addr) (c1_2 : Nat) (hZ : ∀ w, Sub w0 w → Z w) (hR0_2 : RdZ Z A0_2 l0_2) (hL0_2 : l0_2.length ≤ c0_2) (hR1_2 : RdZ Z A1_2 l1_2) (hL1_2 : l1_2.length ≤ c1_2) (rec_punctualsame_Exprs : Int → Int → (List SExpr) → Int → Int → (List SExpr) → Option Bool) (hr_punctualsame_Exprs : punctualsame_Exprs.Rec rec_punctualsame_Exprs) (b1 : Nat) (b2 : Nat) (o : Unit ⊕ Bool) (h : punctualsame_Exprs.p0 x0_0 x0_1 l0_2 x1_0 x1_1 l1_2 = some o) (w : World) (hS : St w0 w [Own.blk b2 (.cells #[vI x1_0, vI x1_1, .slice A1_2 l1_2.length c1_2] 45 (0, 0)), Own.blk b1 (.cells #[vI x0_0, vI x0_1, .slice A0_2 l0_2.length c0_2] 45 (0, 0))]) (Q : Exit → Act → World → Prop) (hQ : ∀ x a w, Outs (punctualsame_Exprs.A0 w0 x0_0 x0_1 l0_2 A0_2 c0_2 x1_0 x1_1 l1_2 A1_2 c1_2 b1 b2) (punctualsame_Exprs.B0 w0) o x a w → Q x a w) : WE Try.prog 46 (subF Try.f56 [1, 0]) Q [(0, .agg #[vI x0_0, vI x0_1, .slice A0_2 l0_2.length c0_2]), (1, .agg #[vI x1_0, vI x1_1, .slice A1_2 l1_2.length c1_2]), (2, pP b1 0), (3, pP b2 0), (4, .bool false)] w := by
 simp only [punctualsame_Exprs.p0] at h
 refine ws fun K3 hK3 => ?_
 refine wr [(0, 0), (1, 0), (2, 0), (3, 0), (4, 0), (5, 0), (6, 0), (7, 0), (8, 0), (9, 0), (10, 0), (11, 0), (12, 0), (13, 0), (14, 0), (15, 0), (16, 0), (17, 0), (18, 0), (19, 0), (20, 0)] ?_
 refine gb [0, 1, 2, 3, 4, 5] [(11, .bool (x0_0 != x1_0)), (10, .bool (x0_0 != x1_0)), (9, vI x1_0), (8, pP b2 0), (7, vI x0_0), (6, pP b1 0)] [.loaded ⟨b1, 0, none⟩ (vI x0_0), .loaded ⟨b2, 0, none⟩ (vI x1_0)] ⟨hS.c 1, hS.c 0, trivial⟩ ?_
 by_cases hc1 : x0_0 = x1_0
 ·rw [if_pos hc1] at h
  refine gk 11 (x0_0 != x1_0) false (bne_eq_false_iff_eq.2 hc1) ?_
  refine gb [6, 7, 8, 9, 10, 11, 12] [(18, .bool (x0_1 != x1_1)), (17, .bool (x0_1 != x1_1)), (16, .bool (x0_1 != x1_1)), (15, vI x1_1), (14, pP b2 1), (13, vI x0_1), (12, pP b1 1)] [.loaded ⟨b1, 1, none⟩ (vI x0_1), .loaded ⟨b2, 1, none⟩ (vI x1_1)] ⟨hS.c 1, hS.c 0, trivial⟩ ?_
  by_cases hc2 : x0_1 = x1_1
  ·rw [if_pos hc2] at h
   refine gk 18 (x0_1 != x1_1) false (bne_eq_false_iff_eq.2 hc2) ?_
   refine gb [13, 14, 15, 16, 17, 18, 19, 20] [(26, .bool ((l0_2.length : Int) != (l1_2.length : Int))), (25, .bool ((l0_2.length : Int) != (l1_2.length : Int))), (24, vI (l1_2.length : Int)), (23, .slice A1_2 l1_2.length c1_2), (22, pP b2 2), (21, vI (l0_2.length : Int)), (20, .slice A0_2 l0_2.length c0_2), (19, pP b1 2)] [.loaded ⟨b1, 2, none⟩ (.slice A0_2 l0_2.length c0_2), .loaded ⟨b2, 2, none⟩ (.slice A1_2 l1_2.length c1_2)] ⟨hS.c 1, hS.c 0, trivial⟩ ?_
   refine gn hK3 ?_
   by_cases hc3 : (l0_2.length : Int) = (l1_2.length : Int)
   ·rw [if_pos hc3] at h
    refine wk 26 ((l0_2.length : Int) != (l1_2.length : Int)) false (bne_eq_false_iff_eq.2 hc3) ?_
    refine we_false (by kernel_rfl) ?_
    have hS3 := hS.bring 1 rfl
    have hS4 := hS3.bring 1 rfl
    obtain rfl := si h
    exact we_skip fun a hF => hQ _ _ _ (Outs.again ⟨hS4, hF.weaken ea⟩)
   ·rw [if_neg hc3] at h
    refine wk 26 ((l0_2.length : Int) != (l1_2.length : Int)) true (bne_iff_ne.2 hc3) ?_
    refine we_true (by kernel_rfl) ?_
    refine ws fun K4 hK4 => ?_
    refine wr [(0, 0)] ?_
    refine gb0 [0] [(4, .bool false)] ?_
    refine gn hK4 ?_
    have hS5 := hS.takeN 0
    obtain rfl := si h
    exact we_ret fun a hF => hQ _ _ _ (Outs.out nofun ⟨rfl, (pr0 [.tmp 4] [.bool false] ⟨rfl, hS5⟩) a hF⟩)
  ·rw [if_neg hc2] at h
   refine gk 18 (x0_1 != x1_1) true (bne_iff_ne.2 hc2) ?_
   refine gb0 [13, 14, 15, 16, 17, 18, 19, 20] [(26, .bool true), (25, undef), (24, undef), (23, undef), (22, undef), (21, undef), (20, undef), (19, undef)] ?_
   refine gn hK3 ?_
   refine we_true (by kernel_rfl) ?_
   refine ws fun K5 hK5 => ?_
   refine wr [(0, 0)] ?_
   refine gb0 [0] [(4, .bool false)] ?_
   refine gn hK5 ?_
   have hS6 := hS.takeN 0
   obtain rfl := si h
   exact we_ret fun a hF => hQ _ _ _ (Outs.out nofun ⟨rfl, (pr0 [.tmp 4] [.bool false] ⟨rfl, hS6⟩) a hF⟩)
 ·rw [if_neg hc1] at h
  refine gk 11 (x0_0 != x1_0) true (bne_iff_ne.2 hc1) ?_
  refine gb0 [6, 7, 8, 9, 10, 11, 12, 13, 14, 15, 16, 17, 18, 19, 20] [(26, .bool true), (25, undef), (24, undef), (23, undef), (22, undef), (21, undef), (20, undef), (19, undef), (18, .bool true), (17, .bool true), (16, undef), (15, undef), (14, undef), (13, undef), (12, undef)] ?_
  refine gn hK3 ?_
  refine we_true (by kernel_rfl) ?_
  refine ws fun K6 hK6 => ?_
  refine wr [(0, 0)] ?_
  refine gb0 [0] [(4, .bool false)] ?_
  refine gn hK6 ?_
  have hS7 := hS.takeN 0
  obtain rfl := si h
  exact we_ret fun a hF => hQ _ _ _ (Outs.out nofun ⟨rfl, (pr0 [.tmp 4] [.bool false] ⟨rfl, hS7⟩) a hF⟩)
abbrev punctualsame_Exprs.A1 (w0 : World) (x0_0 : Int) (x0_1 : Int) (l0_2 : List SExpr) (A0_2 : Option Addr) (c0_2 : Nat) (x1_0 : Int) (x1_1 : Int) (l1_2 : List SExpr) (A1_2 : Option Addr) (c1_2 : Nat) (b1 : Nat) (b2 : Nat) : Nat → Act → World → Prop := fun (s : Nat) a w => St w0 w [Own.blk b2 (.cells #[vI x1_0, vI x1_1, .slice A1_2 l1_2.length c1_2] 45 (0, 0)), Own.blk b1 (.cells #[vI x0_0, vI x0_1, .slice A0_2 l0_2.length c0_2] 45 (0, 0))] ∧ Frm 46 a [(2, pP b1 0), (3, pP b2 0), (29, vI (l0_2.length : Int)), (30, vI (s : Int))]
abbrev punctualsame_Exprs.B1 (w0 : World) : (Unit ⊕ Bool) → Exit → Act → World → Prop := Exits 0 (fun (s : Unit) a w => St w0 w [] ∧ Frm 46 a []) (Rets Try.prog Try.f56 (punctualsame_Exprs.Post w0))
theorem punctualsame_Exprs_r1 (K : Nat) (w0 : World) (Z : Zone) (x0_0 : Int) (x0_1 : Int) (l0_2 : List SExpr) (A0_2 : Option Addr) (c0_2 : Nat) (x1_0 : Int) (x1_1 : Int) (l1_2 : List SExpr) (A1_2 : Option Addr) (c1_2 : Nat) (hZ : ∀ w, Sub w0 w → Z w) (hR0_2 : RdZ Z A0_2 l0_2) (hL0_2 : l0_2.length ≤ c0_2) (hR1_2 : RdZ Z A1_2 l1_2) (hL1_2 : l1_2.length ≤ c1_2) (rec_punctualsame_Exprs : Int → Int → (List SExpr) → Int → Int → (List SExpr) → Option Bool) (hr_punctualsame_Exprs : punctualsame_Exprs.Rec rec_punctualsame_Exprs) (b1 : Nat) (b2 : Nat) (s : Nat) (o : Nat ⊕ (Unit ⊕ Bool)) (h : punctualsame_Exprs.r1 l0_2 l1_2 rec_punctualsame_Exprs s = some o) (a : Act) (w : World) (hA : punctualsame_Exprs.A1 w0 x0_0 x0_1 l0_2 A0_2 c0_2 x1_0 x1_1 l1_2 A1_2 c1_2 b1 b2 s a w) (Q : Exit → Act → World → Prop) (hQ : ∀ x a w, Outs (punctualsame_Exprs.A1 w0 x0_0 x0_1 l0_2 A0_2 c0_2 x1_0 x1_1 l1_2 A1_2 c1_2 b1 b2) (punctualsame_Exprs.B1 w0) o x a w → Q x a w) : (subF Try.f56 [1, 1, 0, 1, 0, 0]).wp Try.prog Q a w := by
 obtain ⟨i1, hs⟩ : ∃ z, z = s := ⟨s, rfl⟩
 subst hs
 obtain ⟨hS, hF⟩ := hA
 replace hS : St w0 w [Own.blk b2 (.cells #[vI x1_0, vI x1_1, .slice A1_2 l1_2.length c1_2] 45 (0, 0)), Own.blk b1 (.cells #[vI x0_0, vI x0_1, .slice A0_2 l0_2.length c0_2] 45 (0, 0))] := hS
 simp only [punctualsame_Exprs.r1] at h
 refine (?_ : WE Try.prog 46 (subF Try.f56 [1, 1, 0, 1, 0, 0]) Q [(2, pP b1 0), (3, pP b2 0), (29, vI (l0_2.length : Int)), (30, vI (i1 : Int))] w) a hF
 clear hF a
 refine ws fun K9 hK9 => ?_
 refine wr [(0, 0)] ?_
 refine gb0 [0] [(31, .bool (decide ((i1 : Int) < (l0_2.length : Int))))] ?_
 refine gn hK9 ?_
 refine ws fun K10 hK10 => ?_
 by_cases hc4 : (i1 : Int) < (l0_2.length : Int)
 ·rw [if_pos hc4] at h
  refine wk 31 (decide ((i1 : Int) < (l0_2.length : Int))) true (decide_eq_true hc4) ?_
  refine we_true (by kernel_rfl) ?_
  refine we_skip fun a hF => hK10 _ _ ?_ a hF
  refine ws fun K11 hK11 => ?_
  refine we_block ?_
  refine ws fun K12 hK12 => ?_
  refine wr [(0, 0), (1, 0)] ?_
  refine gb0 [0, 1] [(5, vI (i1 : Int)), (32, vI (i1 : Int))] ?_
  refine gn hK12 ?_
  refine ws fun K13 hK13 => ?_
  refine we_draws (by kernel_rfl) [(0, 0), (1, 0), (2, 0), (3, 0), (4, 0), (5, 0), (6, 0), (7, 0), (8, 0), (9, 0), (10, 1), (11, 0)] (by kernel_rfl) ?_
  have hS11 := hS.drew
  refine gb [0, 1, 2] [(35, vI (i1 : Int)), (34, .slice A0_2 l0_2.length c0_2), (33, pP b1 2)] [.loaded ⟨b1, 2, none⟩ (.slice A0_2 l0_2.length c0_2)] ⟨hS11.c 1, trivial⟩ ?_
  rcases hx3 : l0_2[i1]? with _ | e1
  ·rw [hx3] at h; cases h
  rw [hx3] at h
  simp only [] at h
  obtain ⟨An1, cn1, hCs1, hLn1, hRn1⟩ := SExpr.getZ hR0_2 hx3
  refine gi 36 0 43 45 3 l0_2.length c0_2 (.tmp 34) (.tmp 35) A0_2 .i64 (i1 : Int) i1 (hR0_2.eqSome (hZ _ hS11.subw) (pos_of_get hx3)) rfl (lt_of_get hx3) ?_
  refine gb [4, 5, 6, 7] [(40, vI (i1 : Int)), (39, .slice A1_2 l1_2.length c1_2), (38, pP b2 2), (37, .agg #[vI e1.Kind, vI e1.N, .slice An1 e1.A.length cn1])] [.loaded ⟨blkOf A0_2, offOf A0_2 + i1 * 3, none⟩ (vI e1.Kind), .loaded ⟨blkOf A0_2, offOf A0_2 + i1 * 3 + 1, none⟩ (vI e1.N), .loaded ⟨blkOf A0_2, offOf A0_2 + i1 * 3 + 2, none⟩ (.slice An1 e1.A.length cn1), .loaded ⟨b2, 2, none⟩ (.slice A1_2 l1_2.length c1_2)] ⟨hCs1 _ (hZ _ hS11.subw) 0 _ rfl, hCs1 _ (hZ _ hS11.subw) 1 _ rfl, hCs1 _ (hZ _ hS11.subw) 2 _ rfl, hS11.c 0, trivial⟩ ?_
  rcases hx4 : l1_2[i1]? with _ | e2
  ·rw [hx4] at h; cases h
  rw [hx4] at h
  simp only [] at h
  obtain ⟨An2, cn2, hCs2, hLn2, hRn2⟩ := SExpr.getZ hR1_2 hx4
  refine gi 41 0 43 45 3 l1_2.length c1_2 (.tmp 39) (.tmp 40) A1_2 .i64 (i1 : Int) i1 (hR1_2.eqSome (hZ _ hS11.subw) (pos_of_get hx4)) rfl (lt_of_get hx4) ?_
  rcases hq2 : rec_punctualsame_Exprs e1.Kind e1.N e1.A e2.Kind e2.N e2.A with _ | r1
  ·rw [hq2] at h; cases h
  rw [hq2] at h
  simp only [] at h
  refine gb [9] [(42, .agg #[vI e2.Kind, vI e2.N, .slice An2 e2.A.length cn2])] [.loaded ⟨blkOf A1_2, offOf A1_2 + i1 * 3, none⟩ (vI e2.Kind), .loaded ⟨blkOf A1_2, offOf A1_2 + i1 * 3 + 1, none⟩ (vI e2.N), .loaded ⟨blkOf A1_2, offOf A1_2 + i1 * 3 + 2, none⟩ (.slice An2 e2.A.length cn2)] ⟨hCs2 _ (hZ _ hS11.subw) 0 _ rfl, hCs2 _ (hZ _ hS11.subw) 1 _ rfl, hCs2 _ (hZ _ hS11.subw) 2 _ rfl, trivial⟩ ?_
  refine ge_call (d := some 43) (f := 56) (args := #[.agg #[vI e1.Kind, vI e1.N, .slice An1 e1.A.length cn1], .agg #[vI e2.Kind, vI e2.N, .slice An2 e2.A.length cn2]]) (by kernel_rfl) (hr_punctualsame_Exprs Z e1.Kind e1.N e1.A An1 cn1 e2.Kind e2.N e2.A An2 cn2 _ (fun w' k => (hZ w' (hS11.subw.trans k))) hRn1 hLn1 hRn2 hLn2 _ hq2) ?_
  rintro _ w4 ⟨rfl, hS12⟩
  refine ⟨_, rfl, hS12.below, ?_⟩
  have hS13 := hS11.call hS12
  refine gb0 [11] [(44, .bool (!r1))] ?_
  refine gn hK13 ?_
  by_cases hc5 : r1 = true
  ·rw [if_pos hc5] at h
   refine wk 44 (!r1) false (congrArg (fun z => !z) hc5) ?_
   refine we_false (by kernel_rfl) ?_
   refine we_skip fun a hF => hK11 _ _ ?_ a hF
   refine wr [(0, 0), (1, 0)] ?_
   refine ge_addn (d := 45) (ty := 3) (x := (.tmp 30)) (y := (.const (vI 1))) (t := 3) (t2 := 3) (k := .i64) (m := i1) (by kernel_rfl) (by kernel_rfl) (by kernel_rfl) (by have h0 := RdZ.small hR0_2 (hZ _ hS13.subw); omega) ?_
   refine gb0 [1] [(30, vI ((i1 + 1 : Nat) : Int))] ?_
   have hS14 := hS13.bring 1 rfl
   have hS15 := hS14.bring 1 rfl
   obtain rfl := si h
   exact ge_nil fun a hF => hQ _ _ _ (Outs.again ⟨hS15, hF.weaken ea⟩)
  ·rw [if_neg hc5] at h
   refine wk 44 (!r1) true (congrArg (fun z => !z) (Bool.eq_false_iff.2 hc5)) ?_
   refine we_true (by kernel_rfl) ?_
   refine ws fun K14 hK14 => ?_
   refine wr [(0, 0)] ?_
   refine gb0 [0] [(4, .bool false)] ?_
   refine gn hK14 ?_
   have hS16 := hS13.takeN 0
   obtain rfl := si h
   exact we_ret fun a hF => hQ _ _ _ (Outs.out nofun (Exits.on ⟨rfl, (pr0 [.tmp 4] [.bool false] ⟨rfl, hS16⟩) a hF⟩))
 ·rw [if_neg hc4] at h
  refine wk 31 (decide ((i1 : Int) < (l0_2.length : Int))) false (decide_eq_false hc4) ?_
  refine we_false (by kernel_rfl) ?_
  have hS17 := hS.takeN 0
  obtain rfl := si h
  exact we_exit fun a hF => hQ _ _ _ (Outs.out nofun (Exits.here ⟨hS17, hF.weaken trivial⟩))
theorem punctualsame_Exprs_step (K : Nat) (rec_punctualsame_Exprs : Int → Int → (List SExpr) → Int → Int → (List SExpr) → Option Bool) (hr_punctualsame_Exprs : punctualsame_Exprs.Rec rec_punctualsame_Exprs) (Z : Zone) (x0_0 : Int) (x0_1 : Int) (l0_2 : List SExpr) (A0_2 : Option Addr) (c0_2 : Nat) (x1_0 : Int) (x1_1 : Int) (l1_2 : List SExpr) (A1_2 : Option Addr) (c1_2 : Nat) (w0 : World) (hZ : ∀ w, Sub w0 w → Z w) (hR0_2 : RdZ Z A0_2 l0_2) (hL0_2 : l0_2.length ≤ c0_2) (hR1_2 : RdZ Z A1_2 l1_2) (hL1_2 : l1_2.length ≤ c1_2) (r : Bool) (h : punctualsame_Exprs.b K rec_punctualsame_Exprs x0_0 x0_1 l0_2 x1_0 x1_1 l1_2 = some r) :
  Calls Try.prog 56 #[.agg #[vI x0_0, vI x0_1, .slice A0_2 l0_2.length c0_2], .agg #[vI x1_0, vI x1_1, .slice A1_2 l1_2.length c1_2]] w0 (punctualsame_Exprs.Post w0 r) := by
 have hS := St.start w0
 unfold punctualsame_Exprs.b at h
 refine calls_enter (n := 46) (args := [.agg #[vI x0_0, vI x0_1, .slice A0_2 l0_2.length c0_2], .agg #[vI x1_0, vI x1_1, .slice A1_2 l1_2.length c1_2]]) (fn := Try.f56) rfl rfl rfl rfl ?_
 show WE _ _ _ _ [(0, .agg #[vI x0_0, vI x0_1, .slice A0_2 l0_2.length c0_2]), (1, .agg #[vI x1_0, vI x1_1, .slice A1_2 l1_2.length c1_2])] _
 refine ws fun K1 hK1 => ?_
 refine wr [(0, 1), (1, 1), (2, 0)] ?_
 refine gw (some 2) (.cells #[vI x0_0, vI x0_1, .slice A0_2 l0_2.length c0_2] 45) (fun b => pP b 0) hS fun b1 w1 hx1 hS1 => ?_
 refine gw (some 3) (.cells #[vI x1_0, vI x1_1, .slice A1_2 l1_2.length c1_2] 45) (fun b => pP b 0) hS1 fun b2 w2 hx2 hS2 => ?_
 refine gb0 [2] [(4, .bool false)] ?_
 refine gn hK1 ?_
 refine ws fun K2 hK2 => ?_
 rcases hq1 : punctualsame_Exprs.p0 x0_0 x0_1 l0_2 x1_0 x1_1 l1_2 with _ | (_ | rr2)
 ·rw [hq1] at h; cases h
 ·rw [hq1] at h
  simp only [] at h
  refine we_keep (e' := [(0, .agg #[vI x0_0, vI x0_1, .slice A0_2 l0_2.length c0_2]), (1, .agg #[vI x1_0, vI x1_1, .slice A1_2 l1_2.length c1_2]), (2, pP b1 0), (3, pP b2 0), (4, .bool false)]) ea (punctualsame_Exprs_p0 K w0 Z x0_0 x0_1 l0_2 A0_2 c0_2 x1_0 x1_1 l1_2 A1_2 c1_2 hZ hR0_2 hL0_2 hR1_2 hL1_2 rec_punctualsame_Exprs hr_punctualsame_Exprs b1 b2 _ hq1 _ hS2 _ ?_)
  rintro _ a w3 ⟨rfl, hS8, hF⟩
  replace hS8 : St w0 w3 [Own.blk b2 (.cells #[vI x1_0, vI x1_1, .slice A1_2 l1_2.length c1_2] 45 (0, 0)), Own.blk b1 (.cells #[vI x0_0, vI x0_1, .slice A0_2 l0_2.length c0_2] 45 (0, 0))] := hS8
  refine hK2 [(2, pP b1 0), (3, pP b2 0)] w3 ?_ a hF
  refine ws fun K7 hK7 => ?_
  refine ws fun K8 hK8 => ?_
  refine wr [(0, 0), (1, 0), (2, 0), (3, 0)] ?_
  refine gb [0, 1, 2, 3] [(30, vI 0), (29, vI (l0_2.length : Int)), (28, .slice A0_2 l0_2.length c0_2), (27, pP b1 2)] [.loaded ⟨b1, 2, none⟩ (.slice A0_2 l0_2.length c0_2)] ⟨hS8.c 1, trivial⟩ ?_
  refine gn hK8 ?_
  refine we_block ?_
  have hS9 := hS8.bring 1 rfl
  have hS10 := hS9.bring 1 rfl
  rcases hq3 : iter (punctualsame_Exprs.r1 l0_2 l1_2 rec_punctualsame_Exprs) K 0 with _ | (_ | rr1)
  ·rw [hq3] at h; cases h
  ·rw [hq3] at h
   simp only [] at h
   refine we_iter (A := punctualsame_Exprs.A1 w0 x0_0 x0_1 l0_2 A0_2 c0_2 x1_0 x1_1 l1_2 A1_2 c1_2 b1 b2) (B := punctualsame_Exprs.B1 w0) hq3 (fun a hF => ⟨hS10, hF.weaken ea⟩) (fun s o hf a w hA Q hQ => punctualsame_Exprs_r1 K w0 Z x0_0 x0_1 l0_2 A0_2 c0_2 x1_0 x1_1 l1_2 A1_2 c1_2 hZ hR0_2 hL0_2 hR1_2 hL1_2 rec_punctualsame_Exprs hr_punctualsame_Exprs b1 b2 s o hf a w hA Q hQ) ?_
   rintro _ a w5 _ ⟨rfl, hS18, hF⟩
   replace hS18 : St w0 w5 [] := hS18
   refine hK7 [] w5 ?_ a hF
   refine ws fun K15 hK15 => ?_
   refine wr [(0, 0)] ?_
   refine gb0 [0] [(4, .bool true)] ?_
   refine gn hK15 ?_
   obtain rfl := si h
   exact we_ret (pr0 [.tmp 4] [.bool true] ⟨rfl, hS18⟩)
  ·rw [hq3] at h
   simp only [] at h
   refine we_iter (A := punctualsame_Exprs.A1 w0 x0_0 x0_1 l0_2 A0_2 c0_2 x1_0 x1_1 l1_2 A1_2 c1_2 b1 b2) (B := punctualsame_Exprs.B1 w0) hq3 (fun a hF => ⟨hS10, hF.weaken ea⟩) (fun s o hf a w hA Q hQ => punctualsame_Exprs_r1 K w0 Z x0_0 x0_1 l0_2 A0_2 c0_2 x1_0 x1_1 l1_2 A1_2 c1_2 hZ hR0_2 hL0_2 hR1_2 hL1_2 rec_punctualsame_Exprs hr_punctualsame_Exprs b1 b2 s o hf a w hA Q hQ) ?_
   rintro _ a w1 _ ⟨rfl, hb⟩
   obtain rfl := si h
   exact hb
 ·rw [hq1] at h
  simp only [] at h
  refine we_keep (e' := [(0, .agg #[vI x0_0, vI x0_1, .slice A0_2 l0_2.length c0_2]), (1, .agg #[vI x1_0, vI x1_1, .slice A1_2 l1_2.length c1_2]), (2, pP b1 0), (3, pP b2 0), (4, .bool false)]) ea (punctualsame_Exprs_p0 K w0 Z x0_0 x0_1 l0_2 A0_2 c0_2 x1_0 x1_1 l1_2 A1_2 c1_2 hZ hR0_2 hL0_2 hR1_2 hL1_2 rec_punctualsame_Exprs hr_punctualsame_Exprs b1 b2 _ hq1 _ hS2 _ ?_)
  rintro _ a w1 ⟨_, rfl, hb⟩
  obtain rfl := si h
  exact hb
def punctualsame_Exprs.recs (K : Nat) : Nat → (Int → Int → (List SExpr) → Int → Int → (List SExpr) → Option Bool)
 | 0 => fun _ _ _ _ _ _ => none
 | n + 1 => punctualsame_Exprs.b K (punctualsame_Exprs.recs K n)
theorem punctualsame_Exprs_all (K n : Nat) : punctualsame_Exprs.Rec (punctualsame_Exprs.recs K n) := by
 induction n with
 | zero => exact (by unfold punctualsame_Exprs.Rec; intros; rename_i h; cases (show none = some _ from h))
 | succ n ih => exact punctualsame_Exprs_step K _ ih
def punctualsame_Exprs.f (K : Nat) (x0_0 : Int) (x0_1 : Int) (l0_2 : List SExpr) (x1_0 : Int) (x1_1 : Int) (l1_2 : List SExpr) : Option Bool := (punctualsame_Exprs.recs K K) x0_0 x0_1 l0_2 x1_0 x1_1 l1_2
theorem punctualsame_Exprs_ok (K : Nat) (Z : Zone) (x0_0 : Int) (x0_1 : Int) (l0_2 : List SExpr) (A0_2 : Option Addr) (c0_2 : Nat) (x1_0 : Int) (x1_1 : Int) (l1_2 : List SExpr) (A1_2 : Option Addr) (c1_2 : Nat) (w0 : World) (hZ : ∀ w, Sub w0 w → Z w) (hR0_2 : RdZ Z A0_2 l0_2) (hL0_2 : l0_2.length ≤ c0_2) (hR1_2 : RdZ Z A1_2 l1_2) (hL1_2 : l1_2.length ≤ c1_2) (r : Bool) (h : punctualsame_Exprs.f K x0_0 x0_1 l0_2 x1_0 x1_1 l1_2 = some r) : Calls Try.prog 56 #[.agg #[vI x0_0, vI x0_1, .slice A0_2 l0_2.length c0_2], .agg #[vI x1_0, vI x1_1, .slice A1_2 l1_2.length c1_2]] w0 (punctualsame_Exprs.Post w0 r) := (punctualsame_Exprs_all K K) Z x0_0 x0_1 l0_2 A0_2 c0_2 x1_0 x1_1 l1_2 A1_2 c1_2 w0 hZ hR0_2 hL0_2 hR1_2 hL1_2 r h

/-! punctual/punctualsame.Bodies -/
abbrev punctualsame_Bodies.Post (w0 : World) (r : Bool) (e : Ending) (w : World) : Prop := e = .returned (.bool r) ∧ St w0 w []
abbrev punctualsame_Bodies.Rec (rec_punctualsame_Bodies : (List SStmt) → (List SStmt) → Option Bool) : Prop := ∀ (Z : Zone) (l0 : List SStmt) (A0 : Option Addr) (c0 : Nat) (l1 : List SStmt) (A1 : Option Addr) (c1 : Nat) (w0 : World) (hZ : ∀ w, Sub w0 w → Z w) (hR0 : RdZ Z A0 l0) (hL0 : l0.length ≤ c0) (hR1 : RdZ Z A1 l1) (hL1 : l1.length ≤ c1) (r : Bool) (h : rec_punctualsame_Bodies l0 l1 = some r), Calls Try.prog 28 #[.slice A0 l0.length c0, .slice A1 l1.length c1] w0 (punctualsame_Bodies.Post w0 r)
def punctualsame_Bodies.r0 (K : Nat) (l0 : List SStmt) (l1 : List SStmt) (rec_punctualsame_Bodies : (List SStmt) → (List SStmt) → Option Bool) : Nat → Option (Nat ⊕ (Unit ⊕ Bool))
 | i1 =>
  if (i1 : Int) < (l0.length : Int) then
   match l0[i1]? with
   | none => none
   | some e1 =>
    match l1[i1]? with
    | none => none
    | some e2 =>
     if e1.Kind = e2.Kind then
      if e1.N = e2.N then
       if e1.If.Kind = e2.If.Kind then
        match punctualsame_Exprs.f K e1.E.Kind e1.E.N e1.E.A e2.E.Kind e2.E.N e2.E.A with
        | none => none
        | some r1 =>
         if r1 = true then
          match punctualsame_Exprs.f K e1.If.A.Kind e1.If.A.N e1.If.A.A e2.If.A.Kind e2.If.A.N e2.If.A.A with
          | none => none
          | some r2 =>
           if r2 = true then
            match punctualsame_Exprs.f K e1.If.B.Kind e1.If.B.N e1.If.B.A e2.If.B.Kind e2.If.B.N e2.If.B.A with
            | none => none
            | some r3 =>
             if r3 = true then
              match rec_punctualsame_Bodies e1.Body e2.Body with
              | none => none
              | some r4 =>
               if r4 = true then
                match rec_punctualsame_Bodies e1.Else e2.Else with
                | none => none
                | some r5 =>
                 if r5 = true then
                  some (.inl (i1 + 1))
                 else
                  some (.inr (.inr false))
               else
                some (.inr (.inr false))
             else
              some (.inr (.inr false))
           else
            some (.inr (.inr false))
         else
          some (.inr (.inr false))
       else
        some (.inr (.inr false))
      else
       some (.inr (.inr false))
     else
      some (.inr (.inr false))
  else
   some (.inr (.inl ()))
def punctualsame_Bodies.b (K : Nat) (rec_punctualsame_Bodies : (List SStmt) → (List SStmt) → Option Bool) (l0 : List SStmt) (l1 : List SStmt) : Option Bool :=
 if (l0.length : Int) = (l1.length : Int) then
  match iter (punctualsame_Bodies.r0 K l0 l1 rec_punctualsame_Bodies) K 0 with
  | none => none
  | some (.inl _) =>
   some true
  | some (.inr rr1) =>
   some rr1
 else
  some false
abbrev punctualsame_Bodies.A0 (w0 : World) (l0 : List SStmt) (A0 : Option Addr) (c0 : Nat) (l1 : List SStmt) (A1 : Option Addr) (c1 : Nat) : Nat → Act → World → Prop := fun (s : Nat) a w => St w0 w [] ∧ Frm 90 a [(1, .slice A1 l1.length c1), (13, .slice A0 l0.length c0), (14, vI (l0.length : Int)), (15, vI (s : Int))]
abbrev punctualsame_Bodies.B0 (w0 : World) : (Unit ⊕ Bool) → Exit → Act → World → Prop := Exits 0 (fun (s : Unit) a w => St w0 w [] ∧ Frm 90 a []) (Rets Try.prog Try.f28 (punctualsame_Bodies.Post w0))
theorem punctualsame_Bodies_r0 (K : Nat) (w0 : World) (Z : Zone) (l0 : List SStmt) (A0 : Option Addr) (c0 : Nat) (l1 : List SStmt) (A1 : Option Addr) (c1 : Nat) (hZ : ∀ w, Sub w0 w → Z w) (hR0 : RdZ Z A0 l0) (hL0 : l0.length ≤ c0) (hR1 : RdZ Z A1 l1) (hL1 : l1.length ≤ c1) (rec_punctualsame_Bodies : (List SStmt) → (List SStmt) → Option Bool) (hr_punctualsame_Bodies : punctualsame_Bodies.Rec rec_punctualsame_Bodies) (hc1 : (l0.length : Int) = (l1.length : Int)) (s : Nat) (o : Nat ⊕ (Unit ⊕ Bool)) (h : punctualsame_Bodies.r0 K l0 l1 rec_punctualsame_Bodies s = some o) (a : Act) (w : World) (hA : punctualsame_Bodies.A0 w0 l0 A0 c0 l1 A1 c1 s a w) (Q : Exit → Act → World → Prop) (hQ : ∀ x a w, Outs (punctualsame_Bodies.A0 w0 l0 A0 c0 l1 A1 c1) (punctualsame_Bodies.B0 w0) o x a w → Q x a w) : (subF Try.f28 [1, 1, 0, 1, 0, 0]).wp Try.prog Q a w := by
 obtain ⟨i1, hs⟩ : ∃ z, z = s := ⟨s, rfl⟩
 subst hs
 obtain ⟨hS, hF⟩ := hA
 replace hS : St w0 w [] := hS
 simp only [punctualsame_Bodies.r0] at h
 refine (?_ : WE Try.prog 90 (subF Try.f28 [1, 1, 0, 1, 0, 0]) Q [(1, .slice A1 l1.length c1), (13, .slice A0 l0.length c0), (14, vI (l0.length : Int)), (15, vI (i1 : Int))] w) a hF
 clear hF a
 refine ws fun K6 hK6 => ?_
 refine wr [(0, 0)] ?_
 refine gb0 [0] [(16, .bool (decide ((i1 : Int) < (l0.length : Int))))] ?_
 refine gn hK6 ?_
 refine ws fun K7 hK7 => ?_
 by_cases hc2 : (i1 : Int) < (l0.length : Int)
 ·rw [if_pos hc2] at h
  refine wk 16 (decide ((i1 : Int) < (l0.length : Int))) true (decide_eq_true hc2) ?_
  refine we_true (by kernel_rfl) ?_
  refine we_skip fun a hF => hK7 _ _ ?_ a hF
  refine ws fun K8 hK8 => ?_
  refine we_block ?_
  refine ws fun K9 hK9 => ?_
  refine wr [(0, 0), (1, 0), (2, 0), (3, 1), (4, 0), (5, 2)] ?_
  refine gb0 [0] [(17, vI (i1 : Int))] ?_
  rcases hx1 : l0[i1]? with _ | e1
  ·rw [hx1] at h; cases h
  rw [hx1] at h
  simp only [] at h
  obtain ⟨An1, cn1, An2, cn2, An3, cn3, An4, cn4, An5, cn5, hCs1, hLn1, hRn1, hLn2, hRn2, hLn3, hRn3, hLn4, hRn4, hLn5, hRn5⟩ := SStmt.getZ hR0 hx1
  refine gi 18 0 38 49 14 l0.length c0 (.tmp 13) (.tmp 15) A0 .i64 (i1 : Int) i1 (hR0.eqSome (hZ _ hS.subw) (pos_of_get hx1)) rfl (lt_of_get hx1) ?_
  refine gb [2] [(19, .agg #[vI e1.Kind, vI e1.N, vI e1.E.Kind, vI e1.E.N, .slice An1 e1.E.A.length cn1, vI e1.If.Kind, vI e1.If.A.Kind, vI e1.If.A.N, .slice An2 e1.If.A.A.length cn2, vI e1.If.B.Kind, vI e1.If.B.N, .slice An3 e1.If.B.A.length cn3, .slice An4 e1.Body.length cn4, .slice An5 e1.Else.length cn5])] [.loaded ⟨blkOf A0, offOf A0 + i1 * 14, none⟩ (vI e1.Kind), .loaded ⟨blkOf A0, offOf A0 + i1 * 14 + 1, none⟩ (vI e1.N), .loaded ⟨blkOf A0, offOf A0 + i1 * 14 + 2, none⟩ (vI e1.E.Kind), .loaded ⟨blkOf A0, offOf A0 + i1 * 14 + 3, none⟩ (vI e1.E.N), .loaded ⟨blkOf A0, offOf A0 + i1 * 14 + 4, none⟩ (.slice An1 e1.E.A.length cn1), .loaded ⟨blkOf A0, offOf A0 + i1 * 14 + 5, none⟩ (vI e1.If.Kind), .loaded ⟨blkOf A0, offOf A0 + i1 * 14 + 6, none⟩ (vI e1.If.A.Kind), .loaded ⟨blkOf A0, offOf A0 + i1 * 14 + 7, none⟩ (vI e1.If.A.N), .loaded ⟨blkOf A0, offOf A0 + i1 * 14 + 8, none⟩ (.slice An2 e1.If.A.A.length cn2), .loaded ⟨blkOf A0, offOf A0 + i1 * 14 + 9, none⟩ (vI e1.If.B.Kind), .loaded ⟨blkOf A0, offOf A0 + i1 * 14 + 10, none⟩ (vI e1.If.B.N), .loaded ⟨blkOf A0, offOf A0 + i1 * 14 + 11, none⟩ (.slice An3 e1.If.B.A.length cn3), .loaded ⟨blkOf A0, offOf A0 + i1 * 14 + 12, none⟩ (.slice An4 e1.Body.length cn4), .loaded ⟨blkOf A0, offOf A0 + i1 * 14 + 13, none⟩ (.slice An5 e1.Else.length cn5)] ⟨hCs1 _ (hZ _ hS.subw) 0 _ rfl, hCs1 _ (hZ _ hS.subw) 1 _ rfl, hCs1 _ (hZ _ hS.subw) 2 _ rfl, hCs1 _ (hZ _ hS.subw) 3 _ rfl, hCs1 _ (hZ _ hS.subw) 4 _ rfl, hCs1 _ (hZ _ hS.subw) 5 _ rfl, hCs1 _ (hZ _ hS.subw) 6 _ rfl, hCs1 _ (hZ _ hS.subw) 7 _ rfl, hCs1 _ (hZ _ hS.subw) 8 _ rfl, hCs1 _ (hZ _ hS.subw) 9 _ rfl, hCs1 _ (hZ _ hS.subw) 10 _ rfl, hCs1 _ (hZ _ hS.subw) 11 _ rfl, hCs1 _ (hZ _ hS.subw) 12 _ rfl, hCs1 _ (hZ _ hS.subw) 13 _ rfl, trivial⟩ ?_
  refine gw (some 6) (.cells #[vI 0, vI 0, vI 0, vI 0, .slice none 0 0, vI 0, vI 0, vI 0, .slice none 0 0, vI 0, vI 0, .slice none 0 0, .slice none 0 0, .slice none 0 0] 49) (fun b => pP b 0) hS fun b1 w1 hx2 hS1 => ?_
  refine gb0 [4] [(5, vI (i1 : Int))] ?_
  refine gs b1 0 #[vI 0, vI 0, vI 0, vI 0, .slice none 0 0, vI 0, vI 0, vI 0, .slice none 0 0, vI 0, vI 0, .slice none 0 0, .slice none 0 0, .slice none 0 0] 49 [vI e1.Kind, vI e1.N, vI e1.E.Kind, vI e1.E.N, .slice An1 e1.E.A.length cn1, vI e1.If.Kind, vI e1.If.A.Kind, vI e1.If.A.N, .slice An2 e1.If.A.A.length cn2, vI e1.If.B.Kind, vI e1.If.B.N, .slice An3 e1.If.B.A.length cn3, .slice An4 e1.Body.length cn4, .slice An5 e1.Else.length cn5] hS1 fun w2 hS2 => ?_
  have hS3 := hS2.nc #[vI e1.Kind, vI e1.N, vI e1.E.Kind, vI e1.E.N, .slice An1 e1.E.A.length cn1, vI e1.If.Kind, vI e1.If.A.Kind, vI e1.If.A.N, .slice An2 e1.If.A.A.length cn2, vI e1.If.B.Kind, vI e1.If.B.N, .slice An3 e1.If.B.A.length cn3, .slice An4 e1.Body.length cn4, .slice An5 e1.Else.length cn5] (by kernel_rfl)
  refine gn hK9 ?_
  refine ws fun K10 hK10 => ?_
  refine wr [(0, 0), (1, 0), (2, 0), (3, 0), (4, 1), (5, 2)] ?_
  refine gb0 [0, 1] [(21, vI (i1 : Int)), (20, .slice A1 l1.length c1)] ?_
  rcases hx3 : l1[i1]? with _ | e2
  ·rw [hx3] at h; cases h
  rw [hx3] at h
  simp only [] at h
  obtain ⟨An6, cn6, An7, cn7, An8, cn8, An9, cn9, An10, cn10, hCs2, hLn6, hRn6, hLn7, hRn7, hLn8, hRn8, hLn9, hRn9, hLn10, hRn10⟩ := SStmt.getZ hR1 hx3
  refine gi 22 0 38 49 14 l1.length c1 (.tmp 20) (.tmp 21) A1 .i64 (i1 : Int) i1 (hR1.eqSome (hZ _ hS3.subw) (pos_of_get hx3)) rfl (lt_of_get hx3) ?_
  refine gb [3] [(23, .agg #[vI e2.Kind, vI e2.N, vI e2.E.Kind, vI e2.E.N, .slice An6 e2.E.A.length cn6, vI e2.If.Kind, vI e2.If.A.Kind, vI e2.If.A.N, .slice An7 e2.If.A.A.length cn7, vI e2.If.B.Kind, vI e2.If.B.N, .slice An8 e2.If.B.A.length cn8, .slice An9 e2.Body.length cn9, .slice An10 e2.Else.length cn10])] [.loaded ⟨blkOf A1, offOf A1 + i1 * 14, none⟩ (vI e2.Kind), .loaded ⟨blkOf A1, offOf A1 + i1 * 14 + 1, none⟩ (vI e2.N), .loaded ⟨blkOf A1, offOf A1 + i1 * 14 + 2, none⟩ (vI e2.E.Kind), .loaded ⟨blkOf A1, offOf A1 + i1 * 14 + 3, none⟩ (vI e2.E.N), .loaded ⟨blkOf A1, offOf A1 + i1 * 14 + 4, none⟩ (.slice An6 e2.E.A.length cn6), .loaded ⟨blkOf A1, offOf A1 + i1 * 14 + 5, none⟩ (vI e2.If.Kind), .loaded ⟨blkOf A1, offOf A1 + i1 * 14 + 6, none⟩ (vI e2.If.A.Kind), .loaded ⟨blkOf A1, offOf A1 + i1 * 14 + 7, none⟩ (vI e2.If.A.N), .loaded ⟨blkOf A1, offOf A1 + i1 * 14 + 8, none⟩ (.slice An7 e2.If.A.A.length cn7), .loaded ⟨blkOf A1, offOf A1 + i1 * 14 + 9, none⟩ (vI e2.If.B.Kind), .loaded ⟨blkOf A1, offOf A1 + i1 * 14 + 10, none⟩ (vI e2.If.B.N), .loaded ⟨blkOf A1, offOf A1 + i1 * 14 + 11, none⟩ (.slice An8 e2.If.B.A.length cn8), .loaded ⟨blkOf A1, offOf A1 + i1 * 14 + 12, none⟩ (.slice An9 e2.Body.length cn9), .loaded ⟨blkOf A1, offOf A1 + i1 * 14 + 13, none⟩ (.slice An10 e2.Else.length cn10)] ⟨hCs2 _ (hZ _ hS3.subw) 0 _ rfl, hCs2 _ (hZ _ hS3.subw) 1 _ rfl, hCs2 _ (hZ _ hS3.subw) 2 _ rfl, hCs2 _ (hZ _ hS3.subw) 3 _ rfl, hCs2 _ (hZ _ hS3.subw) 4 _ rfl, hCs2 _ (hZ _ hS3.subw) 5 _ rfl, hCs2 _ (hZ _ hS3.subw) 6 _ rfl, hCs2 _ (hZ _ hS3.subw) 7 _ rfl, hCs2 _ (hZ _ hS3.subw) 8 _ rfl, hCs2 _ (hZ _ hS3.subw) 9 _ rfl, hCs2 _ (hZ _ hS3.subw) 10 _ rfl, hCs2 _ (hZ _ hS3.subw) 11 _ rfl, hCs2 _ (hZ _ hS3.subw) 12 _ rfl, hCs2 _ (hZ _ hS3.subw) 13 _ rfl, trivial⟩ ?_
  refine gw (some 7) (.cells #[vI 0, vI 0, vI 0, vI 0, .slice none 0 0, vI 0, vI 0, vI 0, .slice none 0 0, vI 0, vI 0, .slice none 0 0, .slice none 0 0, .slice none 0 0] 49) (fun b => pP b 0) hS3 fun b2 w3 hx4 hS4 => ?_
  refine gs b2 0 #[vI 0, vI 0, vI 0, vI 0, .slice none 0 0, vI 0, vI 0, vI 0, .slice none 0 0, vI 0, vI 0, .slice none 0 0, .slice none 0 0, .slice none 0 0] 49 [vI e2.Kind, vI e2.N, vI e2.E.Kind, vI e2.E.N, .slice An6 e2.E.A.length cn6, vI e2.If.Kind, vI e2.If.A.Kind, vI e2.If.A.N, .slice An7 e2.If.A.A.length cn7, vI e2.If.B.Kind, vI e2.If.B.N, .slice An8 e2.If.B.A.length cn8, .slice An9 e2.Body.length cn9, .slice An10 e2.Else.length cn10] hS4 fun w4 hS5 => ?_
  have hS6 := hS5.nc #[vI e2.Kind, vI e2.N, vI e2.E.Kind, vI e2.E.N, .slice An6 e2.E.A.length cn6, vI e2.If.Kind, vI e2.If.A.Kind, vI e2.If.A.N, .slice An7 e2.If.A.A.length cn7, vI e2.If.B.Kind, vI e2.If.B.N, .slice An8 e2.If.B.A.length cn8, .slice An9 e2.Body.length cn9, .slice An10 e2.Else.length cn10] (by kernel_rfl)
  refine gn hK10 ?_
  refine ws fun K11 hK11 => ?_
  refine wr [(0, 0), (1, 0), (2, 0), (3, 0), (4, 0), (5, 0), (6, 0), (7, 0), (8, 0), (9, 0), (10, 0), (11, 0), (12, 0), (13, 0), (14, 0), (15, 0), (16, 0), (17, 0), (18, 0), (19, 0), (20, 0), (21, 0), (22, 0), (23, 0), (24, 0), (25, 0), (26, 1), (27, 0), (28, 0), (29, 0), (30, 0), (31, 0), (32, 0), (33, 0), (34, 0), (35, 0), (36, 1), (37, 0), (38, 0), (39, 0), (40, 0), (41, 0), (42, 0), (43, 0), (44, 0), (45, 0), (46, 1), (47, 0), (48, 0), (49, 0), (50, 0), (51, 0), (52, 0), (53, 0), (54, 1), (55, 0), (56, 0), (57, 0), (58, 0), (59, 0), (60, 0), (61, 0), (62, 1), (63, 0), (64, 0)] ?_
  refine gb [0, 1, 2, 3, 4, 5] [(29, .bool (e1.Kind != e2.Kind)), (28, .bool (e1.Kind != e2.Kind)), (27, vI e2.Kind), (26, pP b2 0), (25, vI e1.Kind), (24, pP b1 0)] [.loaded ⟨b1, 0, none⟩ (vI e1.Kind), .loaded ⟨b2, 0, none⟩ (vI e2.Kind)] ⟨hS6.c 1, hS6.c 0, trivial⟩ ?_
  by_cases hc3 : e1.Kind = e2.Kind
  ·rw [if_pos hc3] at h
   refine gk 29 (e1.Kind != e2.Kind) false (bne_eq_false_iff_eq.2 hc3) ?_
   refine gb [6, 7, 8, 9, 10, 11, 12] [(36, .bool (e1.N != e2.N)), (35, .bool (e1.N != e2.N)), (34, .bool (e1.N != e2.N)), (33, vI e2.N), (32, pP b2 1), (31, vI e1.N), (30, pP b1 1)] [.loaded ⟨b1, 1, none⟩ (vI e1.N), .loaded ⟨b2, 1, none⟩ (vI e2.N)] ⟨hS6.c 1, hS6.c 0, trivial⟩ ?_
   by_cases hc4 : e1.N = e2.N
   ·rw [if_pos hc4] at h
    refine gk 36 (e1.N != e2.N) false (bne_eq_false_iff_eq.2 hc4) ?_
    refine gb [13, 14, 15, 16, 17, 18, 19, 20, 21] [(45, .bool (e1.If.Kind != e2.If.Kind)), (44, .bool (e1.If.Kind != e2.If.Kind)), (43, .bool (e1.If.Kind != e2.If.Kind)), (42, vI e2.If.Kind), (41, pP b2 5), (40, pP b2 5), (39, vI e1.If.Kind), (38, pP b1 5), (37, pP b1 5)] [.loaded ⟨b1, 5, none⟩ (vI e1.If.Kind), .loaded ⟨b2, 5, none⟩ (vI e2.If.Kind)] ⟨hS6.c 1, hS6.c 0, trivial⟩ ?_
    by_cases hc5 : e1.If.Kind = e2.If.Kind
    ·rw [if_pos hc5] at h
     refine gk 45 (e1.If.Kind != e2.If.Kind) false (bne_eq_false_iff_eq.2 hc5) ?_
     rcases hq1 : punctualsame_Exprs.f K e1.E.Kind e1.E.N e1.E.A e2.E.Kind e2.E.N e2.E.A with _ | r1
     ·rw [hq1] at h; cases h
     rw [hq1] at h
     simp only [] at h
     refine gb [22, 23, 24, 25] [(49, .agg #[vI e2.E.Kind, vI e2.E.N, .slice An6 e2.E.A.length cn6]), (48, pP b2 2), (47, .agg #[vI e1.E.Kind, vI e1.E.N, .slice An1 e1.E.A.length cn1]), (46, pP b1 2)] [.loaded ⟨b1, 2, none⟩ (vI e1.E.Kind), .loaded ⟨b1, 3, none⟩ (vI e1.E.N), .loaded ⟨b1, 4, none⟩ (.slice An1 e1.E.A.length cn1), .loaded ⟨b2, 2, none⟩ (vI e2.E.Kind), .loaded ⟨b2, 3, none⟩ (vI e2.E.N), .loaded ⟨b2, 4, none⟩ (.slice An6 e2.E.A.length cn6)] ⟨hS6.c 1, hS6.c 1, hS6.c 1, hS6.c 0, hS6.c 0, hS6.c 0, trivial⟩ ?_
     refine ge_call (d := some 50) (f := 56) (args := #[.agg #[vI e1.E.Kind, vI e1.E.N, .slice An1 e1.E.A.length cn1], .agg #[vI e2.E.Kind, vI e2.E.N, .slice An6 e2.E.A.length cn6]]) (by kernel_rfl) (punctualsame_Exprs_ok K Z e1.E.Kind e1.E.N e1.E.A An1 cn1 e2.E.Kind e2.E.N e2.E.A An6 cn6 _ (fun w' k => (hZ w' (hS6.subw.trans k))) hRn1 hLn1 hRn6 hLn6 _ hq1) ?_
     rintro _ w5 ⟨rfl, hS7⟩
     refine ⟨_, rfl, hS7.below, ?_⟩
     have hS8 := hS6.call hS7
     refine gb0 [27, 28, 29] [(53, .bool (!r1)), (52, .bool (!r1)), (51, .bool (!r1))] ?_
     by_cases hc6 : r1 = true
     ·rw [if_pos hc6] at h
      refine gk 53 (!r1) false (congrArg (fun z => !z) hc6) ?_
      rcases hq2 : punctualsame_Exprs.f K e1.If.A.Kind e1.If.A.N e1.If.A.A e2.If.A.Kind e2.If.A.N e2.If.A.A with _ | r2
      ·rw [hq2] at h; cases h
      rw [hq2] at h
      simp only [] at h
      refine gb [30, 31, 32, 33, 34, 35] [(59, .agg #[vI e2.If.A.Kind, vI e2.If.A.N, .slice An7 e2.If.A.A.length cn7]), (58, pP b2 6), (57, pP b2 5), (56, .agg #[vI e1.If.A.Kind, vI e1.If.A.N, .slice An2 e1.If.A.A.length cn2]), (55, pP b1 6), (54, pP b1 5)] [.loaded ⟨b1, 6, none⟩ (vI e1.If.A.Kind), .loaded ⟨b1, 7, none⟩ (vI e1.If.A.N), .loaded ⟨b1, 8, none⟩ (.slice An2 e1.If.A.A.length cn2), .loaded ⟨b2, 6, none⟩ (vI e2.If.A.Kind), .loaded ⟨b2, 7, none⟩ (vI e2.If.A.N), .loaded ⟨b2, 8, none⟩ (.slice An7 e2.If.A.A.length cn7)] ⟨hS8.c 1, hS8.c 1, hS8.c 1, hS8.c 0, hS8.c 0, hS8.c 0, trivial⟩ ?_
      refine ge_call (d := some 60) (f := 56) (args := #[.agg #[vI e1.If.A.Kind, vI e1.If.A.N, .slice An2 e1.If.A.A.length cn2], .agg #[vI e2.If.A.Kind, vI e2.If.A.N, .slice An7 e2.If.A.A.length cn7]]) (by kernel_rfl) (punctualsame_Exprs_ok K Z e1.If.A.Kind e1.If.A.N e1.If.A.A An2 cn2 e2.If.A.Kind e2.If.A.N e2.If.A.A An7 cn7 _ (fun w' k => (hZ w' (hS8.subw.trans k))) hRn2 hLn2 hRn7 hLn7 _ hq2) ?_
      rintro _ w6 ⟨rfl, hS9⟩
      refine ⟨_, rfl, hS9.below, ?_⟩
      have hS10 := hS8.call hS9
      refine gb0 [37, 38, 39] [(63, .bool (!r2)), (62, .bool (!r2)), (61, .bool (!r2))] ?_
      by_cases hc7 : r2 = true
      ·rw [if_pos hc7] at h
       refine gk 63 (!r2) false (congrArg (fun z => !z) hc7) ?_
       rcases hq3 : punctualsame_Exprs.f K e1.If.B.Kind e1.If.B.N e1.If.B.A e2.If.B.Kind e2.If.B.N e2.If.B.A with _ | r3
       ·rw [hq3] at h; cases h
       rw [hq3] at h
       simp only [] at h
       refine gb [40, 41, 42, 43, 44, 45] [(69, .agg #[vI e2.If.B.Kind, vI e2.If.B.N, .slice An8 e2.If.B.A.length cn8]), (68, pP b2 9), (67, pP b2 5), (66, .agg #[vI e1.If.B.Kind, vI e1.If.B.N, .slice An3 e1.If.B.A.length cn3]), (65, pP b1 9), (64, pP b1 5)] [.loaded ⟨b1, 9, none⟩ (vI e1.If.B.Kind), .loaded ⟨b1, 10, none⟩ (vI e1.If.B.N), .loaded ⟨b1, 11, none⟩ (.slice An3 e1.If.B.A.length cn3), .loaded ⟨b2, 9, none⟩ (vI e2.If.B.Kind), .loaded ⟨b2, 10, none⟩ (vI e2.If.B.N), .loaded ⟨b2, 11, none⟩ (.slice An8 e2.If.B.A.length cn8)] ⟨hS10.c 1, hS10.c 1, hS10.c 1, hS10.c 0, hS10.c 0, hS10.c 0, trivial⟩ ?_
       refine ge_call (d := some 70) (f := 56) (args := #[.agg #[vI e1.If.B.Kind, vI e1.If.B.N, .slice An3 e1.If.B.A.length cn3], .agg #[vI e2.If.B.Kind, vI e2.If.B.N, .slice An8 e2.If.B.A.length cn8]]) (by kernel_rfl) (punctualsame_Exprs_ok K Z e1.If.B.Kind e1.If.B.N e1.If.B.A An3 cn3 e2.If.B.Kind e2.If.B.N e2.If.B.A An8 cn8 _ (fun w' k => (hZ w' (hS10.subw.trans k))) hRn3 hLn3 hRn8 hLn8 _ hq3) ?_
       rintro _ w7 ⟨rfl, hS11⟩
       refine ⟨_, rfl, hS11.below, ?_⟩
       have hS12 := hS10.call hS11
       refine gb0 [47, 48, 49] [(73, .bool (!r3)), (72, .bool (!r3)), (71, .bool (!r3))] ?_
       by_cases hc8 : r3 = true
       ·rw [if_pos hc8] at h
        refine gk 73 (!r3) false (congrArg (fun z => !z) hc8) ?_
        rcases hq4 : rec_punctualsame_Bodies e1.Body e2.Body with _ | r4
        ·rw [hq4] at h; cases h
        rw [hq4] at h
        simp only [] at h
        refine gb [50, 51, 52, 53] [(77, .slice An9 e2.Body.length cn9), (76, pP b2 12), (75, .slice An4 e1.Body.length cn4), (74, pP b1 12)] [.loaded ⟨b1, 12, none⟩ (.slice An4 e1.Body.length cn4), .loaded ⟨b2, 12, none⟩ (.slice An9 e2.Body.length cn9)] ⟨hS12.c 1, hS12.c 0, trivial⟩ ?_
        refine ge_call (d := some 78) (f := 28) (args := #[.slice An4 e1.Body.length cn4, .slice An9 e2.Body.length cn9]) (by kernel_rfl) (hr_punctualsame_Bodies Z e1.Body An4 cn4 e2.Body An9 cn9 _ (fun w' k => (hZ w' (hS12.subw.trans k))) hRn4 hLn4 hRn9 hLn9 _ hq4) ?_
        rintro _ w8 ⟨rfl, hS13⟩
        refine ⟨_, rfl, hS13.below, ?_⟩
        have hS14 := hS12.call hS13
        refine gb0 [55, 56, 57] [(81, .bool (!r4)), (80, .bool (!r4)), (79, .bool (!r4))] ?_
        by_cases hc9 : r4 = true
        ·rw [if_pos hc9] at h
         refine gk 81 (!r4) false (congrArg (fun z => !z) hc9) ?_
         rcases hq5 : rec_punctualsame_Bodies e1.Else e2.Else with _ | r5
         ·rw [hq5] at h; cases h
         rw [hq5] at h
         simp only [] at h
         refine gb [58, 59, 60, 61] [(85, .slice An10 e2.Else.length cn10), (84, pP b2 13), (83, .slice An5 e1.Else.length cn5), (82, pP b1 13)] [.loaded ⟨b1, 13, none⟩ (.slice An5 e1.Else.length cn5), .loaded ⟨b2, 13, none⟩ (.slice An10 e2.Else.length cn10)] ⟨hS14.c 1, hS14.c 0, trivial⟩ ?_
         refine ge_call (d := some 86) (f := 28) (args := #[.slice An5 e1.Else.length cn5, .slice An10 e2.Else.length cn10]) (by kernel_rfl) (hr_punctualsame_Bodies Z e1.Else An5 cn5 e2.Else An10 cn10 _ (fun w' k => (hZ w' (hS14.subw.trans k))) hRn5 hLn5 hRn10 hLn10 _ hq5) ?_
         rintro _ w9 ⟨rfl, hS15⟩
         refine ⟨_, rfl, hS15.below, ?_⟩
         have hS16 := hS14.call hS15
         refine gb0 [63, 64] [(88, .bool (!r5)), (87, .bool (!r5))] ?_
         refine gn hK11 ?_
         by_cases hc10 : r5 = true
         ·rw [if_pos hc10] at h
          refine wk 88 (!r5) false (congrArg (fun z => !z) hc10) ?_
          refine we_false (by kernel_rfl) ?_
          refine we_skip fun a hF => hK8 _ _ ?_ a hF
          refine wr [(0, 0), (1, 0)] ?_
          refine ge_addn (d := 89) (ty := 3) (x := (.tmp 15)) (y := (.const (vI 1))) (t := 3) (t2 := 3) (k := .i64) (m := i1) (by kernel_rfl) (by kernel_rfl) (by kernel_rfl) (by have h0 := RdZ.small hR0 (hZ _ hS16.subw); omega) ?_
          refine gb0 [1] [(15, vI ((i1 + 1 : Nat) : Int))] ?_
          have hS17 := hS16.takeN 0
          obtain rfl := si h
          exact ge_nil fun a hF => hQ _ _ _ (Outs.again ⟨hS17, hF.weaken ea⟩)
         ·rw [if_neg hc10] at h
          refine wk 88 (!r5) true (congrArg (fun z => !z) (Bool.eq_false_iff.2 hc10)) ?_
          refine we_true (by kernel_rfl) ?_
          refine ws fun K12 hK12 => ?_
          refine wr [(0, 0)] ?_
          refine gb0 [0] [(4, .bool false)] ?_
          refine gn hK12 ?_
          have hS18 := hS16.takeN 0
          obtain rfl := si h
          exact we_ret fun a hF => hQ _ _ _ (Outs.out nofun (Exits.on ⟨rfl, (pr0 [.tmp 4] [.bool false] ⟨rfl, hS18⟩) a hF⟩))
        ·rw [if_neg hc9] at h
         refine gk 81 (!r4) true (congrArg (fun z => !z) (Bool.eq_false_iff.2 hc9)) ?_
         refine gb0 [58, 59, 60, 61] [(85, undef), (84, undef), (83, undef), (82, undef)] ?_
         refine ge_off rfl rfl rfl (by kernel_rfl) ?_
         refine gb0 [63, 64] [(88, .bool true), (87, undef)] ?_
         refine gn hK11 ?_
         refine we_true (by kernel_rfl) ?_
         refine ws fun K13 hK13 => ?_
         refine wr [(0, 0)] ?_
         refine gb0 [0] [(4, .bool false)] ?_
         refine gn hK13 ?_
         have hS19 := hS14.takeN 0
         obtain rfl := si h
         exact we_ret fun a hF => hQ _ _ _ (Outs.out nofun (Exits.on ⟨rfl, (pr0 [.tmp 4] [.bool false] ⟨rfl, hS19⟩) a hF⟩))
       ·rw [if_neg hc8] at h
        refine gk 73 (!r3) true (congrArg (fun z => !z) (Bool.eq_false_iff.2 hc8)) ?_
        refine gb0 [50, 51, 52, 53] [(77, undef), (76, undef), (75, undef), (74, undef)] ?_
        refine ge_off rfl rfl rfl (by kernel_rfl) ?_
        refine gb0 [55, 56, 57, 58, 59, 60, 61] [(85, undef), (84, undef), (83, undef), (82, undef), (81, .bool true), (80, .bool true), (79, undef)] ?_
        refine ge_off rfl rfl rfl (by kernel_rfl) ?_
        refine gb0 [63, 64] [(88, .bool true), (87, undef)] ?_
        refine gn hK11 ?_
        refine we_true (by kernel_rfl) ?_
        refine ws fun K14 hK14 => ?_
        refine wr [(0, 0)] ?_
        refine gb0 [0] [(4, .bool false)] ?_
        refine gn hK14 ?_
        have hS20 := hS12.takeN 0
        obtain rfl := si h
        exact we_ret fun a hF => hQ _ _ _ (Outs.out nofun (Exits.on ⟨rfl, (pr0 [.tmp 4] [.bool false] ⟨rfl, hS20⟩) a hF⟩))
      ·rw [if_neg hc7] at h
       refine gk 63 (!r2) true (congrArg (fun z => !z) (Bool.eq_false_iff.2 hc7)) ?_
       refine gb0 [40, 41, 42, 43, 44, 45] [(69, undef), (68, undef), (67, undef), (66, undef), (65, undef), (64, undef)] ?_
       refine ge_off rfl rfl rfl (by kernel_rfl) ?_
       refine gb0 [47, 48, 49, 50, 51, 52, 53] [(77, undef), (76, undef), (75, undef), (74, undef), (73, .bool true), (72, .bool true), (71, undef)] ?_
       refine ge_off rfl rfl rfl (by kernel_rfl) ?_
       refine gb0 [55, 56, 57, 58, 59, 60, 61] [(85, undef), (84, undef), (83, undef), (82, undef), (81, .bool true), (80, .bool true), (79, undef)] ?_
       refine ge_off rfl rfl rfl (by kernel_rfl) ?_
       refine gb0 [63, 64] [(88, .bool true), (87, undef)] ?_
       refine gn hK11 ?_
       refine we_true (by kernel_rfl) ?_
       refine ws fun K15 hK15 => ?_
       refine wr [(0, 0)] ?_
       refine gb0 [0] [(4, .bool false)] ?_
       refine gn hK15 ?_
       have hS21 := hS10.takeN 0
       obtain rfl := si h
       exact we_ret fun a hF => hQ _ _ _ (Outs.out nofun (Exits.on ⟨rfl, (pr0 [.tmp 4] [.bool false] ⟨rfl, hS21⟩) a hF⟩))
     ·rw [if_neg hc6] at h
      refine gk 53 (!r1) true (congrArg (fun z => !z) (Bool.eq_false_iff.2 hc6)) ?_
      refine gb0 [30, 31, 32, 33, 34, 35] [(59, undef), (58, undef), (57, undef), (56, undef), (55, undef), (54, undef)] ?_
      refine ge_off rfl rfl rfl (by kernel_rfl) ?_
      refine gb0 [37, 38, 39, 40, 41, 42, 43, 44, 45] [(69, undef), (68, undef), (67, undef), (66, undef), (65, undef), (64, undef), (63, .bool true), (62, .bool true), (61, undef)] ?_
      refine ge_off rfl rfl rfl (by kernel_rfl) ?_
      refine gb0 [47, 48, 49, 50, 51, 52, 53] [(77, undef), (76, undef), (75, undef), (74, undef), (73, .bool true), (72, .bool true), (71, undef)] ?_
      refine ge_off rfl rfl rfl (by kernel_rfl) ?_
      refine gb0 [55, 56, 57, 58, 59, 60, 61] [(85, undef), (84, undef), (83, undef), (82, undef), (81, .bool true), (80, .bool true), (79, undef)] ?_
      refine ge_off rfl rfl rfl (by kernel_rfl) ?_
      refine gb0 [63, 64] [(88, .bool true), (87, undef)] ?_
      refine gn hK11 ?_
      refine we_true (by kernel_rfl) ?_
      refine ws fun K16 hK16 => ?_
      refine wr [(0, 0)] ?_
      refine gb0 [0] [(4, .bool false)] ?_
      refine gn hK16 ?_
      have hS22 := hS8.takeN 0
      obtain rfl := si h
      exact we_ret fun a hF => hQ _ _ _ (Outs.out nofun (Exits.on ⟨rfl, (pr0 [.tmp 4] [.bool false] ⟨rfl, hS22⟩) a hF⟩))
    ·rw [if_neg hc5] at h
     refine gk 45 (e1.If.Kind != e2.If.Kind) true (bne_iff_ne.2 hc5) ?_
     refine gb0 [22, 23, 24, 25] [(49, undef), (48, undef), (47, undef), (46, undef)] ?_
     refine ge_off rfl rfl rfl (by kernel_rfl) ?_
     refine gb0 [27, 28, 29, 30, 31, 32, 33, 34, 35] [(59, undef), (58, undef), (57, undef), (56, undef), (55, undef), (54, undef), (53, .bool true), (52, .bool true), (51, undef)] ?_
     refine ge_off rfl rfl rfl (by kernel_rfl) ?_
     refine gb0 [37, 38, 39, 40, 41, 42, 43, 44, 45] [(69, undef), (68, undef), (67, undef), (66, undef), (65, undef), (64, undef), (63, .bool true), (62, .bool true), (61, undef)] ?_
     refine ge_off rfl rfl rfl (by kernel_rfl) ?_
     refine gb0 [47, 48, 49, 50, 51, 52, 53] [(77, undef), (76, undef), (75, undef), (74, undef), (73, .bool true), (72, .bool true), (71, undef)] ?_
     refine ge_off rfl rfl rfl (by kernel_rfl) ?_
     refine gb0 [55, 56, 57, 58, 59, 60, 61] [(85, undef), (84, undef), (83, undef), (82, undef), (81, .bool true), (80, .bool true), (79, undef)] ?_
     refine ge_off rfl rfl rfl (by kernel_rfl) ?_
     refine gb0 [63, 64] [(88, .bool true), (87, undef)] ?_
     refine gn hK11 ?_
     refine we_true (by kernel_rfl) ?_
     refine ws fun K17 hK17 => ?_
     refine wr [(0, 0)] ?_
     refine gb0 [0] [(4, .bool false)] ?_
     refine gn hK17 ?_
     have hS23 := hS6.takeN 0
     obtain rfl := si h
     exact we_ret fun a hF => hQ _ _ _ (Outs.out nofun (Exits.on ⟨rfl, (pr0 [.tmp 4] [.bool false] ⟨rfl, hS23⟩) a hF⟩))
   ·rw [if_neg hc4] at h
    refine gk 36 (e1.N != e2.N) true (bne_iff_ne.2 hc4) ?_
    refine gb0 [13, 14, 15, 16, 17, 18, 19, 20, 21, 22, 23, 24, 25] [(49, undef), (48, undef), (47, undef), (46, undef), (45, .bool true), (44, .bool true), (43, undef), (42, undef), (41, undef), (40, undef), (39, undef), (38, undef), (37, undef)] ?_
    refine ge_off rfl rfl rfl (by kernel_rfl) ?_
    refine gb0 [27, 28, 29, 30, 31, 32, 33, 34, 35] [(59, undef), (58, undef), (57, undef), (56, undef), (55, undef), (54, undef), (53, .bool true), (52, .bool true), (51, undef)] ?_
    refine ge_off rfl rfl rfl (by kernel_rfl) ?_
    refine gb0 [37, 38, 39, 40, 41, 42, 43, 44, 45] [(69, undef), (68, undef), (67, undef), (66, undef), (65, undef), (64, undef), (63, .bool true), (62, .bool true), (61, undef)] ?_
    refine ge_off rfl rfl rfl (by kernel_rfl) ?_
    refine gb0 [47, 48, 49, 50, 51, 52, 53] [(77, undef), (76, undef), (75, undef), (74, undef), (73, .bool true), (72, .bool true), (71, undef)] ?_
    refine ge_off rfl rfl rfl (by kernel_rfl) ?_
    refine gb0 [55, 56, 57, 58, 59, 60, 61] [(85, undef), (84, undef), (83, undef), (82, undef), (81, .bool true), (80, .bool true), (79, undef)] ?_
    refine ge_off rfl rfl rfl (by kernel_rfl) ?_
    refine gb0 [63, 64] [(88, .bool true), (87, undef)] ?_
    refine gn hK11 ?_
    refine we_true (by kernel_rfl) ?_
    refine ws fun K18 hK18 => ?_
    refine wr [(0, 0)] ?_
    refine gb0 [0] [(4, .bool false)] ?_
    refine gn hK18 ?_
    have hS24 := hS6.takeN 0
    obtain rfl := si h
    exact we_ret fun a hF => hQ _ _ _ (Outs.out nofun (Exits.on ⟨rfl, (pr0 [.tmp 4] [.bool false] ⟨rfl, hS24⟩) a hF⟩))
  ·rw [if_neg hc3] at h
   refine gk 29 (e1.Kind != e2.Kind) true (bne_iff_ne.2 hc3) ?_
   refine gb0 [6, 7, 8, 9, 10, 11, 12, 13, 14, 15, 16, 17, 18, 19, 20, 21, 22, 23, 24, 25] [(49, undef), (48, undef), (47, undef), (46, undef), (45, .bool true), (44, .bool true), (43, undef), (42, undef), (41, undef), (40, undef), (39, undef), (38, undef), (37, undef), (36, .bool true), (35, .bool true), (34, undef), (33, undef), (32, undef), (31, undef), (30, undef)] ?_
   refine ge_off rfl rfl rfl (by kernel_rfl) ?_
   refine gb0 [27, 28, 29, 30, 31, 32, 33, 34, 35] [(59, undef), (58, undef), (57, undef), (56, undef), (55, undef), (54, undef), (53, .bool true), (52, .bool true), (51, undef)] ?_
   refine ge_off rfl rfl rfl (by kernel_rfl) ?_
   refine gb0 [37, 38, 39, 40, 41, 42, 43, 44, 45] [(69, undef), (68, undef), (67, undef), (66, undef), (65, undef), (64, undef), (63, .bool true), (62, .bool true), (61, undef)] ?_
   refine ge_off rfl rfl rfl (by kernel_rfl) ?_
   refine gb0 [47, 48, 49, 50, 51, 52, 53] [(77, undef), (76, undef), (75, undef), (74, undef), (73, .bool true), (72, .bool true), (71, undef)] ?_
   refine ge_off rfl rfl rfl (by kernel_rfl) ?_
   refine gb0 [55, 56, 57, 58, 59, 60, 61] [(85, undef), (84, undef), (83, undef), (82, undef), (81, .bool true), (80, .bool true), (79, undef)] ?_
   refine ge_off rfl rfl rfl (by kernel_rfl) ?_
   refine gb0 [63, 64] [(88, .bool true), (87, undef)] ?_
   refine gn hK11 ?_
   refine we_true (by kernel_rfl) ?_
   refine ws fun K19 hK19 => ?_
   refine wr [(0, 0)] ?_
   refine gb0 [0] [(4, .bool false)] ?_
   refine gn hK19 ?_
   have hS25 := hS6.takeN 0
   obtain rfl := si h
   exact we_ret fun a hF => hQ _ _ _ (Outs.out nofun (Exits.on ⟨rfl, (pr0 [.tmp 4] [.bool false] ⟨rfl, hS25⟩) a hF⟩))
 ·rw [if_neg hc2] at h
  refine wk 16 (decide ((i1 : Int) < (l0.length : Int))) false (decide_eq_false hc2) ?_
  refine we_false (by kernel_rfl) ?_
  obtain rfl := si h
  exact we_exit fun a hF => hQ _ _ _ (Outs.out nofun (Exits.here ⟨hS, hF.weaken trivial⟩))
theorem punctualsame_Bodies_step (K : Nat) (rec_punctualsame_Bodies : (List SStmt) → (List SStmt) → Option Bool) (hr_punctualsame_Bodies : punctualsame_Bodies.Rec rec_punctualsame_Bodies) (Z : Zone) (l0 : List SStmt) (A0 : Option Addr) (c0 : Nat) (l1 : List SStmt) (A1 : Option Addr) (c1 : Nat) (w0 : World) (hZ : ∀ w, Sub w0 w → Z w) (hR0 : RdZ Z A0 l0) (hL0 : l0.length ≤ c0) (hR1 : RdZ Z A1 l1) (hL1 : l1.length ≤ c1) (r : Bool) (h : punctualsame_Bodies.b K rec_punctualsame_Bodies l0 l1 = some r) :
  Calls Try.prog 28 #[.slice A0 l0.length c0, .slice A1 l1.length c1] w0 (punctualsame_Bodies.Post w0 r) := by
 have hS := St.start w0
 unfold punctualsame_Bodies.b at h
 refine calls_enter (n := 90) (args := [.slice A0 l0.length c0, .slice A1 l1.length c1]) (fn := Try.f28) rfl rfl rfl rfl ?_
 show WE _ _ _ _ [(0, .slice A0 l0.length c0), (1, .slice A1 l1.length c1)] _
 refine ws fun K1 hK1 => ?_
 refine wr [(0, 0)] ?_
 refine gb0 [0] [(4, .bool false)] ?_
 refine gn hK1 ?_
 refine ws fun K2 hK2 => ?_
 refine ws fun K3 hK3 => ?_
 refine wr [(0, 0), (1, 0), (2, 0), (3, 0), (4, 0)] ?_
 refine gb0 [0, 1, 2, 3, 4] [(12, .bool ((l0.length : Int) != (l1.length : Int))), (11, vI (l1.length : Int)), (10, .slice A1 l1.length c1), (9, vI (l0.length : Int)), (8, .slice A0 l0.length c0)] ?_
 refine gn hK3 ?_
 by_cases hc1 : (l0.length : Int) = (l1.length : Int)
 ·rw [if_pos hc1] at h
  refine wk 12 ((l0.length : Int) != (l1.length : Int)) false (bne_eq_false_iff_eq.2 hc1) ?_
  refine we_false (by kernel_rfl) ?_
  refine we_skip fun a hF => hK2 _ _ ?_ a hF
  refine ws fun K4 hK4 => ?_
  refine ws fun K5 hK5 => ?_
  refine wr [(0, 0), (1, 0), (2, 0)] ?_
  refine gb0 [0, 1, 2] [(15, vI 0), (14, vI (l0.length : Int)), (13, .slice A0 l0.length c0)] ?_
  refine gn hK5 ?_
  refine we_block ?_
  rcases hq6 : iter (punctualsame_Bodies.r0 K l0 l1 rec_punctualsame_Bodies) K 0 with _ | (_ | rr1)
  ·rw [hq6] at h; cases h
  ·rw [hq6] at h
   simp only [] at h
   refine we_iter (A := punctualsame_Bodies.A0 w0 l0 A0 c0 l1 A1 c1) (B := punctualsame_Bodies.B0 w0) hq6 (fun a hF => ⟨hS, hF.weaken ea⟩) (fun s o hf a w hA Q hQ => punctualsame_Bodies_r0 K w0 Z l0 A0 c0 l1 A1 c1 hZ hR0 hL0 hR1 hL1 rec_punctualsame_Bodies hr_punctualsame_Bodies hc1 s o hf a w hA Q hQ) ?_
   rintro _ a w10 _ ⟨rfl, hS26, hF⟩
   replace hS26 : St w0 w10 [] := hS26
   refine hK4 [] w10 ?_ a hF
   refine ws fun K20 hK20 => ?_
   refine wr [(0, 0)] ?_
   refine gb0 [0] [(4, .bool true)] ?_
   refine gn hK20 ?_
   obtain rfl := si h
   exact we_ret (pr0 [.tmp 4] [.bool true] ⟨rfl, hS26⟩)
  ·rw [hq6] at h
   simp only [] at h
   refine we_iter (A := punctualsame_Bodies.A0 w0 l0 A0 c0 l1 A1 c1) (B := punctualsame_Bodies.B0 w0) hq6 (fun a hF => ⟨hS, hF.weaken ea⟩) (fun s o hf a w hA Q hQ => punctualsame_Bodies_r0 K w0 Z l0 A0 c0 l1 A1 c1 hZ hR0 hL0 hR1 hL1 rec_punctualsame_Bodies hr_punctualsame_Bodies hc1 s o hf a w hA Q hQ) ?_
   rintro _ a w1 _ ⟨rfl, hb⟩
   obtain rfl := si h
   exact hb
 ·rw [if_neg hc1] at h
  refine wk 12 ((l0.length : Int) != (l1.length : Int)) true (bne_iff_ne.2 hc1) ?_
  refine we_true (by kernel_rfl) ?_
  refine ws fun K21 hK21 => ?_
  refine wr [(0, 0)] ?_
  refine gb0 [0] [(4, .bool false)] ?_
  refine gn hK21 ?_
  obtain rfl := si h
  exact we_ret (pr0 [.tmp 4] [.bool false] ⟨rfl, hS⟩)
def punctualsame_Bodies.recs (K : Nat) : Nat → ((List SStmt) → (List SStmt) → Option Bool)
 | 0 => fun _ _ => none
 | n + 1 => punctualsame_Bodies.b K (punctualsame_Bodies.recs K n)
theorem punctualsame_Bodies_all (K n : Nat) : punctualsame_Bodies.Rec (punctualsame_Bodies.recs K n) := by
 induction n with
 | zero => exact (by unfold punctualsame_Bodies.Rec; intros; rename_i h; cases (show none = some _ from h))
 | succ n ih => exact punctualsame_Bodies_step K _ ih
def punctualsame_Bodies.f (K : Nat) (l0 : List SStmt) (l1 : List SStmt) : Option Bool := (punctualsame_Bodies.recs K K) l0 l1
theorem punctualsame_Bodies_ok (K : Nat) (Z : Zone) (l0 : List SStmt) (A0 : Option Addr) (c0 : Nat) (l1 : List SStmt) (A1 : Option Addr) (c1 : Nat) (w0 : World) (hZ : ∀ w, Sub w0 w → Z w) (hR0 : RdZ Z A0 l0) (hL0 : l0.length ≤ c0) (hR1 : RdZ Z A1 l1) (hL1 : l1.length ≤ c1) (r : Bool) (h : punctualsame_Bodies.f K l0 l1 = some r) : Calls Try.prog 28 #[.slice A0 l0.length c0, .slice A1 l1.length c1] w0 (punctualsame_Bodies.Post w0 r) := (punctualsame_Bodies_all K K) Z l0 A0 c0 l1 A1 c1 w0 hZ hR0 hL0 hR1 hL1 r h

/-! punctual/punctuallaw.BodyChecks -/
abbrev BodyChecks.Post (w0 : World) (r : Bool) (e : Ending) (w : World) : Prop := e = .returned (.bool r) ∧ St w0 w []
def BodyChecks.f (K : Nat) (l0 : List SStmt) : Option Bool :=
 match tongue_Check.f K plain.f with
 | none => none
 | some r1 =>
  if r1.Code = 0 then
   match tongue_Check.f K ([(⟨8, 0, (⟨0, 0, ([] : List SExpr)⟩ : SExpr), (⟨0, (⟨0, 0, ([] : List SExpr)⟩ : SExpr), (⟨0, 0, ([] : List SExpr)⟩ : SExpr)⟩ : SCond), ([] : List SStmt), ([] : List SStmt)⟩ : SStmt)] : List SStmt) with
   | none => none
   | some r2 =>
    if (SFault.eqb r2 (punctualref_F.f 6 0)) = true then
     match tongue_Count.f K plain.f with
     | none => none
     | some r3 =>
      if r3 = 3 then
       match claims.f K l0 with
       | none => none
       | some r4 =>
        if r4 = true then
         match punctualsame_Twin.f K l0 with
         | none => none
         | some r5 =>
          match tongue_Check.f K r5 with
          | none => none
          | some r6 =>
           match punctualref_CheckBody.f K l0 with
           | none => none
           | some r7 =>
            if (SFault.eqb r6 r7) = true then
             match tongue_Count.f K r5 with
             | none => none
             | some r8 =>
              match punctualref_Size.f K l0 with
              | none => none
              | some r9 =>
               if r8 = r9 then
                match punctualsame_Bodies.f K r5 l0 with
                | none => none
                | some r10 =>
                 some r10
               else
                some false
            else
             some false
        else
         some true
      else
       some false
    else
     some false
  else
   some false
theorem BodyChecks_ok (K : Nat) (Z : Zone) (l0 : List SStmt) (A0 : Option Addr) (c0 : Nat) (w0 : World) (hZ : ∀ w, Sub w0 w → Z w) (hR0 : RdZ Z A0 l0) (hL0 : l0.length ≤ c0) (r : Bool) (h : BodyChecks.f K l0 = some r) :
  Calls Try.prog 6 #[.slice A0 l0.length c0] w0 (BodyChecks.Post w0 r) := by
 have hS := St.start w0
 unfold BodyChecks.f at h
 refine calls_enter (n := 42) (args := [.slice A0 l0.length c0]) (fn := Try.f6) rfl rfl rfl rfl ?_
 show WE _ _ _ _ [(0, .slice A0 l0.length c0)] _
 obtain ⟨ft1, wf1, hS1⟩ := hS.frz0
 refine ws fun K1 hK1 => ?_
 refine wr [(0, 0)] ?_
 refine gb0 [0] [(2, .bool false)] ?_
 refine gn hK1 ?_
 refine ws fun K2 hK2 => ?_
 refine ws fun K3 hK3 => ?_
 refine wr [(0, 1), (1, 1), (2, 0), (3, 0), (4, 0), (5, 0), (6, 1), (7, 1), (8, 1), (9, 0), (10, 0), (11, 0), (12, 1), (13, 1), (14, 0), (15, 0)] ?_
 refine ge_call (d := some 4) (f := 21) (args := #[]) (by kernel_rfl) (plain_ok (Zand Z wf1) _ (fun w' k => ⟨(hZ w' (hS1.subw.trans k)), (hS1.frzSub 0 rfl).trans k⟩) _ rfl) ?_
 rintro _ w1 ⟨v1, hds1, ft2, wf2, rfl, hd1, hS2⟩
 refine ⟨_, rfl, hS2.below, ?_⟩
 have hS3 := hS1.call hS2
 have hS4 := hS3.bring 2 rfl
 have hS5 := hS4.bring 2 rfl
 obtain ⟨ft3, wf3, hsb1, hsb2, hS6⟩ := hS5.frzMerge
 replace hd1 : DRows (Zand Z wf3) hds1 plain.f := hd1.up (ZLe.both hsb2 hsb1)
 obtain ⟨Z1, cz1, rfl⟩ := hS6.dopen 1 rfl hd1
 have hS7 := hS6.bring 1 rfl
 obtain ⟨ft4, wf4, hsb3, -, hRd1, hLd1, hS8⟩ := hS7.dfrz (Z := Z) hd1
 rcases hq2 : tongue_Check.f K plain.f with _ | r1
 ·rw [hq2] at h; cases h
 rw [hq2] at h
 simp only [] at h
 refine ge_call (d := some 5) (f := 20) (args := #[.slice Z1 plain.f.length cz1]) (by kernel_rfl) (tongue_Check_ok K (Zand Z wf4) plain.f Z1 cz1 _ (fun w' k => ⟨(hZ w' (hS8.subw.trans k)), (hS8.frzSub 0 rfl).trans k⟩) hRd1 hLd1 _ hq2) ?_
 rintro _ w2 ⟨rfl, hS9⟩
 refine ⟨_, rfl, hS9.below, ?_⟩
 have hS10 := hS8.call hS9
 refine gb0 [2, 3, 4] [(8, .bool (r1.Code != 0)), (7, .bool (r1.Code != 0)), (6, vI r1.Code)] ?_
 by_cases hc1 : r1.Code = 0
 ·rw [if_pos hc1] at h
  refine gk 8 (r1.Code != 0) false (bne_eq_false_iff_eq.2 hc1) ?_
  refine gb0 [5] [(9, .agg #[vI 8, vI 0, vI 0, vI 0, .slice none 0 0, vI 0, vI 0, vI 0, .slice none 0 0, vI 0, vI 0, .slice none 0 0, .slice none 0 0, .slice none 0 0])] ?_
  refine gw (some 10) (.cells #[vI 8, vI 0, vI 0, vI 0, .slice none 0 0, vI 0, vI 0, vI 0, .slice none 0 0, vI 0, vI 0, .slice none 0 0, .slice none 0 0, .slice none 0 0] 49) (fun b => .slice (some ⟨b, 0, none⟩) 1 1) hS10 fun b1 w3 hx1 hS11 => ?_
  have hS12 := hS11.asRow (α := HStmt) (c := 1) ([(⟨8, 0, 0, 0, ⟨none, 0, 0⟩, 0, 0, 0, ⟨none, 0, 0⟩, 0, 0, ⟨none, 0, 0⟩, ⟨none, 0, 0⟩, ⟨none, 0, 0⟩⟩ : HStmt)] : List HStmt) (Nat.le_refl _) (by decide) rfl rfl
  have hd2 : DRows (Zand Z wf4) ([(⟨8, 0, 0, 0, ⟨none, 0, 0⟩, 0, 0, 0, ⟨none, 0, 0⟩, 0, 0, ⟨none, 0, 0⟩, ⟨none, 0, 0⟩, ⟨none, 0, 0⟩⟩ : HStmt)] : List HStmt) ([(⟨8, 0, (⟨0, 0, ([] : List SExpr)⟩ : SExpr), (⟨0, (⟨0, 0, ([] : List SExpr)⟩ : SExpr), (⟨0, 0, ([] : List SExpr)⟩ : SExpr)⟩ : SCond), ([] : List SStmt), ([] : List SStmt)⟩ : SStmt)] : List SStmt) := (DRows.add (DRows.nil _) (SStmt.mkZ (⟨8, 0, (⟨0, 0, ([] : List SExpr)⟩ : SExpr), (⟨0, (⟨0, 0, ([] : List SExpr)⟩ : SExpr), (⟨0, 0, ([] : List SExpr)⟩ : SExpr)⟩ : SCond), ([] : List SStmt), ([] : List SStmt)⟩ : SStmt) (Nat.zero_le _) (RdZ.nil _) (Nat.zero_le _) (RdZ.nil _) (Nat.zero_le _) (RdZ.nil _) (Nat.zero_le _) (RdZ.nil _) (Nat.zero_le _) (RdZ.nil _)))
  have hS13 := hS12.bring 1 rfl
  have hS14 := hS13.bring 1 rfl
  obtain ⟨ft5, wf5, hsb4, -, hRd2, hLd2, hS15⟩ := hS14.dfrz (Z := Z) hd2
  refine ge_same (t := 10) (v := .slice (some ⟨b1, 0, none⟩) 1 1) (v' := .slice (some ⟨b1, 0, none⟩) (([(⟨8, 0, (⟨0, 0, ([] : List SExpr)⟩ : SExpr), (⟨0, (⟨0, 0, ([] : List SExpr)⟩ : SExpr), (⟨0, 0, ([] : List SExpr)⟩ : SExpr)⟩ : SCond), ([] : List SStmt), ([] : List SStmt)⟩ : SStmt)] : List SStmt).length) 1) (by kernel_rfl) rfl ?_
  rcases hq3 : tongue_Check.f K ([(⟨8, 0, (⟨0, 0, ([] : List SExpr)⟩ : SExpr), (⟨0, (⟨0, 0, ([] : List SExpr)⟩ : SExpr), (⟨0, 0, ([] : List SExpr)⟩ : SExpr)⟩ : SCond), ([] : List SStmt), ([] : List SStmt)⟩ : SStmt)] : List SStmt) with _ | r2
  ·rw [hq3] at h; cases h
  rw [hq3] at h
  simp only [] at h
  refine ge_call (d := some 11) (f := 20) (args := #[.slice (some ⟨b1, 0, none⟩) (([(⟨8, 0, (⟨0, 0, ([] : List SExpr)⟩ : SExpr), (⟨0, (⟨0, 0, ([] : List SExpr)⟩ : SExpr), (⟨0, 0, ([] : List SExpr)⟩ : SExpr)⟩ : SCond), ([] : List SStmt), ([] : List SStmt)⟩ : SStmt)] : List SStmt).length) 1]) (by kernel_rfl) (tongue_Check_ok K (Zand Z wf5) ([(⟨8, 0, (⟨0, 0, ([] : List SExpr)⟩ : SExpr), (⟨0, (⟨0, 0, ([] : List SExpr)⟩ : SExpr), (⟨0, 0, ([] : List SExpr)⟩ : SExpr)⟩ : SCond), ([] : List SStmt), ([] : List SStmt)⟩ : SStmt)] : List SStmt) (some ⟨b1, 0, none⟩) 1 _ (fun w' k => ⟨(hZ w' (hS15.subw.trans k)), (hS15.frzSub 0 rfl).trans k⟩) hRd2 hLd2 _ hq3) ?_
  rintro _ w4 ⟨rfl, hS16⟩
  refine ⟨_, rfl, hS16.below, ?_⟩
  have hS17 := hS15.call hS16
  refine ge_call (d := some 12) (f := 22) (args := #[vI 6, vI 0]) (by kernel_rfl) (punctualref_F_ok 6 0 _ _ rfl) ?_
  rintro _ w5 ⟨rfl, hS18⟩
  refine ⟨_, rfl, hS18.below, ?_⟩
  have hS19 := hS17.call hS18
  refine ge_eqs (d := 13) (ty := 4) (op := .neq) (x := (.tmp 11)) (y := (.tmp 12)) (t := 40) (t2 := 40) (xs := #[vI r2.Code, vI r2.At]) (ys := #[vI ((punctualref_F.f 6 0).Code), vI ((punctualref_F.f 6 0).At)]) (r := (SFault.eqb r2 (punctualref_F.f 6 0))) (v := !(SFault.eqb r2 (punctualref_F.f 6 0))) (by kernel_rfl) (by kernel_rfl) (by kernel_rfl) (by kernel_rfl) (by kernel_rfl) rfl ?_
  refine gb0 [10, 11] [(15, .bool (!(SFault.eqb r2 (punctualref_F.f 6 0)))), (14, .bool (!(SFault.eqb r2 (punctualref_F.f 6 0))))] ?_
  by_cases hc2 : (SFault.eqb r2 (punctualref_F.f 6 0)) = true
  ·rw [if_pos hc2] at h
   refine gk 15 (!(SFault.eqb r2 (punctualref_F.f 6 0))) false (congrArg (fun z => !z) hc2) ?_
   refine ge_call (d := some 16) (f := 21) (args := #[]) (by kernel_rfl) (plain_ok (Zand Z wf5) _ (fun w' k => ⟨(hZ w' (hS19.subw.trans k)), (hS19.frzSub 0 rfl).trans k⟩) _ rfl) ?_
   rintro _ w6 ⟨v2, hds2, ft6, wf6, rfl, hd3, hS20⟩
   refine ⟨_, rfl, hS20.below, ?_⟩
   have hS21 := hS19.call hS20
   have hS22 := hS21.bring 2 rfl
   have hS23 := hS22.bring 2 rfl
   obtain ⟨ft7, wf7, hsb5, hsb6, hS24⟩ := hS23.frzMerge
   replace hd3 : DRows (Zand Z wf7) hds2 plain.f := hd3.up (ZLe.both hsb6 hsb5)
   obtain ⟨Z2, cz2, rfl⟩ := hS24.dopen 1 rfl hd3
   have hS25 := hS24.bring 1 rfl
   obtain ⟨ft8, wf8, hsb7, -, hRd3, hLd3, hS26⟩ := hS25.dfrz (Z := Z) hd3
   rcases hq6 : tongue_Count.f K plain.f with _ | r3
   ·rw [hq6] at h; cases h
   rw [hq6] at h
   simp only [] at h
   refine ge_call (d := some 17) (f := 23) (args := #[.slice Z2 plain.f.length cz2]) (by kernel_rfl) (tongue_Count_ok K (Zand Z wf8) plain.f Z2 cz2 _ (fun w' k => ⟨(hZ w' (hS26.subw.trans k)), (hS26.frzSub 0 rfl).trans k⟩) hRd3 hLd3 _ hq6) ?_
   rintro _ w7 ⟨rfl, hS27⟩
   refine ⟨_, rfl, hS27.below, ?_⟩
   have hS28 := hS26.call hS27
   refine gb0 [14, 15] [(19, .bool (r3 != 3)), (18, .bool (r3 != 3))] ?_
   refine gn hK3 ?_
   by_cases hc3 : r3 = 3
   ·rw [if_pos hc3] at h
    refine wk 19 (r3 != 3) false (bne_eq_false_iff_eq.2 hc3) ?_
    refine we_false (by kernel_rfl) ?_
    refine we_skip fun a hF => hK2 _ _ ?_ a hF
    refine ws fun K4 hK4 => ?_
    refine ws fun K5 hK5 => ?_
    refine wr [(0, 0), (1, 1), (2, 0)] ?_
    rcases hq7 : claims.f K l0 with _ | r4
    ·rw [hq7] at h; cases h
    rw [hq7] at h
    simp only [] at h
    refine gb0 [0] [(20, .slice A0 l0.length c0)] ?_
    refine ge_call (d := some 21) (f := 24) (args := #[.slice A0 l0.length c0]) (by kernel_rfl) (claims_ok K (Zand Z wf8) l0 A0 c0 _ (fun w' k => ⟨(hZ w' (hS28.subw.trans k)), (hS28.frzSub 0 rfl).trans k⟩) (hR0.up (ZLe.in _ _)) hL0 _ hq7) ?_
    rintro _ w8 ⟨rfl, hS29⟩
    refine ⟨_, rfl, hS29.below, ?_⟩
    have hS30 := hS28.call hS29
    refine gb0 [2] [(22, .bool (!r4))] ?_
    refine gn hK5 ?_
    by_cases hc4 : r4 = true
    ·rw [if_pos hc4] at h
     refine wk 22 (!r4) false (congrArg (fun z => !z) hc4) ?_
     refine we_false (by kernel_rfl) ?_
     refine we_skip fun a hF => hK4 _ _ ?_ a hF
     refine ws fun K6 hK6 => ?_
     refine wr [(0, 0), (1, 1), (2, 0)] ?_
     rcases hq8 : punctualsame_Twin.f K l0 with _ | r5
     ·rw [hq8] at h; cases h
     rw [hq8] at h
     simp only [] at h
     refine gb0 [0] [(23, .slice A0 l0.length c0)] ?_
     refine ge_call (d := some 24) (f := 25) (args := #[.slice A0 l0.length c0]) (by kernel_rfl) (punctualsame_Twin_ok K (Zand Z wf8) l0 A0 c0 _ (fun w' k => ⟨(hZ w' (hS30.subw.trans k)), (hS30.frzSub 0 rfl).trans k⟩) (hR0.up (ZLe.in _ _)) hL0 _ hq8) ?_
     rintro _ w9 ⟨v3, hds3, ft9, wf9, rfl, hd4, hS31⟩
     refine ⟨_, rfl, hS31.below, ?_⟩
     have hS32 := hS30.call hS31
     have hS33 := hS32.bring 2 rfl
     have hS34 := hS33.bring 2 rfl
     obtain ⟨ft10, wf10, hsb8, hsb9, hS35⟩ := hS34.frzMerge
     replace hd4 : DRows (Zand Z wf10) hds3 r5 := hd4.up (ZLe.both hsb9 hsb8)
     refine gb0 [2] [(3, v3)] ?_
     refine gn hK6 ?_
     refine ws fun K7 hK7 => ?_
     refine wr [(0, 0), (1, 1), (2, 0), (3, 1), (4, 0), (5, 0), (6, 0), (7, 1), (8, 0), (9, 1), (10, 0), (11, 0), (12, 0), (13, 0), (14, 0), (15, 1), (16, 0), (17, 0)] ?_
     refine gb0 [0] [(25, v3)] ?_
     obtain ⟨Z3, cz3, rfl⟩ := hS35.dopen 1 rfl hd4
     have hS36 := hS35.bring 1 rfl
     obtain ⟨ft11, wf11, hsb10, -, hRd4, hLd4, hS37⟩ := hS36.dfrz (Z := Z) hd4
     rcases hq9 : tongue_Check.f K r5 with _ | r6
     ·rw [hq9] at h; cases h
     rw [hq9] at h
     simp only [] at h
     refine ge_call (d := some 26) (f := 20) (args := #[.slice Z3 r5.length cz3]) (by kernel_rfl) (tongue_Check_ok K (Zand Z wf11) r5 Z3 cz3 _ (fun w' k => ⟨(hZ w' (hS37.subw.trans k)), (hS37.frzSub 0 rfl).trans k⟩) hRd4 hLd4 _ hq9) ?_
     rintro _ w10 ⟨rfl, hS38⟩
     refine ⟨_, rfl, hS38.below, ?_⟩
     have hS39 := hS37.call hS38
     rcases hq10 : punctualref_CheckBody.f K l0 with _ | r7
     ·rw [hq10] at h; cases h
     rw [hq10] at h
     simp only [] at h
     refine gb0 [2] [(27, .slice A0 l0.length c0)] ?_
     refine ge_call (d := some 28) (f := 26) (args := #[.slice A0 l0.length c0]) (by kernel_rfl) (punctualref_CheckBody_ok K (Zand Z wf11) l0 A0 c0 _ (fun w' k => ⟨(hZ w' (hS39.subw.trans k)), (hS39.frzSub 0 rfl).trans k⟩) (hR0.up (ZLe.in _ _)) hL0 _ hq10) ?_
     rintro _ w11 ⟨rfl, hS40⟩
     refine ⟨_, rfl, hS40.below, ?_⟩
     have hS41 := hS39.call hS40
     refine ge_eqs (d := 29) (ty := 4) (op := .eql) (x := (.tmp 26)) (y := (.tmp 28)) (t := 40) (t2 := 40) (xs := #[vI r6.Code, vI r6.At]) (ys := #[vI r7.Code, vI r7.At]) (r := (SFault.eqb r6 r7)) (v := (SFault.eqb r6 r7)) (by kernel_rfl) (by kernel_rfl) (by kernel_rfl) (by kernel_rfl) (by kernel_rfl) rfl ?_
     refine gb0 [5] [(30, .bool (SFault.eqb r6 r7))] ?_
     by_cases hc5 : (SFault.eqb r6 r7) = true
     ·rw [if_pos hc5] at h
      refine gk 30 (SFault.eqb r6 r7) true hc5 ?_
      rcases hq11 : tongue_Count.f K r5 with _ | r8
      ·rw [hq11] at h; cases h
      rw [hq11] at h
      simp only [] at h
      refine gb0 [6] [(31, .slice Z3 r5.length cz3)] ?_
      refine ge_call (d := some 32) (f := 23) (args := #[.slice Z3 r5.length cz3]) (by kernel_rfl) (tongue_Count_ok K (Zand Z wf11) r5 Z3 cz3 _ (fun w' k => ⟨(hZ w' (hS41.subw.trans k)), (hS41.frzSub 0 rfl).trans k⟩) hRd4 hLd4 _ hq11) ?_
      rintro _ w12 ⟨rfl, hS42⟩
      refine ⟨_, rfl, hS42.below, ?_⟩
      have hS43 := hS41.call hS42
      rcases hq12 : punctualref_Size.f K l0 with _ | r9
      ·rw [hq12] at h; cases h
      rw [hq12] at h
      simp only [] at h
      refine gb0 [8] [(33, .slice A0 l0.length c0)] ?_
      refine ge_call (d := some 34) (f := 27) (args := #[.slice A0 l0.length c0]) (by kernel_rfl) (punctualref_Size_ok K (Zand Z wf11) l0 A0 c0 _ (fun w' k => ⟨(hZ w' (hS43.subw.trans k)), (hS43.frzSub 0 rfl).trans k⟩) (hR0.up (ZLe.in _ _)) hL0 _ hq12) ?_
      rintro _ w13 ⟨rfl, hS44⟩
      refine ⟨_, rfl, hS44.below, ?_⟩
      have hS45 := hS43.call hS44
      refine gb0 [10, 11, 12] [(37, .bool (r8 == r9)), (36, .bool (r8 == r9)), (35, .bool (r8 == r9))] ?_
      by_cases hc6 : r8 = r9
      ·rw [if_pos hc6] at h
       refine gk 37 (r8 == r9) true (beq_iff_eq.2 hc6) ?_
       rcases hq13 : punctualsame_Bodies.f K r5 l0 with _ | r10
       ·rw [hq13] at h; cases h
       rw [hq13] at h
       simp only [] at h
       refine gb0 [13, 14] [(39, .slice A0 l0.length c0), (38, .slice Z3 r5.length cz3)] ?_
       refine ge_call (d := some 40) (f := 28) (args := #[.slice Z3 r5.length cz3, .slice A0 l0.length c0]) (by kernel_rfl) (punctualsame_Bodies_ok K (Zand Z wf11) r5 Z3 cz3 l0 A0 c0 _ (fun w' k => ⟨(hZ w' (hS45.subw.trans k)), (hS45.frzSub 0 rfl).trans k⟩) hRd4 hLd4 (hR0.up (ZLe.in _ _)) hL0 _ hq13) ?_
       rintro _ w14 ⟨rfl, hS46⟩
       refine ⟨_, rfl, hS46.below, ?_⟩
       have hS47 := hS45.call hS46
       refine gb0 [16, 17] [(2, .bool r10), (41, .bool r10)] ?_
       refine gn hK7 ?_
       have hS48 := hS47.takeN 0
       obtain rfl := si h
       exact we_ret (pr0 [.tmp 2] [.bool r10] ⟨rfl, hS48⟩)
      ·rw [if_neg hc6] at h
       refine gk 37 (r8 == r9) false (beq_eq_false_iff_ne.2 hc6) ?_
       refine gb0 [13, 14] [(39, undef), (38, undef)] ?_
       refine ge_off rfl rfl rfl (by kernel_rfl) ?_
       refine gb0 [16, 17] [(2, .bool false), (41, .bool false)] ?_
       refine gn hK7 ?_
       have hS49 := hS45.takeN 0
       obtain rfl := si h
       exact we_ret (pr0 [.tmp 2] [.bool false] ⟨rfl, hS49⟩)
     ·rw [if_neg hc5] at h
      refine gk 30 (SFault.eqb r6 r7) false (Bool.eq_false_iff.2 hc5) ?_
      refine gb0 [6] [(31, undef)] ?_
      refine ge_off rfl rfl rfl (by kernel_rfl) ?_
      refine gb0 [8] [(33, undef)] ?_
      refine ge_off rfl rfl rfl (by kernel_rfl) ?_
      refine gb0 [10, 11, 12, 13, 14] [(39, undef), (38, undef), (37, .bool false), (36, .bool false), (35, undef)] ?_
      refine ge_off rfl rfl rfl (by kernel_rfl) ?_
      refine gb0 [16, 17] [(2, .bool false), (41, .bool false)] ?_
      refine gn hK7 ?_
      have hS50 := hS41.takeN 0
      obtain rfl := si h
      exact we_ret (pr0 [.tmp 2] [.bool false] ⟨rfl, hS50⟩)
    ·rw [if_neg hc4] at h
     refine wk 22 (!r4) true (congrArg (fun z => !z) (Bool.eq_false_iff.2 hc4)) ?_
     refine we_true (by kernel_rfl) ?_
     refine ws fun K8 hK8 => ?_
     refine wr [(0, 0)] ?_
     refine gb0 [0] [(2, .bool true)] ?_
     refine gn hK8 ?_
     have hS51 := hS30.takeN 0
     obtain rfl := si h
     exact we_ret (pr0 [.tmp 2] [.bool true] ⟨rfl, hS51⟩)
   ·rw [if_neg hc3] at h
    refine wk 19 (r3 != 3) true (bne_iff_ne.2 hc3) ?_
    refine we_true (by kernel_rfl) ?_
    refine ws fun K9 hK9 => ?_
    refine wr [(0, 0)] ?_
    refine gb0 [0] [(2, .bool false)] ?_
    refine gn hK9 ?_
    have hS52 := hS28.takeN 0
    obtain rfl := si h
    exact we_ret (pr0 [.tmp 2] [.bool false] ⟨rfl, hS52⟩)
  ·rw [if_neg hc2] at h
   refine gk 15 (!(SFault.eqb r2 (punctualref_F.f 6 0))) true (congrArg (fun z => !z) (Bool.eq_false_iff.2 hc2)) ?_
   refine ge_off rfl rfl rfl (by kernel_rfl) ?_
   refine ge_off rfl rfl rfl (by kernel_rfl) ?_
   refine gb0 [14, 15] [(19, .bool true), (18, undef)] ?_
   refine gn hK3 ?_
   refine we_true (by kernel_rfl) ?_
   refine ws fun K10 hK10 => ?_
   refine wr [(0, 0)] ?_
   refine gb0 [0] [(2, .bool false)] ?_
   refine gn hK10 ?_
   have hS53 := hS19.takeN 0
   obtain rfl := si h
   exact we_ret (pr0 [.tmp 2] [.bool false] ⟨rfl, hS53⟩)
 ·rw [if_neg hc1] at h
  refine gk 8 (r1.Code != 0) true (bne_iff_ne.2 hc1) ?_
  refine gb0 [5] [(9, undef)] ?_
  refine ge_off rfl rfl rfl (by kernel_rfl) ?_
  refine ge_off rfl rfl rfl (by kernel_rfl) ?_
  refine ge_off rfl rfl rfl (by kernel_rfl) ?_
  refine gb0 [9, 10, 11] [(15, .bool true), (14, .bool true), (13, undef)] ?_
  refine ge_off rfl rfl rfl (by kernel_rfl) ?_
  refine ge_off rfl rfl rfl (by kernel_rfl) ?_
  refine gb0 [14, 15] [(19, .bool true), (18, undef)] ?_
  refine gn hK3 ?_
  refine we_true (by kernel_rfl) ?_
  refine ws fun K11 hK11 => ?_
  refine wr [(0, 0)] ?_
  refine gb0 [0] [(2, .bool false)] ?_
  refine gn hK11 ?_
  have hS54 := hS10.takeN 0
  obtain rfl := si h
  exact we_ret (pr0 [.tmp 2] [.bool false] ⟨rfl, hS54⟩)
end Go.Proofs.Ytnckikjcjgmdlaa.GV
