/- Walks of single functions, written by a program of this work. -/
import Derived.Test.YtlipdmblinjjaaaGWFixedExact1
namespace Go.Proofs.Ytlipdmblinjjaaa.GV
open Go Go.RowKit
set_option linter.unusedVariables false
set_option linter.unusedSimpArgs false
set_option maxRecDepth 100000

/-! punctual/sched.Play -/
abbrev sched_Play.Post (w0 : World) (r : SPlayed × SFault) (e : Ending) (w : World) : Prop := ∃ (v0 : Value) (v1 : Value), e = .returned (.tuple #[.agg #[v0, v1], .agg #[vI r.2.Code, vI r.2.At]]) ∧ St w0 w [Own.of v0 3 r.1.Runs, Own.of v1 3 r.1.Ends]
def sched_Play.p0 (x1 : Int) : Option (Unit ⊕ (SPlayed × SFault)) :=
  if (sched_rule.f x1) = 0 then
   some (.inr ((⟨([] : List Int), ([] : List Int)⟩ : SPlayed), (⟨6, 0⟩ : SFault)))
  else
   if (sched_rule.f x1) = 48 then
    some (.inl ())
   else
    if (sched_rule.f x1) = 49 then
     some (.inl ())
    else
     none
def sched_Play.p1 (x3 : Int) : Option (Unit ⊕ (SPlayed × SFault)) :=
  if x3 < 0 then
   some (.inr ((⟨([] : List Int), ([] : List Int)⟩ : SPlayed), (⟨3, 0⟩ : SFault)))
  else
   if x3 > 20000 then
    some (.inr ((⟨([] : List Int), ([] : List Int)⟩ : SPlayed), (⟨3, 0⟩ : SFault)))
   else
    some (.inl ())
def sched_Play.p2 (l0 : List SJob) (x3 : Int) : Option (((List Int) × (List Int)) ⊕ (SPlayed × SFault)) :=
  if 0 ≤ x3 then
   if ((x3).toNat) ≤ 17592186044416 then
    if l0.length ≤ 17592186044416 then
     some (.inl ((List.replicate ((x3).toNat) (0 : Int)), (List.replicate l0.length (0 : Int))))
    else
     none
   else
    none
  else
   none
def sched_Play.r3 (l0 : List SJob) : Nat × (List Int) × (List Int) → Option ((Nat × (List Int) × (List Int)) ⊕ (((List Int) × (List Int)) ⊕ (SPlayed × SFault)))
 | (i1, m5, m6) =>
  if (i1 : Int) < (l0.length : Int) then
   match l0[i1]? with
   | none => none
   | some e1 =>
    match m5[i1]? with
    | none => none
    | some e2 =>
     match m6[i1]? with
     | none => none
     | some e3 =>
      some (.inl ((i1 + 1), (m5.set i1 e1.C), (m6.set i1 (-1))))
  else
   some (.inr (.inl (m5, m6)))
def sched_Play.p5 (K : Nat) (l0 : List SJob) (x1 : Int) (x2 : Bool) (z1 : Int) (z2 : Int) (m11 : List Int) : Option (Int ⊕ (SPlayed × SFault)) :=
  if x2 = true then
   match sched_First.f K l0 l0 z2 m11 x1 with
   | none => none
   | some r2 =>
    some (.inl r2)
  else
   if z1 < 0 then
    match sched_First.f K l0 l0 z2 m11 x1 with
    | none => none
    | some r3 =>
     some (.inl r3)
   else
    if 0 ≤ z1 then
     match m11[(z1).toNat]? with
     | none => none
     | some e4 =>
      if e4 = 0 then
       match sched_First.f K l0 l0 z2 m11 x1 with
       | none => none
       | some r4 =>
        some (.inl r4)
      else
       some (.inl z1)
    else
     none
def sched_Play.r4 (K : Nat) (l0 : List SJob) (x1 : Int) (x2 : Bool) (x3 : Int) : Int × Int × (List Int) × (List Int) × (List Int) → Option ((Int × Int × (List Int) × (List Int) × (List Int)) ⊕ (((List Int) × (List Int)) ⊕ (SPlayed × SFault)))
 | (z1, z2, m11, m12, m13) =>
  if z2 < x3 then
   match sched_Play.p5 K l0 x1 x2 z1 z2 m11 with
   | none => none
   | some (.inl z4) =>
    if 0 ≤ z2 then
     match m12[(z2).toNat]? with
     | none => none
     | some e5 =>
      if z4 < 0 then
       some (.inl (z4, IntKind.i64.wrap (z2 + 1), m11, (m12.set ((z2).toNat) z4), m13))
      else
       if 0 ≤ z4 then
        match m11[(z4).toNat]? with
        | none => none
        | some e6 =>
         match (m11.set ((z4).toNat) (IntKind.i64.wrap (e6 - 1)))[(z4).toNat]? with
         | none => none
         | some e7 =>
          if e7 = 0 then
           match m13[(z4).toNat]? with
           | none => none
           | some e8 =>
            some (.inl (z4, IntKind.i64.wrap (z2 + 1), (m11.set ((z4).toNat) (IntKind.i64.wrap (e6 - 1))), (m12.set ((z2).toNat) z4), (m13.set ((z4).toNat) (IntKind.i64.wrap (z2 + 1)))))
          else
           some (.inl (z4, IntKind.i64.wrap (z2 + 1), (m11.set ((z4).toNat) (IntKind.i64.wrap (e6 - 1))), (m12.set ((z2).toNat) z4), m13))
       else
        none
    else
     none
   | some (.inr rr1) =>
    some (.inr (.inr rr1))
  else
   some (.inr (.inl (m12, m13)))
def sched_Play.p6 (r1 : SFault) : Option ((Int × Int × (List Int) × (List Int)) ⊕ (SPlayed × SFault)) :=
  some (.inl (r1.Code, r1.At, ([] : List Int), ([] : List Int)))
def sched_Play.f (K : Nat) (l0 : List SJob) (x1 : Int) (x2 : Bool) (x3 : Int) : Option (SPlayed × SFault) :=
 match sched_Check.f K l0 with
 | none => none
 | some r1 =>
  if r1.Code = 0 then
   match sched_Play.p0 x1 with
   | none => none
   | some (.inl _) =>
    match sched_Play.p1 x3 with
    | none => none
    | some (.inl _) =>
     match sched_Play.p2 l0 x3 with
     | none => none
     | some (.inl (m3, m4)) =>
      if l0.length ≤ 17592186044416 then
       match iter (sched_Play.r3 l0) K (0, (List.replicate l0.length (0 : Int)), m4) with
       | none => none
       | some (.inl (m9, m10)) =>
        match iter (sched_Play.r4 K l0 x1 x2 x3) K ((-1), 0, m9, m3, m10) with
        | none => none
        | some (.inl (m16, m17)) =>
         some ((⟨m16, m17⟩ : SPlayed), (⟨0, 0⟩ : SFault))
        | some (.inr rr2) =>
         some rr2
       | some (.inr rr3) =>
        some rr3
      else
       none
     | some (.inr rr4) =>
      some rr4
    | some (.inr rr5) =>
     some rr5
   | some (.inr rr6) =>
    some rr6
  else
   match sched_Play.p6 r1 with
   | none => none
   | some (.inl (z7, z8, m20, m21)) =>
    some ((⟨m20, m21⟩ : SPlayed), (⟨z7, z8⟩ : SFault))
   | some (.inr rr7) =>
    some rr7
abbrev sched_Play.A0 (w0 : World) (l0 : List SJob) (A0 : Option Addr) (c0 : Nat) (x1 : Int) (x2 : Bool) (x3 : Int) (b1 : Nat) (b2 : Nat) (b3 : Nat) : Unit → Act → World → Prop := fun (s : Unit) a w => St w0 w [Own.blk b3 (.cells #[vI 0, vI 0] 29 (0, 0)), Own.blk b2 (.cells #[.slice none 0 0, .slice none 0 0] 37 (0, 0)), Own.blk b1 (.cells #[.slice A0 l0.length c0] 32 (0, 0))] ∧ Frm 110 a [(1, vI x1), (2, .bool x2), (3, vI x3), (4, pP b1 0), (8, pP b2 0), (9, pP b3 0)]
abbrev sched_Play.B0 (w0 : World) : (SPlayed × SFault) → Exit → Act → World → Prop := Rets Try.prog Try.f13 (sched_Play.Post w0)
theorem sched_Play_p0 (K : Nat) (w0 : World) (l0 : List SJob) (A0 : Option Addr) (c0 : Nat) (x1 : Int) (x2 : Bool) (x3 : Int) (hR0 : RdL w0 A0 l0) (hL0 : l0.length ≤ c0) (b1 : Nat) (b2 : Nat) (b3 : Nat) (r1 : SFault) (b4 : Nat) (hc1 : r1.Code = 0) (o : Unit ⊕ (SPlayed × SFault)) (h : sched_Play.p0 x1 = some o) (w : World) (hS : St w0 w [Own.blk b4 (.cells #[vI r1.Code, vI r1.At] 29 (0, 0)), Own.blk b3 (.cells #[vI 0, vI 0] 29 (0, 0)), Own.blk b2 (.cells #[.slice none 0 0, .slice none 0 0] 37 (0, 0)), Own.blk b1 (.cells #[.slice A0 l0.length c0] 32 (0, 0))]) (Q : Exit → Act → World → Prop) (hQ : ∀ x a w, Outs (sched_Play.A0 w0 l0 A0 c0 x1 x2 x3 b1 b2 b3) (sched_Play.B0 w0) o x a w → Q x a w) : WE Try.prog 110 (subF Try.f13 [1, 1, 0]) Q [(0, .slice A0 l0.length c0), (1, vI x1), (2, .bool x2), (3, vI x3), (4, pP b1 0), (8, pP b2 0), (9, pP b3 0), (10, pP b4 0), (17, .slice A0 l0.length c0), (18, .agg #[vI r1.Code, vI r1.At]), (19, pP b4 0), (20, vI r1.Code), (21, .bool false)] w := by
 simp only [sched_Play.p0] at h
 refine ws fun K6 hK6 => ?_
 refine wr [(0, 0), (1, 1), (2, 0)] ?_
 refine gb0 [0] [(24, vI x1)] ?_
 refine ge_call (d := some 25) (f := 28) (args := #[vI x1]) (by kernel_rfl) (sched_rule_ok x1 _ _ rfl) ?_
 rintro _ w7 ⟨rfl, hS9⟩
 refine ⟨_, rfl, hS9.below, ?_⟩
 have hS10 := hS.call hS9
 by_cases hc2 : (sched_rule.f x1) = 0
 ·rw [if_pos hc2] at h
  refine ge_same (t := 25) (v := fnVal (sched_rule.f x1)) (v' := .nilFunc) (by kernel_rfl) (by rw [hc2]; rfl) ?_
  refine gb0 [2] [(26, .bool true)] ?_
  refine gn hK6 ?_
  refine we_true (by kernel_rfl) ?_
  refine ws fun K7 hK7 => ?_
  refine wr [(0, 0), (1, 0), (2, 2), (3, 2)] ?_
  refine gb0 [0, 1] [(28, .agg #[vI 6, vI 0]), (27, .agg #[.slice none 0 0, .slice none 0 0])] ?_
  have hS11 := hS10.bring 2 rfl
  refine gs b2 0 #[.slice none 0 0, .slice none 0 0] 37 [.slice none 0 0, .slice none 0 0] hS11 fun w8 hS12 => ?_
  have hS13 : St w0 w8 [Own.blk b2 (.cells #[.slice none 0 0, .slice none 0 0] 37 (0, 0)), Own.blk b4 (.cells #[vI r1.Code, vI r1.At] 29 (0, 0)), Own.blk b3 (.cells #[vI 0, vI 0] 29 (0, 0)), Own.blk b1 (.cells #[.slice A0 l0.length c0] 32 (0, 0))] := hS12
  have hS14 := hS13.bring 2 rfl
  refine gs b3 0 #[vI 0, vI 0] 29 [vI 6, vI 0] hS14 fun w9 hS15 => ?_
  have hS16 : St w0 w9 [Own.blk b3 (.cells #[vI 6, vI 0] 29 (0, 0)), Own.blk b2 (.cells #[.slice none 0 0, .slice none 0 0] 37 (0, 0)), Own.blk b4 (.cells #[vI r1.Code, vI r1.At] 29 (0, 0)), Own.blk b1 (.cells #[.slice A0 l0.length c0] 32 (0, 0))] := hS15
  refine gn hK7 ?_
  have hS17 := hS16.nil (α := Int) 3
  have hS18 := hS17.nil (α := Int) 3
  have hS19 := hS18.bring 1 rfl
  have hS20 := hS19.bring 1 rfl
  have hS21 := hS20.takeN 2
  obtain rfl := si h
  exact we_ret fun a hF => hQ _ _ _ (Outs.out nofun ⟨rfl, (pr [.cell 8 37, .cell 9 29] [.agg #[(.slice none 0 0), (.slice none 0 0)], .agg #[vI 6, vI 0]] [.loaded ⟨b2, 0, none⟩ ((.slice none 0 0)), .loaded ⟨b2, 1, none⟩ ((.slice none 0 0)), .loaded ⟨b3, 0, none⟩ (vI 6), .loaded ⟨b3, 1, none⟩ (vI 0)] ⟨hS18.c 3, hS18.c 3, hS18.c 2, hS18.c 2, trivial⟩ ⟨(.slice none 0 0), (.slice none 0 0), rfl, hS21⟩) a hF⟩)
 ·rw [if_neg hc2] at h
  by_cases hc3 : (sched_rule.f x1) = 48
  ·rw [if_pos hc3] at h
   refine ge_same (t := 25) (v := fnVal (sched_rule.f x1)) (v' := .func (.func 47) #[] #[]) (by kernel_rfl) (by rw [hc3]; rfl) ?_
   refine gb0 [2] [(26, .bool false)] ?_
   refine gn hK6 ?_
   refine we_false (by kernel_rfl) ?_
   have hS22 := hS10.bring 3 rfl
   have hS23 := hS22.bring 3 rfl
   have hS24 := hS23.bring 3 rfl
   have hS25 := hS24.takeN 3
   obtain rfl := si h
   exact we_skip fun a hF => hQ _ _ _ (Outs.again ⟨hS25, hF.weaken ea⟩)
  ·rw [if_neg hc3] at h
   by_cases hc4 : (sched_rule.f x1) = 49
   ·rw [if_pos hc4] at h
    refine ge_same (t := 25) (v := fnVal (sched_rule.f x1)) (v' := .func (.func 48) #[] #[]) (by kernel_rfl) (by rw [hc4]; rfl) ?_
    refine gb0 [2] [(26, .bool false)] ?_
    refine gn hK6 ?_
    refine we_false (by kernel_rfl) ?_
    have hS26 := hS10.bring 3 rfl
    have hS27 := hS26.bring 3 rfl
    have hS28 := hS27.bring 3 rfl
    have hS29 := hS28.takeN 3
    obtain rfl := si h
    exact we_skip fun a hF => hQ _ _ _ (Outs.again ⟨hS29, hF.weaken ea⟩)
   ·rw [if_neg hc4] at h
    cases h
abbrev sched_Play.A1 (w0 : World) (l0 : List SJob) (A0 : Option Addr) (c0 : Nat) (x1 : Int) (x2 : Bool) (x3 : Int) (b1 : Nat) (b2 : Nat) (b3 : Nat) : Unit → Act → World → Prop := fun (s : Unit) a w => St w0 w [Own.blk b3 (.cells #[vI 0, vI 0] 29 (0, 0)), Own.blk b2 (.cells #[.slice none 0 0, .slice none 0 0] 37 (0, 0)), Own.blk b1 (.cells #[.slice A0 l0.length c0] 32 (0, 0))] ∧ Frm 110 a [(1, vI x1), (2, .bool x2), (3, vI x3), (4, pP b1 0), (8, pP b2 0), (9, pP b3 0)]
abbrev sched_Play.B1 (w0 : World) : (SPlayed × SFault) → Exit → Act → World → Prop := Rets Try.prog Try.f13 (sched_Play.Post w0)
theorem sched_Play_p1 (K : Nat) (w0 : World) (l0 : List SJob) (A0 : Option Addr) (c0 : Nat) (x1 : Int) (x2 : Bool) (x3 : Int) (hR0 : RdL w0 A0 l0) (hL0 : l0.length ≤ c0) (b1 : Nat) (b2 : Nat) (b3 : Nat) (r1 : SFault) (b4 : Nat) (hc1 : r1.Code = 0) (o : Unit ⊕ (SPlayed × SFault)) (h : sched_Play.p1 x3 = some o) (w : World) (hS : St w0 w [Own.blk b3 (.cells #[vI 0, vI 0] 29 (0, 0)), Own.blk b2 (.cells #[.slice none 0 0, .slice none 0 0] 37 (0, 0)), Own.blk b1 (.cells #[.slice A0 l0.length c0] 32 (0, 0))]) (Q : Exit → Act → World → Prop) (hQ : ∀ x a w, Outs (sched_Play.A1 w0 l0 A0 c0 x1 x2 x3 b1 b2 b3) (sched_Play.B1 w0) o x a w → Q x a w) : WE Try.prog 110 (subF Try.f13 [1, 1, 1, 0]) Q [(1, vI x1), (2, .bool x2), (3, vI x3), (4, pP b1 0), (8, pP b2 0), (9, pP b3 0)] w := by
 simp only [sched_Play.p1] at h
 refine ws fun K9 hK9 => ?_
 refine wr [(0, 0), (1, 0), (2, 0), (3, 0), (4, 0), (5, 0)] ?_
 refine gb0 [0, 1, 2] [(31, .bool (decide (x3 < 0))), (30, .bool (decide (x3 < 0))), (29, vI x3)] ?_
 by_cases hc5 : x3 < 0
 ·rw [if_pos hc5] at h
  refine gk 31 (decide (x3 < 0)) true (decide_eq_true hc5) ?_
  refine gb0 [3, 4, 5] [(34, .bool true), (33, undef), (32, undef)] ?_
  refine gn hK9 ?_
  refine we_true (by kernel_rfl) ?_
  refine ws fun K10 hK10 => ?_
  refine wr [(0, 0), (1, 0), (2, 2), (3, 2)] ?_
  refine gb0 [0, 1] [(36, .agg #[vI 3, vI 0]), (35, .agg #[.slice none 0 0, .slice none 0 0])] ?_
  have hS31 := hS.bring 1 rfl
  refine gs b2 0 #[.slice none 0 0, .slice none 0 0] 37 [.slice none 0 0, .slice none 0 0] hS31 fun w11 hS32 => ?_
  have hS33 : St w0 w11 [Own.blk b2 (.cells #[.slice none 0 0, .slice none 0 0] 37 (0, 0)), Own.blk b3 (.cells #[vI 0, vI 0] 29 (0, 0)), Own.blk b1 (.cells #[.slice A0 l0.length c0] 32 (0, 0))] := hS32
  have hS34 := hS33.bring 1 rfl
  refine gs b3 0 #[vI 0, vI 0] 29 [vI 3, vI 0] hS34 fun w12 hS35 => ?_
  have hS36 : St w0 w12 [Own.blk b3 (.cells #[vI 3, vI 0] 29 (0, 0)), Own.blk b2 (.cells #[.slice none 0 0, .slice none 0 0] 37 (0, 0)), Own.blk b1 (.cells #[.slice A0 l0.length c0] 32 (0, 0))] := hS35
  refine gn hK10 ?_
  have hS37 := hS36.nil (α := Int) 3
  have hS38 := hS37.nil (α := Int) 3
  have hS39 := hS38.bring 1 rfl
  have hS40 := hS39.bring 1 rfl
  have hS41 := hS40.takeN 2
  obtain rfl := si h
  exact we_ret fun a hF => hQ _ _ _ (Outs.out nofun ⟨rfl, (pr [.cell 8 37, .cell 9 29] [.agg #[(.slice none 0 0), (.slice none 0 0)], .agg #[vI 3, vI 0]] [.loaded ⟨b2, 0, none⟩ ((.slice none 0 0)), .loaded ⟨b2, 1, none⟩ ((.slice none 0 0)), .loaded ⟨b3, 0, none⟩ (vI 3), .loaded ⟨b3, 1, none⟩ (vI 0)] ⟨hS38.c 3, hS38.c 3, hS38.c 2, hS38.c 2, trivial⟩ ⟨(.slice none 0 0), (.slice none 0 0), rfl, hS41⟩) a hF⟩)
 ·rw [if_neg hc5] at h
  refine gk 31 (decide (x3 < 0)) false (decide_eq_false hc5) ?_
  refine gb0 [3, 4, 5] [(34, .bool (decide (x3 > 20000))), (33, .bool (decide (x3 > 20000))), (32, vI x3)] ?_
  refine gn hK9 ?_
  by_cases hc6 : x3 > 20000
  ·rw [if_pos hc6] at h
   refine wk 34 (decide (x3 > 20000)) true (decide_eq_true hc6) ?_
   refine we_true (by kernel_rfl) ?_
   refine ws fun K11 hK11 => ?_
   refine wr [(0, 0), (1, 0), (2, 2), (3, 2)] ?_
   refine gb0 [0, 1] [(36, .agg #[vI 3, vI 0]), (35, .agg #[.slice none 0 0, .slice none 0 0])] ?_
   have hS42 := hS.bring 1 rfl
   refine gs b2 0 #[.slice none 0 0, .slice none 0 0] 37 [.slice none 0 0, .slice none 0 0] hS42 fun w13 hS43 => ?_
   have hS44 : St w0 w13 [Own.blk b2 (.cells #[.slice none 0 0, .slice none 0 0] 37 (0, 0)), Own.blk b3 (.cells #[vI 0, vI 0] 29 (0, 0)), Own.blk b1 (.cells #[.slice A0 l0.length c0] 32 (0, 0))] := hS43
   have hS45 := hS44.bring 1 rfl
   refine gs b3 0 #[vI 0, vI 0] 29 [vI 3, vI 0] hS45 fun w14 hS46 => ?_
   have hS47 : St w0 w14 [Own.blk b3 (.cells #[vI 3, vI 0] 29 (0, 0)), Own.blk b2 (.cells #[.slice none 0 0, .slice none 0 0] 37 (0, 0)), Own.blk b1 (.cells #[.slice A0 l0.length c0] 32 (0, 0))] := hS46
   refine gn hK11 ?_
   have hS48 := hS47.nil (α := Int) 3
   have hS49 := hS48.nil (α := Int) 3
   have hS50 := hS49.bring 1 rfl
   have hS51 := hS50.bring 1 rfl
   have hS52 := hS51.takeN 2
   obtain rfl := si h
   exact we_ret fun a hF => hQ _ _ _ (Outs.out nofun ⟨rfl, (pr [.cell 8 37, .cell 9 29] [.agg #[(.slice none 0 0), (.slice none 0 0)], .agg #[vI 3, vI 0]] [.loaded ⟨b2, 0, none⟩ ((.slice none 0 0)), .loaded ⟨b2, 1, none⟩ ((.slice none 0 0)), .loaded ⟨b3, 0, none⟩ (vI 3), .loaded ⟨b3, 1, none⟩ (vI 0)] ⟨hS49.c 3, hS49.c 3, hS49.c 2, hS49.c 2, trivial⟩ ⟨(.slice none 0 0), (.slice none 0 0), rfl, hS52⟩) a hF⟩)
  ·rw [if_neg hc6] at h
   refine wk 34 (decide (x3 > 20000)) false (decide_eq_false hc6) ?_
   refine we_false (by kernel_rfl) ?_
   have hS53 := hS.bring 2 rfl
   have hS54 := hS53.bring 2 rfl
   have hS55 := hS54.bring 2 rfl
   obtain rfl := si h
   exact we_skip fun a hF => hQ _ _ _ (Outs.again ⟨hS55, hF.weaken ea⟩)
abbrev sched_Play.A2 (w0 : World) (l0 : List SJob) (A0 : Option Addr) (c0 : Nat) (x1 : Int) (x2 : Bool) (x3 : Int) (b1 : Nat) (b2 : Nat) (b3 : Nat) : ((List Int) × (List Int)) → Act → World → Prop := fun (s : (List Int) × (List Int)) a w => ∃ (b5 : Nat) (v1 : Value) (v2 : Value), St w0 w [Own.blk b5 (.cells #[v1, v2] 37 (0, 0)), Own.blk b3 (.cells #[vI 0, vI 0] 29 (0, 0)), Own.blk b2 (.cells #[.slice none 0 0, .slice none 0 0] 37 (0, 0)), Own.blk b1 (.cells #[.slice A0 l0.length c0] 32 (0, 0)), Own.of v1 3 s.1, Own.of v2 3 s.2] ∧ Frm 110 a [(1, vI x1), (2, .bool x2), (3, vI x3), (4, pP b1 0), (8, pP b2 0), (9, pP b3 0), (11, pP b5 0)]
abbrev sched_Play.B2 (w0 : World) : (SPlayed × SFault) → Exit → Act → World → Prop := Rets Try.prog Try.f13 (sched_Play.Post w0)
theorem sched_Play_p2 (K : Nat) (w0 : World) (l0 : List SJob) (A0 : Option Addr) (c0 : Nat) (x1 : Int) (x2 : Bool) (x3 : Int) (hR0 : RdL w0 A0 l0) (hL0 : l0.length ≤ c0) (b1 : Nat) (b2 : Nat) (b3 : Nat) (r1 : SFault) (b4 : Nat) (hc1 : r1.Code = 0) (o : ((List Int) × (List Int)) ⊕ (SPlayed × SFault)) (h : sched_Play.p2 l0 x3 = some o) (w : World) (hS : St w0 w [Own.blk b3 (.cells #[vI 0, vI 0] 29 (0, 0)), Own.blk b2 (.cells #[.slice none 0 0, .slice none 0 0] 37 (0, 0)), Own.blk b1 (.cells #[.slice A0 l0.length c0] 32 (0, 0))]) (Q : Exit → Act → World → Prop) (hQ : ∀ x a w, Outs (sched_Play.A2 w0 l0 A0 c0 x1 x2 x3 b1 b2 b3) (sched_Play.B2 w0) o x a w → Q x a w) : WE Try.prog 110 (subF Try.f13 [1, 1, 1, 1, 0]) Q [(1, vI x1), (2, .bool x2), (3, vI x3), (4, pP b1 0), (8, pP b2 0), (9, pP b3 0)] w := by
 simp only [sched_Play.p2] at h
 refine we_orders2 (by kernel_rfl) [(2, [⟨b1, 0, none⟩])] (.vals [0] (.vals [2] (.vals [3] (.alt 1 1 (.alt 4 1 (.vals [5] (.alt 6 1 (.alt 7 2 .fin .nomore) .nomore)) (.alt 6 1 (.alt 4 1 (.vals [5] (.alt 7 2 .fin .nomore)) .nomore) .nomore)) (.alt 4 1 (.alt 1 1 (.vals [5] (.alt 6 1 (.alt 7 2 .fin .nomore) .nomore)) (.alt 6 1 (.alt 1 1 (.vals [5] (.alt 7 2 .fin .nomore)) .nomore) .nomore)) (.alt 6 1 (.alt 1 1 (.alt 4 1 (.vals [5] (.alt 7 2 .fin .nomore)) .nomore) (.alt 4 1 (.alt 1 1 (.vals [5] (.alt 7 2 .fin .nomore)) .nomore) .nomore)) .nomore)))))) (by kernel_rfl) ?_
 have hS57 := hS.drew
 refine go2_batch [0] (ans := []) (vs := [(37, vI x3)]) (l := []) (by kernel_rfl) trivial mem_nil ?_
 refine go2_batch [2] (ans := [.val (.slice A0 l0.length c0)]) (vs := [(39, .slice A0 l0.length c0)]) (l := [.loaded ⟨b1, 0, none⟩ (.slice A0 l0.length c0)]) (by kernel_rfl) ⟨hS57.c 2, trivial⟩ (mem_one (by kernel_rfl)) ?_
 refine go2_batch [3] (ans := []) (vs := [(40, vI (l0.length : Int))]) (l := []) (by kernel_rfl) trivial mem_nil ?_
 by_cases hc7 : 0 ≤ x3
 ·rw [if_pos hc7] at h
  by_cases hc8 : ((x3).toNat) ≤ 17592186044416
  ·rw [if_pos hc8] at h
   by_cases hc9 : l0.length ≤ 17592186044416
   ·rw [if_pos hc9] at h
    refine go_alt2 (fun KK hKK => ?_) ?_
    ·refine ge_one2 ?_
     refine ge_make (α := Int) (d := 38) (t := 24) (el := 3) (bytes := 8) (l := ((x3).toNat)) (c := ((x3).toNat)) (x := (.tmp 37)) (y := (.tmp 37)) (ty := 24) (k1 := .i64) (k2 := .i64) (li := x3) (ci := x3) (z := vI 0) (z' := (0 : Int)) (by kernel_rfl) (by kernel_rfl) (by kernel_rfl) (Int.toNat_of_nonneg hc7).symm (Int.toNat_of_nonneg hc7).symm (by kernel_rfl) (by kernel_rfl) rfl hS57 (Nat.le_refl _) rfl (by omega) fun v3 w16 _ hS58 => ?_
     refine ge_nil fun a hF => hKK _ _ (RS.of2 (l := [.loaded ⟨b1, 0, none⟩ (.slice A0 l0.length c0)]) (by kernel_rfl) ⟨hS57.c 2, trivial⟩ ⟨hS58.c 3, trivial⟩) ?_ a hF
     refine go_alt2 (fun KK hKK => ?_) ?_
     ·refine ge_one2 ?_
      refine ge_make (α := Int) (d := 41) (t := 24) (el := 3) (bytes := 8) (l := l0.length) (c := l0.length) (x := (.tmp 40)) (y := (.tmp 40)) (ty := 24) (k1 := .i64) (k2 := .i64) (li := (l0.length : Int)) (ci := (l0.length : Int)) (z := vI 0) (z' := (0 : Int)) (by kernel_rfl) (by kernel_rfl) (by kernel_rfl) rfl rfl (by kernel_rfl) (by kernel_rfl) rfl hS58 (Nat.le_refl _) rfl (by omega) fun v4 w17 _ hS59 => ?_
      refine ge_nil fun a hF => hKK _ _ (RS.of2 (l := [.loaded ⟨b1, 0, none⟩ (.slice A0 l0.length c0)]) (by kernel_rfl) ⟨hS58.c 3, trivial⟩ ⟨hS59.c 4, trivial⟩) ?_ a hF
      obtain ⟨Z1, cz1, rfl⟩ := hS59.open 1 rfl
      obtain ⟨Z2, cz2, rfl⟩ := hS59.open 0 rfl
      refine go2_batch [5] (ans := []) (vs := [(42, .agg #[(.slice Z1 (List.replicate ((x3).toNat) (0 : Int)).length cz1), (.slice Z2 (List.replicate l0.length (0 : Int)).length cz2)])]) (l := []) (by kernel_rfl) trivial mem_nil ?_
      refine go_alt2 (fun KK hKK => ?_) ?_
      ·refine ge_one2 ?_
       refine gw (some 11) (.cells #[.slice none 0 0, .slice none 0 0] 37) (fun b => pP b 0) hS59 fun b6 w18 hx5 hS60 => ?_
       refine ge_nil fun a hF => hKK _ _ (RS.of2 (l := [.loaded ⟨b1, 0, none⟩ (.slice A0 l0.length c0)]) (by kernel_rfl) ⟨hS59.c 4, trivial⟩ ⟨hS60.c 5, trivial⟩) ?_ a hF
       refine go_alt2 (fun KK hKK => ?_) ?_
       ·refine gs b6 0 #[.slice none 0 0, .slice none 0 0] 37 [(.slice Z1 (List.replicate ((x3).toNat) (0 : Int)).length cz1), (.slice Z2 (List.replicate l0.length (0 : Int)).length cz2)] hS60 fun w19 hS61 => ?_
        have hS62 : St w0 w19 [Own.blk b6 (.cells #[(.slice Z1 (List.replicate ((x3).toNat) (0 : Int)).length cz1), (.slice Z2 (List.replicate l0.length (0 : Int)).length cz2)] 37 (0, 0)), Own.of (.slice Z2 (List.replicate l0.length (0 : Int)).length cz2) 3 (List.replicate l0.length (0 : Int)), Own.of (.slice Z1 (List.replicate ((x3).toNat) (0 : Int)).length cz1) 3 (List.replicate ((x3).toNat) (0 : Int)), Own.blk b3 (.cells #[vI 0, vI 0] 29 (0, 0)), Own.blk b2 (.cells #[.slice none 0 0, .slice none 0 0] 37 (0, 0)), Own.blk b1 (.cells #[.slice A0 l0.length c0] 32 (0, 0))] := hS61
        refine ge_nil fun a hF => hKK _ _ (RS.of2 (l := []) (by kernel_rfl) trivial trivial) ?_ a hF
        have hS63 := hS62.bring 1 rfl
        have hS64 := hS63.bring 2 rfl
        have hS65 := hS64.bring 5 rfl
        have hS66 := hS65.bring 5 rfl
        have hS67 := hS66.bring 5 rfl
        have hS68 := hS67.bring 5 rfl
        obtain rfl := si h
        exact go_fin2 fun a hF => hQ _ _ _ (Outs.again ⟨b6, (.slice Z1 (List.replicate ((x3).toNat) (0 : Int)).length cz1), (.slice Z2 (List.replicate l0.length (0 : Int)).length cz2), hS68, hF.weaken ea⟩)
       exact go_nomore2
      exact go_nomore2
     refine go_alt2 (fun KK hKK => ?_) ?_
     ·refine ge_one2 ?_
      refine gw (some 11) (.cells #[.slice none 0 0, .slice none 0 0] 37) (fun b => pP b 0) hS58 fun b6 w17 hx5 hS59 => ?_
      refine ge_nil fun a hF => hKK _ _ (RS.of2 (l := [.loaded ⟨b1, 0, none⟩ (.slice A0 l0.length c0)]) (by kernel_rfl) ⟨hS58.c 3, trivial⟩ ⟨hS59.c 4, trivial⟩) ?_ a hF
      refine go_alt2 (fun KK hKK => ?_) ?_
      ·refine ge_one2 ?_
       refine ge_make (α := Int) (d := 41) (t := 24) (el := 3) (bytes := 8) (l := l0.length) (c := l0.length) (x := (.tmp 40)) (y := (.tmp 40)) (ty := 24) (k1 := .i64) (k2 := .i64) (li := (l0.length : Int)) (ci := (l0.length : Int)) (z := vI 0) (z' := (0 : Int)) (by kernel_rfl) (by kernel_rfl) (by kernel_rfl) rfl rfl (by kernel_rfl) (by kernel_rfl) rfl hS59 (Nat.le_refl _) rfl (by omega) fun v4 w18 _ hS60 => ?_
       refine ge_nil fun a hF => hKK _ _ (RS.of2 (l := [.loaded ⟨b1, 0, none⟩ (.slice A0 l0.length c0)]) (by kernel_rfl) ⟨hS59.c 4, trivial⟩ ⟨hS60.c 5, trivial⟩) ?_ a hF
       obtain ⟨Z1, cz1, rfl⟩ := hS60.open 2 rfl
       obtain ⟨Z2, cz2, rfl⟩ := hS60.open 0 rfl
       refine go2_batch [5] (ans := []) (vs := [(42, .agg #[(.slice Z1 (List.replicate ((x3).toNat) (0 : Int)).length cz1), (.slice Z2 (List.replicate l0.length (0 : Int)).length cz2)])]) (l := []) (by kernel_rfl) trivial mem_nil ?_
       refine go_alt2 (fun KK hKK => ?_) ?_
       ·have hS61 := hS60.bring 1 rfl
        refine gs b6 0 #[.slice none 0 0, .slice none 0 0] 37 [(.slice Z1 (List.replicate ((x3).toNat) (0 : Int)).length cz1), (.slice Z2 (List.replicate l0.length (0 : Int)).length cz2)] hS61 fun w19 hS62 => ?_
        have hS63 : St w0 w19 [Own.blk b6 (.cells #[(.slice Z1 (List.replicate ((x3).toNat) (0 : Int)).length cz1), (.slice Z2 (List.replicate l0.length (0 : Int)).length cz2)] 37 (0, 0)), Own.of (.slice Z2 (List.replicate l0.length (0 : Int)).length cz2) 3 (List.replicate l0.length (0 : Int)), Own.of (.slice Z1 (List.replicate ((x3).toNat) (0 : Int)).length cz1) 3 (List.replicate ((x3).toNat) (0 : Int)), Own.blk b3 (.cells #[vI 0, vI 0] 29 (0, 0)), Own.blk b2 (.cells #[.slice none 0 0, .slice none 0 0] 37 (0, 0)), Own.blk b1 (.cells #[.slice A0 l0.length c0] 32 (0, 0))] := hS62
        refine ge_nil fun a hF => hKK _ _ (RS.of2 (l := []) (by kernel_rfl) trivial trivial) ?_ a hF
        have hS64 := hS63.bring 1 rfl
        have hS65 := hS64.bring 2 rfl
        have hS66 := hS65.bring 5 rfl
        have hS67 := hS66.bring 5 rfl
        have hS68 := hS67.bring 5 rfl
        have hS69 := hS68.bring 5 rfl
        obtain rfl := si h
        exact go_fin2 fun a hF => hQ _ _ _ (Outs.again ⟨b6, (.slice Z1 (List.replicate ((x3).toNat) (0 : Int)).length cz1), (.slice Z2 (List.replicate l0.length (0 : Int)).length cz2), hS69, hF.weaken ea⟩)
       exact go_nomore2
      exact go_nomore2
     exact go_nomore2
    refine go_alt2 (fun KK hKK => ?_) ?_
    ·refine ge_one2 ?_
     refine ge_make (α := Int) (d := 41) (t := 24) (el := 3) (bytes := 8) (l := l0.length) (c := l0.length) (x := (.tmp 40)) (y := (.tmp 40)) (ty := 24) (k1 := .i64) (k2 := .i64) (li := (l0.length : Int)) (ci := (l0.length : Int)) (z := vI 0) (z' := (0 : Int)) (by kernel_rfl) (by kernel_rfl) (by kernel_rfl) rfl rfl (by kernel_rfl) (by kernel_rfl) rfl hS57 (Nat.le_refl _) rfl (by omega) fun v3 w16 _ hS58 => ?_
     refine ge_nil fun a hF => hKK _ _ (RS.of2 (l := [.loaded ⟨b1, 0, none⟩ (.slice A0 l0.length c0)]) (by kernel_rfl) ⟨hS57.c 2, trivial⟩ ⟨hS58.c 3, trivial⟩) ?_ a hF
     refine go_alt2 (fun KK hKK => ?_) ?_
     ·refine ge_one2 ?_
      refine ge_make (α := Int) (d := 38) (t := 24) (el := 3) (bytes := 8) (l := ((x3).toNat)) (c := ((x3).toNat)) (x := (.tmp 37)) (y := (.tmp 37)) (ty := 24) (k1 := .i64) (k2 := .i64) (li := x3) (ci := x3) (z := vI 0) (z' := (0 : Int)) (by kernel_rfl) (by kernel_rfl) (by kernel_rfl) (Int.toNat_of_nonneg hc7).symm (Int.toNat_of_nonneg hc7).symm (by kernel_rfl) (by kernel_rfl) rfl hS58 (Nat.le_refl _) rfl (by omega) fun v4 w17 _ hS59 => ?_
      refine ge_nil fun a hF => hKK _ _ (RS.of2 (l := [.loaded ⟨b1, 0, none⟩ (.slice A0 l0.length c0)]) (by kernel_rfl) ⟨hS58.c 3, trivial⟩ ⟨hS59.c 4, trivial⟩) ?_ a hF
      obtain ⟨Z1, cz1, rfl⟩ := hS59.open 0 rfl
      obtain ⟨Z2, cz2, rfl⟩ := hS59.open 1 rfl
      refine go2_batch [5] (ans := []) (vs := [(42, .agg #[(.slice Z1 (List.replicate ((x3).toNat) (0 : Int)).length cz1), (.slice Z2 (List.replicate l0.length (0 : Int)).length cz2)])]) (l := []) (by kernel_rfl) trivial mem_nil ?_
      refine go_alt2 (fun KK hKK => ?_) ?_
      ·refine ge_one2 ?_
       refine gw (some 11) (.cells #[.slice none 0 0, .slice none 0 0] 37) (fun b => pP b 0) hS59 fun b6 w18 hx5 hS60 => ?_
       refine ge_nil fun a hF => hKK _ _ (RS.of2 (l := [.loaded ⟨b1, 0, none⟩ (.slice A0 l0.length c0)]) (by kernel_rfl) ⟨hS59.c 4, trivial⟩ ⟨hS60.c 5, trivial⟩) ?_ a hF
       refine go_alt2 (fun KK hKK => ?_) ?_
       ·refine gs b6 0 #[.slice none 0 0, .slice none 0 0] 37 [(.slice Z1 (List.replicate ((x3).toNat) (0 : Int)).length cz1), (.slice Z2 (List.replicate l0.length (0 : Int)).length cz2)] hS60 fun w19 hS61 => ?_
        have hS62 : St w0 w19 [Own.blk b6 (.cells #[(.slice Z1 (List.replicate ((x3).toNat) (0 : Int)).length cz1), (.slice Z2 (List.replicate l0.length (0 : Int)).length cz2)] 37 (0, 0)), Own.of (.slice Z1 (List.replicate ((x3).toNat) (0 : Int)).length cz1) 3 (List.replicate ((x3).toNat) (0 : Int)), Own.of (.slice Z2 (List.replicate l0.length (0 : Int)).length cz2) 3 (List.replicate l0.length (0 : Int)), Own.blk b3 (.cells #[vI 0, vI 0] 29 (0, 0)), Own.blk b2 (.cells #[.slice none 0 0, .slice none 0 0] 37 (0, 0)), Own.blk b1 (.cells #[.slice A0 l0.length c0] 32 (0, 0))] := hS61
        refine ge_nil fun a hF => hKK _ _ (RS.of2 (l := []) (by kernel_rfl) trivial trivial) ?_ a hF
        have hS63 := hS62.bring 2 rfl
        have hS64 := hS63.bring 2 rfl
        have hS65 := hS64.bring 5 rfl
        have hS66 := hS65.bring 5 rfl
        have hS67 := hS66.bring 5 rfl
        have hS68 := hS67.bring 5 rfl
        obtain rfl := si h
        exact go_fin2 fun a hF => hQ _ _ _ (Outs.again ⟨b6, (.slice Z1 (List.replicate ((x3).toNat) (0 : Int)).length cz1), (.slice Z2 (List.replicate l0.length (0 : Int)).length cz2), hS68, hF.weaken ea⟩)
       exact go_nomore2
      exact go_nomore2
     refine go_alt2 (fun KK hKK => ?_) ?_
     ·refine ge_one2 ?_
      refine gw (some 11) (.cells #[.slice none 0 0, .slice none 0 0] 37) (fun b => pP b 0) hS58 fun b6 w17 hx5 hS59 => ?_
      refine ge_nil fun a hF => hKK _ _ (RS.of2 (l := [.loaded ⟨b1, 0, none⟩ (.slice A0 l0.length c0)]) (by kernel_rfl) ⟨hS58.c 3, trivial⟩ ⟨hS59.c 4, trivial⟩) ?_ a hF
      refine go_alt2 (fun KK hKK => ?_) ?_
      ·refine ge_one2 ?_
       refine ge_make (α := Int) (d := 38) (t := 24) (el := 3) (bytes := 8) (l := ((x3).toNat)) (c := ((x3).toNat)) (x := (.tmp 37)) (y := (.tmp 37)) (ty := 24) (k1 := .i64) (k2 := .i64) (li := x3) (ci := x3) (z := vI 0) (z' := (0 : Int)) (by kernel_rfl) (by kernel_rfl) (by kernel_rfl) (Int.toNat_of_nonneg hc7).symm (Int.toNat_of_nonneg hc7).symm (by kernel_rfl) (by kernel_rfl) rfl hS59 (Nat.le_refl _) rfl (by omega) fun v4 w18 _ hS60 => ?_
       refine ge_nil fun a hF => hKK _ _ (RS.of2 (l := [.loaded ⟨b1, 0, none⟩ (.slice A0 l0.length c0)]) (by kernel_rfl) ⟨hS59.c 4, trivial⟩ ⟨hS60.c 5, trivial⟩) ?_ a hF
       obtain ⟨Z1, cz1, rfl⟩ := hS60.open 0 rfl
       obtain ⟨Z2, cz2, rfl⟩ := hS60.open 2 rfl
       refine go2_batch [5] (ans := []) (vs := [(42, .agg #[(.slice Z1 (List.replicate ((x3).toNat) (0 : Int)).length cz1), (.slice Z2 (List.replicate l0.length (0 : Int)).length cz2)])]) (l := []) (by kernel_rfl) trivial mem_nil ?_
       refine go_alt2 (fun KK hKK => ?_) ?_
       ·have hS61 := hS60.bring 1 rfl
        refine gs b6 0 #[.slice none 0 0, .slice none 0 0] 37 [(.slice Z1 (List.replicate ((x3).toNat) (0 : Int)).length cz1), (.slice Z2 (List.replicate l0.length (0 : Int)).length cz2)] hS61 fun w19 hS62 => ?_
        have hS63 : St w0 w19 [Own.blk b6 (.cells #[(.slice Z1 (List.replicate ((x3).toNat) (0 : Int)).length cz1), (.slice Z2 (List.replicate l0.length (0 : Int)).length cz2)] 37 (0, 0)), Own.of (.slice Z1 (List.replicate ((x3).toNat) (0 : Int)).length cz1) 3 (List.replicate ((x3).toNat) (0 : Int)), Own.of (.slice Z2 (List.replicate l0.length (0 : Int)).length cz2) 3 (List.replicate l0.length (0 : Int)), Own.blk b3 (.cells #[vI 0, vI 0] 29 (0, 0)), Own.blk b2 (.cells #[.slice none 0 0, .slice none 0 0] 37 (0, 0)), Own.blk b1 (.cells #[.slice A0 l0.length c0] 32 (0, 0))] := hS62
        refine ge_nil fun a hF => hKK _ _ (RS.of2 (l := []) (by kernel_rfl) trivial trivial) ?_ a hF
        have hS64 := hS63.bring 2 rfl
        have hS65 := hS64.bring 2 rfl
        have hS66 := hS65.bring 5 rfl
        have hS67 := hS66.bring 5 rfl
        have hS68 := hS67.bring 5 rfl
        have hS69 := hS68.bring 5 rfl
        obtain rfl := si h
        exact go_fin2 fun a hF => hQ _ _ _ (Outs.again ⟨b6, (.slice Z1 (List.replicate ((x3).toNat) (0 : Int)).length cz1), (.slice Z2 (List.replicate l0.length (0 : Int)).length cz2), hS69, hF.weaken ea⟩)
       exact go_nomore2
      exact go_nomore2
     exact go_nomore2
    refine go_alt2 (fun KK hKK => ?_) ?_
    ·refine ge_one2 ?_
     refine gw (some 11) (.cells #[.slice none 0 0, .slice none 0 0] 37) (fun b => pP b 0) hS57 fun b6 w16 hx5 hS58 => ?_
     refine ge_nil fun a hF => hKK _ _ (RS.of2 (l := [.loaded ⟨b1, 0, none⟩ (.slice A0 l0.length c0)]) (by kernel_rfl) ⟨hS57.c 2, trivial⟩ ⟨hS58.c 3, trivial⟩) ?_ a hF
     refine go_alt2 (fun KK hKK => ?_) ?_
     ·refine ge_one2 ?_
      refine ge_make (α := Int) (d := 38) (t := 24) (el := 3) (bytes := 8) (l := ((x3).toNat)) (c := ((x3).toNat)) (x := (.tmp 37)) (y := (.tmp 37)) (ty := 24) (k1 := .i64) (k2 := .i64) (li := x3) (ci := x3) (z := vI 0) (z' := (0 : Int)) (by kernel_rfl) (by kernel_rfl) (by kernel_rfl) (Int.toNat_of_nonneg hc7).symm (Int.toNat_of_nonneg hc7).symm (by kernel_rfl) (by kernel_rfl) rfl hS58 (Nat.le_refl _) rfl (by omega) fun v3 w17 _ hS59 => ?_
      refine ge_nil fun a hF => hKK _ _ (RS.of2 (l := [.loaded ⟨b1, 0, none⟩ (.slice A0 l0.length c0)]) (by kernel_rfl) ⟨hS58.c 3, trivial⟩ ⟨hS59.c 4, trivial⟩) ?_ a hF
      refine go_alt2 (fun KK hKK => ?_) ?_
      ·refine ge_one2 ?_
       refine ge_make (α := Int) (d := 41) (t := 24) (el := 3) (bytes := 8) (l := l0.length) (c := l0.length) (x := (.tmp 40)) (y := (.tmp 40)) (ty := 24) (k1 := .i64) (k2 := .i64) (li := (l0.length : Int)) (ci := (l0.length : Int)) (z := vI 0) (z' := (0 : Int)) (by kernel_rfl) (by kernel_rfl) (by kernel_rfl) rfl rfl (by kernel_rfl) (by kernel_rfl) rfl hS59 (Nat.le_refl _) rfl (by omega) fun v4 w18 _ hS60 => ?_
       refine ge_nil fun a hF => hKK _ _ (RS.of2 (l := [.loaded ⟨b1, 0, none⟩ (.slice A0 l0.length c0)]) (by kernel_rfl) ⟨hS59.c 4, trivial⟩ ⟨hS60.c 5, trivial⟩) ?_ a hF
       obtain ⟨Z1, cz1, rfl⟩ := hS60.open 1 rfl
       obtain ⟨Z2, cz2, rfl⟩ := hS60.open 0 rfl
       refine go2_batch [5] (ans := []) (vs := [(42, .agg #[(.slice Z1 (List.replicate ((x3).toNat) (0 : Int)).length cz1), (.slice Z2 (List.replicate l0.length (0 : Int)).length cz2)])]) (l := []) (by kernel_rfl) trivial mem_nil ?_
       refine go_alt2 (fun KK hKK => ?_) ?_
       ·have hS61 := hS60.bring 2 rfl
        refine gs b6 0 #[.slice none 0 0, .slice none 0 0] 37 [(.slice Z1 (List.replicate ((x3).toNat) (0 : Int)).length cz1), (.slice Z2 (List.replicate l0.length (0 : Int)).length cz2)] hS61 fun w19 hS62 => ?_
        have hS63 : St w0 w19 [Own.blk b6 (.cells #[(.slice Z1 (List.replicate ((x3).toNat) (0 : Int)).length cz1), (.slice Z2 (List.replicate l0.length (0 : Int)).length cz2)] 37 (0, 0)), Own.of (.slice Z2 (List.replicate l0.length (0 : Int)).length cz2) 3 (List.replicate l0.length (0 : Int)), Own.of (.slice Z1 (List.replicate ((x3).toNat) (0 : Int)).length cz1) 3 (List.replicate ((x3).toNat) (0 : Int)), Own.blk b3 (.cells #[vI 0, vI 0] 29 (0, 0)), Own.blk b2 (.cells #[.slice none 0 0, .slice none 0 0] 37 (0, 0)), Own.blk b1 (.cells #[.slice A0 l0.length c0] 32 (0, 0))] := hS62
        refine ge_nil fun a hF => hKK _ _ (RS.of2 (l := []) (by kernel_rfl) trivial trivial) ?_ a hF
        have hS64 := hS63.bring 1 rfl
        have hS65 := hS64.bring 2 rfl
        have hS66 := hS65.bring 5 rfl
        have hS67 := hS66.bring 5 rfl
        have hS68 := hS67.bring 5 rfl
        have hS69 := hS68.bring 5 rfl
        obtain rfl := si h
        exact go_fin2 fun a hF => hQ _ _ _ (Outs.again ⟨b6, (.slice Z1 (List.replicate ((x3).toNat) (0 : Int)).length cz1), (.slice Z2 (List.replicate l0.length (0 : Int)).length cz2), hS69, hF.weaken ea⟩)
       exact go_nomore2
      exact go_nomore2
     refine go_alt2 (fun KK hKK => ?_) ?_
     ·refine ge_one2 ?_
      refine ge_make (α := Int) (d := 41) (t := 24) (el := 3) (bytes := 8) (l := l0.length) (c := l0.length) (x := (.tmp 40)) (y := (.tmp 40)) (ty := 24) (k1 := .i64) (k2 := .i64) (li := (l0.length : Int)) (ci := (l0.length : Int)) (z := vI 0) (z' := (0 : Int)) (by kernel_rfl) (by kernel_rfl) (by kernel_rfl) rfl rfl (by kernel_rfl) (by kernel_rfl) rfl hS58 (Nat.le_refl _) rfl (by omega) fun v3 w17 _ hS59 => ?_
      refine ge_nil fun a hF => hKK _ _ (RS.of2 (l := [.loaded ⟨b1, 0, none⟩ (.slice A0 l0.length c0)]) (by kernel_rfl) ⟨hS58.c 3, trivial⟩ ⟨hS59.c 4, trivial⟩) ?_ a hF
      refine go_alt2 (fun KK hKK => ?_) ?_
      ·refine ge_one2 ?_
       refine ge_make (α := Int) (d := 38) (t := 24) (el := 3) (bytes := 8) (l := ((x3).toNat)) (c := ((x3).toNat)) (x := (.tmp 37)) (y := (.tmp 37)) (ty := 24) (k1 := .i64) (k2 := .i64) (li := x3) (ci := x3) (z := vI 0) (z' := (0 : Int)) (by kernel_rfl) (by kernel_rfl) (by kernel_rfl) (Int.toNat_of_nonneg hc7).symm (Int.toNat_of_nonneg hc7).symm (by kernel_rfl) (by kernel_rfl) rfl hS59 (Nat.le_refl _) rfl (by omega) fun v4 w18 _ hS60 => ?_
       refine ge_nil fun a hF => hKK _ _ (RS.of2 (l := [.loaded ⟨b1, 0, none⟩ (.slice A0 l0.length c0)]) (by kernel_rfl) ⟨hS59.c 4, trivial⟩ ⟨hS60.c 5, trivial⟩) ?_ a hF
       obtain ⟨Z1, cz1, rfl⟩ := hS60.open 0 rfl
       obtain ⟨Z2, cz2, rfl⟩ := hS60.open 1 rfl
       refine go2_batch [5] (ans := []) (vs := [(42, .agg #[(.slice Z1 (List.replicate ((x3).toNat) (0 : Int)).length cz1), (.slice Z2 (List.replicate l0.length (0 : Int)).length cz2)])]) (l := []) (by kernel_rfl) trivial mem_nil ?_
       refine go_alt2 (fun KK hKK => ?_) ?_
       ·have hS61 := hS60.bring 2 rfl
        refine gs b6 0 #[.slice none 0 0, .slice none 0 0] 37 [(.slice Z1 (List.replicate ((x3).toNat) (0 : Int)).length cz1), (.slice Z2 (List.replicate l0.length (0 : Int)).length cz2)] hS61 fun w19 hS62 => ?_
        have hS63 : St w0 w19 [Own.blk b6 (.cells #[(.slice Z1 (List.replicate ((x3).toNat) (0 : Int)).length cz1), (.slice Z2 (List.replicate l0.length (0 : Int)).length cz2)] 37 (0, 0)), Own.of (.slice Z1 (List.replicate ((x3).toNat) (0 : Int)).length cz1) 3 (List.replicate ((x3).toNat) (0 : Int)), Own.of (.slice Z2 (List.replicate l0.length (0 : Int)).length cz2) 3 (List.replicate l0.length (0 : Int)), Own.blk b3 (.cells #[vI 0, vI 0] 29 (0, 0)), Own.blk b2 (.cells #[.slice none 0 0, .slice none 0 0] 37 (0, 0)), Own.blk b1 (.cells #[.slice A0 l0.length c0] 32 (0, 0))] := hS62
        refine ge_nil fun a hF => hKK _ _ (RS.of2 (l := []) (by kernel_rfl) trivial trivial) ?_ a hF
        have hS64 := hS63.bring 2 rfl
        have hS65 := hS64.bring 2 rfl
        have hS66 := hS65.bring 5 rfl
        have hS67 := hS66.bring 5 rfl
        have hS68 := hS67.bring 5 rfl
        have hS69 := hS68.bring 5 rfl
        obtain rfl := si h
        exact go_fin2 fun a hF => hQ _ _ _ (Outs.again ⟨b6, (.slice Z1 (List.replicate ((x3).toNat) (0 : Int)).length cz1), (.slice Z2 (List.replicate l0.length (0 : Int)).length cz2), hS69, hF.weaken ea⟩)
       exact go_nomore2
      exact go_nomore2
     exact go_nomore2
    exact go_nomore2
   ·rw [if_neg hc9] at h
    cases h
  ·rw [if_neg hc8] at h
   cases h
 ·rw [if_neg hc7] at h
  cases h
abbrev sched_Play.A3 (w0 : World) (l0 : List SJob) (A0 : Option Addr) (c0 : Nat) (x1 : Int) (x2 : Bool) (x3 : Int) (b1 : Nat) (b2 : Nat) (b3 : Nat) (b7 : Nat) (m3 : List Int) (b8 : Nat) (Z3 : Option Addr) (cz3 : Nat) (Z4 : Option Addr) (cz4 : Nat) (Z5 : Option Addr) (cz5 : Nat) : (Nat × (List Int) × (List Int)) → Act → World → Prop := fun (s : Nat × (List Int) × (List Int)) a w => St w0 w [Own.blk b8 (.cells #[(.slice Z3 s.2.1.length cz3)] 24 (0, 0)), Own.blk b7 (.cells #[(.slice Z4 m3.length cz4), (.slice Z5 s.2.2.length cz5)] 37 (0, 0)), Own.blk b3 (.cells #[vI 0, vI 0] 29 (0, 0)), Own.blk b2 (.cells #[.slice none 0 0, .slice none 0 0] 37 (0, 0)), Own.blk b1 (.cells #[.slice A0 l0.length c0] 32 (0, 0)), Own.of (.slice Z3 s.2.1.length cz3) 3 s.2.1, Own.of (.slice Z4 m3.length cz4) 3 m3, Own.of (.slice Z5 s.2.2.length cz5) 3 s.2.2] ∧ Frm 110 a [(1, vI x1), (2, .bool x2), (3, vI x3), (4, pP b1 0), (8, pP b2 0), (9, pP b3 0), (11, pP b7 0), (12, pP b8 0), (46, .slice A0 l0.length c0), (47, vI (l0.length : Int)), (48, vI (s.1 : Int))]
abbrev sched_Play.B3 (w0 : World) (l0 : List SJob) (A0 : Option Addr) (c0 : Nat) (x1 : Int) (x2 : Bool) (x3 : Int) (b1 : Nat) (b2 : Nat) (b3 : Nat) (b7 : Nat) (m3 : List Int) (b8 : Nat) (Z3 : Option Addr) (cz3 : Nat) (Z4 : Option Addr) (cz4 : Nat) (Z5 : Option Addr) (cz5 : Nat) : (((List Int) × (List Int)) ⊕ (SPlayed × SFault)) → Exit → Act → World → Prop := Exits 0 (fun (s : (List Int) × (List Int)) a w => St w0 w [Own.blk b8 (.cells #[(.slice Z3 s.1.length cz3)] 24 (0, 0)), Own.blk b7 (.cells #[(.slice Z4 m3.length cz4), (.slice Z5 s.2.length cz5)] 37 (0, 0)), Own.blk b3 (.cells #[vI 0, vI 0] 29 (0, 0)), Own.blk b2 (.cells #[.slice none 0 0, .slice none 0 0] 37 (0, 0)), Own.blk b1 (.cells #[.slice A0 l0.length c0] 32 (0, 0)), Own.of (.slice Z3 s.1.length cz3) 3 s.1, Own.of (.slice Z4 m3.length cz4) 3 m3, Own.of (.slice Z5 s.2.length cz5) 3 s.2] ∧ Frm 110 a [(1, vI x1), (2, .bool x2), (3, vI x3), (4, pP b1 0), (8, pP b2 0), (9, pP b3 0), (11, pP b7 0), (12, pP b8 0)]) (Rets Try.prog Try.f13 (sched_Play.Post w0))
theorem sched_Play_r3 (K : Nat) (w0 : World) (l0 : List SJob) (A0 : Option Addr) (c0 : Nat) (x1 : Int) (x2 : Bool) (x3 : Int) (hR0 : RdL w0 A0 l0) (hL0 : l0.length ≤ c0) (b1 : Nat) (b2 : Nat) (b3 : Nat) (r1 : SFault) (b4 : Nat) (hc1 : r1.Code = 0) (b7 : Nat) (m3 : List Int) (m4 : List Int) (hc10 : l0.length ≤ 17592186044416) (b8 : Nat) (Z3 : Option Addr) (cz3 : Nat) (Z4 : Option Addr) (cz4 : Nat) (Z5 : Option Addr) (cz5 : Nat) (s : Nat × (List Int) × (List Int)) (o : (Nat × (List Int) × (List Int)) ⊕ (((List Int) × (List Int)) ⊕ (SPlayed × SFault))) (h : sched_Play.r3 l0 s = some o) (a : Act) (w : World) (hA : sched_Play.A3 w0 l0 A0 c0 x1 x2 x3 b1 b2 b3 b7 m3 b8 Z3 cz3 Z4 cz4 Z5 cz5 s a w) (Q : Exit → Act → World → Prop) (hQ : ∀ x a w, Outs (sched_Play.A3 w0 l0 A0 c0 x1 x2 x3 b1 b2 b3 b7 m3 b8 Z3 cz3 Z4 cz4 Z5 cz5) (sched_Play.B3 w0 l0 A0 c0 x1 x2 x3 b1 b2 b3 b7 m3 b8 Z3 cz3 Z4 cz4 Z5 cz5) o x a w → Q x a w) : (subF Try.f13 [1, 1, 1, 1, 1, 1, 0, 1, 0, 0]).wp Try.prog Q a w := by
 obtain ⟨i1, m5, m6⟩ := s
 obtain ⟨hS, hF⟩ := hA
 replace hS : St w0 w [Own.blk b8 (.cells #[(.slice Z3 m5.length cz3)] 24 (0, 0)), Own.blk b7 (.cells #[(.slice Z4 m3.length cz4), (.slice Z5 m6.length cz5)] 37 (0, 0)), Own.blk b3 (.cells #[vI 0, vI 0] 29 (0, 0)), Own.blk b2 (.cells #[.slice none 0 0, .slice none 0 0] 37 (0, 0)), Own.blk b1 (.cells #[.slice A0 l0.length c0] 32 (0, 0)), Own.of (.slice Z3 m5.length cz3) 3 m5, Own.of (.slice Z4 m3.length cz4) 3 m3, Own.of (.slice Z5 m6.length cz5) 3 m6] := hS
 simp only [sched_Play.r3] at h
 refine (?_ : WE Try.prog 110 (subF Try.f13 [1, 1, 1, 1, 1, 1, 0, 1, 0, 0]) Q [(1, vI x1), (2, .bool x2), (3, vI x3), (4, pP b1 0), (8, pP b2 0), (9, pP b3 0), (11, pP b7 0), (12, pP b8 0), (46, .slice A0 l0.length c0), (47, vI (l0.length : Int)), (48, vI (i1 : Int))] w) a hF
 clear hF a
 refine ws fun K16 hK16 => ?_
 refine wr [(0, 0)] ?_
 refine gb0 [0] [(49, .bool (decide ((i1 : Int) < (l0.length : Int))))] ?_
 refine gn hK16 ?_
 refine ws fun K17 hK17 => ?_
 by_cases hc11 : (i1 : Int) < (l0.length : Int)
 ·rw [if_pos hc11] at h
  refine wk 49 (decide ((i1 : Int) < (l0.length : Int))) true (decide_eq_true hc11) ?_
  refine we_true (by kernel_rfl) ?_
  refine we_skip fun a hF => hK17 _ _ ?_ a hF
  refine ws fun K18 hK18 => ?_
  refine we_block ?_
  refine ws fun K19 hK19 => ?_
  refine wr [(0, 0), (1, 0), (2, 0), (3, 1), (4, 0), (5, 2)] ?_
  refine gb0 [0] [(50, vI (i1 : Int))] ?_
  rcases hx7 : l0[i1]? with _ | e1
  ·rw [hx7] at h; cases h
  rw [hx7] at h
  simp only [] at h
  refine gi 51 0 32 59 5 l0.length c0 (.tmp 46) (.tmp 48) A0 .i64 (i1 : Int) i1 ((hS.rd hR0).eqSome (pos_of_get hx7)) rfl (lt_of_get hx7) ?_
  refine gb [2] [(52, .agg #[vI e1.Task, vI e1.At, vI e1.C, vI e1.Due, vI e1.P])] [.loaded ⟨blkOf A0, offOf A0 + i1 * 5, none⟩ (vI e1.Task), .loaded ⟨blkOf A0, offOf A0 + i1 * 5 + 1, none⟩ (vI e1.At), .loaded ⟨blkOf A0, offOf A0 + i1 * 5 + 2, none⟩ (vI e1.C), .loaded ⟨blkOf A0, offOf A0 + i1 * 5 + 3, none⟩ (vI e1.Due), .loaded ⟨blkOf A0, offOf A0 + i1 * 5 + 4, none⟩ (vI e1.P)] ⟨RdL.cell (j := 0) (hS.rd hR0) hx7 rfl, RdL.cell (j := 1) (hS.rd hR0) hx7 rfl, RdL.cell (j := 2) (hS.rd hR0) hx7 rfl, RdL.cell (j := 3) (hS.rd hR0) hx7 rfl, RdL.cell (j := 4) (hS.rd hR0) hx7 rfl, trivial⟩ ?_
  refine gw (some 14) (.cells #[vI 0, vI 0, vI 0, vI 0, vI 0] 59) (fun b => pP b 0) hS fun b9 w24 hx8 hS83 => ?_
  refine gb0 [4] [(13, vI (i1 : Int))] ?_
  refine gs b9 0 #[vI 0, vI 0, vI 0, vI 0, vI 0] 59 [vI e1.Task, vI e1.At, vI e1.C, vI e1.Due, vI e1.P] hS83 fun w25 hS84 => ?_
  have hS85 : St w0 w25 [Own.blk b9 (.cells #[vI e1.Task, vI e1.At, vI e1.C, vI e1.Due, vI e1.P] 59 (0, 0)), Own.blk b8 (.cells #[(.slice Z3 m5.length cz3)] 24 (0, 0)), Own.blk b7 (.cells #[(.slice Z4 m3.length cz4), (.slice Z5 m6.length cz5)] 37 (0, 0)), Own.blk b3 (.cells #[vI 0, vI 0] 29 (0, 0)), Own.blk b2 (.cells #[.slice none 0 0, .slice none 0 0] 37 (0, 0)), Own.blk b1 (.cells #[.slice A0 l0.length c0] 32 (0, 0)), Own.of (.slice Z3 m5.length cz3) 3 m5, Own.of (.slice Z4 m3.length cz4) 3 m3, Own.of (.slice Z5 m6.length cz5) 3 m6] := hS84
  refine gn hK19 ?_
  refine we_orders2 (by kernel_rfl) [(0, [⟨b8, 0, none⟩]), (3, [⟨b7, 1, none⟩]), (6, [⟨b9, 2, none⟩])] (.vals [0] (.vals [1] (.vals [2] (.vals [3] (.vals [4] (.vals [5] (.vals [6] (.vals [7] (.alt 8 2 (.vals [9] (.alt 10 2 .fin .nomore)) .nomore))))))))) (by kernel_rfl) ?_
  have hS86 := hS85.drew
  refine go2_batch [0] (ans := [.val ((.slice Z3 m5.length cz3))]) (vs := [(53, (.slice Z3 m5.length cz3))]) (l := [.loaded ⟨b8, 0, none⟩ ((.slice Z3 m5.length cz3))]) (by kernel_rfl) ⟨hS86.c 1, trivial⟩ (mem_one (by kernel_rfl)) ?_
  refine go2_batch [1, 2] (ans := []) (vs := [(55, pP b7 1), (54, vI (i1 : Int))]) (l := []) (by kernel_rfl) trivial mem_nil ?_
  refine go2_batch [3] (ans := [.val ((.slice Z5 m6.length cz5))]) (vs := [(56, (.slice Z5 m6.length cz5))]) (l := [.loaded ⟨b7, 1, none⟩ ((.slice Z5 m6.length cz5))]) (by kernel_rfl) ⟨hS86.c 2, trivial⟩ (mem_one (by kernel_rfl)) ?_
  refine go2_batch [4, 5] (ans := []) (vs := [(58, pP b9 2), (57, vI (i1 : Int))]) (l := []) (by kernel_rfl) trivial mem_nil ?_
  refine go2_batch [6] (ans := [.val (vI e1.C)]) (vs := [(59, vI e1.C)]) (l := [.loaded ⟨b9, 2, none⟩ (vI e1.C)]) (by kernel_rfl) ⟨hS86.c 0, trivial⟩ (mem_one (by kernel_rfl)) ?_
  rcases hx9 : m5[i1]? with _ | e2
  ·rw [hx9] at h; cases h
  rw [hx9] at h
  simp only [] at h
  refine go2_index (d := 60) (ty := 0) (t := 24) (el := 3) (sz := 1) (m := m5.length) (c := cz3) (x := (.tmp 53)) (y := (.tmp 54)) (A := Z3) (k' := .i64) (j := (i1 : Int)) (jn := i1) (b0 := blkOf Z3) (o0 := offOf Z3) (by kernel_rfl) (by kernel_rfl) (by kernel_rfl) (by kernel_rfl) (by kernel_rfl) ((hS86.rdAt 6 rfl).eqSome (pos_of_get hx9)) rfl (lt_of_get hx9) ?_
  refine go_alt2 (fun KK hKK => ?_) ?_
  ·have hS87 := hS86.bring 6 rfl
   refine ge_seti (α := Int) (A := Z3) (nn := m5.length) (c := cz3) (t := 3) (l := m5) (x := e2) (x' := e1.C) (jn := i1) (j := 0) (vs := [vI e1.C]) (l' := [.stored ⟨blkOf Z3, offOf Z3 + i1 * 1, none⟩ (vI e1.C)]) hS87 (by kernel_rfl) (by kernel_rfl) hx9 rfl rfl rfl fun w26 hS88 => ?_
   have hS89 : St w0 w26 [Own.of (.slice Z3 m5.length cz3) 3 (m5.set i1 e1.C), Own.blk b9 (.cells #[vI e1.Task, vI e1.At, vI e1.C, vI e1.Due, vI e1.P] 59 (0, 0)), Own.blk b8 (.cells #[(.slice Z3 m5.length cz3)] 24 (0, 0)), Own.blk b7 (.cells #[(.slice Z4 m3.length cz4), (.slice Z5 m6.length cz5)] 37 (0, 0)), Own.blk b3 (.cells #[vI 0, vI 0] 29 (0, 0)), Own.blk b2 (.cells #[.slice none 0 0, .slice none 0 0] 37 (0, 0)), Own.blk b1 (.cells #[.slice A0 l0.length c0] 32 (0, 0)), Own.of (.slice Z4 m3.length cz4) 3 m3, Own.of (.slice Z5 m6.length cz5) 3 m6] := hS88
   have hE1 : m5.length = (m5.set i1 e1.C).length := hS89.lenAt 0 rfl
   have hS90 : St w0 w26 [Own.of (.slice Z3 (m5.set i1 e1.C).length cz3) 3 (m5.set i1 e1.C), Own.blk b9 (.cells #[vI e1.Task, vI e1.At, vI e1.C, vI e1.Due, vI e1.P] 59 (0, 0)), Own.blk b8 (.cells #[(.slice Z3 (m5.set i1 e1.C).length cz3)] 24 (0, 0)), Own.blk b7 (.cells #[(.slice Z4 m3.length cz4), (.slice Z5 m6.length cz5)] 37 (0, 0)), Own.blk b3 (.cells #[vI 0, vI 0] 29 (0, 0)), Own.blk b2 (.cells #[.slice none 0 0, .slice none 0 0] 37 (0, 0)), Own.blk b1 (.cells #[.slice A0 l0.length c0] 32 (0, 0)), Own.of (.slice Z4 m3.length cz4) 3 m3, Own.of (.slice Z5 m6.length cz5) 3 m6] := by rw [← hE1]; exact hS89
   refine ge_same (t := 53) (v := (.slice Z3 m5.length cz3)) (v' := (.slice Z3 (m5.set i1 e1.C).length cz3)) (by kernel_rfl) (by rw [hE1]) ?_
   refine ge_nil fun a hF => hKK _ _ (RS.of2 (l := [.loaded ⟨b7, 1, none⟩ ((.slice Z5 m6.length cz5))]) (by kernel_rfl) ⟨hS86.c 2, trivial⟩ ⟨hS90.c 3, trivial⟩) ?_ a hF
   rcases hx10 : m6[i1]? with _ | e3
   ·rw [hx10] at h; cases h
   rw [hx10] at h
   simp only [] at h
   refine go2_index (d := 61) (ty := 0) (t := 24) (el := 3) (sz := 1) (m := m6.length) (c := cz5) (x := (.tmp 56)) (y := (.tmp 57)) (A := Z5) (k' := .i64) (j := (i1 : Int)) (jn := i1) (b0 := blkOf Z5) (o0 := offOf Z5) (by kernel_rfl) (by kernel_rfl) (by kernel_rfl) (by kernel_rfl) (by kernel_rfl) ((hS90.rdAt 8 rfl).eqSome (pos_of_get hx10)) rfl (lt_of_get hx10) ?_
   refine go_alt2 (fun KK hKK => ?_) ?_
   ·have hS91 := hS90.bring 8 rfl
    refine ge_seti (α := Int) (A := Z5) (nn := m6.length) (c := cz5) (t := 3) (l := m6) (x := e3) (x' := (-1)) (jn := i1) (j := 0) (vs := [vI (-1)]) (l' := [.stored ⟨blkOf Z5, offOf Z5 + i1 * 1, none⟩ (vI (-1))]) hS91 (by kernel_rfl) (by kernel_rfl) hx10 rfl rfl rfl fun w27 hS92 => ?_
    have hS93 : St w0 w27 [Own.of (.slice Z5 m6.length cz5) 3 (m6.set i1 (-1)), Own.of (.slice Z3 (m5.set i1 e1.C).length cz3) 3 (m5.set i1 e1.C), Own.blk b9 (.cells #[vI e1.Task, vI e1.At, vI e1.C, vI e1.Due, vI e1.P] 59 (0, 0)), Own.blk b8 (.cells #[(.slice Z3 (m5.set i1 e1.C).length cz3)] 24 (0, 0)), Own.blk b7 (.cells #[(.slice Z4 m3.length cz4), (.slice Z5 m6.length cz5)] 37 (0, 0)), Own.blk b3 (.cells #[vI 0, vI 0] 29 (0, 0)), Own.blk b2 (.cells #[.slice none 0 0, .slice none 0 0] 37 (0, 0)), Own.blk b1 (.cells #[.slice A0 l0.length c0] 32 (0, 0)), Own.of (.slice Z4 m3.length cz4) 3 m3] := hS92
    have hE2 : m6.length = (m6.set i1 (-1)).length := hS93.lenAt 0 rfl
    have hS94 : St w0 w27 [Own.of (.slice Z5 (m6.set i1 (-1)).length cz5) 3 (m6.set i1 (-1)), Own.of (.slice Z3 (m5.set i1 e1.C).length cz3) 3 (m5.set i1 e1.C), Own.blk b9 (.cells #[vI e1.Task, vI e1.At, vI e1.C, vI e1.Due, vI e1.P] 59 (0, 0)), Own.blk b8 (.cells #[(.slice Z3 (m5.set i1 e1.C).length cz3)] 24 (0, 0)), Own.blk b7 (.cells #[(.slice Z4 m3.length cz4), (.slice Z5 (m6.set i1 (-1)).length cz5)] 37 (0, 0)), Own.blk b3 (.cells #[vI 0, vI 0] 29 (0, 0)), Own.blk b2 (.cells #[.slice none 0 0, .slice none 0 0] 37 (0, 0)), Own.blk b1 (.cells #[.slice A0 l0.length c0] 32 (0, 0)), Own.of (.slice Z4 m3.length cz4) 3 m3] := by rw [← hE2]; exact hS93
    refine ge_same (t := 56) (v := (.slice Z5 m6.length cz5)) (v' := (.slice Z5 (m6.set i1 (-1)).length cz5)) (by kernel_rfl) (by rw [hE2]) ?_
    refine ge_nil fun a hF => hKK _ _ (RS.of2 (l := []) (by kernel_rfl) trivial trivial) ?_ a hF
    refine go_fin2 fun a hF => hK18 _ _ ?_ a hF
    refine wr [(0, 0), (1, 0)] ?_
    refine ge_addn (d := 62) (ty := 3) (x := (.tmp 48)) (y := (.const (vI 1))) (t := 3) (t2 := 3) (k := .i64) (m := i1) (by kernel_rfl) (by kernel_rfl) (by kernel_rfl) (by have h0 := hR0.small; omega) ?_
    refine gb0 [1] [(48, vI ((i1 + 1 : Nat) : Int))] ?_
    have hS95 := hS94.bring 8 rfl
    have hS96 := hS95.bring 2 rfl
    have hS97 := hS96.bring 8 rfl
    have hS98 := hS97.bring 8 rfl
    have hS99 := hS98.bring 8 rfl
    have hS100 := hS99.bring 8 rfl
    have hS101 := hS100.bring 8 rfl
    have hS102 := hS101.takeN 8
    obtain rfl := si h
    exact ge_nil fun a hF => hQ _ _ _ (Outs.again ⟨hS102, hF.weaken ea⟩)
   exact go_nomore2
  exact go_nomore2
 ·rw [if_neg hc11] at h
  refine wk 49 (decide ((i1 : Int) < (l0.length : Int))) false (decide_eq_false hc11) ?_
  refine we_false (by kernel_rfl) ?_
  have hS103 := hS.bring 7 rfl
  have hS104 := hS103.bring 7 rfl
  have hS105 := hS104.bring 7 rfl
  have hS106 := hS105.bring 7 rfl
  have hS107 := hS106.bring 7 rfl
  have hS108 := hS107.bring 7 rfl
  have hS109 := hS108.bring 7 rfl
  have hS110 := hS109.bring 7 rfl
  obtain rfl := si h
  exact we_exit fun a hF => hQ _ _ _ (Outs.out nofun (Exits.here ⟨hS110, hF.weaken ea⟩))
abbrev sched_Play.A5 (w0 : World) (l0 : List SJob) (A0 : Option Addr) (c0 : Nat) (x1 : Int) (x2 : Bool) (x3 : Int) (b1 : Nat) (b2 : Nat) (b3 : Nat) (b7 : Nat) (b8 : Nat) (Z3 : Option Addr) (cz3 : Nat) (Z4 : Option Addr) (cz4 : Nat) (Z5 : Option Addr) (cz5 : Nat) (z2 : Int) (m11 : List Int) (m12 : List Int) (m13 : List Int) (b10 : Nat) : Int → Act → World → Prop := fun (s : Int) a w => St w0 w [Own.blk b10 (.cells #[vI z2] 3 (0, 0)), Own.blk b8 (.cells #[(.slice Z3 m11.length cz3)] 24 (0, 0)), Own.blk b7 (.cells #[(.slice Z4 m12.length cz4), (.slice Z5 m13.length cz5)] 37 (0, 0)), Own.blk b3 (.cells #[vI 0, vI 0] 29 (0, 0)), Own.blk b2 (.cells #[.slice none 0 0, .slice none 0 0] 37 (0, 0)), Own.blk b1 (.cells #[.slice A0 l0.length c0] 32 (0, 0)), Own.of (.slice Z3 m11.length cz3) 3 m11, Own.of (.slice Z4 m12.length cz4) 3 m12, Own.of (.slice Z5 m13.length cz5) 3 m13] ∧ Frm 110 a [(1, vI x1), (2, .bool x2), (4, pP b1 0), (8, pP b2 0), (9, pP b3 0), (11, pP b7 0), (12, pP b8 0), (15, vI s), (16, pP b10 0), (63, vI x3), (64, vI z2)]
abbrev sched_Play.B5 (w0 : World) : (SPlayed × SFault) → Exit → Act → World → Prop := Rets Try.prog Try.f13 (sched_Play.Post w0)
theorem sched_Play_p5 (K : Nat) (w0 : World) (l0 : List SJob) (A0 : Option Addr) (c0 : Nat) (x1 : Int) (x2 : Bool) (x3 : Int) (hR0 : RdL w0 A0 l0) (hL0 : l0.length ≤ c0) (b1 : Nat) (b2 : Nat) (b3 : Nat) (r1 : SFault) (b4 : Nat) (hc1 : r1.Code = 0) (b7 : Nat) (m3 : List Int) (m4 : List Int) (hc10 : l0.length ≤ 17592186044416) (b8 : Nat) (Z3 : Option Addr) (cz3 : Nat) (Z4 : Option Addr) (cz4 : Nat) (Z5 : Option Addr) (cz5 : Nat) (m9 : List Int) (m10 : List Int) (z1 : Int) (z2 : Int) (m11 : List Int) (m12 : List Int) (m13 : List Int) (hc12 : z2 < x3) (b10 : Nat) (o : Int ⊕ (SPlayed × SFault)) (h : sched_Play.p5 K l0 x1 x2 z1 z2 m11 = some o) (w : World) (hS : St w0 w [Own.blk b10 (.cells #[vI z2] 3 (0, 0)), Own.blk b8 (.cells #[(.slice Z3 m11.length cz3)] 24 (0, 0)), Own.blk b7 (.cells #[(.slice Z4 m12.length cz4), (.slice Z5 m13.length cz5)] 37 (0, 0)), Own.blk b3 (.cells #[vI 0, vI 0] 29 (0, 0)), Own.blk b2 (.cells #[.slice none 0 0, .slice none 0 0] 37 (0, 0)), Own.blk b1 (.cells #[.slice A0 l0.length c0] 32 (0, 0)), Own.of (.slice Z3 m11.length cz3) 3 m11, Own.of (.slice Z4 m12.length cz4) 3 m12, Own.of (.slice Z5 m13.length cz5) 3 m13]) (Q : Exit → Act → World → Prop) (hQ : ∀ x a w, Outs (sched_Play.A5 w0 l0 A0 c0 x1 x2 x3 b1 b2 b3 b7 b8 Z3 cz3 Z4 cz4 Z5 cz5 z2 m11 m12 m13 b10) (sched_Play.B5 w0) o x a w → Q x a w) : WE Try.prog 110 (subF Try.f13 [1, 1, 1, 1, 1, 1, 1, 1, 0, 1, 0, 0, 1, 1, 0, 0, 1, 0]) Q [(1, vI x1), (2, .bool x2), (4, pP b1 0), (8, pP b2 0), (9, pP b3 0), (11, pP b7 0), (12, pP b8 0), (15, vI z1), (16, pP b10 0), (63, vI x3), (64, vI z2), (65, .bool true), (66, vI z2)] w := by
 simp only [sched_Play.p5] at h
 refine ws fun K28 hK28 => ?_
 refine wr [(0, 0), (1, 0), (2, 0), (3, 0), (4, 0), (5, 0), (6, 0), (7, 0), (8, 0), (9, 0), (10, 0), (11, 0)] ?_
 refine gb0 [0, 1] [(68, .bool x2), (67, .bool x2)] ?_
 by_cases hc13 : x2 = true
 ·rw [if_pos hc13] at h
  refine gk 68 x2 true hc13 ?_
  refine gb0 [2, 3, 4, 5, 6, 7, 8, 9, 10, 11] [(78, .bool true), (77, undef), (76, undef), (75, undef), (74, undef), (73, undef), (72, .bool true), (71, .bool true), (70, undef), (69, undef)] ?_
  refine gn hK28 ?_
  refine we_true (by kernel_rfl) ?_
  refine wr [(0, 0), (1, 0), (2, 0), (3, 1), (4, 0)] ?_
  rcases hq7 : sched_First.f K l0 l0 z2 m11 x1 with _ | r2
  ·rw [hq7] at h; cases h
  rw [hq7] at h
  simp only [] at h
  refine gb [0, 1, 2] [(81, vI x1), (80, .func (.func 30) #[] #[pP b1 0, pP b10 0, pP b8 0]), (79, .slice A0 l0.length c0)] [.loaded ⟨b1, 0, none⟩ (.slice A0 l0.length c0)] ⟨hS.c 5, trivial⟩ ?_
  refine ge_call (d := some 82) (f := 29) (args := #[.slice A0 l0.length c0, .func (.func 30) #[] #[pP b1 0, pP b10 0, pP b8 0], vI x1]) (by kernel_rfl) (sched_First_ok K l0 A0 c0 b1 l0 A0 c0 b10 z2 b8 m11 Z3 cz3 x1 _ (hS.rd hR0) hL0 (hS.rd hR0) hL0 (hS.globOf 5 rfl) (hS.globOf 0 rfl) (hS.rdAt 6 rfl) (hS.capAt 6 rfl) (hS.globOf 1 rfl) _ hq7) ?_
  rintro _ w31 ⟨rfl, hS123⟩
  refine ⟨_, rfl, hS123.below, ?_⟩
  have hS124 := hS.call hS123
  refine gb0 [4] [(15, vI r2)] ?_
  have hS125 := hS124.bring 8 rfl
  have hS126 := hS125.bring 8 rfl
  have hS127 := hS126.bring 8 rfl
  have hS128 := hS127.bring 8 rfl
  have hS129 := hS128.bring 8 rfl
  have hS130 := hS129.bring 8 rfl
  have hS131 := hS130.bring 8 rfl
  have hS132 := hS131.bring 8 rfl
  have hS133 := hS132.bring 8 rfl
  obtain rfl := si h
  exact ge_nil fun a hF => hQ _ _ _ (Outs.again ⟨hS133, hF.weaken ea⟩)
 ·rw [if_neg hc13] at h
  refine gk 68 x2 false (Bool.eq_false_iff.2 hc13) ?_
  refine gb0 [2, 3, 4, 5] [(72, .bool (decide (z1 < 0))), (71, .bool (decide (z1 < 0))), (70, .bool (decide (z1 < 0))), (69, vI z1)] ?_
  by_cases hc14 : z1 < 0
  ·rw [if_pos hc14] at h
   refine gk 72 (decide (z1 < 0)) true (decide_eq_true hc14) ?_
   refine gb0 [6, 7, 8, 9, 10, 11] [(78, .bool true), (77, undef), (76, undef), (75, undef), (74, undef), (73, undef)] ?_
   refine gn hK28 ?_
   refine we_true (by kernel_rfl) ?_
   refine wr [(0, 0), (1, 0), (2, 0), (3, 1), (4, 0)] ?_
   rcases hq8 : sched_First.f K l0 l0 z2 m11 x1 with _ | r3
   ·rw [hq8] at h; cases h
   rw [hq8] at h
   simp only [] at h
   refine gb [0, 1, 2] [(81, vI x1), (80, .func (.func 30) #[] #[pP b1 0, pP b10 0, pP b8 0]), (79, .slice A0 l0.length c0)] [.loaded ⟨b1, 0, none⟩ (.slice A0 l0.length c0)] ⟨hS.c 5, trivial⟩ ?_
   refine ge_call (d := some 82) (f := 29) (args := #[.slice A0 l0.length c0, .func (.func 30) #[] #[pP b1 0, pP b10 0, pP b8 0], vI x1]) (by kernel_rfl) (sched_First_ok K l0 A0 c0 b1 l0 A0 c0 b10 z2 b8 m11 Z3 cz3 x1 _ (hS.rd hR0) hL0 (hS.rd hR0) hL0 (hS.globOf 5 rfl) (hS.globOf 0 rfl) (hS.rdAt 6 rfl) (hS.capAt 6 rfl) (hS.globOf 1 rfl) _ hq8) ?_
   rintro _ w32 ⟨rfl, hS134⟩
   refine ⟨_, rfl, hS134.below, ?_⟩
   have hS135 := hS.call hS134
   refine gb0 [4] [(15, vI r3)] ?_
   have hS136 := hS135.bring 8 rfl
   have hS137 := hS136.bring 8 rfl
   have hS138 := hS137.bring 8 rfl
   have hS139 := hS138.bring 8 rfl
   have hS140 := hS139.bring 8 rfl
   have hS141 := hS140.bring 8 rfl
   have hS142 := hS141.bring 8 rfl
   have hS143 := hS142.bring 8 rfl
   have hS144 := hS143.bring 8 rfl
   obtain rfl := si h
   exact ge_nil fun a hF => hQ _ _ _ (Outs.again ⟨hS144, hF.weaken ea⟩)
  ·rw [if_neg hc14] at h
   refine gk 72 (decide (z1 < 0)) false (decide_eq_false hc14) ?_
   refine gb [6, 7] [(74, vI z1), (73, (.slice Z3 m11.length cz3))] [.loaded ⟨b8, 0, none⟩ ((.slice Z3 m11.length cz3))] ⟨hS.c 1, trivial⟩ ?_
   by_cases hc15 : 0 ≤ z1
   ·rw [if_pos hc15] at h
    rcases hx12 : m11[(z1).toNat]? with _ | e4
    ·rw [hx12] at h; cases h
    rw [hx12] at h
    simp only [] at h
    refine gi 75 0 24 3 1 m11.length cz3 (.tmp 73) (.tmp 74) Z3 .i64 z1 ((z1).toNat) ((hS.rdAt 6 rfl).eqSome (pos_of_get hx12)) (Int.toNat_of_nonneg hc15).symm (lt_of_get hx12) ?_
    refine gb [9, 10, 11] [(78, .bool (e4 == 0)), (77, .bool (e4 == 0)), (76, vI e4)] [.loaded ⟨blkOf Z3, offOf Z3 + ((z1).toNat) * 1, none⟩ (vI e4)] ⟨RdL.cell (j := 0) (hS.rdAt 6 rfl) hx12 rfl, trivial⟩ ?_
    refine gn hK28 ?_
    by_cases hc16 : e4 = 0
    ·rw [if_pos hc16] at h
     refine wk 78 (e4 == 0) true (beq_iff_eq.2 hc16) ?_
     refine we_true (by kernel_rfl) ?_
     refine wr [(0, 0), (1, 0), (2, 0), (3, 1), (4, 0)] ?_
     rcases hq9 : sched_First.f K l0 l0 z2 m11 x1 with _ | r4
     ·rw [hq9] at h; cases h
     rw [hq9] at h
     simp only [] at h
     refine gb [0, 1, 2] [(81, vI x1), (80, .func (.func 30) #[] #[pP b1 0, pP b10 0, pP b8 0]), (79, .slice A0 l0.length c0)] [.loaded ⟨b1, 0, none⟩ (.slice A0 l0.length c0)] ⟨hS.c 5, trivial⟩ ?_
     refine ge_call (d := some 82) (f := 29) (args := #[.slice A0 l0.length c0, .func (.func 30) #[] #[pP b1 0, pP b10 0, pP b8 0], vI x1]) (by kernel_rfl) (sched_First_ok K l0 A0 c0 b1 l0 A0 c0 b10 z2 b8 m11 Z3 cz3 x1 _ (hS.rd hR0) hL0 (hS.rd hR0) hL0 (hS.globOf 5 rfl) (hS.globOf 0 rfl) (hS.rdAt 6 rfl) (hS.capAt 6 rfl) (hS.globOf 1 rfl) _ hq9) ?_
     rintro _ w33 ⟨rfl, hS145⟩
     refine ⟨_, rfl, hS145.below, ?_⟩
     have hS146 := hS.call hS145
     refine gb0 [4] [(15, vI r4)] ?_
     have hS147 := hS146.bring 8 rfl
     have hS148 := hS147.bring 8 rfl
     have hS149 := hS148.bring 8 rfl
     have hS150 := hS149.bring 8 rfl
     have hS151 := hS150.bring 8 rfl
     have hS152 := hS151.bring 8 rfl
     have hS153 := hS152.bring 8 rfl
     have hS154 := hS153.bring 8 rfl
     have hS155 := hS154.bring 8 rfl
     obtain rfl := si h
     exact ge_nil fun a hF => hQ _ _ _ (Outs.again ⟨hS155, hF.weaken ea⟩)
    ·rw [if_neg hc16] at h
     refine wk 78 (e4 == 0) false (beq_eq_false_iff_ne.2 hc16) ?_
     refine we_false (by kernel_rfl) ?_
     have hS156 := hS.bring 8 rfl
     have hS157 := hS156.bring 8 rfl
     have hS158 := hS157.bring 8 rfl
     have hS159 := hS158.bring 8 rfl
     have hS160 := hS159.bring 8 rfl
     have hS161 := hS160.bring 8 rfl
     have hS162 := hS161.bring 8 rfl
     have hS163 := hS162.bring 8 rfl
     have hS164 := hS163.bring 8 rfl
     obtain rfl := si h
     exact we_skip fun a hF => hQ _ _ _ (Outs.again ⟨hS164, hF.weaken ea⟩)
   ·rw [if_neg hc15] at h
    cases h
abbrev sched_Play.A4 (w0 : World) (l0 : List SJob) (A0 : Option Addr) (c0 : Nat) (x1 : Int) (x2 : Bool) (x3 : Int) (b1 : Nat) (b2 : Nat) (b3 : Nat) (b7 : Nat) (b8 : Nat) (Z3 : Option Addr) (cz3 : Nat) (Z4 : Option Addr) (cz4 : Nat) (Z5 : Option Addr) (cz5 : Nat) : (Int × Int × (List Int) × (List Int) × (List Int)) → Act → World → Prop := fun (s : Int × Int × (List Int) × (List Int) × (List Int)) a w => St w0 w [Own.blk b8 (.cells #[(.slice Z3 s.2.2.1.length cz3)] 24 (0, 0)), Own.blk b7 (.cells #[(.slice Z4 s.2.2.2.1.length cz4), (.slice Z5 s.2.2.2.2.length cz5)] 37 (0, 0)), Own.blk b3 (.cells #[vI 0, vI 0] 29 (0, 0)), Own.blk b2 (.cells #[.slice none 0 0, .slice none 0 0] 37 (0, 0)), Own.blk b1 (.cells #[.slice A0 l0.length c0] 32 (0, 0)), Own.of (.slice Z3 s.2.2.1.length cz3) 3 s.2.2.1, Own.of (.slice Z4 s.2.2.2.1.length cz4) 3 s.2.2.2.1, Own.of (.slice Z5 s.2.2.2.2.length cz5) 3 s.2.2.2.2] ∧ Frm 110 a [(1, vI x1), (2, .bool x2), (4, pP b1 0), (8, pP b2 0), (9, pP b3 0), (11, pP b7 0), (12, pP b8 0), (15, vI s.1), (63, vI x3), (64, vI s.2.1)]
abbrev sched_Play.B4 (w0 : World) (b2 : Nat) (b3 : Nat) (b7 : Nat) (Z4 : Option Addr) (cz4 : Nat) (Z5 : Option Addr) (cz5 : Nat) : (((List Int) × (List Int)) ⊕ (SPlayed × SFault)) → Exit → Act → World → Prop := Exits 2 (fun (s : (List Int) × (List Int)) a w => St w0 w [Own.blk b7 (.cells #[(.slice Z4 s.1.length cz4), (.slice Z5 s.2.length cz5)] 37 (0, 0)), Own.blk b3 (.cells #[vI 0, vI 0] 29 (0, 0)), Own.blk b2 (.cells #[.slice none 0 0, .slice none 0 0] 37 (0, 0)), Own.of (.slice Z4 s.1.length cz4) 3 s.1, Own.of (.slice Z5 s.2.length cz5) 3 s.2] ∧ Frm 110 a [(8, pP b2 0), (9, pP b3 0), (11, pP b7 0)]) (Rets Try.prog Try.f13 (sched_Play.Post w0))
theorem sched_Play_r4 (K : Nat) (w0 : World) (l0 : List SJob) (A0 : Option Addr) (c0 : Nat) (x1 : Int) (x2 : Bool) (x3 : Int) (hR0 : RdL w0 A0 l0) (hL0 : l0.length ≤ c0) (b1 : Nat) (b2 : Nat) (b3 : Nat) (r1 : SFault) (b4 : Nat) (hc1 : r1.Code = 0) (b7 : Nat) (m3 : List Int) (m4 : List Int) (hc10 : l0.length ≤ 17592186044416) (b8 : Nat) (Z3 : Option Addr) (cz3 : Nat) (Z4 : Option Addr) (cz4 : Nat) (Z5 : Option Addr) (cz5 : Nat) (m9 : List Int) (m10 : List Int) (s : Int × Int × (List Int) × (List Int) × (List Int)) (o : (Int × Int × (List Int) × (List Int) × (List Int)) ⊕ (((List Int) × (List Int)) ⊕ (SPlayed × SFault))) (h : sched_Play.r4 K l0 x1 x2 x3 s = some o) (a : Act) (w : World) (hA : sched_Play.A4 w0 l0 A0 c0 x1 x2 x3 b1 b2 b3 b7 b8 Z3 cz3 Z4 cz4 Z5 cz5 s a w) (Q : Exit → Act → World → Prop) (hQ : ∀ x a w, Outs (sched_Play.A4 w0 l0 A0 c0 x1 x2 x3 b1 b2 b3 b7 b8 Z3 cz3 Z4 cz4 Z5 cz5) (sched_Play.B4 w0 b2 b3 b7 Z4 cz4 Z5 cz5) o x a w → Q x a w) : (subF Try.f13 [1, 1, 1, 1, 1, 1, 1, 1, 0, 1, 0, 0]).wp Try.prog Q a w := by
 obtain ⟨z1, z2, m11, m12, m13⟩ := s
 obtain ⟨hS, hF⟩ := hA
 replace hS : St w0 w [Own.blk b8 (.cells #[(.slice Z3 m11.length cz3)] 24 (0, 0)), Own.blk b7 (.cells #[(.slice Z4 m12.length cz4), (.slice Z5 m13.length cz5)] 37 (0, 0)), Own.blk b3 (.cells #[vI 0, vI 0] 29 (0, 0)), Own.blk b2 (.cells #[.slice none 0 0, .slice none 0 0] 37 (0, 0)), Own.blk b1 (.cells #[.slice A0 l0.length c0] 32 (0, 0)), Own.of (.slice Z3 m11.length cz3) 3 m11, Own.of (.slice Z4 m12.length cz4) 3 m12, Own.of (.slice Z5 m13.length cz5) 3 m13] := hS
 simp only [sched_Play.r4] at h
 refine (?_ : WE Try.prog 110 (subF Try.f13 [1, 1, 1, 1, 1, 1, 1, 1, 0, 1, 0, 0]) Q [(1, vI x1), (2, .bool x2), (4, pP b1 0), (8, pP b2 0), (9, pP b3 0), (11, pP b7 0), (12, pP b8 0), (15, vI z1), (63, vI x3), (64, vI z2)] w) a hF
 clear hF a
 refine ws fun K23 hK23 => ?_
 refine wr [(0, 0)] ?_
 refine gb0 [0] [(65, .bool (decide (z2 < x3)))] ?_
 refine gn hK23 ?_
 refine ws fun K24 hK24 => ?_
 by_cases hc12 : z2 < x3
 ·rw [if_pos hc12] at h
  refine wk 65 (decide (z2 < x3)) true (decide_eq_true hc12) ?_
  refine we_true (by kernel_rfl) ?_
  refine we_skip fun a hF => hK24 _ _ ?_ a hF
  refine ws fun K25 hK25 => ?_
  refine we_block ?_
  refine ws fun K26 hK26 => ?_
  refine wr [(0, 0), (1, 1), (2, 2)] ?_
  refine gb0 [0] [(66, vI z2)] ?_
  refine gw (some 16) (.cells #[vI 0] 3) (fun b => pP b 0) hS fun b10 w29 hx11 hS120 => ?_
  refine gs b10 0 #[vI 0] 3 [vI z2] hS120 fun w30 hS121 => ?_
  have hS122 : St w0 w30 [Own.blk b10 (.cells #[vI z2] 3 (0, 0)), Own.blk b8 (.cells #[(.slice Z3 m11.length cz3)] 24 (0, 0)), Own.blk b7 (.cells #[(.slice Z4 m12.length cz4), (.slice Z5 m13.length cz5)] 37 (0, 0)), Own.blk b3 (.cells #[vI 0, vI 0] 29 (0, 0)), Own.blk b2 (.cells #[.slice none 0 0, .slice none 0 0] 37 (0, 0)), Own.blk b1 (.cells #[.slice A0 l0.length c0] 32 (0, 0)), Own.of (.slice Z3 m11.length cz3) 3 m11, Own.of (.slice Z4 m12.length cz4) 3 m12, Own.of (.slice Z5 m13.length cz5) 3 m13] := hS121
  refine gn hK26 ?_
  refine ws fun K27 hK27 => ?_
  rcases hq10 : sched_Play.p5 K l0 x1 x2 z1 z2 m11 with _ | (z4 | rr1)
  ·rw [hq10] at h; cases h
  ·rw [hq10] at h
   simp only [] at h
   refine we_keep (e' := [(1, vI x1), (2, .bool x2), (4, pP b1 0), (8, pP b2 0), (9, pP b3 0), (11, pP b7 0), (12, pP b8 0), (15, vI z1), (16, pP b10 0), (63, vI x3), (64, vI z2), (65, .bool true), (66, vI z2)]) ea (sched_Play_p5 K w0 l0 A0 c0 x1 x2 x3 hR0 hL0 b1 b2 b3 r1 b4 hc1 b7 m3 m4 hc10 b8 Z3 cz3 Z4 cz4 Z5 cz5 m9 m10 z1 z2 m11 m12 m13 hc12 b10 _ hq10 _ hS122 _ ?_)
   rintro _ a w34 ⟨rfl, hS165, hF⟩
   replace hS165 : St w0 w34 [Own.blk b10 (.cells #[vI z2] 3 (0, 0)), Own.blk b8 (.cells #[(.slice Z3 m11.length cz3)] 24 (0, 0)), Own.blk b7 (.cells #[(.slice Z4 m12.length cz4), (.slice Z5 m13.length cz5)] 37 (0, 0)), Own.blk b3 (.cells #[vI 0, vI 0] 29 (0, 0)), Own.blk b2 (.cells #[.slice none 0 0, .slice none 0 0] 37 (0, 0)), Own.blk b1 (.cells #[.slice A0 l0.length c0] 32 (0, 0)), Own.of (.slice Z3 m11.length cz3) 3 m11, Own.of (.slice Z4 m12.length cz4) 3 m12, Own.of (.slice Z5 m13.length cz5) 3 m13] := hS165
   refine hK27 [(1, vI x1), (2, .bool x2), (4, pP b1 0), (8, pP b2 0), (9, pP b3 0), (11, pP b7 0), (12, pP b8 0), (15, vI z4), (16, pP b10 0), (63, vI x3), (64, vI z2)] w34 ?_ a hF
   refine ws fun K29 hK29 => ?_
   refine wr [(0, 0), (1, 0), (2, 0), (3, 0), (4, 0), (5, 2)] ?_
   refine gb [0, 1, 2, 3] [(86, vI z4), (85, vI z2), (84, (.slice Z4 m12.length cz4)), (83, pP b7 0)] [.loaded ⟨b7, 0, none⟩ ((.slice Z4 m12.length cz4)), .loaded ⟨b10, 0, none⟩ (vI z2)] ⟨hS165.c 2, hS165.c 0, trivial⟩ ?_
   by_cases hc17 : 0 ≤ z2
   ·rw [if_pos hc17] at h
    rcases hx13 : m12[(z2).toNat]? with _ | e5
    ·rw [hx13] at h; cases h
    rw [hx13] at h
    simp only [] at h
    refine gi 87 0 24 3 1 m12.length cz4 (.tmp 84) (.tmp 85) Z4 .i64 z2 ((z2).toNat) ((hS165.rdAt 7 rfl).eqSome (pos_of_get hx13)) (Int.toNat_of_nonneg hc17).symm (lt_of_get hx13) ?_
    have hS166 := hS165.bring 7 rfl
    refine ge_seti (α := Int) (A := Z4) (nn := m12.length) (c := cz4) (t := 3) (l := m12) (x := e5) (x' := z4) (jn := ((z2).toNat)) (j := 0) (vs := [vI z4]) (l' := [.stored ⟨blkOf Z4, offOf Z4 + ((z2).toNat) * 1, none⟩ (vI z4)]) hS166 (by kernel_rfl) (by kernel_rfl) hx13 rfl rfl rfl fun w35 hS167 => ?_
    have hS168 : St w0 w35 [Own.of (.slice Z4 m12.length cz4) 3 (m12.set ((z2).toNat) z4), Own.blk b10 (.cells #[vI z2] 3 (0, 0)), Own.blk b8 (.cells #[(.slice Z3 m11.length cz3)] 24 (0, 0)), Own.blk b7 (.cells #[(.slice Z4 m12.length cz4), (.slice Z5 m13.length cz5)] 37 (0, 0)), Own.blk b3 (.cells #[vI 0, vI 0] 29 (0, 0)), Own.blk b2 (.cells #[.slice none 0 0, .slice none 0 0] 37 (0, 0)), Own.blk b1 (.cells #[.slice A0 l0.length c0] 32 (0, 0)), Own.of (.slice Z3 m11.length cz3) 3 m11, Own.of (.slice Z5 m13.length cz5) 3 m13] := hS167
    have hE3 : m12.length = (m12.set ((z2).toNat) z4).length := hS168.lenAt 0 rfl
    have hS169 : St w0 w35 [Own.of (.slice Z4 (m12.set ((z2).toNat) z4).length cz4) 3 (m12.set ((z2).toNat) z4), Own.blk b10 (.cells #[vI z2] 3 (0, 0)), Own.blk b8 (.cells #[(.slice Z3 m11.length cz3)] 24 (0, 0)), Own.blk b7 (.cells #[(.slice Z4 (m12.set ((z2).toNat) z4).length cz4), (.slice Z5 m13.length cz5)] 37 (0, 0)), Own.blk b3 (.cells #[vI 0, vI 0] 29 (0, 0)), Own.blk b2 (.cells #[.slice none 0 0, .slice none 0 0] 37 (0, 0)), Own.blk b1 (.cells #[.slice A0 l0.length c0] 32 (0, 0)), Own.of (.slice Z3 m11.length cz3) 3 m11, Own.of (.slice Z5 m13.length cz5) 3 m13] := by rw [← hE3]; exact hS168
    refine ge_same (t := 84) (v := (.slice Z4 m12.length cz4)) (v' := (.slice Z4 (m12.set ((z2).toNat) z4).length cz4)) (by kernel_rfl) (by rw [hE3]) ?_
    refine gn hK29 ?_
    refine ws fun K30 hK30 => ?_
    refine ws fun K31 hK31 => ?_
    refine wr [(0, 0), (1, 0)] ?_
    refine gb0 [0, 1] [(89, .bool (decide (z4 < 0))), (88, vI z4)] ?_
    refine gn hK31 ?_
    by_cases hc18 : z4 < 0
    ·rw [if_pos hc18] at h
     refine wk 89 (decide (z4 < 0)) true (decide_eq_true hc18) ?_
     refine we_true (by kernel_rfl) ?_
     refine we_exit fun a hF => hK25 _ _ ?_ a hF
     refine wr [(0, 0), (1, 0)] ?_
     refine gb0 [0, 1] [(64, vI (IntKind.i64.wrap (z2 + 1))), (107, vI (IntKind.i64.wrap (z2 + 1)))] ?_
     have hS170 := hS169.bring 8 rfl
     have hS171 := hS170.bring 1 rfl
     have hS172 := hS171.bring 8 rfl
     have hS173 := hS172.bring 8 rfl
     have hS174 := hS173.bring 8 rfl
     have hS175 := hS174.bring 8 rfl
     have hS176 := hS175.bring 8 rfl
     have hS177 := hS176.bring 8 rfl
     have hS178 := hS177.takeN 8
     obtain rfl := si h
     exact ge_nil fun a hF => hQ _ _ _ (Outs.again ⟨hS178, hF.weaken ea⟩)
    ·rw [if_neg hc18] at h
     refine wk 89 (decide (z4 < 0)) false (decide_eq_false hc18) ?_
     refine we_false (by kernel_rfl) ?_
     refine we_skip fun a hF => hK30 _ _ ?_ a hF
     refine ws fun K32 hK32 => ?_
     refine wr [(0, 0), (1, 0), (2, 0), (3, 0), (4, 0), (5, 0), (6, 2)] ?_
     refine gb [0, 1] [(91, vI z4), (90, (.slice Z3 m11.length cz3))] [.loaded ⟨b8, 0, none⟩ ((.slice Z3 m11.length cz3))] ⟨hS169.c 2, trivial⟩ ?_
     by_cases hc19 : 0 ≤ z4
     ·rw [if_pos hc19] at h
      rcases hx14 : m11[(z4).toNat]? with _ | e6
      ·rw [hx14] at h; cases h
      rw [hx14] at h
      simp only [] at h
      refine gi 92 0 24 3 1 m11.length cz3 (.tmp 90) (.tmp 91) Z3 .i64 z4 ((z4).toNat) ((hS169.rdAt 7 rfl).eqSome (pos_of_get hx14)) (Int.toNat_of_nonneg hc19).symm (lt_of_get hx14) ?_
      refine gb [3, 4] [(94, vI (IntKind.i64.wrap (e6 - 1))), (93, vI e6)] [.loaded ⟨blkOf Z3, offOf Z3 + ((z4).toNat) * 1, none⟩ (vI e6)] ⟨RdL.cell (j := 0) (hS169.rdAt 7 rfl) hx14 rfl, trivial⟩ ?_
      refine gi 95 0 24 3 1 m11.length cz3 (.tmp 90) (.tmp 91) Z3 .i64 z4 ((z4).toNat) ((hS169.rdAt 7 rfl).eqSome (pos_of_get hx14)) (Int.toNat_of_nonneg hc19).symm (lt_of_get hx14) ?_
      have hS179 := hS169.bring 7 rfl
      refine ge_seti (α := Int) (A := Z3) (nn := m11.length) (c := cz3) (t := 3) (l := m11) (x := e6) (x' := (IntKind.i64.wrap (e6 - 1))) (jn := ((z4).toNat)) (j := 0) (vs := [vI (IntKind.i64.wrap (e6 - 1))]) (l' := [.stored ⟨blkOf Z3, offOf Z3 + ((z4).toNat) * 1, none⟩ (vI (IntKind.i64.wrap (e6 - 1)))]) hS179 (by kernel_rfl) (by kernel_rfl) hx14 rfl rfl rfl fun w36 hS180 => ?_
      have hS181 : St w0 w36 [Own.of (.slice Z3 m11.length cz3) 3 (m11.set ((z4).toNat) (IntKind.i64.wrap (e6 - 1))), Own.of (.slice Z4 (m12.set ((z2).toNat) z4).length cz4) 3 (m12.set ((z2).toNat) z4), Own.blk b10 (.cells #[vI z2] 3 (0, 0)), Own.blk b8 (.cells #[(.slice Z3 m11.length cz3)] 24 (0, 0)), Own.blk b7 (.cells #[(.slice Z4 (m12.set ((z2).toNat) z4).length cz4), (.slice Z5 m13.length cz5)] 37 (0, 0)), Own.blk b3 (.cells #[vI 0, vI 0] 29 (0, 0)), Own.blk b2 (.cells #[.slice none 0 0, .slice none 0 0] 37 (0, 0)), Own.blk b1 (.cells #[.slice A0 l0.length c0] 32 (0, 0)), Own.of (.slice Z5 m13.length cz5) 3 m13] := hS180
      have hE4 : m11.length = (m11.set ((z4).toNat) (IntKind.i64.wrap (e6 - 1))).length := hS181.lenAt 0 rfl
      have hS182 : St w0 w36 [Own.of (.slice Z3 (m11.set ((z4).toNat) (IntKind.i64.wrap (e6 - 1))).length cz3) 3 (m11.set ((z4).toNat) (IntKind.i64.wrap (e6 - 1))), Own.of (.slice Z4 (m12.set ((z2).toNat) z4).length cz4) 3 (m12.set ((z2).toNat) z4), Own.blk b10 (.cells #[vI z2] 3 (0, 0)), Own.blk b8 (.cells #[(.slice Z3 (m11.set ((z4).toNat) (IntKind.i64.wrap (e6 - 1))).length cz3)] 24 (0, 0)), Own.blk b7 (.cells #[(.slice Z4 (m12.set ((z2).toNat) z4).length cz4), (.slice Z5 m13.length cz5)] 37 (0, 0)), Own.blk b3 (.cells #[vI 0, vI 0] 29 (0, 0)), Own.blk b2 (.cells #[.slice none 0 0, .slice none 0 0] 37 (0, 0)), Own.blk b1 (.cells #[.slice A0 l0.length c0] 32 (0, 0)), Own.of (.slice Z5 m13.length cz5) 3 m13] := by rw [← hE4]; exact hS181
      refine ge_same (t := 90) (v := (.slice Z3 m11.length cz3)) (v' := (.slice Z3 (m11.set ((z4).toNat) (IntKind.i64.wrap (e6 - 1))).length cz3)) (by kernel_rfl) (by rw [hE4]) ?_
      refine gn hK32 ?_
      refine ws fun K33 hK33 => ?_
      refine wr [(0, 0), (1, 0), (2, 0), (3, 0), (4, 0)] ?_
      refine gb [0, 1] [(97, vI z4), (96, (.slice Z3 (m11.set ((z4).toNat) (IntKind.i64.wrap (e6 - 1))).length cz3))] [.loaded ⟨b8, 0, none⟩ ((.slice Z3 (m11.set ((z4).toNat) (IntKind.i64.wrap (e6 - 1))).length cz3))] ⟨hS182.c 3, trivial⟩ ?_
      rcases hx15 : (m11.set ((z4).toNat) (IntKind.i64.wrap (e6 - 1)))[(z4).toNat]? with _ | e7
      ·rw [hx15] at h; cases h
      rw [hx15] at h
      simp only [] at h
      refine gi 98 0 24 3 1 ((m11.set ((z4).toNat) (IntKind.i64.wrap (e6 - 1))).length) cz3 (.tmp 96) (.tmp 97) Z3 .i64 z4 ((z4).toNat) ((hS182.rdAt 0 rfl).eqSome (pos_of_get hx15)) (Int.toNat_of_nonneg hc19).symm (lt_of_get hx15) ?_
      refine gb [3, 4] [(100, .bool (e7 == 0)), (99, vI e7)] [.loaded ⟨blkOf Z3, offOf Z3 + ((z4).toNat) * 1, none⟩ (vI e7)] ⟨RdL.cell (j := 0) (hS182.rdAt 0 rfl) hx15 rfl, trivial⟩ ?_
      refine gn hK33 ?_
      by_cases hc20 : e7 = 0
      ·rw [if_pos hc20] at h
       refine wk 100 (e7 == 0) true (beq_iff_eq.2 hc20) ?_
       refine we_true (by kernel_rfl) ?_
       refine wr [(0, 0), (1, 0), (2, 0), (3, 0), (4, 0), (5, 0), (6, 2)] ?_
       refine gb [0, 1, 2, 3, 4] [(105, vI (IntKind.i64.wrap (z2 + 1))), (104, vI z2), (103, vI z4), (102, (.slice Z5 m13.length cz5)), (101, pP b7 1)] [.loaded ⟨b7, 1, none⟩ ((.slice Z5 m13.length cz5)), .loaded ⟨b10, 0, none⟩ (vI z2)] ⟨hS182.c 4, hS182.c 2, trivial⟩ ?_
       rcases hx16 : m13[(z4).toNat]? with _ | e8
       ·rw [hx16] at h; cases h
       rw [hx16] at h
       simp only [] at h
       refine gi 106 0 24 3 1 m13.length cz5 (.tmp 102) (.tmp 103) Z5 .i64 z4 ((z4).toNat) ((hS182.rdAt 8 rfl).eqSome (pos_of_get hx16)) (Int.toNat_of_nonneg hc19).symm (lt_of_get hx16) ?_
       have hS183 := hS182.bring 8 rfl
       refine ge_seti (α := Int) (A := Z5) (nn := m13.length) (c := cz5) (t := 3) (l := m13) (x := e8) (x' := (IntKind.i64.wrap (z2 + 1))) (jn := ((z4).toNat)) (j := 0) (vs := [vI (IntKind.i64.wrap (z2 + 1))]) (l' := [.stored ⟨blkOf Z5, offOf Z5 + ((z4).toNat) * 1, none⟩ (vI (IntKind.i64.wrap (z2 + 1)))]) hS183 (by kernel_rfl) (by kernel_rfl) hx16 rfl rfl rfl fun w37 hS184 => ?_
       have hS185 : St w0 w37 [Own.of (.slice Z5 m13.length cz5) 3 (m13.set ((z4).toNat) (IntKind.i64.wrap (z2 + 1))), Own.of (.slice Z3 (m11.set ((z4).toNat) (IntKind.i64.wrap (e6 - 1))).length cz3) 3 (m11.set ((z4).toNat) (IntKind.i64.wrap (e6 - 1))), Own.of (.slice Z4 (m12.set ((z2).toNat) z4).length cz4) 3 (m12.set ((z2).toNat) z4), Own.blk b10 (.cells #[vI z2] 3 (0, 0)), Own.blk b8 (.cells #[(.slice Z3 (m11.set ((z4).toNat) (IntKind.i64.wrap (e6 - 1))).length cz3)] 24 (0, 0)), Own.blk b7 (.cells #[(.slice Z4 (m12.set ((z2).toNat) z4).length cz4), (.slice Z5 m13.length cz5)] 37 (0, 0)), Own.blk b3 (.cells #[vI 0, vI 0] 29 (0, 0)), Own.blk b2 (.cells #[.slice none 0 0, .slice none 0 0] 37 (0, 0)), Own.blk b1 (.cells #[.slice A0 l0.length c0] 32 (0, 0))] := hS184
       have hE5 : m13.length = (m13.set ((z4).toNat) (IntKind.i64.wrap (z2 + 1))).length := hS185.lenAt 0 rfl
       have hS186 : St w0 w37 [Own.of (.slice Z5 (m13.set ((z4).toNat) (IntKind.i64.wrap (z2 + 1))).length cz5) 3 (m13.set ((z4).toNat) (IntKind.i64.wrap (z2 + 1))), Own.of (.slice Z3 (m11.set ((z4).toNat) (IntKind.i64.wrap (e6 - 1))).length cz3) 3 (m11.set ((z4).toNat) (IntKind.i64.wrap (e6 - 1))), Own.of (.slice Z4 (m12.set ((z2).toNat) z4).length cz4) 3 (m12.set ((z2).toNat) z4), Own.blk b10 (.cells #[vI z2] 3 (0, 0)), Own.blk b8 (.cells #[(.slice Z3 (m11.set ((z4).toNat) (IntKind.i64.wrap (e6 - 1))).length cz3)] 24 (0, 0)), Own.blk b7 (.cells #[(.slice Z4 (m12.set ((z2).toNat) z4).length cz4), (.slice Z5 (m13.set ((z4).toNat) (IntKind.i64.wrap (z2 + 1))).length cz5)] 37 (0, 0)), Own.blk b3 (.cells #[vI 0, vI 0] 29 (0, 0)), Own.blk b2 (.cells #[.slice none 0 0, .slice none 0 0] 37 (0, 0)), Own.blk b1 (.cells #[.slice A0 l0.length c0] 32 (0, 0))] := by rw [← hE5]; exact hS185
       refine ge_same (t := 102) (v := (.slice Z5 m13.length cz5)) (v' := (.slice Z5 (m13.set ((z4).toNat) (IntKind.i64.wrap (z2 + 1))).length cz5)) (by kernel_rfl) (by rw [hE5]) ?_
       refine gn hK25 ?_
       refine wr [(0, 0), (1, 0)] ?_
       refine gb0 [0, 1] [(64, vI (IntKind.i64.wrap (z2 + 1))), (107, vI (IntKind.i64.wrap (z2 + 1)))] ?_
       have hS187 := hS186.bring 2 rfl
       have hS188 := hS187.bring 2 rfl
       have hS189 := hS188.bring 8 rfl
       have hS190 := hS189.bring 8 rfl
       have hS191 := hS190.bring 8 rfl
       have hS192 := hS191.bring 8 rfl
       have hS193 := hS192.bring 8 rfl
       have hS194 := hS193.takeN 8
       obtain rfl := si h
       exact ge_nil fun a hF => hQ _ _ _ (Outs.again ⟨hS194, hF.weaken ea⟩)
      ·rw [if_neg hc20] at h
       refine wk 100 (e7 == 0) false (beq_eq_false_iff_ne.2 hc20) ?_
       refine we_false (by kernel_rfl) ?_
       refine we_skip fun a hF => hK25 _ _ ?_ a hF
       refine wr [(0, 0), (1, 0)] ?_
       refine gb0 [0, 1] [(64, vI (IntKind.i64.wrap (z2 + 1))), (107, vI (IntKind.i64.wrap (z2 + 1)))] ?_
       have hS195 := hS182.bring 8 rfl
       have hS196 := hS195.bring 2 rfl
       have hS197 := hS196.bring 2 rfl
       have hS198 := hS197.bring 8 rfl
       have hS199 := hS198.bring 8 rfl
       have hS200 := hS199.bring 8 rfl
       have hS201 := hS200.bring 8 rfl
       have hS202 := hS201.bring 8 rfl
       have hS203 := hS202.takeN 8
       obtain rfl := si h
       exact ge_nil fun a hF => hQ _ _ _ (Outs.again ⟨hS203, hF.weaken ea⟩)
     ·rw [if_neg hc19] at h
      cases h
   ·rw [if_neg hc17] at h
    cases h
  ·rw [hq10] at h
   simp only [] at h
   refine we_keep (e' := [(1, vI x1), (2, .bool x2), (4, pP b1 0), (8, pP b2 0), (9, pP b3 0), (11, pP b7 0), (12, pP b8 0), (15, vI z1), (16, pP b10 0), (63, vI x3), (64, vI z2), (65, .bool true), (66, vI z2)]) ea (sched_Play_p5 K w0 l0 A0 c0 x1 x2 x3 hR0 hL0 b1 b2 b3 r1 b4 hc1 b7 m3 m4 hc10 b8 Z3 cz3 Z4 cz4 Z5 cz5 m9 m10 z1 z2 m11 m12 m13 hc12 b10 _ hq10 _ hS122 _ ?_)
   rintro _ a w1 ⟨_, rfl, hb⟩
   obtain rfl := si h
   exact hQ _ _ _ (Outs.out nofun (Exits.on ⟨rfl, hb⟩))
 ·rw [if_neg hc12] at h
  refine wk 65 (decide (z2 < x3)) false (decide_eq_false hc12) ?_
  refine we_false (by kernel_rfl) ?_
  have hS204 := hS.bring 7 rfl
  have hS205 := hS204.bring 7 rfl
  have hS206 := hS205.bring 5 rfl
  have hS207 := hS206.bring 5 rfl
  have hS208 := hS207.bring 5 rfl
  have hS209 := hS208.takeN 5
  obtain rfl := si h
  exact we_exit fun a hF => hQ _ _ _ (Outs.out nofun (Exits.here ⟨hS209, hF.weaken ea⟩))
abbrev sched_Play.A6 (w0 : World) (b2 : Nat) (b3 : Nat) : (Int × Int × (List Int) × (List Int)) → Act → World → Prop := fun (s : Int × Int × (List Int) × (List Int)) a w => ∃ (v8 : Value) (v9 : Value), St w0 w [Own.blk b3 (.cells #[vI s.1, vI s.2.1] 29 (0, 0)), Own.blk b2 (.cells #[v8, v9] 37 (0, 0)), Own.of v8 3 s.2.2.1, Own.of v9 3 s.2.2.2] ∧ Frm 110 a [(8, pP b2 0), (9, pP b3 0)]
abbrev sched_Play.B6 (w0 : World) : (SPlayed × SFault) → Exit → Act → World → Prop := Rets Try.prog Try.f13 (sched_Play.Post w0)
theorem sched_Play_p6 (K : Nat) (w0 : World) (l0 : List SJob) (A0 : Option Addr) (c0 : Nat) (x1 : Int) (x2 : Bool) (x3 : Int) (hR0 : RdL w0 A0 l0) (hL0 : l0.length ≤ c0) (b1 : Nat) (b2 : Nat) (b3 : Nat) (r1 : SFault) (b4 : Nat) (hc1 : ¬ (r1.Code = 0)) (o : (Int × Int × (List Int) × (List Int)) ⊕ (SPlayed × SFault)) (h : sched_Play.p6 r1 = some o) (w : World) (hS : St w0 w [Own.blk b4 (.cells #[vI r1.Code, vI r1.At] 29 (0, 0)), Own.blk b3 (.cells #[vI 0, vI 0] 29 (0, 0)), Own.blk b2 (.cells #[.slice none 0 0, .slice none 0 0] 37 (0, 0)), Own.blk b1 (.cells #[.slice A0 l0.length c0] 32 (0, 0))]) (Q : Exit → Act → World → Prop) (hQ : ∀ x a w, Outs (sched_Play.A6 w0 b2 b3) (sched_Play.B6 w0) o x a w → Q x a w) : WE Try.prog 110 (subF Try.f13 [1, 0, 1, 1, 0, 0]) Q [(0, .slice A0 l0.length c0), (1, vI x1), (2, .bool x2), (3, vI x3), (4, pP b1 0), (8, pP b2 0), (9, pP b3 0), (10, pP b4 0), (17, .slice A0 l0.length c0), (18, .agg #[vI r1.Code, vI r1.At]), (19, pP b4 0), (20, vI r1.Code), (21, .bool true)] w := by
 simp only [sched_Play.p6] at h
 refine we_orders2 (by kernel_rfl) [(1, [⟨b4, 0, none⟩, ⟨b4, 1, none⟩])] (.vals [0] (.vals [1] (.alt 2 2 (.alt 3 2 .fin .nomore) .nomore))) (by kernel_rfl) ?_
 have hS220 := hS.drew
 refine go2_batch [0] (ans := []) (vs := [(22, .agg #[.slice none 0 0, .slice none 0 0])]) (l := []) (by kernel_rfl) trivial mem_nil ?_
 refine go2_batch [1] (ans := [.val (vI r1.Code), .val (vI r1.At)]) (vs := [(23, .agg #[vI r1.Code, vI r1.At])]) (l := [.loaded ⟨b4, 0, none⟩ (vI r1.Code), .loaded ⟨b4, 1, none⟩ (vI r1.At)]) (by kernel_rfl) ⟨hS220.c 0, hS220.c 0, trivial⟩ (mem_one (by kernel_rfl)) ?_
 refine go_alt2 (fun KK hKK => ?_) ?_
 ·have hS221 := hS220.bring 2 rfl
  refine gs b2 0 #[.slice none 0 0, .slice none 0 0] 37 [.slice none 0 0, .slice none 0 0] hS221 fun w41 hS222 => ?_
  have hS223 : St w0 w41 [Own.blk b2 (.cells #[.slice none 0 0, .slice none 0 0] 37 (0, 0)), Own.blk b4 (.cells #[vI r1.Code, vI r1.At] 29 (0, 0)), Own.blk b3 (.cells #[vI 0, vI 0] 29 (0, 0)), Own.blk b1 (.cells #[.slice A0 l0.length c0] 32 (0, 0))] := hS222
  refine ge_nil fun a hF => hKK _ _ (RS.of2 (l := [.loaded ⟨b4, 0, none⟩ (vI r1.Code), .loaded ⟨b4, 1, none⟩ (vI r1.At)]) (by kernel_rfl) ⟨hS220.c 0, hS220.c 0, trivial⟩ ⟨hS223.c 1, hS223.c 1, trivial⟩) ?_ a hF
  refine go_alt2 (fun KK hKK => ?_) ?_
  ·have hS224 := hS223.bring 2 rfl
   refine gs b3 0 #[vI 0, vI 0] 29 [vI r1.Code, vI r1.At] hS224 fun w42 hS225 => ?_
   have hS226 : St w0 w42 [Own.blk b3 (.cells #[vI r1.Code, vI r1.At] 29 (0, 0)), Own.blk b2 (.cells #[.slice none 0 0, .slice none 0 0] 37 (0, 0)), Own.blk b4 (.cells #[vI r1.Code, vI r1.At] 29 (0, 0)), Own.blk b1 (.cells #[.slice A0 l0.length c0] 32 (0, 0))] := hS225
   refine ge_nil fun a hF => hKK _ _ (RS.of2 (l := []) (by kernel_rfl) trivial trivial) ?_ a hF
   have hS227 := hS226.nil (α := Int) 3
   have hS228 := hS227.nil (α := Int) 3
   have hS229 := hS228.bring 1 rfl
   have hS230 := hS229.bring 1 rfl
   have hS231 := hS230.bring 3 rfl
   have hS232 := hS231.bring 3 rfl
   have hS233 := hS232.takeN 4
   obtain rfl := si h
   exact go_fin2 fun a hF => hQ _ _ _ (Outs.again ⟨(.slice none 0 0), (.slice none 0 0), hS233, hF.weaken ea⟩)
  exact go_nomore2
 exact go_nomore2
theorem sched_Play_ok (K : Nat) (l0 : List SJob) (A0 : Option Addr) (c0 : Nat) (x1 : Int) (x2 : Bool) (x3 : Int) (w0 : World) (hR0 : RdL w0 A0 l0) (hL0 : l0.length ≤ c0) (r : SPlayed × SFault) (h : sched_Play.f K l0 x1 x2 x3 = some r) :
  Calls Try.prog 13 #[.slice A0 l0.length c0, vI x1, .bool x2, vI x3] w0 (sched_Play.Post w0 r) := by
 have hS := St.start w0
 unfold sched_Play.f at h
 refine calls_enter (n := 110) (args := [.slice A0 l0.length c0, vI x1, .bool x2, vI x3]) (fn := Try.f13) rfl rfl rfl rfl ?_
 show WE _ _ _ _ [(0, .slice A0 l0.length c0), (1, vI x1), (2, .bool x2), (3, vI x3)] _
 refine ws fun K1 hK1 => ?_
 refine wr [(0, 1), (1, 1), (2, 1)] ?_
 refine gw (some 4) (.cells #[.slice A0 l0.length c0] 32) (fun b => pP b 0) hS fun b1 w1 hx1 hS1 => ?_
 refine gw (some 8) (.cells #[.slice none 0 0, .slice none 0 0] 37) (fun b => pP b 0) hS1 fun b2 w2 hx2 hS2 => ?_
 refine gw (some 9) (.cells #[vI 0, vI 0] 29) (fun b => pP b 0) hS2 fun b3 w3 hx3 hS3 => ?_
 refine gn hK1 ?_
 refine ws fun K2 hK2 => ?_
 refine ws fun K3 hK3 => ?_
 refine wr [(0, 0), (1, 1), (2, 1), (3, 2)] ?_
 rcases hq1 : sched_Check.f K l0 with _ | r1
 ·rw [hq1] at h; cases h
 rw [hq1] at h
 simp only [] at h
 refine gb [0] [(17, .slice A0 l0.length c0)] [.loaded ⟨b1, 0, none⟩ (.slice A0 l0.length c0)] ⟨hS3.c 2, trivial⟩ ?_
 refine ge_call (d := some 18) (f := 21) (args := #[.slice A0 l0.length c0]) (by kernel_rfl) (sched_Check_ok K l0 A0 c0 _ (hS3.rd hR0) hL0 _ hq1) ?_
 rintro _ w4 ⟨rfl, hS4⟩
 refine ⟨_, rfl, hS4.below, ?_⟩
 have hS5 := hS3.call hS4
 refine gw (some 10) (.cells #[vI 0, vI 0] 29) (fun b => pP b 0) hS5 fun b4 w5 hx4 hS6 => ?_
 refine gs b4 0 #[vI 0, vI 0] 29 [vI r1.Code, vI r1.At] hS6 fun w6 hS7 => ?_
 have hS8 : St w0 w6 [Own.blk b4 (.cells #[vI r1.Code, vI r1.At] 29 (0, 0)), Own.blk b3 (.cells #[vI 0, vI 0] 29 (0, 0)), Own.blk b2 (.cells #[.slice none 0 0, .slice none 0 0] 37 (0, 0)), Own.blk b1 (.cells #[.slice A0 l0.length c0] 32 (0, 0))] := hS7
 refine gn hK3 ?_
 refine ws fun K4 hK4 => ?_
 refine wr [(0, 0), (1, 0), (2, 0)] ?_
 refine gb [0, 1, 2] [(21, .bool (r1.Code != 0)), (20, vI r1.Code), (19, pP b4 0)] [.loaded ⟨b4, 0, none⟩ (vI r1.Code)] ⟨hS8.c 0, trivial⟩ ?_
 refine gn hK4 ?_
 by_cases hc1 : r1.Code = 0
 ·rw [if_pos hc1] at h
  refine wk 21 (r1.Code != 0) false (bne_eq_false_iff_eq.2 hc1) ?_
  refine we_false (by kernel_rfl) ?_
  refine we_skip fun a hF => hK2 _ _ ?_ a hF
  refine ws fun K5 hK5 => ?_
  rcases hq3 : sched_Play.p0 x1 with _ | (_ | rr6)
  ·rw [hq3] at h; cases h
  ·rw [hq3] at h
   simp only [] at h
   refine we_keep (e' := [(0, .slice A0 l0.length c0), (1, vI x1), (2, .bool x2), (3, vI x3), (4, pP b1 0), (8, pP b2 0), (9, pP b3 0), (10, pP b4 0), (17, .slice A0 l0.length c0), (18, .agg #[vI r1.Code, vI r1.At]), (19, pP b4 0), (20, vI r1.Code), (21, .bool false)]) ea (sched_Play_p0 K w0 l0 A0 c0 x1 x2 x3 hR0 hL0 b1 b2 b3 r1 b4 hc1 _ hq3 _ hS8 _ ?_)
   rintro _ a w10 ⟨rfl, hS30, hF⟩
   replace hS30 : St w0 w10 [Own.blk b3 (.cells #[vI 0, vI 0] 29 (0, 0)), Own.blk b2 (.cells #[.slice none 0 0, .slice none 0 0] 37 (0, 0)), Own.blk b1 (.cells #[.slice A0 l0.length c0] 32 (0, 0))] := hS30
   refine hK5 [(1, vI x1), (2, .bool x2), (3, vI x3), (4, pP b1 0), (8, pP b2 0), (9, pP b3 0)] w10 ?_ a hF
   refine ws fun K8 hK8 => ?_
   rcases hq4 : sched_Play.p1 x3 with _ | (_ | rr5)
   ·rw [hq4] at h; cases h
   ·rw [hq4] at h
    simp only [] at h
    refine we_keep (e' := [(1, vI x1), (2, .bool x2), (3, vI x3), (4, pP b1 0), (8, pP b2 0), (9, pP b3 0)]) ea (sched_Play_p1 K w0 l0 A0 c0 x1 x2 x3 hR0 hL0 b1 b2 b3 r1 b4 hc1 _ hq4 _ hS30 _ ?_)
    rintro _ a w15 ⟨rfl, hS56, hF⟩
    replace hS56 : St w0 w15 [Own.blk b3 (.cells #[vI 0, vI 0] 29 (0, 0)), Own.blk b2 (.cells #[.slice none 0 0, .slice none 0 0] 37 (0, 0)), Own.blk b1 (.cells #[.slice A0 l0.length c0] 32 (0, 0))] := hS56
    refine hK8 [(1, vI x1), (2, .bool x2), (3, vI x3), (4, pP b1 0), (8, pP b2 0), (9, pP b3 0)] w15 ?_ a hF
    refine ws fun K12 hK12 => ?_
    rcases hq5 : sched_Play.p2 l0 x3 with _ | (⟨m3, m4⟩ | rr4)
    ·rw [hq5] at h; cases h
    ·rw [hq5] at h
     simp only [] at h
     refine we_keep (e' := [(1, vI x1), (2, .bool x2), (3, vI x3), (4, pP b1 0), (8, pP b2 0), (9, pP b3 0)]) ea (sched_Play_p2 K w0 l0 A0 c0 x1 x2 x3 hR0 hL0 b1 b2 b3 r1 b4 hc1 _ hq5 _ hS56 _ ?_)
     rintro _ a w20 ⟨rfl, b7, v5, v6, hS70, hF⟩
     replace hS70 : St w0 w20 [Own.blk b7 (.cells #[v5, v6] 37 (0, 0)), Own.blk b3 (.cells #[vI 0, vI 0] 29 (0, 0)), Own.blk b2 (.cells #[.slice none 0 0, .slice none 0 0] 37 (0, 0)), Own.blk b1 (.cells #[.slice A0 l0.length c0] 32 (0, 0)), Own.of v5 3 m3, Own.of v6 3 m4] := hS70
     refine hK12 [(1, vI x1), (2, .bool x2), (3, vI x3), (4, pP b1 0), (8, pP b2 0), (9, pP b3 0), (11, pP b7 0)] w20 ?_ a hF
     refine ws fun K13 hK13 => ?_
     refine wr [(0, 0), (1, 0), (2, 1), (3, 1), (4, 2)] ?_
     refine gb [0, 1] [(44, vI (l0.length : Int)), (43, .slice A0 l0.length c0)] [.loaded ⟨b1, 0, none⟩ (.slice A0 l0.length c0)] ⟨hS70.c 3, trivial⟩ ?_
     by_cases hc10 : l0.length ≤ 17592186044416
     ·rw [if_pos hc10] at h
      refine ge_make (α := Int) (d := 45) (t := 24) (el := 3) (bytes := 8) (l := l0.length) (c := l0.length) (x := (.tmp 44)) (y := (.tmp 44)) (ty := 24) (k1 := .i64) (k2 := .i64) (li := (l0.length : Int)) (ci := (l0.length : Int)) (z := vI 0) (z' := (0 : Int)) (by kernel_rfl) (by kernel_rfl) (by kernel_rfl) rfl rfl (by kernel_rfl) (by kernel_rfl) rfl hS70 (Nat.le_refl _) rfl (by omega) fun v7 w21 _ hS71 => ?_
      refine gw (some 12) (.cells #[.slice none 0 0] 24) (fun b => pP b 0) hS71 fun b8 w22 hx6 hS72 => ?_
      obtain ⟨Z3, cz3, rfl⟩ := hS72.open 1 rfl
      refine gs b8 0 #[.slice none 0 0] 24 [(.slice Z3 (List.replicate l0.length (0 : Int)).length cz3)] hS72 fun w23 hS73 => ?_
      have hS74 : St w0 w23 [Own.blk b8 (.cells #[(.slice Z3 (List.replicate l0.length (0 : Int)).length cz3)] 24 (0, 0)), Own.of (.slice Z3 (List.replicate l0.length (0 : Int)).length cz3) 3 (List.replicate l0.length (0 : Int)), Own.blk b7 (.cells #[v5, v6] 37 (0, 0)), Own.blk b3 (.cells #[vI 0, vI 0] 29 (0, 0)), Own.blk b2 (.cells #[.slice none 0 0, .slice none 0 0] 37 (0, 0)), Own.blk b1 (.cells #[.slice A0 l0.length c0] 32 (0, 0)), Own.of v5 3 m3, Own.of v6 3 m4] := hS73
      refine gn hK13 ?_
      refine ws fun K14 hK14 => ?_
      refine ws fun K15 hK15 => ?_
      refine wr [(0, 0), (1, 0), (2, 0)] ?_
      refine gb [0, 1, 2] [(48, vI 0), (47, vI (l0.length : Int)), (46, .slice A0 l0.length c0)] [.loaded ⟨b1, 0, none⟩ (.slice A0 l0.length c0)] ⟨hS74.c 5, trivial⟩ ?_
      refine gn hK15 ?_
      refine we_block ?_
      obtain ⟨Z4, cz4, rfl⟩ := hS74.open 6 rfl
      obtain ⟨Z5, cz5, rfl⟩ := hS74.open 7 rfl
      have hS75 := hS74.bring 7 rfl
      have hS76 := hS75.bring 7 rfl
      have hS77 := hS76.bring 3 rfl
      have hS78 := hS77.bring 7 rfl
      have hS79 := hS78.bring 7 rfl
      have hS80 := hS79.bring 7 rfl
      have hS81 := hS80.bring 7 rfl
      have hS82 := hS81.bring 7 rfl
      rcases hq6 : iter (sched_Play.r3 l0) K (0, (List.replicate l0.length (0 : Int)), m4) with _ | (⟨m9, m10⟩ | rr3)
      ·rw [hq6] at h; cases h
      ·rw [hq6] at h
       simp only [] at h
       refine we_iter (A := sched_Play.A3 w0 l0 A0 c0 x1 x2 x3 b1 b2 b3 b7 m3 b8 Z3 cz3 Z4 cz4 Z5 cz5) (B := sched_Play.B3 w0 l0 A0 c0 x1 x2 x3 b1 b2 b3 b7 m3 b8 Z3 cz3 Z4 cz4 Z5 cz5) hq6 (fun a hF => ⟨hS82, hF.weaken ea⟩) (fun s o hf a w hA Q hQ => sched_Play_r3 K w0 l0 A0 c0 x1 x2 x3 hR0 hL0 b1 b2 b3 r1 b4 hc1 b7 m3 m4 hc10 b8 Z3 cz3 Z4 cz4 Z5 cz5 s o hf a w hA Q hQ) ?_
       rintro _ a w28 _ ⟨rfl, hS111, hF⟩
       replace hS111 : St w0 w28 [Own.blk b8 (.cells #[(.slice Z3 m9.length cz3)] 24 (0, 0)), Own.blk b7 (.cells #[(.slice Z4 m3.length cz4), (.slice Z5 m10.length cz5)] 37 (0, 0)), Own.blk b3 (.cells #[vI 0, vI 0] 29 (0, 0)), Own.blk b2 (.cells #[.slice none 0 0, .slice none 0 0] 37 (0, 0)), Own.blk b1 (.cells #[.slice A0 l0.length c0] 32 (0, 0)), Own.of (.slice Z3 m9.length cz3) 3 m9, Own.of (.slice Z4 m3.length cz4) 3 m3, Own.of (.slice Z5 m10.length cz5) 3 m10] := hS111
       refine hK14 [(1, vI x1), (2, .bool x2), (3, vI x3), (4, pP b1 0), (8, pP b2 0), (9, pP b3 0), (11, pP b7 0), (12, pP b8 0)] w28 ?_ a hF
       refine ws fun K20 hK20 => ?_
       refine wr [(0, 0)] ?_
       refine gb0 [0] [(15, vI (-1))] ?_
       refine gn hK20 ?_
       refine ws fun K21 hK21 => ?_
       refine ws fun K22 hK22 => ?_
       refine wr [(0, 0), (1, 0)] ?_
       refine gb0 [0, 1] [(64, vI 0), (63, vI x3)] ?_
       refine gn hK22 ?_
       refine we_block ?_
       have hS112 := hS111.bring 7 rfl
       have hS113 := hS112.bring 7 rfl
       have hS114 := hS113.bring 7 rfl
       have hS115 := hS114.bring 7 rfl
       have hS116 := hS115.bring 7 rfl
       have hS117 := hS116.bring 7 rfl
       have hS118 := hS117.bring 7 rfl
       have hS119 := hS118.bring 7 rfl
       rcases hq11 : iter (sched_Play.r4 K l0 x1 x2 x3) K ((-1), 0, m9, m3, m10) with _ | (⟨m16, m17⟩ | rr2)
       ·rw [hq11] at h; cases h
       ·rw [hq11] at h
        simp only [] at h
        refine we_iter (A := sched_Play.A4 w0 l0 A0 c0 x1 x2 x3 b1 b2 b3 b7 b8 Z3 cz3 Z4 cz4 Z5 cz5) (B := sched_Play.B4 w0 b2 b3 b7 Z4 cz4 Z5 cz5) hq11 (fun a hF => ⟨hS119, hF.weaken ea⟩) (fun s o hf a w hA Q hQ => sched_Play_r4 K w0 l0 A0 c0 x1 x2 x3 hR0 hL0 b1 b2 b3 r1 b4 hc1 b7 m3 m4 hc10 b8 Z3 cz3 Z4 cz4 Z5 cz5 m9 m10 s o hf a w hA Q hQ) ?_
        rintro _ a w38 _ ⟨rfl, hS210, hF⟩
        replace hS210 : St w0 w38 [Own.blk b7 (.cells #[(.slice Z4 m16.length cz4), (.slice Z5 m17.length cz5)] 37 (0, 0)), Own.blk b3 (.cells #[vI 0, vI 0] 29 (0, 0)), Own.blk b2 (.cells #[.slice none 0 0, .slice none 0 0] 37 (0, 0)), Own.of (.slice Z4 m16.length cz4) 3 m16, Own.of (.slice Z5 m17.length cz5) 3 m17] := hS210
        refine hK21 [(8, pP b2 0), (9, pP b3 0), (11, pP b7 0)] w38 ?_ a hF
        refine ws fun K34 hK34 => ?_
        refine wr [(0, 0), (1, 0), (2, 2), (3, 2)] ?_
        refine gb [0, 1] [(109, .agg #[vI 0, vI 0]), (108, .agg #[(.slice Z4 m16.length cz4), (.slice Z5 m17.length cz5)])] [.loaded ⟨b7, 0, none⟩ ((.slice Z4 m16.length cz4)), .loaded ⟨b7, 1, none⟩ ((.slice Z5 m17.length cz5))] ⟨hS210.c 0, hS210.c 0, trivial⟩ ?_
        have hS211 := hS210.bring 2 rfl
        refine gs b2 0 #[.slice none 0 0, .slice none 0 0] 37 [(.slice Z4 m16.length cz4), (.slice Z5 m17.length cz5)] hS211 fun w39 hS212 => ?_
        have hS213 : St w0 w39 [Own.blk b2 (.cells #[(.slice Z4 m16.length cz4), (.slice Z5 m17.length cz5)] 37 (0, 0)), Own.blk b7 (.cells #[(.slice Z4 m16.length cz4), (.slice Z5 m17.length cz5)] 37 (0, 0)), Own.blk b3 (.cells #[vI 0, vI 0] 29 (0, 0)), Own.of (.slice Z4 m16.length cz4) 3 m16, Own.of (.slice Z5 m17.length cz5) 3 m17] := hS212
        have hS214 := hS213.bring 2 rfl
        refine gs b3 0 #[vI 0, vI 0] 29 [vI 0, vI 0] hS214 fun w40 hS215 => ?_
        have hS216 : St w0 w40 [Own.blk b3 (.cells #[vI 0, vI 0] 29 (0, 0)), Own.blk b2 (.cells #[(.slice Z4 m16.length cz4), (.slice Z5 m17.length cz5)] 37 (0, 0)), Own.blk b7 (.cells #[(.slice Z4 m16.length cz4), (.slice Z5 m17.length cz5)] 37 (0, 0)), Own.of (.slice Z4 m16.length cz4) 3 m16, Own.of (.slice Z5 m17.length cz5) 3 m17] := hS215
        refine gn hK34 ?_
        have hS217 := hS216.bring 4 rfl
        have hS218 := hS217.bring 4 rfl
        have hS219 := hS218.takeN 2
        obtain rfl := si h
        exact we_ret (pr [.cell 8 37, .cell 9 29] [.agg #[(.slice Z4 m16.length cz4), (.slice Z5 m17.length cz5)], .agg #[vI 0, vI 0]] [.loaded ⟨b2, 0, none⟩ ((.slice Z4 m16.length cz4)), .loaded ⟨b2, 1, none⟩ ((.slice Z5 m17.length cz5)), .loaded ⟨b3, 0, none⟩ (vI 0), .loaded ⟨b3, 1, none⟩ (vI 0)] ⟨hS216.c 1, hS216.c 1, hS216.c 0, hS216.c 0, trivial⟩ ⟨(.slice Z4 m16.length cz4), (.slice Z5 m17.length cz5), rfl, hS219⟩)
       ·rw [hq11] at h
        simp only [] at h
        refine we_iter (A := sched_Play.A4 w0 l0 A0 c0 x1 x2 x3 b1 b2 b3 b7 b8 Z3 cz3 Z4 cz4 Z5 cz5) (B := sched_Play.B4 w0 b2 b3 b7 Z4 cz4 Z5 cz5) hq11 (fun a hF => ⟨hS119, hF.weaken ea⟩) (fun s o hf a w hA Q hQ => sched_Play_r4 K w0 l0 A0 c0 x1 x2 x3 hR0 hL0 b1 b2 b3 r1 b4 hc1 b7 m3 m4 hc10 b8 Z3 cz3 Z4 cz4 Z5 cz5 m9 m10 s o hf a w hA Q hQ) ?_
        rintro _ a w1 _ ⟨rfl, hb⟩
        obtain rfl := si h
        exact hb
      ·rw [hq6] at h
       simp only [] at h
       refine we_iter (A := sched_Play.A3 w0 l0 A0 c0 x1 x2 x3 b1 b2 b3 b7 m3 b8 Z3 cz3 Z4 cz4 Z5 cz5) (B := sched_Play.B3 w0 l0 A0 c0 x1 x2 x3 b1 b2 b3 b7 m3 b8 Z3 cz3 Z4 cz4 Z5 cz5) hq6 (fun a hF => ⟨hS82, hF.weaken ea⟩) (fun s o hf a w hA Q hQ => sched_Play_r3 K w0 l0 A0 c0 x1 x2 x3 hR0 hL0 b1 b2 b3 r1 b4 hc1 b7 m3 m4 hc10 b8 Z3 cz3 Z4 cz4 Z5 cz5 s o hf a w hA Q hQ) ?_
       rintro _ a w1 _ ⟨rfl, hb⟩
       obtain rfl := si h
       exact hb
     ·rw [if_neg hc10] at h
      cases h
    ·rw [hq5] at h
     simp only [] at h
     refine we_keep (e' := [(1, vI x1), (2, .bool x2), (3, vI x3), (4, pP b1 0), (8, pP b2 0), (9, pP b3 0)]) ea (sched_Play_p2 K w0 l0 A0 c0 x1 x2 x3 hR0 hL0 b1 b2 b3 r1 b4 hc1 _ hq5 _ hS56 _ ?_)
     rintro _ a w1 ⟨_, rfl, hb⟩
     obtain rfl := si h
     exact hb
   ·rw [hq4] at h
    simp only [] at h
    refine we_keep (e' := [(1, vI x1), (2, .bool x2), (3, vI x3), (4, pP b1 0), (8, pP b2 0), (9, pP b3 0)]) ea (sched_Play_p1 K w0 l0 A0 c0 x1 x2 x3 hR0 hL0 b1 b2 b3 r1 b4 hc1 _ hq4 _ hS30 _ ?_)
    rintro _ a w1 ⟨_, rfl, hb⟩
    obtain rfl := si h
    exact hb
  ·rw [hq3] at h
   simp only [] at h
   refine we_keep (e' := [(0, .slice A0 l0.length c0), (1, vI x1), (2, .bool x2), (3, vI x3), (4, pP b1 0), (8, pP b2 0), (9, pP b3 0), (10, pP b4 0), (17, .slice A0 l0.length c0), (18, .agg #[vI r1.Code, vI r1.At]), (19, pP b4 0), (20, vI r1.Code), (21, .bool false)]) ea (sched_Play_p0 K w0 l0 A0 c0 x1 x2 x3 hR0 hL0 b1 b2 b3 r1 b4 hc1 _ hq3 _ hS8 _ ?_)
   rintro _ a w1 ⟨_, rfl, hb⟩
   obtain rfl := si h
   exact hb
 ·rw [if_neg hc1] at h
  refine wk 21 (r1.Code != 0) true (bne_iff_ne.2 hc1) ?_
  refine we_true (by kernel_rfl) ?_
  refine ws fun K35 hK35 => ?_
  rcases hq12 : sched_Play.p6 r1 with _ | (⟨z7, z8, m20, m21⟩ | rr7)
  ·rw [hq12] at h; cases h
  ·rw [hq12] at h
   simp only [] at h
   refine we_keep (e' := [(0, .slice A0 l0.length c0), (1, vI x1), (2, .bool x2), (3, vI x3), (4, pP b1 0), (8, pP b2 0), (9, pP b3 0), (10, pP b4 0), (17, .slice A0 l0.length c0), (18, .agg #[vI r1.Code, vI r1.At]), (19, pP b4 0), (20, vI r1.Code), (21, .bool true)]) ea (sched_Play_p6 K w0 l0 A0 c0 x1 x2 x3 hR0 hL0 b1 b2 b3 r1 b4 hc1 _ hq12 _ hS8 _ ?_)
   rintro _ a w43 ⟨rfl, v10, v11, hS234, hF⟩
   replace hS234 : St w0 w43 [Own.blk b3 (.cells #[vI z7, vI z8] 29 (0, 0)), Own.blk b2 (.cells #[v10, v11] 37 (0, 0)), Own.of v10 3 m20, Own.of v11 3 m21] := hS234
   refine hK35 [(8, pP b2 0), (9, pP b3 0)] w43 ?_ a hF
   have hS235 := hS234.bring 3 rfl
   have hS236 := hS235.bring 3 rfl
   have hS237 := hS236.takeN 2
   obtain rfl := si h
   exact we_ret (pr [.cell 8 37, .cell 9 29] [.agg #[v10, v11], .agg #[vI z7, vI z8]] [.loaded ⟨b2, 0, none⟩ (v10), .loaded ⟨b2, 1, none⟩ (v11), .loaded ⟨b3, 0, none⟩ (vI z7), .loaded ⟨b3, 1, none⟩ (vI z8)] ⟨hS234.c 1, hS234.c 1, hS234.c 0, hS234.c 0, trivial⟩ ⟨v10, v11, rfl, hS237⟩)
  ·rw [hq12] at h
   simp only [] at h
   refine we_keep (e' := [(0, .slice A0 l0.length c0), (1, vI x1), (2, .bool x2), (3, vI x3), (4, pP b1 0), (8, pP b2 0), (9, pP b3 0), (10, pP b4 0), (17, .slice A0 l0.length c0), (18, .agg #[vI r1.Code, vI r1.At]), (19, pP b4 0), (20, vI r1.Code), (21, .bool true)]) ea (sched_Play_p6 K w0 l0 A0 c0 x1 x2 x3 hR0 hL0 b1 b2 b3 r1 b4 hc1 _ hq12 _ hS8 _ ?_)
   rintro _ a w1 ⟨_, rfl, hb⟩
   obtain rfl := si h
   exact hb

/-! punctual/sched.Late -/
abbrev sched_Late.Post (w0 : World) (r : (List Int) × SFault) (e : Ending) (w : World) : Prop := ∃ (v0 : Value), e = .returned (.tuple #[v0, .agg #[vI r.2.Code, vI r.2.At]]) ∧ St w0 w [Own.of v0 3 r.1]
def sched_Late.r0 (l0 : List SJob) (l1_0 : List Int) (l1_1 : List Int) : (List Int) × Nat → Option (((List Int) × Nat) ⊕ ((List Int) ⊕ ((List Int) × SFault)))
 | (m1, i1) =>
  if (i1 : Int) < (l0.length : Int) then
   match l0[i1]? with
   | none => none
   | some e1 =>
    match l1_1[i1]? with
    | none => none
    | some e2 =>
     if e2 > e1.Due then
      if m1.length < 17592186044416 then
       some (.inl ((m1 ++ [(i1 : Int)]), (i1 + 1)))
      else
       none
     else
      if e2 < 0 then
       if e1.Due ≤ (l1_0.length : Int) then
        if m1.length < 17592186044416 then
         some (.inl ((m1 ++ [(i1 : Int)]), (i1 + 1)))
        else
         none
       else
        some (.inl (m1, (i1 + 1)))
      else
       some (.inl (m1, (i1 + 1)))
  else
   some (.inr (.inl m1))
def sched_Late.f (K : Nat) (l0 : List SJob) (l1_0 : List Int) (l1_1 : List Int) : Option ((List Int) × SFault) :=
 if (l1_1.length : Int) = (l0.length : Int) then
  match iter (sched_Late.r0 l0 l1_0 l1_1) K (([] : List Int), 0) with
  | none => none
  | some (.inl m3) =>
   some (m3, (⟨0, 0⟩ : SFault))
  | some (.inr rr1) =>
   some rr1
 else
  some (([] : List Int), (⟨2, 0⟩ : SFault))
abbrev sched_Late.A0 (w0 : World) (l0 : List SJob) (A0 : Option Addr) (c0 : Nat) (l1_0 : List Int) (A1_0 : Option Addr) (c1_0 : Nat) (l1_1 : List Int) (A1_1 : Option Addr) (c1_1 : Nat) (b1 : Nat) (b2 : Nat) : ((List Int) × Nat) → Act → World → Prop := fun (s : (List Int) × Nat) a w => ∃ (v1 : Value), St w0 w [Own.blk b2 (.cells #[vI 0, vI 0] 29 (0, 0)), Own.blk b1 (.cells #[.slice A1_0 l1_0.length c1_0, .slice A1_1 l1_1.length c1_1] 37 (0, 0)), Own.of v1 3 s.1] ∧ Frm 52 a [(3, pP b1 0), (5, pP b2 0), (6, v1), (17, .slice A0 l0.length c0), (18, vI (l0.length : Int)), (19, vI (s.2 : Int))]
abbrev sched_Late.B0 (w0 : World) (b2 : Nat) : ((List Int) ⊕ ((List Int) × SFault)) → Exit → Act → World → Prop := Exits 0 (fun (s : (List Int)) a w => ∃ (v2 : Value), St w0 w [Own.blk b2 (.cells #[vI 0, vI 0] 29 (0, 0)), Own.of v2 3 s] ∧ Frm 52 a [(5, pP b2 0), (6, v2)]) (Rets Try.prog Try.f14 (sched_Late.Post w0))
theorem sched_Late_r0 (K : Nat) (w0 : World) (l0 : List SJob) (A0 : Option Addr) (c0 : Nat) (l1_0 : List Int) (A1_0 : Option Addr) (c1_0 : Nat) (l1_1 : List Int) (A1_1 : Option Addr) (c1_1 : Nat) (hR0 : RdL w0 A0 l0) (hL0 : l0.length ≤ c0) (hR1_0 : RdL w0 A1_0 l1_0) (hL1_0 : l1_0.length ≤ c1_0) (hR1_1 : RdL w0 A1_1 l1_1) (hL1_1 : l1_1.length ≤ c1_1) (b1 : Nat) (b2 : Nat) (hc1 : (l1_1.length : Int) = (l0.length : Int)) (s : (List Int) × Nat) (o : ((List Int) × Nat) ⊕ ((List Int) ⊕ ((List Int) × SFault))) (h : sched_Late.r0 l0 l1_0 l1_1 s = some o) (a : Act) (w : World) (hA : sched_Late.A0 w0 l0 A0 c0 l1_0 A1_0 c1_0 l1_1 A1_1 c1_1 b1 b2 s a w) (Q : Exit → Act → World → Prop) (hQ : ∀ x a w, Outs (sched_Late.A0 w0 l0 A0 c0 l1_0 A1_0 c1_0 l1_1 A1_1 c1_1 b1 b2) (sched_Late.B0 w0 b2) o x a w → Q x a w) : (subF Try.f14 [1, 1, 1, 0, 1, 0, 0]).wp Try.prog Q a w := by
 obtain ⟨m1, i1⟩ := s
 obtain ⟨v1, hS, hF⟩ := hA
 replace hS : St w0 w [Own.blk b2 (.cells #[vI 0, vI 0] 29 (0, 0)), Own.blk b1 (.cells #[.slice A1_0 l1_0.length c1_0, .slice A1_1 l1_1.length c1_1] 37 (0, 0)), Own.of v1 3 m1] := hS
 simp only [sched_Late.r0] at h
 refine (?_ : WE Try.prog 52 (subF Try.f14 [1, 1, 1, 0, 1, 0, 0]) Q [(3, pP b1 0), (5, pP b2 0), (6, v1), (17, .slice A0 l0.length c0), (18, vI (l0.length : Int)), (19, vI (i1 : Int))] w) a hF
 clear hF a
 refine ws fun K7 hK7 => ?_
 refine wr [(0, 0)] ?_
 refine gb0 [0] [(20, .bool (decide ((i1 : Int) < (l0.length : Int))))] ?_
 refine gn hK7 ?_
 refine ws fun K8 hK8 => ?_
 by_cases hc2 : (i1 : Int) < (l0.length : Int)
 ·rw [if_pos hc2] at h
  refine wk 20 (decide ((i1 : Int) < (l0.length : Int))) true (decide_eq_true hc2) ?_
  refine we_true (by kernel_rfl) ?_
  refine we_skip fun a hF => hK8 _ _ ?_ a hF
  refine ws fun K9 hK9 => ?_
  refine we_block ?_
  refine ws fun K10 hK10 => ?_
  refine wr [(0, 0), (1, 0), (2, 0), (3, 1), (4, 0), (5, 2)] ?_
  refine gb0 [0] [(21, vI (i1 : Int))] ?_
  rcases hx3 : l0[i1]? with _ | e1
  ·rw [hx3] at h; cases h
  rw [hx3] at h
  simp only [] at h
  refine gi 22 0 32 59 5 l0.length c0 (.tmp 17) (.tmp 19) A0 .i64 (i1 : Int) i1 ((hS.rd hR0).eqSome (pos_of_get hx3)) rfl (lt_of_get hx3) ?_
  refine gb [2] [(23, .agg #[vI e1.Task, vI e1.At, vI e1.C, vI e1.Due, vI e1.P])] [.loaded ⟨blkOf A0, offOf A0 + i1 * 5, none⟩ (vI e1.Task), .loaded ⟨blkOf A0, offOf A0 + i1 * 5 + 1, none⟩ (vI e1.At), .loaded ⟨blkOf A0, offOf A0 + i1 * 5 + 2, none⟩ (vI e1.C), .loaded ⟨blkOf A0, offOf A0 + i1 * 5 + 3, none⟩ (vI e1.Due), .loaded ⟨blkOf A0, offOf A0 + i1 * 5 + 4, none⟩ (vI e1.P)] ⟨RdL.cell (j := 0) (hS.rd hR0) hx3 rfl, RdL.cell (j := 1) (hS.rd hR0) hx3 rfl, RdL.cell (j := 2) (hS.rd hR0) hx3 rfl, RdL.cell (j := 3) (hS.rd hR0) hx3 rfl, RdL.cell (j := 4) (hS.rd hR0) hx3 rfl, trivial⟩ ?_
  refine gw (some 8) (.cells #[vI 0, vI 0, vI 0, vI 0, vI 0] 59) (fun b => pP b 0) hS fun b3 w3 hx4 hS6 => ?_
  refine gb0 [4] [(7, vI (i1 : Int))] ?_
  refine gs b3 0 #[vI 0, vI 0, vI 0, vI 0, vI 0] 59 [vI e1.Task, vI e1.At, vI e1.C, vI e1.Due, vI e1.P] hS6 fun w4 hS7 => ?_
  have hS8 : St w0 w4 [Own.blk b3 (.cells #[vI e1.Task, vI e1.At, vI e1.C, vI e1.Due, vI e1.P] 59 (0, 0)), Own.blk b2 (.cells #[vI 0, vI 0] 29 (0, 0)), Own.blk b1 (.cells #[.slice A1_0 l1_0.length c1_0, .slice A1_1 l1_1.length c1_1] 37 (0, 0)), Own.of v1 3 m1] := hS7
  refine gn hK10 ?_
  refine ws fun K11 hK11 => ?_
  refine wr [(0, 0), (1, 0), (2, 0), (3, 0), (4, 0), (5, 0)] ?_
  refine gb [0, 1, 2] [(26, vI (i1 : Int)), (25, .slice A1_1 l1_1.length c1_1), (24, pP b1 1)] [.loaded ⟨b1, 1, none⟩ (.slice A1_1 l1_1.length c1_1)] ⟨hS8.c 2, trivial⟩ ?_
  rcases hx5 : l1_1[i1]? with _ | e2
  ·rw [hx5] at h; cases h
  rw [hx5] at h
  simp only [] at h
  refine gi 27 0 24 3 1 l1_1.length c1_1 (.tmp 25) (.tmp 26) A1_1 .i64 (i1 : Int) i1 ((hS8.rd hR1_1).eqSome (pos_of_get hx5)) rfl (lt_of_get hx5) ?_
  refine gb [4, 5] [(9, vI e2), (28, vI e2)] [.loaded ⟨blkOf A1_1, offOf A1_1 + i1 * 1, none⟩ (vI e2)] ⟨RdL.cell (j := 0) (hS8.rd hR1_1) hx5 rfl, trivial⟩ ?_
  refine gn hK11 ?_
  refine ws fun K12 hK12 => ?_
  refine wr [(0, 0), (1, 0), (2, 0), (3, 0), (4, 0), (5, 0), (6, 0), (7, 0), (8, 0), (9, 0), (10, 0), (11, 0), (12, 0), (13, 0), (14, 0), (15, 0)] ?_
  refine gb [0, 1, 2, 3, 4] [(33, .bool (decide (e2 > e1.Due))), (32, .bool (decide (e2 > e1.Due))), (31, vI e1.Due), (30, pP b3 3), (29, vI e2)] [.loaded ⟨b3, 3, none⟩ (vI e1.Due)] ⟨hS8.c 0, trivial⟩ ?_
  by_cases hc3 : e2 > e1.Due
  ·rw [if_pos hc3] at h
   refine gk 33 (decide (e2 > e1.Due)) true (decide_eq_true hc3) ?_
   refine gb0 [5, 6, 7, 8, 9, 10, 11, 12, 13, 14, 15] [(44, .bool true), (43, undef), (42, undef), (41, undef), (40, undef), (39, undef), (38, undef), (37, undef), (36, undef), (35, undef), (34, undef)] ?_
   refine gn hK12 ?_
   refine we_true (by kernel_rfl) ?_
   refine wr [(0, 0), (1, 0), (2, 1), (3, 2), (4, 0)] ?_
   refine gb0 [0, 1] [(46, vI (i1 : Int)), (45, v1)] ?_
   refine gw (some 47) (.cells #[vI (i1 : Int)] 3) (fun b => .slice (some ⟨b, 0, none⟩) 1 1) hS8 fun b4 w5 hx6 hS9 => ?_
   have hS10 := hS9.bring 4 rfl
   by_cases hc4 : m1.length < 17592186044416
   ·rw [if_pos hc4] at h
    refine ge_append (α := Int) (m := 0) (d := 48) (t := 24) (el := 3) (bytes := 8) (c1 := 1) (b1 := b4) (x := (.tmp 45)) (y := (.tmp 47)) (ty := 24) (v := v1) (z := vI 0) (l := m1) (u := (i1 : Int)) (by kernel_rfl) (by kernel_rfl) (by kernel_rfl) (by kernel_rfl) (by kernel_rfl) rfl hS10 rfl (by omega) fun v3 w6 hS11 => ?_
    refine gb0 [4] [(6, v3)] ?_
    refine gn hK9 ?_
    refine wr [(0, 0), (1, 0)] ?_
    refine ge_addn (d := 49) (ty := 3) (x := (.tmp 19)) (y := (.const (vI 1))) (t := 3) (t2 := 3) (k := .i64) (m := i1) (by kernel_rfl) (by kernel_rfl) (by kernel_rfl) (by have h0 := hR0.small; omega) ?_
    refine gb0 [1] [(19, vI ((i1 + 1 : Nat) : Int))] ?_
    have hS12 := hS11.bring 3 rfl
    have hS13 := hS12.bring 3 rfl
    have hS14 := hS13.takeN 3
    obtain rfl := si h
    exact ge_nil fun a hF => hQ _ _ _ (Outs.again ⟨v3, hS14, hF.weaken ea⟩)
   ·rw [if_neg hc4] at h
    cases h
  ·rw [if_neg hc3] at h
   refine gk 33 (decide (e2 > e1.Due)) false (decide_eq_false hc3) ?_
   refine gb0 [5, 6, 7] [(36, .bool (decide (e2 < 0))), (35, .bool (decide (e2 < 0))), (34, vI e2)] ?_
   by_cases hc5 : e2 < 0
   ·rw [if_pos hc5] at h
    refine gk 36 (decide (e2 < 0)) true (decide_eq_true hc5) ?_
    refine gb [8, 9, 10, 11, 12, 13, 14, 15] [(44, .bool (decide (e1.Due ≤ (l1_0.length : Int)))), (43, .bool (decide (e1.Due ≤ (l1_0.length : Int)))), (42, .bool (decide (e1.Due ≤ (l1_0.length : Int)))), (41, vI (l1_0.length : Int)), (40, .slice A1_0 l1_0.length c1_0), (39, pP b1 0), (38, vI e1.Due), (37, pP b3 3)] [.loaded ⟨b3, 3, none⟩ (vI e1.Due), .loaded ⟨b1, 0, none⟩ (.slice A1_0 l1_0.length c1_0)] ⟨hS8.c 0, hS8.c 2, trivial⟩ ?_
    refine gn hK12 ?_
    by_cases hc6 : e1.Due ≤ (l1_0.length : Int)
    ·rw [if_pos hc6] at h
     refine wk 44 (decide (e1.Due ≤ (l1_0.length : Int))) true (decide_eq_true hc6) ?_
     refine we_true (by kernel_rfl) ?_
     refine wr [(0, 0), (1, 0), (2, 1), (3, 2), (4, 0)] ?_
     refine gb0 [0, 1] [(46, vI (i1 : Int)), (45, v1)] ?_
     refine gw (some 47) (.cells #[vI (i1 : Int)] 3) (fun b => .slice (some ⟨b, 0, none⟩) 1 1) hS8 fun b5 w7 hx7 hS15 => ?_
     have hS16 := hS15.bring 4 rfl
     by_cases hc7 : m1.length < 17592186044416
     ·rw [if_pos hc7] at h
      refine ge_append (α := Int) (m := 0) (d := 48) (t := 24) (el := 3) (bytes := 8) (c1 := 1) (b1 := b5) (x := (.tmp 45)) (y := (.tmp 47)) (ty := 24) (v := v1) (z := vI 0) (l := m1) (u := (i1 : Int)) (by kernel_rfl) (by kernel_rfl) (by kernel_rfl) (by kernel_rfl) (by kernel_rfl) rfl hS16 rfl (by omega) fun v4 w8 hS17 => ?_
      refine gb0 [4] [(6, v4)] ?_
      refine gn hK9 ?_
      refine wr [(0, 0), (1, 0)] ?_
      refine ge_addn (d := 49) (ty := 3) (x := (.tmp 19)) (y := (.const (vI 1))) (t := 3) (t2 := 3) (k := .i64) (m := i1) (by kernel_rfl) (by kernel_rfl) (by kernel_rfl) (by have h0 := hR0.small; omega) ?_
      refine gb0 [1] [(19, vI ((i1 + 1 : Nat) : Int))] ?_
      have hS18 := hS17.bring 3 rfl
      have hS19 := hS18.bring 3 rfl
      have hS20 := hS19.takeN 3
      obtain rfl := si h
      exact ge_nil fun a hF => hQ _ _ _ (Outs.again ⟨v4, hS20, hF.weaken ea⟩)
     ·rw [if_neg hc7] at h
      cases h
    ·rw [if_neg hc6] at h
     refine wk 44 (decide (e1.Due ≤ (l1_0.length : Int))) false (decide_eq_false hc6) ?_
     refine we_false (by kernel_rfl) ?_
     refine we_skip fun a hF => hK9 _ _ ?_ a hF
     refine wr [(0, 0), (1, 0)] ?_
     refine ge_addn (d := 49) (ty := 3) (x := (.tmp 19)) (y := (.const (vI 1))) (t := 3) (t2 := 3) (k := .i64) (m := i1) (by kernel_rfl) (by kernel_rfl) (by kernel_rfl) (by have h0 := hR0.small; omega) ?_
     refine gb0 [1] [(19, vI ((i1 + 1 : Nat) : Int))] ?_
     have hS21 := hS8.bring 3 rfl
     have hS22 := hS21.bring 3 rfl
     have hS23 := hS22.bring 3 rfl
     have hS24 := hS23.takeN 3
     obtain rfl := si h
     exact ge_nil fun a hF => hQ _ _ _ (Outs.again ⟨v1, hS24, hF.weaken ea⟩)
   ·rw [if_neg hc5] at h
    refine gk 36 (decide (e2 < 0)) false (decide_eq_false hc5) ?_
    refine gb0 [8, 9, 10, 11, 12, 13, 14, 15] [(44, .bool false), (43, .bool false), (42, undef), (41, undef), (40, undef), (39, undef), (38, undef), (37, undef)] ?_
    refine gn hK12 ?_
    refine we_false (by kernel_rfl) ?_
    refine we_skip fun a hF => hK9 _ _ ?_ a hF
    refine wr [(0, 0), (1, 0)] ?_
    refine ge_addn (d := 49) (ty := 3) (x := (.tmp 19)) (y := (.const (vI 1))) (t := 3) (t2 := 3) (k := .i64) (m := i1) (by kernel_rfl) (by kernel_rfl) (by kernel_rfl) (by have h0 := hR0.small; omega) ?_
    refine gb0 [1] [(19, vI ((i1 + 1 : Nat) : Int))] ?_
    have hS25 := hS8.bring 3 rfl
    have hS26 := hS25.bring 3 rfl
    have hS27 := hS26.bring 3 rfl
    have hS28 := hS27.takeN 3
    obtain rfl := si h
    exact ge_nil fun a hF => hQ _ _ _ (Outs.again ⟨v1, hS28, hF.weaken ea⟩)
 ·rw [if_neg hc2] at h
  refine wk 20 (decide ((i1 : Int) < (l0.length : Int))) false (decide_eq_false hc2) ?_
  refine we_false (by kernel_rfl) ?_
  have hS29 := hS.bring 2 rfl
  have hS30 := hS29.bring 1 rfl
  have hS31 := hS30.takeN 2
  obtain rfl := si h
  exact we_exit fun a hF => hQ _ _ _ (Outs.out nofun (Exits.here ⟨v1, hS31, hF.weaken ea⟩))
theorem sched_Late_ok (K : Nat) (l0 : List SJob) (A0 : Option Addr) (c0 : Nat) (l1_0 : List Int) (A1_0 : Option Addr) (c1_0 : Nat) (l1_1 : List Int) (A1_1 : Option Addr) (c1_1 : Nat) (w0 : World) (hR0 : RdL w0 A0 l0) (hL0 : l0.length ≤ c0) (hR1_0 : RdL w0 A1_0 l1_0) (hL1_0 : l1_0.length ≤ c1_0) (hR1_1 : RdL w0 A1_1 l1_1) (hL1_1 : l1_1.length ≤ c1_1) (r : (List Int) × SFault) (h : sched_Late.f K l0 l1_0 l1_1 = some r) :
  Calls Try.prog 14 #[.slice A0 l0.length c0, .agg #[.slice A1_0 l1_0.length c1_0, .slice A1_1 l1_1.length c1_1]] w0 (sched_Late.Post w0 r) := by
 have hS := St.start w0
 unfold sched_Late.f at h
 refine calls_enter (n := 52) (args := [.slice A0 l0.length c0, .agg #[.slice A1_0 l1_0.length c1_0, .slice A1_1 l1_1.length c1_1]]) (fn := Try.f14) rfl rfl rfl rfl ?_
 show WE _ _ _ _ [(0, .slice A0 l0.length c0), (1, .agg #[.slice A1_0 l1_0.length c1_0, .slice A1_1 l1_1.length c1_1])] _
 refine ws fun K1 hK1 => ?_
 refine wr [(0, 1), (1, 0), (2, 1)] ?_
 refine gw (some 3) (.cells #[.slice A1_0 l1_0.length c1_0, .slice A1_1 l1_1.length c1_1] 37) (fun b => pP b 0) hS fun b1 w1 hx1 hS1 => ?_
 refine gb0 [1] [(4, .slice none 0 0)] ?_
 refine gw (some 5) (.cells #[vI 0, vI 0] 29) (fun b => pP b 0) hS1 fun b2 w2 hx2 hS2 => ?_
 refine gn hK1 ?_
 refine ws fun K2 hK2 => ?_
 refine ws fun K3 hK3 => ?_
 refine wr [(0, 0), (1, 0), (2, 0), (3, 0), (4, 0), (5, 0)] ?_
 refine gb [0, 1, 2, 3, 4, 5] [(15, .bool ((l1_1.length : Int) != (l0.length : Int))), (14, vI (l0.length : Int)), (13, .slice A0 l0.length c0), (12, vI (l1_1.length : Int)), (11, .slice A1_1 l1_1.length c1_1), (10, pP b1 1)] [.loaded ⟨b1, 1, none⟩ (.slice A1_1 l1_1.length c1_1)] ⟨hS2.c 1, trivial⟩ ?_
 refine gn hK3 ?_
 by_cases hc1 : (l1_1.length : Int) = (l0.length : Int)
 ·rw [if_pos hc1] at h
  refine wk 15 ((l1_1.length : Int) != (l0.length : Int)) false (bne_eq_false_iff_eq.2 hc1) ?_
  refine we_false (by kernel_rfl) ?_
  refine we_skip fun a hF => hK2 _ _ ?_ a hF
  refine ws fun K4 hK4 => ?_
  refine wr [(0, 0)] ?_
  refine gb0 [0] [(6, .slice none 0 0)] ?_
  refine gn hK4 ?_
  refine ws fun K5 hK5 => ?_
  refine ws fun K6 hK6 => ?_
  refine wr [(0, 0), (1, 0), (2, 0)] ?_
  refine gb0 [0, 1, 2] [(19, vI 0), (18, vI (l0.length : Int)), (17, .slice A0 l0.length c0)] ?_
  refine gn hK6 ?_
  refine we_block ?_
  have hS3 := hS2.nil (α := Int) 3
  have hS4 := hS3.bring 2 rfl
  have hS5 := hS4.bring 2 rfl
  rcases hq1 : iter (sched_Late.r0 l0 l1_0 l1_1) K (([] : List Int), 0) with _ | (m3 | rr1)
  ·rw [hq1] at h; cases h
  ·rw [hq1] at h
   simp only [] at h
   refine we_iter (A := sched_Late.A0 w0 l0 A0 c0 l1_0 A1_0 c1_0 l1_1 A1_1 c1_1 b1 b2) (B := sched_Late.B0 w0 b2) hq1 (fun a hF => ⟨(.slice none 0 0), hS5, hF.weaken ea⟩) (fun s o hf a w hA Q hQ => sched_Late_r0 K w0 l0 A0 c0 l1_0 A1_0 c1_0 l1_1 A1_1 c1_1 hR0 hL0 hR1_0 hL1_0 hR1_1 hL1_1 b1 b2 hc1 s o hf a w hA Q hQ) ?_
   rintro _ a w9 _ ⟨rfl, v5, hS32, hF⟩
   replace hS32 : St w0 w9 [Own.blk b2 (.cells #[vI 0, vI 0] 29 (0, 0)), Own.of v5 3 m3] := hS32
   refine hK5 [(5, pP b2 0), (6, v5)] w9 ?_ a hF
   refine ws fun K13 hK13 => ?_
   refine wr [(0, 0), (1, 0), (2, 0), (3, 2)] ?_
   refine gb0 [0, 1, 2] [(4, v5), (51, .agg #[vI 0, vI 0]), (50, v5)] ?_
   refine gs b2 0 #[vI 0, vI 0] 29 [vI 0, vI 0] hS32 fun w10 hS33 => ?_
   have hS34 : St w0 w10 [Own.blk b2 (.cells #[vI 0, vI 0] 29 (0, 0)), Own.of v5 3 m3] := hS33
   refine gn hK13 ?_
   have hS35 := hS34.bring 1 rfl
   have hS36 := hS35.takeN 1
   obtain rfl := si h
   exact we_ret (pr [.tmp 4, .cell 5 29] [v5, .agg #[vI 0, vI 0]] [.loaded ⟨b2, 0, none⟩ (vI 0), .loaded ⟨b2, 1, none⟩ (vI 0)] ⟨hS34.c 0, hS34.c 0, trivial⟩ ⟨v5, rfl, hS36⟩)
  ·rw [hq1] at h
   simp only [] at h
   refine we_iter (A := sched_Late.A0 w0 l0 A0 c0 l1_0 A1_0 c1_0 l1_1 A1_1 c1_1 b1 b2) (B := sched_Late.B0 w0 b2) hq1 (fun a hF => ⟨(.slice none 0 0), hS5, hF.weaken ea⟩) (fun s o hf a w hA Q hQ => sched_Late_r0 K w0 l0 A0 c0 l1_0 A1_0 c1_0 l1_1 A1_1 c1_1 hR0 hL0 hR1_0 hL1_0 hR1_1 hL1_1 b1 b2 hc1 s o hf a w hA Q hQ) ?_
   rintro _ a w1 _ ⟨rfl, hb⟩
   obtain rfl := si h
   exact hb
 ·rw [if_neg hc1] at h
  refine wk 15 ((l1_1.length : Int) != (l0.length : Int)) true (bne_iff_ne.2 hc1) ?_
  refine we_true (by kernel_rfl) ?_
  refine ws fun K14 hK14 => ?_
  refine wr [(0, 0), (1, 0), (2, 2)] ?_
  refine gb0 [0, 1] [(4, .slice none 0 0), (16, .agg #[vI 2, vI 0])] ?_
  refine gs b2 0 #[vI 0, vI 0] 29 [vI 2, vI 0] hS2 fun w11 hS37 => ?_
  have hS38 : St w0 w11 [Own.blk b2 (.cells #[vI 2, vI 0] 29 (0, 0)), Own.blk b1 (.cells #[.slice A1_0 l1_0.length c1_0, .slice A1_1 l1_1.length c1_1] 37 (0, 0))] := hS37
  refine gn hK14 ?_
  have hS39 := hS38.nil (α := Int) 3
  have hS40 := hS39.takeN 1
  obtain rfl := si h
  exact we_ret (pr [.tmp 4, .cell 5 29] [(.slice none 0 0), .agg #[vI 2, vI 0]] [.loaded ⟨b2, 0, none⟩ (vI 2), .loaded ⟨b2, 1, none⟩ (vI 0)] ⟨hS39.c 1, hS39.c 1, trivial⟩ ⟨(.slice none 0 0), rfl, hS40⟩)

/-! punctual/punctuallaw.runs -/
abbrev runs.Post (w0 : World) (r : Bool) (e : Ending) (w : World) : Prop := e = .returned (.bool r) ∧ St w0 w []
def runs.f (K : Nat) : Option Bool :=
 match sched_Play.f K ([(⟨0, 0, 3, 9, 1⟩ : SJob), (⟨0, 1, 1, 3, 2⟩ : SJob)] : List SJob) 1 true 5 with
 | none => none
 | some r1 =>
  match sched_Late.f K ([(⟨0, 0, 3, 9, 1⟩ : SJob), (⟨0, 1, 1, 3, 2⟩ : SJob)] : List SJob) r1.1.Runs r1.1.Ends with
  | none => none
  | some r2 =>
   if r1.2.Code = 0 then
    if r2.2.Code = 0 then
     match punctualsame_Same_int.f K r1.1.Runs ([0, 1, 0, 0, (-1)] : List Int) with
     | none => none
     | some r3 =>
      if r3 = true then
       match punctualsame_Same_int.f K r1.1.Ends ([4, 2] : List Int) with
       | none => none
       | some r4 =>
        if r4 = true then
         some ((r2.1.length : Int) == 0)
        else
         some false
      else
       some false
    else
     some false
   else
    some false
theorem runs_ok (K : Nat)  (w0 : World) (r : Bool) (h : runs.f K = some r) :
  Calls Try.prog 8 #[] w0 (runs.Post w0 r) := by
 have hS := St.start w0
 unfold runs.f at h
 refine calls_enter (n := 45) (args := []) (fn := Try.f8) rfl rfl rfl rfl ?_
 show WE _ _ _ _ [] _
 refine ws fun K1 hK1 => ?_
 refine wr [(0, 0)] ?_
 refine gb0 [0] [(0, .bool false)] ?_
 refine gn hK1 ?_
 refine ws fun K2 hK2 => ?_
 refine wr [(0, 0), (1, 0), (2, 1), (3, 0)] ?_
 refine gb0 [0, 1] [(7, .agg #[vI 0, vI 1, vI 1, vI 3, vI 2]), (6, .agg #[vI 0, vI 0, vI 3, vI 9, vI 1])] ?_
 refine gw (some 8) (.cells #[vI 0, vI 0, vI 3, vI 9, vI 1, vI 0, vI 1, vI 1, vI 3, vI 2] 59) (fun b => .slice (some ⟨b, 0, none⟩) 2 2) hS fun b1 w1 hx1 hS1 => ?_
 refine gb0 [3] [(1, .slice (some ⟨b1, 0, none⟩) 2 2)] ?_
 refine gn hK2 ?_
 refine ws fun K3 hK3 => ?_
 refine wr [(0, 0), (1, 1), (2, 0), (3, 0), (4, 0), (5, 1), (6, 1), (7, 2), (8, 2)] ?_
 rcases hq1 : sched_Play.f K ([(⟨0, 0, 3, 9, 1⟩ : SJob), (⟨0, 1, 1, 3, 2⟩ : SJob)] : List SJob) 1 true 5 with _ | r1
 ·rw [hq1] at h; cases h
 rw [hq1] at h
 simp only [] at h
 refine gb0 [0] [(10, .slice (some ⟨b1, 0, none⟩) 2 2)] ?_
 refine ge_call (d := some 11) (f := 13) (args := #[.slice (some ⟨b1, 0, none⟩) 2 2, vI 1, .bool true, vI 5]) (by kernel_rfl) (sched_Play_ok K ([(⟨0, 0, 3, 9, 1⟩ : SJob), (⟨0, 1, 1, 3, 2⟩ : SJob)] : List SJob) (some ⟨b1, 0, none⟩) 2 1 true 5 _ (hS1.rdBlk 0 ([(⟨0, 0, 3, 9, 1⟩ : SJob), (⟨0, 1, 1, 3, 2⟩ : SJob)] : List SJob) rfl rfl rfl) (Nat.le_refl _) _ hq1) ?_
 rintro _ w2 ⟨v1, v2, rfl, hS2⟩
 refine ⟨_, rfl, hS2.below, ?_⟩
 have hS3 := hS1.call hS2
 refine gb0 [2, 3, 4] [(13, .agg #[vI r1.2.Code, vI r1.2.At]), (12, .agg #[v1, v2]), (9, .tuple #[.agg #[v1, v2], .agg #[vI r1.2.Code, vI r1.2.At]])] ?_
 refine gw (some 2) (.cells #[.slice none 0 0, .slice none 0 0] 37) (fun b => pP b 0) hS3 fun b2 w3 hx2 hS4 => ?_
 refine gw (some 3) (.cells #[vI 0, vI 0] 29) (fun b => pP b 0) hS4 fun b3 w4 hx3 hS5 => ?_
 obtain ⟨Z1, cz1, rfl⟩ := hS5.open 2 rfl
 obtain ⟨Z2, cz2, rfl⟩ := hS5.open 3 rfl
 have hS6 := hS5.bring 1 rfl
 refine gs b2 0 #[.slice none 0 0, .slice none 0 0] 37 [(.slice Z1 r1.1.Runs.length cz1), (.slice Z2 r1.1.Ends.length cz2)] hS6 fun w5 hS7 => ?_
 have hS8 : St w0 w5 [Own.blk b2 (.cells #[(.slice Z1 r1.1.Runs.length cz1), (.slice Z2 r1.1.Ends.length cz2)] 37 (0, 0)), Own.blk b3 (.cells #[vI 0, vI 0] 29 (0, 0)), Own.of (.slice Z1 r1.1.Runs.length cz1) 3 r1.1.Runs, Own.of (.slice Z2 r1.1.Ends.length cz2) 3 r1.1.Ends, Own.blk b1 (.cells #[vI 0, vI 0, vI 3, vI 9, vI 1, vI 0, vI 1, vI 1, vI 3, vI 2] 59 (0, 0))] := hS7
 have hS9 := hS8.bring 1 rfl
 refine gs b3 0 #[vI 0, vI 0] 29 [vI r1.2.Code, vI r1.2.At] hS9 fun w6 hS10 => ?_
 have hS11 : St w0 w6 [Own.blk b3 (.cells #[vI r1.2.Code, vI r1.2.At] 29 (0, 0)), Own.blk b2 (.cells #[(.slice Z1 r1.1.Runs.length cz1), (.slice Z2 r1.1.Ends.length cz2)] 37 (0, 0)), Own.of (.slice Z1 r1.1.Runs.length cz1) 3 r1.1.Runs, Own.of (.slice Z2 r1.1.Ends.length cz2) 3 r1.1.Ends, Own.blk b1 (.cells #[vI 0, vI 0, vI 3, vI 9, vI 1, vI 0, vI 1, vI 1, vI 3, vI 2] 59 (0, 0))] := hS10
 refine gn hK3 ?_
 refine ws fun K4 hK4 => ?_
 refine wr [(0, 0), (1, 0), (2, 1), (3, 0), (4, 0), (5, 0), (6, 1), (7, 0), (8, 2)] ?_
 rcases hq2 : sched_Late.f K ([(⟨0, 0, 3, 9, 1⟩ : SJob), (⟨0, 1, 1, 3, 2⟩ : SJob)] : List SJob) r1.1.Runs r1.1.Ends with _ | r2
 ·rw [hq2] at h; cases h
 rw [hq2] at h
 simp only [] at h
 refine gb [0, 1] [(16, .agg #[(.slice Z1 r1.1.Runs.length cz1), (.slice Z2 r1.1.Ends.length cz2)]), (15, .slice (some ⟨b1, 0, none⟩) 2 2)] [.loaded ⟨b2, 0, none⟩ ((.slice Z1 r1.1.Runs.length cz1)), .loaded ⟨b2, 1, none⟩ ((.slice Z2 r1.1.Ends.length cz2))] ⟨hS11.c 1, hS11.c 1, trivial⟩ ?_
 refine ge_call (d := some 17) (f := 14) (args := #[.slice (some ⟨b1, 0, none⟩) 2 2, .agg #[(.slice Z1 r1.1.Runs.length cz1), (.slice Z2 r1.1.Ends.length cz2)]]) (by kernel_rfl) (sched_Late_ok K ([(⟨0, 0, 3, 9, 1⟩ : SJob), (⟨0, 1, 1, 3, 2⟩ : SJob)] : List SJob) (some ⟨b1, 0, none⟩) 2 r1.1.Runs Z1 cz1 r1.1.Ends Z2 cz2 _ (hS11.rdBlk 4 ([(⟨0, 0, 3, 9, 1⟩ : SJob), (⟨0, 1, 1, 3, 2⟩ : SJob)] : List SJob) rfl rfl rfl) (Nat.le_refl _) (hS11.rdAt 2 rfl) (hS11.capAt 2 rfl) (hS11.rdAt 3 rfl) (hS11.capAt 3 rfl) _ hq2) ?_
 rintro _ w7 ⟨v3, rfl, hS12⟩
 refine ⟨_, rfl, hS12.below, ?_⟩
 have hS13 := hS11.call hS12
 refine gb0 [3, 4, 5] [(19, .agg #[vI r2.2.Code, vI r2.2.At]), (18, v3), (14, .tuple #[v3, .agg #[vI r2.2.Code, vI r2.2.At]])] ?_
 refine gw (some 5) (.cells #[vI 0, vI 0] 29) (fun b => pP b 0) hS13 fun b4 w8 hx4 hS14 => ?_
 refine gb0 [7] [(4, v3)] ?_
 refine gs b4 0 #[vI 0, vI 0] 29 [vI r2.2.Code, vI r2.2.At] hS14 fun w9 hS15 => ?_
 have hS16 : St w0 w9 [Own.blk b4 (.cells #[vI r2.2.Code, vI r2.2.At] 29 (0, 0)), Own.of v3 3 r2.1, Own.blk b3 (.cells #[vI r1.2.Code, vI r1.2.At] 29 (0, 0)), Own.blk b2 (.cells #[(.slice Z1 r1.1.Runs.length cz1), (.slice Z2 r1.1.Ends.length cz2)] 37 (0, 0)), Own.of (.slice Z1 r1.1.Runs.length cz1) 3 r1.1.Runs, Own.of (.slice Z2 r1.1.Ends.length cz2) 3 r1.1.Ends, Own.blk b1 (.cells #[vI 0, vI 0, vI 3, vI 9, vI 1, vI 0, vI 1, vI 1, vI 3, vI 2] 59 (0, 0))] := hS15
 refine gn hK4 ?_
 refine ws fun K5 hK5 => ?_
 refine wr [(0, 0), (1, 0), (2, 0), (3, 0), (4, 0), (5, 0), (6, 0), (7, 0), (8, 0), (9, 0), (10, 0), (11, 1), (12, 1), (13, 0), (14, 0), (15, 0), (16, 0), (17, 1), (18, 1), (19, 0), (20, 0), (21, 0), (22, 0), (23, 0), (24, 0), (25, 0)] ?_
 refine gb [0, 1, 2, 3] [(23, .bool (r1.2.Code == 0)), (22, .bool (r1.2.Code == 0)), (21, vI r1.2.Code), (20, pP b3 0)] [.loaded ⟨b3, 0, none⟩ (vI r1.2.Code)] ⟨hS16.c 2, trivial⟩ ?_
 by_cases hc1 : r1.2.Code = 0
 ·rw [if_pos hc1] at h
  refine gk 23 (r1.2.Code == 0) true (beq_iff_eq.2 hc1) ?_
  refine gb [4, 5, 6, 7, 8] [(28, .bool (r2.2.Code == 0)), (27, .bool (r2.2.Code == 0)), (26, .bool (r2.2.Code == 0)), (25, vI r2.2.Code), (24, pP b4 0)] [.loaded ⟨b4, 0, none⟩ (vI r2.2.Code)] ⟨hS16.c 0, trivial⟩ ?_
  by_cases hc2 : r2.2.Code = 0
  ·rw [if_pos hc2] at h
   refine gk 28 (r2.2.Code == 0) true (beq_iff_eq.2 hc2) ?_
   refine gb [9, 10] [(30, (.slice Z1 r1.1.Runs.length cz1)), (29, pP b2 0)] [.loaded ⟨b2, 0, none⟩ ((.slice Z1 r1.1.Runs.length cz1))] ⟨hS16.c 3, trivial⟩ ?_
   refine gw (some 31) (.cells #[vI 0, vI 1, vI 0, vI 0, vI (-1)] 3) (fun b => .slice (some ⟨b, 0, none⟩) 5 5) hS16 fun b5 w10 hx5 hS17 => ?_
   rcases hq3 : punctualsame_Same_int.f K r1.1.Runs ([0, 1, 0, 0, (-1)] : List Int) with _ | r3
   ·rw [hq3] at h; cases h
   rw [hq3] at h
   simp only [] at h
   refine ge_call (d := some 32) (f := 25) (args := #[(.slice Z1 r1.1.Runs.length cz1), .slice (some ⟨b5, 0, none⟩) 5 5]) (by kernel_rfl) (punctualsame_Same_int_ok K r1.1.Runs Z1 cz1 ([0, 1, 0, 0, (-1)] : List Int) (some ⟨b5, 0, none⟩) 5 _ (hS17.rdAt 5 rfl) (hS17.capAt 5 rfl) (hS17.rdBlk 0 ([0, 1, 0, 0, (-1)] : List Int) rfl rfl rfl) (Nat.le_refl _) _ hq3) ?_
   rintro _ w11 ⟨rfl, hS18⟩
   refine ⟨_, rfl, hS18.below, ?_⟩
   have hS19 := hS17.call hS18
   refine gb0 [13, 14] [(34, .bool r3), (33, .bool r3)] ?_
   by_cases hc3 : r3 = true
   ·rw [if_pos hc3] at h
    refine gk 34 r3 true hc3 ?_
    refine gb [15, 16] [(36, (.slice Z2 r1.1.Ends.length cz2)), (35, pP b2 1)] [.loaded ⟨b2, 1, none⟩ ((.slice Z2 r1.1.Ends.length cz2))] ⟨hS19.c 4, trivial⟩ ?_
    refine gw (some 37) (.cells #[vI 4, vI 2] 3) (fun b => .slice (some ⟨b, 0, none⟩) 2 2) hS19 fun b6 w12 hx6 hS20 => ?_
    rcases hq4 : punctualsame_Same_int.f K r1.1.Ends ([4, 2] : List Int) with _ | r4
    ·rw [hq4] at h; cases h
    rw [hq4] at h
    simp only [] at h
    refine ge_call (d := some 38) (f := 25) (args := #[(.slice Z2 r1.1.Ends.length cz2), .slice (some ⟨b6, 0, none⟩) 2 2]) (by kernel_rfl) (punctualsame_Same_int_ok K r1.1.Ends Z2 cz2 ([4, 2] : List Int) (some ⟨b6, 0, none⟩) 2 _ (hS20.rdAt 7 rfl) (hS20.capAt 7 rfl) (hS20.rdBlk 0 ([4, 2] : List Int) rfl rfl rfl) (Nat.le_refl _) _ hq4) ?_
    rintro _ w13 ⟨rfl, hS21⟩
    refine ⟨_, rfl, hS21.below, ?_⟩
    have hS22 := hS20.call hS21
    refine gb0 [19, 20] [(40, .bool r4), (39, .bool r4)] ?_
    by_cases hc4 : r4 = true
    ·rw [if_pos hc4] at h
     refine gk 40 r4 true hc4 ?_
     refine gb0 [21] [(41, v3)] ?_
     obtain ⟨Z3, cz3, rfl⟩ := hS22.open 3 rfl
     refine gb0 [22, 23, 24, 25] [(0, .bool ((r2.1.length : Int) == 0)), (44, .bool ((r2.1.length : Int) == 0)), (43, .bool ((r2.1.length : Int) == 0)), (42, vI (r2.1.length : Int))] ?_
     refine gn hK5 ?_
     have hS23 := hS22.takeN 0
     obtain rfl := si h
     exact we_ret (pr0 [.tmp 0] [.bool ((r2.1.length : Int) == 0)] ⟨rfl, hS23⟩)
    ·rw [if_neg hc4] at h
     refine gk 40 r4 false (Bool.eq_false_iff.2 hc4) ?_
     refine gb0 [21, 22, 23, 24, 25] [(0, .bool false), (44, .bool false), (43, undef), (42, undef), (41, undef)] ?_
     refine gn hK5 ?_
     have hS24 := hS22.takeN 0
     obtain rfl := si h
     exact we_ret (pr0 [.tmp 0] [.bool false] ⟨rfl, hS24⟩)
   ·rw [if_neg hc3] at h
    refine gk 34 r3 false (Bool.eq_false_iff.2 hc3) ?_
    refine gb0 [15, 16] [(36, undef), (35, undef)] ?_
    refine ge_off rfl rfl rfl (by kernel_rfl) ?_
    refine ge_off rfl rfl rfl (by kernel_rfl) ?_
    refine gb0 [19, 20, 21, 22, 23, 24, 25] [(0, .bool false), (44, .bool false), (43, undef), (42, undef), (41, undef), (40, .bool false), (39, .bool false)] ?_
    refine gn hK5 ?_
    have hS25 := hS19.takeN 0
    obtain rfl := si h
    exact we_ret (pr0 [.tmp 0] [.bool false] ⟨rfl, hS25⟩)
  ·rw [if_neg hc2] at h
   refine gk 28 (r2.2.Code == 0) false (beq_eq_false_iff_ne.2 hc2) ?_
   refine gb0 [9, 10] [(30, undef), (29, undef)] ?_
   refine ge_off rfl rfl rfl (by kernel_rfl) ?_
   refine ge_off rfl rfl rfl (by kernel_rfl) ?_
   refine gb0 [13, 14, 15, 16] [(36, undef), (35, undef), (34, .bool false), (33, .bool false)] ?_
   refine ge_off rfl rfl rfl (by kernel_rfl) ?_
   refine ge_off rfl rfl rfl (by kernel_rfl) ?_
   refine gb0 [19, 20, 21, 22, 23, 24, 25] [(0, .bool false), (44, .bool false), (43, undef), (42, undef), (41, undef), (40, .bool false), (39, .bool false)] ?_
   refine gn hK5 ?_
   have hS26 := hS16.takeN 0
   obtain rfl := si h
   exact we_ret (pr0 [.tmp 0] [.bool false] ⟨rfl, hS26⟩)
 ·rw [if_neg hc1] at h
  refine gk 23 (r1.2.Code == 0) false (beq_eq_false_iff_ne.2 hc1) ?_
  refine gb0 [4, 5, 6, 7, 8, 9, 10] [(30, undef), (29, undef), (28, .bool false), (27, .bool false), (26, undef), (25, undef), (24, undef)] ?_
  refine ge_off rfl rfl rfl (by kernel_rfl) ?_
  refine ge_off rfl rfl rfl (by kernel_rfl) ?_
  refine gb0 [13, 14, 15, 16] [(36, undef), (35, undef), (34, .bool false), (33, .bool false)] ?_
  refine ge_off rfl rfl rfl (by kernel_rfl) ?_
  refine ge_off rfl rfl rfl (by kernel_rfl) ?_
  refine gb0 [19, 20, 21, 22, 23, 24, 25] [(0, .bool false), (44, .bool false), (43, undef), (42, undef), (41, undef), (40, .bool false), (39, .bool false)] ?_
  refine gn hK5 ?_
  have hS27 := hS16.takeN 0
  obtain rfl := si h
  exact we_ret (pr0 [.tmp 0] [.bool false] ⟨rfl, hS27⟩)

/-! punctual/punctualref.F -/
abbrev punctualref_F.Post (w0 : World) (r : SFault) (e : Ending) (w : World) : Prop := e = .returned (.agg #[vI r.Code, vI r.At]) ∧ St w0 w []
def punctualref_F.f (x0 : Int) (x1 : Int) : SFault :=
 (⟨x0, x1⟩ : SFault)
theorem punctualref_F_ok (x0 : Int) (x1 : Int) (w0 : World) (r : SFault) (h : punctualref_F.f x0 x1 = r) :
  Calls Try.prog 39 #[vI x0, vI x1] w0 (punctualref_F.Post w0 r) := by
 have hS := St.start w0
 unfold punctualref_F.f at h
 refine calls_enter (n := 8) (args := [vI x0, vI x1]) (fn := Try.f39) rfl rfl rfl rfl ?_
 show WE _ _ _ _ [(0, vI x0), (1, vI x1)] _
 refine ws fun K1 hK1 => ?_
 refine wr [(0, 1)] ?_
 refine gw (some 4) (.cells #[vI 0, vI 0] 29) (fun b => pP b 0) hS fun b1 w1 hx1 hS1 => ?_
 refine gn hK1 ?_
 refine ws fun K2 hK2 => ?_
 refine wr [(0, 0), (1, 0), (2, 0), (3, 2)] ?_
 refine gb0 [0, 1, 2] [(7, .agg #[vI x0, vI x1]), (6, vI x1), (5, vI x0)] ?_
 refine gs b1 0 #[vI 0, vI 0] 29 [vI x0, vI x1] hS1 fun w2 hS2 => ?_
 have hS3 : St w0 w2 [Own.blk b1 (.cells #[vI x0, vI x1] 29 (0, 0))] := hS2
 refine gn hK2 ?_
 have hS4 := hS3.takeN 0
 subst h
 exact we_ret (pr [.cell 4 29] [.agg #[vI x0, vI x1]] [.loaded ⟨b1, 0, none⟩ (vI x0), .loaded ⟨b1, 1, none⟩ (vI x1)] ⟨hS3.c 0, hS3.c 0, trivial⟩ ⟨rfl, hS4⟩)

structure A6Int where
 a0 : Int
 a1 : Int
 a2 : Int
 a3 : Int
 a4 : Int
 a5 : Int
def A6Int.eqb (x y : A6Int) : Bool := ((x.a0 == y.a0) && ((x.a1 == y.a1) && ((x.a2 == y.a2) && ((x.a3 == y.a3) && ((x.a4 == y.a4) && ((x.a5 == y.a5) && true))))))
instance : Ok A6Int := ⟨fun x => Ok.ok x.a0 ∧ Ok.ok x.a1 ∧ Ok.ok x.a2 ∧ Ok.ok x.a3 ∧ Ok.ok x.a4 ∧ Ok.ok x.a5 ∧ True⟩
instance : Flat A6Int := ⟨6, fun x => [vI x.a0, vI x.a1, vI x.a2, vI x.a3, vI x.a4, vI x.a5], fun _ => rfl, fun _ => rfl, by decide⟩

/-! punctual/punctualref.sixOf -/
abbrev punctualref_sixOf.Post (w0 : World) (r : A6Int) (e : Ending) (w : World) : Prop := e = .returned (.agg #[vI r.a0, vI r.a1, vI r.a2, vI r.a3, vI r.a4, vI r.a5]) ∧ St w0 w []
def punctualref_sixOf.f (x0 : STask) : A6Int :=
 (⟨x0.C, x0.T, x0.D, x0.J, x0.O, x0.P⟩ : A6Int)
theorem punctualref_sixOf_ok (x0 : STask) (w0 : World) (r : A6Int) (h : punctualref_sixOf.f x0 = r) :
  Calls Try.prog 60 #[.agg #[.string x0.Name, vI x0.C, vI x0.T, vI x0.D, vI x0.J, vI x0.O, vI x0.P]] w0 (punctualref_sixOf.Post w0 r) := by
 have hS := St.start w0
 unfold punctualref_sixOf.f at h
 refine calls_enter (n := 16) (args := [.agg #[.string x0.Name, vI x0.C, vI x0.T, vI x0.D, vI x0.J, vI x0.O, vI x0.P]]) (fn := Try.f60) rfl rfl rfl rfl ?_
 show WE _ _ _ _ [(0, .agg #[.string x0.Name, vI x0.C, vI x0.T, vI x0.D, vI x0.J, vI x0.O, vI x0.P])] _
 refine ws fun K1 hK1 => ?_
 refine wr [(0, 1), (1, 1)] ?_
 refine gw (some 1) (.cells #[.string x0.Name, vI x0.C, vI x0.T, vI x0.D, vI x0.J, vI x0.O, vI x0.P] 46) (fun b => pP b 0) hS fun b1 w1 hx1 hS1 => ?_
 refine gw (some 2) (.cells #[vI 0, vI 0, vI 0, vI 0, vI 0, vI 0] 91) (fun b => pP b 0) hS1 fun b2 w2 hx2 hS2 => ?_
 refine gn hK1 ?_
 refine ws fun K2 hK2 => ?_
 refine wr [(0, 0), (1, 0), (2, 0), (3, 0), (4, 0), (5, 0), (6, 0), (7, 0), (8, 0), (9, 0), (10, 0), (11, 0), (12, 0), (13, 2)] ?_
 refine gb [0, 1, 2, 3, 4, 5, 6, 7, 8, 9, 10, 11, 12] [(15, .agg #[vI x0.C, vI x0.T, vI x0.D, vI x0.J, vI x0.O, vI x0.P]), (14, vI x0.P), (13, pP b1 6), (12, vI x0.O), (11, pP b1 5), (10, vI x0.J), (9, pP b1 4), (8, vI x0.D), (7, pP b1 3), (6, vI x0.T), (5, pP b1 2), (4, vI x0.C), (3, pP b1 1)] [.loaded ⟨b1, 1, none⟩ (vI x0.C), .loaded ⟨b1, 2, none⟩ (vI x0.T), .loaded ⟨b1, 3, none⟩ (vI x0.D), .loaded ⟨b1, 4, none⟩ (vI x0.J), .loaded ⟨b1, 5, none⟩ (vI x0.O), .loaded ⟨b1, 6, none⟩ (vI x0.P)] ⟨hS2.c 1, hS2.c 1, hS2.c 1, hS2.c 1, hS2.c 1, hS2.c 1, trivial⟩ ?_
 refine gs b2 0 #[vI 0, vI 0, vI 0, vI 0, vI 0, vI 0] 91 [vI x0.C, vI x0.T, vI x0.D, vI x0.J, vI x0.O, vI x0.P] hS2 fun w3 hS3 => ?_
 have hS4 : St w0 w3 [Own.blk b2 (.cells #[vI x0.C, vI x0.T, vI x0.D, vI x0.J, vI x0.O, vI x0.P] 91 (0, 0)), Own.blk b1 (.cells #[.string x0.Name, vI x0.C, vI x0.T, vI x0.D, vI x0.J, vI x0.O, vI x0.P] 46 (0, 0))] := hS3
 refine gn hK2 ?_
 have hS5 := hS4.takeN 0
 subst h
 exact we_ret (pr [.cell 2 91] [.agg #[vI x0.C, vI x0.T, vI x0.D, vI x0.J, vI x0.O, vI x0.P]] [.loaded ⟨b2, 0, none⟩ (vI x0.C), .loaded ⟨b2, 1, none⟩ (vI x0.T), .loaded ⟨b2, 2, none⟩ (vI x0.D), .loaded ⟨b2, 3, none⟩ (vI x0.J), .loaded ⟨b2, 4, none⟩ (vI x0.O), .loaded ⟨b2, 5, none⟩ (vI x0.P)] ⟨hS4.c 0, hS4.c 0, hS4.c 0, hS4.c 0, hS4.c 0, hS4.c 0, trivial⟩ ⟨rfl, hS5⟩)

/-! punctual/punctualref.CheckSet -/
abbrev punctualref_CheckSet.Post (w0 : World) (r : SFault) (e : Ending) (w : World) : Prop := e = .returned (.agg #[vI r.Code, vI r.At]) ∧ St w0 w []
def punctualref_CheckSet.p0 (l0 : List STask) : Option (Unit ⊕ SFault) :=
  if (l0.length : Int) = 0 then
   some (.inr (punctualref_F.f 2 0))
  else
   if (l0.length : Int) > 8 then
    some (.inr (punctualref_F.f 2 0))
   else
    some (.inl ())
def punctualref_CheckSet.p2 (e1 : STask) : Option (Bool ⊕ SFault) :=
  if (e1.Name.size : Int) ≥ 1 then
   some (.inl (decide ((e1.Name.size : Int) ≤ 10)))
  else
   some (.inl false)
def punctualref_CheckSet.r3 (e1 : STask) : Bool × Int → Option ((Bool × Int) ⊕ (Bool ⊕ SFault))
 | (q3, z1) =>
  if z1 < (e1.Name.size : Int) then
   if q3 = true then
    if 0 ≤ z1 then
     match e1.Name[(z1).toNat]? with
     | none => none
     | some b3 =>
      if (b3.toNat : Int) ≥ 97 then
       some (.inl (decide ((b3.toNat : Int) ≤ 122), IntKind.i64.wrap (z1 + 1)))
      else
       some (.inl (false, IntKind.i64.wrap (z1 + 1)))
    else
     none
   else
    some (.inl (false, IntKind.i64.wrap (z1 + 1)))
  else
   some (.inr (.inl q3))
def punctualref_CheckSet.r4 (l0 : List STask) (i1 : Nat) (e1 : STask) : Nat → Option (Nat ⊕ (Unit ⊕ SFault))
 | i2 =>
  if (i2 : Int) < (((l0.take i1).drop 0).length : Int) then
   match ((l0.take i1).drop 0)[i2]? with
   | none => none
   | some e2 =>
    if e2.Name.toList = e1.Name.toList then
     some (.inr (.inr (punctualref_F.f 5 (i1 : Int))))
    else
     some (.inl (i2 + 1))
  else
   some (.inr (.inl ()))
def punctualref_CheckSet.r5 (i1 : Nat) (e1 : STask) : Nat → Option (Nat ⊕ (Unit ⊕ SFault))
 | i3 =>
  if (i3 : Int) < 6 then
   match ([(punctualref_sixOf.f e1).a0, (punctualref_sixOf.f e1).a1, (punctualref_sixOf.f e1).a2, (punctualref_sixOf.f e1).a3, (punctualref_sixOf.f e1).a4, (punctualref_sixOf.f e1).a5] : List Int)[i3]? with
   | none => none
   | some e3 =>
    match ([1, 1, 1, 0, 0, 0] : List Int)[i3]? with
    | none => none
    | some e4 =>
     if e3 < e4 then
      some (.inr (.inr (punctualref_F.f 3 (i1 : Int))))
     else
      match ([10000, 10000, 10000, 10000, 10000, 1000] : List Int)[i3]? with
      | none => none
      | some e5 =>
       if e3 > e5 then
        some (.inr (.inr (punctualref_F.f 3 (i1 : Int))))
       else
        some (.inl (i3 + 1))
  else
   some (.inr (.inl ()))
def punctualref_CheckSet.r1 (K : Nat) (l0 : List STask) : Nat → Option (Nat ⊕ (Unit ⊕ SFault))
 | i1 =>
  if (i1 : Int) < (l0.length : Int) then
   match l0[i1]? with
   | none => none
   | some e1 =>
    match punctualref_CheckSet.p2 e1 with
    | none => none
    | some (.inl q2) =>
     match iter (punctualref_CheckSet.r3 e1) K (q2, 0) with
     | none => none
     | some (.inl q5) =>
      if q5 = true then
       if i1 ≤ l0.length then
        match iter (punctualref_CheckSet.r4 l0 i1 e1) K 0 with
        | none => none
        | some (.inl _) =>
         match iter (punctualref_CheckSet.r5 i1 e1) K 0 with
         | none => none
         | some (.inl _) =>
          if e1.D < e1.C then
           some (.inr (.inr (punctualref_F.f 12 (i1 : Int))))
          else
           some (.inl (i1 + 1))
         | some (.inr rr1) =>
          some (.inr (.inr rr1))
        | some (.inr rr2) =>
         some (.inr (.inr rr2))
       else
        none
      else
       some (.inr (.inr (punctualref_F.f 4 (i1 : Int))))
     | some (.inr rr3) =>
      some (.inr (.inr rr3))
    | some (.inr rr4) =>
     some (.inr (.inr rr4))
  else
   some (.inr (.inl ()))
def punctualref_CheckSet.f (K : Nat) (l0 : List STask) : Option SFault :=
 match punctualref_CheckSet.p0 l0 with
 | none => none
 | some (.inl _) =>
  match iter (punctualref_CheckSet.r1 K l0) K 0 with
  | none => none
  | some (.inl _) =>
   some (⟨0, 0⟩ : SFault)
  | some (.inr rr5) =>
   some rr5
 | some (.inr rr6) =>
  some rr6
abbrev punctualref_CheckSet.A0 (w0 : World) (l0 : List STask) (A0 : Option Addr) (c0 : Nat) (b1 : Nat) : Unit → Act → World → Prop := fun (s : Unit) a w => St w0 w [Own.blk b1 (.cells #[vI 0, vI 0] 29 (0, 0))] ∧ Frm 113 a [(0, .slice A0 l0.length c0), (2, pP b1 0)]
abbrev punctualref_CheckSet.B0 (w0 : World) : SFault → Exit → Act → World → Prop := Rets Try.prog Try.f38 (punctualref_CheckSet.Post w0)
theorem punctualref_CheckSet_p0 (K : Nat) (w0 : World) (l0 : List STask) (A0 : Option Addr) (c0 : Nat) (hR0 : RdL w0 A0 l0) (hL0 : l0.length ≤ c0) (b1 : Nat) (o : Unit ⊕ SFault) (h : punctualref_CheckSet.p0 l0 = some o) (w : World) (hS : St w0 w [Own.blk b1 (.cells #[vI 0, vI 0] 29 (0, 0))]) (Q : Exit → Act → World → Prop) (hQ : ∀ x a w, Outs (punctualref_CheckSet.A0 w0 l0 A0 c0 b1) (punctualref_CheckSet.B0 w0) o x a w → Q x a w) : WE Try.prog 113 (subF Try.f38 [1, 0]) Q [(0, .slice A0 l0.length c0), (2, pP b1 0)] w := by
 simp only [punctualref_CheckSet.p0] at h
 refine ws fun K3 hK3 => ?_
 refine wr [(0, 0), (1, 0), (2, 0), (3, 0), (4, 0), (5, 0), (6, 0), (7, 0)] ?_
 refine gb0 [0, 1, 2, 3] [(16, .bool ((l0.length : Int) == 0)), (15, .bool ((l0.length : Int) == 0)), (14, vI (l0.length : Int)), (13, .slice A0 l0.length c0)] ?_
 by_cases hc1 : (l0.length : Int) = 0
 ·rw [if_pos hc1] at h
  refine gk 16 ((l0.length : Int) == 0) true (beq_iff_eq.2 hc1) ?_
  refine gb0 [4, 5, 6, 7] [(20, .bool true), (19, undef), (18, undef), (17, undef)] ?_
  refine gn hK3 ?_
  refine we_true (by kernel_rfl) ?_
  refine ws fun K4 hK4 => ?_
  refine wr [(0, 1), (1, 2)] ?_
  refine ge_call (d := some 21) (f := 39) (args := #[vI 2, vI 0]) (by kernel_rfl) (punctualref_F_ok 2 0 _ _ rfl) ?_
  rintro _ w2 ⟨rfl, hS2⟩
  refine ⟨_, rfl, hS2.below, ?_⟩
  have hS3 := hS.call hS2
  refine gs b1 0 #[vI 0, vI 0] 29 [vI ((punctualref_F.f 2 0).Code), vI ((punctualref_F.f 2 0).At)] hS3 fun w3 hS4 => ?_
  have hS5 : St w0 w3 [Own.blk b1 (.cells #[vI ((punctualref_F.f 2 0).Code), vI ((punctualref_F.f 2 0).At)] 29 (0, 0))] := hS4
  refine gn hK4 ?_
  have hS6 := hS5.takeN 0
  obtain rfl := si h
  exact we_ret fun a hF => hQ _ _ _ (Outs.out nofun ⟨rfl, (pr [.cell 2 29] [.agg #[vI ((punctualref_F.f 2 0).Code), vI ((punctualref_F.f 2 0).At)]] [.loaded ⟨b1, 0, none⟩ (vI ((punctualref_F.f 2 0).Code)), .loaded ⟨b1, 1, none⟩ (vI ((punctualref_F.f 2 0).At))] ⟨hS5.c 0, hS5.c 0, trivial⟩ ⟨rfl, hS6⟩) a hF⟩)
 ·rw [if_neg hc1] at h
  refine gk 16 ((l0.length : Int) == 0) false (beq_eq_false_iff_ne.2 hc1) ?_
  refine gb0 [4, 5, 6, 7] [(20, .bool (decide ((l0.length : Int) > 8))), (19, .bool (decide ((l0.length : Int) > 8))), (18, vI (l0.length : Int)), (17, .slice A0 l0.length c0)] ?_
  refine gn hK3 ?_
  by_cases hc2 : (l0.length : Int) > 8
  ·rw [if_pos hc2] at h
   refine wk 20 (decide ((l0.length : Int) > 8)) true (decide_eq_true hc2) ?_
   refine we_true (by kernel_rfl) ?_
   refine ws fun K5 hK5 => ?_
   refine wr [(0, 1), (1, 2)] ?_
   refine ge_call (d := some 21) (f := 39) (args := #[vI 2, vI 0]) (by kernel_rfl) (punctualref_F_ok 2 0 _ _ rfl) ?_
   rintro _ w4 ⟨rfl, hS7⟩
   refine ⟨_, rfl, hS7.below, ?_⟩
   have hS8 := hS.call hS7
   refine gs b1 0 #[vI 0, vI 0] 29 [vI ((punctualref_F.f 2 0).Code), vI ((punctualref_F.f 2 0).At)] hS8 fun w5 hS9 => ?_
   have hS10 : St w0 w5 [Own.blk b1 (.cells #[vI ((punctualref_F.f 2 0).Code), vI ((punctualref_F.f 2 0).At)] 29 (0, 0))] := hS9
   refine gn hK5 ?_
   have hS11 := hS10.takeN 0
   obtain rfl := si h
   exact we_ret fun a hF => hQ _ _ _ (Outs.out nofun ⟨rfl, (pr [.cell 2 29] [.agg #[vI ((punctualref_F.f 2 0).Code), vI ((punctualref_F.f 2 0).At)]] [.loaded ⟨b1, 0, none⟩ (vI ((punctualref_F.f 2 0).Code)), .loaded ⟨b1, 1, none⟩ (vI ((punctualref_F.f 2 0).At))] ⟨hS10.c 0, hS10.c 0, trivial⟩ ⟨rfl, hS11⟩) a hF⟩)
  ·rw [if_neg hc2] at h
   refine wk 20 (decide ((l0.length : Int) > 8)) false (decide_eq_false hc2) ?_
   refine we_false (by kernel_rfl) ?_
   obtain rfl := si h
   exact we_skip fun a hF => hQ _ _ _ (Outs.again ⟨hS, hF.weaken ea⟩)
abbrev punctualref_CheckSet.A2 (w0 : World) (l0 : List STask) (A0 : Option Addr) (c0 : Nat) (b1 : Nat) (i1 : Nat) (e1 : STask) (b2 : Nat) : Bool → Act → World → Prop := fun (s : Bool) a w => St w0 w [Own.blk b2 (.cells #[.string e1.Name, vI e1.C, vI e1.T, vI e1.D, vI e1.J, vI e1.O, vI e1.P] 46 (0, 0)), Own.blk b1 (.cells #[vI 0, vI 0] 29 (0, 0))] ∧ Frm 113 a [(0, .slice A0 l0.length c0), (2, pP b1 0), (3, vI (i1 : Int)), (4, pP b2 0), (5, .bool s), (22, .slice A0 l0.length c0), (23, vI (l0.length : Int)), (24, vI (i1 : Int))]
abbrev punctualref_CheckSet.B2 (w0 : World) : SFault → Exit → Act → World → Prop := Rets Try.prog Try.f38 (punctualref_CheckSet.Post w0)
theorem punctualref_CheckSet_p2 (K : Nat) (w0 : World) (l0 : List STask) (A0 : Option Addr) (c0 : Nat) (hR0 : RdL w0 A0 l0) (hL0 : l0.length ≤ c0) (b1 : Nat) (i1 : Nat) (hc3 : (i1 : Int) < (l0.length : Int)) (e1 : STask) (hx2 : l0[i1]? = some e1) (b2 : Nat) (o : Bool ⊕ SFault) (h : punctualref_CheckSet.p2 e1 = some o) (w : World) (hS : St w0 w [Own.blk b2 (.cells #[.string e1.Name, vI e1.C, vI e1.T, vI e1.D, vI e1.J, vI e1.O, vI e1.P] 46 (0, 0)), Own.blk b1 (.cells #[vI 0, vI 0] 29 (0, 0))]) (Q : Exit → Act → World → Prop) (hQ : ∀ x a w, Outs (punctualref_CheckSet.A2 w0 l0 A0 c0 b1 i1 e1 b2) (punctualref_CheckSet.B2 w0) o x a w → Q x a w) : WE Try.prog 113 (subF Try.f38 [1, 1, 0, 1, 0, 0, 1, 1, 0, 0, 1, 0]) Q [(0, .slice A0 l0.length c0), (2, pP b1 0), (3, vI (i1 : Int)), (4, pP b2 0), (22, .slice A0 l0.length c0), (23, vI (l0.length : Int)), (24, vI (i1 : Int)), (25, .bool true), (26, vI (i1 : Int)), (27, .pointer (some ⟨blkOf A0, offOf A0 + i1 * 7, none⟩)), (28, .agg #[.string e1.Name, vI e1.C, vI e1.T, vI e1.D, vI e1.J, vI e1.O, vI e1.P])] w := by
 simp only [punctualref_CheckSet.p2] at h
 refine wr [(0, 0), (1, 0), (2, 0), (3, 0), (4, 0), (5, 0), (6, 0), (7, 0), (8, 0), (9, 0), (10, 0)] ?_
 refine gb [0, 1, 2, 3, 4] [(33, .bool (decide ((e1.Name.size : Int) ≥ 1))), (32, .bool (decide ((e1.Name.size : Int) ≥ 1))), (31, vI (e1.Name.size : Int)), (30, .string e1.Name), (29, pP b2 0)] [.loaded ⟨b2, 0, none⟩ (.string e1.Name)] ⟨hS.c 0, trivial⟩ ?_
 by_cases hc4 : (e1.Name.size : Int) ≥ 1
 ·rw [if_pos hc4] at h
  refine gk 33 (decide ((e1.Name.size : Int) ≥ 1)) true (decide_eq_true hc4) ?_
  refine gb [5, 6, 7, 8, 9, 10] [(5, .bool (decide ((e1.Name.size : Int) ≤ 10))), (38, .bool (decide ((e1.Name.size : Int) ≤ 10))), (37, .bool (decide ((e1.Name.size : Int) ≤ 10))), (36, vI (e1.Name.size : Int)), (35, .string e1.Name), (34, pP b2 0)] [.loaded ⟨b2, 0, none⟩ (.string e1.Name)] ⟨hS.c 0, trivial⟩ ?_
  have hS16 := hS.bring 1 rfl
  have hS17 := hS16.bring 1 rfl
  obtain rfl := si h
  exact ge_nil fun a hF => hQ _ _ _ (Outs.again ⟨hS17, hF.weaken ea⟩)
 ·rw [if_neg hc4] at h
  refine gk 33 (decide ((e1.Name.size : Int) ≥ 1)) false (decide_eq_false hc4) ?_
  refine gb0 [5, 6, 7, 8, 9, 10] [(5, .bool false), (38, .bool false), (37, undef), (36, undef), (35, undef), (34, undef)] ?_
  have hS18 := hS.bring 1 rfl
  have hS19 := hS18.bring 1 rfl
  obtain rfl := si h
  exact ge_nil fun a hF => hQ _ _ _ (Outs.again ⟨hS19, hF.weaken ea⟩)
abbrev punctualref_CheckSet.A3 (w0 : World) (l0 : List STask) (A0 : Option Addr) (c0 : Nat) (b1 : Nat) (i1 : Nat) (e1 : STask) (b2 : Nat) : (Bool × Int) → Act → World → Prop := fun (s : Bool × Int) a w => St w0 w [Own.blk b2 (.cells #[.string e1.Name, vI e1.C, vI e1.T, vI e1.D, vI e1.J, vI e1.O, vI e1.P] 46 (0, 0)), Own.blk b1 (.cells #[vI 0, vI 0] 29 (0, 0))] ∧ Frm 113 a [(0, .slice A0 l0.length c0), (2, pP b1 0), (3, vI (i1 : Int)), (4, pP b2 0), (5, .bool s.1), (6, vI s.2), (22, .slice A0 l0.length c0), (23, vI (l0.length : Int)), (24, vI (i1 : Int))]
abbrev punctualref_CheckSet.B3 (w0 : World) (l0 : List STask) (A0 : Option Addr) (c0 : Nat) (b1 : Nat) (i1 : Nat) (e1 : STask) (b2 : Nat) : (Bool ⊕ SFault) → Exit → Act → World → Prop := Exits 2 (fun (s : Bool) a w => St w0 w [Own.blk b2 (.cells #[.string e1.Name, vI e1.C, vI e1.T, vI e1.D, vI e1.J, vI e1.O, vI e1.P] 46 (0, 0)), Own.blk b1 (.cells #[vI 0, vI 0] 29 (0, 0))] ∧ Frm 113 a [(0, .slice A0 l0.length c0), (2, pP b1 0), (3, vI (i1 : Int)), (4, pP b2 0), (5, .bool s), (22, .slice A0 l0.length c0), (23, vI (l0.length : Int)), (24, vI (i1 : Int))]) (Rets Try.prog Try.f38 (punctualref_CheckSet.Post w0))
theorem punctualref_CheckSet_r3 (K : Nat) (w0 : World) (l0 : List STask) (A0 : Option Addr) (c0 : Nat) (hR0 : RdL w0 A0 l0) (hL0 : l0.length ≤ c0) (b1 : Nat) (i1 : Nat) (hc3 : (i1 : Int) < (l0.length : Int)) (e1 : STask) (hx2 : l0[i1]? = some e1) (b2 : Nat) (q2 : Bool) (s : Bool × Int) (o : (Bool × Int) ⊕ (Bool ⊕ SFault)) (h : punctualref_CheckSet.r3 e1 s = some o) (a : Act) (w : World) (hA : punctualref_CheckSet.A3 w0 l0 A0 c0 b1 i1 e1 b2 s a w) (Q : Exit → Act → World → Prop) (hQ : ∀ x a w, Outs (punctualref_CheckSet.A3 w0 l0 A0 c0 b1 i1 e1 b2) (punctualref_CheckSet.B3 w0 l0 A0 c0 b1 i1 e1 b2) o x a w → Q x a w) : (subF Try.f38 [1, 1, 0, 1, 0, 0, 1, 1, 0, 0, 1, 1, 0, 1, 0, 0]).wp Try.prog Q a w := by
 obtain ⟨q3, z1⟩ := s
 obtain ⟨hS, hF⟩ := hA
 replace hS : St w0 w [Own.blk b2 (.cells #[.string e1.Name, vI e1.C, vI e1.T, vI e1.D, vI e1.J, vI e1.O, vI e1.P] 46 (0, 0)), Own.blk b1 (.cells #[vI 0, vI 0] 29 (0, 0))] := hS
 simp only [punctualref_CheckSet.r3] at h
 refine (?_ : WE Try.prog 113 (subF Try.f38 [1, 1, 0, 1, 0, 0, 1, 1, 0, 0, 1, 1, 0, 1, 0, 0]) Q [(0, .slice A0 l0.length c0), (2, pP b1 0), (3, vI (i1 : Int)), (4, pP b2 0), (5, .bool q3), (6, vI z1), (22, .slice A0 l0.length c0), (23, vI (l0.length : Int)), (24, vI (i1 : Int))] w) a hF
 clear hF a
 refine ws fun K15 hK15 => ?_
 refine ws fun K16 hK16 => ?_
 refine wr [(0, 0), (1, 0), (2, 0), (3, 0), (4, 0)] ?_
 refine gb [0, 1, 2, 3, 4] [(43, .bool (decide (z1 < (e1.Name.size : Int)))), (42, vI (e1.Name.size : Int)), (41, .string e1.Name), (40, pP b2 0), (39, vI z1)] [.loaded ⟨b2, 0, none⟩ (.string e1.Name)] ⟨hS.c 0, trivial⟩ ?_
 refine gn hK16 ?_
 by_cases hc5 : z1 < (e1.Name.size : Int)
 ·rw [if_pos hc5] at h
  refine wk 43 (decide (z1 < (e1.Name.size : Int))) true (decide_eq_true hc5) ?_
  refine we_true (by kernel_rfl) ?_
  refine we_skip fun a hF => hK15 _ _ ?_ a hF
  refine ws fun K17 hK17 => ?_
  refine we_block ?_
  refine wr [(0, 0), (1, 0), (2, 0), (3, 0), (4, 0), (5, 0), (6, 0), (7, 0), (8, 0), (9, 0), (10, 0), (11, 0), (12, 0), (13, 0), (14, 0), (15, 0)] ?_
  refine gb0 [0, 1] [(47, .bool q3), (46, .bool q3)] ?_
  by_cases hc6 : q3 = true
  ·rw [if_pos hc6] at h
   refine gk 47 q3 true hc6 ?_
   refine gb [2, 3, 4] [(50, vI z1), (49, .string e1.Name), (48, pP b2 0)] [.loaded ⟨b2, 0, none⟩ (.string e1.Name)] ⟨hS.c 0, trivial⟩ ?_
   by_cases hc7 : 0 ≤ z1
   ·rw [if_pos hc7] at h
    rcases hx4 : e1.Name[(z1).toNat]? with _ | b3
    ·rw [hx4] at h; cases h
    rw [hx4] at h
    simp only [] at h
    refine ge_letter (d := 51) (ty := 5) (t := 9) (x := (.tmp 49)) (y := (.tmp 50)) (k' := .i64) (j := z1) (jn := ((z1).toNat)) (s := e1.Name) (b := b3) (by kernel_rfl) (by kernel_rfl) (by kernel_rfl) (by kernel_rfl) (Int.toNat_of_nonneg hc7).symm hx4 ?_
    refine gb0 [6, 7, 8] [(54, .bool (decide ((b3.toNat : Int) ≥ 97))), (53, .bool (decide ((b3.toNat : Int) ≥ 97))), (52, .bool (decide ((b3.toNat : Int) ≥ 97)))] ?_
    by_cases hc8 : (b3.toNat : Int) ≥ 97
    ·rw [if_pos hc8] at h
     refine gk 54 (decide ((b3.toNat : Int) ≥ 97)) true (decide_eq_true hc8) ?_
     refine gb [9, 10, 11] [(57, vI z1), (56, .string e1.Name), (55, pP b2 0)] [.loaded ⟨b2, 0, none⟩ (.string e1.Name)] ⟨hS.c 0, trivial⟩ ?_
     refine ge_letter (d := 58) (ty := 5) (t := 9) (x := (.tmp 56)) (y := (.tmp 57)) (k' := .i64) (j := z1) (jn := ((z1).toNat)) (s := e1.Name) (b := b3) (by kernel_rfl) (by kernel_rfl) (by kernel_rfl) (by kernel_rfl) (Int.toNat_of_nonneg hc7).symm hx4 ?_
     refine gb0 [13, 14, 15] [(5, .bool (decide ((b3.toNat : Int) ≤ 122))), (60, .bool (decide ((b3.toNat : Int) ≤ 122))), (59, .bool (decide ((b3.toNat : Int) ≤ 122)))] ?_
     refine gn hK17 ?_
     refine wr [(0, 0), (1, 0), (2, 0)] ?_
     refine gb0 [0, 1, 2] [(6, vI (IntKind.i64.wrap (z1 + 1))), (45, vI (IntKind.i64.wrap (z1 + 1))), (44, vI z1)] ?_
     have hS23 := hS.bring 1 rfl
     have hS24 := hS23.bring 1 rfl
     obtain rfl := si h
     exact ge_nil fun a hF => hQ _ _ _ (Outs.again ⟨hS24, hF.weaken ea⟩)
    ·rw [if_neg hc8] at h
     refine gk 54 (decide ((b3.toNat : Int) ≥ 97)) false (decide_eq_false hc8) ?_
     refine gb0 [9, 10, 11, 12, 13, 14, 15] [(5, .bool false), (60, .bool false), (59, undef), (58, undef), (57, undef), (56, undef), (55, undef)] ?_
     refine gn hK17 ?_
     refine wr [(0, 0), (1, 0), (2, 0)] ?_
     refine gb0 [0, 1, 2] [(6, vI (IntKind.i64.wrap (z1 + 1))), (45, vI (IntKind.i64.wrap (z1 + 1))), (44, vI z1)] ?_
     have hS25 := hS.bring 1 rfl
     have hS26 := hS25.bring 1 rfl
     obtain rfl := si h
     exact ge_nil fun a hF => hQ _ _ _ (Outs.again ⟨hS26, hF.weaken ea⟩)
   ·rw [if_neg hc7] at h
    cases h
  ·rw [if_neg hc6] at h
   refine gk 47 q3 false (Bool.eq_false_iff.2 hc6) ?_
   refine gb0 [2, 3, 4, 5, 6, 7, 8, 9, 10, 11, 12, 13, 14, 15] [(5, .bool false), (60, .bool false), (59, undef), (58, undef), (57, undef), (56, undef), (55, undef), (54, .bool false), (53, .bool false), (52, undef), (51, undef), (50, undef), (49, undef), (48, undef)] ?_
   refine gn hK17 ?_
   refine wr [(0, 0), (1, 0), (2, 0)] ?_
   refine gb0 [0, 1, 2] [(6, vI (IntKind.i64.wrap (z1 + 1))), (45, vI (IntKind.i64.wrap (z1 + 1))), (44, vI z1)] ?_
   have hS27 := hS.bring 1 rfl
   have hS28 := hS27.bring 1 rfl
   obtain rfl := si h
   exact ge_nil fun a hF => hQ _ _ _ (Outs.again ⟨hS28, hF.weaken ea⟩)
 ·rw [if_neg hc5] at h
  refine wk 43 (decide (z1 < (e1.Name.size : Int))) false (decide_eq_false hc5) ?_
  refine we_false (by kernel_rfl) ?_
  have hS29 := hS.bring 1 rfl
  have hS30 := hS29.bring 1 rfl
  obtain rfl := si h
  exact we_exit fun a hF => hQ _ _ _ (Outs.out nofun (Exits.here ⟨hS30, hF.weaken ea⟩))
abbrev punctualref_CheckSet.A4 (w0 : World) (l0 : List STask) (A0 : Option Addr) (c0 : Nat) (b1 : Nat) (i1 : Nat) (e1 : STask) (b2 : Nat) : Nat → Act → World → Prop := fun (s : Nat) a w => St w0 w [Own.blk b2 (.cells #[.string e1.Name, vI e1.C, vI e1.T, vI e1.D, vI e1.J, vI e1.O, vI e1.P] 46 (0, 0)), Own.blk b1 (.cells #[vI 0, vI 0] 29 (0, 0))] ∧ Frm 113 a [(0, .slice A0 l0.length c0), (2, pP b1 0), (3, vI (i1 : Int)), (4, pP b2 0), (22, .slice A0 l0.length c0), (23, vI (l0.length : Int)), (24, vI (i1 : Int)), (67, .slice (subA A0 c0 0 7) (((l0.take i1).drop 0).length) (c0 - 0)), (68, vI (((l0.take i1).drop 0).length : Int)), (69, vI (s : Int))]
abbrev punctualref_CheckSet.B4 (w0 : World) (l0 : List STask) (A0 : Option Addr) (c0 : Nat) (b1 : Nat) (i1 : Nat) (e1 : STask) (b2 : Nat) : (Unit ⊕ SFault) → Exit → Act → World → Prop := Exits 4 (fun (s : Unit) a w => St w0 w [Own.blk b2 (.cells #[.string e1.Name, vI e1.C, vI e1.T, vI e1.D, vI e1.J, vI e1.O, vI e1.P] 46 (0, 0)), Own.blk b1 (.cells #[vI 0, vI 0] 29 (0, 0))] ∧ Frm 113 a [(0, .slice A0 l0.length c0), (2, pP b1 0), (3, vI (i1 : Int)), (4, pP b2 0), (22, .slice A0 l0.length c0), (23, vI (l0.length : Int)), (24, vI (i1 : Int))]) (Rets Try.prog Try.f38 (punctualref_CheckSet.Post w0))
theorem punctualref_CheckSet_r4 (K : Nat) (w0 : World) (l0 : List STask) (A0 : Option Addr) (c0 : Nat) (hR0 : RdL w0 A0 l0) (hL0 : l0.length ≤ c0) (b1 : Nat) (i1 : Nat) (hc3 : (i1 : Int) < (l0.length : Int)) (e1 : STask) (hx2 : l0[i1]? = some e1) (b2 : Nat) (q2 : Bool) (q5 : Bool) (hc9 : q5 = true) (hc10 : i1 ≤ l0.length) (s : Nat) (o : Nat ⊕ (Unit ⊕ SFault)) (h : punctualref_CheckSet.r4 l0 i1 e1 s = some o) (a : Act) (w : World) (hA : punctualref_CheckSet.A4 w0 l0 A0 c0 b1 i1 e1 b2 s a w) (Q : Exit → Act → World → Prop) (hQ : ∀ x a w, Outs (punctualref_CheckSet.A4 w0 l0 A0 c0 b1 i1 e1 b2) (punctualref_CheckSet.B4 w0 l0 A0 c0 b1 i1 e1 b2) o x a w → Q x a w) : (subF Try.f38 [1, 1, 0, 1, 0, 0, 1, 1, 0, 0, 1, 1, 1, 1, 0, 1, 0, 0]).wp Try.prog Q a w := by
 obtain ⟨i2, hs⟩ : ∃ z, z = s := ⟨s, rfl⟩
 subst hs
 obtain ⟨hS, hF⟩ := hA
 replace hS : St w0 w [Own.blk b2 (.cells #[.string e1.Name, vI e1.C, vI e1.T, vI e1.D, vI e1.J, vI e1.O, vI e1.P] 46 (0, 0)), Own.blk b1 (.cells #[vI 0, vI 0] 29 (0, 0))] := hS
 simp only [punctualref_CheckSet.r4] at h
 refine (?_ : WE Try.prog 113 (subF Try.f38 [1, 1, 0, 1, 0, 0, 1, 1, 0, 0, 1, 1, 1, 1, 0, 1, 0, 0]) Q [(0, .slice A0 l0.length c0), (2, pP b1 0), (3, vI (i1 : Int)), (4, pP b2 0), (22, .slice A0 l0.length c0), (23, vI (l0.length : Int)), (24, vI (i1 : Int)), (67, .slice (subA A0 c0 0 7) (((l0.take i1).drop 0).length) (c0 - 0)), (68, vI (((l0.take i1).drop 0).length : Int)), (69, vI (i2 : Int))] w) a hF
 clear hF a
 refine ws fun K22 hK22 => ?_
 refine wr [(0, 0)] ?_
 refine gb0 [0] [(70, .bool (decide ((i2 : Int) < (((l0.take i1).drop 0).length : Int))))] ?_
 refine gn hK22 ?_
 refine ws fun K23 hK23 => ?_
 by_cases hc11 : (i2 : Int) < (((l0.take i1).drop 0).length : Int)
 ·rw [if_pos hc11] at h
  refine wk 70 (decide ((i2 : Int) < (((l0.take i1).drop 0).length : Int))) true (decide_eq_true hc11) ?_
  refine we_true (by kernel_rfl) ?_
  refine we_skip fun a hF => hK23 _ _ ?_ a hF
  refine ws fun K24 hK24 => ?_
  refine we_block ?_
  refine ws fun K25 hK25 => ?_
  refine wr [(0, 0), (1, 0), (2, 1), (3, 2)] ?_
  rcases hx5 : ((l0.take i1).drop 0)[i2]? with _ | e2
  ·rw [hx5] at h; cases h
  rw [hx5] at h
  simp only [] at h
  refine gi 71 0 22 46 7 (((l0.take i1).drop 0).length) (c0 - 0) (.tmp 67) (.tmp 69) (subA A0 c0 0 7) .i64 (i2 : Int) i2 ((hS.rd (RdL.part hR0 hL0 0 i1)).eqSome (pos_of_get hx5)) rfl (lt_of_get hx5) ?_
  refine gb [1] [(72, .agg #[.string e2.Name, vI e2.C, vI e2.T, vI e2.D, vI e2.J, vI e2.O, vI e2.P])] [.loaded ⟨blkOf (subA A0 c0 0 7), offOf (subA A0 c0 0 7) + i2 * 7, none⟩ (.string e2.Name), .loaded ⟨blkOf (subA A0 c0 0 7), offOf (subA A0 c0 0 7) + i2 * 7 + 1, none⟩ (vI e2.C), .loaded ⟨blkOf (subA A0 c0 0 7), offOf (subA A0 c0 0 7) + i2 * 7 + 2, none⟩ (vI e2.T), .loaded ⟨blkOf (subA A0 c0 0 7), offOf (subA A0 c0 0 7) + i2 * 7 + 3, none⟩ (vI e2.D), .loaded ⟨blkOf (subA A0 c0 0 7), offOf (subA A0 c0 0 7) + i2 * 7 + 4, none⟩ (vI e2.J), .loaded ⟨blkOf (subA A0 c0 0 7), offOf (subA A0 c0 0 7) + i2 * 7 + 5, none⟩ (vI e2.O), .loaded ⟨blkOf (subA A0 c0 0 7), offOf (subA A0 c0 0 7) + i2 * 7 + 6, none⟩ (vI e2.P)] ⟨RdL.cell (j := 0) (hS.rd (RdL.part hR0 hL0 0 i1)) hx5 rfl, RdL.cell (j := 1) (hS.rd (RdL.part hR0 hL0 0 i1)) hx5 rfl, RdL.cell (j := 2) (hS.rd (RdL.part hR0 hL0 0 i1)) hx5 rfl, RdL.cell (j := 3) (hS.rd (RdL.part hR0 hL0 0 i1)) hx5 rfl, RdL.cell (j := 4) (hS.rd (RdL.part hR0 hL0 0 i1)) hx5 rfl, RdL.cell (j := 5) (hS.rd (RdL.part hR0 hL0 0 i1)) hx5 rfl, RdL.cell (j := 6) (hS.rd (RdL.part hR0 hL0 0 i1)) hx5 rfl, trivial⟩ ?_
  refine gw (some 8) (.cells #[.string (⟨#[]⟩), vI 0, vI 0, vI 0, vI 0, vI 0, vI 0] 46) (fun b => pP b 0) hS fun b4 w11 hx6 hS34 => ?_
  refine gs b4 0 #[.string (⟨#[]⟩), vI 0, vI 0, vI 0, vI 0, vI 0, vI 0] 46 [.string e2.Name, vI e2.C, vI e2.T, vI e2.D, vI e2.J, vI e2.O, vI e2.P] hS34 fun w12 hS35 => ?_
  have hS36 : St w0 w12 [Own.blk b4 (.cells #[.string e2.Name, vI e2.C, vI e2.T, vI e2.D, vI e2.J, vI e2.O, vI e2.P] 46 (0, 0)), Own.blk b2 (.cells #[.string e1.Name, vI e1.C, vI e1.T, vI e1.D, vI e1.J, vI e1.O, vI e1.P] 46 (0, 0)), Own.blk b1 (.cells #[vI 0, vI 0] 29 (0, 0))] := hS35
  refine gn hK25 ?_
  refine ws fun K26 hK26 => ?_
  refine wr [(0, 0), (1, 0), (2, 0), (3, 0), (4, 0)] ?_
  refine gb [0, 1, 2, 3, 4] [(77, .bool (e2.Name.toList == e1.Name.toList)), (76, .string e1.Name), (75, pP b2 0), (74, .string e2.Name), (73, pP b4 0)] [.loaded ⟨b4, 0, none⟩ (.string e2.Name), .loaded ⟨b2, 0, none⟩ (.string e1.Name)] ⟨hS36.c 0, hS36.c 1, trivial⟩ ?_
  refine gn hK26 ?_
  by_cases hc12 : e2.Name.toList = e1.Name.toList
  ·rw [if_pos hc12] at h
   refine wk 77 (e2.Name.toList == e1.Name.toList) true (beq_iff_eq.2 hc12) ?_
   refine we_true (by kernel_rfl) ?_
   refine ws fun K27 hK27 => ?_
   refine wr [(0, 0), (1, 1), (2, 2)] ?_
   refine gb0 [0] [(78, vI (i1 : Int))] ?_
   refine ge_call (d := some 79) (f := 39) (args := #[vI 5, vI (i1 : Int)]) (by kernel_rfl) (punctualref_F_ok 5 (i1 : Int) _ _ rfl) ?_
   rintro _ w13 ⟨rfl, hS37⟩
   refine ⟨_, rfl, hS37.below, ?_⟩
   have hS38 := hS36.call hS37
   have hS39 := hS38.bring 2 rfl
   refine gs b1 0 #[vI 0, vI 0] 29 [vI ((punctualref_F.f 5 (i1 : Int)).Code), vI ((punctualref_F.f 5 (i1 : Int)).At)] hS39 fun w14 hS40 => ?_
   have hS41 : St w0 w14 [Own.blk b1 (.cells #[vI ((punctualref_F.f 5 (i1 : Int)).Code), vI ((punctualref_F.f 5 (i1 : Int)).At)] 29 (0, 0)), Own.blk b4 (.cells #[.string e2.Name, vI e2.C, vI e2.T, vI e2.D, vI e2.J, vI e2.O, vI e2.P] 46 (0, 0)), Own.blk b2 (.cells #[.string e1.Name, vI e1.C, vI e1.T, vI e1.D, vI e1.J, vI e1.O, vI e1.P] 46 (0, 0))] := hS40
   refine gn hK27 ?_
   have hS42 := hS41.takeN 0
   obtain rfl := si h
   exact we_ret fun a hF => hQ _ _ _ (Outs.out nofun (Exits.on ⟨rfl, (pr [.cell 2 29] [.agg #[vI ((punctualref_F.f 5 (i1 : Int)).Code), vI ((punctualref_F.f 5 (i1 : Int)).At)]] [.loaded ⟨b1, 0, none⟩ (vI ((punctualref_F.f 5 (i1 : Int)).Code)), .loaded ⟨b1, 1, none⟩ (vI ((punctualref_F.f 5 (i1 : Int)).At))] ⟨hS41.c 0, hS41.c 0, trivial⟩ ⟨rfl, hS42⟩) a hF⟩))
  ·rw [if_neg hc12] at h
   refine wk 77 (e2.Name.toList == e1.Name.toList) false (beq_eq_false_iff_ne.2 hc12) ?_
   refine we_false (by kernel_rfl) ?_
   refine we_skip fun a hF => hK24 _ _ ?_ a hF
   refine wr [(0, 0), (1, 0)] ?_
   refine ge_addn (d := 80) (ty := 3) (x := (.tmp 69)) (y := (.const (vI 1))) (t := 3) (t2 := 3) (k := .i64) (m := i2) (by kernel_rfl) (by kernel_rfl) (by kernel_rfl) (by have h0 := hR0.small; have h1 : ((l0.take i1).drop 0).length ≤ l0.length := (by simp only [List.length_drop, List.length_take]; omega); omega) ?_
   refine gb0 [1] [(69, vI ((i2 + 1 : Nat) : Int))] ?_
   have hS43 := hS36.bring 2 rfl
   have hS44 := hS43.bring 2 rfl
   have hS45 := hS44.takeN 2
   obtain rfl := si h
   exact ge_nil fun a hF => hQ _ _ _ (Outs.again ⟨hS45, hF.weaken ea⟩)
 ·rw [if_neg hc11] at h
  refine wk 70 (decide ((i2 : Int) < (((l0.take i1).drop 0).length : Int))) false (decide_eq_false hc11) ?_
  refine we_false (by kernel_rfl) ?_
  have hS46 := hS.bring 1 rfl
  have hS47 := hS46.bring 1 rfl
  obtain rfl := si h
  exact we_exit fun a hF => hQ _ _ _ (Outs.out nofun (Exits.here ⟨hS47, hF.weaken ea⟩))
abbrev punctualref_CheckSet.A5 (w0 : World) (l0 : List STask) (A0 : Option Addr) (c0 : Nat) (b1 : Nat) (i1 : Nat) (e1 : STask) (b2 : Nat) (b5 : Nat) (b6 : Nat) : Nat → Act → World → Prop := fun (s : Nat) a w => St w0 w [Own.blk b6 (.cells #[vI 10000, vI 10000, vI 10000, vI 10000, vI 10000, vI 1000] 91 (0, 0)), Own.blk b5 (.cells #[vI 1, vI 1, vI 1, vI 0, vI 0, vI 0] 91 (0, 0)), Own.blk b2 (.cells #[.string e1.Name, vI e1.C, vI e1.T, vI e1.D, vI e1.J, vI e1.O, vI e1.P] 46 (0, 0)), Own.blk b1 (.cells #[vI 0, vI 0] 29 (0, 0))] ∧ Frm 113 a [(0, .slice A0 l0.length c0), (2, pP b1 0), (3, vI (i1 : Int)), (4, pP b2 0), (9, pP b5 0), (10, pP b6 0), (22, .slice A0 l0.length c0), (23, vI (l0.length : Int)), (24, vI (i1 : Int)), (84, .agg #[vI ((punctualref_sixOf.f e1).a0), vI ((punctualref_sixOf.f e1).a1), vI ((punctualref_sixOf.f e1).a2), vI ((punctualref_sixOf.f e1).a3), vI ((punctualref_sixOf.f e1).a4), vI ((punctualref_sixOf.f e1).a5)]), (85, vI (s : Int))]
abbrev punctualref_CheckSet.B5 (w0 : World) (l0 : List STask) (A0 : Option Addr) (c0 : Nat) (b1 : Nat) (i1 : Nat) (e1 : STask) (b2 : Nat) : (Unit ⊕ SFault) → Exit → Act → World → Prop := Exits 6 (fun (s : Unit) a w => St w0 w [Own.blk b2 (.cells #[.string e1.Name, vI e1.C, vI e1.T, vI e1.D, vI e1.J, vI e1.O, vI e1.P] 46 (0, 0)), Own.blk b1 (.cells #[vI 0, vI 0] 29 (0, 0))] ∧ Frm 113 a [(0, .slice A0 l0.length c0), (2, pP b1 0), (3, vI (i1 : Int)), (4, pP b2 0), (22, .slice A0 l0.length c0), (23, vI (l0.length : Int)), (24, vI (i1 : Int))]) (Rets Try.prog Try.f38 (punctualref_CheckSet.Post w0))
theorem punctualref_CheckSet_r5 (K : Nat) (w0 : World) (l0 : List STask) (A0 : Option Addr) (c0 : Nat) (hR0 : RdL w0 A0 l0) (hL0 : l0.length ≤ c0) (b1 : Nat) (i1 : Nat) (hc3 : (i1 : Int) < (l0.length : Int)) (e1 : STask) (hx2 : l0[i1]? = some e1) (b2 : Nat) (q2 : Bool) (q5 : Bool) (hc9 : q5 = true) (hc10 : i1 ≤ l0.length) (b5 : Nat) (b6 : Nat) (s : Nat) (o : Nat ⊕ (Unit ⊕ SFault)) (h : punctualref_CheckSet.r5 i1 e1 s = some o) (a : Act) (w : World) (hA : punctualref_CheckSet.A5 w0 l0 A0 c0 b1 i1 e1 b2 b5 b6 s a w) (Q : Exit → Act → World → Prop) (hQ : ∀ x a w, Outs (punctualref_CheckSet.A5 w0 l0 A0 c0 b1 i1 e1 b2 b5 b6) (punctualref_CheckSet.B5 w0 l0 A0 c0 b1 i1 e1 b2) o x a w → Q x a w) : (subF Try.f38 [1, 1, 0, 1, 0, 0, 1, 1, 0, 0, 1, 1, 1, 1, 1, 1, 0, 1, 0, 0]).wp Try.prog Q a w := by
 obtain ⟨i3, hs⟩ : ∃ z, z = s := ⟨s, rfl⟩
 subst hs
 obtain ⟨hS, hF⟩ := hA
 replace hS : St w0 w [Own.blk b6 (.cells #[vI 10000, vI 10000, vI 10000, vI 10000, vI 10000, vI 1000] 91 (0, 0)), Own.blk b5 (.cells #[vI 1, vI 1, vI 1, vI 0, vI 0, vI 0] 91 (0, 0)), Own.blk b2 (.cells #[.string e1.Name, vI e1.C, vI e1.T, vI e1.D, vI e1.J, vI e1.O, vI e1.P] 46 (0, 0)), Own.blk b1 (.cells #[vI 0, vI 0] 29 (0, 0))] := hS
 simp only [punctualref_CheckSet.r5] at h
 refine (?_ : WE Try.prog 113 (subF Try.f38 [1, 1, 0, 1, 0, 0, 1, 1, 0, 0, 1, 1, 1, 1, 1, 1, 0, 1, 0, 0]) Q [(0, .slice A0 l0.length c0), (2, pP b1 0), (3, vI (i1 : Int)), (4, pP b2 0), (9, pP b5 0), (10, pP b6 0), (22, .slice A0 l0.length c0), (23, vI (l0.length : Int)), (24, vI (i1 : Int)), (84, .agg #[vI ((punctualref_sixOf.f e1).a0), vI ((punctualref_sixOf.f e1).a1), vI ((punctualref_sixOf.f e1).a2), vI ((punctualref_sixOf.f e1).a3), vI ((punctualref_sixOf.f e1).a4), vI ((punctualref_sixOf.f e1).a5)]), (85, vI (i3 : Int))] w) a hF
 clear hF a
 refine ws fun K31 hK31 => ?_
 refine wr [(0, 0)] ?_
 refine gb0 [0] [(86, .bool (decide ((i3 : Int) < 6)))] ?_
 refine gn hK31 ?_
 refine ws fun K32 hK32 => ?_
 by_cases hc13 : (i3 : Int) < 6
 ·rw [if_pos hc13] at h
  refine wk 86 (decide ((i3 : Int) < 6)) true (decide_eq_true hc13) ?_
  refine we_true (by kernel_rfl) ?_
  refine we_skip fun a hF => hK32 _ _ ?_ a hF
  refine ws fun K33 hK33 => ?_
  refine we_block ?_
  refine ws fun K34 hK34 => ?_
  refine wr [(0, 0), (1, 0), (2, 0), (3, 0)] ?_
  refine gb0 [0] [(87, vI (i3 : Int))] ?_
  rcases hx9 : ([(punctualref_sixOf.f e1).a0, (punctualref_sixOf.f e1).a1, (punctualref_sixOf.f e1).a2, (punctualref_sixOf.f e1).a3, (punctualref_sixOf.f e1).a4, (punctualref_sixOf.f e1).a5] : List Int)[i3]? with _ | e3
  ·rw [hx9] at h; cases h
  rw [hx9] at h
  simp only [] at h
  refine ge_arr2 (α := Int) (d := 88) (ty := 3) (t := 91) (len := 6) (el := 3) (x := (.tmp 84)) (y := (.tmp 85)) (k' := .i64) (j := (i3 : Int)) (jn := i3) (l := ([(punctualref_sixOf.f e1).a0, (punctualref_sixOf.f e1).a1, (punctualref_sixOf.f e1).a2, (punctualref_sixOf.f e1).a3, (punctualref_sixOf.f e1).a4, (punctualref_sixOf.f e1).a5] : List Int)) (u := e3) (cs := #[vI ((punctualref_sixOf.f e1).a0), vI ((punctualref_sixOf.f e1).a1), vI ((punctualref_sixOf.f e1).a2), vI ((punctualref_sixOf.f e1).a3), vI ((punctualref_sixOf.f e1).a4), vI ((punctualref_sixOf.f e1).a5)]) (v := vI e3) (by kernel_rfl) (by kernel_rfl) rfl (by kernel_rfl) (by kernel_rfl) (by kernel_rfl) rfl rfl rfl hx9 rfl (fun w' => by kernel_rfl) ?_
  refine gb0 [2, 3] [(12, vI e3), (11, vI (i3 : Int))] ?_
  refine gn hK34 ?_
  refine ws fun K35 hK35 => ?_
  refine wr [(0, 0), (1, 0), (2, 0), (3, 0), (4, 0), (5, 0), (6, 0), (7, 0), (8, 0), (9, 0), (10, 0), (11, 0)] ?_
  refine gb0 [0, 1] [(90, vI (i3 : Int)), (89, vI e3)] ?_
  rcases hx10 : ([1, 1, 1, 0, 0, 0] : List Int)[i3]? with _ | e4
  ·rw [hx10] at h; cases h
  rw [hx10] at h
  simp only [] at h
  refine ge_arrAddr (d := 91) (ty := 0) (t := 91) (len := 6) (el := 3) (b := b5) (o0 := 0) (sz := 1) (x := (.tmp 9)) (y := (.tmp 90)) (k' := .i64) (j := (i3 : Int)) (jn := i3) (by kernel_rfl) (by kernel_rfl) (by kernel_rfl) (by kernel_rfl) (by kernel_rfl) rfl (lt_of_get hx10) ?_
  refine gb [3, 4, 5] [(94, .bool (decide (e3 < e4))), (93, .bool (decide (e3 < e4))), (92, vI e4)] [.loaded ⟨b5, 0 + i3 * 1, none⟩ (vI e4)] ⟨hS.cellA 1 (pre := []) (post := []) (l := ([1, 1, 1, 0, 0, 0] : List Int)) rfl rfl rfl hx10 rfl rfl, trivial⟩ ?_
  by_cases hc14 : e3 < e4
  ·rw [if_pos hc14] at h
   refine gk 94 (decide (e3 < e4)) true (decide_eq_true hc14) ?_
   refine gb0 [6, 7, 8, 9, 10, 11] [(100, .bool true), (99, undef), (98, undef), (97, undef), (96, undef), (95, undef)] ?_
   refine gn hK35 ?_
   refine we_true (by kernel_rfl) ?_
   refine ws fun K36 hK36 => ?_
   refine wr [(0, 0), (1, 1), (2, 2)] ?_
   refine gb0 [0] [(101, vI (i1 : Int))] ?_
   refine ge_call (d := some 102) (f := 39) (args := #[vI 3, vI (i1 : Int)]) (by kernel_rfl) (punctualref_F_ok 3 (i1 : Int) _ _ rfl) ?_
   rintro _ w21 ⟨rfl, hS63⟩
   refine ⟨_, rfl, hS63.below, ?_⟩
   have hS64 := hS.call hS63
   have hS65 := hS64.bring 3 rfl
   refine gs b1 0 #[vI 0, vI 0] 29 [vI ((punctualref_F.f 3 (i1 : Int)).Code), vI ((punctualref_F.f 3 (i1 : Int)).At)] hS65 fun w22 hS66 => ?_
   have hS67 : St w0 w22 [Own.blk b1 (.cells #[vI ((punctualref_F.f 3 (i1 : Int)).Code), vI ((punctualref_F.f 3 (i1 : Int)).At)] 29 (0, 0)), Own.blk b6 (.cells #[vI 10000, vI 10000, vI 10000, vI 10000, vI 10000, vI 1000] 91 (0, 0)), Own.blk b5 (.cells #[vI 1, vI 1, vI 1, vI 0, vI 0, vI 0] 91 (0, 0)), Own.blk b2 (.cells #[.string e1.Name, vI e1.C, vI e1.T, vI e1.D, vI e1.J, vI e1.O, vI e1.P] 46 (0, 0))] := hS66
   refine gn hK36 ?_
   have hS68 := hS67.takeN 0
   obtain rfl := si h
   exact we_ret fun a hF => hQ _ _ _ (Outs.out nofun (Exits.on ⟨rfl, (pr [.cell 2 29] [.agg #[vI ((punctualref_F.f 3 (i1 : Int)).Code), vI ((punctualref_F.f 3 (i1 : Int)).At)]] [.loaded ⟨b1, 0, none⟩ (vI ((punctualref_F.f 3 (i1 : Int)).Code)), .loaded ⟨b1, 1, none⟩ (vI ((punctualref_F.f 3 (i1 : Int)).At))] ⟨hS67.c 0, hS67.c 0, trivial⟩ ⟨rfl, hS68⟩) a hF⟩))
  ·rw [if_neg hc14] at h
   refine gk 94 (decide (e3 < e4)) false (decide_eq_false hc14) ?_
   refine gb0 [6, 7] [(96, vI (i3 : Int)), (95, vI e3)] ?_
   rcases hx11 : ([10000, 10000, 10000, 10000, 10000, 1000] : List Int)[i3]? with _ | e5
   ·rw [hx11] at h; cases h
   rw [hx11] at h
   simp only [] at h
   refine ge_arrAddr (d := 97) (ty := 0) (t := 91) (len := 6) (el := 3) (b := b6) (o0 := 0) (sz := 1) (x := (.tmp 10)) (y := (.tmp 96)) (k' := .i64) (j := (i3 : Int)) (jn := i3) (by kernel_rfl) (by kernel_rfl) (by kernel_rfl) (by kernel_rfl) (by kernel_rfl) rfl (lt_of_get hx11) ?_
   refine gb [9, 10, 11] [(100, .bool (decide (e3 > e5))), (99, .bool (decide (e3 > e5))), (98, vI e5)] [.loaded ⟨b6, 0 + i3 * 1, none⟩ (vI e5)] ⟨hS.cellA 0 (pre := []) (post := []) (l := ([10000, 10000, 10000, 10000, 10000, 1000] : List Int)) rfl rfl rfl hx11 rfl rfl, trivial⟩ ?_
   refine gn hK35 ?_
   by_cases hc15 : e3 > e5
   ·rw [if_pos hc15] at h
    refine wk 100 (decide (e3 > e5)) true (decide_eq_true hc15) ?_
    refine we_true (by kernel_rfl) ?_
    refine ws fun K37 hK37 => ?_
    refine wr [(0, 0), (1, 1), (2, 2)] ?_
    refine gb0 [0] [(101, vI (i1 : Int))] ?_
    refine ge_call (d := some 102) (f := 39) (args := #[vI 3, vI (i1 : Int)]) (by kernel_rfl) (punctualref_F_ok 3 (i1 : Int) _ _ rfl) ?_
    rintro _ w23 ⟨rfl, hS69⟩
    refine ⟨_, rfl, hS69.below, ?_⟩
    have hS70 := hS.call hS69
    have hS71 := hS70.bring 3 rfl
    refine gs b1 0 #[vI 0, vI 0] 29 [vI ((punctualref_F.f 3 (i1 : Int)).Code), vI ((punctualref_F.f 3 (i1 : Int)).At)] hS71 fun w24 hS72 => ?_
    have hS73 : St w0 w24 [Own.blk b1 (.cells #[vI ((punctualref_F.f 3 (i1 : Int)).Code), vI ((punctualref_F.f 3 (i1 : Int)).At)] 29 (0, 0)), Own.blk b6 (.cells #[vI 10000, vI 10000, vI 10000, vI 10000, vI 10000, vI 1000] 91 (0, 0)), Own.blk b5 (.cells #[vI 1, vI 1, vI 1, vI 0, vI 0, vI 0] 91 (0, 0)), Own.blk b2 (.cells #[.string e1.Name, vI e1.C, vI e1.T, vI e1.D, vI e1.J, vI e1.O, vI e1.P] 46 (0, 0))] := hS72
    refine gn hK37 ?_
    have hS74 := hS73.takeN 0
    obtain rfl := si h
    exact we_ret fun a hF => hQ _ _ _ (Outs.out nofun (Exits.on ⟨rfl, (pr [.cell 2 29] [.agg #[vI ((punctualref_F.f 3 (i1 : Int)).Code), vI ((punctualref_F.f 3 (i1 : Int)).At)]] [.loaded ⟨b1, 0, none⟩ (vI ((punctualref_F.f 3 (i1 : Int)).Code)), .loaded ⟨b1, 1, none⟩ (vI ((punctualref_F.f 3 (i1 : Int)).At))] ⟨hS73.c 0, hS73.c 0, trivial⟩ ⟨rfl, hS74⟩) a hF⟩))
   ·rw [if_neg hc15] at h
    refine wk 100 (decide (e3 > e5)) false (decide_eq_false hc15) ?_
    refine we_false (by kernel_rfl) ?_
    refine we_skip fun a hF => hK33 _ _ ?_ a hF
    refine wr [(0, 0), (1, 0)] ?_
    refine ge_addn (d := 103) (ty := 3) (x := (.tmp 85)) (y := (.const (vI 1))) (t := 3) (t2 := 3) (k := .i64) (m := i3) (by kernel_rfl) (by kernel_rfl) (by kernel_rfl) (by omega) ?_
    refine gb0 [1] [(85, vI ((i3 + 1 : Nat) : Int))] ?_
    have hS75 := hS.bring 3 rfl
    have hS76 := hS75.bring 3 rfl
    have hS77 := hS76.bring 3 rfl
    have hS78 := hS77.bring 3 rfl
    obtain rfl := si h
    exact ge_nil fun a hF => hQ _ _ _ (Outs.again ⟨hS78, hF.weaken ea⟩)
 ·rw [if_neg hc13] at h
  refine wk 86 (decide ((i3 : Int) < 6)) false (decide_eq_false hc13) ?_
  refine we_false (by kernel_rfl) ?_
  have hS79 := hS.bring 3 rfl
  have hS80 := hS79.bring 3 rfl
  have hS81 := hS80.takeN 2
  obtain rfl := si h
  exact we_exit fun a hF => hQ _ _ _ (Outs.out nofun (Exits.here ⟨hS81, hF.weaken ea⟩))
abbrev punctualref_CheckSet.A1 (w0 : World) (l0 : List STask) (A0 : Option Addr) (c0 : Nat) (b1 : Nat) : Nat → Act → World → Prop := fun (s : Nat) a w => St w0 w [Own.blk b1 (.cells #[vI 0, vI 0] 29 (0, 0))] ∧ Frm 113 a [(0, .slice A0 l0.length c0), (2, pP b1 0), (22, .slice A0 l0.length c0), (23, vI (l0.length : Int)), (24, vI (s : Int))]
abbrev punctualref_CheckSet.B1 (w0 : World) (b1 : Nat) : (Unit ⊕ SFault) → Exit → Act → World → Prop := Exits 0 (fun (s : Unit) a w => St w0 w [Own.blk b1 (.cells #[vI 0, vI 0] 29 (0, 0))] ∧ Frm 113 a [(2, pP b1 0)]) (Rets Try.prog Try.f38 (punctualref_CheckSet.Post w0))
theorem punctualref_CheckSet_r1 (K : Nat) (w0 : World) (l0 : List STask) (A0 : Option Addr) (c0 : Nat) (hR0 : RdL w0 A0 l0) (hL0 : l0.length ≤ c0) (b1 : Nat) (s : Nat) (o : Nat ⊕ (Unit ⊕ SFault)) (h : punctualref_CheckSet.r1 K l0 s = some o) (a : Act) (w : World) (hA : punctualref_CheckSet.A1 w0 l0 A0 c0 b1 s a w) (Q : Exit → Act → World → Prop) (hQ : ∀ x a w, Outs (punctualref_CheckSet.A1 w0 l0 A0 c0 b1) (punctualref_CheckSet.B1 w0 b1) o x a w → Q x a w) : (subF Try.f38 [1, 1, 0, 1, 0, 0]).wp Try.prog Q a w := by
 obtain ⟨i1, hs⟩ : ∃ z, z = s := ⟨s, rfl⟩
 subst hs
 obtain ⟨hS, hF⟩ := hA
 replace hS : St w0 w [Own.blk b1 (.cells #[vI 0, vI 0] 29 (0, 0))] := hS
 simp only [punctualref_CheckSet.r1] at h
 refine (?_ : WE Try.prog 113 (subF Try.f38 [1, 1, 0, 1, 0, 0]) Q [(0, .slice A0 l0.length c0), (2, pP b1 0), (22, .slice A0 l0.length c0), (23, vI (l0.length : Int)), (24, vI (i1 : Int))] w) a hF
 clear hF a
 refine ws fun K8 hK8 => ?_
 refine wr [(0, 0)] ?_
 refine gb0 [0] [(25, .bool (decide ((i1 : Int) < (l0.length : Int))))] ?_
 refine gn hK8 ?_
 refine ws fun K9 hK9 => ?_
 by_cases hc3 : (i1 : Int) < (l0.length : Int)
 ·rw [if_pos hc3] at h
  refine wk 25 (decide ((i1 : Int) < (l0.length : Int))) true (decide_eq_true hc3) ?_
  refine we_true (by kernel_rfl) ?_
  refine we_skip fun a hF => hK9 _ _ ?_ a hF
  refine ws fun K10 hK10 => ?_
  refine we_block ?_
  refine ws fun K11 hK11 => ?_
  refine wr [(0, 0), (1, 0), (2, 0), (3, 1), (4, 0), (5, 2)] ?_
  refine gb0 [0] [(26, vI (i1 : Int))] ?_
  rcases hx2 : l0[i1]? with _ | e1
  ·rw [hx2] at h; cases h
  rw [hx2] at h
  simp only [] at h
  refine gi 27 0 22 46 7 l0.length c0 (.tmp 22) (.tmp 24) A0 .i64 (i1 : Int) i1 ((hS.rd hR0).eqSome (pos_of_get hx2)) rfl (lt_of_get hx2) ?_
  refine gb [2] [(28, .agg #[.string e1.Name, vI e1.C, vI e1.T, vI e1.D, vI e1.J, vI e1.O, vI e1.P])] [.loaded ⟨blkOf A0, offOf A0 + i1 * 7, none⟩ (.string e1.Name), .loaded ⟨blkOf A0, offOf A0 + i1 * 7 + 1, none⟩ (vI e1.C), .loaded ⟨blkOf A0, offOf A0 + i1 * 7 + 2, none⟩ (vI e1.T), .loaded ⟨blkOf A0, offOf A0 + i1 * 7 + 3, none⟩ (vI e1.D), .loaded ⟨blkOf A0, offOf A0 + i1 * 7 + 4, none⟩ (vI e1.J), .loaded ⟨blkOf A0, offOf A0 + i1 * 7 + 5, none⟩ (vI e1.O), .loaded ⟨blkOf A0, offOf A0 + i1 * 7 + 6, none⟩ (vI e1.P)] ⟨RdL.cell (j := 0) (hS.rd hR0) hx2 rfl, RdL.cell (j := 1) (hS.rd hR0) hx2 rfl, RdL.cell (j := 2) (hS.rd hR0) hx2 rfl, RdL.cell (j := 3) (hS.rd hR0) hx2 rfl, RdL.cell (j := 4) (hS.rd hR0) hx2 rfl, RdL.cell (j := 5) (hS.rd hR0) hx2 rfl, RdL.cell (j := 6) (hS.rd hR0) hx2 rfl, trivial⟩ ?_
  refine gw (some 4) (.cells #[.string (⟨#[]⟩), vI 0, vI 0, vI 0, vI 0, vI 0, vI 0] 46) (fun b => pP b 0) hS fun b2 w7 hx3 hS13 => ?_
  refine gb0 [4] [(3, vI (i1 : Int))] ?_
  refine gs b2 0 #[.string (⟨#[]⟩), vI 0, vI 0, vI 0, vI 0, vI 0, vI 0] 46 [.string e1.Name, vI e1.C, vI e1.T, vI e1.D, vI e1.J, vI e1.O, vI e1.P] hS13 fun w8 hS14 => ?_
  have hS15 : St w0 w8 [Own.blk b2 (.cells #[.string e1.Name, vI e1.C, vI e1.T, vI e1.D, vI e1.J, vI e1.O, vI e1.P] 46 (0, 0)), Own.blk b1 (.cells #[vI 0, vI 0] 29 (0, 0))] := hS14
  refine gn hK11 ?_
  refine ws fun K12 hK12 => ?_
  rcases hq4 : punctualref_CheckSet.p2 e1 with _ | (q2 | rr4)
  ·rw [hq4] at h; cases h
  ·rw [hq4] at h
   simp only [] at h
   refine we_keep (e' := [(0, .slice A0 l0.length c0), (2, pP b1 0), (3, vI (i1 : Int)), (4, pP b2 0), (22, .slice A0 l0.length c0), (23, vI (l0.length : Int)), (24, vI (i1 : Int)), (25, .bool true), (26, vI (i1 : Int)), (27, .pointer (some ⟨blkOf A0, offOf A0 + i1 * 7, none⟩)), (28, .agg #[.string e1.Name, vI e1.C, vI e1.T, vI e1.D, vI e1.J, vI e1.O, vI e1.P])]) ea (punctualref_CheckSet_p2 K w0 l0 A0 c0 hR0 hL0 b1 i1 hc3 e1 hx2 b2 _ hq4 _ hS15 _ ?_)
   rintro _ a w9 ⟨rfl, hS20, hF⟩
   replace hS20 : St w0 w9 [Own.blk b2 (.cells #[.string e1.Name, vI e1.C, vI e1.T, vI e1.D, vI e1.J, vI e1.O, vI e1.P] 46 (0, 0)), Own.blk b1 (.cells #[vI 0, vI 0] 29 (0, 0))] := hS20
   refine hK12 [(0, .slice A0 l0.length c0), (2, pP b1 0), (3, vI (i1 : Int)), (4, pP b2 0), (5, .bool q2), (22, .slice A0 l0.length c0), (23, vI (l0.length : Int)), (24, vI (i1 : Int))] w9 ?_ a hF
   refine ws fun K13 hK13 => ?_
   refine ws fun K14 hK14 => ?_
   refine wr [(0, 0)] ?_
   refine gb0 [0] [(6, vI 0)] ?_
   refine gn hK14 ?_
   refine we_block ?_
   have hS21 := hS20.bring 1 rfl
   have hS22 := hS21.bring 1 rfl
   rcases hq5 : iter (punctualref_CheckSet.r3 e1) K (q2, 0) with _ | (q5 | rr3)
   ·rw [hq5] at h; cases h
   ·rw [hq5] at h
    simp only [] at h
    refine we_iter (A := punctualref_CheckSet.A3 w0 l0 A0 c0 b1 i1 e1 b2) (B := punctualref_CheckSet.B3 w0 l0 A0 c0 b1 i1 e1 b2) hq5 (fun a hF => ⟨hS22, hF.weaken ea⟩) (fun s o hf a w hA Q hQ => punctualref_CheckSet_r3 K w0 l0 A0 c0 hR0 hL0 b1 i1 hc3 e1 hx2 b2 q2 s o hf a w hA Q hQ) ?_
    rintro _ a w10 _ ⟨rfl, hS31, hF⟩
    replace hS31 : St w0 w10 [Own.blk b2 (.cells #[.string e1.Name, vI e1.C, vI e1.T, vI e1.D, vI e1.J, vI e1.O, vI e1.P] 46 (0, 0)), Own.blk b1 (.cells #[vI 0, vI 0] 29 (0, 0))] := hS31
    refine hK13 [(0, .slice A0 l0.length c0), (2, pP b1 0), (3, vI (i1 : Int)), (4, pP b2 0), (5, .bool q5), (22, .slice A0 l0.length c0), (23, vI (l0.length : Int)), (24, vI (i1 : Int))] w10 ?_ a hF
    refine ws fun K18 hK18 => ?_
    refine ws fun K19 hK19 => ?_
    refine wr [(0, 0), (1, 0)] ?_
    refine gb0 [0, 1] [(62, .bool (!q5)), (61, .bool q5)] ?_
    refine gn hK19 ?_
    by_cases hc9 : q5 = true
    ·rw [if_pos hc9] at h
     refine wk 62 (!q5) false (congrArg (fun z => !z) hc9) ?_
     refine we_false (by kernel_rfl) ?_
     refine we_skip fun a hF => hK18 _ _ ?_ a hF
     refine ws fun K20 hK20 => ?_
     refine ws fun K21 hK21 => ?_
     refine wr [(0, 0), (1, 0), (2, 0), (3, 0), (4, 0)] ?_
     refine gb0 [0, 1] [(66, vI (i1 : Int)), (65, .slice A0 l0.length c0)] ?_
     by_cases hc10 : i1 ≤ l0.length
     ·rw [if_pos hc10] at h
      refine ge_part (d := 67) (ty := 22) (t := 22) (el := 46) (sz := 7) (m := l0.length) (c := c0) (lo := 0) (hi := i1) (x := (.tmp 65)) (xl := none) (xh := some (.tmp 66)) (A := A0) (by kernel_rfl) (by kernel_rfl) rfl ⟨.i64, (i1 : Int), by kernel_rfl, rfl⟩ (by kernel_rfl) (by kernel_rfl) (by have f0 := hc10; have f1 := hL0; omega) (by have f0 := hc10; have f1 := hL0; omega) ?_
      refine ge_same (t := 67) (v := .slice (subA A0 c0 0 7) (i1 - 0) (c0 - 0)) (v' := .slice (subA A0 c0 0 7) (((l0.take i1).drop 0).length) (c0 - 0)) (by kernel_rfl) (by have f0 := hc10; have f1 := hL0; rw [show i1 - 0 = ((l0.take i1).drop 0).length by simp only [List.length_drop, List.length_take]; omega]) ?_
      refine gb0 [3, 4] [(69, vI 0), (68, vI (((l0.take i1).drop 0).length : Int))] ?_
      refine gn hK21 ?_
      refine we_block ?_
      have hS32 := hS31.bring 1 rfl
      have hS33 := hS32.bring 1 rfl
      rcases hq7 : iter (punctualref_CheckSet.r4 l0 i1 e1) K 0 with _ | (_ | rr2)
      ·rw [hq7] at h; cases h
      ·rw [hq7] at h
       simp only [] at h
       refine we_iter (A := punctualref_CheckSet.A4 w0 l0 A0 c0 b1 i1 e1 b2) (B := punctualref_CheckSet.B4 w0 l0 A0 c0 b1 i1 e1 b2) hq7 (fun a hF => ⟨hS33, hF.weaken ea⟩) (fun s o hf a w hA Q hQ => punctualref_CheckSet_r4 K w0 l0 A0 c0 hR0 hL0 b1 i1 hc3 e1 hx2 b2 q2 q5 hc9 hc10 s o hf a w hA Q hQ) ?_
       rintro _ a w15 _ ⟨rfl, hS48, hF⟩
       replace hS48 : St w0 w15 [Own.blk b2 (.cells #[.string e1.Name, vI e1.C, vI e1.T, vI e1.D, vI e1.J, vI e1.O, vI e1.P] 46 (0, 0)), Own.blk b1 (.cells #[vI 0, vI 0] 29 (0, 0))] := hS48
       refine hK20 [(0, .slice A0 l0.length c0), (2, pP b1 0), (3, vI (i1 : Int)), (4, pP b2 0), (22, .slice A0 l0.length c0), (23, vI (l0.length : Int)), (24, vI (i1 : Int))] w15 ?_ a hF
       refine ws fun K28 hK28 => ?_
       refine wr [(0, 0), (1, 0), (2, 1), (3, 1), (4, 2), (5, 2)] ?_
       refine gb0 [0, 1] [(82, .agg #[vI 10000, vI 10000, vI 10000, vI 10000, vI 10000, vI 1000]), (81, .agg #[vI 1, vI 1, vI 1, vI 0, vI 0, vI 0])] ?_
       refine gw (some 9) (.cells #[vI 0, vI 0, vI 0, vI 0, vI 0, vI 0] 91) (fun b => pP b 0) hS48 fun b5 w16 hx7 hS49 => ?_
       refine gw (some 10) (.cells #[vI 0, vI 0, vI 0, vI 0, vI 0, vI 0] 91) (fun b => pP b 0) hS49 fun b6 w17 hx8 hS50 => ?_
       have hS51 := hS50.bring 1 rfl
       refine gs b5 0 #[vI 0, vI 0, vI 0, vI 0, vI 0, vI 0] 91 [vI 1, vI 1, vI 1, vI 0, vI 0, vI 0] hS51 fun w18 hS52 => ?_
       have hS53 : St w0 w18 [Own.blk b5 (.cells #[vI 1, vI 1, vI 1, vI 0, vI 0, vI 0] 91 (0, 0)), Own.blk b6 (.cells #[vI 0, vI 0, vI 0, vI 0, vI 0, vI 0] 91 (0, 0)), Own.blk b2 (.cells #[.string e1.Name, vI e1.C, vI e1.T, vI e1.D, vI e1.J, vI e1.O, vI e1.P] 46 (0, 0)), Own.blk b1 (.cells #[vI 0, vI 0] 29 (0, 0))] := hS52
       have hS54 := hS53.bring 1 rfl
       refine gs b6 0 #[vI 0, vI 0, vI 0, vI 0, vI 0, vI 0] 91 [vI 10000, vI 10000, vI 10000, vI 10000, vI 10000, vI 1000] hS54 fun w19 hS55 => ?_
       have hS56 : St w0 w19 [Own.blk b6 (.cells #[vI 10000, vI 10000, vI 10000, vI 10000, vI 10000, vI 1000] 91 (0, 0)), Own.blk b5 (.cells #[vI 1, vI 1, vI 1, vI 0, vI 0, vI 0] 91 (0, 0)), Own.blk b2 (.cells #[.string e1.Name, vI e1.C, vI e1.T, vI e1.D, vI e1.J, vI e1.O, vI e1.P] 46 (0, 0)), Own.blk b1 (.cells #[vI 0, vI 0] 29 (0, 0))] := hS55
       refine gn hK28 ?_
       refine ws fun K29 hK29 => ?_
       refine ws fun K30 hK30 => ?_
       refine wr [(0, 0), (1, 1), (2, 0)] ?_
       refine gb [0] [(83, .agg #[.string e1.Name, vI e1.C, vI e1.T, vI e1.D, vI e1.J, vI e1.O, vI e1.P])] [.loaded ⟨b2, 0, none⟩ (.string e1.Name), .loaded ⟨b2, 1, none⟩ (vI e1.C), .loaded ⟨b2, 2, none⟩ (vI e1.T), .loaded ⟨b2, 3, none⟩ (vI e1.D), .loaded ⟨b2, 4, none⟩ (vI e1.J), .loaded ⟨b2, 5, none⟩ (vI e1.O), .loaded ⟨b2, 6, none⟩ (vI e1.P)] ⟨hS56.c 2, hS56.c 2, hS56.c 2, hS56.c 2, hS56.c 2, hS56.c 2, hS56.c 2, trivial⟩ ?_
       refine ge_call (d := some 84) (f := 60) (args := #[.agg #[.string e1.Name, vI e1.C, vI e1.T, vI e1.D, vI e1.J, vI e1.O, vI e1.P]]) (by kernel_rfl) (punctualref_sixOf_ok e1 _ _ rfl) ?_
       rintro _ w20 ⟨rfl, hS57⟩
       refine ⟨_, rfl, hS57.below, ?_⟩
       have hS58 := hS56.call hS57
       refine gb0 [2] [(85, vI 0)] ?_
       refine gn hK30 ?_
       refine we_block ?_
       have hS59 := hS58.bring 3 rfl
       have hS60 := hS59.bring 3 rfl
       have hS61 := hS60.bring 3 rfl
       have hS62 := hS61.bring 3 rfl
       rcases hq11 : iter (punctualref_CheckSet.r5 i1 e1) K 0 with _ | (_ | rr1)
       ·rw [hq11] at h; cases h
       ·rw [hq11] at h
        simp only [] at h
        refine we_iter (A := punctualref_CheckSet.A5 w0 l0 A0 c0 b1 i1 e1 b2 b5 b6) (B := punctualref_CheckSet.B5 w0 l0 A0 c0 b1 i1 e1 b2) hq11 (fun a hF => ⟨hS62, hF.weaken ea⟩) (fun s o hf a w hA Q hQ => punctualref_CheckSet_r5 K w0 l0 A0 c0 hR0 hL0 b1 i1 hc3 e1 hx2 b2 q2 q5 hc9 hc10 b5 b6 s o hf a w hA Q hQ) ?_
        rintro _ a w25 _ ⟨rfl, hS82, hF⟩
        replace hS82 : St w0 w25 [Own.blk b2 (.cells #[.string e1.Name, vI e1.C, vI e1.T, vI e1.D, vI e1.J, vI e1.O, vI e1.P] 46 (0, 0)), Own.blk b1 (.cells #[vI 0, vI 0] 29 (0, 0))] := hS82
        refine hK29 [(0, .slice A0 l0.length c0), (2, pP b1 0), (3, vI (i1 : Int)), (4, pP b2 0), (22, .slice A0 l0.length c0), (23, vI (l0.length : Int)), (24, vI (i1 : Int))] w25 ?_ a hF
        refine ws fun K38 hK38 => ?_
        refine wr [(0, 0), (1, 0), (2, 0), (3, 0), (4, 0)] ?_
        refine gb [0, 1, 2, 3, 4] [(108, .bool (decide (e1.D < e1.C))), (107, vI e1.C), (106, pP b2 1), (105, vI e1.D), (104, pP b2 3)] [.loaded ⟨b2, 3, none⟩ (vI e1.D), .loaded ⟨b2, 1, none⟩ (vI e1.C)] ⟨hS82.c 0, hS82.c 0, trivial⟩ ?_
        refine gn hK38 ?_
        by_cases hc16 : e1.D < e1.C
        ·rw [if_pos hc16] at h
         refine wk 108 (decide (e1.D < e1.C)) true (decide_eq_true hc16) ?_
         refine we_true (by kernel_rfl) ?_
         refine ws fun K39 hK39 => ?_
         refine wr [(0, 0), (1, 1), (2, 2)] ?_
         refine gb0 [0] [(109, vI (i1 : Int))] ?_
         refine ge_call (d := some 110) (f := 39) (args := #[vI 12, vI (i1 : Int)]) (by kernel_rfl) (punctualref_F_ok 12 (i1 : Int) _ _ rfl) ?_
         rintro _ w26 ⟨rfl, hS83⟩
         refine ⟨_, rfl, hS83.below, ?_⟩
         have hS84 := hS82.call hS83
         have hS85 := hS84.bring 1 rfl
         refine gs b1 0 #[vI 0, vI 0] 29 [vI ((punctualref_F.f 12 (i1 : Int)).Code), vI ((punctualref_F.f 12 (i1 : Int)).At)] hS85 fun w27 hS86 => ?_
         have hS87 : St w0 w27 [Own.blk b1 (.cells #[vI ((punctualref_F.f 12 (i1 : Int)).Code), vI ((punctualref_F.f 12 (i1 : Int)).At)] 29 (0, 0)), Own.blk b2 (.cells #[.string e1.Name, vI e1.C, vI e1.T, vI e1.D, vI e1.J, vI e1.O, vI e1.P] 46 (0, 0))] := hS86
         refine gn hK39 ?_
         have hS88 := hS87.takeN 0
         obtain rfl := si h
         exact we_ret fun a hF => hQ _ _ _ (Outs.out nofun (Exits.on ⟨rfl, (pr [.cell 2 29] [.agg #[vI ((punctualref_F.f 12 (i1 : Int)).Code), vI ((punctualref_F.f 12 (i1 : Int)).At)]] [.loaded ⟨b1, 0, none⟩ (vI ((punctualref_F.f 12 (i1 : Int)).Code)), .loaded ⟨b1, 1, none⟩ (vI ((punctualref_F.f 12 (i1 : Int)).At))] ⟨hS87.c 0, hS87.c 0, trivial⟩ ⟨rfl, hS88⟩) a hF⟩))
        ·rw [if_neg hc16] at h
         refine wk 108 (decide (e1.D < e1.C)) false (decide_eq_false hc16) ?_
         refine we_false (by kernel_rfl) ?_
         refine we_skip fun a hF => hK10 _ _ ?_ a hF
         refine wr [(0, 0), (1, 0)] ?_
         refine ge_addn (d := 111) (ty := 3) (x := (.tmp 24)) (y := (.const (vI 1))) (t := 3) (t2 := 3) (k := .i64) (m := i1) (by kernel_rfl) (by kernel_rfl) (by kernel_rfl) (by have h0 := hR0.small; omega) ?_
         refine gb0 [1] [(24, vI ((i1 + 1 : Nat) : Int))] ?_
         have hS89 := hS82.bring 1 rfl
         have hS90 := hS89.takeN 1
         obtain rfl := si h
         exact ge_nil fun a hF => hQ _ _ _ (Outs.again ⟨hS90, hF.weaken ea⟩)
       ·rw [hq11] at h
        simp only [] at h
        refine we_iter (A := punctualref_CheckSet.A5 w0 l0 A0 c0 b1 i1 e1 b2 b5 b6) (B := punctualref_CheckSet.B5 w0 l0 A0 c0 b1 i1 e1 b2) hq11 (fun a hF => ⟨hS62, hF.weaken ea⟩) (fun s o hf a w hA Q hQ => punctualref_CheckSet_r5 K w0 l0 A0 c0 hR0 hL0 b1 i1 hc3 e1 hx2 b2 q2 q5 hc9 hc10 b5 b6 s o hf a w hA Q hQ) ?_
        rintro _ a w1 _ ⟨rfl, hb⟩
        obtain rfl := si h
        exact hQ _ _ _ (Outs.out nofun (Exits.on ⟨rfl, hb⟩))
      ·rw [hq7] at h
       simp only [] at h
       refine we_iter (A := punctualref_CheckSet.A4 w0 l0 A0 c0 b1 i1 e1 b2) (B := punctualref_CheckSet.B4 w0 l0 A0 c0 b1 i1 e1 b2) hq7 (fun a hF => ⟨hS33, hF.weaken ea⟩) (fun s o hf a w hA Q hQ => punctualref_CheckSet_r4 K w0 l0 A0 c0 hR0 hL0 b1 i1 hc3 e1 hx2 b2 q2 q5 hc9 hc10 s o hf a w hA Q hQ) ?_
       rintro _ a w1 _ ⟨rfl, hb⟩
       obtain rfl := si h
       exact hQ _ _ _ (Outs.out nofun (Exits.on ⟨rfl, hb⟩))
     ·rw [if_neg hc10] at h
      cases h
    ·rw [if_neg hc9] at h
     refine wk 62 (!q5) true (congrArg (fun z => !z) (Bool.eq_false_iff.2 hc9)) ?_
     refine we_true (by kernel_rfl) ?_
     refine ws fun K40 hK40 => ?_
     refine wr [(0, 0), (1, 1), (2, 2)] ?_
     refine gb0 [0] [(63, vI (i1 : Int))] ?_
     refine ge_call (d := some 64) (f := 39) (args := #[vI 4, vI (i1 : Int)]) (by kernel_rfl) (punctualref_F_ok 4 (i1 : Int) _ _ rfl) ?_
     rintro _ w28 ⟨rfl, hS91⟩
     refine ⟨_, rfl, hS91.below, ?_⟩
     have hS92 := hS31.call hS91
     have hS93 := hS92.bring 1 rfl
     refine gs b1 0 #[vI 0, vI 0] 29 [vI ((punctualref_F.f 4 (i1 : Int)).Code), vI ((punctualref_F.f 4 (i1 : Int)).At)] hS93 fun w29 hS94 => ?_
     have hS95 : St w0 w29 [Own.blk b1 (.cells #[vI ((punctualref_F.f 4 (i1 : Int)).Code), vI ((punctualref_F.f 4 (i1 : Int)).At)] 29 (0, 0)), Own.blk b2 (.cells #[.string e1.Name, vI e1.C, vI e1.T, vI e1.D, vI e1.J, vI e1.O, vI e1.P] 46 (0, 0))] := hS94
     refine gn hK40 ?_
     have hS96 := hS95.takeN 0
     obtain rfl := si h
     exact we_ret fun a hF => hQ _ _ _ (Outs.out nofun (Exits.on ⟨rfl, (pr [.cell 2 29] [.agg #[vI ((punctualref_F.f 4 (i1 : Int)).Code), vI ((punctualref_F.f 4 (i1 : Int)).At)]] [.loaded ⟨b1, 0, none⟩ (vI ((punctualref_F.f 4 (i1 : Int)).Code)), .loaded ⟨b1, 1, none⟩ (vI ((punctualref_F.f 4 (i1 : Int)).At))] ⟨hS95.c 0, hS95.c 0, trivial⟩ ⟨rfl, hS96⟩) a hF⟩))
   ·rw [hq5] at h
    simp only [] at h
    refine we_iter (A := punctualref_CheckSet.A3 w0 l0 A0 c0 b1 i1 e1 b2) (B := punctualref_CheckSet.B3 w0 l0 A0 c0 b1 i1 e1 b2) hq5 (fun a hF => ⟨hS22, hF.weaken ea⟩) (fun s o hf a w hA Q hQ => punctualref_CheckSet_r3 K w0 l0 A0 c0 hR0 hL0 b1 i1 hc3 e1 hx2 b2 q2 s o hf a w hA Q hQ) ?_
    rintro _ a w1 _ ⟨rfl, hb⟩
    obtain rfl := si h
    exact hQ _ _ _ (Outs.out nofun (Exits.on ⟨rfl, hb⟩))
  ·rw [hq4] at h
   simp only [] at h
   refine we_keep (e' := [(0, .slice A0 l0.length c0), (2, pP b1 0), (3, vI (i1 : Int)), (4, pP b2 0), (22, .slice A0 l0.length c0), (23, vI (l0.length : Int)), (24, vI (i1 : Int)), (25, .bool true), (26, vI (i1 : Int)), (27, .pointer (some ⟨blkOf A0, offOf A0 + i1 * 7, none⟩)), (28, .agg #[.string e1.Name, vI e1.C, vI e1.T, vI e1.D, vI e1.J, vI e1.O, vI e1.P])]) ea (punctualref_CheckSet_p2 K w0 l0 A0 c0 hR0 hL0 b1 i1 hc3 e1 hx2 b2 _ hq4 _ hS15 _ ?_)
   rintro _ a w1 ⟨_, rfl, hb⟩
   obtain rfl := si h
   exact hQ _ _ _ (Outs.out nofun (Exits.on ⟨rfl, hb⟩))
 ·rw [if_neg hc3] at h
  refine wk 25 (decide ((i1 : Int) < (l0.length : Int))) false (decide_eq_false hc3) ?_
  refine we_false (by kernel_rfl) ?_
  obtain rfl := si h
  exact we_exit fun a hF => hQ _ _ _ (Outs.out nofun (Exits.here ⟨hS, hF.weaken ea⟩))
theorem punctualref_CheckSet_ok (K : Nat) (l0 : List STask) (A0 : Option Addr) (c0 : Nat) (w0 : World) (hR0 : RdL w0 A0 l0) (hL0 : l0.length ≤ c0) (r : SFault) (h : punctualref_CheckSet.f K l0 = some r) :
  Calls Try.prog 38 #[.slice A0 l0.length c0] w0 (punctualref_CheckSet.Post w0 r) := by
 have hS := St.start w0
 unfold punctualref_CheckSet.f at h
 refine calls_enter (n := 113) (args := [.slice A0 l0.length c0]) (fn := Try.f38) rfl rfl rfl rfl ?_
 show WE _ _ _ _ [(0, .slice A0 l0.length c0)] _
 refine ws fun K1 hK1 => ?_
 refine wr [(0, 1)] ?_
 refine gw (some 2) (.cells #[vI 0, vI 0] 29) (fun b => pP b 0) hS fun b1 w1 hx1 hS1 => ?_
 refine gn hK1 ?_
 refine ws fun K2 hK2 => ?_
 rcases hq3 : punctualref_CheckSet.p0 l0 with _ | (_ | rr6)
 ·rw [hq3] at h; cases h
 ·rw [hq3] at h
  simp only [] at h
  refine we_keep (e' := [(0, .slice A0 l0.length c0), (2, pP b1 0)]) ea (punctualref_CheckSet_p0 K w0 l0 A0 c0 hR0 hL0 b1 _ hq3 _ hS1 _ ?_)
  rintro _ a w6 ⟨rfl, hS12, hF⟩
  replace hS12 : St w0 w6 [Own.blk b1 (.cells #[vI 0, vI 0] 29 (0, 0))] := hS12
  refine hK2 [(0, .slice A0 l0.length c0), (2, pP b1 0)] w6 ?_ a hF
  refine ws fun K6 hK6 => ?_
  refine ws fun K7 hK7 => ?_
  refine wr [(0, 0), (1, 0), (2, 0)] ?_
  refine gb0 [0, 1, 2] [(24, vI 0), (23, vI (l0.length : Int)), (22, .slice A0 l0.length c0)] ?_
  refine gn hK7 ?_
  refine we_block ?_
  rcases hq14 : iter (punctualref_CheckSet.r1 K l0) K 0 with _ | (_ | rr5)
  ·rw [hq14] at h; cases h
  ·rw [hq14] at h
   simp only [] at h
   refine we_iter (A := punctualref_CheckSet.A1 w0 l0 A0 c0 b1) (B := punctualref_CheckSet.B1 w0 b1) hq14 (fun a hF => ⟨hS12, hF.weaken ea⟩) (fun s o hf a w hA Q hQ => punctualref_CheckSet_r1 K w0 l0 A0 c0 hR0 hL0 b1 s o hf a w hA Q hQ) ?_
   rintro _ a w30 _ ⟨rfl, hS97, hF⟩
   replace hS97 : St w0 w30 [Own.blk b1 (.cells #[vI 0, vI 0] 29 (0, 0))] := hS97
   refine hK6 [(2, pP b1 0)] w30 ?_ a hF
   refine ws fun K41 hK41 => ?_
   refine wr [(0, 0), (1, 2)] ?_
   refine gb0 [0] [(112, .agg #[vI 0, vI 0])] ?_
   refine gs b1 0 #[vI 0, vI 0] 29 [vI 0, vI 0] hS97 fun w31 hS98 => ?_
   have hS99 : St w0 w31 [Own.blk b1 (.cells #[vI 0, vI 0] 29 (0, 0))] := hS98
   refine gn hK41 ?_
   have hS100 := hS99.takeN 0
   obtain rfl := si h
   exact we_ret (pr [.cell 2 29] [.agg #[vI 0, vI 0]] [.loaded ⟨b1, 0, none⟩ (vI 0), .loaded ⟨b1, 1, none⟩ (vI 0)] ⟨hS99.c 0, hS99.c 0, trivial⟩ ⟨rfl, hS100⟩)
  ·rw [hq14] at h
   simp only [] at h
   refine we_iter (A := punctualref_CheckSet.A1 w0 l0 A0 c0 b1) (B := punctualref_CheckSet.B1 w0 b1) hq14 (fun a hF => ⟨hS12, hF.weaken ea⟩) (fun s o hf a w hA Q hQ => punctualref_CheckSet_r1 K w0 l0 A0 c0 hR0 hL0 b1 s o hf a w hA Q hQ) ?_
   rintro _ a w1 _ ⟨rfl, hb⟩
   obtain rfl := si h
   exact hb
 ·rw [hq3] at h
  simp only [] at h
  refine we_keep (e' := [(0, .slice A0 l0.length c0), (2, pP b1 0)]) ea (punctualref_CheckSet_p0 K w0 l0 A0 c0 hR0 hL0 b1 _ hq3 _ hS1 _ ?_)
  rintro _ a w1 ⟨_, rfl, hb⟩
  obtain rfl := si h
  exact hb

/-! punctual/punctualref.CheckFixed -/
abbrev punctualref_CheckFixed.Post (w0 : World) (r : SFault) (e : Ending) (w : World) : Prop := e = .returned (.agg #[vI r.Code, vI r.At]) ∧ St w0 w []
def punctualref_CheckFixed.r0 (l0 : List STask) : Nat → Option (Nat ⊕ (Unit ⊕ SFault))
 | i1 =>
  if (i1 : Int) < (l0.length : Int) then
   match l0[i1]? with
   | none => none
   | some e1 =>
    if e1.D > e1.T then
     some (.inr (.inr (punctualref_F.f 12 (i1 : Int))))
    else
     some (.inl (i1 + 1))
  else
   some (.inr (.inl ()))
def punctualref_CheckFixed.f (K : Nat) (l0 : List STask) : Option SFault :=
 match punctualref_CheckSet.f K l0 with
 | none => none
 | some r1 =>
  if r1.Code = 0 then
   match iter (punctualref_CheckFixed.r0 l0) K 0 with
   | none => none
   | some (.inl _) =>
    some (⟨0, 0⟩ : SFault)
   | some (.inr rr1) =>
    some rr1
  else
   some r1
abbrev punctualref_CheckFixed.A0 (w0 : World) (l0 : List STask) (A0 : Option Addr) (c0 : Nat) (b1 : Nat) : Nat → Act → World → Prop := fun (s : Nat) a w => St w0 w [Own.blk b1 (.cells #[vI 0, vI 0] 29 (0, 0))] ∧ Frm 28 a [(2, pP b1 0), (12, .slice A0 l0.length c0), (13, vI (l0.length : Int)), (14, vI (s : Int))]
abbrev punctualref_CheckFixed.B0 (w0 : World) (b1 : Nat) : (Unit ⊕ SFault) → Exit → Act → World → Prop := Exits 0 (fun (s : Unit) a w => St w0 w [Own.blk b1 (.cells #[vI 0, vI 0] 29 (0, 0))] ∧ Frm 28 a [(2, pP b1 0)]) (Rets Try.prog Try.f18 (punctualref_CheckFixed.Post w0))
theorem punctualref_CheckFixed_r0 (K : Nat) (w0 : World) (l0 : List STask) (A0 : Option Addr) (c0 : Nat) (hR0 : RdL w0 A0 l0) (hL0 : l0.length ≤ c0) (b1 : Nat) (r1 : SFault) (b2 : Nat) (hc1 : r1.Code = 0) (s : Nat) (o : Nat ⊕ (Unit ⊕ SFault)) (h : punctualref_CheckFixed.r0 l0 s = some o) (a : Act) (w : World) (hA : punctualref_CheckFixed.A0 w0 l0 A0 c0 b1 s a w) (Q : Exit → Act → World → Prop) (hQ : ∀ x a w, Outs (punctualref_CheckFixed.A0 w0 l0 A0 c0 b1) (punctualref_CheckFixed.B0 w0 b1) o x a w → Q x a w) : (subF Try.f18 [1, 1, 0, 1, 0, 0]).wp Try.prog Q a w := by
 obtain ⟨i1, hs⟩ : ∃ z, z = s := ⟨s, rfl⟩
 subst hs
 obtain ⟨hS, hF⟩ := hA
 replace hS : St w0 w [Own.blk b1 (.cells #[vI 0, vI 0] 29 (0, 0))] := hS
 simp only [punctualref_CheckFixed.r0] at h
 refine (?_ : WE Try.prog 28 (subF Try.f18 [1, 1, 0, 1, 0, 0]) Q [(2, pP b1 0), (12, .slice A0 l0.length c0), (13, vI (l0.length : Int)), (14, vI (i1 : Int))] w) a hF
 clear hF a
 refine ws fun K7 hK7 => ?_
 refine wr [(0, 0)] ?_
 refine gb0 [0] [(15, .bool (decide ((i1 : Int) < (l0.length : Int))))] ?_
 refine gn hK7 ?_
 refine ws fun K8 hK8 => ?_
 by_cases hc2 : (i1 : Int) < (l0.length : Int)
 ·rw [if_pos hc2] at h
  refine wk 15 (decide ((i1 : Int) < (l0.length : Int))) true (decide_eq_true hc2) ?_
  refine we_true (by kernel_rfl) ?_
  refine we_skip fun a hF => hK8 _ _ ?_ a hF
  refine ws fun K9 hK9 => ?_
  refine we_block ?_
  refine ws fun K10 hK10 => ?_
  refine wr [(0, 0), (1, 0), (2, 0), (3, 1), (4, 0), (5, 2)] ?_
  refine gb0 [0] [(16, vI (i1 : Int))] ?_
  rcases hx3 : l0[i1]? with _ | e1
  ·rw [hx3] at h; cases h
  rw [hx3] at h
  simp only [] at h
  refine gi 17 0 22 46 7 l0.length c0 (.tmp 12) (.tmp 14) A0 .i64 (i1 : Int) i1 ((hS.rd hR0).eqSome (pos_of_get hx3)) rfl (lt_of_get hx3) ?_
  refine gb [2] [(18, .agg #[.string e1.Name, vI e1.C, vI e1.T, vI e1.D, vI e1.J, vI e1.O, vI e1.P])] [.loaded ⟨blkOf A0, offOf A0 + i1 * 7, none⟩ (.string e1.Name), .loaded ⟨blkOf A0, offOf A0 + i1 * 7 + 1, none⟩ (vI e1.C), .loaded ⟨blkOf A0, offOf A0 + i1 * 7 + 2, none⟩ (vI e1.T), .loaded ⟨blkOf A0, offOf A0 + i1 * 7 + 3, none⟩ (vI e1.D), .loaded ⟨blkOf A0, offOf A0 + i1 * 7 + 4, none⟩ (vI e1.J), .loaded ⟨blkOf A0, offOf A0 + i1 * 7 + 5, none⟩ (vI e1.O), .loaded ⟨blkOf A0, offOf A0 + i1 * 7 + 6, none⟩ (vI e1.P)] ⟨RdL.cell (j := 0) (hS.rd hR0) hx3 rfl, RdL.cell (j := 1) (hS.rd hR0) hx3 rfl, RdL.cell (j := 2) (hS.rd hR0) hx3 rfl, RdL.cell (j := 3) (hS.rd hR0) hx3 rfl, RdL.cell (j := 4) (hS.rd hR0) hx3 rfl, RdL.cell (j := 5) (hS.rd hR0) hx3 rfl, RdL.cell (j := 6) (hS.rd hR0) hx3 rfl, trivial⟩ ?_
  refine gw (some 5) (.cells #[.string (⟨#[]⟩), vI 0, vI 0, vI 0, vI 0, vI 0, vI 0] 46) (fun b => pP b 0) hS fun b3 w5 hx4 hS9 => ?_
  refine gb0 [4] [(4, vI (i1 : Int))] ?_
  refine gs b3 0 #[.string (⟨#[]⟩), vI 0, vI 0, vI 0, vI 0, vI 0, vI 0] 46 [.string e1.Name, vI e1.C, vI e1.T, vI e1.D, vI e1.J, vI e1.O, vI e1.P] hS9 fun w6 hS10 => ?_
  have hS11 : St w0 w6 [Own.blk b3 (.cells #[.string e1.Name, vI e1.C, vI e1.T, vI e1.D, vI e1.J, vI e1.O, vI e1.P] 46 (0, 0)), Own.blk b1 (.cells #[vI 0, vI 0] 29 (0, 0))] := hS10
  refine gn hK10 ?_
  refine ws fun K11 hK11 => ?_
  refine wr [(0, 0), (1, 0), (2, 0), (3, 0), (4, 0)] ?_
  refine gb [0, 1, 2, 3, 4] [(23, .bool (decide (e1.D > e1.T))), (22, vI e1.T), (21, pP b3 2), (20, vI e1.D), (19, pP b3 3)] [.loaded ⟨b3, 3, none⟩ (vI e1.D), .loaded ⟨b3, 2, none⟩ (vI e1.T)] ⟨hS11.c 0, hS11.c 0, trivial⟩ ?_
  refine gn hK11 ?_
  by_cases hc3 : e1.D > e1.T
  ·rw [if_pos hc3] at h
   refine wk 23 (decide (e1.D > e1.T)) true (decide_eq_true hc3) ?_
   refine we_true (by kernel_rfl) ?_
   refine ws fun K12 hK12 => ?_
   refine wr [(0, 0), (1, 1), (2, 2)] ?_
   refine gb0 [0] [(24, vI (i1 : Int))] ?_
   refine ge_call (d := some 25) (f := 39) (args := #[vI 12, vI (i1 : Int)]) (by kernel_rfl) (punctualref_F_ok 12 (i1 : Int) _ _ rfl) ?_
   rintro _ w7 ⟨rfl, hS12⟩
   refine ⟨_, rfl, hS12.below, ?_⟩
   have hS13 := hS11.call hS12
   have hS14 := hS13.bring 1 rfl
   refine gs b1 0 #[vI 0, vI 0] 29 [vI ((punctualref_F.f 12 (i1 : Int)).Code), vI ((punctualref_F.f 12 (i1 : Int)).At)] hS14 fun w8 hS15 => ?_
   have hS16 : St w0 w8 [Own.blk b1 (.cells #[vI ((punctualref_F.f 12 (i1 : Int)).Code), vI ((punctualref_F.f 12 (i1 : Int)).At)] 29 (0, 0)), Own.blk b3 (.cells #[.string e1.Name, vI e1.C, vI e1.T, vI e1.D, vI e1.J, vI e1.O, vI e1.P] 46 (0, 0))] := hS15
   refine gn hK12 ?_
   have hS17 := hS16.takeN 0
   obtain rfl := si h
   exact we_ret fun a hF => hQ _ _ _ (Outs.out nofun (Exits.on ⟨rfl, (pr [.cell 2 29] [.agg #[vI ((punctualref_F.f 12 (i1 : Int)).Code), vI ((punctualref_F.f 12 (i1 : Int)).At)]] [.loaded ⟨b1, 0, none⟩ (vI ((punctualref_F.f 12 (i1 : Int)).Code)), .loaded ⟨b1, 1, none⟩ (vI ((punctualref_F.f 12 (i1 : Int)).At))] ⟨hS16.c 0, hS16.c 0, trivial⟩ ⟨rfl, hS17⟩) a hF⟩))
  ·rw [if_neg hc3] at h
   refine wk 23 (decide (e1.D > e1.T)) false (decide_eq_false hc3) ?_
   refine we_false (by kernel_rfl) ?_
   refine we_skip fun a hF => hK9 _ _ ?_ a hF
   refine wr [(0, 0), (1, 0)] ?_
   refine ge_addn (d := 26) (ty := 3) (x := (.tmp 14)) (y := (.const (vI 1))) (t := 3) (t2 := 3) (k := .i64) (m := i1) (by kernel_rfl) (by kernel_rfl) (by kernel_rfl) (by have h0 := hR0.small; omega) ?_
   refine gb0 [1] [(14, vI ((i1 + 1 : Nat) : Int))] ?_
   have hS18 := hS11.bring 1 rfl
   have hS19 := hS18.takeN 1
   obtain rfl := si h
   exact ge_nil fun a hF => hQ _ _ _ (Outs.again ⟨hS19, hF.weaken ea⟩)
 ·rw [if_neg hc2] at h
  refine wk 15 (decide ((i1 : Int) < (l0.length : Int))) false (decide_eq_false hc2) ?_
  refine we_false (by kernel_rfl) ?_
  obtain rfl := si h
  exact we_exit fun a hF => hQ _ _ _ (Outs.out nofun (Exits.here ⟨hS, hF.weaken ea⟩))
theorem punctualref_CheckFixed_ok (K : Nat) (l0 : List STask) (A0 : Option Addr) (c0 : Nat) (w0 : World) (hR0 : RdL w0 A0 l0) (hL0 : l0.length ≤ c0) (r : SFault) (h : punctualref_CheckFixed.f K l0 = some r) :
  Calls Try.prog 18 #[.slice A0 l0.length c0] w0 (punctualref_CheckFixed.Post w0 r) := by
 have hS := St.start w0
 unfold punctualref_CheckFixed.f at h
 refine calls_enter (n := 28) (args := [.slice A0 l0.length c0]) (fn := Try.f18) rfl rfl rfl rfl ?_
 show WE _ _ _ _ [(0, .slice A0 l0.length c0)] _
 refine ws fun K1 hK1 => ?_
 refine wr [(0, 1)] ?_
 refine gw (some 2) (.cells #[vI 0, vI 0] 29) (fun b => pP b 0) hS fun b1 w1 hx1 hS1 => ?_
 refine gn hK1 ?_
 refine ws fun K2 hK2 => ?_
 refine ws fun K3 hK3 => ?_
 refine wr [(0, 0), (1, 1), (2, 1), (3, 2)] ?_
 rcases hq1 : punctualref_CheckSet.f K l0 with _ | r1
 ·rw [hq1] at h; cases h
 rw [hq1] at h
 simp only [] at h
 refine gb0 [0] [(6, .slice A0 l0.length c0)] ?_
 refine ge_call (d := some 7) (f := 38) (args := #[.slice A0 l0.length c0]) (by kernel_rfl) (punctualref_CheckSet_ok K l0 A0 c0 _ (hS1.rd hR0) hL0 _ hq1) ?_
 rintro _ w2 ⟨rfl, hS2⟩
 refine ⟨_, rfl, hS2.below, ?_⟩
 have hS3 := hS1.call hS2
 refine gw (some 3) (.cells #[vI 0, vI 0] 29) (fun b => pP b 0) hS3 fun b2 w3 hx2 hS4 => ?_
 refine gs b2 0 #[vI 0, vI 0] 29 [vI r1.Code, vI r1.At] hS4 fun w4 hS5 => ?_
 have hS6 : St w0 w4 [Own.blk b2 (.cells #[vI r1.Code, vI r1.At] 29 (0, 0)), Own.blk b1 (.cells #[vI 0, vI 0] 29 (0, 0))] := hS5
 refine gn hK3 ?_
 refine ws fun K4 hK4 => ?_
 refine wr [(0, 0), (1, 0), (2, 0)] ?_
 refine gb [0, 1, 2] [(10, .bool (r1.Code != 0)), (9, vI r1.Code), (8, pP b2 0)] [.loaded ⟨b2, 0, none⟩ (vI r1.Code)] ⟨hS6.c 0, trivial⟩ ?_
 refine gn hK4 ?_
 by_cases hc1 : r1.Code = 0
 ·rw [if_pos hc1] at h
  refine wk 10 (r1.Code != 0) false (bne_eq_false_iff_eq.2 hc1) ?_
  refine we_false (by kernel_rfl) ?_
  refine we_skip fun a hF => hK2 _ _ ?_ a hF
  refine ws fun K5 hK5 => ?_
  refine ws fun K6 hK6 => ?_
  refine wr [(0, 0), (1, 0), (2, 0)] ?_
  refine gb0 [0, 1, 2] [(14, vI 0), (13, vI (l0.length : Int)), (12, .slice A0 l0.length c0)] ?_
  refine gn hK6 ?_
  refine we_block ?_
  have hS7 := hS6.bring 1 rfl
  have hS8 := hS7.takeN 1
  rcases hq3 : iter (punctualref_CheckFixed.r0 l0) K 0 with _ | (_ | rr1)
  ·rw [hq3] at h; cases h
  ·rw [hq3] at h
   simp only [] at h
   refine we_iter (A := punctualref_CheckFixed.A0 w0 l0 A0 c0 b1) (B := punctualref_CheckFixed.B0 w0 b1) hq3 (fun a hF => ⟨hS8, hF.weaken ea⟩) (fun s o hf a w hA Q hQ => punctualref_CheckFixed_r0 K w0 l0 A0 c0 hR0 hL0 b1 r1 b2 hc1 s o hf a w hA Q hQ) ?_
   rintro _ a w9 _ ⟨rfl, hS20, hF⟩
   replace hS20 : St w0 w9 [Own.blk b1 (.cells #[vI 0, vI 0] 29 (0, 0))] := hS20
   refine hK5 [(2, pP b1 0)] w9 ?_ a hF
   refine ws fun K13 hK13 => ?_
   refine wr [(0, 0), (1, 2)] ?_
   refine gb0 [0] [(27, .agg #[vI 0, vI 0])] ?_
   refine gs b1 0 #[vI 0, vI 0] 29 [vI 0, vI 0] hS20 fun w10 hS21 => ?_
   have hS22 : St w0 w10 [Own.blk b1 (.cells #[vI 0, vI 0] 29 (0, 0))] := hS21
   refine gn hK13 ?_
   have hS23 := hS22.takeN 0
   obtain rfl := si h
   exact we_ret (pr [.cell 2 29] [.agg #[vI 0, vI 0]] [.loaded ⟨b1, 0, none⟩ (vI 0), .loaded ⟨b1, 1, none⟩ (vI 0)] ⟨hS22.c 0, hS22.c 0, trivial⟩ ⟨rfl, hS23⟩)
  ·rw [hq3] at h
   simp only [] at h
   refine we_iter (A := punctualref_CheckFixed.A0 w0 l0 A0 c0 b1) (B := punctualref_CheckFixed.B0 w0 b1) hq3 (fun a hF => ⟨hS8, hF.weaken ea⟩) (fun s o hf a w hA Q hQ => punctualref_CheckFixed_r0 K w0 l0 A0 c0 hR0 hL0 b1 r1 b2 hc1 s o hf a w hA Q hQ) ?_
   rintro _ a w1 _ ⟨rfl, hb⟩
   obtain rfl := si h
   exact hb
 ·rw [if_neg hc1] at h
  refine wk 10 (r1.Code != 0) true (bne_iff_ne.2 hc1) ?_
  refine we_true (by kernel_rfl) ?_
  refine ws fun K14 hK14 => ?_
  refine wr [(0, 0), (1, 2)] ?_
  refine gb [0] [(11, .agg #[vI r1.Code, vI r1.At])] [.loaded ⟨b2, 0, none⟩ (vI r1.Code), .loaded ⟨b2, 1, none⟩ (vI r1.At)] ⟨hS6.c 0, hS6.c 0, trivial⟩ ?_
  have hS24 := hS6.bring 1 rfl
  refine gs b1 0 #[vI 0, vI 0] 29 [vI r1.Code, vI r1.At] hS24 fun w11 hS25 => ?_
  have hS26 : St w0 w11 [Own.blk b1 (.cells #[vI r1.Code, vI r1.At] 29 (0, 0)), Own.blk b2 (.cells #[vI r1.Code, vI r1.At] 29 (0, 0))] := hS25
  refine gn hK14 ?_
  have hS27 := hS26.takeN 0
  obtain rfl := si h
  exact we_ret (pr [.cell 2 29] [.agg #[vI r1.Code, vI r1.At]] [.loaded ⟨b1, 0, none⟩ (vI r1.Code), .loaded ⟨b1, 1, none⟩ (vI r1.At)] ⟨hS26.c 0, hS26.c 0, trivial⟩ ⟨rfl, hS27⟩)

structure SCome where
 Task : Int
 At : Int
def SCome.eqb (x y : SCome) : Bool := ((x.Task == y.Task) && ((x.At == y.At) && true))
instance : Ok SCome := ⟨fun x => Ok.ok x.Task ∧ Ok.ok x.At ∧ True⟩
instance : Flat SCome := ⟨2, fun x => [vI x.Task, vI x.At], fun _ => rfl, fun _ => rfl, by decide⟩

/-! punctual/tasks.Comes$1 -/
abbrev tasks_Comes_1.Post (w0 : World) (r : Int) (e : Ending) (w : World) : Prop := e = .returned (vI r) ∧ St w0 w []
def tasks_Comes_1.f (x0 : SCome) (x1 : SCome) : Int :=
 (cmp_Compare_int.f x0.At x1.At)
theorem tasks_Comes_1_ok (x0 : SCome) (x1 : SCome) (w0 : World) (r : Int) (h : tasks_Comes_1.f x0 x1 = r) :
  Calls Try.prog 41 #[.agg #[vI x0.Task, vI x0.At], .agg #[vI x1.Task, vI x1.At]] w0 (tasks_Comes_1.Post w0 r) := by
 have hS := St.start w0
 unfold tasks_Comes_1.f at h
 refine calls_enter (n := 10) (args := [.agg #[vI x0.Task, vI x0.At], .agg #[vI x1.Task, vI x1.At]]) (fn := Try.f41) rfl rfl rfl rfl ?_
 show WE _ _ _ _ [(0, .agg #[vI x0.Task, vI x0.At]), (1, .agg #[vI x1.Task, vI x1.At])] _
 refine ws fun K1 hK1 => ?_
 refine wr [(0, 1), (1, 1), (2, 0)] ?_
 refine gw (some 2) (.cells #[vI x0.Task, vI x0.At] 53) (fun b => pP b 0) hS fun b1 w1 hx1 hS1 => ?_
 refine gw (some 3) (.cells #[vI x1.Task, vI x1.At] 53) (fun b => pP b 0) hS1 fun b2 w2 hx2 hS2 => ?_
 refine gb0 [2] [(4, vI 0)] ?_
 refine gn hK1 ?_
 refine ws fun K2 hK2 => ?_
 refine wr [(0, 0), (1, 0), (2, 0), (3, 0), (4, 1), (5, 0)] ?_
 refine gb [0, 1, 2, 3] [(8, vI x1.At), (7, pP b2 1), (6, vI x0.At), (5, pP b1 1)] [.loaded ⟨b1, 1, none⟩ (vI x0.At), .loaded ⟨b2, 1, none⟩ (vI x1.At)] ⟨hS2.c 1, hS2.c 0, trivial⟩ ?_
 refine ge_call (d := some 9) (f := 42) (args := #[vI x0.At, vI x1.At]) (by kernel_rfl) (cmp_Compare_int_ok x0.At x1.At _ _ rfl) ?_
 rintro _ w3 ⟨rfl, hS3⟩
 refine ⟨_, rfl, hS3.below, ?_⟩
 have hS4 := hS2.call hS3
 refine gb0 [5] [(4, vI (cmp_Compare_int.f x0.At x1.At))] ?_
 refine gn hK2 ?_
 have hS5 := hS4.takeN 0
 subst h
 exact we_ret (pr0 [.tmp 4] [vI (cmp_Compare_int.f x0.At x1.At)] ⟨rfl, hS5⟩)

/-! slices.insertionSortCmpFunc[punctual/api.Come] -/
abbrev slices_insertionSortCmpFunc_api_Come.Post (w0 : World) (l0 : List SCome) (A0 : Option Addr) (c0 : Nat) (x1 : Int) (x2 : Int) (LT : List Own) (r : List SCome) (e : Ending) (w : World) : Prop := e = .returned (.tuple #[]) ∧ l0.length = r.length ∧ St w0 w [Own.of (.slice A0 r.length c0) 53 r, Own.all LT]
def slices_insertionSortCmpFunc_api_Come.r1 (x1 : Int) : Int × (List SCome) → Option ((Int × (List SCome)) ⊕ ((List SCome) ⊕ (List SCome)))
 | (z2, m3) =>
  if z2 > x1 then
   if 0 ≤ z2 then
    match m3[(z2).toNat]? with
    | none => none
    | some e1 =>
     if 0 ≤ (IntKind.i64.wrap (z2 - 1)) then
      match m3[(IntKind.i64.wrap (z2 - 1)).toNat]? with
      | none => none
      | some e2 =>
       if (tasks_Comes_1.f e1 e2) < 0 then
        match (m3.set ((z2).toNat) e2)[(IntKind.i64.wrap (z2 - 1)).toNat]? with
        | none => none
        | some e3 =>
         some (.inl (IntKind.i64.wrap (z2 - 1), ((m3.set ((z2).toNat) e2).set ((IntKind.i64.wrap (z2 - 1)).toNat) e1)))
       else
        some (.inr (.inl m3))
     else
      none
   else
    none
  else
   some (.inr (.inl m3))
def slices_insertionSortCmpFunc_api_Come.r0 (K : Nat) (x1 : Int) (x2 : Int) : Int × (List SCome) → Option ((Int × (List SCome)) ⊕ ((List SCome) ⊕ (List SCome)))
 | (z1, m1) =>
  if z1 < x2 then
   match iter (slices_insertionSortCmpFunc_api_Come.r1 x1) K (z1, m1) with
   | none => none
   | some (.inl m5) =>
    some (.inl (IntKind.i64.wrap (z1 + 1), m5))
   | some (.inr rr1) =>
    some (.inr (.inr rr1))
  else
   some (.inr (.inl m1))
def slices_insertionSortCmpFunc_api_Come.f (K : Nat) (l0 : List SCome) (x1 : Int) (x2 : Int) : Option (List SCome) :=
 match iter (slices_insertionSortCmpFunc_api_Come.r0 K x1 x2) K (IntKind.i64.wrap (x1 + 1), l0) with
 | none => none
 | some (.inl m6) =>
  some m6
 | some (.inr rr2) =>
  some rr2
abbrev slices_insertionSortCmpFunc_api_Come.A1 (w0 : World) (l0 : List SCome) (A0 : Option Addr) (c0 : Nat) (x1 : Int) (x2 : Int) (LT : List Own) (z1 : Int) : (Int × (List SCome)) → Act → World → Prop := fun (s : Int × (List SCome)) a w => l0.length = s.2.length ∧ St w0 w [Own.of (.slice A0 s.2.length c0) 53 s.2, Own.all LT] ∧ Frm 53 a [(0, (.slice A0 s.2.length c0)), (1, vI x1), (2, vI x2), (3, .func (.func 41) #[] #[]), (8, vI z1), (9, vI s.1)]
abbrev slices_insertionSortCmpFunc_api_Come.B1 (w0 : World) (l0 : List SCome) (A0 : Option Addr) (c0 : Nat) (x1 : Int) (x2 : Int) (LT : List Own) (z1 : Int) : ((List SCome) ⊕ (List SCome)) → Exit → Act → World → Prop := Exits 2 (fun (s : (List SCome)) a w => l0.length = s.length ∧ St w0 w [Own.of (.slice A0 s.length c0) 53 s, Own.all LT] ∧ Frm 53 a [(0, (.slice A0 s.length c0)), (1, vI x1), (2, vI x2), (3, .func (.func 41) #[] #[]), (8, vI z1)]) (Rets Try.prog Try.f67 (slices_insertionSortCmpFunc_api_Come.Post w0 l0 A0 c0 x1 x2 LT))
theorem slices_insertionSortCmpFunc_api_Come_r1 (K : Nat) (w0 : World) (l0 : List SCome) (A0 : Option Addr) (c0 : Nat) (x1 : Int) (x2 : Int) (LT : List Own) (z1 : Int) (m1 : List SCome) (hLio1 : l0.length = m1.length) (hc1 : z1 < x2) (s : Int × (List SCome)) (o : (Int × (List SCome)) ⊕ ((List SCome) ⊕ (List SCome))) (h : slices_insertionSortCmpFunc_api_Come.r1 x1 s = some o) (a : Act) (w : World) (hA : slices_insertionSortCmpFunc_api_Come.A1 w0 l0 A0 c0 x1 x2 LT z1 s a w) (Q : Exit → Act → World → Prop) (hQ : ∀ x a w, Outs (slices_insertionSortCmpFunc_api_Come.A1 w0 l0 A0 c0 x1 x2 LT z1) (slices_insertionSortCmpFunc_api_Come.B1 w0 l0 A0 c0 x1 x2 LT z1) o x a w → Q x a w) : (subF Try.f67 [1, 0, 0, 1, 0, 0, 1, 0, 0]).wp Try.prog Q a w := by
 obtain ⟨z2, m3⟩ := s
 obtain ⟨hLio3, hS, hF⟩ := hA
 replace hS : St w0 w [Own.of (.slice A0 m3.length c0) 53 m3, Own.all LT] := hS
 simp only [slices_insertionSortCmpFunc_api_Come.r1] at h
 refine (?_ : WE Try.prog 53 (subF Try.f67 [1, 0, 0, 1, 0, 0, 1, 0, 0]) Q [(0, (.slice A0 m3.length c0)), (1, vI x1), (2, vI x2), (3, .func (.func 41) #[] #[]), (8, vI z1), (9, vI z2)] w) a hF
 clear hF a
 refine ws fun K6 hK6 => ?_
 refine ws fun K7 hK7 => ?_
 refine we_draws (by kernel_rfl) [(0, 0), (1, 0), (2, 0), (3, 0), (4, 0), (5, 0), (6, 0), (7, 0), (8, 0), (9, 0), (10, 0), (11, 0), (12, 0), (13, 0), (14, 1), (15, 0), (16, 0)] (by kernel_rfl) ?_
 have hS5 := hS.drew
 refine gb0 [0, 1, 2, 3] [(21, .bool (decide (z2 > x1))), (20, .bool (decide (z2 > x1))), (19, vI x1), (18, vI z2)] ?_
 by_cases hc2 : z2 > x1
 ·rw [if_pos hc2] at h
  refine gk 21 (decide (z2 > x1)) true (decide_eq_true hc2) ?_
  refine gb0 [4, 5, 6] [(24, vI z2), (23, (.slice A0 m3.length c0)), (22, .func (.func 41) #[] #[])] ?_
  by_cases hc3 : 0 ≤ z2
  ·rw [if_pos hc3] at h
   rcases hx1 : m3[(z2).toNat]? with _ | e1
   ·rw [hx1] at h; cases h
   rw [hx1] at h
   simp only [] at h
   refine gi 25 0 23 53 2 m3.length c0 (.tmp 23) (.tmp 24) A0 .i64 z2 ((z2).toNat) ((hS5.rdAt 0 rfl).eqSome (pos_of_get hx1)) (Int.toNat_of_nonneg hc3).symm (lt_of_get hx1) ?_
   refine gb [8, 9, 10, 11] [(29, vI (IntKind.i64.wrap (z2 - 1))), (28, vI z2), (27, (.slice A0 m3.length c0)), (26, .agg #[vI e1.Task, vI e1.At])] [.loaded ⟨blkOf A0, offOf A0 + ((z2).toNat) * 2, none⟩ (vI e1.Task), .loaded ⟨blkOf A0, offOf A0 + ((z2).toNat) * 2 + 1, none⟩ (vI e1.At)] ⟨RdL.cell (j := 0) (hS5.rdAt 0 rfl) hx1 rfl, RdL.cell (j := 1) (hS5.rdAt 0 rfl) hx1 rfl, trivial⟩ ?_
   by_cases hc4 : 0 ≤ (IntKind.i64.wrap (z2 - 1))
   ·rw [if_pos hc4] at h
    rcases hx2 : m3[(IntKind.i64.wrap (z2 - 1)).toNat]? with _ | e2
    ·rw [hx2] at h; cases h
    rw [hx2] at h
    simp only [] at h
    refine gi 30 0 23 53 2 m3.length c0 (.tmp 27) (.tmp 29) A0 .i64 (IntKind.i64.wrap (z2 - 1)) ((IntKind.i64.wrap (z2 - 1)).toNat) ((hS5.rdAt 0 rfl).eqSome (pos_of_get hx2)) (Int.toNat_of_nonneg hc4).symm (lt_of_get hx2) ?_
    refine gb [13] [(31, .agg #[vI e2.Task, vI e2.At])] [.loaded ⟨blkOf A0, offOf A0 + ((IntKind.i64.wrap (z2 - 1)).toNat) * 2, none⟩ (vI e2.Task), .loaded ⟨blkOf A0, offOf A0 + ((IntKind.i64.wrap (z2 - 1)).toNat) * 2 + 1, none⟩ (vI e2.At)] ⟨RdL.cell (j := 0) (hS5.rdAt 0 rfl) hx2 rfl, RdL.cell (j := 1) (hS5.rdAt 0 rfl) hx2 rfl, trivial⟩ ?_
    refine ge_call (d := some 32) (f := 41) (args := #[.agg #[vI e1.Task, vI e1.At], .agg #[vI e2.Task, vI e2.At]]) (by kernel_rfl) (tasks_Comes_1_ok e1 e2 _ _ rfl) ?_
    rintro _ w1 ⟨rfl, hS6⟩
    refine ⟨_, rfl, hS6.below, ?_⟩
    have hS7 := hS5.call hS6
    refine gb0 [15, 16] [(34, .bool (decide ((tasks_Comes_1.f e1 e2) < 0))), (33, .bool (decide ((tasks_Comes_1.f e1 e2) < 0)))] ?_
    refine gn hK7 ?_
    by_cases hc5 : (tasks_Comes_1.f e1 e2) < 0
    ·rw [if_pos hc5] at h
     refine wk 34 (decide ((tasks_Comes_1.f e1 e2) < 0)) true (decide_eq_true hc5) ?_
     refine we_true (by kernel_rfl) ?_
     refine we_skip fun a hF => hK6 _ _ ?_ a hF
     refine ws fun K8 hK8 => ?_
     refine we_block ?_
     refine we_orders2 (by kernel_rfl) [(9, [⟨blkOf A0, offOf A0 + ((IntKind.i64.wrap (z2 - 1)).toNat) * 2, none⟩, ⟨blkOf A0, offOf A0 + ((IntKind.i64.wrap (z2 - 1)).toNat) * 2 + 1, none⟩]), (13, [⟨blkOf A0, offOf A0 + ((z2).toNat) * 2, none⟩, ⟨blkOf A0, offOf A0 + ((z2).toNat) * 2 + 1, none⟩])] (.vals [0] (.vals [1] (.vals [2] (.vals [3] (.vals [4] (.vals [5] (.vals [6] (.vals [7] (.vals [8] (.vals [9] (.vals [10] (.vals [11] (.vals [12] (.vals [13] (.vals [14] (.alt 15 2 (.vals [16] (.alt 17 2 .fin .nomore)) .nomore)))))))))))))))) (by kernel_rfl) ?_
     have hS8 := hS7.drew
     refine go2_batch [0, 1, 2, 3, 4, 5, 6, 7] (ans := []) (vs := [(44, vI (IntKind.i64.wrap (z2 - 1))), (43, vI z2), (42, (.slice A0 m3.length c0)), (41, vI (IntKind.i64.wrap (z2 - 1))), (40, vI z2), (39, (.slice A0 m3.length c0)), (38, vI z2), (37, (.slice A0 m3.length c0))]) (l := []) (by kernel_rfl) trivial mem_nil ?_
     refine go2_index (d := 45) (ty := 0) (t := 23) (el := 53) (sz := 2) (m := m3.length) (c := c0) (x := (.tmp 42)) (y := (.tmp 44)) (A := A0) (k' := .i64) (j := (IntKind.i64.wrap (z2 - 1))) (jn := ((IntKind.i64.wrap (z2 - 1)).toNat)) (b0 := blkOf A0) (o0 := offOf A0) (by kernel_rfl) (by kernel_rfl) (by kernel_rfl) (by kernel_rfl) (by kernel_rfl) ((hS8.rdAt 0 rfl).eqSome (pos_of_get hx2)) (Int.toNat_of_nonneg hc4).symm (lt_of_get hx2) ?_
     refine go2_batch [9] (ans := [.val (vI e2.Task), .val (vI e2.At)]) (vs := [(46, .agg #[vI e2.Task, vI e2.At])]) (l := [.loaded ⟨blkOf A0, offOf A0 + ((IntKind.i64.wrap (z2 - 1)).toNat) * 2, none⟩ (vI e2.Task), .loaded ⟨blkOf A0, offOf A0 + ((IntKind.i64.wrap (z2 - 1)).toNat) * 2 + 1, none⟩ (vI e2.At)]) (by kernel_rfl) ⟨RdL.cell (j := 0) (hS8.rdAt 0 rfl) hx2 rfl, RdL.cell (j := 1) (hS8.rdAt 0 rfl) hx2 rfl, trivial⟩ (mem_one (by kernel_rfl)) ?_
     refine go2_batch [10, 11] (ans := []) (vs := [(48, vI z2), (47, (.slice A0 m3.length c0))]) (l := []) (by kernel_rfl) trivial mem_nil ?_
     refine go2_index (d := 49) (ty := 0) (t := 23) (el := 53) (sz := 2) (m := m3.length) (c := c0) (x := (.tmp 47)) (y := (.tmp 48)) (A := A0) (k' := .i64) (j := z2) (jn := ((z2).toNat)) (b0 := blkOf A0) (o0 := offOf A0) (by kernel_rfl) (by kernel_rfl) (by kernel_rfl) (by kernel_rfl) (by kernel_rfl) ((hS8.rdAt 0 rfl).eqSome (pos_of_get hx1)) (Int.toNat_of_nonneg hc3).symm (lt_of_get hx1) ?_
     refine go2_batch [13] (ans := [.val (vI e1.Task), .val (vI e1.At)]) (vs := [(50, .agg #[vI e1.Task, vI e1.At])]) (l := [.loaded ⟨blkOf A0, offOf A0 + ((z2).toNat) * 2, none⟩ (vI e1.Task), .loaded ⟨blkOf A0, offOf A0 + ((z2).toNat) * 2 + 1, none⟩ (vI e1.At)]) (by kernel_rfl) ⟨RdL.cell (j := 0) (hS8.rdAt 0 rfl) hx1 rfl, RdL.cell (j := 1) (hS8.rdAt 0 rfl) hx1 rfl, trivial⟩ (mem_one (by kernel_rfl)) ?_
     refine go2_index (d := 51) (ty := 0) (t := 23) (el := 53) (sz := 2) (m := m3.length) (c := c0) (x := (.tmp 37)) (y := (.tmp 38)) (A := A0) (k' := .i64) (j := z2) (jn := ((z2).toNat)) (b0 := blkOf A0) (o0 := offOf A0) (by kernel_rfl) (by kernel_rfl) (by kernel_rfl) (by kernel_rfl) (by kernel_rfl) ((hS8.rdAt 0 rfl).eqSome (pos_of_get hx1)) (Int.toNat_of_nonneg hc3).symm (lt_of_get hx1) ?_
     refine go_alt2 (fun KK hKK => ?_) ?_
     ·refine ge_seti (α := SCome) (A := A0) (nn := m3.length) (c := c0) (t := 53) (l := m3) (x := e1) (x' := e2) (jn := ((z2).toNat)) (j := 0) (vs := [vI e2.Task, vI e2.At]) (l' := [.stored ⟨blkOf A0, offOf A0 + ((z2).toNat) * 2, none⟩ (vI e2.Task), .stored ⟨blkOf A0, offOf A0 + ((z2).toNat) * 2 + 1, none⟩ (vI e2.At)]) hS8 (by kernel_rfl) (by kernel_rfl) hx1 rfl rfl rfl fun w2 hS9 => ?_
      have hS10 : St w0 w2 [Own.of (.slice A0 m3.length c0) 53 (m3.set ((z2).toNat) e2), Own.all LT] := hS9
      have hE1 : m3.length = (m3.set ((z2).toNat) e2).length := hS10.lenAt 0 rfl
      have hS11 : St w0 w2 [Own.of (.slice A0 (m3.set ((z2).toNat) e2).length c0) 53 (m3.set ((z2).toNat) e2), Own.all LT] := by rw [← hE1]; exact hS10
      refine ge_same (t := 0) (v := (.slice A0 m3.length c0)) (v' := (.slice A0 (m3.set ((z2).toNat) e2).length c0)) (by kernel_rfl) (by rw [hE1]) ?_
      refine ge_same (t := 23) (v := (.slice A0 m3.length c0)) (v' := (.slice A0 (m3.set ((z2).toNat) e2).length c0)) (by kernel_rfl) (by rw [hE1]) ?_
      refine ge_same (t := 27) (v := (.slice A0 m3.length c0)) (v' := (.slice A0 (m3.set ((z2).toNat) e2).length c0)) (by kernel_rfl) (by rw [hE1]) ?_
      refine ge_same (t := 37) (v := (.slice A0 m3.length c0)) (v' := (.slice A0 (m3.set ((z2).toNat) e2).length c0)) (by kernel_rfl) (by rw [hE1]) ?_
      refine ge_same (t := 39) (v := (.slice A0 m3.length c0)) (v' := (.slice A0 (m3.set ((z2).toNat) e2).length c0)) (by kernel_rfl) (by rw [hE1]) ?_
      refine ge_same (t := 42) (v := (.slice A0 m3.length c0)) (v' := (.slice A0 (m3.set ((z2).toNat) e2).length c0)) (by kernel_rfl) (by rw [hE1]) ?_
      refine ge_same (t := 47) (v := (.slice A0 m3.length c0)) (v' := (.slice A0 (m3.set ((z2).toNat) e2).length c0)) (by kernel_rfl) (by rw [hE1]) ?_
      refine ge_nil fun a hF => hKK _ _ (RS.of2 (l := []) (by kernel_rfl) trivial trivial) ?_ a hF
      rcases hx3 : (m3.set ((z2).toNat) e2)[(IntKind.i64.wrap (z2 - 1)).toNat]? with _ | e3
      ·rw [hx3] at h; cases h
      rw [hx3] at h
      simp only [] at h
      refine go2_index (d := 52) (ty := 0) (t := 23) (el := 53) (sz := 2) (m := (m3.set ((z2).toNat) e2).length) (c := c0) (x := (.tmp 39)) (y := (.tmp 41)) (A := A0) (k' := .i64) (j := (IntKind.i64.wrap (z2 - 1))) (jn := ((IntKind.i64.wrap (z2 - 1)).toNat)) (b0 := blkOf A0) (o0 := offOf A0) (by kernel_rfl) (by kernel_rfl) (by kernel_rfl) (by kernel_rfl) (by kernel_rfl) ((hS11.rdAt 0 rfl).eqSome (pos_of_get hx3)) (Int.toNat_of_nonneg hc4).symm (lt_of_get hx3) ?_
      refine go_alt2 (fun KK hKK => ?_) ?_
      ·refine ge_seti (α := SCome) (A := A0) (nn := ((m3.set ((z2).toNat) e2).length)) (c := c0) (t := 53) (l := (m3.set ((z2).toNat) e2)) (x := e3) (x' := e1) (jn := ((IntKind.i64.wrap (z2 - 1)).toNat)) (j := 0) (vs := [vI e1.Task, vI e1.At]) (l' := [.stored ⟨blkOf A0, offOf A0 + ((IntKind.i64.wrap (z2 - 1)).toNat) * 2, none⟩ (vI e1.Task), .stored ⟨blkOf A0, offOf A0 + ((IntKind.i64.wrap (z2 - 1)).toNat) * 2 + 1, none⟩ (vI e1.At)]) hS11 (by kernel_rfl) (by kernel_rfl) hx3 rfl rfl rfl fun w3 hS12 => ?_
       have hS13 : St w0 w3 [Own.of (.slice A0 (m3.set ((z2).toNat) e2).length c0) 53 ((m3.set ((z2).toNat) e2).set ((IntKind.i64.wrap (z2 - 1)).toNat) e1), Own.all LT] := hS12
       have hE2 : (m3.set ((z2).toNat) e2).length = ((m3.set ((z2).toNat) e2).set ((IntKind.i64.wrap (z2 - 1)).toNat) e1).length := hS13.lenAt 0 rfl
       have hS14 : St w0 w3 [Own.of (.slice A0 ((m3.set ((z2).toNat) e2).set ((IntKind.i64.wrap (z2 - 1)).toNat) e1).length c0) 53 ((m3.set ((z2).toNat) e2).set ((IntKind.i64.wrap (z2 - 1)).toNat) e1), Own.all LT] := by rw [← hE2]; exact hS13
       refine ge_same (t := 0) (v := (.slice A0 (m3.set ((z2).toNat) e2).length c0)) (v' := (.slice A0 ((m3.set ((z2).toNat) e2).set ((IntKind.i64.wrap (z2 - 1)).toNat) e1).length c0)) (by kernel_rfl) (by rw [hE2]) ?_
       refine ge_same (t := 23) (v := (.slice A0 (m3.set ((z2).toNat) e2).length c0)) (v' := (.slice A0 ((m3.set ((z2).toNat) e2).set ((IntKind.i64.wrap (z2 - 1)).toNat) e1).length c0)) (by kernel_rfl) (by rw [hE2]) ?_
       refine ge_same (t := 27) (v := (.slice A0 (m3.set ((z2).toNat) e2).length c0)) (v' := (.slice A0 ((m3.set ((z2).toNat) e2).set ((IntKind.i64.wrap (z2 - 1)).toNat) e1).length c0)) (by kernel_rfl) (by rw [hE2]) ?_
       refine ge_same (t := 37) (v := (.slice A0 (m3.set ((z2).toNat) e2).length c0)) (v' := (.slice A0 ((m3.set ((z2).toNat) e2).set ((IntKind.i64.wrap (z2 - 1)).toNat) e1).length c0)) (by kernel_rfl) (by rw [hE2]) ?_
       refine ge_same (t := 39) (v := (.slice A0 (m3.set ((z2).toNat) e2).length c0)) (v' := (.slice A0 ((m3.set ((z2).toNat) e2).set ((IntKind.i64.wrap (z2 - 1)).toNat) e1).length c0)) (by kernel_rfl) (by rw [hE2]) ?_
       refine ge_same (t := 42) (v := (.slice A0 (m3.set ((z2).toNat) e2).length c0)) (v' := (.slice A0 ((m3.set ((z2).toNat) e2).set ((IntKind.i64.wrap (z2 - 1)).toNat) e1).length c0)) (by kernel_rfl) (by rw [hE2]) ?_
       refine ge_same (t := 47) (v := (.slice A0 (m3.set ((z2).toNat) e2).length c0)) (v' := (.slice A0 ((m3.set ((z2).toNat) e2).set ((IntKind.i64.wrap (z2 - 1)).toNat) e1).length c0)) (by kernel_rfl) (by rw [hE2]) ?_
       refine ge_nil fun a hF => hKK _ _ (RS.of2 (l := []) (by kernel_rfl) trivial trivial) ?_ a hF
       refine go_fin2 fun a hF => hK8 _ _ ?_ a hF
       refine wr [(0, 0), (1, 0), (2, 0)] ?_
       refine gb0 [0, 1, 2] [(9, vI (IntKind.i64.wrap (z2 - 1))), (36, vI (IntKind.i64.wrap (z2 - 1))), (35, vI z2)] ?_
       have hS15 := hS14.bring 1 rfl
       have hS16 := hS15.bring 1 rfl
       obtain rfl := si h
       exact ge_nil fun a hF => hQ _ _ _ (Outs.again ⟨(Eq.trans hLio3 (by simp only [List.length_set])), hS16, hF.weaken ea⟩)
      exact go_nomore2
     exact go_nomore2
    ·rw [if_neg hc5] at h
     refine wk 34 (decide ((tasks_Comes_1.f e1 e2) < 0)) false (decide_eq_false hc5) ?_
     refine we_false (by kernel_rfl) ?_
     have hS17 := hS7.bring 1 rfl
     have hS18 := hS17.bring 1 rfl
     obtain rfl := si h
     exact we_exit fun a hF => hQ _ _ _ (Outs.out nofun (Exits.here ⟨hLio3, hS18, hF.weaken ea⟩))
   ·rw [if_neg hc4] at h
    cases h
  ·rw [if_neg hc3] at h
   cases h
 ·rw [if_neg hc2] at h
  refine gk 21 (decide (z2 > x1)) false (decide_eq_false hc2) ?_
  refine gb0 [4, 5, 6, 7, 8, 9, 10, 11, 12, 13] [(31, undef), (30, undef), (29, undef), (28, undef), (27, undef), (26, undef), (25, undef), (24, undef), (23, undef), (22, undef)] ?_
  refine ge_off rfl rfl rfl (by kernel_rfl) ?_
  refine gb0 [15, 16] [(34, .bool false), (33, undef)] ?_
  refine gn hK7 ?_
  refine we_false (by kernel_rfl) ?_
  have hS19 := hS5.bring 1 rfl
  have hS20 := hS19.bring 1 rfl
  obtain rfl := si h
  exact we_exit fun a hF => hQ _ _ _ (Outs.out nofun (Exits.here ⟨hLio3, hS20, hF.weaken ea⟩))
abbrev slices_insertionSortCmpFunc_api_Come.A0 (w0 : World) (l0 : List SCome) (A0 : Option Addr) (c0 : Nat) (x1 : Int) (x2 : Int) (LT : List Own) : (Int × (List SCome)) → Act → World → Prop := fun (s : Int × (List SCome)) a w => l0.length = s.2.length ∧ St w0 w [Own.of (.slice A0 s.2.length c0) 53 s.2, Own.all LT] ∧ Frm 53 a [(0, (.slice A0 s.2.length c0)), (1, vI x1), (2, vI x2), (3, .func (.func 41) #[] #[]), (8, vI s.1)]
abbrev slices_insertionSortCmpFunc_api_Come.B0 (w0 : World) (l0 : List SCome) (A0 : Option Addr) (c0 : Nat) (x1 : Int) (x2 : Int) (LT : List Own) : ((List SCome) ⊕ (List SCome)) → Exit → Act → World → Prop := Exits 0 (fun (s : (List SCome)) a w => l0.length = s.length ∧ St w0 w [Own.of (.slice A0 s.length c0) 53 s, Own.all LT] ∧ Frm 53 a [(0, (.slice A0 s.length c0)), (3, .func (.func 41) #[] #[])]) (Rets Try.prog Try.f67 (slices_insertionSortCmpFunc_api_Come.Post w0 l0 A0 c0 x1 x2 LT))
theorem slices_insertionSortCmpFunc_api_Come_r0 (K : Nat) (w0 : World) (l0 : List SCome) (A0 : Option Addr) (c0 : Nat) (x1 : Int) (x2 : Int) (LT : List Own) (s : Int × (List SCome)) (o : (Int × (List SCome)) ⊕ ((List SCome) ⊕ (List SCome))) (h : slices_insertionSortCmpFunc_api_Come.r0 K x1 x2 s = some o) (a : Act) (w : World) (hA : slices_insertionSortCmpFunc_api_Come.A0 w0 l0 A0 c0 x1 x2 LT s a w) (Q : Exit → Act → World → Prop) (hQ : ∀ x a w, Outs (slices_insertionSortCmpFunc_api_Come.A0 w0 l0 A0 c0 x1 x2 LT) (slices_insertionSortCmpFunc_api_Come.B0 w0 l0 A0 c0 x1 x2 LT) o x a w → Q x a w) : (subF Try.f67 [1, 0, 0]).wp Try.prog Q a w := by
 obtain ⟨z1, m1⟩ := s
 obtain ⟨hLio1, hS, hF⟩ := hA
 replace hS : St w0 w [Own.of (.slice A0 m1.length c0) 53 m1, Own.all LT] := hS
 simp only [slices_insertionSortCmpFunc_api_Come.r0] at h
 refine (?_ : WE Try.prog 53 (subF Try.f67 [1, 0, 0]) Q [(0, (.slice A0 m1.length c0)), (1, vI x1), (2, vI x2), (3, .func (.func 41) #[] #[]), (8, vI z1)] w) a hF
 clear hF a
 refine ws fun K2 hK2 => ?_
 refine ws fun K3 hK3 => ?_
 refine wr [(0, 0), (1, 0), (2, 0)] ?_
 refine gb0 [0, 1, 2] [(14, .bool (decide (z1 < x2))), (13, vI x2), (12, vI z1)] ?_
 refine gn hK3 ?_
 by_cases hc1 : z1 < x2
 ·rw [if_pos hc1] at h
  refine wk 14 (decide (z1 < x2)) true (decide_eq_true hc1) ?_
  refine we_true (by kernel_rfl) ?_
  refine we_skip fun a hF => hK2 _ _ ?_ a hF
  refine ws fun K4 hK4 => ?_
  refine we_block ?_
  refine ws fun K5 hK5 => ?_
  refine wr [(0, 0), (1, 0)] ?_
  refine gb0 [0, 1] [(9, vI z1), (17, vI z1)] ?_
  refine gn hK5 ?_
  refine we_block ?_
  have hS3 := hS.bring 1 rfl
  have hS4 := hS3.bring 1 rfl
  rcases hq2 : iter (slices_insertionSortCmpFunc_api_Come.r1 x1) K (z1, m1) with _ | (m5 | rr1)
  ·rw [hq2] at h; cases h
  ·rw [hq2] at h
   simp only [] at h
   refine we_iter (A := slices_insertionSortCmpFunc_api_Come.A1 w0 l0 A0 c0 x1 x2 LT z1) (B := slices_insertionSortCmpFunc_api_Come.B1 w0 l0 A0 c0 x1 x2 LT z1) hq2 (fun a hF => ⟨hLio1, hS4, hF.weaken ea⟩) (fun s o hf a w hA Q hQ => slices_insertionSortCmpFunc_api_Come_r1 K w0 l0 A0 c0 x1 x2 LT z1 m1 hLio1 hc1 s o hf a w hA Q hQ) ?_
   rintro _ a w4 _ ⟨rfl, hRz1, hS21, hF⟩
   replace hS21 : St w0 w4 [Own.of (.slice A0 m5.length c0) 53 m5, Own.all LT] := hS21
   refine hK4 [(0, (.slice A0 m5.length c0)), (1, vI x1), (2, vI x2), (3, .func (.func 41) #[] #[]), (8, vI z1)] w4 ?_ a hF
   refine wr [(0, 0), (1, 0), (2, 0)] ?_
   refine gb0 [0, 1, 2] [(8, vI (IntKind.i64.wrap (z1 + 1))), (16, vI (IntKind.i64.wrap (z1 + 1))), (15, vI z1)] ?_
   have hS22 := hS21.bring 1 rfl
   have hS23 := hS22.bring 1 rfl
   obtain rfl := si h
   exact ge_nil fun a hF => hQ _ _ _ (Outs.again ⟨hRz1, hS23, hF.weaken ea⟩)
  ·rw [hq2] at h
   simp only [] at h
   refine we_iter (A := slices_insertionSortCmpFunc_api_Come.A1 w0 l0 A0 c0 x1 x2 LT z1) (B := slices_insertionSortCmpFunc_api_Come.B1 w0 l0 A0 c0 x1 x2 LT z1) hq2 (fun a hF => ⟨hLio1, hS4, hF.weaken ea⟩) (fun s o hf a w hA Q hQ => slices_insertionSortCmpFunc_api_Come_r1 K w0 l0 A0 c0 x1 x2 LT z1 m1 hLio1 hc1 s o hf a w hA Q hQ) ?_
   rintro _ a w1 _ ⟨rfl, hb⟩
   obtain rfl := si h
   exact hQ _ _ _ (Outs.out nofun (Exits.on ⟨rfl, hb⟩))
 ·rw [if_neg hc1] at h
  refine wk 14 (decide (z1 < x2)) false (decide_eq_false hc1) ?_
  refine we_false (by kernel_rfl) ?_
  have hS24 := hS.bring 1 rfl
  have hS25 := hS24.bring 1 rfl
  obtain rfl := si h
  exact we_exit fun a hF => hQ _ _ _ (Outs.out nofun (Exits.here ⟨hLio1, hS25, hF.weaken ea⟩))
theorem slices_insertionSortCmpFunc_api_Come_ok (K : Nat) (l0 : List SCome) (A0 : Option Addr) (c0 : Nat) (x1 : Int) (x2 : Int) (w0 wE : World) (LT : List Own) (hS : St w0 wE [Own.of (.slice A0 l0.length c0) 53 l0, Own.all LT]) (r : List SCome) (h : slices_insertionSortCmpFunc_api_Come.f K l0 x1 x2 = some r) :
  Calls Try.prog 67 #[(.slice A0 l0.length c0), vI x1, vI x2, .func (.func 41) #[] #[]] wE (slices_insertionSortCmpFunc_api_Come.Post w0 l0 A0 c0 x1 x2 LT r) := by
 unfold slices_insertionSortCmpFunc_api_Come.f at h
 refine calls_enter (n := 53) (args := [(.slice A0 l0.length c0), vI x1, vI x2, .func (.func 41) #[] #[]]) (fn := Try.f67) rfl rfl rfl rfl ?_
 show WE _ _ _ _ [(0, (.slice A0 l0.length c0)), (1, vI x1), (2, vI x2), (3, .func (.func 41) #[] #[])] _
 refine ws fun K1 hK1 => ?_
 refine wr [(0, 0), (1, 0), (2, 0)] ?_
 refine gb0 [0, 1, 2] [(8, vI (IntKind.i64.wrap (x1 + 1))), (11, vI (IntKind.i64.wrap (x1 + 1))), (10, vI x1)] ?_
 refine gn hK1 ?_
 refine we_block ?_
 have hS1 := hS.bring 1 rfl
 have hS2 := hS1.bring 1 rfl
 rcases hq3 : iter (slices_insertionSortCmpFunc_api_Come.r0 K x1 x2) K (IntKind.i64.wrap (x1 + 1), l0) with _ | (m6 | rr2)
 ·rw [hq3] at h; cases h
 ·rw [hq3] at h
  simp only [] at h
  refine we_iter (A := slices_insertionSortCmpFunc_api_Come.A0 w0 l0 A0 c0 x1 x2 LT) (B := slices_insertionSortCmpFunc_api_Come.B0 w0 l0 A0 c0 x1 x2 LT) hq3 (fun a hF => ⟨rfl, hS2, hF.weaken ea⟩) (fun s o hf a w hA Q hQ => slices_insertionSortCmpFunc_api_Come_r0 K w0 l0 A0 c0 x1 x2 LT s o hf a w hA Q hQ) ?_
  rintro _ a w5 _ ⟨rfl, hRz2, hS26, hF⟩
  replace hS26 : St w0 w5 [Own.of (.slice A0 m6.length c0) 53 m6, Own.all LT] := hS26
  have hS27 := hS26.bring 1 rfl
  have hS28 := hS27.bring 1 rfl
  obtain rfl := si h
  exact (pe0 [] [] ⟨rfl, hRz2, hS28⟩) a hF
 ·rw [hq3] at h
  simp only [] at h
  refine we_iter (A := slices_insertionSortCmpFunc_api_Come.A0 w0 l0 A0 c0 x1 x2 LT) (B := slices_insertionSortCmpFunc_api_Come.B0 w0 l0 A0 c0 x1 x2 LT) hq3 (fun a hF => ⟨rfl, hS2, hF.weaken ea⟩) (fun s o hf a w hA Q hQ => slices_insertionSortCmpFunc_api_Come_r0 K w0 l0 A0 c0 x1 x2 LT s o hf a w hA Q hQ) ?_
  rintro _ a w1 _ ⟨rfl, hb⟩
  obtain rfl := si h
  exact hb
end Go.Proofs.Ytlipdmblinjjaaa.GV
