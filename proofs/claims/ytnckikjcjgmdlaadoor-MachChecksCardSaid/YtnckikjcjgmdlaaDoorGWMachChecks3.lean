/- Walks of single functions, written by a program of this work. -/
import Derived.Test.YtnckikjcjgmdlaaDoorGWMachChecks2
namespace Go.Proofs.YtnckikjcjgmdlaaDoor.GV
open Go Go.RowKit
set_option linter.unusedVariables false
set_option linter.unusedSimpArgs false
set_option maxRecDepth 100000

/-! punctual/punctualref.stackFault -/
abbrev punctualref_stackFault.Post (w0 : World) (r : SFault) (e : Ending) (w : World) : Prop := e = .returned (.agg #[vI r.Code, vI r.At]) ∧ St w0 w []
def punctualref_stackFault.p1 (i1 : Nat) (mp1 : List (Int × Int)) (e1 : SIns) : Option (Unit ⊕ SFault) :=
  if 0 ≤ e1.Op then
   match ([0, 0, 0, 1, 2, 2, 2, 2, 2, 0, 1, 0, 1, 0, 0, 0, 0, 0, 0] : List Int)[(e1.Op).toNat]? with
   | none => none
   | some e2 =>
    if ((mget mp1 (i1 : Int)).getD 0) < e2 then
     some (.inr (punctualref_F.f 8 (i1 : Int)))
    else
     match ([0, 1, 1, 0, 1, 1, 1, 1, 1, 1, 0, 0, 0, 0, 0, 0, 0, 0, 0] : List Int)[(e1.Op).toNat]? with
     | none => none
     | some e3 =>
      if (IntKind.i64.wrap ((IntKind.i64.wrap (((mget mp1 (i1 : Int)).getD 0) - e2)) + e3)) > 20 then
       some (.inr (punctualref_F.f 8 (i1 : Int)))
      else
       some (.inl ())
  else
   none
def punctualref_stackFault.p2 (e1 : SIns) : Option ((List Int) ⊕ SFault) :=
  if e1.Op = 11 then
   if e1.Op = 14 then
    if ([] : List Int).length < 17592186044416 then
     some (.inl (([] : List Int) ++ [e1.B]))
    else
     none
   else
    if ([] : List Int).length < 17592186044416 then
     some (.inl (([] : List Int) ++ [e1.A]))
    else
     none
  else
   if e1.Op = 12 then
    if e1.Op = 14 then
     if ([] : List Int).length < 17592186044416 then
      some (.inl (([] : List Int) ++ [e1.B]))
     else
      none
    else
     if ([] : List Int).length < 17592186044416 then
      some (.inl (([] : List Int) ++ [e1.A]))
     else
      none
   else
    if e1.Op = 14 then
     if ([] : List Int).length < 17592186044416 then
      some (.inl (([] : List Int) ++ [e1.B]))
     else
      none
    else
     some (.inl ([] : List Int))
def punctualref_stackFault.p3 (i1 : Nat) (e1 : SIns) (m2 : List Int) : Option ((List Int) ⊕ SFault) :=
  if e1.Op = 11 then
   some (.inl m2)
  else
   if m2.length < 17592186044416 then
    some (.inl (m2 ++ [((i1 + 1 : Nat) : Int)]))
   else
    none
def punctualref_stackFault.r4 (i1 : Nat) (mp1 : List (Int × Int)) (e4 : Int) (e5 : Int) (m4 : List Int) : Nat × (List (Int × Int)) → Option ((Nat × (List (Int × Int))) ⊕ ((List (Int × Int)) ⊕ SFault))
 | (i2, mp3) =>
  if (i2 : Int) < (m4.length : Int) then
   match m4[i2]? with
   | none => none
   | some e6 =>
    if ((mget mp3 e6).isSome) = true then
     if ((mget mp3 e6).getD 0) = (IntKind.i64.wrap ((IntKind.i64.wrap (((mget mp1 (i1 : Int)).getD 0) - e4)) + e5)) then
      some (.inl ((i2 + 1), (mset mp3 e6 (IntKind.i64.wrap ((IntKind.i64.wrap (((mget mp1 (i1 : Int)).getD 0) - e4)) + e5)))))
     else
      some (.inr (.inr (punctualref_F.f 8 (i1 : Int))))
    else
     some (.inl ((i2 + 1), (mset mp3 e6 (IntKind.i64.wrap ((IntKind.i64.wrap (((mget mp1 (i1 : Int)).getD 0) - e4)) + e5)))))
  else
   some (.inr (.inl mp3))
def punctualref_stackFault.r0 (K : Nat) (l0 : List SIns) : Nat × (List (Int × Int)) → Option ((Nat × (List (Int × Int))) ⊕ ((List (Int × Int)) ⊕ SFault))
 | (i1, mp1) =>
  if (i1 : Int) < (l0.length : Int) then
   match l0[i1]? with
   | none => none
   | some e1 =>
    if ((mget mp1 (i1 : Int)).isSome) = true then
     match punctualref_stackFault.p1 i1 mp1 e1 with
     | none => none
     | some (.inl _) =>
      if 0 ≤ e1.Op then
       match ([0, 0, 0, 1, 2, 2, 2, 2, 2, 0, 1, 0, 1, 0, 0, 0, 0, 0, 0] : List Int)[(e1.Op).toNat]? with
       | none => none
       | some e4 =>
        match ([0, 1, 1, 0, 1, 1, 1, 1, 1, 1, 0, 0, 0, 0, 0, 0, 0, 0, 0] : List Int)[(e1.Op).toNat]? with
        | none => none
        | some e5 =>
         match punctualref_stackFault.p2 e1 with
         | none => none
         | some (.inl m2) =>
          match punctualref_stackFault.p3 i1 e1 m2 with
          | none => none
          | some (.inl m4) =>
           match iter (punctualref_stackFault.r4 i1 mp1 e4 e5 m4) K (0, mp1) with
           | none => none
           | some (.inl mp5) =>
            some (.inl ((i1 + 1), mp5))
           | some (.inr rr1) =>
            some (.inr (.inr rr1))
          | some (.inr rr2) =>
           some (.inr (.inr rr2))
         | some (.inr rr3) =>
          some (.inr (.inr rr3))
      else
       none
     | some (.inr rr4) =>
      some (.inr (.inr rr4))
    else
     some (.inr (.inr (punctualref_F.f 7 (i1 : Int))))
  else
   some (.inr (.inl mp1))
def punctualref_stackFault.f (K : Nat) (l0 : List SIns) : Option SFault :=
 match iter (punctualref_stackFault.r0 K l0) K (0, (mset ([] : List (Int × Int)) 0 0)) with
 | none => none
 | some (.inl mp6) =>
  if ((mget mp6 (l0.length : Int)).getD 0) = 0 then
   some (⟨0, 0⟩ : SFault)
  else
   some (punctualref_F.f 8 (l0.length : Int))
 | some (.inr rr5) =>
  some rr5
abbrev punctualref_stackFault.A1 (w0 : World) (l0 : List SIns) (A0 : Option Addr) (c0 : Nat) (b1 : Nat) (b2 : Nat) (b3 : Nat) (b4 : Nat) (i1 : Nat) (mp1 : List (Int × Int)) (e1 : SIns) (b5 : Nat) : Unit → Act → World → Prop := fun (s : Unit) a w => St w0 w [Own.blk b5 (.cells #[vI e1.Op, vI e1.A, vI e1.B] 29 (0, 0)), Own.blk b4 (.cells #[vI 0, vI 1, vI 1, vI 0, vI 1, vI 1, vI 1, vI 1, vI 1, vI 1, vI 0, vI 0, vI 0, vI 0, vI 0, vI 0, vI 0, vI 0, vI 0] 3 (0, 0)), Own.blk b3 (.cells #[vI 0, vI 0, vI 0, vI 1, vI 2, vI 2, vI 2, vI 2, vI 2, vI 0, vI 1, vI 0, vI 1, vI 0, vI 0, vI 0, vI 0, vI 0, vI 0] 3 (0, 0)), Own.blk b1 (.cells #[vI 0, vI 0] 25 (0, 0)), Own.map (κ := Int) (ν := Int) b2 mp1] ∧ Frm 141 a [(0, .slice A0 l0.length c0), (2, pP b1 0), (3, .map (some b2)), (4, .slice (some ⟨b3, 0, none⟩) 19 19), (5, .slice (some ⟨b4, 0, none⟩) 19 19), (6, vI (i1 : Int)), (7, pP b5 0), (8, vI ((mget mp1 (i1 : Int)).getD 0)), (20, .slice A0 l0.length c0), (21, vI (l0.length : Int)), (22, vI (i1 : Int))]
abbrev punctualref_stackFault.B1 (w0 : World) : SFault → Exit → Act → World → Prop := Rets Tryd.prog Tryd.f34 (punctualref_stackFault.Post w0)
theorem punctualref_stackFault_p1 (K : Nat) (w0 : World) (l0 : List SIns) (A0 : Option Addr) (c0 : Nat) (hR0 : RdL w0 A0 l0) (hL0 : l0.length ≤ c0) (b1 : Nat) (b2 : Nat) (b3 : Nat) (b4 : Nat) (i1 : Nat) (mp1 : List (Int × Int)) (hc1 : (i1 : Int) < (l0.length : Int)) (e1 : SIns) (hx5 : l0[i1]? = some e1) (b5 : Nat) (hc2 : ((mget mp1 (i1 : Int)).isSome) = true) (o : Unit ⊕ SFault) (h : punctualref_stackFault.p1 i1 mp1 e1 = some o) (w : World) (hS : St w0 w [Own.blk b5 (.cells #[vI e1.Op, vI e1.A, vI e1.B] 29 (0, 0)), Own.blk b4 (.cells #[vI 0, vI 1, vI 1, vI 0, vI 1, vI 1, vI 1, vI 1, vI 1, vI 1, vI 0, vI 0, vI 0, vI 0, vI 0, vI 0, vI 0, vI 0, vI 0] 3 (0, 0)), Own.blk b3 (.cells #[vI 0, vI 0, vI 0, vI 1, vI 2, vI 2, vI 2, vI 2, vI 2, vI 0, vI 1, vI 0, vI 1, vI 0, vI 0, vI 0, vI 0, vI 0, vI 0] 3 (0, 0)), Own.blk b1 (.cells #[vI 0, vI 0] 25 (0, 0)), Own.map (κ := Int) (ν := Int) b2 mp1]) (Q : Exit → Act → World → Prop) (hQ : ∀ x a w, Outs (punctualref_stackFault.A1 w0 l0 A0 c0 b1 b2 b3 b4 i1 mp1 e1 b5) (punctualref_stackFault.B1 w0) o x a w → Q x a w) : WE Tryd.prog 141 (subF Tryd.f34 [1, 1, 1, 1, 0, 1, 0, 0, 1, 1, 0, 0, 1, 1, 1, 0]) Q [(0, .slice A0 l0.length c0), (2, pP b1 0), (3, .map (some b2)), (4, .slice (some ⟨b3, 0, none⟩) 19 19), (5, .slice (some ⟨b4, 0, none⟩) 19 19), (6, vI (i1 : Int)), (7, pP b5 0), (8, vI ((mget mp1 (i1 : Int)).getD 0)), (9, .bool ((mget mp1 (i1 : Int)).isSome)), (20, .slice A0 l0.length c0), (21, vI (l0.length : Int)), (22, vI (i1 : Int)), (23, .bool true), (24, vI (i1 : Int)), (25, .pointer (some ⟨blkOf A0, offOf A0 + i1 * 3, none⟩)), (26, .agg #[vI e1.Op, vI e1.A, vI e1.B]), (27, .tuple #[vI ((mget mp1 (i1 : Int)).getD 0), .bool ((mget mp1 (i1 : Int)).isSome)]), (28, .map (some b2)), (29, vI (i1 : Int)), (30, .tuple #[vI ((mget mp1 (i1 : Int)).getD 0), .bool ((mget mp1 (i1 : Int)).isSome)]), (31, vI ((mget mp1 (i1 : Int)).getD 0)), (32, .bool ((mget mp1 (i1 : Int)).isSome)), (33, .bool ((mget mp1 (i1 : Int)).isSome)), (34, .bool false)] w := by
 simp only [punctualref_stackFault.p1] at h
 refine ws fun K15 hK15 => ?_
 refine we_draws (by kernel_rfl) [(0, 0), (1, 0), (2, 0), (3, 0), (4, 0), (5, 0), (6, 0), (7, 0), (8, 0), (9, 0), (10, 0), (11, 0), (12, 0), (13, 0), (14, 0), (15, 0), (16, 0), (17, 0), (18, 0), (19, 0), (20, 0), (21, 0), (22, 0)] (by kernel_rfl) ?_
 have hS14 := hS.drew
 refine gb [0, 1, 2, 3] [(40, vI e1.Op), (39, pP b5 0), (38, .slice (some ⟨b3, 0, none⟩) 19 19), (37, vI ((mget mp1 (i1 : Int)).getD 0))] [.loaded ⟨b5, 0, none⟩ (vI e1.Op)] ⟨hS14.c 0, trivial⟩ ?_
 by_cases hc3 : 0 ≤ e1.Op
 ·rw [if_pos hc3] at h
  rcases hx7 : ([0, 0, 0, 1, 2, 2, 2, 2, 2, 0, 1, 0, 1, 0, 0, 0, 0, 0, 0] : List Int)[(e1.Op).toNat]? with _ | e2
  ·rw [hx7] at h; cases h
  rw [hx7] at h
  simp only [] at h
  refine gi 41 0 37 3 1 19 19 (.tmp 38) (.tmp 40) (some ⟨b3, 0, none⟩) .i64 e1.Op ((e1.Op).toNat) ((hS14.rdBlk 2 ([0, 0, 0, 1, 2, 2, 2, 2, 2, 0, 1, 0, 1, 0, 0, 0, 0, 0, 0] : List Int) rfl rfl rfl).eqSome (pos_of_get hx7)) (Int.toNat_of_nonneg hc3).symm (lt_of_get hx7) ?_
  refine gb [5, 6, 7] [(44, .bool (decide (((mget mp1 (i1 : Int)).getD 0) < e2))), (43, .bool (decide (((mget mp1 (i1 : Int)).getD 0) < e2))), (42, vI e2)] [.loaded ⟨blkOf (some ⟨b3, 0, none⟩), offOf (some ⟨b3, 0, none⟩) + ((e1.Op).toNat) * 1, none⟩ (vI e2)] ⟨RdL.cell (j := 0) (hS14.rdBlk 2 ([0, 0, 0, 1, 2, 2, 2, 2, 2, 0, 1, 0, 1, 0, 0, 0, 0, 0, 0] : List Int) rfl rfl rfl) hx7 rfl, trivial⟩ ?_
  by_cases hc4 : ((mget mp1 (i1 : Int)).getD 0) < e2
  ·rw [if_pos hc4] at h
   refine gk 44 (decide (((mget mp1 (i1 : Int)).getD 0) < e2)) true (decide_eq_true hc4) ?_
   refine gb0 [8, 9, 10, 11, 12, 13, 14, 15, 16, 17, 18, 19, 20, 21, 22] [(59, .bool true), (58, undef), (57, undef), (56, undef), (55, undef), (54, undef), (53, undef), (52, undef), (51, undef), (50, undef), (49, undef), (48, undef), (47, undef), (46, undef), (45, undef)] ?_
   refine gn hK15 ?_
   refine we_true (by kernel_rfl) ?_
   refine ws fun K16 hK16 => ?_
   refine wr [(0, 0), (1, 1), (2, 2)] ?_
   refine gb0 [0] [(60, vI (i1 : Int))] ?_
   refine ge_call (d := some 61) (f := 9) (args := #[vI 8, vI (i1 : Int)]) (by kernel_rfl) (punctualref_F_ok 8 (i1 : Int) _ _ rfl) ?_
   rintro _ w8 ⟨rfl, hS15⟩
   refine ⟨_, rfl, hS15.below, ?_⟩
   have hS16 := hS14.call hS15
   have hS17 := hS16.bring 3 rfl
   refine gs b1 0 #[vI 0, vI 0] 25 [vI ((punctualref_F.f 8 (i1 : Int)).Code), vI ((punctualref_F.f 8 (i1 : Int)).At)] hS17 fun w9 hS18 => ?_
   have hS19 : St w0 w9 [Own.blk b1 (.cells #[vI ((punctualref_F.f 8 (i1 : Int)).Code), vI ((punctualref_F.f 8 (i1 : Int)).At)] 25 (0, 0)), Own.blk b5 (.cells #[vI e1.Op, vI e1.A, vI e1.B] 29 (0, 0)), Own.blk b4 (.cells #[vI 0, vI 1, vI 1, vI 0, vI 1, vI 1, vI 1, vI 1, vI 1, vI 1, vI 0, vI 0, vI 0, vI 0, vI 0, vI 0, vI 0, vI 0, vI 0] 3 (0, 0)), Own.blk b3 (.cells #[vI 0, vI 0, vI 0, vI 1, vI 2, vI 2, vI 2, vI 2, vI 2, vI 0, vI 1, vI 0, vI 1, vI 0, vI 0, vI 0, vI 0, vI 0, vI 0] 3 (0, 0)), Own.map (κ := Int) (ν := Int) b2 mp1] := hS18
   refine gn hK16 ?_
   have hS20 := hS19.takeN 0
   obtain rfl := si h
   exact we_ret fun a hF => hQ _ _ _ (Outs.out nofun ⟨rfl, (pr [.cell 2 25] [.agg #[vI ((punctualref_F.f 8 (i1 : Int)).Code), vI ((punctualref_F.f 8 (i1 : Int)).At)]] [.loaded ⟨b1, 0, none⟩ (vI ((punctualref_F.f 8 (i1 : Int)).Code)), .loaded ⟨b1, 1, none⟩ (vI ((punctualref_F.f 8 (i1 : Int)).At))] ⟨hS19.c 0, hS19.c 0, trivial⟩ ⟨rfl, hS20⟩) a hF⟩)
  ·rw [if_neg hc4] at h
   refine gk 44 (decide (((mget mp1 (i1 : Int)).getD 0) < e2)) false (decide_eq_false hc4) ?_
   refine gb [8, 9, 10, 11] [(48, vI e1.Op), (47, pP b5 0), (46, .slice (some ⟨b3, 0, none⟩) 19 19), (45, vI ((mget mp1 (i1 : Int)).getD 0))] [.loaded ⟨b5, 0, none⟩ (vI e1.Op)] ⟨hS14.c 0, trivial⟩ ?_
   refine gi 49 0 37 3 1 19 19 (.tmp 46) (.tmp 48) (some ⟨b3, 0, none⟩) .i64 e1.Op ((e1.Op).toNat) ((hS14.rdBlk 2 ([0, 0, 0, 1, 2, 2, 2, 2, 2, 0, 1, 0, 1, 0, 0, 0, 0, 0, 0] : List Int) rfl rfl rfl).eqSome (pos_of_get hx7)) (Int.toNat_of_nonneg hc3).symm (lt_of_get hx7) ?_
   refine gb [13, 14, 15, 16, 17] [(54, vI e1.Op), (53, pP b5 0), (52, .slice (some ⟨b4, 0, none⟩) 19 19), (51, vI (IntKind.i64.wrap (((mget mp1 (i1 : Int)).getD 0) - e2))), (50, vI e2)] [.loaded ⟨blkOf (some ⟨b3, 0, none⟩), offOf (some ⟨b3, 0, none⟩) + ((e1.Op).toNat) * 1, none⟩ (vI e2), .loaded ⟨b5, 0, none⟩ (vI e1.Op)] ⟨RdL.cell (j := 0) (hS14.rdBlk 2 ([0, 0, 0, 1, 2, 2, 2, 2, 2, 0, 1, 0, 1, 0, 0, 0, 0, 0, 0] : List Int) rfl rfl rfl) hx7 rfl, hS14.c 0, trivial⟩ ?_
   rcases hx8 : ([0, 1, 1, 0, 1, 1, 1, 1, 1, 1, 0, 0, 0, 0, 0, 0, 0, 0, 0] : List Int)[(e1.Op).toNat]? with _ | e3
   ·rw [hx8] at h; cases h
   rw [hx8] at h
   simp only [] at h
   refine gi 55 0 37 3 1 19 19 (.tmp 52) (.tmp 54) (some ⟨b4, 0, none⟩) .i64 e1.Op ((e1.Op).toNat) ((hS14.rdBlk 1 ([0, 1, 1, 0, 1, 1, 1, 1, 1, 1, 0, 0, 0, 0, 0, 0, 0, 0, 0] : List Int) rfl rfl rfl).eqSome (pos_of_get hx8)) (Int.toNat_of_nonneg hc3).symm (lt_of_get hx8) ?_
   refine gb [19, 20, 21, 22] [(59, .bool (decide ((IntKind.i64.wrap ((IntKind.i64.wrap (((mget mp1 (i1 : Int)).getD 0) - e2)) + e3)) > 20))), (58, .bool (decide ((IntKind.i64.wrap ((IntKind.i64.wrap (((mget mp1 (i1 : Int)).getD 0) - e2)) + e3)) > 20))), (57, vI (IntKind.i64.wrap ((IntKind.i64.wrap (((mget mp1 (i1 : Int)).getD 0) - e2)) + e3))), (56, vI e3)] [.loaded ⟨blkOf (some ⟨b4, 0, none⟩), offOf (some ⟨b4, 0, none⟩) + ((e1.Op).toNat) * 1, none⟩ (vI e3)] ⟨RdL.cell (j := 0) (hS14.rdBlk 1 ([0, 1, 1, 0, 1, 1, 1, 1, 1, 1, 0, 0, 0, 0, 0, 0, 0, 0, 0] : List Int) rfl rfl rfl) hx8 rfl, trivial⟩ ?_
   refine gn hK15 ?_
   by_cases hc5 : (IntKind.i64.wrap ((IntKind.i64.wrap (((mget mp1 (i1 : Int)).getD 0) - e2)) + e3)) > 20
   ·rw [if_pos hc5] at h
    refine wk 59 (decide ((IntKind.i64.wrap ((IntKind.i64.wrap (((mget mp1 (i1 : Int)).getD 0) - e2)) + e3)) > 20)) true (decide_eq_true hc5) ?_
    refine we_true (by kernel_rfl) ?_
    refine ws fun K17 hK17 => ?_
    refine wr [(0, 0), (1, 1), (2, 2)] ?_
    refine gb0 [0] [(60, vI (i1 : Int))] ?_
    refine ge_call (d := some 61) (f := 9) (args := #[vI 8, vI (i1 : Int)]) (by kernel_rfl) (punctualref_F_ok 8 (i1 : Int) _ _ rfl) ?_
    rintro _ w10 ⟨rfl, hS21⟩
    refine ⟨_, rfl, hS21.below, ?_⟩
    have hS22 := hS14.call hS21
    have hS23 := hS22.bring 3 rfl
    refine gs b1 0 #[vI 0, vI 0] 25 [vI ((punctualref_F.f 8 (i1 : Int)).Code), vI ((punctualref_F.f 8 (i1 : Int)).At)] hS23 fun w11 hS24 => ?_
    have hS25 : St w0 w11 [Own.blk b1 (.cells #[vI ((punctualref_F.f 8 (i1 : Int)).Code), vI ((punctualref_F.f 8 (i1 : Int)).At)] 25 (0, 0)), Own.blk b5 (.cells #[vI e1.Op, vI e1.A, vI e1.B] 29 (0, 0)), Own.blk b4 (.cells #[vI 0, vI 1, vI 1, vI 0, vI 1, vI 1, vI 1, vI 1, vI 1, vI 1, vI 0, vI 0, vI 0, vI 0, vI 0, vI 0, vI 0, vI 0, vI 0] 3 (0, 0)), Own.blk b3 (.cells #[vI 0, vI 0, vI 0, vI 1, vI 2, vI 2, vI 2, vI 2, vI 2, vI 0, vI 1, vI 0, vI 1, vI 0, vI 0, vI 0, vI 0, vI 0, vI 0] 3 (0, 0)), Own.map (κ := Int) (ν := Int) b2 mp1] := hS24
    refine gn hK17 ?_
    have hS26 := hS25.takeN 0
    obtain rfl := si h
    exact we_ret fun a hF => hQ _ _ _ (Outs.out nofun ⟨rfl, (pr [.cell 2 25] [.agg #[vI ((punctualref_F.f 8 (i1 : Int)).Code), vI ((punctualref_F.f 8 (i1 : Int)).At)]] [.loaded ⟨b1, 0, none⟩ (vI ((punctualref_F.f 8 (i1 : Int)).Code)), .loaded ⟨b1, 1, none⟩ (vI ((punctualref_F.f 8 (i1 : Int)).At))] ⟨hS25.c 0, hS25.c 0, trivial⟩ ⟨rfl, hS26⟩) a hF⟩)
   ·rw [if_neg hc5] at h
    refine wk 59 (decide ((IntKind.i64.wrap ((IntKind.i64.wrap (((mget mp1 (i1 : Int)).getD 0) - e2)) + e3)) > 20)) false (decide_eq_false hc5) ?_
    refine we_false (by kernel_rfl) ?_
    have hS27 := hS14.bring 4 rfl
    have hS28 := hS27.bring 4 rfl
    have hS29 := hS28.bring 4 rfl
    have hS30 := hS29.bring 4 rfl
    have hS31 := hS30.bring 4 rfl
    obtain rfl := si h
    exact we_skip fun a hF => hQ _ _ _ (Outs.again ⟨hS31, hF.weaken ea⟩)
 ·rw [if_neg hc3] at h
  cases h
abbrev punctualref_stackFault.A2 (w0 : World) (l0 : List SIns) (A0 : Option Addr) (c0 : Nat) (b1 : Nat) (b2 : Nat) (b3 : Nat) (b4 : Nat) (i1 : Nat) (mp1 : List (Int × Int)) (e1 : SIns) (b5 : Nat) (e4 : Int) (e5 : Int) : (List Int) → Act → World → Prop := fun (s : (List Int)) a w => ∃ (v1 : Value), St w0 w [Own.blk b5 (.cells #[vI e1.Op, vI e1.A, vI e1.B] 29 (0, 0)), Own.blk b4 (.cells #[vI 0, vI 1, vI 1, vI 0, vI 1, vI 1, vI 1, vI 1, vI 1, vI 1, vI 0, vI 0, vI 0, vI 0, vI 0, vI 0, vI 0, vI 0, vI 0] 3 (0, 0)), Own.blk b3 (.cells #[vI 0, vI 0, vI 0, vI 1, vI 2, vI 2, vI 2, vI 2, vI 2, vI 0, vI 1, vI 0, vI 1, vI 0, vI 0, vI 0, vI 0, vI 0, vI 0] 3 (0, 0)), Own.blk b1 (.cells #[vI 0, vI 0] 25 (0, 0)), Own.of v1 3 s, Own.map (κ := Int) (ν := Int) b2 mp1] ∧ Frm 141 a [(0, .slice A0 l0.length c0), (2, pP b1 0), (3, .map (some b2)), (4, .slice (some ⟨b3, 0, none⟩) 19 19), (5, .slice (some ⟨b4, 0, none⟩) 19 19), (6, vI (i1 : Int)), (7, pP b5 0), (8, vI (IntKind.i64.wrap ((IntKind.i64.wrap (((mget mp1 (i1 : Int)).getD 0) - e4)) + e5))), (10, v1), (20, .slice A0 l0.length c0), (21, vI (l0.length : Int)), (22, vI (i1 : Int))]
abbrev punctualref_stackFault.B2 (w0 : World) : SFault → Exit → Act → World → Prop := Rets Tryd.prog Tryd.f34 (punctualref_stackFault.Post w0)
theorem punctualref_stackFault_p2 (K : Nat) (w0 : World) (l0 : List SIns) (A0 : Option Addr) (c0 : Nat) (hR0 : RdL w0 A0 l0) (hL0 : l0.length ≤ c0) (b1 : Nat) (b2 : Nat) (b3 : Nat) (b4 : Nat) (i1 : Nat) (mp1 : List (Int × Int)) (hc1 : (i1 : Int) < (l0.length : Int)) (e1 : SIns) (hx5 : l0[i1]? = some e1) (b5 : Nat) (hc2 : ((mget mp1 (i1 : Int)).isSome) = true) (hc6 : 0 ≤ e1.Op) (e4 : Int) (hx9 : ([0, 0, 0, 1, 2, 2, 2, 2, 2, 0, 1, 0, 1, 0, 0, 0, 0, 0, 0] : List Int)[(e1.Op).toNat]? = some e4) (e5 : Int) (hx10 : ([0, 1, 1, 0, 1, 1, 1, 1, 1, 1, 0, 0, 0, 0, 0, 0, 0, 0, 0] : List Int)[(e1.Op).toNat]? = some e5) (o : (List Int) ⊕ SFault) (h : punctualref_stackFault.p2 e1 = some o) (w : World) (hS : St w0 w [Own.blk b5 (.cells #[vI e1.Op, vI e1.A, vI e1.B] 29 (0, 0)), Own.blk b4 (.cells #[vI 0, vI 1, vI 1, vI 0, vI 1, vI 1, vI 1, vI 1, vI 1, vI 1, vI 0, vI 0, vI 0, vI 0, vI 0, vI 0, vI 0, vI 0, vI 0] 3 (0, 0)), Own.blk b3 (.cells #[vI 0, vI 0, vI 0, vI 1, vI 2, vI 2, vI 2, vI 2, vI 2, vI 0, vI 1, vI 0, vI 1, vI 0, vI 0, vI 0, vI 0, vI 0, vI 0] 3 (0, 0)), Own.blk b1 (.cells #[vI 0, vI 0] 25 (0, 0)), Own.map (κ := Int) (ν := Int) b2 mp1]) (Q : Exit → Act → World → Prop) (hQ : ∀ x a w, Outs (punctualref_stackFault.A2 w0 l0 A0 c0 b1 b2 b3 b4 i1 mp1 e1 b5 e4 e5) (punctualref_stackFault.B2 w0) o x a w → Q x a w) : WE Tryd.prog 141 (subF Tryd.f34 [1, 1, 1, 1, 0, 1, 0, 0, 1, 1, 0, 0, 1, 1, 1, 1, 1, 1, 0]) Q [(0, .slice A0 l0.length c0), (2, pP b1 0), (3, .map (some b2)), (4, .slice (some ⟨b3, 0, none⟩) 19 19), (5, .slice (some ⟨b4, 0, none⟩) 19 19), (6, vI (i1 : Int)), (7, pP b5 0), (8, vI (IntKind.i64.wrap ((IntKind.i64.wrap (((mget mp1 (i1 : Int)).getD 0) - e4)) + e5))), (10, .slice none 0 0), (20, .slice A0 l0.length c0), (21, vI (l0.length : Int)), (22, vI (i1 : Int)), (62, vI ((mget mp1 (i1 : Int)).getD 0)), (63, .slice (some ⟨b3, 0, none⟩) 19 19), (64, pP b5 0), (65, vI e1.Op), (66, .pointer (some ⟨blkOf (some ⟨b3, 0, none⟩), offOf (some ⟨b3, 0, none⟩) + (e1.Op).toNat * 1, none⟩)), (67, vI e4), (68, vI (IntKind.i64.wrap (((mget mp1 (i1 : Int)).getD 0) - e4))), (69, .slice (some ⟨b4, 0, none⟩) 19 19), (70, pP b5 0), (71, vI e1.Op), (72, .pointer (some ⟨blkOf (some ⟨b4, 0, none⟩), offOf (some ⟨b4, 0, none⟩) + (e1.Op).toNat * 1, none⟩)), (73, vI e5), (74, vI (IntKind.i64.wrap ((IntKind.i64.wrap (((mget mp1 (i1 : Int)).getD 0) - e4)) + e5)))] w := by
 simp only [punctualref_stackFault.p2] at h
 refine ws fun K21 hK21 => ?_
 refine wr [(0, 0), (1, 0), (2, 0), (3, 0), (4, 0), (5, 0), (6, 0), (7, 0), (8, 0), (9, 0), (10, 0), (11, 0), (12, 0)] ?_
 refine gb [0, 1, 2, 3] [(78, .bool (e1.Op == 11)), (77, .bool (e1.Op == 11)), (76, vI e1.Op), (75, pP b5 0)] [.loaded ⟨b5, 0, none⟩ (vI e1.Op)] ⟨hS.c 0, trivial⟩ ?_
 by_cases hc7 : e1.Op = 11
 ·rw [if_pos hc7] at h
  refine gk 78 (e1.Op == 11) true (beq_iff_eq.2 hc7) ?_
  refine gb0 [4, 5, 6, 7, 8, 9, 10, 11, 12] [(87, .bool true), (86, undef), (85, undef), (84, undef), (83, .bool true), (82, .bool true), (81, undef), (80, undef), (79, undef)] ?_
  refine gn hK21 ?_
  refine we_true (by kernel_rfl) ?_
  refine ws fun K22 hK22 => ?_
  refine wr [(0, 0), (1, 0), (2, 0)] ?_
  refine gb [0, 1, 2] [(11, vI e1.A), (89, vI e1.A), (88, pP b5 1)] [.loaded ⟨b5, 1, none⟩ (vI e1.A)] ⟨hS.c 0, trivial⟩ ?_
  refine gn hK22 ?_
  refine ws fun K23 hK23 => ?_
  refine ws fun K24 hK24 => ?_
  refine wr [(0, 0), (1, 0), (2, 0)] ?_
  refine gb [0, 1, 2] [(92, .bool (e1.Op == 14)), (91, vI e1.Op), (90, pP b5 0)] [.loaded ⟨b5, 0, none⟩ (vI e1.Op)] ⟨hS.c 0, trivial⟩ ?_
  refine gn hK24 ?_
  by_cases hc8 : e1.Op = 14
  ·rw [if_pos hc8] at h
   refine wk 92 (e1.Op == 14) true (beq_iff_eq.2 hc8) ?_
   refine we_true (by kernel_rfl) ?_
   refine wr [(0, 0), (1, 0), (2, 0)] ?_
   refine gb [0, 1, 2] [(11, vI e1.B), (94, vI e1.B), (93, pP b5 2)] [.loaded ⟨b5, 2, none⟩ (vI e1.B)] ⟨hS.c 0, trivial⟩ ?_
   refine gn hK23 ?_
   refine wr [(0, 0), (1, 0), (2, 1), (3, 2), (4, 0)] ?_
   refine gb0 [0, 1] [(96, vI e1.B), (95, .slice none 0 0)] ?_
   refine gw (some 97) (.cells #[vI e1.B] 3) (fun b => .slice (some ⟨b, 0, none⟩) 1 1) hS fun b6 w13 hx11 hS34 => ?_
   have hS35 := hS34.nil (α := Int) 3
   have hS36 := hS35.bring 1 rfl
   have hS37 := hS36.bring 1 rfl
   by_cases hc9 : ([] : List Int).length < 17592186044416
   ·rw [if_pos hc9] at h
    refine ge_append (α := Int) (m := 0) (d := 98) (t := 37) (el := 3) (bytes := 8) (c1 := 1) (b1 := b6) (x := (.tmp 95)) (y := (.tmp 97)) (ty := 37) (v := (.slice none 0 0)) (z := vI 0) (l := ([] : List Int)) (u := e1.B) (by kernel_rfl) (by kernel_rfl) (by kernel_rfl) (by kernel_rfl) (by kernel_rfl) rfl hS37 rfl (by omega) fun v2 w14 hS38 => ?_
    refine gb0 [4] [(10, v2)] ?_
    have hS39 := hS38.bring 5 rfl
    have hS40 := hS39.bring 1 rfl
    have hS41 := hS40.bring 5 rfl
    have hS42 := hS41.bring 5 rfl
    have hS43 := hS42.bring 5 rfl
    have hS44 := hS43.bring 5 rfl
    obtain rfl := si h
    exact ge_nil fun a hF => hQ _ _ _ (Outs.again ⟨v2, hS44, hF.weaken ea⟩)
   ·rw [if_neg hc9] at h
    cases h
  ·rw [if_neg hc8] at h
   refine wk 92 (e1.Op == 14) false (beq_eq_false_iff_ne.2 hc8) ?_
   refine we_false (by kernel_rfl) ?_
   refine we_skip fun a hF => hK23 _ _ ?_ a hF
   refine wr [(0, 0), (1, 0), (2, 1), (3, 2), (4, 0)] ?_
   refine gb0 [0, 1] [(96, vI e1.A), (95, .slice none 0 0)] ?_
   refine gw (some 97) (.cells #[vI e1.A] 3) (fun b => .slice (some ⟨b, 0, none⟩) 1 1) hS fun b7 w15 hx12 hS45 => ?_
   have hS46 := hS45.nil (α := Int) 3
   have hS47 := hS46.bring 1 rfl
   have hS48 := hS47.bring 1 rfl
   by_cases hc10 : ([] : List Int).length < 17592186044416
   ·rw [if_pos hc10] at h
    refine ge_append (α := Int) (m := 0) (d := 98) (t := 37) (el := 3) (bytes := 8) (c1 := 1) (b1 := b7) (x := (.tmp 95)) (y := (.tmp 97)) (ty := 37) (v := (.slice none 0 0)) (z := vI 0) (l := ([] : List Int)) (u := e1.A) (by kernel_rfl) (by kernel_rfl) (by kernel_rfl) (by kernel_rfl) (by kernel_rfl) rfl hS48 rfl (by omega) fun v3 w16 hS49 => ?_
    refine gb0 [4] [(10, v3)] ?_
    have hS50 := hS49.bring 5 rfl
    have hS51 := hS50.bring 1 rfl
    have hS52 := hS51.bring 5 rfl
    have hS53 := hS52.bring 5 rfl
    have hS54 := hS53.bring 5 rfl
    have hS55 := hS54.bring 5 rfl
    obtain rfl := si h
    exact ge_nil fun a hF => hQ _ _ _ (Outs.again ⟨v3, hS55, hF.weaken ea⟩)
   ·rw [if_neg hc10] at h
    cases h
 ·rw [if_neg hc7] at h
  refine gk 78 (e1.Op == 11) false (beq_eq_false_iff_ne.2 hc7) ?_
  refine gb [4, 5, 6, 7, 8] [(83, .bool (e1.Op == 12)), (82, .bool (e1.Op == 12)), (81, .bool (e1.Op == 12)), (80, vI e1.Op), (79, pP b5 0)] [.loaded ⟨b5, 0, none⟩ (vI e1.Op)] ⟨hS.c 0, trivial⟩ ?_
  by_cases hc11 : e1.Op = 12
  ·rw [if_pos hc11] at h
   refine gk 83 (e1.Op == 12) true (beq_iff_eq.2 hc11) ?_
   refine gb0 [9, 10, 11, 12] [(87, .bool true), (86, undef), (85, undef), (84, undef)] ?_
   refine gn hK21 ?_
   refine we_true (by kernel_rfl) ?_
   refine ws fun K25 hK25 => ?_
   refine wr [(0, 0), (1, 0), (2, 0)] ?_
   refine gb [0, 1, 2] [(11, vI e1.A), (89, vI e1.A), (88, pP b5 1)] [.loaded ⟨b5, 1, none⟩ (vI e1.A)] ⟨hS.c 0, trivial⟩ ?_
   refine gn hK25 ?_
   refine ws fun K26 hK26 => ?_
   refine ws fun K27 hK27 => ?_
   refine wr [(0, 0), (1, 0), (2, 0)] ?_
   refine gb [0, 1, 2] [(92, .bool (e1.Op == 14)), (91, vI e1.Op), (90, pP b5 0)] [.loaded ⟨b5, 0, none⟩ (vI e1.Op)] ⟨hS.c 0, trivial⟩ ?_
   refine gn hK27 ?_
   by_cases hc12 : e1.Op = 14
   ·rw [if_pos hc12] at h
    refine wk 92 (e1.Op == 14) true (beq_iff_eq.2 hc12) ?_
    refine we_true (by kernel_rfl) ?_
    refine wr [(0, 0), (1, 0), (2, 0)] ?_
    refine gb [0, 1, 2] [(11, vI e1.B), (94, vI e1.B), (93, pP b5 2)] [.loaded ⟨b5, 2, none⟩ (vI e1.B)] ⟨hS.c 0, trivial⟩ ?_
    refine gn hK26 ?_
    refine wr [(0, 0), (1, 0), (2, 1), (3, 2), (4, 0)] ?_
    refine gb0 [0, 1] [(96, vI e1.B), (95, .slice none 0 0)] ?_
    refine gw (some 97) (.cells #[vI e1.B] 3) (fun b => .slice (some ⟨b, 0, none⟩) 1 1) hS fun b8 w17 hx13 hS56 => ?_
    have hS57 := hS56.nil (α := Int) 3
    have hS58 := hS57.bring 1 rfl
    have hS59 := hS58.bring 1 rfl
    by_cases hc13 : ([] : List Int).length < 17592186044416
    ·rw [if_pos hc13] at h
     refine ge_append (α := Int) (m := 0) (d := 98) (t := 37) (el := 3) (bytes := 8) (c1 := 1) (b1 := b8) (x := (.tmp 95)) (y := (.tmp 97)) (ty := 37) (v := (.slice none 0 0)) (z := vI 0) (l := ([] : List Int)) (u := e1.B) (by kernel_rfl) (by kernel_rfl) (by kernel_rfl) (by kernel_rfl) (by kernel_rfl) rfl hS59 rfl (by omega) fun v4 w18 hS60 => ?_
     refine gb0 [4] [(10, v4)] ?_
     have hS61 := hS60.bring 5 rfl
     have hS62 := hS61.bring 1 rfl
     have hS63 := hS62.bring 5 rfl
     have hS64 := hS63.bring 5 rfl
     have hS65 := hS64.bring 5 rfl
     have hS66 := hS65.bring 5 rfl
     obtain rfl := si h
     exact ge_nil fun a hF => hQ _ _ _ (Outs.again ⟨v4, hS66, hF.weaken ea⟩)
    ·rw [if_neg hc13] at h
     cases h
   ·rw [if_neg hc12] at h
    refine wk 92 (e1.Op == 14) false (beq_eq_false_iff_ne.2 hc12) ?_
    refine we_false (by kernel_rfl) ?_
    refine we_skip fun a hF => hK26 _ _ ?_ a hF
    refine wr [(0, 0), (1, 0), (2, 1), (3, 2), (4, 0)] ?_
    refine gb0 [0, 1] [(96, vI e1.A), (95, .slice none 0 0)] ?_
    refine gw (some 97) (.cells #[vI e1.A] 3) (fun b => .slice (some ⟨b, 0, none⟩) 1 1) hS fun b9 w19 hx14 hS67 => ?_
    have hS68 := hS67.nil (α := Int) 3
    have hS69 := hS68.bring 1 rfl
    have hS70 := hS69.bring 1 rfl
    by_cases hc14 : ([] : List Int).length < 17592186044416
    ·rw [if_pos hc14] at h
     refine ge_append (α := Int) (m := 0) (d := 98) (t := 37) (el := 3) (bytes := 8) (c1 := 1) (b1 := b9) (x := (.tmp 95)) (y := (.tmp 97)) (ty := 37) (v := (.slice none 0 0)) (z := vI 0) (l := ([] : List Int)) (u := e1.A) (by kernel_rfl) (by kernel_rfl) (by kernel_rfl) (by kernel_rfl) (by kernel_rfl) rfl hS70 rfl (by omega) fun v5 w20 hS71 => ?_
     refine gb0 [4] [(10, v5)] ?_
     have hS72 := hS71.bring 5 rfl
     have hS73 := hS72.bring 1 rfl
     have hS74 := hS73.bring 5 rfl
     have hS75 := hS74.bring 5 rfl
     have hS76 := hS75.bring 5 rfl
     have hS77 := hS76.bring 5 rfl
     obtain rfl := si h
     exact ge_nil fun a hF => hQ _ _ _ (Outs.again ⟨v5, hS77, hF.weaken ea⟩)
    ·rw [if_neg hc14] at h
     cases h
  ·rw [if_neg hc11] at h
   refine gk 83 (e1.Op == 12) false (beq_eq_false_iff_ne.2 hc11) ?_
   refine gb [9, 10, 11, 12] [(87, .bool (e1.Op == 14)), (86, .bool (e1.Op == 14)), (85, vI e1.Op), (84, pP b5 0)] [.loaded ⟨b5, 0, none⟩ (vI e1.Op)] ⟨hS.c 0, trivial⟩ ?_
   refine gn hK21 ?_
   by_cases hc15 : e1.Op = 14
   ·rw [if_pos hc15] at h
    refine wk 87 (e1.Op == 14) true (beq_iff_eq.2 hc15) ?_
    refine we_true (by kernel_rfl) ?_
    refine ws fun K28 hK28 => ?_
    refine wr [(0, 0), (1, 0), (2, 0)] ?_
    refine gb [0, 1, 2] [(11, vI e1.A), (89, vI e1.A), (88, pP b5 1)] [.loaded ⟨b5, 1, none⟩ (vI e1.A)] ⟨hS.c 0, trivial⟩ ?_
    refine gn hK28 ?_
    refine ws fun K29 hK29 => ?_
    refine ws fun K30 hK30 => ?_
    refine wr [(0, 0), (1, 0), (2, 0)] ?_
    refine gb [0, 1, 2] [(92, .bool (e1.Op == 14)), (91, vI e1.Op), (90, pP b5 0)] [.loaded ⟨b5, 0, none⟩ (vI e1.Op)] ⟨hS.c 0, trivial⟩ ?_
    refine gn hK30 ?_
    refine wk 92 (e1.Op == 14) true (beq_iff_eq.2 hc15) ?_
    refine we_true (by kernel_rfl) ?_
    refine wr [(0, 0), (1, 0), (2, 0)] ?_
    refine gb [0, 1, 2] [(11, vI e1.B), (94, vI e1.B), (93, pP b5 2)] [.loaded ⟨b5, 2, none⟩ (vI e1.B)] ⟨hS.c 0, trivial⟩ ?_
    refine gn hK29 ?_
    refine wr [(0, 0), (1, 0), (2, 1), (3, 2), (4, 0)] ?_
    refine gb0 [0, 1] [(96, vI e1.B), (95, .slice none 0 0)] ?_
    refine gw (some 97) (.cells #[vI e1.B] 3) (fun b => .slice (some ⟨b, 0, none⟩) 1 1) hS fun b10 w21 hx15 hS78 => ?_
    have hS79 := hS78.nil (α := Int) 3
    have hS80 := hS79.bring 1 rfl
    have hS81 := hS80.bring 1 rfl
    by_cases hc16 : ([] : List Int).length < 17592186044416
    ·rw [if_pos hc16] at h
     refine ge_append (α := Int) (m := 0) (d := 98) (t := 37) (el := 3) (bytes := 8) (c1 := 1) (b1 := b10) (x := (.tmp 95)) (y := (.tmp 97)) (ty := 37) (v := (.slice none 0 0)) (z := vI 0) (l := ([] : List Int)) (u := e1.B) (by kernel_rfl) (by kernel_rfl) (by kernel_rfl) (by kernel_rfl) (by kernel_rfl) rfl hS81 rfl (by omega) fun v6 w22 hS82 => ?_
     refine gb0 [4] [(10, v6)] ?_
     have hS83 := hS82.bring 5 rfl
     have hS84 := hS83.bring 1 rfl
     have hS85 := hS84.bring 5 rfl
     have hS86 := hS85.bring 5 rfl
     have hS87 := hS86.bring 5 rfl
     have hS88 := hS87.bring 5 rfl
     obtain rfl := si h
     exact ge_nil fun a hF => hQ _ _ _ (Outs.again ⟨v6, hS88, hF.weaken ea⟩)
    ·rw [if_neg hc16] at h
     cases h
   ·rw [if_neg hc15] at h
    refine wk 87 (e1.Op == 14) false (beq_eq_false_iff_ne.2 hc15) ?_
    refine we_false (by kernel_rfl) ?_
    have hS89 := hS.nil (α := Int) 3
    have hS90 := hS89.bring 5 rfl
    have hS91 := hS90.bring 1 rfl
    have hS92 := hS91.bring 5 rfl
    have hS93 := hS92.bring 5 rfl
    have hS94 := hS93.bring 5 rfl
    have hS95 := hS94.bring 5 rfl
    obtain rfl := si h
    exact we_skip fun a hF => hQ _ _ _ (Outs.again ⟨(.slice none 0 0), hS95, hF.weaken ea⟩)
abbrev punctualref_stackFault.A3 (w0 : World) (l0 : List SIns) (A0 : Option Addr) (c0 : Nat) (b1 : Nat) (b2 : Nat) (b3 : Nat) (b4 : Nat) (i1 : Nat) (mp1 : List (Int × Int)) (e4 : Int) (e5 : Int) : (List Int) → Act → World → Prop := fun (s : (List Int)) a w => ∃ (v8 : Value), St w0 w [Own.blk b4 (.cells #[vI 0, vI 1, vI 1, vI 0, vI 1, vI 1, vI 1, vI 1, vI 1, vI 1, vI 0, vI 0, vI 0, vI 0, vI 0, vI 0, vI 0, vI 0, vI 0] 3 (0, 0)), Own.blk b3 (.cells #[vI 0, vI 0, vI 0, vI 1, vI 2, vI 2, vI 2, vI 2, vI 2, vI 0, vI 1, vI 0, vI 1, vI 0, vI 0, vI 0, vI 0, vI 0, vI 0] 3 (0, 0)), Own.blk b1 (.cells #[vI 0, vI 0] 25 (0, 0)), Own.of v8 3 s, Own.map (κ := Int) (ν := Int) b2 mp1] ∧ Frm 141 a [(0, .slice A0 l0.length c0), (2, pP b1 0), (3, .map (some b2)), (4, .slice (some ⟨b3, 0, none⟩) 19 19), (5, .slice (some ⟨b4, 0, none⟩) 19 19), (6, vI (i1 : Int)), (8, vI (IntKind.i64.wrap ((IntKind.i64.wrap (((mget mp1 (i1 : Int)).getD 0) - e4)) + e5))), (10, v8), (20, .slice A0 l0.length c0), (21, vI (l0.length : Int)), (22, vI (i1 : Int))]
abbrev punctualref_stackFault.B3 (w0 : World) : SFault → Exit → Act → World → Prop := Rets Tryd.prog Tryd.f34 (punctualref_stackFault.Post w0)
theorem punctualref_stackFault_p3 (K : Nat) (w0 : World) (l0 : List SIns) (A0 : Option Addr) (c0 : Nat) (hR0 : RdL w0 A0 l0) (hL0 : l0.length ≤ c0) (b1 : Nat) (b2 : Nat) (b3 : Nat) (b4 : Nat) (i1 : Nat) (mp1 : List (Int × Int)) (hc1 : (i1 : Int) < (l0.length : Int)) (e1 : SIns) (hx5 : l0[i1]? = some e1) (b5 : Nat) (hc2 : ((mget mp1 (i1 : Int)).isSome) = true) (hc6 : 0 ≤ e1.Op) (e4 : Int) (hx9 : ([0, 0, 0, 1, 2, 2, 2, 2, 2, 0, 1, 0, 1, 0, 0, 0, 0, 0, 0] : List Int)[(e1.Op).toNat]? = some e4) (e5 : Int) (hx10 : ([0, 1, 1, 0, 1, 1, 1, 1, 1, 1, 0, 0, 0, 0, 0, 0, 0, 0, 0] : List Int)[(e1.Op).toNat]? = some e5) (m2 : List Int) (Z1 : Option Addr) (cz1 : Nat) (o : (List Int) ⊕ SFault) (h : punctualref_stackFault.p3 i1 e1 m2 = some o) (w : World) (hS : St w0 w [Own.blk b5 (.cells #[vI e1.Op, vI e1.A, vI e1.B] 29 (0, 0)), Own.blk b4 (.cells #[vI 0, vI 1, vI 1, vI 0, vI 1, vI 1, vI 1, vI 1, vI 1, vI 1, vI 0, vI 0, vI 0, vI 0, vI 0, vI 0, vI 0, vI 0, vI 0] 3 (0, 0)), Own.blk b3 (.cells #[vI 0, vI 0, vI 0, vI 1, vI 2, vI 2, vI 2, vI 2, vI 2, vI 0, vI 1, vI 0, vI 1, vI 0, vI 0, vI 0, vI 0, vI 0, vI 0] 3 (0, 0)), Own.blk b1 (.cells #[vI 0, vI 0] 25 (0, 0)), Own.of (.slice Z1 m2.length cz1) 3 m2, Own.map (κ := Int) (ν := Int) b2 mp1]) (Q : Exit → Act → World → Prop) (hQ : ∀ x a w, Outs (punctualref_stackFault.A3 w0 l0 A0 c0 b1 b2 b3 b4 i1 mp1 e4 e5) (punctualref_stackFault.B3 w0) o x a w → Q x a w) : WE Tryd.prog 141 (subF Tryd.f34 [1, 1, 1, 1, 0, 1, 0, 0, 1, 1, 0, 0, 1, 1, 1, 1, 1, 1, 1, 0]) Q [(0, .slice A0 l0.length c0), (2, pP b1 0), (3, .map (some b2)), (4, .slice (some ⟨b3, 0, none⟩) 19 19), (5, .slice (some ⟨b4, 0, none⟩) 19 19), (6, vI (i1 : Int)), (7, pP b5 0), (8, vI (IntKind.i64.wrap ((IntKind.i64.wrap (((mget mp1 (i1 : Int)).getD 0) - e4)) + e5))), (10, (.slice Z1 m2.length cz1)), (20, .slice A0 l0.length c0), (21, vI (l0.length : Int)), (22, vI (i1 : Int))] w := by
 simp only [punctualref_stackFault.p3] at h
 refine ws fun K32 hK32 => ?_
 refine wr [(0, 0), (1, 0), (2, 0)] ?_
 refine gb [0, 1, 2] [(101, .bool (e1.Op != 11)), (100, vI e1.Op), (99, pP b5 0)] [.loaded ⟨b5, 0, none⟩ (vI e1.Op)] ⟨hS.c 0, trivial⟩ ?_
 refine gn hK32 ?_
 by_cases hc17 : e1.Op = 11
 ·rw [if_pos hc17] at h
  refine wk 101 (e1.Op != 11) false (bne_eq_false_iff_eq.2 hc17) ?_
  refine we_false (by kernel_rfl) ?_
  have hS97 := hS.bring 5 rfl
  have hS98 := hS97.bring 5 rfl
  have hS99 := hS98.bring 5 rfl
  have hS100 := hS99.bring 5 rfl
  have hS101 := hS100.bring 5 rfl
  have hS102 := hS101.takeN 5
  obtain rfl := si h
  exact we_skip fun a hF => hQ _ _ _ (Outs.again ⟨(.slice Z1 m2.length cz1), hS102, hF.weaken ea⟩)
 ·rw [if_neg hc17] at h
  refine wk 101 (e1.Op != 11) true (bne_iff_ne.2 hc17) ?_
  refine we_true (by kernel_rfl) ?_
  refine wr [(0, 0), (1, 0), (2, 0), (3, 1), (4, 2), (5, 0)] ?_
  refine gb0 [0, 1] [(103, vI (i1 : Int)), (102, (.slice Z1 m2.length cz1))] ?_
  refine ge_addn (d := 104) (ty := 3) (x := (.tmp 103)) (y := (.const (vI 1))) (t := 3) (t2 := 3) (k := .i64) (m := i1) (by kernel_rfl) (by kernel_rfl) (by kernel_rfl) (by have h0 := hR0.small; omega) ?_
  refine gw (some 105) (.cells #[vI ((i1 + 1 : Nat) : Int)] 3) (fun b => .slice (some ⟨b, 0, none⟩) 1 1) hS fun b11 w24 hx16 hS103 => ?_
  have hS104 := hS103.bring 5 rfl
  by_cases hc18 : m2.length < 17592186044416
  ·rw [if_pos hc18] at h
   refine ge_append (α := Int) (m := 0) (d := 106) (t := 37) (el := 3) (bytes := 8) (c1 := 1) (b1 := b11) (x := (.tmp 102)) (y := (.tmp 105)) (ty := 37) (v := (.slice Z1 m2.length cz1)) (z := vI 0) (l := m2) (u := ((i1 + 1 : Nat) : Int)) (by kernel_rfl) (by kernel_rfl) (by kernel_rfl) (by kernel_rfl) (by kernel_rfl) rfl hS104 rfl (by omega) fun v9 w25 hS105 => ?_
   refine gb0 [5] [(10, v9)] ?_
   have hS106 := hS105.bring 5 rfl
   have hS107 := hS106.bring 1 rfl
   have hS108 := hS107.bring 5 rfl
   have hS109 := hS108.bring 5 rfl
   have hS110 := hS109.bring 5 rfl
   have hS111 := hS110.takeN 5
   obtain rfl := si h
   exact ge_nil fun a hF => hQ _ _ _ (Outs.again ⟨v9, hS111, hF.weaken ea⟩)
  ·rw [if_neg hc18] at h
   cases h
abbrev punctualref_stackFault.A4 (w0 : World) (l0 : List SIns) (A0 : Option Addr) (c0 : Nat) (b1 : Nat) (b2 : Nat) (b3 : Nat) (b4 : Nat) (i1 : Nat) (mp1 : List (Int × Int)) (e4 : Int) (e5 : Int) (m4 : List Int) (Z2 : Option Addr) (cz2 : Nat) : (Nat × (List (Int × Int))) → Act → World → Prop := fun (s : Nat × (List (Int × Int))) a w => St w0 w [Own.blk b4 (.cells #[vI 0, vI 1, vI 1, vI 0, vI 1, vI 1, vI 1, vI 1, vI 1, vI 1, vI 0, vI 0, vI 0, vI 0, vI 0, vI 0, vI 0, vI 0, vI 0] 3 (0, 0)), Own.blk b3 (.cells #[vI 0, vI 0, vI 0, vI 1, vI 2, vI 2, vI 2, vI 2, vI 2, vI 0, vI 1, vI 0, vI 1, vI 0, vI 0, vI 0, vI 0, vI 0, vI 0] 3 (0, 0)), Own.blk b1 (.cells #[vI 0, vI 0] 25 (0, 0)), Own.of (.slice Z2 m4.length cz2) 3 m4, Own.map (κ := Int) (ν := Int) b2 s.2] ∧ Frm 141 a [(0, .slice A0 l0.length c0), (2, pP b1 0), (3, .map (some b2)), (4, .slice (some ⟨b3, 0, none⟩) 19 19), (5, .slice (some ⟨b4, 0, none⟩) 19 19), (6, vI (i1 : Int)), (8, vI (IntKind.i64.wrap ((IntKind.i64.wrap (((mget mp1 (i1 : Int)).getD 0) - e4)) + e5))), (20, .slice A0 l0.length c0), (21, vI (l0.length : Int)), (22, vI (i1 : Int)), (107, (.slice Z2 m4.length cz2)), (108, vI (m4.length : Int)), (109, vI (s.1 : Int))]
abbrev punctualref_stackFault.B4 (w0 : World) (l0 : List SIns) (A0 : Option Addr) (c0 : Nat) (b1 : Nat) (b2 : Nat) (b3 : Nat) (b4 : Nat) (i1 : Nat) : ((List (Int × Int)) ⊕ SFault) → Exit → Act → World → Prop := Exits 2 (fun (s : (List (Int × Int))) a w => St w0 w [Own.blk b4 (.cells #[vI 0, vI 1, vI 1, vI 0, vI 1, vI 1, vI 1, vI 1, vI 1, vI 1, vI 0, vI 0, vI 0, vI 0, vI 0, vI 0, vI 0, vI 0, vI 0] 3 (0, 0)), Own.blk b3 (.cells #[vI 0, vI 0, vI 0, vI 1, vI 2, vI 2, vI 2, vI 2, vI 2, vI 0, vI 1, vI 0, vI 1, vI 0, vI 0, vI 0, vI 0, vI 0, vI 0] 3 (0, 0)), Own.blk b1 (.cells #[vI 0, vI 0] 25 (0, 0)), Own.map (κ := Int) (ν := Int) b2 s] ∧ Frm 141 a [(0, .slice A0 l0.length c0), (2, pP b1 0), (3, .map (some b2)), (4, .slice (some ⟨b3, 0, none⟩) 19 19), (5, .slice (some ⟨b4, 0, none⟩) 19 19), (20, .slice A0 l0.length c0), (21, vI (l0.length : Int)), (22, vI (i1 : Int))]) (Rets Tryd.prog Tryd.f34 (punctualref_stackFault.Post w0))
theorem punctualref_stackFault_r4 (K : Nat) (w0 : World) (l0 : List SIns) (A0 : Option Addr) (c0 : Nat) (hR0 : RdL w0 A0 l0) (hL0 : l0.length ≤ c0) (b1 : Nat) (b2 : Nat) (b3 : Nat) (b4 : Nat) (i1 : Nat) (mp1 : List (Int × Int)) (hc1 : (i1 : Int) < (l0.length : Int)) (e1 : SIns) (hx5 : l0[i1]? = some e1) (b5 : Nat) (hc2 : ((mget mp1 (i1 : Int)).isSome) = true) (hc6 : 0 ≤ e1.Op) (e4 : Int) (hx9 : ([0, 0, 0, 1, 2, 2, 2, 2, 2, 0, 1, 0, 1, 0, 0, 0, 0, 0, 0] : List Int)[(e1.Op).toNat]? = some e4) (e5 : Int) (hx10 : ([0, 1, 1, 0, 1, 1, 1, 1, 1, 1, 0, 0, 0, 0, 0, 0, 0, 0, 0] : List Int)[(e1.Op).toNat]? = some e5) (m2 : List Int) (Z1 : Option Addr) (cz1 : Nat) (m4 : List Int) (Z2 : Option Addr) (cz2 : Nat) (s : Nat × (List (Int × Int))) (o : (Nat × (List (Int × Int))) ⊕ ((List (Int × Int)) ⊕ SFault)) (h : punctualref_stackFault.r4 i1 mp1 e4 e5 m4 s = some o) (a : Act) (w : World) (hA : punctualref_stackFault.A4 w0 l0 A0 c0 b1 b2 b3 b4 i1 mp1 e4 e5 m4 Z2 cz2 s a w) (Q : Exit → Act → World → Prop) (hQ : ∀ x a w, Outs (punctualref_stackFault.A4 w0 l0 A0 c0 b1 b2 b3 b4 i1 mp1 e4 e5 m4 Z2 cz2) (punctualref_stackFault.B4 w0 l0 A0 c0 b1 b2 b3 b4 i1) o x a w → Q x a w) : (subF Tryd.f34 [1, 1, 1, 1, 0, 1, 0, 0, 1, 1, 0, 0, 1, 1, 1, 1, 1, 1, 1, 1, 1, 0, 0]).wp Tryd.prog Q a w := by
 obtain ⟨i2, mp3⟩ := s
 obtain ⟨hS, hF⟩ := hA
 replace hS : St w0 w [Own.blk b4 (.cells #[vI 0, vI 1, vI 1, vI 0, vI 1, vI 1, vI 1, vI 1, vI 1, vI 1, vI 0, vI 0, vI 0, vI 0, vI 0, vI 0, vI 0, vI 0, vI 0] 3 (0, 0)), Own.blk b3 (.cells #[vI 0, vI 0, vI 0, vI 1, vI 2, vI 2, vI 2, vI 2, vI 2, vI 0, vI 1, vI 0, vI 1, vI 0, vI 0, vI 0, vI 0, vI 0, vI 0] 3 (0, 0)), Own.blk b1 (.cells #[vI 0, vI 0] 25 (0, 0)), Own.of (.slice Z2 m4.length cz2) 3 m4, Own.map (κ := Int) (ν := Int) b2 mp3] := hS
 simp only [punctualref_stackFault.r4] at h
 refine (?_ : WE Tryd.prog 141 (subF Tryd.f34 [1, 1, 1, 1, 0, 1, 0, 0, 1, 1, 0, 0, 1, 1, 1, 1, 1, 1, 1, 1, 1, 0, 0]) Q [(0, .slice A0 l0.length c0), (2, pP b1 0), (3, .map (some b2)), (4, .slice (some ⟨b3, 0, none⟩) 19 19), (5, .slice (some ⟨b4, 0, none⟩) 19 19), (6, vI (i1 : Int)), (8, vI (IntKind.i64.wrap ((IntKind.i64.wrap (((mget mp1 (i1 : Int)).getD 0) - e4)) + e5))), (20, .slice A0 l0.length c0), (21, vI (l0.length : Int)), (22, vI (i1 : Int)), (107, (.slice Z2 m4.length cz2)), (108, vI (m4.length : Int)), (109, vI (i2 : Int))] w) a hF
 clear hF a
 refine ws fun K34 hK34 => ?_
 refine wr [(0, 0)] ?_
 refine gb0 [0] [(110, .bool (decide ((i2 : Int) < (m4.length : Int))))] ?_
 refine gn hK34 ?_
 refine ws fun K35 hK35 => ?_
 by_cases hc19 : (i2 : Int) < (m4.length : Int)
 ·rw [if_pos hc19] at h
  refine wk 110 (decide ((i2 : Int) < (m4.length : Int))) true (decide_eq_true hc19) ?_
  refine we_true (by kernel_rfl) ?_
  refine we_skip fun a hF => hK35 _ _ ?_ a hF
  refine ws fun K36 hK36 => ?_
  refine we_block ?_
  refine ws fun K37 hK37 => ?_
  refine wr [(0, 0), (1, 0), (2, 0)] ?_
  rcases hx17 : m4[i2]? with _ | e6
  ·rw [hx17] at h; cases h
  rw [hx17] at h
  simp only [] at h
  refine gi 111 0 37 3 1 m4.length cz2 (.tmp 107) (.tmp 109) Z2 .i64 (i2 : Int) i2 ((hS.rdAt 3 rfl).eqSome (pos_of_get hx17)) rfl (lt_of_get hx17) ?_
  refine gb [1, 2] [(13, vI e6), (112, vI e6)] [.loaded ⟨blkOf Z2, offOf Z2 + i2 * 1, none⟩ (vI e6)] ⟨RdL.cell (j := 0) (hS.rdAt 3 rfl) hx17 rfl, trivial⟩ ?_
  refine gn hK37 ?_
  refine ws fun K38 hK38 => ?_
  refine ws fun K39 hK39 => ?_
  refine wr [(0, 0), (1, 0), (2, 0), (3, 0), (4, 0), (5, 0), (6, 0), (7, 0)] ?_
  refine gb0 [0, 1] [(115, vI e6), (114, .map (some b2))] ?_
  refine ge_lookup2 (κ := Int) (ν := Int) (d := 116) (b := b2) (q := 4) (t := 62) (kt := 3) (et := 3) (x := (.tmp 114)) (y := (.tmp 115)) (ty := 111) (m := mp3) (k := e6) (z := 0) (v := ((mget mp3 e6).getD 0)) (zv := vI 0) (vv := vI ((mget mp3 e6).getD 0)) (by kernel_rfl) (by kernel_rfl) (by kernel_rfl) (by kernel_rfl) (by kernel_rfl) (fun w' => by kernel_rfl) rfl hS rfl rfl rfl ?_
  refine gb0 [3, 4, 5, 6, 7] [(15, .bool ((mget mp3 e6).isSome)), (14, vI ((mget mp3 e6).getD 0)), (118, .bool ((mget mp3 e6).isSome)), (117, vI ((mget mp3 e6).getD 0)), (113, .tuple #[vI ((mget mp3 e6).getD 0), .bool ((mget mp3 e6).isSome)])] ?_
  refine gn hK39 ?_
  refine ws fun K40 hK40 => ?_
  refine wr [(0, 0), (1, 0), (2, 0), (3, 0), (4, 0), (5, 0)] ?_
  refine gb0 [0, 1] [(120, .bool ((mget mp3 e6).isSome)), (119, .bool ((mget mp3 e6).isSome))] ?_
  by_cases hc20 : ((mget mp3 e6).isSome) = true
  ·rw [if_pos hc20] at h
   refine gk 120 ((mget mp3 e6).isSome) true hc20 ?_
   refine gb0 [2, 3, 4, 5] [(124, .bool (((mget mp3 e6).getD 0) != (IntKind.i64.wrap ((IntKind.i64.wrap (((mget mp1 (i1 : Int)).getD 0) - e4)) + e5)))), (123, .bool (((mget mp3 e6).getD 0) != (IntKind.i64.wrap ((IntKind.i64.wrap (((mget mp1 (i1 : Int)).getD 0) - e4)) + e5)))), (122, vI (IntKind.i64.wrap ((IntKind.i64.wrap (((mget mp1 (i1 : Int)).getD 0) - e4)) + e5))), (121, vI ((mget mp3 e6).getD 0))] ?_
   refine gn hK40 ?_
   by_cases hc21 : ((mget mp3 e6).getD 0) = (IntKind.i64.wrap ((IntKind.i64.wrap (((mget mp1 (i1 : Int)).getD 0) - e4)) + e5))
   ·rw [if_pos hc21] at h
    refine wk 124 (((mget mp3 e6).getD 0) != (IntKind.i64.wrap ((IntKind.i64.wrap (((mget mp1 (i1 : Int)).getD 0) - e4)) + e5))) false (bne_eq_false_iff_eq.2 hc21) ?_
    refine we_false (by kernel_rfl) ?_
    refine we_skip fun a hF => hK38 _ _ ?_ a hF
    refine wr [(0, 0), (1, 0), (2, 0), (3, 2)] ?_
    refine gb0 [0, 1, 2] [(129, vI (IntKind.i64.wrap ((IntKind.i64.wrap (((mget mp1 (i1 : Int)).getD 0) - e4)) + e5))), (128, vI e6), (127, .map (some b2))] ?_
    have hS118 := hS.bring 4 rfl
    refine ge_mapSet (κ := Int) (ν := Int) (b := b2) (ins := false) (mm := 0) (t := 62) (kt := 3) (et := 3) (x := (.tmp 127)) (y := (.tmp 128)) (u := (.tmp 129)) (ty := 0) (m := mp3) (k := e6) (v := (IntKind.i64.wrap ((IntKind.i64.wrap (((mget mp1 (i1 : Int)).getD 0) - e4)) + e5))) (vv := vI (IntKind.i64.wrap ((IntKind.i64.wrap (((mget mp1 (i1 : Int)).getD 0) - e4)) + e5))) (by kernel_rfl) (by kernel_rfl) (by kernel_rfl) (by kernel_rfl) rfl (by kernel_rfl) (by kernel_rfl) hS118 fun w27 hS119 => ?_
    refine gn hK36 ?_
    refine wr [(0, 0), (1, 0)] ?_
    refine ge_addn (d := 130) (ty := 3) (x := (.tmp 109)) (y := (.const (vI 1))) (t := 3) (t2 := 3) (k := .i64) (m := i2) (by kernel_rfl) (by kernel_rfl) (by kernel_rfl) (by have h0 := hS119.ofSmall 4 rfl; omega) ?_
    refine gb0 [1] [(109, vI ((i2 + 1 : Nat) : Int))] ?_
    have hS120 := hS119.bring 4 rfl
    have hS121 := hS120.bring 4 rfl
    have hS122 := hS121.bring 4 rfl
    have hS123 := hS122.bring 4 rfl
    obtain rfl := si h
    exact ge_nil fun a hF => hQ _ _ _ (Outs.again ⟨hS123, hF.weaken ea⟩)
   ·rw [if_neg hc21] at h
    refine wk 124 (((mget mp3 e6).getD 0) != (IntKind.i64.wrap ((IntKind.i64.wrap (((mget mp1 (i1 : Int)).getD 0) - e4)) + e5))) true (bne_iff_ne.2 hc21) ?_
    refine we_true (by kernel_rfl) ?_
    refine ws fun K41 hK41 => ?_
    refine wr [(0, 0), (1, 1), (2, 2)] ?_
    refine gb0 [0] [(125, vI (i1 : Int))] ?_
    refine ge_call (d := some 126) (f := 9) (args := #[vI 8, vI (i1 : Int)]) (by kernel_rfl) (punctualref_F_ok 8 (i1 : Int) _ _ rfl) ?_
    rintro _ w28 ⟨rfl, hS124⟩
    refine ⟨_, rfl, hS124.below, ?_⟩
    have hS125 := hS.call hS124
    have hS126 := hS125.bring 2 rfl
    refine gs b1 0 #[vI 0, vI 0] 25 [vI ((punctualref_F.f 8 (i1 : Int)).Code), vI ((punctualref_F.f 8 (i1 : Int)).At)] hS126 fun w29 hS127 => ?_
    have hS128 : St w0 w29 [Own.blk b1 (.cells #[vI ((punctualref_F.f 8 (i1 : Int)).Code), vI ((punctualref_F.f 8 (i1 : Int)).At)] 25 (0, 0)), Own.blk b4 (.cells #[vI 0, vI 1, vI 1, vI 0, vI 1, vI 1, vI 1, vI 1, vI 1, vI 1, vI 0, vI 0, vI 0, vI 0, vI 0, vI 0, vI 0, vI 0, vI 0] 3 (0, 0)), Own.blk b3 (.cells #[vI 0, vI 0, vI 0, vI 1, vI 2, vI 2, vI 2, vI 2, vI 2, vI 0, vI 1, vI 0, vI 1, vI 0, vI 0, vI 0, vI 0, vI 0, vI 0] 3 (0, 0)), Own.of (.slice Z2 m4.length cz2) 3 m4, Own.map (κ := Int) (ν := Int) b2 mp3] := hS127
    refine gn hK41 ?_
    have hS129 := hS128.takeN 0
    obtain rfl := si h
    exact we_ret fun a hF => hQ _ _ _ (Outs.out nofun (Exits.on ⟨rfl, (pr [.cell 2 25] [.agg #[vI ((punctualref_F.f 8 (i1 : Int)).Code), vI ((punctualref_F.f 8 (i1 : Int)).At)]] [.loaded ⟨b1, 0, none⟩ (vI ((punctualref_F.f 8 (i1 : Int)).Code)), .loaded ⟨b1, 1, none⟩ (vI ((punctualref_F.f 8 (i1 : Int)).At))] ⟨hS128.c 0, hS128.c 0, trivial⟩ ⟨rfl, hS129⟩) a hF⟩))
  ·rw [if_neg hc20] at h
   refine gk 120 ((mget mp3 e6).isSome) false (Bool.eq_false_iff.2 hc20) ?_
   refine gb0 [2, 3, 4, 5] [(124, .bool false), (123, undef), (122, undef), (121, undef)] ?_
   refine gn hK40 ?_
   refine we_false (by kernel_rfl) ?_
   refine we_skip fun a hF => hK38 _ _ ?_ a hF
   refine wr [(0, 0), (1, 0), (2, 0), (3, 2)] ?_
   refine gb0 [0, 1, 2] [(129, vI (IntKind.i64.wrap ((IntKind.i64.wrap (((mget mp1 (i1 : Int)).getD 0) - e4)) + e5))), (128, vI e6), (127, .map (some b2))] ?_
   have hS130 := hS.bring 4 rfl
   refine ge_mapSet (κ := Int) (ν := Int) (b := b2) (ins := false) (mm := 0) (t := 62) (kt := 3) (et := 3) (x := (.tmp 127)) (y := (.tmp 128)) (u := (.tmp 129)) (ty := 0) (m := mp3) (k := e6) (v := (IntKind.i64.wrap ((IntKind.i64.wrap (((mget mp1 (i1 : Int)).getD 0) - e4)) + e5))) (vv := vI (IntKind.i64.wrap ((IntKind.i64.wrap (((mget mp1 (i1 : Int)).getD 0) - e4)) + e5))) (by kernel_rfl) (by kernel_rfl) (by kernel_rfl) (by kernel_rfl) rfl (by kernel_rfl) (by kernel_rfl) hS130 fun w30 hS131 => ?_
   refine gn hK36 ?_
   refine wr [(0, 0), (1, 0)] ?_
   refine ge_addn (d := 130) (ty := 3) (x := (.tmp 109)) (y := (.const (vI 1))) (t := 3) (t2 := 3) (k := .i64) (m := i2) (by kernel_rfl) (by kernel_rfl) (by kernel_rfl) (by have h0 := hS131.ofSmall 4 rfl; omega) ?_
   refine gb0 [1] [(109, vI ((i2 + 1 : Nat) : Int))] ?_
   have hS132 := hS131.bring 4 rfl
   have hS133 := hS132.bring 4 rfl
   have hS134 := hS133.bring 4 rfl
   have hS135 := hS134.bring 4 rfl
   obtain rfl := si h
   exact ge_nil fun a hF => hQ _ _ _ (Outs.again ⟨hS135, hF.weaken ea⟩)
 ·rw [if_neg hc19] at h
  refine wk 110 (decide ((i2 : Int) < (m4.length : Int))) false (decide_eq_false hc19) ?_
  refine we_false (by kernel_rfl) ?_
  have hS136 := hS.bring 4 rfl
  have hS137 := hS136.bring 3 rfl
  have hS138 := hS137.bring 3 rfl
  have hS139 := hS138.bring 3 rfl
  have hS140 := hS139.takeN 4
  obtain rfl := si h
  exact we_exit fun a hF => hQ _ _ _ (Outs.out nofun (Exits.here ⟨hS140, hF.weaken ea⟩))
abbrev punctualref_stackFault.A0 (w0 : World) (l0 : List SIns) (A0 : Option Addr) (c0 : Nat) (b1 : Nat) (b2 : Nat) (b3 : Nat) (b4 : Nat) : (Nat × (List (Int × Int))) → Act → World → Prop := fun (s : Nat × (List (Int × Int))) a w => St w0 w [Own.blk b4 (.cells #[vI 0, vI 1, vI 1, vI 0, vI 1, vI 1, vI 1, vI 1, vI 1, vI 1, vI 0, vI 0, vI 0, vI 0, vI 0, vI 0, vI 0, vI 0, vI 0] 3 (0, 0)), Own.blk b3 (.cells #[vI 0, vI 0, vI 0, vI 1, vI 2, vI 2, vI 2, vI 2, vI 2, vI 0, vI 1, vI 0, vI 1, vI 0, vI 0, vI 0, vI 0, vI 0, vI 0] 3 (0, 0)), Own.blk b1 (.cells #[vI 0, vI 0] 25 (0, 0)), Own.map (κ := Int) (ν := Int) b2 s.2] ∧ Frm 141 a [(0, .slice A0 l0.length c0), (2, pP b1 0), (3, .map (some b2)), (4, .slice (some ⟨b3, 0, none⟩) 19 19), (5, .slice (some ⟨b4, 0, none⟩) 19 19), (20, .slice A0 l0.length c0), (21, vI (l0.length : Int)), (22, vI (s.1 : Int))]
abbrev punctualref_stackFault.B0 (w0 : World) (l0 : List SIns) (A0 : Option Addr) (c0 : Nat) (b1 : Nat) (b2 : Nat) : ((List (Int × Int)) ⊕ SFault) → Exit → Act → World → Prop := Exits 0 (fun (s : (List (Int × Int))) a w => St w0 w [Own.blk b1 (.cells #[vI 0, vI 0] 25 (0, 0)), Own.map (κ := Int) (ν := Int) b2 s] ∧ Frm 141 a [(0, .slice A0 l0.length c0), (2, pP b1 0), (3, .map (some b2))]) (Rets Tryd.prog Tryd.f34 (punctualref_stackFault.Post w0))
theorem punctualref_stackFault_r0 (K : Nat) (w0 : World) (l0 : List SIns) (A0 : Option Addr) (c0 : Nat) (hR0 : RdL w0 A0 l0) (hL0 : l0.length ≤ c0) (b1 : Nat) (b2 : Nat) (b3 : Nat) (b4 : Nat) (s : Nat × (List (Int × Int))) (o : (Nat × (List (Int × Int))) ⊕ ((List (Int × Int)) ⊕ SFault)) (h : punctualref_stackFault.r0 K l0 s = some o) (a : Act) (w : World) (hA : punctualref_stackFault.A0 w0 l0 A0 c0 b1 b2 b3 b4 s a w) (Q : Exit → Act → World → Prop) (hQ : ∀ x a w, Outs (punctualref_stackFault.A0 w0 l0 A0 c0 b1 b2 b3 b4) (punctualref_stackFault.B0 w0 l0 A0 c0 b1 b2) o x a w → Q x a w) : (subF Tryd.f34 [1, 1, 1, 1, 0, 1, 0, 0]).wp Tryd.prog Q a w := by
 obtain ⟨i1, mp1⟩ := s
 obtain ⟨hS, hF⟩ := hA
 replace hS : St w0 w [Own.blk b4 (.cells #[vI 0, vI 1, vI 1, vI 0, vI 1, vI 1, vI 1, vI 1, vI 1, vI 1, vI 0, vI 0, vI 0, vI 0, vI 0, vI 0, vI 0, vI 0, vI 0] 3 (0, 0)), Own.blk b3 (.cells #[vI 0, vI 0, vI 0, vI 1, vI 2, vI 2, vI 2, vI 2, vI 2, vI 0, vI 1, vI 0, vI 1, vI 0, vI 0, vI 0, vI 0, vI 0, vI 0] 3 (0, 0)), Own.blk b1 (.cells #[vI 0, vI 0] 25 (0, 0)), Own.map (κ := Int) (ν := Int) b2 mp1] := hS
 simp only [punctualref_stackFault.r0] at h
 refine (?_ : WE Tryd.prog 141 (subF Tryd.f34 [1, 1, 1, 1, 0, 1, 0, 0]) Q [(0, .slice A0 l0.length c0), (2, pP b1 0), (3, .map (some b2)), (4, .slice (some ⟨b3, 0, none⟩) 19 19), (5, .slice (some ⟨b4, 0, none⟩) 19 19), (20, .slice A0 l0.length c0), (21, vI (l0.length : Int)), (22, vI (i1 : Int))] w) a hF
 clear hF a
 refine ws fun K7 hK7 => ?_
 refine wr [(0, 0)] ?_
 refine gb0 [0] [(23, .bool (decide ((i1 : Int) < (l0.length : Int))))] ?_
 refine gn hK7 ?_
 refine ws fun K8 hK8 => ?_
 by_cases hc1 : (i1 : Int) < (l0.length : Int)
 ·rw [if_pos hc1] at h
  refine wk 23 (decide ((i1 : Int) < (l0.length : Int))) true (decide_eq_true hc1) ?_
  refine we_true (by kernel_rfl) ?_
  refine we_skip fun a hF => hK8 _ _ ?_ a hF
  refine ws fun K9 hK9 => ?_
  refine we_block ?_
  refine ws fun K10 hK10 => ?_
  refine wr [(0, 0), (1, 0), (2, 0), (3, 1), (4, 0), (5, 2)] ?_
  refine gb0 [0] [(24, vI (i1 : Int))] ?_
  rcases hx5 : l0[i1]? with _ | e1
  ·rw [hx5] at h; cases h
  rw [hx5] at h
  simp only [] at h
  refine gi 25 0 22 29 3 l0.length c0 (.tmp 20) (.tmp 22) A0 .i64 (i1 : Int) i1 ((hS.rd hR0).eqSome (pos_of_get hx5)) rfl (lt_of_get hx5) ?_
  refine gb [2] [(26, .agg #[vI e1.Op, vI e1.A, vI e1.B])] [.loaded ⟨blkOf A0, offOf A0 + i1 * 3, none⟩ (vI e1.Op), .loaded ⟨blkOf A0, offOf A0 + i1 * 3 + 1, none⟩ (vI e1.A), .loaded ⟨blkOf A0, offOf A0 + i1 * 3 + 2, none⟩ (vI e1.B)] ⟨RdL.cell (j := 0) (hS.rd hR0) hx5 rfl, RdL.cell (j := 1) (hS.rd hR0) hx5 rfl, RdL.cell (j := 2) (hS.rd hR0) hx5 rfl, trivial⟩ ?_
  refine gw (some 7) (.cells #[vI 0, vI 0, vI 0] 29) (fun b => pP b 0) hS fun b5 w6 hx6 hS11 => ?_
  refine gb0 [4] [(6, vI (i1 : Int))] ?_
  refine gs b5 0 #[vI 0, vI 0, vI 0] 29 [vI e1.Op, vI e1.A, vI e1.B] hS11 fun w7 hS12 => ?_
  have hS13 : St w0 w7 [Own.blk b5 (.cells #[vI e1.Op, vI e1.A, vI e1.B] 29 (0, 0)), Own.blk b4 (.cells #[vI 0, vI 1, vI 1, vI 0, vI 1, vI 1, vI 1, vI 1, vI 1, vI 1, vI 0, vI 0, vI 0, vI 0, vI 0, vI 0, vI 0, vI 0, vI 0] 3 (0, 0)), Own.blk b3 (.cells #[vI 0, vI 0, vI 0, vI 1, vI 2, vI 2, vI 2, vI 2, vI 2, vI 0, vI 1, vI 0, vI 1, vI 0, vI 0, vI 0, vI 0, vI 0, vI 0] 3 (0, 0)), Own.blk b1 (.cells #[vI 0, vI 0] 25 (0, 0)), Own.map (κ := Int) (ν := Int) b2 mp1] := hS12
  refine gn hK10 ?_
  refine ws fun K11 hK11 => ?_
  refine wr [(0, 0), (1, 0), (2, 0), (3, 0), (4, 0), (5, 0), (6, 0), (7, 0)] ?_
  refine gb0 [0, 1] [(29, vI (i1 : Int)), (28, .map (some b2))] ?_
  refine ge_lookup2 (κ := Int) (ν := Int) (d := 30) (b := b2) (q := 4) (t := 62) (kt := 3) (et := 3) (x := (.tmp 28)) (y := (.tmp 29)) (ty := 111) (m := mp1) (k := (i1 : Int)) (z := 0) (v := ((mget mp1 (i1 : Int)).getD 0)) (zv := vI 0) (vv := vI ((mget mp1 (i1 : Int)).getD 0)) (by kernel_rfl) (by kernel_rfl) (by kernel_rfl) (by kernel_rfl) (by kernel_rfl) (fun w' => by kernel_rfl) rfl hS13 rfl rfl rfl ?_
  refine gb0 [3, 4, 5, 6, 7] [(9, .bool ((mget mp1 (i1 : Int)).isSome)), (8, vI ((mget mp1 (i1 : Int)).getD 0)), (32, .bool ((mget mp1 (i1 : Int)).isSome)), (31, vI ((mget mp1 (i1 : Int)).getD 0)), (27, .tuple #[vI ((mget mp1 (i1 : Int)).getD 0), .bool ((mget mp1 (i1 : Int)).isSome)])] ?_
  refine gn hK11 ?_
  refine ws fun K12 hK12 => ?_
  refine ws fun K13 hK13 => ?_
  refine wr [(0, 0), (1, 0)] ?_
  refine gb0 [0, 1] [(34, .bool (!((mget mp1 (i1 : Int)).isSome))), (33, .bool ((mget mp1 (i1 : Int)).isSome))] ?_
  refine gn hK13 ?_
  by_cases hc2 : ((mget mp1 (i1 : Int)).isSome) = true
  ·rw [if_pos hc2] at h
   refine wk 34 (!((mget mp1 (i1 : Int)).isSome)) false (congrArg (fun z => !z) hc2) ?_
   refine we_false (by kernel_rfl) ?_
   refine we_skip fun a hF => hK12 _ _ ?_ a hF
   refine ws fun K14 hK14 => ?_
   rcases hq3 : punctualref_stackFault.p1 i1 mp1 e1 with _ | (_ | rr4)
   ·rw [hq3] at h; cases h
   ·rw [hq3] at h
    simp only [] at h
    refine we_keep (e' := [(0, .slice A0 l0.length c0), (2, pP b1 0), (3, .map (some b2)), (4, .slice (some ⟨b3, 0, none⟩) 19 19), (5, .slice (some ⟨b4, 0, none⟩) 19 19), (6, vI (i1 : Int)), (7, pP b5 0), (8, vI ((mget mp1 (i1 : Int)).getD 0)), (9, .bool ((mget mp1 (i1 : Int)).isSome)), (20, .slice A0 l0.length c0), (21, vI (l0.length : Int)), (22, vI (i1 : Int)), (23, .bool true), (24, vI (i1 : Int)), (25, .pointer (some ⟨blkOf A0, offOf A0 + i1 * 3, none⟩)), (26, .agg #[vI e1.Op, vI e1.A, vI e1.B]), (27, .tuple #[vI ((mget mp1 (i1 : Int)).getD 0), .bool ((mget mp1 (i1 : Int)).isSome)]), (28, .map (some b2)), (29, vI (i1 : Int)), (30, .tuple #[vI ((mget mp1 (i1 : Int)).getD 0), .bool ((mget mp1 (i1 : Int)).isSome)]), (31, vI ((mget mp1 (i1 : Int)).getD 0)), (32, .bool ((mget mp1 (i1 : Int)).isSome)), (33, .bool ((mget mp1 (i1 : Int)).isSome)), (34, .bool false)]) ea (punctualref_stackFault_p1 K w0 l0 A0 c0 hR0 hL0 b1 b2 b3 b4 i1 mp1 hc1 e1 hx5 b5 hc2 _ hq3 _ hS13 _ ?_)
    rintro _ a w12 ⟨rfl, hS32, hF⟩
    replace hS32 : St w0 w12 [Own.blk b5 (.cells #[vI e1.Op, vI e1.A, vI e1.B] 29 (0, 0)), Own.blk b4 (.cells #[vI 0, vI 1, vI 1, vI 0, vI 1, vI 1, vI 1, vI 1, vI 1, vI 1, vI 0, vI 0, vI 0, vI 0, vI 0, vI 0, vI 0, vI 0, vI 0] 3 (0, 0)), Own.blk b3 (.cells #[vI 0, vI 0, vI 0, vI 1, vI 2, vI 2, vI 2, vI 2, vI 2, vI 0, vI 1, vI 0, vI 1, vI 0, vI 0, vI 0, vI 0, vI 0, vI 0] 3 (0, 0)), Own.blk b1 (.cells #[vI 0, vI 0] 25 (0, 0)), Own.map (κ := Int) (ν := Int) b2 mp1] := hS32
    refine hK14 [(0, .slice A0 l0.length c0), (2, pP b1 0), (3, .map (some b2)), (4, .slice (some ⟨b3, 0, none⟩) 19 19), (5, .slice (some ⟨b4, 0, none⟩) 19 19), (6, vI (i1 : Int)), (7, pP b5 0), (8, vI ((mget mp1 (i1 : Int)).getD 0)), (20, .slice A0 l0.length c0), (21, vI (l0.length : Int)), (22, vI (i1 : Int))] w12 ?_ a hF
    refine ws fun K18 hK18 => ?_
    refine we_draws (by kernel_rfl) [(0, 0), (1, 0), (2, 0), (3, 0), (4, 0), (5, 0), (6, 0), (7, 0), (8, 0), (9, 0), (10, 0), (11, 0), (12, 0), (13, 0)] (by kernel_rfl) ?_
    have hS33 := hS32.drew
    refine gb [0, 1, 2, 3] [(65, vI e1.Op), (64, pP b5 0), (63, .slice (some ⟨b3, 0, none⟩) 19 19), (62, vI ((mget mp1 (i1 : Int)).getD 0))] [.loaded ⟨b5, 0, none⟩ (vI e1.Op)] ⟨hS33.c 0, trivial⟩ ?_
    by_cases hc6 : 0 ≤ e1.Op
    ·rw [if_pos hc6] at h
     rcases hx9 : ([0, 0, 0, 1, 2, 2, 2, 2, 2, 0, 1, 0, 1, 0, 0, 0, 0, 0, 0] : List Int)[(e1.Op).toNat]? with _ | e4
     ·rw [hx9] at h; cases h
     rw [hx9] at h
     simp only [] at h
     refine gi 66 0 37 3 1 19 19 (.tmp 63) (.tmp 65) (some ⟨b3, 0, none⟩) .i64 e1.Op ((e1.Op).toNat) ((hS33.rdBlk 2 ([0, 0, 0, 1, 2, 2, 2, 2, 2, 0, 1, 0, 1, 0, 0, 0, 0, 0, 0] : List Int) rfl rfl rfl).eqSome (pos_of_get hx9)) (Int.toNat_of_nonneg hc6).symm (lt_of_get hx9) ?_
     refine gb [5, 6, 7, 8, 9] [(71, vI e1.Op), (70, pP b5 0), (69, .slice (some ⟨b4, 0, none⟩) 19 19), (68, vI (IntKind.i64.wrap (((mget mp1 (i1 : Int)).getD 0) - e4))), (67, vI e4)] [.loaded ⟨blkOf (some ⟨b3, 0, none⟩), offOf (some ⟨b3, 0, none⟩) + ((e1.Op).toNat) * 1, none⟩ (vI e4), .loaded ⟨b5, 0, none⟩ (vI e1.Op)] ⟨RdL.cell (j := 0) (hS33.rdBlk 2 ([0, 0, 0, 1, 2, 2, 2, 2, 2, 0, 1, 0, 1, 0, 0, 0, 0, 0, 0] : List Int) rfl rfl rfl) hx9 rfl, hS33.c 0, trivial⟩ ?_
     rcases hx10 : ([0, 1, 1, 0, 1, 1, 1, 1, 1, 1, 0, 0, 0, 0, 0, 0, 0, 0, 0] : List Int)[(e1.Op).toNat]? with _ | e5
     ·rw [hx10] at h; cases h
     rw [hx10] at h
     simp only [] at h
     refine gi 72 0 37 3 1 19 19 (.tmp 69) (.tmp 71) (some ⟨b4, 0, none⟩) .i64 e1.Op ((e1.Op).toNat) ((hS33.rdBlk 1 ([0, 1, 1, 0, 1, 1, 1, 1, 1, 1, 0, 0, 0, 0, 0, 0, 0, 0, 0] : List Int) rfl rfl rfl).eqSome (pos_of_get hx10)) (Int.toNat_of_nonneg hc6).symm (lt_of_get hx10) ?_
     refine gb [11, 12, 13] [(8, vI (IntKind.i64.wrap ((IntKind.i64.wrap (((mget mp1 (i1 : Int)).getD 0) - e4)) + e5))), (74, vI (IntKind.i64.wrap ((IntKind.i64.wrap (((mget mp1 (i1 : Int)).getD 0) - e4)) + e5))), (73, vI e5)] [.loaded ⟨blkOf (some ⟨b4, 0, none⟩), offOf (some ⟨b4, 0, none⟩) + ((e1.Op).toNat) * 1, none⟩ (vI e5)] ⟨RdL.cell (j := 0) (hS33.rdBlk 1 ([0, 1, 1, 0, 1, 1, 1, 1, 1, 1, 0, 0, 0, 0, 0, 0, 0, 0, 0] : List Int) rfl rfl rfl) hx10 rfl, trivial⟩ ?_
     refine gn hK18 ?_
     refine ws fun K19 hK19 => ?_
     refine wr [(0, 0)] ?_
     refine gb0 [0] [(10, .slice none 0 0)] ?_
     refine gn hK19 ?_
     refine ws fun K20 hK20 => ?_
     rcases hq4 : punctualref_stackFault.p2 e1 with _ | (m2 | rr3)
     ·rw [hq4] at h; cases h
     ·rw [hq4] at h
      simp only [] at h
      refine we_keep (e' := [(0, .slice A0 l0.length c0), (2, pP b1 0), (3, .map (some b2)), (4, .slice (some ⟨b3, 0, none⟩) 19 19), (5, .slice (some ⟨b4, 0, none⟩) 19 19), (6, vI (i1 : Int)), (7, pP b5 0), (8, vI (IntKind.i64.wrap ((IntKind.i64.wrap (((mget mp1 (i1 : Int)).getD 0) - e4)) + e5))), (10, .slice none 0 0), (20, .slice A0 l0.length c0), (21, vI (l0.length : Int)), (22, vI (i1 : Int)), (62, vI ((mget mp1 (i1 : Int)).getD 0)), (63, .slice (some ⟨b3, 0, none⟩) 19 19), (64, pP b5 0), (65, vI e1.Op), (66, .pointer (some ⟨blkOf (some ⟨b3, 0, none⟩), offOf (some ⟨b3, 0, none⟩) + (e1.Op).toNat * 1, none⟩)), (67, vI e4), (68, vI (IntKind.i64.wrap (((mget mp1 (i1 : Int)).getD 0) - e4))), (69, .slice (some ⟨b4, 0, none⟩) 19 19), (70, pP b5 0), (71, vI e1.Op), (72, .pointer (some ⟨blkOf (some ⟨b4, 0, none⟩), offOf (some ⟨b4, 0, none⟩) + (e1.Op).toNat * 1, none⟩)), (73, vI e5), (74, vI (IntKind.i64.wrap ((IntKind.i64.wrap (((mget mp1 (i1 : Int)).getD 0) - e4)) + e5)))]) ea (punctualref_stackFault_p2 K w0 l0 A0 c0 hR0 hL0 b1 b2 b3 b4 i1 mp1 hc1 e1 hx5 b5 hc2 hc6 e4 hx9 e5 hx10 _ hq4 _ hS33 _ ?_)
      rintro _ a w23 ⟨rfl, v7, hS96, hF⟩
      replace hS96 : St w0 w23 [Own.blk b5 (.cells #[vI e1.Op, vI e1.A, vI e1.B] 29 (0, 0)), Own.blk b4 (.cells #[vI 0, vI 1, vI 1, vI 0, vI 1, vI 1, vI 1, vI 1, vI 1, vI 1, vI 0, vI 0, vI 0, vI 0, vI 0, vI 0, vI 0, vI 0, vI 0] 3 (0, 0)), Own.blk b3 (.cells #[vI 0, vI 0, vI 0, vI 1, vI 2, vI 2, vI 2, vI 2, vI 2, vI 0, vI 1, vI 0, vI 1, vI 0, vI 0, vI 0, vI 0, vI 0, vI 0] 3 (0, 0)), Own.blk b1 (.cells #[vI 0, vI 0] 25 (0, 0)), Own.of v7 3 m2, Own.map (κ := Int) (ν := Int) b2 mp1] := hS96
      refine hK20 [(0, .slice A0 l0.length c0), (2, pP b1 0), (3, .map (some b2)), (4, .slice (some ⟨b3, 0, none⟩) 19 19), (5, .slice (some ⟨b4, 0, none⟩) 19 19), (6, vI (i1 : Int)), (7, pP b5 0), (8, vI (IntKind.i64.wrap ((IntKind.i64.wrap (((mget mp1 (i1 : Int)).getD 0) - e4)) + e5))), (10, v7), (20, .slice A0 l0.length c0), (21, vI (l0.length : Int)), (22, vI (i1 : Int))] w23 ?_ a hF
      refine ws fun K31 hK31 => ?_
      obtain ⟨Z1, cz1, rfl⟩ := hS96.open 4 rfl
      rcases hq5 : punctualref_stackFault.p3 i1 e1 m2 with _ | (m4 | rr2)
      ·rw [hq5] at h; cases h
      ·rw [hq5] at h
       simp only [] at h
       refine we_keep (e' := [(0, .slice A0 l0.length c0), (2, pP b1 0), (3, .map (some b2)), (4, .slice (some ⟨b3, 0, none⟩) 19 19), (5, .slice (some ⟨b4, 0, none⟩) 19 19), (6, vI (i1 : Int)), (7, pP b5 0), (8, vI (IntKind.i64.wrap ((IntKind.i64.wrap (((mget mp1 (i1 : Int)).getD 0) - e4)) + e5))), (10, (.slice Z1 m2.length cz1)), (20, .slice A0 l0.length c0), (21, vI (l0.length : Int)), (22, vI (i1 : Int))]) ea (punctualref_stackFault_p3 K w0 l0 A0 c0 hR0 hL0 b1 b2 b3 b4 i1 mp1 hc1 e1 hx5 b5 hc2 hc6 e4 hx9 e5 hx10 m2 Z1 cz1 _ hq5 _ hS96 _ ?_)
       rintro _ a w26 ⟨rfl, v10, hS112, hF⟩
       replace hS112 : St w0 w26 [Own.blk b4 (.cells #[vI 0, vI 1, vI 1, vI 0, vI 1, vI 1, vI 1, vI 1, vI 1, vI 1, vI 0, vI 0, vI 0, vI 0, vI 0, vI 0, vI 0, vI 0, vI 0] 3 (0, 0)), Own.blk b3 (.cells #[vI 0, vI 0, vI 0, vI 1, vI 2, vI 2, vI 2, vI 2, vI 2, vI 0, vI 1, vI 0, vI 1, vI 0, vI 0, vI 0, vI 0, vI 0, vI 0] 3 (0, 0)), Own.blk b1 (.cells #[vI 0, vI 0] 25 (0, 0)), Own.of v10 3 m4, Own.map (κ := Int) (ν := Int) b2 mp1] := hS112
       refine hK31 [(0, .slice A0 l0.length c0), (2, pP b1 0), (3, .map (some b2)), (4, .slice (some ⟨b3, 0, none⟩) 19 19), (5, .slice (some ⟨b4, 0, none⟩) 19 19), (6, vI (i1 : Int)), (8, vI (IntKind.i64.wrap ((IntKind.i64.wrap (((mget mp1 (i1 : Int)).getD 0) - e4)) + e5))), (10, v10), (20, .slice A0 l0.length c0), (21, vI (l0.length : Int)), (22, vI (i1 : Int))] w26 ?_ a hF
       refine ws fun K33 hK33 => ?_
       refine wr [(0, 0), (1, 0), (2, 0)] ?_
       refine gb0 [0] [(107, v10)] ?_
       obtain ⟨Z2, cz2, rfl⟩ := hS112.open 3 rfl
       refine gb0 [1, 2] [(109, vI 0), (108, vI (m4.length : Int))] ?_
       refine gn hK33 ?_
       refine we_block ?_
       have hS113 := hS112.bring 4 rfl
       have hS114 := hS113.bring 4 rfl
       have hS115 := hS114.bring 4 rfl
       have hS116 := hS115.bring 4 rfl
       have hS117 := hS116.bring 4 rfl
       rcases hq7 : iter (punctualref_stackFault.r4 i1 mp1 e4 e5 m4) K (0, mp1) with _ | (mp5 | rr1)
       ·rw [hq7] at h; cases h
       ·rw [hq7] at h
        simp only [] at h
        refine we_iter (A := punctualref_stackFault.A4 w0 l0 A0 c0 b1 b2 b3 b4 i1 mp1 e4 e5 m4 Z2 cz2) (B := punctualref_stackFault.B4 w0 l0 A0 c0 b1 b2 b3 b4 i1) hq7 (fun a hF => ⟨hS117, hF.weaken ea⟩) (fun s o hf a w hA Q hQ => punctualref_stackFault_r4 K w0 l0 A0 c0 hR0 hL0 b1 b2 b3 b4 i1 mp1 hc1 e1 hx5 b5 hc2 hc6 e4 hx9 e5 hx10 m2 Z1 cz1 m4 Z2 cz2 s o hf a w hA Q hQ) ?_
        rintro _ a w31 _ ⟨rfl, hS141, hF⟩
        replace hS141 : St w0 w31 [Own.blk b4 (.cells #[vI 0, vI 1, vI 1, vI 0, vI 1, vI 1, vI 1, vI 1, vI 1, vI 1, vI 0, vI 0, vI 0, vI 0, vI 0, vI 0, vI 0, vI 0, vI 0] 3 (0, 0)), Own.blk b3 (.cells #[vI 0, vI 0, vI 0, vI 1, vI 2, vI 2, vI 2, vI 2, vI 2, vI 0, vI 1, vI 0, vI 1, vI 0, vI 0, vI 0, vI 0, vI 0, vI 0] 3 (0, 0)), Own.blk b1 (.cells #[vI 0, vI 0] 25 (0, 0)), Own.map (κ := Int) (ν := Int) b2 mp5] := hS141
        refine hK9 [(0, .slice A0 l0.length c0), (2, pP b1 0), (3, .map (some b2)), (4, .slice (some ⟨b3, 0, none⟩) 19 19), (5, .slice (some ⟨b4, 0, none⟩) 19 19), (20, .slice A0 l0.length c0), (21, vI (l0.length : Int)), (22, vI (i1 : Int))] w31 ?_ a hF
        refine wr [(0, 0), (1, 0)] ?_
        refine ge_addn (d := 131) (ty := 3) (x := (.tmp 22)) (y := (.const (vI 1))) (t := 3) (t2 := 3) (k := .i64) (m := i1) (by kernel_rfl) (by kernel_rfl) (by kernel_rfl) (by have h0 := hR0.small; omega) ?_
        refine gb0 [1] [(22, vI ((i1 + 1 : Nat) : Int))] ?_
        have hS142 := hS141.bring 3 rfl
        have hS143 := hS142.bring 3 rfl
        have hS144 := hS143.bring 3 rfl
        have hS145 := hS144.bring 3 rfl
        obtain rfl := si h
        exact ge_nil fun a hF => hQ _ _ _ (Outs.again ⟨hS145, hF.weaken ea⟩)
       ·rw [hq7] at h
        simp only [] at h
        refine we_iter (A := punctualref_stackFault.A4 w0 l0 A0 c0 b1 b2 b3 b4 i1 mp1 e4 e5 m4 Z2 cz2) (B := punctualref_stackFault.B4 w0 l0 A0 c0 b1 b2 b3 b4 i1) hq7 (fun a hF => ⟨hS117, hF.weaken ea⟩) (fun s o hf a w hA Q hQ => punctualref_stackFault_r4 K w0 l0 A0 c0 hR0 hL0 b1 b2 b3 b4 i1 mp1 hc1 e1 hx5 b5 hc2 hc6 e4 hx9 e5 hx10 m2 Z1 cz1 m4 Z2 cz2 s o hf a w hA Q hQ) ?_
        rintro _ a w1 _ ⟨rfl, hb⟩
        obtain rfl := si h
        exact hQ _ _ _ (Outs.out nofun (Exits.on ⟨rfl, hb⟩))
      ·rw [hq5] at h
       simp only [] at h
       refine we_keep (e' := [(0, .slice A0 l0.length c0), (2, pP b1 0), (3, .map (some b2)), (4, .slice (some ⟨b3, 0, none⟩) 19 19), (5, .slice (some ⟨b4, 0, none⟩) 19 19), (6, vI (i1 : Int)), (7, pP b5 0), (8, vI (IntKind.i64.wrap ((IntKind.i64.wrap (((mget mp1 (i1 : Int)).getD 0) - e4)) + e5))), (10, (.slice Z1 m2.length cz1)), (20, .slice A0 l0.length c0), (21, vI (l0.length : Int)), (22, vI (i1 : Int))]) ea (punctualref_stackFault_p3 K w0 l0 A0 c0 hR0 hL0 b1 b2 b3 b4 i1 mp1 hc1 e1 hx5 b5 hc2 hc6 e4 hx9 e5 hx10 m2 Z1 cz1 _ hq5 _ hS96 _ ?_)
       rintro _ a w1 ⟨_, rfl, hb⟩
       obtain rfl := si h
       exact hQ _ _ _ (Outs.out nofun (Exits.on ⟨rfl, hb⟩))
     ·rw [hq4] at h
      simp only [] at h
      refine we_keep (e' := [(0, .slice A0 l0.length c0), (2, pP b1 0), (3, .map (some b2)), (4, .slice (some ⟨b3, 0, none⟩) 19 19), (5, .slice (some ⟨b4, 0, none⟩) 19 19), (6, vI (i1 : Int)), (7, pP b5 0), (8, vI (IntKind.i64.wrap ((IntKind.i64.wrap (((mget mp1 (i1 : Int)).getD 0) - e4)) + e5))), (10, .slice none 0 0), (20, .slice A0 l0.length c0), (21, vI (l0.length : Int)), (22, vI (i1 : Int)), (62, vI ((mget mp1 (i1 : Int)).getD 0)), (63, .slice (some ⟨b3, 0, none⟩) 19 19), (64, pP b5 0), (65, vI e1.Op), (66, .pointer (some ⟨blkOf (some ⟨b3, 0, none⟩), offOf (some ⟨b3, 0, none⟩) + (e1.Op).toNat * 1, none⟩)), (67, vI e4), (68, vI (IntKind.i64.wrap (((mget mp1 (i1 : Int)).getD 0) - e4))), (69, .slice (some ⟨b4, 0, none⟩) 19 19), (70, pP b5 0), (71, vI e1.Op), (72, .pointer (some ⟨blkOf (some ⟨b4, 0, none⟩), offOf (some ⟨b4, 0, none⟩) + (e1.Op).toNat * 1, none⟩)), (73, vI e5), (74, vI (IntKind.i64.wrap ((IntKind.i64.wrap (((mget mp1 (i1 : Int)).getD 0) - e4)) + e5)))]) ea (punctualref_stackFault_p2 K w0 l0 A0 c0 hR0 hL0 b1 b2 b3 b4 i1 mp1 hc1 e1 hx5 b5 hc2 hc6 e4 hx9 e5 hx10 _ hq4 _ hS33 _ ?_)
      rintro _ a w1 ⟨_, rfl, hb⟩
      obtain rfl := si h
      exact hQ _ _ _ (Outs.out nofun (Exits.on ⟨rfl, hb⟩))
    ·rw [if_neg hc6] at h
     cases h
   ·rw [hq3] at h
    simp only [] at h
    refine we_keep (e' := [(0, .slice A0 l0.length c0), (2, pP b1 0), (3, .map (some b2)), (4, .slice (some ⟨b3, 0, none⟩) 19 19), (5, .slice (some ⟨b4, 0, none⟩) 19 19), (6, vI (i1 : Int)), (7, pP b5 0), (8, vI ((mget mp1 (i1 : Int)).getD 0)), (9, .bool ((mget mp1 (i1 : Int)).isSome)), (20, .slice A0 l0.length c0), (21, vI (l0.length : Int)), (22, vI (i1 : Int)), (23, .bool true), (24, vI (i1 : Int)), (25, .pointer (some ⟨blkOf A0, offOf A0 + i1 * 3, none⟩)), (26, .agg #[vI e1.Op, vI e1.A, vI e1.B]), (27, .tuple #[vI ((mget mp1 (i1 : Int)).getD 0), .bool ((mget mp1 (i1 : Int)).isSome)]), (28, .map (some b2)), (29, vI (i1 : Int)), (30, .tuple #[vI ((mget mp1 (i1 : Int)).getD 0), .bool ((mget mp1 (i1 : Int)).isSome)]), (31, vI ((mget mp1 (i1 : Int)).getD 0)), (32, .bool ((mget mp1 (i1 : Int)).isSome)), (33, .bool ((mget mp1 (i1 : Int)).isSome)), (34, .bool false)]) ea (punctualref_stackFault_p1 K w0 l0 A0 c0 hR0 hL0 b1 b2 b3 b4 i1 mp1 hc1 e1 hx5 b5 hc2 _ hq3 _ hS13 _ ?_)
    rintro _ a w1 ⟨_, rfl, hb⟩
    obtain rfl := si h
    exact hQ _ _ _ (Outs.out nofun (Exits.on ⟨rfl, hb⟩))
  ·rw [if_neg hc2] at h
   refine wk 34 (!((mget mp1 (i1 : Int)).isSome)) true (congrArg (fun z => !z) (Bool.eq_false_iff.2 hc2)) ?_
   refine we_true (by kernel_rfl) ?_
   refine ws fun K42 hK42 => ?_
   refine wr [(0, 0), (1, 1), (2, 2)] ?_
   refine gb0 [0] [(35, vI (i1 : Int))] ?_
   refine ge_call (d := some 36) (f := 9) (args := #[vI 7, vI (i1 : Int)]) (by kernel_rfl) (punctualref_F_ok 7 (i1 : Int) _ _ rfl) ?_
   rintro _ w32 ⟨rfl, hS146⟩
   refine ⟨_, rfl, hS146.below, ?_⟩
   have hS147 := hS13.call hS146
   have hS148 := hS147.bring 3 rfl
   refine gs b1 0 #[vI 0, vI 0] 25 [vI ((punctualref_F.f 7 (i1 : Int)).Code), vI ((punctualref_F.f 7 (i1 : Int)).At)] hS148 fun w33 hS149 => ?_
   have hS150 : St w0 w33 [Own.blk b1 (.cells #[vI ((punctualref_F.f 7 (i1 : Int)).Code), vI ((punctualref_F.f 7 (i1 : Int)).At)] 25 (0, 0)), Own.blk b5 (.cells #[vI e1.Op, vI e1.A, vI e1.B] 29 (0, 0)), Own.blk b4 (.cells #[vI 0, vI 1, vI 1, vI 0, vI 1, vI 1, vI 1, vI 1, vI 1, vI 1, vI 0, vI 0, vI 0, vI 0, vI 0, vI 0, vI 0, vI 0, vI 0] 3 (0, 0)), Own.blk b3 (.cells #[vI 0, vI 0, vI 0, vI 1, vI 2, vI 2, vI 2, vI 2, vI 2, vI 0, vI 1, vI 0, vI 1, vI 0, vI 0, vI 0, vI 0, vI 0, vI 0] 3 (0, 0)), Own.map (κ := Int) (ν := Int) b2 mp1] := hS149
   refine gn hK42 ?_
   have hS151 := hS150.takeN 0
   obtain rfl := si h
   exact we_ret fun a hF => hQ _ _ _ (Outs.out nofun (Exits.on ⟨rfl, (pr [.cell 2 25] [.agg #[vI ((punctualref_F.f 7 (i1 : Int)).Code), vI ((punctualref_F.f 7 (i1 : Int)).At)]] [.loaded ⟨b1, 0, none⟩ (vI ((punctualref_F.f 7 (i1 : Int)).Code)), .loaded ⟨b1, 1, none⟩ (vI ((punctualref_F.f 7 (i1 : Int)).At))] ⟨hS150.c 0, hS150.c 0, trivial⟩ ⟨rfl, hS151⟩) a hF⟩))
 ·rw [if_neg hc1] at h
  refine wk 23 (decide ((i1 : Int) < (l0.length : Int))) false (decide_eq_false hc1) ?_
  refine we_false (by kernel_rfl) ?_
  have hS152 := hS.bring 3 rfl
  have hS153 := hS152.bring 3 rfl
  have hS154 := hS153.takeN 2
  obtain rfl := si h
  exact we_exit fun a hF => hQ _ _ _ (Outs.out nofun (Exits.here ⟨hS154, hF.weaken ea⟩))
theorem punctualref_stackFault_ok (K : Nat) (l0 : List SIns) (A0 : Option Addr) (c0 : Nat) (w0 : World) (hR0 : RdL w0 A0 l0) (hL0 : l0.length ≤ c0) (r : SFault) (h : punctualref_stackFault.f K l0 = some r) :
  Calls Tryd.prog 34 #[.slice A0 l0.length c0] w0 (punctualref_stackFault.Post w0 r) := by
 have hS := St.start w0
 unfold punctualref_stackFault.f at h
 refine calls_enter (n := 141) (args := [.slice A0 l0.length c0]) (fn := Tryd.f34) rfl rfl rfl rfl ?_
 show WE _ _ _ _ [(0, .slice A0 l0.length c0)] _
 refine ws fun K1 hK1 => ?_
 refine wr [(0, 1)] ?_
 refine gw (some 2) (.cells #[vI 0, vI 0] 25) (fun b => pP b 0) hS fun b1 w1 hx1 hS1 => ?_
 refine gn hK1 ?_
 refine ws fun K2 hK2 => ?_
 refine wr [(0, 1), (1, 2), (2, 0), (3, 0)] ?_
 refine gw (some 16) (.map #[] 0) (fun b => .map (some b)) hS1 fun b2 w2 hx2 hS2 => ?_
 have hS3 := hS2.newMap (κ := Int) (ν := Int)
 refine ge_mapSet (κ := Int) (ν := Int) (b := b2) (ins := true) (mm := 0) (t := 62) (kt := 3) (et := 3) (x := (.tmp 16)) (y := (.const (vI 0))) (u := (.const (vI 0))) (ty := 0) (m := ([] : List (Int × Int))) (k := 0) (v := 0) (vv := vI 0) (by kernel_rfl) (by kernel_rfl) (by kernel_rfl) (by kernel_rfl) rfl (by kernel_rfl) (by kernel_rfl) hS3 fun w3 hS4 => ?_
 refine gb0 [2, 3] [(3, .map (some b2)), (17, .map (some b2))] ?_
 refine gn hK2 ?_
 refine ws fun K3 hK3 => ?_
 refine wr [(0, 1), (1, 0)] ?_
 refine gw (some 18) (.cells #[vI 0, vI 0, vI 0, vI 1, vI 2, vI 2, vI 2, vI 2, vI 2, vI 0, vI 1, vI 0, vI 1, vI 0, vI 0, vI 0, vI 0, vI 0, vI 0] 3) (fun b => .slice (some ⟨b, 0, none⟩) 19 19) hS4 fun b3 w4 hx3 hS5 => ?_
 refine gb0 [1] [(4, .slice (some ⟨b3, 0, none⟩) 19 19)] ?_
 refine gn hK3 ?_
 refine ws fun K4 hK4 => ?_
 refine wr [(0, 1), (1, 0)] ?_
 refine gw (some 19) (.cells #[vI 0, vI 1, vI 1, vI 0, vI 1, vI 1, vI 1, vI 1, vI 1, vI 1, vI 0, vI 0, vI 0, vI 0, vI 0, vI 0, vI 0, vI 0, vI 0] 3) (fun b => .slice (some ⟨b, 0, none⟩) 19 19) hS5 fun b4 w5 hx4 hS6 => ?_
 refine gb0 [1] [(5, .slice (some ⟨b4, 0, none⟩) 19 19)] ?_
 refine gn hK4 ?_
 refine ws fun K5 hK5 => ?_
 refine ws fun K6 hK6 => ?_
 refine wr [(0, 0), (1, 0), (2, 0)] ?_
 refine gb0 [0, 1, 2] [(22, vI 0), (21, vI (l0.length : Int)), (20, .slice A0 l0.length c0)] ?_
 refine gn hK6 ?_
 refine we_block ?_
 have hS7 := hS6.bring 2 rfl
 have hS8 := hS7.bring 3 rfl
 have hS9 := hS8.bring 3 rfl
 have hS10 := hS9.bring 3 rfl
 rcases hq9 : iter (punctualref_stackFault.r0 K l0) K (0, (mset ([] : List (Int × Int)) 0 0)) with _ | (mp6 | rr5)
 ·rw [hq9] at h; cases h
 ·rw [hq9] at h
  simp only [] at h
  refine we_iter (A := punctualref_stackFault.A0 w0 l0 A0 c0 b1 b2 b3 b4) (B := punctualref_stackFault.B0 w0 l0 A0 c0 b1 b2) hq9 (fun a hF => ⟨hS10, hF.weaken ea⟩) (fun s o hf a w hA Q hQ => punctualref_stackFault_r0 K w0 l0 A0 c0 hR0 hL0 b1 b2 b3 b4 s o hf a w hA Q hQ) ?_
  rintro _ a w34 _ ⟨rfl, hS155, hF⟩
  replace hS155 : St w0 w34 [Own.blk b1 (.cells #[vI 0, vI 0] 25 (0, 0)), Own.map (κ := Int) (ν := Int) b2 mp6] := hS155
  refine hK5 [(0, .slice A0 l0.length c0), (2, pP b1 0), (3, .map (some b2))] w34 ?_ a hF
  refine ws fun K43 hK43 => ?_
  refine ws fun K44 hK44 => ?_
  refine wr [(0, 0), (1, 0), (2, 0), (3, 0), (4, 0)] ?_
  refine gb0 [0, 1, 2] [(134, vI (l0.length : Int)), (133, .slice A0 l0.length c0), (132, .map (some b2))] ?_
  refine ge_lookup (κ := Int) (ν := Int) (d := 135) (b := b2) (q := 1) (t := 62) (kt := 3) (et := 3) (x := (.tmp 132)) (y := (.tmp 134)) (ty := 3) (m := mp6) (k := (l0.length : Int)) (z := 0) (v := ((mget mp6 (l0.length : Int)).getD 0)) (zv := vI 0) (vv := vI ((mget mp6 (l0.length : Int)).getD 0)) (by kernel_rfl) (by kernel_rfl) (by kernel_rfl) (by kernel_rfl) (by kernel_rfl) (fun w' => by kernel_rfl) rfl hS155 rfl rfl rfl ?_
  refine gb0 [4] [(136, .bool (((mget mp6 (l0.length : Int)).getD 0) != 0))] ?_
  refine gn hK44 ?_
  by_cases hc22 : ((mget mp6 (l0.length : Int)).getD 0) = 0
  ·rw [if_pos hc22] at h
   refine wk 136 (((mget mp6 (l0.length : Int)).getD 0) != 0) false (bne_eq_false_iff_eq.2 hc22) ?_
   refine we_false (by kernel_rfl) ?_
   refine we_skip fun a hF => hK43 _ _ ?_ a hF
   refine ws fun K45 hK45 => ?_
   refine wr [(0, 0), (1, 2)] ?_
   refine gb0 [0] [(140, .agg #[vI 0, vI 0])] ?_
   refine gs b1 0 #[vI 0, vI 0] 25 [vI 0, vI 0] hS155 fun w35 hS156 => ?_
   have hS157 : St w0 w35 [Own.blk b1 (.cells #[vI 0, vI 0] 25 (0, 0)), Own.map (κ := Int) (ν := Int) b2 mp6] := hS156
   refine gn hK45 ?_
   have hS158 := hS157.takeN 0
   obtain rfl := si h
   exact we_ret (pr [.cell 2 25] [.agg #[vI 0, vI 0]] [.loaded ⟨b1, 0, none⟩ (vI 0), .loaded ⟨b1, 1, none⟩ (vI 0)] ⟨hS157.c 0, hS157.c 0, trivial⟩ ⟨rfl, hS158⟩)
  ·rw [if_neg hc22] at h
   refine wk 136 (((mget mp6 (l0.length : Int)).getD 0) != 0) true (bne_iff_ne.2 hc22) ?_
   refine we_true (by kernel_rfl) ?_
   refine ws fun K46 hK46 => ?_
   refine wr [(0, 0), (1, 0), (2, 1), (3, 2)] ?_
   refine gb0 [0, 1] [(138, vI (l0.length : Int)), (137, .slice A0 l0.length c0)] ?_
   refine ge_call (d := some 139) (f := 9) (args := #[vI 8, vI (l0.length : Int)]) (by kernel_rfl) (punctualref_F_ok 8 (l0.length : Int) _ _ rfl) ?_
   rintro _ w36 ⟨rfl, hS159⟩
   refine ⟨_, rfl, hS159.below, ?_⟩
   have hS160 := hS155.call hS159
   refine gs b1 0 #[vI 0, vI 0] 25 [vI ((punctualref_F.f 8 (l0.length : Int)).Code), vI ((punctualref_F.f 8 (l0.length : Int)).At)] hS160 fun w37 hS161 => ?_
   have hS162 : St w0 w37 [Own.blk b1 (.cells #[vI ((punctualref_F.f 8 (l0.length : Int)).Code), vI ((punctualref_F.f 8 (l0.length : Int)).At)] 25 (0, 0)), Own.map (κ := Int) (ν := Int) b2 mp6] := hS161
   refine gn hK46 ?_
   have hS163 := hS162.takeN 0
   obtain rfl := si h
   exact we_ret (pr [.cell 2 25] [.agg #[vI ((punctualref_F.f 8 (l0.length : Int)).Code), vI ((punctualref_F.f 8 (l0.length : Int)).At)]] [.loaded ⟨b1, 0, none⟩ (vI ((punctualref_F.f 8 (l0.length : Int)).Code)), .loaded ⟨b1, 1, none⟩ (vI ((punctualref_F.f 8 (l0.length : Int)).At))] ⟨hS162.c 0, hS162.c 0, trivial⟩ ⟨rfl, hS163⟩)
 ·rw [hq9] at h
  simp only [] at h
  refine we_iter (A := punctualref_stackFault.A0 w0 l0 A0 c0 b1 b2 b3 b4) (B := punctualref_stackFault.B0 w0 l0 A0 c0 b1 b2) hq9 (fun a hF => ⟨hS10, hF.weaken ea⟩) (fun s o hf a w hA Q hQ => punctualref_stackFault_r0 K w0 l0 A0 c0 hR0 hL0 b1 b2 b3 b4 s o hf a w hA Q hQ) ?_
  rintro _ a w1 _ ⟨rfl, hb⟩
  obtain rfl := si h
  exact hb

structure PImage where
 m_Regions : List Sregion
end Go.Proofs.YtnckikjcjgmdlaaDoor.GV
