/- Walks of single functions, written by a program of this work. -/
import Derived.Test.YtchcdadpahakfaaDoorGWModesResponds1
namespace Go.Proofs.YtchcdadpahakfaaDoor.GV
open Go Go.RowKit
set_option linter.unusedVariables false
set_option linter.unusedSimpArgs false
set_option maxRecDepth 100000

/-! punctual/modes.Play -/
abbrev modes_Play.Post (w0 : World) (r : SModal × SFault) (e : Ending) (w : World) : Prop := ∃ (v0 : Value) (v1 : Value), e = .returned (.tuple #[.agg #[v0, v1, .int .i64 r.1.Turned], .agg #[.int .i64 r.2.Code, .int .i64 r.2.At]]) ∧ St w0 w [Own.of v0 3 r.1.Played.Runs, Own.of v1 3 r.1.Played.Ends]
def modes_Play.p0 (l1 : List SCome) (l2 : List Int) : Option (Unit ⊕ (SModal × SFault)) :=
    if (l1.length : Int) > 4000 then
      some (.inr ((⟨(⟨([] : List Int), ([] : List Int)⟩ : SPlayed), 0⟩ : SModal), (⟨2, 0⟩ : SFault)))
    else
      if (l2.length : Int) = (l1.length : Int) then
        some (.inl ())
      else
        some (.inr ((⟨(⟨([] : List Int), ([] : List Int)⟩ : SPlayed), 0⟩ : SModal), (⟨2, 0⟩ : SFault)))
def modes_Play.p1 (x3 : Int) : Option (Unit ⊕ (SModal × SFault)) :=
    if x3 < 0 then
      some (.inr ((⟨(⟨([] : List Int), ([] : List Int)⟩ : SPlayed), 0⟩ : SModal), (⟨3, 0⟩ : SFault)))
    else
      if x3 > 20000 then
        some (.inr ((⟨(⟨([] : List Int), ([] : List Int)⟩ : SPlayed), 0⟩ : SModal), (⟨3, 0⟩ : SFault)))
      else
        some (.inl ())
def modes_Play.r2 (l0 : List SCrit) (l1 : List SCome) (l2 : List Int) : Nat → Option (Nat ⊕ (Unit ⊕ (SModal × SFault)))
  | i1 =>
    if (i1 : Int) < (l1.length : Int) then
      match l1[i1]? with
      | none => none
      | some e1 =>
        if e1.Task < 0 then
          some (.inr (.inr ((⟨(⟨([] : List Int), ([] : List Int)⟩ : SPlayed), 0⟩ : SModal), (⟨4, (i1 : Int)⟩ : SFault))))
        else
          if e1.Task ≥ (l0.length : Int) then
            some (.inr (.inr ((⟨(⟨([] : List Int), ([] : List Int)⟩ : SPlayed), 0⟩ : SModal), (⟨4, (i1 : Int)⟩ : SFault))))
          else
            if e1.At < 0 then
              some (.inr (.inr ((⟨(⟨([] : List Int), ([] : List Int)⟩ : SPlayed), 0⟩ : SModal), (⟨3, (i1 : Int)⟩ : SFault))))
            else
              if e1.At > 20000 then
                some (.inr (.inr ((⟨(⟨([] : List Int), ([] : List Int)⟩ : SPlayed), 0⟩ : SModal), (⟨3, (i1 : Int)⟩ : SFault))))
              else
                match l2[i1]? with
                | none => none
                | some e2 =>
                  if e2 < 1 then
                    some (.inr (.inr ((⟨(⟨([] : List Int), ([] : List Int)⟩ : SPlayed), 0⟩ : SModal), (⟨3, (i1 : Int)⟩ : SFault))))
                  else
                    if 0 ≤ e1.Task then
                      match l0[(e1.Task).toNat]? with
                      | none => none
                      | some e3 =>
                        if e2 > e3.H then
                          some (.inr (.inr ((⟨(⟨([] : List Int), ([] : List Int)⟩ : SPlayed), 0⟩ : SModal), (⟨3, (i1 : Int)⟩ : SFault))))
                        else
                          some (.inl (i1 + 1))
                    else
                      none
    else
      some (.inr (.inl ()))
def modes_Play.p3 (l1 : List SCome) (x3 : Int) : Option (((List Int) × (List Int) × Int) ⊕ (SModal × SFault)) :=
    if 0 ≤ x3 then
      if ((x3).toNat) ≤ 17592186044416 then
        if l1.length ≤ 17592186044416 then
          some (.inl ((List.replicate ((x3).toNat) (0 : Int)), (List.replicate l1.length (0 : Int)), (-1)))
        else
          none
      else
        none
    else
      none
def modes_Play.r4 (l1 : List SCome) : Nat × (List Int) → Option ((Nat × (List Int)) ⊕ ((List Int) ⊕ (SModal × SFault)))
  | (i2, m5) =>
    if (i2 : Int) < (l1.length : Int) then
      match m5[i2]? with
      | none => none
      | some e4 =>
        some (.inl ((i2 + 1), (m5.set i2 (-1))))
    else
      some (.inr (.inl m5))
def modes_Play.p7 (z3 : Int) (m10 : List Int) (z4 : Int) (i3 : Nat) (e5 : SCome) (e6 : SCrit) : Option (Unit ⊕ (Unit ⊕ (SModal × SFault))) :=
    if e5.At > z3 then
      some (.inr (.inl ()))
    else
      match m10[i3]? with
      | none => none
      | some e7 =>
        if e7 ≥ 0 then
          some (.inr (.inl ()))
        else
          if z4 ≥ 0 then
            if e6.High = true then
              some (.inl ())
            else
              some (.inr (.inl ()))
          else
            some (.inl ())
def modes_Play.r6 (l0 : List SCrit) (l1 : List SCome) (z3 : Int) (m10 : List Int) (z4 : Int) : Int × Nat → Option ((Int × Nat) ⊕ (Int ⊕ (SModal × SFault)))
  | (z6, i3) =>
    if (i3 : Int) < (l1.length : Int) then
      match l1[i3]? with
      | none => none
      | some e5 =>
        if 0 ≤ e5.Task then
          match l0[(e5.Task).toNat]? with
          | none => none
          | some e6 =>
            match modes_Play.p7 z3 m10 z4 i3 e5 e6 with
            | none => none
            | some (.inl _) =>
              if z6 < 0 then
                some (.inl ((i3 : Int), (i3 + 1)))
              else
                if 0 ≤ z6 then
                  match l1[(z6).toNat]? with
                  | none => none
                  | some e8 =>
                    if 0 ≤ e8.Task then
                      match l0[(e8.Task).toNat]? with
                      | none => none
                      | some e9 =>
                        if e6.P > e9.P then
                          some (.inl ((i3 : Int), (i3 + 1)))
                        else
                          if e6.P = e9.P then
                            if e5.At < e8.At then
                              some (.inl ((i3 : Int), (i3 + 1)))
                            else
                              some (.inl (z6, (i3 + 1)))
                          else
                            some (.inl (z6, (i3 + 1)))
                    else
                      none
                else
                  none
            | some (.inr (.inl _)) =>
              some (.inl (z6, (i3 + 1)))
            | some (.inr (.inr rr1)) =>
              some (.inr (.inr rr1))
        else
          none
    else
      some (.inr (.inl z6))
def modes_Play.r5 (K : Nat) (l0 : List SCrit) (l1 : List SCome) (l2 : List Int) (x3 : Int) : Int × (List Int) × (List Int) × (List Int) × Int → Option ((Int × (List Int) × (List Int) × (List Int) × Int) ⊕ (((List Int) × (List Int) × Int) ⊕ (SModal × SFault)))
  | (z3, m8, m9, m10, z4) =>
    if z3 < x3 then
      match iter (modes_Play.r6 l0 l1 z3 m10 z4) K ((-1), 0) with
      | none => none
      | some (.inl z8) =>
        if 0 ≤ z3 then
          match m9[(z3).toNat]? with
          | none => none
          | some e10 =>
            if z8 < 0 then
              some (.inl (IntKind.i64.wrap (z3 + 1), m8, (m9.set ((z3).toNat) z8), m10, z4))
            else
              if 0 ≤ z8 then
                match m8[(z8).toNat]? with
                | none => none
                | some e11 =>
                  match l1[(z8).toNat]? with
                  | none => none
                  | some e12 =>
                    if 0 ≤ e12.Task then
                      match l0[(e12.Task).toNat]? with
                      | none => none
                      | some e13 =>
                        match (m8.set ((z8).toNat) (IntKind.i64.wrap (e11 + 1)))[(z8).toNat]? with
                        | none => none
                        | some e14 =>
                          match l2[(z8).toNat]? with
                          | none => none
                          | some e15 =>
                            if e14 = e15 then
                              match m10[(z8).toNat]? with
                              | none => none
                              | some e16 =>
                                some (.inl (IntKind.i64.wrap (z3 + 1), (m8.set ((z8).toNat) (IntKind.i64.wrap (e11 + 1))), (m9.set ((z3).toNat) z8), (m10.set ((z8).toNat) (IntKind.i64.wrap (z3 + 1))), z4))
                            else
                              if e14 = e13.C then
                                if e13.High = true then
                                  if z4 < 0 then
                                    some (.inl (IntKind.i64.wrap (z3 + 1), (m8.set ((z8).toNat) (IntKind.i64.wrap (e11 + 1))), (m9.set ((z3).toNat) z8), m10, IntKind.i64.wrap (z3 + 1)))
                                  else
                                    some (.inl (IntKind.i64.wrap (z3 + 1), (m8.set ((z8).toNat) (IntKind.i64.wrap (e11 + 1))), (m9.set ((z3).toNat) z8), m10, z4))
                                else
                                  some (.inl (IntKind.i64.wrap (z3 + 1), (m8.set ((z8).toNat) (IntKind.i64.wrap (e11 + 1))), (m9.set ((z3).toNat) z8), m10, z4))
                              else
                                some (.inl (IntKind.i64.wrap (z3 + 1), (m8.set ((z8).toNat) (IntKind.i64.wrap (e11 + 1))), (m9.set ((z3).toNat) z8), m10, z4))
                    else
                      none
              else
                none
        else
          none
      | some (.inr rr2) =>
        some (.inr (.inr rr2))
    else
      some (.inr (.inl (m9, m10, z4)))
def modes_Play.p8 (r1 : SFault) : Option ((Int × Int × (List Int) × (List Int) × Int) ⊕ (SModal × SFault)) :=
    some (.inl (r1.Code, r1.At, ([] : List Int), ([] : List Int), 0))
def modes_Play.f (K : Nat) (l0 : List SCrit) (l1 : List SCome) (l2 : List Int) (x3 : Int) : Option (SModal × SFault) :=
  match modes_Check.f K l0 with
  | none => none
  | some r1 =>
    if r1.Code = 0 then
      match modes_Play.p0 l1 l2 with
      | none => none
      | some (.inl _) =>
        match modes_Play.p1 x3 with
        | none => none
        | some (.inl _) =>
          match iter (modes_Play.r2 l0 l1 l2) K 0 with
          | none => none
          | some (.inl _) =>
            match modes_Play.p3 l1 x3 with
            | none => none
            | some (.inl (m3, m4, z2)) =>
              if l1.length ≤ 17592186044416 then
                match iter (modes_Play.r4 l1) K (0, m4) with
                | none => none
                | some (.inl m7) =>
                  match iter (modes_Play.r5 K l0 l1 l2 x3) K (0, (List.replicate l1.length (0 : Int)), m3, m7, z2) with
                  | none => none
                  | some (.inl (m13, m14, z9)) =>
                    some ((⟨(⟨m13, m14⟩ : SPlayed), z9⟩ : SModal), (⟨0, 0⟩ : SFault))
                  | some (.inr rr3) =>
                    some rr3
                | some (.inr rr4) =>
                  some rr4
              else
                none
            | some (.inr rr5) =>
              some rr5
          | some (.inr rr6) =>
            some rr6
        | some (.inr rr7) =>
          some rr7
      | some (.inr rr8) =>
        some rr8
    else
      match modes_Play.p8 r1 with
      | none => none
      | some (.inl (z13, z14, m17, m18, z15)) =>
        some ((⟨(⟨m17, m18⟩ : SPlayed), z15⟩ : SModal), (⟨z13, z14⟩ : SFault))
      | some (.inr rr9) =>
        some rr9
abbrev modes_Play.A0 (K : Nat) (w0 : World) (l0 : List SCrit) (A0 : Option Addr) (c0 : Nat) (l1 : List SCome) (A1 : Option Addr) (c1 : Nat) (l2 : List Int) (A2 : Option Addr) (c2 : Nat) (x3 : Int) (hR0 : RdL w0 A0 l0) (hL0 : l0.length ≤ c0) (hR1 : RdL w0 A1 l1) (hL1 : l1.length ≤ c1) (hR2 : RdL w0 A2 l2) (hL2 : l2.length ≤ c2) (b1 : Nat) (b2 : Nat) (r1 : SFault) (b3 : Nat) (hc1 : r1.Code = 0) : Unit → Act → World → Prop := fun (s : Unit) a w => St w0 w [Own.blk b2 (.cells #[.int .i64 0, .int .i64 0] 31 (0, 0)), Own.blk b1 (.cells #[.slice none 0 0, .slice none 0 0, .int .i64 0] 51 (0, 0))] ∧ Frm 265 a [(0, .slice A0 l0.length c0), (1, .slice A1 l1.length c1), (2, .slice A2 l2.length c2), (3, .int .i64 x3), (8, .pointer (some ⟨b1, 0, none⟩)), (9, .pointer (some ⟨b2, 0, none⟩))]
abbrev modes_Play.B0 (K : Nat) (w0 : World) (l0 : List SCrit) (A0 : Option Addr) (c0 : Nat) (l1 : List SCome) (A1 : Option Addr) (c1 : Nat) (l2 : List Int) (A2 : Option Addr) (c2 : Nat) (x3 : Int) (hR0 : RdL w0 A0 l0) (hL0 : l0.length ≤ c0) (hR1 : RdL w0 A1 l1) (hL1 : l1.length ≤ c1) (hR2 : RdL w0 A2 l2) (hL2 : l2.length ≤ c2) (b1 : Nat) (b2 : Nat) (r1 : SFault) (b3 : Nat) (hc1 : r1.Code = 0) : (SModal × SFault) → Exit → Act → World → Prop := Rets Tryd.prog Tryd.f21 (modes_Play.Post w0)
theorem modes_Play_p0 (K : Nat) (w0 : World) (l0 : List SCrit) (A0 : Option Addr) (c0 : Nat) (l1 : List SCome) (A1 : Option Addr) (c1 : Nat) (l2 : List Int) (A2 : Option Addr) (c2 : Nat) (x3 : Int) (hR0 : RdL w0 A0 l0) (hL0 : l0.length ≤ c0) (hR1 : RdL w0 A1 l1) (hL1 : l1.length ≤ c1) (hR2 : RdL w0 A2 l2) (hL2 : l2.length ≤ c2) (b1 : Nat) (b2 : Nat) (r1 : SFault) (b3 : Nat) (hc1 : r1.Code = 0) (o : Unit ⊕ (SModal × SFault)) (h : modes_Play.p0 l1 l2 = some o) (w : World) (hS : St w0 w [Own.blk b3 (.cells #[.int .i64 r1.Code, .int .i64 r1.At] 31 (0, 0)), Own.blk b2 (.cells #[.int .i64 0, .int .i64 0] 31 (0, 0)), Own.blk b1 (.cells #[.slice none 0 0, .slice none 0 0, .int .i64 0] 51 (0, 0))]) (Q : Exit → Act → World → Prop) (hQ : ∀ x a w, Outs (modes_Play.A0 K w0 l0 A0 c0 l1 A1 c1 l2 A2 c2 x3 hR0 hL0 hR1 hL1 hR2 hL2 b1 b2 r1 b3 hc1) (modes_Play.B0 K w0 l0 A0 c0 l1 A1 c1 l2 A2 c2 x3 hR0 hL0 hR1 hL1 hR2 hL2 b1 b2 r1 b3 hc1) o x a w → Q x a w) : WE Tryd.prog 265 (subF Tryd.f21 [1, 1, 0]) Q [(0, .slice A0 l0.length c0), (1, .slice A1 l1.length c1), (2, .slice A2 l2.length c2), (3, .int .i64 x3), (8, .pointer (some ⟨b1, 0, none⟩)), (9, .pointer (some ⟨b2, 0, none⟩)), (10, .pointer (some ⟨b3, 0, none⟩)), (22, .slice A0 l0.length c0), (23, .agg #[.int .i64 r1.Code, .int .i64 r1.At]), (24, .pointer (some ⟨b3, 0, none⟩)), (25, .int .i64 r1.Code), (26, .bool false)] w := by
  simp only [modes_Play.p0] at h
  refine we_seq fun K6 hK6 => ?_
  refine we_region [(0, 0), (1, 0), (2, 0), (3, 0), (4, 0), (5, 0), (6, 0), (7, 0), (8, 0), (9, 0)] rfl ?_
  refine ge_batch [0, 1, 2, 3] (ans := []) (vs := [(32, .bool (decide ((l1.length : Int) > 4000))), (31, .bool (decide ((l1.length : Int) > 4000))), (30, .int .i64 (l1.length : Int)), (29, .slice A1 l1.length c1)]) (l := []) (by kernel_rfl) trivial ?_
  by_cases hc2 : (l1.length : Int) > 4000
  · rw [if_pos hc2] at h
    refine ge_known (t := 32) (b := decide ((l1.length : Int) > 4000)) (c := true) (by kernel_rfl) (decide_eq_true hc2) ?_
    refine ge_batch [4, 5, 6, 7, 8, 9] (ans := []) (vs := [(38, .bool true), (37, undef), (36, undef), (35, undef), (34, undef), (33, undef)]) (l := []) (by kernel_rfl) trivial ?_
    refine ge_nil fun a hF => hK6 _ _ ?_ a hF
    refine we_true (by kernel_rfl) ?_
    refine we_seq fun K7 hK7 => ?_
    refine we_region [(0, 0), (1, 0), (2, 2), (3, 2)] rfl ?_
    refine ge_batch [0, 1] (ans := []) (vs := [(40, .agg #[.int .i64 2, .int .i64 0]), (39, .agg #[.slice none 0 0, .slice none 0 0, .int .i64 0])]) (l := []) (by kernel_rfl) trivial ?_
    have hS8 := hS.bring 2 rfl
    refine ge_set (b := b1) (j := 0) (cs := #[.slice none 0 0, .slice none 0 0, .int .i64 0]) (t := 51) (vs := [.slice none 0 0, .slice none 0 0, .int .i64 0]) hS8 (by kernel_rfl) rfl rfl fun w6 hS9 => ?_
    have hS10 := hS9.nc #[.slice none 0 0, .slice none 0 0, .int .i64 0] (by kernel_rfl)
    have hS11 := hS10.bring 2 rfl
    refine ge_set (b := b2) (j := 0) (cs := #[.int .i64 0, .int .i64 0]) (t := 31) (vs := [.int .i64 2, .int .i64 0]) hS11 (by kernel_rfl) rfl rfl fun w7 hS12 => ?_
    have hS13 := hS12.nc #[.int .i64 2, .int .i64 0] (by kernel_rfl)
    refine ge_nil fun a hF => hK7 _ _ ?_ a hF
    have hS14 := hS13.nil (α := Int) 3
    have hS15 := hS14.nil (α := Int) 3
    have hS16 := hS15.bring 1 rfl
    have hS17 := hS16.bring 1 rfl
    have hS18 := hS17.takeN 2
    obtain rfl := Option.some.inj h
    exact we_ret fun a hF => hQ _ _ _ (Outs.out nofun ⟨rfl, (post_ret (rs := [.cell 8 51, .cell 9 31]) (ans := [.val ((.slice none 0 0)), .val ((.slice none 0 0)), .val (.int .i64 0), .val (.int .i64 2), .val (.int .i64 0)]) (vs := [.agg #[(.slice none 0 0), (.slice none 0 0), .int .i64 0], .agg #[.int .i64 2, .int .i64 0]]) (l := [.loaded ⟨b1, 0, none⟩ ((.slice none 0 0)), .loaded ⟨b1, 1, none⟩ ((.slice none 0 0)), .loaded ⟨b1, 2, none⟩ (.int .i64 0), .loaded ⟨b2, 0, none⟩ (.int .i64 2), .loaded ⟨b2, 1, none⟩ (.int .i64 0)]) rfl (by kernel_rfl) ⟨hS15.cell 3 rfl rfl, hS15.cell 3 rfl rfl, hS15.cell 3 rfl rfl, hS15.cell 2 rfl rfl, hS15.cell 2 rfl rfl, trivial⟩ ⟨(.slice none 0 0), (.slice none 0 0), rfl, hS18⟩) a hF⟩)
  · rw [if_neg hc2] at h
    refine ge_known (t := 32) (b := decide ((l1.length : Int) > 4000)) (c := false) (by kernel_rfl) (decide_eq_false hc2) ?_
    refine ge_batch [4, 5, 6, 7, 8, 9] (ans := []) (vs := [(38, .bool ((l2.length : Int) != (l1.length : Int))), (37, .bool ((l2.length : Int) != (l1.length : Int))), (36, .int .i64 (l1.length : Int)), (35, .slice A1 l1.length c1), (34, .int .i64 (l2.length : Int)), (33, .slice A2 l2.length c2)]) (l := []) (by kernel_rfl) trivial ?_
    refine ge_nil fun a hF => hK6 _ _ ?_ a hF
    by_cases hc3 : (l2.length : Int) = (l1.length : Int)
    · rw [if_pos hc3] at h
      refine we_known (t := 38) (b := ((l2.length : Int) != (l1.length : Int))) (v := false) (by kernel_rfl) (bne_eq_false_iff_eq.2 hc3) ?_
      refine we_false (by kernel_rfl) ?_
      have hS19 := hS.bring 2 rfl
      have hS20 := hS19.bring 2 rfl
      have hS21 := hS20.takeN 2
      obtain rfl := Option.some.inj h
      exact we_skip fun a hF => hQ _ _ _ (Outs.again ⟨hS21, hF.weaken ⟨by kernel_rfl, by kernel_rfl, by kernel_rfl, by kernel_rfl, by kernel_rfl, by kernel_rfl, trivial⟩⟩)
    · rw [if_neg hc3] at h
      refine we_known (t := 38) (b := ((l2.length : Int) != (l1.length : Int))) (v := true) (by kernel_rfl) (bne_iff_ne.2 hc3) ?_
      refine we_true (by kernel_rfl) ?_
      refine we_seq fun K8 hK8 => ?_
      refine we_region [(0, 0), (1, 0), (2, 2), (3, 2)] rfl ?_
      refine ge_batch [0, 1] (ans := []) (vs := [(40, .agg #[.int .i64 2, .int .i64 0]), (39, .agg #[.slice none 0 0, .slice none 0 0, .int .i64 0])]) (l := []) (by kernel_rfl) trivial ?_
      have hS22 := hS.bring 2 rfl
      refine ge_set (b := b1) (j := 0) (cs := #[.slice none 0 0, .slice none 0 0, .int .i64 0]) (t := 51) (vs := [.slice none 0 0, .slice none 0 0, .int .i64 0]) hS22 (by kernel_rfl) rfl rfl fun w8 hS23 => ?_
      have hS24 := hS23.nc #[.slice none 0 0, .slice none 0 0, .int .i64 0] (by kernel_rfl)
      have hS25 := hS24.bring 2 rfl
      refine ge_set (b := b2) (j := 0) (cs := #[.int .i64 0, .int .i64 0]) (t := 31) (vs := [.int .i64 2, .int .i64 0]) hS25 (by kernel_rfl) rfl rfl fun w9 hS26 => ?_
      have hS27 := hS26.nc #[.int .i64 2, .int .i64 0] (by kernel_rfl)
      refine ge_nil fun a hF => hK8 _ _ ?_ a hF
      have hS28 := hS27.nil (α := Int) 3
      have hS29 := hS28.nil (α := Int) 3
      have hS30 := hS29.bring 1 rfl
      have hS31 := hS30.bring 1 rfl
      have hS32 := hS31.takeN 2
      obtain rfl := Option.some.inj h
      exact we_ret fun a hF => hQ _ _ _ (Outs.out nofun ⟨rfl, (post_ret (rs := [.cell 8 51, .cell 9 31]) (ans := [.val ((.slice none 0 0)), .val ((.slice none 0 0)), .val (.int .i64 0), .val (.int .i64 2), .val (.int .i64 0)]) (vs := [.agg #[(.slice none 0 0), (.slice none 0 0), .int .i64 0], .agg #[.int .i64 2, .int .i64 0]]) (l := [.loaded ⟨b1, 0, none⟩ ((.slice none 0 0)), .loaded ⟨b1, 1, none⟩ ((.slice none 0 0)), .loaded ⟨b1, 2, none⟩ (.int .i64 0), .loaded ⟨b2, 0, none⟩ (.int .i64 2), .loaded ⟨b2, 1, none⟩ (.int .i64 0)]) rfl (by kernel_rfl) ⟨hS29.cell 3 rfl rfl, hS29.cell 3 rfl rfl, hS29.cell 3 rfl rfl, hS29.cell 2 rfl rfl, hS29.cell 2 rfl rfl, trivial⟩ ⟨(.slice none 0 0), (.slice none 0 0), rfl, hS32⟩) a hF⟩)
abbrev modes_Play.A1 (K : Nat) (w0 : World) (l0 : List SCrit) (A0 : Option Addr) (c0 : Nat) (l1 : List SCome) (A1 : Option Addr) (c1 : Nat) (l2 : List Int) (A2 : Option Addr) (c2 : Nat) (x3 : Int) (hR0 : RdL w0 A0 l0) (hL0 : l0.length ≤ c0) (hR1 : RdL w0 A1 l1) (hL1 : l1.length ≤ c1) (hR2 : RdL w0 A2 l2) (hL2 : l2.length ≤ c2) (b1 : Nat) (b2 : Nat) (r1 : SFault) (b3 : Nat) (hc1 : r1.Code = 0) : Unit → Act → World → Prop := fun (s : Unit) a w => St w0 w [Own.blk b2 (.cells #[.int .i64 0, .int .i64 0] 31 (0, 0)), Own.blk b1 (.cells #[.slice none 0 0, .slice none 0 0, .int .i64 0] 51 (0, 0))] ∧ Frm 265 a [(0, .slice A0 l0.length c0), (1, .slice A1 l1.length c1), (2, .slice A2 l2.length c2), (3, .int .i64 x3), (8, .pointer (some ⟨b1, 0, none⟩)), (9, .pointer (some ⟨b2, 0, none⟩))]
abbrev modes_Play.B1 (K : Nat) (w0 : World) (l0 : List SCrit) (A0 : Option Addr) (c0 : Nat) (l1 : List SCome) (A1 : Option Addr) (c1 : Nat) (l2 : List Int) (A2 : Option Addr) (c2 : Nat) (x3 : Int) (hR0 : RdL w0 A0 l0) (hL0 : l0.length ≤ c0) (hR1 : RdL w0 A1 l1) (hL1 : l1.length ≤ c1) (hR2 : RdL w0 A2 l2) (hL2 : l2.length ≤ c2) (b1 : Nat) (b2 : Nat) (r1 : SFault) (b3 : Nat) (hc1 : r1.Code = 0) : (SModal × SFault) → Exit → Act → World → Prop := Rets Tryd.prog Tryd.f21 (modes_Play.Post w0)
theorem modes_Play_p1 (K : Nat) (w0 : World) (l0 : List SCrit) (A0 : Option Addr) (c0 : Nat) (l1 : List SCome) (A1 : Option Addr) (c1 : Nat) (l2 : List Int) (A2 : Option Addr) (c2 : Nat) (x3 : Int) (hR0 : RdL w0 A0 l0) (hL0 : l0.length ≤ c0) (hR1 : RdL w0 A1 l1) (hL1 : l1.length ≤ c1) (hR2 : RdL w0 A2 l2) (hL2 : l2.length ≤ c2) (b1 : Nat) (b2 : Nat) (r1 : SFault) (b3 : Nat) (hc1 : r1.Code = 0) (o : Unit ⊕ (SModal × SFault)) (h : modes_Play.p1 x3 = some o) (w : World) (hS : St w0 w [Own.blk b2 (.cells #[.int .i64 0, .int .i64 0] 31 (0, 0)), Own.blk b1 (.cells #[.slice none 0 0, .slice none 0 0, .int .i64 0] 51 (0, 0))]) (Q : Exit → Act → World → Prop) (hQ : ∀ x a w, Outs (modes_Play.A1 K w0 l0 A0 c0 l1 A1 c1 l2 A2 c2 x3 hR0 hL0 hR1 hL1 hR2 hL2 b1 b2 r1 b3 hc1) (modes_Play.B1 K w0 l0 A0 c0 l1 A1 c1 l2 A2 c2 x3 hR0 hL0 hR1 hL1 hR2 hL2 b1 b2 r1 b3 hc1) o x a w → Q x a w) : WE Tryd.prog 265 (subF Tryd.f21 [1, 1, 1, 0]) Q [(0, .slice A0 l0.length c0), (1, .slice A1 l1.length c1), (2, .slice A2 l2.length c2), (3, .int .i64 x3), (8, .pointer (some ⟨b1, 0, none⟩)), (9, .pointer (some ⟨b2, 0, none⟩))] w := by
  simp only [modes_Play.p1] at h
  refine we_seq fun K10 hK10 => ?_
  refine we_region [(0, 0), (1, 0), (2, 0), (3, 0), (4, 0), (5, 0)] rfl ?_
  refine ge_batch [0, 1, 2] (ans := []) (vs := [(43, .bool (decide (x3 < 0))), (42, .bool (decide (x3 < 0))), (41, .int .i64 x3)]) (l := []) (by kernel_rfl) trivial ?_
  by_cases hc4 : x3 < 0
  · rw [if_pos hc4] at h
    refine ge_known (t := 43) (b := decide (x3 < 0)) (c := true) (by kernel_rfl) (decide_eq_true hc4) ?_
    refine ge_batch [3, 4, 5] (ans := []) (vs := [(46, .bool true), (45, undef), (44, undef)]) (l := []) (by kernel_rfl) trivial ?_
    refine ge_nil fun a hF => hK10 _ _ ?_ a hF
    refine we_true (by kernel_rfl) ?_
    refine we_seq fun K11 hK11 => ?_
    refine we_region [(0, 0), (1, 0), (2, 2), (3, 2)] rfl ?_
    refine ge_batch [0, 1] (ans := []) (vs := [(48, .agg #[.int .i64 3, .int .i64 0]), (47, .agg #[.slice none 0 0, .slice none 0 0, .int .i64 0])]) (l := []) (by kernel_rfl) trivial ?_
    have hS34 := hS.bring 1 rfl
    refine ge_set (b := b1) (j := 0) (cs := #[.slice none 0 0, .slice none 0 0, .int .i64 0]) (t := 51) (vs := [.slice none 0 0, .slice none 0 0, .int .i64 0]) hS34 (by kernel_rfl) rfl rfl fun w11 hS35 => ?_
    have hS36 := hS35.nc #[.slice none 0 0, .slice none 0 0, .int .i64 0] (by kernel_rfl)
    have hS37 := hS36.bring 1 rfl
    refine ge_set (b := b2) (j := 0) (cs := #[.int .i64 0, .int .i64 0]) (t := 31) (vs := [.int .i64 3, .int .i64 0]) hS37 (by kernel_rfl) rfl rfl fun w12 hS38 => ?_
    have hS39 := hS38.nc #[.int .i64 3, .int .i64 0] (by kernel_rfl)
    refine ge_nil fun a hF => hK11 _ _ ?_ a hF
    have hS40 := hS39.nil (α := Int) 3
    have hS41 := hS40.nil (α := Int) 3
    have hS42 := hS41.bring 1 rfl
    have hS43 := hS42.bring 1 rfl
    have hS44 := hS43.takeN 2
    obtain rfl := Option.some.inj h
    exact we_ret fun a hF => hQ _ _ _ (Outs.out nofun ⟨rfl, (post_ret (rs := [.cell 8 51, .cell 9 31]) (ans := [.val ((.slice none 0 0)), .val ((.slice none 0 0)), .val (.int .i64 0), .val (.int .i64 3), .val (.int .i64 0)]) (vs := [.agg #[(.slice none 0 0), (.slice none 0 0), .int .i64 0], .agg #[.int .i64 3, .int .i64 0]]) (l := [.loaded ⟨b1, 0, none⟩ ((.slice none 0 0)), .loaded ⟨b1, 1, none⟩ ((.slice none 0 0)), .loaded ⟨b1, 2, none⟩ (.int .i64 0), .loaded ⟨b2, 0, none⟩ (.int .i64 3), .loaded ⟨b2, 1, none⟩ (.int .i64 0)]) rfl (by kernel_rfl) ⟨hS41.cell 3 rfl rfl, hS41.cell 3 rfl rfl, hS41.cell 3 rfl rfl, hS41.cell 2 rfl rfl, hS41.cell 2 rfl rfl, trivial⟩ ⟨(.slice none 0 0), (.slice none 0 0), rfl, hS44⟩) a hF⟩)
  · rw [if_neg hc4] at h
    refine ge_known (t := 43) (b := decide (x3 < 0)) (c := false) (by kernel_rfl) (decide_eq_false hc4) ?_
    refine ge_batch [3, 4, 5] (ans := []) (vs := [(46, .bool (decide (x3 > 20000))), (45, .bool (decide (x3 > 20000))), (44, .int .i64 x3)]) (l := []) (by kernel_rfl) trivial ?_
    refine ge_nil fun a hF => hK10 _ _ ?_ a hF
    by_cases hc5 : x3 > 20000
    · rw [if_pos hc5] at h
      refine we_known (t := 46) (b := decide (x3 > 20000)) (v := true) (by kernel_rfl) (decide_eq_true hc5) ?_
      refine we_true (by kernel_rfl) ?_
      refine we_seq fun K12 hK12 => ?_
      refine we_region [(0, 0), (1, 0), (2, 2), (3, 2)] rfl ?_
      refine ge_batch [0, 1] (ans := []) (vs := [(48, .agg #[.int .i64 3, .int .i64 0]), (47, .agg #[.slice none 0 0, .slice none 0 0, .int .i64 0])]) (l := []) (by kernel_rfl) trivial ?_
      have hS45 := hS.bring 1 rfl
      refine ge_set (b := b1) (j := 0) (cs := #[.slice none 0 0, .slice none 0 0, .int .i64 0]) (t := 51) (vs := [.slice none 0 0, .slice none 0 0, .int .i64 0]) hS45 (by kernel_rfl) rfl rfl fun w13 hS46 => ?_
      have hS47 := hS46.nc #[.slice none 0 0, .slice none 0 0, .int .i64 0] (by kernel_rfl)
      have hS48 := hS47.bring 1 rfl
      refine ge_set (b := b2) (j := 0) (cs := #[.int .i64 0, .int .i64 0]) (t := 31) (vs := [.int .i64 3, .int .i64 0]) hS48 (by kernel_rfl) rfl rfl fun w14 hS49 => ?_
      have hS50 := hS49.nc #[.int .i64 3, .int .i64 0] (by kernel_rfl)
      refine ge_nil fun a hF => hK12 _ _ ?_ a hF
      have hS51 := hS50.nil (α := Int) 3
      have hS52 := hS51.nil (α := Int) 3
      have hS53 := hS52.bring 1 rfl
      have hS54 := hS53.bring 1 rfl
      have hS55 := hS54.takeN 2
      obtain rfl := Option.some.inj h
      exact we_ret fun a hF => hQ _ _ _ (Outs.out nofun ⟨rfl, (post_ret (rs := [.cell 8 51, .cell 9 31]) (ans := [.val ((.slice none 0 0)), .val ((.slice none 0 0)), .val (.int .i64 0), .val (.int .i64 3), .val (.int .i64 0)]) (vs := [.agg #[(.slice none 0 0), (.slice none 0 0), .int .i64 0], .agg #[.int .i64 3, .int .i64 0]]) (l := [.loaded ⟨b1, 0, none⟩ ((.slice none 0 0)), .loaded ⟨b1, 1, none⟩ ((.slice none 0 0)), .loaded ⟨b1, 2, none⟩ (.int .i64 0), .loaded ⟨b2, 0, none⟩ (.int .i64 3), .loaded ⟨b2, 1, none⟩ (.int .i64 0)]) rfl (by kernel_rfl) ⟨hS52.cell 3 rfl rfl, hS52.cell 3 rfl rfl, hS52.cell 3 rfl rfl, hS52.cell 2 rfl rfl, hS52.cell 2 rfl rfl, trivial⟩ ⟨(.slice none 0 0), (.slice none 0 0), rfl, hS55⟩) a hF⟩)
    · rw [if_neg hc5] at h
      refine we_known (t := 46) (b := decide (x3 > 20000)) (v := false) (by kernel_rfl) (decide_eq_false hc5) ?_
      refine we_false (by kernel_rfl) ?_
      have hS56 := hS.bring 1 rfl
      have hS57 := hS56.bring 1 rfl
      obtain rfl := Option.some.inj h
      exact we_skip fun a hF => hQ _ _ _ (Outs.again ⟨hS57, hF.weaken ⟨by kernel_rfl, by kernel_rfl, by kernel_rfl, by kernel_rfl, by kernel_rfl, by kernel_rfl, trivial⟩⟩)
abbrev modes_Play.A2 (K : Nat) (w0 : World) (l0 : List SCrit) (A0 : Option Addr) (c0 : Nat) (l1 : List SCome) (A1 : Option Addr) (c1 : Nat) (l2 : List Int) (A2 : Option Addr) (c2 : Nat) (x3 : Int) (hR0 : RdL w0 A0 l0) (hL0 : l0.length ≤ c0) (hR1 : RdL w0 A1 l1) (hL1 : l1.length ≤ c1) (hR2 : RdL w0 A2 l2) (hL2 : l2.length ≤ c2) (b1 : Nat) (b2 : Nat) (r1 : SFault) (b3 : Nat) (hc1 : r1.Code = 0) : Nat → Act → World → Prop := fun (s : Nat) a w => St w0 w [Own.blk b2 (.cells #[.int .i64 0, .int .i64 0] 31 (0, 0)), Own.blk b1 (.cells #[.slice none 0 0, .slice none 0 0, .int .i64 0] 51 (0, 0))] ∧ Frm 265 a [(0, .slice A0 l0.length c0), (1, .slice A1 l1.length c1), (2, .slice A2 l2.length c2), (3, .int .i64 x3), (8, .pointer (some ⟨b1, 0, none⟩)), (9, .pointer (some ⟨b2, 0, none⟩)), (49, .slice A1 l1.length c1), (50, .int .i64 (l1.length : Int)), (51, .int .i64 (s : Int))]
abbrev modes_Play.B2 (K : Nat) (w0 : World) (l0 : List SCrit) (A0 : Option Addr) (c0 : Nat) (l1 : List SCome) (A1 : Option Addr) (c1 : Nat) (l2 : List Int) (A2 : Option Addr) (c2 : Nat) (x3 : Int) (hR0 : RdL w0 A0 l0) (hL0 : l0.length ≤ c0) (hR1 : RdL w0 A1 l1) (hL1 : l1.length ≤ c1) (hR2 : RdL w0 A2 l2) (hL2 : l2.length ≤ c2) (b1 : Nat) (b2 : Nat) (r1 : SFault) (b3 : Nat) (hc1 : r1.Code = 0) : (Unit ⊕ (SModal × SFault)) → Exit → Act → World → Prop := Exits 0 (fun (s : Unit) a w => St w0 w [Own.blk b2 (.cells #[.int .i64 0, .int .i64 0] 31 (0, 0)), Own.blk b1 (.cells #[.slice none 0 0, .slice none 0 0, .int .i64 0] 51 (0, 0))] ∧ Frm 265 a [(0, .slice A0 l0.length c0), (1, .slice A1 l1.length c1), (2, .slice A2 l2.length c2), (3, .int .i64 x3), (8, .pointer (some ⟨b1, 0, none⟩)), (9, .pointer (some ⟨b2, 0, none⟩))]) (Rets Tryd.prog Tryd.f21 (modes_Play.Post w0))
theorem modes_Play_r2 (K : Nat) (w0 : World) (l0 : List SCrit) (A0 : Option Addr) (c0 : Nat) (l1 : List SCome) (A1 : Option Addr) (c1 : Nat) (l2 : List Int) (A2 : Option Addr) (c2 : Nat) (x3 : Int) (hR0 : RdL w0 A0 l0) (hL0 : l0.length ≤ c0) (hR1 : RdL w0 A1 l1) (hL1 : l1.length ≤ c1) (hR2 : RdL w0 A2 l2) (hL2 : l2.length ≤ c2) (b1 : Nat) (b2 : Nat) (r1 : SFault) (b3 : Nat) (hc1 : r1.Code = 0) (s : Nat) (o : Nat ⊕ (Unit ⊕ (SModal × SFault))) (h : modes_Play.r2 l0 l1 l2 s = some o) (a : Act) (w : World) (hA : modes_Play.A2 K w0 l0 A0 c0 l1 A1 c1 l2 A2 c2 x3 hR0 hL0 hR1 hL1 hR2 hL2 b1 b2 r1 b3 hc1 s a w) (Q : Exit → Act → World → Prop) (hQ : ∀ x a w, Outs (modes_Play.A2 K w0 l0 A0 c0 l1 A1 c1 l2 A2 c2 x3 hR0 hL0 hR1 hL1 hR2 hL2 b1 b2 r1 b3 hc1) (modes_Play.B2 K w0 l0 A0 c0 l1 A1 c1 l2 A2 c2 x3 hR0 hL0 hR1 hL1 hR2 hL2 b1 b2 r1 b3 hc1) o x a w → Q x a w) : (subF Tryd.f21 [1, 1, 1, 1, 0, 1, 0, 0]).wp Tryd.prog Q a w := by
  obtain ⟨i1, hs⟩ : ∃ z, z = s := ⟨s, rfl⟩
  subst hs
  obtain ⟨hS, hF⟩ := hA
  replace hS : St w0 w [Own.blk b2 (.cells #[.int .i64 0, .int .i64 0] 31 (0, 0)), Own.blk b1 (.cells #[.slice none 0 0, .slice none 0 0, .int .i64 0] 51 (0, 0))] := hS
  simp only [modes_Play.r2] at h
  refine (?_ : WE Tryd.prog 265 (subF Tryd.f21 [1, 1, 1, 1, 0, 1, 0, 0]) Q [(0, .slice A0 l0.length c0), (1, .slice A1 l1.length c1), (2, .slice A2 l2.length c2), (3, .int .i64 x3), (8, .pointer (some ⟨b1, 0, none⟩)), (9, .pointer (some ⟨b2, 0, none⟩)), (49, .slice A1 l1.length c1), (50, .int .i64 (l1.length : Int)), (51, .int .i64 (i1 : Int))] w) a hF
  clear hF a
  refine we_seq fun K15 hK15 => ?_
  refine we_region [(0, 0)] rfl ?_
  refine ge_batch [0] (ans := []) (vs := [(52, .bool (decide ((i1 : Int) < (l1.length : Int))))]) (l := []) (by kernel_rfl) trivial ?_
  refine ge_nil fun a hF => hK15 _ _ ?_ a hF
  refine we_seq fun K16 hK16 => ?_
  by_cases hc6 : (i1 : Int) < (l1.length : Int)
  · rw [if_pos hc6] at h
    refine we_known (t := 52) (b := decide ((i1 : Int) < (l1.length : Int))) (v := true) (by kernel_rfl) (decide_eq_true hc6) ?_
    refine we_true (by kernel_rfl) ?_
    refine we_skip fun a hF => hK16 _ _ ?_ a hF
    refine we_seq fun K17 hK17 => ?_
    refine we_block ?_
    refine we_seq fun K18 hK18 => ?_
    refine we_region [(0, 0), (1, 0), (2, 0), (3, 1), (4, 0), (5, 2)] rfl ?_
    refine ge_batch [0] (ans := []) (vs := [(53, .int .i64 (i1 : Int))]) (l := []) (by kernel_rfl) trivial ?_
    rcases hx4 : l1[i1]? with _ | e1
    · rw [hx4] at h; cases h
    rw [hx4] at h
    simp only [] at h
    refine ge_index (d := 54) (ty := 0) (t := 40) (el := 46) (sz := 2) (m := l1.length) (c := c1) (x := (.tmp 49)) (y := (.tmp 51)) (A := A1) (k' := .i64) (j := (i1 : Int)) (jn := i1) (b0 := blkOf A1) (o0 := offOf A1) (by kernel_rfl) (by kernel_rfl) (by kernel_rfl) (by kernel_rfl) (by kernel_rfl) ((hS.rd hR1).eqSome (pos_of_get hx4)) rfl (lt_of_get hx4) ?_
    refine ge_batch [2] (ans := [.val (.int .i64 e1.Task), .val (.int .i64 e1.At)]) (vs := [(55, .agg #[.int .i64 e1.Task, .int .i64 e1.At])]) (l := [.loaded ⟨blkOf A1, offOf A1 + i1 * 2, none⟩ (.int .i64 e1.Task), .loaded ⟨blkOf A1, offOf A1 + i1 * 2 + 1, none⟩ (.int .i64 e1.At)]) (by kernel_rfl) ⟨RdL.cell (j := 0) (hS.rd hR1) hx4 rfl, RdL.cell (j := 1) (hS.rd hR1) hx4 rfl, trivial⟩ ?_
    refine ge_new (d := some 12) (o := .cells #[.int .i64 0, .int .i64 0] 46) (v := fun b => .pointer (some ⟨b, 0, none⟩)) hS (fun b => by kernel_rfl) fun b4 w16 hx5 hS61 => ?_
    refine ge_batch [4] (ans := []) (vs := [(11, .int .i64 (i1 : Int))]) (l := []) (by kernel_rfl) trivial ?_
    refine ge_set (b := b4) (j := 0) (cs := #[.int .i64 0, .int .i64 0]) (t := 46) (vs := [.int .i64 e1.Task, .int .i64 e1.At]) hS61 (by kernel_rfl) rfl rfl fun w17 hS62 => ?_
    have hS63 := hS62.nc #[.int .i64 e1.Task, .int .i64 e1.At] (by kernel_rfl)
    refine ge_nil fun a hF => hK18 _ _ ?_ a hF
    refine we_seq fun K19 hK19 => ?_
    refine we_seq fun K20 hK20 => ?_
    refine we_region [(0, 0), (1, 0), (2, 0), (3, 0), (4, 0), (5, 0), (6, 0), (7, 0), (8, 0), (9, 0)] rfl ?_
    refine ge_batch [0, 1, 2, 3] (ans := [.val (.int .i64 e1.Task)]) (vs := [(59, .bool (decide (e1.Task < 0))), (58, .bool (decide (e1.Task < 0))), (57, .int .i64 e1.Task), (56, .pointer (some ⟨b4, 0, none⟩))]) (l := [.loaded ⟨b4, 0, none⟩ (.int .i64 e1.Task)]) (by kernel_rfl) ⟨hS63.cell 0 rfl rfl, trivial⟩ ?_
    by_cases hc7 : e1.Task < 0
    · rw [if_pos hc7] at h
      refine ge_known (t := 59) (b := decide (e1.Task < 0)) (c := true) (by kernel_rfl) (decide_eq_true hc7) ?_
      refine ge_batch [4, 5, 6, 7, 8, 9] (ans := []) (vs := [(65, .bool true), (64, undef), (63, undef), (62, undef), (61, undef), (60, undef)]) (l := []) (by kernel_rfl) trivial ?_
      refine ge_nil fun a hF => hK20 _ _ ?_ a hF
      refine we_true (by kernel_rfl) ?_
      refine we_seq fun K21 hK21 => ?_
      refine we_region [(0, 0), (1, 0), (2, 0), (3, 2), (4, 2)] rfl ?_
      refine ge_batch [0, 1, 2] (ans := []) (vs := [(68, .agg #[.int .i64 4, .int .i64 (i1 : Int)]), (67, .int .i64 (i1 : Int)), (66, .agg #[.slice none 0 0, .slice none 0 0, .int .i64 0])]) (l := []) (by kernel_rfl) trivial ?_
      have hS64 := hS63.bring 2 rfl
      refine ge_set (b := b1) (j := 0) (cs := #[.slice none 0 0, .slice none 0 0, .int .i64 0]) (t := 51) (vs := [.slice none 0 0, .slice none 0 0, .int .i64 0]) hS64 (by kernel_rfl) rfl rfl fun w18 hS65 => ?_
      have hS66 := hS65.nc #[.slice none 0 0, .slice none 0 0, .int .i64 0] (by kernel_rfl)
      have hS67 := hS66.bring 2 rfl
      refine ge_set (b := b2) (j := 0) (cs := #[.int .i64 0, .int .i64 0]) (t := 31) (vs := [.int .i64 4, .int .i64 (i1 : Int)]) hS67 (by kernel_rfl) rfl rfl fun w19 hS68 => ?_
      have hS69 := hS68.nc #[.int .i64 4, .int .i64 (i1 : Int)] (by kernel_rfl)
      refine ge_nil fun a hF => hK21 _ _ ?_ a hF
      have hS70 := hS69.nil (α := Int) 3
      have hS71 := hS70.nil (α := Int) 3
      have hS72 := hS71.bring 1 rfl
      have hS73 := hS72.bring 1 rfl
      have hS74 := hS73.takeN 2
      obtain rfl := Option.some.inj h
      exact we_ret fun a hF => hQ _ _ _ (Outs.out nofun (Exits.on ⟨rfl, (post_ret (rs := [.cell 8 51, .cell 9 31]) (ans := [.val ((.slice none 0 0)), .val ((.slice none 0 0)), .val (.int .i64 0), .val (.int .i64 4), .val (.int .i64 (i1 : Int))]) (vs := [.agg #[(.slice none 0 0), (.slice none 0 0), .int .i64 0], .agg #[.int .i64 4, .int .i64 (i1 : Int)]]) (l := [.loaded ⟨b1, 0, none⟩ ((.slice none 0 0)), .loaded ⟨b1, 1, none⟩ ((.slice none 0 0)), .loaded ⟨b1, 2, none⟩ (.int .i64 0), .loaded ⟨b2, 0, none⟩ (.int .i64 4), .loaded ⟨b2, 1, none⟩ (.int .i64 (i1 : Int))]) rfl (by kernel_rfl) ⟨hS71.cell 3 rfl rfl, hS71.cell 3 rfl rfl, hS71.cell 3 rfl rfl, hS71.cell 2 rfl rfl, hS71.cell 2 rfl rfl, trivial⟩ ⟨(.slice none 0 0), (.slice none 0 0), rfl, hS74⟩) a hF⟩))
    · rw [if_neg hc7] at h
      refine ge_known (t := 59) (b := decide (e1.Task < 0)) (c := false) (by kernel_rfl) (decide_eq_false hc7) ?_
      refine ge_batch [4, 5, 6, 7, 8, 9] (ans := [.val (.int .i64 e1.Task)]) (vs := [(65, .bool (decide (e1.Task ≥ (l0.length : Int)))), (64, .bool (decide (e1.Task ≥ (l0.length : Int)))), (63, .int .i64 (l0.length : Int)), (62, .slice A0 l0.length c0), (61, .int .i64 e1.Task), (60, .pointer (some ⟨b4, 0, none⟩))]) (l := [.loaded ⟨b4, 0, none⟩ (.int .i64 e1.Task)]) (by kernel_rfl) ⟨hS63.cell 0 rfl rfl, trivial⟩ ?_
      refine ge_nil fun a hF => hK20 _ _ ?_ a hF
      by_cases hc8 : e1.Task ≥ (l0.length : Int)
      · rw [if_pos hc8] at h
        refine we_known (t := 65) (b := decide (e1.Task ≥ (l0.length : Int))) (v := true) (by kernel_rfl) (decide_eq_true hc8) ?_
        refine we_true (by kernel_rfl) ?_
        refine we_seq fun K22 hK22 => ?_
        refine we_region [(0, 0), (1, 0), (2, 0), (3, 2), (4, 2)] rfl ?_
        refine ge_batch [0, 1, 2] (ans := []) (vs := [(68, .agg #[.int .i64 4, .int .i64 (i1 : Int)]), (67, .int .i64 (i1 : Int)), (66, .agg #[.slice none 0 0, .slice none 0 0, .int .i64 0])]) (l := []) (by kernel_rfl) trivial ?_
        have hS75 := hS63.bring 2 rfl
        refine ge_set (b := b1) (j := 0) (cs := #[.slice none 0 0, .slice none 0 0, .int .i64 0]) (t := 51) (vs := [.slice none 0 0, .slice none 0 0, .int .i64 0]) hS75 (by kernel_rfl) rfl rfl fun w20 hS76 => ?_
        have hS77 := hS76.nc #[.slice none 0 0, .slice none 0 0, .int .i64 0] (by kernel_rfl)
        have hS78 := hS77.bring 2 rfl
        refine ge_set (b := b2) (j := 0) (cs := #[.int .i64 0, .int .i64 0]) (t := 31) (vs := [.int .i64 4, .int .i64 (i1 : Int)]) hS78 (by kernel_rfl) rfl rfl fun w21 hS79 => ?_
        have hS80 := hS79.nc #[.int .i64 4, .int .i64 (i1 : Int)] (by kernel_rfl)
        refine ge_nil fun a hF => hK22 _ _ ?_ a hF
        have hS81 := hS80.nil (α := Int) 3
        have hS82 := hS81.nil (α := Int) 3
        have hS83 := hS82.bring 1 rfl
        have hS84 := hS83.bring 1 rfl
        have hS85 := hS84.takeN 2
        obtain rfl := Option.some.inj h
        exact we_ret fun a hF => hQ _ _ _ (Outs.out nofun (Exits.on ⟨rfl, (post_ret (rs := [.cell 8 51, .cell 9 31]) (ans := [.val ((.slice none 0 0)), .val ((.slice none 0 0)), .val (.int .i64 0), .val (.int .i64 4), .val (.int .i64 (i1 : Int))]) (vs := [.agg #[(.slice none 0 0), (.slice none 0 0), .int .i64 0], .agg #[.int .i64 4, .int .i64 (i1 : Int)]]) (l := [.loaded ⟨b1, 0, none⟩ ((.slice none 0 0)), .loaded ⟨b1, 1, none⟩ ((.slice none 0 0)), .loaded ⟨b1, 2, none⟩ (.int .i64 0), .loaded ⟨b2, 0, none⟩ (.int .i64 4), .loaded ⟨b2, 1, none⟩ (.int .i64 (i1 : Int))]) rfl (by kernel_rfl) ⟨hS82.cell 3 rfl rfl, hS82.cell 3 rfl rfl, hS82.cell 3 rfl rfl, hS82.cell 2 rfl rfl, hS82.cell 2 rfl rfl, trivial⟩ ⟨(.slice none 0 0), (.slice none 0 0), rfl, hS85⟩) a hF⟩))
      · rw [if_neg hc8] at h
        refine we_known (t := 65) (b := decide (e1.Task ≥ (l0.length : Int))) (v := false) (by kernel_rfl) (decide_eq_false hc8) ?_
        refine we_false (by kernel_rfl) ?_
        refine we_skip fun a hF => hK19 _ _ ?_ a hF
        refine we_seq fun K23 hK23 => ?_
        refine we_draws (by kernel_rfl) [(0, 0), (1, 0), (2, 0), (3, 0), (4, 0), (5, 0), (6, 0), (7, 0), (8, 0), (9, 0), (10, 0), (11, 0), (12, 0), (13, 0), (14, 0), (15, 0), (16, 0), (17, 0), (18, 0), (19, 0), (20, 0), (21, 0), (22, 0), (23, 0), (24, 0), (25, 0), (26, 0), (27, 0)] (by kernel_rfl) ?_
        have hS86 := hS63.drew
        refine ge_batch [0, 1, 2, 3] (ans := [.val (.int .i64 e1.At)]) (vs := [(72, .bool (decide (e1.At < 0))), (71, .bool (decide (e1.At < 0))), (70, .int .i64 e1.At), (69, .pointer (some ⟨b4, 1, none⟩))]) (l := [.loaded ⟨b4, 1, none⟩ (.int .i64 e1.At)]) (by kernel_rfl) ⟨hS86.cell 0 rfl rfl, trivial⟩ ?_
        by_cases hc9 : e1.At < 0
        · rw [if_pos hc9] at h
          refine ge_known (t := 72) (b := decide (e1.At < 0)) (c := true) (by kernel_rfl) (decide_eq_true hc9) ?_
          refine ge_batch [4, 5, 6, 7, 8, 9, 10, 11, 12, 13, 14, 15, 16, 17, 18, 19, 20, 21, 22, 23, 24, 25, 26, 27] (ans := []) (vs := [(96, .bool true), (95, undef), (94, undef), (93, undef), (92, undef), (91, undef), (90, undef), (89, undef), (88, undef), (87, undef), (86, undef), (85, undef), (84, .bool true), (83, .bool true), (82, undef), (81, undef), (80, undef), (79, undef), (78, undef), (77, .bool true), (76, .bool true), (75, undef), (74, undef), (73, undef)]) (l := []) (by kernel_rfl) trivial ?_
          refine ge_nil fun a hF => hK23 _ _ ?_ a hF
          refine we_true (by kernel_rfl) ?_
          refine we_seq fun K24 hK24 => ?_
          refine we_region [(0, 0), (1, 0), (2, 0), (3, 2), (4, 2)] rfl ?_
          refine ge_batch [0, 1, 2] (ans := []) (vs := [(99, .agg #[.int .i64 3, .int .i64 (i1 : Int)]), (98, .int .i64 (i1 : Int)), (97, .agg #[.slice none 0 0, .slice none 0 0, .int .i64 0])]) (l := []) (by kernel_rfl) trivial ?_
          have hS87 := hS86.bring 2 rfl
          refine ge_set (b := b1) (j := 0) (cs := #[.slice none 0 0, .slice none 0 0, .int .i64 0]) (t := 51) (vs := [.slice none 0 0, .slice none 0 0, .int .i64 0]) hS87 (by kernel_rfl) rfl rfl fun w22 hS88 => ?_
          have hS89 := hS88.nc #[.slice none 0 0, .slice none 0 0, .int .i64 0] (by kernel_rfl)
          have hS90 := hS89.bring 2 rfl
          refine ge_set (b := b2) (j := 0) (cs := #[.int .i64 0, .int .i64 0]) (t := 31) (vs := [.int .i64 3, .int .i64 (i1 : Int)]) hS90 (by kernel_rfl) rfl rfl fun w23 hS91 => ?_
          have hS92 := hS91.nc #[.int .i64 3, .int .i64 (i1 : Int)] (by kernel_rfl)
          refine ge_nil fun a hF => hK24 _ _ ?_ a hF
          have hS93 := hS92.nil (α := Int) 3
          have hS94 := hS93.nil (α := Int) 3
          have hS95 := hS94.bring 1 rfl
          have hS96 := hS95.bring 1 rfl
          have hS97 := hS96.takeN 2
          obtain rfl := Option.some.inj h
          exact we_ret fun a hF => hQ _ _ _ (Outs.out nofun (Exits.on ⟨rfl, (post_ret (rs := [.cell 8 51, .cell 9 31]) (ans := [.val ((.slice none 0 0)), .val ((.slice none 0 0)), .val (.int .i64 0), .val (.int .i64 3), .val (.int .i64 (i1 : Int))]) (vs := [.agg #[(.slice none 0 0), (.slice none 0 0), .int .i64 0], .agg #[.int .i64 3, .int .i64 (i1 : Int)]]) (l := [.loaded ⟨b1, 0, none⟩ ((.slice none 0 0)), .loaded ⟨b1, 1, none⟩ ((.slice none 0 0)), .loaded ⟨b1, 2, none⟩ (.int .i64 0), .loaded ⟨b2, 0, none⟩ (.int .i64 3), .loaded ⟨b2, 1, none⟩ (.int .i64 (i1 : Int))]) rfl (by kernel_rfl) ⟨hS94.cell 3 rfl rfl, hS94.cell 3 rfl rfl, hS94.cell 3 rfl rfl, hS94.cell 2 rfl rfl, hS94.cell 2 rfl rfl, trivial⟩ ⟨(.slice none 0 0), (.slice none 0 0), rfl, hS97⟩) a hF⟩))
        · rw [if_neg hc9] at h
          refine ge_known (t := 72) (b := decide (e1.At < 0)) (c := false) (by kernel_rfl) (decide_eq_false hc9) ?_
          refine ge_batch [4, 5, 6, 7, 8] (ans := [.val (.int .i64 e1.At)]) (vs := [(77, .bool (decide (e1.At > 20000))), (76, .bool (decide (e1.At > 20000))), (75, .bool (decide (e1.At > 20000))), (74, .int .i64 e1.At), (73, .pointer (some ⟨b4, 1, none⟩))]) (l := [.loaded ⟨b4, 1, none⟩ (.int .i64 e1.At)]) (by kernel_rfl) ⟨hS86.cell 0 rfl rfl, trivial⟩ ?_
          by_cases hc10 : e1.At > 20000
          · rw [if_pos hc10] at h
            refine ge_known (t := 77) (b := decide (e1.At > 20000)) (c := true) (by kernel_rfl) (decide_eq_true hc10) ?_
            refine ge_batch [9, 10, 11, 12, 13, 14, 15, 16, 17, 18, 19, 20, 21, 22, 23, 24, 25, 26, 27] (ans := []) (vs := [(96, .bool true), (95, undef), (94, undef), (93, undef), (92, undef), (91, undef), (90, undef), (89, undef), (88, undef), (87, undef), (86, undef), (85, undef), (84, .bool true), (83, .bool true), (82, undef), (81, undef), (80, undef), (79, undef), (78, undef)]) (l := []) (by kernel_rfl) trivial ?_
            refine ge_nil fun a hF => hK23 _ _ ?_ a hF
            refine we_true (by kernel_rfl) ?_
            refine we_seq fun K25 hK25 => ?_
            refine we_region [(0, 0), (1, 0), (2, 0), (3, 2), (4, 2)] rfl ?_
            refine ge_batch [0, 1, 2] (ans := []) (vs := [(99, .agg #[.int .i64 3, .int .i64 (i1 : Int)]), (98, .int .i64 (i1 : Int)), (97, .agg #[.slice none 0 0, .slice none 0 0, .int .i64 0])]) (l := []) (by kernel_rfl) trivial ?_
            have hS98 := hS86.bring 2 rfl
            refine ge_set (b := b1) (j := 0) (cs := #[.slice none 0 0, .slice none 0 0, .int .i64 0]) (t := 51) (vs := [.slice none 0 0, .slice none 0 0, .int .i64 0]) hS98 (by kernel_rfl) rfl rfl fun w24 hS99 => ?_
            have hS100 := hS99.nc #[.slice none 0 0, .slice none 0 0, .int .i64 0] (by kernel_rfl)
            have hS101 := hS100.bring 2 rfl
            refine ge_set (b := b2) (j := 0) (cs := #[.int .i64 0, .int .i64 0]) (t := 31) (vs := [.int .i64 3, .int .i64 (i1 : Int)]) hS101 (by kernel_rfl) rfl rfl fun w25 hS102 => ?_
            have hS103 := hS102.nc #[.int .i64 3, .int .i64 (i1 : Int)] (by kernel_rfl)
            refine ge_nil fun a hF => hK25 _ _ ?_ a hF
            have hS104 := hS103.nil (α := Int) 3
            have hS105 := hS104.nil (α := Int) 3
            have hS106 := hS105.bring 1 rfl
            have hS107 := hS106.bring 1 rfl
            have hS108 := hS107.takeN 2
            obtain rfl := Option.some.inj h
            exact we_ret fun a hF => hQ _ _ _ (Outs.out nofun (Exits.on ⟨rfl, (post_ret (rs := [.cell 8 51, .cell 9 31]) (ans := [.val ((.slice none 0 0)), .val ((.slice none 0 0)), .val (.int .i64 0), .val (.int .i64 3), .val (.int .i64 (i1 : Int))]) (vs := [.agg #[(.slice none 0 0), (.slice none 0 0), .int .i64 0], .agg #[.int .i64 3, .int .i64 (i1 : Int)]]) (l := [.loaded ⟨b1, 0, none⟩ ((.slice none 0 0)), .loaded ⟨b1, 1, none⟩ ((.slice none 0 0)), .loaded ⟨b1, 2, none⟩ (.int .i64 0), .loaded ⟨b2, 0, none⟩ (.int .i64 3), .loaded ⟨b2, 1, none⟩ (.int .i64 (i1 : Int))]) rfl (by kernel_rfl) ⟨hS105.cell 3 rfl rfl, hS105.cell 3 rfl rfl, hS105.cell 3 rfl rfl, hS105.cell 2 rfl rfl, hS105.cell 2 rfl rfl, trivial⟩ ⟨(.slice none 0 0), (.slice none 0 0), rfl, hS108⟩) a hF⟩))
          · rw [if_neg hc10] at h
            refine ge_known (t := 77) (b := decide (e1.At > 20000)) (c := false) (by kernel_rfl) (decide_eq_false hc10) ?_
            refine ge_batch [9, 10] (ans := []) (vs := [(79, .int .i64 (i1 : Int)), (78, .slice A2 l2.length c2)]) (l := []) (by kernel_rfl) trivial ?_
            rcases hx6 : l2[i1]? with _ | e2
            · rw [hx6] at h; cases h
            rw [hx6] at h
            simp only [] at h
            refine ge_index (d := 80) (ty := 0) (t := 28) (el := 3) (sz := 1) (m := l2.length) (c := c2) (x := (.tmp 78)) (y := (.tmp 79)) (A := A2) (k' := .i64) (j := (i1 : Int)) (jn := i1) (b0 := blkOf A2) (o0 := offOf A2) (by kernel_rfl) (by kernel_rfl) (by kernel_rfl) (by kernel_rfl) (by kernel_rfl) ((hS86.rd hR2).eqSome (pos_of_get hx6)) rfl (lt_of_get hx6) ?_
            refine ge_batch [12, 13, 14, 15] (ans := [.val (.int .i64 e2)]) (vs := [(84, .bool (decide (e2 < 1))), (83, .bool (decide (e2 < 1))), (82, .bool (decide (e2 < 1))), (81, .int .i64 e2)]) (l := [.loaded ⟨blkOf A2, offOf A2 + i1 * 1, none⟩ (.int .i64 e2)]) (by kernel_rfl) ⟨RdL.cell (j := 0) (hS86.rd hR2) hx6 rfl, trivial⟩ ?_
            by_cases hc11 : e2 < 1
            · rw [if_pos hc11] at h
              refine ge_known (t := 84) (b := decide (e2 < 1)) (c := true) (by kernel_rfl) (decide_eq_true hc11) ?_
              refine ge_batch [16, 17, 18, 19, 20, 21, 22, 23, 24, 25, 26, 27] (ans := []) (vs := [(96, .bool true), (95, undef), (94, undef), (93, undef), (92, undef), (91, undef), (90, undef), (89, undef), (88, undef), (87, undef), (86, undef), (85, undef)]) (l := []) (by kernel_rfl) trivial ?_
              refine ge_nil fun a hF => hK23 _ _ ?_ a hF
              refine we_true (by kernel_rfl) ?_
              refine we_seq fun K26 hK26 => ?_
              refine we_region [(0, 0), (1, 0), (2, 0), (3, 2), (4, 2)] rfl ?_
              refine ge_batch [0, 1, 2] (ans := []) (vs := [(99, .agg #[.int .i64 3, .int .i64 (i1 : Int)]), (98, .int .i64 (i1 : Int)), (97, .agg #[.slice none 0 0, .slice none 0 0, .int .i64 0])]) (l := []) (by kernel_rfl) trivial ?_
              have hS109 := hS86.bring 2 rfl
              refine ge_set (b := b1) (j := 0) (cs := #[.slice none 0 0, .slice none 0 0, .int .i64 0]) (t := 51) (vs := [.slice none 0 0, .slice none 0 0, .int .i64 0]) hS109 (by kernel_rfl) rfl rfl fun w26 hS110 => ?_
              have hS111 := hS110.nc #[.slice none 0 0, .slice none 0 0, .int .i64 0] (by kernel_rfl)
              have hS112 := hS111.bring 2 rfl
              refine ge_set (b := b2) (j := 0) (cs := #[.int .i64 0, .int .i64 0]) (t := 31) (vs := [.int .i64 3, .int .i64 (i1 : Int)]) hS112 (by kernel_rfl) rfl rfl fun w27 hS113 => ?_
              have hS114 := hS113.nc #[.int .i64 3, .int .i64 (i1 : Int)] (by kernel_rfl)
              refine ge_nil fun a hF => hK26 _ _ ?_ a hF
              have hS115 := hS114.nil (α := Int) 3
              have hS116 := hS115.nil (α := Int) 3
              have hS117 := hS116.bring 1 rfl
              have hS118 := hS117.bring 1 rfl
              have hS119 := hS118.takeN 2
              obtain rfl := Option.some.inj h
              exact we_ret fun a hF => hQ _ _ _ (Outs.out nofun (Exits.on ⟨rfl, (post_ret (rs := [.cell 8 51, .cell 9 31]) (ans := [.val ((.slice none 0 0)), .val ((.slice none 0 0)), .val (.int .i64 0), .val (.int .i64 3), .val (.int .i64 (i1 : Int))]) (vs := [.agg #[(.slice none 0 0), (.slice none 0 0), .int .i64 0], .agg #[.int .i64 3, .int .i64 (i1 : Int)]]) (l := [.loaded ⟨b1, 0, none⟩ ((.slice none 0 0)), .loaded ⟨b1, 1, none⟩ ((.slice none 0 0)), .loaded ⟨b1, 2, none⟩ (.int .i64 0), .loaded ⟨b2, 0, none⟩ (.int .i64 3), .loaded ⟨b2, 1, none⟩ (.int .i64 (i1 : Int))]) rfl (by kernel_rfl) ⟨hS116.cell 3 rfl rfl, hS116.cell 3 rfl rfl, hS116.cell 3 rfl rfl, hS116.cell 2 rfl rfl, hS116.cell 2 rfl rfl, trivial⟩ ⟨(.slice none 0 0), (.slice none 0 0), rfl, hS119⟩) a hF⟩))
            · rw [if_neg hc11] at h
              refine ge_known (t := 84) (b := decide (e2 < 1)) (c := false) (by kernel_rfl) (decide_eq_false hc11) ?_
              refine ge_batch [16, 17] (ans := []) (vs := [(86, .int .i64 (i1 : Int)), (85, .slice A2 l2.length c2)]) (l := []) (by kernel_rfl) trivial ?_
              refine ge_index (d := 87) (ty := 0) (t := 28) (el := 3) (sz := 1) (m := l2.length) (c := c2) (x := (.tmp 85)) (y := (.tmp 86)) (A := A2) (k' := .i64) (j := (i1 : Int)) (jn := i1) (b0 := blkOf A2) (o0 := offOf A2) (by kernel_rfl) (by kernel_rfl) (by kernel_rfl) (by kernel_rfl) (by kernel_rfl) ((hS86.rd hR2).eqSome (pos_of_get hx6)) rfl (lt_of_get hx6) ?_
              refine ge_batch [19, 20, 21, 22] (ans := [.val (.int .i64 e2), .val (.int .i64 e1.Task)]) (vs := [(91, .int .i64 e1.Task), (90, .pointer (some ⟨b4, 0, none⟩)), (89, .slice A0 l0.length c0), (88, .int .i64 e2)]) (l := [.loaded ⟨blkOf A2, offOf A2 + i1 * 1, none⟩ (.int .i64 e2), .loaded ⟨b4, 0, none⟩ (.int .i64 e1.Task)]) (by kernel_rfl) ⟨RdL.cell (j := 0) (hS86.rd hR2) hx6 rfl, hS86.cell 0 rfl rfl, trivial⟩ ?_
              by_cases hc12 : 0 ≤ e1.Task
              · rw [if_pos hc12] at h
                rcases hx7 : l0[(e1.Task).toNat]? with _ | e3
                · rw [hx7] at h; cases h
                rw [hx7] at h
                simp only [] at h
                refine ge_index (d := 92) (ty := 0) (t := 22) (el := 27) (sz := 6) (m := l0.length) (c := c0) (x := (.tmp 89)) (y := (.tmp 91)) (A := A0) (k' := .i64) (j := e1.Task) (jn := ((e1.Task).toNat)) (b0 := blkOf A0) (o0 := offOf A0) (by kernel_rfl) (by kernel_rfl) (by kernel_rfl) (by kernel_rfl) (by kernel_rfl) ((hS86.rd hR0).eqSome (pos_of_get hx7)) (Int.toNat_of_nonneg hc12).symm (lt_of_get hx7) ?_
                refine ge_batch [24, 25, 26, 27] (ans := [.val (.int .i64 e3.H)]) (vs := [(96, .bool (decide (e2 > e3.H))), (95, .bool (decide (e2 > e3.H))), (94, .int .i64 e3.H), (93, .pointer (some ⟨blkOf A0, offOf A0 + (e1.Task).toNat * 6 + 1, none⟩))]) (l := [.loaded ⟨blkOf A0, offOf A0 + ((e1.Task).toNat) * 6 + 1, none⟩ (.int .i64 e3.H)]) (by kernel_rfl) ⟨RdL.cell (j := 1) (hS86.rd hR0) hx7 rfl, trivial⟩ ?_
                refine ge_nil fun a hF => hK23 _ _ ?_ a hF
                by_cases hc13 : e2 > e3.H
                · rw [if_pos hc13] at h
                  refine we_known (t := 96) (b := decide (e2 > e3.H)) (v := true) (by kernel_rfl) (decide_eq_true hc13) ?_
                  refine we_true (by kernel_rfl) ?_
                  refine we_seq fun K27 hK27 => ?_
                  refine we_region [(0, 0), (1, 0), (2, 0), (3, 2), (4, 2)] rfl ?_
                  refine ge_batch [0, 1, 2] (ans := []) (vs := [(99, .agg #[.int .i64 3, .int .i64 (i1 : Int)]), (98, .int .i64 (i1 : Int)), (97, .agg #[.slice none 0 0, .slice none 0 0, .int .i64 0])]) (l := []) (by kernel_rfl) trivial ?_
                  have hS120 := hS86.bring 2 rfl
                  refine ge_set (b := b1) (j := 0) (cs := #[.slice none 0 0, .slice none 0 0, .int .i64 0]) (t := 51) (vs := [.slice none 0 0, .slice none 0 0, .int .i64 0]) hS120 (by kernel_rfl) rfl rfl fun w28 hS121 => ?_
                  have hS122 := hS121.nc #[.slice none 0 0, .slice none 0 0, .int .i64 0] (by kernel_rfl)
                  have hS123 := hS122.bring 2 rfl
                  refine ge_set (b := b2) (j := 0) (cs := #[.int .i64 0, .int .i64 0]) (t := 31) (vs := [.int .i64 3, .int .i64 (i1 : Int)]) hS123 (by kernel_rfl) rfl rfl fun w29 hS124 => ?_
                  have hS125 := hS124.nc #[.int .i64 3, .int .i64 (i1 : Int)] (by kernel_rfl)
                  refine ge_nil fun a hF => hK27 _ _ ?_ a hF
                  have hS126 := hS125.nil (α := Int) 3
                  have hS127 := hS126.nil (α := Int) 3
                  have hS128 := hS127.bring 1 rfl
                  have hS129 := hS128.bring 1 rfl
                  have hS130 := hS129.takeN 2
                  obtain rfl := Option.some.inj h
                  exact we_ret fun a hF => hQ _ _ _ (Outs.out nofun (Exits.on ⟨rfl, (post_ret (rs := [.cell 8 51, .cell 9 31]) (ans := [.val ((.slice none 0 0)), .val ((.slice none 0 0)), .val (.int .i64 0), .val (.int .i64 3), .val (.int .i64 (i1 : Int))]) (vs := [.agg #[(.slice none 0 0), (.slice none 0 0), .int .i64 0], .agg #[.int .i64 3, .int .i64 (i1 : Int)]]) (l := [.loaded ⟨b1, 0, none⟩ ((.slice none 0 0)), .loaded ⟨b1, 1, none⟩ ((.slice none 0 0)), .loaded ⟨b1, 2, none⟩ (.int .i64 0), .loaded ⟨b2, 0, none⟩ (.int .i64 3), .loaded ⟨b2, 1, none⟩ (.int .i64 (i1 : Int))]) rfl (by kernel_rfl) ⟨hS127.cell 3 rfl rfl, hS127.cell 3 rfl rfl, hS127.cell 3 rfl rfl, hS127.cell 2 rfl rfl, hS127.cell 2 rfl rfl, trivial⟩ ⟨(.slice none 0 0), (.slice none 0 0), rfl, hS130⟩) a hF⟩))
                · rw [if_neg hc13] at h
                  refine we_known (t := 96) (b := decide (e2 > e3.H)) (v := false) (by kernel_rfl) (decide_eq_false hc13) ?_
                  refine we_false (by kernel_rfl) ?_
                  refine we_skip fun a hF => hK17 _ _ ?_ a hF
                  refine we_region [(0, 0), (1, 0)] rfl ?_
                  refine ge_addn (d := 100) (ty := 3) (x := (.tmp 51)) (y := (.const (.int .i64 1))) (t := 3) (t2 := 3) (k := .i64) (m := i1) (by kernel_rfl) (by kernel_rfl) (by kernel_rfl) (by have h0 := hR1.small; omega) ?_
                  refine ge_batch [1] (ans := []) (vs := [(51, .int .i64 ((i1 + 1 : Nat) : Int))]) (l := []) (by kernel_rfl) trivial ?_
                  have hS131 := hS86.bring 2 rfl
                  have hS132 := hS131.bring 2 rfl
                  have hS133 := hS132.takeN 2
                  obtain rfl := Option.some.inj h
                  exact ge_nil fun a hF => hQ _ _ _ (Outs.again ⟨hS133, hF.weaken ⟨by kernel_rfl, by kernel_rfl, by kernel_rfl, by kernel_rfl, by kernel_rfl, by kernel_rfl, by kernel_rfl, by kernel_rfl, by kernel_rfl, trivial⟩⟩)
              · rw [if_neg hc12] at h
                cases h
  · rw [if_neg hc6] at h
    refine we_known (t := 52) (b := decide ((i1 : Int) < (l1.length : Int))) (v := false) (by kernel_rfl) (decide_eq_false hc6) ?_
    refine we_false (by kernel_rfl) ?_
    have hS134 := hS.bring 1 rfl
    have hS135 := hS134.bring 1 rfl
    obtain rfl := Option.some.inj h
    exact we_exit fun a hF => hQ _ _ _ (Outs.out nofun (Exits.here ⟨hS135, hF.weaken ⟨by kernel_rfl, by kernel_rfl, by kernel_rfl, by kernel_rfl, by kernel_rfl, by kernel_rfl, trivial⟩⟩))
abbrev modes_Play.t1_0 : Ord := (.alt 8 2 .fin .nomore)
abbrev modes_Play.t1_1 : Ord := (.alt 1 1 (.vals [5] (.vals [6] modes_Play.t1_0)) .nomore)
abbrev modes_Play.t1_2 : Ord := (.alt 4 1 (.vals [5] (.vals [6] modes_Play.t1_0)) .nomore)
abbrev modes_Play.t1_3 : Ord := (.alt 7 1 modes_Play.t1_0 .nomore)
abbrev modes_Play.A3 (K : Nat) (w0 : World) (l0 : List SCrit) (A0 : Option Addr) (c0 : Nat) (l1 : List SCome) (A1 : Option Addr) (c1 : Nat) (l2 : List Int) (A2 : Option Addr) (c2 : Nat) (x3 : Int) (hR0 : RdL w0 A0 l0) (hL0 : l0.length ≤ c0) (hR1 : RdL w0 A1 l1) (hL1 : l1.length ≤ c1) (hR2 : RdL w0 A2 l2) (hL2 : l2.length ≤ c2) (b1 : Nat) (b2 : Nat) (r1 : SFault) (b3 : Nat) (hc1 : r1.Code = 0) : ((List Int) × (List Int) × Int) → Act → World → Prop := fun (s : (List Int) × (List Int) × Int) a w => ∃ (b5 : Nat) (v1 : Value) (v2 : Value), St w0 w [Own.blk b5 (.cells #[v1, v2, .int .i64 s.2.2] 51 (0, 0)), Own.blk b2 (.cells #[.int .i64 0, .int .i64 0] 31 (0, 0)), Own.blk b1 (.cells #[.slice none 0 0, .slice none 0 0, .int .i64 0] 51 (0, 0)), Own.of v1 3 s.1, Own.of v2 3 s.2.1] ∧ Frm 265 a [(0, .slice A0 l0.length c0), (1, .slice A1 l1.length c1), (2, .slice A2 l2.length c2), (3, .int .i64 x3), (8, .pointer (some ⟨b1, 0, none⟩)), (9, .pointer (some ⟨b2, 0, none⟩)), (13, .pointer (some ⟨b5, 0, none⟩))]
abbrev modes_Play.B3 (K : Nat) (w0 : World) (l0 : List SCrit) (A0 : Option Addr) (c0 : Nat) (l1 : List SCome) (A1 : Option Addr) (c1 : Nat) (l2 : List Int) (A2 : Option Addr) (c2 : Nat) (x3 : Int) (hR0 : RdL w0 A0 l0) (hL0 : l0.length ≤ c0) (hR1 : RdL w0 A1 l1) (hL1 : l1.length ≤ c1) (hR2 : RdL w0 A2 l2) (hL2 : l2.length ≤ c2) (b1 : Nat) (b2 : Nat) (r1 : SFault) (b3 : Nat) (hc1 : r1.Code = 0) : (SModal × SFault) → Exit → Act → World → Prop := Rets Tryd.prog Tryd.f21 (modes_Play.Post w0)
theorem modes_Play_p3 (K : Nat) (w0 : World) (l0 : List SCrit) (A0 : Option Addr) (c0 : Nat) (l1 : List SCome) (A1 : Option Addr) (c1 : Nat) (l2 : List Int) (A2 : Option Addr) (c2 : Nat) (x3 : Int) (hR0 : RdL w0 A0 l0) (hL0 : l0.length ≤ c0) (hR1 : RdL w0 A1 l1) (hL1 : l1.length ≤ c1) (hR2 : RdL w0 A2 l2) (hL2 : l2.length ≤ c2) (b1 : Nat) (b2 : Nat) (r1 : SFault) (b3 : Nat) (hc1 : r1.Code = 0) (o : ((List Int) × (List Int) × Int) ⊕ (SModal × SFault)) (h : modes_Play.p3 l1 x3 = some o) (w : World) (hS : St w0 w [Own.blk b2 (.cells #[.int .i64 0, .int .i64 0] 31 (0, 0)), Own.blk b1 (.cells #[.slice none 0 0, .slice none 0 0, .int .i64 0] 51 (0, 0))]) (Q : Exit → Act → World → Prop) (hQ : ∀ x a w, Outs (modes_Play.A3 K w0 l0 A0 c0 l1 A1 c1 l2 A2 c2 x3 hR0 hL0 hR1 hL1 hR2 hL2 b1 b2 r1 b3 hc1) (modes_Play.B3 K w0 l0 A0 c0 l1 A1 c1 l2 A2 c2 x3 hR0 hL0 hR1 hL1 hR2 hL2 b1 b2 r1 b3 hc1) o x a w → Q x a w) : WE Tryd.prog 265 (subF Tryd.f21 [1, 1, 1, 1, 1, 0]) Q [(0, .slice A0 l0.length c0), (1, .slice A1 l1.length c1), (2, .slice A2 l2.length c2), (3, .int .i64 x3), (8, .pointer (some ⟨b1, 0, none⟩)), (9, .pointer (some ⟨b2, 0, none⟩))] w := by
  simp only [modes_Play.p3] at h
  refine we_orders3 (by kernel_rfl) [] (.vals [0] (.vals [2] (.vals [3] (.alt 1 1 (.alt 4 1 (.vals [5] (.vals [6] modes_Play.t1_3)) (.alt 7 1 modes_Play.t1_2 .nomore)) (.alt 4 1 (.alt 1 1 (.vals [5] (.vals [6] modes_Play.t1_3)) (.alt 7 1 modes_Play.t1_1 .nomore)) (.alt 7 1 (.alt 1 1 modes_Play.t1_2 (.alt 4 1 modes_Play.t1_1 .nomore)) .nomore)))))) (by kernel_rfl) (by kernel_rfl) ?_
  have hS137 := hS.drew
  refine go3_join modes_Play.t1_0 (fun (x : (Option Addr) × Nat × (Option Addr) × Nat × Nat) e w => match x with | (Z1, cz1, Z2, cz2, b6) => e = [(0, .slice A0 l0.length c0), (1, .slice A1 l1.length c1), (2, .slice A2 l2.length c2), (3, .int .i64 x3), (8, .pointer (some ⟨b1, 0, none⟩)), (9, .pointer (some ⟨b2, 0, none⟩)), (13, .pointer (some ⟨b6, 0, none⟩)), (107, .agg #[(.slice Z1 (List.replicate ((x3).toNat) (0 : Int)).length cz1), (.slice Z2 (List.replicate l1.length (0 : Int)).length cz2), .int .i64 (-1)])] ∧ (0 ≤ x3) ∧ (((x3).toNat) ≤ 17592186044416) ∧ (l1.length ≤ 17592186044416) ∧ St w0 w [Own.blk b6 (.cells #[.slice none 0 0, .slice none 0 0, .int .i64 0] 51 (0, 0)), Own.of (.slice Z2 (List.replicate l1.length (0 : Int)).length cz2) 3 (List.replicate l1.length (0 : Int)), Own.of (.slice Z1 (List.replicate ((x3).toNat) (0 : Int)).length cz1) 3 (List.replicate ((x3).toNat) (0 : Int)), Own.blk b2 (.cells #[.int .i64 0, .int .i64 0] 31 (0, 0)), Own.blk b1 (.cells #[.slice none 0 0, .slice none 0 0, .int .i64 0] 51 (0, 0))]) ?_ fun hJ1_1 => ?_
  · rintro ⟨Z1, cz1, Z2, cz2, b6⟩ _ W2 ⟨rfl, hc14, hc15, hc16, hS142⟩
    replace hS142 : St w0 W2 [Own.blk b6 (.cells #[.slice none 0 0, .slice none 0 0, .int .i64 0] 51 (0, 0)), Own.of (.slice Z2 (List.replicate l1.length (0 : Int)).length cz2) 3 (List.replicate l1.length (0 : Int)), Own.of (.slice Z1 (List.replicate ((x3).toNat) (0 : Int)).length cz1) 3 (List.replicate ((x3).toNat) (0 : Int)), Own.blk b2 (.cells #[.int .i64 0, .int .i64 0] 31 (0, 0)), Own.blk b1 (.cells #[.slice none 0 0, .slice none 0 0, .int .i64 0] 51 (0, 0))] := hS142
    rw [if_pos hc14] at h
    rw [if_pos hc15] at h
    rw [if_pos hc16] at h
    refine go_alt3 (fun KK hKK => ?_) ?_
    · refine ge_set (b := b6) (j := 0) (cs := #[.slice none 0 0, .slice none 0 0, .int .i64 0]) (t := 51) (vs := [(.slice Z1 (List.replicate ((x3).toNat) (0 : Int)).length cz1), (.slice Z2 (List.replicate l1.length (0 : Int)).length cz2), .int .i64 (-1)]) hS142 (by kernel_rfl) rfl rfl fun w34 hS143 => ?_
      have hS144 := hS143.nc #[(.slice Z1 (List.replicate ((x3).toNat) (0 : Int)).length cz1), (.slice Z2 (List.replicate l1.length (0 : Int)).length cz2), .int .i64 (-1)] (by kernel_rfl)
      refine ge_nil fun a hF => hKK _ _ (RS.of2 (l := []) (by kernel_rfl) trivial trivial) ?_ a hF
      have hS145 := hS144.bring 1 rfl
      have hS146 := hS145.bring 2 rfl
      have hS147 := hS146.bring 4 rfl
      have hS148 := hS147.bring 4 rfl
      have hS149 := hS148.bring 4 rfl
      obtain rfl := Option.some.inj h
      exact go_fin3 fun a hF => hQ _ _ _ (Outs.again ⟨b6, (.slice Z1 (List.replicate ((x3).toNat) (0 : Int)).length cz1), (.slice Z2 (List.replicate l1.length (0 : Int)).length cz2), hS149, hF.weaken ⟨by kernel_rfl, by kernel_rfl, by kernel_rfl, by kernel_rfl, by kernel_rfl, by kernel_rfl, by kernel_rfl, trivial⟩⟩)
    exact go_nomore3
  refine go3_join modes_Play.t1_3 (fun (x : (Option Addr) × Nat × (Option Addr) × Nat) e w => match x with | (Z1, cz1, Z2, cz2) => e = [(0, .slice A0 l0.length c0), (1, .slice A1 l1.length c1), (2, .slice A2 l2.length c2), (3, .int .i64 x3), (8, .pointer (some ⟨b1, 0, none⟩)), (9, .pointer (some ⟨b2, 0, none⟩)), (107, .agg #[(.slice Z1 (List.replicate ((x3).toNat) (0 : Int)).length cz1), (.slice Z2 (List.replicate l1.length (0 : Int)).length cz2), .int .i64 (-1)])] ∧ (0 ≤ x3) ∧ (((x3).toNat) ≤ 17592186044416) ∧ (l1.length ≤ 17592186044416) ∧ St w0 w [Own.of (.slice Z2 (List.replicate l1.length (0 : Int)).length cz2) 3 (List.replicate l1.length (0 : Int)), Own.of (.slice Z1 (List.replicate ((x3).toNat) (0 : Int)).length cz1) 3 (List.replicate ((x3).toNat) (0 : Int)), Own.blk b2 (.cells #[.int .i64 0, .int .i64 0] 31 (0, 0)), Own.blk b1 (.cells #[.slice none 0 0, .slice none 0 0, .int .i64 0] 51 (0, 0))]) ?_ fun hJ1_0 => ?_
  · rintro ⟨Z1, cz1, Z2, cz2⟩ _ W1 ⟨rfl, hc14, hc15, hc16, hS140⟩
    replace hS140 : St w0 W1 [Own.of (.slice Z2 (List.replicate l1.length (0 : Int)).length cz2) 3 (List.replicate l1.length (0 : Int)), Own.of (.slice Z1 (List.replicate ((x3).toNat) (0 : Int)).length cz1) 3 (List.replicate ((x3).toNat) (0 : Int)), Own.blk b2 (.cells #[.int .i64 0, .int .i64 0] 31 (0, 0)), Own.blk b1 (.cells #[.slice none 0 0, .slice none 0 0, .int .i64 0] 51 (0, 0))] := hS140
    rw [if_pos hc14] at h
    rw [if_pos hc15] at h
    rw [if_pos hc16] at h
    refine go_alt3 (fun KK hKK => ?_) ?_
    · refine ge_one2 ?_
      refine ge_new (d := some 13) (o := .cells #[.slice none 0 0, .slice none 0 0, .int .i64 0] 51) (v := fun b => .pointer (some ⟨b, 0, none⟩)) hS140 (fun b => by kernel_rfl) fun b6 w33 hx8 hS141 => ?_
      refine ge_nil fun a hF => hKK _ _ (RS.of2 (l := []) (by kernel_rfl) trivial trivial) ?_ a hF
      have hS150 := hS141.bring 4 rfl
      have hS151 := hS150.bring 4 rfl
      have hS152 := hS151.bring 4 rfl
      have hS153 := hS152.bring 4 rfl
      have hS154 := hS153.bring 4 rfl
      exact go3_keep [(0, .slice A0 l0.length c0), (1, .slice A1 l1.length c1), (2, .slice A2 l2.length c2), (3, .int .i64 x3), (8, .pointer (some ⟨b1, 0, none⟩)), (9, .pointer (some ⟨b2, 0, none⟩)), (13, .pointer (some ⟨b6, 0, none⟩)), (107, .agg #[(.slice Z1 (List.replicate ((x3).toNat) (0 : Int)).length cz1), (.slice Z2 (List.replicate l1.length (0 : Int)).length cz2), .int .i64 (-1)])] ⟨by kernel_rfl, by kernel_rfl, by kernel_rfl, by kernel_rfl, by kernel_rfl, by kernel_rfl, by kernel_rfl, by kernel_rfl, trivial⟩ (hJ1_1 (Z1, cz1, Z2, cz2, b6) _ _ ⟨rfl, hc14, hc15, hc16, hS154⟩)
    exact go_nomore3
  refine go3_join modes_Play.t1_2 (fun (x : Value × Nat) e w => match x with | (v3, b6) => e = [(0, .slice A0 l0.length c0), (1, .slice A1 l1.length c1), (2, .slice A2 l2.length c2), (3, .int .i64 x3), (8, .pointer (some ⟨b1, 0, none⟩)), (9, .pointer (some ⟨b2, 0, none⟩)), (13, .pointer (some ⟨b6, 0, none⟩)), (102, v3), (104, .int .i64 (l1.length : Int))] ∧ (0 ≤ x3) ∧ (((x3).toNat) ≤ 17592186044416) ∧ (l1.length ≤ 17592186044416) ∧ St w0 w [Own.blk b6 (.cells #[.slice none 0 0, .slice none 0 0, .int .i64 0] 51 (0, 0)), Own.of v3 3 (List.replicate ((x3).toNat) (0 : Int)), Own.blk b2 (.cells #[.int .i64 0, .int .i64 0] 31 (0, 0)), Own.blk b1 (.cells #[.slice none 0 0, .slice none 0 0, .int .i64 0] 51 (0, 0))]) ?_ fun hJ1_2 => ?_
  · rintro ⟨v3, b6⟩ _ W1 ⟨rfl, hc14, hc15, hc16, hS140⟩
    replace hS140 : St w0 W1 [Own.blk b6 (.cells #[.slice none 0 0, .slice none 0 0, .int .i64 0] 51 (0, 0)), Own.of v3 3 (List.replicate ((x3).toNat) (0 : Int)), Own.blk b2 (.cells #[.int .i64 0, .int .i64 0] 31 (0, 0)), Own.blk b1 (.cells #[.slice none 0 0, .slice none 0 0, .int .i64 0] 51 (0, 0))] := hS140
    rw [if_pos hc14] at h
    rw [if_pos hc15] at h
    rw [if_pos hc16] at h
    refine go_alt3 (fun KK hKK => ?_) ?_
    · refine ge_one2 ?_
      refine ge_make (α := Int) (d := 105) (t := 28) (el := 3) (bytes := 8) (l := l1.length) (c := l1.length) (x := (.tmp 104)) (y := (.tmp 104)) (ty := 28) (k1 := .i64) (k2 := .i64) (li := (l1.length : Int)) (ci := (l1.length : Int)) (z := .int .i64 0) (z' := (0 : Int)) (by kernel_rfl) (by kernel_rfl) (by kernel_rfl) rfl rfl (by kernel_rfl) (by kernel_rfl) rfl hS140 (Nat.le_refl _) rfl (by omega) fun v4 w33 _ hS141 => ?_
      refine ge_nil fun a hF => hKK _ _ (RS.of2 (l := []) (by kernel_rfl) trivial trivial) ?_ a hF
      obtain ⟨Z1, cz1, rfl⟩ := hS141.open 2 rfl
      obtain ⟨Z2, cz2, rfl⟩ := hS141.open 0 rfl
      refine go3_batch [5, 6] (ans := []) (vs := [(107, .agg #[(.slice Z1 (List.replicate ((x3).toNat) (0 : Int)).length cz1), (.slice Z2 (List.replicate l1.length (0 : Int)).length cz2), .int .i64 (-1)]), (106, .agg #[(.slice Z1 (List.replicate ((x3).toNat) (0 : Int)).length cz1), (.slice Z2 (List.replicate l1.length (0 : Int)).length cz2)])]) (l := []) (by kernel_rfl) trivial mem_nil3 ?_
      have hS142 := hS141.bring 4 rfl
      have hS143 := hS142.bring 4 rfl
      have hS144 := hS143.bring 4 rfl
      have hS145 := hS144.bring 3 rfl
      have hS146 := hS145.bring 4 rfl
      exact go3_keep [(0, .slice A0 l0.length c0), (1, .slice A1 l1.length c1), (2, .slice A2 l2.length c2), (3, .int .i64 x3), (8, .pointer (some ⟨b1, 0, none⟩)), (9, .pointer (some ⟨b2, 0, none⟩)), (13, .pointer (some ⟨b6, 0, none⟩)), (107, .agg #[(.slice Z1 (List.replicate ((x3).toNat) (0 : Int)).length cz1), (.slice Z2 (List.replicate l1.length (0 : Int)).length cz2), .int .i64 (-1)])] ⟨by kernel_rfl, by kernel_rfl, by kernel_rfl, by kernel_rfl, by kernel_rfl, by kernel_rfl, by kernel_rfl, by kernel_rfl, trivial⟩ (hJ1_1 (Z1, cz1, Z2, cz2, b6) _ _ ⟨rfl, hc14, hc15, hc16, hS146⟩)
    exact go_nomore3
  refine go3_join modes_Play.t1_1 (fun (x : Value × Nat) e w => match x with | (v3, b6) => e = [(0, .slice A0 l0.length c0), (1, .slice A1 l1.length c1), (2, .slice A2 l2.length c2), (3, .int .i64 x3), (8, .pointer (some ⟨b1, 0, none⟩)), (9, .pointer (some ⟨b2, 0, none⟩)), (13, .pointer (some ⟨b6, 0, none⟩)), (101, .int .i64 x3), (105, v3)] ∧ (0 ≤ x3) ∧ (((x3).toNat) ≤ 17592186044416) ∧ (l1.length ≤ 17592186044416) ∧ St w0 w [Own.blk b6 (.cells #[.slice none 0 0, .slice none 0 0, .int .i64 0] 51 (0, 0)), Own.of v3 3 (List.replicate l1.length (0 : Int)), Own.blk b2 (.cells #[.int .i64 0, .int .i64 0] 31 (0, 0)), Own.blk b1 (.cells #[.slice none 0 0, .slice none 0 0, .int .i64 0] 51 (0, 0))]) ?_ fun hJ1_3 => ?_
  · rintro ⟨v3, b6⟩ _ W1 ⟨rfl, hc14, hc15, hc16, hS140⟩
    replace hS140 : St w0 W1 [Own.blk b6 (.cells #[.slice none 0 0, .slice none 0 0, .int .i64 0] 51 (0, 0)), Own.of v3 3 (List.replicate l1.length (0 : Int)), Own.blk b2 (.cells #[.int .i64 0, .int .i64 0] 31 (0, 0)), Own.blk b1 (.cells #[.slice none 0 0, .slice none 0 0, .int .i64 0] 51 (0, 0))] := hS140
    rw [if_pos hc14] at h
    rw [if_pos hc15] at h
    rw [if_pos hc16] at h
    refine go_alt3 (fun KK hKK => ?_) ?_
    · refine ge_one2 ?_
      refine ge_make (α := Int) (d := 102) (t := 28) (el := 3) (bytes := 8) (l := ((x3).toNat)) (c := ((x3).toNat)) (x := (.tmp 101)) (y := (.tmp 101)) (ty := 28) (k1 := .i64) (k2 := .i64) (li := x3) (ci := x3) (z := .int .i64 0) (z' := (0 : Int)) (by kernel_rfl) (by kernel_rfl) (by kernel_rfl) (Int.toNat_of_nonneg hc14).symm (Int.toNat_of_nonneg hc14).symm (by kernel_rfl) (by kernel_rfl) rfl hS140 (Nat.le_refl _) rfl (by omega) fun v4 w33 _ hS141 => ?_
      refine ge_nil fun a hF => hKK _ _ (RS.of2 (l := []) (by kernel_rfl) trivial trivial) ?_ a hF
      obtain ⟨Z1, cz1, rfl⟩ := hS141.open 0 rfl
      obtain ⟨Z2, cz2, rfl⟩ := hS141.open 2 rfl
      refine go3_batch [5, 6] (ans := []) (vs := [(107, .agg #[(.slice Z1 (List.replicate ((x3).toNat) (0 : Int)).length cz1), (.slice Z2 (List.replicate l1.length (0 : Int)).length cz2), .int .i64 (-1)]), (106, .agg #[(.slice Z1 (List.replicate ((x3).toNat) (0 : Int)).length cz1), (.slice Z2 (List.replicate l1.length (0 : Int)).length cz2)])]) (l := []) (by kernel_rfl) trivial mem_nil3 ?_
      have hS142 := hS141.bring 4 rfl
      have hS143 := hS142.bring 4 rfl
      have hS144 := hS143.bring 2 rfl
      have hS145 := hS144.bring 4 rfl
      have hS146 := hS145.bring 4 rfl
      exact go3_keep [(0, .slice A0 l0.length c0), (1, .slice A1 l1.length c1), (2, .slice A2 l2.length c2), (3, .int .i64 x3), (8, .pointer (some ⟨b1, 0, none⟩)), (9, .pointer (some ⟨b2, 0, none⟩)), (13, .pointer (some ⟨b6, 0, none⟩)), (107, .agg #[(.slice Z1 (List.replicate ((x3).toNat) (0 : Int)).length cz1), (.slice Z2 (List.replicate l1.length (0 : Int)).length cz2), .int .i64 (-1)])] ⟨by kernel_rfl, by kernel_rfl, by kernel_rfl, by kernel_rfl, by kernel_rfl, by kernel_rfl, by kernel_rfl, by kernel_rfl, trivial⟩ (hJ1_1 (Z1, cz1, Z2, cz2, b6) _ _ ⟨rfl, hc14, hc15, hc16, hS146⟩)
    exact go_nomore3
  refine go3_batch [0, 2, 3] (ans := []) (vs := [(104, .int .i64 (l1.length : Int)), (103, .slice A1 l1.length c1), (101, .int .i64 x3)]) (l := []) (by kernel_rfl) trivial mem_nil3 ?_
  by_cases hc14 : 0 ≤ x3
  · rw [if_pos hc14] at h
    by_cases hc15 : ((x3).toNat) ≤ 17592186044416
    · rw [if_pos hc15] at h
      by_cases hc16 : l1.length ≤ 17592186044416
      · rw [if_pos hc16] at h
        refine go_alt3 (fun KK hKK => ?_) ?_
        · refine ge_one2 ?_
          refine ge_make (α := Int) (d := 102) (t := 28) (el := 3) (bytes := 8) (l := ((x3).toNat)) (c := ((x3).toNat)) (x := (.tmp 101)) (y := (.tmp 101)) (ty := 28) (k1 := .i64) (k2 := .i64) (li := x3) (ci := x3) (z := .int .i64 0) (z' := (0 : Int)) (by kernel_rfl) (by kernel_rfl) (by kernel_rfl) (Int.toNat_of_nonneg hc14).symm (Int.toNat_of_nonneg hc14).symm (by kernel_rfl) (by kernel_rfl) rfl hS137 (Nat.le_refl _) rfl (by omega) fun v3 w31 _ hS138 => ?_
          refine ge_nil fun a hF => hKK _ _ (RS.of2 (l := []) (by kernel_rfl) trivial trivial) ?_ a hF
          refine go_alt3 (fun KK hKK => ?_) ?_
          · refine ge_one2 ?_
            refine ge_make (α := Int) (d := 105) (t := 28) (el := 3) (bytes := 8) (l := l1.length) (c := l1.length) (x := (.tmp 104)) (y := (.tmp 104)) (ty := 28) (k1 := .i64) (k2 := .i64) (li := (l1.length : Int)) (ci := (l1.length : Int)) (z := .int .i64 0) (z' := (0 : Int)) (by kernel_rfl) (by kernel_rfl) (by kernel_rfl) rfl rfl (by kernel_rfl) (by kernel_rfl) rfl hS138 (Nat.le_refl _) rfl (by omega) fun v4 w32 _ hS139 => ?_
            refine ge_nil fun a hF => hKK _ _ (RS.of2 (l := []) (by kernel_rfl) trivial trivial) ?_ a hF
            obtain ⟨Z1, cz1, rfl⟩ := hS139.open 1 rfl
            obtain ⟨Z2, cz2, rfl⟩ := hS139.open 0 rfl
            refine go3_batch [5, 6] (ans := []) (vs := [(107, .agg #[(.slice Z1 (List.replicate ((x3).toNat) (0 : Int)).length cz1), (.slice Z2 (List.replicate l1.length (0 : Int)).length cz2), .int .i64 (-1)]), (106, .agg #[(.slice Z1 (List.replicate ((x3).toNat) (0 : Int)).length cz1), (.slice Z2 (List.replicate l1.length (0 : Int)).length cz2)])]) (l := []) (by kernel_rfl) trivial mem_nil3 ?_
            have hS155 := hS139.bring 3 rfl
            have hS156 := hS155.bring 3 rfl
            have hS157 := hS156.bring 3 rfl
            have hS158 := hS157.bring 3 rfl
            exact go3_keep [(0, .slice A0 l0.length c0), (1, .slice A1 l1.length c1), (2, .slice A2 l2.length c2), (3, .int .i64 x3), (8, .pointer (some ⟨b1, 0, none⟩)), (9, .pointer (some ⟨b2, 0, none⟩)), (107, .agg #[(.slice Z1 (List.replicate ((x3).toNat) (0 : Int)).length cz1), (.slice Z2 (List.replicate l1.length (0 : Int)).length cz2), .int .i64 (-1)])] ⟨by kernel_rfl, by kernel_rfl, by kernel_rfl, by kernel_rfl, by kernel_rfl, by kernel_rfl, by kernel_rfl, trivial⟩ (hJ1_0 (Z1, cz1, Z2, cz2) _ _ ⟨rfl, hc14, hc15, hc16, hS158⟩)
          refine go_alt3 (fun KK hKK => ?_) ?_
          · refine ge_one2 ?_
            refine ge_new (d := some 13) (o := .cells #[.slice none 0 0, .slice none 0 0, .int .i64 0] 51) (v := fun b => .pointer (some ⟨b, 0, none⟩)) hS138 (fun b => by kernel_rfl) fun b6 w32 hx8 hS139 => ?_
            refine ge_nil fun a hF => hKK _ _ (RS.of2 (l := []) (by kernel_rfl) trivial trivial) ?_ a hF
            have hS147 := hS139.bring 3 rfl
            have hS148 := hS147.bring 3 rfl
            have hS149 := hS148.bring 3 rfl
            have hS150 := hS149.bring 3 rfl
            exact go3_keep [(0, .slice A0 l0.length c0), (1, .slice A1 l1.length c1), (2, .slice A2 l2.length c2), (3, .int .i64 x3), (8, .pointer (some ⟨b1, 0, none⟩)), (9, .pointer (some ⟨b2, 0, none⟩)), (13, .pointer (some ⟨b6, 0, none⟩)), (102, v3), (104, .int .i64 (l1.length : Int))] ⟨by kernel_rfl, by kernel_rfl, by kernel_rfl, by kernel_rfl, by kernel_rfl, by kernel_rfl, by kernel_rfl, by kernel_rfl, by kernel_rfl, trivial⟩ (hJ1_2 (v3, b6) _ _ ⟨rfl, hc14, hc15, hc16, hS150⟩)
          exact go_nomore3
        refine go_alt3 (fun KK hKK => ?_) ?_
        · refine ge_one2 ?_
          refine ge_make (α := Int) (d := 105) (t := 28) (el := 3) (bytes := 8) (l := l1.length) (c := l1.length) (x := (.tmp 104)) (y := (.tmp 104)) (ty := 28) (k1 := .i64) (k2 := .i64) (li := (l1.length : Int)) (ci := (l1.length : Int)) (z := .int .i64 0) (z' := (0 : Int)) (by kernel_rfl) (by kernel_rfl) (by kernel_rfl) rfl rfl (by kernel_rfl) (by kernel_rfl) rfl hS137 (Nat.le_refl _) rfl (by omega) fun v3 w31 _ hS138 => ?_
          refine ge_nil fun a hF => hKK _ _ (RS.of2 (l := []) (by kernel_rfl) trivial trivial) ?_ a hF
          refine go_alt3 (fun KK hKK => ?_) ?_
          · refine ge_one2 ?_
            refine ge_make (α := Int) (d := 102) (t := 28) (el := 3) (bytes := 8) (l := ((x3).toNat)) (c := ((x3).toNat)) (x := (.tmp 101)) (y := (.tmp 101)) (ty := 28) (k1 := .i64) (k2 := .i64) (li := x3) (ci := x3) (z := .int .i64 0) (z' := (0 : Int)) (by kernel_rfl) (by kernel_rfl) (by kernel_rfl) (Int.toNat_of_nonneg hc14).symm (Int.toNat_of_nonneg hc14).symm (by kernel_rfl) (by kernel_rfl) rfl hS138 (Nat.le_refl _) rfl (by omega) fun v4 w32 _ hS139 => ?_
            refine ge_nil fun a hF => hKK _ _ (RS.of2 (l := []) (by kernel_rfl) trivial trivial) ?_ a hF
            obtain ⟨Z1, cz1, rfl⟩ := hS139.open 0 rfl
            obtain ⟨Z2, cz2, rfl⟩ := hS139.open 1 rfl
            refine go3_batch [5, 6] (ans := []) (vs := [(107, .agg #[(.slice Z1 (List.replicate ((x3).toNat) (0 : Int)).length cz1), (.slice Z2 (List.replicate l1.length (0 : Int)).length cz2), .int .i64 (-1)]), (106, .agg #[(.slice Z1 (List.replicate ((x3).toNat) (0 : Int)).length cz1), (.slice Z2 (List.replicate l1.length (0 : Int)).length cz2)])]) (l := []) (by kernel_rfl) trivial mem_nil3 ?_
            have hS140 := hS139.bring 3 rfl
            have hS141 := hS140.bring 3 rfl
            have hS142 := hS141.bring 2 rfl
            have hS143 := hS142.bring 3 rfl
            exact go3_keep [(0, .slice A0 l0.length c0), (1, .slice A1 l1.length c1), (2, .slice A2 l2.length c2), (3, .int .i64 x3), (8, .pointer (some ⟨b1, 0, none⟩)), (9, .pointer (some ⟨b2, 0, none⟩)), (107, .agg #[(.slice Z1 (List.replicate ((x3).toNat) (0 : Int)).length cz1), (.slice Z2 (List.replicate l1.length (0 : Int)).length cz2), .int .i64 (-1)])] ⟨by kernel_rfl, by kernel_rfl, by kernel_rfl, by kernel_rfl, by kernel_rfl, by kernel_rfl, by kernel_rfl, trivial⟩ (hJ1_0 (Z1, cz1, Z2, cz2) _ _ ⟨rfl, hc14, hc15, hc16, hS143⟩)
          refine go_alt3 (fun KK hKK => ?_) ?_
          · refine ge_one2 ?_
            refine ge_new (d := some 13) (o := .cells #[.slice none 0 0, .slice none 0 0, .int .i64 0] 51) (v := fun b => .pointer (some ⟨b, 0, none⟩)) hS138 (fun b => by kernel_rfl) fun b6 w32 hx8 hS139 => ?_
            refine ge_nil fun a hF => hKK _ _ (RS.of2 (l := []) (by kernel_rfl) trivial trivial) ?_ a hF
            have hS147 := hS139.bring 3 rfl
            have hS148 := hS147.bring 3 rfl
            have hS149 := hS148.bring 3 rfl
            have hS150 := hS149.bring 3 rfl
            exact go3_keep [(0, .slice A0 l0.length c0), (1, .slice A1 l1.length c1), (2, .slice A2 l2.length c2), (3, .int .i64 x3), (8, .pointer (some ⟨b1, 0, none⟩)), (9, .pointer (some ⟨b2, 0, none⟩)), (13, .pointer (some ⟨b6, 0, none⟩)), (101, .int .i64 x3), (105, v3)] ⟨by kernel_rfl, by kernel_rfl, by kernel_rfl, by kernel_rfl, by kernel_rfl, by kernel_rfl, by kernel_rfl, by kernel_rfl, by kernel_rfl, trivial⟩ (hJ1_3 (v3, b6) _ _ ⟨rfl, hc14, hc15, hc16, hS150⟩)
          exact go_nomore3
        refine go_alt3 (fun KK hKK => ?_) ?_
        · refine ge_one2 ?_
          refine ge_new (d := some 13) (o := .cells #[.slice none 0 0, .slice none 0 0, .int .i64 0] 51) (v := fun b => .pointer (some ⟨b, 0, none⟩)) hS137 (fun b => by kernel_rfl) fun b6 w31 hx8 hS138 => ?_
          refine ge_nil fun a hF => hKK _ _ (RS.of2 (l := []) (by kernel_rfl) trivial trivial) ?_ a hF
          refine go_alt3 (fun KK hKK => ?_) ?_
          · refine ge_one2 ?_
            refine ge_make (α := Int) (d := 102) (t := 28) (el := 3) (bytes := 8) (l := ((x3).toNat)) (c := ((x3).toNat)) (x := (.tmp 101)) (y := (.tmp 101)) (ty := 28) (k1 := .i64) (k2 := .i64) (li := x3) (ci := x3) (z := .int .i64 0) (z' := (0 : Int)) (by kernel_rfl) (by kernel_rfl) (by kernel_rfl) (Int.toNat_of_nonneg hc14).symm (Int.toNat_of_nonneg hc14).symm (by kernel_rfl) (by kernel_rfl) rfl hS138 (Nat.le_refl _) rfl (by omega) fun v3 w32 _ hS139 => ?_
            refine ge_nil fun a hF => hKK _ _ (RS.of2 (l := []) (by kernel_rfl) trivial trivial) ?_ a hF
            have hS140 := hS139.bring 3 rfl
            have hS141 := hS140.bring 3 rfl
            have hS142 := hS141.bring 2 rfl
            have hS143 := hS142.bring 3 rfl
            exact go3_keep [(0, .slice A0 l0.length c0), (1, .slice A1 l1.length c1), (2, .slice A2 l2.length c2), (3, .int .i64 x3), (8, .pointer (some ⟨b1, 0, none⟩)), (9, .pointer (some ⟨b2, 0, none⟩)), (13, .pointer (some ⟨b6, 0, none⟩)), (102, v3), (104, .int .i64 (l1.length : Int))] ⟨by kernel_rfl, by kernel_rfl, by kernel_rfl, by kernel_rfl, by kernel_rfl, by kernel_rfl, by kernel_rfl, by kernel_rfl, by kernel_rfl, trivial⟩ (hJ1_2 (v3, b6) _ _ ⟨rfl, hc14, hc15, hc16, hS143⟩)
          refine go_alt3 (fun KK hKK => ?_) ?_
          · refine ge_one2 ?_
            refine ge_make (α := Int) (d := 105) (t := 28) (el := 3) (bytes := 8) (l := l1.length) (c := l1.length) (x := (.tmp 104)) (y := (.tmp 104)) (ty := 28) (k1 := .i64) (k2 := .i64) (li := (l1.length : Int)) (ci := (l1.length : Int)) (z := .int .i64 0) (z' := (0 : Int)) (by kernel_rfl) (by kernel_rfl) (by kernel_rfl) rfl rfl (by kernel_rfl) (by kernel_rfl) rfl hS138 (Nat.le_refl _) rfl (by omega) fun v3 w32 _ hS139 => ?_
            refine ge_nil fun a hF => hKK _ _ (RS.of2 (l := []) (by kernel_rfl) trivial trivial) ?_ a hF
            have hS140 := hS139.bring 3 rfl
            have hS141 := hS140.bring 3 rfl
            have hS142 := hS141.bring 2 rfl
            have hS143 := hS142.bring 3 rfl
            exact go3_keep [(0, .slice A0 l0.length c0), (1, .slice A1 l1.length c1), (2, .slice A2 l2.length c2), (3, .int .i64 x3), (8, .pointer (some ⟨b1, 0, none⟩)), (9, .pointer (some ⟨b2, 0, none⟩)), (13, .pointer (some ⟨b6, 0, none⟩)), (101, .int .i64 x3), (105, v3)] ⟨by kernel_rfl, by kernel_rfl, by kernel_rfl, by kernel_rfl, by kernel_rfl, by kernel_rfl, by kernel_rfl, by kernel_rfl, by kernel_rfl, trivial⟩ (hJ1_3 (v3, b6) _ _ ⟨rfl, hc14, hc15, hc16, hS143⟩)
          exact go_nomore3
        exact go_nomore3
      · rw [if_neg hc16] at h
        cases h
    · rw [if_neg hc15] at h
      cases h
  · rw [if_neg hc14] at h
    cases h
abbrev modes_Play.A4 (K : Nat) (w0 : World) (l0 : List SCrit) (A0 : Option Addr) (c0 : Nat) (l1 : List SCome) (A1 : Option Addr) (c1 : Nat) (l2 : List Int) (A2 : Option Addr) (c2 : Nat) (x3 : Int) (hR0 : RdL w0 A0 l0) (hL0 : l0.length ≤ c0) (hR1 : RdL w0 A1 l1) (hL1 : l1.length ≤ c1) (hR2 : RdL w0 A2 l2) (hL2 : l2.length ≤ c2) (b1 : Nat) (b2 : Nat) (r1 : SFault) (b3 : Nat) (hc1 : r1.Code = 0) (b7 : Nat) (m3 : List Int) (m4 : List Int) (z2 : Int) (hc17 : l1.length ≤ 17592186044416) (Z1 : Option Addr) (cz1 : Nat) (Z2 : Option Addr) (cz2 : Nat) (Z3 : Option Addr) (cz3 : Nat) : (Nat × (List Int)) → Act → World → Prop := fun (s : Nat × (List Int)) a w => St w0 w [Own.blk b7 (.cells #[(.slice Z2 m3.length cz2), (.slice Z3 s.2.length cz3), .int .i64 z2] 51 (0, 0)), Own.blk b2 (.cells #[.int .i64 0, .int .i64 0] 31 (0, 0)), Own.blk b1 (.cells #[.slice none 0 0, .slice none 0 0, .int .i64 0] 51 (0, 0)), Own.of (.slice Z1 (List.replicate l1.length (0 : Int)).length cz1) 3 (List.replicate l1.length (0 : Int)), Own.of (.slice Z2 m3.length cz2) 3 m3, Own.of (.slice Z3 s.2.length cz3) 3 s.2] ∧ Frm 265 a [(0, .slice A0 l0.length c0), (1, .slice A1 l1.length c1), (2, .slice A2 l2.length c2), (3, .int .i64 x3), (8, .pointer (some ⟨b1, 0, none⟩)), (9, .pointer (some ⟨b2, 0, none⟩)), (13, .pointer (some ⟨b7, 0, none⟩)), (14, (.slice Z1 (List.replicate l1.length (0 : Int)).length cz1)), (112, .int .i64 (l1.length : Int)), (113, .int .i64 (s.1 : Int))]
abbrev modes_Play.B4 (K : Nat) (w0 : World) (l0 : List SCrit) (A0 : Option Addr) (c0 : Nat) (l1 : List SCome) (A1 : Option Addr) (c1 : Nat) (l2 : List Int) (A2 : Option Addr) (c2 : Nat) (x3 : Int) (hR0 : RdL w0 A0 l0) (hL0 : l0.length ≤ c0) (hR1 : RdL w0 A1 l1) (hL1 : l1.length ≤ c1) (hR2 : RdL w0 A2 l2) (hL2 : l2.length ≤ c2) (b1 : Nat) (b2 : Nat) (r1 : SFault) (b3 : Nat) (hc1 : r1.Code = 0) (b7 : Nat) (m3 : List Int) (m4 : List Int) (z2 : Int) (hc17 : l1.length ≤ 17592186044416) (Z1 : Option Addr) (cz1 : Nat) (Z2 : Option Addr) (cz2 : Nat) (Z3 : Option Addr) (cz3 : Nat) : ((List Int) ⊕ (SModal × SFault)) → Exit → Act → World → Prop := Exits 2 (fun (s : (List Int)) a w => St w0 w [Own.blk b7 (.cells #[(.slice Z2 m3.length cz2), (.slice Z3 s.length cz3), .int .i64 z2] 51 (0, 0)), Own.blk b2 (.cells #[.int .i64 0, .int .i64 0] 31 (0, 0)), Own.blk b1 (.cells #[.slice none 0 0, .slice none 0 0, .int .i64 0] 51 (0, 0)), Own.of (.slice Z1 (List.replicate l1.length (0 : Int)).length cz1) 3 (List.replicate l1.length (0 : Int)), Own.of (.slice Z2 m3.length cz2) 3 m3, Own.of (.slice Z3 s.length cz3) 3 s] ∧ Frm 265 a [(0, .slice A0 l0.length c0), (1, .slice A1 l1.length c1), (2, .slice A2 l2.length c2), (3, .int .i64 x3), (8, .pointer (some ⟨b1, 0, none⟩)), (9, .pointer (some ⟨b2, 0, none⟩)), (13, .pointer (some ⟨b7, 0, none⟩)), (14, (.slice Z1 (List.replicate l1.length (0 : Int)).length cz1))]) (Rets Tryd.prog Tryd.f21 (modes_Play.Post w0))
theorem modes_Play_r4 (K : Nat) (w0 : World) (l0 : List SCrit) (A0 : Option Addr) (c0 : Nat) (l1 : List SCome) (A1 : Option Addr) (c1 : Nat) (l2 : List Int) (A2 : Option Addr) (c2 : Nat) (x3 : Int) (hR0 : RdL w0 A0 l0) (hL0 : l0.length ≤ c0) (hR1 : RdL w0 A1 l1) (hL1 : l1.length ≤ c1) (hR2 : RdL w0 A2 l2) (hL2 : l2.length ≤ c2) (b1 : Nat) (b2 : Nat) (r1 : SFault) (b3 : Nat) (hc1 : r1.Code = 0) (b7 : Nat) (m3 : List Int) (m4 : List Int) (z2 : Int) (hc17 : l1.length ≤ 17592186044416) (Z1 : Option Addr) (cz1 : Nat) (Z2 : Option Addr) (cz2 : Nat) (Z3 : Option Addr) (cz3 : Nat) (s : Nat × (List Int)) (o : (Nat × (List Int)) ⊕ ((List Int) ⊕ (SModal × SFault))) (h : modes_Play.r4 l1 s = some o) (a : Act) (w : World) (hA : modes_Play.A4 K w0 l0 A0 c0 l1 A1 c1 l2 A2 c2 x3 hR0 hL0 hR1 hL1 hR2 hL2 b1 b2 r1 b3 hc1 b7 m3 m4 z2 hc17 Z1 cz1 Z2 cz2 Z3 cz3 s a w) (Q : Exit → Act → World → Prop) (hQ : ∀ x a w, Outs (modes_Play.A4 K w0 l0 A0 c0 l1 A1 c1 l2 A2 c2 x3 hR0 hL0 hR1 hL1 hR2 hL2 b1 b2 r1 b3 hc1 b7 m3 m4 z2 hc17 Z1 cz1 Z2 cz2 Z3 cz3) (modes_Play.B4 K w0 l0 A0 c0 l1 A1 c1 l2 A2 c2 x3 hR0 hL0 hR1 hL1 hR2 hL2 b1 b2 r1 b3 hc1 b7 m3 m4 z2 hc17 Z1 cz1 Z2 cz2 Z3 cz3) o x a w → Q x a w) : (subF Tryd.f21 [1, 1, 1, 1, 1, 1, 1, 0, 1, 0, 0]).wp Tryd.prog Q a w := by
  obtain ⟨i2, m5⟩ := s
  obtain ⟨hS, hF⟩ := hA
  replace hS : St w0 w [Own.blk b7 (.cells #[(.slice Z2 m3.length cz2), (.slice Z3 m5.length cz3), .int .i64 z2] 51 (0, 0)), Own.blk b2 (.cells #[.int .i64 0, .int .i64 0] 31 (0, 0)), Own.blk b1 (.cells #[.slice none 0 0, .slice none 0 0, .int .i64 0] 51 (0, 0)), Own.of (.slice Z1 (List.replicate l1.length (0 : Int)).length cz1) 3 (List.replicate l1.length (0 : Int)), Own.of (.slice Z2 m3.length cz2) 3 m3, Own.of (.slice Z3 m5.length cz3) 3 m5] := hS
  simp only [modes_Play.r4] at h
  refine (?_ : WE Tryd.prog 265 (subF Tryd.f21 [1, 1, 1, 1, 1, 1, 1, 0, 1, 0, 0]) Q [(0, .slice A0 l0.length c0), (1, .slice A1 l1.length c1), (2, .slice A2 l2.length c2), (3, .int .i64 x3), (8, .pointer (some ⟨b1, 0, none⟩)), (9, .pointer (some ⟨b2, 0, none⟩)), (13, .pointer (some ⟨b7, 0, none⟩)), (14, (.slice Z1 (List.replicate l1.length (0 : Int)).length cz1)), (112, .int .i64 (l1.length : Int)), (113, .int .i64 (i2 : Int))] w) a hF
  clear hF a
  refine we_seq fun K32 hK32 => ?_
  refine we_region [(0, 0)] rfl ?_
  refine ge_batch [0] (ans := []) (vs := [(114, .bool (decide ((i2 : Int) < (l1.length : Int))))]) (l := []) (by kernel_rfl) trivial ?_
  refine ge_nil fun a hF => hK32 _ _ ?_ a hF
  refine we_seq fun K33 hK33 => ?_
  by_cases hc18 : (i2 : Int) < (l1.length : Int)
  · rw [if_pos hc18] at h
    refine we_known (t := 114) (b := decide ((i2 : Int) < (l1.length : Int))) (v := true) (by kernel_rfl) (decide_eq_true hc18) ?_
    refine we_true (by kernel_rfl) ?_
    refine we_skip fun a hF => hK33 _ _ ?_ a hF
    refine we_seq fun K34 hK34 => ?_
    refine we_block ?_
    refine we_seq fun K35 hK35 => ?_
    refine we_region [(0, 0), (1, 0)] rfl ?_
    refine ge_batch [0, 1] (ans := []) (vs := [(15, .int .i64 (i2 : Int)), (115, .int .i64 (i2 : Int))]) (l := []) (by kernel_rfl) trivial ?_
    refine ge_nil fun a hF => hK35 _ _ ?_ a hF
    refine we_region [(0, 0), (1, 0), (2, 0), (3, 0), (4, 0), (5, 2)] rfl ?_
    refine ge_batch [0, 1, 2, 3] (ans := [.val ((.slice Z3 m5.length cz3))]) (vs := [(119, .int .i64 (i2 : Int)), (118, (.slice Z3 m5.length cz3)), (117, .pointer (some ⟨b7, 1, none⟩)), (116, .pointer (some ⟨b7, 0, none⟩))]) (l := [.loaded ⟨b7, 1, none⟩ ((.slice Z3 m5.length cz3))]) (by kernel_rfl) ⟨hS.cell 0 rfl rfl, trivial⟩ ?_
    rcases hx9 : m5[i2]? with _ | e4
    · rw [hx9] at h; cases h
    rw [hx9] at h
    simp only [] at h
    refine ge_index (d := 120) (ty := 0) (t := 28) (el := 3) (sz := 1) (m := m5.length) (c := cz3) (x := (.tmp 118)) (y := (.tmp 119)) (A := Z3) (k' := .i64) (j := (i2 : Int)) (jn := i2) (b0 := blkOf Z3) (o0 := offOf Z3) (by kernel_rfl) (by kernel_rfl) (by kernel_rfl) (by kernel_rfl) (by kernel_rfl) ((hS.rdAt 5 rfl).eqSome (pos_of_get hx9)) rfl (lt_of_get hx9) ?_
    have hS152 := hS.bring 5 rfl
    refine ge_seti (α := Int) (A := Z3) (nn := m5.length) (c := cz3) (t := 3) (l := m5) (x := e4) (x' := (-1)) (jn := i2) (j := 0) (vs := [.int .i64 (-1)]) (l' := [.stored ⟨blkOf Z3, offOf Z3 + i2 * 1, none⟩ (.int .i64 (-1))]) hS152 (by kernel_rfl) (by kernel_rfl) hx9 rfl rfl rfl fun w35 hS153 => ?_
    have hS154 : St w0 w35 [Own.of (.slice Z3 m5.length cz3) 3 (m5.set i2 (-1)), Own.blk b7 (.cells #[(.slice Z2 m3.length cz2), (.slice Z3 m5.length cz3), .int .i64 z2] 51 (0, 0)), Own.blk b2 (.cells #[.int .i64 0, .int .i64 0] 31 (0, 0)), Own.blk b1 (.cells #[.slice none 0 0, .slice none 0 0, .int .i64 0] 51 (0, 0)), Own.of (.slice Z1 (List.replicate l1.length (0 : Int)).length cz1) 3 (List.replicate l1.length (0 : Int)), Own.of (.slice Z2 m3.length cz2) 3 m3] := hS153
    have hE1 : m5.length = (m5.set i2 (-1)).length := hS154.lenAt 0 rfl
    have hS155 : St w0 w35 [Own.of (.slice Z3 (m5.set i2 (-1)).length cz3) 3 (m5.set i2 (-1)), Own.blk b7 (.cells #[(.slice Z2 m3.length cz2), (.slice Z3 (m5.set i2 (-1)).length cz3), .int .i64 z2] 51 (0, 0)), Own.blk b2 (.cells #[.int .i64 0, .int .i64 0] 31 (0, 0)), Own.blk b1 (.cells #[.slice none 0 0, .slice none 0 0, .int .i64 0] 51 (0, 0)), Own.of (.slice Z1 (List.replicate l1.length (0 : Int)).length cz1) 3 (List.replicate l1.length (0 : Int)), Own.of (.slice Z2 m3.length cz2) 3 m3] := by rw [← hE1]; exact hS154
    refine ge_same (t := 118) (v := (.slice Z3 m5.length cz3)) (v' := (.slice Z3 (m5.set i2 (-1)).length cz3)) (by kernel_rfl) (by rw [← hE1]) ?_
    refine ge_nil fun a hF => hK34 _ _ ?_ a hF
    refine we_region [(0, 0), (1, 0)] rfl ?_
    refine ge_addn (d := 121) (ty := 3) (x := (.tmp 113)) (y := (.const (.int .i64 1))) (t := 3) (t2 := 3) (k := .i64) (m := i2) (by kernel_rfl) (by kernel_rfl) (by kernel_rfl) (by have h0 := hR1.small; omega) ?_
    refine ge_batch [1] (ans := []) (vs := [(113, .int .i64 ((i2 + 1 : Nat) : Int))]) (l := []) (by kernel_rfl) trivial ?_
    have hS156 := hS155.bring 5 rfl
    have hS157 := hS156.bring 5 rfl
    have hS158 := hS157.bring 5 rfl
    have hS159 := hS158.bring 5 rfl
    have hS160 := hS159.bring 5 rfl
    obtain rfl := Option.some.inj h
    exact ge_nil fun a hF => hQ _ _ _ (Outs.again ⟨hS160, hF.weaken ⟨by kernel_rfl, by kernel_rfl, by kernel_rfl, by kernel_rfl, by kernel_rfl, by kernel_rfl, by kernel_rfl, by kernel_rfl, by kernel_rfl, by kernel_rfl, trivial⟩⟩)
  · rw [if_neg hc18] at h
    refine we_known (t := 114) (b := decide ((i2 : Int) < (l1.length : Int))) (v := false) (by kernel_rfl) (decide_eq_false hc18) ?_
    refine we_false (by kernel_rfl) ?_
    have hS161 := hS.bring 5 rfl
    have hS162 := hS161.bring 5 rfl
    have hS163 := hS162.bring 5 rfl
    have hS164 := hS163.bring 5 rfl
    have hS165 := hS164.bring 5 rfl
    have hS166 := hS165.bring 5 rfl
    obtain rfl := Option.some.inj h
    exact we_exit fun a hF => hQ _ _ _ (Outs.out nofun (Exits.here ⟨hS166, hF.weaken ⟨by kernel_rfl, by kernel_rfl, by kernel_rfl, by kernel_rfl, by kernel_rfl, by kernel_rfl, by kernel_rfl, by kernel_rfl, trivial⟩⟩))
abbrev modes_Play.A7 (K : Nat) (w0 : World) (l0 : List SCrit) (A0 : Option Addr) (c0 : Nat) (l1 : List SCome) (A1 : Option Addr) (c1 : Nat) (l2 : List Int) (A2 : Option Addr) (c2 : Nat) (x3 : Int) (hR0 : RdL w0 A0 l0) (hL0 : l0.length ≤ c0) (hR1 : RdL w0 A1 l1) (hL1 : l1.length ≤ c1) (hR2 : RdL w0 A2 l2) (hL2 : l2.length ≤ c2) (b1 : Nat) (b2 : Nat) (r1 : SFault) (b3 : Nat) (hc1 : r1.Code = 0) (b7 : Nat) (m3 : List Int) (m4 : List Int) (z2 : Int) (hc17 : l1.length ≤ 17592186044416) (Z1 : Option Addr) (cz1 : Nat) (Z2 : Option Addr) (cz2 : Nat) (Z3 : Option Addr) (cz3 : Nat) (m7 : List Int) (z3 : Int) (m8 : List Int) (m9 : List Int) (m10 : List Int) (z4 : Int) (hc19 : z3 < x3) (z6 : Int) (i3 : Nat) (hc20 : (i3 : Int) < (l1.length : Int)) (e5 : SCome) (hx10 : l1[i3]? = some e5) (b8 : Nat) (hc21 : 0 ≤ e5.Task) (e6 : SCrit) (hx12 : l0[(e5.Task).toNat]? = some e6) (b9 : Nat) : Unit → Act → World → Prop := fun (s : Unit) a w => St w0 w [Own.blk b9 (.cells #[.int .i64 e6.C, .int .i64 e6.H, .int .i64 e6.T, .int .i64 e6.D, .bool e6.High, .int .i64 e6.P] 27 (0, 0)), Own.blk b8 (.cells #[.int .i64 e5.Task, .int .i64 e5.At] 46 (0, 0)), Own.blk b7 (.cells #[(.slice Z2 m9.length cz2), (.slice Z3 m10.length cz3), .int .i64 z4] 51 (0, 0)), Own.blk b2 (.cells #[.int .i64 0, .int .i64 0] 31 (0, 0)), Own.blk b1 (.cells #[.slice none 0 0, .slice none 0 0, .int .i64 0] 51 (0, 0)), Own.of (.slice Z1 m8.length cz1) 3 m8, Own.of (.slice Z2 m9.length cz2) 3 m9, Own.of (.slice Z3 m10.length cz3) 3 m10] ∧ Frm 265 a [(0, .slice A0 l0.length c0), (1, .slice A1 l1.length c1), (2, .slice A2 l2.length c2), (8, .pointer (some ⟨b1, 0, none⟩)), (9, .pointer (some ⟨b2, 0, none⟩)), (13, .pointer (some ⟨b7, 0, none⟩)), (14, (.slice Z1 m8.length cz1)), (16, .int .i64 z3), (17, .int .i64 z6), (18, .int .i64 (i3 : Int)), (19, .pointer (some ⟨b8, 0, none⟩)), (20, .pointer (some ⟨b9, 0, none⟩)), (122, .int .i64 x3), (123, .int .i64 z3), (126, .slice A1 l1.length c1), (127, .int .i64 (l1.length : Int)), (128, .int .i64 (i3 : Int))]
abbrev modes_Play.B7 (K : Nat) (w0 : World) (l0 : List SCrit) (A0 : Option Addr) (c0 : Nat) (l1 : List SCome) (A1 : Option Addr) (c1 : Nat) (l2 : List Int) (A2 : Option Addr) (c2 : Nat) (x3 : Int) (hR0 : RdL w0 A0 l0) (hL0 : l0.length ≤ c0) (hR1 : RdL w0 A1 l1) (hL1 : l1.length ≤ c1) (hR2 : RdL w0 A2 l2) (hL2 : l2.length ≤ c2) (b1 : Nat) (b2 : Nat) (r1 : SFault) (b3 : Nat) (hc1 : r1.Code = 0) (b7 : Nat) (m3 : List Int) (m4 : List Int) (z2 : Int) (hc17 : l1.length ≤ 17592186044416) (Z1 : Option Addr) (cz1 : Nat) (Z2 : Option Addr) (cz2 : Nat) (Z3 : Option Addr) (cz3 : Nat) (m7 : List Int) (z3 : Int) (m8 : List Int) (m9 : List Int) (m10 : List Int) (z4 : Int) (hc19 : z3 < x3) (z6 : Int) (i3 : Nat) (hc20 : (i3 : Int) < (l1.length : Int)) (e5 : SCome) (hx10 : l1[i3]? = some e5) (b8 : Nat) (hc21 : 0 ≤ e5.Task) (e6 : SCrit) (hx12 : l0[(e5.Task).toNat]? = some e6) (b9 : Nat) : (Unit ⊕ (SModal × SFault)) → Exit → Act → World → Prop := Exits 7 (fun (s : Unit) a w => St w0 w [Own.blk b7 (.cells #[(.slice Z2 m9.length cz2), (.slice Z3 m10.length cz3), .int .i64 z4] 51 (0, 0)), Own.blk b2 (.cells #[.int .i64 0, .int .i64 0] 31 (0, 0)), Own.blk b1 (.cells #[.slice none 0 0, .slice none 0 0, .int .i64 0] 51 (0, 0)), Own.of (.slice Z1 m8.length cz1) 3 m8, Own.of (.slice Z2 m9.length cz2) 3 m9, Own.of (.slice Z3 m10.length cz3) 3 m10] ∧ Frm 265 a [(0, .slice A0 l0.length c0), (1, .slice A1 l1.length c1), (2, .slice A2 l2.length c2), (8, .pointer (some ⟨b1, 0, none⟩)), (9, .pointer (some ⟨b2, 0, none⟩)), (13, .pointer (some ⟨b7, 0, none⟩)), (14, (.slice Z1 m8.length cz1)), (16, .int .i64 z3), (17, .int .i64 z6), (122, .int .i64 x3), (123, .int .i64 z3), (126, .slice A1 l1.length c1), (127, .int .i64 (l1.length : Int)), (128, .int .i64 (i3 : Int))]) (Rets Tryd.prog Tryd.f21 (modes_Play.Post w0))
theorem modes_Play_p7 (K : Nat) (w0 : World) (l0 : List SCrit) (A0 : Option Addr) (c0 : Nat) (l1 : List SCome) (A1 : Option Addr) (c1 : Nat) (l2 : List Int) (A2 : Option Addr) (c2 : Nat) (x3 : Int) (hR0 : RdL w0 A0 l0) (hL0 : l0.length ≤ c0) (hR1 : RdL w0 A1 l1) (hL1 : l1.length ≤ c1) (hR2 : RdL w0 A2 l2) (hL2 : l2.length ≤ c2) (b1 : Nat) (b2 : Nat) (r1 : SFault) (b3 : Nat) (hc1 : r1.Code = 0) (b7 : Nat) (m3 : List Int) (m4 : List Int) (z2 : Int) (hc17 : l1.length ≤ 17592186044416) (Z1 : Option Addr) (cz1 : Nat) (Z2 : Option Addr) (cz2 : Nat) (Z3 : Option Addr) (cz3 : Nat) (m7 : List Int) (z3 : Int) (m8 : List Int) (m9 : List Int) (m10 : List Int) (z4 : Int) (hc19 : z3 < x3) (z6 : Int) (i3 : Nat) (hc20 : (i3 : Int) < (l1.length : Int)) (e5 : SCome) (hx10 : l1[i3]? = some e5) (b8 : Nat) (hc21 : 0 ≤ e5.Task) (e6 : SCrit) (hx12 : l0[(e5.Task).toNat]? = some e6) (b9 : Nat) (o : Unit ⊕ (Unit ⊕ (SModal × SFault))) (h : modes_Play.p7 z3 m10 z4 i3 e5 e6 = some o) (w : World) (hS : St w0 w [Own.blk b9 (.cells #[.int .i64 e6.C, .int .i64 e6.H, .int .i64 e6.T, .int .i64 e6.D, .bool e6.High, .int .i64 e6.P] 27 (0, 0)), Own.blk b8 (.cells #[.int .i64 e5.Task, .int .i64 e5.At] 46 (0, 0)), Own.blk b7 (.cells #[(.slice Z2 m9.length cz2), (.slice Z3 m10.length cz3), .int .i64 z4] 51 (0, 0)), Own.blk b2 (.cells #[.int .i64 0, .int .i64 0] 31 (0, 0)), Own.blk b1 (.cells #[.slice none 0 0, .slice none 0 0, .int .i64 0] 51 (0, 0)), Own.of (.slice Z1 m8.length cz1) 3 m8, Own.of (.slice Z2 m9.length cz2) 3 m9, Own.of (.slice Z3 m10.length cz3) 3 m10]) (Q : Exit → Act → World → Prop) (hQ : ∀ x a w, Outs (modes_Play.A7 K w0 l0 A0 c0 l1 A1 c1 l2 A2 c2 x3 hR0 hL0 hR1 hL1 hR2 hL2 b1 b2 r1 b3 hc1 b7 m3 m4 z2 hc17 Z1 cz1 Z2 cz2 Z3 cz3 m7 z3 m8 m9 m10 z4 hc19 z6 i3 hc20 e5 hx10 b8 hc21 e6 hx12 b9) (modes_Play.B7 K w0 l0 A0 c0 l1 A1 c1 l2 A2 c2 x3 hR0 hL0 hR1 hL1 hR2 hL2 b1 b2 r1 b3 hc1 b7 m3 m4 z2 hc17 Z1 cz1 Z2 cz2 Z3 cz3 m7 z3 m8 m9 m10 z4 hc19 z6 i3 hc20 e5 hx10 b8 hc21 e6 hx12 b9) o x a w → Q x a w) : WE Tryd.prog 265 (subF Tryd.f21 [1, 1, 1, 1, 1, 1, 1, 1, 0, 1, 0, 0, 1, 1, 0, 0, 1, 1, 0, 1, 0, 0, 1, 1, 0, 0, 1, 1, 0]) Q [(0, .slice A0 l0.length c0), (1, .slice A1 l1.length c1), (2, .slice A2 l2.length c2), (8, .pointer (some ⟨b1, 0, none⟩)), (9, .pointer (some ⟨b2, 0, none⟩)), (13, .pointer (some ⟨b7, 0, none⟩)), (14, (.slice Z1 m8.length cz1)), (16, .int .i64 z3), (17, .int .i64 z6), (18, .int .i64 (i3 : Int)), (19, .pointer (some ⟨b8, 0, none⟩)), (20, .pointer (some ⟨b9, 0, none⟩)), (122, .int .i64 x3), (123, .int .i64 z3), (126, .slice A1 l1.length c1), (127, .int .i64 (l1.length : Int)), (128, .int .i64 (i3 : Int)), (129, .bool true), (130, .int .i64 (i3 : Int)), (131, .pointer (some ⟨blkOf A1, offOf A1 + i3 * 2, none⟩)), (132, .agg #[.int .i64 e5.Task, .int .i64 e5.At]), (133, .slice A0 l0.length c0), (134, .pointer (some ⟨b8, 0, none⟩)), (135, .int .i64 e5.Task), (136, .pointer (some ⟨blkOf A0, offOf A0 + (e5.Task).toNat * 6, none⟩)), (137, .agg #[.int .i64 e6.C, .int .i64 e6.H, .int .i64 e6.T, .int .i64 e6.D, .bool e6.High, .int .i64 e6.P])] w := by
  simp only [modes_Play.p7] at h
  refine we_seq fun K51 hK51 => ?_
  refine we_region [(0, 0), (1, 0), (2, 0), (3, 0), (4, 0), (5, 0), (6, 0), (7, 0), (8, 0), (9, 0), (10, 0), (11, 0), (12, 0), (13, 0), (14, 0), (15, 0), (16, 0), (17, 0), (18, 0), (19, 0), (20, 0), (21, 0), (22, 0)] rfl ?_
  refine ge_batch [0, 1, 2, 3, 4] (ans := [.val (.int .i64 e5.At)]) (vs := [(142, .bool (decide (e5.At > z3))), (141, .bool (decide (e5.At > z3))), (140, .int .i64 z3), (139, .int .i64 e5.At), (138, .pointer (some ⟨b8, 1, none⟩))]) (l := [.loaded ⟨b8, 1, none⟩ (.int .i64 e5.At)]) (by kernel_rfl) ⟨hS.cell 1 rfl rfl, trivial⟩ ?_
  by_cases hc22 : e5.At > z3
  · rw [if_pos hc22] at h
    refine ge_known (t := 142) (b := decide (e5.At > z3)) (c := true) (by kernel_rfl) (decide_eq_true hc22) ?_
    refine ge_batch [5, 6, 7, 8, 9, 10, 11, 12, 13, 14, 15, 16, 17, 18, 19, 20, 21, 22] (ans := []) (vs := [(160, .bool true), (159, undef), (158, undef), (157, undef), (156, undef), (155, undef), (154, undef), (153, undef), (152, undef), (151, .bool true), (150, .bool true), (149, undef), (148, undef), (147, undef), (146, undef), (145, undef), (144, undef), (143, undef)]) (l := []) (by kernel_rfl) trivial ?_
    refine ge_nil fun a hF => hK51 _ _ ?_ a hF
    refine we_true (by kernel_rfl) ?_
    have hS186 := hS.bring 7 rfl
    have hS187 := hS186.bring 7 rfl
    have hS188 := hS187.bring 7 rfl
    have hS189 := hS188.bring 7 rfl
    have hS190 := hS189.bring 7 rfl
    have hS191 := hS190.bring 7 rfl
    have hS192 := hS191.takeN 6
    obtain rfl := Option.some.inj h
    exact we_exit fun a hF => hQ _ _ _ (Outs.out nofun (Exits.here ⟨hS192, hF.weaken ⟨by kernel_rfl, by kernel_rfl, by kernel_rfl, by kernel_rfl, by kernel_rfl, by kernel_rfl, by kernel_rfl, by kernel_rfl, by kernel_rfl, by kernel_rfl, by kernel_rfl, by kernel_rfl, by kernel_rfl, by kernel_rfl, trivial⟩⟩))
  · rw [if_neg hc22] at h
    refine ge_known (t := 142) (b := decide (e5.At > z3)) (c := false) (by kernel_rfl) (decide_eq_false hc22) ?_
    refine ge_batch [5, 6, 7, 8] (ans := [.val ((.slice Z3 m10.length cz3))]) (vs := [(146, .int .i64 (i3 : Int)), (145, (.slice Z3 m10.length cz3)), (144, .pointer (some ⟨b7, 1, none⟩)), (143, .pointer (some ⟨b7, 0, none⟩))]) (l := [.loaded ⟨b7, 1, none⟩ ((.slice Z3 m10.length cz3))]) (by kernel_rfl) ⟨hS.cell 2 rfl rfl, trivial⟩ ?_
    rcases hx14 : m10[i3]? with _ | e7
    · rw [hx14] at h; cases h
    rw [hx14] at h
    simp only [] at h
    refine ge_index (d := 147) (ty := 0) (t := 28) (el := 3) (sz := 1) (m := m10.length) (c := cz3) (x := (.tmp 145)) (y := (.tmp 146)) (A := Z3) (k' := .i64) (j := (i3 : Int)) (jn := i3) (b0 := blkOf Z3) (o0 := offOf Z3) (by kernel_rfl) (by kernel_rfl) (by kernel_rfl) (by kernel_rfl) (by kernel_rfl) ((hS.rdAt 7 rfl).eqSome (pos_of_get hx14)) rfl (lt_of_get hx14) ?_
    refine ge_batch [10, 11, 12, 13] (ans := [.val (.int .i64 e7)]) (vs := [(151, .bool (decide (e7 ≥ 0))), (150, .bool (decide (e7 ≥ 0))), (149, .bool (decide (e7 ≥ 0))), (148, .int .i64 e7)]) (l := [.loaded ⟨blkOf Z3, offOf Z3 + i3 * 1, none⟩ (.int .i64 e7)]) (by kernel_rfl) ⟨RdL.cell (j := 0) (hS.rdAt 7 rfl) hx14 rfl, trivial⟩ ?_
    by_cases hc23 : e7 ≥ 0
    · rw [if_pos hc23] at h
      refine ge_known (t := 151) (b := decide (e7 ≥ 0)) (c := true) (by kernel_rfl) (decide_eq_true hc23) ?_
      refine ge_batch [14, 15, 16, 17, 18, 19, 20, 21, 22] (ans := []) (vs := [(160, .bool true), (159, undef), (158, undef), (157, undef), (156, undef), (155, undef), (154, undef), (153, undef), (152, undef)]) (l := []) (by kernel_rfl) trivial ?_
      refine ge_nil fun a hF => hK51 _ _ ?_ a hF
      refine we_true (by kernel_rfl) ?_
      have hS193 := hS.bring 7 rfl
      have hS194 := hS193.bring 7 rfl
      have hS195 := hS194.bring 7 rfl
      have hS196 := hS195.bring 7 rfl
      have hS197 := hS196.bring 7 rfl
      have hS198 := hS197.bring 7 rfl
      have hS199 := hS198.takeN 6
      obtain rfl := Option.some.inj h
      exact we_exit fun a hF => hQ _ _ _ (Outs.out nofun (Exits.here ⟨hS199, hF.weaken ⟨by kernel_rfl, by kernel_rfl, by kernel_rfl, by kernel_rfl, by kernel_rfl, by kernel_rfl, by kernel_rfl, by kernel_rfl, by kernel_rfl, by kernel_rfl, by kernel_rfl, by kernel_rfl, by kernel_rfl, by kernel_rfl, trivial⟩⟩))
    · rw [if_neg hc23] at h
      refine ge_known (t := 151) (b := decide (e7 ≥ 0)) (c := false) (by kernel_rfl) (decide_eq_false hc23) ?_
      refine ge_batch [14, 15, 16, 17] (ans := [.val (.int .i64 z4)]) (vs := [(155, .bool (decide (z4 ≥ 0))), (154, .bool (decide (z4 ≥ 0))), (153, .int .i64 z4), (152, .pointer (some ⟨b7, 2, none⟩))]) (l := [.loaded ⟨b7, 2, none⟩ (.int .i64 z4)]) (by kernel_rfl) ⟨hS.cell 2 rfl rfl, trivial⟩ ?_
      by_cases hc24 : z4 ≥ 0
      · rw [if_pos hc24] at h
        refine ge_known (t := 155) (b := decide (z4 ≥ 0)) (c := true) (by kernel_rfl) (decide_eq_true hc24) ?_
        refine ge_batch [18, 19, 20, 21, 22] (ans := [.val (.bool e6.High)]) (vs := [(160, .bool (!e6.High)), (159, .bool (!e6.High)), (158, .bool (!e6.High)), (157, .bool e6.High), (156, .pointer (some ⟨b9, 4, none⟩))]) (l := [.loaded ⟨b9, 4, none⟩ (.bool e6.High)]) (by kernel_rfl) ⟨hS.cell 0 rfl rfl, trivial⟩ ?_
        refine ge_nil fun a hF => hK51 _ _ ?_ a hF
        by_cases hc25 : e6.High = true
        · rw [if_pos hc25] at h
          refine we_known (t := 160) (b := !e6.High) (v := false) (by kernel_rfl) (congrArg (fun z => !z) hc25) ?_
          refine we_false (by kernel_rfl) ?_
          have hS200 := hS.bring 7 rfl
          have hS201 := hS200.bring 7 rfl
          have hS202 := hS201.bring 7 rfl
          have hS203 := hS202.bring 7 rfl
          have hS204 := hS203.bring 7 rfl
          have hS205 := hS204.bring 7 rfl
          have hS206 := hS205.bring 7 rfl
          have hS207 := hS206.bring 7 rfl
          obtain rfl := Option.some.inj h
          exact we_skip fun a hF => hQ _ _ _ (Outs.again ⟨hS207, hF.weaken ⟨by kernel_rfl, by kernel_rfl, by kernel_rfl, by kernel_rfl, by kernel_rfl, by kernel_rfl, by kernel_rfl, by kernel_rfl, by kernel_rfl, by kernel_rfl, by kernel_rfl, by kernel_rfl, by kernel_rfl, by kernel_rfl, by kernel_rfl, by kernel_rfl, by kernel_rfl, trivial⟩⟩)
        · rw [if_neg hc25] at h
          refine we_known (t := 160) (b := !e6.High) (v := true) (by kernel_rfl) (congrArg (fun z => !z) (Bool.eq_false_iff.2 hc25)) ?_
          refine we_true (by kernel_rfl) ?_
          have hS208 := hS.bring 7 rfl
          have hS209 := hS208.bring 7 rfl
          have hS210 := hS209.bring 7 rfl
          have hS211 := hS210.bring 7 rfl
          have hS212 := hS211.bring 7 rfl
          have hS213 := hS212.bring 7 rfl
          have hS214 := hS213.takeN 6
          obtain rfl := Option.some.inj h
          exact we_exit fun a hF => hQ _ _ _ (Outs.out nofun (Exits.here ⟨hS214, hF.weaken ⟨by kernel_rfl, by kernel_rfl, by kernel_rfl, by kernel_rfl, by kernel_rfl, by kernel_rfl, by kernel_rfl, by kernel_rfl, by kernel_rfl, by kernel_rfl, by kernel_rfl, by kernel_rfl, by kernel_rfl, by kernel_rfl, trivial⟩⟩))
      · rw [if_neg hc24] at h
        refine ge_known (t := 155) (b := decide (z4 ≥ 0)) (c := false) (by kernel_rfl) (decide_eq_false hc24) ?_
        refine ge_batch [18, 19, 20, 21, 22] (ans := []) (vs := [(160, .bool false), (159, .bool false), (158, undef), (157, undef), (156, undef)]) (l := []) (by kernel_rfl) trivial ?_
        refine ge_nil fun a hF => hK51 _ _ ?_ a hF
        refine we_false (by kernel_rfl) ?_
        have hS215 := hS.bring 7 rfl
        have hS216 := hS215.bring 7 rfl
        have hS217 := hS216.bring 7 rfl
        have hS218 := hS217.bring 7 rfl
        have hS219 := hS218.bring 7 rfl
        have hS220 := hS219.bring 7 rfl
        have hS221 := hS220.bring 7 rfl
        have hS222 := hS221.bring 7 rfl
        obtain rfl := Option.some.inj h
        exact we_skip fun a hF => hQ _ _ _ (Outs.again ⟨hS222, hF.weaken ⟨by kernel_rfl, by kernel_rfl, by kernel_rfl, by kernel_rfl, by kernel_rfl, by kernel_rfl, by kernel_rfl, by kernel_rfl, by kernel_rfl, by kernel_rfl, by kernel_rfl, by kernel_rfl, by kernel_rfl, by kernel_rfl, by kernel_rfl, by kernel_rfl, by kernel_rfl, trivial⟩⟩)
abbrev modes_Play.A6 (K : Nat) (w0 : World) (l0 : List SCrit) (A0 : Option Addr) (c0 : Nat) (l1 : List SCome) (A1 : Option Addr) (c1 : Nat) (l2 : List Int) (A2 : Option Addr) (c2 : Nat) (x3 : Int) (hR0 : RdL w0 A0 l0) (hL0 : l0.length ≤ c0) (hR1 : RdL w0 A1 l1) (hL1 : l1.length ≤ c1) (hR2 : RdL w0 A2 l2) (hL2 : l2.length ≤ c2) (b1 : Nat) (b2 : Nat) (r1 : SFault) (b3 : Nat) (hc1 : r1.Code = 0) (b7 : Nat) (m3 : List Int) (m4 : List Int) (z2 : Int) (hc17 : l1.length ≤ 17592186044416) (Z1 : Option Addr) (cz1 : Nat) (Z2 : Option Addr) (cz2 : Nat) (Z3 : Option Addr) (cz3 : Nat) (m7 : List Int) (z3 : Int) (m8 : List Int) (m9 : List Int) (m10 : List Int) (z4 : Int) (hc19 : z3 < x3) : (Int × Nat) → Act → World → Prop := fun (s : Int × Nat) a w => St w0 w [Own.blk b7 (.cells #[(.slice Z2 m9.length cz2), (.slice Z3 m10.length cz3), .int .i64 z4] 51 (0, 0)), Own.blk b2 (.cells #[.int .i64 0, .int .i64 0] 31 (0, 0)), Own.blk b1 (.cells #[.slice none 0 0, .slice none 0 0, .int .i64 0] 51 (0, 0)), Own.of (.slice Z1 m8.length cz1) 3 m8, Own.of (.slice Z2 m9.length cz2) 3 m9, Own.of (.slice Z3 m10.length cz3) 3 m10] ∧ Frm 265 a [(0, .slice A0 l0.length c0), (1, .slice A1 l1.length c1), (2, .slice A2 l2.length c2), (8, .pointer (some ⟨b1, 0, none⟩)), (9, .pointer (some ⟨b2, 0, none⟩)), (13, .pointer (some ⟨b7, 0, none⟩)), (14, (.slice Z1 m8.length cz1)), (16, .int .i64 z3), (17, .int .i64 s.1), (122, .int .i64 x3), (123, .int .i64 z3), (126, .slice A1 l1.length c1), (127, .int .i64 (l1.length : Int)), (128, .int .i64 (s.2 : Int))]
abbrev modes_Play.B6 (K : Nat) (w0 : World) (l0 : List SCrit) (A0 : Option Addr) (c0 : Nat) (l1 : List SCome) (A1 : Option Addr) (c1 : Nat) (l2 : List Int) (A2 : Option Addr) (c2 : Nat) (x3 : Int) (hR0 : RdL w0 A0 l0) (hL0 : l0.length ≤ c0) (hR1 : RdL w0 A1 l1) (hL1 : l1.length ≤ c1) (hR2 : RdL w0 A2 l2) (hL2 : l2.length ≤ c2) (b1 : Nat) (b2 : Nat) (r1 : SFault) (b3 : Nat) (hc1 : r1.Code = 0) (b7 : Nat) (m3 : List Int) (m4 : List Int) (z2 : Int) (hc17 : l1.length ≤ 17592186044416) (Z1 : Option Addr) (cz1 : Nat) (Z2 : Option Addr) (cz2 : Nat) (Z3 : Option Addr) (cz3 : Nat) (m7 : List Int) (z3 : Int) (m8 : List Int) (m9 : List Int) (m10 : List Int) (z4 : Int) (hc19 : z3 < x3) : (Int ⊕ (SModal × SFault)) → Exit → Act → World → Prop := Exits 6 (fun (s : Int) a w => St w0 w [Own.blk b7 (.cells #[(.slice Z2 m9.length cz2), (.slice Z3 m10.length cz3), .int .i64 z4] 51 (0, 0)), Own.blk b2 (.cells #[.int .i64 0, .int .i64 0] 31 (0, 0)), Own.blk b1 (.cells #[.slice none 0 0, .slice none 0 0, .int .i64 0] 51 (0, 0)), Own.of (.slice Z1 m8.length cz1) 3 m8, Own.of (.slice Z2 m9.length cz2) 3 m9, Own.of (.slice Z3 m10.length cz3) 3 m10] ∧ Frm 265 a [(0, .slice A0 l0.length c0), (1, .slice A1 l1.length c1), (2, .slice A2 l2.length c2), (8, .pointer (some ⟨b1, 0, none⟩)), (9, .pointer (some ⟨b2, 0, none⟩)), (13, .pointer (some ⟨b7, 0, none⟩)), (14, (.slice Z1 m8.length cz1)), (16, .int .i64 z3), (17, .int .i64 s), (122, .int .i64 x3), (123, .int .i64 z3)]) (Rets Tryd.prog Tryd.f21 (modes_Play.Post w0))
theorem modes_Play_r6 (K : Nat) (w0 : World) (l0 : List SCrit) (A0 : Option Addr) (c0 : Nat) (l1 : List SCome) (A1 : Option Addr) (c1 : Nat) (l2 : List Int) (A2 : Option Addr) (c2 : Nat) (x3 : Int) (hR0 : RdL w0 A0 l0) (hL0 : l0.length ≤ c0) (hR1 : RdL w0 A1 l1) (hL1 : l1.length ≤ c1) (hR2 : RdL w0 A2 l2) (hL2 : l2.length ≤ c2) (b1 : Nat) (b2 : Nat) (r1 : SFault) (b3 : Nat) (hc1 : r1.Code = 0) (b7 : Nat) (m3 : List Int) (m4 : List Int) (z2 : Int) (hc17 : l1.length ≤ 17592186044416) (Z1 : Option Addr) (cz1 : Nat) (Z2 : Option Addr) (cz2 : Nat) (Z3 : Option Addr) (cz3 : Nat) (m7 : List Int) (z3 : Int) (m8 : List Int) (m9 : List Int) (m10 : List Int) (z4 : Int) (hc19 : z3 < x3) (s : Int × Nat) (o : (Int × Nat) ⊕ (Int ⊕ (SModal × SFault))) (h : modes_Play.r6 l0 l1 z3 m10 z4 s = some o) (a : Act) (w : World) (hA : modes_Play.A6 K w0 l0 A0 c0 l1 A1 c1 l2 A2 c2 x3 hR0 hL0 hR1 hL1 hR2 hL2 b1 b2 r1 b3 hc1 b7 m3 m4 z2 hc17 Z1 cz1 Z2 cz2 Z3 cz3 m7 z3 m8 m9 m10 z4 hc19 s a w) (Q : Exit → Act → World → Prop) (hQ : ∀ x a w, Outs (modes_Play.A6 K w0 l0 A0 c0 l1 A1 c1 l2 A2 c2 x3 hR0 hL0 hR1 hL1 hR2 hL2 b1 b2 r1 b3 hc1 b7 m3 m4 z2 hc17 Z1 cz1 Z2 cz2 Z3 cz3 m7 z3 m8 m9 m10 z4 hc19) (modes_Play.B6 K w0 l0 A0 c0 l1 A1 c1 l2 A2 c2 x3 hR0 hL0 hR1 hL1 hR2 hL2 b1 b2 r1 b3 hc1 b7 m3 m4 z2 hc17 Z1 cz1 Z2 cz2 Z3 cz3 m7 z3 m8 m9 m10 z4 hc19) o x a w → Q x a w) : (subF Tryd.f21 [1, 1, 1, 1, 1, 1, 1, 1, 0, 1, 0, 0, 1, 1, 0, 0, 1, 1, 0, 1, 0, 0]).wp Tryd.prog Q a w := by
  obtain ⟨z6, i3⟩ := s
  obtain ⟨hS, hF⟩ := hA
  replace hS : St w0 w [Own.blk b7 (.cells #[(.slice Z2 m9.length cz2), (.slice Z3 m10.length cz3), .int .i64 z4] 51 (0, 0)), Own.blk b2 (.cells #[.int .i64 0, .int .i64 0] 31 (0, 0)), Own.blk b1 (.cells #[.slice none 0 0, .slice none 0 0, .int .i64 0] 51 (0, 0)), Own.of (.slice Z1 m8.length cz1) 3 m8, Own.of (.slice Z2 m9.length cz2) 3 m9, Own.of (.slice Z3 m10.length cz3) 3 m10] := hS
  simp only [modes_Play.r6] at h
  refine (?_ : WE Tryd.prog 265 (subF Tryd.f21 [1, 1, 1, 1, 1, 1, 1, 1, 0, 1, 0, 0, 1, 1, 0, 0, 1, 1, 0, 1, 0, 0]) Q [(0, .slice A0 l0.length c0), (1, .slice A1 l1.length c1), (2, .slice A2 l2.length c2), (8, .pointer (some ⟨b1, 0, none⟩)), (9, .pointer (some ⟨b2, 0, none⟩)), (13, .pointer (some ⟨b7, 0, none⟩)), (14, (.slice Z1 m8.length cz1)), (16, .int .i64 z3), (17, .int .i64 z6), (122, .int .i64 x3), (123, .int .i64 z3), (126, .slice A1 l1.length c1), (127, .int .i64 (l1.length : Int)), (128, .int .i64 (i3 : Int))] w) a hF
  clear hF a
  refine we_seq fun K45 hK45 => ?_
  refine we_region [(0, 0)] rfl ?_
  refine ge_batch [0] (ans := []) (vs := [(129, .bool (decide ((i3 : Int) < (l1.length : Int))))]) (l := []) (by kernel_rfl) trivial ?_
  refine ge_nil fun a hF => hK45 _ _ ?_ a hF
  refine we_seq fun K46 hK46 => ?_
  by_cases hc20 : (i3 : Int) < (l1.length : Int)
  · rw [if_pos hc20] at h
    refine we_known (t := 129) (b := decide ((i3 : Int) < (l1.length : Int))) (v := true) (by kernel_rfl) (decide_eq_true hc20) ?_
    refine we_true (by kernel_rfl) ?_
    refine we_skip fun a hF => hK46 _ _ ?_ a hF
    refine we_seq fun K47 hK47 => ?_
    refine we_block ?_
    refine we_seq fun K48 hK48 => ?_
    refine we_region [(0, 0), (1, 0), (2, 0), (3, 1), (4, 0), (5, 2)] rfl ?_
    refine ge_batch [0] (ans := []) (vs := [(130, .int .i64 (i3 : Int))]) (l := []) (by kernel_rfl) trivial ?_
    rcases hx10 : l1[i3]? with _ | e5
    · rw [hx10] at h; cases h
    rw [hx10] at h
    simp only [] at h
    refine ge_index (d := 131) (ty := 0) (t := 40) (el := 46) (sz := 2) (m := l1.length) (c := c1) (x := (.tmp 126)) (y := (.tmp 128)) (A := A1) (k' := .i64) (j := (i3 : Int)) (jn := i3) (b0 := blkOf A1) (o0 := offOf A1) (by kernel_rfl) (by kernel_rfl) (by kernel_rfl) (by kernel_rfl) (by kernel_rfl) ((hS.rd hR1).eqSome (pos_of_get hx10)) rfl (lt_of_get hx10) ?_
    refine ge_batch [2] (ans := [.val (.int .i64 e5.Task), .val (.int .i64 e5.At)]) (vs := [(132, .agg #[.int .i64 e5.Task, .int .i64 e5.At])]) (l := [.loaded ⟨blkOf A1, offOf A1 + i3 * 2, none⟩ (.int .i64 e5.Task), .loaded ⟨blkOf A1, offOf A1 + i3 * 2 + 1, none⟩ (.int .i64 e5.At)]) (by kernel_rfl) ⟨RdL.cell (j := 0) (hS.rd hR1) hx10 rfl, RdL.cell (j := 1) (hS.rd hR1) hx10 rfl, trivial⟩ ?_
    refine ge_new (d := some 19) (o := .cells #[.int .i64 0, .int .i64 0] 46) (v := fun b => .pointer (some ⟨b, 0, none⟩)) hS (fun b => by kernel_rfl) fun b8 w37 hx11 hS180 => ?_
    refine ge_batch [4] (ans := []) (vs := [(18, .int .i64 (i3 : Int))]) (l := []) (by kernel_rfl) trivial ?_
    refine ge_set (b := b8) (j := 0) (cs := #[.int .i64 0, .int .i64 0]) (t := 46) (vs := [.int .i64 e5.Task, .int .i64 e5.At]) hS180 (by kernel_rfl) rfl rfl fun w38 hS181 => ?_
    have hS182 := hS181.nc #[.int .i64 e5.Task, .int .i64 e5.At] (by kernel_rfl)
    refine ge_nil fun a hF => hK48 _ _ ?_ a hF
    refine we_seq fun K49 hK49 => ?_
    refine we_region [(0, 0), (1, 0), (2, 0), (3, 0), (4, 0), (5, 1), (6, 2)] rfl ?_
    refine ge_batch [0, 1, 2] (ans := [.val (.int .i64 e5.Task)]) (vs := [(135, .int .i64 e5.Task), (134, .pointer (some ⟨b8, 0, none⟩)), (133, .slice A0 l0.length c0)]) (l := [.loaded ⟨b8, 0, none⟩ (.int .i64 e5.Task)]) (by kernel_rfl) ⟨hS182.cell 0 rfl rfl, trivial⟩ ?_
    by_cases hc21 : 0 ≤ e5.Task
    · rw [if_pos hc21] at h
      rcases hx12 : l0[(e5.Task).toNat]? with _ | e6
      · rw [hx12] at h; cases h
      rw [hx12] at h
      simp only [] at h
      refine ge_index (d := 136) (ty := 0) (t := 22) (el := 27) (sz := 6) (m := l0.length) (c := c0) (x := (.tmp 133)) (y := (.tmp 135)) (A := A0) (k' := .i64) (j := e5.Task) (jn := ((e5.Task).toNat)) (b0 := blkOf A0) (o0 := offOf A0) (by kernel_rfl) (by kernel_rfl) (by kernel_rfl) (by kernel_rfl) (by kernel_rfl) ((hS182.rd hR0).eqSome (pos_of_get hx12)) (Int.toNat_of_nonneg hc21).symm (lt_of_get hx12) ?_
      refine ge_batch [4] (ans := [.val (.int .i64 e6.C), .val (.int .i64 e6.H), .val (.int .i64 e6.T), .val (.int .i64 e6.D), .val (.bool e6.High), .val (.int .i64 e6.P)]) (vs := [(137, .agg #[.int .i64 e6.C, .int .i64 e6.H, .int .i64 e6.T, .int .i64 e6.D, .bool e6.High, .int .i64 e6.P])]) (l := [.loaded ⟨blkOf A0, offOf A0 + ((e5.Task).toNat) * 6, none⟩ (.int .i64 e6.C), .loaded ⟨blkOf A0, offOf A0 + ((e5.Task).toNat) * 6 + 1, none⟩ (.int .i64 e6.H), .loaded ⟨blkOf A0, offOf A0 + ((e5.Task).toNat) * 6 + 2, none⟩ (.int .i64 e6.T), .loaded ⟨blkOf A0, offOf A0 + ((e5.Task).toNat) * 6 + 3, none⟩ (.int .i64 e6.D), .loaded ⟨blkOf A0, offOf A0 + ((e5.Task).toNat) * 6 + 4, none⟩ (.bool e6.High), .loaded ⟨blkOf A0, offOf A0 + ((e5.Task).toNat) * 6 + 5, none⟩ (.int .i64 e6.P)]) (by kernel_rfl) ⟨RdL.cell (j := 0) (hS182.rd hR0) hx12 rfl, RdL.cell (j := 1) (hS182.rd hR0) hx12 rfl, RdL.cell (j := 2) (hS182.rd hR0) hx12 rfl, RdL.cell (j := 3) (hS182.rd hR0) hx12 rfl, RdL.cell (j := 4) (hS182.rd hR0) hx12 rfl, RdL.cell (j := 5) (hS182.rd hR0) hx12 rfl, trivial⟩ ?_
      refine ge_new (d := some 20) (o := .cells #[.int .i64 0, .int .i64 0, .int .i64 0, .int .i64 0, .bool false, .int .i64 0] 27) (v := fun b => .pointer (some ⟨b, 0, none⟩)) hS182 (fun b => by kernel_rfl) fun b9 w39 hx13 hS183 => ?_
      refine ge_set (b := b9) (j := 0) (cs := #[.int .i64 0, .int .i64 0, .int .i64 0, .int .i64 0, .bool false, .int .i64 0]) (t := 27) (vs := [.int .i64 e6.C, .int .i64 e6.H, .int .i64 e6.T, .int .i64 e6.D, .bool e6.High, .int .i64 e6.P]) hS183 (by kernel_rfl) rfl rfl fun w40 hS184 => ?_
      have hS185 := hS184.nc #[.int .i64 e6.C, .int .i64 e6.H, .int .i64 e6.T, .int .i64 e6.D, .bool e6.High, .int .i64 e6.P] (by kernel_rfl)
      refine ge_nil fun a hF => hK49 _ _ ?_ a hF
      refine we_seq fun K50 hK50 => ?_
      rcases hq7 : modes_Play.p7 z3 m10 z4 i3 e5 e6 with _ | (_ | (_ | rr1))
      · rw [hq7] at h; cases h
      · rw [hq7] at h
        simp only [] at h
        refine we_keep (e' := [(0, .slice A0 l0.length c0), (1, .slice A1 l1.length c1), (2, .slice A2 l2.length c2), (8, .pointer (some ⟨b1, 0, none⟩)), (9, .pointer (some ⟨b2, 0, none⟩)), (13, .pointer (some ⟨b7, 0, none⟩)), (14, (.slice Z1 m8.length cz1)), (16, .int .i64 z3), (17, .int .i64 z6), (18, .int .i64 (i3 : Int)), (19, .pointer (some ⟨b8, 0, none⟩)), (20, .pointer (some ⟨b9, 0, none⟩)), (122, .int .i64 x3), (123, .int .i64 z3), (126, .slice A1 l1.length c1), (127, .int .i64 (l1.length : Int)), (128, .int .i64 (i3 : Int)), (129, .bool true), (130, .int .i64 (i3 : Int)), (131, .pointer (some ⟨blkOf A1, offOf A1 + i3 * 2, none⟩)), (132, .agg #[.int .i64 e5.Task, .int .i64 e5.At]), (133, .slice A0 l0.length c0), (134, .pointer (some ⟨b8, 0, none⟩)), (135, .int .i64 e5.Task), (136, .pointer (some ⟨blkOf A0, offOf A0 + (e5.Task).toNat * 6, none⟩)), (137, .agg #[.int .i64 e6.C, .int .i64 e6.H, .int .i64 e6.T, .int .i64 e6.D, .bool e6.High, .int .i64 e6.P])]) ⟨by kernel_rfl, by kernel_rfl, by kernel_rfl, by kernel_rfl, by kernel_rfl, by kernel_rfl, by kernel_rfl, by kernel_rfl, by kernel_rfl, by kernel_rfl, by kernel_rfl, by kernel_rfl, by kernel_rfl, by kernel_rfl, by kernel_rfl, by kernel_rfl, by kernel_rfl, by kernel_rfl, by kernel_rfl, by kernel_rfl, by kernel_rfl, by kernel_rfl, by kernel_rfl, by kernel_rfl, by kernel_rfl, by kernel_rfl, trivial⟩ (modes_Play_p7 K w0 l0 A0 c0 l1 A1 c1 l2 A2 c2 x3 hR0 hL0 hR1 hL1 hR2 hL2 b1 b2 r1 b3 hc1 b7 m3 m4 z2 hc17 Z1 cz1 Z2 cz2 Z3 cz3 m7 z3 m8 m9 m10 z4 hc19 z6 i3 hc20 e5 hx10 b8 hc21 e6 hx12 b9 _ hq7 _ hS185 _ ?_)
        rintro _ a w41 ⟨rfl, hS223, hF⟩
        replace hS223 : St w0 w41 [Own.blk b9 (.cells #[.int .i64 e6.C, .int .i64 e6.H, .int .i64 e6.T, .int .i64 e6.D, .bool e6.High, .int .i64 e6.P] 27 (0, 0)), Own.blk b8 (.cells #[.int .i64 e5.Task, .int .i64 e5.At] 46 (0, 0)), Own.blk b7 (.cells #[(.slice Z2 m9.length cz2), (.slice Z3 m10.length cz3), .int .i64 z4] 51 (0, 0)), Own.blk b2 (.cells #[.int .i64 0, .int .i64 0] 31 (0, 0)), Own.blk b1 (.cells #[.slice none 0 0, .slice none 0 0, .int .i64 0] 51 (0, 0)), Own.of (.slice Z1 m8.length cz1) 3 m8, Own.of (.slice Z2 m9.length cz2) 3 m9, Own.of (.slice Z3 m10.length cz3) 3 m10] := hS223
        refine hK50 [(0, .slice A0 l0.length c0), (1, .slice A1 l1.length c1), (2, .slice A2 l2.length c2), (8, .pointer (some ⟨b1, 0, none⟩)), (9, .pointer (some ⟨b2, 0, none⟩)), (13, .pointer (some ⟨b7, 0, none⟩)), (14, (.slice Z1 m8.length cz1)), (16, .int .i64 z3), (17, .int .i64 z6), (18, .int .i64 (i3 : Int)), (19, .pointer (some ⟨b8, 0, none⟩)), (20, .pointer (some ⟨b9, 0, none⟩)), (122, .int .i64 x3), (123, .int .i64 z3), (126, .slice A1 l1.length c1), (127, .int .i64 (l1.length : Int)), (128, .int .i64 (i3 : Int))] w41 ?_ a hF
        refine we_seq fun K52 hK52 => ?_
        refine we_draws (by kernel_rfl) [(0, 0), (1, 0), (2, 0), (3, 0), (4, 0), (5, 0), (6, 0), (7, 0), (8, 0), (9, 0), (10, 0), (11, 0), (12, 0), (13, 0), (14, 0), (15, 0), (16, 0), (17, 0), (18, 0), (19, 0), (20, 0), (21, 0), (22, 0), (23, 0), (24, 0), (25, 0), (26, 0), (27, 0), (28, 0), (29, 0), (30, 0), (31, 0), (32, 0), (33, 0), (34, 0), (35, 0), (36, 0), (37, 0), (38, 0), (39, 0)] (by kernel_rfl) ?_
        have hS224 := hS223.drew
        refine ge_batch [0, 1, 2] (ans := []) (vs := [(163, .bool (decide (z6 < 0))), (162, .bool (decide (z6 < 0))), (161, .int .i64 z6)]) (l := []) (by kernel_rfl) trivial ?_
        by_cases hc26 : z6 < 0
        · rw [if_pos hc26] at h
          refine ge_known (t := 163) (b := decide (z6 < 0)) (c := true) (by kernel_rfl) (decide_eq_true hc26) ?_
          refine ge_batch [3, 4, 5, 6, 7, 8, 9, 10, 11, 12, 13, 14, 15, 16, 17, 18, 19, 20, 21, 22, 23, 24, 25, 26, 27, 28, 29, 30, 31, 32, 33, 34, 35, 36, 37, 38, 39] (ans := []) (vs := [(200, .bool true), (199, undef), (198, undef), (197, undef), (196, undef), (195, undef), (194, undef), (193, undef), (192, undef), (191, undef), (190, undef), (189, undef), (188, undef), (187, undef), (186, undef), (185, undef), (184, undef), (183, undef), (182, undef), (181, undef), (180, undef), (179, undef), (178, undef), (177, .bool true), (176, .bool true), (175, undef), (174, undef), (173, undef), (172, undef), (171, undef), (170, undef), (169, undef), (168, undef), (167, undef), (166, undef), (165, undef), (164, undef)]) (l := []) (by kernel_rfl) trivial ?_
          refine ge_nil fun a hF => hK52 _ _ ?_ a hF
          refine we_true (by kernel_rfl) ?_
          refine we_region [(0, 0), (1, 0)] rfl ?_
          refine ge_batch [0, 1] (ans := []) (vs := [(17, .int .i64 (i3 : Int)), (201, .int .i64 (i3 : Int))]) (l := []) (by kernel_rfl) trivial ?_
          refine ge_nil fun a hF => hK47 _ _ ?_ a hF
          refine we_region [(0, 0), (1, 0)] rfl ?_
          refine ge_addn (d := 202) (ty := 3) (x := (.tmp 128)) (y := (.const (.int .i64 1))) (t := 3) (t2 := 3) (k := .i64) (m := i3) (by kernel_rfl) (by kernel_rfl) (by kernel_rfl) (by have h0 := hR1.small; omega) ?_
          refine ge_batch [1] (ans := []) (vs := [(128, .int .i64 ((i3 + 1 : Nat) : Int))]) (l := []) (by kernel_rfl) trivial ?_
          have hS225 := hS224.bring 7 rfl
          have hS226 := hS225.bring 7 rfl
          have hS227 := hS226.bring 7 rfl
          have hS228 := hS227.bring 7 rfl
          have hS229 := hS228.bring 7 rfl
          have hS230 := hS229.bring 7 rfl
          have hS231 := hS230.takeN 6
          obtain rfl := Option.some.inj h
          exact ge_nil fun a hF => hQ _ _ _ (Outs.again ⟨hS231, hF.weaken ⟨by kernel_rfl, by kernel_rfl, by kernel_rfl, by kernel_rfl, by kernel_rfl, by kernel_rfl, by kernel_rfl, by kernel_rfl, by kernel_rfl, by kernel_rfl, by kernel_rfl, by kernel_rfl, by kernel_rfl, by kernel_rfl, trivial⟩⟩)
        · rw [if_neg hc26] at h
          refine ge_known (t := 163) (b := decide (z6 < 0)) (c := false) (by kernel_rfl) (decide_eq_false hc26) ?_
          refine ge_batch [3, 4, 5, 6, 7] (ans := [.val (.int .i64 e6.P)]) (vs := [(168, .int .i64 z6), (167, .slice A1 l1.length c1), (166, .slice A0 l0.length c0), (165, .int .i64 e6.P), (164, .pointer (some ⟨b9, 5, none⟩))]) (l := [.loaded ⟨b9, 5, none⟩ (.int .i64 e6.P)]) (by kernel_rfl) ⟨hS224.cell 0 rfl rfl, trivial⟩ ?_
          by_cases hc27 : 0 ≤ z6
          · rw [if_pos hc27] at h
            rcases hx15 : l1[(z6).toNat]? with _ | e8
            · rw [hx15] at h; cases h
            rw [hx15] at h
            simp only [] at h
            refine ge_index (d := 169) (ty := 0) (t := 40) (el := 46) (sz := 2) (m := l1.length) (c := c1) (x := (.tmp 167)) (y := (.tmp 168)) (A := A1) (k' := .i64) (j := z6) (jn := ((z6).toNat)) (b0 := blkOf A1) (o0 := offOf A1) (by kernel_rfl) (by kernel_rfl) (by kernel_rfl) (by kernel_rfl) (by kernel_rfl) ((hS224.rd hR1).eqSome (pos_of_get hx15)) (Int.toNat_of_nonneg hc27).symm (lt_of_get hx15) ?_
            refine ge_batch [9, 10] (ans := [.val (.int .i64 e8.Task)]) (vs := [(171, .int .i64 e8.Task), (170, .pointer (some ⟨blkOf A1, offOf A1 + (z6).toNat * 2, none⟩))]) (l := [.loaded ⟨blkOf A1, offOf A1 + ((z6).toNat) * 2, none⟩ (.int .i64 e8.Task)]) (by kernel_rfl) ⟨RdL.cell (j := 0) (hS224.rd hR1) hx15 rfl, trivial⟩ ?_
            by_cases hc28 : 0 ≤ e8.Task
            · rw [if_pos hc28] at h
              rcases hx16 : l0[(e8.Task).toNat]? with _ | e9
              · rw [hx16] at h; cases h
              rw [hx16] at h
              simp only [] at h
              refine ge_index (d := 172) (ty := 0) (t := 22) (el := 27) (sz := 6) (m := l0.length) (c := c0) (x := (.tmp 166)) (y := (.tmp 171)) (A := A0) (k' := .i64) (j := e8.Task) (jn := ((e8.Task).toNat)) (b0 := blkOf A0) (o0 := offOf A0) (by kernel_rfl) (by kernel_rfl) (by kernel_rfl) (by kernel_rfl) (by kernel_rfl) ((hS224.rd hR0).eqSome (pos_of_get hx16)) (Int.toNat_of_nonneg hc28).symm (lt_of_get hx16) ?_
              refine ge_batch [12, 13, 14, 15, 16] (ans := [.val (.int .i64 e9.P)]) (vs := [(177, .bool (decide (e6.P > e9.P))), (176, .bool (decide (e6.P > e9.P))), (175, .bool (decide (e6.P > e9.P))), (174, .int .i64 e9.P), (173, .pointer (some ⟨blkOf A0, offOf A0 + (e8.Task).toNat * 6 + 5, none⟩))]) (l := [.loaded ⟨blkOf A0, offOf A0 + ((e8.Task).toNat) * 6 + 5, none⟩ (.int .i64 e9.P)]) (by kernel_rfl) ⟨RdL.cell (j := 5) (hS224.rd hR0) hx16 rfl, trivial⟩ ?_
              by_cases hc29 : e6.P > e9.P
              · rw [if_pos hc29] at h
                refine ge_known (t := 177) (b := decide (e6.P > e9.P)) (c := true) (by kernel_rfl) (decide_eq_true hc29) ?_
                refine ge_batch [17, 18, 19, 20, 21, 22, 23, 24, 25, 26, 27, 28, 29, 30, 31, 32, 33, 34, 35, 36, 37, 38, 39] (ans := []) (vs := [(200, .bool true), (199, undef), (198, undef), (197, undef), (196, undef), (195, undef), (194, undef), (193, undef), (192, undef), (191, undef), (190, undef), (189, undef), (188, undef), (187, undef), (186, undef), (185, undef), (184, undef), (183, undef), (182, undef), (181, undef), (180, undef), (179, undef), (178, undef)]) (l := []) (by kernel_rfl) trivial ?_
                refine ge_nil fun a hF => hK52 _ _ ?_ a hF
                refine we_true (by kernel_rfl) ?_
                refine we_region [(0, 0), (1, 0)] rfl ?_
                refine ge_batch [0, 1] (ans := []) (vs := [(17, .int .i64 (i3 : Int)), (201, .int .i64 (i3 : Int))]) (l := []) (by kernel_rfl) trivial ?_
                refine ge_nil fun a hF => hK47 _ _ ?_ a hF
                refine we_region [(0, 0), (1, 0)] rfl ?_
                refine ge_addn (d := 202) (ty := 3) (x := (.tmp 128)) (y := (.const (.int .i64 1))) (t := 3) (t2 := 3) (k := .i64) (m := i3) (by kernel_rfl) (by kernel_rfl) (by kernel_rfl) (by have h0 := hR1.small; omega) ?_
                refine ge_batch [1] (ans := []) (vs := [(128, .int .i64 ((i3 + 1 : Nat) : Int))]) (l := []) (by kernel_rfl) trivial ?_
                have hS232 := hS224.bring 7 rfl
                have hS233 := hS232.bring 7 rfl
                have hS234 := hS233.bring 7 rfl
                have hS235 := hS234.bring 7 rfl
                have hS236 := hS235.bring 7 rfl
                have hS237 := hS236.bring 7 rfl
                have hS238 := hS237.takeN 6
                obtain rfl := Option.some.inj h
                exact ge_nil fun a hF => hQ _ _ _ (Outs.again ⟨hS238, hF.weaken ⟨by kernel_rfl, by kernel_rfl, by kernel_rfl, by kernel_rfl, by kernel_rfl, by kernel_rfl, by kernel_rfl, by kernel_rfl, by kernel_rfl, by kernel_rfl, by kernel_rfl, by kernel_rfl, by kernel_rfl, by kernel_rfl, trivial⟩⟩)
              · rw [if_neg hc29] at h
                refine ge_known (t := 177) (b := decide (e6.P > e9.P)) (c := false) (by kernel_rfl) (decide_eq_false hc29) ?_
                refine ge_batch [17, 18, 19, 20, 21] (ans := [.val (.int .i64 e6.P)]) (vs := [(182, .int .i64 z6), (181, .slice A1 l1.length c1), (180, .slice A0 l0.length c0), (179, .int .i64 e6.P), (178, .pointer (some ⟨b9, 5, none⟩))]) (l := [.loaded ⟨b9, 5, none⟩ (.int .i64 e6.P)]) (by kernel_rfl) ⟨hS224.cell 0 rfl rfl, trivial⟩ ?_
                refine ge_index (d := 183) (ty := 0) (t := 40) (el := 46) (sz := 2) (m := l1.length) (c := c1) (x := (.tmp 181)) (y := (.tmp 182)) (A := A1) (k' := .i64) (j := z6) (jn := ((z6).toNat)) (b0 := blkOf A1) (o0 := offOf A1) (by kernel_rfl) (by kernel_rfl) (by kernel_rfl) (by kernel_rfl) (by kernel_rfl) ((hS224.rd hR1).eqSome (pos_of_get hx15)) (Int.toNat_of_nonneg hc27).symm (lt_of_get hx15) ?_
                refine ge_batch [23, 24] (ans := [.val (.int .i64 e8.Task)]) (vs := [(185, .int .i64 e8.Task), (184, .pointer (some ⟨blkOf A1, offOf A1 + (z6).toNat * 2, none⟩))]) (l := [.loaded ⟨blkOf A1, offOf A1 + ((z6).toNat) * 2, none⟩ (.int .i64 e8.Task)]) (by kernel_rfl) ⟨RdL.cell (j := 0) (hS224.rd hR1) hx15 rfl, trivial⟩ ?_
                refine ge_index (d := 186) (ty := 0) (t := 22) (el := 27) (sz := 6) (m := l0.length) (c := c0) (x := (.tmp 180)) (y := (.tmp 185)) (A := A0) (k' := .i64) (j := e8.Task) (jn := ((e8.Task).toNat)) (b0 := blkOf A0) (o0 := offOf A0) (by kernel_rfl) (by kernel_rfl) (by kernel_rfl) (by kernel_rfl) (by kernel_rfl) ((hS224.rd hR0).eqSome (pos_of_get hx16)) (Int.toNat_of_nonneg hc28).symm (lt_of_get hx16) ?_
                refine ge_batch [26, 27, 28, 29] (ans := [.val (.int .i64 e9.P)]) (vs := [(190, .bool (e6.P == e9.P)), (189, .bool (e6.P == e9.P)), (188, .int .i64 e9.P), (187, .pointer (some ⟨blkOf A0, offOf A0 + (e8.Task).toNat * 6 + 5, none⟩))]) (l := [.loaded ⟨blkOf A0, offOf A0 + ((e8.Task).toNat) * 6 + 5, none⟩ (.int .i64 e9.P)]) (by kernel_rfl) ⟨RdL.cell (j := 5) (hS224.rd hR0) hx16 rfl, trivial⟩ ?_
                by_cases hc30 : e6.P = e9.P
                · rw [if_pos hc30] at h
                  refine ge_known (t := 190) (b := (e6.P == e9.P)) (c := true) (by kernel_rfl) (beq_iff_eq.2 hc30) ?_
                  refine ge_batch [30, 31, 32, 33] (ans := [.val (.int .i64 e5.At)]) (vs := [(194, .int .i64 z6), (193, .slice A1 l1.length c1), (192, .int .i64 e5.At), (191, .pointer (some ⟨b8, 1, none⟩))]) (l := [.loaded ⟨b8, 1, none⟩ (.int .i64 e5.At)]) (by kernel_rfl) ⟨hS224.cell 1 rfl rfl, trivial⟩ ?_
                  refine ge_index (d := 195) (ty := 0) (t := 40) (el := 46) (sz := 2) (m := l1.length) (c := c1) (x := (.tmp 193)) (y := (.tmp 194)) (A := A1) (k' := .i64) (j := z6) (jn := ((z6).toNat)) (b0 := blkOf A1) (o0 := offOf A1) (by kernel_rfl) (by kernel_rfl) (by kernel_rfl) (by kernel_rfl) (by kernel_rfl) ((hS224.rd hR1).eqSome (pos_of_get hx15)) (Int.toNat_of_nonneg hc27).symm (lt_of_get hx15) ?_
                  refine ge_batch [35, 36, 37, 38, 39] (ans := [.val (.int .i64 e8.At)]) (vs := [(200, .bool (decide (e5.At < e8.At))), (199, .bool (decide (e5.At < e8.At))), (198, .bool (decide (e5.At < e8.At))), (197, .int .i64 e8.At), (196, .pointer (some ⟨blkOf A1, offOf A1 + (z6).toNat * 2 + 1, none⟩))]) (l := [.loaded ⟨blkOf A1, offOf A1 + ((z6).toNat) * 2 + 1, none⟩ (.int .i64 e8.At)]) (by kernel_rfl) ⟨RdL.cell (j := 1) (hS224.rd hR1) hx15 rfl, trivial⟩ ?_
                  refine ge_nil fun a hF => hK52 _ _ ?_ a hF
                  by_cases hc31 : e5.At < e8.At
                  · rw [if_pos hc31] at h
                    refine we_known (t := 200) (b := decide (e5.At < e8.At)) (v := true) (by kernel_rfl) (decide_eq_true hc31) ?_
                    refine we_true (by kernel_rfl) ?_
                    refine we_region [(0, 0), (1, 0)] rfl ?_
                    refine ge_batch [0, 1] (ans := []) (vs := [(17, .int .i64 (i3 : Int)), (201, .int .i64 (i3 : Int))]) (l := []) (by kernel_rfl) trivial ?_
                    refine ge_nil fun a hF => hK47 _ _ ?_ a hF
                    refine we_region [(0, 0), (1, 0)] rfl ?_
                    refine ge_addn (d := 202) (ty := 3) (x := (.tmp 128)) (y := (.const (.int .i64 1))) (t := 3) (t2 := 3) (k := .i64) (m := i3) (by kernel_rfl) (by kernel_rfl) (by kernel_rfl) (by have h0 := hR1.small; omega) ?_
                    refine ge_batch [1] (ans := []) (vs := [(128, .int .i64 ((i3 + 1 : Nat) : Int))]) (l := []) (by kernel_rfl) trivial ?_
                    have hS239 := hS224.bring 7 rfl
                    have hS240 := hS239.bring 7 rfl
                    have hS241 := hS240.bring 7 rfl
                    have hS242 := hS241.bring 7 rfl
                    have hS243 := hS242.bring 7 rfl
                    have hS244 := hS243.bring 7 rfl
                    have hS245 := hS244.takeN 6
                    obtain rfl := Option.some.inj h
                    exact ge_nil fun a hF => hQ _ _ _ (Outs.again ⟨hS245, hF.weaken ⟨by kernel_rfl, by kernel_rfl, by kernel_rfl, by kernel_rfl, by kernel_rfl, by kernel_rfl, by kernel_rfl, by kernel_rfl, by kernel_rfl, by kernel_rfl, by kernel_rfl, by kernel_rfl, by kernel_rfl, by kernel_rfl, trivial⟩⟩)
                  · rw [if_neg hc31] at h
                    refine we_known (t := 200) (b := decide (e5.At < e8.At)) (v := false) (by kernel_rfl) (decide_eq_false hc31) ?_
                    refine we_false (by kernel_rfl) ?_
                    refine we_skip fun a hF => hK47 _ _ ?_ a hF
                    refine we_region [(0, 0), (1, 0)] rfl ?_
                    refine ge_addn (d := 202) (ty := 3) (x := (.tmp 128)) (y := (.const (.int .i64 1))) (t := 3) (t2 := 3) (k := .i64) (m := i3) (by kernel_rfl) (by kernel_rfl) (by kernel_rfl) (by have h0 := hR1.small; omega) ?_
                    refine ge_batch [1] (ans := []) (vs := [(128, .int .i64 ((i3 + 1 : Nat) : Int))]) (l := []) (by kernel_rfl) trivial ?_
                    have hS246 := hS224.bring 7 rfl
                    have hS247 := hS246.bring 7 rfl
                    have hS248 := hS247.bring 7 rfl
                    have hS249 := hS248.bring 7 rfl
                    have hS250 := hS249.bring 7 rfl
                    have hS251 := hS250.bring 7 rfl
                    have hS252 := hS251.takeN 6
                    obtain rfl := Option.some.inj h
                    exact ge_nil fun a hF => hQ _ _ _ (Outs.again ⟨hS252, hF.weaken ⟨by kernel_rfl, by kernel_rfl, by kernel_rfl, by kernel_rfl, by kernel_rfl, by kernel_rfl, by kernel_rfl, by kernel_rfl, by kernel_rfl, by kernel_rfl, by kernel_rfl, by kernel_rfl, by kernel_rfl, by kernel_rfl, trivial⟩⟩)
                · rw [if_neg hc30] at h
                  refine ge_known (t := 190) (b := (e6.P == e9.P)) (c := false) (by kernel_rfl) (beq_eq_false_iff_ne.2 hc30) ?_
                  refine ge_batch [30, 31, 32, 33, 34, 35, 36, 37, 38, 39] (ans := []) (vs := [(200, .bool false), (199, .bool false), (198, undef), (197, undef), (196, undef), (195, undef), (194, undef), (193, undef), (192, undef), (191, undef)]) (l := []) (by kernel_rfl) trivial ?_
                  refine ge_nil fun a hF => hK52 _ _ ?_ a hF
                  refine we_false (by kernel_rfl) ?_
                  refine we_skip fun a hF => hK47 _ _ ?_ a hF
                  refine we_region [(0, 0), (1, 0)] rfl ?_
                  refine ge_addn (d := 202) (ty := 3) (x := (.tmp 128)) (y := (.const (.int .i64 1))) (t := 3) (t2 := 3) (k := .i64) (m := i3) (by kernel_rfl) (by kernel_rfl) (by kernel_rfl) (by have h0 := hR1.small; omega) ?_
                  refine ge_batch [1] (ans := []) (vs := [(128, .int .i64 ((i3 + 1 : Nat) : Int))]) (l := []) (by kernel_rfl) trivial ?_
                  have hS253 := hS224.bring 7 rfl
                  have hS254 := hS253.bring 7 rfl
                  have hS255 := hS254.bring 7 rfl
                  have hS256 := hS255.bring 7 rfl
                  have hS257 := hS256.bring 7 rfl
                  have hS258 := hS257.bring 7 rfl
                  have hS259 := hS258.takeN 6
                  obtain rfl := Option.some.inj h
                  exact ge_nil fun a hF => hQ _ _ _ (Outs.again ⟨hS259, hF.weaken ⟨by kernel_rfl, by kernel_rfl, by kernel_rfl, by kernel_rfl, by kernel_rfl, by kernel_rfl, by kernel_rfl, by kernel_rfl, by kernel_rfl, by kernel_rfl, by kernel_rfl, by kernel_rfl, by kernel_rfl, by kernel_rfl, trivial⟩⟩)
            · rw [if_neg hc28] at h
              cases h
          · rw [if_neg hc27] at h
            cases h
      · rw [hq7] at h
        simp only [] at h
        refine we_keep (e' := [(0, .slice A0 l0.length c0), (1, .slice A1 l1.length c1), (2, .slice A2 l2.length c2), (8, .pointer (some ⟨b1, 0, none⟩)), (9, .pointer (some ⟨b2, 0, none⟩)), (13, .pointer (some ⟨b7, 0, none⟩)), (14, (.slice Z1 m8.length cz1)), (16, .int .i64 z3), (17, .int .i64 z6), (18, .int .i64 (i3 : Int)), (19, .pointer (some ⟨b8, 0, none⟩)), (20, .pointer (some ⟨b9, 0, none⟩)), (122, .int .i64 x3), (123, .int .i64 z3), (126, .slice A1 l1.length c1), (127, .int .i64 (l1.length : Int)), (128, .int .i64 (i3 : Int)), (129, .bool true), (130, .int .i64 (i3 : Int)), (131, .pointer (some ⟨blkOf A1, offOf A1 + i3 * 2, none⟩)), (132, .agg #[.int .i64 e5.Task, .int .i64 e5.At]), (133, .slice A0 l0.length c0), (134, .pointer (some ⟨b8, 0, none⟩)), (135, .int .i64 e5.Task), (136, .pointer (some ⟨blkOf A0, offOf A0 + (e5.Task).toNat * 6, none⟩)), (137, .agg #[.int .i64 e6.C, .int .i64 e6.H, .int .i64 e6.T, .int .i64 e6.D, .bool e6.High, .int .i64 e6.P])]) ⟨by kernel_rfl, by kernel_rfl, by kernel_rfl, by kernel_rfl, by kernel_rfl, by kernel_rfl, by kernel_rfl, by kernel_rfl, by kernel_rfl, by kernel_rfl, by kernel_rfl, by kernel_rfl, by kernel_rfl, by kernel_rfl, by kernel_rfl, by kernel_rfl, by kernel_rfl, by kernel_rfl, by kernel_rfl, by kernel_rfl, by kernel_rfl, by kernel_rfl, by kernel_rfl, by kernel_rfl, by kernel_rfl, by kernel_rfl, trivial⟩ (modes_Play_p7 K w0 l0 A0 c0 l1 A1 c1 l2 A2 c2 x3 hR0 hL0 hR1 hL1 hR2 hL2 b1 b2 r1 b3 hc1 b7 m3 m4 z2 hc17 Z1 cz1 Z2 cz2 Z3 cz3 m7 z3 m8 m9 m10 z4 hc19 z6 i3 hc20 e5 hx10 b8 hc21 e6 hx12 b9 _ hq7 _ hS185 _ ?_)
        rintro _ a w42 ⟨_, rfl, hS260, hF⟩
        replace hS260 : St w0 w42 [Own.blk b7 (.cells #[(.slice Z2 m9.length cz2), (.slice Z3 m10.length cz3), .int .i64 z4] 51 (0, 0)), Own.blk b2 (.cells #[.int .i64 0, .int .i64 0] 31 (0, 0)), Own.blk b1 (.cells #[.slice none 0 0, .slice none 0 0, .int .i64 0] 51 (0, 0)), Own.of (.slice Z1 m8.length cz1) 3 m8, Own.of (.slice Z2 m9.length cz2) 3 m9, Own.of (.slice Z3 m10.length cz3) 3 m10] := hS260
        refine hK47 [(0, .slice A0 l0.length c0), (1, .slice A1 l1.length c1), (2, .slice A2 l2.length c2), (8, .pointer (some ⟨b1, 0, none⟩)), (9, .pointer (some ⟨b2, 0, none⟩)), (13, .pointer (some ⟨b7, 0, none⟩)), (14, (.slice Z1 m8.length cz1)), (16, .int .i64 z3), (17, .int .i64 z6), (122, .int .i64 x3), (123, .int .i64 z3), (126, .slice A1 l1.length c1), (127, .int .i64 (l1.length : Int)), (128, .int .i64 (i3 : Int))] w42 ?_ a hF
        refine we_region [(0, 0), (1, 0)] rfl ?_
        refine ge_addn (d := 202) (ty := 3) (x := (.tmp 128)) (y := (.const (.int .i64 1))) (t := 3) (t2 := 3) (k := .i64) (m := i3) (by kernel_rfl) (by kernel_rfl) (by kernel_rfl) (by have h0 := hR1.small; omega) ?_
        refine ge_batch [1] (ans := []) (vs := [(128, .int .i64 ((i3 + 1 : Nat) : Int))]) (l := []) (by kernel_rfl) trivial ?_
        have hS261 := hS260.bring 5 rfl
        have hS262 := hS261.bring 5 rfl
        have hS263 := hS262.bring 5 rfl
        have hS264 := hS263.bring 5 rfl
        have hS265 := hS264.bring 5 rfl
        have hS266 := hS265.bring 5 rfl
        obtain rfl := Option.some.inj h
        exact ge_nil fun a hF => hQ _ _ _ (Outs.again ⟨hS266, hF.weaken ⟨by kernel_rfl, by kernel_rfl, by kernel_rfl, by kernel_rfl, by kernel_rfl, by kernel_rfl, by kernel_rfl, by kernel_rfl, by kernel_rfl, by kernel_rfl, by kernel_rfl, by kernel_rfl, by kernel_rfl, by kernel_rfl, trivial⟩⟩)
      · rw [hq7] at h
        simp only [] at h
        refine we_keep (e' := [(0, .slice A0 l0.length c0), (1, .slice A1 l1.length c1), (2, .slice A2 l2.length c2), (8, .pointer (some ⟨b1, 0, none⟩)), (9, .pointer (some ⟨b2, 0, none⟩)), (13, .pointer (some ⟨b7, 0, none⟩)), (14, (.slice Z1 m8.length cz1)), (16, .int .i64 z3), (17, .int .i64 z6), (18, .int .i64 (i3 : Int)), (19, .pointer (some ⟨b8, 0, none⟩)), (20, .pointer (some ⟨b9, 0, none⟩)), (122, .int .i64 x3), (123, .int .i64 z3), (126, .slice A1 l1.length c1), (127, .int .i64 (l1.length : Int)), (128, .int .i64 (i3 : Int)), (129, .bool true), (130, .int .i64 (i3 : Int)), (131, .pointer (some ⟨blkOf A1, offOf A1 + i3 * 2, none⟩)), (132, .agg #[.int .i64 e5.Task, .int .i64 e5.At]), (133, .slice A0 l0.length c0), (134, .pointer (some ⟨b8, 0, none⟩)), (135, .int .i64 e5.Task), (136, .pointer (some ⟨blkOf A0, offOf A0 + (e5.Task).toNat * 6, none⟩)), (137, .agg #[.int .i64 e6.C, .int .i64 e6.H, .int .i64 e6.T, .int .i64 e6.D, .bool e6.High, .int .i64 e6.P])]) ⟨by kernel_rfl, by kernel_rfl, by kernel_rfl, by kernel_rfl, by kernel_rfl, by kernel_rfl, by kernel_rfl, by kernel_rfl, by kernel_rfl, by kernel_rfl, by kernel_rfl, by kernel_rfl, by kernel_rfl, by kernel_rfl, by kernel_rfl, by kernel_rfl, by kernel_rfl, by kernel_rfl, by kernel_rfl, by kernel_rfl, by kernel_rfl, by kernel_rfl, by kernel_rfl, by kernel_rfl, by kernel_rfl, by kernel_rfl, trivial⟩ (modes_Play_p7 K w0 l0 A0 c0 l1 A1 c1 l2 A2 c2 x3 hR0 hL0 hR1 hL1 hR2 hL2 b1 b2 r1 b3 hc1 b7 m3 m4 z2 hc17 Z1 cz1 Z2 cz2 Z3 cz3 m7 z3 m8 m9 m10 z4 hc19 z6 i3 hc20 e5 hx10 b8 hc21 e6 hx12 b9 _ hq7 _ hS185 _ ?_)
        rintro _ a w1 ⟨_, rfl, hb⟩
        obtain rfl := Option.some.inj h
        exact hQ _ _ _ (Outs.out nofun (Exits.on ⟨rfl, hb⟩))
    · rw [if_neg hc21] at h
      cases h
  · rw [if_neg hc20] at h
    refine we_known (t := 129) (b := decide ((i3 : Int) < (l1.length : Int))) (v := false) (by kernel_rfl) (decide_eq_false hc20) ?_
    refine we_false (by kernel_rfl) ?_
    have hS267 := hS.bring 5 rfl
    have hS268 := hS267.bring 5 rfl
    have hS269 := hS268.bring 5 rfl
    have hS270 := hS269.bring 5 rfl
    have hS271 := hS270.bring 5 rfl
    have hS272 := hS271.bring 5 rfl
    obtain rfl := Option.some.inj h
    exact we_exit fun a hF => hQ _ _ _ (Outs.out nofun (Exits.here ⟨hS272, hF.weaken ⟨by kernel_rfl, by kernel_rfl, by kernel_rfl, by kernel_rfl, by kernel_rfl, by kernel_rfl, by kernel_rfl, by kernel_rfl, by kernel_rfl, by kernel_rfl, by kernel_rfl, trivial⟩⟩))
abbrev modes_Play.A5 (K : Nat) (w0 : World) (l0 : List SCrit) (A0 : Option Addr) (c0 : Nat) (l1 : List SCome) (A1 : Option Addr) (c1 : Nat) (l2 : List Int) (A2 : Option Addr) (c2 : Nat) (x3 : Int) (hR0 : RdL w0 A0 l0) (hL0 : l0.length ≤ c0) (hR1 : RdL w0 A1 l1) (hL1 : l1.length ≤ c1) (hR2 : RdL w0 A2 l2) (hL2 : l2.length ≤ c2) (b1 : Nat) (b2 : Nat) (r1 : SFault) (b3 : Nat) (hc1 : r1.Code = 0) (b7 : Nat) (m3 : List Int) (m4 : List Int) (z2 : Int) (hc17 : l1.length ≤ 17592186044416) (Z1 : Option Addr) (cz1 : Nat) (Z2 : Option Addr) (cz2 : Nat) (Z3 : Option Addr) (cz3 : Nat) (m7 : List Int) : (Int × (List Int) × (List Int) × (List Int) × Int) → Act → World → Prop := fun (s : Int × (List Int) × (List Int) × (List Int) × Int) a w => St w0 w [Own.blk b7 (.cells #[(.slice Z2 s.2.2.1.length cz2), (.slice Z3 s.2.2.2.1.length cz3), .int .i64 s.2.2.2.2] 51 (0, 0)), Own.blk b2 (.cells #[.int .i64 0, .int .i64 0] 31 (0, 0)), Own.blk b1 (.cells #[.slice none 0 0, .slice none 0 0, .int .i64 0] 51 (0, 0)), Own.of (.slice Z1 s.2.1.length cz1) 3 s.2.1, Own.of (.slice Z2 s.2.2.1.length cz2) 3 s.2.2.1, Own.of (.slice Z3 s.2.2.2.1.length cz3) 3 s.2.2.2.1] ∧ Frm 265 a [(0, .slice A0 l0.length c0), (1, .slice A1 l1.length c1), (2, .slice A2 l2.length c2), (8, .pointer (some ⟨b1, 0, none⟩)), (9, .pointer (some ⟨b2, 0, none⟩)), (13, .pointer (some ⟨b7, 0, none⟩)), (14, (.slice Z1 s.2.1.length cz1)), (122, .int .i64 x3), (123, .int .i64 s.1)]
abbrev modes_Play.B5 (K : Nat) (w0 : World) (l0 : List SCrit) (A0 : Option Addr) (c0 : Nat) (l1 : List SCome) (A1 : Option Addr) (c1 : Nat) (l2 : List Int) (A2 : Option Addr) (c2 : Nat) (x3 : Int) (hR0 : RdL w0 A0 l0) (hL0 : l0.length ≤ c0) (hR1 : RdL w0 A1 l1) (hL1 : l1.length ≤ c1) (hR2 : RdL w0 A2 l2) (hL2 : l2.length ≤ c2) (b1 : Nat) (b2 : Nat) (r1 : SFault) (b3 : Nat) (hc1 : r1.Code = 0) (b7 : Nat) (m3 : List Int) (m4 : List Int) (z2 : Int) (hc17 : l1.length ≤ 17592186044416) (Z1 : Option Addr) (cz1 : Nat) (Z2 : Option Addr) (cz2 : Nat) (Z3 : Option Addr) (cz3 : Nat) (m7 : List Int) : (((List Int) × (List Int) × Int) ⊕ (SModal × SFault)) → Exit → Act → World → Prop := Exits 4 (fun (s : (List Int) × (List Int) × Int) a w => St w0 w [Own.blk b7 (.cells #[(.slice Z2 s.1.length cz2), (.slice Z3 s.2.1.length cz3), .int .i64 s.2.2] 51 (0, 0)), Own.blk b2 (.cells #[.int .i64 0, .int .i64 0] 31 (0, 0)), Own.blk b1 (.cells #[.slice none 0 0, .slice none 0 0, .int .i64 0] 51 (0, 0)), Own.of (.slice Z2 s.1.length cz2) 3 s.1, Own.of (.slice Z3 s.2.1.length cz3) 3 s.2.1] ∧ Frm 265 a [(8, .pointer (some ⟨b1, 0, none⟩)), (9, .pointer (some ⟨b2, 0, none⟩)), (13, .pointer (some ⟨b7, 0, none⟩))]) (Rets Tryd.prog Tryd.f21 (modes_Play.Post w0))
theorem modes_Play_r5 (K : Nat) (w0 : World) (l0 : List SCrit) (A0 : Option Addr) (c0 : Nat) (l1 : List SCome) (A1 : Option Addr) (c1 : Nat) (l2 : List Int) (A2 : Option Addr) (c2 : Nat) (x3 : Int) (hR0 : RdL w0 A0 l0) (hL0 : l0.length ≤ c0) (hR1 : RdL w0 A1 l1) (hL1 : l1.length ≤ c1) (hR2 : RdL w0 A2 l2) (hL2 : l2.length ≤ c2) (b1 : Nat) (b2 : Nat) (r1 : SFault) (b3 : Nat) (hc1 : r1.Code = 0) (b7 : Nat) (m3 : List Int) (m4 : List Int) (z2 : Int) (hc17 : l1.length ≤ 17592186044416) (Z1 : Option Addr) (cz1 : Nat) (Z2 : Option Addr) (cz2 : Nat) (Z3 : Option Addr) (cz3 : Nat) (m7 : List Int) (s : Int × (List Int) × (List Int) × (List Int) × Int) (o : (Int × (List Int) × (List Int) × (List Int) × Int) ⊕ (((List Int) × (List Int) × Int) ⊕ (SModal × SFault))) (h : modes_Play.r5 K l0 l1 l2 x3 s = some o) (a : Act) (w : World) (hA : modes_Play.A5 K w0 l0 A0 c0 l1 A1 c1 l2 A2 c2 x3 hR0 hL0 hR1 hL1 hR2 hL2 b1 b2 r1 b3 hc1 b7 m3 m4 z2 hc17 Z1 cz1 Z2 cz2 Z3 cz3 m7 s a w) (Q : Exit → Act → World → Prop) (hQ : ∀ x a w, Outs (modes_Play.A5 K w0 l0 A0 c0 l1 A1 c1 l2 A2 c2 x3 hR0 hL0 hR1 hL1 hR2 hL2 b1 b2 r1 b3 hc1 b7 m3 m4 z2 hc17 Z1 cz1 Z2 cz2 Z3 cz3 m7) (modes_Play.B5 K w0 l0 A0 c0 l1 A1 c1 l2 A2 c2 x3 hR0 hL0 hR1 hL1 hR2 hL2 b1 b2 r1 b3 hc1 b7 m3 m4 z2 hc17 Z1 cz1 Z2 cz2 Z3 cz3 m7) o x a w → Q x a w) : (subF Tryd.f21 [1, 1, 1, 1, 1, 1, 1, 1, 0, 1, 0, 0]).wp Tryd.prog Q a w := by
  obtain ⟨z3, m8, m9, m10, z4⟩ := s
  obtain ⟨hS, hF⟩ := hA
  replace hS : St w0 w [Own.blk b7 (.cells #[(.slice Z2 m9.length cz2), (.slice Z3 m10.length cz3), .int .i64 z4] 51 (0, 0)), Own.blk b2 (.cells #[.int .i64 0, .int .i64 0] 31 (0, 0)), Own.blk b1 (.cells #[.slice none 0 0, .slice none 0 0, .int .i64 0] 51 (0, 0)), Own.of (.slice Z1 m8.length cz1) 3 m8, Own.of (.slice Z2 m9.length cz2) 3 m9, Own.of (.slice Z3 m10.length cz3) 3 m10] := hS
  simp only [modes_Play.r5] at h
  refine (?_ : WE Tryd.prog 265 (subF Tryd.f21 [1, 1, 1, 1, 1, 1, 1, 1, 0, 1, 0, 0]) Q [(0, .slice A0 l0.length c0), (1, .slice A1 l1.length c1), (2, .slice A2 l2.length c2), (8, .pointer (some ⟨b1, 0, none⟩)), (9, .pointer (some ⟨b2, 0, none⟩)), (13, .pointer (some ⟨b7, 0, none⟩)), (14, (.slice Z1 m8.length cz1)), (122, .int .i64 x3), (123, .int .i64 z3)] w) a hF
  clear hF a
  refine we_seq fun K38 hK38 => ?_
  refine we_region [(0, 0)] rfl ?_
  refine ge_batch [0] (ans := []) (vs := [(124, .bool (decide (z3 < x3)))]) (l := []) (by kernel_rfl) trivial ?_
  refine ge_nil fun a hF => hK38 _ _ ?_ a hF
  refine we_seq fun K39 hK39 => ?_
  by_cases hc19 : z3 < x3
  · rw [if_pos hc19] at h
    refine we_known (t := 124) (b := decide (z3 < x3)) (v := true) (by kernel_rfl) (decide_eq_true hc19) ?_
    refine we_true (by kernel_rfl) ?_
    refine we_skip fun a hF => hK39 _ _ ?_ a hF
    refine we_seq fun K40 hK40 => ?_
    refine we_block ?_
    refine we_seq fun K41 hK41 => ?_
    refine we_region [(0, 0), (1, 0)] rfl ?_
    refine ge_batch [0, 1] (ans := []) (vs := [(16, .int .i64 z3), (125, .int .i64 z3)]) (l := []) (by kernel_rfl) trivial ?_
    refine ge_nil fun a hF => hK41 _ _ ?_ a hF
    refine we_seq fun K42 hK42 => ?_
    refine we_region [(0, 0)] rfl ?_
    refine ge_batch [0] (ans := []) (vs := [(17, .int .i64 (-1))]) (l := []) (by kernel_rfl) trivial ?_
    refine ge_nil fun a hF => hK42 _ _ ?_ a hF
    refine we_seq fun K43 hK43 => ?_
    refine we_seq fun K44 hK44 => ?_
    refine we_region [(0, 0), (1, 0), (2, 0)] rfl ?_
    refine ge_batch [0, 1, 2] (ans := []) (vs := [(128, .int .i64 0), (127, .int .i64 (l1.length : Int)), (126, .slice A1 l1.length c1)]) (l := []) (by kernel_rfl) trivial ?_
    refine ge_nil fun a hF => hK44 _ _ ?_ a hF
    refine we_block ?_
    have hS174 := hS.bring 5 rfl
    have hS175 := hS174.bring 5 rfl
    have hS176 := hS175.bring 5 rfl
    have hS177 := hS176.bring 5 rfl
    have hS178 := hS177.bring 5 rfl
    have hS179 := hS178.bring 5 rfl
    rcases hq8 : iter (modes_Play.r6 l0 l1 z3 m10 z4) K ((-1), 0) with _ | (z8 | rr2)
    · rw [hq8] at h; cases h
    · rw [hq8] at h
      simp only [] at h
      refine we_iter (A := modes_Play.A6 K w0 l0 A0 c0 l1 A1 c1 l2 A2 c2 x3 hR0 hL0 hR1 hL1 hR2 hL2 b1 b2 r1 b3 hc1 b7 m3 m4 z2 hc17 Z1 cz1 Z2 cz2 Z3 cz3 m7 z3 m8 m9 m10 z4 hc19) (B := modes_Play.B6 K w0 l0 A0 c0 l1 A1 c1 l2 A2 c2 x3 hR0 hL0 hR1 hL1 hR2 hL2 b1 b2 r1 b3 hc1 b7 m3 m4 z2 hc17 Z1 cz1 Z2 cz2 Z3 cz3 m7 z3 m8 m9 m10 z4 hc19) hq8 (fun a hF => ⟨hS179, hF.weaken ⟨by kernel_rfl, by kernel_rfl, by kernel_rfl, by kernel_rfl, by kernel_rfl, by kernel_rfl, by kernel_rfl, by kernel_rfl, by kernel_rfl, by kernel_rfl, by kernel_rfl, by kernel_rfl, by kernel_rfl, by kernel_rfl, trivial⟩⟩) (fun s o hf a w hA Q hQ => modes_Play_r6 K w0 l0 A0 c0 l1 A1 c1 l2 A2 c2 x3 hR0 hL0 hR1 hL1 hR2 hL2 b1 b2 r1 b3 hc1 b7 m3 m4 z2 hc17 Z1 cz1 Z2 cz2 Z3 cz3 m7 z3 m8 m9 m10 z4 hc19 s o hf a w hA Q hQ) ?_
      rintro _ a w43 _ ⟨rfl, hS273, hF⟩
      replace hS273 : St w0 w43 [Own.blk b7 (.cells #[(.slice Z2 m9.length cz2), (.slice Z3 m10.length cz3), .int .i64 z4] 51 (0, 0)), Own.blk b2 (.cells #[.int .i64 0, .int .i64 0] 31 (0, 0)), Own.blk b1 (.cells #[.slice none 0 0, .slice none 0 0, .int .i64 0] 51 (0, 0)), Own.of (.slice Z1 m8.length cz1) 3 m8, Own.of (.slice Z2 m9.length cz2) 3 m9, Own.of (.slice Z3 m10.length cz3) 3 m10] := hS273
      refine hK43 [(0, .slice A0 l0.length c0), (1, .slice A1 l1.length c1), (2, .slice A2 l2.length c2), (8, .pointer (some ⟨b1, 0, none⟩)), (9, .pointer (some ⟨b2, 0, none⟩)), (13, .pointer (some ⟨b7, 0, none⟩)), (14, (.slice Z1 m8.length cz1)), (16, .int .i64 z3), (17, .int .i64 z8), (122, .int .i64 x3), (123, .int .i64 z3)] w43 ?_ a hF
      refine we_seq fun K53 hK53 => ?_
      refine we_region [(0, 0), (1, 0), (2, 0), (3, 0), (4, 0), (5, 0), (6, 2)] rfl ?_
      refine ge_batch [0, 1, 2, 3, 4] (ans := [.val ((.slice Z2 m9.length cz2))]) (vs := [(207, .int .i64 z8), (206, .int .i64 z3), (205, (.slice Z2 m9.length cz2)), (204, .pointer (some ⟨b7, 0, none⟩)), (203, .pointer (some ⟨b7, 0, none⟩))]) (l := [.loaded ⟨b7, 0, none⟩ ((.slice Z2 m9.length cz2))]) (by kernel_rfl) ⟨hS273.cell 0 rfl rfl, trivial⟩ ?_
      by_cases hc32 : 0 ≤ z3
      · rw [if_pos hc32] at h
        rcases hx17 : m9[(z3).toNat]? with _ | e10
        · rw [hx17] at h; cases h
        rw [hx17] at h
        simp only [] at h
        refine ge_index (d := 208) (ty := 0) (t := 28) (el := 3) (sz := 1) (m := m9.length) (c := cz2) (x := (.tmp 205)) (y := (.tmp 206)) (A := Z2) (k' := .i64) (j := z3) (jn := ((z3).toNat)) (b0 := blkOf Z2) (o0 := offOf Z2) (by kernel_rfl) (by kernel_rfl) (by kernel_rfl) (by kernel_rfl) (by kernel_rfl) ((hS273.rdAt 4 rfl).eqSome (pos_of_get hx17)) (Int.toNat_of_nonneg hc32).symm (lt_of_get hx17) ?_
        have hS274 := hS273.bring 4 rfl
        refine ge_seti (α := Int) (A := Z2) (nn := m9.length) (c := cz2) (t := 3) (l := m9) (x := e10) (x' := z8) (jn := ((z3).toNat)) (j := 0) (vs := [.int .i64 z8]) (l' := [.stored ⟨blkOf Z2, offOf Z2 + ((z3).toNat) * 1, none⟩ (.int .i64 z8)]) hS274 (by kernel_rfl) (by kernel_rfl) hx17 rfl rfl rfl fun w44 hS275 => ?_
        have hS276 : St w0 w44 [Own.of (.slice Z2 m9.length cz2) 3 (m9.set ((z3).toNat) z8), Own.blk b7 (.cells #[(.slice Z2 m9.length cz2), (.slice Z3 m10.length cz3), .int .i64 z4] 51 (0, 0)), Own.blk b2 (.cells #[.int .i64 0, .int .i64 0] 31 (0, 0)), Own.blk b1 (.cells #[.slice none 0 0, .slice none 0 0, .int .i64 0] 51 (0, 0)), Own.of (.slice Z1 m8.length cz1) 3 m8, Own.of (.slice Z3 m10.length cz3) 3 m10] := hS275
        have hE2 : m9.length = (m9.set ((z3).toNat) z8).length := hS276.lenAt 0 rfl
        have hS277 : St w0 w44 [Own.of (.slice Z2 (m9.set ((z3).toNat) z8).length cz2) 3 (m9.set ((z3).toNat) z8), Own.blk b7 (.cells #[(.slice Z2 (m9.set ((z3).toNat) z8).length cz2), (.slice Z3 m10.length cz3), .int .i64 z4] 51 (0, 0)), Own.blk b2 (.cells #[.int .i64 0, .int .i64 0] 31 (0, 0)), Own.blk b1 (.cells #[.slice none 0 0, .slice none 0 0, .int .i64 0] 51 (0, 0)), Own.of (.slice Z1 m8.length cz1) 3 m8, Own.of (.slice Z3 m10.length cz3) 3 m10] := by rw [← hE2]; exact hS276
        refine ge_same (t := 205) (v := (.slice Z2 m9.length cz2)) (v' := (.slice Z2 (m9.set ((z3).toNat) z8).length cz2)) (by kernel_rfl) (by rw [← hE2]) ?_
        refine ge_nil fun a hF => hK53 _ _ ?_ a hF
        refine we_seq fun K54 hK54 => ?_
        refine we_seq fun K55 hK55 => ?_
        refine we_region [(0, 0), (1, 0)] rfl ?_
        refine ge_batch [0, 1] (ans := []) (vs := [(210, .bool (decide (z8 < 0))), (209, .int .i64 z8)]) (l := []) (by kernel_rfl) trivial ?_
        refine ge_nil fun a hF => hK55 _ _ ?_ a hF
        by_cases hc33 : z8 < 0
        · rw [if_pos hc33] at h
          refine we_known (t := 210) (b := decide (z8 < 0)) (v := true) (by kernel_rfl) (decide_eq_true hc33) ?_
          refine we_true (by kernel_rfl) ?_
          refine we_exit fun a hF => hK40 _ _ ?_ a hF
          refine we_region [(0, 0), (1, 0)] rfl ?_
          refine ge_batch [0, 1] (ans := []) (vs := [(123, .int .i64 (IntKind.i64.wrap (z3 + 1))), (262, .int .i64 (IntKind.i64.wrap (z3 + 1)))]) (l := []) (by kernel_rfl) trivial ?_
          have hS278 := hS277.bring 5 rfl
          have hS279 := hS278.bring 1 rfl
          have hS280 := hS279.bring 5 rfl
          have hS281 := hS280.bring 5 rfl
          have hS282 := hS281.bring 5 rfl
          have hS283 := hS282.bring 5 rfl
          obtain rfl := Option.some.inj h
          exact ge_nil fun a hF => hQ _ _ _ (Outs.again ⟨hS283, hF.weaken ⟨by kernel_rfl, by kernel_rfl, by kernel_rfl, by kernel_rfl, by kernel_rfl, by kernel_rfl, by kernel_rfl, by kernel_rfl, by kernel_rfl, trivial⟩⟩)
        · rw [if_neg hc33] at h
          refine we_known (t := 210) (b := decide (z8 < 0)) (v := false) (by kernel_rfl) (decide_eq_false hc33) ?_
          refine we_false (by kernel_rfl) ?_
          refine we_skip fun a hF => hK54 _ _ ?_ a hF
          refine we_seq fun K56 hK56 => ?_
          refine we_region [(0, 0), (1, 0), (2, 0), (3, 0), (4, 0), (5, 0), (6, 2)] rfl ?_
          refine ge_batch [0, 1] (ans := []) (vs := [(212, .int .i64 z8), (211, (.slice Z1 m8.length cz1))]) (l := []) (by kernel_rfl) trivial ?_
          by_cases hc34 : 0 ≤ z8
          · rw [if_pos hc34] at h
            rcases hx18 : m8[(z8).toNat]? with _ | e11
            · rw [hx18] at h; cases h
            rw [hx18] at h
            simp only [] at h
            refine ge_index (d := 213) (ty := 0) (t := 28) (el := 3) (sz := 1) (m := m8.length) (c := cz1) (x := (.tmp 211)) (y := (.tmp 212)) (A := Z1) (k' := .i64) (j := z8) (jn := ((z8).toNat)) (b0 := blkOf Z1) (o0 := offOf Z1) (by kernel_rfl) (by kernel_rfl) (by kernel_rfl) (by kernel_rfl) (by kernel_rfl) ((hS277.rdAt 4 rfl).eqSome (pos_of_get hx18)) (Int.toNat_of_nonneg hc34).symm (lt_of_get hx18) ?_
            refine ge_batch [3, 4] (ans := [.val (.int .i64 e11)]) (vs := [(215, .int .i64 (IntKind.i64.wrap (e11 + 1))), (214, .int .i64 e11)]) (l := [.loaded ⟨blkOf Z1, offOf Z1 + ((z8).toNat) * 1, none⟩ (.int .i64 e11)]) (by kernel_rfl) ⟨RdL.cell (j := 0) (hS277.rdAt 4 rfl) hx18 rfl, trivial⟩ ?_
            refine ge_index (d := 216) (ty := 0) (t := 28) (el := 3) (sz := 1) (m := m8.length) (c := cz1) (x := (.tmp 211)) (y := (.tmp 212)) (A := Z1) (k' := .i64) (j := z8) (jn := ((z8).toNat)) (b0 := blkOf Z1) (o0 := offOf Z1) (by kernel_rfl) (by kernel_rfl) (by kernel_rfl) (by kernel_rfl) (by kernel_rfl) ((hS277.rdAt 4 rfl).eqSome (pos_of_get hx18)) (Int.toNat_of_nonneg hc34).symm (lt_of_get hx18) ?_
            have hS284 := hS277.bring 4 rfl
            refine ge_seti (α := Int) (A := Z1) (nn := m8.length) (c := cz1) (t := 3) (l := m8) (x := e11) (x' := (IntKind.i64.wrap (e11 + 1))) (jn := ((z8).toNat)) (j := 0) (vs := [.int .i64 (IntKind.i64.wrap (e11 + 1))]) (l' := [.stored ⟨blkOf Z1, offOf Z1 + ((z8).toNat) * 1, none⟩ (.int .i64 (IntKind.i64.wrap (e11 + 1)))]) hS284 (by kernel_rfl) (by kernel_rfl) hx18 rfl rfl rfl fun w45 hS285 => ?_
            have hE3 : m8.length = (m8.set ((z8).toNat) (IntKind.i64.wrap (e11 + 1))).length := hS285.lenAt 0 rfl
            have hS286 := hS285.reN
            refine ge_same (t := 14) (v := (.slice Z1 m8.length cz1)) (v' := (.slice Z1 (m8.set ((z8).toNat) (IntKind.i64.wrap (e11 + 1))).length cz1)) (by kernel_rfl) (by rw [← hE3]) ?_
            refine ge_same (t := 211) (v := (.slice Z1 m8.length cz1)) (v' := (.slice Z1 (m8.set ((z8).toNat) (IntKind.i64.wrap (e11 + 1))).length cz1)) (by kernel_rfl) (by rw [← hE3]) ?_
            refine ge_nil fun a hF => hK56 _ _ ?_ a hF
            refine we_seq fun K57 hK57 => ?_
            refine we_region [(0, 0), (1, 0), (2, 0), (3, 0), (4, 0), (5, 0), (6, 0), (7, 0), (8, 1), (9, 2)] rfl ?_
            refine ge_batch [0, 1, 2] (ans := []) (vs := [(219, .int .i64 z8), (218, .slice A1 l1.length c1), (217, .slice A0 l0.length c0)]) (l := []) (by kernel_rfl) trivial ?_
            rcases hx19 : l1[(z8).toNat]? with _ | e12
            · rw [hx19] at h; cases h
            rw [hx19] at h
            simp only [] at h
            refine ge_index (d := 220) (ty := 0) (t := 40) (el := 46) (sz := 2) (m := l1.length) (c := c1) (x := (.tmp 218)) (y := (.tmp 219)) (A := A1) (k' := .i64) (j := z8) (jn := ((z8).toNat)) (b0 := blkOf A1) (o0 := offOf A1) (by kernel_rfl) (by kernel_rfl) (by kernel_rfl) (by kernel_rfl) (by kernel_rfl) ((hS286.rd hR1).eqSome (pos_of_get hx19)) (Int.toNat_of_nonneg hc34).symm (lt_of_get hx19) ?_
            refine ge_batch [4, 5] (ans := [.val (.int .i64 e12.Task)]) (vs := [(222, .int .i64 e12.Task), (221, .pointer (some ⟨blkOf A1, offOf A1 + (z8).toNat * 2, none⟩))]) (l := [.loaded ⟨blkOf A1, offOf A1 + ((z8).toNat) * 2, none⟩ (.int .i64 e12.Task)]) (by kernel_rfl) ⟨RdL.cell (j := 0) (hS286.rd hR1) hx19 rfl, trivial⟩ ?_
            by_cases hc35 : 0 ≤ e12.Task
            · rw [if_pos hc35] at h
              rcases hx20 : l0[(e12.Task).toNat]? with _ | e13
              · rw [hx20] at h; cases h
              rw [hx20] at h
              simp only [] at h
              refine ge_index (d := 223) (ty := 0) (t := 22) (el := 27) (sz := 6) (m := l0.length) (c := c0) (x := (.tmp 217)) (y := (.tmp 222)) (A := A0) (k' := .i64) (j := e12.Task) (jn := ((e12.Task).toNat)) (b0 := blkOf A0) (o0 := offOf A0) (by kernel_rfl) (by kernel_rfl) (by kernel_rfl) (by kernel_rfl) (by kernel_rfl) ((hS286.rd hR0).eqSome (pos_of_get hx20)) (Int.toNat_of_nonneg hc35).symm (lt_of_get hx20) ?_
              refine ge_batch [7] (ans := [.val (.int .i64 e13.C), .val (.int .i64 e13.H), .val (.int .i64 e13.T), .val (.int .i64 e13.D), .val (.bool e13.High), .val (.int .i64 e13.P)]) (vs := [(224, .agg #[.int .i64 e13.C, .int .i64 e13.H, .int .i64 e13.T, .int .i64 e13.D, .bool e13.High, .int .i64 e13.P])]) (l := [.loaded ⟨blkOf A0, offOf A0 + ((e12.Task).toNat) * 6, none⟩ (.int .i64 e13.C), .loaded ⟨blkOf A0, offOf A0 + ((e12.Task).toNat) * 6 + 1, none⟩ (.int .i64 e13.H), .loaded ⟨blkOf A0, offOf A0 + ((e12.Task).toNat) * 6 + 2, none⟩ (.int .i64 e13.T), .loaded ⟨blkOf A0, offOf A0 + ((e12.Task).toNat) * 6 + 3, none⟩ (.int .i64 e13.D), .loaded ⟨blkOf A0, offOf A0 + ((e12.Task).toNat) * 6 + 4, none⟩ (.bool e13.High), .loaded ⟨blkOf A0, offOf A0 + ((e12.Task).toNat) * 6 + 5, none⟩ (.int .i64 e13.P)]) (by kernel_rfl) ⟨RdL.cell (j := 0) (hS286.rd hR0) hx20 rfl, RdL.cell (j := 1) (hS286.rd hR0) hx20 rfl, RdL.cell (j := 2) (hS286.rd hR0) hx20 rfl, RdL.cell (j := 3) (hS286.rd hR0) hx20 rfl, RdL.cell (j := 4) (hS286.rd hR0) hx20 rfl, RdL.cell (j := 5) (hS286.rd hR0) hx20 rfl, trivial⟩ ?_
              refine ge_new (d := some 21) (o := .cells #[.int .i64 0, .int .i64 0, .int .i64 0, .int .i64 0, .bool false, .int .i64 0] 27) (v := fun b => .pointer (some ⟨b, 0, none⟩)) hS286 (fun b => by kernel_rfl) fun b10 w46 hx21 hS287 => ?_
              refine ge_set (b := b10) (j := 0) (cs := #[.int .i64 0, .int .i64 0, .int .i64 0, .int .i64 0, .bool false, .int .i64 0]) (t := 27) (vs := [.int .i64 e13.C, .int .i64 e13.H, .int .i64 e13.T, .int .i64 e13.D, .bool e13.High, .int .i64 e13.P]) hS287 (by kernel_rfl) rfl rfl fun w47 hS288 => ?_
              have hS289 := hS288.nc #[.int .i64 e13.C, .int .i64 e13.H, .int .i64 e13.T, .int .i64 e13.D, .bool e13.High, .int .i64 e13.P] (by kernel_rfl)
              refine ge_nil fun a hF => hK57 _ _ ?_ a hF
              refine we_block ?_
              refine we_seq fun K58 hK58 => ?_
              refine we_draws (by kernel_rfl) [(0, 0), (1, 0), (2, 0), (3, 0), (4, 0), (5, 0), (6, 0), (7, 0), (8, 0), (9, 0)] (by kernel_rfl) ?_
              have hS290 := hS289.drew
              refine ge_batch [0, 1] (ans := []) (vs := [(227, .int .i64 z8), (226, (.slice Z1 (m8.set ((z8).toNat) (IntKind.i64.wrap (e11 + 1))).length cz1))]) (l := []) (by kernel_rfl) trivial ?_
              rcases hx22 : (m8.set ((z8).toNat) (IntKind.i64.wrap (e11 + 1)))[(z8).toNat]? with _ | e14
              · rw [hx22] at h; cases h
              rw [hx22] at h
              simp only [] at h
              refine ge_index (d := 228) (ty := 0) (t := 28) (el := 3) (sz := 1) (m := (m8.set ((z8).toNat) (IntKind.i64.wrap (e11 + 1))).length) (c := cz1) (x := (.tmp 226)) (y := (.tmp 227)) (A := Z1) (k' := .i64) (j := z8) (jn := ((z8).toNat)) (b0 := blkOf Z1) (o0 := offOf Z1) (by kernel_rfl) (by kernel_rfl) (by kernel_rfl) (by kernel_rfl) (by kernel_rfl) ((hS290.rdAt 1 rfl).eqSome (pos_of_get hx22)) (Int.toNat_of_nonneg hc34).symm (lt_of_get hx22) ?_
              refine ge_batch [3, 4, 5] (ans := [.val (.int .i64 e14)]) (vs := [(231, .int .i64 z8), (230, .slice A2 l2.length c2), (229, .int .i64 e14)]) (l := [.loaded ⟨blkOf Z1, offOf Z1 + ((z8).toNat) * 1, none⟩ (.int .i64 e14)]) (by kernel_rfl) ⟨RdL.cell (j := 0) (hS290.rdAt 1 rfl) hx22 rfl, trivial⟩ ?_
              rcases hx23 : l2[(z8).toNat]? with _ | e15
              · rw [hx23] at h; cases h
              rw [hx23] at h
              simp only [] at h
              refine ge_index (d := 232) (ty := 0) (t := 28) (el := 3) (sz := 1) (m := l2.length) (c := c2) (x := (.tmp 230)) (y := (.tmp 231)) (A := A2) (k' := .i64) (j := z8) (jn := ((z8).toNat)) (b0 := blkOf A2) (o0 := offOf A2) (by kernel_rfl) (by kernel_rfl) (by kernel_rfl) (by kernel_rfl) (by kernel_rfl) ((hS290.rd hR2).eqSome (pos_of_get hx23)) (Int.toNat_of_nonneg hc34).symm (lt_of_get hx23) ?_
              refine ge_batch [7, 8, 9] (ans := [.val (.int .i64 e15)]) (vs := [(225, .bool (e14 == e15)), (234, .bool (e14 == e15)), (233, .int .i64 e15)]) (l := [.loaded ⟨blkOf A2, offOf A2 + ((z8).toNat) * 1, none⟩ (.int .i64 e15)]) (by kernel_rfl) ⟨RdL.cell (j := 0) (hS290.rd hR2) hx23 rfl, trivial⟩ ?_
              refine ge_nil fun a hF => hK58 _ _ ?_ a hF
              by_cases hc36 : e14 = e15
              · rw [if_pos hc36] at h
                refine we_known (t := 225) (b := (e14 == e15)) (v := true) (by kernel_rfl) (beq_iff_eq.2 hc36) ?_
                refine we_true (by kernel_rfl) ?_
                refine we_region [(0, 0), (1, 0), (2, 0), (3, 0), (4, 0), (5, 0), (6, 0), (7, 2)] rfl ?_
                refine ge_batch [0, 1, 2, 3, 4, 5] (ans := [.val ((.slice Z3 m10.length cz3))]) (vs := [(240, .int .i64 (IntKind.i64.wrap (z3 + 1))), (239, .int .i64 z3), (238, .int .i64 z8), (237, (.slice Z3 m10.length cz3)), (236, .pointer (some ⟨b7, 1, none⟩)), (235, .pointer (some ⟨b7, 0, none⟩))]) (l := [.loaded ⟨b7, 1, none⟩ ((.slice Z3 m10.length cz3))]) (by kernel_rfl) ⟨hS290.cell 3 rfl rfl, trivial⟩ ?_
                rcases hx24 : m10[(z8).toNat]? with _ | e16
                · rw [hx24] at h; cases h
                rw [hx24] at h
                simp only [] at h
                refine ge_index (d := 241) (ty := 0) (t := 28) (el := 3) (sz := 1) (m := m10.length) (c := cz3) (x := (.tmp 237)) (y := (.tmp 238)) (A := Z3) (k' := .i64) (j := z8) (jn := ((z8).toNat)) (b0 := blkOf Z3) (o0 := offOf Z3) (by kernel_rfl) (by kernel_rfl) (by kernel_rfl) (by kernel_rfl) (by kernel_rfl) ((hS290.rdAt 6 rfl).eqSome (pos_of_get hx24)) (Int.toNat_of_nonneg hc34).symm (lt_of_get hx24) ?_
                have hS291 := hS290.bring 6 rfl
                refine ge_seti (α := Int) (A := Z3) (nn := m10.length) (c := cz3) (t := 3) (l := m10) (x := e16) (x' := (IntKind.i64.wrap (z3 + 1))) (jn := ((z8).toNat)) (j := 0) (vs := [.int .i64 (IntKind.i64.wrap (z3 + 1))]) (l' := [.stored ⟨blkOf Z3, offOf Z3 + ((z8).toNat) * 1, none⟩ (.int .i64 (IntKind.i64.wrap (z3 + 1)))]) hS291 (by kernel_rfl) (by kernel_rfl) hx24 rfl rfl rfl fun w48 hS292 => ?_
                have hS293 : St w0 w48 [Own.of (.slice Z3 m10.length cz3) 3 (m10.set ((z8).toNat) (IntKind.i64.wrap (z3 + 1))), Own.blk b10 (.cells #[.int .i64 e13.C, .int .i64 e13.H, .int .i64 e13.T, .int .i64 e13.D, .bool e13.High, .int .i64 e13.P] 27 (0, 0)), Own.of (.slice Z1 (m8.set ((z8).toNat) (IntKind.i64.wrap (e11 + 1))).length cz1) 3 (m8.set ((z8).toNat) (IntKind.i64.wrap (e11 + 1))), Own.of (.slice Z2 (m9.set ((z3).toNat) z8).length cz2) 3 (m9.set ((z3).toNat) z8), Own.blk b7 (.cells #[(.slice Z2 (m9.set ((z3).toNat) z8).length cz2), (.slice Z3 m10.length cz3), .int .i64 z4] 51 (0, 0)), Own.blk b2 (.cells #[.int .i64 0, .int .i64 0] 31 (0, 0)), Own.blk b1 (.cells #[.slice none 0 0, .slice none 0 0, .int .i64 0] 51 (0, 0))] := hS292
                have hE4 : m10.length = (m10.set ((z8).toNat) (IntKind.i64.wrap (z3 + 1))).length := hS293.lenAt 0 rfl
                have hS294 : St w0 w48 [Own.of (.slice Z3 (m10.set ((z8).toNat) (IntKind.i64.wrap (z3 + 1))).length cz3) 3 (m10.set ((z8).toNat) (IntKind.i64.wrap (z3 + 1))), Own.blk b10 (.cells #[.int .i64 e13.C, .int .i64 e13.H, .int .i64 e13.T, .int .i64 e13.D, .bool e13.High, .int .i64 e13.P] 27 (0, 0)), Own.of (.slice Z1 (m8.set ((z8).toNat) (IntKind.i64.wrap (e11 + 1))).length cz1) 3 (m8.set ((z8).toNat) (IntKind.i64.wrap (e11 + 1))), Own.of (.slice Z2 (m9.set ((z3).toNat) z8).length cz2) 3 (m9.set ((z3).toNat) z8), Own.blk b7 (.cells #[(.slice Z2 (m9.set ((z3).toNat) z8).length cz2), (.slice Z3 (m10.set ((z8).toNat) (IntKind.i64.wrap (z3 + 1))).length cz3), .int .i64 z4] 51 (0, 0)), Own.blk b2 (.cells #[.int .i64 0, .int .i64 0] 31 (0, 0)), Own.blk b1 (.cells #[.slice none 0 0, .slice none 0 0, .int .i64 0] 51 (0, 0))] := by rw [← hE4]; exact hS293
                refine ge_same (t := 237) (v := (.slice Z3 m10.length cz3)) (v' := (.slice Z3 (m10.set ((z8).toNat) (IntKind.i64.wrap (z3 + 1))).length cz3)) (by kernel_rfl) (by rw [← hE4]) ?_
                refine ge_nil fun a hF => hK40 _ _ ?_ a hF
                refine we_region [(0, 0), (1, 0)] rfl ?_
                refine ge_batch [0, 1] (ans := []) (vs := [(123, .int .i64 (IntKind.i64.wrap (z3 + 1))), (262, .int .i64 (IntKind.i64.wrap (z3 + 1)))]) (l := []) (by kernel_rfl) trivial ?_
                have hS295 := hS294.bring 3 rfl
                have hS296 := hS295.bring 3 rfl
                have hS297 := hS296.bring 6 rfl
                have hS298 := hS297.bring 6 rfl
                have hS299 := hS298.bring 6 rfl
                have hS300 := hS299.takeN 6
                obtain rfl := Option.some.inj h
                exact ge_nil fun a hF => hQ _ _ _ (Outs.again ⟨hS300, hF.weaken ⟨by kernel_rfl, by kernel_rfl, by kernel_rfl, by kernel_rfl, by kernel_rfl, by kernel_rfl, by kernel_rfl, by kernel_rfl, by kernel_rfl, trivial⟩⟩)
              · rw [if_neg hc36] at h
                refine we_known (t := 225) (b := (e14 == e15)) (v := false) (by kernel_rfl) (beq_eq_false_iff_ne.2 hc36) ?_
                refine we_false (by kernel_rfl) ?_
                refine we_seq fun K59 hK59 => ?_
                refine we_draws (by kernel_rfl) [(0, 0), (1, 0), (2, 0), (3, 0), (4, 0), (5, 0), (6, 0), (7, 0), (8, 0), (9, 0), (10, 0), (11, 0), (12, 0), (13, 0), (14, 0), (15, 0), (16, 0)] (by kernel_rfl) ?_
                have hS301 := hS290.drew
                refine ge_batch [0, 1] (ans := []) (vs := [(244, .int .i64 z8), (243, (.slice Z1 (m8.set ((z8).toNat) (IntKind.i64.wrap (e11 + 1))).length cz1))]) (l := []) (by kernel_rfl) trivial ?_
                refine ge_index (d := 245) (ty := 0) (t := 28) (el := 3) (sz := 1) (m := (m8.set ((z8).toNat) (IntKind.i64.wrap (e11 + 1))).length) (c := cz1) (x := (.tmp 243)) (y := (.tmp 244)) (A := Z1) (k' := .i64) (j := z8) (jn := ((z8).toNat)) (b0 := blkOf Z1) (o0 := offOf Z1) (by kernel_rfl) (by kernel_rfl) (by kernel_rfl) (by kernel_rfl) (by kernel_rfl) ((hS301.rdAt 1 rfl).eqSome (pos_of_get hx22)) (Int.toNat_of_nonneg hc34).symm (lt_of_get hx22) ?_
                refine ge_batch [3, 4, 5, 6, 7] (ans := [.val (.int .i64 e14), .val (.int .i64 e13.C)]) (vs := [(250, .bool (e14 == e13.C)), (249, .bool (e14 == e13.C)), (248, .int .i64 e13.C), (247, .pointer (some ⟨b10, 0, none⟩)), (246, .int .i64 e14)]) (l := [.loaded ⟨blkOf Z1, offOf Z1 + ((z8).toNat) * 1, none⟩ (.int .i64 e14), .loaded ⟨b10, 0, none⟩ (.int .i64 e13.C)]) (by kernel_rfl) ⟨RdL.cell (j := 0) (hS301.rdAt 1 rfl) hx22 rfl, hS301.cell 0 rfl rfl, trivial⟩ ?_
                by_cases hc37 : e14 = e13.C
                · rw [if_pos hc37] at h
                  refine ge_known (t := 250) (b := (e14 == e13.C)) (c := true) (by kernel_rfl) (beq_iff_eq.2 hc37) ?_
                  refine ge_batch [8, 9, 10, 11] (ans := [.val (.bool e13.High)]) (vs := [(254, .bool e13.High), (253, .bool e13.High), (252, .bool e13.High), (251, .pointer (some ⟨b10, 4, none⟩))]) (l := [.loaded ⟨b10, 4, none⟩ (.bool e13.High)]) (by kernel_rfl) ⟨hS301.cell 0 rfl rfl, trivial⟩ ?_
                  by_cases hc38 : e13.High = true
                  · rw [if_pos hc38] at h
                    refine ge_known (t := 254) (b := e13.High) (c := true) (by kernel_rfl) hc38 ?_
                    refine ge_batch [12, 13, 14, 15, 16] (ans := [.val (.int .i64 z4)]) (vs := [(242, .bool (decide (z4 < 0))), (258, .bool (decide (z4 < 0))), (257, .bool (decide (z4 < 0))), (256, .int .i64 z4), (255, .pointer (some ⟨b7, 2, none⟩))]) (l := [.loaded ⟨b7, 2, none⟩ (.int .i64 z4)]) (by kernel_rfl) ⟨hS301.cell 3 rfl rfl, trivial⟩ ?_
                    refine ge_nil fun a hF => hK59 _ _ ?_ a hF
                    by_cases hc39 : z4 < 0
                    · rw [if_pos hc39] at h
                      refine we_known (t := 242) (b := decide (z4 < 0)) (v := true) (by kernel_rfl) (decide_eq_true hc39) ?_
                      refine we_true (by kernel_rfl) ?_
                      refine we_region [(0, 0), (1, 0), (2, 0), (3, 2)] rfl ?_
                      refine ge_batch [0, 1, 2] (ans := []) (vs := [(261, .pointer (some ⟨b7, 2, none⟩)), (260, .int .i64 (IntKind.i64.wrap (z3 + 1))), (259, .int .i64 z3)]) (l := []) (by kernel_rfl) trivial ?_
                      have hS302 := hS301.bring 3 rfl
                      refine ge_set (b := b7) (j := 2) (cs := #[(.slice Z2 (m9.set ((z3).toNat) z8).length cz2), (.slice Z3 m10.length cz3), .int .i64 z4]) (t := 51) (vs := [.int .i64 (IntKind.i64.wrap (z3 + 1))]) hS302 (by kernel_rfl) rfl rfl fun w49 hS303 => ?_
                      have hS304 := hS303.nc #[(.slice Z2 (m9.set ((z3).toNat) z8).length cz2), (.slice Z3 m10.length cz3), .int .i64 (IntKind.i64.wrap (z3 + 1))] (by kernel_rfl)
                      refine ge_nil fun a hF => hK40 _ _ ?_ a hF
                      refine we_region [(0, 0), (1, 0)] rfl ?_
                      refine ge_batch [0, 1] (ans := []) (vs := [(123, .int .i64 (IntKind.i64.wrap (z3 + 1))), (262, .int .i64 (IntKind.i64.wrap (z3 + 1)))]) (l := []) (by kernel_rfl) trivial ?_
                      have hS305 := hS304.bring 6 rfl
                      have hS306 := hS305.bring 4 rfl
                      have hS307 := hS306.bring 4 rfl
                      have hS308 := hS307.bring 6 rfl
                      have hS309 := hS308.bring 6 rfl
                      have hS310 := hS309.bring 5 rfl
                      have hS311 := hS310.takeN 6
                      obtain rfl := Option.some.inj h
                      exact ge_nil fun a hF => hQ _ _ _ (Outs.again ⟨hS311, hF.weaken ⟨by kernel_rfl, by kernel_rfl, by kernel_rfl, by kernel_rfl, by kernel_rfl, by kernel_rfl, by kernel_rfl, by kernel_rfl, by kernel_rfl, trivial⟩⟩)
                    · rw [if_neg hc39] at h
                      refine we_known (t := 242) (b := decide (z4 < 0)) (v := false) (by kernel_rfl) (decide_eq_false hc39) ?_
                      refine we_false (by kernel_rfl) ?_
                      refine we_skip fun a hF => hK40 _ _ ?_ a hF
                      refine we_region [(0, 0), (1, 0)] rfl ?_
                      refine ge_batch [0, 1] (ans := []) (vs := [(123, .int .i64 (IntKind.i64.wrap (z3 + 1))), (262, .int .i64 (IntKind.i64.wrap (z3 + 1)))]) (l := []) (by kernel_rfl) trivial ?_
                      have hS312 := hS301.bring 6 rfl
                      have hS313 := hS312.bring 3 rfl
                      have hS314 := hS313.bring 3 rfl
                      have hS315 := hS314.bring 6 rfl
                      have hS316 := hS315.bring 6 rfl
                      have hS317 := hS316.bring 6 rfl
                      have hS318 := hS317.takeN 6
                      obtain rfl := Option.some.inj h
                      exact ge_nil fun a hF => hQ _ _ _ (Outs.again ⟨hS318, hF.weaken ⟨by kernel_rfl, by kernel_rfl, by kernel_rfl, by kernel_rfl, by kernel_rfl, by kernel_rfl, by kernel_rfl, by kernel_rfl, by kernel_rfl, trivial⟩⟩)
                  · rw [if_neg hc38] at h
                    refine ge_known (t := 254) (b := e13.High) (c := false) (by kernel_rfl) (Bool.eq_false_iff.2 hc38) ?_
                    refine ge_batch [12, 13, 14, 15, 16] (ans := []) (vs := [(242, .bool false), (258, .bool false), (257, undef), (256, undef), (255, undef)]) (l := []) (by kernel_rfl) trivial ?_
                    refine ge_nil fun a hF => hK59 _ _ ?_ a hF
                    refine we_false (by kernel_rfl) ?_
                    refine we_skip fun a hF => hK40 _ _ ?_ a hF
                    refine we_region [(0, 0), (1, 0)] rfl ?_
                    refine ge_batch [0, 1] (ans := []) (vs := [(123, .int .i64 (IntKind.i64.wrap (z3 + 1))), (262, .int .i64 (IntKind.i64.wrap (z3 + 1)))]) (l := []) (by kernel_rfl) trivial ?_
                    have hS319 := hS301.bring 6 rfl
                    have hS320 := hS319.bring 3 rfl
                    have hS321 := hS320.bring 3 rfl
                    have hS322 := hS321.bring 6 rfl
                    have hS323 := hS322.bring 6 rfl
                    have hS324 := hS323.bring 6 rfl
                    have hS325 := hS324.takeN 6
                    obtain rfl := Option.some.inj h
                    exact ge_nil fun a hF => hQ _ _ _ (Outs.again ⟨hS325, hF.weaken ⟨by kernel_rfl, by kernel_rfl, by kernel_rfl, by kernel_rfl, by kernel_rfl, by kernel_rfl, by kernel_rfl, by kernel_rfl, by kernel_rfl, trivial⟩⟩)
                · rw [if_neg hc37] at h
                  refine ge_known (t := 250) (b := (e14 == e13.C)) (c := false) (by kernel_rfl) (beq_eq_false_iff_ne.2 hc37) ?_
                  refine ge_batch [8, 9, 10, 11, 12, 13, 14, 15, 16] (ans := []) (vs := [(242, .bool false), (258, .bool false), (257, undef), (256, undef), (255, undef), (254, .bool false), (253, .bool false), (252, undef), (251, undef)]) (l := []) (by kernel_rfl) trivial ?_
                  refine ge_nil fun a hF => hK59 _ _ ?_ a hF
                  refine we_false (by kernel_rfl) ?_
                  refine we_skip fun a hF => hK40 _ _ ?_ a hF
                  refine we_region [(0, 0), (1, 0)] rfl ?_
                  refine ge_batch [0, 1] (ans := []) (vs := [(123, .int .i64 (IntKind.i64.wrap (z3 + 1))), (262, .int .i64 (IntKind.i64.wrap (z3 + 1)))]) (l := []) (by kernel_rfl) trivial ?_
                  have hS326 := hS301.bring 6 rfl
                  have hS327 := hS326.bring 3 rfl
                  have hS328 := hS327.bring 3 rfl
                  have hS329 := hS328.bring 6 rfl
                  have hS330 := hS329.bring 6 rfl
                  have hS331 := hS330.bring 6 rfl
                  have hS332 := hS331.takeN 6
                  obtain rfl := Option.some.inj h
                  exact ge_nil fun a hF => hQ _ _ _ (Outs.again ⟨hS332, hF.weaken ⟨by kernel_rfl, by kernel_rfl, by kernel_rfl, by kernel_rfl, by kernel_rfl, by kernel_rfl, by kernel_rfl, by kernel_rfl, by kernel_rfl, trivial⟩⟩)
            · rw [if_neg hc35] at h
              cases h
          · rw [if_neg hc34] at h
            cases h
      · rw [if_neg hc32] at h
        cases h
    · rw [hq8] at h
      simp only [] at h
      refine we_iter (A := modes_Play.A6 K w0 l0 A0 c0 l1 A1 c1 l2 A2 c2 x3 hR0 hL0 hR1 hL1 hR2 hL2 b1 b2 r1 b3 hc1 b7 m3 m4 z2 hc17 Z1 cz1 Z2 cz2 Z3 cz3 m7 z3 m8 m9 m10 z4 hc19) (B := modes_Play.B6 K w0 l0 A0 c0 l1 A1 c1 l2 A2 c2 x3 hR0 hL0 hR1 hL1 hR2 hL2 b1 b2 r1 b3 hc1 b7 m3 m4 z2 hc17 Z1 cz1 Z2 cz2 Z3 cz3 m7 z3 m8 m9 m10 z4 hc19) hq8 (fun a hF => ⟨hS179, hF.weaken ⟨by kernel_rfl, by kernel_rfl, by kernel_rfl, by kernel_rfl, by kernel_rfl, by kernel_rfl, by kernel_rfl, by kernel_rfl, by kernel_rfl, by kernel_rfl, by kernel_rfl, by kernel_rfl, by kernel_rfl, by kernel_rfl, trivial⟩⟩) (fun s o hf a w hA Q hQ => modes_Play_r6 K w0 l0 A0 c0 l1 A1 c1 l2 A2 c2 x3 hR0 hL0 hR1 hL1 hR2 hL2 b1 b2 r1 b3 hc1 b7 m3 m4 z2 hc17 Z1 cz1 Z2 cz2 Z3 cz3 m7 z3 m8 m9 m10 z4 hc19 s o hf a w hA Q hQ) ?_
      rintro _ a w1 _ ⟨rfl, hb⟩
      obtain rfl := Option.some.inj h
      exact hQ _ _ _ (Outs.out nofun (Exits.on ⟨rfl, hb⟩))
  · rw [if_neg hc19] at h
    refine we_known (t := 124) (b := decide (z3 < x3)) (v := false) (by kernel_rfl) (decide_eq_false hc19) ?_
    refine we_false (by kernel_rfl) ?_
    have hS333 := hS.bring 5 rfl
    have hS334 := hS333.bring 5 rfl
    have hS335 := hS334.bring 4 rfl
    have hS336 := hS335.bring 4 rfl
    have hS337 := hS336.bring 4 rfl
    have hS338 := hS337.takeN 5
    obtain rfl := Option.some.inj h
    exact we_exit fun a hF => hQ _ _ _ (Outs.out nofun (Exits.here ⟨hS338, hF.weaken ⟨by kernel_rfl, by kernel_rfl, by kernel_rfl, trivial⟩⟩))
abbrev modes_Play.A8 (K : Nat) (w0 : World) (l0 : List SCrit) (A0 : Option Addr) (c0 : Nat) (l1 : List SCome) (A1 : Option Addr) (c1 : Nat) (l2 : List Int) (A2 : Option Addr) (c2 : Nat) (x3 : Int) (hR0 : RdL w0 A0 l0) (hL0 : l0.length ≤ c0) (hR1 : RdL w0 A1 l1) (hL1 : l1.length ≤ c1) (hR2 : RdL w0 A2 l2) (hL2 : l2.length ≤ c2) (b1 : Nat) (b2 : Nat) (r1 : SFault) (b3 : Nat) (hc1 : ¬ (r1.Code = 0)) : (Int × Int × (List Int) × (List Int) × Int) → Act → World → Prop := fun (s : Int × Int × (List Int) × (List Int) × Int) a w => ∃ (v7 : Value) (v8 : Value), St w0 w [Own.blk b2 (.cells #[.int .i64 s.1, .int .i64 s.2.1] 31 (0, 0)), Own.blk b1 (.cells #[v7, v8, .int .i64 s.2.2.2.2] 51 (0, 0)), Own.of v7 3 s.2.2.1, Own.of v8 3 s.2.2.2.1] ∧ Frm 265 a [(8, .pointer (some ⟨b1, 0, none⟩)), (9, .pointer (some ⟨b2, 0, none⟩))]
abbrev modes_Play.B8 (K : Nat) (w0 : World) (l0 : List SCrit) (A0 : Option Addr) (c0 : Nat) (l1 : List SCome) (A1 : Option Addr) (c1 : Nat) (l2 : List Int) (A2 : Option Addr) (c2 : Nat) (x3 : Int) (hR0 : RdL w0 A0 l0) (hL0 : l0.length ≤ c0) (hR1 : RdL w0 A1 l1) (hL1 : l1.length ≤ c1) (hR2 : RdL w0 A2 l2) (hL2 : l2.length ≤ c2) (b1 : Nat) (b2 : Nat) (r1 : SFault) (b3 : Nat) (hc1 : ¬ (r1.Code = 0)) : (SModal × SFault) → Exit → Act → World → Prop := Rets Tryd.prog Tryd.f21 (modes_Play.Post w0)
theorem modes_Play_p8 (K : Nat) (w0 : World) (l0 : List SCrit) (A0 : Option Addr) (c0 : Nat) (l1 : List SCome) (A1 : Option Addr) (c1 : Nat) (l2 : List Int) (A2 : Option Addr) (c2 : Nat) (x3 : Int) (hR0 : RdL w0 A0 l0) (hL0 : l0.length ≤ c0) (hR1 : RdL w0 A1 l1) (hL1 : l1.length ≤ c1) (hR2 : RdL w0 A2 l2) (hL2 : l2.length ≤ c2) (b1 : Nat) (b2 : Nat) (r1 : SFault) (b3 : Nat) (hc1 : ¬ (r1.Code = 0)) (o : (Int × Int × (List Int) × (List Int) × Int) ⊕ (SModal × SFault)) (h : modes_Play.p8 r1 = some o) (w : World) (hS : St w0 w [Own.blk b3 (.cells #[.int .i64 r1.Code, .int .i64 r1.At] 31 (0, 0)), Own.blk b2 (.cells #[.int .i64 0, .int .i64 0] 31 (0, 0)), Own.blk b1 (.cells #[.slice none 0 0, .slice none 0 0, .int .i64 0] 51 (0, 0))]) (Q : Exit → Act → World → Prop) (hQ : ∀ x a w, Outs (modes_Play.A8 K w0 l0 A0 c0 l1 A1 c1 l2 A2 c2 x3 hR0 hL0 hR1 hL1 hR2 hL2 b1 b2 r1 b3 hc1) (modes_Play.B8 K w0 l0 A0 c0 l1 A1 c1 l2 A2 c2 x3 hR0 hL0 hR1 hL1 hR2 hL2 b1 b2 r1 b3 hc1) o x a w → Q x a w) : WE Tryd.prog 265 (subF Tryd.f21 [1, 0, 1, 1, 0, 0]) Q [(0, .slice A0 l0.length c0), (1, .slice A1 l1.length c1), (2, .slice A2 l2.length c2), (3, .int .i64 x3), (8, .pointer (some ⟨b1, 0, none⟩)), (9, .pointer (some ⟨b2, 0, none⟩)), (10, .pointer (some ⟨b3, 0, none⟩)), (22, .slice A0 l0.length c0), (23, .agg #[.int .i64 r1.Code, .int .i64 r1.At]), (24, .pointer (some ⟨b3, 0, none⟩)), (25, .int .i64 r1.Code), (26, .bool true)] w := by
  simp only [modes_Play.p8] at h
  refine we_orders3 (by kernel_rfl) [(1, [⟨b3, 0, none⟩, ⟨b3, 1, none⟩], [], [])] (.vals [0] (.vals [1] (.alt 2 2 (.alt 3 2 .fin .nomore) .nomore))) (by kernel_rfl) (by kernel_rfl) ?_
  have hS349 := hS.drew
  refine go3_batch [0] (ans := []) (vs := [(27, .agg #[.slice none 0 0, .slice none 0 0, .int .i64 0])]) (l := []) (by kernel_rfl) trivial mem_nil3 ?_
  refine go3_batch [1] (ans := [.val (.int .i64 r1.Code), .val (.int .i64 r1.At)]) (vs := [(28, .agg #[.int .i64 r1.Code, .int .i64 r1.At])]) (l := [.loaded ⟨b3, 0, none⟩ (.int .i64 r1.Code), .loaded ⟨b3, 1, none⟩ (.int .i64 r1.At)]) (by kernel_rfl) ⟨hS349.cell 0 rfl rfl, hS349.cell 0 rfl rfl, trivial⟩ (mem_one3 (by kernel_rfl)) ?_
  refine go_alt3 (fun KK hKK => ?_) ?_
  · have hS350 := hS349.bring 2 rfl
    refine ge_set (b := b1) (j := 0) (cs := #[.slice none 0 0, .slice none 0 0, .int .i64 0]) (t := 51) (vs := [.slice none 0 0, .slice none 0 0, .int .i64 0]) hS350 (by kernel_rfl) rfl rfl fun w53 hS351 => ?_
    have hS352 := hS351.nc #[.slice none 0 0, .slice none 0 0, .int .i64 0] (by kernel_rfl)
    refine ge_nil fun a hF => hKK _ _ (RS.of2 (l := [.loaded ⟨b3, 0, none⟩ (.int .i64 r1.Code), .loaded ⟨b3, 1, none⟩ (.int .i64 r1.At)]) (by kernel_rfl) ⟨hS349.cell 0 rfl rfl, hS349.cell 0 rfl rfl, trivial⟩ ⟨hS352.cell 1 rfl rfl, hS352.cell 1 rfl rfl, trivial⟩) ?_ a hF
    refine go_alt3 (fun KK hKK => ?_) ?_
    · have hS353 := hS352.bring 2 rfl
      refine ge_set (b := b2) (j := 0) (cs := #[.int .i64 0, .int .i64 0]) (t := 31) (vs := [.int .i64 r1.Code, .int .i64 r1.At]) hS353 (by kernel_rfl) rfl rfl fun w54 hS354 => ?_
      have hS355 := hS354.nc #[.int .i64 r1.Code, .int .i64 r1.At] (by kernel_rfl)
      refine ge_nil fun a hF => hKK _ _ (RS.of2 (l := []) (by kernel_rfl) trivial trivial) ?_ a hF
      have hS356 := hS355.nil (α := Int) 3
      have hS357 := hS356.nil (α := Int) 3
      have hS358 := hS357.bring 1 rfl
      have hS359 := hS358.bring 1 rfl
      have hS360 := hS359.bring 3 rfl
      have hS361 := hS360.bring 3 rfl
      have hS362 := hS361.takeN 4
      obtain rfl := Option.some.inj h
      exact go_fin3 fun a hF => hQ _ _ _ (Outs.again ⟨(.slice none 0 0), (.slice none 0 0), hS362, hF.weaken ⟨by kernel_rfl, by kernel_rfl, trivial⟩⟩)
    exact go_nomore3
  exact go_nomore3
theorem modes_Play_ok (K : Nat) (l0 : List SCrit) (A0 : Option Addr) (c0 : Nat) (l1 : List SCome) (A1 : Option Addr) (c1 : Nat) (l2 : List Int) (A2 : Option Addr) (c2 : Nat) (x3 : Int) (w0 : World) (hR0 : RdL w0 A0 l0) (hL0 : l0.length ≤ c0) (hR1 : RdL w0 A1 l1) (hL1 : l1.length ≤ c1) (hR2 : RdL w0 A2 l2) (hL2 : l2.length ≤ c2) (r : SModal × SFault) (h : modes_Play.f K l0 l1 l2 x3 = some r) :
    Calls Tryd.prog 21 #[.slice A0 l0.length c0, .slice A1 l1.length c1, .slice A2 l2.length c2, .int .i64 x3] w0 (modes_Play.Post w0 r) := by
  have hS := St.start w0
  unfold modes_Play.f at h
  refine calls_enter (n := 265) (args := [.slice A0 l0.length c0, .slice A1 l1.length c1, .slice A2 l2.length c2, .int .i64 x3]) (fn := Tryd.f21) rfl rfl rfl rfl ?_
  show WE _ _ _ _ [(0, .slice A0 l0.length c0), (1, .slice A1 l1.length c1), (2, .slice A2 l2.length c2), (3, .int .i64 x3)] _
  refine we_seq fun K1 hK1 => ?_
  refine we_region [(0, 1), (1, 1)] rfl ?_
  refine ge_new (d := some 8) (o := .cells #[.slice none 0 0, .slice none 0 0, .int .i64 0] 51) (v := fun b => .pointer (some ⟨b, 0, none⟩)) hS (fun b => by kernel_rfl) fun b1 w1 hx1 hS1 => ?_
  refine ge_new (d := some 9) (o := .cells #[.int .i64 0, .int .i64 0] 31) (v := fun b => .pointer (some ⟨b, 0, none⟩)) hS1 (fun b => by kernel_rfl) fun b2 w2 hx2 hS2 => ?_
  refine ge_nil fun a hF => hK1 _ _ ?_ a hF
  refine we_seq fun K2 hK2 => ?_
  refine we_seq fun K3 hK3 => ?_
  refine we_region [(0, 0), (1, 1), (2, 1), (3, 2)] rfl ?_
  rcases hq1 : modes_Check.f K l0 with _ | r1
  · rw [hq1] at h; cases h
  rw [hq1] at h
  simp only [] at h
  refine ge_batch [0] (ans := []) (vs := [(22, .slice A0 l0.length c0)]) (l := []) (by kernel_rfl) trivial ?_
  refine ge_call (d := some 23) (f := 12) (args := #[.slice A0 l0.length c0]) (by kernel_rfl) (modes_Check_ok K l0 A0 c0 _ (hS2.rd hR0) hL0 _ hq1) ?_
  rintro _ w3 ⟨rfl, hS3⟩
  refine ⟨_, rfl, hS3.below, ?_⟩
  have hS4 := hS2.call hS3
  refine ge_new (d := some 10) (o := .cells #[.int .i64 0, .int .i64 0] 31) (v := fun b => .pointer (some ⟨b, 0, none⟩)) hS4 (fun b => by kernel_rfl) fun b3 w4 hx3 hS5 => ?_
  refine ge_set (b := b3) (j := 0) (cs := #[.int .i64 0, .int .i64 0]) (t := 31) (vs := [.int .i64 r1.Code, .int .i64 r1.At]) hS5 (by kernel_rfl) rfl rfl fun w5 hS6 => ?_
  have hS7 := hS6.nc #[.int .i64 r1.Code, .int .i64 r1.At] (by kernel_rfl)
  refine ge_nil fun a hF => hK3 _ _ ?_ a hF
  refine we_seq fun K4 hK4 => ?_
  refine we_region [(0, 0), (1, 0), (2, 0)] rfl ?_
  refine ge_batch [0, 1, 2] (ans := [.val (.int .i64 r1.Code)]) (vs := [(26, .bool (r1.Code != 0)), (25, .int .i64 r1.Code), (24, .pointer (some ⟨b3, 0, none⟩))]) (l := [.loaded ⟨b3, 0, none⟩ (.int .i64 r1.Code)]) (by kernel_rfl) ⟨hS7.cell 0 rfl rfl, trivial⟩ ?_
  refine ge_nil fun a hF => hK4 _ _ ?_ a hF
  by_cases hc1 : r1.Code = 0
  · rw [if_pos hc1] at h
    refine we_known (t := 26) (b := (r1.Code != 0)) (v := false) (by kernel_rfl) (bne_eq_false_iff_eq.2 hc1) ?_
    refine we_false (by kernel_rfl) ?_
    refine we_skip fun a hF => hK2 _ _ ?_ a hF
    refine we_seq fun K5 hK5 => ?_
    rcases hq2 : modes_Play.p0 l1 l2 with _ | (_ | rr8)
    · rw [hq2] at h; cases h
    · rw [hq2] at h
      simp only [] at h
      refine we_keep (e' := [(0, .slice A0 l0.length c0), (1, .slice A1 l1.length c1), (2, .slice A2 l2.length c2), (3, .int .i64 x3), (8, .pointer (some ⟨b1, 0, none⟩)), (9, .pointer (some ⟨b2, 0, none⟩)), (10, .pointer (some ⟨b3, 0, none⟩)), (22, .slice A0 l0.length c0), (23, .agg #[.int .i64 r1.Code, .int .i64 r1.At]), (24, .pointer (some ⟨b3, 0, none⟩)), (25, .int .i64 r1.Code), (26, .bool false)]) ⟨by kernel_rfl, by kernel_rfl, by kernel_rfl, by kernel_rfl, by kernel_rfl, by kernel_rfl, by kernel_rfl, by kernel_rfl, by kernel_rfl, by kernel_rfl, by kernel_rfl, by kernel_rfl, trivial⟩ (modes_Play_p0 K w0 l0 A0 c0 l1 A1 c1 l2 A2 c2 x3 hR0 hL0 hR1 hL1 hR2 hL2 b1 b2 r1 b3 hc1 _ hq2 _ hS7 _ ?_)
      rintro _ a w10 ⟨rfl, hS33, hF⟩
      replace hS33 : St w0 w10 [Own.blk b2 (.cells #[.int .i64 0, .int .i64 0] 31 (0, 0)), Own.blk b1 (.cells #[.slice none 0 0, .slice none 0 0, .int .i64 0] 51 (0, 0))] := hS33
      refine hK5 [(0, .slice A0 l0.length c0), (1, .slice A1 l1.length c1), (2, .slice A2 l2.length c2), (3, .int .i64 x3), (8, .pointer (some ⟨b1, 0, none⟩)), (9, .pointer (some ⟨b2, 0, none⟩))] w10 ?_ a hF
      refine we_seq fun K9 hK9 => ?_
      rcases hq3 : modes_Play.p1 x3 with _ | (_ | rr7)
      · rw [hq3] at h; cases h
      · rw [hq3] at h
        simp only [] at h
        refine we_keep (e' := [(0, .slice A0 l0.length c0), (1, .slice A1 l1.length c1), (2, .slice A2 l2.length c2), (3, .int .i64 x3), (8, .pointer (some ⟨b1, 0, none⟩)), (9, .pointer (some ⟨b2, 0, none⟩))]) ⟨by kernel_rfl, by kernel_rfl, by kernel_rfl, by kernel_rfl, by kernel_rfl, by kernel_rfl, trivial⟩ (modes_Play_p1 K w0 l0 A0 c0 l1 A1 c1 l2 A2 c2 x3 hR0 hL0 hR1 hL1 hR2 hL2 b1 b2 r1 b3 hc1 _ hq3 _ hS33 _ ?_)
        rintro _ a w15 ⟨rfl, hS58, hF⟩
        replace hS58 : St w0 w15 [Own.blk b2 (.cells #[.int .i64 0, .int .i64 0] 31 (0, 0)), Own.blk b1 (.cells #[.slice none 0 0, .slice none 0 0, .int .i64 0] 51 (0, 0))] := hS58
        refine hK9 [(0, .slice A0 l0.length c0), (1, .slice A1 l1.length c1), (2, .slice A2 l2.length c2), (3, .int .i64 x3), (8, .pointer (some ⟨b1, 0, none⟩)), (9, .pointer (some ⟨b2, 0, none⟩))] w15 ?_ a hF
        refine we_seq fun K13 hK13 => ?_
        refine we_seq fun K14 hK14 => ?_
        refine we_region [(0, 0), (1, 0), (2, 0)] rfl ?_
        refine ge_batch [0, 1, 2] (ans := []) (vs := [(51, .int .i64 0), (50, .int .i64 (l1.length : Int)), (49, .slice A1 l1.length c1)]) (l := []) (by kernel_rfl) trivial ?_
        refine ge_nil fun a hF => hK14 _ _ ?_ a hF
        refine we_block ?_
        have hS59 := hS58.bring 1 rfl
        have hS60 := hS59.bring 1 rfl
        rcases hq4 : iter (modes_Play.r2 l0 l1 l2) K 0 with _ | (_ | rr6)
        · rw [hq4] at h; cases h
        · rw [hq4] at h
          simp only [] at h
          refine we_iter (A := modes_Play.A2 K w0 l0 A0 c0 l1 A1 c1 l2 A2 c2 x3 hR0 hL0 hR1 hL1 hR2 hL2 b1 b2 r1 b3 hc1) (B := modes_Play.B2 K w0 l0 A0 c0 l1 A1 c1 l2 A2 c2 x3 hR0 hL0 hR1 hL1 hR2 hL2 b1 b2 r1 b3 hc1) hq4 (fun a hF => ⟨hS60, hF.weaken ⟨by kernel_rfl, by kernel_rfl, by kernel_rfl, by kernel_rfl, by kernel_rfl, by kernel_rfl, by kernel_rfl, by kernel_rfl, by kernel_rfl, trivial⟩⟩) (fun s o hf a w hA Q hQ => modes_Play_r2 K w0 l0 A0 c0 l1 A1 c1 l2 A2 c2 x3 hR0 hL0 hR1 hL1 hR2 hL2 b1 b2 r1 b3 hc1 s o hf a w hA Q hQ) ?_
          rintro _ a w30 _ ⟨rfl, hS136, hF⟩
          replace hS136 : St w0 w30 [Own.blk b2 (.cells #[.int .i64 0, .int .i64 0] 31 (0, 0)), Own.blk b1 (.cells #[.slice none 0 0, .slice none 0 0, .int .i64 0] 51 (0, 0))] := hS136
          refine hK13 [(0, .slice A0 l0.length c0), (1, .slice A1 l1.length c1), (2, .slice A2 l2.length c2), (3, .int .i64 x3), (8, .pointer (some ⟨b1, 0, none⟩)), (9, .pointer (some ⟨b2, 0, none⟩))] w30 ?_ a hF
          refine we_seq fun K28 hK28 => ?_
          rcases hq5 : modes_Play.p3 l1 x3 with _ | (⟨m3, m4, z2⟩ | rr5)
          · rw [hq5] at h; cases h
          · rw [hq5] at h
            simp only [] at h
            refine we_keep (e' := [(0, .slice A0 l0.length c0), (1, .slice A1 l1.length c1), (2, .slice A2 l2.length c2), (3, .int .i64 x3), (8, .pointer (some ⟨b1, 0, none⟩)), (9, .pointer (some ⟨b2, 0, none⟩))]) ⟨by kernel_rfl, by kernel_rfl, by kernel_rfl, by kernel_rfl, by kernel_rfl, by kernel_rfl, trivial⟩ (modes_Play_p3 K w0 l0 A0 c0 l1 A1 c1 l2 A2 c2 x3 hR0 hL0 hR1 hL1 hR2 hL2 b1 b2 r1 b3 hc1 _ hq5 _ hS136 _ ?_)
            rintro _ a w33 ⟨rfl, b7, v4, v5, hS144, hF⟩
            replace hS144 : St w0 w33 [Own.blk b7 (.cells #[v4, v5, .int .i64 z2] 51 (0, 0)), Own.blk b2 (.cells #[.int .i64 0, .int .i64 0] 31 (0, 0)), Own.blk b1 (.cells #[.slice none 0 0, .slice none 0 0, .int .i64 0] 51 (0, 0)), Own.of v4 3 m3, Own.of v5 3 m4] := hS144
            refine hK28 [(0, .slice A0 l0.length c0), (1, .slice A1 l1.length c1), (2, .slice A2 l2.length c2), (3, .int .i64 x3), (8, .pointer (some ⟨b1, 0, none⟩)), (9, .pointer (some ⟨b2, 0, none⟩)), (13, .pointer (some ⟨b7, 0, none⟩))] w33 ?_ a hF
            refine we_seq fun K29 hK29 => ?_
            refine we_region [(0, 0), (1, 0), (2, 1), (3, 0)] rfl ?_
            refine ge_batch [0, 1] (ans := []) (vs := [(109, .int .i64 (l1.length : Int)), (108, .slice A1 l1.length c1)]) (l := []) (by kernel_rfl) trivial ?_
            by_cases hc17 : l1.length ≤ 17592186044416
            · rw [if_pos hc17] at h
              refine ge_make (α := Int) (d := 110) (t := 28) (el := 3) (bytes := 8) (l := l1.length) (c := l1.length) (x := (.tmp 109)) (y := (.tmp 109)) (ty := 28) (k1 := .i64) (k2 := .i64) (li := (l1.length : Int)) (ci := (l1.length : Int)) (z := .int .i64 0) (z' := (0 : Int)) (by kernel_rfl) (by kernel_rfl) (by kernel_rfl) rfl rfl (by kernel_rfl) (by kernel_rfl) rfl hS144 (Nat.le_refl _) rfl (by omega) fun v6 w34 _ hS145 => ?_
              refine ge_batch [3] (ans := []) (vs := [(14, v6)]) (l := []) (by kernel_rfl) trivial ?_
              refine ge_nil fun a hF => hK29 _ _ ?_ a hF
              refine we_seq fun K30 hK30 => ?_
              refine we_seq fun K31 hK31 => ?_
              refine we_region [(0, 0), (1, 0), (2, 0)] rfl ?_
              refine ge_batch [0, 1, 2] (ans := []) (vs := [(113, .int .i64 0), (112, .int .i64 (l1.length : Int)), (111, .slice A1 l1.length c1)]) (l := []) (by kernel_rfl) trivial ?_
              refine ge_nil fun a hF => hK31 _ _ ?_ a hF
              refine we_block ?_
              obtain ⟨Z1, cz1, rfl⟩ := hS145.open 0 rfl
              obtain ⟨Z2, cz2, rfl⟩ := hS145.open 4 rfl
              obtain ⟨Z3, cz3, rfl⟩ := hS145.open 5 rfl
              have hS146 := hS145.bring 5 rfl
              have hS147 := hS146.bring 5 rfl
              have hS148 := hS147.bring 2 rfl
              have hS149 := hS148.bring 5 rfl
              have hS150 := hS149.bring 5 rfl
              have hS151 := hS150.bring 5 rfl
              rcases hq6 : iter (modes_Play.r4 l1) K (0, m4) with _ | (m7 | rr4)
              · rw [hq6] at h; cases h
              · rw [hq6] at h
                simp only [] at h
                refine we_iter (A := modes_Play.A4 K w0 l0 A0 c0 l1 A1 c1 l2 A2 c2 x3 hR0 hL0 hR1 hL1 hR2 hL2 b1 b2 r1 b3 hc1 b7 m3 m4 z2 hc17 Z1 cz1 Z2 cz2 Z3 cz3) (B := modes_Play.B4 K w0 l0 A0 c0 l1 A1 c1 l2 A2 c2 x3 hR0 hL0 hR1 hL1 hR2 hL2 b1 b2 r1 b3 hc1 b7 m3 m4 z2 hc17 Z1 cz1 Z2 cz2 Z3 cz3) hq6 (fun a hF => ⟨hS151, hF.weaken ⟨by kernel_rfl, by kernel_rfl, by kernel_rfl, by kernel_rfl, by kernel_rfl, by kernel_rfl, by kernel_rfl, by kernel_rfl, by kernel_rfl, by kernel_rfl, trivial⟩⟩) (fun s o hf a w hA Q hQ => modes_Play_r4 K w0 l0 A0 c0 l1 A1 c1 l2 A2 c2 x3 hR0 hL0 hR1 hL1 hR2 hL2 b1 b2 r1 b3 hc1 b7 m3 m4 z2 hc17 Z1 cz1 Z2 cz2 Z3 cz3 s o hf a w hA Q hQ) ?_
                rintro _ a w36 _ ⟨rfl, hS167, hF⟩
                replace hS167 : St w0 w36 [Own.blk b7 (.cells #[(.slice Z2 m3.length cz2), (.slice Z3 m7.length cz3), .int .i64 z2] 51 (0, 0)), Own.blk b2 (.cells #[.int .i64 0, .int .i64 0] 31 (0, 0)), Own.blk b1 (.cells #[.slice none 0 0, .slice none 0 0, .int .i64 0] 51 (0, 0)), Own.of (.slice Z1 (List.replicate l1.length (0 : Int)).length cz1) 3 (List.replicate l1.length (0 : Int)), Own.of (.slice Z2 m3.length cz2) 3 m3, Own.of (.slice Z3 m7.length cz3) 3 m7] := hS167
                refine hK30 [(0, .slice A0 l0.length c0), (1, .slice A1 l1.length c1), (2, .slice A2 l2.length c2), (3, .int .i64 x3), (8, .pointer (some ⟨b1, 0, none⟩)), (9, .pointer (some ⟨b2, 0, none⟩)), (13, .pointer (some ⟨b7, 0, none⟩)), (14, (.slice Z1 (List.replicate l1.length (0 : Int)).length cz1))] w36 ?_ a hF
                refine we_seq fun K36 hK36 => ?_
                refine we_seq fun K37 hK37 => ?_
                refine we_region [(0, 0), (1, 0)] rfl ?_
                refine ge_batch [0, 1] (ans := []) (vs := [(123, .int .i64 0), (122, .int .i64 x3)]) (l := []) (by kernel_rfl) trivial ?_
                refine ge_nil fun a hF => hK37 _ _ ?_ a hF
                refine we_block ?_
                have hS168 := hS167.bring 5 rfl
                have hS169 := hS168.bring 5 rfl
                have hS170 := hS169.bring 5 rfl
                have hS171 := hS170.bring 5 rfl
                have hS172 := hS171.bring 5 rfl
                have hS173 := hS172.bring 5 rfl
                rcases hq9 : iter (modes_Play.r5 K l0 l1 l2 x3) K (0, (List.replicate l1.length (0 : Int)), m3, m7, z2) with _ | (⟨m13, m14, z9⟩ | rr3)
                · rw [hq9] at h; cases h
                · rw [hq9] at h
                  simp only [] at h
                  refine we_iter (A := modes_Play.A5 K w0 l0 A0 c0 l1 A1 c1 l2 A2 c2 x3 hR0 hL0 hR1 hL1 hR2 hL2 b1 b2 r1 b3 hc1 b7 m3 m4 z2 hc17 Z1 cz1 Z2 cz2 Z3 cz3 m7) (B := modes_Play.B5 K w0 l0 A0 c0 l1 A1 c1 l2 A2 c2 x3 hR0 hL0 hR1 hL1 hR2 hL2 b1 b2 r1 b3 hc1 b7 m3 m4 z2 hc17 Z1 cz1 Z2 cz2 Z3 cz3 m7) hq9 (fun a hF => ⟨hS173, hF.weaken ⟨by kernel_rfl, by kernel_rfl, by kernel_rfl, by kernel_rfl, by kernel_rfl, by kernel_rfl, by kernel_rfl, by kernel_rfl, by kernel_rfl, trivial⟩⟩) (fun s o hf a w hA Q hQ => modes_Play_r5 K w0 l0 A0 c0 l1 A1 c1 l2 A2 c2 x3 hR0 hL0 hR1 hL1 hR2 hL2 b1 b2 r1 b3 hc1 b7 m3 m4 z2 hc17 Z1 cz1 Z2 cz2 Z3 cz3 m7 s o hf a w hA Q hQ) ?_
                  rintro _ a w50 _ ⟨rfl, hS339, hF⟩
                  replace hS339 : St w0 w50 [Own.blk b7 (.cells #[(.slice Z2 m13.length cz2), (.slice Z3 m14.length cz3), .int .i64 z9] 51 (0, 0)), Own.blk b2 (.cells #[.int .i64 0, .int .i64 0] 31 (0, 0)), Own.blk b1 (.cells #[.slice none 0 0, .slice none 0 0, .int .i64 0] 51 (0, 0)), Own.of (.slice Z2 m13.length cz2) 3 m13, Own.of (.slice Z3 m14.length cz3) 3 m14] := hS339
                  refine hK36 [(8, .pointer (some ⟨b1, 0, none⟩)), (9, .pointer (some ⟨b2, 0, none⟩)), (13, .pointer (some ⟨b7, 0, none⟩))] w50 ?_ a hF
                  refine we_seq fun K60 hK60 => ?_
                  refine we_region [(0, 0), (1, 0), (2, 2), (3, 2)] rfl ?_
                  refine ge_batch [0, 1] (ans := [.val ((.slice Z2 m13.length cz2)), .val ((.slice Z3 m14.length cz3)), .val (.int .i64 z9)]) (vs := [(264, .agg #[.int .i64 0, .int .i64 0]), (263, .agg #[(.slice Z2 m13.length cz2), (.slice Z3 m14.length cz3), .int .i64 z9])]) (l := [.loaded ⟨b7, 0, none⟩ ((.slice Z2 m13.length cz2)), .loaded ⟨b7, 1, none⟩ ((.slice Z3 m14.length cz3)), .loaded ⟨b7, 2, none⟩ (.int .i64 z9)]) (by kernel_rfl) ⟨hS339.cell 0 rfl rfl, hS339.cell 0 rfl rfl, hS339.cell 0 rfl rfl, trivial⟩ ?_
                  have hS340 := hS339.bring 2 rfl
                  refine ge_set (b := b1) (j := 0) (cs := #[.slice none 0 0, .slice none 0 0, .int .i64 0]) (t := 51) (vs := [(.slice Z2 m13.length cz2), (.slice Z3 m14.length cz3), .int .i64 z9]) hS340 (by kernel_rfl) rfl rfl fun w51 hS341 => ?_
                  have hS342 := hS341.nc #[(.slice Z2 m13.length cz2), (.slice Z3 m14.length cz3), .int .i64 z9] (by kernel_rfl)
                  have hS343 := hS342.bring 2 rfl
                  refine ge_set (b := b2) (j := 0) (cs := #[.int .i64 0, .int .i64 0]) (t := 31) (vs := [.int .i64 0, .int .i64 0]) hS343 (by kernel_rfl) rfl rfl fun w52 hS344 => ?_
                  have hS345 := hS344.nc #[.int .i64 0, .int .i64 0] (by kernel_rfl)
                  refine ge_nil fun a hF => hK60 _ _ ?_ a hF
                  have hS346 := hS345.bring 4 rfl
                  have hS347 := hS346.bring 4 rfl
                  have hS348 := hS347.takeN 2
                  obtain rfl := Option.some.inj h
                  exact we_ret (post_ret (rs := [.cell 8 51, .cell 9 31]) (ans := [.val ((.slice Z2 m13.length cz2)), .val ((.slice Z3 m14.length cz3)), .val (.int .i64 z9), .val (.int .i64 0), .val (.int .i64 0)]) (vs := [.agg #[(.slice Z2 m13.length cz2), (.slice Z3 m14.length cz3), .int .i64 z9], .agg #[.int .i64 0, .int .i64 0]]) (l := [.loaded ⟨b1, 0, none⟩ ((.slice Z2 m13.length cz2)), .loaded ⟨b1, 1, none⟩ ((.slice Z3 m14.length cz3)), .loaded ⟨b1, 2, none⟩ (.int .i64 z9), .loaded ⟨b2, 0, none⟩ (.int .i64 0), .loaded ⟨b2, 1, none⟩ (.int .i64 0)]) rfl (by kernel_rfl) ⟨hS345.cell 1 rfl rfl, hS345.cell 1 rfl rfl, hS345.cell 1 rfl rfl, hS345.cell 0 rfl rfl, hS345.cell 0 rfl rfl, trivial⟩ ⟨(.slice Z2 m13.length cz2), (.slice Z3 m14.length cz3), rfl, hS348⟩)
                · rw [hq9] at h
                  simp only [] at h
                  refine we_iter (A := modes_Play.A5 K w0 l0 A0 c0 l1 A1 c1 l2 A2 c2 x3 hR0 hL0 hR1 hL1 hR2 hL2 b1 b2 r1 b3 hc1 b7 m3 m4 z2 hc17 Z1 cz1 Z2 cz2 Z3 cz3 m7) (B := modes_Play.B5 K w0 l0 A0 c0 l1 A1 c1 l2 A2 c2 x3 hR0 hL0 hR1 hL1 hR2 hL2 b1 b2 r1 b3 hc1 b7 m3 m4 z2 hc17 Z1 cz1 Z2 cz2 Z3 cz3 m7) hq9 (fun a hF => ⟨hS173, hF.weaken ⟨by kernel_rfl, by kernel_rfl, by kernel_rfl, by kernel_rfl, by kernel_rfl, by kernel_rfl, by kernel_rfl, by kernel_rfl, by kernel_rfl, trivial⟩⟩) (fun s o hf a w hA Q hQ => modes_Play_r5 K w0 l0 A0 c0 l1 A1 c1 l2 A2 c2 x3 hR0 hL0 hR1 hL1 hR2 hL2 b1 b2 r1 b3 hc1 b7 m3 m4 z2 hc17 Z1 cz1 Z2 cz2 Z3 cz3 m7 s o hf a w hA Q hQ) ?_
                  rintro _ a w1 _ ⟨rfl, hb⟩
                  obtain rfl := Option.some.inj h
                  exact hb
              · rw [hq6] at h
                simp only [] at h
                refine we_iter (A := modes_Play.A4 K w0 l0 A0 c0 l1 A1 c1 l2 A2 c2 x3 hR0 hL0 hR1 hL1 hR2 hL2 b1 b2 r1 b3 hc1 b7 m3 m4 z2 hc17 Z1 cz1 Z2 cz2 Z3 cz3) (B := modes_Play.B4 K w0 l0 A0 c0 l1 A1 c1 l2 A2 c2 x3 hR0 hL0 hR1 hL1 hR2 hL2 b1 b2 r1 b3 hc1 b7 m3 m4 z2 hc17 Z1 cz1 Z2 cz2 Z3 cz3) hq6 (fun a hF => ⟨hS151, hF.weaken ⟨by kernel_rfl, by kernel_rfl, by kernel_rfl, by kernel_rfl, by kernel_rfl, by kernel_rfl, by kernel_rfl, by kernel_rfl, by kernel_rfl, by kernel_rfl, trivial⟩⟩) (fun s o hf a w hA Q hQ => modes_Play_r4 K w0 l0 A0 c0 l1 A1 c1 l2 A2 c2 x3 hR0 hL0 hR1 hL1 hR2 hL2 b1 b2 r1 b3 hc1 b7 m3 m4 z2 hc17 Z1 cz1 Z2 cz2 Z3 cz3 s o hf a w hA Q hQ) ?_
                rintro _ a w1 _ ⟨rfl, hb⟩
                obtain rfl := Option.some.inj h
                exact hb
            · rw [if_neg hc17] at h
              cases h
          · rw [hq5] at h
            simp only [] at h
            refine we_keep (e' := [(0, .slice A0 l0.length c0), (1, .slice A1 l1.length c1), (2, .slice A2 l2.length c2), (3, .int .i64 x3), (8, .pointer (some ⟨b1, 0, none⟩)), (9, .pointer (some ⟨b2, 0, none⟩))]) ⟨by kernel_rfl, by kernel_rfl, by kernel_rfl, by kernel_rfl, by kernel_rfl, by kernel_rfl, trivial⟩ (modes_Play_p3 K w0 l0 A0 c0 l1 A1 c1 l2 A2 c2 x3 hR0 hL0 hR1 hL1 hR2 hL2 b1 b2 r1 b3 hc1 _ hq5 _ hS136 _ ?_)
            rintro _ a w1 ⟨_, rfl, hb⟩
            obtain rfl := Option.some.inj h
            exact hb
        · rw [hq4] at h
          simp only [] at h
          refine we_iter (A := modes_Play.A2 K w0 l0 A0 c0 l1 A1 c1 l2 A2 c2 x3 hR0 hL0 hR1 hL1 hR2 hL2 b1 b2 r1 b3 hc1) (B := modes_Play.B2 K w0 l0 A0 c0 l1 A1 c1 l2 A2 c2 x3 hR0 hL0 hR1 hL1 hR2 hL2 b1 b2 r1 b3 hc1) hq4 (fun a hF => ⟨hS60, hF.weaken ⟨by kernel_rfl, by kernel_rfl, by kernel_rfl, by kernel_rfl, by kernel_rfl, by kernel_rfl, by kernel_rfl, by kernel_rfl, by kernel_rfl, trivial⟩⟩) (fun s o hf a w hA Q hQ => modes_Play_r2 K w0 l0 A0 c0 l1 A1 c1 l2 A2 c2 x3 hR0 hL0 hR1 hL1 hR2 hL2 b1 b2 r1 b3 hc1 s o hf a w hA Q hQ) ?_
          rintro _ a w1 _ ⟨rfl, hb⟩
          obtain rfl := Option.some.inj h
          exact hb
      · rw [hq3] at h
        simp only [] at h
        refine we_keep (e' := [(0, .slice A0 l0.length c0), (1, .slice A1 l1.length c1), (2, .slice A2 l2.length c2), (3, .int .i64 x3), (8, .pointer (some ⟨b1, 0, none⟩)), (9, .pointer (some ⟨b2, 0, none⟩))]) ⟨by kernel_rfl, by kernel_rfl, by kernel_rfl, by kernel_rfl, by kernel_rfl, by kernel_rfl, trivial⟩ (modes_Play_p1 K w0 l0 A0 c0 l1 A1 c1 l2 A2 c2 x3 hR0 hL0 hR1 hL1 hR2 hL2 b1 b2 r1 b3 hc1 _ hq3 _ hS33 _ ?_)
        rintro _ a w1 ⟨_, rfl, hb⟩
        obtain rfl := Option.some.inj h
        exact hb
    · rw [hq2] at h
      simp only [] at h
      refine we_keep (e' := [(0, .slice A0 l0.length c0), (1, .slice A1 l1.length c1), (2, .slice A2 l2.length c2), (3, .int .i64 x3), (8, .pointer (some ⟨b1, 0, none⟩)), (9, .pointer (some ⟨b2, 0, none⟩)), (10, .pointer (some ⟨b3, 0, none⟩)), (22, .slice A0 l0.length c0), (23, .agg #[.int .i64 r1.Code, .int .i64 r1.At]), (24, .pointer (some ⟨b3, 0, none⟩)), (25, .int .i64 r1.Code), (26, .bool false)]) ⟨by kernel_rfl, by kernel_rfl, by kernel_rfl, by kernel_rfl, by kernel_rfl, by kernel_rfl, by kernel_rfl, by kernel_rfl, by kernel_rfl, by kernel_rfl, by kernel_rfl, by kernel_rfl, trivial⟩ (modes_Play_p0 K w0 l0 A0 c0 l1 A1 c1 l2 A2 c2 x3 hR0 hL0 hR1 hL1 hR2 hL2 b1 b2 r1 b3 hc1 _ hq2 _ hS7 _ ?_)
      rintro _ a w1 ⟨_, rfl, hb⟩
      obtain rfl := Option.some.inj h
      exact hb
  · rw [if_neg hc1] at h
    refine we_known (t := 26) (b := (r1.Code != 0)) (v := true) (by kernel_rfl) (bne_iff_ne.2 hc1) ?_
    refine we_true (by kernel_rfl) ?_
    refine we_seq fun K61 hK61 => ?_
    rcases hq10 : modes_Play.p8 r1 with _ | (⟨z13, z14, m17, m18, z15⟩ | rr9)
    · rw [hq10] at h; cases h
    · rw [hq10] at h
      simp only [] at h
      refine we_keep (e' := [(0, .slice A0 l0.length c0), (1, .slice A1 l1.length c1), (2, .slice A2 l2.length c2), (3, .int .i64 x3), (8, .pointer (some ⟨b1, 0, none⟩)), (9, .pointer (some ⟨b2, 0, none⟩)), (10, .pointer (some ⟨b3, 0, none⟩)), (22, .slice A0 l0.length c0), (23, .agg #[.int .i64 r1.Code, .int .i64 r1.At]), (24, .pointer (some ⟨b3, 0, none⟩)), (25, .int .i64 r1.Code), (26, .bool true)]) ⟨by kernel_rfl, by kernel_rfl, by kernel_rfl, by kernel_rfl, by kernel_rfl, by kernel_rfl, by kernel_rfl, by kernel_rfl, by kernel_rfl, by kernel_rfl, by kernel_rfl, by kernel_rfl, trivial⟩ (modes_Play_p8 K w0 l0 A0 c0 l1 A1 c1 l2 A2 c2 x3 hR0 hL0 hR1 hL1 hR2 hL2 b1 b2 r1 b3 hc1 _ hq10 _ hS7 _ ?_)
      rintro _ a w55 ⟨rfl, v9, v10, hS363, hF⟩
      replace hS363 : St w0 w55 [Own.blk b2 (.cells #[.int .i64 z13, .int .i64 z14] 31 (0, 0)), Own.blk b1 (.cells #[v9, v10, .int .i64 z15] 51 (0, 0)), Own.of v9 3 m17, Own.of v10 3 m18] := hS363
      refine hK61 [(8, .pointer (some ⟨b1, 0, none⟩)), (9, .pointer (some ⟨b2, 0, none⟩))] w55 ?_ a hF
      have hS364 := hS363.bring 3 rfl
      have hS365 := hS364.bring 3 rfl
      have hS366 := hS365.takeN 2
      obtain rfl := Option.some.inj h
      exact we_ret (post_ret (rs := [.cell 8 51, .cell 9 31]) (ans := [.val (v9), .val (v10), .val (.int .i64 z15), .val (.int .i64 z13), .val (.int .i64 z14)]) (vs := [.agg #[v9, v10, .int .i64 z15], .agg #[.int .i64 z13, .int .i64 z14]]) (l := [.loaded ⟨b1, 0, none⟩ (v9), .loaded ⟨b1, 1, none⟩ (v10), .loaded ⟨b1, 2, none⟩ (.int .i64 z15), .loaded ⟨b2, 0, none⟩ (.int .i64 z13), .loaded ⟨b2, 1, none⟩ (.int .i64 z14)]) rfl (by kernel_rfl) ⟨hS363.cell 1 rfl rfl, hS363.cell 1 rfl rfl, hS363.cell 1 rfl rfl, hS363.cell 0 rfl rfl, hS363.cell 0 rfl rfl, trivial⟩ ⟨v9, v10, rfl, hS366⟩)
    · rw [hq10] at h
      simp only [] at h
      refine we_keep (e' := [(0, .slice A0 l0.length c0), (1, .slice A1 l1.length c1), (2, .slice A2 l2.length c2), (3, .int .i64 x3), (8, .pointer (some ⟨b1, 0, none⟩)), (9, .pointer (some ⟨b2, 0, none⟩)), (10, .pointer (some ⟨b3, 0, none⟩)), (22, .slice A0 l0.length c0), (23, .agg #[.int .i64 r1.Code, .int .i64 r1.At]), (24, .pointer (some ⟨b3, 0, none⟩)), (25, .int .i64 r1.Code), (26, .bool true)]) ⟨by kernel_rfl, by kernel_rfl, by kernel_rfl, by kernel_rfl, by kernel_rfl, by kernel_rfl, by kernel_rfl, by kernel_rfl, by kernel_rfl, by kernel_rfl, by kernel_rfl, by kernel_rfl, trivial⟩ (modes_Play_p8 K w0 l0 A0 c0 l1 A1 c1 l2 A2 c2 x3 hR0 hL0 hR1 hL1 hR2 hL2 b1 b2 r1 b3 hc1 _ hq10 _ hS7 _ ?_)
      rintro _ a w1 ⟨_, rfl, hb⟩
      obtain rfl := Option.some.inj h
      exact hb

/-! punctual/punctualsame.Same[int] -/
abbrev ps_Same_int.Post (w0 : World) (r : Bool) (e : Ending) (w : World) : Prop := e = .returned (.bool r) ∧ St w0 w []
def ps_Same_int.r0 (l0 : List Int) (l1 : List Int) : Nat → Option (Nat ⊕ (Unit ⊕ Bool))
  | i1 =>
    if (i1 : Int) < (l0.length : Int) then
      match l0[i1]? with
      | none => none
      | some e1 =>
        match l1[i1]? with
        | none => none
        | some e2 =>
          if e1 = e2 then
            some (.inl (i1 + 1))
          else
            some (.inr (.inr false))
    else
      some (.inr (.inl ()))
def ps_Same_int.f (K : Nat) (l0 : List Int) (l1 : List Int) : Option Bool :=
  if (l0.length : Int) = (l1.length : Int) then
    match iter (ps_Same_int.r0 l0 l1) K 0 with
    | none => none
    | some (.inl _) =>
      some true
    | some (.inr rr1) =>
      some rr1
  else
    some false
abbrev ps_Same_int.A0 (K : Nat) (w0 : World) (l0 : List Int) (A0 : Option Addr) (c0 : Nat) (l1 : List Int) (A1 : Option Addr) (c1 : Nat) (hR0 : RdL w0 A0 l0) (hL0 : l0.length ≤ c0) (hR1 : RdL w0 A1 l1) (hL1 : l1.length ≤ c1) (hc1 : (l0.length : Int) = (l1.length : Int)) : Nat → Act → World → Prop := fun (s : Nat) a w => St w0 w [] ∧ Frm 26 a [(0, .slice A0 l0.length c0), (1, .slice A1 l1.length c1), (12, .int .i64 (l0.length : Int)), (13, .int .i64 (s : Int))]
abbrev ps_Same_int.B0 (K : Nat) (w0 : World) (l0 : List Int) (A0 : Option Addr) (c0 : Nat) (l1 : List Int) (A1 : Option Addr) (c1 : Nat) (hR0 : RdL w0 A0 l0) (hL0 : l0.length ≤ c0) (hR1 : RdL w0 A1 l1) (hL1 : l1.length ≤ c1) (hc1 : (l0.length : Int) = (l1.length : Int)) : (Unit ⊕ Bool) → Exit → Act → World → Prop := Exits 0 (fun (s : Unit) a w => St w0 w [] ∧ Frm 26 a []) (Rets Tryd.prog Tryd.f14 (ps_Same_int.Post w0))
theorem ps_Same_int_r0 (K : Nat) (w0 : World) (l0 : List Int) (A0 : Option Addr) (c0 : Nat) (l1 : List Int) (A1 : Option Addr) (c1 : Nat) (hR0 : RdL w0 A0 l0) (hL0 : l0.length ≤ c0) (hR1 : RdL w0 A1 l1) (hL1 : l1.length ≤ c1) (hc1 : (l0.length : Int) = (l1.length : Int)) (s : Nat) (o : Nat ⊕ (Unit ⊕ Bool)) (h : ps_Same_int.r0 l0 l1 s = some o) (a : Act) (w : World) (hA : ps_Same_int.A0 K w0 l0 A0 c0 l1 A1 c1 hR0 hL0 hR1 hL1 hc1 s a w) (Q : Exit → Act → World → Prop) (hQ : ∀ x a w, Outs (ps_Same_int.A0 K w0 l0 A0 c0 l1 A1 c1 hR0 hL0 hR1 hL1 hc1) (ps_Same_int.B0 K w0 l0 A0 c0 l1 A1 c1 hR0 hL0 hR1 hL1 hc1) o x a w → Q x a w) : (subF Tryd.f14 [1, 1, 0, 1, 0, 0]).wp Tryd.prog Q a w := by
  obtain ⟨i1, hs⟩ : ∃ z, z = s := ⟨s, rfl⟩
  subst hs
  obtain ⟨hS, hF⟩ := hA
  replace hS : St w0 w [] := hS
  simp only [ps_Same_int.r0] at h
  refine (?_ : WE Tryd.prog 26 (subF Tryd.f14 [1, 1, 0, 1, 0, 0]) Q [(0, .slice A0 l0.length c0), (1, .slice A1 l1.length c1), (12, .int .i64 (l0.length : Int)), (13, .int .i64 (i1 : Int))] w) a hF
  clear hF a
  refine we_seq fun K6 hK6 => ?_
  refine we_region [(0, 0)] rfl ?_
  refine ge_batch [0] (ans := []) (vs := [(14, .bool (decide ((i1 : Int) < (l0.length : Int))))]) (l := []) (by kernel_rfl) trivial ?_
  refine ge_nil fun a hF => hK6 _ _ ?_ a hF
  refine we_seq fun K7 hK7 => ?_
  by_cases hc2 : (i1 : Int) < (l0.length : Int)
  · rw [if_pos hc2] at h
    refine we_known (t := 14) (b := decide ((i1 : Int) < (l0.length : Int))) (v := true) (by kernel_rfl) (decide_eq_true hc2) ?_
    refine we_true (by kernel_rfl) ?_
    refine we_skip fun a hF => hK7 _ _ ?_ a hF
    refine we_seq fun K8 hK8 => ?_
    refine we_block ?_
    refine we_seq fun K9 hK9 => ?_
    refine we_region [(0, 0), (1, 0)] rfl ?_
    refine ge_batch [0, 1] (ans := []) (vs := [(5, .int .i64 (i1 : Int)), (15, .int .i64 (i1 : Int))]) (l := []) (by kernel_rfl) trivial ?_
    refine ge_nil fun a hF => hK9 _ _ ?_ a hF
    refine we_seq fun K10 hK10 => ?_
    refine we_draws (by kernel_rfl) [(0, 0), (1, 0), (2, 0), (3, 0), (4, 0), (5, 0), (6, 0), (7, 0), (8, 0)] (by kernel_rfl) ?_
    have hS1 := hS.drew
    refine ge_batch [0, 1] (ans := []) (vs := [(17, .int .i64 (i1 : Int)), (16, .slice A0 l0.length c0)]) (l := []) (by kernel_rfl) trivial ?_
    rcases hx1 : l0[i1]? with _ | e1
    · rw [hx1] at h; cases h
    rw [hx1] at h
    simp only [] at h
    refine ge_index (d := 18) (ty := 0) (t := 28) (el := 3) (sz := 1) (m := l0.length) (c := c0) (x := (.tmp 16)) (y := (.tmp 17)) (A := A0) (k' := .i64) (j := (i1 : Int)) (jn := i1) (b0 := blkOf A0) (o0 := offOf A0) (by kernel_rfl) (by kernel_rfl) (by kernel_rfl) (by kernel_rfl) (by kernel_rfl) ((hS1.rd hR0).eqSome (pos_of_get hx1)) rfl (lt_of_get hx1) ?_
    refine ge_batch [3, 4, 5] (ans := [.val (.int .i64 e1)]) (vs := [(21, .int .i64 (i1 : Int)), (20, .slice A1 l1.length c1), (19, .int .i64 e1)]) (l := [.loaded ⟨blkOf A0, offOf A0 + i1 * 1, none⟩ (.int .i64 e1)]) (by kernel_rfl) ⟨RdL.cell (j := 0) (hS1.rd hR0) hx1 rfl, trivial⟩ ?_
    rcases hx2 : l1[i1]? with _ | e2
    · rw [hx2] at h; cases h
    rw [hx2] at h
    simp only [] at h
    refine ge_index (d := 22) (ty := 0) (t := 28) (el := 3) (sz := 1) (m := l1.length) (c := c1) (x := (.tmp 20)) (y := (.tmp 21)) (A := A1) (k' := .i64) (j := (i1 : Int)) (jn := i1) (b0 := blkOf A1) (o0 := offOf A1) (by kernel_rfl) (by kernel_rfl) (by kernel_rfl) (by kernel_rfl) (by kernel_rfl) ((hS1.rd hR1).eqSome (pos_of_get hx2)) rfl (lt_of_get hx2) ?_
    refine ge_batch [7, 8] (ans := [.val (.int .i64 e2)]) (vs := [(24, .bool (e1 != e2)), (23, .int .i64 e2)]) (l := [.loaded ⟨blkOf A1, offOf A1 + i1 * 1, none⟩ (.int .i64 e2)]) (by kernel_rfl) ⟨RdL.cell (j := 0) (hS1.rd hR1) hx2 rfl, trivial⟩ ?_
    refine ge_nil fun a hF => hK10 _ _ ?_ a hF
    by_cases hc3 : e1 = e2
    · rw [if_pos hc3] at h
      refine we_known (t := 24) (b := (e1 != e2)) (v := false) (by kernel_rfl) (bne_eq_false_iff_eq.2 hc3) ?_
      refine we_false (by kernel_rfl) ?_
      refine we_skip fun a hF => hK8 _ _ ?_ a hF
      refine we_region [(0, 0), (1, 0)] rfl ?_
      refine ge_addn (d := 25) (ty := 3) (x := (.tmp 13)) (y := (.const (.int .i64 1))) (t := 3) (t2 := 3) (k := .i64) (m := i1) (by kernel_rfl) (by kernel_rfl) (by kernel_rfl) (by have h0 := hR0.small; omega) ?_
      refine ge_batch [1] (ans := []) (vs := [(13, .int .i64 ((i1 + 1 : Nat) : Int))]) (l := []) (by kernel_rfl) trivial ?_
      obtain rfl := Option.some.inj h
      exact ge_nil fun a hF => hQ _ _ _ (Outs.again ⟨hS1, hF.weaken ⟨by kernel_rfl, by kernel_rfl, by kernel_rfl, by kernel_rfl, trivial⟩⟩)
    · rw [if_neg hc3] at h
      refine we_known (t := 24) (b := (e1 != e2)) (v := true) (by kernel_rfl) (bne_iff_ne.2 hc3) ?_
      refine we_true (by kernel_rfl) ?_
      refine we_seq fun K11 hK11 => ?_
      refine we_region [(0, 0)] rfl ?_
      refine ge_batch [0] (ans := []) (vs := [(4, .bool false)]) (l := []) (by kernel_rfl) trivial ?_
      refine ge_nil fun a hF => hK11 _ _ ?_ a hF
      obtain rfl := Option.some.inj h
      exact we_ret fun a hF => hQ _ _ _ (Outs.out nofun (Exits.on ⟨rfl, (post_ret (rs := [.tmp 4]) (ans := []) (vs := [.bool false]) (l := []) rfl (by kernel_rfl) trivial ⟨rfl, hS1⟩) a hF⟩))
  · rw [if_neg hc2] at h
    refine we_known (t := 14) (b := decide ((i1 : Int) < (l0.length : Int))) (v := false) (by kernel_rfl) (decide_eq_false hc2) ?_
    refine we_false (by kernel_rfl) ?_
    obtain rfl := Option.some.inj h
    exact we_exit fun a hF => hQ _ _ _ (Outs.out nofun (Exits.here ⟨hS, hF.weaken trivial⟩))
theorem ps_Same_int_ok (K : Nat) (l0 : List Int) (A0 : Option Addr) (c0 : Nat) (l1 : List Int) (A1 : Option Addr) (c1 : Nat) (w0 : World) (hR0 : RdL w0 A0 l0) (hL0 : l0.length ≤ c0) (hR1 : RdL w0 A1 l1) (hL1 : l1.length ≤ c1) (r : Bool) (h : ps_Same_int.f K l0 l1 = some r) :
    Calls Tryd.prog 14 #[.slice A0 l0.length c0, .slice A1 l1.length c1] w0 (ps_Same_int.Post w0 r) := by
  have hS := St.start w0
  unfold ps_Same_int.f at h
  refine calls_enter (n := 26) (args := [.slice A0 l0.length c0, .slice A1 l1.length c1]) (fn := Tryd.f14) rfl rfl rfl rfl ?_
  show WE _ _ _ _ [(0, .slice A0 l0.length c0), (1, .slice A1 l1.length c1)] _
  refine we_seq fun K1 hK1 => ?_
  refine we_region [(0, 0)] rfl ?_
  refine ge_batch [0] (ans := []) (vs := [(4, .bool false)]) (l := []) (by kernel_rfl) trivial ?_
  refine ge_nil fun a hF => hK1 _ _ ?_ a hF
  refine we_seq fun K2 hK2 => ?_
  refine we_seq fun K3 hK3 => ?_
  refine we_region [(0, 0), (1, 0), (2, 0), (3, 0), (4, 0)] rfl ?_
  refine ge_batch [0, 1, 2, 3, 4] (ans := []) (vs := [(10, .bool ((l0.length : Int) != (l1.length : Int))), (9, .int .i64 (l1.length : Int)), (8, .slice A1 l1.length c1), (7, .int .i64 (l0.length : Int)), (6, .slice A0 l0.length c0)]) (l := []) (by kernel_rfl) trivial ?_
  refine ge_nil fun a hF => hK3 _ _ ?_ a hF
  by_cases hc1 : (l0.length : Int) = (l1.length : Int)
  · rw [if_pos hc1] at h
    refine we_known (t := 10) (b := ((l0.length : Int) != (l1.length : Int))) (v := false) (by kernel_rfl) (bne_eq_false_iff_eq.2 hc1) ?_
    refine we_false (by kernel_rfl) ?_
    refine we_skip fun a hF => hK2 _ _ ?_ a hF
    refine we_seq fun K4 hK4 => ?_
    refine we_seq fun K5 hK5 => ?_
    refine we_region [(0, 0), (1, 0), (2, 0)] rfl ?_
    refine ge_batch [0, 1, 2] (ans := []) (vs := [(13, .int .i64 0), (12, .int .i64 (l0.length : Int)), (11, .slice A0 l0.length c0)]) (l := []) (by kernel_rfl) trivial ?_
    refine ge_nil fun a hF => hK5 _ _ ?_ a hF
    refine we_block ?_
    rcases hq1 : iter (ps_Same_int.r0 l0 l1) K 0 with _ | (_ | rr1)
    · rw [hq1] at h; cases h
    · rw [hq1] at h
      simp only [] at h
      refine we_iter (A := ps_Same_int.A0 K w0 l0 A0 c0 l1 A1 c1 hR0 hL0 hR1 hL1 hc1) (B := ps_Same_int.B0 K w0 l0 A0 c0 l1 A1 c1 hR0 hL0 hR1 hL1 hc1) hq1 (fun a hF => ⟨hS, hF.weaken ⟨by kernel_rfl, by kernel_rfl, by kernel_rfl, by kernel_rfl, trivial⟩⟩) (fun s o hf a w hA Q hQ => ps_Same_int_r0 K w0 l0 A0 c0 l1 A1 c1 hR0 hL0 hR1 hL1 hc1 s o hf a w hA Q hQ) ?_
      rintro _ a w1 _ ⟨rfl, hS2, hF⟩
      replace hS2 : St w0 w1 [] := hS2
      refine hK4 [] w1 ?_ a hF
      refine we_seq fun K12 hK12 => ?_
      refine we_region [(0, 0)] rfl ?_
      refine ge_batch [0] (ans := []) (vs := [(4, .bool true)]) (l := []) (by kernel_rfl) trivial ?_
      refine ge_nil fun a hF => hK12 _ _ ?_ a hF
      obtain rfl := Option.some.inj h
      exact we_ret (post_ret (rs := [.tmp 4]) (ans := []) (vs := [.bool true]) (l := []) rfl (by kernel_rfl) trivial ⟨rfl, hS2⟩)
    · rw [hq1] at h
      simp only [] at h
      refine we_iter (A := ps_Same_int.A0 K w0 l0 A0 c0 l1 A1 c1 hR0 hL0 hR1 hL1 hc1) (B := ps_Same_int.B0 K w0 l0 A0 c0 l1 A1 c1 hR0 hL0 hR1 hL1 hc1) hq1 (fun a hF => ⟨hS, hF.weaken ⟨by kernel_rfl, by kernel_rfl, by kernel_rfl, by kernel_rfl, trivial⟩⟩) (fun s o hf a w hA Q hQ => ps_Same_int_r0 K w0 l0 A0 c0 l1 A1 c1 hR0 hL0 hR1 hL1 hc1 s o hf a w hA Q hQ) ?_
      rintro _ a w1 _ ⟨rfl, hb⟩
      obtain rfl := Option.some.inj h
      exact hb
  · rw [if_neg hc1] at h
    refine we_known (t := 10) (b := ((l0.length : Int) != (l1.length : Int))) (v := true) (by kernel_rfl) (bne_iff_ne.2 hc1) ?_
    refine we_true (by kernel_rfl) ?_
    refine we_seq fun K13 hK13 => ?_
    refine we_region [(0, 0)] rfl ?_
    refine ge_batch [0] (ans := []) (vs := [(4, .bool false)]) (l := []) (by kernel_rfl) trivial ?_
    refine ge_nil fun a hF => hK13 _ _ ?_ a hF
    obtain rfl := Option.some.inj h
    exact we_ret (post_ret (rs := [.tmp 4]) (ans := []) (vs := [.bool false]) (l := []) rfl (by kernel_rfl) trivial ⟨rfl, hS⟩)
end Go.Proofs.YtchcdadpahakfaaDoor.GV
