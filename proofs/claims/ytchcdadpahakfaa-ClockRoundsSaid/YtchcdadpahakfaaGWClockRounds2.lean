/- Walks of single functions, written by a program of this work. -/
import Derived.Test.YtchcdadpahakfaaGWClockRounds1
namespace Go.Proofs.Ytchcdadpahakfaa.GV
open Go Go.RowKit
set_option linter.unusedVariables false
set_option linter.unusedSimpArgs false
set_option maxRecDepth 100000

/-! punctual/punctuallaw.ClockRounds -/
abbrev ClockRounds.Post (w0 : World) (r : Bool) (e : Ending) (w : World) : Prop := e = .returned (.bool r) ∧ St w0 w []
def ClockRounds.p0 (l0 : List (List Int)) (l2 : List Int) : Option (Unit ⊕ Bool) :=
    if (few.f (l0.length : Int)) = true then
      if (few.f (l2.length : Int)) = true then
        some (.inl ())
      else
        some (.inr true)
    else
      some (.inr true)
def ClockRounds.p1 (K : Nat) (l0 : List (List Int)) (l2 : List Int) (r2 : List (List Int)) (r4 : (List Int) × SFault) (r5 : (List Int) × SFault) : Option (Unit ⊕ Bool) :=
    if (SFault.eqb r4.2 r5.2) = true then
      match ps_Same_int.f K r4.1 r5.1 with
      | none => none
      | some r6 =>
        if r6 = true then
          match ps_Tables.f K r2 l0 with
          | none => none
          | some r7 =>
            if r7 = true then
              match ps_Still_int.f K (l2 ++ [(-9), (-9), (-9)]) l2 (-9) with
              | none => none
              | some r8 =>
                if r8 = true then
                  some (.inl ())
                else
                  some (.inr false)
            else
              some (.inr false)
        else
          some (.inr false)
    else
      some (.inr false)
def ClockRounds.r2 (K : Nat) (l0 : List (List Int)) (x1 : Int) (r2 : List (List Int)) : Int → Option (Int ⊕ (Unit ⊕ Bool))
  | z1 =>
    if z1 < (l0.length : Int) then
      if 0 ≤ z1 then
        match r2[(z1).toNat]? with
        | none => none
        | some e1 =>
          match net_Middle.f K e1 x1 with
          | none => none
          | some r9 =>
            match l0[(z1).toNat]? with
            | none => none
            | some e2 =>
              match pr_MiddleOf.f K e2 x1 with
              | none => none
              | some r10 =>
                if r9.1 = r10.1 then
                  if r9.2 = r10.2 then
                    match ps_Tables.f K r2 l0 with
                    | none => none
                    | some r11 =>
                      if r11 = true then
                        some (.inl (IntKind.i64.wrap (z1 + 1)))
                      else
                        some (.inr (.inr false))
                  else
                    some (.inr (.inr false))
                else
                  some (.inr (.inr false))
      else
        none
    else
      some (.inr (.inl ()))
def ClockRounds.f (K : Nat) (l0 : List (List Int)) (x1 : Int) (l2 : List Int) : Option Bool :=
  match middle.f K with
  | none => none
  | some r1 =>
    if r1 = true then
      match ClockRounds.p0 l0 l2 with
      | none => none
      | some (.inl _) =>
        match ps_Copy.f K l0 with
        | none => none
        | some r2 =>
          match ps_Lend_int.f l2 (-9) with
          | none => none
          | some _ =>
            match net_Round.f K r2 x1 l2 with
            | none => none
            | some r4 =>
              match pr_RoundOf.f K l0 x1 l2 with
              | none => none
              | some r5 =>
                match ClockRounds.p1 K l0 l2 r2 r4 r5 with
                | none => none
                | some (.inl _) =>
                  match iter (ClockRounds.r2 K l0 x1 r2) K 0 with
                  | none => none
                  | some (.inl _) =>
                    some true
                  | some (.inr rr1) =>
                    some rr1
                | some (.inr rr2) =>
                  some rr2
      | some (.inr rr3) =>
        some rr3
    else
      some false
abbrev ClockRounds.A0 (K : Nat) (w0 : World) (l0 : List (List Int)) (hd0 : List Hdr) (A0 : Option Addr) (c0 : Nat) (x1 : Int) (l2 : List Int) (A2 : Option Addr) (c2 : Nat) (hR0 : RdL w0 A0 hd0) (hL0 : l0.length ≤ c0) (hN0 : NestL w0 hd0 l0) (hR2 : RdL w0 A2 l2) (hL2 : l2.length ≤ c2) (r1 : Bool) (hc1 : r1 = true) : Unit → Act → World → Prop := fun (s : Unit) a w => St w0 w [] ∧ Frm 107 a [(0, .slice A0 l0.length c0), (1, .int .i64 x1), (2, .slice A2 l2.length c2)]
abbrev ClockRounds.B0 (K : Nat) (w0 : World) (l0 : List (List Int)) (hd0 : List Hdr) (A0 : Option Addr) (c0 : Nat) (x1 : Int) (l2 : List Int) (A2 : Option Addr) (c2 : Nat) (hR0 : RdL w0 A0 hd0) (hL0 : l0.length ≤ c0) (hN0 : NestL w0 hd0 l0) (hR2 : RdL w0 A2 l2) (hL2 : l2.length ≤ c2) (r1 : Bool) (hc1 : r1 = true) : Bool → Exit → Act → World → Prop := Rets Try.prog Try.f6 (ClockRounds.Post w0)
theorem ClockRounds_p0 (K : Nat) (w0 : World) (l0 : List (List Int)) (hd0 : List Hdr) (A0 : Option Addr) (c0 : Nat) (x1 : Int) (l2 : List Int) (A2 : Option Addr) (c2 : Nat) (hR0 : RdL w0 A0 hd0) (hL0 : l0.length ≤ c0) (hN0 : NestL w0 hd0 l0) (hR2 : RdL w0 A2 l2) (hL2 : l2.length ≤ c2) (r1 : Bool) (hc1 : r1 = true) (o : Unit ⊕ Bool) (h : ClockRounds.p0 l0 l2 = some o) (w : World) (hS : St w0 w []) (Q : Exit → Act → World → Prop) (hQ : ∀ x a w, Outs (ClockRounds.A0 K w0 l0 hd0 A0 c0 x1 l2 A2 c2 hR0 hL0 hN0 hR2 hL2 r1 hc1) (ClockRounds.B0 K w0 l0 hd0 A0 c0 x1 l2 A2 c2 hR0 hL0 hN0 hR2 hL2 r1 hc1) o x a w → Q x a w) : WE Try.prog 107 (subF Try.f6 [1, 1, 0]) Q [(0, .slice A0 l0.length c0), (1, .int .i64 x1), (2, .slice A2 l2.length c2), (6, .bool false), (18, .bool r1), (19, .bool false)] w := by
  simp only [ClockRounds.p0] at h
  refine we_seq fun K5 hK5 => ?_
  refine we_region [(0, 0), (1, 0), (2, 1), (3, 0), (4, 0), (5, 0), (6, 0), (7, 1), (8, 0), (9, 0)] rfl ?_
  refine ge_batch [0, 1] (ans := []) (vs := [(21, .int .i64 (l0.length : Int)), (20, .slice A0 l0.length c0)]) (l := []) (by kernel_rfl) trivial ?_
  refine ge_call (d := some 22) (f := 9) (args := #[.int .i64 (l0.length : Int)]) (by kernel_rfl) (few_ok (l0.length : Int) _ _ rfl) ?_
  rintro _ w2 ⟨rfl, hS3⟩
  refine ⟨_, rfl, hS3.below, ?_⟩
  have hS4 := hS.call hS3
  refine ge_batch [3, 4] (ans := []) (vs := [(24, .bool (!(few.f (l0.length : Int)))), (23, .bool (!(few.f (l0.length : Int))))]) (l := []) (by kernel_rfl) trivial ?_
  by_cases hc2 : (few.f (l0.length : Int)) = true
  · rw [if_pos hc2] at h
    refine ge_known (t := 24) (b := !(few.f (l0.length : Int))) (c := false) (by kernel_rfl) (congrArg (fun z => !z) hc2) ?_
    refine ge_batch [5, 6] (ans := []) (vs := [(26, .int .i64 (l2.length : Int)), (25, .slice A2 l2.length c2)]) (l := []) (by kernel_rfl) trivial ?_
    refine ge_call (d := some 27) (f := 9) (args := #[.int .i64 (l2.length : Int)]) (by kernel_rfl) (few_ok (l2.length : Int) _ _ rfl) ?_
    rintro _ w3 ⟨rfl, hS5⟩
    refine ⟨_, rfl, hS5.below, ?_⟩
    have hS6 := hS4.call hS5
    refine ge_batch [8, 9] (ans := []) (vs := [(29, .bool (!(few.f (l2.length : Int)))), (28, .bool (!(few.f (l2.length : Int))))]) (l := []) (by kernel_rfl) trivial ?_
    refine ge_nil fun a hF => hK5 _ _ ?_ a hF
    by_cases hc3 : (few.f (l2.length : Int)) = true
    · rw [if_pos hc3] at h
      refine we_known (t := 29) (b := !(few.f (l2.length : Int))) (v := false) (by kernel_rfl) (congrArg (fun z => !z) hc3) ?_
      refine we_false (by kernel_rfl) ?_
      obtain rfl := Option.some.inj h
      exact we_skip fun a hF => hQ _ _ _ (Outs.again ⟨hS6, hF.weaken ⟨by kernel_rfl, by kernel_rfl, by kernel_rfl, trivial⟩⟩)
    · rw [if_neg hc3] at h
      refine we_known (t := 29) (b := !(few.f (l2.length : Int))) (v := true) (by kernel_rfl) (congrArg (fun z => !z) (Bool.eq_false_iff.2 hc3)) ?_
      refine we_true (by kernel_rfl) ?_
      refine we_seq fun K6 hK6 => ?_
      refine we_region [(0, 0)] rfl ?_
      refine ge_batch [0] (ans := []) (vs := [(6, .bool true)]) (l := []) (by kernel_rfl) trivial ?_
      refine ge_nil fun a hF => hK6 _ _ ?_ a hF
      obtain rfl := Option.some.inj h
      exact we_ret fun a hF => hQ _ _ _ (Outs.out nofun ⟨rfl, (post_ret (rs := [.tmp 6]) (ans := []) (vs := [.bool true]) (l := []) rfl (by kernel_rfl) trivial ⟨rfl, hS6⟩) a hF⟩)
  · rw [if_neg hc2] at h
    refine ge_known (t := 24) (b := !(few.f (l0.length : Int))) (c := true) (by kernel_rfl) (congrArg (fun z => !z) (Bool.eq_false_iff.2 hc2)) ?_
    refine ge_batch [5, 6] (ans := []) (vs := [(26, undef), (25, undef)]) (l := []) (by kernel_rfl) trivial ?_
    refine ge_off rfl rfl rfl (by kernel_rfl) ?_
    refine ge_batch [8, 9] (ans := []) (vs := [(29, .bool true), (28, undef)]) (l := []) (by kernel_rfl) trivial ?_
    refine ge_nil fun a hF => hK5 _ _ ?_ a hF
    refine we_true (by kernel_rfl) ?_
    refine we_seq fun K7 hK7 => ?_
    refine we_region [(0, 0)] rfl ?_
    refine ge_batch [0] (ans := []) (vs := [(6, .bool true)]) (l := []) (by kernel_rfl) trivial ?_
    refine ge_nil fun a hF => hK7 _ _ ?_ a hF
    obtain rfl := Option.some.inj h
    exact we_ret fun a hF => hQ _ _ _ (Outs.out nofun ⟨rfl, (post_ret (rs := [.tmp 6]) (ans := []) (vs := [.bool true]) (l := []) rfl (by kernel_rfl) trivial ⟨rfl, hS4⟩) a hF⟩)
abbrev ClockRounds.A1 (K : Nat) (w0 : World) (l0 : List (List Int)) (hd0 : List Hdr) (A0 : Option Addr) (c0 : Nat) (x1 : Int) (l2 : List Int) (A2 : Option Addr) (c2 : Nat) (hR0 : RdL w0 A0 hd0) (hL0 : l0.length ≤ c0) (hN0 : NestL w0 hd0 l0) (hR2 : RdL w0 A2 l2) (hL2 : l2.length ≤ c2) (r1 : Bool) (hc1 : r1 = true) (r2 : List (List Int)) (y1 : Rows) (Z1 : Option Addr) (cz1 : Nat) (hcp1 : (l2 ++ [(-9), (-9), (-9)]).length ≤ cz1) (r4 : (List Int) × SFault) (b1 : Nat) (r5 : (List Int) × SFault) (b2 : Nat) (Z2 : Option Addr) (cz2 : Nat) (Z3 : Option Addr) (cz3 : Nat) : Unit → Act → World → Prop := fun (s : Unit) a w => St w0 w [Own.nest y1 26 3 r2] ∧ Frm 107 a [(0, .slice A0 l0.length c0), (1, .int .i64 x1), (7, (Rows.val y1))]
abbrev ClockRounds.B1 (K : Nat) (w0 : World) (l0 : List (List Int)) (hd0 : List Hdr) (A0 : Option Addr) (c0 : Nat) (x1 : Int) (l2 : List Int) (A2 : Option Addr) (c2 : Nat) (hR0 : RdL w0 A0 hd0) (hL0 : l0.length ≤ c0) (hN0 : NestL w0 hd0 l0) (hR2 : RdL w0 A2 l2) (hL2 : l2.length ≤ c2) (r1 : Bool) (hc1 : r1 = true) (r2 : List (List Int)) (y1 : Rows) (Z1 : Option Addr) (cz1 : Nat) (hcp1 : (l2 ++ [(-9), (-9), (-9)]).length ≤ cz1) (r4 : (List Int) × SFault) (b1 : Nat) (r5 : (List Int) × SFault) (b2 : Nat) (Z2 : Option Addr) (cz2 : Nat) (Z3 : Option Addr) (cz3 : Nat) : Bool → Exit → Act → World → Prop := Rets Try.prog Try.f6 (ClockRounds.Post w0)
theorem ClockRounds_p1 (K : Nat) (w0 : World) (l0 : List (List Int)) (hd0 : List Hdr) (A0 : Option Addr) (c0 : Nat) (x1 : Int) (l2 : List Int) (A2 : Option Addr) (c2 : Nat) (hR0 : RdL w0 A0 hd0) (hL0 : l0.length ≤ c0) (hN0 : NestL w0 hd0 l0) (hR2 : RdL w0 A2 l2) (hL2 : l2.length ≤ c2) (r1 : Bool) (hc1 : r1 = true) (r2 : List (List Int)) (y1 : Rows) (Z1 : Option Addr) (cz1 : Nat) (hcp1 : (l2 ++ [(-9), (-9), (-9)]).length ≤ cz1) (r4 : (List Int) × SFault) (b1 : Nat) (r5 : (List Int) × SFault) (b2 : Nat) (Z2 : Option Addr) (cz2 : Nat) (Z3 : Option Addr) (cz3 : Nat) (o : Unit ⊕ Bool) (h : ClockRounds.p1 K l0 l2 r2 r4 r5 = some o) (w : World) (hS : St w0 w [Own.blk b2 (.cells #[.int .i64 r5.2.Code, .int .i64 r5.2.At] 31 (0, 0)), Own.of (.slice Z3 r5.1.length cz3) 3 r5.1, Own.blk b1 (.cells #[.int .i64 r4.2.Code, .int .i64 r4.2.At] 31 (0, 0)), Own.of (.slice Z2 r4.1.length cz2) 3 r4.1, Own.of (.slice Z1 (l2 ++ [(-9), (-9), (-9)]).length cz1) 3 (l2 ++ [(-9), (-9), (-9)]), Own.nest y1 26 3 r2]) (Q : Exit → Act → World → Prop) (hQ : ∀ x a w, Outs (ClockRounds.A1 K w0 l0 hd0 A0 c0 x1 l2 A2 c2 hR0 hL0 hN0 hR2 hL2 r1 hc1 r2 y1 Z1 cz1 hcp1 r4 b1 r5 b2 Z2 cz2 Z3 cz3) (ClockRounds.B1 K w0 l0 hd0 A0 c0 x1 l2 A2 c2 hR0 hL0 hN0 hR2 hL2 r1 hc1 r2 y1 Z1 cz1 hcp1 r4 b1 r5 b2 Z2 cz2 Z3 cz3) o x a w → Q x a w) : WE Try.prog 107 (subF Try.f6 [1, 1, 1, 1, 1, 1, 0]) Q [(0, .slice A0 l0.length c0), (1, .int .i64 x1), (2, .slice A2 l2.length c2), (7, (Rows.val y1)), (8, .slice Z1 l2.length cz1), (9, (.slice Z2 r4.1.length cz2)), (10, .pointer (some ⟨b1, 0, none⟩)), (11, (.slice Z3 r5.1.length cz3)), (12, .pointer (some ⟨b2, 0, none⟩)), (30, .slice A0 l0.length c0), (31, (Rows.val y1)), (32, .slice A2 l2.length c2), (33, .slice Z1 l2.length cz1), (34, .tuple #[(.slice Z2 r4.1.length cz2), .agg #[.int .i64 r4.2.Code, .int .i64 r4.2.At]]), (35, .slice y1.A r2.length y1.c), (36, .int .i64 x1), (37, .slice Z1 l2.length cz1), (38, .tuple #[(.slice Z2 r4.1.length cz2), .agg #[.int .i64 r4.2.Code, .int .i64 r4.2.At]]), (39, (.slice Z2 r4.1.length cz2)), (40, .agg #[.int .i64 r4.2.Code, .int .i64 r4.2.At]), (41, .tuple #[(.slice Z3 r5.1.length cz3), .agg #[.int .i64 r5.2.Code, .int .i64 r5.2.At]]), (42, .slice A0 l0.length c0), (43, .int .i64 x1), (44, .slice A2 l2.length c2), (45, .tuple #[(.slice Z3 r5.1.length cz3), .agg #[.int .i64 r5.2.Code, .int .i64 r5.2.At]]), (46, (.slice Z3 r5.1.length cz3)), (47, .agg #[.int .i64 r5.2.Code, .int .i64 r5.2.At])] w := by
  simp only [ClockRounds.p1] at h
  refine we_seq fun K12 hK12 => ?_
  refine we_region [(0, 0), (1, 0), (2, 0), (3, 0), (4, 0), (5, 0), (6, 1), (7, 0), (8, 0), (9, 0), (10, 0), (11, 0), (12, 1), (13, 0), (14, 0), (15, 0), (16, 0), (17, 0), (18, 1), (19, 0), (20, 0)] rfl ?_
  refine ge_batch [0, 1] (ans := [.val (.int .i64 r4.2.Code), .val (.int .i64 r4.2.At), .val (.int .i64 r5.2.Code), .val (.int .i64 r5.2.At)]) (vs := [(49, .agg #[.int .i64 r5.2.Code, .int .i64 r5.2.At]), (48, .agg #[.int .i64 r4.2.Code, .int .i64 r4.2.At])]) (l := [.loaded ⟨b1, 0, none⟩ (.int .i64 r4.2.Code), .loaded ⟨b1, 1, none⟩ (.int .i64 r4.2.At), .loaded ⟨b2, 0, none⟩ (.int .i64 r5.2.Code), .loaded ⟨b2, 1, none⟩ (.int .i64 r5.2.At)]) (by kernel_rfl) ⟨hS.cell 2 rfl rfl, hS.cell 2 rfl rfl, hS.cell 0 rfl rfl, hS.cell 0 rfl rfl, trivial⟩ ?_
  refine ge_eqs (d := 50) (ty := 4) (op := .neq) (x := (.tmp 48)) (y := (.tmp 49)) (t := 31) (t2 := 31) (xs := #[.int .i64 r4.2.Code, .int .i64 r4.2.At]) (ys := #[.int .i64 r5.2.Code, .int .i64 r5.2.At]) (r := (SFault.eqb r4.2 r5.2)) (v := !(SFault.eqb r4.2 r5.2)) (by kernel_rfl) (by kernel_rfl) (by kernel_rfl) (by kernel_rfl) (by kernel_rfl) rfl ?_
  refine ge_batch [3] (ans := []) (vs := [(51, .bool (!(SFault.eqb r4.2 r5.2)))]) (l := []) (by kernel_rfl) trivial ?_
  by_cases hc4 : (SFault.eqb r4.2 r5.2) = true
  · rw [if_pos hc4] at h
    refine ge_known (t := 51) (b := !(SFault.eqb r4.2 r5.2)) (c := false) (by kernel_rfl) (congrArg (fun z => !z) hc4) ?_
    rcases hq9 : ps_Same_int.f K r4.1 r5.1 with _ | r6
    · rw [hq9] at h; cases h
    rw [hq9] at h
    simp only [] at h
    refine ge_batch [4, 5] (ans := []) (vs := [(53, (.slice Z3 r5.1.length cz3)), (52, (.slice Z2 r4.1.length cz2))]) (l := []) (by kernel_rfl) trivial ?_
    refine ge_call (d := some 54) (f := 13) (args := #[(.slice Z2 r4.1.length cz2), (.slice Z3 r5.1.length cz3)]) (by kernel_rfl) (ps_Same_int_ok K r4.1 Z2 cz2 r5.1 Z3 cz3 _ (hS.rdAt 3 rfl) (hS.capAt 3 rfl) (hS.rdAt 1 rfl) (hS.capAt 1 rfl) _ hq9) ?_
    rintro _ w13 ⟨rfl, hS22⟩
    refine ⟨_, rfl, hS22.below, ?_⟩
    have hS23 := hS.call hS22
    refine ge_batch [7, 8, 9] (ans := []) (vs := [(57, .bool (!r6)), (56, .bool (!r6)), (55, .bool (!r6))]) (l := []) (by kernel_rfl) trivial ?_
    by_cases hc5 : r6 = true
    · rw [if_pos hc5] at h
      refine ge_known (t := 57) (b := !r6) (c := false) (by kernel_rfl) (congrArg (fun z => !z) hc5) ?_
      refine ge_batch [10, 11] (ans := []) (vs := [(59, .slice A0 l0.length c0), (58, (Rows.val y1))]) (l := []) (by kernel_rfl) trivial ?_
      refine ge_same (t := 58) (v := (Rows.val y1)) (v' := .slice y1.A r2.length y1.c) (by kernel_rfl) (congrArg (fun z => Value.slice y1.A z y1.c) (hS23.nestAt 5 rfl).n) ?_
      rcases hq10 : ps_Tables.f K r2 l0 with _ | r7
      · rw [hq10] at h; cases h
      rw [hq10] at h
      simp only [] at h
      refine ge_call (d := some 60) (f := 26) (args := #[.slice y1.A r2.length y1.c, .slice A0 l0.length c0]) (by kernel_rfl) (ps_Tables_ok K r2 y1.hs y1.A y1.c l0 hd0 A0 c0 _ (hS23.nestAt 5 rfl).rd (hS23.nestAt 5 rfl).cap (hS23.nestAt 5 rfl).nl (hS23.rd hR0) hL0 (hS23.rdN hN0) _ hq10) ?_
      rintro _ w14 ⟨rfl, hS24⟩
      refine ⟨_, rfl, hS24.below, ?_⟩
      have hS25 := hS23.call hS24
      refine ge_batch [13, 14, 15] (ans := []) (vs := [(63, .bool (!r7)), (62, .bool (!r7)), (61, .bool (!r7))]) (l := []) (by kernel_rfl) trivial ?_
      by_cases hc6 : r7 = true
      · rw [if_pos hc6] at h
        refine ge_known (t := 63) (b := !r7) (c := false) (by kernel_rfl) (congrArg (fun z => !z) hc6) ?_
        refine ge_batch [16, 17] (ans := []) (vs := [(65, .slice A2 l2.length c2), (64, .slice Z1 l2.length cz1)]) (l := []) (by kernel_rfl) trivial ?_
        rcases hq11 : ps_Still_int.f K (l2 ++ [(-9), (-9), (-9)]) l2 (-9) with _ | r8
        · rw [hq11] at h; cases h
        rw [hq11] at h
        simp only [] at h
        refine ge_call (d := some 66) (f := 27) (args := #[.slice Z1 l2.length cz1, .slice A2 l2.length c2, .int .i64 (-9)]) (by kernel_rfl) (ps_Still_int_ok K (l2 ++ [(-9), (-9), (-9)]) Z1 l2.length cz1 l2 A2 c2 (-9) _ (hS25.rdAt 4 rfl) hcp1 (hS25.rd hR2) hL2 _ hq11) ?_
        rintro _ w15 ⟨rfl, hS26⟩
        refine ⟨_, rfl, hS26.below, ?_⟩
        have hS27 := hS25.call hS26
        refine ge_batch [19, 20] (ans := []) (vs := [(68, .bool (!r8)), (67, .bool (!r8))]) (l := []) (by kernel_rfl) trivial ?_
        refine ge_nil fun a hF => hK12 _ _ ?_ a hF
        by_cases hc7 : r8 = true
        · rw [if_pos hc7] at h
          refine we_known (t := 68) (b := !r8) (v := false) (by kernel_rfl) (congrArg (fun z => !z) hc7) ?_
          refine we_false (by kernel_rfl) ?_
          have hS28 := hS27.bring 5 rfl
          have hS29 := hS28.takeN 1
          obtain rfl := Option.some.inj h
          exact we_skip fun a hF => hQ _ _ _ (Outs.again ⟨hS29, hF.weaken ⟨by kernel_rfl, by kernel_rfl, by kernel_rfl, trivial⟩⟩)
        · rw [if_neg hc7] at h
          refine we_known (t := 68) (b := !r8) (v := true) (by kernel_rfl) (congrArg (fun z => !z) (Bool.eq_false_iff.2 hc7)) ?_
          refine we_true (by kernel_rfl) ?_
          refine we_seq fun K13 hK13 => ?_
          refine we_region [(0, 0)] rfl ?_
          refine ge_batch [0] (ans := []) (vs := [(6, .bool false)]) (l := []) (by kernel_rfl) trivial ?_
          refine ge_nil fun a hF => hK13 _ _ ?_ a hF
          have hS30 := hS27.takeN 0
          obtain rfl := Option.some.inj h
          exact we_ret fun a hF => hQ _ _ _ (Outs.out nofun ⟨rfl, (post_ret (rs := [.tmp 6]) (ans := []) (vs := [.bool false]) (l := []) rfl (by kernel_rfl) trivial ⟨rfl, hS30⟩) a hF⟩)
      · rw [if_neg hc6] at h
        refine ge_known (t := 63) (b := !r7) (c := true) (by kernel_rfl) (congrArg (fun z => !z) (Bool.eq_false_iff.2 hc6)) ?_
        refine ge_batch [16, 17] (ans := []) (vs := [(65, undef), (64, undef)]) (l := []) (by kernel_rfl) trivial ?_
        refine ge_off rfl rfl rfl (by kernel_rfl) ?_
        refine ge_batch [19, 20] (ans := []) (vs := [(68, .bool true), (67, undef)]) (l := []) (by kernel_rfl) trivial ?_
        refine ge_nil fun a hF => hK12 _ _ ?_ a hF
        refine we_true (by kernel_rfl) ?_
        refine we_seq fun K14 hK14 => ?_
        refine we_region [(0, 0)] rfl ?_
        refine ge_batch [0] (ans := []) (vs := [(6, .bool false)]) (l := []) (by kernel_rfl) trivial ?_
        refine ge_nil fun a hF => hK14 _ _ ?_ a hF
        have hS31 := hS25.takeN 0
        obtain rfl := Option.some.inj h
        exact we_ret fun a hF => hQ _ _ _ (Outs.out nofun ⟨rfl, (post_ret (rs := [.tmp 6]) (ans := []) (vs := [.bool false]) (l := []) rfl (by kernel_rfl) trivial ⟨rfl, hS31⟩) a hF⟩)
    · rw [if_neg hc5] at h
      refine ge_known (t := 57) (b := !r6) (c := true) (by kernel_rfl) (congrArg (fun z => !z) (Bool.eq_false_iff.2 hc5)) ?_
      refine ge_batch [10, 11] (ans := []) (vs := [(59, undef), (58, undef)]) (l := []) (by kernel_rfl) trivial ?_
      refine ge_off rfl rfl rfl (by kernel_rfl) ?_
      refine ge_batch [13, 14, 15, 16, 17] (ans := []) (vs := [(65, undef), (64, undef), (63, .bool true), (62, .bool true), (61, undef)]) (l := []) (by kernel_rfl) trivial ?_
      refine ge_off rfl rfl rfl (by kernel_rfl) ?_
      refine ge_batch [19, 20] (ans := []) (vs := [(68, .bool true), (67, undef)]) (l := []) (by kernel_rfl) trivial ?_
      refine ge_nil fun a hF => hK12 _ _ ?_ a hF
      refine we_true (by kernel_rfl) ?_
      refine we_seq fun K15 hK15 => ?_
      refine we_region [(0, 0)] rfl ?_
      refine ge_batch [0] (ans := []) (vs := [(6, .bool false)]) (l := []) (by kernel_rfl) trivial ?_
      refine ge_nil fun a hF => hK15 _ _ ?_ a hF
      have hS32 := hS23.takeN 0
      obtain rfl := Option.some.inj h
      exact we_ret fun a hF => hQ _ _ _ (Outs.out nofun ⟨rfl, (post_ret (rs := [.tmp 6]) (ans := []) (vs := [.bool false]) (l := []) rfl (by kernel_rfl) trivial ⟨rfl, hS32⟩) a hF⟩)
  · rw [if_neg hc4] at h
    refine ge_known (t := 51) (b := !(SFault.eqb r4.2 r5.2)) (c := true) (by kernel_rfl) (congrArg (fun z => !z) (Bool.eq_false_iff.2 hc4)) ?_
    refine ge_batch [4, 5] (ans := []) (vs := [(53, undef), (52, undef)]) (l := []) (by kernel_rfl) trivial ?_
    refine ge_off rfl rfl rfl (by kernel_rfl) ?_
    refine ge_batch [7, 8, 9, 10, 11] (ans := []) (vs := [(59, undef), (58, undef), (57, .bool true), (56, .bool true), (55, undef)]) (l := []) (by kernel_rfl) trivial ?_
    refine ge_off rfl rfl rfl (by kernel_rfl) ?_
    refine ge_batch [13, 14, 15, 16, 17] (ans := []) (vs := [(65, undef), (64, undef), (63, .bool true), (62, .bool true), (61, undef)]) (l := []) (by kernel_rfl) trivial ?_
    refine ge_off rfl rfl rfl (by kernel_rfl) ?_
    refine ge_batch [19, 20] (ans := []) (vs := [(68, .bool true), (67, undef)]) (l := []) (by kernel_rfl) trivial ?_
    refine ge_nil fun a hF => hK12 _ _ ?_ a hF
    refine we_true (by kernel_rfl) ?_
    refine we_seq fun K16 hK16 => ?_
    refine we_region [(0, 0)] rfl ?_
    refine ge_batch [0] (ans := []) (vs := [(6, .bool false)]) (l := []) (by kernel_rfl) trivial ?_
    refine ge_nil fun a hF => hK16 _ _ ?_ a hF
    have hS33 := hS.takeN 0
    obtain rfl := Option.some.inj h
    exact we_ret fun a hF => hQ _ _ _ (Outs.out nofun ⟨rfl, (post_ret (rs := [.tmp 6]) (ans := []) (vs := [.bool false]) (l := []) rfl (by kernel_rfl) trivial ⟨rfl, hS33⟩) a hF⟩)
abbrev ClockRounds.A2 (K : Nat) (w0 : World) (l0 : List (List Int)) (hd0 : List Hdr) (A0 : Option Addr) (c0 : Nat) (x1 : Int) (l2 : List Int) (A2 : Option Addr) (c2 : Nat) (hR0 : RdL w0 A0 hd0) (hL0 : l0.length ≤ c0) (hN0 : NestL w0 hd0 l0) (hR2 : RdL w0 A2 l2) (hL2 : l2.length ≤ c2) (r1 : Bool) (hc1 : r1 = true) (r2 : List (List Int)) (y1 : Rows) (Z1 : Option Addr) (cz1 : Nat) (hcp1 : (l2 ++ [(-9), (-9), (-9)]).length ≤ cz1) (r4 : (List Int) × SFault) (b1 : Nat) (r5 : (List Int) × SFault) (b2 : Nat) (Z2 : Option Addr) (cz2 : Nat) (Z3 : Option Addr) (cz3 : Nat) : Int → Act → World → Prop := fun (s : Int) a w => St w0 w [Own.nest y1 26 3 r2] ∧ Frm 107 a [(0, .slice A0 l0.length c0), (1, .int .i64 x1), (7, (Rows.val y1)), (70, .int .i64 (l0.length : Int)), (71, .int .i64 s)]
abbrev ClockRounds.B2 (K : Nat) (w0 : World) (l0 : List (List Int)) (hd0 : List Hdr) (A0 : Option Addr) (c0 : Nat) (x1 : Int) (l2 : List Int) (A2 : Option Addr) (c2 : Nat) (hR0 : RdL w0 A0 hd0) (hL0 : l0.length ≤ c0) (hN0 : NestL w0 hd0 l0) (hR2 : RdL w0 A2 l2) (hL2 : l2.length ≤ c2) (r1 : Bool) (hc1 : r1 = true) (r2 : List (List Int)) (y1 : Rows) (Z1 : Option Addr) (cz1 : Nat) (hcp1 : (l2 ++ [(-9), (-9), (-9)]).length ≤ cz1) (r4 : (List Int) × SFault) (b1 : Nat) (r5 : (List Int) × SFault) (b2 : Nat) (Z2 : Option Addr) (cz2 : Nat) (Z3 : Option Addr) (cz3 : Nat) : (Unit ⊕ Bool) → Exit → Act → World → Prop := Exits 0 (fun (s : Unit) a w => St w0 w [] ∧ Frm 107 a []) (Rets Try.prog Try.f6 (ClockRounds.Post w0))
theorem ClockRounds_r2 (K : Nat) (w0 : World) (l0 : List (List Int)) (hd0 : List Hdr) (A0 : Option Addr) (c0 : Nat) (x1 : Int) (l2 : List Int) (A2 : Option Addr) (c2 : Nat) (hR0 : RdL w0 A0 hd0) (hL0 : l0.length ≤ c0) (hN0 : NestL w0 hd0 l0) (hR2 : RdL w0 A2 l2) (hL2 : l2.length ≤ c2) (r1 : Bool) (hc1 : r1 = true) (r2 : List (List Int)) (y1 : Rows) (Z1 : Option Addr) (cz1 : Nat) (hcp1 : (l2 ++ [(-9), (-9), (-9)]).length ≤ cz1) (r4 : (List Int) × SFault) (b1 : Nat) (r5 : (List Int) × SFault) (b2 : Nat) (Z2 : Option Addr) (cz2 : Nat) (Z3 : Option Addr) (cz3 : Nat) (s : Int) (o : Int ⊕ (Unit ⊕ Bool)) (h : ClockRounds.r2 K l0 x1 r2 s = some o) (a : Act) (w : World) (hA : ClockRounds.A2 K w0 l0 hd0 A0 c0 x1 l2 A2 c2 hR0 hL0 hN0 hR2 hL2 r1 hc1 r2 y1 Z1 cz1 hcp1 r4 b1 r5 b2 Z2 cz2 Z3 cz3 s a w) (Q : Exit → Act → World → Prop) (hQ : ∀ x a w, Outs (ClockRounds.A2 K w0 l0 hd0 A0 c0 x1 l2 A2 c2 hR0 hL0 hN0 hR2 hL2 r1 hc1 r2 y1 Z1 cz1 hcp1 r4 b1 r5 b2 Z2 cz2 Z3 cz3) (ClockRounds.B2 K w0 l0 hd0 A0 c0 x1 l2 A2 c2 hR0 hL0 hN0 hR2 hL2 r1 hc1 r2 y1 Z1 cz1 hcp1 r4 b1 r5 b2 Z2 cz2 Z3 cz3) o x a w → Q x a w) : (subF Try.f6 [1, 1, 1, 1, 1, 1, 1, 0, 1, 0, 0]).wp Try.prog Q a w := by
  obtain ⟨z1, hs⟩ : ∃ z, z = s := ⟨s, rfl⟩
  subst hs
  obtain ⟨hS, hF⟩ := hA
  replace hS : St w0 w [Own.nest y1 26 3 r2] := hS
  simp only [ClockRounds.r2] at h
  refine (?_ : WE Try.prog 107 (subF Try.f6 [1, 1, 1, 1, 1, 1, 1, 0, 1, 0, 0]) Q [(0, .slice A0 l0.length c0), (1, .int .i64 x1), (7, (Rows.val y1)), (70, .int .i64 (l0.length : Int)), (71, .int .i64 z1)] w) a hF
  clear hF a
  refine we_seq fun K19 hK19 => ?_
  refine we_region [(0, 0)] rfl ?_
  refine ge_batch [0] (ans := []) (vs := [(72, .bool (decide (z1 < (l0.length : Int))))]) (l := []) (by kernel_rfl) trivial ?_
  refine ge_nil fun a hF => hK19 _ _ ?_ a hF
  refine we_seq fun K20 hK20 => ?_
  by_cases hc8 : z1 < (l0.length : Int)
  · rw [if_pos hc8] at h
    refine we_known (t := 72) (b := decide (z1 < (l0.length : Int))) (v := true) (by kernel_rfl) (decide_eq_true hc8) ?_
    refine we_true (by kernel_rfl) ?_
    refine we_skip fun a hF => hK20 _ _ ?_ a hF
    refine we_seq fun K21 hK21 => ?_
    refine we_block ?_
    refine we_seq fun K22 hK22 => ?_
    refine we_region [(0, 0), (1, 0)] rfl ?_
    refine ge_batch [0, 1] (ans := []) (vs := [(13, .int .i64 z1), (73, .int .i64 z1)]) (l := []) (by kernel_rfl) trivial ?_
    refine ge_nil fun a hF => hK22 _ _ ?_ a hF
    refine we_seq fun K23 hK23 => ?_
    refine we_region [(0, 0), (1, 0), (2, 0), (3, 0), (4, 0), (5, 1), (6, 0), (7, 0), (8, 0), (9, 0), (10, 0)] rfl ?_
    refine ge_batch [0, 1] (ans := []) (vs := [(76, .int .i64 z1), (75, (Rows.val y1))]) (l := []) (by kernel_rfl) trivial ?_
    by_cases hc9 : 0 ≤ z1
    · rw [if_pos hc9] at h
      rcases hx3 : r2[(z1).toNat]? with _ | e1
      · rw [hx3] at h; cases h
      rw [hx3] at h
      simp only [] at h
      obtain ⟨An1, cn1, hxn1, -, -⟩ := (hS.nestAt 0 rfl).nl.get hx3
      refine ge_index (d := 77) (ty := 0) (t := 51) (el := 26) (sz := 1) (m := y1.n) (c := y1.c) (x := (.tmp 75)) (y := (.tmp 76)) (A := y1.A) (k' := .i64) (j := z1) (jn := ((z1).toNat)) (b0 := blkOf y1.A) (o0 := offOf y1.A) (by kernel_rfl) (by kernel_rfl) (by kernel_rfl) (by kernel_rfl) (by kernel_rfl) ((hS.nestAt 0 rfl).rd.eqSome (pos_of_get hxn1)) (Int.toNat_of_nonneg hc9).symm (by have h0 := lt_of_get hx3; have h1 := (hS.nestAt 0 rfl).n; omega) ?_
      rcases hq13 : net_Middle.f K e1 x1 with _ | r9
      · rw [hq13] at h; cases h
      rw [hq13] at h
      simp only [] at h
      refine ge_batch [3, 4] (ans := [.val (.slice An1 e1.length cn1)]) (vs := [(79, .int .i64 x1), (78, .slice An1 e1.length cn1)]) (l := [.loaded ⟨blkOf y1.A, offOf y1.A + ((z1).toNat) * 1, none⟩ (.slice An1 e1.length cn1)]) (by kernel_rfl) ⟨RdL.cell (j := 0) ((hS.nestAt 0 rfl).rd) hxn1 rfl, trivial⟩ ?_
      refine ge_call (d := some 80) (f := 28) (args := #[.slice An1 e1.length cn1, .int .i64 x1]) (by kernel_rfl) (net_Middle_ok K e1 An1 cn1 x1 _ (((hS.nestAt 0 rfl).nl.each _ _ _ hxn1 hx3).2.1) ((hS.nestAt 0 rfl).nl.each _ _ _ hxn1 hx3).2.2 _ hq13) ?_
      rintro _ w17 ⟨rfl, hS35⟩
      refine ⟨_, rfl, hS35.below, ?_⟩
      have hS36 := hS.call hS35
      refine ge_batch [6, 7, 8, 9, 10] (ans := []) (vs := [(15, .int .i64 r9.2), (14, .int .i64 r9.1), (82, .int .i64 r9.2), (81, .int .i64 r9.1), (74, .tuple #[.int .i64 r9.1, .int .i64 r9.2])]) (l := []) (by kernel_rfl) trivial ?_
      refine ge_nil fun a hF => hK23 _ _ ?_ a hF
      refine we_seq fun K24 hK24 => ?_
      refine we_region [(0, 0), (1, 0), (2, 0), (3, 0), (4, 0), (5, 1), (6, 0), (7, 0), (8, 0), (9, 0), (10, 0)] rfl ?_
      refine ge_batch [0, 1] (ans := []) (vs := [(85, .int .i64 z1), (84, .slice A0 l0.length c0)]) (l := []) (by kernel_rfl) trivial ?_
      rcases hx4 : l0[(z1).toNat]? with _ | e2
      · rw [hx4] at h; cases h
      rw [hx4] at h
      simp only [] at h
      obtain ⟨An2, cn2, hxn2, hRn1, hLn1⟩ := hN0.get hx4
      refine ge_index (d := 86) (ty := 0) (t := 51) (el := 26) (sz := 1) (m := l0.length) (c := c0) (x := (.tmp 84)) (y := (.tmp 85)) (A := A0) (k' := .i64) (j := z1) (jn := ((z1).toNat)) (b0 := blkOf A0) (o0 := offOf A0) (by kernel_rfl) (by kernel_rfl) (by kernel_rfl) (by kernel_rfl) (by kernel_rfl) ((hS36.rd hR0).eqSome (pos_of_get hxn2)) (Int.toNat_of_nonneg hc9).symm (lt_of_get hx4) ?_
      rcases hq14 : pr_MiddleOf.f K e2 x1 with _ | r10
      · rw [hq14] at h; cases h
      rw [hq14] at h
      simp only [] at h
      refine ge_batch [3, 4] (ans := [.val (.slice An2 e2.length cn2)]) (vs := [(88, .int .i64 x1), (87, .slice An2 e2.length cn2)]) (l := [.loaded ⟨blkOf A0, offOf A0 + ((z1).toNat) * 1, none⟩ (.slice An2 e2.length cn2)]) (by kernel_rfl) ⟨RdL.cell (j := 0) (hS36.rd hR0) hxn2 rfl, trivial⟩ ?_
      refine ge_call (d := some 89) (f := 29) (args := #[.slice An2 e2.length cn2, .int .i64 x1]) (by kernel_rfl) (pr_MiddleOf_ok K e2 An2 cn2 x1 _ (hS36.rd hRn1) hLn1 _ hq14) ?_
      rintro _ w18 ⟨rfl, hS37⟩
      refine ⟨_, rfl, hS37.below, ?_⟩
      have hS38 := hS36.call hS37
      refine ge_batch [6, 7, 8, 9, 10] (ans := []) (vs := [(17, .int .i64 r10.2), (16, .int .i64 r10.1), (91, .int .i64 r10.2), (90, .int .i64 r10.1), (83, .tuple #[.int .i64 r10.1, .int .i64 r10.2])]) (l := []) (by kernel_rfl) trivial ?_
      refine ge_nil fun a hF => hK24 _ _ ?_ a hF
      refine we_seq fun K25 hK25 => ?_
      refine we_region [(0, 0), (1, 0), (2, 0), (3, 0), (4, 0), (5, 0), (6, 0), (7, 0), (8, 0), (9, 0), (10, 0), (11, 1), (12, 0), (13, 0)] rfl ?_
      refine ge_batch [0, 1, 2, 3] (ans := []) (vs := [(95, .bool (r9.1 != r10.1)), (94, .bool (r9.1 != r10.1)), (93, .int .i64 r10.1), (92, .int .i64 r9.1)]) (l := []) (by kernel_rfl) trivial ?_
      by_cases hc10 : r9.1 = r10.1
      · rw [if_pos hc10] at h
        refine ge_known (t := 95) (b := (r9.1 != r10.1)) (c := false) (by kernel_rfl) (bne_eq_false_iff_eq.2 hc10) ?_
        refine ge_batch [4, 5, 6, 7, 8] (ans := []) (vs := [(100, .bool (r9.2 != r10.2)), (99, .bool (r9.2 != r10.2)), (98, .bool (r9.2 != r10.2)), (97, .int .i64 r10.2), (96, .int .i64 r9.2)]) (l := []) (by kernel_rfl) trivial ?_
        by_cases hc11 : r9.2 = r10.2
        · rw [if_pos hc11] at h
          refine ge_known (t := 100) (b := (r9.2 != r10.2)) (c := false) (by kernel_rfl) (bne_eq_false_iff_eq.2 hc11) ?_
          refine ge_batch [9, 10] (ans := []) (vs := [(102, .slice A0 l0.length c0), (101, (Rows.val y1))]) (l := []) (by kernel_rfl) trivial ?_
          refine ge_same (t := 101) (v := (Rows.val y1)) (v' := .slice y1.A r2.length y1.c) (by kernel_rfl) (congrArg (fun z => Value.slice y1.A z y1.c) (hS38.nestAt 0 rfl).n) ?_
          rcases hq15 : ps_Tables.f K r2 l0 with _ | r11
          · rw [hq15] at h; cases h
          rw [hq15] at h
          simp only [] at h
          refine ge_call (d := some 103) (f := 26) (args := #[.slice y1.A r2.length y1.c, .slice A0 l0.length c0]) (by kernel_rfl) (ps_Tables_ok K r2 y1.hs y1.A y1.c l0 hd0 A0 c0 _ (hS38.nestAt 0 rfl).rd (hS38.nestAt 0 rfl).cap (hS38.nestAt 0 rfl).nl (hS38.rd hR0) hL0 (hS38.rdN hN0) _ hq15) ?_
          rintro _ w19 ⟨rfl, hS39⟩
          refine ⟨_, rfl, hS39.below, ?_⟩
          have hS40 := hS38.call hS39
          refine ge_batch [12, 13] (ans := []) (vs := [(105, .bool (!r11)), (104, .bool (!r11))]) (l := []) (by kernel_rfl) trivial ?_
          refine ge_nil fun a hF => hK25 _ _ ?_ a hF
          by_cases hc12 : r11 = true
          · rw [if_pos hc12] at h
            refine we_known (t := 105) (b := !r11) (v := false) (by kernel_rfl) (congrArg (fun z => !z) hc12) ?_
            refine we_false (by kernel_rfl) ?_
            refine we_skip fun a hF => hK21 _ _ ?_ a hF
            refine we_region [(0, 0), (1, 0)] rfl ?_
            refine ge_batch [0, 1] (ans := []) (vs := [(71, .int .i64 (IntKind.i64.wrap (z1 + 1))), (106, .int .i64 (IntKind.i64.wrap (z1 + 1)))]) (l := []) (by kernel_rfl) trivial ?_
            obtain rfl := Option.some.inj h
            exact ge_nil fun a hF => hQ _ _ _ (Outs.again ⟨hS40, hF.weaken ⟨by kernel_rfl, by kernel_rfl, by kernel_rfl, by kernel_rfl, by kernel_rfl, trivial⟩⟩)
          · rw [if_neg hc12] at h
            refine we_known (t := 105) (b := !r11) (v := true) (by kernel_rfl) (congrArg (fun z => !z) (Bool.eq_false_iff.2 hc12)) ?_
            refine we_true (by kernel_rfl) ?_
            refine we_seq fun K26 hK26 => ?_
            refine we_region [(0, 0)] rfl ?_
            refine ge_batch [0] (ans := []) (vs := [(6, .bool false)]) (l := []) (by kernel_rfl) trivial ?_
            refine ge_nil fun a hF => hK26 _ _ ?_ a hF
            have hS41 := hS40.takeN 0
            obtain rfl := Option.some.inj h
            exact we_ret fun a hF => hQ _ _ _ (Outs.out nofun (Exits.on ⟨rfl, (post_ret (rs := [.tmp 6]) (ans := []) (vs := [.bool false]) (l := []) rfl (by kernel_rfl) trivial ⟨rfl, hS41⟩) a hF⟩))
        · rw [if_neg hc11] at h
          refine ge_known (t := 100) (b := (r9.2 != r10.2)) (c := true) (by kernel_rfl) (bne_iff_ne.2 hc11) ?_
          refine ge_batch [9, 10] (ans := []) (vs := [(102, undef), (101, undef)]) (l := []) (by kernel_rfl) trivial ?_
          refine ge_off rfl rfl rfl (by kernel_rfl) ?_
          refine ge_batch [12, 13] (ans := []) (vs := [(105, .bool true), (104, undef)]) (l := []) (by kernel_rfl) trivial ?_
          refine ge_nil fun a hF => hK25 _ _ ?_ a hF
          refine we_true (by kernel_rfl) ?_
          refine we_seq fun K27 hK27 => ?_
          refine we_region [(0, 0)] rfl ?_
          refine ge_batch [0] (ans := []) (vs := [(6, .bool false)]) (l := []) (by kernel_rfl) trivial ?_
          refine ge_nil fun a hF => hK27 _ _ ?_ a hF
          have hS42 := hS38.takeN 0
          obtain rfl := Option.some.inj h
          exact we_ret fun a hF => hQ _ _ _ (Outs.out nofun (Exits.on ⟨rfl, (post_ret (rs := [.tmp 6]) (ans := []) (vs := [.bool false]) (l := []) rfl (by kernel_rfl) trivial ⟨rfl, hS42⟩) a hF⟩))
      · rw [if_neg hc10] at h
        refine ge_known (t := 95) (b := (r9.1 != r10.1)) (c := true) (by kernel_rfl) (bne_iff_ne.2 hc10) ?_
        refine ge_batch [4, 5, 6, 7, 8, 9, 10] (ans := []) (vs := [(102, undef), (101, undef), (100, .bool true), (99, .bool true), (98, undef), (97, undef), (96, undef)]) (l := []) (by kernel_rfl) trivial ?_
        refine ge_off rfl rfl rfl (by kernel_rfl) ?_
        refine ge_batch [12, 13] (ans := []) (vs := [(105, .bool true), (104, undef)]) (l := []) (by kernel_rfl) trivial ?_
        refine ge_nil fun a hF => hK25 _ _ ?_ a hF
        refine we_true (by kernel_rfl) ?_
        refine we_seq fun K28 hK28 => ?_
        refine we_region [(0, 0)] rfl ?_
        refine ge_batch [0] (ans := []) (vs := [(6, .bool false)]) (l := []) (by kernel_rfl) trivial ?_
        refine ge_nil fun a hF => hK28 _ _ ?_ a hF
        have hS43 := hS38.takeN 0
        obtain rfl := Option.some.inj h
        exact we_ret fun a hF => hQ _ _ _ (Outs.out nofun (Exits.on ⟨rfl, (post_ret (rs := [.tmp 6]) (ans := []) (vs := [.bool false]) (l := []) rfl (by kernel_rfl) trivial ⟨rfl, hS43⟩) a hF⟩))
    · rw [if_neg hc9] at h
      cases h
  · rw [if_neg hc8] at h
    refine we_known (t := 72) (b := decide (z1 < (l0.length : Int))) (v := false) (by kernel_rfl) (decide_eq_false hc8) ?_
    refine we_false (by kernel_rfl) ?_
    have hS44 := hS.takeN 0
    obtain rfl := Option.some.inj h
    exact we_exit fun a hF => hQ _ _ _ (Outs.out nofun (Exits.here ⟨hS44, hF.weaken trivial⟩))
theorem ClockRounds_ok (K : Nat) (l0 : List (List Int)) (hd0 : List Hdr) (A0 : Option Addr) (c0 : Nat) (x1 : Int) (l2 : List Int) (A2 : Option Addr) (c2 : Nat) (w0 : World) (hR0 : RdL w0 A0 hd0) (hL0 : l0.length ≤ c0) (hN0 : NestL w0 hd0 l0) (hR2 : RdL w0 A2 l2) (hL2 : l2.length ≤ c2) (r : Bool) (h : ClockRounds.f K l0 x1 l2 = some r) :
    Calls Try.prog 6 #[.slice A0 l0.length c0, .int .i64 x1, .slice A2 l2.length c2] w0 (ClockRounds.Post w0 r) := by
  have hS := St.start w0
  unfold ClockRounds.f at h
  refine calls_enter (n := 107) (args := [.slice A0 l0.length c0, .int .i64 x1, .slice A2 l2.length c2]) (fn := Try.f6) rfl rfl rfl rfl ?_
  show WE _ _ _ _ [(0, .slice A0 l0.length c0), (1, .int .i64 x1), (2, .slice A2 l2.length c2)] _
  refine we_seq fun K1 hK1 => ?_
  refine we_region [(0, 0)] rfl ?_
  refine ge_batch [0] (ans := []) (vs := [(6, .bool false)]) (l := []) (by kernel_rfl) trivial ?_
  refine ge_nil fun a hF => hK1 _ _ ?_ a hF
  refine we_seq fun K2 hK2 => ?_
  refine we_seq fun K3 hK3 => ?_
  refine we_region [(0, 1), (1, 0)] rfl ?_
  rcases hq1 : middle.f K with _ | r1
  · rw [hq1] at h; cases h
  rw [hq1] at h
  simp only [] at h
  refine ge_call (d := some 18) (f := 18) (args := #[]) (by kernel_rfl) (middle_ok K _ _ hq1) ?_
  rintro _ w1 ⟨rfl, hS1⟩
  refine ⟨_, rfl, hS1.below, ?_⟩
  have hS2 := hS.call hS1
  refine ge_batch [1] (ans := []) (vs := [(19, .bool (!r1))]) (l := []) (by kernel_rfl) trivial ?_
  refine ge_nil fun a hF => hK3 _ _ ?_ a hF
  by_cases hc1 : r1 = true
  · rw [if_pos hc1] at h
    refine we_known (t := 19) (b := !r1) (v := false) (by kernel_rfl) (congrArg (fun z => !z) hc1) ?_
    refine we_false (by kernel_rfl) ?_
    refine we_skip fun a hF => hK2 _ _ ?_ a hF
    refine we_seq fun K4 hK4 => ?_
    rcases hq4 : ClockRounds.p0 l0 l2 with _ | (_ | rr3)
    · rw [hq4] at h; cases h
    · rw [hq4] at h
      simp only [] at h
      refine we_keep (e' := [(0, .slice A0 l0.length c0), (1, .int .i64 x1), (2, .slice A2 l2.length c2), (6, .bool false), (18, .bool r1), (19, .bool false)]) ⟨by kernel_rfl, by kernel_rfl, by kernel_rfl, by kernel_rfl, by kernel_rfl, by kernel_rfl, trivial⟩ (ClockRounds_p0 K w0 l0 hd0 A0 c0 x1 l2 A2 c2 hR0 hL0 hN0 hR2 hL2 r1 hc1 _ hq4 _ hS2 _ ?_)
      rintro _ a w4 ⟨rfl, hS7, hF⟩
      replace hS7 : St w0 w4 [] := hS7
      refine hK4 [(0, .slice A0 l0.length c0), (1, .int .i64 x1), (2, .slice A2 l2.length c2)] w4 ?_ a hF
      refine we_seq fun K8 hK8 => ?_
      refine we_region [(0, 0), (1, 1), (2, 0), (3, 1), (4, 0), (5, 0)] rfl ?_
      rcases hq5 : ps_Copy.f K l0 with _ | r2
      · rw [hq5] at h; cases h
      rw [hq5] at h
      simp only [] at h
      refine ge_batch [0] (ans := []) (vs := [(30, .slice A0 l0.length c0)]) (l := []) (by kernel_rfl) trivial ?_
      refine ge_call (d := some 31) (f := 23) (args := #[.slice A0 l0.length c0]) (by kernel_rfl) (ps_Copy_ok K l0 hd0 A0 c0 _ (hS7.rd hR0) hL0 (hS7.rdN hN0) _ hq5) ?_
      rintro _ w5 ⟨y1, rfl, hS8⟩
      refine ⟨_, rfl, hS8.below, ?_⟩
      have hS9 := hS7.call hS8
      refine ge_batch [2] (ans := []) (vs := [(32, .slice A2 l2.length c2)]) (l := []) (by kernel_rfl) trivial ?_
      rcases hq6 : ps_Lend_int.f l2 (-9) with _ | r3
      · rw [hq6] at h; cases h
      rw [hq6] at h
      simp only [] at h
      obtain rfl := ps_Lend_int_full _ _ hq6
      refine ge_call (d := some 33) (f := 24) (args := #[.slice A2 l2.length c2, .int .i64 (-9)]) (by kernel_rfl) (ps_Lend_int_ok l2 A2 c2 (-9) _ (hS9.rd hR2) hL2 _ hq6) ?_
      rintro _ w6 ⟨Z1, cz1, rfl, hcp1, hS10⟩
      refine ⟨_, rfl, hS10.below, ?_⟩
      have hS11 := hS9.call hS10
      refine ge_batch [4, 5] (ans := []) (vs := [(8, .slice Z1 l2.length cz1), (7, (Rows.val y1))]) (l := []) (by kernel_rfl) trivial ?_
      refine ge_nil fun a hF => hK8 _ _ ?_ a hF
      refine we_seq fun K9 hK9 => ?_
      refine we_region [(0, 0), (1, 0), (2, 0), (3, 1), (4, 0), (5, 0), (6, 0), (7, 1), (8, 0), (9, 2)] rfl ?_
      refine ge_batch [0, 1, 2] (ans := []) (vs := [(37, .slice Z1 l2.length cz1), (36, .int .i64 x1), (35, (Rows.val y1))]) (l := []) (by kernel_rfl) trivial ?_
      refine ge_same (t := 35) (v := (Rows.val y1)) (v' := .slice y1.A r2.length y1.c) (by kernel_rfl) (congrArg (fun z => Value.slice y1.A z y1.c) (hS11.nestAt 1 rfl).n) ?_
      rcases hq7 : net_Round.f K r2 x1 l2 with _ | r4
      · rw [hq7] at h; cases h
      rw [hq7] at h
      simp only [] at h
      refine ge_call (d := some 38) (f := 22) (args := #[.slice y1.A r2.length y1.c, .int .i64 x1, .slice Z1 l2.length cz1]) (by kernel_rfl) (net_Round_ok K r2 y1.hs y1.A y1.c x1 l2 Z1 cz1 _ (hS11.nestAt 1 rfl).rd (hS11.nestAt 1 rfl).cap (hS11.nestAt 1 rfl).nl ((hS11.rdAt 0 rfl).pre) (by have h0 := hcp1; simp only [List.length_append, List.length_cons, List.length_nil] at h0; omega) _ hq7) ?_
      rintro _ w7 ⟨v1, rfl, hS12⟩
      refine ⟨_, rfl, hS12.below, ?_⟩
      have hS13 := hS11.call hS12
      refine ge_batch [4, 5, 6] (ans := []) (vs := [(40, .agg #[.int .i64 r4.2.Code, .int .i64 r4.2.At]), (39, v1), (34, .tuple #[v1, .agg #[.int .i64 r4.2.Code, .int .i64 r4.2.At]])]) (l := []) (by kernel_rfl) trivial ?_
      refine ge_new (d := some 10) (o := .cells #[.int .i64 0, .int .i64 0] 31) (v := fun b => .pointer (some ⟨b, 0, none⟩)) hS13 (fun b => by kernel_rfl) fun b1 w8 hx1 hS14 => ?_
      refine ge_batch [8] (ans := []) (vs := [(9, v1)]) (l := []) (by kernel_rfl) trivial ?_
      refine ge_set (b := b1) (j := 0) (cs := #[.int .i64 0, .int .i64 0]) (t := 31) (vs := [.int .i64 r4.2.Code, .int .i64 r4.2.At]) hS14 (by kernel_rfl) rfl rfl fun w9 hS15 => ?_
      have hS16 := hS15.nc #[.int .i64 r4.2.Code, .int .i64 r4.2.At] (by kernel_rfl)
      refine ge_nil fun a hF => hK9 _ _ ?_ a hF
      refine we_seq fun K10 hK10 => ?_
      refine we_region [(0, 0), (1, 0), (2, 0), (3, 1), (4, 0), (5, 0), (6, 0), (7, 1), (8, 0), (9, 2)] rfl ?_
      rcases hq8 : pr_RoundOf.f K l0 x1 l2 with _ | r5
      · rw [hq8] at h; cases h
      rw [hq8] at h
      simp only [] at h
      refine ge_batch [0, 1, 2] (ans := []) (vs := [(44, .slice A2 l2.length c2), (43, .int .i64 x1), (42, .slice A0 l0.length c0)]) (l := []) (by kernel_rfl) trivial ?_
      refine ge_call (d := some 45) (f := 25) (args := #[.slice A0 l0.length c0, .int .i64 x1, .slice A2 l2.length c2]) (by kernel_rfl) (pr_RoundOf_ok K l0 hd0 A0 c0 x1 l2 A2 c2 _ (hS16.rd hR0) hL0 (hS16.rdN hN0) (hS16.rd hR2) hL2 _ hq8) ?_
      rintro _ w10 ⟨v2, rfl, hS17⟩
      refine ⟨_, rfl, hS17.below, ?_⟩
      have hS18 := hS16.call hS17
      refine ge_batch [4, 5, 6] (ans := []) (vs := [(47, .agg #[.int .i64 r5.2.Code, .int .i64 r5.2.At]), (46, v2), (41, .tuple #[v2, .agg #[.int .i64 r5.2.Code, .int .i64 r5.2.At]])]) (l := []) (by kernel_rfl) trivial ?_
      refine ge_new (d := some 12) (o := .cells #[.int .i64 0, .int .i64 0] 31) (v := fun b => .pointer (some ⟨b, 0, none⟩)) hS18 (fun b => by kernel_rfl) fun b2 w11 hx2 hS19 => ?_
      refine ge_batch [8] (ans := []) (vs := [(11, v2)]) (l := []) (by kernel_rfl) trivial ?_
      refine ge_set (b := b2) (j := 0) (cs := #[.int .i64 0, .int .i64 0]) (t := 31) (vs := [.int .i64 r5.2.Code, .int .i64 r5.2.At]) hS19 (by kernel_rfl) rfl rfl fun w12 hS20 => ?_
      have hS21 := hS20.nc #[.int .i64 r5.2.Code, .int .i64 r5.2.At] (by kernel_rfl)
      refine ge_nil fun a hF => hK10 _ _ ?_ a hF
      refine we_seq fun K11 hK11 => ?_
      obtain ⟨Z2, cz2, rfl⟩ := hS21.open 3 rfl
      obtain ⟨Z3, cz3, rfl⟩ := hS21.open 1 rfl
      rcases hq12 : ClockRounds.p1 K l0 l2 r2 r4 r5 with _ | (_ | rr2)
      · rw [hq12] at h; cases h
      · rw [hq12] at h
        simp only [] at h
        refine we_keep (e' := [(0, .slice A0 l0.length c0), (1, .int .i64 x1), (2, .slice A2 l2.length c2), (7, (Rows.val y1)), (8, .slice Z1 l2.length cz1), (9, (.slice Z2 r4.1.length cz2)), (10, .pointer (some ⟨b1, 0, none⟩)), (11, (.slice Z3 r5.1.length cz3)), (12, .pointer (some ⟨b2, 0, none⟩)), (30, .slice A0 l0.length c0), (31, (Rows.val y1)), (32, .slice A2 l2.length c2), (33, .slice Z1 l2.length cz1), (34, .tuple #[(.slice Z2 r4.1.length cz2), .agg #[.int .i64 r4.2.Code, .int .i64 r4.2.At]]), (35, .slice y1.A r2.length y1.c), (36, .int .i64 x1), (37, .slice Z1 l2.length cz1), (38, .tuple #[(.slice Z2 r4.1.length cz2), .agg #[.int .i64 r4.2.Code, .int .i64 r4.2.At]]), (39, (.slice Z2 r4.1.length cz2)), (40, .agg #[.int .i64 r4.2.Code, .int .i64 r4.2.At]), (41, .tuple #[(.slice Z3 r5.1.length cz3), .agg #[.int .i64 r5.2.Code, .int .i64 r5.2.At]]), (42, .slice A0 l0.length c0), (43, .int .i64 x1), (44, .slice A2 l2.length c2), (45, .tuple #[(.slice Z3 r5.1.length cz3), .agg #[.int .i64 r5.2.Code, .int .i64 r5.2.At]]), (46, (.slice Z3 r5.1.length cz3)), (47, .agg #[.int .i64 r5.2.Code, .int .i64 r5.2.At])]) ⟨by kernel_rfl, by kernel_rfl, by kernel_rfl, by kernel_rfl, by kernel_rfl, by kernel_rfl, by kernel_rfl, by kernel_rfl, by kernel_rfl, by kernel_rfl, by kernel_rfl, by kernel_rfl, by kernel_rfl, by kernel_rfl, by kernel_rfl, by kernel_rfl, by kernel_rfl, by kernel_rfl, by kernel_rfl, by kernel_rfl, by kernel_rfl, by kernel_rfl, by kernel_rfl, by kernel_rfl, by kernel_rfl, by kernel_rfl, by kernel_rfl, trivial⟩ (ClockRounds_p1 K w0 l0 hd0 A0 c0 x1 l2 A2 c2 hR0 hL0 hN0 hR2 hL2 r1 hc1 r2 y1 Z1 cz1 hcp1 r4 b1 r5 b2 Z2 cz2 Z3 cz3 _ hq12 _ hS21 _ ?_)
        rintro _ a w16 ⟨rfl, hS34, hF⟩
        replace hS34 : St w0 w16 [Own.nest y1 26 3 r2] := hS34
        refine hK11 [(0, .slice A0 l0.length c0), (1, .int .i64 x1), (7, (Rows.val y1))] w16 ?_ a hF
        refine we_seq fun K17 hK17 => ?_
        refine we_seq fun K18 hK18 => ?_
        refine we_region [(0, 0), (1, 0), (2, 0)] rfl ?_
        refine ge_batch [0, 1, 2] (ans := []) (vs := [(71, .int .i64 0), (70, .int .i64 (l0.length : Int)), (69, .slice A0 l0.length c0)]) (l := []) (by kernel_rfl) trivial ?_
        refine ge_nil fun a hF => hK18 _ _ ?_ a hF
        refine we_block ?_
        rcases hq16 : iter (ClockRounds.r2 K l0 x1 r2) K 0 with _ | (_ | rr1)
        · rw [hq16] at h; cases h
        · rw [hq16] at h
          simp only [] at h
          refine we_iter (A := ClockRounds.A2 K w0 l0 hd0 A0 c0 x1 l2 A2 c2 hR0 hL0 hN0 hR2 hL2 r1 hc1 r2 y1 Z1 cz1 hcp1 r4 b1 r5 b2 Z2 cz2 Z3 cz3) (B := ClockRounds.B2 K w0 l0 hd0 A0 c0 x1 l2 A2 c2 hR0 hL0 hN0 hR2 hL2 r1 hc1 r2 y1 Z1 cz1 hcp1 r4 b1 r5 b2 Z2 cz2 Z3 cz3) hq16 (fun a hF => ⟨hS34, hF.weaken ⟨by kernel_rfl, by kernel_rfl, by kernel_rfl, by kernel_rfl, by kernel_rfl, trivial⟩⟩) (fun s o hf a w hA Q hQ => ClockRounds_r2 K w0 l0 hd0 A0 c0 x1 l2 A2 c2 hR0 hL0 hN0 hR2 hL2 r1 hc1 r2 y1 Z1 cz1 hcp1 r4 b1 r5 b2 Z2 cz2 Z3 cz3 s o hf a w hA Q hQ) ?_
          rintro _ a w20 _ ⟨rfl, hS45, hF⟩
          replace hS45 : St w0 w20 [] := hS45
          refine hK17 [] w20 ?_ a hF
          refine we_seq fun K29 hK29 => ?_
          refine we_region [(0, 0)] rfl ?_
          refine ge_batch [0] (ans := []) (vs := [(6, .bool true)]) (l := []) (by kernel_rfl) trivial ?_
          refine ge_nil fun a hF => hK29 _ _ ?_ a hF
          obtain rfl := Option.some.inj h
          exact we_ret (post_ret (rs := [.tmp 6]) (ans := []) (vs := [.bool true]) (l := []) rfl (by kernel_rfl) trivial ⟨rfl, hS45⟩)
        · rw [hq16] at h
          simp only [] at h
          refine we_iter (A := ClockRounds.A2 K w0 l0 hd0 A0 c0 x1 l2 A2 c2 hR0 hL0 hN0 hR2 hL2 r1 hc1 r2 y1 Z1 cz1 hcp1 r4 b1 r5 b2 Z2 cz2 Z3 cz3) (B := ClockRounds.B2 K w0 l0 hd0 A0 c0 x1 l2 A2 c2 hR0 hL0 hN0 hR2 hL2 r1 hc1 r2 y1 Z1 cz1 hcp1 r4 b1 r5 b2 Z2 cz2 Z3 cz3) hq16 (fun a hF => ⟨hS34, hF.weaken ⟨by kernel_rfl, by kernel_rfl, by kernel_rfl, by kernel_rfl, by kernel_rfl, trivial⟩⟩) (fun s o hf a w hA Q hQ => ClockRounds_r2 K w0 l0 hd0 A0 c0 x1 l2 A2 c2 hR0 hL0 hN0 hR2 hL2 r1 hc1 r2 y1 Z1 cz1 hcp1 r4 b1 r5 b2 Z2 cz2 Z3 cz3 s o hf a w hA Q hQ) ?_
          rintro _ a w1 _ ⟨rfl, hb⟩
          obtain rfl := Option.some.inj h
          exact hb
      · rw [hq12] at h
        simp only [] at h
        refine we_keep (e' := [(0, .slice A0 l0.length c0), (1, .int .i64 x1), (2, .slice A2 l2.length c2), (7, (Rows.val y1)), (8, .slice Z1 l2.length cz1), (9, (.slice Z2 r4.1.length cz2)), (10, .pointer (some ⟨b1, 0, none⟩)), (11, (.slice Z3 r5.1.length cz3)), (12, .pointer (some ⟨b2, 0, none⟩)), (30, .slice A0 l0.length c0), (31, (Rows.val y1)), (32, .slice A2 l2.length c2), (33, .slice Z1 l2.length cz1), (34, .tuple #[(.slice Z2 r4.1.length cz2), .agg #[.int .i64 r4.2.Code, .int .i64 r4.2.At]]), (35, .slice y1.A r2.length y1.c), (36, .int .i64 x1), (37, .slice Z1 l2.length cz1), (38, .tuple #[(.slice Z2 r4.1.length cz2), .agg #[.int .i64 r4.2.Code, .int .i64 r4.2.At]]), (39, (.slice Z2 r4.1.length cz2)), (40, .agg #[.int .i64 r4.2.Code, .int .i64 r4.2.At]), (41, .tuple #[(.slice Z3 r5.1.length cz3), .agg #[.int .i64 r5.2.Code, .int .i64 r5.2.At]]), (42, .slice A0 l0.length c0), (43, .int .i64 x1), (44, .slice A2 l2.length c2), (45, .tuple #[(.slice Z3 r5.1.length cz3), .agg #[.int .i64 r5.2.Code, .int .i64 r5.2.At]]), (46, (.slice Z3 r5.1.length cz3)), (47, .agg #[.int .i64 r5.2.Code, .int .i64 r5.2.At])]) ⟨by kernel_rfl, by kernel_rfl, by kernel_rfl, by kernel_rfl, by kernel_rfl, by kernel_rfl, by kernel_rfl, by kernel_rfl, by kernel_rfl, by kernel_rfl, by kernel_rfl, by kernel_rfl, by kernel_rfl, by kernel_rfl, by kernel_rfl, by kernel_rfl, by kernel_rfl, by kernel_rfl, by kernel_rfl, by kernel_rfl, by kernel_rfl, by kernel_rfl, by kernel_rfl, by kernel_rfl, by kernel_rfl, by kernel_rfl, by kernel_rfl, trivial⟩ (ClockRounds_p1 K w0 l0 hd0 A0 c0 x1 l2 A2 c2 hR0 hL0 hN0 hR2 hL2 r1 hc1 r2 y1 Z1 cz1 hcp1 r4 b1 r5 b2 Z2 cz2 Z3 cz3 _ hq12 _ hS21 _ ?_)
        rintro _ a w1 ⟨_, rfl, hb⟩
        obtain rfl := Option.some.inj h
        exact hb
    · rw [hq4] at h
      simp only [] at h
      refine we_keep (e' := [(0, .slice A0 l0.length c0), (1, .int .i64 x1), (2, .slice A2 l2.length c2), (6, .bool false), (18, .bool r1), (19, .bool false)]) ⟨by kernel_rfl, by kernel_rfl, by kernel_rfl, by kernel_rfl, by kernel_rfl, by kernel_rfl, trivial⟩ (ClockRounds_p0 K w0 l0 hd0 A0 c0 x1 l2 A2 c2 hR0 hL0 hN0 hR2 hL2 r1 hc1 _ hq4 _ hS2 _ ?_)
      rintro _ a w1 ⟨_, rfl, hb⟩
      obtain rfl := Option.some.inj h
      exact hb
  · rw [if_neg hc1] at h
    refine we_known (t := 19) (b := !r1) (v := true) (by kernel_rfl) (congrArg (fun z => !z) (Bool.eq_false_iff.2 hc1)) ?_
    refine we_true (by kernel_rfl) ?_
    refine we_seq fun K30 hK30 => ?_
    refine we_region [(0, 0)] rfl ?_
    refine ge_batch [0] (ans := []) (vs := [(6, .bool false)]) (l := []) (by kernel_rfl) trivial ?_
    refine ge_nil fun a hF => hK30 _ _ ?_ a hF
    obtain rfl := Option.some.inj h
    exact we_ret (post_ret (rs := [.tmp 6]) (ans := []) (vs := [.bool false]) (l := []) rfl (by kernel_rfl) trivial ⟨rfl, hS2⟩)
end Go.Proofs.Ytchcdadpahakfaa.GV
