/- Walks of single functions, written by a program of this work. -/
import Derived.Test.YtlipdmblinjjaaaGWEdfBest2
namespace Go.Proofs.Ytlipdmblinjjaaa.GV
open Go Go.RowKit
set_option linter.unusedVariables false
set_option linter.unusedSimpArgs false
set_option maxRecDepth 100000

/-! punctual/punctuallaw.EdfBest -/
abbrev EdfBest.Post (w0 : World) (r : Bool) (e : Ending) (w : World) : Prop := e = .returned (.bool r) ∧ St w0 w []
def EdfBest.p0 (K : Nat) (l0 : List SJob) (l1 : List Int) : Option (Unit ⊕ Bool) :=
    if (l0.length : Int) > 100 then
      some (.inr true)
    else
      if (l1.length : Int) > 3000 then
        some (.inr true)
      else
        match sched_Check.f K l0 with
        | none => none
        | some r2 =>
          if r2.Code = 0 then
            some (.inl ())
          else
            match punctualref_CheckJobs.f K l0 with
            | none => none
            | some r3 =>
              some (.inr (r3.Code != 0))
def EdfBest.r1 (l0 : List SJob) : Int × Nat → Option ((Int × Nat) ⊕ (Int ⊕ Bool))
  | (z1, i1) =>
    if (i1 : Int) < (l0.length : Int) then
      match l0[i1]? with
      | none => none
      | some e1 =>
        some (.inl (gmax z1 e1.Due, (i1 + 1)))
    else
      some (.inr (.inl z1))
def EdfBest.p2 (l0 : List SJob) (r4 : Int × Int × SFault) (r5 : SPlayed × SFault) (r6 : (List Int) × SFault) : Option (Unit ⊕ Bool) :=
    if r5.2.Code = 0 then
      if r6.2.Code = 0 then
        if (r4.2.2.Code == 0) = ((r6.1.length : Int) == 0) then
          if (r5.1.Ends.length : Int) = (l0.length : Int) then
            some (.inl ())
          else
            some (.inr false)
        else
          some (.inr false)
      else
        some (.inr false)
    else
      some (.inr false)
def EdfBest.r4 (l0 : List SJob) (r4 : Int × Int × SFault) : Int × Nat → Option ((Int × Nat) ⊕ (Int ⊕ Bool))
  | (z4, i2) =>
    if (i2 : Int) < (l0.length : Int) then
      match l0[i2]? with
      | none => none
      | some e2 =>
        if e2.At ≥ r4.1 then
          if e2.Due ≤ r4.2.1 then
            some (.inl (IntKind.i64.wrap (z4 + e2.C), (i2 + 1)))
          else
            some (.inl (z4, (i2 + 1)))
        else
          some (.inl (z4, (i2 + 1)))
    else
      some (.inr (.inl z4))
def EdfBest.p3 (K : Nat) (l0 : List SJob) (r4 : Int × Int × SFault) : Option (Unit ⊕ Bool) :=
    if r4.2.2.Code = 0 then
      some (.inl ())
    else
      match iter (EdfBest.r4 l0 r4) K (0, 0) with
      | none => none
      | some (.inl z6) =>
        if z6 ≤ (IntKind.i64.wrap (r4.2.1 - r4.1)) then
          some (.inr false)
        else
          some (.inl ())
      | some (.inr rr1) =>
        some (.inr rr1)
def EdfBest.r5 (l0 : List SJob) : Nat × (List Int) → Option ((Nat × (List Int)) ⊕ ((List Int) ⊕ Bool))
  | (i3, m1) =>
    if (i3 : Int) < (l0.length : Int) then
      match l0[i3]? with
      | none => none
      | some e3 =>
        match m1[i3]? with
        | none => none
        | some e4 =>
          some (.inl ((i3 + 1), (m1.set i3 e3.C)))
    else
      some (.inr (.inl m1))
def EdfBest.r6 (l0 : List SJob) (l1 : List Int) : Nat × (List Int) → Option ((Nat × (List Int)) ⊕ ((List Int) ⊕ Bool))
  | (i4, m4) =>
    if (i4 : Int) < (l1.length : Int) then
      match l1[i4]? with
      | none => none
      | some e5 =>
        if e5 ≥ 0 then
          if e5 < (l0.length : Int) then
            if 0 ≤ e5 then
              match l0[(e5).toNat]? with
              | none => none
              | some e6 =>
                if e6.At ≤ (i4 : Int) then
                  if (i4 : Int) < e6.Due then
                    match m4[(e5).toNat]? with
                    | none => none
                    | some e7 =>
                      if e7 > 0 then
                        some (.inl ((i4 + 1), (m4.set ((e5).toNat) (IntKind.i64.wrap (e7 - 1)))))
                      else
                        some (.inl ((i4 + 1), m4))
                  else
                    some (.inl ((i4 + 1), m4))
                else
                  some (.inl ((i4 + 1), m4))
            else
              none
          else
            some (.inl ((i4 + 1), m4))
        else
          some (.inl ((i4 + 1), m4))
    else
      some (.inr (.inl m4))
def EdfBest.r7 (m6 : List Int) : Nat → Option (Nat ⊕ (Unit ⊕ Bool))
  | i5 =>
    if (i5 : Int) < (m6.length : Int) then
      match m6[i5]? with
      | none => none
      | some e8 =>
        if e8 > 0 then
          some (.inr (.inr true))
        else
          some (.inl (i5 + 1))
    else
      some (.inr (.inl ()))
def EdfBest.f (K : Nat) (l0 : List SJob) (l1 : List Int) : Option Bool :=
  match runs.f K with
  | none => none
  | some r1 =>
    if r1 = true then
      match EdfBest.p0 K l0 l1 with
      | none => none
      | some (.inl _) =>
        match iter (EdfBest.r1 l0) K (0, 0) with
        | none => none
        | some (.inl z3) =>
          if z3 > 3000 then
            some true
          else
            match edf_Judge.f K l0 with
            | none => none
            | some r4 =>
              match sched_Play.f K l0 2 true z3 with
              | none => none
              | some r5 =>
                match sched_Late.f K l0 r5.1.Runs r5.1.Ends with
                | none => none
                | some r6 =>
                  match EdfBest.p2 l0 r4 r5 r6 with
                  | none => none
                  | some (.inl _) =>
                    match EdfBest.p3 K l0 r4 with
                    | none => none
                    | some (.inl _) =>
                      if l0.length ≤ 17592186044416 then
                        match iter (EdfBest.r5 l0) K (0, (List.replicate l0.length (0 : Int))) with
                        | none => none
                        | some (.inl m3) =>
                          match iter (EdfBest.r6 l0 l1) K (0, m3) with
                          | none => none
                          | some (.inl m6) =>
                            match iter (EdfBest.r7 m6) K 0 with
                            | none => none
                            | some (.inl _) =>
                              some (r4.2.2.Code == 0)
                            | some (.inr rr2) =>
                              some rr2
                          | some (.inr rr3) =>
                            some rr3
                        | some (.inr rr4) =>
                          some rr4
                      else
                        none
                    | some (.inr rr5) =>
                      some rr5
                  | some (.inr rr6) =>
                    some rr6
        | some (.inr rr7) =>
          some rr7
      | some (.inr rr8) =>
        some rr8
    else
      some false
abbrev EdfBest.A0 (K : Nat) (w0 : World) (l0 : List SJob) (A0 : Option Addr) (c0 : Nat) (l1 : List Int) (A1 : Option Addr) (c1 : Nat) (hR0 : RdL w0 A0 l0) (hL0 : l0.length ≤ c0) (hR1 : RdL w0 A1 l1) (hL1 : l1.length ≤ c1) (r1 : Bool) (hc1 : r1 = true) : Unit → Act → World → Prop := fun (s : Unit) a w => St w0 w [] ∧ Frm 215 a [(0, .slice A0 l0.length c0), (1, .slice A1 l1.length c1)]
abbrev EdfBest.B0 (K : Nat) (w0 : World) (l0 : List SJob) (A0 : Option Addr) (c0 : Nat) (l1 : List Int) (A1 : Option Addr) (c1 : Nat) (hR0 : RdL w0 A0 l0) (hL0 : l0.length ≤ c0) (hR1 : RdL w0 A1 l1) (hL1 : l1.length ≤ c1) (r1 : Bool) (hc1 : r1 = true) : Bool → Exit → Act → World → Prop := Rets Try.prog Try.f6 (EdfBest.Post w0)
theorem EdfBest_p0 (K : Nat) (w0 : World) (l0 : List SJob) (A0 : Option Addr) (c0 : Nat) (l1 : List Int) (A1 : Option Addr) (c1 : Nat) (hR0 : RdL w0 A0 l0) (hL0 : l0.length ≤ c0) (hR1 : RdL w0 A1 l1) (hL1 : l1.length ≤ c1) (r1 : Bool) (hc1 : r1 = true) (o : Unit ⊕ Bool) (h : EdfBest.p0 K l0 l1 = some o) (w : World) (hS : St w0 w []) (Q : Exit → Act → World → Prop) (hQ : ∀ x a w, Outs (EdfBest.A0 K w0 l0 A0 c0 l1 A1 c1 hR0 hL0 hR1 hL1 r1 hc1) (EdfBest.B0 K w0 l0 A0 c0 l1 A1 c1 hR0 hL0 hR1 hL1 r1 hc1) o x a w → Q x a w) : WE Try.prog 215 (subF Try.f6 [1, 1, 0]) Q [(0, .slice A0 l0.length c0), (1, .slice A1 l1.length c1), (4, .bool false), (25, .bool r1), (26, .bool false)] w := by
  simp only [EdfBest.p0] at h
  refine we_seq fun K5 hK5 => ?_
  refine we_region [(0, 0), (1, 0), (2, 0), (3, 0), (4, 0), (5, 0), (6, 0), (7, 0), (8, 0), (9, 0), (10, 1), (11, 0), (12, 0), (13, 0)] rfl ?_
  refine ge_batch [0, 1, 2, 3] (ans := []) (vs := [(30, .bool (decide ((l0.length : Int) > 100))), (29, .bool (decide ((l0.length : Int) > 100))), (28, .int .i64 (l0.length : Int)), (27, .slice A0 l0.length c0)]) (l := []) (by kernel_rfl) trivial ?_
  by_cases hc2 : (l0.length : Int) > 100
  · rw [if_pos hc2] at h
    refine ge_known (t := 30) (b := decide ((l0.length : Int) > 100)) (c := true) (by kernel_rfl) (decide_eq_true hc2) ?_
    refine ge_batch [4, 5, 6, 7, 8, 9] (ans := []) (vs := [(36, undef), (35, .bool true), (34, .bool true), (33, undef), (32, undef), (31, undef)]) (l := []) (by kernel_rfl) trivial ?_
    refine ge_off rfl rfl rfl (by kernel_rfl) ?_
    refine ge_batch [11, 12, 13] (ans := []) (vs := [(40, .bool true), (39, undef), (38, undef)]) (l := []) (by kernel_rfl) trivial ?_
    refine ge_nil fun a hF => hK5 _ _ ?_ a hF
    refine we_true (by kernel_rfl) ?_
    refine we_seq fun K6 hK6 => ?_
    refine we_region [(0, 0), (1, 0), (2, 0), (3, 0), (4, 0), (5, 0), (6, 0), (7, 0), (8, 0), (9, 0), (10, 1), (11, 0), (12, 0), (13, 0), (14, 0)] rfl ?_
    refine ge_batch [0, 1, 2, 3] (ans := []) (vs := [(44, .bool (decide ((l0.length : Int) > 100))), (43, .bool (decide ((l0.length : Int) > 100))), (42, .int .i64 (l0.length : Int)), (41, .slice A0 l0.length c0)]) (l := []) (by kernel_rfl) trivial ?_
    refine ge_known (t := 44) (b := decide ((l0.length : Int) > 100)) (c := true) (by kernel_rfl) (decide_eq_true hc2) ?_
    refine ge_batch [4, 5, 6, 7, 8, 9] (ans := []) (vs := [(50, undef), (49, .bool true), (48, .bool true), (47, undef), (46, undef), (45, undef)]) (l := []) (by kernel_rfl) trivial ?_
    refine ge_off rfl rfl rfl (by kernel_rfl) ?_
    refine ge_batch [11, 12, 13, 14] (ans := []) (vs := [(4, .bool true), (54, .bool true), (53, undef), (52, undef)]) (l := []) (by kernel_rfl) trivial ?_
    refine ge_nil fun a hF => hK6 _ _ ?_ a hF
    obtain rfl := Option.some.inj h
    exact we_ret fun a hF => hQ _ _ _ (Outs.out nofun ⟨rfl, (post_ret (rs := [.tmp 4]) (ans := []) (vs := [.bool true]) (l := []) rfl (by kernel_rfl) trivial ⟨rfl, hS⟩) a hF⟩)
  · rw [if_neg hc2] at h
    refine ge_known (t := 30) (b := decide ((l0.length : Int) > 100)) (c := false) (by kernel_rfl) (decide_eq_false hc2) ?_
    refine ge_batch [4, 5, 6, 7, 8] (ans := []) (vs := [(35, .bool (decide ((l1.length : Int) > 3000))), (34, .bool (decide ((l1.length : Int) > 3000))), (33, .bool (decide ((l1.length : Int) > 3000))), (32, .int .i64 (l1.length : Int)), (31, .slice A1 l1.length c1)]) (l := []) (by kernel_rfl) trivial ?_
    by_cases hc3 : (l1.length : Int) > 3000
    · rw [if_pos hc3] at h
      refine ge_known (t := 35) (b := decide ((l1.length : Int) > 3000)) (c := true) (by kernel_rfl) (decide_eq_true hc3) ?_
      refine ge_batch [9] (ans := []) (vs := [(36, undef)]) (l := []) (by kernel_rfl) trivial ?_
      refine ge_off rfl rfl rfl (by kernel_rfl) ?_
      refine ge_batch [11, 12, 13] (ans := []) (vs := [(40, .bool true), (39, undef), (38, undef)]) (l := []) (by kernel_rfl) trivial ?_
      refine ge_nil fun a hF => hK5 _ _ ?_ a hF
      refine we_true (by kernel_rfl) ?_
      refine we_seq fun K7 hK7 => ?_
      refine we_region [(0, 0), (1, 0), (2, 0), (3, 0), (4, 0), (5, 0), (6, 0), (7, 0), (8, 0), (9, 0), (10, 1), (11, 0), (12, 0), (13, 0), (14, 0)] rfl ?_
      refine ge_batch [0, 1, 2, 3] (ans := []) (vs := [(44, .bool (decide ((l0.length : Int) > 100))), (43, .bool (decide ((l0.length : Int) > 100))), (42, .int .i64 (l0.length : Int)), (41, .slice A0 l0.length c0)]) (l := []) (by kernel_rfl) trivial ?_
      refine ge_known (t := 44) (b := decide ((l0.length : Int) > 100)) (c := false) (by kernel_rfl) (decide_eq_false hc2) ?_
      refine ge_batch [4, 5, 6, 7, 8] (ans := []) (vs := [(49, .bool (decide ((l1.length : Int) > 3000))), (48, .bool (decide ((l1.length : Int) > 3000))), (47, .bool (decide ((l1.length : Int) > 3000))), (46, .int .i64 (l1.length : Int)), (45, .slice A1 l1.length c1)]) (l := []) (by kernel_rfl) trivial ?_
      refine ge_known (t := 49) (b := decide ((l1.length : Int) > 3000)) (c := true) (by kernel_rfl) (decide_eq_true hc3) ?_
      refine ge_batch [9] (ans := []) (vs := [(50, undef)]) (l := []) (by kernel_rfl) trivial ?_
      refine ge_off rfl rfl rfl (by kernel_rfl) ?_
      refine ge_batch [11, 12, 13, 14] (ans := []) (vs := [(4, .bool true), (54, .bool true), (53, undef), (52, undef)]) (l := []) (by kernel_rfl) trivial ?_
      refine ge_nil fun a hF => hK7 _ _ ?_ a hF
      obtain rfl := Option.some.inj h
      exact we_ret fun a hF => hQ _ _ _ (Outs.out nofun ⟨rfl, (post_ret (rs := [.tmp 4]) (ans := []) (vs := [.bool true]) (l := []) rfl (by kernel_rfl) trivial ⟨rfl, hS⟩) a hF⟩)
    · rw [if_neg hc3] at h
      refine ge_known (t := 35) (b := decide ((l1.length : Int) > 3000)) (c := false) (by kernel_rfl) (decide_eq_false hc3) ?_
      rcases hq2 : sched_Check.f K l0 with _ | r2
      · rw [hq2] at h; cases h
      rw [hq2] at h
      simp only [] at h
      refine ge_batch [9] (ans := []) (vs := [(36, .slice A0 l0.length c0)]) (l := []) (by kernel_rfl) trivial ?_
      refine ge_call (d := some 37) (f := 21) (args := #[.slice A0 l0.length c0]) (by kernel_rfl) (sched_Check_ok K l0 A0 c0 _ (hS.rd hR0) hL0 _ hq2) ?_
      rintro _ w2 ⟨rfl, hS3⟩
      refine ⟨_, rfl, hS3.below, ?_⟩
      have hS4 := hS.call hS3
      refine ge_batch [11, 12, 13] (ans := []) (vs := [(40, .bool (r2.Code != 0)), (39, .bool (r2.Code != 0)), (38, .int .i64 r2.Code)]) (l := []) (by kernel_rfl) trivial ?_
      refine ge_nil fun a hF => hK5 _ _ ?_ a hF
      by_cases hc4 : r2.Code = 0
      · rw [if_pos hc4] at h
        refine we_known (t := 40) (b := (r2.Code != 0)) (v := false) (by kernel_rfl) (bne_eq_false_iff_eq.2 hc4) ?_
        refine we_false (by kernel_rfl) ?_
        obtain rfl := Option.some.inj h
        exact we_skip fun a hF => hQ _ _ _ (Outs.again ⟨hS4, hF.weaken ⟨by kernel_rfl, by kernel_rfl, trivial⟩⟩)
      · rw [if_neg hc4] at h
        refine we_known (t := 40) (b := (r2.Code != 0)) (v := true) (by kernel_rfl) (bne_iff_ne.2 hc4) ?_
        refine we_true (by kernel_rfl) ?_
        refine we_seq fun K8 hK8 => ?_
        refine we_region [(0, 0), (1, 0), (2, 0), (3, 0), (4, 0), (5, 0), (6, 0), (7, 0), (8, 0), (9, 0), (10, 1), (11, 0), (12, 0), (13, 0), (14, 0)] rfl ?_
        refine ge_batch [0, 1, 2, 3] (ans := []) (vs := [(44, .bool (decide ((l0.length : Int) > 100))), (43, .bool (decide ((l0.length : Int) > 100))), (42, .int .i64 (l0.length : Int)), (41, .slice A0 l0.length c0)]) (l := []) (by kernel_rfl) trivial ?_
        refine ge_known (t := 44) (b := decide ((l0.length : Int) > 100)) (c := false) (by kernel_rfl) (decide_eq_false hc2) ?_
        refine ge_batch [4, 5, 6, 7, 8] (ans := []) (vs := [(49, .bool (decide ((l1.length : Int) > 3000))), (48, .bool (decide ((l1.length : Int) > 3000))), (47, .bool (decide ((l1.length : Int) > 3000))), (46, .int .i64 (l1.length : Int)), (45, .slice A1 l1.length c1)]) (l := []) (by kernel_rfl) trivial ?_
        refine ge_known (t := 49) (b := decide ((l1.length : Int) > 3000)) (c := false) (by kernel_rfl) (decide_eq_false hc3) ?_
        rcases hq3 : punctualref_CheckJobs.f K l0 with _ | r3
        · rw [hq3] at h; cases h
        rw [hq3] at h
        simp only [] at h
        refine ge_batch [9] (ans := []) (vs := [(50, .slice A0 l0.length c0)]) (l := []) (by kernel_rfl) trivial ?_
        refine ge_call (d := some 51) (f := 22) (args := #[.slice A0 l0.length c0]) (by kernel_rfl) (punctualref_CheckJobs_ok K l0 A0 c0 _ (hS4.rd hR0) hL0 _ hq3) ?_
        rintro _ w3 ⟨rfl, hS5⟩
        refine ⟨_, rfl, hS5.below, ?_⟩
        have hS6 := hS4.call hS5
        refine ge_batch [11, 12, 13, 14] (ans := []) (vs := [(4, .bool (r3.Code != 0)), (54, .bool (r3.Code != 0)), (53, .bool (r3.Code != 0)), (52, .int .i64 r3.Code)]) (l := []) (by kernel_rfl) trivial ?_
        refine ge_nil fun a hF => hK8 _ _ ?_ a hF
        obtain rfl := Option.some.inj h
        exact we_ret fun a hF => hQ _ _ _ (Outs.out nofun ⟨rfl, (post_ret (rs := [.tmp 4]) (ans := []) (vs := [.bool (r3.Code != 0)]) (l := []) rfl (by kernel_rfl) trivial ⟨rfl, hS6⟩) a hF⟩)
abbrev EdfBest.A1 (K : Nat) (w0 : World) (l0 : List SJob) (A0 : Option Addr) (c0 : Nat) (l1 : List Int) (A1 : Option Addr) (c1 : Nat) (hR0 : RdL w0 A0 l0) (hL0 : l0.length ≤ c0) (hR1 : RdL w0 A1 l1) (hL1 : l1.length ≤ c1) (r1 : Bool) (hc1 : r1 = true) : (Int × Nat) → Act → World → Prop := fun (s : Int × Nat) a w => St w0 w [] ∧ Frm 215 a [(0, .slice A0 l0.length c0), (1, .slice A1 l1.length c1), (5, .int .i64 s.1), (55, .slice A0 l0.length c0), (56, .int .i64 (l0.length : Int)), (57, .int .i64 (s.2 : Int))]
abbrev EdfBest.B1 (K : Nat) (w0 : World) (l0 : List SJob) (A0 : Option Addr) (c0 : Nat) (l1 : List Int) (A1 : Option Addr) (c1 : Nat) (hR0 : RdL w0 A0 l0) (hL0 : l0.length ≤ c0) (hR1 : RdL w0 A1 l1) (hL1 : l1.length ≤ c1) (r1 : Bool) (hc1 : r1 = true) : (Int ⊕ Bool) → Exit → Act → World → Prop := Exits 0 (fun (s : Int) a w => St w0 w [] ∧ Frm 215 a [(0, .slice A0 l0.length c0), (1, .slice A1 l1.length c1), (5, .int .i64 s)]) (Rets Try.prog Try.f6 (EdfBest.Post w0))
theorem EdfBest_r1 (K : Nat) (w0 : World) (l0 : List SJob) (A0 : Option Addr) (c0 : Nat) (l1 : List Int) (A1 : Option Addr) (c1 : Nat) (hR0 : RdL w0 A0 l0) (hL0 : l0.length ≤ c0) (hR1 : RdL w0 A1 l1) (hL1 : l1.length ≤ c1) (r1 : Bool) (hc1 : r1 = true) (s : Int × Nat) (o : (Int × Nat) ⊕ (Int ⊕ Bool)) (h : EdfBest.r1 l0 s = some o) (a : Act) (w : World) (hA : EdfBest.A1 K w0 l0 A0 c0 l1 A1 c1 hR0 hL0 hR1 hL1 r1 hc1 s a w) (Q : Exit → Act → World → Prop) (hQ : ∀ x a w, Outs (EdfBest.A1 K w0 l0 A0 c0 l1 A1 c1 hR0 hL0 hR1 hL1 r1 hc1) (EdfBest.B1 K w0 l0 A0 c0 l1 A1 c1 hR0 hL0 hR1 hL1 r1 hc1) o x a w → Q x a w) : (subF Try.f6 [1, 1, 1, 1, 0, 1, 0, 0]).wp Try.prog Q a w := by
  obtain ⟨z1, i1⟩ := s
  obtain ⟨hS, hF⟩ := hA
  replace hS : St w0 w [] := hS
  simp only [EdfBest.r1] at h
  refine (?_ : WE Try.prog 215 (subF Try.f6 [1, 1, 1, 1, 0, 1, 0, 0]) Q [(0, .slice A0 l0.length c0), (1, .slice A1 l1.length c1), (5, .int .i64 z1), (55, .slice A0 l0.length c0), (56, .int .i64 (l0.length : Int)), (57, .int .i64 (i1 : Int))] w) a hF
  clear hF a
  refine we_seq fun K12 hK12 => ?_
  refine we_region [(0, 0)] rfl ?_
  refine ge_batch [0] (ans := []) (vs := [(58, .bool (decide ((i1 : Int) < (l0.length : Int))))]) (l := []) (by kernel_rfl) trivial ?_
  refine ge_nil fun a hF => hK12 _ _ ?_ a hF
  refine we_seq fun K13 hK13 => ?_
  by_cases hc5 : (i1 : Int) < (l0.length : Int)
  · rw [if_pos hc5] at h
    refine we_known (t := 58) (b := decide ((i1 : Int) < (l0.length : Int))) (v := true) (by kernel_rfl) (decide_eq_true hc5) ?_
    refine we_true (by kernel_rfl) ?_
    refine we_skip fun a hF => hK13 _ _ ?_ a hF
    refine we_seq fun K14 hK14 => ?_
    refine we_block ?_
    refine we_seq fun K15 hK15 => ?_
    refine we_region [(0, 0), (1, 0), (2, 1), (3, 2)] rfl ?_
    rcases hx1 : l0[i1]? with _ | e1
    · rw [hx1] at h; cases h
    rw [hx1] at h
    simp only [] at h
    refine ge_index (d := 59) (ty := 0) (t := 32) (el := 59) (sz := 5) (m := l0.length) (c := c0) (x := (.tmp 55)) (y := (.tmp 57)) (A := A0) (k' := .i64) (j := (i1 : Int)) (jn := i1) (b0 := blkOf A0) (o0 := offOf A0) (by kernel_rfl) (by kernel_rfl) (by kernel_rfl) (by kernel_rfl) (by kernel_rfl) ((hS.rd hR0).eqSome (pos_of_get hx1)) rfl (lt_of_get hx1) ?_
    refine ge_batch [1] (ans := [.val (.int .i64 e1.Task), .val (.int .i64 e1.At), .val (.int .i64 e1.C), .val (.int .i64 e1.Due), .val (.int .i64 e1.P)]) (vs := [(60, .agg #[.int .i64 e1.Task, .int .i64 e1.At, .int .i64 e1.C, .int .i64 e1.Due, .int .i64 e1.P])]) (l := [.loaded ⟨blkOf A0, offOf A0 + i1 * 5, none⟩ (.int .i64 e1.Task), .loaded ⟨blkOf A0, offOf A0 + i1 * 5 + 1, none⟩ (.int .i64 e1.At), .loaded ⟨blkOf A0, offOf A0 + i1 * 5 + 2, none⟩ (.int .i64 e1.C), .loaded ⟨blkOf A0, offOf A0 + i1 * 5 + 3, none⟩ (.int .i64 e1.Due), .loaded ⟨blkOf A0, offOf A0 + i1 * 5 + 4, none⟩ (.int .i64 e1.P)]) (by kernel_rfl) ⟨RdL.cell (j := 0) (hS.rd hR0) hx1 rfl, RdL.cell (j := 1) (hS.rd hR0) hx1 rfl, RdL.cell (j := 2) (hS.rd hR0) hx1 rfl, RdL.cell (j := 3) (hS.rd hR0) hx1 rfl, RdL.cell (j := 4) (hS.rd hR0) hx1 rfl, trivial⟩ ?_
    refine ge_new (d := some 7) (o := .cells #[.int .i64 0, .int .i64 0, .int .i64 0, .int .i64 0, .int .i64 0] 59) (v := fun b => .pointer (some ⟨b, 0, none⟩)) hS (fun b => by kernel_rfl) fun b1 w5 hx2 hS8 => ?_
    refine ge_set (b := b1) (j := 0) (cs := #[.int .i64 0, .int .i64 0, .int .i64 0, .int .i64 0, .int .i64 0]) (t := 59) (vs := [.int .i64 e1.Task, .int .i64 e1.At, .int .i64 e1.C, .int .i64 e1.Due, .int .i64 e1.P]) hS8 (by kernel_rfl) rfl rfl fun w6 hS9 => ?_
    have hS10 : St w0 w6 [Own.blk b1 (.cells #[.int .i64 e1.Task, .int .i64 e1.At, .int .i64 e1.C, .int .i64 e1.Due, .int .i64 e1.P] 59 (0, 0))] := hS9
    refine ge_nil fun a hF => hK15 _ _ ?_ a hF
    refine we_region [(0, 0), (1, 0), (2, 0), (3, 0), (4, 0)] rfl ?_
    refine ge_batch [0, 1, 2, 3, 4] (ans := [.val (.int .i64 e1.Due)]) (vs := [(5, .int .i64 (gmax z1 e1.Due)), (64, .int .i64 (gmax z1 e1.Due)), (63, .int .i64 e1.Due), (62, .pointer (some ⟨b1, 3, none⟩)), (61, .int .i64 z1)]) (l := [.loaded ⟨b1, 3, none⟩ (.int .i64 e1.Due)]) (by kernel_rfl) ⟨hS10.cell 0 rfl rfl, trivial⟩ ?_
    refine ge_nil fun a hF => hK14 _ _ ?_ a hF
    refine we_region [(0, 0), (1, 0)] rfl ?_
    refine ge_addn (d := 65) (ty := 3) (x := (.tmp 57)) (y := (.const (.int .i64 1))) (t := 3) (t2 := 3) (k := .i64) (m := i1) (by kernel_rfl) (by kernel_rfl) (by kernel_rfl) (by have h0 := hR0.small; omega) ?_
    refine ge_batch [1] (ans := []) (vs := [(57, .int .i64 ((i1 + 1 : Nat) : Int))]) (l := []) (by kernel_rfl) trivial ?_
    have hS11 := hS10.takeN 0
    obtain rfl := Option.some.inj h
    exact ge_nil fun a hF => hQ _ _ _ (Outs.again ⟨hS11, hF.weaken ⟨by kernel_rfl, by kernel_rfl, by kernel_rfl, by kernel_rfl, by kernel_rfl, by kernel_rfl, trivial⟩⟩)
  · rw [if_neg hc5] at h
    refine we_known (t := 58) (b := decide ((i1 : Int) < (l0.length : Int))) (v := false) (by kernel_rfl) (decide_eq_false hc5) ?_
    refine we_false (by kernel_rfl) ?_
    obtain rfl := Option.some.inj h
    exact we_exit fun a hF => hQ _ _ _ (Outs.out nofun (Exits.here ⟨hS, hF.weaken ⟨by kernel_rfl, by kernel_rfl, by kernel_rfl, trivial⟩⟩))
abbrev EdfBest.A2 (K : Nat) (w0 : World) (l0 : List SJob) (A0 : Option Addr) (c0 : Nat) (l1 : List Int) (A1 : Option Addr) (c1 : Nat) (hR0 : RdL w0 A0 l0) (hL0 : l0.length ≤ c0) (hR1 : RdL w0 A1 l1) (hL1 : l1.length ≤ c1) (r1 : Bool) (hc1 : r1 = true) (z3 : Int) (hc6 : ¬ (z3 > 3000)) (r4 : Int × Int × SFault) (b2 : Nat) (r5 : SPlayed × SFault) (b3 : Nat) (b4 : Nat) (Z1 : Option Addr) (cz1 : Nat) (Z2 : Option Addr) (cz2 : Nat) (r6 : (List Int) × SFault) (b5 : Nat) (Z3 : Option Addr) (cz3 : Nat) : Unit → Act → World → Prop := fun (s : Unit) a w => St w0 w [Own.blk b2 (.cells #[.int .i64 r4.2.2.Code, .int .i64 r4.2.2.At] 29 (0, 0))] ∧ Frm 215 a [(0, .slice A0 l0.length c0), (1, .slice A1 l1.length c1), (8, .int .i64 r4.1), (9, .int .i64 r4.2.1), (10, .pointer (some ⟨b2, 0, none⟩))]
abbrev EdfBest.B2 (K : Nat) (w0 : World) (l0 : List SJob) (A0 : Option Addr) (c0 : Nat) (l1 : List Int) (A1 : Option Addr) (c1 : Nat) (hR0 : RdL w0 A0 l0) (hL0 : l0.length ≤ c0) (hR1 : RdL w0 A1 l1) (hL1 : l1.length ≤ c1) (r1 : Bool) (hc1 : r1 = true) (z3 : Int) (hc6 : ¬ (z3 > 3000)) (r4 : Int × Int × SFault) (b2 : Nat) (r5 : SPlayed × SFault) (b3 : Nat) (b4 : Nat) (Z1 : Option Addr) (cz1 : Nat) (Z2 : Option Addr) (cz2 : Nat) (r6 : (List Int) × SFault) (b5 : Nat) (Z3 : Option Addr) (cz3 : Nat) : Bool → Exit → Act → World → Prop := Rets Try.prog Try.f6 (EdfBest.Post w0)
theorem EdfBest_p2 (K : Nat) (w0 : World) (l0 : List SJob) (A0 : Option Addr) (c0 : Nat) (l1 : List Int) (A1 : Option Addr) (c1 : Nat) (hR0 : RdL w0 A0 l0) (hL0 : l0.length ≤ c0) (hR1 : RdL w0 A1 l1) (hL1 : l1.length ≤ c1) (r1 : Bool) (hc1 : r1 = true) (z3 : Int) (hc6 : ¬ (z3 > 3000)) (r4 : Int × Int × SFault) (b2 : Nat) (r5 : SPlayed × SFault) (b3 : Nat) (b4 : Nat) (Z1 : Option Addr) (cz1 : Nat) (Z2 : Option Addr) (cz2 : Nat) (r6 : (List Int) × SFault) (b5 : Nat) (Z3 : Option Addr) (cz3 : Nat) (o : Unit ⊕ Bool) (h : EdfBest.p2 l0 r4 r5 r6 = some o) (w : World) (hS : St w0 w [Own.blk b5 (.cells #[.int .i64 r6.2.Code, .int .i64 r6.2.At] 29 (0, 0)), Own.of (.slice Z3 r6.1.length cz3) 3 r6.1, Own.blk b4 (.cells #[.int .i64 r5.2.Code, .int .i64 r5.2.At] 29 (0, 0)), Own.blk b3 (.cells #[(.slice Z1 r5.1.Runs.length cz1), (.slice Z2 r5.1.Ends.length cz2)] 37 (0, 0)), Own.of (.slice Z1 r5.1.Runs.length cz1) 3 r5.1.Runs, Own.of (.slice Z2 r5.1.Ends.length cz2) 3 r5.1.Ends, Own.blk b2 (.cells #[.int .i64 r4.2.2.Code, .int .i64 r4.2.2.At] 29 (0, 0))]) (Q : Exit → Act → World → Prop) (hQ : ∀ x a w, Outs (EdfBest.A2 K w0 l0 A0 c0 l1 A1 c1 hR0 hL0 hR1 hL1 r1 hc1 z3 hc6 r4 b2 r5 b3 b4 Z1 cz1 Z2 cz2 r6 b5 Z3 cz3) (EdfBest.B2 K w0 l0 A0 c0 l1 A1 c1 hR0 hL0 hR1 hL1 r1 hc1 z3 hc6 r4 b2 r5 b3 b4 Z1 cz1 Z2 cz2 r6 b5 Z3 cz3) o x a w → Q x a w) : WE Try.prog 215 (subF Try.f6 [1, 1, 1, 1, 1, 1, 1, 1, 1, 0]) Q ((0, .slice A0 l0.length c0) :: (1, .slice A1 l1.length c1) :: (5, .int .i64 z3) :: (8, .int .i64 r4.1) :: (9, .int .i64 r4.2.1) :: (10, .pointer (some ⟨b2, 0, none⟩)) :: (11, .pointer (some ⟨b3, 0, none⟩)) :: (12, .pointer (some ⟨b4, 0, none⟩)) :: (13, (.slice Z3 r6.1.length cz3)) :: (14, .pointer (some ⟨b5, 0, none⟩)) :: (66, .int .i64 z3) :: (67, .bool false) :: (68, .tuple #[.int .i64 r4.1, .int .i64 r4.2.1, .agg #[.int .i64 r4.2.2.Code, .int .i64 r4.2.2.At]]) :: (69, .slice A0 l0.length c0) :: (70, .tuple #[.int .i64 r4.1, .int .i64 r4.2.1, .agg #[.int .i64 r4.2.2.Code, .int .i64 r4.2.2.At]]) :: (71, .int .i64 r4.1) :: (72, .int .i64 r4.2.1) :: (73, .agg #[.int .i64 r4.2.2.Code, .int .i64 r4.2.2.At]) :: (74, .tuple #[.agg #[(.slice Z1 r5.1.Runs.length cz1), (.slice Z2 r5.1.Ends.length cz2)], .agg #[.int .i64 r5.2.Code, .int .i64 r5.2.At]]) :: (75, .slice A0 l0.length c0) :: (76, .int .i64 z3) :: (77, .tuple #[.agg #[(.slice Z1 r5.1.Runs.length cz1), (.slice Z2 r5.1.Ends.length cz2)], .agg #[.int .i64 r5.2.Code, .int .i64 r5.2.At]]) :: (78, .agg #[(.slice Z1 r5.1.Runs.length cz1), (.slice Z2 r5.1.Ends.length cz2)]) :: (79, .agg #[.int .i64 r5.2.Code, .int .i64 r5.2.At]) :: (80, .tuple #[(.slice Z3 r6.1.length cz3), .agg #[.int .i64 r6.2.Code, .int .i64 r6.2.At]]) :: (81, .slice A0 l0.length c0) :: (82, .agg #[(.slice Z1 r5.1.Runs.length cz1), (.slice Z2 r5.1.Ends.length cz2)]) :: (83, .tuple #[(.slice Z3 r6.1.length cz3), .agg #[.int .i64 r6.2.Code, .int .i64 r6.2.At]]) :: (84, (.slice Z3 r6.1.length cz3)) :: (85, .agg #[.int .i64 r6.2.Code, .int .i64 r6.2.At]) :: []) w := by
  simp only [EdfBest.p2] at h
  refine we_seq fun K23 hK23 => ?_
  refine we_region [(0, 0), (1, 0), (2, 0), (3, 0), (4, 0), (5, 0), (6, 0), (7, 0), (8, 0), (9, 0), (10, 0), (11, 0), (12, 0), (13, 0), (14, 0), (15, 0), (16, 0), (17, 0), (18, 0), (19, 0), (20, 0), (21, 0), (22, 0), (23, 0), (24, 0)] rfl ?_
  refine ge_batch [0, 1, 2, 3] (ans := [.val (.int .i64 r5.2.Code)]) (vs := [(89, .bool (r5.2.Code != 0)), (88, .bool (r5.2.Code != 0)), (87, .int .i64 r5.2.Code), (86, .pointer (some ⟨b4, 0, none⟩))]) (l := [.loaded ⟨b4, 0, none⟩ (.int .i64 r5.2.Code)]) (by kernel_rfl) ⟨hS.cell 2 rfl rfl, trivial⟩ ?_
  by_cases hc7 : r5.2.Code = 0
  · rw [if_pos hc7] at h
    refine ge_known (t := 89) (b := (r5.2.Code != 0)) (c := false) (by kernel_rfl) (bne_eq_false_iff_eq.2 hc7) ?_
    refine ge_batch [4, 5, 6, 7, 8] (ans := [.val (.int .i64 r6.2.Code)]) (vs := [(94, .bool (r6.2.Code != 0)), (93, .bool (r6.2.Code != 0)), (92, .bool (r6.2.Code != 0)), (91, .int .i64 r6.2.Code), (90, .pointer (some ⟨b5, 0, none⟩))]) (l := [.loaded ⟨b5, 0, none⟩ (.int .i64 r6.2.Code)]) (by kernel_rfl) ⟨hS.cell 0 rfl rfl, trivial⟩ ?_
    by_cases hc8 : r6.2.Code = 0
    · rw [if_pos hc8] at h
      refine ge_known (t := 94) (b := (r6.2.Code != 0)) (c := false) (by kernel_rfl) (bne_eq_false_iff_eq.2 hc8) ?_
      refine ge_batch [9, 10, 11, 12, 13, 14, 15, 16, 17] (ans := [.val (.int .i64 r4.2.2.Code)]) (vs := [(103, .bool ((r4.2.2.Code == 0) != ((r6.1.length : Int) == 0))), (102, .bool ((r4.2.2.Code == 0) != ((r6.1.length : Int) == 0))), (101, .bool ((r4.2.2.Code == 0) != ((r6.1.length : Int) == 0))), (100, .bool ((r6.1.length : Int) == 0)), (99, .int .i64 (r6.1.length : Int)), (98, (.slice Z3 r6.1.length cz3)), (97, .bool (r4.2.2.Code == 0)), (96, .int .i64 r4.2.2.Code), (95, .pointer (some ⟨b2, 0, none⟩))]) (l := [.loaded ⟨b2, 0, none⟩ (.int .i64 r4.2.2.Code)]) (by kernel_rfl) ⟨hS.cell 6 rfl rfl, trivial⟩ ?_
      by_cases hc9 : (r4.2.2.Code == 0) = ((r6.1.length : Int) == 0)
      · rw [if_pos hc9] at h
        refine ge_known (t := 103) (b := ((r4.2.2.Code == 0) != ((r6.1.length : Int) == 0))) (c := false) (by kernel_rfl) (bne_eq_false_iff_eq.2 hc9) ?_
        refine ge_batch [18, 19, 20, 21, 22, 23, 24] (ans := [.val ((.slice Z2 r5.1.Ends.length cz2))]) (vs := [(110, .bool ((r5.1.Ends.length : Int) != (l0.length : Int))), (109, .bool ((r5.1.Ends.length : Int) != (l0.length : Int))), (108, .int .i64 (l0.length : Int)), (107, .slice A0 l0.length c0), (106, .int .i64 (r5.1.Ends.length : Int)), (105, (.slice Z2 r5.1.Ends.length cz2)), (104, .pointer (some ⟨b3, 1, none⟩))]) (l := [.loaded ⟨b3, 1, none⟩ ((.slice Z2 r5.1.Ends.length cz2))]) (by kernel_rfl) ⟨hS.cell 3 rfl rfl, trivial⟩ ?_
        refine ge_nil fun a hF => hK23 _ _ ?_ a hF
        by_cases hc10 : (r5.1.Ends.length : Int) = (l0.length : Int)
        · rw [if_pos hc10] at h
          refine we_known (t := 110) (b := ((r5.1.Ends.length : Int) != (l0.length : Int))) (v := false) (by kernel_rfl) (bne_eq_false_iff_eq.2 hc10) ?_
          refine we_false (by kernel_rfl) ?_
          have hS33 := hS.bring 6 rfl
          have hS34 := hS33.takeN 1
          obtain rfl := Option.some.inj h
          exact we_skip fun a hF => hQ _ _ _ (Outs.again ⟨hS34, hF.weaken ⟨by kernel_rfl, by kernel_rfl, by kernel_rfl, by kernel_rfl, by kernel_rfl, trivial⟩⟩)
        · rw [if_neg hc10] at h
          refine we_known (t := 110) (b := ((r5.1.Ends.length : Int) != (l0.length : Int))) (v := true) (by kernel_rfl) (bne_iff_ne.2 hc10) ?_
          refine we_true (by kernel_rfl) ?_
          refine we_seq fun K24 hK24 => ?_
          refine we_region [(0, 0)] rfl ?_
          refine ge_batch [0] (ans := []) (vs := [(4, .bool false)]) (l := []) (by kernel_rfl) trivial ?_
          refine ge_nil fun a hF => hK24 _ _ ?_ a hF
          have hS35 := hS.takeN 0
          obtain rfl := Option.some.inj h
          exact we_ret fun a hF => hQ _ _ _ (Outs.out nofun ⟨rfl, (post_ret (rs := [.tmp 4]) (ans := []) (vs := [.bool false]) (l := []) rfl (by kernel_rfl) trivial ⟨rfl, hS35⟩) a hF⟩)
      · rw [if_neg hc9] at h
        refine ge_known (t := 103) (b := ((r4.2.2.Code == 0) != ((r6.1.length : Int) == 0))) (c := true) (by kernel_rfl) (bne_iff_ne.2 hc9) ?_
        refine ge_batch [18, 19, 20, 21, 22, 23, 24] (ans := []) (vs := [(110, .bool true), (109, undef), (108, undef), (107, undef), (106, undef), (105, undef), (104, undef)]) (l := []) (by kernel_rfl) trivial ?_
        refine ge_nil fun a hF => hK23 _ _ ?_ a hF
        refine we_true (by kernel_rfl) ?_
        refine we_seq fun K25 hK25 => ?_
        refine we_region [(0, 0)] rfl ?_
        refine ge_batch [0] (ans := []) (vs := [(4, .bool false)]) (l := []) (by kernel_rfl) trivial ?_
        refine ge_nil fun a hF => hK25 _ _ ?_ a hF
        have hS36 := hS.takeN 0
        obtain rfl := Option.some.inj h
        exact we_ret fun a hF => hQ _ _ _ (Outs.out nofun ⟨rfl, (post_ret (rs := [.tmp 4]) (ans := []) (vs := [.bool false]) (l := []) rfl (by kernel_rfl) trivial ⟨rfl, hS36⟩) a hF⟩)
    · rw [if_neg hc8] at h
      refine ge_known (t := 94) (b := (r6.2.Code != 0)) (c := true) (by kernel_rfl) (bne_iff_ne.2 hc8) ?_
      refine ge_batch [9, 10, 11, 12, 13, 14, 15, 16, 17, 18, 19, 20, 21, 22, 23, 24] (ans := []) (vs := [(110, .bool true), (109, undef), (108, undef), (107, undef), (106, undef), (105, undef), (104, undef), (103, .bool true), (102, .bool true), (101, undef), (100, undef), (99, undef), (98, undef), (97, undef), (96, undef), (95, undef)]) (l := []) (by kernel_rfl) trivial ?_
      refine ge_nil fun a hF => hK23 _ _ ?_ a hF
      refine we_true (by kernel_rfl) ?_
      refine we_seq fun K26 hK26 => ?_
      refine we_region [(0, 0)] rfl ?_
      refine ge_batch [0] (ans := []) (vs := [(4, .bool false)]) (l := []) (by kernel_rfl) trivial ?_
      refine ge_nil fun a hF => hK26 _ _ ?_ a hF
      have hS37 := hS.takeN 0
      obtain rfl := Option.some.inj h
      exact we_ret fun a hF => hQ _ _ _ (Outs.out nofun ⟨rfl, (post_ret (rs := [.tmp 4]) (ans := []) (vs := [.bool false]) (l := []) rfl (by kernel_rfl) trivial ⟨rfl, hS37⟩) a hF⟩)
  · rw [if_neg hc7] at h
    refine ge_known (t := 89) (b := (r5.2.Code != 0)) (c := true) (by kernel_rfl) (bne_iff_ne.2 hc7) ?_
    refine ge_batch [4, 5, 6, 7, 8, 9, 10, 11, 12, 13, 14, 15, 16, 17, 18, 19, 20, 21, 22, 23, 24] (ans := []) (vs := [(110, .bool true), (109, undef), (108, undef), (107, undef), (106, undef), (105, undef), (104, undef), (103, .bool true), (102, .bool true), (101, undef), (100, undef), (99, undef), (98, undef), (97, undef), (96, undef), (95, undef), (94, .bool true), (93, .bool true), (92, undef), (91, undef), (90, undef)]) (l := []) (by kernel_rfl) trivial ?_
    refine ge_nil fun a hF => hK23 _ _ ?_ a hF
    refine we_true (by kernel_rfl) ?_
    refine we_seq fun K27 hK27 => ?_
    refine we_region [(0, 0)] rfl ?_
    refine ge_batch [0] (ans := []) (vs := [(4, .bool false)]) (l := []) (by kernel_rfl) trivial ?_
    refine ge_nil fun a hF => hK27 _ _ ?_ a hF
    have hS38 := hS.takeN 0
    obtain rfl := Option.some.inj h
    exact we_ret fun a hF => hQ _ _ _ (Outs.out nofun ⟨rfl, (post_ret (rs := [.tmp 4]) (ans := []) (vs := [.bool false]) (l := []) rfl (by kernel_rfl) trivial ⟨rfl, hS38⟩) a hF⟩)
abbrev EdfBest.A4 (K : Nat) (w0 : World) (l0 : List SJob) (A0 : Option Addr) (c0 : Nat) (l1 : List Int) (A1 : Option Addr) (c1 : Nat) (hR0 : RdL w0 A0 l0) (hL0 : l0.length ≤ c0) (hR1 : RdL w0 A1 l1) (hL1 : l1.length ≤ c1) (r1 : Bool) (hc1 : r1 = true) (z3 : Int) (hc6 : ¬ (z3 > 3000)) (r4 : Int × Int × SFault) (b2 : Nat) (r5 : SPlayed × SFault) (b3 : Nat) (b4 : Nat) (Z1 : Option Addr) (cz1 : Nat) (Z2 : Option Addr) (cz2 : Nat) (r6 : (List Int) × SFault) (b5 : Nat) (Z3 : Option Addr) (cz3 : Nat) (hc11 : ¬ (r4.2.2.Code = 0)) : (Int × Nat) → Act → World → Prop := fun (s : Int × Nat) a w => St w0 w [Own.blk b2 (.cells #[.int .i64 r4.2.2.Code, .int .i64 r4.2.2.At] 29 (0, 0))] ∧ Frm 215 a [(0, .slice A0 l0.length c0), (1, .slice A1 l1.length c1), (8, .int .i64 r4.1), (9, .int .i64 r4.2.1), (10, .pointer (some ⟨b2, 0, none⟩)), (15, .int .i64 s.1), (114, .slice A0 l0.length c0), (115, .int .i64 (l0.length : Int)), (116, .int .i64 (s.2 : Int))]
abbrev EdfBest.B4 (K : Nat) (w0 : World) (l0 : List SJob) (A0 : Option Addr) (c0 : Nat) (l1 : List Int) (A1 : Option Addr) (c1 : Nat) (hR0 : RdL w0 A0 l0) (hL0 : l0.length ≤ c0) (hR1 : RdL w0 A1 l1) (hL1 : l1.length ≤ c1) (r1 : Bool) (hc1 : r1 = true) (z3 : Int) (hc6 : ¬ (z3 > 3000)) (r4 : Int × Int × SFault) (b2 : Nat) (r5 : SPlayed × SFault) (b3 : Nat) (b4 : Nat) (Z1 : Option Addr) (cz1 : Nat) (Z2 : Option Addr) (cz2 : Nat) (r6 : (List Int) × SFault) (b5 : Nat) (Z3 : Option Addr) (cz3 : Nat) (hc11 : ¬ (r4.2.2.Code = 0)) : (Int ⊕ Bool) → Exit → Act → World → Prop := Exits 2 (fun (s : Int) a w => St w0 w [Own.blk b2 (.cells #[.int .i64 r4.2.2.Code, .int .i64 r4.2.2.At] 29 (0, 0))] ∧ Frm 215 a [(0, .slice A0 l0.length c0), (1, .slice A1 l1.length c1), (8, .int .i64 r4.1), (9, .int .i64 r4.2.1), (10, .pointer (some ⟨b2, 0, none⟩)), (15, .int .i64 s)]) (Rets Try.prog Try.f6 (EdfBest.Post w0))
theorem EdfBest_r4 (K : Nat) (w0 : World) (l0 : List SJob) (A0 : Option Addr) (c0 : Nat) (l1 : List Int) (A1 : Option Addr) (c1 : Nat) (hR0 : RdL w0 A0 l0) (hL0 : l0.length ≤ c0) (hR1 : RdL w0 A1 l1) (hL1 : l1.length ≤ c1) (r1 : Bool) (hc1 : r1 = true) (z3 : Int) (hc6 : ¬ (z3 > 3000)) (r4 : Int × Int × SFault) (b2 : Nat) (r5 : SPlayed × SFault) (b3 : Nat) (b4 : Nat) (Z1 : Option Addr) (cz1 : Nat) (Z2 : Option Addr) (cz2 : Nat) (r6 : (List Int) × SFault) (b5 : Nat) (Z3 : Option Addr) (cz3 : Nat) (hc11 : ¬ (r4.2.2.Code = 0)) (s : Int × Nat) (o : (Int × Nat) ⊕ (Int ⊕ Bool)) (h : EdfBest.r4 l0 r4 s = some o) (a : Act) (w : World) (hA : EdfBest.A4 K w0 l0 A0 c0 l1 A1 c1 hR0 hL0 hR1 hL1 r1 hc1 z3 hc6 r4 b2 r5 b3 b4 Z1 cz1 Z2 cz2 r6 b5 Z3 cz3 hc11 s a w) (Q : Exit → Act → World → Prop) (hQ : ∀ x a w, Outs (EdfBest.A4 K w0 l0 A0 c0 l1 A1 c1 hR0 hL0 hR1 hL1 r1 hc1 z3 hc6 r4 b2 r5 b3 b4 Z1 cz1 Z2 cz2 r6 b5 Z3 cz3 hc11) (EdfBest.B4 K w0 l0 A0 c0 l1 A1 c1 hR0 hL0 hR1 hL1 r1 hc1 z3 hc6 r4 b2 r5 b3 b4 Z1 cz1 Z2 cz2 r6 b5 Z3 cz3 hc11) o x a w → Q x a w) : (subF Try.f6 [1, 1, 1, 1, 1, 1, 1, 1, 1, 1, 0, 1, 0, 1, 0, 1, 0, 0]).wp Try.prog Q a w := by
  obtain ⟨z4, i2⟩ := s
  obtain ⟨hS, hF⟩ := hA
  replace hS : St w0 w [Own.blk b2 (.cells #[.int .i64 r4.2.2.Code, .int .i64 r4.2.2.At] 29 (0, 0))] := hS
  simp only [EdfBest.r4] at h
  refine (?_ : WE Try.prog 215 (subF Try.f6 [1, 1, 1, 1, 1, 1, 1, 1, 1, 1, 0, 1, 0, 1, 0, 1, 0, 0]) Q [(0, .slice A0 l0.length c0), (1, .slice A1 l1.length c1), (8, .int .i64 r4.1), (9, .int .i64 r4.2.1), (10, .pointer (some ⟨b2, 0, none⟩)), (15, .int .i64 z4), (114, .slice A0 l0.length c0), (115, .int .i64 (l0.length : Int)), (116, .int .i64 (i2 : Int))] w) a hF
  clear hF a
  refine we_seq fun K33 hK33 => ?_
  refine we_region [(0, 0)] rfl ?_
  refine ge_batch [0] (ans := []) (vs := [(117, .bool (decide ((i2 : Int) < (l0.length : Int))))]) (l := []) (by kernel_rfl) trivial ?_
  refine ge_nil fun a hF => hK33 _ _ ?_ a hF
  refine we_seq fun K34 hK34 => ?_
  by_cases hc12 : (i2 : Int) < (l0.length : Int)
  · rw [if_pos hc12] at h
    refine we_known (t := 117) (b := decide ((i2 : Int) < (l0.length : Int))) (v := true) (by kernel_rfl) (decide_eq_true hc12) ?_
    refine we_true (by kernel_rfl) ?_
    refine we_skip fun a hF => hK34 _ _ ?_ a hF
    refine we_seq fun K35 hK35 => ?_
    refine we_block ?_
    refine we_seq fun K36 hK36 => ?_
    refine we_region [(0, 0), (1, 0), (2, 1), (3, 2)] rfl ?_
    rcases hx7 : l0[i2]? with _ | e2
    · rw [hx7] at h; cases h
    rw [hx7] at h
    simp only [] at h
    refine ge_index (d := 118) (ty := 0) (t := 32) (el := 59) (sz := 5) (m := l0.length) (c := c0) (x := (.tmp 114)) (y := (.tmp 116)) (A := A0) (k' := .i64) (j := (i2 : Int)) (jn := i2) (b0 := blkOf A0) (o0 := offOf A0) (by kernel_rfl) (by kernel_rfl) (by kernel_rfl) (by kernel_rfl) (by kernel_rfl) ((hS.rd hR0).eqSome (pos_of_get hx7)) rfl (lt_of_get hx7) ?_
    refine ge_batch [1] (ans := [.val (.int .i64 e2.Task), .val (.int .i64 e2.At), .val (.int .i64 e2.C), .val (.int .i64 e2.Due), .val (.int .i64 e2.P)]) (vs := [(119, .agg #[.int .i64 e2.Task, .int .i64 e2.At, .int .i64 e2.C, .int .i64 e2.Due, .int .i64 e2.P])]) (l := [.loaded ⟨blkOf A0, offOf A0 + i2 * 5, none⟩ (.int .i64 e2.Task), .loaded ⟨blkOf A0, offOf A0 + i2 * 5 + 1, none⟩ (.int .i64 e2.At), .loaded ⟨blkOf A0, offOf A0 + i2 * 5 + 2, none⟩ (.int .i64 e2.C), .loaded ⟨blkOf A0, offOf A0 + i2 * 5 + 3, none⟩ (.int .i64 e2.Due), .loaded ⟨blkOf A0, offOf A0 + i2 * 5 + 4, none⟩ (.int .i64 e2.P)]) (by kernel_rfl) ⟨RdL.cell (j := 0) (hS.rd hR0) hx7 rfl, RdL.cell (j := 1) (hS.rd hR0) hx7 rfl, RdL.cell (j := 2) (hS.rd hR0) hx7 rfl, RdL.cell (j := 3) (hS.rd hR0) hx7 rfl, RdL.cell (j := 4) (hS.rd hR0) hx7 rfl, trivial⟩ ?_
    refine ge_new (d := some 17) (o := .cells #[.int .i64 0, .int .i64 0, .int .i64 0, .int .i64 0, .int .i64 0] 59) (v := fun b => .pointer (some ⟨b, 0, none⟩)) hS (fun b => by kernel_rfl) fun b6 w20 hx8 hS40 => ?_
    refine ge_set (b := b6) (j := 0) (cs := #[.int .i64 0, .int .i64 0, .int .i64 0, .int .i64 0, .int .i64 0]) (t := 59) (vs := [.int .i64 e2.Task, .int .i64 e2.At, .int .i64 e2.C, .int .i64 e2.Due, .int .i64 e2.P]) hS40 (by kernel_rfl) rfl rfl fun w21 hS41 => ?_
    have hS42 : St w0 w21 [Own.blk b6 (.cells #[.int .i64 e2.Task, .int .i64 e2.At, .int .i64 e2.C, .int .i64 e2.Due, .int .i64 e2.P] 59 (0, 0)), Own.blk b2 (.cells #[.int .i64 r4.2.2.Code, .int .i64 r4.2.2.At] 29 (0, 0))] := hS41
    refine ge_nil fun a hF => hK36 _ _ ?_ a hF
    refine we_seq fun K37 hK37 => ?_
    refine we_region [(0, 0), (1, 0), (2, 0), (3, 0), (4, 0), (5, 0), (6, 0), (7, 0), (8, 0), (9, 0)] rfl ?_
    refine ge_batch [0, 1, 2, 3, 4] (ans := [.val (.int .i64 e2.At)]) (vs := [(124, .bool (decide (e2.At ≥ r4.1))), (123, .bool (decide (e2.At ≥ r4.1))), (122, .int .i64 r4.1), (121, .int .i64 e2.At), (120, .pointer (some ⟨b6, 1, none⟩))]) (l := [.loaded ⟨b6, 1, none⟩ (.int .i64 e2.At)]) (by kernel_rfl) ⟨hS42.cell 0 rfl rfl, trivial⟩ ?_
    by_cases hc13 : e2.At ≥ r4.1
    · rw [if_pos hc13] at h
      refine ge_known (t := 124) (b := decide (e2.At ≥ r4.1)) (c := true) (by kernel_rfl) (decide_eq_true hc13) ?_
      refine ge_batch [5, 6, 7, 8, 9] (ans := [.val (.int .i64 e2.Due)]) (vs := [(129, .bool (decide (e2.Due ≤ r4.2.1))), (128, .bool (decide (e2.Due ≤ r4.2.1))), (127, .int .i64 r4.2.1), (126, .int .i64 e2.Due), (125, .pointer (some ⟨b6, 3, none⟩))]) (l := [.loaded ⟨b6, 3, none⟩ (.int .i64 e2.Due)]) (by kernel_rfl) ⟨hS42.cell 0 rfl rfl, trivial⟩ ?_
      refine ge_nil fun a hF => hK37 _ _ ?_ a hF
      by_cases hc14 : e2.Due ≤ r4.2.1
      · rw [if_pos hc14] at h
        refine we_known (t := 129) (b := decide (e2.Due ≤ r4.2.1)) (v := true) (by kernel_rfl) (decide_eq_true hc14) ?_
        refine we_true (by kernel_rfl) ?_
        refine we_region [(0, 0), (1, 0), (2, 0), (3, 0), (4, 0)] rfl ?_
        refine ge_batch [0, 1, 2, 3, 4] (ans := [.val (.int .i64 e2.C)]) (vs := [(15, .int .i64 (IntKind.i64.wrap (z4 + e2.C))), (133, .int .i64 (IntKind.i64.wrap (z4 + e2.C))), (132, .int .i64 e2.C), (131, .pointer (some ⟨b6, 2, none⟩)), (130, .int .i64 z4)]) (l := [.loaded ⟨b6, 2, none⟩ (.int .i64 e2.C)]) (by kernel_rfl) ⟨hS42.cell 0 rfl rfl, trivial⟩ ?_
        refine ge_nil fun a hF => hK35 _ _ ?_ a hF
        refine we_region [(0, 0), (1, 0)] rfl ?_
        refine ge_addn (d := 134) (ty := 3) (x := (.tmp 116)) (y := (.const (.int .i64 1))) (t := 3) (t2 := 3) (k := .i64) (m := i2) (by kernel_rfl) (by kernel_rfl) (by kernel_rfl) (by have h0 := hR0.small; omega) ?_
        refine ge_batch [1] (ans := []) (vs := [(116, .int .i64 ((i2 + 1 : Nat) : Int))]) (l := []) (by kernel_rfl) trivial ?_
        have hS43 := hS42.bring 1 rfl
        have hS44 := hS43.takeN 1
        obtain rfl := Option.some.inj h
        exact ge_nil fun a hF => hQ _ _ _ (Outs.again ⟨hS44, hF.weaken ⟨by kernel_rfl, by kernel_rfl, by kernel_rfl, by kernel_rfl, by kernel_rfl, by kernel_rfl, by kernel_rfl, by kernel_rfl, by kernel_rfl, trivial⟩⟩)
      · rw [if_neg hc14] at h
        refine we_known (t := 129) (b := decide (e2.Due ≤ r4.2.1)) (v := false) (by kernel_rfl) (decide_eq_false hc14) ?_
        refine we_false (by kernel_rfl) ?_
        refine we_skip fun a hF => hK35 _ _ ?_ a hF
        refine we_region [(0, 0), (1, 0)] rfl ?_
        refine ge_addn (d := 134) (ty := 3) (x := (.tmp 116)) (y := (.const (.int .i64 1))) (t := 3) (t2 := 3) (k := .i64) (m := i2) (by kernel_rfl) (by kernel_rfl) (by kernel_rfl) (by have h0 := hR0.small; omega) ?_
        refine ge_batch [1] (ans := []) (vs := [(116, .int .i64 ((i2 + 1 : Nat) : Int))]) (l := []) (by kernel_rfl) trivial ?_
        have hS45 := hS42.bring 1 rfl
        have hS46 := hS45.takeN 1
        obtain rfl := Option.some.inj h
        exact ge_nil fun a hF => hQ _ _ _ (Outs.again ⟨hS46, hF.weaken ⟨by kernel_rfl, by kernel_rfl, by kernel_rfl, by kernel_rfl, by kernel_rfl, by kernel_rfl, by kernel_rfl, by kernel_rfl, by kernel_rfl, trivial⟩⟩)
    · rw [if_neg hc13] at h
      refine ge_known (t := 124) (b := decide (e2.At ≥ r4.1)) (c := false) (by kernel_rfl) (decide_eq_false hc13) ?_
      refine ge_batch [5, 6, 7, 8, 9] (ans := []) (vs := [(129, .bool false), (128, undef), (127, undef), (126, undef), (125, undef)]) (l := []) (by kernel_rfl) trivial ?_
      refine ge_nil fun a hF => hK37 _ _ ?_ a hF
      refine we_false (by kernel_rfl) ?_
      refine we_skip fun a hF => hK35 _ _ ?_ a hF
      refine we_region [(0, 0), (1, 0)] rfl ?_
      refine ge_addn (d := 134) (ty := 3) (x := (.tmp 116)) (y := (.const (.int .i64 1))) (t := 3) (t2 := 3) (k := .i64) (m := i2) (by kernel_rfl) (by kernel_rfl) (by kernel_rfl) (by have h0 := hR0.small; omega) ?_
      refine ge_batch [1] (ans := []) (vs := [(116, .int .i64 ((i2 + 1 : Nat) : Int))]) (l := []) (by kernel_rfl) trivial ?_
      have hS47 := hS42.bring 1 rfl
      have hS48 := hS47.takeN 1
      obtain rfl := Option.some.inj h
      exact ge_nil fun a hF => hQ _ _ _ (Outs.again ⟨hS48, hF.weaken ⟨by kernel_rfl, by kernel_rfl, by kernel_rfl, by kernel_rfl, by kernel_rfl, by kernel_rfl, by kernel_rfl, by kernel_rfl, by kernel_rfl, trivial⟩⟩)
  · rw [if_neg hc12] at h
    refine we_known (t := 117) (b := decide ((i2 : Int) < (l0.length : Int))) (v := false) (by kernel_rfl) (decide_eq_false hc12) ?_
    refine we_false (by kernel_rfl) ?_
    obtain rfl := Option.some.inj h
    exact we_exit fun a hF => hQ _ _ _ (Outs.out nofun (Exits.here ⟨hS, hF.weaken ⟨by kernel_rfl, by kernel_rfl, by kernel_rfl, by kernel_rfl, by kernel_rfl, by kernel_rfl, trivial⟩⟩))
abbrev EdfBest.A3 (K : Nat) (w0 : World) (l0 : List SJob) (A0 : Option Addr) (c0 : Nat) (l1 : List Int) (A1 : Option Addr) (c1 : Nat) (hR0 : RdL w0 A0 l0) (hL0 : l0.length ≤ c0) (hR1 : RdL w0 A1 l1) (hL1 : l1.length ≤ c1) (r1 : Bool) (hc1 : r1 = true) (z3 : Int) (hc6 : ¬ (z3 > 3000)) (r4 : Int × Int × SFault) (b2 : Nat) (r5 : SPlayed × SFault) (b3 : Nat) (b4 : Nat) (Z1 : Option Addr) (cz1 : Nat) (Z2 : Option Addr) (cz2 : Nat) (r6 : (List Int) × SFault) (b5 : Nat) (Z3 : Option Addr) (cz3 : Nat) : Unit → Act → World → Prop := fun (s : Unit) a w => St w0 w [Own.blk b2 (.cells #[.int .i64 r4.2.2.Code, .int .i64 r4.2.2.At] 29 (0, 0))] ∧ Frm 215 a [(0, .slice A0 l0.length c0), (1, .slice A1 l1.length c1), (10, .pointer (some ⟨b2, 0, none⟩))]
abbrev EdfBest.B3 (K : Nat) (w0 : World) (l0 : List SJob) (A0 : Option Addr) (c0 : Nat) (l1 : List Int) (A1 : Option Addr) (c1 : Nat) (hR0 : RdL w0 A0 l0) (hL0 : l0.length ≤ c0) (hR1 : RdL w0 A1 l1) (hL1 : l1.length ≤ c1) (r1 : Bool) (hc1 : r1 = true) (z3 : Int) (hc6 : ¬ (z3 > 3000)) (r4 : Int × Int × SFault) (b2 : Nat) (r5 : SPlayed × SFault) (b3 : Nat) (b4 : Nat) (Z1 : Option Addr) (cz1 : Nat) (Z2 : Option Addr) (cz2 : Nat) (r6 : (List Int) × SFault) (b5 : Nat) (Z3 : Option Addr) (cz3 : Nat) : Bool → Exit → Act → World → Prop := Rets Try.prog Try.f6 (EdfBest.Post w0)
theorem EdfBest_p3 (K : Nat) (w0 : World) (l0 : List SJob) (A0 : Option Addr) (c0 : Nat) (l1 : List Int) (A1 : Option Addr) (c1 : Nat) (hR0 : RdL w0 A0 l0) (hL0 : l0.length ≤ c0) (hR1 : RdL w0 A1 l1) (hL1 : l1.length ≤ c1) (r1 : Bool) (hc1 : r1 = true) (z3 : Int) (hc6 : ¬ (z3 > 3000)) (r4 : Int × Int × SFault) (b2 : Nat) (r5 : SPlayed × SFault) (b3 : Nat) (b4 : Nat) (Z1 : Option Addr) (cz1 : Nat) (Z2 : Option Addr) (cz2 : Nat) (r6 : (List Int) × SFault) (b5 : Nat) (Z3 : Option Addr) (cz3 : Nat) (o : Unit ⊕ Bool) (h : EdfBest.p3 K l0 r4 = some o) (w : World) (hS : St w0 w [Own.blk b2 (.cells #[.int .i64 r4.2.2.Code, .int .i64 r4.2.2.At] 29 (0, 0))]) (Q : Exit → Act → World → Prop) (hQ : ∀ x a w, Outs (EdfBest.A3 K w0 l0 A0 c0 l1 A1 c1 hR0 hL0 hR1 hL1 r1 hc1 z3 hc6 r4 b2 r5 b3 b4 Z1 cz1 Z2 cz2 r6 b5 Z3 cz3) (EdfBest.B3 K w0 l0 A0 c0 l1 A1 c1 hR0 hL0 hR1 hL1 r1 hc1 z3 hc6 r4 b2 r5 b3 b4 Z1 cz1 Z2 cz2 r6 b5 Z3 cz3) o x a w → Q x a w) : WE Try.prog 215 (subF Try.f6 [1, 1, 1, 1, 1, 1, 1, 1, 1, 1, 0]) Q [(0, .slice A0 l0.length c0), (1, .slice A1 l1.length c1), (8, .int .i64 r4.1), (9, .int .i64 r4.2.1), (10, .pointer (some ⟨b2, 0, none⟩))] w := by
  simp only [EdfBest.p3] at h
  refine we_seq fun K29 hK29 => ?_
  refine we_region [(0, 0), (1, 0), (2, 0)] rfl ?_
  refine ge_batch [0, 1, 2] (ans := [.val (.int .i64 r4.2.2.Code)]) (vs := [(113, .bool (r4.2.2.Code != 0)), (112, .int .i64 r4.2.2.Code), (111, .pointer (some ⟨b2, 0, none⟩))]) (l := [.loaded ⟨b2, 0, none⟩ (.int .i64 r4.2.2.Code)]) (by kernel_rfl) ⟨hS.cell 0 rfl rfl, trivial⟩ ?_
  refine ge_nil fun a hF => hK29 _ _ ?_ a hF
  by_cases hc11 : r4.2.2.Code = 0
  · rw [if_pos hc11] at h
    refine we_known (t := 113) (b := (r4.2.2.Code != 0)) (v := false) (by kernel_rfl) (bne_eq_false_iff_eq.2 hc11) ?_
    refine we_false (by kernel_rfl) ?_
    obtain rfl := Option.some.inj h
    exact we_skip fun a hF => hQ _ _ _ (Outs.again ⟨hS, hF.weaken ⟨by kernel_rfl, by kernel_rfl, by kernel_rfl, trivial⟩⟩)
  · rw [if_neg hc11] at h
    refine we_known (t := 113) (b := (r4.2.2.Code != 0)) (v := true) (by kernel_rfl) (bne_iff_ne.2 hc11) ?_
    refine we_true (by kernel_rfl) ?_
    refine we_seq fun K30 hK30 => ?_
    refine we_region [(0, 0)] rfl ?_
    refine ge_batch [0] (ans := []) (vs := [(15, .int .i64 0)]) (l := []) (by kernel_rfl) trivial ?_
    refine ge_nil fun a hF => hK30 _ _ ?_ a hF
    refine we_seq fun K31 hK31 => ?_
    refine we_seq fun K32 hK32 => ?_
    refine we_region [(0, 0), (1, 0), (2, 0)] rfl ?_
    refine ge_batch [0, 1, 2] (ans := []) (vs := [(116, .int .i64 0), (115, .int .i64 (l0.length : Int)), (114, .slice A0 l0.length c0)]) (l := []) (by kernel_rfl) trivial ?_
    refine ge_nil fun a hF => hK32 _ _ ?_ a hF
    refine we_block ?_
    rcases hq10 : iter (EdfBest.r4 l0 r4) K (0, 0) with _ | (z6 | rr1)
    · rw [hq10] at h; cases h
    · rw [hq10] at h
      simp only [] at h
      refine we_iter (A := EdfBest.A4 K w0 l0 A0 c0 l1 A1 c1 hR0 hL0 hR1 hL1 r1 hc1 z3 hc6 r4 b2 r5 b3 b4 Z1 cz1 Z2 cz2 r6 b5 Z3 cz3 hc11) (B := EdfBest.B4 K w0 l0 A0 c0 l1 A1 c1 hR0 hL0 hR1 hL1 r1 hc1 z3 hc6 r4 b2 r5 b3 b4 Z1 cz1 Z2 cz2 r6 b5 Z3 cz3 hc11) hq10 (fun a hF => ⟨hS, hF.weaken ⟨by kernel_rfl, by kernel_rfl, by kernel_rfl, by kernel_rfl, by kernel_rfl, by kernel_rfl, by kernel_rfl, by kernel_rfl, by kernel_rfl, trivial⟩⟩) (fun s o hf a w hA Q hQ => EdfBest_r4 K w0 l0 A0 c0 l1 A1 c1 hR0 hL0 hR1 hL1 r1 hc1 z3 hc6 r4 b2 r5 b3 b4 Z1 cz1 Z2 cz2 r6 b5 Z3 cz3 hc11 s o hf a w hA Q hQ) ?_
      rintro _ a w22 _ ⟨rfl, hS49, hF⟩
      replace hS49 : St w0 w22 [Own.blk b2 (.cells #[.int .i64 r4.2.2.Code, .int .i64 r4.2.2.At] 29 (0, 0))] := hS49
      refine hK31 [(0, .slice A0 l0.length c0), (1, .slice A1 l1.length c1), (8, .int .i64 r4.1), (9, .int .i64 r4.2.1), (10, .pointer (some ⟨b2, 0, none⟩)), (15, .int .i64 z6)] w22 ?_ a hF
      refine we_seq fun K38 hK38 => ?_
      refine we_region [(0, 0), (1, 0), (2, 0), (3, 0), (4, 0)] rfl ?_
      refine ge_batch [0, 1, 2, 3, 4] (ans := []) (vs := [(139, .bool (decide (z6 ≤ (IntKind.i64.wrap (r4.2.1 - r4.1))))), (138, .int .i64 (IntKind.i64.wrap (r4.2.1 - r4.1))), (137, .int .i64 r4.1), (136, .int .i64 r4.2.1), (135, .int .i64 z6)]) (l := []) (by kernel_rfl) trivial ?_
      refine ge_nil fun a hF => hK38 _ _ ?_ a hF
      by_cases hc15 : z6 ≤ (IntKind.i64.wrap (r4.2.1 - r4.1))
      · rw [if_pos hc15] at h
        refine we_known (t := 139) (b := decide (z6 ≤ (IntKind.i64.wrap (r4.2.1 - r4.1)))) (v := true) (by kernel_rfl) (decide_eq_true hc15) ?_
        refine we_true (by kernel_rfl) ?_
        refine we_seq fun K39 hK39 => ?_
        refine we_region [(0, 0)] rfl ?_
        refine ge_batch [0] (ans := []) (vs := [(4, .bool false)]) (l := []) (by kernel_rfl) trivial ?_
        refine ge_nil fun a hF => hK39 _ _ ?_ a hF
        have hS50 := hS49.takeN 0
        obtain rfl := Option.some.inj h
        exact we_ret fun a hF => hQ _ _ _ (Outs.out nofun ⟨rfl, (post_ret (rs := [.tmp 4]) (ans := []) (vs := [.bool false]) (l := []) rfl (by kernel_rfl) trivial ⟨rfl, hS50⟩) a hF⟩)
      · rw [if_neg hc15] at h
        refine we_known (t := 139) (b := decide (z6 ≤ (IntKind.i64.wrap (r4.2.1 - r4.1)))) (v := false) (by kernel_rfl) (decide_eq_false hc15) ?_
        refine we_false (by kernel_rfl) ?_
        obtain rfl := Option.some.inj h
        exact we_skip fun a hF => hQ _ _ _ (Outs.again ⟨hS49, hF.weaken ⟨by kernel_rfl, by kernel_rfl, by kernel_rfl, trivial⟩⟩)
    · rw [hq10] at h
      simp only [] at h
      refine we_iter (A := EdfBest.A4 K w0 l0 A0 c0 l1 A1 c1 hR0 hL0 hR1 hL1 r1 hc1 z3 hc6 r4 b2 r5 b3 b4 Z1 cz1 Z2 cz2 r6 b5 Z3 cz3 hc11) (B := EdfBest.B4 K w0 l0 A0 c0 l1 A1 c1 hR0 hL0 hR1 hL1 r1 hc1 z3 hc6 r4 b2 r5 b3 b4 Z1 cz1 Z2 cz2 r6 b5 Z3 cz3 hc11) hq10 (fun a hF => ⟨hS, hF.weaken ⟨by kernel_rfl, by kernel_rfl, by kernel_rfl, by kernel_rfl, by kernel_rfl, by kernel_rfl, by kernel_rfl, by kernel_rfl, by kernel_rfl, trivial⟩⟩) (fun s o hf a w hA Q hQ => EdfBest_r4 K w0 l0 A0 c0 l1 A1 c1 hR0 hL0 hR1 hL1 r1 hc1 z3 hc6 r4 b2 r5 b3 b4 Z1 cz1 Z2 cz2 r6 b5 Z3 cz3 hc11 s o hf a w hA Q hQ) ?_
      rintro _ a w1 _ ⟨rfl, hb⟩
      obtain rfl := Option.some.inj h
      exact hQ _ _ _ (Outs.out nofun ⟨rfl, hb⟩)
abbrev EdfBest.A5 (K : Nat) (w0 : World) (l0 : List SJob) (A0 : Option Addr) (c0 : Nat) (l1 : List Int) (A1 : Option Addr) (c1 : Nat) (hR0 : RdL w0 A0 l0) (hL0 : l0.length ≤ c0) (hR1 : RdL w0 A1 l1) (hL1 : l1.length ≤ c1) (r1 : Bool) (hc1 : r1 = true) (z3 : Int) (hc6 : ¬ (z3 > 3000)) (r4 : Int × Int × SFault) (b2 : Nat) (r5 : SPlayed × SFault) (b3 : Nat) (b4 : Nat) (Z1 : Option Addr) (cz1 : Nat) (Z2 : Option Addr) (cz2 : Nat) (r6 : (List Int) × SFault) (b5 : Nat) (Z3 : Option Addr) (cz3 : Nat) (hc16 : l0.length ≤ 17592186044416) (Z4 : Option Addr) (cz4 : Nat) : (Nat × (List Int)) → Act → World → Prop := fun (s : Nat × (List Int)) a w => St w0 w [Own.blk b2 (.cells #[.int .i64 r4.2.2.Code, .int .i64 r4.2.2.At] 29 (0, 0)), Own.of (.slice Z4 s.2.length cz4) 3 s.2] ∧ Frm 215 a [(0, .slice A0 l0.length c0), (1, .slice A1 l1.length c1), (10, .pointer (some ⟨b2, 0, none⟩)), (18, (.slice Z4 s.2.length cz4)), (143, .slice A0 l0.length c0), (144, .int .i64 (l0.length : Int)), (145, .int .i64 (s.1 : Int))]
abbrev EdfBest.B5 (K : Nat) (w0 : World) (l0 : List SJob) (A0 : Option Addr) (c0 : Nat) (l1 : List Int) (A1 : Option Addr) (c1 : Nat) (hR0 : RdL w0 A0 l0) (hL0 : l0.length ≤ c0) (hR1 : RdL w0 A1 l1) (hL1 : l1.length ≤ c1) (r1 : Bool) (hc1 : r1 = true) (z3 : Int) (hc6 : ¬ (z3 > 3000)) (r4 : Int × Int × SFault) (b2 : Nat) (r5 : SPlayed × SFault) (b3 : Nat) (b4 : Nat) (Z1 : Option Addr) (cz1 : Nat) (Z2 : Option Addr) (cz2 : Nat) (r6 : (List Int) × SFault) (b5 : Nat) (Z3 : Option Addr) (cz3 : Nat) (hc16 : l0.length ≤ 17592186044416) (Z4 : Option Addr) (cz4 : Nat) : ((List Int) ⊕ Bool) → Exit → Act → World → Prop := Exits 4 (fun (s : (List Int)) a w => St w0 w [Own.blk b2 (.cells #[.int .i64 r4.2.2.Code, .int .i64 r4.2.2.At] 29 (0, 0)), Own.of (.slice Z4 s.length cz4) 3 s] ∧ Frm 215 a [(0, .slice A0 l0.length c0), (1, .slice A1 l1.length c1), (10, .pointer (some ⟨b2, 0, none⟩)), (18, (.slice Z4 s.length cz4))]) (Rets Try.prog Try.f6 (EdfBest.Post w0))
theorem EdfBest_r5 (K : Nat) (w0 : World) (l0 : List SJob) (A0 : Option Addr) (c0 : Nat) (l1 : List Int) (A1 : Option Addr) (c1 : Nat) (hR0 : RdL w0 A0 l0) (hL0 : l0.length ≤ c0) (hR1 : RdL w0 A1 l1) (hL1 : l1.length ≤ c1) (r1 : Bool) (hc1 : r1 = true) (z3 : Int) (hc6 : ¬ (z3 > 3000)) (r4 : Int × Int × SFault) (b2 : Nat) (r5 : SPlayed × SFault) (b3 : Nat) (b4 : Nat) (Z1 : Option Addr) (cz1 : Nat) (Z2 : Option Addr) (cz2 : Nat) (r6 : (List Int) × SFault) (b5 : Nat) (Z3 : Option Addr) (cz3 : Nat) (hc16 : l0.length ≤ 17592186044416) (Z4 : Option Addr) (cz4 : Nat) (s : Nat × (List Int)) (o : (Nat × (List Int)) ⊕ ((List Int) ⊕ Bool)) (h : EdfBest.r5 l0 s = some o) (a : Act) (w : World) (hA : EdfBest.A5 K w0 l0 A0 c0 l1 A1 c1 hR0 hL0 hR1 hL1 r1 hc1 z3 hc6 r4 b2 r5 b3 b4 Z1 cz1 Z2 cz2 r6 b5 Z3 cz3 hc16 Z4 cz4 s a w) (Q : Exit → Act → World → Prop) (hQ : ∀ x a w, Outs (EdfBest.A5 K w0 l0 A0 c0 l1 A1 c1 hR0 hL0 hR1 hL1 r1 hc1 z3 hc6 r4 b2 r5 b3 b4 Z1 cz1 Z2 cz2 r6 b5 Z3 cz3 hc16 Z4 cz4) (EdfBest.B5 K w0 l0 A0 c0 l1 A1 c1 hR0 hL0 hR1 hL1 r1 hc1 z3 hc6 r4 b2 r5 b3 b4 Z1 cz1 Z2 cz2 r6 b5 Z3 cz3 hc16 Z4 cz4) o x a w → Q x a w) : (subF Try.f6 [1, 1, 1, 1, 1, 1, 1, 1, 1, 1, 1, 1, 0, 1, 0, 0]).wp Try.prog Q a w := by
  obtain ⟨i3, m1⟩ := s
  obtain ⟨hS, hF⟩ := hA
  replace hS : St w0 w [Own.blk b2 (.cells #[.int .i64 r4.2.2.Code, .int .i64 r4.2.2.At] 29 (0, 0)), Own.of (.slice Z4 m1.length cz4) 3 m1] := hS
  simp only [EdfBest.r5] at h
  refine (?_ : WE Try.prog 215 (subF Try.f6 [1, 1, 1, 1, 1, 1, 1, 1, 1, 1, 1, 1, 0, 1, 0, 0]) Q [(0, .slice A0 l0.length c0), (1, .slice A1 l1.length c1), (10, .pointer (some ⟨b2, 0, none⟩)), (18, (.slice Z4 m1.length cz4)), (143, .slice A0 l0.length c0), (144, .int .i64 (l0.length : Int)), (145, .int .i64 (i3 : Int))] w) a hF
  clear hF a
  refine we_seq fun K43 hK43 => ?_
  refine we_region [(0, 0)] rfl ?_
  refine ge_batch [0] (ans := []) (vs := [(146, .bool (decide ((i3 : Int) < (l0.length : Int))))]) (l := []) (by kernel_rfl) trivial ?_
  refine ge_nil fun a hF => hK43 _ _ ?_ a hF
  refine we_seq fun K44 hK44 => ?_
  by_cases hc17 : (i3 : Int) < (l0.length : Int)
  · rw [if_pos hc17] at h
    refine we_known (t := 146) (b := decide ((i3 : Int) < (l0.length : Int))) (v := true) (by kernel_rfl) (decide_eq_true hc17) ?_
    refine we_true (by kernel_rfl) ?_
    refine we_skip fun a hF => hK44 _ _ ?_ a hF
    refine we_seq fun K45 hK45 => ?_
    refine we_block ?_
    refine we_seq fun K46 hK46 => ?_
    refine we_region [(0, 0), (1, 0), (2, 0), (3, 1), (4, 0), (5, 2)] rfl ?_
    refine ge_batch [0] (ans := []) (vs := [(147, .int .i64 (i3 : Int))]) (l := []) (by kernel_rfl) trivial ?_
    rcases hx9 : l0[i3]? with _ | e3
    · rw [hx9] at h; cases h
    rw [hx9] at h
    simp only [] at h
    refine ge_index (d := 148) (ty := 0) (t := 32) (el := 59) (sz := 5) (m := l0.length) (c := c0) (x := (.tmp 143)) (y := (.tmp 145)) (A := A0) (k' := .i64) (j := (i3 : Int)) (jn := i3) (b0 := blkOf A0) (o0 := offOf A0) (by kernel_rfl) (by kernel_rfl) (by kernel_rfl) (by kernel_rfl) (by kernel_rfl) ((hS.rd hR0).eqSome (pos_of_get hx9)) rfl (lt_of_get hx9) ?_
    refine ge_batch [2] (ans := [.val (.int .i64 e3.Task), .val (.int .i64 e3.At), .val (.int .i64 e3.C), .val (.int .i64 e3.Due), .val (.int .i64 e3.P)]) (vs := [(149, .agg #[.int .i64 e3.Task, .int .i64 e3.At, .int .i64 e3.C, .int .i64 e3.Due, .int .i64 e3.P])]) (l := [.loaded ⟨blkOf A0, offOf A0 + i3 * 5, none⟩ (.int .i64 e3.Task), .loaded ⟨blkOf A0, offOf A0 + i3 * 5 + 1, none⟩ (.int .i64 e3.At), .loaded ⟨blkOf A0, offOf A0 + i3 * 5 + 2, none⟩ (.int .i64 e3.C), .loaded ⟨blkOf A0, offOf A0 + i3 * 5 + 3, none⟩ (.int .i64 e3.Due), .loaded ⟨blkOf A0, offOf A0 + i3 * 5 + 4, none⟩ (.int .i64 e3.P)]) (by kernel_rfl) ⟨RdL.cell (j := 0) (hS.rd hR0) hx9 rfl, RdL.cell (j := 1) (hS.rd hR0) hx9 rfl, RdL.cell (j := 2) (hS.rd hR0) hx9 rfl, RdL.cell (j := 3) (hS.rd hR0) hx9 rfl, RdL.cell (j := 4) (hS.rd hR0) hx9 rfl, trivial⟩ ?_
    refine ge_new (d := some 20) (o := .cells #[.int .i64 0, .int .i64 0, .int .i64 0, .int .i64 0, .int .i64 0] 59) (v := fun b => .pointer (some ⟨b, 0, none⟩)) hS (fun b => by kernel_rfl) fun b7 w25 hx10 hS54 => ?_
    refine ge_batch [4] (ans := []) (vs := [(19, .int .i64 (i3 : Int))]) (l := []) (by kernel_rfl) trivial ?_
    refine ge_set (b := b7) (j := 0) (cs := #[.int .i64 0, .int .i64 0, .int .i64 0, .int .i64 0, .int .i64 0]) (t := 59) (vs := [.int .i64 e3.Task, .int .i64 e3.At, .int .i64 e3.C, .int .i64 e3.Due, .int .i64 e3.P]) hS54 (by kernel_rfl) rfl rfl fun w26 hS55 => ?_
    have hS56 : St w0 w26 [Own.blk b7 (.cells #[.int .i64 e3.Task, .int .i64 e3.At, .int .i64 e3.C, .int .i64 e3.Due, .int .i64 e3.P] 59 (0, 0)), Own.blk b2 (.cells #[.int .i64 r4.2.2.Code, .int .i64 r4.2.2.At] 29 (0, 0)), Own.of (.slice Z4 m1.length cz4) 3 m1] := hS55
    refine ge_nil fun a hF => hK46 _ _ ?_ a hF
    refine we_region [(0, 0), (1, 0), (2, 0), (3, 0), (4, 0), (5, 2)] rfl ?_
    refine ge_batch [0, 1, 2, 3] (ans := [.val (.int .i64 e3.C)]) (vs := [(153, .int .i64 e3.C), (152, .pointer (some ⟨b7, 2, none⟩)), (151, .int .i64 (i3 : Int)), (150, (.slice Z4 m1.length cz4))]) (l := [.loaded ⟨b7, 2, none⟩ (.int .i64 e3.C)]) (by kernel_rfl) ⟨hS56.cell 0 rfl rfl, trivial⟩ ?_
    rcases hx11 : m1[i3]? with _ | e4
    · rw [hx11] at h; cases h
    rw [hx11] at h
    simp only [] at h
    refine ge_index (d := 154) (ty := 0) (t := 24) (el := 3) (sz := 1) (m := m1.length) (c := cz4) (x := (.tmp 150)) (y := (.tmp 151)) (A := Z4) (k' := .i64) (j := (i3 : Int)) (jn := i3) (b0 := blkOf Z4) (o0 := offOf Z4) (by kernel_rfl) (by kernel_rfl) (by kernel_rfl) (by kernel_rfl) (by kernel_rfl) ((hS56.rdAt 2 rfl).eqSome (pos_of_get hx11)) rfl (lt_of_get hx11) ?_
    have hS57 := hS56.bring 2 rfl
    refine ge_seti (α := Int) (A := Z4) (nn := m1.length) (c := cz4) (t := 3) (l := m1) (x := e4) (x' := e3.C) (jn := i3) (j := 0) (vs := [.int .i64 e3.C]) (l' := [.stored ⟨blkOf Z4, offOf Z4 + i3 * 1, none⟩ (.int .i64 e3.C)]) hS57 (by kernel_rfl) (by kernel_rfl) hx11 rfl rfl rfl fun w27 hS58 => ?_
    have hS59 : St w0 w27 [Own.of (.slice Z4 m1.length cz4) 3 (m1.set i3 e3.C), Own.blk b7 (.cells #[.int .i64 e3.Task, .int .i64 e3.At, .int .i64 e3.C, .int .i64 e3.Due, .int .i64 e3.P] 59 (0, 0)), Own.blk b2 (.cells #[.int .i64 r4.2.2.Code, .int .i64 r4.2.2.At] 29 (0, 0))] := hS58
    have hE1 : m1.length = (m1.set i3 e3.C).length := hS59.lenAt 0 rfl
    have hS60 : St w0 w27 [Own.of (.slice Z4 (m1.set i3 e3.C).length cz4) 3 (m1.set i3 e3.C), Own.blk b7 (.cells #[.int .i64 e3.Task, .int .i64 e3.At, .int .i64 e3.C, .int .i64 e3.Due, .int .i64 e3.P] 59 (0, 0)), Own.blk b2 (.cells #[.int .i64 r4.2.2.Code, .int .i64 r4.2.2.At] 29 (0, 0))] := by rw [← hE1]; exact hS59
    refine ge_same (t := 18) (v := (.slice Z4 m1.length cz4)) (v' := (.slice Z4 (m1.set i3 e3.C).length cz4)) (by kernel_rfl) (by rw [hE1]) ?_
    refine ge_same (t := 150) (v := (.slice Z4 m1.length cz4)) (v' := (.slice Z4 (m1.set i3 e3.C).length cz4)) (by kernel_rfl) (by rw [hE1]) ?_
    refine ge_nil fun a hF => hK45 _ _ ?_ a hF
    refine we_region [(0, 0), (1, 0)] rfl ?_
    refine ge_addn (d := 155) (ty := 3) (x := (.tmp 145)) (y := (.const (.int .i64 1))) (t := 3) (t2 := 3) (k := .i64) (m := i3) (by kernel_rfl) (by kernel_rfl) (by kernel_rfl) (by have h0 := hR0.small; omega) ?_
    refine ge_batch [1] (ans := []) (vs := [(145, .int .i64 ((i3 + 1 : Nat) : Int))]) (l := []) (by kernel_rfl) trivial ?_
    have hS61 := hS60.bring 2 rfl
    have hS62 := hS61.takeN 2
    obtain rfl := Option.some.inj h
    exact ge_nil fun a hF => hQ _ _ _ (Outs.again ⟨hS62, hF.weaken ⟨by kernel_rfl, by kernel_rfl, by kernel_rfl, by kernel_rfl, by kernel_rfl, by kernel_rfl, by kernel_rfl, trivial⟩⟩)
  · rw [if_neg hc17] at h
    refine we_known (t := 146) (b := decide ((i3 : Int) < (l0.length : Int))) (v := false) (by kernel_rfl) (decide_eq_false hc17) ?_
    refine we_false (by kernel_rfl) ?_
    have hS63 := hS.bring 1 rfl
    have hS64 := hS63.bring 1 rfl
    obtain rfl := Option.some.inj h
    exact we_exit fun a hF => hQ _ _ _ (Outs.out nofun (Exits.here ⟨hS64, hF.weaken ⟨by kernel_rfl, by kernel_rfl, by kernel_rfl, by kernel_rfl, trivial⟩⟩))
abbrev EdfBest.A6 (K : Nat) (w0 : World) (l0 : List SJob) (A0 : Option Addr) (c0 : Nat) (l1 : List Int) (A1 : Option Addr) (c1 : Nat) (hR0 : RdL w0 A0 l0) (hL0 : l0.length ≤ c0) (hR1 : RdL w0 A1 l1) (hL1 : l1.length ≤ c1) (r1 : Bool) (hc1 : r1 = true) (z3 : Int) (hc6 : ¬ (z3 > 3000)) (r4 : Int × Int × SFault) (b2 : Nat) (r5 : SPlayed × SFault) (b3 : Nat) (b4 : Nat) (Z1 : Option Addr) (cz1 : Nat) (Z2 : Option Addr) (cz2 : Nat) (r6 : (List Int) × SFault) (b5 : Nat) (Z3 : Option Addr) (cz3 : Nat) (hc16 : l0.length ≤ 17592186044416) (Z4 : Option Addr) (cz4 : Nat) (m3 : List Int) : (Nat × (List Int)) → Act → World → Prop := fun (s : Nat × (List Int)) a w => St w0 w [Own.blk b2 (.cells #[.int .i64 r4.2.2.Code, .int .i64 r4.2.2.At] 29 (0, 0)), Own.of (.slice Z4 s.2.length cz4) 3 s.2] ∧ Frm 215 a [(0, .slice A0 l0.length c0), (10, .pointer (some ⟨b2, 0, none⟩)), (18, (.slice Z4 s.2.length cz4)), (156, .slice A1 l1.length c1), (157, .int .i64 (l1.length : Int)), (158, .int .i64 (s.1 : Int))]
abbrev EdfBest.B6 (K : Nat) (w0 : World) (l0 : List SJob) (A0 : Option Addr) (c0 : Nat) (l1 : List Int) (A1 : Option Addr) (c1 : Nat) (hR0 : RdL w0 A0 l0) (hL0 : l0.length ≤ c0) (hR1 : RdL w0 A1 l1) (hL1 : l1.length ≤ c1) (r1 : Bool) (hc1 : r1 = true) (z3 : Int) (hc6 : ¬ (z3 > 3000)) (r4 : Int × Int × SFault) (b2 : Nat) (r5 : SPlayed × SFault) (b3 : Nat) (b4 : Nat) (Z1 : Option Addr) (cz1 : Nat) (Z2 : Option Addr) (cz2 : Nat) (r6 : (List Int) × SFault) (b5 : Nat) (Z3 : Option Addr) (cz3 : Nat) (hc16 : l0.length ≤ 17592186044416) (Z4 : Option Addr) (cz4 : Nat) (m3 : List Int) : ((List Int) ⊕ Bool) → Exit → Act → World → Prop := Exits 6 (fun (s : (List Int)) a w => St w0 w [Own.blk b2 (.cells #[.int .i64 r4.2.2.Code, .int .i64 r4.2.2.At] 29 (0, 0)), Own.of (.slice Z4 s.length cz4) 3 s] ∧ Frm 215 a [(10, .pointer (some ⟨b2, 0, none⟩)), (18, (.slice Z4 s.length cz4))]) (Rets Try.prog Try.f6 (EdfBest.Post w0))
theorem EdfBest_r6 (K : Nat) (w0 : World) (l0 : List SJob) (A0 : Option Addr) (c0 : Nat) (l1 : List Int) (A1 : Option Addr) (c1 : Nat) (hR0 : RdL w0 A0 l0) (hL0 : l0.length ≤ c0) (hR1 : RdL w0 A1 l1) (hL1 : l1.length ≤ c1) (r1 : Bool) (hc1 : r1 = true) (z3 : Int) (hc6 : ¬ (z3 > 3000)) (r4 : Int × Int × SFault) (b2 : Nat) (r5 : SPlayed × SFault) (b3 : Nat) (b4 : Nat) (Z1 : Option Addr) (cz1 : Nat) (Z2 : Option Addr) (cz2 : Nat) (r6 : (List Int) × SFault) (b5 : Nat) (Z3 : Option Addr) (cz3 : Nat) (hc16 : l0.length ≤ 17592186044416) (Z4 : Option Addr) (cz4 : Nat) (m3 : List Int) (s : Nat × (List Int)) (o : (Nat × (List Int)) ⊕ ((List Int) ⊕ Bool)) (h : EdfBest.r6 l0 l1 s = some o) (a : Act) (w : World) (hA : EdfBest.A6 K w0 l0 A0 c0 l1 A1 c1 hR0 hL0 hR1 hL1 r1 hc1 z3 hc6 r4 b2 r5 b3 b4 Z1 cz1 Z2 cz2 r6 b5 Z3 cz3 hc16 Z4 cz4 m3 s a w) (Q : Exit → Act → World → Prop) (hQ : ∀ x a w, Outs (EdfBest.A6 K w0 l0 A0 c0 l1 A1 c1 hR0 hL0 hR1 hL1 r1 hc1 z3 hc6 r4 b2 r5 b3 b4 Z1 cz1 Z2 cz2 r6 b5 Z3 cz3 hc16 Z4 cz4 m3) (EdfBest.B6 K w0 l0 A0 c0 l1 A1 c1 hR0 hL0 hR1 hL1 r1 hc1 z3 hc6 r4 b2 r5 b3 b4 Z1 cz1 Z2 cz2 r6 b5 Z3 cz3 hc16 Z4 cz4 m3) o x a w → Q x a w) : (subF Try.f6 [1, 1, 1, 1, 1, 1, 1, 1, 1, 1, 1, 1, 1, 0, 1, 0, 0]).wp Try.prog Q a w := by
  obtain ⟨i4, m4⟩ := s
  obtain ⟨hS, hF⟩ := hA
  replace hS : St w0 w [Own.blk b2 (.cells #[.int .i64 r4.2.2.Code, .int .i64 r4.2.2.At] 29 (0, 0)), Own.of (.slice Z4 m4.length cz4) 3 m4] := hS
  simp only [EdfBest.r6] at h
  refine (?_ : WE Try.prog 215 (subF Try.f6 [1, 1, 1, 1, 1, 1, 1, 1, 1, 1, 1, 1, 1, 0, 1, 0, 0]) Q [(0, .slice A0 l0.length c0), (10, .pointer (some ⟨b2, 0, none⟩)), (18, (.slice Z4 m4.length cz4)), (156, .slice A1 l1.length c1), (157, .int .i64 (l1.length : Int)), (158, .int .i64 (i4 : Int))] w) a hF
  clear hF a
  refine we_seq fun K49 hK49 => ?_
  refine we_region [(0, 0)] rfl ?_
  refine ge_batch [0] (ans := []) (vs := [(159, .bool (decide ((i4 : Int) < (l1.length : Int))))]) (l := []) (by kernel_rfl) trivial ?_
  refine ge_nil fun a hF => hK49 _ _ ?_ a hF
  refine we_seq fun K50 hK50 => ?_
  by_cases hc18 : (i4 : Int) < (l1.length : Int)
  · rw [if_pos hc18] at h
    refine we_known (t := 159) (b := decide ((i4 : Int) < (l1.length : Int))) (v := true) (by kernel_rfl) (decide_eq_true hc18) ?_
    refine we_true (by kernel_rfl) ?_
    refine we_skip fun a hF => hK50 _ _ ?_ a hF
    refine we_seq fun K51 hK51 => ?_
    refine we_block ?_
    refine we_seq fun K52 hK52 => ?_
    refine we_region [(0, 0), (1, 0), (2, 0), (3, 0), (4, 0)] rfl ?_
    refine ge_batch [0] (ans := []) (vs := [(160, .int .i64 (i4 : Int))]) (l := []) (by kernel_rfl) trivial ?_
    rcases hx12 : l1[i4]? with _ | e5
    · rw [hx12] at h; cases h
    rw [hx12] at h
    simp only [] at h
    refine ge_index (d := 161) (ty := 0) (t := 24) (el := 3) (sz := 1) (m := l1.length) (c := c1) (x := (.tmp 156)) (y := (.tmp 158)) (A := A1) (k' := .i64) (j := (i4 : Int)) (jn := i4) (b0 := blkOf A1) (o0 := offOf A1) (by kernel_rfl) (by kernel_rfl) (by kernel_rfl) (by kernel_rfl) (by kernel_rfl) ((hS.rd hR1).eqSome (pos_of_get hx12)) rfl (lt_of_get hx12) ?_
    refine ge_batch [2, 3, 4] (ans := [.val (.int .i64 e5)]) (vs := [(22, .int .i64 e5), (21, .int .i64 (i4 : Int)), (162, .int .i64 e5)]) (l := [.loaded ⟨blkOf A1, offOf A1 + i4 * 1, none⟩ (.int .i64 e5)]) (by kernel_rfl) ⟨RdL.cell (j := 0) (hS.rd hR1) hx12 rfl, trivial⟩ ?_
    refine ge_nil fun a hF => hK52 _ _ ?_ a hF
    refine we_seq fun K53 hK53 => ?_
    refine we_region [(0, 0), (1, 0), (2, 0), (3, 0), (4, 0), (5, 0), (6, 0), (7, 0), (8, 0), (9, 0), (10, 0), (11, 0), (12, 0), (13, 0), (14, 0), (15, 0), (16, 0), (17, 0), (18, 0), (19, 0), (20, 0), (21, 0), (22, 0), (23, 0), (24, 0), (25, 0), (26, 0), (27, 0), (28, 0), (29, 0), (30, 0), (31, 0), (32, 0)] rfl ?_
    refine ge_batch [0, 1, 2] (ans := []) (vs := [(165, .bool (decide (e5 ≥ 0))), (164, .bool (decide (e5 ≥ 0))), (163, .int .i64 e5)]) (l := []) (by kernel_rfl) trivial ?_
    by_cases hc19 : e5 ≥ 0
    · rw [if_pos hc19] at h
      refine ge_known (t := 165) (b := decide (e5 ≥ 0)) (c := true) (by kernel_rfl) (decide_eq_true hc19) ?_
      refine ge_batch [3, 4, 5, 6, 7, 8] (ans := []) (vs := [(171, .bool (decide (e5 < (l0.length : Int)))), (170, .bool (decide (e5 < (l0.length : Int)))), (169, .bool (decide (e5 < (l0.length : Int)))), (168, .int .i64 (l0.length : Int)), (167, .slice A0 l0.length c0), (166, .int .i64 e5)]) (l := []) (by kernel_rfl) trivial ?_
      by_cases hc20 : e5 < (l0.length : Int)
      · rw [if_pos hc20] at h
        refine ge_known (t := 171) (b := decide (e5 < (l0.length : Int))) (c := true) (by kernel_rfl) (decide_eq_true hc20) ?_
        refine ge_batch [9, 10] (ans := []) (vs := [(173, .int .i64 e5), (172, .slice A0 l0.length c0)]) (l := []) (by kernel_rfl) trivial ?_
        by_cases hc21 : 0 ≤ e5
        · rw [if_pos hc21] at h
          rcases hx13 : l0[(e5).toNat]? with _ | e6
          · rw [hx13] at h; cases h
          rw [hx13] at h
          simp only [] at h
          refine ge_index (d := 174) (ty := 0) (t := 32) (el := 59) (sz := 5) (m := l0.length) (c := c0) (x := (.tmp 172)) (y := (.tmp 173)) (A := A0) (k' := .i64) (j := e5) (jn := ((e5).toNat)) (b0 := blkOf A0) (o0 := offOf A0) (by kernel_rfl) (by kernel_rfl) (by kernel_rfl) (by kernel_rfl) (by kernel_rfl) ((hS.rd hR0).eqSome (pos_of_get hx13)) (Int.toNat_of_nonneg hc21).symm (lt_of_get hx13) ?_
          refine ge_batch [12, 13, 14, 15, 16, 17] (ans := [.val (.int .i64 e6.At)]) (vs := [(180, .bool (decide (e6.At ≤ (i4 : Int)))), (179, .bool (decide (e6.At ≤ (i4 : Int)))), (178, .bool (decide (e6.At ≤ (i4 : Int)))), (177, .int .i64 (i4 : Int)), (176, .int .i64 e6.At), (175, .pointer (some ⟨blkOf A0, offOf A0 + (e5).toNat * 5 + 1, none⟩))]) (l := [.loaded ⟨blkOf A0, offOf A0 + ((e5).toNat) * 5 + 1, none⟩ (.int .i64 e6.At)]) (by kernel_rfl) ⟨RdL.cell (j := 1) (hS.rd hR0) hx13 rfl, trivial⟩ ?_
          by_cases hc22 : e6.At ≤ (i4 : Int)
          · rw [if_pos hc22] at h
            refine ge_known (t := 180) (b := decide (e6.At ≤ (i4 : Int))) (c := true) (by kernel_rfl) (decide_eq_true hc22) ?_
            refine ge_batch [18, 19, 20] (ans := []) (vs := [(183, .int .i64 e5), (182, .slice A0 l0.length c0), (181, .int .i64 (i4 : Int))]) (l := []) (by kernel_rfl) trivial ?_
            refine ge_index (d := 184) (ty := 0) (t := 32) (el := 59) (sz := 5) (m := l0.length) (c := c0) (x := (.tmp 182)) (y := (.tmp 183)) (A := A0) (k' := .i64) (j := e5) (jn := ((e5).toNat)) (b0 := blkOf A0) (o0 := offOf A0) (by kernel_rfl) (by kernel_rfl) (by kernel_rfl) (by kernel_rfl) (by kernel_rfl) ((hS.rd hR0).eqSome (pos_of_get hx13)) (Int.toNat_of_nonneg hc21).symm (lt_of_get hx13) ?_
            refine ge_batch [22, 23, 24, 25, 26] (ans := [.val (.int .i64 e6.Due)]) (vs := [(189, .bool (decide ((i4 : Int) < e6.Due))), (188, .bool (decide ((i4 : Int) < e6.Due))), (187, .bool (decide ((i4 : Int) < e6.Due))), (186, .int .i64 e6.Due), (185, .pointer (some ⟨blkOf A0, offOf A0 + (e5).toNat * 5 + 3, none⟩))]) (l := [.loaded ⟨blkOf A0, offOf A0 + ((e5).toNat) * 5 + 3, none⟩ (.int .i64 e6.Due)]) (by kernel_rfl) ⟨RdL.cell (j := 3) (hS.rd hR0) hx13 rfl, trivial⟩ ?_
            by_cases hc23 : (i4 : Int) < e6.Due
            · rw [if_pos hc23] at h
              refine ge_known (t := 189) (b := decide ((i4 : Int) < e6.Due)) (c := true) (by kernel_rfl) (decide_eq_true hc23) ?_
              refine ge_batch [27, 28] (ans := []) (vs := [(191, .int .i64 e5), (190, (.slice Z4 m4.length cz4))]) (l := []) (by kernel_rfl) trivial ?_
              rcases hx14 : m4[(e5).toNat]? with _ | e7
              · rw [hx14] at h; cases h
              rw [hx14] at h
              simp only [] at h
              refine ge_index (d := 192) (ty := 0) (t := 24) (el := 3) (sz := 1) (m := m4.length) (c := cz4) (x := (.tmp 190)) (y := (.tmp 191)) (A := Z4) (k' := .i64) (j := e5) (jn := ((e5).toNat)) (b0 := blkOf Z4) (o0 := offOf Z4) (by kernel_rfl) (by kernel_rfl) (by kernel_rfl) (by kernel_rfl) (by kernel_rfl) ((hS.rdAt 1 rfl).eqSome (pos_of_get hx14)) (Int.toNat_of_nonneg hc21).symm (lt_of_get hx14) ?_
              refine ge_batch [30, 31, 32] (ans := [.val (.int .i64 e7)]) (vs := [(195, .bool (decide (e7 > 0))), (194, .bool (decide (e7 > 0))), (193, .int .i64 e7)]) (l := [.loaded ⟨blkOf Z4, offOf Z4 + ((e5).toNat) * 1, none⟩ (.int .i64 e7)]) (by kernel_rfl) ⟨RdL.cell (j := 0) (hS.rdAt 1 rfl) hx14 rfl, trivial⟩ ?_
              refine ge_nil fun a hF => hK53 _ _ ?_ a hF
              by_cases hc24 : e7 > 0
              · rw [if_pos hc24] at h
                refine we_known (t := 195) (b := decide (e7 > 0)) (v := true) (by kernel_rfl) (decide_eq_true hc24) ?_
                refine we_true (by kernel_rfl) ?_
                refine we_region [(0, 0), (1, 0), (2, 0), (3, 0), (4, 0), (5, 0), (6, 2)] rfl ?_
                refine ge_batch [0, 1] (ans := []) (vs := [(197, .int .i64 e5), (196, (.slice Z4 m4.length cz4))]) (l := []) (by kernel_rfl) trivial ?_
                refine ge_index (d := 198) (ty := 0) (t := 24) (el := 3) (sz := 1) (m := m4.length) (c := cz4) (x := (.tmp 196)) (y := (.tmp 197)) (A := Z4) (k' := .i64) (j := e5) (jn := ((e5).toNat)) (b0 := blkOf Z4) (o0 := offOf Z4) (by kernel_rfl) (by kernel_rfl) (by kernel_rfl) (by kernel_rfl) (by kernel_rfl) ((hS.rdAt 1 rfl).eqSome (pos_of_get hx14)) (Int.toNat_of_nonneg hc21).symm (lt_of_get hx14) ?_
                refine ge_batch [3, 4] (ans := [.val (.int .i64 e7)]) (vs := [(200, .int .i64 (IntKind.i64.wrap (e7 - 1))), (199, .int .i64 e7)]) (l := [.loaded ⟨blkOf Z4, offOf Z4 + ((e5).toNat) * 1, none⟩ (.int .i64 e7)]) (by kernel_rfl) ⟨RdL.cell (j := 0) (hS.rdAt 1 rfl) hx14 rfl, trivial⟩ ?_
                refine ge_index (d := 201) (ty := 0) (t := 24) (el := 3) (sz := 1) (m := m4.length) (c := cz4) (x := (.tmp 196)) (y := (.tmp 197)) (A := Z4) (k' := .i64) (j := e5) (jn := ((e5).toNat)) (b0 := blkOf Z4) (o0 := offOf Z4) (by kernel_rfl) (by kernel_rfl) (by kernel_rfl) (by kernel_rfl) (by kernel_rfl) ((hS.rdAt 1 rfl).eqSome (pos_of_get hx14)) (Int.toNat_of_nonneg hc21).symm (lt_of_get hx14) ?_
                have hS68 := hS.bring 1 rfl
                refine ge_seti (α := Int) (A := Z4) (nn := m4.length) (c := cz4) (t := 3) (l := m4) (x := e7) (x' := (IntKind.i64.wrap (e7 - 1))) (jn := ((e5).toNat)) (j := 0) (vs := [.int .i64 (IntKind.i64.wrap (e7 - 1))]) (l' := [.stored ⟨blkOf Z4, offOf Z4 + ((e5).toNat) * 1, none⟩ (.int .i64 (IntKind.i64.wrap (e7 - 1)))]) hS68 (by kernel_rfl) (by kernel_rfl) hx14 rfl rfl rfl fun w29 hS69 => ?_
                have hS70 : St w0 w29 [Own.of (.slice Z4 m4.length cz4) 3 (m4.set ((e5).toNat) (IntKind.i64.wrap (e7 - 1))), Own.blk b2 (.cells #[.int .i64 r4.2.2.Code, .int .i64 r4.2.2.At] 29 (0, 0))] := hS69
                have hE2 : m4.length = (m4.set ((e5).toNat) (IntKind.i64.wrap (e7 - 1))).length := hS70.lenAt 0 rfl
                have hS71 : St w0 w29 [Own.of (.slice Z4 (m4.set ((e5).toNat) (IntKind.i64.wrap (e7 - 1))).length cz4) 3 (m4.set ((e5).toNat) (IntKind.i64.wrap (e7 - 1))), Own.blk b2 (.cells #[.int .i64 r4.2.2.Code, .int .i64 r4.2.2.At] 29 (0, 0))] := by rw [← hE2]; exact hS70
                refine ge_same (t := 18) (v := (.slice Z4 m4.length cz4)) (v' := (.slice Z4 (m4.set ((e5).toNat) (IntKind.i64.wrap (e7 - 1))).length cz4)) (by kernel_rfl) (by rw [hE2]) ?_
                refine ge_same (t := 190) (v := (.slice Z4 m4.length cz4)) (v' := (.slice Z4 (m4.set ((e5).toNat) (IntKind.i64.wrap (e7 - 1))).length cz4)) (by kernel_rfl) (by rw [hE2]) ?_
                refine ge_same (t := 196) (v := (.slice Z4 m4.length cz4)) (v' := (.slice Z4 (m4.set ((e5).toNat) (IntKind.i64.wrap (e7 - 1))).length cz4)) (by kernel_rfl) (by rw [hE2]) ?_
                refine ge_nil fun a hF => hK51 _ _ ?_ a hF
                refine we_region [(0, 0), (1, 0)] rfl ?_
                refine ge_addn (d := 202) (ty := 3) (x := (.tmp 158)) (y := (.const (.int .i64 1))) (t := 3) (t2 := 3) (k := .i64) (m := i4) (by kernel_rfl) (by kernel_rfl) (by kernel_rfl) (by have h0 := hR1.small; omega) ?_
                refine ge_batch [1] (ans := []) (vs := [(158, .int .i64 ((i4 + 1 : Nat) : Int))]) (l := []) (by kernel_rfl) trivial ?_
                have hS72 := hS71.bring 1 rfl
                obtain rfl := Option.some.inj h
                exact ge_nil fun a hF => hQ _ _ _ (Outs.again ⟨hS72, hF.weaken ⟨by kernel_rfl, by kernel_rfl, by kernel_rfl, by kernel_rfl, by kernel_rfl, by kernel_rfl, trivial⟩⟩)
              · rw [if_neg hc24] at h
                refine we_known (t := 195) (b := decide (e7 > 0)) (v := false) (by kernel_rfl) (decide_eq_false hc24) ?_
                refine we_false (by kernel_rfl) ?_
                refine we_skip fun a hF => hK51 _ _ ?_ a hF
                refine we_region [(0, 0), (1, 0)] rfl ?_
                refine ge_addn (d := 202) (ty := 3) (x := (.tmp 158)) (y := (.const (.int .i64 1))) (t := 3) (t2 := 3) (k := .i64) (m := i4) (by kernel_rfl) (by kernel_rfl) (by kernel_rfl) (by have h0 := hR1.small; omega) ?_
                refine ge_batch [1] (ans := []) (vs := [(158, .int .i64 ((i4 + 1 : Nat) : Int))]) (l := []) (by kernel_rfl) trivial ?_
                have hS73 := hS.bring 1 rfl
                have hS74 := hS73.bring 1 rfl
                obtain rfl := Option.some.inj h
                exact ge_nil fun a hF => hQ _ _ _ (Outs.again ⟨hS74, hF.weaken ⟨by kernel_rfl, by kernel_rfl, by kernel_rfl, by kernel_rfl, by kernel_rfl, by kernel_rfl, trivial⟩⟩)
            · rw [if_neg hc23] at h
              refine ge_known (t := 189) (b := decide ((i4 : Int) < e6.Due)) (c := false) (by kernel_rfl) (decide_eq_false hc23) ?_
              refine ge_batch [27, 28, 29, 30, 31, 32] (ans := []) (vs := [(195, .bool false), (194, undef), (193, undef), (192, undef), (191, undef), (190, undef)]) (l := []) (by kernel_rfl) trivial ?_
              refine ge_nil fun a hF => hK53 _ _ ?_ a hF
              refine we_false (by kernel_rfl) ?_
              refine we_skip fun a hF => hK51 _ _ ?_ a hF
              refine we_region [(0, 0), (1, 0)] rfl ?_
              refine ge_addn (d := 202) (ty := 3) (x := (.tmp 158)) (y := (.const (.int .i64 1))) (t := 3) (t2 := 3) (k := .i64) (m := i4) (by kernel_rfl) (by kernel_rfl) (by kernel_rfl) (by have h0 := hR1.small; omega) ?_
              refine ge_batch [1] (ans := []) (vs := [(158, .int .i64 ((i4 + 1 : Nat) : Int))]) (l := []) (by kernel_rfl) trivial ?_
              have hS75 := hS.bring 1 rfl
              have hS76 := hS75.bring 1 rfl
              obtain rfl := Option.some.inj h
              exact ge_nil fun a hF => hQ _ _ _ (Outs.again ⟨hS76, hF.weaken ⟨by kernel_rfl, by kernel_rfl, by kernel_rfl, by kernel_rfl, by kernel_rfl, by kernel_rfl, trivial⟩⟩)
          · rw [if_neg hc22] at h
            refine ge_known (t := 180) (b := decide (e6.At ≤ (i4 : Int))) (c := false) (by kernel_rfl) (decide_eq_false hc22) ?_
            refine ge_batch [18, 19, 20, 21, 22, 23, 24, 25, 26, 27, 28, 29, 30, 31, 32] (ans := []) (vs := [(195, .bool false), (194, undef), (193, undef), (192, undef), (191, undef), (190, undef), (189, .bool false), (188, .bool false), (187, undef), (186, undef), (185, undef), (184, undef), (183, undef), (182, undef), (181, undef)]) (l := []) (by kernel_rfl) trivial ?_
            refine ge_nil fun a hF => hK53 _ _ ?_ a hF
            refine we_false (by kernel_rfl) ?_
            refine we_skip fun a hF => hK51 _ _ ?_ a hF
            refine we_region [(0, 0), (1, 0)] rfl ?_
            refine ge_addn (d := 202) (ty := 3) (x := (.tmp 158)) (y := (.const (.int .i64 1))) (t := 3) (t2 := 3) (k := .i64) (m := i4) (by kernel_rfl) (by kernel_rfl) (by kernel_rfl) (by have h0 := hR1.small; omega) ?_
            refine ge_batch [1] (ans := []) (vs := [(158, .int .i64 ((i4 + 1 : Nat) : Int))]) (l := []) (by kernel_rfl) trivial ?_
            have hS77 := hS.bring 1 rfl
            have hS78 := hS77.bring 1 rfl
            obtain rfl := Option.some.inj h
            exact ge_nil fun a hF => hQ _ _ _ (Outs.again ⟨hS78, hF.weaken ⟨by kernel_rfl, by kernel_rfl, by kernel_rfl, by kernel_rfl, by kernel_rfl, by kernel_rfl, trivial⟩⟩)
        · rw [if_neg hc21] at h
          cases h
      · rw [if_neg hc20] at h
        refine ge_known (t := 171) (b := decide (e5 < (l0.length : Int))) (c := false) (by kernel_rfl) (decide_eq_false hc20) ?_
        refine ge_batch [9, 10, 11, 12, 13, 14, 15, 16, 17, 18, 19, 20, 21, 22, 23, 24, 25, 26, 27, 28, 29, 30, 31, 32] (ans := []) (vs := [(195, .bool false), (194, undef), (193, undef), (192, undef), (191, undef), (190, undef), (189, .bool false), (188, .bool false), (187, undef), (186, undef), (185, undef), (184, undef), (183, undef), (182, undef), (181, undef), (180, .bool false), (179, .bool false), (178, undef), (177, undef), (176, undef), (175, undef), (174, undef), (173, undef), (172, undef)]) (l := []) (by kernel_rfl) trivial ?_
        refine ge_nil fun a hF => hK53 _ _ ?_ a hF
        refine we_false (by kernel_rfl) ?_
        refine we_skip fun a hF => hK51 _ _ ?_ a hF
        refine we_region [(0, 0), (1, 0)] rfl ?_
        refine ge_addn (d := 202) (ty := 3) (x := (.tmp 158)) (y := (.const (.int .i64 1))) (t := 3) (t2 := 3) (k := .i64) (m := i4) (by kernel_rfl) (by kernel_rfl) (by kernel_rfl) (by have h0 := hR1.small; omega) ?_
        refine ge_batch [1] (ans := []) (vs := [(158, .int .i64 ((i4 + 1 : Nat) : Int))]) (l := []) (by kernel_rfl) trivial ?_
        have hS79 := hS.bring 1 rfl
        have hS80 := hS79.bring 1 rfl
        obtain rfl := Option.some.inj h
        exact ge_nil fun a hF => hQ _ _ _ (Outs.again ⟨hS80, hF.weaken ⟨by kernel_rfl, by kernel_rfl, by kernel_rfl, by kernel_rfl, by kernel_rfl, by kernel_rfl, trivial⟩⟩)
    · rw [if_neg hc19] at h
      refine ge_known (t := 165) (b := decide (e5 ≥ 0)) (c := false) (by kernel_rfl) (decide_eq_false hc19) ?_
      refine ge_batch [3, 4, 5, 6, 7, 8, 9, 10, 11, 12, 13, 14, 15, 16, 17, 18, 19, 20, 21, 22, 23, 24, 25, 26, 27, 28, 29, 30, 31, 32] (ans := []) (vs := [(195, .bool false), (194, undef), (193, undef), (192, undef), (191, undef), (190, undef), (189, .bool false), (188, .bool false), (187, undef), (186, undef), (185, undef), (184, undef), (183, undef), (182, undef), (181, undef), (180, .bool false), (179, .bool false), (178, undef), (177, undef), (176, undef), (175, undef), (174, undef), (173, undef), (172, undef), (171, .bool false), (170, .bool false), (169, undef), (168, undef), (167, undef), (166, undef)]) (l := []) (by kernel_rfl) trivial ?_
      refine ge_nil fun a hF => hK53 _ _ ?_ a hF
      refine we_false (by kernel_rfl) ?_
      refine we_skip fun a hF => hK51 _ _ ?_ a hF
      refine we_region [(0, 0), (1, 0)] rfl ?_
      refine ge_addn (d := 202) (ty := 3) (x := (.tmp 158)) (y := (.const (.int .i64 1))) (t := 3) (t2 := 3) (k := .i64) (m := i4) (by kernel_rfl) (by kernel_rfl) (by kernel_rfl) (by have h0 := hR1.small; omega) ?_
      refine ge_batch [1] (ans := []) (vs := [(158, .int .i64 ((i4 + 1 : Nat) : Int))]) (l := []) (by kernel_rfl) trivial ?_
      have hS81 := hS.bring 1 rfl
      have hS82 := hS81.bring 1 rfl
      obtain rfl := Option.some.inj h
      exact ge_nil fun a hF => hQ _ _ _ (Outs.again ⟨hS82, hF.weaken ⟨by kernel_rfl, by kernel_rfl, by kernel_rfl, by kernel_rfl, by kernel_rfl, by kernel_rfl, trivial⟩⟩)
  · rw [if_neg hc18] at h
    refine we_known (t := 159) (b := decide ((i4 : Int) < (l1.length : Int))) (v := false) (by kernel_rfl) (decide_eq_false hc18) ?_
    refine we_false (by kernel_rfl) ?_
    have hS83 := hS.bring 1 rfl
    have hS84 := hS83.bring 1 rfl
    obtain rfl := Option.some.inj h
    exact we_exit fun a hF => hQ _ _ _ (Outs.out nofun (Exits.here ⟨hS84, hF.weaken ⟨by kernel_rfl, by kernel_rfl, trivial⟩⟩))
abbrev EdfBest.A7 (K : Nat) (w0 : World) (l0 : List SJob) (A0 : Option Addr) (c0 : Nat) (l1 : List Int) (A1 : Option Addr) (c1 : Nat) (hR0 : RdL w0 A0 l0) (hL0 : l0.length ≤ c0) (hR1 : RdL w0 A1 l1) (hL1 : l1.length ≤ c1) (r1 : Bool) (hc1 : r1 = true) (z3 : Int) (hc6 : ¬ (z3 > 3000)) (r4 : Int × Int × SFault) (b2 : Nat) (r5 : SPlayed × SFault) (b3 : Nat) (b4 : Nat) (Z1 : Option Addr) (cz1 : Nat) (Z2 : Option Addr) (cz2 : Nat) (r6 : (List Int) × SFault) (b5 : Nat) (Z3 : Option Addr) (cz3 : Nat) (hc16 : l0.length ≤ 17592186044416) (Z4 : Option Addr) (cz4 : Nat) (m3 : List Int) (m6 : List Int) : Nat → Act → World → Prop := fun (s : Nat) a w => St w0 w [Own.blk b2 (.cells #[.int .i64 r4.2.2.Code, .int .i64 r4.2.2.At] 29 (0, 0)), Own.of (.slice Z4 m6.length cz4) 3 m6] ∧ Frm 215 a [(10, .pointer (some ⟨b2, 0, none⟩)), (203, (.slice Z4 m6.length cz4)), (204, .int .i64 (m6.length : Int)), (205, .int .i64 (s : Int))]
abbrev EdfBest.B7 (K : Nat) (w0 : World) (l0 : List SJob) (A0 : Option Addr) (c0 : Nat) (l1 : List Int) (A1 : Option Addr) (c1 : Nat) (hR0 : RdL w0 A0 l0) (hL0 : l0.length ≤ c0) (hR1 : RdL w0 A1 l1) (hL1 : l1.length ≤ c1) (r1 : Bool) (hc1 : r1 = true) (z3 : Int) (hc6 : ¬ (z3 > 3000)) (r4 : Int × Int × SFault) (b2 : Nat) (r5 : SPlayed × SFault) (b3 : Nat) (b4 : Nat) (Z1 : Option Addr) (cz1 : Nat) (Z2 : Option Addr) (cz2 : Nat) (r6 : (List Int) × SFault) (b5 : Nat) (Z3 : Option Addr) (cz3 : Nat) (hc16 : l0.length ≤ 17592186044416) (Z4 : Option Addr) (cz4 : Nat) (m3 : List Int) (m6 : List Int) : (Unit ⊕ Bool) → Exit → Act → World → Prop := Exits 8 (fun (s : Unit) a w => St w0 w [Own.blk b2 (.cells #[.int .i64 r4.2.2.Code, .int .i64 r4.2.2.At] 29 (0, 0))] ∧ Frm 215 a [(10, .pointer (some ⟨b2, 0, none⟩))]) (Rets Try.prog Try.f6 (EdfBest.Post w0))
theorem EdfBest_r7 (K : Nat) (w0 : World) (l0 : List SJob) (A0 : Option Addr) (c0 : Nat) (l1 : List Int) (A1 : Option Addr) (c1 : Nat) (hR0 : RdL w0 A0 l0) (hL0 : l0.length ≤ c0) (hR1 : RdL w0 A1 l1) (hL1 : l1.length ≤ c1) (r1 : Bool) (hc1 : r1 = true) (z3 : Int) (hc6 : ¬ (z3 > 3000)) (r4 : Int × Int × SFault) (b2 : Nat) (r5 : SPlayed × SFault) (b3 : Nat) (b4 : Nat) (Z1 : Option Addr) (cz1 : Nat) (Z2 : Option Addr) (cz2 : Nat) (r6 : (List Int) × SFault) (b5 : Nat) (Z3 : Option Addr) (cz3 : Nat) (hc16 : l0.length ≤ 17592186044416) (Z4 : Option Addr) (cz4 : Nat) (m3 : List Int) (m6 : List Int) (s : Nat) (o : Nat ⊕ (Unit ⊕ Bool)) (h : EdfBest.r7 m6 s = some o) (a : Act) (w : World) (hA : EdfBest.A7 K w0 l0 A0 c0 l1 A1 c1 hR0 hL0 hR1 hL1 r1 hc1 z3 hc6 r4 b2 r5 b3 b4 Z1 cz1 Z2 cz2 r6 b5 Z3 cz3 hc16 Z4 cz4 m3 m6 s a w) (Q : Exit → Act → World → Prop) (hQ : ∀ x a w, Outs (EdfBest.A7 K w0 l0 A0 c0 l1 A1 c1 hR0 hL0 hR1 hL1 r1 hc1 z3 hc6 r4 b2 r5 b3 b4 Z1 cz1 Z2 cz2 r6 b5 Z3 cz3 hc16 Z4 cz4 m3 m6) (EdfBest.B7 K w0 l0 A0 c0 l1 A1 c1 hR0 hL0 hR1 hL1 r1 hc1 z3 hc6 r4 b2 r5 b3 b4 Z1 cz1 Z2 cz2 r6 b5 Z3 cz3 hc16 Z4 cz4 m3 m6) o x a w → Q x a w) : (subF Try.f6 [1, 1, 1, 1, 1, 1, 1, 1, 1, 1, 1, 1, 1, 1, 0, 1, 0, 0]).wp Try.prog Q a w := by
  obtain ⟨i5, hs⟩ : ∃ z, z = s := ⟨s, rfl⟩
  subst hs
  obtain ⟨hS, hF⟩ := hA
  replace hS : St w0 w [Own.blk b2 (.cells #[.int .i64 r4.2.2.Code, .int .i64 r4.2.2.At] 29 (0, 0)), Own.of (.slice Z4 m6.length cz4) 3 m6] := hS
  simp only [EdfBest.r7] at h
  refine (?_ : WE Try.prog 215 (subF Try.f6 [1, 1, 1, 1, 1, 1, 1, 1, 1, 1, 1, 1, 1, 1, 0, 1, 0, 0]) Q [(10, .pointer (some ⟨b2, 0, none⟩)), (203, (.slice Z4 m6.length cz4)), (204, .int .i64 (m6.length : Int)), (205, .int .i64 (i5 : Int))] w) a hF
  clear hF a
  refine we_seq fun K56 hK56 => ?_
  refine we_region [(0, 0)] rfl ?_
  refine ge_batch [0] (ans := []) (vs := [(206, .bool (decide ((i5 : Int) < (m6.length : Int))))]) (l := []) (by kernel_rfl) trivial ?_
  refine ge_nil fun a hF => hK56 _ _ ?_ a hF
  refine we_seq fun K57 hK57 => ?_
  by_cases hc25 : (i5 : Int) < (m6.length : Int)
  · rw [if_pos hc25] at h
    refine we_known (t := 206) (b := decide ((i5 : Int) < (m6.length : Int))) (v := true) (by kernel_rfl) (decide_eq_true hc25) ?_
    refine we_true (by kernel_rfl) ?_
    refine we_skip fun a hF => hK57 _ _ ?_ a hF
    refine we_seq fun K58 hK58 => ?_
    refine we_block ?_
    refine we_seq fun K59 hK59 => ?_
    refine we_region [(0, 0), (1, 0), (2, 0)] rfl ?_
    rcases hx15 : m6[i5]? with _ | e8
    · rw [hx15] at h; cases h
    rw [hx15] at h
    simp only [] at h
    refine ge_index (d := 207) (ty := 0) (t := 24) (el := 3) (sz := 1) (m := m6.length) (c := cz4) (x := (.tmp 203)) (y := (.tmp 205)) (A := Z4) (k' := .i64) (j := (i5 : Int)) (jn := i5) (b0 := blkOf Z4) (o0 := offOf Z4) (by kernel_rfl) (by kernel_rfl) (by kernel_rfl) (by kernel_rfl) (by kernel_rfl) ((hS.rdAt 1 rfl).eqSome (pos_of_get hx15)) rfl (lt_of_get hx15) ?_
    refine ge_batch [1, 2] (ans := [.val (.int .i64 e8)]) (vs := [(24, .int .i64 e8), (208, .int .i64 e8)]) (l := [.loaded ⟨blkOf Z4, offOf Z4 + i5 * 1, none⟩ (.int .i64 e8)]) (by kernel_rfl) ⟨RdL.cell (j := 0) (hS.rdAt 1 rfl) hx15 rfl, trivial⟩ ?_
    refine ge_nil fun a hF => hK59 _ _ ?_ a hF
    refine we_seq fun K60 hK60 => ?_
    refine we_region [(0, 0), (1, 0)] rfl ?_
    refine ge_batch [0, 1] (ans := []) (vs := [(210, .bool (decide (e8 > 0))), (209, .int .i64 e8)]) (l := []) (by kernel_rfl) trivial ?_
    refine ge_nil fun a hF => hK60 _ _ ?_ a hF
    by_cases hc26 : e8 > 0
    · rw [if_pos hc26] at h
      refine we_known (t := 210) (b := decide (e8 > 0)) (v := true) (by kernel_rfl) (decide_eq_true hc26) ?_
      refine we_true (by kernel_rfl) ?_
      refine we_seq fun K61 hK61 => ?_
      refine we_region [(0, 0)] rfl ?_
      refine ge_batch [0] (ans := []) (vs := [(4, .bool true)]) (l := []) (by kernel_rfl) trivial ?_
      refine ge_nil fun a hF => hK61 _ _ ?_ a hF
      have hS88 := hS.takeN 0
      obtain rfl := Option.some.inj h
      exact we_ret fun a hF => hQ _ _ _ (Outs.out nofun (Exits.on ⟨rfl, (post_ret (rs := [.tmp 4]) (ans := []) (vs := [.bool true]) (l := []) rfl (by kernel_rfl) trivial ⟨rfl, hS88⟩) a hF⟩))
    · rw [if_neg hc26] at h
      refine we_known (t := 210) (b := decide (e8 > 0)) (v := false) (by kernel_rfl) (decide_eq_false hc26) ?_
      refine we_false (by kernel_rfl) ?_
      refine we_skip fun a hF => hK58 _ _ ?_ a hF
      refine we_region [(0, 0), (1, 0)] rfl ?_
      refine ge_addn (d := 211) (ty := 3) (x := (.tmp 205)) (y := (.const (.int .i64 1))) (t := 3) (t2 := 3) (k := .i64) (m := i5) (by kernel_rfl) (by kernel_rfl) (by kernel_rfl) (by have h0 := hS.ofSmall 1 rfl; omega) ?_
      refine ge_batch [1] (ans := []) (vs := [(205, .int .i64 ((i5 + 1 : Nat) : Int))]) (l := []) (by kernel_rfl) trivial ?_
      have hS89 := hS.bring 1 rfl
      have hS90 := hS89.bring 1 rfl
      obtain rfl := Option.some.inj h
      exact ge_nil fun a hF => hQ _ _ _ (Outs.again ⟨hS90, hF.weaken ⟨by kernel_rfl, by kernel_rfl, by kernel_rfl, by kernel_rfl, trivial⟩⟩)
  · rw [if_neg hc25] at h
    refine we_known (t := 206) (b := decide ((i5 : Int) < (m6.length : Int))) (v := false) (by kernel_rfl) (decide_eq_false hc25) ?_
    refine we_false (by kernel_rfl) ?_
    have hS91 := hS.takeN 1
    obtain rfl := Option.some.inj h
    exact we_exit fun a hF => hQ _ _ _ (Outs.out nofun (Exits.here ⟨hS91, hF.weaken ⟨by kernel_rfl, trivial⟩⟩))
theorem EdfBest_ok (K : Nat) (l0 : List SJob) (A0 : Option Addr) (c0 : Nat) (l1 : List Int) (A1 : Option Addr) (c1 : Nat) (w0 : World) (hR0 : RdL w0 A0 l0) (hL0 : l0.length ≤ c0) (hR1 : RdL w0 A1 l1) (hL1 : l1.length ≤ c1) (r : Bool) (h : EdfBest.f K l0 l1 = some r) :
    Calls Try.prog 6 #[.slice A0 l0.length c0, .slice A1 l1.length c1] w0 (EdfBest.Post w0 r) := by
  have hS := St.start w0
  unfold EdfBest.f at h
  refine calls_enter (n := 215) (args := [.slice A0 l0.length c0, .slice A1 l1.length c1]) (fn := Try.f6) rfl rfl rfl rfl ?_
  show WE _ _ _ _ [(0, .slice A0 l0.length c0), (1, .slice A1 l1.length c1)] _
  refine we_seq fun K1 hK1 => ?_
  refine we_region [(0, 0)] rfl ?_
  refine ge_batch [0] (ans := []) (vs := [(4, .bool false)]) (l := []) (by kernel_rfl) trivial ?_
  refine ge_nil fun a hF => hK1 _ _ ?_ a hF
  refine we_seq fun K2 hK2 => ?_
  refine we_seq fun K3 hK3 => ?_
  refine we_region [(0, 1), (1, 0)] rfl ?_
  rcases hq1 : runs.f K with _ | r1
  · rw [hq1] at h; cases h
  rw [hq1] at h
  simp only [] at h
  refine ge_call (d := some 25) (f := 8) (args := #[]) (by kernel_rfl) (runs_ok K _ _ hq1) ?_
  rintro _ w1 ⟨rfl, hS1⟩
  refine ⟨_, rfl, hS1.below, ?_⟩
  have hS2 := hS.call hS1
  refine ge_batch [1] (ans := []) (vs := [(26, .bool (!r1))]) (l := []) (by kernel_rfl) trivial ?_
  refine ge_nil fun a hF => hK3 _ _ ?_ a hF
  by_cases hc1 : r1 = true
  · rw [if_pos hc1] at h
    refine we_known (t := 26) (b := !r1) (v := false) (by kernel_rfl) (congrArg (fun z => !z) hc1) ?_
    refine we_false (by kernel_rfl) ?_
    refine we_skip fun a hF => hK2 _ _ ?_ a hF
    refine we_seq fun K4 hK4 => ?_
    rcases hq4 : EdfBest.p0 K l0 l1 with _ | (_ | rr8)
    · rw [hq4] at h; cases h
    · rw [hq4] at h
      simp only [] at h
      refine we_keep (e' := [(0, .slice A0 l0.length c0), (1, .slice A1 l1.length c1), (4, .bool false), (25, .bool r1), (26, .bool false)]) ⟨by kernel_rfl, by kernel_rfl, by kernel_rfl, by kernel_rfl, by kernel_rfl, trivial⟩ (EdfBest_p0 K w0 l0 A0 c0 l1 A1 c1 hR0 hL0 hR1 hL1 r1 hc1 _ hq4 _ hS2 _ ?_)
      rintro _ a w4 ⟨rfl, hS7, hF⟩
      replace hS7 : St w0 w4 [] := hS7
      refine hK4 [(0, .slice A0 l0.length c0), (1, .slice A1 l1.length c1)] w4 ?_ a hF
      refine we_seq fun K9 hK9 => ?_
      refine we_region [(0, 0)] rfl ?_
      refine ge_batch [0] (ans := []) (vs := [(5, .int .i64 0)]) (l := []) (by kernel_rfl) trivial ?_
      refine ge_nil fun a hF => hK9 _ _ ?_ a hF
      refine we_seq fun K10 hK10 => ?_
      refine we_seq fun K11 hK11 => ?_
      refine we_region [(0, 0), (1, 0), (2, 0)] rfl ?_
      refine ge_batch [0, 1, 2] (ans := []) (vs := [(57, .int .i64 0), (56, .int .i64 (l0.length : Int)), (55, .slice A0 l0.length c0)]) (l := []) (by kernel_rfl) trivial ?_
      refine ge_nil fun a hF => hK11 _ _ ?_ a hF
      refine we_block ?_
      rcases hq5 : iter (EdfBest.r1 l0) K (0, 0) with _ | (z3 | rr7)
      · rw [hq5] at h; cases h
      · rw [hq5] at h
        simp only [] at h
        refine we_iter (A := EdfBest.A1 K w0 l0 A0 c0 l1 A1 c1 hR0 hL0 hR1 hL1 r1 hc1) (B := EdfBest.B1 K w0 l0 A0 c0 l1 A1 c1 hR0 hL0 hR1 hL1 r1 hc1) hq5 (fun a hF => ⟨hS7, hF.weaken ⟨by kernel_rfl, by kernel_rfl, by kernel_rfl, by kernel_rfl, by kernel_rfl, by kernel_rfl, trivial⟩⟩) (fun s o hf a w hA Q hQ => EdfBest_r1 K w0 l0 A0 c0 l1 A1 c1 hR0 hL0 hR1 hL1 r1 hc1 s o hf a w hA Q hQ) ?_
        rintro _ a w7 _ ⟨rfl, hS12, hF⟩
        replace hS12 : St w0 w7 [] := hS12
        refine hK10 [(0, .slice A0 l0.length c0), (1, .slice A1 l1.length c1), (5, .int .i64 z3)] w7 ?_ a hF
        refine we_seq fun K16 hK16 => ?_
        refine we_seq fun K17 hK17 => ?_
        refine we_region [(0, 0), (1, 0)] rfl ?_
        refine ge_batch [0, 1] (ans := []) (vs := [(67, .bool (decide (z3 > 3000))), (66, .int .i64 z3)]) (l := []) (by kernel_rfl) trivial ?_
        refine ge_nil fun a hF => hK17 _ _ ?_ a hF
        by_cases hc6 : z3 > 3000
        · rw [if_pos hc6] at h
          refine we_known (t := 67) (b := decide (z3 > 3000)) (v := true) (by kernel_rfl) (decide_eq_true hc6) ?_
          refine we_true (by kernel_rfl) ?_
          refine we_seq fun K18 hK18 => ?_
          refine we_region [(0, 0)] rfl ?_
          refine ge_batch [0] (ans := []) (vs := [(4, .bool true)]) (l := []) (by kernel_rfl) trivial ?_
          refine ge_nil fun a hF => hK18 _ _ ?_ a hF
          obtain rfl := Option.some.inj h
          exact we_ret (post_ret (rs := [.tmp 4]) (ans := []) (vs := [.bool true]) (l := []) rfl (by kernel_rfl) trivial ⟨rfl, hS12⟩)
        · rw [if_neg hc6] at h
          refine we_known (t := 67) (b := decide (z3 > 3000)) (v := false) (by kernel_rfl) (decide_eq_false hc6) ?_
          refine we_false (by kernel_rfl) ?_
          refine we_skip fun a hF => hK16 _ _ ?_ a hF
          refine we_seq fun K19 hK19 => ?_
          refine we_region [(0, 0), (1, 1), (2, 0), (3, 0), (4, 0), (5, 0), (6, 1), (7, 0), (8, 0), (9, 2)] rfl ?_
          rcases hq6 : edf_Judge.f K l0 with _ | r4
          · rw [hq6] at h; cases h
          rw [hq6] at h
          simp only [] at h
          refine ge_batch [0] (ans := []) (vs := [(69, .slice A0 l0.length c0)]) (l := []) (by kernel_rfl) trivial ?_
          refine ge_call (d := some 70) (f := 23) (args := #[.slice A0 l0.length c0]) (by kernel_rfl) (edf_Judge_ok K l0 A0 c0 _ (hS12.rd hR0) hL0 _ hq6) ?_
          rintro _ w8 ⟨rfl, hS13⟩
          refine ⟨_, rfl, hS13.below, ?_⟩
          have hS14 := hS12.call hS13
          refine ge_batch [2, 3, 4, 5] (ans := []) (vs := [(73, .agg #[.int .i64 r4.2.2.Code, .int .i64 r4.2.2.At]), (72, .int .i64 r4.2.1), (71, .int .i64 r4.1), (68, .tuple #[.int .i64 r4.1, .int .i64 r4.2.1, .agg #[.int .i64 r4.2.2.Code, .int .i64 r4.2.2.At]])]) (l := []) (by kernel_rfl) trivial ?_
          refine ge_new (d := some 10) (o := .cells #[.int .i64 0, .int .i64 0] 29) (v := fun b => .pointer (some ⟨b, 0, none⟩)) hS14 (fun b => by kernel_rfl) fun b2 w9 hx3 hS15 => ?_
          refine ge_batch [7, 8] (ans := []) (vs := [(9, .int .i64 r4.2.1), (8, .int .i64 r4.1)]) (l := []) (by kernel_rfl) trivial ?_
          refine ge_set (b := b2) (j := 0) (cs := #[.int .i64 0, .int .i64 0]) (t := 29) (vs := [.int .i64 r4.2.2.Code, .int .i64 r4.2.2.At]) hS15 (by kernel_rfl) rfl rfl fun w10 hS16 => ?_
          have hS17 : St w0 w10 [Own.blk b2 (.cells #[.int .i64 r4.2.2.Code, .int .i64 r4.2.2.At] 29 (0, 0))] := hS16
          refine ge_nil fun a hF => hK19 _ _ ?_ a hF
          refine we_seq fun K20 hK20 => ?_
          refine we_region [(0, 0), (1, 0), (2, 1), (3, 0), (4, 0), (5, 0), (6, 1), (7, 1), (8, 2), (9, 2)] rfl ?_
          rcases hq7 : sched_Play.f K l0 2 true z3 with _ | r5
          · rw [hq7] at h; cases h
          rw [hq7] at h
          simp only [] at h
          refine ge_batch [0, 1] (ans := []) (vs := [(76, .int .i64 z3), (75, .slice A0 l0.length c0)]) (l := []) (by kernel_rfl) trivial ?_
          refine ge_call (d := some 77) (f := 13) (args := #[.slice A0 l0.length c0, .int .i64 2, .bool true, .int .i64 z3]) (by kernel_rfl) (sched_Play_ok K l0 A0 c0 2 true z3 _ (hS17.rd hR0) hL0 _ hq7) ?_
          rintro _ w11 ⟨v1, v2, rfl, hS18⟩
          refine ⟨_, rfl, hS18.below, ?_⟩
          have hS19 := hS17.call hS18
          refine ge_batch [3, 4, 5] (ans := []) (vs := [(79, .agg #[.int .i64 r5.2.Code, .int .i64 r5.2.At]), (78, .agg #[v1, v2]), (74, .tuple #[.agg #[v1, v2], .agg #[.int .i64 r5.2.Code, .int .i64 r5.2.At]])]) (l := []) (by kernel_rfl) trivial ?_
          refine ge_new (d := some 11) (o := .cells #[.slice none 0 0, .slice none 0 0] 37) (v := fun b => .pointer (some ⟨b, 0, none⟩)) hS19 (fun b => by kernel_rfl) fun b3 w12 hx4 hS20 => ?_
          refine ge_new (d := some 12) (o := .cells #[.int .i64 0, .int .i64 0] 29) (v := fun b => .pointer (some ⟨b, 0, none⟩)) hS20 (fun b => by kernel_rfl) fun b4 w13 hx5 hS21 => ?_
          obtain ⟨Z1, cz1, rfl⟩ := hS21.open 2 rfl
          obtain ⟨Z2, cz2, rfl⟩ := hS21.open 3 rfl
          have hS22 := hS21.bring 1 rfl
          refine ge_set (b := b3) (j := 0) (cs := #[.slice none 0 0, .slice none 0 0]) (t := 37) (vs := [(.slice Z1 r5.1.Runs.length cz1), (.slice Z2 r5.1.Ends.length cz2)]) hS22 (by kernel_rfl) rfl rfl fun w14 hS23 => ?_
          have hS24 : St w0 w14 [Own.blk b3 (.cells #[(.slice Z1 r5.1.Runs.length cz1), (.slice Z2 r5.1.Ends.length cz2)] 37 (0, 0)), Own.blk b4 (.cells #[.int .i64 0, .int .i64 0] 29 (0, 0)), Own.of (.slice Z1 r5.1.Runs.length cz1) 3 r5.1.Runs, Own.of (.slice Z2 r5.1.Ends.length cz2) 3 r5.1.Ends, Own.blk b2 (.cells #[.int .i64 r4.2.2.Code, .int .i64 r4.2.2.At] 29 (0, 0))] := hS23
          have hS25 := hS24.bring 1 rfl
          refine ge_set (b := b4) (j := 0) (cs := #[.int .i64 0, .int .i64 0]) (t := 29) (vs := [.int .i64 r5.2.Code, .int .i64 r5.2.At]) hS25 (by kernel_rfl) rfl rfl fun w15 hS26 => ?_
          have hS27 : St w0 w15 [Own.blk b4 (.cells #[.int .i64 r5.2.Code, .int .i64 r5.2.At] 29 (0, 0)), Own.blk b3 (.cells #[(.slice Z1 r5.1.Runs.length cz1), (.slice Z2 r5.1.Ends.length cz2)] 37 (0, 0)), Own.of (.slice Z1 r5.1.Runs.length cz1) 3 r5.1.Runs, Own.of (.slice Z2 r5.1.Ends.length cz2) 3 r5.1.Ends, Own.blk b2 (.cells #[.int .i64 r4.2.2.Code, .int .i64 r4.2.2.At] 29 (0, 0))] := hS26
          refine ge_nil fun a hF => hK20 _ _ ?_ a hF
          refine we_seq fun K21 hK21 => ?_
          refine we_region [(0, 0), (1, 0), (2, 1), (3, 0), (4, 0), (5, 0), (6, 1), (7, 0), (8, 2)] rfl ?_
          rcases hq8 : sched_Late.f K l0 r5.1.Runs r5.1.Ends with _ | r6
          · rw [hq8] at h; cases h
          rw [hq8] at h
          simp only [] at h
          refine ge_batch [0, 1] (ans := [.val ((.slice Z1 r5.1.Runs.length cz1)), .val ((.slice Z2 r5.1.Ends.length cz2))]) (vs := [(82, .agg #[(.slice Z1 r5.1.Runs.length cz1), (.slice Z2 r5.1.Ends.length cz2)]), (81, .slice A0 l0.length c0)]) (l := [.loaded ⟨b3, 0, none⟩ ((.slice Z1 r5.1.Runs.length cz1)), .loaded ⟨b3, 1, none⟩ ((.slice Z2 r5.1.Ends.length cz2))]) (by kernel_rfl) ⟨hS27.cell 1 rfl rfl, hS27.cell 1 rfl rfl, trivial⟩ ?_
          refine ge_call (d := some 83) (f := 14) (args := #[.slice A0 l0.length c0, .agg #[(.slice Z1 r5.1.Runs.length cz1), (.slice Z2 r5.1.Ends.length cz2)]]) (by kernel_rfl) (sched_Late_ok K l0 A0 c0 r5.1.Runs Z1 cz1 r5.1.Ends Z2 cz2 _ (hS27.rd hR0) hL0 (hS27.rdAt 2 rfl) (hS27.capAt 2 rfl) (hS27.rdAt 3 rfl) (hS27.capAt 3 rfl) _ hq8) ?_
          rintro _ w16 ⟨v3, rfl, hS28⟩
          refine ⟨_, rfl, hS28.below, ?_⟩
          have hS29 := hS27.call hS28
          refine ge_batch [3, 4, 5] (ans := []) (vs := [(85, .agg #[.int .i64 r6.2.Code, .int .i64 r6.2.At]), (84, v3), (80, .tuple #[v3, .agg #[.int .i64 r6.2.Code, .int .i64 r6.2.At]])]) (l := []) (by kernel_rfl) trivial ?_
          refine ge_new (d := some 14) (o := .cells #[.int .i64 0, .int .i64 0] 29) (v := fun b => .pointer (some ⟨b, 0, none⟩)) hS29 (fun b => by kernel_rfl) fun b5 w17 hx6 hS30 => ?_
          refine ge_batch [7] (ans := []) (vs := [(13, v3)]) (l := []) (by kernel_rfl) trivial ?_
          refine ge_set (b := b5) (j := 0) (cs := #[.int .i64 0, .int .i64 0]) (t := 29) (vs := [.int .i64 r6.2.Code, .int .i64 r6.2.At]) hS30 (by kernel_rfl) rfl rfl fun w18 hS31 => ?_
          have hS32 : St w0 w18 [Own.blk b5 (.cells #[.int .i64 r6.2.Code, .int .i64 r6.2.At] 29 (0, 0)), Own.of v3 3 r6.1, Own.blk b4 (.cells #[.int .i64 r5.2.Code, .int .i64 r5.2.At] 29 (0, 0)), Own.blk b3 (.cells #[(.slice Z1 r5.1.Runs.length cz1), (.slice Z2 r5.1.Ends.length cz2)] 37 (0, 0)), Own.of (.slice Z1 r5.1.Runs.length cz1) 3 r5.1.Runs, Own.of (.slice Z2 r5.1.Ends.length cz2) 3 r5.1.Ends, Own.blk b2 (.cells #[.int .i64 r4.2.2.Code, .int .i64 r4.2.2.At] 29 (0, 0))] := hS31
          refine ge_nil fun a hF => hK21 _ _ ?_ a hF
          refine we_seq fun K22 hK22 => ?_
          obtain ⟨Z3, cz3, rfl⟩ := hS32.open 1 rfl
          rcases hq9 : EdfBest.p2 l0 r4 r5 r6 with _ | (_ | rr6)
          · rw [hq9] at h; cases h
          · rw [hq9] at h
            simp only [] at h
            refine we_keep (e' := ((0, .slice A0 l0.length c0) :: (1, .slice A1 l1.length c1) :: (5, .int .i64 z3) :: (8, .int .i64 r4.1) :: (9, .int .i64 r4.2.1) :: (10, .pointer (some ⟨b2, 0, none⟩)) :: (11, .pointer (some ⟨b3, 0, none⟩)) :: (12, .pointer (some ⟨b4, 0, none⟩)) :: (13, (.slice Z3 r6.1.length cz3)) :: (14, .pointer (some ⟨b5, 0, none⟩)) :: (66, .int .i64 z3) :: (67, .bool false) :: (68, .tuple #[.int .i64 r4.1, .int .i64 r4.2.1, .agg #[.int .i64 r4.2.2.Code, .int .i64 r4.2.2.At]]) :: (69, .slice A0 l0.length c0) :: (70, .tuple #[.int .i64 r4.1, .int .i64 r4.2.1, .agg #[.int .i64 r4.2.2.Code, .int .i64 r4.2.2.At]]) :: (71, .int .i64 r4.1) :: (72, .int .i64 r4.2.1) :: (73, .agg #[.int .i64 r4.2.2.Code, .int .i64 r4.2.2.At]) :: (74, .tuple #[.agg #[(.slice Z1 r5.1.Runs.length cz1), (.slice Z2 r5.1.Ends.length cz2)], .agg #[.int .i64 r5.2.Code, .int .i64 r5.2.At]]) :: (75, .slice A0 l0.length c0) :: (76, .int .i64 z3) :: (77, .tuple #[.agg #[(.slice Z1 r5.1.Runs.length cz1), (.slice Z2 r5.1.Ends.length cz2)], .agg #[.int .i64 r5.2.Code, .int .i64 r5.2.At]]) :: (78, .agg #[(.slice Z1 r5.1.Runs.length cz1), (.slice Z2 r5.1.Ends.length cz2)]) :: (79, .agg #[.int .i64 r5.2.Code, .int .i64 r5.2.At]) :: (80, .tuple #[(.slice Z3 r6.1.length cz3), .agg #[.int .i64 r6.2.Code, .int .i64 r6.2.At]]) :: (81, .slice A0 l0.length c0) :: (82, .agg #[(.slice Z1 r5.1.Runs.length cz1), (.slice Z2 r5.1.Ends.length cz2)]) :: (83, .tuple #[(.slice Z3 r6.1.length cz3), .agg #[.int .i64 r6.2.Code, .int .i64 r6.2.At]]) :: (84, (.slice Z3 r6.1.length cz3)) :: (85, .agg #[.int .i64 r6.2.Code, .int .i64 r6.2.At]) :: [])) ⟨by kernel_rfl, by kernel_rfl, by kernel_rfl, by kernel_rfl, by kernel_rfl, by kernel_rfl, by kernel_rfl, by kernel_rfl, by kernel_rfl, by kernel_rfl, by kernel_rfl, by kernel_rfl, by kernel_rfl, by kernel_rfl, by kernel_rfl, by kernel_rfl, by kernel_rfl, by kernel_rfl, by kernel_rfl, by kernel_rfl, by kernel_rfl, by kernel_rfl, by kernel_rfl, by kernel_rfl, by kernel_rfl, by kernel_rfl, by kernel_rfl, by kernel_rfl, by kernel_rfl, by kernel_rfl, trivial⟩ (EdfBest_p2 K w0 l0 A0 c0 l1 A1 c1 hR0 hL0 hR1 hL1 r1 hc1 z3 hc6 r4 b2 r5 b3 b4 Z1 cz1 Z2 cz2 r6 b5 Z3 cz3 _ hq9 _ hS32 _ ?_)
            rintro _ a w19 ⟨rfl, hS39, hF⟩
            replace hS39 : St w0 w19 [Own.blk b2 (.cells #[.int .i64 r4.2.2.Code, .int .i64 r4.2.2.At] 29 (0, 0))] := hS39
            refine hK22 [(0, .slice A0 l0.length c0), (1, .slice A1 l1.length c1), (8, .int .i64 r4.1), (9, .int .i64 r4.2.1), (10, .pointer (some ⟨b2, 0, none⟩))] w19 ?_ a hF
            refine we_seq fun K28 hK28 => ?_
            rcases hq11 : EdfBest.p3 K l0 r4 with _ | (_ | rr5)
            · rw [hq11] at h; cases h
            · rw [hq11] at h
              simp only [] at h
              refine we_keep (e' := [(0, .slice A0 l0.length c0), (1, .slice A1 l1.length c1), (8, .int .i64 r4.1), (9, .int .i64 r4.2.1), (10, .pointer (some ⟨b2, 0, none⟩))]) ⟨by kernel_rfl, by kernel_rfl, by kernel_rfl, by kernel_rfl, by kernel_rfl, trivial⟩ (EdfBest_p3 K w0 l0 A0 c0 l1 A1 c1 hR0 hL0 hR1 hL1 r1 hc1 z3 hc6 r4 b2 r5 b3 b4 Z1 cz1 Z2 cz2 r6 b5 Z3 cz3 _ hq11 _ hS39 _ ?_)
              rintro _ a w23 ⟨rfl, hS51, hF⟩
              replace hS51 : St w0 w23 [Own.blk b2 (.cells #[.int .i64 r4.2.2.Code, .int .i64 r4.2.2.At] 29 (0, 0))] := hS51
              refine hK28 [(0, .slice A0 l0.length c0), (1, .slice A1 l1.length c1), (10, .pointer (some ⟨b2, 0, none⟩))] w23 ?_ a hF
              refine we_seq fun K40 hK40 => ?_
              refine we_region [(0, 0), (1, 0), (2, 1), (3, 0)] rfl ?_
              refine ge_batch [0, 1] (ans := []) (vs := [(141, .int .i64 (l0.length : Int)), (140, .slice A0 l0.length c0)]) (l := []) (by kernel_rfl) trivial ?_
              by_cases hc16 : l0.length ≤ 17592186044416
              · rw [if_pos hc16] at h
                refine ge_make (α := Int) (d := 142) (t := 24) (el := 3) (bytes := 8) (l := l0.length) (c := l0.length) (x := (.tmp 141)) (y := (.tmp 141)) (ty := 24) (k1 := .i64) (k2 := .i64) (li := (l0.length : Int)) (ci := (l0.length : Int)) (z := .int .i64 0) (z' := (0 : Int)) (by kernel_rfl) (by kernel_rfl) (by kernel_rfl) rfl rfl (by kernel_rfl) (by kernel_rfl) rfl hS51 (Nat.le_refl _) rfl (by omega) fun v4 w24 _ hS52 => ?_
                refine ge_batch [3] (ans := []) (vs := [(18, v4)]) (l := []) (by kernel_rfl) trivial ?_
                refine ge_nil fun a hF => hK40 _ _ ?_ a hF
                refine we_seq fun K41 hK41 => ?_
                refine we_seq fun K42 hK42 => ?_
                refine we_region [(0, 0), (1, 0), (2, 0)] rfl ?_
                refine ge_batch [0, 1, 2] (ans := []) (vs := [(145, .int .i64 0), (144, .int .i64 (l0.length : Int)), (143, .slice A0 l0.length c0)]) (l := []) (by kernel_rfl) trivial ?_
                refine ge_nil fun a hF => hK42 _ _ ?_ a hF
                refine we_block ?_
                obtain ⟨Z4, cz4, rfl⟩ := hS52.open 0 rfl
                have hS53 := hS52.bring 1 rfl
                rcases hq12 : iter (EdfBest.r5 l0) K (0, (List.replicate l0.length (0 : Int))) with _ | (m3 | rr4)
                · rw [hq12] at h; cases h
                · rw [hq12] at h
                  simp only [] at h
                  refine we_iter (A := EdfBest.A5 K w0 l0 A0 c0 l1 A1 c1 hR0 hL0 hR1 hL1 r1 hc1 z3 hc6 r4 b2 r5 b3 b4 Z1 cz1 Z2 cz2 r6 b5 Z3 cz3 hc16 Z4 cz4) (B := EdfBest.B5 K w0 l0 A0 c0 l1 A1 c1 hR0 hL0 hR1 hL1 r1 hc1 z3 hc6 r4 b2 r5 b3 b4 Z1 cz1 Z2 cz2 r6 b5 Z3 cz3 hc16 Z4 cz4) hq12 (fun a hF => ⟨hS53, hF.weaken ⟨by kernel_rfl, by kernel_rfl, by kernel_rfl, by kernel_rfl, by kernel_rfl, by kernel_rfl, by kernel_rfl, trivial⟩⟩) (fun s o hf a w hA Q hQ => EdfBest_r5 K w0 l0 A0 c0 l1 A1 c1 hR0 hL0 hR1 hL1 r1 hc1 z3 hc6 r4 b2 r5 b3 b4 Z1 cz1 Z2 cz2 r6 b5 Z3 cz3 hc16 Z4 cz4 s o hf a w hA Q hQ) ?_
                  rintro _ a w28 _ ⟨rfl, hS65, hF⟩
                  replace hS65 : St w0 w28 [Own.blk b2 (.cells #[.int .i64 r4.2.2.Code, .int .i64 r4.2.2.At] 29 (0, 0)), Own.of (.slice Z4 m3.length cz4) 3 m3] := hS65
                  refine hK41 [(0, .slice A0 l0.length c0), (1, .slice A1 l1.length c1), (10, .pointer (some ⟨b2, 0, none⟩)), (18, (.slice Z4 m3.length cz4))] w28 ?_ a hF
                  refine we_seq fun K47 hK47 => ?_
                  refine we_seq fun K48 hK48 => ?_
                  refine we_region [(0, 0), (1, 0), (2, 0)] rfl ?_
                  refine ge_batch [0, 1, 2] (ans := []) (vs := [(158, .int .i64 0), (157, .int .i64 (l1.length : Int)), (156, .slice A1 l1.length c1)]) (l := []) (by kernel_rfl) trivial ?_
                  refine ge_nil fun a hF => hK48 _ _ ?_ a hF
                  refine we_block ?_
                  have hS66 := hS65.bring 1 rfl
                  have hS67 := hS66.bring 1 rfl
                  rcases hq13 : iter (EdfBest.r6 l0 l1) K (0, m3) with _ | (m6 | rr3)
                  · rw [hq13] at h; cases h
                  · rw [hq13] at h
                    simp only [] at h
                    refine we_iter (A := EdfBest.A6 K w0 l0 A0 c0 l1 A1 c1 hR0 hL0 hR1 hL1 r1 hc1 z3 hc6 r4 b2 r5 b3 b4 Z1 cz1 Z2 cz2 r6 b5 Z3 cz3 hc16 Z4 cz4 m3) (B := EdfBest.B6 K w0 l0 A0 c0 l1 A1 c1 hR0 hL0 hR1 hL1 r1 hc1 z3 hc6 r4 b2 r5 b3 b4 Z1 cz1 Z2 cz2 r6 b5 Z3 cz3 hc16 Z4 cz4 m3) hq13 (fun a hF => ⟨hS67, hF.weaken ⟨by kernel_rfl, by kernel_rfl, by kernel_rfl, by kernel_rfl, by kernel_rfl, by kernel_rfl, trivial⟩⟩) (fun s o hf a w hA Q hQ => EdfBest_r6 K w0 l0 A0 c0 l1 A1 c1 hR0 hL0 hR1 hL1 r1 hc1 z3 hc6 r4 b2 r5 b3 b4 Z1 cz1 Z2 cz2 r6 b5 Z3 cz3 hc16 Z4 cz4 m3 s o hf a w hA Q hQ) ?_
                    rintro _ a w30 _ ⟨rfl, hS85, hF⟩
                    replace hS85 : St w0 w30 [Own.blk b2 (.cells #[.int .i64 r4.2.2.Code, .int .i64 r4.2.2.At] 29 (0, 0)), Own.of (.slice Z4 m6.length cz4) 3 m6] := hS85
                    refine hK47 [(10, .pointer (some ⟨b2, 0, none⟩)), (18, (.slice Z4 m6.length cz4))] w30 ?_ a hF
                    refine we_seq fun K54 hK54 => ?_
                    refine we_seq fun K55 hK55 => ?_
                    refine we_region [(0, 0), (1, 0), (2, 0)] rfl ?_
                    refine ge_batch [0, 1, 2] (ans := []) (vs := [(205, .int .i64 0), (204, .int .i64 (m6.length : Int)), (203, (.slice Z4 m6.length cz4))]) (l := []) (by kernel_rfl) trivial ?_
                    refine ge_nil fun a hF => hK55 _ _ ?_ a hF
                    refine we_block ?_
                    have hS86 := hS85.bring 1 rfl
                    have hS87 := hS86.bring 1 rfl
                    rcases hq14 : iter (EdfBest.r7 m6) K 0 with _ | (_ | rr2)
                    · rw [hq14] at h; cases h
                    · rw [hq14] at h
                      simp only [] at h
                      refine we_iter (A := EdfBest.A7 K w0 l0 A0 c0 l1 A1 c1 hR0 hL0 hR1 hL1 r1 hc1 z3 hc6 r4 b2 r5 b3 b4 Z1 cz1 Z2 cz2 r6 b5 Z3 cz3 hc16 Z4 cz4 m3 m6) (B := EdfBest.B7 K w0 l0 A0 c0 l1 A1 c1 hR0 hL0 hR1 hL1 r1 hc1 z3 hc6 r4 b2 r5 b3 b4 Z1 cz1 Z2 cz2 r6 b5 Z3 cz3 hc16 Z4 cz4 m3 m6) hq14 (fun a hF => ⟨hS87, hF.weaken ⟨by kernel_rfl, by kernel_rfl, by kernel_rfl, by kernel_rfl, trivial⟩⟩) (fun s o hf a w hA Q hQ => EdfBest_r7 K w0 l0 A0 c0 l1 A1 c1 hR0 hL0 hR1 hL1 r1 hc1 z3 hc6 r4 b2 r5 b3 b4 Z1 cz1 Z2 cz2 r6 b5 Z3 cz3 hc16 Z4 cz4 m3 m6 s o hf a w hA Q hQ) ?_
                      rintro _ a w31 _ ⟨rfl, hS92, hF⟩
                      replace hS92 : St w0 w31 [Own.blk b2 (.cells #[.int .i64 r4.2.2.Code, .int .i64 r4.2.2.At] 29 (0, 0))] := hS92
                      refine hK54 [(10, .pointer (some ⟨b2, 0, none⟩))] w31 ?_ a hF
                      refine we_seq fun K62 hK62 => ?_
                      refine we_region [(0, 0), (1, 0), (2, 0), (3, 0)] rfl ?_
                      refine ge_batch [0, 1, 2, 3] (ans := [.val (.int .i64 r4.2.2.Code)]) (vs := [(4, .bool (r4.2.2.Code == 0)), (214, .bool (r4.2.2.Code == 0)), (213, .int .i64 r4.2.2.Code), (212, .pointer (some ⟨b2, 0, none⟩))]) (l := [.loaded ⟨b2, 0, none⟩ (.int .i64 r4.2.2.Code)]) (by kernel_rfl) ⟨hS92.cell 0 rfl rfl, trivial⟩ ?_
                      refine ge_nil fun a hF => hK62 _ _ ?_ a hF
                      have hS93 := hS92.takeN 0
                      obtain rfl := Option.some.inj h
                      exact we_ret (post_ret (rs := [.tmp 4]) (ans := []) (vs := [.bool (r4.2.2.Code == 0)]) (l := []) rfl (by kernel_rfl) trivial ⟨rfl, hS93⟩)
                    · rw [hq14] at h
                      simp only [] at h
                      refine we_iter (A := EdfBest.A7 K w0 l0 A0 c0 l1 A1 c1 hR0 hL0 hR1 hL1 r1 hc1 z3 hc6 r4 b2 r5 b3 b4 Z1 cz1 Z2 cz2 r6 b5 Z3 cz3 hc16 Z4 cz4 m3 m6) (B := EdfBest.B7 K w0 l0 A0 c0 l1 A1 c1 hR0 hL0 hR1 hL1 r1 hc1 z3 hc6 r4 b2 r5 b3 b4 Z1 cz1 Z2 cz2 r6 b5 Z3 cz3 hc16 Z4 cz4 m3 m6) hq14 (fun a hF => ⟨hS87, hF.weaken ⟨by kernel_rfl, by kernel_rfl, by kernel_rfl, by kernel_rfl, trivial⟩⟩) (fun s o hf a w hA Q hQ => EdfBest_r7 K w0 l0 A0 c0 l1 A1 c1 hR0 hL0 hR1 hL1 r1 hc1 z3 hc6 r4 b2 r5 b3 b4 Z1 cz1 Z2 cz2 r6 b5 Z3 cz3 hc16 Z4 cz4 m3 m6 s o hf a w hA Q hQ) ?_
                      rintro _ a w1 _ ⟨rfl, hb⟩
                      obtain rfl := Option.some.inj h
                      exact hb
                  · rw [hq13] at h
                    simp only [] at h
                    refine we_iter (A := EdfBest.A6 K w0 l0 A0 c0 l1 A1 c1 hR0 hL0 hR1 hL1 r1 hc1 z3 hc6 r4 b2 r5 b3 b4 Z1 cz1 Z2 cz2 r6 b5 Z3 cz3 hc16 Z4 cz4 m3) (B := EdfBest.B6 K w0 l0 A0 c0 l1 A1 c1 hR0 hL0 hR1 hL1 r1 hc1 z3 hc6 r4 b2 r5 b3 b4 Z1 cz1 Z2 cz2 r6 b5 Z3 cz3 hc16 Z4 cz4 m3) hq13 (fun a hF => ⟨hS67, hF.weaken ⟨by kernel_rfl, by kernel_rfl, by kernel_rfl, by kernel_rfl, by kernel_rfl, by kernel_rfl, trivial⟩⟩) (fun s o hf a w hA Q hQ => EdfBest_r6 K w0 l0 A0 c0 l1 A1 c1 hR0 hL0 hR1 hL1 r1 hc1 z3 hc6 r4 b2 r5 b3 b4 Z1 cz1 Z2 cz2 r6 b5 Z3 cz3 hc16 Z4 cz4 m3 s o hf a w hA Q hQ) ?_
                    rintro _ a w1 _ ⟨rfl, hb⟩
                    obtain rfl := Option.some.inj h
                    exact hb
                · rw [hq12] at h
                  simp only [] at h
                  refine we_iter (A := EdfBest.A5 K w0 l0 A0 c0 l1 A1 c1 hR0 hL0 hR1 hL1 r1 hc1 z3 hc6 r4 b2 r5 b3 b4 Z1 cz1 Z2 cz2 r6 b5 Z3 cz3 hc16 Z4 cz4) (B := EdfBest.B5 K w0 l0 A0 c0 l1 A1 c1 hR0 hL0 hR1 hL1 r1 hc1 z3 hc6 r4 b2 r5 b3 b4 Z1 cz1 Z2 cz2 r6 b5 Z3 cz3 hc16 Z4 cz4) hq12 (fun a hF => ⟨hS53, hF.weaken ⟨by kernel_rfl, by kernel_rfl, by kernel_rfl, by kernel_rfl, by kernel_rfl, by kernel_rfl, by kernel_rfl, trivial⟩⟩) (fun s o hf a w hA Q hQ => EdfBest_r5 K w0 l0 A0 c0 l1 A1 c1 hR0 hL0 hR1 hL1 r1 hc1 z3 hc6 r4 b2 r5 b3 b4 Z1 cz1 Z2 cz2 r6 b5 Z3 cz3 hc16 Z4 cz4 s o hf a w hA Q hQ) ?_
                  rintro _ a w1 _ ⟨rfl, hb⟩
                  obtain rfl := Option.some.inj h
                  exact hb
              · rw [if_neg hc16] at h
                cases h
            · rw [hq11] at h
              simp only [] at h
              refine we_keep (e' := [(0, .slice A0 l0.length c0), (1, .slice A1 l1.length c1), (8, .int .i64 r4.1), (9, .int .i64 r4.2.1), (10, .pointer (some ⟨b2, 0, none⟩))]) ⟨by kernel_rfl, by kernel_rfl, by kernel_rfl, by kernel_rfl, by kernel_rfl, trivial⟩ (EdfBest_p3 K w0 l0 A0 c0 l1 A1 c1 hR0 hL0 hR1 hL1 r1 hc1 z3 hc6 r4 b2 r5 b3 b4 Z1 cz1 Z2 cz2 r6 b5 Z3 cz3 _ hq11 _ hS39 _ ?_)
              rintro _ a w1 ⟨_, rfl, hb⟩
              obtain rfl := Option.some.inj h
              exact hb
          · rw [hq9] at h
            simp only [] at h
            refine we_keep (e' := ((0, .slice A0 l0.length c0) :: (1, .slice A1 l1.length c1) :: (5, .int .i64 z3) :: (8, .int .i64 r4.1) :: (9, .int .i64 r4.2.1) :: (10, .pointer (some ⟨b2, 0, none⟩)) :: (11, .pointer (some ⟨b3, 0, none⟩)) :: (12, .pointer (some ⟨b4, 0, none⟩)) :: (13, (.slice Z3 r6.1.length cz3)) :: (14, .pointer (some ⟨b5, 0, none⟩)) :: (66, .int .i64 z3) :: (67, .bool false) :: (68, .tuple #[.int .i64 r4.1, .int .i64 r4.2.1, .agg #[.int .i64 r4.2.2.Code, .int .i64 r4.2.2.At]]) :: (69, .slice A0 l0.length c0) :: (70, .tuple #[.int .i64 r4.1, .int .i64 r4.2.1, .agg #[.int .i64 r4.2.2.Code, .int .i64 r4.2.2.At]]) :: (71, .int .i64 r4.1) :: (72, .int .i64 r4.2.1) :: (73, .agg #[.int .i64 r4.2.2.Code, .int .i64 r4.2.2.At]) :: (74, .tuple #[.agg #[(.slice Z1 r5.1.Runs.length cz1), (.slice Z2 r5.1.Ends.length cz2)], .agg #[.int .i64 r5.2.Code, .int .i64 r5.2.At]]) :: (75, .slice A0 l0.length c0) :: (76, .int .i64 z3) :: (77, .tuple #[.agg #[(.slice Z1 r5.1.Runs.length cz1), (.slice Z2 r5.1.Ends.length cz2)], .agg #[.int .i64 r5.2.Code, .int .i64 r5.2.At]]) :: (78, .agg #[(.slice Z1 r5.1.Runs.length cz1), (.slice Z2 r5.1.Ends.length cz2)]) :: (79, .agg #[.int .i64 r5.2.Code, .int .i64 r5.2.At]) :: (80, .tuple #[(.slice Z3 r6.1.length cz3), .agg #[.int .i64 r6.2.Code, .int .i64 r6.2.At]]) :: (81, .slice A0 l0.length c0) :: (82, .agg #[(.slice Z1 r5.1.Runs.length cz1), (.slice Z2 r5.1.Ends.length cz2)]) :: (83, .tuple #[(.slice Z3 r6.1.length cz3), .agg #[.int .i64 r6.2.Code, .int .i64 r6.2.At]]) :: (84, (.slice Z3 r6.1.length cz3)) :: (85, .agg #[.int .i64 r6.2.Code, .int .i64 r6.2.At]) :: [])) ⟨by kernel_rfl, by kernel_rfl, by kernel_rfl, by kernel_rfl, by kernel_rfl, by kernel_rfl, by kernel_rfl, by kernel_rfl, by kernel_rfl, by kernel_rfl, by kernel_rfl, by kernel_rfl, by kernel_rfl, by kernel_rfl, by kernel_rfl, by kernel_rfl, by kernel_rfl, by kernel_rfl, by kernel_rfl, by kernel_rfl, by kernel_rfl, by kernel_rfl, by kernel_rfl, by kernel_rfl, by kernel_rfl, by kernel_rfl, by kernel_rfl, by kernel_rfl, by kernel_rfl, by kernel_rfl, trivial⟩ (EdfBest_p2 K w0 l0 A0 c0 l1 A1 c1 hR0 hL0 hR1 hL1 r1 hc1 z3 hc6 r4 b2 r5 b3 b4 Z1 cz1 Z2 cz2 r6 b5 Z3 cz3 _ hq9 _ hS32 _ ?_)
            rintro _ a w1 ⟨_, rfl, hb⟩
            obtain rfl := Option.some.inj h
            exact hb
      · rw [hq5] at h
        simp only [] at h
        refine we_iter (A := EdfBest.A1 K w0 l0 A0 c0 l1 A1 c1 hR0 hL0 hR1 hL1 r1 hc1) (B := EdfBest.B1 K w0 l0 A0 c0 l1 A1 c1 hR0 hL0 hR1 hL1 r1 hc1) hq5 (fun a hF => ⟨hS7, hF.weaken ⟨by kernel_rfl, by kernel_rfl, by kernel_rfl, by kernel_rfl, by kernel_rfl, by kernel_rfl, trivial⟩⟩) (fun s o hf a w hA Q hQ => EdfBest_r1 K w0 l0 A0 c0 l1 A1 c1 hR0 hL0 hR1 hL1 r1 hc1 s o hf a w hA Q hQ) ?_
        rintro _ a w1 _ ⟨rfl, hb⟩
        obtain rfl := Option.some.inj h
        exact hb
    · rw [hq4] at h
      simp only [] at h
      refine we_keep (e' := [(0, .slice A0 l0.length c0), (1, .slice A1 l1.length c1), (4, .bool false), (25, .bool r1), (26, .bool false)]) ⟨by kernel_rfl, by kernel_rfl, by kernel_rfl, by kernel_rfl, by kernel_rfl, trivial⟩ (EdfBest_p0 K w0 l0 A0 c0 l1 A1 c1 hR0 hL0 hR1 hL1 r1 hc1 _ hq4 _ hS2 _ ?_)
      rintro _ a w1 ⟨_, rfl, hb⟩
      obtain rfl := Option.some.inj h
      exact hb
  · rw [if_neg hc1] at h
    refine we_known (t := 26) (b := !r1) (v := true) (by kernel_rfl) (congrArg (fun z => !z) (Bool.eq_false_iff.2 hc1)) ?_
    refine we_true (by kernel_rfl) ?_
    refine we_seq fun K63 hK63 => ?_
    refine we_region [(0, 0)] rfl ?_
    refine ge_batch [0] (ans := []) (vs := [(4, .bool false)]) (l := []) (by kernel_rfl) trivial ?_
    refine ge_nil fun a hF => hK63 _ _ ?_ a hF
    obtain rfl := Option.some.inj h
    exact we_ret (post_ret (rs := [.tmp 4]) (ans := []) (vs := [.bool false]) (l := []) rfl (by kernel_rfl) trivial ⟨rfl, hS2⟩)
end Go.Proofs.Ytlipdmblinjjaaa.GV
