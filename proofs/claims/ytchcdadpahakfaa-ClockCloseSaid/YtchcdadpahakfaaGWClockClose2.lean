/- Walks of single functions, written by a program of this work. -/
import Derived.Test.YtchcdadpahakfaaGWClockClose1
namespace Go.Proofs.Ytchcdadpahakfaa.GV
open Go Go.RowKit
set_option linter.unusedVariables false
set_option linter.unusedSimpArgs false
set_option maxRecDepth 100000

/-! punctual/punctuallaw.ClockClose -/
abbrev ClockClose.Post (w0 : World) (r : Bool) (e : Ending) (w : World) : Prop := e = .returned (.bool r) ∧ St w0 w []
def ClockClose.p0 (l0 : List Int) (x1 : Int) (x3 : Int) (x5 : Int) (x6 : Int) : Option (Unit ⊕ Bool) :=
    if (l0.length : Int) < 1 then
      some (.inr true)
    else
      if (l0.length : Int) > 10 then
        some (.inr true)
      else
        if x1 < 0 then
          some (.inr true)
        else
          if x1 > (l0.length : Int) then
            some (.inr true)
          else
            if (l0.length : Int) < (IntKind.i64.wrap ((IntKind.i64.wrap (3 * x1)) + 1)) then
              some (.inr true)
            else
              if x3 < 0 then
                some (.inr true)
              else
                if x3 > 1000 then
                  some (.inr true)
                else
                  if x5 < 0 then
                    some (.inr true)
                  else
                    if x5 > 1000 then
                      some (.inr true)
                    else
                      if x6 < 0 then
                        some (.inr true)
                      else
                        if x6 > 20 then
                          some (.inr true)
                        else
                          some (.inl ())
def ClockClose.r1 (l0 : List Int) : Nat × (List Int) → Option ((Nat × (List Int)) ⊕ ((List Int) ⊕ Bool))
  | (i1, m1) =>
    if (i1 : Int) < (l0.length : Int) then
      match l0[i1]? with
      | none => none
      | some e1 =>
        match m1[i1]? with
        | none => none
        | some e2 =>
          some (.inl ((i1 + 1), (m1.set i1 (Int.tmod e1 1000000))))
    else
      some (.inr (.inl m1))
def ClockClose.r4 (l0 : List Int) (x1 : Int) (l2 : List (List Int)) (x3 : Int) (z1 : Int) (m4 : List Int) (i2 : Nat) : (List Int) × Nat → Option (((List Int) × Nat) ⊕ ((List Int) ⊕ Bool))
  | (m9, i3) =>
    if (i3 : Int) < (l0.length : Int) then
      if (l2.length : Int) > 0 then
        if (l2.length : Int) = 0 then
          none
        else
          if 0 ≤ (Int.tmod (IntKind.i64.wrap ((IntKind.i64.wrap (z1 * (l0.length : Int))) + (i2 : Int))) (l2.length : Int)) then
            match l2[(Int.tmod (IntKind.i64.wrap ((IntKind.i64.wrap (z1 * (l0.length : Int))) + (i2 : Int))) (l2.length : Int)).toNat]? with
            | none => none
            | some e3 =>
              match ClockClose_2.f e3 (i3 : Int) with
              | none => none
              | some r3 =>
                if (i3 : Int) < (IntKind.i64.wrap ((l0.length : Int) - x1)) then
                  match m4[i3]? with
                  | none => none
                  | some e4 =>
                    match ClockClose_1.f r3 x3 with
                    | none => none
                    | some r4 =>
                      if m9.length < 17592186044416 then
                        some (.inl ((m9 ++ [IntKind.i64.wrap (e4 + r4)]), (i3 + 1)))
                      else
                        none
                else
                  if m9.length < 17592186044416 then
                    some (.inl ((m9 ++ [Int.tmod r3 549755813888]), (i3 + 1)))
                  else
                    none
          else
            none
      else
        if (i3 : Int) < (IntKind.i64.wrap ((l0.length : Int) - x1)) then
          match m4[i3]? with
          | none => none
          | some e5 =>
            match ClockClose_1.f 0 x3 with
            | none => none
            | some r5 =>
              if m9.length < 17592186044416 then
                some (.inl ((m9 ++ [IntKind.i64.wrap (e5 + r5)]), (i3 + 1)))
              else
                none
        else
          if m9.length < 17592186044416 then
            some (.inl ((m9 ++ [Int.tmod 0 549755813888]), (i3 + 1)))
          else
            none
    else
      some (.inr (.inl m9))
def ClockClose.r3 (K : Nat) (l0 : List Int) (x1 : Int) (l2 : List (List Int)) (x3 : Int) (l4 : List Int) (x5 : Int) (z1 : Int) (m4 : List Int) : (List (List Int)) × (List Int) × Nat → Option (((List (List Int)) × (List Int) × Nat) ⊕ (((List (List Int)) × (List Int)) ⊕ Bool))
  | (m5, m6, i2) =>
    if (i2 : Int) < (l0.length : Int) then
      match iter (ClockClose.r4 l0 x1 l2 x3 z1 m4 i2) K (([] : List Int), 0) with
      | none => none
      | some (.inl m11) =>
        if m5.length < 5864062014805 then
          match ClockClose_2.f l4 (IntKind.i64.wrap ((IntKind.i64.wrap (z1 * (l0.length : Int))) + (i2 : Int))) with
          | none => none
          | some r6 =>
            match ClockClose_1.f r6 x5 with
            | none => none
            | some r7 =>
              if m6.length < 17592186044416 then
                some (.inl ((m5 ++ [m11]), (m6 ++ [r7]), (i2 + 1)))
              else
                none
        else
          none
      | some (.inr rr1) =>
        some (.inr (.inr rr1))
    else
      some (.inr (.inl (m5, m6)))
def ClockClose.p5 (l0 : List Int) (r9 : (List Int) × SFault) : Option (Unit ⊕ Bool) :=
    if r9.2.Code = 0 then
      if (r9.1.length : Int) = (l0.length : Int) then
        some (.inl ())
      else
        some (.inr false)
    else
      some (.inr false)
def ClockClose.r6 (l0 : List Int) : Int × (List Int) → Option ((Int × (List Int)) ⊕ ((List Int) ⊕ Bool))
  | (z2, m14) =>
    if z2 < (l0.length : Int) then
      if 0 ≤ z2 then
        match m14[(z2).toNat]? with
        | none => none
        | some e6 =>
          some (.inl (IntKind.i64.wrap (z2 + 1), (m14.set ((z2).toNat) 0)))
      else
        none
    else
      some (.inr (.inl m14))
def ClockClose.r2 (K : Nat) (l0 : List Int) (x1 : Int) (l2 : List (List Int)) (x3 : Int) (l4 : List Int) (x5 : Int) (x6 : Int) (r2 : Int) : Int × (List Int) → Option ((Int × (List Int)) ⊕ (Unit ⊕ Bool))
  | (z1, m4) =>
    if z1 < x6 then
      match iter (ClockClose.r3 K l0 x1 l2 x3 l4 x5 z1 m4) K (([] : List (List Int)), ([] : List Int), 0) with
      | none => none
      | some (.inl (m12, m13)) =>
        match ClockClose_3.f K m4 (IntKind.i64.wrap ((l0.length : Int) - x1)) with
        | none => none
        | some r8 =>
          match net_Round.f K m12 x1 m13 with
          | none => none
          | some r9 =>
            match ClockClose.p5 l0 r9 with
            | none => none
            | some (.inl _) =>
              match iter (ClockClose.r6 l0) K (IntKind.i64.wrap ((l0.length : Int) - x1), (r9.1.take m4.length ++ m4.drop r9.1.length)) with
              | none => none
              | some (.inl m16) =>
                match ClockClose_3.f K m16 (IntKind.i64.wrap ((l0.length : Int) - x1)) with
                | none => none
                | some r10 =>
                  if r10 > (IntKind.i64.wrap ((IntKind.i64.wrap (Int.tdiv (IntKind.i64.wrap ((IntKind.i64.wrap (r8 + (IntKind.i64.wrap (4 * x3)))) + 1)) 2)) + (IntKind.i64.wrap (2 * x5)))) then
                    some (.inr (.inr false))
                  else
                    if r10 > (gmax r2 (IntKind.i64.wrap ((IntKind.i64.wrap ((IntKind.i64.wrap (4 * x3)) + (IntKind.i64.wrap (4 * x5)))) + 1))) then
                      some (.inr (.inr false))
                    else
                      some (.inl (IntKind.i64.wrap (z1 + 1), m16))
              | some (.inr rr2) =>
                some (.inr (.inr rr2))
            | some (.inr rr3) =>
              some (.inr (.inr rr3))
      | some (.inr rr4) =>
        some (.inr (.inr rr4))
    else
      some (.inr (.inl ()))
def ClockClose.f (K : Nat) (l0 : List Int) (x1 : Int) (l2 : List (List Int)) (x3 : Int) (l4 : List Int) (x5 : Int) (x6 : Int) : Option Bool :=
  match middle.f K with
  | none => none
  | some r1 =>
    if r1 = true then
      match ClockClose.p0 l0 x1 x3 x5 x6 with
      | none => none
      | some (.inl _) =>
        if l0.length ≤ 17592186044416 then
          match iter (ClockClose.r1 l0) K (0, (List.replicate l0.length (0 : Int))) with
          | none => none
          | some (.inl m3) =>
            match ClockClose_3.f K m3 (IntKind.i64.wrap ((l0.length : Int) - x1)) with
            | none => none
            | some r2 =>
              match iter (ClockClose.r2 K l0 x1 l2 x3 l4 x5 x6 r2) K (0, m3) with
              | none => none
              | some (.inl _) =>
                some true
              | some (.inr rr5) =>
                some rr5
          | some (.inr rr6) =>
            some rr6
        else
          none
      | some (.inr rr7) =>
        some rr7
    else
      some false
abbrev ClockClose.A0 (K : Nat) (w0 : World) (l0 : List Int) (A0 : Option Addr) (c0 : Nat) (x1 : Int) (l2 : List (List Int)) (hd2 : List Hdr) (A2 : Option Addr) (c2 : Nat) (x3 : Int) (l4 : List Int) (A4 : Option Addr) (c4 : Nat) (x5 : Int) (x6 : Int) (hR0 : RdL w0 A0 l0) (hL0 : l0.length ≤ c0) (hR2 : RdL w0 A2 hd2) (hL2 : l2.length ≤ c2) (hN2 : NestL w0 hd2 l2) (hR4 : RdL w0 A4 l4) (hL4 : l4.length ≤ c4) (r1 : Bool) (hc1 : r1 = true) : Unit → Act → World → Prop := fun (s : Unit) a w => St w0 w [] ∧ Frm 231 a [(0, .slice A0 l0.length c0), (1, .int .i64 x1), (2, .slice A2 l2.length c2), (3, .int .i64 x3), (4, .slice A4 l4.length c4), (5, .int .i64 x5), (6, .int .i64 x6), (15, .int .i64 (l0.length : Int))]
abbrev ClockClose.B0 (K : Nat) (w0 : World) (l0 : List Int) (A0 : Option Addr) (c0 : Nat) (x1 : Int) (l2 : List (List Int)) (hd2 : List Hdr) (A2 : Option Addr) (c2 : Nat) (x3 : Int) (l4 : List Int) (A4 : Option Addr) (c4 : Nat) (x5 : Int) (x6 : Int) (hR0 : RdL w0 A0 l0) (hL0 : l0.length ≤ c0) (hR2 : RdL w0 A2 hd2) (hL2 : l2.length ≤ c2) (hN2 : NestL w0 hd2 l2) (hR4 : RdL w0 A4 l4) (hL4 : l4.length ≤ c4) (r1 : Bool) (hc1 : r1 = true) : Bool → Exit → Act → World → Prop := Rets Try.prog Try.f5 (ClockClose.Post w0)
theorem ClockClose_p0 (K : Nat) (w0 : World) (l0 : List Int) (A0 : Option Addr) (c0 : Nat) (x1 : Int) (l2 : List (List Int)) (hd2 : List Hdr) (A2 : Option Addr) (c2 : Nat) (x3 : Int) (l4 : List Int) (A4 : Option Addr) (c4 : Nat) (x5 : Int) (x6 : Int) (hR0 : RdL w0 A0 l0) (hL0 : l0.length ≤ c0) (hR2 : RdL w0 A2 hd2) (hL2 : l2.length ≤ c2) (hN2 : NestL w0 hd2 l2) (hR4 : RdL w0 A4 l4) (hL4 : l4.length ≤ c4) (r1 : Bool) (hc1 : r1 = true) (o : Unit ⊕ Bool) (h : ClockClose.p0 l0 x1 x3 x5 x6 = some o) (w : World) (hS : St w0 w []) (Q : Exit → Act → World → Prop) (hQ : ∀ x a w, Outs (ClockClose.A0 K w0 l0 A0 c0 x1 l2 hd2 A2 c2 x3 l4 A4 c4 x5 x6 hR0 hL0 hR2 hL2 hN2 hR4 hL4 r1 hc1) (ClockClose.B0 K w0 l0 A0 c0 x1 l2 hd2 A2 c2 x3 l4 A4 c4 x5 x6 hR0 hL0 hR2 hL2 hN2 hR4 hL4 r1 hc1) o x a w → Q x a w) : WE Try.prog 231 (subF Try.f5 [1, 1, 1, 0]) Q [(0, .slice A0 l0.length c0), (1, .int .i64 x1), (2, .slice A2 l2.length c2), (3, .int .i64 x3), (4, .slice A4 l4.length c4), (5, .int .i64 x5), (6, .int .i64 x6), (14, .bool false), (15, .int .i64 (l0.length : Int)), (35, .bool r1), (36, .bool false), (37, .slice A0 l0.length c0), (38, .int .i64 (l0.length : Int))] w := by
  simp only [ClockClose.p0] at h
  refine we_seq fun K6 hK6 => ?_
  refine we_region [(0, 0), (1, 0), (2, 0), (3, 0), (4, 0), (5, 0), (6, 0), (7, 0), (8, 0), (9, 0), (10, 0), (11, 0), (12, 0), (13, 0), (14, 0), (15, 0), (16, 0), (17, 0), (18, 0), (19, 0), (20, 0), (21, 0), (22, 0), (23, 0), (24, 0), (25, 0), (26, 0), (27, 0), (28, 0), (29, 0), (30, 0), (31, 0), (32, 0), (33, 0), (34, 0), (35, 0), (36, 0), (37, 0), (38, 0), (39, 0), (40, 0), (41, 0), (42, 0), (43, 0), (44, 0), (45, 0)] rfl ?_
  refine ge_batch [0, 1, 2] (ans := []) (vs := [(41, .bool (decide ((l0.length : Int) < 1))), (40, .bool (decide ((l0.length : Int) < 1))), (39, .int .i64 (l0.length : Int))]) (l := []) (by kernel_rfl) trivial ?_
  by_cases hc2 : (l0.length : Int) < 1
  · rw [if_pos hc2] at h
    refine ge_known (t := 41) (b := decide ((l0.length : Int) < 1)) (c := true) (by kernel_rfl) (decide_eq_true hc2) ?_
    refine ge_batch [3, 4, 5, 6, 7, 8, 9, 10, 11, 12, 13, 14, 15, 16, 17, 18, 19, 20, 21, 22, 23, 24, 25, 26, 27, 28, 29, 30, 31, 32, 33, 34, 35, 36, 37, 38, 39, 40, 41, 42, 43, 44, 45] (ans := []) (vs := [(84, .bool true), (83, undef), (82, undef), (81, .bool true), (80, .bool true), (79, undef), (78, undef), (77, .bool true), (76, .bool true), (75, undef), (74, undef), (73, .bool true), (72, .bool true), (71, undef), (70, undef), (69, .bool true), (68, .bool true), (67, undef), (66, undef), (65, .bool true), (64, .bool true), (63, undef), (62, undef), (61, .bool true), (60, .bool true), (59, undef), (58, undef), (57, undef), (56, undef), (55, undef), (54, .bool true), (53, .bool true), (52, undef), (51, undef), (50, undef), (49, .bool true), (48, .bool true), (47, undef), (46, undef), (45, .bool true), (44, .bool true), (43, undef), (42, undef)]) (l := []) (by kernel_rfl) trivial ?_
    refine ge_nil fun a hF => hK6 _ _ ?_ a hF
    refine we_true (by kernel_rfl) ?_
    refine we_seq fun K7 hK7 => ?_
    refine we_region [(0, 0)] rfl ?_
    refine ge_batch [0] (ans := []) (vs := [(14, .bool true)]) (l := []) (by kernel_rfl) trivial ?_
    refine ge_nil fun a hF => hK7 _ _ ?_ a hF
    obtain rfl := Option.some.inj h
    exact we_ret fun a hF => hQ _ _ _ (Outs.out nofun ⟨rfl, (post_ret (rs := [.tmp 14]) (ans := []) (vs := [.bool true]) (l := []) rfl (by kernel_rfl) trivial ⟨rfl, hS⟩) a hF⟩)
  · rw [if_neg hc2] at h
    refine ge_known (t := 41) (b := decide ((l0.length : Int) < 1)) (c := false) (by kernel_rfl) (decide_eq_false hc2) ?_
    refine ge_batch [3, 4, 5, 6] (ans := []) (vs := [(45, .bool (decide ((l0.length : Int) > 10))), (44, .bool (decide ((l0.length : Int) > 10))), (43, .bool (decide ((l0.length : Int) > 10))), (42, .int .i64 (l0.length : Int))]) (l := []) (by kernel_rfl) trivial ?_
    by_cases hc3 : (l0.length : Int) > 10
    · rw [if_pos hc3] at h
      refine ge_known (t := 45) (b := decide ((l0.length : Int) > 10)) (c := true) (by kernel_rfl) (decide_eq_true hc3) ?_
      refine ge_batch [7, 8, 9, 10, 11, 12, 13, 14, 15, 16, 17, 18, 19, 20, 21, 22, 23, 24, 25, 26, 27, 28, 29, 30, 31, 32, 33, 34, 35, 36, 37, 38, 39, 40, 41, 42, 43, 44, 45] (ans := []) (vs := [(84, .bool true), (83, undef), (82, undef), (81, .bool true), (80, .bool true), (79, undef), (78, undef), (77, .bool true), (76, .bool true), (75, undef), (74, undef), (73, .bool true), (72, .bool true), (71, undef), (70, undef), (69, .bool true), (68, .bool true), (67, undef), (66, undef), (65, .bool true), (64, .bool true), (63, undef), (62, undef), (61, .bool true), (60, .bool true), (59, undef), (58, undef), (57, undef), (56, undef), (55, undef), (54, .bool true), (53, .bool true), (52, undef), (51, undef), (50, undef), (49, .bool true), (48, .bool true), (47, undef), (46, undef)]) (l := []) (by kernel_rfl) trivial ?_
      refine ge_nil fun a hF => hK6 _ _ ?_ a hF
      refine we_true (by kernel_rfl) ?_
      refine we_seq fun K8 hK8 => ?_
      refine we_region [(0, 0)] rfl ?_
      refine ge_batch [0] (ans := []) (vs := [(14, .bool true)]) (l := []) (by kernel_rfl) trivial ?_
      refine ge_nil fun a hF => hK8 _ _ ?_ a hF
      obtain rfl := Option.some.inj h
      exact we_ret fun a hF => hQ _ _ _ (Outs.out nofun ⟨rfl, (post_ret (rs := [.tmp 14]) (ans := []) (vs := [.bool true]) (l := []) rfl (by kernel_rfl) trivial ⟨rfl, hS⟩) a hF⟩)
    · rw [if_neg hc3] at h
      refine ge_known (t := 45) (b := decide ((l0.length : Int) > 10)) (c := false) (by kernel_rfl) (decide_eq_false hc3) ?_
      refine ge_batch [7, 8, 9, 10] (ans := []) (vs := [(49, .bool (decide (x1 < 0))), (48, .bool (decide (x1 < 0))), (47, .bool (decide (x1 < 0))), (46, .int .i64 x1)]) (l := []) (by kernel_rfl) trivial ?_
      by_cases hc4 : x1 < 0
      · rw [if_pos hc4] at h
        refine ge_known (t := 49) (b := decide (x1 < 0)) (c := true) (by kernel_rfl) (decide_eq_true hc4) ?_
        refine ge_batch [11, 12, 13, 14, 15, 16, 17, 18, 19, 20, 21, 22, 23, 24, 25, 26, 27, 28, 29, 30, 31, 32, 33, 34, 35, 36, 37, 38, 39, 40, 41, 42, 43, 44, 45] (ans := []) (vs := [(84, .bool true), (83, undef), (82, undef), (81, .bool true), (80, .bool true), (79, undef), (78, undef), (77, .bool true), (76, .bool true), (75, undef), (74, undef), (73, .bool true), (72, .bool true), (71, undef), (70, undef), (69, .bool true), (68, .bool true), (67, undef), (66, undef), (65, .bool true), (64, .bool true), (63, undef), (62, undef), (61, .bool true), (60, .bool true), (59, undef), (58, undef), (57, undef), (56, undef), (55, undef), (54, .bool true), (53, .bool true), (52, undef), (51, undef), (50, undef)]) (l := []) (by kernel_rfl) trivial ?_
        refine ge_nil fun a hF => hK6 _ _ ?_ a hF
        refine we_true (by kernel_rfl) ?_
        refine we_seq fun K9 hK9 => ?_
        refine we_region [(0, 0)] rfl ?_
        refine ge_batch [0] (ans := []) (vs := [(14, .bool true)]) (l := []) (by kernel_rfl) trivial ?_
        refine ge_nil fun a hF => hK9 _ _ ?_ a hF
        obtain rfl := Option.some.inj h
        exact we_ret fun a hF => hQ _ _ _ (Outs.out nofun ⟨rfl, (post_ret (rs := [.tmp 14]) (ans := []) (vs := [.bool true]) (l := []) rfl (by kernel_rfl) trivial ⟨rfl, hS⟩) a hF⟩)
      · rw [if_neg hc4] at h
        refine ge_known (t := 49) (b := decide (x1 < 0)) (c := false) (by kernel_rfl) (decide_eq_false hc4) ?_
        refine ge_batch [11, 12, 13, 14, 15] (ans := []) (vs := [(54, .bool (decide (x1 > (l0.length : Int)))), (53, .bool (decide (x1 > (l0.length : Int)))), (52, .bool (decide (x1 > (l0.length : Int)))), (51, .int .i64 (l0.length : Int)), (50, .int .i64 x1)]) (l := []) (by kernel_rfl) trivial ?_
        by_cases hc5 : x1 > (l0.length : Int)
        · rw [if_pos hc5] at h
          refine ge_known (t := 54) (b := decide (x1 > (l0.length : Int))) (c := true) (by kernel_rfl) (decide_eq_true hc5) ?_
          refine ge_batch [16, 17, 18, 19, 20, 21, 22, 23, 24, 25, 26, 27, 28, 29, 30, 31, 32, 33, 34, 35, 36, 37, 38, 39, 40, 41, 42, 43, 44, 45] (ans := []) (vs := [(84, .bool true), (83, undef), (82, undef), (81, .bool true), (80, .bool true), (79, undef), (78, undef), (77, .bool true), (76, .bool true), (75, undef), (74, undef), (73, .bool true), (72, .bool true), (71, undef), (70, undef), (69, .bool true), (68, .bool true), (67, undef), (66, undef), (65, .bool true), (64, .bool true), (63, undef), (62, undef), (61, .bool true), (60, .bool true), (59, undef), (58, undef), (57, undef), (56, undef), (55, undef)]) (l := []) (by kernel_rfl) trivial ?_
          refine ge_nil fun a hF => hK6 _ _ ?_ a hF
          refine we_true (by kernel_rfl) ?_
          refine we_seq fun K10 hK10 => ?_
          refine we_region [(0, 0)] rfl ?_
          refine ge_batch [0] (ans := []) (vs := [(14, .bool true)]) (l := []) (by kernel_rfl) trivial ?_
          refine ge_nil fun a hF => hK10 _ _ ?_ a hF
          obtain rfl := Option.some.inj h
          exact we_ret fun a hF => hQ _ _ _ (Outs.out nofun ⟨rfl, (post_ret (rs := [.tmp 14]) (ans := []) (vs := [.bool true]) (l := []) rfl (by kernel_rfl) trivial ⟨rfl, hS⟩) a hF⟩)
        · rw [if_neg hc5] at h
          refine ge_known (t := 54) (b := decide (x1 > (l0.length : Int))) (c := false) (by kernel_rfl) (decide_eq_false hc5) ?_
          refine ge_batch [16, 17, 18, 19, 20, 21, 22] (ans := []) (vs := [(61, .bool (decide ((l0.length : Int) < (IntKind.i64.wrap ((IntKind.i64.wrap (3 * x1)) + 1))))), (60, .bool (decide ((l0.length : Int) < (IntKind.i64.wrap ((IntKind.i64.wrap (3 * x1)) + 1))))), (59, .bool (decide ((l0.length : Int) < (IntKind.i64.wrap ((IntKind.i64.wrap (3 * x1)) + 1))))), (58, .int .i64 (IntKind.i64.wrap ((IntKind.i64.wrap (3 * x1)) + 1))), (57, .int .i64 (IntKind.i64.wrap (3 * x1))), (56, .int .i64 x1), (55, .int .i64 (l0.length : Int))]) (l := []) (by kernel_rfl) trivial ?_
          by_cases hc6 : (l0.length : Int) < (IntKind.i64.wrap ((IntKind.i64.wrap (3 * x1)) + 1))
          · rw [if_pos hc6] at h
            refine ge_known (t := 61) (b := decide ((l0.length : Int) < (IntKind.i64.wrap ((IntKind.i64.wrap (3 * x1)) + 1)))) (c := true) (by kernel_rfl) (decide_eq_true hc6) ?_
            refine ge_batch [23, 24, 25, 26, 27, 28, 29, 30, 31, 32, 33, 34, 35, 36, 37, 38, 39, 40, 41, 42, 43, 44, 45] (ans := []) (vs := [(84, .bool true), (83, undef), (82, undef), (81, .bool true), (80, .bool true), (79, undef), (78, undef), (77, .bool true), (76, .bool true), (75, undef), (74, undef), (73, .bool true), (72, .bool true), (71, undef), (70, undef), (69, .bool true), (68, .bool true), (67, undef), (66, undef), (65, .bool true), (64, .bool true), (63, undef), (62, undef)]) (l := []) (by kernel_rfl) trivial ?_
            refine ge_nil fun a hF => hK6 _ _ ?_ a hF
            refine we_true (by kernel_rfl) ?_
            refine we_seq fun K11 hK11 => ?_
            refine we_region [(0, 0)] rfl ?_
            refine ge_batch [0] (ans := []) (vs := [(14, .bool true)]) (l := []) (by kernel_rfl) trivial ?_
            refine ge_nil fun a hF => hK11 _ _ ?_ a hF
            obtain rfl := Option.some.inj h
            exact we_ret fun a hF => hQ _ _ _ (Outs.out nofun ⟨rfl, (post_ret (rs := [.tmp 14]) (ans := []) (vs := [.bool true]) (l := []) rfl (by kernel_rfl) trivial ⟨rfl, hS⟩) a hF⟩)
          · rw [if_neg hc6] at h
            refine ge_known (t := 61) (b := decide ((l0.length : Int) < (IntKind.i64.wrap ((IntKind.i64.wrap (3 * x1)) + 1)))) (c := false) (by kernel_rfl) (decide_eq_false hc6) ?_
            refine ge_batch [23, 24, 25, 26] (ans := []) (vs := [(65, .bool (decide (x3 < 0))), (64, .bool (decide (x3 < 0))), (63, .bool (decide (x3 < 0))), (62, .int .i64 x3)]) (l := []) (by kernel_rfl) trivial ?_
            by_cases hc7 : x3 < 0
            · rw [if_pos hc7] at h
              refine ge_known (t := 65) (b := decide (x3 < 0)) (c := true) (by kernel_rfl) (decide_eq_true hc7) ?_
              refine ge_batch [27, 28, 29, 30, 31, 32, 33, 34, 35, 36, 37, 38, 39, 40, 41, 42, 43, 44, 45] (ans := []) (vs := [(84, .bool true), (83, undef), (82, undef), (81, .bool true), (80, .bool true), (79, undef), (78, undef), (77, .bool true), (76, .bool true), (75, undef), (74, undef), (73, .bool true), (72, .bool true), (71, undef), (70, undef), (69, .bool true), (68, .bool true), (67, undef), (66, undef)]) (l := []) (by kernel_rfl) trivial ?_
              refine ge_nil fun a hF => hK6 _ _ ?_ a hF
              refine we_true (by kernel_rfl) ?_
              refine we_seq fun K12 hK12 => ?_
              refine we_region [(0, 0)] rfl ?_
              refine ge_batch [0] (ans := []) (vs := [(14, .bool true)]) (l := []) (by kernel_rfl) trivial ?_
              refine ge_nil fun a hF => hK12 _ _ ?_ a hF
              obtain rfl := Option.some.inj h
              exact we_ret fun a hF => hQ _ _ _ (Outs.out nofun ⟨rfl, (post_ret (rs := [.tmp 14]) (ans := []) (vs := [.bool true]) (l := []) rfl (by kernel_rfl) trivial ⟨rfl, hS⟩) a hF⟩)
            · rw [if_neg hc7] at h
              refine ge_known (t := 65) (b := decide (x3 < 0)) (c := false) (by kernel_rfl) (decide_eq_false hc7) ?_
              refine ge_batch [27, 28, 29, 30] (ans := []) (vs := [(69, .bool (decide (x3 > 1000))), (68, .bool (decide (x3 > 1000))), (67, .bool (decide (x3 > 1000))), (66, .int .i64 x3)]) (l := []) (by kernel_rfl) trivial ?_
              by_cases hc8 : x3 > 1000
              · rw [if_pos hc8] at h
                refine ge_known (t := 69) (b := decide (x3 > 1000)) (c := true) (by kernel_rfl) (decide_eq_true hc8) ?_
                refine ge_batch [31, 32, 33, 34, 35, 36, 37, 38, 39, 40, 41, 42, 43, 44, 45] (ans := []) (vs := [(84, .bool true), (83, undef), (82, undef), (81, .bool true), (80, .bool true), (79, undef), (78, undef), (77, .bool true), (76, .bool true), (75, undef), (74, undef), (73, .bool true), (72, .bool true), (71, undef), (70, undef)]) (l := []) (by kernel_rfl) trivial ?_
                refine ge_nil fun a hF => hK6 _ _ ?_ a hF
                refine we_true (by kernel_rfl) ?_
                refine we_seq fun K13 hK13 => ?_
                refine we_region [(0, 0)] rfl ?_
                refine ge_batch [0] (ans := []) (vs := [(14, .bool true)]) (l := []) (by kernel_rfl) trivial ?_
                refine ge_nil fun a hF => hK13 _ _ ?_ a hF
                obtain rfl := Option.some.inj h
                exact we_ret fun a hF => hQ _ _ _ (Outs.out nofun ⟨rfl, (post_ret (rs := [.tmp 14]) (ans := []) (vs := [.bool true]) (l := []) rfl (by kernel_rfl) trivial ⟨rfl, hS⟩) a hF⟩)
              · rw [if_neg hc8] at h
                refine ge_known (t := 69) (b := decide (x3 > 1000)) (c := false) (by kernel_rfl) (decide_eq_false hc8) ?_
                refine ge_batch [31, 32, 33, 34] (ans := []) (vs := [(73, .bool (decide (x5 < 0))), (72, .bool (decide (x5 < 0))), (71, .bool (decide (x5 < 0))), (70, .int .i64 x5)]) (l := []) (by kernel_rfl) trivial ?_
                by_cases hc9 : x5 < 0
                · rw [if_pos hc9] at h
                  refine ge_known (t := 73) (b := decide (x5 < 0)) (c := true) (by kernel_rfl) (decide_eq_true hc9) ?_
                  refine ge_batch [35, 36, 37, 38, 39, 40, 41, 42, 43, 44, 45] (ans := []) (vs := [(84, .bool true), (83, undef), (82, undef), (81, .bool true), (80, .bool true), (79, undef), (78, undef), (77, .bool true), (76, .bool true), (75, undef), (74, undef)]) (l := []) (by kernel_rfl) trivial ?_
                  refine ge_nil fun a hF => hK6 _ _ ?_ a hF
                  refine we_true (by kernel_rfl) ?_
                  refine we_seq fun K14 hK14 => ?_
                  refine we_region [(0, 0)] rfl ?_
                  refine ge_batch [0] (ans := []) (vs := [(14, .bool true)]) (l := []) (by kernel_rfl) trivial ?_
                  refine ge_nil fun a hF => hK14 _ _ ?_ a hF
                  obtain rfl := Option.some.inj h
                  exact we_ret fun a hF => hQ _ _ _ (Outs.out nofun ⟨rfl, (post_ret (rs := [.tmp 14]) (ans := []) (vs := [.bool true]) (l := []) rfl (by kernel_rfl) trivial ⟨rfl, hS⟩) a hF⟩)
                · rw [if_neg hc9] at h
                  refine ge_known (t := 73) (b := decide (x5 < 0)) (c := false) (by kernel_rfl) (decide_eq_false hc9) ?_
                  refine ge_batch [35, 36, 37, 38] (ans := []) (vs := [(77, .bool (decide (x5 > 1000))), (76, .bool (decide (x5 > 1000))), (75, .bool (decide (x5 > 1000))), (74, .int .i64 x5)]) (l := []) (by kernel_rfl) trivial ?_
                  by_cases hc10 : x5 > 1000
                  · rw [if_pos hc10] at h
                    refine ge_known (t := 77) (b := decide (x5 > 1000)) (c := true) (by kernel_rfl) (decide_eq_true hc10) ?_
                    refine ge_batch [39, 40, 41, 42, 43, 44, 45] (ans := []) (vs := [(84, .bool true), (83, undef), (82, undef), (81, .bool true), (80, .bool true), (79, undef), (78, undef)]) (l := []) (by kernel_rfl) trivial ?_
                    refine ge_nil fun a hF => hK6 _ _ ?_ a hF
                    refine we_true (by kernel_rfl) ?_
                    refine we_seq fun K15 hK15 => ?_
                    refine we_region [(0, 0)] rfl ?_
                    refine ge_batch [0] (ans := []) (vs := [(14, .bool true)]) (l := []) (by kernel_rfl) trivial ?_
                    refine ge_nil fun a hF => hK15 _ _ ?_ a hF
                    obtain rfl := Option.some.inj h
                    exact we_ret fun a hF => hQ _ _ _ (Outs.out nofun ⟨rfl, (post_ret (rs := [.tmp 14]) (ans := []) (vs := [.bool true]) (l := []) rfl (by kernel_rfl) trivial ⟨rfl, hS⟩) a hF⟩)
                  · rw [if_neg hc10] at h
                    refine ge_known (t := 77) (b := decide (x5 > 1000)) (c := false) (by kernel_rfl) (decide_eq_false hc10) ?_
                    refine ge_batch [39, 40, 41, 42] (ans := []) (vs := [(81, .bool (decide (x6 < 0))), (80, .bool (decide (x6 < 0))), (79, .bool (decide (x6 < 0))), (78, .int .i64 x6)]) (l := []) (by kernel_rfl) trivial ?_
                    by_cases hc11 : x6 < 0
                    · rw [if_pos hc11] at h
                      refine ge_known (t := 81) (b := decide (x6 < 0)) (c := true) (by kernel_rfl) (decide_eq_true hc11) ?_
                      refine ge_batch [43, 44, 45] (ans := []) (vs := [(84, .bool true), (83, undef), (82, undef)]) (l := []) (by kernel_rfl) trivial ?_
                      refine ge_nil fun a hF => hK6 _ _ ?_ a hF
                      refine we_true (by kernel_rfl) ?_
                      refine we_seq fun K16 hK16 => ?_
                      refine we_region [(0, 0)] rfl ?_
                      refine ge_batch [0] (ans := []) (vs := [(14, .bool true)]) (l := []) (by kernel_rfl) trivial ?_
                      refine ge_nil fun a hF => hK16 _ _ ?_ a hF
                      obtain rfl := Option.some.inj h
                      exact we_ret fun a hF => hQ _ _ _ (Outs.out nofun ⟨rfl, (post_ret (rs := [.tmp 14]) (ans := []) (vs := [.bool true]) (l := []) rfl (by kernel_rfl) trivial ⟨rfl, hS⟩) a hF⟩)
                    · rw [if_neg hc11] at h
                      refine ge_known (t := 81) (b := decide (x6 < 0)) (c := false) (by kernel_rfl) (decide_eq_false hc11) ?_
                      refine ge_batch [43, 44, 45] (ans := []) (vs := [(84, .bool (decide (x6 > 20))), (83, .bool (decide (x6 > 20))), (82, .int .i64 x6)]) (l := []) (by kernel_rfl) trivial ?_
                      refine ge_nil fun a hF => hK6 _ _ ?_ a hF
                      by_cases hc12 : x6 > 20
                      · rw [if_pos hc12] at h
                        refine we_known (t := 84) (b := decide (x6 > 20)) (v := true) (by kernel_rfl) (decide_eq_true hc12) ?_
                        refine we_true (by kernel_rfl) ?_
                        refine we_seq fun K17 hK17 => ?_
                        refine we_region [(0, 0)] rfl ?_
                        refine ge_batch [0] (ans := []) (vs := [(14, .bool true)]) (l := []) (by kernel_rfl) trivial ?_
                        refine ge_nil fun a hF => hK17 _ _ ?_ a hF
                        obtain rfl := Option.some.inj h
                        exact we_ret fun a hF => hQ _ _ _ (Outs.out nofun ⟨rfl, (post_ret (rs := [.tmp 14]) (ans := []) (vs := [.bool true]) (l := []) rfl (by kernel_rfl) trivial ⟨rfl, hS⟩) a hF⟩)
                      · rw [if_neg hc12] at h
                        refine we_known (t := 84) (b := decide (x6 > 20)) (v := false) (by kernel_rfl) (decide_eq_false hc12) ?_
                        refine we_false (by kernel_rfl) ?_
                        obtain rfl := Option.some.inj h
                        exact we_skip fun a hF => hQ _ _ _ (Outs.again ⟨hS, hF.weaken ⟨by kernel_rfl, by kernel_rfl, by kernel_rfl, by kernel_rfl, by kernel_rfl, by kernel_rfl, by kernel_rfl, by kernel_rfl, trivial⟩⟩)
abbrev ClockClose.A1 (K : Nat) (w0 : World) (l0 : List Int) (A0 : Option Addr) (c0 : Nat) (x1 : Int) (l2 : List (List Int)) (hd2 : List Hdr) (A2 : Option Addr) (c2 : Nat) (x3 : Int) (l4 : List Int) (A4 : Option Addr) (c4 : Nat) (x5 : Int) (x6 : Int) (hR0 : RdL w0 A0 l0) (hL0 : l0.length ≤ c0) (hR2 : RdL w0 A2 hd2) (hL2 : l2.length ≤ c2) (hN2 : NestL w0 hd2 l2) (hR4 : RdL w0 A4 l4) (hL4 : l4.length ≤ c4) (r1 : Bool) (hc1 : r1 = true) (hc13 : l0.length ≤ 17592186044416) (b1 : Nat) (Z1 : Option Addr) (cz1 : Nat) : (Nat × (List Int)) → Act → World → Prop := fun (s : Nat × (List Int)) a w => St w0 w [Own.blk b1 (.cells #[(.slice Z1 s.2.length cz1)] 26 (0, 0)), Own.of (.slice Z1 s.2.length cz1) 3 s.2] ∧ Frm 231 a [(1, .int .i64 x1), (2, .slice A2 l2.length c2), (3, .int .i64 x3), (4, .slice A4 l4.length c4), (5, .int .i64 x5), (6, .int .i64 x6), (15, .int .i64 (l0.length : Int)), (16, .func (.func 19) #[] #[]), (17, .func (.func 20) #[] #[]), (18, .pointer (some ⟨b1, 0, none⟩)), (87, .slice A0 l0.length c0), (88, .int .i64 (l0.length : Int)), (89, .int .i64 (s.1 : Int))]
abbrev ClockClose.B1 (K : Nat) (w0 : World) (l0 : List Int) (A0 : Option Addr) (c0 : Nat) (x1 : Int) (l2 : List (List Int)) (hd2 : List Hdr) (A2 : Option Addr) (c2 : Nat) (x3 : Int) (l4 : List Int) (A4 : Option Addr) (c4 : Nat) (x5 : Int) (x6 : Int) (hR0 : RdL w0 A0 l0) (hL0 : l0.length ≤ c0) (hR2 : RdL w0 A2 hd2) (hL2 : l2.length ≤ c2) (hN2 : NestL w0 hd2 l2) (hR4 : RdL w0 A4 l4) (hL4 : l4.length ≤ c4) (r1 : Bool) (hc1 : r1 = true) (hc13 : l0.length ≤ 17592186044416) (b1 : Nat) (Z1 : Option Addr) (cz1 : Nat) : ((List Int) ⊕ Bool) → Exit → Act → World → Prop := Exits 0 (fun (s : (List Int)) a w => St w0 w [Own.blk b1 (.cells #[(.slice Z1 s.length cz1)] 26 (0, 0)), Own.of (.slice Z1 s.length cz1) 3 s] ∧ Frm 231 a [(1, .int .i64 x1), (2, .slice A2 l2.length c2), (3, .int .i64 x3), (4, .slice A4 l4.length c4), (5, .int .i64 x5), (6, .int .i64 x6), (15, .int .i64 (l0.length : Int)), (16, .func (.func 19) #[] #[]), (17, .func (.func 20) #[] #[]), (18, .pointer (some ⟨b1, 0, none⟩))]) (Rets Try.prog Try.f5 (ClockClose.Post w0))
theorem ClockClose_r1 (K : Nat) (w0 : World) (l0 : List Int) (A0 : Option Addr) (c0 : Nat) (x1 : Int) (l2 : List (List Int)) (hd2 : List Hdr) (A2 : Option Addr) (c2 : Nat) (x3 : Int) (l4 : List Int) (A4 : Option Addr) (c4 : Nat) (x5 : Int) (x6 : Int) (hR0 : RdL w0 A0 l0) (hL0 : l0.length ≤ c0) (hR2 : RdL w0 A2 hd2) (hL2 : l2.length ≤ c2) (hN2 : NestL w0 hd2 l2) (hR4 : RdL w0 A4 l4) (hL4 : l4.length ≤ c4) (r1 : Bool) (hc1 : r1 = true) (hc13 : l0.length ≤ 17592186044416) (b1 : Nat) (Z1 : Option Addr) (cz1 : Nat) (s : Nat × (List Int)) (o : (Nat × (List Int)) ⊕ ((List Int) ⊕ Bool)) (h : ClockClose.r1 l0 s = some o) (a : Act) (w : World) (hA : ClockClose.A1 K w0 l0 A0 c0 x1 l2 hd2 A2 c2 x3 l4 A4 c4 x5 x6 hR0 hL0 hR2 hL2 hN2 hR4 hL4 r1 hc1 hc13 b1 Z1 cz1 s a w) (Q : Exit → Act → World → Prop) (hQ : ∀ x a w, Outs (ClockClose.A1 K w0 l0 A0 c0 x1 l2 hd2 A2 c2 x3 l4 A4 c4 x5 x6 hR0 hL0 hR2 hL2 hN2 hR4 hL4 r1 hc1 hc13 b1 Z1 cz1) (ClockClose.B1 K w0 l0 A0 c0 x1 l2 hd2 A2 c2 x3 l4 A4 c4 x5 x6 hR0 hL0 hR2 hL2 hN2 hR4 hL4 r1 hc1 hc13 b1 Z1 cz1) o x a w → Q x a w) : (subF Try.f5 [1, 1, 1, 1, 1, 1, 1, 0, 1, 0, 0]).wp Try.prog Q a w := by
  obtain ⟨i1, m1⟩ := s
  obtain ⟨hS, hF⟩ := hA
  replace hS : St w0 w [Own.blk b1 (.cells #[(.slice Z1 m1.length cz1)] 26 (0, 0)), Own.of (.slice Z1 m1.length cz1) 3 m1] := hS
  simp only [ClockClose.r1] at h
  refine (?_ : WE Try.prog 231 (subF Try.f5 [1, 1, 1, 1, 1, 1, 1, 0, 1, 0, 0]) Q [(1, .int .i64 x1), (2, .slice A2 l2.length c2), (3, .int .i64 x3), (4, .slice A4 l4.length c4), (5, .int .i64 x5), (6, .int .i64 x6), (15, .int .i64 (l0.length : Int)), (16, .func (.func 19) #[] #[]), (17, .func (.func 20) #[] #[]), (18, .pointer (some ⟨b1, 0, none⟩)), (87, .slice A0 l0.length c0), (88, .int .i64 (l0.length : Int)), (89, .int .i64 (i1 : Int))] w) a hF
  clear hF a
  refine we_seq fun K23 hK23 => ?_
  refine we_region [(0, 0)] rfl ?_
  refine ge_batch [0] (ans := []) (vs := [(90, .bool (decide ((i1 : Int) < (l0.length : Int))))]) (l := []) (by kernel_rfl) trivial ?_
  refine ge_nil fun a hF => hK23 _ _ ?_ a hF
  refine we_seq fun K24 hK24 => ?_
  by_cases hc14 : (i1 : Int) < (l0.length : Int)
  · rw [if_pos hc14] at h
    refine we_known (t := 90) (b := decide ((i1 : Int) < (l0.length : Int))) (v := true) (by kernel_rfl) (decide_eq_true hc14) ?_
    refine we_true (by kernel_rfl) ?_
    refine we_skip fun a hF => hK24 _ _ ?_ a hF
    refine we_seq fun K25 hK25 => ?_
    refine we_block ?_
    refine we_seq fun K26 hK26 => ?_
    refine we_region [(0, 0), (1, 0), (2, 0), (3, 0), (4, 0)] rfl ?_
    refine ge_batch [0] (ans := []) (vs := [(91, .int .i64 (i1 : Int))]) (l := []) (by kernel_rfl) trivial ?_
    rcases hx2 : l0[i1]? with _ | e1
    · rw [hx2] at h; cases h
    rw [hx2] at h
    simp only [] at h
    refine ge_index (d := 92) (ty := 0) (t := 26) (el := 3) (sz := 1) (m := l0.length) (c := c0) (x := (.tmp 87)) (y := (.tmp 89)) (A := A0) (k' := .i64) (j := (i1 : Int)) (jn := i1) (b0 := blkOf A0) (o0 := offOf A0) (by kernel_rfl) (by kernel_rfl) (by kernel_rfl) (by kernel_rfl) (by kernel_rfl) ((hS.rd hR0).eqSome (pos_of_get hx2)) rfl (lt_of_get hx2) ?_
    refine ge_batch [2, 3, 4] (ans := [.val (.int .i64 e1)]) (vs := [(20, .int .i64 e1), (19, .int .i64 (i1 : Int)), (93, .int .i64 e1)]) (l := [.loaded ⟨blkOf A0, offOf A0 + i1 * 1, none⟩ (.int .i64 e1)]) (by kernel_rfl) ⟨RdL.cell (j := 0) (hS.rd hR0) hx2 rfl, trivial⟩ ?_
    refine ge_nil fun a hF => hK26 _ _ ?_ a hF
    refine we_region [(0, 0), (1, 0), (2, 0), (3, 0), (4, 0), (5, 2)] rfl ?_
    refine ge_batch [0, 1, 2] (ans := [.val ((.slice Z1 m1.length cz1))]) (vs := [(96, .int .i64 e1), (95, .int .i64 (i1 : Int)), (94, (.slice Z1 m1.length cz1))]) (l := [.loaded ⟨b1, 0, none⟩ ((.slice Z1 m1.length cz1))]) (by kernel_rfl) ⟨hS.cell 0 rfl rfl, trivial⟩ ?_
    refine ge_div (d := 97) (ty := 3) (op := .rem) (x := (.tmp 96)) (y := (.const (.int .i64 1000000))) (t := 3) (t2 := 3) (k := .i64) (p := e1) (q := 1000000) (v := .int .i64 (Int.tmod e1 1000000)) (by kernel_rfl) (by kernel_rfl) (by kernel_rfl) (by decide) rfl ?_
    rcases hx3 : m1[i1]? with _ | e2
    · rw [hx3] at h; cases h
    rw [hx3] at h
    simp only [] at h
    refine ge_index (d := 98) (ty := 0) (t := 26) (el := 3) (sz := 1) (m := m1.length) (c := cz1) (x := (.tmp 94)) (y := (.tmp 95)) (A := Z1) (k' := .i64) (j := (i1 : Int)) (jn := i1) (b0 := blkOf Z1) (o0 := offOf Z1) (by kernel_rfl) (by kernel_rfl) (by kernel_rfl) (by kernel_rfl) (by kernel_rfl) ((hS.rdAt 1 rfl).eqSome (pos_of_get hx3)) rfl (lt_of_get hx3) ?_
    have hS10 := hS.bring 1 rfl
    refine ge_seti (α := Int) (A := Z1) (nn := m1.length) (c := cz1) (t := 3) (l := m1) (x := e2) (x' := (Int.tmod e1 1000000)) (jn := i1) (j := 0) (vs := [.int .i64 (Int.tmod e1 1000000)]) (l' := [.stored ⟨blkOf Z1, offOf Z1 + i1 * 1, none⟩ (.int .i64 (Int.tmod e1 1000000))]) hS10 (by kernel_rfl) (by kernel_rfl) hx3 rfl rfl rfl fun w6 hS11 => ?_
    have hS12 : St w0 w6 [Own.of (.slice Z1 m1.length cz1) 3 (m1.set i1 (Int.tmod e1 1000000)), Own.blk b1 (.cells #[(.slice Z1 m1.length cz1)] 26 (0, 0))] := hS11
    have hE1 : m1.length = (m1.set i1 (Int.tmod e1 1000000)).length := hS12.lenAt 0 rfl
    have hS13 : St w0 w6 [Own.of (.slice Z1 (m1.set i1 (Int.tmod e1 1000000)).length cz1) 3 (m1.set i1 (Int.tmod e1 1000000)), Own.blk b1 (.cells #[(.slice Z1 (m1.set i1 (Int.tmod e1 1000000)).length cz1)] 26 (0, 0))] := by rw [← hE1]; exact hS12
    refine ge_same (t := 94) (v := (.slice Z1 m1.length cz1)) (v' := (.slice Z1 (m1.set i1 (Int.tmod e1 1000000)).length cz1)) (by kernel_rfl) (by rw [← hE1]) ?_
    refine ge_nil fun a hF => hK25 _ _ ?_ a hF
    refine we_region [(0, 0), (1, 0)] rfl ?_
    refine ge_addn (d := 99) (ty := 3) (x := (.tmp 89)) (y := (.const (.int .i64 1))) (t := 3) (t2 := 3) (k := .i64) (m := i1) (by kernel_rfl) (by kernel_rfl) (by kernel_rfl) (by have h0 := hR0.small; omega) ?_
    refine ge_batch [1] (ans := []) (vs := [(89, .int .i64 ((i1 + 1 : Nat) : Int))]) (l := []) (by kernel_rfl) trivial ?_
    have hS14 := hS13.bring 1 rfl
    obtain rfl := Option.some.inj h
    exact ge_nil fun a hF => hQ _ _ _ (Outs.again ⟨hS14, hF.weaken ⟨by kernel_rfl, by kernel_rfl, by kernel_rfl, by kernel_rfl, by kernel_rfl, by kernel_rfl, by kernel_rfl, by kernel_rfl, by kernel_rfl, by kernel_rfl, by kernel_rfl, by kernel_rfl, by kernel_rfl, trivial⟩⟩)
  · rw [if_neg hc14] at h
    refine we_known (t := 90) (b := decide ((i1 : Int) < (l0.length : Int))) (v := false) (by kernel_rfl) (decide_eq_false hc14) ?_
    refine we_false (by kernel_rfl) ?_
    have hS15 := hS.bring 1 rfl
    have hS16 := hS15.bring 1 rfl
    obtain rfl := Option.some.inj h
    exact we_exit fun a hF => hQ _ _ _ (Outs.out nofun (Exits.here ⟨hS16, hF.weaken ⟨by kernel_rfl, by kernel_rfl, by kernel_rfl, by kernel_rfl, by kernel_rfl, by kernel_rfl, by kernel_rfl, by kernel_rfl, by kernel_rfl, by kernel_rfl, trivial⟩⟩))
abbrev ClockClose.A4 (K : Nat) (w0 : World) (l0 : List Int) (A0 : Option Addr) (c0 : Nat) (x1 : Int) (l2 : List (List Int)) (hd2 : List Hdr) (A2 : Option Addr) (c2 : Nat) (x3 : Int) (l4 : List Int) (A4 : Option Addr) (c4 : Nat) (x5 : Int) (x6 : Int) (hR0 : RdL w0 A0 l0) (hL0 : l0.length ≤ c0) (hR2 : RdL w0 A2 hd2) (hL2 : l2.length ≤ c2) (hN2 : NestL w0 hd2 l2) (hR4 : RdL w0 A4 l4) (hL4 : l4.length ≤ c4) (r1 : Bool) (hc1 : r1 = true) (hc13 : l0.length ≤ 17592186044416) (b1 : Nat) (Z1 : Option Addr) (cz1 : Nat) (m3 : List Int) (b2 : Nat) (r2 : Int) (z1 : Int) (m4 : List Int) (hc15 : z1 < x6) (m5 : List (List Int)) (xr1 : Rows) (m6 : List Int) (i2 : Nat) (hc16 : (i2 : Int) < (l0.length : Int)) (Z2 : Option Addr) (cz2 : Nat) : ((List Int) × Nat) → Act → World → Prop := fun (s : (List Int) × Nat) a w => ∃ (v4 : Value), St w0 w [Own.blk b2 (.cells #[.int .i64 (IntKind.i64.wrap ((l0.length : Int) - x1))] 3 (0, 0)), Own.blk b1 (.cells #[(.slice Z1 m4.length cz1)] 26 (0, 0)), Own.nest xr1 26 3 m5, Own.of (.slice Z2 m6.length cz2) 3 m6, Own.of v4 3 s.1, Own.of (.slice Z1 m4.length cz1) 3 m4] ∧ Frm 231 a [(1, .int .i64 x1), (2, .slice A2 l2.length c2), (3, .int .i64 x3), (4, .slice A4 l4.length c4), (5, .int .i64 x5), (15, .int .i64 (l0.length : Int)), (16, .func (.func 19) #[] #[]), (17, .func (.func 20) #[] #[]), (18, .pointer (some ⟨b1, 0, none⟩)), (21, .pointer (some ⟨b2, 0, none⟩)), (22, .func (.func 21) #[] #[.pointer (some ⟨b1, 0, none⟩), .pointer (some ⟨b2, 0, none⟩)]), (23, .int .i64 (gmax r2 (IntKind.i64.wrap ((IntKind.i64.wrap ((IntKind.i64.wrap (4 * x3)) + (IntKind.i64.wrap (4 * x5)))) + 1)))), (24, .int .i64 z1), (25, (Rows.val xr1)), (26, (.slice Z2 m6.length cz2)), (27, .int .i64 (i2 : Int)), (28, v4), (113, .int .i64 x6), (114, .int .i64 z1), (117, .int .i64 (l0.length : Int)), (118, .int .i64 (i2 : Int)), (121, .int .i64 (l0.length : Int)), (122, .int .i64 (s.2 : Int))]
abbrev ClockClose.B4 (K : Nat) (w0 : World) (l0 : List Int) (A0 : Option Addr) (c0 : Nat) (x1 : Int) (l2 : List (List Int)) (hd2 : List Hdr) (A2 : Option Addr) (c2 : Nat) (x3 : Int) (l4 : List Int) (A4 : Option Addr) (c4 : Nat) (x5 : Int) (x6 : Int) (hR0 : RdL w0 A0 l0) (hL0 : l0.length ≤ c0) (hR2 : RdL w0 A2 hd2) (hL2 : l2.length ≤ c2) (hN2 : NestL w0 hd2 l2) (hR4 : RdL w0 A4 l4) (hL4 : l4.length ≤ c4) (r1 : Bool) (hc1 : r1 = true) (hc13 : l0.length ≤ 17592186044416) (b1 : Nat) (Z1 : Option Addr) (cz1 : Nat) (m3 : List Int) (b2 : Nat) (r2 : Int) (z1 : Int) (m4 : List Int) (hc15 : z1 < x6) (m5 : List (List Int)) (xr1 : Rows) (m6 : List Int) (i2 : Nat) (hc16 : (i2 : Int) < (l0.length : Int)) (Z2 : Option Addr) (cz2 : Nat) : ((List Int) ⊕ Bool) → Exit → Act → World → Prop := Exits 6 (fun (s : (List Int)) a w => ∃ (v5 : Value), St w0 w [Own.blk b2 (.cells #[.int .i64 (IntKind.i64.wrap ((l0.length : Int) - x1))] 3 (0, 0)), Own.blk b1 (.cells #[(.slice Z1 m4.length cz1)] 26 (0, 0)), Own.nest xr1 26 3 m5, Own.of (.slice Z2 m6.length cz2) 3 m6, Own.of v5 3 s, Own.of (.slice Z1 m4.length cz1) 3 m4] ∧ Frm 231 a [(1, .int .i64 x1), (2, .slice A2 l2.length c2), (3, .int .i64 x3), (4, .slice A4 l4.length c4), (5, .int .i64 x5), (15, .int .i64 (l0.length : Int)), (16, .func (.func 19) #[] #[]), (17, .func (.func 20) #[] #[]), (18, .pointer (some ⟨b1, 0, none⟩)), (21, .pointer (some ⟨b2, 0, none⟩)), (22, .func (.func 21) #[] #[.pointer (some ⟨b1, 0, none⟩), .pointer (some ⟨b2, 0, none⟩)]), (23, .int .i64 (gmax r2 (IntKind.i64.wrap ((IntKind.i64.wrap ((IntKind.i64.wrap (4 * x3)) + (IntKind.i64.wrap (4 * x5)))) + 1)))), (24, .int .i64 z1), (25, (Rows.val xr1)), (26, (.slice Z2 m6.length cz2)), (27, .int .i64 (i2 : Int)), (28, v5), (113, .int .i64 x6), (114, .int .i64 z1), (117, .int .i64 (l0.length : Int)), (118, .int .i64 (i2 : Int))]) (Rets Try.prog Try.f5 (ClockClose.Post w0))
theorem ClockClose_r4 (K : Nat) (w0 : World) (l0 : List Int) (A0 : Option Addr) (c0 : Nat) (x1 : Int) (l2 : List (List Int)) (hd2 : List Hdr) (A2 : Option Addr) (c2 : Nat) (x3 : Int) (l4 : List Int) (A4 : Option Addr) (c4 : Nat) (x5 : Int) (x6 : Int) (hR0 : RdL w0 A0 l0) (hL0 : l0.length ≤ c0) (hR2 : RdL w0 A2 hd2) (hL2 : l2.length ≤ c2) (hN2 : NestL w0 hd2 l2) (hR4 : RdL w0 A4 l4) (hL4 : l4.length ≤ c4) (r1 : Bool) (hc1 : r1 = true) (hc13 : l0.length ≤ 17592186044416) (b1 : Nat) (Z1 : Option Addr) (cz1 : Nat) (m3 : List Int) (b2 : Nat) (r2 : Int) (z1 : Int) (m4 : List Int) (hc15 : z1 < x6) (m5 : List (List Int)) (xr1 : Rows) (m6 : List Int) (i2 : Nat) (hc16 : (i2 : Int) < (l0.length : Int)) (Z2 : Option Addr) (cz2 : Nat) (s : (List Int) × Nat) (o : ((List Int) × Nat) ⊕ ((List Int) ⊕ Bool)) (h : ClockClose.r4 l0 x1 l2 x3 z1 m4 i2 s = some o) (a : Act) (w : World) (hA : ClockClose.A4 K w0 l0 A0 c0 x1 l2 hd2 A2 c2 x3 l4 A4 c4 x5 x6 hR0 hL0 hR2 hL2 hN2 hR4 hL4 r1 hc1 hc13 b1 Z1 cz1 m3 b2 r2 z1 m4 hc15 m5 xr1 m6 i2 hc16 Z2 cz2 s a w) (Q : Exit → Act → World → Prop) (hQ : ∀ x a w, Outs (ClockClose.A4 K w0 l0 A0 c0 x1 l2 hd2 A2 c2 x3 l4 A4 c4 x5 x6 hR0 hL0 hR2 hL2 hN2 hR4 hL4 r1 hc1 hc13 b1 Z1 cz1 m3 b2 r2 z1 m4 hc15 m5 xr1 m6 i2 hc16 Z2 cz2) (ClockClose.B4 K w0 l0 A0 c0 x1 l2 hd2 A2 c2 x3 l4 A4 c4 x5 x6 hR0 hL0 hR2 hL2 hN2 hR4 hL4 r1 hc1 hc13 b1 Z1 cz1 m3 b2 r2 z1 m4 hc15 m5 xr1 m6 i2 hc16 Z2 cz2) o x a w → Q x a w) : (subF Try.f5 [1, 1, 1, 1, 1, 1, 1, 1, 1, 1, 1, 0, 1, 0, 0, 1, 1, 0, 0, 1, 1, 1, 0, 1, 0, 0, 1, 1, 0, 0, 1, 1, 0, 1, 0, 0]).wp Try.prog Q a w := by
  obtain ⟨m9, i3⟩ := s
  obtain ⟨v4, hS, hF⟩ := hA
  replace hS : St w0 w [Own.blk b2 (.cells #[.int .i64 (IntKind.i64.wrap ((l0.length : Int) - x1))] 3 (0, 0)), Own.blk b1 (.cells #[(.slice Z1 m4.length cz1)] 26 (0, 0)), Own.nest xr1 26 3 m5, Own.of (.slice Z2 m6.length cz2) 3 m6, Own.of v4 3 m9, Own.of (.slice Z1 m4.length cz1) 3 m4] := hS
  simp only [ClockClose.r4] at h
  refine (?_ : WE Try.prog 231 (subF Try.f5 [1, 1, 1, 1, 1, 1, 1, 1, 1, 1, 1, 0, 1, 0, 0, 1, 1, 0, 0, 1, 1, 1, 0, 1, 0, 0, 1, 1, 0, 0, 1, 1, 0, 1, 0, 0]) Q [(1, .int .i64 x1), (2, .slice A2 l2.length c2), (3, .int .i64 x3), (4, .slice A4 l4.length c4), (5, .int .i64 x5), (15, .int .i64 (l0.length : Int)), (16, .func (.func 19) #[] #[]), (17, .func (.func 20) #[] #[]), (18, .pointer (some ⟨b1, 0, none⟩)), (21, .pointer (some ⟨b2, 0, none⟩)), (22, .func (.func 21) #[] #[.pointer (some ⟨b1, 0, none⟩), .pointer (some ⟨b2, 0, none⟩)]), (23, .int .i64 (gmax r2 (IntKind.i64.wrap ((IntKind.i64.wrap ((IntKind.i64.wrap (4 * x3)) + (IntKind.i64.wrap (4 * x5)))) + 1)))), (24, .int .i64 z1), (25, (Rows.val xr1)), (26, (.slice Z2 m6.length cz2)), (27, .int .i64 (i2 : Int)), (28, v4), (113, .int .i64 x6), (114, .int .i64 z1), (117, .int .i64 (l0.length : Int)), (118, .int .i64 (i2 : Int)), (121, .int .i64 (l0.length : Int)), (122, .int .i64 (i3 : Int))] w) a hF
  clear hF a
  refine we_seq fun K47 hK47 => ?_
  refine we_region [(0, 0)] rfl ?_
  refine ge_batch [0] (ans := []) (vs := [(123, .bool (decide ((i3 : Int) < (l0.length : Int))))]) (l := []) (by kernel_rfl) trivial ?_
  refine ge_nil fun a hF => hK47 _ _ ?_ a hF
  refine we_seq fun K48 hK48 => ?_
  by_cases hc17 : (i3 : Int) < (l0.length : Int)
  · rw [if_pos hc17] at h
    refine we_known (t := 123) (b := decide ((i3 : Int) < (l0.length : Int))) (v := true) (by kernel_rfl) (decide_eq_true hc17) ?_
    refine we_true (by kernel_rfl) ?_
    refine we_skip fun a hF => hK48 _ _ ?_ a hF
    refine we_seq fun K49 hK49 => ?_
    refine we_block ?_
    refine we_seq fun K50 hK50 => ?_
    refine we_region [(0, 0), (1, 0)] rfl ?_
    refine ge_batch [0, 1] (ans := []) (vs := [(29, .int .i64 (i3 : Int)), (124, .int .i64 (i3 : Int))]) (l := []) (by kernel_rfl) trivial ?_
    refine ge_nil fun a hF => hK50 _ _ ?_ a hF
    refine we_seq fun K51 hK51 => ?_
    refine we_region [(0, 0)] rfl ?_
    refine ge_batch [0] (ans := []) (vs := [(30, .int .i64 0)]) (l := []) (by kernel_rfl) trivial ?_
    refine ge_nil fun a hF => hK51 _ _ ?_ a hF
    refine we_seq fun K52 hK52 => ?_
    refine we_seq fun K53 hK53 => ?_
    refine we_region [(0, 0), (1, 0), (2, 0)] rfl ?_
    refine ge_batch [0, 1, 2] (ans := []) (vs := [(127, .bool (decide ((l2.length : Int) > 0))), (126, .int .i64 (l2.length : Int)), (125, .slice A2 l2.length c2)]) (l := []) (by kernel_rfl) trivial ?_
    refine ge_nil fun a hF => hK53 _ _ ?_ a hF
    by_cases hc18 : (l2.length : Int) > 0
    · rw [if_pos hc18] at h
      refine we_known (t := 127) (b := decide ((l2.length : Int) > 0)) (v := true) (by kernel_rfl) (decide_eq_true hc18) ?_
      refine we_true (by kernel_rfl) ?_
      refine we_region [(0, 0), (1, 0), (2, 0), (3, 0), (4, 0), (5, 0), (6, 0), (7, 0), (8, 0), (9, 0), (10, 0), (11, 0), (12, 0), (13, 1), (14, 0)] rfl ?_
      refine ge_batch [0, 1, 2, 3, 4, 5, 6, 7, 8] (ans := []) (vs := [(136, .int .i64 (l2.length : Int)), (135, .slice A2 l2.length c2), (134, .int .i64 (IntKind.i64.wrap ((IntKind.i64.wrap (z1 * (l0.length : Int))) + (i2 : Int)))), (133, .int .i64 (i2 : Int)), (132, .int .i64 (IntKind.i64.wrap (z1 * (l0.length : Int)))), (131, .int .i64 (l0.length : Int)), (130, .int .i64 z1), (129, .slice A2 l2.length c2), (128, .func (.func 20) #[] #[])]) (l := []) (by kernel_rfl) trivial ?_
      by_cases hc19 : (l2.length : Int) = 0
      · rw [if_pos hc19] at h
        cases h
      · rw [if_neg hc19] at h
        refine ge_div (d := 137) (ty := 3) (op := .rem) (x := (.tmp 134)) (y := (.tmp 136)) (t := 3) (t2 := 3) (k := .i64) (p := (IntKind.i64.wrap ((IntKind.i64.wrap (z1 * (l0.length : Int))) + (i2 : Int)))) (q := (l2.length : Int)) (v := .int .i64 (Int.tmod (IntKind.i64.wrap ((IntKind.i64.wrap (z1 * (l0.length : Int))) + (i2 : Int))) (l2.length : Int))) (by kernel_rfl) (by kernel_rfl) (by kernel_rfl) hc19 rfl ?_
        by_cases hc20 : 0 ≤ (Int.tmod (IntKind.i64.wrap ((IntKind.i64.wrap (z1 * (l0.length : Int))) + (i2 : Int))) (l2.length : Int))
        · rw [if_pos hc20] at h
          rcases hx5 : l2[(Int.tmod (IntKind.i64.wrap ((IntKind.i64.wrap (z1 * (l0.length : Int))) + (i2 : Int))) (l2.length : Int)).toNat]? with _ | e3
          · rw [hx5] at h; cases h
          rw [hx5] at h
          simp only [] at h
          obtain ⟨An1, cn1, hxn1, hRn1, hLn1⟩ := hN2.get hx5
          refine ge_index (d := 138) (ty := 0) (t := 51) (el := 26) (sz := 1) (m := l2.length) (c := c2) (x := (.tmp 129)) (y := (.tmp 137)) (A := A2) (k' := .i64) (j := (Int.tmod (IntKind.i64.wrap ((IntKind.i64.wrap (z1 * (l0.length : Int))) + (i2 : Int))) (l2.length : Int))) (jn := ((Int.tmod (IntKind.i64.wrap ((IntKind.i64.wrap (z1 * (l0.length : Int))) + (i2 : Int))) (l2.length : Int)).toNat)) (b0 := blkOf A2) (o0 := offOf A2) (by kernel_rfl) (by kernel_rfl) (by kernel_rfl) (by kernel_rfl) (by kernel_rfl) ((hS.rd hR2).eqSome (pos_of_get hxn1)) (Int.toNat_of_nonneg hc20).symm (lt_of_get hx5) ?_
          rcases hq5 : ClockClose_2.f e3 (i3 : Int) with _ | r3
          · rw [hq5] at h; cases h
          rw [hq5] at h
          simp only [] at h
          refine ge_batch [11, 12] (ans := [.val (.slice An1 e3.length cn1)]) (vs := [(140, .int .i64 (i3 : Int)), (139, .slice An1 e3.length cn1)]) (l := [.loaded ⟨blkOf A2, offOf A2 + ((Int.tmod (IntKind.i64.wrap ((IntKind.i64.wrap (z1 * (l0.length : Int))) + (i2 : Int))) (l2.length : Int)).toNat) * 1, none⟩ (.slice An1 e3.length cn1)]) (by kernel_rfl) ⟨RdL.cell (j := 0) (hS.rd hR2) hxn1 rfl, trivial⟩ ?_
          refine ge_call (d := some 141) (f := 20) (args := #[.slice An1 e3.length cn1, .int .i64 (i3 : Int)]) (by kernel_rfl) (ClockClose_2_ok e3 An1 cn1 (i3 : Int) _ (hS.rd hRn1) hLn1 _ hq5) ?_
          rintro _ w11 ⟨rfl, hS40⟩
          refine ⟨_, rfl, hS40.below, ?_⟩
          have hS41 := hS.call hS40
          refine ge_batch [14] (ans := []) (vs := [(30, .int .i64 r3)]) (l := []) (by kernel_rfl) trivial ?_
          refine ge_nil fun a hF => hK52 _ _ ?_ a hF
          refine we_seq fun K54 hK54 => ?_
          refine we_region [(0, 0), (1, 0), (2, 0)] rfl ?_
          refine ge_batch [0, 1, 2] (ans := [.val (.int .i64 (IntKind.i64.wrap ((l0.length : Int) - x1)))]) (vs := [(144, .bool (decide ((i3 : Int) < (IntKind.i64.wrap ((l0.length : Int) - x1))))), (143, .int .i64 (IntKind.i64.wrap ((l0.length : Int) - x1))), (142, .int .i64 (i3 : Int))]) (l := [.loaded ⟨b2, 0, none⟩ (.int .i64 (IntKind.i64.wrap ((l0.length : Int) - x1)))]) (by kernel_rfl) ⟨hS41.cell 0 rfl rfl, trivial⟩ ?_
          refine ge_nil fun a hF => hK54 _ _ ?_ a hF
          by_cases hc21 : (i3 : Int) < (IntKind.i64.wrap ((l0.length : Int) - x1))
          · rw [if_pos hc21] at h
            refine we_known (t := 144) (b := decide ((i3 : Int) < (IntKind.i64.wrap ((l0.length : Int) - x1)))) (v := true) (by kernel_rfl) (decide_eq_true hc21) ?_
            refine we_true (by kernel_rfl) ?_
            refine we_orders3 (by kernel_rfl) [(1, [⟨b1, 0, none⟩], [3, 4, 9, 10, 11], []), (4, [⟨blkOf Z1, offOf Z1 + i3 * 1, none⟩], [9, 10, 11], [])] (.vals [0] (.vals [1] (.vals [2] (.vals [3] (.vals [4] (.vals [5] (.vals [6] (.vals [7] (.alt 8 1 (.vals [9] (.alt 10 1 (.alt 11 2 (.vals [12] .fin) .nomore) .nomore)) .nomore))))))))) (by kernel_rfl) (by kernel_rfl) ?_
            have hS42 := hS41.drew
            refine go3_batch [0] (ans := []) (vs := [(145, v4)]) (l := []) (by kernel_rfl) trivial mem_nil3 ?_
            refine go3_batch [1] (ans := [.val ((.slice Z1 m4.length cz1))]) (vs := [(146, (.slice Z1 m4.length cz1))]) (l := [.loaded ⟨b1, 0, none⟩ ((.slice Z1 m4.length cz1))]) (by kernel_rfl) ⟨hS42.cell 1 rfl rfl, trivial⟩ (mem_one3 (by kernel_rfl)) ?_
            refine go3_batch [2] (ans := []) (vs := [(147, .int .i64 (i3 : Int))]) (l := []) (by kernel_rfl) trivial mem_nil3 ?_
            rcases hx6 : m4[i3]? with _ | e4
            · rw [hx6] at h; cases h
            rw [hx6] at h
            simp only [] at h
            refine go3_index (d := 148) (ty := 0) (t := 26) (el := 3) (sz := 1) (m := m4.length) (c := cz1) (x := (.tmp 146)) (y := (.tmp 147)) (A := Z1) (k' := .i64) (j := (i3 : Int)) (jn := i3) (b0 := blkOf Z1) (o0 := offOf Z1) (by kernel_rfl) (by kernel_rfl) (by kernel_rfl) (by kernel_rfl) (by kernel_rfl) ((hS42.rdAt 5 rfl).eqSome (pos_of_get hx6)) rfl (lt_of_get hx6) ?_
            refine go3_batch [4] (ans := [.val (.int .i64 e4)]) (vs := [(149, .int .i64 e4)]) (l := [.loaded ⟨blkOf Z1, offOf Z1 + i3 * 1, none⟩ (.int .i64 e4)]) (by kernel_rfl) ⟨RdL.cell (j := 0) (hS42.rdAt 5 rfl) hx6 rfl, trivial⟩ (mem_one3 (by kernel_rfl)) ?_
            refine go3_batch [5, 6, 7] (ans := []) (vs := [(152, .int .i64 x3), (151, .int .i64 r3), (150, .func (.func 19) #[] #[])]) (l := []) (by kernel_rfl) trivial mem_nil3 ?_
            refine go_alt3 (fun KK hKK => ?_) ?_
            · refine ge_one2 ?_
              rcases hq6 : ClockClose_1.f r3 x3 with _ | r4
              · rw [hq6] at h; cases h
              rw [hq6] at h
              simp only [] at h
              refine ge_call (d := some 153) (f := 19) (args := #[.int .i64 r3, .int .i64 x3]) (by kernel_rfl) (ClockClose_1_ok r3 x3 _ _ hq6) ?_
              rintro _ w12 ⟨rfl, hS43⟩
              refine ⟨_, rfl, hS43.below, ?_⟩
              have hS44 := hS42.call hS43
              refine ge_nil fun a hF => hKK _ _ (RS.of2 (l := [.loaded ⟨b1, 0, none⟩ ((.slice Z1 m4.length cz1)), .loaded ⟨blkOf Z1, offOf Z1 + i3 * 1, none⟩ (.int .i64 e4)]) (by kernel_rfl) ⟨hS42.cell 1 rfl rfl, RdL.cell (j := 0) (hS42.rdAt 5 rfl) hx6 rfl, trivial⟩ ⟨hS44.cell 1 rfl rfl, RdL.cell (j := 0) (hS44.rdAt 5 rfl) hx6 rfl, trivial⟩) ?_ a hF
              refine go3_batch [9] (ans := []) (vs := [(154, .int .i64 (IntKind.i64.wrap (e4 + r4)))]) (l := []) (by kernel_rfl) trivial mem_nil3 ?_
              refine go_alt3 (fun KK hKK => ?_) ?_
              · refine ge_one2 ?_
                refine ge_new (d := some 155) (o := .cells #[.int .i64 (IntKind.i64.wrap (e4 + r4))] 3) (v := fun b => .slice (some ⟨b, 0, none⟩) 1 1) hS44 (fun b => by kernel_rfl) fun b3 w13 hx7 hS45 => ?_
                refine ge_nil fun a hF => hKK _ _ (RS.of2 (l := []) (by kernel_rfl) trivial trivial) ?_ a hF
                refine go_alt3 (fun KK hKK => ?_) ?_
                · have hS46 := hS45.bring 5 rfl
                  by_cases hc22 : m9.length < 17592186044416
                  · rw [if_pos hc22] at h
                    refine ge_append (α := Int) (m := 0) (d := 156) (t := 26) (el := 3) (bytes := 8) (c1 := 1) (b1 := b3) (x := (.tmp 145)) (y := (.tmp 155)) (ty := 26) (v := v4) (z := .int .i64 0) (l := m9) (u := (IntKind.i64.wrap (e4 + r4))) (by kernel_rfl) (by kernel_rfl) (by kernel_rfl) (by kernel_rfl) (by kernel_rfl) rfl hS46 rfl (by omega) fun v6 w14 hS47 => ?_
                    refine ge_nil fun a hF => hKK _ _ (RS.of2 (l := []) (by kernel_rfl) trivial trivial) ?_ a hF
                    refine go3_batch [12] (ans := []) (vs := [(28, v6)]) (l := []) (by kernel_rfl) trivial mem_nil3 ?_
                    refine go_fin3 fun a hF => hK49 _ _ ?_ a hF
                    refine we_region [(0, 0), (1, 0)] rfl ?_
                    refine ge_addn (d := 162) (ty := 3) (x := (.tmp 122)) (y := (.const (.int .i64 1))) (t := 3) (t2 := 3) (k := .i64) (m := i3) (by kernel_rfl) (by kernel_rfl) (by kernel_rfl) (by have h0 := hR0.small; omega) ?_
                    refine ge_batch [1] (ans := []) (vs := [(122, .int .i64 ((i3 + 1 : Nat) : Int))]) (l := []) (by kernel_rfl) trivial ?_
                    have hS48 := hS47.bring 5 rfl
                    have hS49 := hS48.bring 1 rfl
                    have hS50 := hS49.bring 5 rfl
                    have hS51 := hS50.bring 5 rfl
                    have hS52 := hS51.bring 5 rfl
                    have hS53 := hS52.bring 5 rfl
                    obtain rfl := Option.some.inj h
                    exact ge_nil fun a hF => hQ _ _ _ (Outs.again ⟨v6, hS53, hF.weaken ⟨by kernel_rfl, by kernel_rfl, by kernel_rfl, by kernel_rfl, by kernel_rfl, by kernel_rfl, by kernel_rfl, by kernel_rfl, by kernel_rfl, by kernel_rfl, by kernel_rfl, by kernel_rfl, by kernel_rfl, by kernel_rfl, by kernel_rfl, by kernel_rfl, by kernel_rfl, by kernel_rfl, by kernel_rfl, by kernel_rfl, by kernel_rfl, by kernel_rfl, by kernel_rfl, trivial⟩⟩)
                  · rw [if_neg hc22] at h
                    cases h
                exact go_nomore3
              exact go_nomore3
            exact go_nomore3
          · rw [if_neg hc21] at h
            refine we_known (t := 144) (b := decide ((i3 : Int) < (IntKind.i64.wrap ((l0.length : Int) - x1)))) (v := false) (by kernel_rfl) (decide_eq_false hc21) ?_
            refine we_false (by kernel_rfl) ?_
            refine we_region [(0, 0), (1, 0), (2, 0), (3, 1), (4, 2), (5, 0)] rfl ?_
            refine ge_batch [0, 1] (ans := []) (vs := [(158, .int .i64 r3), (157, v4)]) (l := []) (by kernel_rfl) trivial ?_
            refine ge_div (d := 159) (ty := 3) (op := .rem) (x := (.tmp 158)) (y := (.const (.int .i64 549755813888))) (t := 3) (t2 := 3) (k := .i64) (p := r3) (q := 549755813888) (v := .int .i64 (Int.tmod r3 549755813888)) (by kernel_rfl) (by kernel_rfl) (by kernel_rfl) (by decide) rfl ?_
            refine ge_new (d := some 160) (o := .cells #[.int .i64 (Int.tmod r3 549755813888)] 3) (v := fun b => .slice (some ⟨b, 0, none⟩) 1 1) hS41 (fun b => by kernel_rfl) fun b4 w15 hx8 hS54 => ?_
            have hS55 := hS54.bring 5 rfl
            by_cases hc23 : m9.length < 17592186044416
            · rw [if_pos hc23] at h
              refine ge_append (α := Int) (m := 0) (d := 161) (t := 26) (el := 3) (bytes := 8) (c1 := 1) (b1 := b4) (x := (.tmp 157)) (y := (.tmp 160)) (ty := 26) (v := v4) (z := .int .i64 0) (l := m9) (u := (Int.tmod r3 549755813888)) (by kernel_rfl) (by kernel_rfl) (by kernel_rfl) (by kernel_rfl) (by kernel_rfl) rfl hS55 rfl (by omega) fun v7 w16 hS56 => ?_
              refine ge_batch [5] (ans := []) (vs := [(28, v7)]) (l := []) (by kernel_rfl) trivial ?_
              refine ge_nil fun a hF => hK49 _ _ ?_ a hF
              refine we_region [(0, 0), (1, 0)] rfl ?_
              refine ge_addn (d := 162) (ty := 3) (x := (.tmp 122)) (y := (.const (.int .i64 1))) (t := 3) (t2 := 3) (k := .i64) (m := i3) (by kernel_rfl) (by kernel_rfl) (by kernel_rfl) (by have h0 := hR0.small; omega) ?_
              refine ge_batch [1] (ans := []) (vs := [(122, .int .i64 ((i3 + 1 : Nat) : Int))]) (l := []) (by kernel_rfl) trivial ?_
              have hS57 := hS56.bring 5 rfl
              have hS58 := hS57.bring 1 rfl
              have hS59 := hS58.bring 5 rfl
              have hS60 := hS59.bring 5 rfl
              have hS61 := hS60.bring 5 rfl
              have hS62 := hS61.bring 5 rfl
              obtain rfl := Option.some.inj h
              exact ge_nil fun a hF => hQ _ _ _ (Outs.again ⟨v7, hS62, hF.weaken ⟨by kernel_rfl, by kernel_rfl, by kernel_rfl, by kernel_rfl, by kernel_rfl, by kernel_rfl, by kernel_rfl, by kernel_rfl, by kernel_rfl, by kernel_rfl, by kernel_rfl, by kernel_rfl, by kernel_rfl, by kernel_rfl, by kernel_rfl, by kernel_rfl, by kernel_rfl, by kernel_rfl, by kernel_rfl, by kernel_rfl, by kernel_rfl, by kernel_rfl, by kernel_rfl, trivial⟩⟩)
            · rw [if_neg hc23] at h
              cases h
        · rw [if_neg hc20] at h
          cases h
    · rw [if_neg hc18] at h
      refine we_known (t := 127) (b := decide ((l2.length : Int) > 0)) (v := false) (by kernel_rfl) (decide_eq_false hc18) ?_
      refine we_false (by kernel_rfl) ?_
      refine we_skip fun a hF => hK52 _ _ ?_ a hF
      refine we_seq fun K55 hK55 => ?_
      refine we_region [(0, 0), (1, 0), (2, 0)] rfl ?_
      refine ge_batch [0, 1, 2] (ans := [.val (.int .i64 (IntKind.i64.wrap ((l0.length : Int) - x1)))]) (vs := [(144, .bool (decide ((i3 : Int) < (IntKind.i64.wrap ((l0.length : Int) - x1))))), (143, .int .i64 (IntKind.i64.wrap ((l0.length : Int) - x1))), (142, .int .i64 (i3 : Int))]) (l := [.loaded ⟨b2, 0, none⟩ (.int .i64 (IntKind.i64.wrap ((l0.length : Int) - x1)))]) (by kernel_rfl) ⟨hS.cell 0 rfl rfl, trivial⟩ ?_
      refine ge_nil fun a hF => hK55 _ _ ?_ a hF
      by_cases hc24 : (i3 : Int) < (IntKind.i64.wrap ((l0.length : Int) - x1))
      · rw [if_pos hc24] at h
        refine we_known (t := 144) (b := decide ((i3 : Int) < (IntKind.i64.wrap ((l0.length : Int) - x1)))) (v := true) (by kernel_rfl) (decide_eq_true hc24) ?_
        refine we_true (by kernel_rfl) ?_
        refine we_orders3 (by kernel_rfl) [(1, [⟨b1, 0, none⟩], [3, 4, 9, 10, 11], []), (4, [⟨blkOf Z1, offOf Z1 + i3 * 1, none⟩], [9, 10, 11], [])] (.vals [0] (.vals [1] (.vals [2] (.vals [3] (.vals [4] (.vals [5] (.vals [6] (.vals [7] (.alt 8 1 (.vals [9] (.alt 10 1 (.alt 11 2 (.vals [12] .fin) .nomore) .nomore)) .nomore))))))))) (by kernel_rfl) (by kernel_rfl) ?_
        have hS63 := hS.drew
        refine go3_batch [0] (ans := []) (vs := [(145, v4)]) (l := []) (by kernel_rfl) trivial mem_nil3 ?_
        refine go3_batch [1] (ans := [.val ((.slice Z1 m4.length cz1))]) (vs := [(146, (.slice Z1 m4.length cz1))]) (l := [.loaded ⟨b1, 0, none⟩ ((.slice Z1 m4.length cz1))]) (by kernel_rfl) ⟨hS63.cell 1 rfl rfl, trivial⟩ (mem_one3 (by kernel_rfl)) ?_
        refine go3_batch [2] (ans := []) (vs := [(147, .int .i64 (i3 : Int))]) (l := []) (by kernel_rfl) trivial mem_nil3 ?_
        rcases hx9 : m4[i3]? with _ | e5
        · rw [hx9] at h; cases h
        rw [hx9] at h
        simp only [] at h
        refine go3_index (d := 148) (ty := 0) (t := 26) (el := 3) (sz := 1) (m := m4.length) (c := cz1) (x := (.tmp 146)) (y := (.tmp 147)) (A := Z1) (k' := .i64) (j := (i3 : Int)) (jn := i3) (b0 := blkOf Z1) (o0 := offOf Z1) (by kernel_rfl) (by kernel_rfl) (by kernel_rfl) (by kernel_rfl) (by kernel_rfl) ((hS63.rdAt 5 rfl).eqSome (pos_of_get hx9)) rfl (lt_of_get hx9) ?_
        refine go3_batch [4] (ans := [.val (.int .i64 e5)]) (vs := [(149, .int .i64 e5)]) (l := [.loaded ⟨blkOf Z1, offOf Z1 + i3 * 1, none⟩ (.int .i64 e5)]) (by kernel_rfl) ⟨RdL.cell (j := 0) (hS63.rdAt 5 rfl) hx9 rfl, trivial⟩ (mem_one3 (by kernel_rfl)) ?_
        refine go3_batch [5, 6, 7] (ans := []) (vs := [(152, .int .i64 x3), (151, .int .i64 0), (150, .func (.func 19) #[] #[])]) (l := []) (by kernel_rfl) trivial mem_nil3 ?_
        refine go_alt3 (fun KK hKK => ?_) ?_
        · refine ge_one2 ?_
          rcases hq7 : ClockClose_1.f 0 x3 with _ | r5
          · rw [hq7] at h; cases h
          rw [hq7] at h
          simp only [] at h
          refine ge_call (d := some 153) (f := 19) (args := #[.int .i64 0, .int .i64 x3]) (by kernel_rfl) (ClockClose_1_ok 0 x3 _ _ hq7) ?_
          rintro _ w17 ⟨rfl, hS64⟩
          refine ⟨_, rfl, hS64.below, ?_⟩
          have hS65 := hS63.call hS64
          refine ge_nil fun a hF => hKK _ _ (RS.of2 (l := [.loaded ⟨b1, 0, none⟩ ((.slice Z1 m4.length cz1)), .loaded ⟨blkOf Z1, offOf Z1 + i3 * 1, none⟩ (.int .i64 e5)]) (by kernel_rfl) ⟨hS63.cell 1 rfl rfl, RdL.cell (j := 0) (hS63.rdAt 5 rfl) hx9 rfl, trivial⟩ ⟨hS65.cell 1 rfl rfl, RdL.cell (j := 0) (hS65.rdAt 5 rfl) hx9 rfl, trivial⟩) ?_ a hF
          refine go3_batch [9] (ans := []) (vs := [(154, .int .i64 (IntKind.i64.wrap (e5 + r5)))]) (l := []) (by kernel_rfl) trivial mem_nil3 ?_
          refine go_alt3 (fun KK hKK => ?_) ?_
          · refine ge_one2 ?_
            refine ge_new (d := some 155) (o := .cells #[.int .i64 (IntKind.i64.wrap (e5 + r5))] 3) (v := fun b => .slice (some ⟨b, 0, none⟩) 1 1) hS65 (fun b => by kernel_rfl) fun b5 w18 hx10 hS66 => ?_
            refine ge_nil fun a hF => hKK _ _ (RS.of2 (l := []) (by kernel_rfl) trivial trivial) ?_ a hF
            refine go_alt3 (fun KK hKK => ?_) ?_
            · have hS67 := hS66.bring 5 rfl
              by_cases hc25 : m9.length < 17592186044416
              · rw [if_pos hc25] at h
                refine ge_append (α := Int) (m := 0) (d := 156) (t := 26) (el := 3) (bytes := 8) (c1 := 1) (b1 := b5) (x := (.tmp 145)) (y := (.tmp 155)) (ty := 26) (v := v4) (z := .int .i64 0) (l := m9) (u := (IntKind.i64.wrap (e5 + r5))) (by kernel_rfl) (by kernel_rfl) (by kernel_rfl) (by kernel_rfl) (by kernel_rfl) rfl hS67 rfl (by omega) fun v8 w19 hS68 => ?_
                refine ge_nil fun a hF => hKK _ _ (RS.of2 (l := []) (by kernel_rfl) trivial trivial) ?_ a hF
                refine go3_batch [12] (ans := []) (vs := [(28, v8)]) (l := []) (by kernel_rfl) trivial mem_nil3 ?_
                refine go_fin3 fun a hF => hK49 _ _ ?_ a hF
                refine we_region [(0, 0), (1, 0)] rfl ?_
                refine ge_addn (d := 162) (ty := 3) (x := (.tmp 122)) (y := (.const (.int .i64 1))) (t := 3) (t2 := 3) (k := .i64) (m := i3) (by kernel_rfl) (by kernel_rfl) (by kernel_rfl) (by have h0 := hR0.small; omega) ?_
                refine ge_batch [1] (ans := []) (vs := [(122, .int .i64 ((i3 + 1 : Nat) : Int))]) (l := []) (by kernel_rfl) trivial ?_
                have hS69 := hS68.bring 5 rfl
                have hS70 := hS69.bring 1 rfl
                have hS71 := hS70.bring 5 rfl
                have hS72 := hS71.bring 5 rfl
                have hS73 := hS72.bring 5 rfl
                have hS74 := hS73.bring 5 rfl
                obtain rfl := Option.some.inj h
                exact ge_nil fun a hF => hQ _ _ _ (Outs.again ⟨v8, hS74, hF.weaken ⟨by kernel_rfl, by kernel_rfl, by kernel_rfl, by kernel_rfl, by kernel_rfl, by kernel_rfl, by kernel_rfl, by kernel_rfl, by kernel_rfl, by kernel_rfl, by kernel_rfl, by kernel_rfl, by kernel_rfl, by kernel_rfl, by kernel_rfl, by kernel_rfl, by kernel_rfl, by kernel_rfl, by kernel_rfl, by kernel_rfl, by kernel_rfl, by kernel_rfl, by kernel_rfl, trivial⟩⟩)
              · rw [if_neg hc25] at h
                cases h
            exact go_nomore3
          exact go_nomore3
        exact go_nomore3
      · rw [if_neg hc24] at h
        refine we_known (t := 144) (b := decide ((i3 : Int) < (IntKind.i64.wrap ((l0.length : Int) - x1)))) (v := false) (by kernel_rfl) (decide_eq_false hc24) ?_
        refine we_false (by kernel_rfl) ?_
        refine we_region [(0, 0), (1, 0), (2, 0), (3, 1), (4, 2), (5, 0)] rfl ?_
        refine ge_batch [0, 1] (ans := []) (vs := [(158, .int .i64 0), (157, v4)]) (l := []) (by kernel_rfl) trivial ?_
        refine ge_div (d := 159) (ty := 3) (op := .rem) (x := (.tmp 158)) (y := (.const (.int .i64 549755813888))) (t := 3) (t2 := 3) (k := .i64) (p := 0) (q := 549755813888) (v := .int .i64 (Int.tmod 0 549755813888)) (by kernel_rfl) (by kernel_rfl) (by kernel_rfl) (by decide) rfl ?_
        refine ge_new (d := some 160) (o := .cells #[.int .i64 (Int.tmod 0 549755813888)] 3) (v := fun b => .slice (some ⟨b, 0, none⟩) 1 1) hS (fun b => by kernel_rfl) fun b6 w20 hx11 hS75 => ?_
        have hS76 := hS75.bring 5 rfl
        by_cases hc26 : m9.length < 17592186044416
        · rw [if_pos hc26] at h
          refine ge_append (α := Int) (m := 0) (d := 161) (t := 26) (el := 3) (bytes := 8) (c1 := 1) (b1 := b6) (x := (.tmp 157)) (y := (.tmp 160)) (ty := 26) (v := v4) (z := .int .i64 0) (l := m9) (u := (Int.tmod 0 549755813888)) (by kernel_rfl) (by kernel_rfl) (by kernel_rfl) (by kernel_rfl) (by kernel_rfl) rfl hS76 rfl (by omega) fun v9 w21 hS77 => ?_
          refine ge_batch [5] (ans := []) (vs := [(28, v9)]) (l := []) (by kernel_rfl) trivial ?_
          refine ge_nil fun a hF => hK49 _ _ ?_ a hF
          refine we_region [(0, 0), (1, 0)] rfl ?_
          refine ge_addn (d := 162) (ty := 3) (x := (.tmp 122)) (y := (.const (.int .i64 1))) (t := 3) (t2 := 3) (k := .i64) (m := i3) (by kernel_rfl) (by kernel_rfl) (by kernel_rfl) (by have h0 := hR0.small; omega) ?_
          refine ge_batch [1] (ans := []) (vs := [(122, .int .i64 ((i3 + 1 : Nat) : Int))]) (l := []) (by kernel_rfl) trivial ?_
          have hS78 := hS77.bring 5 rfl
          have hS79 := hS78.bring 1 rfl
          have hS80 := hS79.bring 5 rfl
          have hS81 := hS80.bring 5 rfl
          have hS82 := hS81.bring 5 rfl
          have hS83 := hS82.bring 5 rfl
          obtain rfl := Option.some.inj h
          exact ge_nil fun a hF => hQ _ _ _ (Outs.again ⟨v9, hS83, hF.weaken ⟨by kernel_rfl, by kernel_rfl, by kernel_rfl, by kernel_rfl, by kernel_rfl, by kernel_rfl, by kernel_rfl, by kernel_rfl, by kernel_rfl, by kernel_rfl, by kernel_rfl, by kernel_rfl, by kernel_rfl, by kernel_rfl, by kernel_rfl, by kernel_rfl, by kernel_rfl, by kernel_rfl, by kernel_rfl, by kernel_rfl, by kernel_rfl, by kernel_rfl, by kernel_rfl, trivial⟩⟩)
        · rw [if_neg hc26] at h
          cases h
  · rw [if_neg hc17] at h
    refine we_known (t := 123) (b := decide ((i3 : Int) < (l0.length : Int))) (v := false) (by kernel_rfl) (decide_eq_false hc17) ?_
    refine we_false (by kernel_rfl) ?_
    have hS84 := hS.bring 5 rfl
    have hS85 := hS84.bring 5 rfl
    have hS86 := hS85.bring 5 rfl
    have hS87 := hS86.bring 5 rfl
    have hS88 := hS87.bring 5 rfl
    have hS89 := hS88.bring 5 rfl
    obtain rfl := Option.some.inj h
    exact we_exit fun a hF => hQ _ _ _ (Outs.out nofun (Exits.here ⟨v4, hS89, hF.weaken ⟨by kernel_rfl, by kernel_rfl, by kernel_rfl, by kernel_rfl, by kernel_rfl, by kernel_rfl, by kernel_rfl, by kernel_rfl, by kernel_rfl, by kernel_rfl, by kernel_rfl, by kernel_rfl, by kernel_rfl, by kernel_rfl, by kernel_rfl, by kernel_rfl, by kernel_rfl, by kernel_rfl, by kernel_rfl, by kernel_rfl, by kernel_rfl, trivial⟩⟩))
abbrev ClockClose.A3 (K : Nat) (w0 : World) (l0 : List Int) (A0 : Option Addr) (c0 : Nat) (x1 : Int) (l2 : List (List Int)) (hd2 : List Hdr) (A2 : Option Addr) (c2 : Nat) (x3 : Int) (l4 : List Int) (A4 : Option Addr) (c4 : Nat) (x5 : Int) (x6 : Int) (hR0 : RdL w0 A0 l0) (hL0 : l0.length ≤ c0) (hR2 : RdL w0 A2 hd2) (hL2 : l2.length ≤ c2) (hN2 : NestL w0 hd2 l2) (hR4 : RdL w0 A4 l4) (hL4 : l4.length ≤ c4) (r1 : Bool) (hc1 : r1 = true) (hc13 : l0.length ≤ 17592186044416) (b1 : Nat) (Z1 : Option Addr) (cz1 : Nat) (m3 : List Int) (b2 : Nat) (r2 : Int) (z1 : Int) (m4 : List Int) (hc15 : z1 < x6) : ((List (List Int)) × (List Int) × Nat) → Act → World → Prop := fun (s : (List (List Int)) × (List Int) × Nat) a w => ∃ (xr1 : Rows) (v2 : Value), St w0 w [Own.blk b2 (.cells #[.int .i64 (IntKind.i64.wrap ((l0.length : Int) - x1))] 3 (0, 0)), Own.blk b1 (.cells #[(.slice Z1 m4.length cz1)] 26 (0, 0)), Own.nest xr1 26 3 s.1, Own.of v2 3 s.2.1, Own.of (.slice Z1 m4.length cz1) 3 m4] ∧ Frm 231 a [(1, .int .i64 x1), (2, .slice A2 l2.length c2), (3, .int .i64 x3), (4, .slice A4 l4.length c4), (5, .int .i64 x5), (15, .int .i64 (l0.length : Int)), (16, .func (.func 19) #[] #[]), (17, .func (.func 20) #[] #[]), (18, .pointer (some ⟨b1, 0, none⟩)), (21, .pointer (some ⟨b2, 0, none⟩)), (22, .func (.func 21) #[] #[.pointer (some ⟨b1, 0, none⟩), .pointer (some ⟨b2, 0, none⟩)]), (23, .int .i64 (gmax r2 (IntKind.i64.wrap ((IntKind.i64.wrap ((IntKind.i64.wrap (4 * x3)) + (IntKind.i64.wrap (4 * x5)))) + 1)))), (24, .int .i64 z1), (25, (Rows.val xr1)), (26, v2), (113, .int .i64 x6), (114, .int .i64 z1), (117, .int .i64 (l0.length : Int)), (118, .int .i64 (s.2.2 : Int))]
abbrev ClockClose.B3 (K : Nat) (w0 : World) (l0 : List Int) (A0 : Option Addr) (c0 : Nat) (x1 : Int) (l2 : List (List Int)) (hd2 : List Hdr) (A2 : Option Addr) (c2 : Nat) (x3 : Int) (l4 : List Int) (A4 : Option Addr) (c4 : Nat) (x5 : Int) (x6 : Int) (hR0 : RdL w0 A0 l0) (hL0 : l0.length ≤ c0) (hR2 : RdL w0 A2 hd2) (hL2 : l2.length ≤ c2) (hN2 : NestL w0 hd2 l2) (hR4 : RdL w0 A4 l4) (hL4 : l4.length ≤ c4) (r1 : Bool) (hc1 : r1 = true) (hc13 : l0.length ≤ 17592186044416) (b1 : Nat) (Z1 : Option Addr) (cz1 : Nat) (m3 : List Int) (b2 : Nat) (r2 : Int) (z1 : Int) (m4 : List Int) (hc15 : z1 < x6) : (((List (List Int)) × (List Int)) ⊕ Bool) → Exit → Act → World → Prop := Exits 4 (fun (s : (List (List Int)) × (List Int)) a w => ∃ (xr2 : Rows) (v3 : Value), St w0 w [Own.blk b2 (.cells #[.int .i64 (IntKind.i64.wrap ((l0.length : Int) - x1))] 3 (0, 0)), Own.blk b1 (.cells #[(.slice Z1 m4.length cz1)] 26 (0, 0)), Own.nest xr2 26 3 s.1, Own.of v3 3 s.2, Own.of (.slice Z1 m4.length cz1) 3 m4] ∧ Frm 231 a [(1, .int .i64 x1), (2, .slice A2 l2.length c2), (3, .int .i64 x3), (4, .slice A4 l4.length c4), (5, .int .i64 x5), (15, .int .i64 (l0.length : Int)), (16, .func (.func 19) #[] #[]), (17, .func (.func 20) #[] #[]), (18, .pointer (some ⟨b1, 0, none⟩)), (21, .pointer (some ⟨b2, 0, none⟩)), (22, .func (.func 21) #[] #[.pointer (some ⟨b1, 0, none⟩), .pointer (some ⟨b2, 0, none⟩)]), (23, .int .i64 (gmax r2 (IntKind.i64.wrap ((IntKind.i64.wrap ((IntKind.i64.wrap (4 * x3)) + (IntKind.i64.wrap (4 * x5)))) + 1)))), (25, (Rows.val xr2)), (26, v3), (113, .int .i64 x6), (114, .int .i64 z1)]) (Rets Try.prog Try.f5 (ClockClose.Post w0))
theorem ClockClose_r3 (K : Nat) (w0 : World) (l0 : List Int) (A0 : Option Addr) (c0 : Nat) (x1 : Int) (l2 : List (List Int)) (hd2 : List Hdr) (A2 : Option Addr) (c2 : Nat) (x3 : Int) (l4 : List Int) (A4 : Option Addr) (c4 : Nat) (x5 : Int) (x6 : Int) (hR0 : RdL w0 A0 l0) (hL0 : l0.length ≤ c0) (hR2 : RdL w0 A2 hd2) (hL2 : l2.length ≤ c2) (hN2 : NestL w0 hd2 l2) (hR4 : RdL w0 A4 l4) (hL4 : l4.length ≤ c4) (r1 : Bool) (hc1 : r1 = true) (hc13 : l0.length ≤ 17592186044416) (b1 : Nat) (Z1 : Option Addr) (cz1 : Nat) (m3 : List Int) (b2 : Nat) (r2 : Int) (z1 : Int) (m4 : List Int) (hc15 : z1 < x6) (s : (List (List Int)) × (List Int) × Nat) (o : ((List (List Int)) × (List Int) × Nat) ⊕ (((List (List Int)) × (List Int)) ⊕ Bool)) (h : ClockClose.r3 K l0 x1 l2 x3 l4 x5 z1 m4 s = some o) (a : Act) (w : World) (hA : ClockClose.A3 K w0 l0 A0 c0 x1 l2 hd2 A2 c2 x3 l4 A4 c4 x5 x6 hR0 hL0 hR2 hL2 hN2 hR4 hL4 r1 hc1 hc13 b1 Z1 cz1 m3 b2 r2 z1 m4 hc15 s a w) (Q : Exit → Act → World → Prop) (hQ : ∀ x a w, Outs (ClockClose.A3 K w0 l0 A0 c0 x1 l2 hd2 A2 c2 x3 l4 A4 c4 x5 x6 hR0 hL0 hR2 hL2 hN2 hR4 hL4 r1 hc1 hc13 b1 Z1 cz1 m3 b2 r2 z1 m4 hc15) (ClockClose.B3 K w0 l0 A0 c0 x1 l2 hd2 A2 c2 x3 l4 A4 c4 x5 x6 hR0 hL0 hR2 hL2 hN2 hR4 hL4 r1 hc1 hc13 b1 Z1 cz1 m3 b2 r2 z1 m4 hc15) o x a w → Q x a w) : (subF Try.f5 [1, 1, 1, 1, 1, 1, 1, 1, 1, 1, 1, 0, 1, 0, 0, 1, 1, 0, 0, 1, 1, 1, 0, 1, 0, 0]).wp Try.prog Q a w := by
  obtain ⟨m5, m6, i2⟩ := s
  obtain ⟨xr1, v2, hS, hF⟩ := hA
  replace hS : St w0 w [Own.blk b2 (.cells #[.int .i64 (IntKind.i64.wrap ((l0.length : Int) - x1))] 3 (0, 0)), Own.blk b1 (.cells #[(.slice Z1 m4.length cz1)] 26 (0, 0)), Own.nest xr1 26 3 m5, Own.of v2 3 m6, Own.of (.slice Z1 m4.length cz1) 3 m4] := hS
  simp only [ClockClose.r3] at h
  refine (?_ : WE Try.prog 231 (subF Try.f5 [1, 1, 1, 1, 1, 1, 1, 1, 1, 1, 1, 0, 1, 0, 0, 1, 1, 0, 0, 1, 1, 1, 0, 1, 0, 0]) Q [(1, .int .i64 x1), (2, .slice A2 l2.length c2), (3, .int .i64 x3), (4, .slice A4 l4.length c4), (5, .int .i64 x5), (15, .int .i64 (l0.length : Int)), (16, .func (.func 19) #[] #[]), (17, .func (.func 20) #[] #[]), (18, .pointer (some ⟨b1, 0, none⟩)), (21, .pointer (some ⟨b2, 0, none⟩)), (22, .func (.func 21) #[] #[.pointer (some ⟨b1, 0, none⟩), .pointer (some ⟨b2, 0, none⟩)]), (23, .int .i64 (gmax r2 (IntKind.i64.wrap ((IntKind.i64.wrap ((IntKind.i64.wrap (4 * x3)) + (IntKind.i64.wrap (4 * x5)))) + 1)))), (24, .int .i64 z1), (25, (Rows.val xr1)), (26, v2), (113, .int .i64 x6), (114, .int .i64 z1), (117, .int .i64 (l0.length : Int)), (118, .int .i64 (i2 : Int))] w) a hF
  clear hF a
  refine we_seq fun K40 hK40 => ?_
  refine we_region [(0, 0)] rfl ?_
  refine ge_batch [0] (ans := []) (vs := [(119, .bool (decide ((i2 : Int) < (l0.length : Int))))]) (l := []) (by kernel_rfl) trivial ?_
  refine ge_nil fun a hF => hK40 _ _ ?_ a hF
  refine we_seq fun K41 hK41 => ?_
  by_cases hc16 : (i2 : Int) < (l0.length : Int)
  · rw [if_pos hc16] at h
    refine we_known (t := 119) (b := decide ((i2 : Int) < (l0.length : Int))) (v := true) (by kernel_rfl) (decide_eq_true hc16) ?_
    refine we_true (by kernel_rfl) ?_
    refine we_skip fun a hF => hK41 _ _ ?_ a hF
    refine we_seq fun K42 hK42 => ?_
    refine we_block ?_
    refine we_seq fun K43 hK43 => ?_
    refine we_region [(0, 0), (1, 0)] rfl ?_
    refine ge_batch [0, 1] (ans := []) (vs := [(27, .int .i64 (i2 : Int)), (120, .int .i64 (i2 : Int))]) (l := []) (by kernel_rfl) trivial ?_
    refine ge_nil fun a hF => hK43 _ _ ?_ a hF
    refine we_seq fun K44 hK44 => ?_
    refine we_region [(0, 0)] rfl ?_
    refine ge_batch [0] (ans := []) (vs := [(28, .slice none 0 0)]) (l := []) (by kernel_rfl) trivial ?_
    refine ge_nil fun a hF => hK44 _ _ ?_ a hF
    refine we_seq fun K45 hK45 => ?_
    refine we_seq fun K46 hK46 => ?_
    refine we_region [(0, 0), (1, 0)] rfl ?_
    refine ge_batch [0, 1] (ans := []) (vs := [(122, .int .i64 0), (121, .int .i64 (l0.length : Int))]) (l := []) (by kernel_rfl) trivial ?_
    refine ge_nil fun a hF => hK46 _ _ ?_ a hF
    refine we_block ?_
    obtain ⟨Z2, cz2, rfl⟩ := hS.open 3 rfl
    have hS33 := hS.nil (α := Int) 3
    have hS34 := hS33.bring 5 rfl
    have hS35 := hS34.bring 1 rfl
    have hS36 := hS35.bring 5 rfl
    have hS37 := hS36.bring 5 rfl
    have hS38 := hS37.bring 5 rfl
    have hS39 := hS38.bring 5 rfl
    rcases hq8 : iter (ClockClose.r4 l0 x1 l2 x3 z1 m4 i2) K (([] : List Int), 0) with _ | (m11 | rr1)
    · rw [hq8] at h; cases h
    · rw [hq8] at h
      simp only [] at h
      refine we_iter (A := ClockClose.A4 K w0 l0 A0 c0 x1 l2 hd2 A2 c2 x3 l4 A4 c4 x5 x6 hR0 hL0 hR2 hL2 hN2 hR4 hL4 r1 hc1 hc13 b1 Z1 cz1 m3 b2 r2 z1 m4 hc15 m5 xr1 m6 i2 hc16 Z2 cz2) (B := ClockClose.B4 K w0 l0 A0 c0 x1 l2 hd2 A2 c2 x3 l4 A4 c4 x5 x6 hR0 hL0 hR2 hL2 hN2 hR4 hL4 r1 hc1 hc13 b1 Z1 cz1 m3 b2 r2 z1 m4 hc15 m5 xr1 m6 i2 hc16 Z2 cz2) hq8 (fun a hF => ⟨(.slice none 0 0), hS39, hF.weaken ⟨by kernel_rfl, by kernel_rfl, by kernel_rfl, by kernel_rfl, by kernel_rfl, by kernel_rfl, by kernel_rfl, by kernel_rfl, by kernel_rfl, by kernel_rfl, by kernel_rfl, by kernel_rfl, by kernel_rfl, by kernel_rfl, by kernel_rfl, by kernel_rfl, by kernel_rfl, by kernel_rfl, by kernel_rfl, by kernel_rfl, by kernel_rfl, by kernel_rfl, by kernel_rfl, trivial⟩⟩) (fun s o hf a w hA Q hQ => ClockClose_r4 K w0 l0 A0 c0 x1 l2 hd2 A2 c2 x3 l4 A4 c4 x5 x6 hR0 hL0 hR2 hL2 hN2 hR4 hL4 r1 hc1 hc13 b1 Z1 cz1 m3 b2 r2 z1 m4 hc15 m5 xr1 m6 i2 hc16 Z2 cz2 s o hf a w hA Q hQ) ?_
      rintro _ a w22 _ ⟨rfl, v10, hS90, hF⟩
      replace hS90 : St w0 w22 [Own.blk b2 (.cells #[.int .i64 (IntKind.i64.wrap ((l0.length : Int) - x1))] 3 (0, 0)), Own.blk b1 (.cells #[(.slice Z1 m4.length cz1)] 26 (0, 0)), Own.nest xr1 26 3 m5, Own.of (.slice Z2 m6.length cz2) 3 m6, Own.of v10 3 m11, Own.of (.slice Z1 m4.length cz1) 3 m4] := hS90
      refine hK45 [(1, .int .i64 x1), (2, .slice A2 l2.length c2), (3, .int .i64 x3), (4, .slice A4 l4.length c4), (5, .int .i64 x5), (15, .int .i64 (l0.length : Int)), (16, .func (.func 19) #[] #[]), (17, .func (.func 20) #[] #[]), (18, .pointer (some ⟨b1, 0, none⟩)), (21, .pointer (some ⟨b2, 0, none⟩)), (22, .func (.func 21) #[] #[.pointer (some ⟨b1, 0, none⟩), .pointer (some ⟨b2, 0, none⟩)]), (23, .int .i64 (gmax r2 (IntKind.i64.wrap ((IntKind.i64.wrap ((IntKind.i64.wrap (4 * x3)) + (IntKind.i64.wrap (4 * x5)))) + 1)))), (24, .int .i64 z1), (25, (Rows.val xr1)), (26, (.slice Z2 m6.length cz2)), (27, .int .i64 (i2 : Int)), (28, v10), (113, .int .i64 x6), (114, .int .i64 z1), (117, .int .i64 (l0.length : Int)), (118, .int .i64 (i2 : Int))] w22 ?_ a hF
      refine we_seq fun K56 hK56 => ?_
      refine we_region [(0, 0), (1, 0), (2, 1), (3, 2), (4, 0)] rfl ?_
      refine ge_batch [0, 1] (ans := []) (vs := [(164, v10), (163, (Rows.val xr1))]) (l := []) (by kernel_rfl) trivial ?_
      obtain ⟨Z3, cz3, rfl⟩ := hS90.open 4 rfl
      refine ge_new (d := some 165) (o := .cells #[(.slice Z3 m11.length cz3)] 26) (v := fun b => .slice (some ⟨b, 0, none⟩) 1 1) hS90 (fun b => by kernel_rfl) fun b7 w23 hx12 hS91 => ?_
      have hS92 := hS91.bring 5 rfl
      have hS93 := hS92.bring 4 rfl
      by_cases hc27 : m5.length < 5864062014805
      · rw [if_pos hc27] at h
        refine ge_nestAdd (α := Int) (m := 0) (d := 166) (t := 51) (T := 26) (e0 := 3) (bytes := 24) (c1 := 1) (b1 := b7) (x := (.tmp 163)) (y := (.tmp 165)) (ty := 51) (X := xr1) (l := m11) (ls := m5) (A := Z3) (cc := cz3) (by kernel_rfl) (by kernel_rfl) (by kernel_rfl) (by kernel_rfl) (by kernel_rfl) hS93 rfl (by omega) fun xr3 w24 hS94 => ?_
        refine ge_batch [4] (ans := []) (vs := [(25, (Rows.val xr3))]) (l := []) (by kernel_rfl) trivial ?_
        refine ge_nil fun a hF => hK56 _ _ ?_ a hF
        refine we_region [(0, 0), (1, 0), (2, 0), (3, 0), (4, 0), (5, 0), (6, 0), (7, 0), (8, 0), (9, 1), (10, 0), (11, 1), (12, 1), (13, 2), (14, 0)] rfl ?_
        rcases hq9 : ClockClose_2.f l4 (IntKind.i64.wrap ((IntKind.i64.wrap (z1 * (l0.length : Int))) + (i2 : Int))) with _ | r6
        · rw [hq9] at h; cases h
        rw [hq9] at h
        simp only [] at h
        refine ge_batch [0, 1, 2, 3, 4, 5, 6, 7, 8] (ans := []) (vs := [(175, .int .i64 (IntKind.i64.wrap ((IntKind.i64.wrap (z1 * (l0.length : Int))) + (i2 : Int)))), (174, .int .i64 (i2 : Int)), (173, .int .i64 (IntKind.i64.wrap (z1 * (l0.length : Int)))), (172, .int .i64 (l0.length : Int)), (171, .int .i64 z1), (170, .slice A4 l4.length c4), (169, .func (.func 20) #[] #[]), (168, .func (.func 19) #[] #[]), (167, (.slice Z2 m6.length cz2))]) (l := []) (by kernel_rfl) trivial ?_
        refine ge_call (d := some 176) (f := 20) (args := #[.slice A4 l4.length c4, .int .i64 (IntKind.i64.wrap ((IntKind.i64.wrap (z1 * (l0.length : Int))) + (i2 : Int)))]) (by kernel_rfl) (ClockClose_2_ok l4 A4 c4 (IntKind.i64.wrap ((IntKind.i64.wrap (z1 * (l0.length : Int))) + (i2 : Int))) _ (hS94.rd hR4) hL4 _ hq9) ?_
        rintro _ w25 ⟨rfl, hS95⟩
        refine ⟨_, rfl, hS95.below, ?_⟩
        have hS96 := hS94.call hS95
        rcases hq10 : ClockClose_1.f r6 x5 with _ | r7
        · rw [hq10] at h; cases h
        rw [hq10] at h
        simp only [] at h
        refine ge_batch [10] (ans := []) (vs := [(177, .int .i64 x5)]) (l := []) (by kernel_rfl) trivial ?_
        refine ge_call (d := some 178) (f := 19) (args := #[.int .i64 r6, .int .i64 x5]) (by kernel_rfl) (ClockClose_1_ok r6 x5 _ _ hq10) ?_
        rintro _ w26 ⟨rfl, hS97⟩
        refine ⟨_, rfl, hS97.below, ?_⟩
        have hS98 := hS96.call hS97
        refine ge_new (d := some 179) (o := .cells #[.int .i64 r7] 3) (v := fun b => .slice (some ⟨b, 0, none⟩) 1 1) hS98 (fun b => by kernel_rfl) fun b8 w27 hx13 hS99 => ?_
        have hS100 := hS99.bring 4 rfl
        by_cases hc28 : m6.length < 17592186044416
        · rw [if_pos hc28] at h
          refine ge_append (α := Int) (m := 0) (d := 180) (t := 26) (el := 3) (bytes := 8) (c1 := 1) (b1 := b8) (x := (.tmp 167)) (y := (.tmp 179)) (ty := 26) (v := (.slice Z2 m6.length cz2)) (z := .int .i64 0) (l := m6) (u := r7) (by kernel_rfl) (by kernel_rfl) (by kernel_rfl) (by kernel_rfl) (by kernel_rfl) rfl hS100 rfl (by omega) fun v11 w28 hS101 => ?_
          refine ge_batch [14] (ans := []) (vs := [(26, v11)]) (l := []) (by kernel_rfl) trivial ?_
          refine ge_nil fun a hF => hK42 _ _ ?_ a hF
          refine we_region [(0, 0), (1, 0)] rfl ?_
          refine ge_addn (d := 181) (ty := 3) (x := (.tmp 118)) (y := (.const (.int .i64 1))) (t := 3) (t2 := 3) (k := .i64) (m := i2) (by kernel_rfl) (by kernel_rfl) (by kernel_rfl) (by have h0 := hR0.small; omega) ?_
          refine ge_batch [1] (ans := []) (vs := [(118, .int .i64 ((i2 + 1 : Nat) : Int))]) (l := []) (by kernel_rfl) trivial ?_
          have hS102 := hS101.bring 4 rfl
          have hS103 := hS102.bring 1 rfl
          have hS104 := hS103.bring 2 rfl
          have hS105 := hS104.bring 4 rfl
          have hS106 := hS105.bring 4 rfl
          obtain rfl := Option.some.inj h
          exact ge_nil fun a hF => hQ _ _ _ (Outs.again ⟨xr3, v11, hS106, hF.weaken ⟨by kernel_rfl, by kernel_rfl, by kernel_rfl, by kernel_rfl, by kernel_rfl, by kernel_rfl, by kernel_rfl, by kernel_rfl, by kernel_rfl, by kernel_rfl, by kernel_rfl, by kernel_rfl, by kernel_rfl, by kernel_rfl, by kernel_rfl, by kernel_rfl, by kernel_rfl, by kernel_rfl, by kernel_rfl, trivial⟩⟩)
        · rw [if_neg hc28] at h
          cases h
      · rw [if_neg hc27] at h
        cases h
    · rw [hq8] at h
      simp only [] at h
      refine we_iter (A := ClockClose.A4 K w0 l0 A0 c0 x1 l2 hd2 A2 c2 x3 l4 A4 c4 x5 x6 hR0 hL0 hR2 hL2 hN2 hR4 hL4 r1 hc1 hc13 b1 Z1 cz1 m3 b2 r2 z1 m4 hc15 m5 xr1 m6 i2 hc16 Z2 cz2) (B := ClockClose.B4 K w0 l0 A0 c0 x1 l2 hd2 A2 c2 x3 l4 A4 c4 x5 x6 hR0 hL0 hR2 hL2 hN2 hR4 hL4 r1 hc1 hc13 b1 Z1 cz1 m3 b2 r2 z1 m4 hc15 m5 xr1 m6 i2 hc16 Z2 cz2) hq8 (fun a hF => ⟨(.slice none 0 0), hS39, hF.weaken ⟨by kernel_rfl, by kernel_rfl, by kernel_rfl, by kernel_rfl, by kernel_rfl, by kernel_rfl, by kernel_rfl, by kernel_rfl, by kernel_rfl, by kernel_rfl, by kernel_rfl, by kernel_rfl, by kernel_rfl, by kernel_rfl, by kernel_rfl, by kernel_rfl, by kernel_rfl, by kernel_rfl, by kernel_rfl, by kernel_rfl, by kernel_rfl, by kernel_rfl, by kernel_rfl, trivial⟩⟩) (fun s o hf a w hA Q hQ => ClockClose_r4 K w0 l0 A0 c0 x1 l2 hd2 A2 c2 x3 l4 A4 c4 x5 x6 hR0 hL0 hR2 hL2 hN2 hR4 hL4 r1 hc1 hc13 b1 Z1 cz1 m3 b2 r2 z1 m4 hc15 m5 xr1 m6 i2 hc16 Z2 cz2 s o hf a w hA Q hQ) ?_
      rintro _ a w1 _ ⟨rfl, hb⟩
      obtain rfl := Option.some.inj h
      exact hQ _ _ _ (Outs.out nofun (Exits.on ⟨rfl, hb⟩))
  · rw [if_neg hc16] at h
    refine we_known (t := 119) (b := decide ((i2 : Int) < (l0.length : Int))) (v := false) (by kernel_rfl) (decide_eq_false hc16) ?_
    refine we_false (by kernel_rfl) ?_
    have hS107 := hS.bring 4 rfl
    have hS108 := hS107.bring 4 rfl
    have hS109 := hS108.bring 4 rfl
    have hS110 := hS109.bring 4 rfl
    have hS111 := hS110.bring 4 rfl
    obtain rfl := Option.some.inj h
    exact we_exit fun a hF => hQ _ _ _ (Outs.out nofun (Exits.here ⟨xr1, v2, hS111, hF.weaken ⟨by kernel_rfl, by kernel_rfl, by kernel_rfl, by kernel_rfl, by kernel_rfl, by kernel_rfl, by kernel_rfl, by kernel_rfl, by kernel_rfl, by kernel_rfl, by kernel_rfl, by kernel_rfl, by kernel_rfl, by kernel_rfl, by kernel_rfl, by kernel_rfl, trivial⟩⟩))
abbrev ClockClose.A5 (K : Nat) (w0 : World) (l0 : List Int) (A0 : Option Addr) (c0 : Nat) (x1 : Int) (l2 : List (List Int)) (hd2 : List Hdr) (A2 : Option Addr) (c2 : Nat) (x3 : Int) (l4 : List Int) (A4 : Option Addr) (c4 : Nat) (x5 : Int) (x6 : Int) (hR0 : RdL w0 A0 l0) (hL0 : l0.length ≤ c0) (hR2 : RdL w0 A2 hd2) (hL2 : l2.length ≤ c2) (hN2 : NestL w0 hd2 l2) (hR4 : RdL w0 A4 l4) (hL4 : l4.length ≤ c4) (r1 : Bool) (hc1 : r1 = true) (hc13 : l0.length ≤ 17592186044416) (b1 : Nat) (Z1 : Option Addr) (cz1 : Nat) (m3 : List Int) (b2 : Nat) (r2 : Int) (z1 : Int) (m4 : List Int) (hc15 : z1 < x6) (m12 : List (List Int)) (xr4 : Rows) (m13 : List Int) (r8 : Int) (Z4 : Option Addr) (cz4 : Nat) (r9 : (List Int) × SFault) (b9 : Nat) (Z5 : Option Addr) (cz5 : Nat) : Unit → Act → World → Prop := fun (s : Unit) a w => St w0 w [Own.blk b2 (.cells #[.int .i64 (IntKind.i64.wrap ((l0.length : Int) - x1))] 3 (0, 0)), Own.blk b1 (.cells #[(.slice Z1 m4.length cz1)] 26 (0, 0)), Own.of (.slice Z5 r9.1.length cz5) 3 r9.1, Own.of (.slice Z1 m4.length cz1) 3 m4] ∧ Frm 231 a [(1, .int .i64 x1), (2, .slice A2 l2.length c2), (3, .int .i64 x3), (4, .slice A4 l4.length c4), (5, .int .i64 x5), (15, .int .i64 (l0.length : Int)), (16, .func (.func 19) #[] #[]), (17, .func (.func 20) #[] #[]), (18, .pointer (some ⟨b1, 0, none⟩)), (21, .pointer (some ⟨b2, 0, none⟩)), (22, .func (.func 21) #[] #[.pointer (some ⟨b1, 0, none⟩), .pointer (some ⟨b2, 0, none⟩)]), (23, .int .i64 (gmax r2 (IntKind.i64.wrap ((IntKind.i64.wrap ((IntKind.i64.wrap (4 * x3)) + (IntKind.i64.wrap (4 * x5)))) + 1)))), (31, .int .i64 r8), (32, (.slice Z5 r9.1.length cz5)), (113, .int .i64 x6), (114, .int .i64 z1)]
abbrev ClockClose.B5 (K : Nat) (w0 : World) (l0 : List Int) (A0 : Option Addr) (c0 : Nat) (x1 : Int) (l2 : List (List Int)) (hd2 : List Hdr) (A2 : Option Addr) (c2 : Nat) (x3 : Int) (l4 : List Int) (A4 : Option Addr) (c4 : Nat) (x5 : Int) (x6 : Int) (hR0 : RdL w0 A0 l0) (hL0 : l0.length ≤ c0) (hR2 : RdL w0 A2 hd2) (hL2 : l2.length ≤ c2) (hN2 : NestL w0 hd2 l2) (hR4 : RdL w0 A4 l4) (hL4 : l4.length ≤ c4) (r1 : Bool) (hc1 : r1 = true) (hc13 : l0.length ≤ 17592186044416) (b1 : Nat) (Z1 : Option Addr) (cz1 : Nat) (m3 : List Int) (b2 : Nat) (r2 : Int) (z1 : Int) (m4 : List Int) (hc15 : z1 < x6) (m12 : List (List Int)) (xr4 : Rows) (m13 : List Int) (r8 : Int) (Z4 : Option Addr) (cz4 : Nat) (r9 : (List Int) × SFault) (b9 : Nat) (Z5 : Option Addr) (cz5 : Nat) : Bool → Exit → Act → World → Prop := Rets Try.prog Try.f5 (ClockClose.Post w0)
theorem ClockClose_p5 (K : Nat) (w0 : World) (l0 : List Int) (A0 : Option Addr) (c0 : Nat) (x1 : Int) (l2 : List (List Int)) (hd2 : List Hdr) (A2 : Option Addr) (c2 : Nat) (x3 : Int) (l4 : List Int) (A4 : Option Addr) (c4 : Nat) (x5 : Int) (x6 : Int) (hR0 : RdL w0 A0 l0) (hL0 : l0.length ≤ c0) (hR2 : RdL w0 A2 hd2) (hL2 : l2.length ≤ c2) (hN2 : NestL w0 hd2 l2) (hR4 : RdL w0 A4 l4) (hL4 : l4.length ≤ c4) (r1 : Bool) (hc1 : r1 = true) (hc13 : l0.length ≤ 17592186044416) (b1 : Nat) (Z1 : Option Addr) (cz1 : Nat) (m3 : List Int) (b2 : Nat) (r2 : Int) (z1 : Int) (m4 : List Int) (hc15 : z1 < x6) (m12 : List (List Int)) (xr4 : Rows) (m13 : List Int) (r8 : Int) (Z4 : Option Addr) (cz4 : Nat) (r9 : (List Int) × SFault) (b9 : Nat) (Z5 : Option Addr) (cz5 : Nat) (o : Unit ⊕ Bool) (h : ClockClose.p5 l0 r9 = some o) (w : World) (hS : St w0 w [Own.blk b9 (.cells #[.int .i64 r9.2.Code, .int .i64 r9.2.At] 31 (0, 0)), Own.of (.slice Z5 r9.1.length cz5) 3 r9.1, Own.blk b2 (.cells #[.int .i64 (IntKind.i64.wrap ((l0.length : Int) - x1))] 3 (0, 0)), Own.blk b1 (.cells #[(.slice Z1 m4.length cz1)] 26 (0, 0)), Own.nest xr4 26 3 m12, Own.of (.slice Z4 m13.length cz4) 3 m13, Own.of (.slice Z1 m4.length cz1) 3 m4]) (Q : Exit → Act → World → Prop) (hQ : ∀ x a w, Outs (ClockClose.A5 K w0 l0 A0 c0 x1 l2 hd2 A2 c2 x3 l4 A4 c4 x5 x6 hR0 hL0 hR2 hL2 hN2 hR4 hL4 r1 hc1 hc13 b1 Z1 cz1 m3 b2 r2 z1 m4 hc15 m12 xr4 m13 r8 Z4 cz4 r9 b9 Z5 cz5) (ClockClose.B5 K w0 l0 A0 c0 x1 l2 hd2 A2 c2 x3 l4 A4 c4 x5 x6 hR0 hL0 hR2 hL2 hN2 hR4 hL4 r1 hc1 hc13 b1 Z1 cz1 m3 b2 r2 z1 m4 hc15 m12 xr4 m13 r8 Z4 cz4 r9 b9 Z5 cz5) o x a w → Q x a w) : WE Try.prog 231 (subF Try.f5 [1, 1, 1, 1, 1, 1, 1, 1, 1, 1, 1, 0, 1, 0, 0, 1, 1, 0, 0, 1, 1, 1, 1, 1, 1, 0]) Q [(1, .int .i64 x1), (2, .slice A2 l2.length c2), (3, .int .i64 x3), (4, .slice A4 l4.length c4), (5, .int .i64 x5), (15, .int .i64 (l0.length : Int)), (16, .func (.func 19) #[] #[]), (17, .func (.func 20) #[] #[]), (18, .pointer (some ⟨b1, 0, none⟩)), (21, .pointer (some ⟨b2, 0, none⟩)), (22, .func (.func 21) #[] #[.pointer (some ⟨b1, 0, none⟩), .pointer (some ⟨b2, 0, none⟩)]), (23, .int .i64 (gmax r2 (IntKind.i64.wrap ((IntKind.i64.wrap ((IntKind.i64.wrap (4 * x3)) + (IntKind.i64.wrap (4 * x5)))) + 1)))), (25, (Rows.val xr4)), (26, (.slice Z4 m13.length cz4)), (31, .int .i64 r8), (32, (.slice Z5 r9.1.length cz5)), (33, .pointer (some ⟨b9, 0, none⟩)), (113, .int .i64 x6), (114, .int .i64 z1), (182, .func (.func 21) #[] #[.pointer (some ⟨b1, 0, none⟩), .pointer (some ⟨b2, 0, none⟩)]), (183, .int .i64 r8), (184, .tuple #[(.slice Z5 r9.1.length cz5), .agg #[.int .i64 r9.2.Code, .int .i64 r9.2.At]]), (185, .slice xr4.A m12.length xr4.c), (186, .int .i64 x1), (187, (.slice Z4 m13.length cz4)), (188, .tuple #[(.slice Z5 r9.1.length cz5), .agg #[.int .i64 r9.2.Code, .int .i64 r9.2.At]]), (189, (.slice Z5 r9.1.length cz5)), (190, .agg #[.int .i64 r9.2.Code, .int .i64 r9.2.At])] w := by
  simp only [ClockClose.p5] at h
  refine we_seq fun K60 hK60 => ?_
  refine we_region [(0, 0), (1, 0), (2, 0), (3, 0), (4, 0), (5, 0), (6, 0), (7, 0), (8, 0)] rfl ?_
  refine ge_batch [0, 1, 2, 3] (ans := [.val (.int .i64 r9.2.Code)]) (vs := [(194, .bool (r9.2.Code != 0)), (193, .bool (r9.2.Code != 0)), (192, .int .i64 r9.2.Code), (191, .pointer (some ⟨b9, 0, none⟩))]) (l := [.loaded ⟨b9, 0, none⟩ (.int .i64 r9.2.Code)]) (by kernel_rfl) ⟨hS.cell 0 rfl rfl, trivial⟩ ?_
  by_cases hc29 : r9.2.Code = 0
  · rw [if_pos hc29] at h
    refine ge_known (t := 194) (b := (r9.2.Code != 0)) (c := false) (by kernel_rfl) (bne_eq_false_iff_eq.2 hc29) ?_
    refine ge_batch [4, 5, 6, 7, 8] (ans := []) (vs := [(199, .bool ((r9.1.length : Int) != (l0.length : Int))), (198, .bool ((r9.1.length : Int) != (l0.length : Int))), (197, .int .i64 (l0.length : Int)), (196, .int .i64 (r9.1.length : Int)), (195, (.slice Z5 r9.1.length cz5))]) (l := []) (by kernel_rfl) trivial ?_
    refine ge_nil fun a hF => hK60 _ _ ?_ a hF
    by_cases hc30 : (r9.1.length : Int) = (l0.length : Int)
    · rw [if_pos hc30] at h
      refine we_known (t := 199) (b := ((r9.1.length : Int) != (l0.length : Int))) (v := false) (by kernel_rfl) (bne_eq_false_iff_eq.2 hc30) ?_
      refine we_false (by kernel_rfl) ?_
      have hS120 := hS.bring 6 rfl
      have hS121 := hS120.bring 2 rfl
      have hS122 := hS121.bring 4 rfl
      have hS123 := hS122.bring 4 rfl
      have hS124 := hS123.takeN 4
      obtain rfl := Option.some.inj h
      exact we_skip fun a hF => hQ _ _ _ (Outs.again ⟨hS124, hF.weaken ⟨by kernel_rfl, by kernel_rfl, by kernel_rfl, by kernel_rfl, by kernel_rfl, by kernel_rfl, by kernel_rfl, by kernel_rfl, by kernel_rfl, by kernel_rfl, by kernel_rfl, by kernel_rfl, by kernel_rfl, by kernel_rfl, by kernel_rfl, by kernel_rfl, trivial⟩⟩)
    · rw [if_neg hc30] at h
      refine we_known (t := 199) (b := ((r9.1.length : Int) != (l0.length : Int))) (v := true) (by kernel_rfl) (bne_iff_ne.2 hc30) ?_
      refine we_true (by kernel_rfl) ?_
      refine we_seq fun K61 hK61 => ?_
      refine we_region [(0, 0)] rfl ?_
      refine ge_batch [0] (ans := []) (vs := [(14, .bool false)]) (l := []) (by kernel_rfl) trivial ?_
      refine ge_nil fun a hF => hK61 _ _ ?_ a hF
      have hS125 := hS.takeN 0
      obtain rfl := Option.some.inj h
      exact we_ret fun a hF => hQ _ _ _ (Outs.out nofun ⟨rfl, (post_ret (rs := [.tmp 14]) (ans := []) (vs := [.bool false]) (l := []) rfl (by kernel_rfl) trivial ⟨rfl, hS125⟩) a hF⟩)
  · rw [if_neg hc29] at h
    refine ge_known (t := 194) (b := (r9.2.Code != 0)) (c := true) (by kernel_rfl) (bne_iff_ne.2 hc29) ?_
    refine ge_batch [4, 5, 6, 7, 8] (ans := []) (vs := [(199, .bool true), (198, undef), (197, undef), (196, undef), (195, undef)]) (l := []) (by kernel_rfl) trivial ?_
    refine ge_nil fun a hF => hK60 _ _ ?_ a hF
    refine we_true (by kernel_rfl) ?_
    refine we_seq fun K62 hK62 => ?_
    refine we_region [(0, 0)] rfl ?_
    refine ge_batch [0] (ans := []) (vs := [(14, .bool false)]) (l := []) (by kernel_rfl) trivial ?_
    refine ge_nil fun a hF => hK62 _ _ ?_ a hF
    have hS126 := hS.takeN 0
    obtain rfl := Option.some.inj h
    exact we_ret fun a hF => hQ _ _ _ (Outs.out nofun ⟨rfl, (post_ret (rs := [.tmp 14]) (ans := []) (vs := [.bool false]) (l := []) rfl (by kernel_rfl) trivial ⟨rfl, hS126⟩) a hF⟩)
abbrev ClockClose.A6 (K : Nat) (w0 : World) (l0 : List Int) (A0 : Option Addr) (c0 : Nat) (x1 : Int) (l2 : List (List Int)) (hd2 : List Hdr) (A2 : Option Addr) (c2 : Nat) (x3 : Int) (l4 : List Int) (A4 : Option Addr) (c4 : Nat) (x5 : Int) (x6 : Int) (hR0 : RdL w0 A0 l0) (hL0 : l0.length ≤ c0) (hR2 : RdL w0 A2 hd2) (hL2 : l2.length ≤ c2) (hN2 : NestL w0 hd2 l2) (hR4 : RdL w0 A4 l4) (hL4 : l4.length ≤ c4) (r1 : Bool) (hc1 : r1 = true) (hc13 : l0.length ≤ 17592186044416) (b1 : Nat) (Z1 : Option Addr) (cz1 : Nat) (m3 : List Int) (b2 : Nat) (r2 : Int) (z1 : Int) (m4 : List Int) (hc15 : z1 < x6) (m12 : List (List Int)) (xr4 : Rows) (m13 : List Int) (r8 : Int) (Z4 : Option Addr) (cz4 : Nat) (r9 : (List Int) × SFault) (b9 : Nat) (Z5 : Option Addr) (cz5 : Nat) : (Int × (List Int)) → Act → World → Prop := fun (s : Int × (List Int)) a w => St w0 w [Own.blk b2 (.cells #[.int .i64 (IntKind.i64.wrap ((l0.length : Int) - x1))] 3 (0, 0)), Own.blk b1 (.cells #[(.slice Z1 s.2.length cz1)] 26 (0, 0)), Own.of (.slice Z1 s.2.length cz1) 3 s.2] ∧ Frm 231 a [(1, .int .i64 x1), (2, .slice A2 l2.length c2), (3, .int .i64 x3), (4, .slice A4 l4.length c4), (5, .int .i64 x5), (15, .int .i64 (l0.length : Int)), (16, .func (.func 19) #[] #[]), (17, .func (.func 20) #[] #[]), (18, .pointer (some ⟨b1, 0, none⟩)), (21, .pointer (some ⟨b2, 0, none⟩)), (22, .func (.func 21) #[] #[.pointer (some ⟨b1, 0, none⟩), .pointer (some ⟨b2, 0, none⟩)]), (23, .int .i64 (gmax r2 (IntKind.i64.wrap ((IntKind.i64.wrap ((IntKind.i64.wrap (4 * x3)) + (IntKind.i64.wrap (4 * x5)))) + 1)))), (31, .int .i64 r8), (34, .int .i64 s.1), (113, .int .i64 x6), (114, .int .i64 z1)]
abbrev ClockClose.B6 (K : Nat) (w0 : World) (l0 : List Int) (A0 : Option Addr) (c0 : Nat) (x1 : Int) (l2 : List (List Int)) (hd2 : List Hdr) (A2 : Option Addr) (c2 : Nat) (x3 : Int) (l4 : List Int) (A4 : Option Addr) (c4 : Nat) (x5 : Int) (x6 : Int) (hR0 : RdL w0 A0 l0) (hL0 : l0.length ≤ c0) (hR2 : RdL w0 A2 hd2) (hL2 : l2.length ≤ c2) (hN2 : NestL w0 hd2 l2) (hR4 : RdL w0 A4 l4) (hL4 : l4.length ≤ c4) (r1 : Bool) (hc1 : r1 = true) (hc13 : l0.length ≤ 17592186044416) (b1 : Nat) (Z1 : Option Addr) (cz1 : Nat) (m3 : List Int) (b2 : Nat) (r2 : Int) (z1 : Int) (m4 : List Int) (hc15 : z1 < x6) (m12 : List (List Int)) (xr4 : Rows) (m13 : List Int) (r8 : Int) (Z4 : Option Addr) (cz4 : Nat) (r9 : (List Int) × SFault) (b9 : Nat) (Z5 : Option Addr) (cz5 : Nat) : ((List Int) ⊕ Bool) → Exit → Act → World → Prop := Exits 8 (fun (s : (List Int)) a w => St w0 w [Own.blk b2 (.cells #[.int .i64 (IntKind.i64.wrap ((l0.length : Int) - x1))] 3 (0, 0)), Own.blk b1 (.cells #[(.slice Z1 s.length cz1)] 26 (0, 0)), Own.of (.slice Z1 s.length cz1) 3 s] ∧ Frm 231 a [(1, .int .i64 x1), (2, .slice A2 l2.length c2), (3, .int .i64 x3), (4, .slice A4 l4.length c4), (5, .int .i64 x5), (15, .int .i64 (l0.length : Int)), (16, .func (.func 19) #[] #[]), (17, .func (.func 20) #[] #[]), (18, .pointer (some ⟨b1, 0, none⟩)), (21, .pointer (some ⟨b2, 0, none⟩)), (22, .func (.func 21) #[] #[.pointer (some ⟨b1, 0, none⟩), .pointer (some ⟨b2, 0, none⟩)]), (23, .int .i64 (gmax r2 (IntKind.i64.wrap ((IntKind.i64.wrap ((IntKind.i64.wrap (4 * x3)) + (IntKind.i64.wrap (4 * x5)))) + 1)))), (31, .int .i64 r8), (113, .int .i64 x6), (114, .int .i64 z1)]) (Rets Try.prog Try.f5 (ClockClose.Post w0))
theorem ClockClose_r6 (K : Nat) (w0 : World) (l0 : List Int) (A0 : Option Addr) (c0 : Nat) (x1 : Int) (l2 : List (List Int)) (hd2 : List Hdr) (A2 : Option Addr) (c2 : Nat) (x3 : Int) (l4 : List Int) (A4 : Option Addr) (c4 : Nat) (x5 : Int) (x6 : Int) (hR0 : RdL w0 A0 l0) (hL0 : l0.length ≤ c0) (hR2 : RdL w0 A2 hd2) (hL2 : l2.length ≤ c2) (hN2 : NestL w0 hd2 l2) (hR4 : RdL w0 A4 l4) (hL4 : l4.length ≤ c4) (r1 : Bool) (hc1 : r1 = true) (hc13 : l0.length ≤ 17592186044416) (b1 : Nat) (Z1 : Option Addr) (cz1 : Nat) (m3 : List Int) (b2 : Nat) (r2 : Int) (z1 : Int) (m4 : List Int) (hc15 : z1 < x6) (m12 : List (List Int)) (xr4 : Rows) (m13 : List Int) (r8 : Int) (Z4 : Option Addr) (cz4 : Nat) (r9 : (List Int) × SFault) (b9 : Nat) (Z5 : Option Addr) (cz5 : Nat) (s : Int × (List Int)) (o : (Int × (List Int)) ⊕ ((List Int) ⊕ Bool)) (h : ClockClose.r6 l0 s = some o) (a : Act) (w : World) (hA : ClockClose.A6 K w0 l0 A0 c0 x1 l2 hd2 A2 c2 x3 l4 A4 c4 x5 x6 hR0 hL0 hR2 hL2 hN2 hR4 hL4 r1 hc1 hc13 b1 Z1 cz1 m3 b2 r2 z1 m4 hc15 m12 xr4 m13 r8 Z4 cz4 r9 b9 Z5 cz5 s a w) (Q : Exit → Act → World → Prop) (hQ : ∀ x a w, Outs (ClockClose.A6 K w0 l0 A0 c0 x1 l2 hd2 A2 c2 x3 l4 A4 c4 x5 x6 hR0 hL0 hR2 hL2 hN2 hR4 hL4 r1 hc1 hc13 b1 Z1 cz1 m3 b2 r2 z1 m4 hc15 m12 xr4 m13 r8 Z4 cz4 r9 b9 Z5 cz5) (ClockClose.B6 K w0 l0 A0 c0 x1 l2 hd2 A2 c2 x3 l4 A4 c4 x5 x6 hR0 hL0 hR2 hL2 hN2 hR4 hL4 r1 hc1 hc13 b1 Z1 cz1 m3 b2 r2 z1 m4 hc15 m12 xr4 m13 r8 Z4 cz4 r9 b9 Z5 cz5) o x a w → Q x a w) : (subF Try.f5 [1, 1, 1, 1, 1, 1, 1, 1, 1, 1, 1, 0, 1, 0, 0, 1, 1, 0, 0, 1, 1, 1, 1, 1, 1, 1, 1, 0, 1, 0, 0]).wp Try.prog Q a w := by
  obtain ⟨z2, m14⟩ := s
  obtain ⟨hS, hF⟩ := hA
  replace hS : St w0 w [Own.blk b2 (.cells #[.int .i64 (IntKind.i64.wrap ((l0.length : Int) - x1))] 3 (0, 0)), Own.blk b1 (.cells #[(.slice Z1 m14.length cz1)] 26 (0, 0)), Own.of (.slice Z1 m14.length cz1) 3 m14] := hS
  simp only [ClockClose.r6] at h
  refine (?_ : WE Try.prog 231 (subF Try.f5 [1, 1, 1, 1, 1, 1, 1, 1, 1, 1, 1, 0, 1, 0, 0, 1, 1, 0, 0, 1, 1, 1, 1, 1, 1, 1, 1, 0, 1, 0, 0]) Q [(1, .int .i64 x1), (2, .slice A2 l2.length c2), (3, .int .i64 x3), (4, .slice A4 l4.length c4), (5, .int .i64 x5), (15, .int .i64 (l0.length : Int)), (16, .func (.func 19) #[] #[]), (17, .func (.func 20) #[] #[]), (18, .pointer (some ⟨b1, 0, none⟩)), (21, .pointer (some ⟨b2, 0, none⟩)), (22, .func (.func 21) #[] #[.pointer (some ⟨b1, 0, none⟩), .pointer (some ⟨b2, 0, none⟩)]), (23, .int .i64 (gmax r2 (IntKind.i64.wrap ((IntKind.i64.wrap ((IntKind.i64.wrap (4 * x3)) + (IntKind.i64.wrap (4 * x5)))) + 1)))), (31, .int .i64 r8), (34, .int .i64 z2), (113, .int .i64 x6), (114, .int .i64 z1)] w) a hF
  clear hF a
  refine we_seq fun K66 hK66 => ?_
  refine we_seq fun K67 hK67 => ?_
  refine we_region [(0, 0), (1, 0), (2, 0)] rfl ?_
  refine ge_batch [0, 1, 2] (ans := []) (vs := [(206, .bool (decide (z2 < (l0.length : Int)))), (205, .int .i64 (l0.length : Int)), (204, .int .i64 z2)]) (l := []) (by kernel_rfl) trivial ?_
  refine ge_nil fun a hF => hK67 _ _ ?_ a hF
  by_cases hc31 : z2 < (l0.length : Int)
  · rw [if_pos hc31] at h
    refine we_known (t := 206) (b := decide (z2 < (l0.length : Int))) (v := true) (by kernel_rfl) (decide_eq_true hc31) ?_
    refine we_true (by kernel_rfl) ?_
    refine we_skip fun a hF => hK66 _ _ ?_ a hF
    refine we_seq fun K68 hK68 => ?_
    refine we_block ?_
    refine we_region [(0, 0), (1, 0), (2, 0), (3, 2)] rfl ?_
    refine ge_batch [0, 1] (ans := [.val ((.slice Z1 m14.length cz1))]) (vs := [(210, .int .i64 z2), (209, (.slice Z1 m14.length cz1))]) (l := [.loaded ⟨b1, 0, none⟩ ((.slice Z1 m14.length cz1))]) (by kernel_rfl) ⟨hS.cell 1 rfl rfl, trivial⟩ ?_
    by_cases hc32 : 0 ≤ z2
    · rw [if_pos hc32] at h
      rcases hx15 : m14[(z2).toNat]? with _ | e6
      · rw [hx15] at h; cases h
      rw [hx15] at h
      simp only [] at h
      refine ge_index (d := 211) (ty := 0) (t := 26) (el := 3) (sz := 1) (m := m14.length) (c := cz1) (x := (.tmp 209)) (y := (.tmp 210)) (A := Z1) (k' := .i64) (j := z2) (jn := ((z2).toNat)) (b0 := blkOf Z1) (o0 := offOf Z1) (by kernel_rfl) (by kernel_rfl) (by kernel_rfl) (by kernel_rfl) (by kernel_rfl) ((hS.rdAt 2 rfl).eqSome (pos_of_get hx15)) (Int.toNat_of_nonneg hc32).symm (lt_of_get hx15) ?_
      have hS134 := hS.bring 2 rfl
      refine ge_seti (α := Int) (A := Z1) (nn := m14.length) (c := cz1) (t := 3) (l := m14) (x := e6) (x' := 0) (jn := ((z2).toNat)) (j := 0) (vs := [.int .i64 0]) (l' := [.stored ⟨blkOf Z1, offOf Z1 + ((z2).toNat) * 1, none⟩ (.int .i64 0)]) hS134 (by kernel_rfl) (by kernel_rfl) hx15 rfl rfl rfl fun w36 hS135 => ?_
      have hS136 : St w0 w36 [Own.of (.slice Z1 m14.length cz1) 3 (m14.set ((z2).toNat) 0), Own.blk b2 (.cells #[.int .i64 (IntKind.i64.wrap ((l0.length : Int) - x1))] 3 (0, 0)), Own.blk b1 (.cells #[(.slice Z1 m14.length cz1)] 26 (0, 0))] := hS135
      have hE3 : m14.length = (m14.set ((z2).toNat) 0).length := hS136.lenAt 0 rfl
      have hS137 : St w0 w36 [Own.of (.slice Z1 (m14.set ((z2).toNat) 0).length cz1) 3 (m14.set ((z2).toNat) 0), Own.blk b2 (.cells #[.int .i64 (IntKind.i64.wrap ((l0.length : Int) - x1))] 3 (0, 0)), Own.blk b1 (.cells #[(.slice Z1 (m14.set ((z2).toNat) 0).length cz1)] 26 (0, 0))] := by rw [← hE3]; exact hS136
      refine ge_same (t := 209) (v := (.slice Z1 m14.length cz1)) (v' := (.slice Z1 (m14.set ((z2).toNat) 0).length cz1)) (by kernel_rfl) (by rw [← hE3]) ?_
      refine ge_nil fun a hF => hK68 _ _ ?_ a hF
      refine we_region [(0, 0), (1, 0), (2, 0)] rfl ?_
      refine ge_batch [0, 1, 2] (ans := []) (vs := [(34, .int .i64 (IntKind.i64.wrap (z2 + 1))), (208, .int .i64 (IntKind.i64.wrap (z2 + 1))), (207, .int .i64 z2)]) (l := []) (by kernel_rfl) trivial ?_
      have hS138 := hS137.bring 2 rfl
      have hS139 := hS138.bring 2 rfl
      obtain rfl := Option.some.inj h
      exact ge_nil fun a hF => hQ _ _ _ (Outs.again ⟨hS139, hF.weaken ⟨by kernel_rfl, by kernel_rfl, by kernel_rfl, by kernel_rfl, by kernel_rfl, by kernel_rfl, by kernel_rfl, by kernel_rfl, by kernel_rfl, by kernel_rfl, by kernel_rfl, by kernel_rfl, by kernel_rfl, by kernel_rfl, by kernel_rfl, by kernel_rfl, trivial⟩⟩)
    · rw [if_neg hc32] at h
      cases h
  · rw [if_neg hc31] at h
    refine we_known (t := 206) (b := decide (z2 < (l0.length : Int))) (v := false) (by kernel_rfl) (decide_eq_false hc31) ?_
    refine we_false (by kernel_rfl) ?_
    have hS140 := hS.bring 2 rfl
    have hS141 := hS140.bring 2 rfl
    have hS142 := hS141.bring 2 rfl
    obtain rfl := Option.some.inj h
    exact we_exit fun a hF => hQ _ _ _ (Outs.out nofun (Exits.here ⟨hS142, hF.weaken ⟨by kernel_rfl, by kernel_rfl, by kernel_rfl, by kernel_rfl, by kernel_rfl, by kernel_rfl, by kernel_rfl, by kernel_rfl, by kernel_rfl, by kernel_rfl, by kernel_rfl, by kernel_rfl, by kernel_rfl, by kernel_rfl, by kernel_rfl, trivial⟩⟩))
abbrev ClockClose.A2 (K : Nat) (w0 : World) (l0 : List Int) (A0 : Option Addr) (c0 : Nat) (x1 : Int) (l2 : List (List Int)) (hd2 : List Hdr) (A2 : Option Addr) (c2 : Nat) (x3 : Int) (l4 : List Int) (A4 : Option Addr) (c4 : Nat) (x5 : Int) (x6 : Int) (hR0 : RdL w0 A0 l0) (hL0 : l0.length ≤ c0) (hR2 : RdL w0 A2 hd2) (hL2 : l2.length ≤ c2) (hN2 : NestL w0 hd2 l2) (hR4 : RdL w0 A4 l4) (hL4 : l4.length ≤ c4) (r1 : Bool) (hc1 : r1 = true) (hc13 : l0.length ≤ 17592186044416) (b1 : Nat) (Z1 : Option Addr) (cz1 : Nat) (m3 : List Int) (b2 : Nat) (r2 : Int) : (Int × (List Int)) → Act → World → Prop := fun (s : Int × (List Int)) a w => St w0 w [Own.blk b2 (.cells #[.int .i64 (IntKind.i64.wrap ((l0.length : Int) - x1))] 3 (0, 0)), Own.blk b1 (.cells #[(.slice Z1 s.2.length cz1)] 26 (0, 0)), Own.of (.slice Z1 s.2.length cz1) 3 s.2] ∧ Frm 231 a [(1, .int .i64 x1), (2, .slice A2 l2.length c2), (3, .int .i64 x3), (4, .slice A4 l4.length c4), (5, .int .i64 x5), (15, .int .i64 (l0.length : Int)), (16, .func (.func 19) #[] #[]), (17, .func (.func 20) #[] #[]), (18, .pointer (some ⟨b1, 0, none⟩)), (21, .pointer (some ⟨b2, 0, none⟩)), (22, .func (.func 21) #[] #[.pointer (some ⟨b1, 0, none⟩), .pointer (some ⟨b2, 0, none⟩)]), (23, .int .i64 (gmax r2 (IntKind.i64.wrap ((IntKind.i64.wrap ((IntKind.i64.wrap (4 * x3)) + (IntKind.i64.wrap (4 * x5)))) + 1)))), (113, .int .i64 x6), (114, .int .i64 s.1)]
abbrev ClockClose.B2 (K : Nat) (w0 : World) (l0 : List Int) (A0 : Option Addr) (c0 : Nat) (x1 : Int) (l2 : List (List Int)) (hd2 : List Hdr) (A2 : Option Addr) (c2 : Nat) (x3 : Int) (l4 : List Int) (A4 : Option Addr) (c4 : Nat) (x5 : Int) (x6 : Int) (hR0 : RdL w0 A0 l0) (hL0 : l0.length ≤ c0) (hR2 : RdL w0 A2 hd2) (hL2 : l2.length ≤ c2) (hN2 : NestL w0 hd2 l2) (hR4 : RdL w0 A4 l4) (hL4 : l4.length ≤ c4) (r1 : Bool) (hc1 : r1 = true) (hc13 : l0.length ≤ 17592186044416) (b1 : Nat) (Z1 : Option Addr) (cz1 : Nat) (m3 : List Int) (b2 : Nat) (r2 : Int) : (Unit ⊕ Bool) → Exit → Act → World → Prop := Exits 2 (fun (s : Unit) a w => St w0 w [] ∧ Frm 231 a []) (Rets Try.prog Try.f5 (ClockClose.Post w0))
theorem ClockClose_r2 (K : Nat) (w0 : World) (l0 : List Int) (A0 : Option Addr) (c0 : Nat) (x1 : Int) (l2 : List (List Int)) (hd2 : List Hdr) (A2 : Option Addr) (c2 : Nat) (x3 : Int) (l4 : List Int) (A4 : Option Addr) (c4 : Nat) (x5 : Int) (x6 : Int) (hR0 : RdL w0 A0 l0) (hL0 : l0.length ≤ c0) (hR2 : RdL w0 A2 hd2) (hL2 : l2.length ≤ c2) (hN2 : NestL w0 hd2 l2) (hR4 : RdL w0 A4 l4) (hL4 : l4.length ≤ c4) (r1 : Bool) (hc1 : r1 = true) (hc13 : l0.length ≤ 17592186044416) (b1 : Nat) (Z1 : Option Addr) (cz1 : Nat) (m3 : List Int) (b2 : Nat) (r2 : Int) (s : Int × (List Int)) (o : (Int × (List Int)) ⊕ (Unit ⊕ Bool)) (h : ClockClose.r2 K l0 x1 l2 x3 l4 x5 x6 r2 s = some o) (a : Act) (w : World) (hA : ClockClose.A2 K w0 l0 A0 c0 x1 l2 hd2 A2 c2 x3 l4 A4 c4 x5 x6 hR0 hL0 hR2 hL2 hN2 hR4 hL4 r1 hc1 hc13 b1 Z1 cz1 m3 b2 r2 s a w) (Q : Exit → Act → World → Prop) (hQ : ∀ x a w, Outs (ClockClose.A2 K w0 l0 A0 c0 x1 l2 hd2 A2 c2 x3 l4 A4 c4 x5 x6 hR0 hL0 hR2 hL2 hN2 hR4 hL4 r1 hc1 hc13 b1 Z1 cz1 m3 b2 r2) (ClockClose.B2 K w0 l0 A0 c0 x1 l2 hd2 A2 c2 x3 l4 A4 c4 x5 x6 hR0 hL0 hR2 hL2 hN2 hR4 hL4 r1 hc1 hc13 b1 Z1 cz1 m3 b2 r2) o x a w → Q x a w) : (subF Try.f5 [1, 1, 1, 1, 1, 1, 1, 1, 1, 1, 1, 0, 1, 0, 0]).wp Try.prog Q a w := by
  obtain ⟨z1, m4⟩ := s
  obtain ⟨hS, hF⟩ := hA
  replace hS : St w0 w [Own.blk b2 (.cells #[.int .i64 (IntKind.i64.wrap ((l0.length : Int) - x1))] 3 (0, 0)), Own.blk b1 (.cells #[(.slice Z1 m4.length cz1)] 26 (0, 0)), Own.of (.slice Z1 m4.length cz1) 3 m4] := hS
  simp only [ClockClose.r2] at h
  refine (?_ : WE Try.prog 231 (subF Try.f5 [1, 1, 1, 1, 1, 1, 1, 1, 1, 1, 1, 0, 1, 0, 0]) Q [(1, .int .i64 x1), (2, .slice A2 l2.length c2), (3, .int .i64 x3), (4, .slice A4 l4.length c4), (5, .int .i64 x5), (15, .int .i64 (l0.length : Int)), (16, .func (.func 19) #[] #[]), (17, .func (.func 20) #[] #[]), (18, .pointer (some ⟨b1, 0, none⟩)), (21, .pointer (some ⟨b2, 0, none⟩)), (22, .func (.func 21) #[] #[.pointer (some ⟨b1, 0, none⟩), .pointer (some ⟨b2, 0, none⟩)]), (23, .int .i64 (gmax r2 (IntKind.i64.wrap ((IntKind.i64.wrap ((IntKind.i64.wrap (4 * x3)) + (IntKind.i64.wrap (4 * x5)))) + 1)))), (113, .int .i64 x6), (114, .int .i64 z1)] w) a hF
  clear hF a
  refine we_seq fun K32 hK32 => ?_
  refine we_region [(0, 0)] rfl ?_
  refine ge_batch [0] (ans := []) (vs := [(115, .bool (decide (z1 < x6)))]) (l := []) (by kernel_rfl) trivial ?_
  refine ge_nil fun a hF => hK32 _ _ ?_ a hF
  refine we_seq fun K33 hK33 => ?_
  by_cases hc15 : z1 < x6
  · rw [if_pos hc15] at h
    refine we_known (t := 115) (b := decide (z1 < x6)) (v := true) (by kernel_rfl) (decide_eq_true hc15) ?_
    refine we_true (by kernel_rfl) ?_
    refine we_skip fun a hF => hK33 _ _ ?_ a hF
    refine we_seq fun K34 hK34 => ?_
    refine we_block ?_
    refine we_seq fun K35 hK35 => ?_
    refine we_region [(0, 0), (1, 0)] rfl ?_
    refine ge_batch [0, 1] (ans := []) (vs := [(24, .int .i64 z1), (116, .int .i64 z1)]) (l := []) (by kernel_rfl) trivial ?_
    refine ge_nil fun a hF => hK35 _ _ ?_ a hF
    refine we_seq fun K36 hK36 => ?_
    refine we_region [(0, 0)] rfl ?_
    refine ge_batch [0] (ans := []) (vs := [(25, .slice none 0 0)]) (l := []) (by kernel_rfl) trivial ?_
    refine ge_nil fun a hF => hK36 _ _ ?_ a hF
    refine we_seq fun K37 hK37 => ?_
    refine we_region [(0, 0)] rfl ?_
    refine ge_batch [0] (ans := []) (vs := [(26, .slice none 0 0)]) (l := []) (by kernel_rfl) trivial ?_
    refine ge_nil fun a hF => hK37 _ _ ?_ a hF
    refine we_seq fun K38 hK38 => ?_
    refine we_seq fun K39 hK39 => ?_
    refine we_region [(0, 0), (1, 0)] rfl ?_
    refine ge_batch [0, 1] (ans := []) (vs := [(118, .int .i64 0), (117, .int .i64 (l0.length : Int))]) (l := []) (by kernel_rfl) trivial ?_
    refine ge_nil fun a hF => hK39 _ _ ?_ a hF
    refine we_block ?_
    have hS26 := hS.nestNil (α := Int) 26 3
    have hS27 := hS26.nil (α := Int) 3
    have hS28 := hS27.bring 4 rfl
    have hS29 := hS28.bring 1 rfl
    have hS30 := hS29.bring 2 rfl
    have hS31 := hS30.bring 4 rfl
    have hS32 := hS31.bring 4 rfl
    rcases hq11 : iter (ClockClose.r3 K l0 x1 l2 x3 l4 x5 z1 m4) K (([] : List (List Int)), ([] : List Int), 0) with _ | (⟨m12, m13⟩ | rr4)
    · rw [hq11] at h; cases h
    · rw [hq11] at h
      simp only [] at h
      refine we_iter (A := ClockClose.A3 K w0 l0 A0 c0 x1 l2 hd2 A2 c2 x3 l4 A4 c4 x5 x6 hR0 hL0 hR2 hL2 hN2 hR4 hL4 r1 hc1 hc13 b1 Z1 cz1 m3 b2 r2 z1 m4 hc15) (B := ClockClose.B3 K w0 l0 A0 c0 x1 l2 hd2 A2 c2 x3 l4 A4 c4 x5 x6 hR0 hL0 hR2 hL2 hN2 hR4 hL4 r1 hc1 hc13 b1 Z1 cz1 m3 b2 r2 z1 m4 hc15) hq11 (fun a hF => ⟨Rows.none, (.slice none 0 0), hS32, hF.weaken ⟨by kernel_rfl, by kernel_rfl, by kernel_rfl, by kernel_rfl, by kernel_rfl, by kernel_rfl, by kernel_rfl, by kernel_rfl, by kernel_rfl, by kernel_rfl, by kernel_rfl, by kernel_rfl, by kernel_rfl, by kernel_rfl, by kernel_rfl, by kernel_rfl, by kernel_rfl, by kernel_rfl, by kernel_rfl, trivial⟩⟩) (fun s o hf a w hA Q hQ => ClockClose_r3 K w0 l0 A0 c0 x1 l2 hd2 A2 c2 x3 l4 A4 c4 x5 x6 hR0 hL0 hR2 hL2 hN2 hR4 hL4 r1 hc1 hc13 b1 Z1 cz1 m3 b2 r2 z1 m4 hc15 s o hf a w hA Q hQ) ?_
      rintro _ a w29 _ ⟨rfl, xr4, v12, hS112, hF⟩
      replace hS112 : St w0 w29 [Own.blk b2 (.cells #[.int .i64 (IntKind.i64.wrap ((l0.length : Int) - x1))] 3 (0, 0)), Own.blk b1 (.cells #[(.slice Z1 m4.length cz1)] 26 (0, 0)), Own.nest xr4 26 3 m12, Own.of v12 3 m13, Own.of (.slice Z1 m4.length cz1) 3 m4] := hS112
      refine hK38 [(1, .int .i64 x1), (2, .slice A2 l2.length c2), (3, .int .i64 x3), (4, .slice A4 l4.length c4), (5, .int .i64 x5), (15, .int .i64 (l0.length : Int)), (16, .func (.func 19) #[] #[]), (17, .func (.func 20) #[] #[]), (18, .pointer (some ⟨b1, 0, none⟩)), (21, .pointer (some ⟨b2, 0, none⟩)), (22, .func (.func 21) #[] #[.pointer (some ⟨b1, 0, none⟩), .pointer (some ⟨b2, 0, none⟩)]), (23, .int .i64 (gmax r2 (IntKind.i64.wrap ((IntKind.i64.wrap ((IntKind.i64.wrap (4 * x3)) + (IntKind.i64.wrap (4 * x5)))) + 1)))), (25, (Rows.val xr4)), (26, v12), (113, .int .i64 x6), (114, .int .i64 z1)] w29 ?_ a hF
      refine we_seq fun K57 hK57 => ?_
      refine we_region [(0, 0), (1, 1), (2, 0)] rfl ?_
      rcases hq12 : ClockClose_3.f K m4 (IntKind.i64.wrap ((l0.length : Int) - x1)) with _ | r8
      · rw [hq12] at h; cases h
      rw [hq12] at h
      simp only [] at h
      refine ge_batch [0] (ans := []) (vs := [(182, .func (.func 21) #[] #[.pointer (some ⟨b1, 0, none⟩), .pointer (some ⟨b2, 0, none⟩)])]) (l := []) (by kernel_rfl) trivial ?_
      refine ge_call (d := some 183) (f := 21) (args := #[.pointer (some ⟨b1, 0, none⟩), .pointer (some ⟨b2, 0, none⟩)]) (by kernel_rfl) (ClockClose_3_ok K b1 m4 Z1 cz1 b2 (IntKind.i64.wrap ((l0.length : Int) - x1)) _ (hS112.rdAt 4 rfl) (hS112.capAt 4 rfl) (hS112.globOf 1 rfl) (hS112.globOf 0 rfl) _ hq12) ?_
      rintro _ w30 ⟨rfl, hS113⟩
      refine ⟨_, rfl, hS113.below, ?_⟩
      have hS114 := hS112.call hS113
      refine ge_batch [2] (ans := []) (vs := [(31, .int .i64 r8)]) (l := []) (by kernel_rfl) trivial ?_
      refine ge_nil fun a hF => hK57 _ _ ?_ a hF
      refine we_seq fun K58 hK58 => ?_
      refine we_region [(0, 0), (1, 0), (2, 0), (3, 1), (4, 0), (5, 0), (6, 0), (7, 1), (8, 0), (9, 2)] rfl ?_
      refine ge_batch [0, 1, 2] (ans := []) (vs := [(187, v12), (186, .int .i64 x1), (185, (Rows.val xr4))]) (l := []) (by kernel_rfl) trivial ?_
      refine ge_same (t := 185) (v := (Rows.val xr4)) (v' := .slice xr4.A m12.length xr4.c) (by kernel_rfl) (congrArg (fun z => Value.slice xr4.A z xr4.c) (hS114.nestAt 2 rfl).n) ?_
      obtain ⟨Z4, cz4, rfl⟩ := hS114.open 3 rfl
      rcases hq13 : net_Round.f K m12 x1 m13 with _ | r9
      · rw [hq13] at h; cases h
      rw [hq13] at h
      simp only [] at h
      refine ge_call (d := some 188) (f := 22) (args := #[.slice xr4.A m12.length xr4.c, .int .i64 x1, (.slice Z4 m13.length cz4)]) (by kernel_rfl) (net_Round_ok K m12 xr4.hs xr4.A xr4.c x1 m13 Z4 cz4 _ (hS114.nestAt 2 rfl).rd (hS114.nestAt 2 rfl).cap (hS114.nestAt 2 rfl).nl (hS114.rdAt 3 rfl) (hS114.capAt 3 rfl) _ hq13) ?_
      rintro _ w31 ⟨v13, rfl, hS115⟩
      refine ⟨_, rfl, hS115.below, ?_⟩
      have hS116 := hS114.call hS115
      refine ge_batch [4, 5, 6] (ans := []) (vs := [(190, .agg #[.int .i64 r9.2.Code, .int .i64 r9.2.At]), (189, v13), (184, .tuple #[v13, .agg #[.int .i64 r9.2.Code, .int .i64 r9.2.At]])]) (l := []) (by kernel_rfl) trivial ?_
      refine ge_new (d := some 33) (o := .cells #[.int .i64 0, .int .i64 0] 31) (v := fun b => .pointer (some ⟨b, 0, none⟩)) hS116 (fun b => by kernel_rfl) fun b9 w32 hx14 hS117 => ?_
      refine ge_batch [8] (ans := []) (vs := [(32, v13)]) (l := []) (by kernel_rfl) trivial ?_
      refine ge_set (b := b9) (j := 0) (cs := #[.int .i64 0, .int .i64 0]) (t := 31) (vs := [.int .i64 r9.2.Code, .int .i64 r9.2.At]) hS117 (by kernel_rfl) rfl rfl fun w33 hS118 => ?_
      have hS119 := hS118.nc #[.int .i64 r9.2.Code, .int .i64 r9.2.At] (by kernel_rfl)
      refine ge_nil fun a hF => hK58 _ _ ?_ a hF
      refine we_seq fun K59 hK59 => ?_
      obtain ⟨Z5, cz5, rfl⟩ := hS119.open 1 rfl
      rcases hq14 : ClockClose.p5 l0 r9 with _ | (_ | rr3)
      · rw [hq14] at h; cases h
      · rw [hq14] at h
        simp only [] at h
        refine we_keep (e' := [(1, .int .i64 x1), (2, .slice A2 l2.length c2), (3, .int .i64 x3), (4, .slice A4 l4.length c4), (5, .int .i64 x5), (15, .int .i64 (l0.length : Int)), (16, .func (.func 19) #[] #[]), (17, .func (.func 20) #[] #[]), (18, .pointer (some ⟨b1, 0, none⟩)), (21, .pointer (some ⟨b2, 0, none⟩)), (22, .func (.func 21) #[] #[.pointer (some ⟨b1, 0, none⟩), .pointer (some ⟨b2, 0, none⟩)]), (23, .int .i64 (gmax r2 (IntKind.i64.wrap ((IntKind.i64.wrap ((IntKind.i64.wrap (4 * x3)) + (IntKind.i64.wrap (4 * x5)))) + 1)))), (25, (Rows.val xr4)), (26, (.slice Z4 m13.length cz4)), (31, .int .i64 r8), (32, (.slice Z5 r9.1.length cz5)), (33, .pointer (some ⟨b9, 0, none⟩)), (113, .int .i64 x6), (114, .int .i64 z1), (182, .func (.func 21) #[] #[.pointer (some ⟨b1, 0, none⟩), .pointer (some ⟨b2, 0, none⟩)]), (183, .int .i64 r8), (184, .tuple #[(.slice Z5 r9.1.length cz5), .agg #[.int .i64 r9.2.Code, .int .i64 r9.2.At]]), (185, .slice xr4.A m12.length xr4.c), (186, .int .i64 x1), (187, (.slice Z4 m13.length cz4)), (188, .tuple #[(.slice Z5 r9.1.length cz5), .agg #[.int .i64 r9.2.Code, .int .i64 r9.2.At]]), (189, (.slice Z5 r9.1.length cz5)), (190, .agg #[.int .i64 r9.2.Code, .int .i64 r9.2.At])]) ⟨by kernel_rfl, by kernel_rfl, by kernel_rfl, by kernel_rfl, by kernel_rfl, by kernel_rfl, by kernel_rfl, by kernel_rfl, by kernel_rfl, by kernel_rfl, by kernel_rfl, by kernel_rfl, by kernel_rfl, by kernel_rfl, by kernel_rfl, by kernel_rfl, by kernel_rfl, by kernel_rfl, by kernel_rfl, by kernel_rfl, by kernel_rfl, by kernel_rfl, by kernel_rfl, by kernel_rfl, by kernel_rfl, by kernel_rfl, by kernel_rfl, by kernel_rfl, trivial⟩ (ClockClose_p5 K w0 l0 A0 c0 x1 l2 hd2 A2 c2 x3 l4 A4 c4 x5 x6 hR0 hL0 hR2 hL2 hN2 hR4 hL4 r1 hc1 hc13 b1 Z1 cz1 m3 b2 r2 z1 m4 hc15 m12 xr4 m13 r8 Z4 cz4 r9 b9 Z5 cz5 _ hq14 _ hS119 _ ?_)
        rintro _ a w34 ⟨rfl, hS127, hF⟩
        replace hS127 : St w0 w34 [Own.blk b2 (.cells #[.int .i64 (IntKind.i64.wrap ((l0.length : Int) - x1))] 3 (0, 0)), Own.blk b1 (.cells #[(.slice Z1 m4.length cz1)] 26 (0, 0)), Own.of (.slice Z5 r9.1.length cz5) 3 r9.1, Own.of (.slice Z1 m4.length cz1) 3 m4] := hS127
        refine hK59 [(1, .int .i64 x1), (2, .slice A2 l2.length c2), (3, .int .i64 x3), (4, .slice A4 l4.length c4), (5, .int .i64 x5), (15, .int .i64 (l0.length : Int)), (16, .func (.func 19) #[] #[]), (17, .func (.func 20) #[] #[]), (18, .pointer (some ⟨b1, 0, none⟩)), (21, .pointer (some ⟨b2, 0, none⟩)), (22, .func (.func 21) #[] #[.pointer (some ⟨b1, 0, none⟩), .pointer (some ⟨b2, 0, none⟩)]), (23, .int .i64 (gmax r2 (IntKind.i64.wrap ((IntKind.i64.wrap ((IntKind.i64.wrap (4 * x3)) + (IntKind.i64.wrap (4 * x5)))) + 1)))), (31, .int .i64 r8), (32, (.slice Z5 r9.1.length cz5)), (113, .int .i64 x6), (114, .int .i64 z1)] w34 ?_ a hF
        refine we_seq fun K63 hK63 => ?_
        refine we_region [(0, 0), (1, 0), (2, 2)] rfl ?_
        refine ge_batch [0, 1] (ans := [.val ((.slice Z1 m4.length cz1))]) (vs := [(201, (.slice Z5 r9.1.length cz5)), (200, (.slice Z1 m4.length cz1))]) (l := [.loaded ⟨b1, 0, none⟩ ((.slice Z1 m4.length cz1))]) (by kernel_rfl) ⟨hS127.cell 1 rfl rfl, trivial⟩ ?_
        have hS128 := hS127.bring 3 rfl
        refine ge_copy (m := 0) (d := 202) (t := 26) (t2 := 26) (el := 3) (c := cz1) (c2 := cz5) (x := (.tmp 200)) (y := (.tmp 201)) (ty := 3) (A := Z1) (B := Z5) (dst := m4) (src := r9.1) (by kernel_rfl) (by kernel_rfl) (by kernel_rfl) (by kernel_rfl) (by kernel_rfl) hS128 (hS128.rdAt 3 rfl) fun w35 hE2 hS129 => ?_
        have hS130 : St w0 w35 [Own.of (.slice Z1 (r9.1.take m4.length ++ m4.drop r9.1.length).length cz1) 3 (r9.1.take m4.length ++ m4.drop r9.1.length), Own.blk b2 (.cells #[.int .i64 (IntKind.i64.wrap ((l0.length : Int) - x1))] 3 (0, 0)), Own.blk b1 (.cells #[(.slice Z1 (r9.1.take m4.length ++ m4.drop r9.1.length).length cz1)] 26 (0, 0)), Own.of (.slice Z5 r9.1.length cz5) 3 r9.1] := by rw [← hE2] at hS129 ⊢; exact hS129
        refine ge_same (t := 200) (v := (.slice Z1 m4.length cz1)) (v' := (.slice Z1 (r9.1.take m4.length ++ m4.drop r9.1.length).length cz1)) (by kernel_rfl) (by rw [← hE2]) ?_
        refine ge_nil fun a hF => hK63 _ _ ?_ a hF
        refine we_seq fun K64 hK64 => ?_
        refine we_seq fun K65 hK65 => ?_
        refine we_region [(0, 0), (1, 0)] rfl ?_
        refine ge_batch [0, 1] (ans := [.val (.int .i64 (IntKind.i64.wrap ((l0.length : Int) - x1)))]) (vs := [(34, .int .i64 (IntKind.i64.wrap ((l0.length : Int) - x1))), (203, .int .i64 (IntKind.i64.wrap ((l0.length : Int) - x1)))]) (l := [.loaded ⟨b2, 0, none⟩ (.int .i64 (IntKind.i64.wrap ((l0.length : Int) - x1)))]) (by kernel_rfl) ⟨hS130.cell 1 rfl rfl, trivial⟩ ?_
        refine ge_nil fun a hF => hK65 _ _ ?_ a hF
        refine we_block ?_
        have hS131 := hS130.bring 2 rfl
        have hS132 := hS131.bring 2 rfl
        have hS133 := hS132.takeN 3
        rcases hq15 : iter (ClockClose.r6 l0) K (IntKind.i64.wrap ((l0.length : Int) - x1), (r9.1.take m4.length ++ m4.drop r9.1.length)) with _ | (m16 | rr2)
        · rw [hq15] at h; cases h
        · rw [hq15] at h
          simp only [] at h
          refine we_iter (A := ClockClose.A6 K w0 l0 A0 c0 x1 l2 hd2 A2 c2 x3 l4 A4 c4 x5 x6 hR0 hL0 hR2 hL2 hN2 hR4 hL4 r1 hc1 hc13 b1 Z1 cz1 m3 b2 r2 z1 m4 hc15 m12 xr4 m13 r8 Z4 cz4 r9 b9 Z5 cz5) (B := ClockClose.B6 K w0 l0 A0 c0 x1 l2 hd2 A2 c2 x3 l4 A4 c4 x5 x6 hR0 hL0 hR2 hL2 hN2 hR4 hL4 r1 hc1 hc13 b1 Z1 cz1 m3 b2 r2 z1 m4 hc15 m12 xr4 m13 r8 Z4 cz4 r9 b9 Z5 cz5) hq15 (fun a hF => ⟨hS133, hF.weaken ⟨by kernel_rfl, by kernel_rfl, by kernel_rfl, by kernel_rfl, by kernel_rfl, by kernel_rfl, by kernel_rfl, by kernel_rfl, by kernel_rfl, by kernel_rfl, by kernel_rfl, by kernel_rfl, by kernel_rfl, by kernel_rfl, by kernel_rfl, by kernel_rfl, trivial⟩⟩) (fun s o hf a w hA Q hQ => ClockClose_r6 K w0 l0 A0 c0 x1 l2 hd2 A2 c2 x3 l4 A4 c4 x5 x6 hR0 hL0 hR2 hL2 hN2 hR4 hL4 r1 hc1 hc13 b1 Z1 cz1 m3 b2 r2 z1 m4 hc15 m12 xr4 m13 r8 Z4 cz4 r9 b9 Z5 cz5 s o hf a w hA Q hQ) ?_
          rintro _ a w37 _ ⟨rfl, hS143, hF⟩
          replace hS143 : St w0 w37 [Own.blk b2 (.cells #[.int .i64 (IntKind.i64.wrap ((l0.length : Int) - x1))] 3 (0, 0)), Own.blk b1 (.cells #[(.slice Z1 m16.length cz1)] 26 (0, 0)), Own.of (.slice Z1 m16.length cz1) 3 m16] := hS143
          refine hK64 [(1, .int .i64 x1), (2, .slice A2 l2.length c2), (3, .int .i64 x3), (4, .slice A4 l4.length c4), (5, .int .i64 x5), (15, .int .i64 (l0.length : Int)), (16, .func (.func 19) #[] #[]), (17, .func (.func 20) #[] #[]), (18, .pointer (some ⟨b1, 0, none⟩)), (21, .pointer (some ⟨b2, 0, none⟩)), (22, .func (.func 21) #[] #[.pointer (some ⟨b1, 0, none⟩), .pointer (some ⟨b2, 0, none⟩)]), (23, .int .i64 (gmax r2 (IntKind.i64.wrap ((IntKind.i64.wrap ((IntKind.i64.wrap (4 * x3)) + (IntKind.i64.wrap (4 * x5)))) + 1)))), (31, .int .i64 r8), (113, .int .i64 x6), (114, .int .i64 z1)] w37 ?_ a hF
          refine we_seq fun K69 hK69 => ?_
          refine we_region [(0, 0), (1, 1), (2, 0), (3, 0), (4, 0), (5, 0), (6, 0), (7, 0), (8, 0), (9, 0), (10, 0), (11, 0), (12, 0), (13, 0), (14, 1), (15, 0), (16, 0), (17, 0)] rfl ?_
          rcases hq16 : ClockClose_3.f K m16 (IntKind.i64.wrap ((l0.length : Int) - x1)) with _ | r10
          · rw [hq16] at h; cases h
          rw [hq16] at h
          simp only [] at h
          refine ge_batch [0] (ans := []) (vs := [(212, .func (.func 21) #[] #[.pointer (some ⟨b1, 0, none⟩), .pointer (some ⟨b2, 0, none⟩)])]) (l := []) (by kernel_rfl) trivial ?_
          refine ge_call (d := some 213) (f := 21) (args := #[.pointer (some ⟨b1, 0, none⟩), .pointer (some ⟨b2, 0, none⟩)]) (by kernel_rfl) (ClockClose_3_ok K b1 m16 Z1 cz1 b2 (IntKind.i64.wrap ((l0.length : Int) - x1)) _ (hS143.rdAt 2 rfl) (hS143.capAt 2 rfl) (hS143.globOf 1 rfl) (hS143.globOf 0 rfl) _ hq16) ?_
          rintro _ w38 ⟨rfl, hS144⟩
          refine ⟨_, rfl, hS144.below, ?_⟩
          have hS145 := hS143.call hS144
          refine ge_batch [2, 3, 4, 5, 6] (ans := []) (vs := [(218, .int .i64 (IntKind.i64.wrap ((IntKind.i64.wrap (r8 + (IntKind.i64.wrap (4 * x3)))) + 1))), (217, .int .i64 (IntKind.i64.wrap (r8 + (IntKind.i64.wrap (4 * x3))))), (216, .int .i64 (IntKind.i64.wrap (4 * x3))), (215, .int .i64 x3), (214, .int .i64 r8)]) (l := []) (by kernel_rfl) trivial ?_
          refine ge_div (d := 219) (ty := 3) (op := .quo) (x := (.tmp 218)) (y := (.const (.int .i64 2))) (t := 3) (t2 := 3) (k := .i64) (p := (IntKind.i64.wrap ((IntKind.i64.wrap (r8 + (IntKind.i64.wrap (4 * x3)))) + 1))) (q := 2) (v := .int .i64 (IntKind.i64.wrap (Int.tdiv (IntKind.i64.wrap ((IntKind.i64.wrap (r8 + (IntKind.i64.wrap (4 * x3)))) + 1)) 2))) (by kernel_rfl) (by kernel_rfl) (by kernel_rfl) (by decide) rfl ?_
          refine ge_batch [8, 9, 10, 11, 12] (ans := []) (vs := [(224, .bool (decide (r10 > (IntKind.i64.wrap ((IntKind.i64.wrap (Int.tdiv (IntKind.i64.wrap ((IntKind.i64.wrap (r8 + (IntKind.i64.wrap (4 * x3)))) + 1)) 2)) + (IntKind.i64.wrap (2 * x5))))))), (223, .bool (decide (r10 > (IntKind.i64.wrap ((IntKind.i64.wrap (Int.tdiv (IntKind.i64.wrap ((IntKind.i64.wrap (r8 + (IntKind.i64.wrap (4 * x3)))) + 1)) 2)) + (IntKind.i64.wrap (2 * x5))))))), (222, .int .i64 (IntKind.i64.wrap ((IntKind.i64.wrap (Int.tdiv (IntKind.i64.wrap ((IntKind.i64.wrap (r8 + (IntKind.i64.wrap (4 * x3)))) + 1)) 2)) + (IntKind.i64.wrap (2 * x5))))), (221, .int .i64 (IntKind.i64.wrap (2 * x5))), (220, .int .i64 x5)]) (l := []) (by kernel_rfl) trivial ?_
          by_cases hc33 : r10 > (IntKind.i64.wrap ((IntKind.i64.wrap (Int.tdiv (IntKind.i64.wrap ((IntKind.i64.wrap (r8 + (IntKind.i64.wrap (4 * x3)))) + 1)) 2)) + (IntKind.i64.wrap (2 * x5))))
          · rw [if_pos hc33] at h
            refine ge_known (t := 224) (b := decide (r10 > (IntKind.i64.wrap ((IntKind.i64.wrap (Int.tdiv (IntKind.i64.wrap ((IntKind.i64.wrap (r8 + (IntKind.i64.wrap (4 * x3)))) + 1)) 2)) + (IntKind.i64.wrap (2 * x5)))))) (c := true) (by kernel_rfl) (decide_eq_true hc33) ?_
            refine ge_batch [13] (ans := []) (vs := [(225, undef)]) (l := []) (by kernel_rfl) trivial ?_
            refine ge_off rfl rfl rfl (by kernel_rfl) ?_
            refine ge_batch [15, 16, 17] (ans := []) (vs := [(229, .bool true), (228, undef), (227, undef)]) (l := []) (by kernel_rfl) trivial ?_
            refine ge_nil fun a hF => hK69 _ _ ?_ a hF
            refine we_true (by kernel_rfl) ?_
            refine we_seq fun K70 hK70 => ?_
            refine we_region [(0, 0)] rfl ?_
            refine ge_batch [0] (ans := []) (vs := [(14, .bool false)]) (l := []) (by kernel_rfl) trivial ?_
            refine ge_nil fun a hF => hK70 _ _ ?_ a hF
            have hS146 := hS145.takeN 0
            obtain rfl := Option.some.inj h
            exact we_ret fun a hF => hQ _ _ _ (Outs.out nofun (Exits.on ⟨rfl, (post_ret (rs := [.tmp 14]) (ans := []) (vs := [.bool false]) (l := []) rfl (by kernel_rfl) trivial ⟨rfl, hS146⟩) a hF⟩))
          · rw [if_neg hc33] at h
            refine ge_known (t := 224) (b := decide (r10 > (IntKind.i64.wrap ((IntKind.i64.wrap (Int.tdiv (IntKind.i64.wrap ((IntKind.i64.wrap (r8 + (IntKind.i64.wrap (4 * x3)))) + 1)) 2)) + (IntKind.i64.wrap (2 * x5)))))) (c := false) (by kernel_rfl) (decide_eq_false hc33) ?_
            refine ge_batch [13] (ans := []) (vs := [(225, .func (.func 21) #[] #[.pointer (some ⟨b1, 0, none⟩), .pointer (some ⟨b2, 0, none⟩)])]) (l := []) (by kernel_rfl) trivial ?_
            refine ge_call (d := some 226) (f := 21) (args := #[.pointer (some ⟨b1, 0, none⟩), .pointer (some ⟨b2, 0, none⟩)]) (by kernel_rfl) (ClockClose_3_ok K b1 m16 Z1 cz1 b2 (IntKind.i64.wrap ((l0.length : Int) - x1)) _ (hS145.rdAt 2 rfl) (hS145.capAt 2 rfl) (hS145.globOf 1 rfl) (hS145.globOf 0 rfl) _ hq16) ?_
            rintro _ w39 ⟨rfl, hS147⟩
            refine ⟨_, rfl, hS147.below, ?_⟩
            have hS148 := hS145.call hS147
            refine ge_batch [15, 16, 17] (ans := []) (vs := [(229, .bool (decide (r10 > (gmax r2 (IntKind.i64.wrap ((IntKind.i64.wrap ((IntKind.i64.wrap (4 * x3)) + (IntKind.i64.wrap (4 * x5)))) + 1)))))), (228, .bool (decide (r10 > (gmax r2 (IntKind.i64.wrap ((IntKind.i64.wrap ((IntKind.i64.wrap (4 * x3)) + (IntKind.i64.wrap (4 * x5)))) + 1)))))), (227, .int .i64 (gmax r2 (IntKind.i64.wrap ((IntKind.i64.wrap ((IntKind.i64.wrap (4 * x3)) + (IntKind.i64.wrap (4 * x5)))) + 1))))]) (l := []) (by kernel_rfl) trivial ?_
            refine ge_nil fun a hF => hK69 _ _ ?_ a hF
            by_cases hc34 : r10 > (gmax r2 (IntKind.i64.wrap ((IntKind.i64.wrap ((IntKind.i64.wrap (4 * x3)) + (IntKind.i64.wrap (4 * x5)))) + 1)))
            · rw [if_pos hc34] at h
              refine we_known (t := 229) (b := decide (r10 > (gmax r2 (IntKind.i64.wrap ((IntKind.i64.wrap ((IntKind.i64.wrap (4 * x3)) + (IntKind.i64.wrap (4 * x5)))) + 1))))) (v := true) (by kernel_rfl) (decide_eq_true hc34) ?_
              refine we_true (by kernel_rfl) ?_
              refine we_seq fun K71 hK71 => ?_
              refine we_region [(0, 0)] rfl ?_
              refine ge_batch [0] (ans := []) (vs := [(14, .bool false)]) (l := []) (by kernel_rfl) trivial ?_
              refine ge_nil fun a hF => hK71 _ _ ?_ a hF
              have hS149 := hS148.takeN 0
              obtain rfl := Option.some.inj h
              exact we_ret fun a hF => hQ _ _ _ (Outs.out nofun (Exits.on ⟨rfl, (post_ret (rs := [.tmp 14]) (ans := []) (vs := [.bool false]) (l := []) rfl (by kernel_rfl) trivial ⟨rfl, hS149⟩) a hF⟩))
            · rw [if_neg hc34] at h
              refine we_known (t := 229) (b := decide (r10 > (gmax r2 (IntKind.i64.wrap ((IntKind.i64.wrap ((IntKind.i64.wrap (4 * x3)) + (IntKind.i64.wrap (4 * x5)))) + 1))))) (v := false) (by kernel_rfl) (decide_eq_false hc34) ?_
              refine we_false (by kernel_rfl) ?_
              refine we_skip fun a hF => hK34 _ _ ?_ a hF
              refine we_region [(0, 0), (1, 0)] rfl ?_
              refine ge_batch [0, 1] (ans := []) (vs := [(114, .int .i64 (IntKind.i64.wrap (z1 + 1))), (230, .int .i64 (IntKind.i64.wrap (z1 + 1)))]) (l := []) (by kernel_rfl) trivial ?_
              have hS150 := hS148.bring 2 rfl
              have hS151 := hS150.bring 2 rfl
              have hS152 := hS151.bring 2 rfl
              obtain rfl := Option.some.inj h
              exact ge_nil fun a hF => hQ _ _ _ (Outs.again ⟨hS152, hF.weaken ⟨by kernel_rfl, by kernel_rfl, by kernel_rfl, by kernel_rfl, by kernel_rfl, by kernel_rfl, by kernel_rfl, by kernel_rfl, by kernel_rfl, by kernel_rfl, by kernel_rfl, by kernel_rfl, by kernel_rfl, by kernel_rfl, trivial⟩⟩)
        · rw [hq15] at h
          simp only [] at h
          refine we_iter (A := ClockClose.A6 K w0 l0 A0 c0 x1 l2 hd2 A2 c2 x3 l4 A4 c4 x5 x6 hR0 hL0 hR2 hL2 hN2 hR4 hL4 r1 hc1 hc13 b1 Z1 cz1 m3 b2 r2 z1 m4 hc15 m12 xr4 m13 r8 Z4 cz4 r9 b9 Z5 cz5) (B := ClockClose.B6 K w0 l0 A0 c0 x1 l2 hd2 A2 c2 x3 l4 A4 c4 x5 x6 hR0 hL0 hR2 hL2 hN2 hR4 hL4 r1 hc1 hc13 b1 Z1 cz1 m3 b2 r2 z1 m4 hc15 m12 xr4 m13 r8 Z4 cz4 r9 b9 Z5 cz5) hq15 (fun a hF => ⟨hS133, hF.weaken ⟨by kernel_rfl, by kernel_rfl, by kernel_rfl, by kernel_rfl, by kernel_rfl, by kernel_rfl, by kernel_rfl, by kernel_rfl, by kernel_rfl, by kernel_rfl, by kernel_rfl, by kernel_rfl, by kernel_rfl, by kernel_rfl, by kernel_rfl, by kernel_rfl, trivial⟩⟩) (fun s o hf a w hA Q hQ => ClockClose_r6 K w0 l0 A0 c0 x1 l2 hd2 A2 c2 x3 l4 A4 c4 x5 x6 hR0 hL0 hR2 hL2 hN2 hR4 hL4 r1 hc1 hc13 b1 Z1 cz1 m3 b2 r2 z1 m4 hc15 m12 xr4 m13 r8 Z4 cz4 r9 b9 Z5 cz5 s o hf a w hA Q hQ) ?_
          rintro _ a w1 _ ⟨rfl, hb⟩
          obtain rfl := Option.some.inj h
          exact hQ _ _ _ (Outs.out nofun (Exits.on ⟨rfl, hb⟩))
      · rw [hq14] at h
        simp only [] at h
        refine we_keep (e' := [(1, .int .i64 x1), (2, .slice A2 l2.length c2), (3, .int .i64 x3), (4, .slice A4 l4.length c4), (5, .int .i64 x5), (15, .int .i64 (l0.length : Int)), (16, .func (.func 19) #[] #[]), (17, .func (.func 20) #[] #[]), (18, .pointer (some ⟨b1, 0, none⟩)), (21, .pointer (some ⟨b2, 0, none⟩)), (22, .func (.func 21) #[] #[.pointer (some ⟨b1, 0, none⟩), .pointer (some ⟨b2, 0, none⟩)]), (23, .int .i64 (gmax r2 (IntKind.i64.wrap ((IntKind.i64.wrap ((IntKind.i64.wrap (4 * x3)) + (IntKind.i64.wrap (4 * x5)))) + 1)))), (25, (Rows.val xr4)), (26, (.slice Z4 m13.length cz4)), (31, .int .i64 r8), (32, (.slice Z5 r9.1.length cz5)), (33, .pointer (some ⟨b9, 0, none⟩)), (113, .int .i64 x6), (114, .int .i64 z1), (182, .func (.func 21) #[] #[.pointer (some ⟨b1, 0, none⟩), .pointer (some ⟨b2, 0, none⟩)]), (183, .int .i64 r8), (184, .tuple #[(.slice Z5 r9.1.length cz5), .agg #[.int .i64 r9.2.Code, .int .i64 r9.2.At]]), (185, .slice xr4.A m12.length xr4.c), (186, .int .i64 x1), (187, (.slice Z4 m13.length cz4)), (188, .tuple #[(.slice Z5 r9.1.length cz5), .agg #[.int .i64 r9.2.Code, .int .i64 r9.2.At]]), (189, (.slice Z5 r9.1.length cz5)), (190, .agg #[.int .i64 r9.2.Code, .int .i64 r9.2.At])]) ⟨by kernel_rfl, by kernel_rfl, by kernel_rfl, by kernel_rfl, by kernel_rfl, by kernel_rfl, by kernel_rfl, by kernel_rfl, by kernel_rfl, by kernel_rfl, by kernel_rfl, by kernel_rfl, by kernel_rfl, by kernel_rfl, by kernel_rfl, by kernel_rfl, by kernel_rfl, by kernel_rfl, by kernel_rfl, by kernel_rfl, by kernel_rfl, by kernel_rfl, by kernel_rfl, by kernel_rfl, by kernel_rfl, by kernel_rfl, by kernel_rfl, by kernel_rfl, trivial⟩ (ClockClose_p5 K w0 l0 A0 c0 x1 l2 hd2 A2 c2 x3 l4 A4 c4 x5 x6 hR0 hL0 hR2 hL2 hN2 hR4 hL4 r1 hc1 hc13 b1 Z1 cz1 m3 b2 r2 z1 m4 hc15 m12 xr4 m13 r8 Z4 cz4 r9 b9 Z5 cz5 _ hq14 _ hS119 _ ?_)
        rintro _ a w1 ⟨_, rfl, hb⟩
        obtain rfl := Option.some.inj h
        exact hQ _ _ _ (Outs.out nofun (Exits.on ⟨rfl, hb⟩))
    · rw [hq11] at h
      simp only [] at h
      refine we_iter (A := ClockClose.A3 K w0 l0 A0 c0 x1 l2 hd2 A2 c2 x3 l4 A4 c4 x5 x6 hR0 hL0 hR2 hL2 hN2 hR4 hL4 r1 hc1 hc13 b1 Z1 cz1 m3 b2 r2 z1 m4 hc15) (B := ClockClose.B3 K w0 l0 A0 c0 x1 l2 hd2 A2 c2 x3 l4 A4 c4 x5 x6 hR0 hL0 hR2 hL2 hN2 hR4 hL4 r1 hc1 hc13 b1 Z1 cz1 m3 b2 r2 z1 m4 hc15) hq11 (fun a hF => ⟨Rows.none, (.slice none 0 0), hS32, hF.weaken ⟨by kernel_rfl, by kernel_rfl, by kernel_rfl, by kernel_rfl, by kernel_rfl, by kernel_rfl, by kernel_rfl, by kernel_rfl, by kernel_rfl, by kernel_rfl, by kernel_rfl, by kernel_rfl, by kernel_rfl, by kernel_rfl, by kernel_rfl, by kernel_rfl, by kernel_rfl, by kernel_rfl, by kernel_rfl, trivial⟩⟩) (fun s o hf a w hA Q hQ => ClockClose_r3 K w0 l0 A0 c0 x1 l2 hd2 A2 c2 x3 l4 A4 c4 x5 x6 hR0 hL0 hR2 hL2 hN2 hR4 hL4 r1 hc1 hc13 b1 Z1 cz1 m3 b2 r2 z1 m4 hc15 s o hf a w hA Q hQ) ?_
      rintro _ a w1 _ ⟨rfl, hb⟩
      obtain rfl := Option.some.inj h
      exact hQ _ _ _ (Outs.out nofun (Exits.on ⟨rfl, hb⟩))
  · rw [if_neg hc15] at h
    refine we_known (t := 115) (b := decide (z1 < x6)) (v := false) (by kernel_rfl) (decide_eq_false hc15) ?_
    refine we_false (by kernel_rfl) ?_
    have hS153 := hS.takeN 0
    obtain rfl := Option.some.inj h
    exact we_exit fun a hF => hQ _ _ _ (Outs.out nofun (Exits.here ⟨hS153, hF.weaken trivial⟩))
theorem ClockClose_ok (K : Nat) (l0 : List Int) (A0 : Option Addr) (c0 : Nat) (x1 : Int) (l2 : List (List Int)) (hd2 : List Hdr) (A2 : Option Addr) (c2 : Nat) (x3 : Int) (l4 : List Int) (A4 : Option Addr) (c4 : Nat) (x5 : Int) (x6 : Int) (w0 : World) (hR0 : RdL w0 A0 l0) (hL0 : l0.length ≤ c0) (hR2 : RdL w0 A2 hd2) (hL2 : l2.length ≤ c2) (hN2 : NestL w0 hd2 l2) (hR4 : RdL w0 A4 l4) (hL4 : l4.length ≤ c4) (r : Bool) (h : ClockClose.f K l0 x1 l2 x3 l4 x5 x6 = some r) :
    Calls Try.prog 5 #[.slice A0 l0.length c0, .int .i64 x1, .slice A2 l2.length c2, .int .i64 x3, .slice A4 l4.length c4, .int .i64 x5, .int .i64 x6] w0 (ClockClose.Post w0 r) := by
  have hS := St.start w0
  unfold ClockClose.f at h
  refine calls_enter (n := 231) (args := [.slice A0 l0.length c0, .int .i64 x1, .slice A2 l2.length c2, .int .i64 x3, .slice A4 l4.length c4, .int .i64 x5, .int .i64 x6]) (fn := Try.f5) rfl rfl rfl rfl ?_
  show WE _ _ _ _ [(0, .slice A0 l0.length c0), (1, .int .i64 x1), (2, .slice A2 l2.length c2), (3, .int .i64 x3), (4, .slice A4 l4.length c4), (5, .int .i64 x5), (6, .int .i64 x6)] _
  refine we_seq fun K1 hK1 => ?_
  refine we_region [(0, 0)] rfl ?_
  refine ge_batch [0] (ans := []) (vs := [(14, .bool false)]) (l := []) (by kernel_rfl) trivial ?_
  refine ge_nil fun a hF => hK1 _ _ ?_ a hF
  refine we_seq fun K2 hK2 => ?_
  refine we_seq fun K3 hK3 => ?_
  refine we_region [(0, 1), (1, 0)] rfl ?_
  rcases hq1 : middle.f K with _ | r1
  · rw [hq1] at h; cases h
  rw [hq1] at h
  simp only [] at h
  refine ge_call (d := some 35) (f := 18) (args := #[]) (by kernel_rfl) (middle_ok K _ _ hq1) ?_
  rintro _ w1 ⟨rfl, hS1⟩
  refine ⟨_, rfl, hS1.below, ?_⟩
  have hS2 := hS.call hS1
  refine ge_batch [1] (ans := []) (vs := [(36, .bool (!r1))]) (l := []) (by kernel_rfl) trivial ?_
  refine ge_nil fun a hF => hK3 _ _ ?_ a hF
  by_cases hc1 : r1 = true
  · rw [if_pos hc1] at h
    refine we_known (t := 36) (b := !r1) (v := false) (by kernel_rfl) (congrArg (fun z => !z) hc1) ?_
    refine we_false (by kernel_rfl) ?_
    refine we_skip fun a hF => hK2 _ _ ?_ a hF
    refine we_seq fun K4 hK4 => ?_
    refine we_region [(0, 0), (1, 0), (2, 0)] rfl ?_
    refine ge_batch [0, 1, 2] (ans := []) (vs := [(15, .int .i64 (l0.length : Int)), (38, .int .i64 (l0.length : Int)), (37, .slice A0 l0.length c0)]) (l := []) (by kernel_rfl) trivial ?_
    refine ge_nil fun a hF => hK4 _ _ ?_ a hF
    refine we_seq fun K5 hK5 => ?_
    rcases hq2 : ClockClose.p0 l0 x1 x3 x5 x6 with _ | (_ | rr7)
    · rw [hq2] at h; cases h
    · rw [hq2] at h
      simp only [] at h
      refine we_keep (e' := [(0, .slice A0 l0.length c0), (1, .int .i64 x1), (2, .slice A2 l2.length c2), (3, .int .i64 x3), (4, .slice A4 l4.length c4), (5, .int .i64 x5), (6, .int .i64 x6), (14, .bool false), (15, .int .i64 (l0.length : Int)), (35, .bool r1), (36, .bool false), (37, .slice A0 l0.length c0), (38, .int .i64 (l0.length : Int))]) ⟨by kernel_rfl, by kernel_rfl, by kernel_rfl, by kernel_rfl, by kernel_rfl, by kernel_rfl, by kernel_rfl, by kernel_rfl, by kernel_rfl, by kernel_rfl, by kernel_rfl, by kernel_rfl, by kernel_rfl, trivial⟩ (ClockClose_p0 K w0 l0 A0 c0 x1 l2 hd2 A2 c2 x3 l4 A4 c4 x5 x6 hR0 hL0 hR2 hL2 hN2 hR4 hL4 r1 hc1 _ hq2 _ hS2 _ ?_)
      rintro _ a w2 ⟨rfl, hS3, hF⟩
      replace hS3 : St w0 w2 [] := hS3
      refine hK5 [(0, .slice A0 l0.length c0), (1, .int .i64 x1), (2, .slice A2 l2.length c2), (3, .int .i64 x3), (4, .slice A4 l4.length c4), (5, .int .i64 x5), (6, .int .i64 x6), (15, .int .i64 (l0.length : Int))] w2 ?_ a hF
      refine we_seq fun K18 hK18 => ?_
      refine we_region [(0, 0)] rfl ?_
      refine ge_batch [0] (ans := []) (vs := [(16, .func (.func 19) #[] #[])]) (l := []) (by kernel_rfl) trivial ?_
      refine ge_nil fun a hF => hK18 _ _ ?_ a hF
      refine we_seq fun K19 hK19 => ?_
      refine we_region [(0, 0)] rfl ?_
      refine ge_batch [0] (ans := []) (vs := [(17, .func (.func 20) #[] #[])]) (l := []) (by kernel_rfl) trivial ?_
      refine ge_nil fun a hF => hK19 _ _ ?_ a hF
      refine we_seq fun K20 hK20 => ?_
      refine we_region [(0, 0), (1, 1), (2, 1), (3, 2)] rfl ?_
      refine ge_batch [0] (ans := []) (vs := [(85, .int .i64 (l0.length : Int))]) (l := []) (by kernel_rfl) trivial ?_
      by_cases hc13 : l0.length ≤ 17592186044416
      · rw [if_pos hc13] at h
        refine ge_make (α := Int) (d := 86) (t := 26) (el := 3) (bytes := 8) (l := l0.length) (c := l0.length) (x := (.tmp 85)) (y := (.tmp 85)) (ty := 26) (k1 := .i64) (k2 := .i64) (li := (l0.length : Int)) (ci := (l0.length : Int)) (z := .int .i64 0) (z' := (0 : Int)) (by kernel_rfl) (by kernel_rfl) (by kernel_rfl) rfl rfl (by kernel_rfl) (by kernel_rfl) rfl hS3 (Nat.le_refl _) rfl (by omega) fun v1 w3 _ hS4 => ?_
        refine ge_new (d := some 18) (o := .cells #[.slice none 0 0] 26) (v := fun b => .pointer (some ⟨b, 0, none⟩)) hS4 (fun b => by kernel_rfl) fun b1 w4 hx1 hS5 => ?_
        obtain ⟨Z1, cz1, rfl⟩ := hS5.open 1 rfl
        refine ge_set (b := b1) (j := 0) (cs := #[.slice none 0 0]) (t := 26) (vs := [(.slice Z1 (List.replicate l0.length (0 : Int)).length cz1)]) hS5 (by kernel_rfl) rfl rfl fun w5 hS6 => ?_
        have hS7 := hS6.nc #[(.slice Z1 (List.replicate l0.length (0 : Int)).length cz1)] (by kernel_rfl)
        refine ge_nil fun a hF => hK20 _ _ ?_ a hF
        refine we_seq fun K21 hK21 => ?_
        refine we_seq fun K22 hK22 => ?_
        refine we_region [(0, 0), (1, 0), (2, 0)] rfl ?_
        refine ge_batch [0, 1, 2] (ans := []) (vs := [(89, .int .i64 0), (88, .int .i64 (l0.length : Int)), (87, .slice A0 l0.length c0)]) (l := []) (by kernel_rfl) trivial ?_
        refine ge_nil fun a hF => hK22 _ _ ?_ a hF
        refine we_block ?_
        have hS8 := hS7.bring 1 rfl
        have hS9 := hS8.bring 1 rfl
        rcases hq3 : iter (ClockClose.r1 l0) K (0, (List.replicate l0.length (0 : Int))) with _ | (m3 | rr6)
        · rw [hq3] at h; cases h
        · rw [hq3] at h
          simp only [] at h
          refine we_iter (A := ClockClose.A1 K w0 l0 A0 c0 x1 l2 hd2 A2 c2 x3 l4 A4 c4 x5 x6 hR0 hL0 hR2 hL2 hN2 hR4 hL4 r1 hc1 hc13 b1 Z1 cz1) (B := ClockClose.B1 K w0 l0 A0 c0 x1 l2 hd2 A2 c2 x3 l4 A4 c4 x5 x6 hR0 hL0 hR2 hL2 hN2 hR4 hL4 r1 hc1 hc13 b1 Z1 cz1) hq3 (fun a hF => ⟨hS9, hF.weaken ⟨by kernel_rfl, by kernel_rfl, by kernel_rfl, by kernel_rfl, by kernel_rfl, by kernel_rfl, by kernel_rfl, by kernel_rfl, by kernel_rfl, by kernel_rfl, by kernel_rfl, by kernel_rfl, by kernel_rfl, trivial⟩⟩) (fun s o hf a w hA Q hQ => ClockClose_r1 K w0 l0 A0 c0 x1 l2 hd2 A2 c2 x3 l4 A4 c4 x5 x6 hR0 hL0 hR2 hL2 hN2 hR4 hL4 r1 hc1 hc13 b1 Z1 cz1 s o hf a w hA Q hQ) ?_
          rintro _ a w7 _ ⟨rfl, hS17, hF⟩
          replace hS17 : St w0 w7 [Own.blk b1 (.cells #[(.slice Z1 m3.length cz1)] 26 (0, 0)), Own.of (.slice Z1 m3.length cz1) 3 m3] := hS17
          refine hK21 [(1, .int .i64 x1), (2, .slice A2 l2.length c2), (3, .int .i64 x3), (4, .slice A4 l4.length c4), (5, .int .i64 x5), (6, .int .i64 x6), (15, .int .i64 (l0.length : Int)), (16, .func (.func 19) #[] #[]), (17, .func (.func 20) #[] #[]), (18, .pointer (some ⟨b1, 0, none⟩))] w7 ?_ a hF
          refine we_seq fun K27 hK27 => ?_
          refine we_region [(0, 0), (1, 0), (2, 0), (3, 1), (4, 2)] rfl ?_
          refine ge_batch [0, 1, 2] (ans := []) (vs := [(102, .int .i64 (IntKind.i64.wrap ((l0.length : Int) - x1))), (101, .int .i64 x1), (100, .int .i64 (l0.length : Int))]) (l := []) (by kernel_rfl) trivial ?_
          refine ge_new (d := some 21) (o := .cells #[.int .i64 0] 3) (v := fun b => .pointer (some ⟨b, 0, none⟩)) hS17 (fun b => by kernel_rfl) fun b2 w8 hx4 hS18 => ?_
          refine ge_set (b := b2) (j := 0) (cs := #[.int .i64 0]) (t := 3) (vs := [.int .i64 (IntKind.i64.wrap ((l0.length : Int) - x1))]) hS18 (by kernel_rfl) rfl rfl fun w9 hS19 => ?_
          have hS20 := hS19.nc #[.int .i64 (IntKind.i64.wrap ((l0.length : Int) - x1))] (by kernel_rfl)
          refine ge_nil fun a hF => hK27 _ _ ?_ a hF
          refine we_seq fun K28 hK28 => ?_
          refine we_region [(0, 0), (1, 0)] rfl ?_
          refine ge_batch [0, 1] (ans := []) (vs := [(22, .func (.func 21) #[] #[.pointer (some ⟨b1, 0, none⟩), .pointer (some ⟨b2, 0, none⟩)]), (103, .func (.func 21) #[] #[.pointer (some ⟨b1, 0, none⟩), .pointer (some ⟨b2, 0, none⟩)])]) (l := []) (by kernel_rfl) trivial ?_
          refine ge_nil fun a hF => hK28 _ _ ?_ a hF
          refine we_seq fun K29 hK29 => ?_
          refine we_region [(0, 0), (1, 1), (2, 0), (3, 0), (4, 0), (5, 0), (6, 0), (7, 0), (8, 0), (9, 0)] rfl ?_
          rcases hq4 : ClockClose_3.f K m3 (IntKind.i64.wrap ((l0.length : Int) - x1)) with _ | r2
          · rw [hq4] at h; cases h
          rw [hq4] at h
          simp only [] at h
          refine ge_batch [0] (ans := []) (vs := [(104, .func (.func 21) #[] #[.pointer (some ⟨b1, 0, none⟩), .pointer (some ⟨b2, 0, none⟩)])]) (l := []) (by kernel_rfl) trivial ?_
          refine ge_call (d := some 105) (f := 21) (args := #[.pointer (some ⟨b1, 0, none⟩), .pointer (some ⟨b2, 0, none⟩)]) (by kernel_rfl) (ClockClose_3_ok K b1 m3 Z1 cz1 b2 (IntKind.i64.wrap ((l0.length : Int) - x1)) _ (hS20.rdAt 2 rfl) (hS20.capAt 2 rfl) (hS20.globOf 1 rfl) (hS20.globOf 0 rfl) _ hq4) ?_
          rintro _ w10 ⟨rfl, hS21⟩
          refine ⟨_, rfl, hS21.below, ?_⟩
          have hS22 := hS20.call hS21
          refine ge_batch [2, 3, 4, 5, 6, 7, 8, 9] (ans := []) (vs := [(23, .int .i64 (gmax r2 (IntKind.i64.wrap ((IntKind.i64.wrap ((IntKind.i64.wrap (4 * x3)) + (IntKind.i64.wrap (4 * x5)))) + 1)))), (112, .int .i64 (gmax r2 (IntKind.i64.wrap ((IntKind.i64.wrap ((IntKind.i64.wrap (4 * x3)) + (IntKind.i64.wrap (4 * x5)))) + 1)))), (111, .int .i64 (IntKind.i64.wrap ((IntKind.i64.wrap ((IntKind.i64.wrap (4 * x3)) + (IntKind.i64.wrap (4 * x5)))) + 1))), (110, .int .i64 (IntKind.i64.wrap ((IntKind.i64.wrap (4 * x3)) + (IntKind.i64.wrap (4 * x5))))), (109, .int .i64 (IntKind.i64.wrap (4 * x5))), (108, .int .i64 x5), (107, .int .i64 (IntKind.i64.wrap (4 * x3))), (106, .int .i64 x3)]) (l := []) (by kernel_rfl) trivial ?_
          refine ge_nil fun a hF => hK29 _ _ ?_ a hF
          refine we_seq fun K30 hK30 => ?_
          refine we_seq fun K31 hK31 => ?_
          refine we_region [(0, 0), (1, 0)] rfl ?_
          refine ge_batch [0, 1] (ans := []) (vs := [(114, .int .i64 0), (113, .int .i64 x6)]) (l := []) (by kernel_rfl) trivial ?_
          refine ge_nil fun a hF => hK31 _ _ ?_ a hF
          refine we_block ?_
          have hS23 := hS22.bring 2 rfl
          have hS24 := hS23.bring 2 rfl
          have hS25 := hS24.bring 2 rfl
          rcases hq18 : iter (ClockClose.r2 K l0 x1 l2 x3 l4 x5 x6 r2) K (0, m3) with _ | (_ | rr5)
          · rw [hq18] at h; cases h
          · rw [hq18] at h
            simp only [] at h
            refine we_iter (A := ClockClose.A2 K w0 l0 A0 c0 x1 l2 hd2 A2 c2 x3 l4 A4 c4 x5 x6 hR0 hL0 hR2 hL2 hN2 hR4 hL4 r1 hc1 hc13 b1 Z1 cz1 m3 b2 r2) (B := ClockClose.B2 K w0 l0 A0 c0 x1 l2 hd2 A2 c2 x3 l4 A4 c4 x5 x6 hR0 hL0 hR2 hL2 hN2 hR4 hL4 r1 hc1 hc13 b1 Z1 cz1 m3 b2 r2) hq18 (fun a hF => ⟨hS25, hF.weaken ⟨by kernel_rfl, by kernel_rfl, by kernel_rfl, by kernel_rfl, by kernel_rfl, by kernel_rfl, by kernel_rfl, by kernel_rfl, by kernel_rfl, by kernel_rfl, by kernel_rfl, by kernel_rfl, by kernel_rfl, by kernel_rfl, trivial⟩⟩) (fun s o hf a w hA Q hQ => ClockClose_r2 K w0 l0 A0 c0 x1 l2 hd2 A2 c2 x3 l4 A4 c4 x5 x6 hR0 hL0 hR2 hL2 hN2 hR4 hL4 r1 hc1 hc13 b1 Z1 cz1 m3 b2 r2 s o hf a w hA Q hQ) ?_
            rintro _ a w40 _ ⟨rfl, hS154, hF⟩
            replace hS154 : St w0 w40 [] := hS154
            refine hK30 [] w40 ?_ a hF
            refine we_seq fun K72 hK72 => ?_
            refine we_region [(0, 0)] rfl ?_
            refine ge_batch [0] (ans := []) (vs := [(14, .bool true)]) (l := []) (by kernel_rfl) trivial ?_
            refine ge_nil fun a hF => hK72 _ _ ?_ a hF
            obtain rfl := Option.some.inj h
            exact we_ret (post_ret (rs := [.tmp 14]) (ans := []) (vs := [.bool true]) (l := []) rfl (by kernel_rfl) trivial ⟨rfl, hS154⟩)
          · rw [hq18] at h
            simp only [] at h
            refine we_iter (A := ClockClose.A2 K w0 l0 A0 c0 x1 l2 hd2 A2 c2 x3 l4 A4 c4 x5 x6 hR0 hL0 hR2 hL2 hN2 hR4 hL4 r1 hc1 hc13 b1 Z1 cz1 m3 b2 r2) (B := ClockClose.B2 K w0 l0 A0 c0 x1 l2 hd2 A2 c2 x3 l4 A4 c4 x5 x6 hR0 hL0 hR2 hL2 hN2 hR4 hL4 r1 hc1 hc13 b1 Z1 cz1 m3 b2 r2) hq18 (fun a hF => ⟨hS25, hF.weaken ⟨by kernel_rfl, by kernel_rfl, by kernel_rfl, by kernel_rfl, by kernel_rfl, by kernel_rfl, by kernel_rfl, by kernel_rfl, by kernel_rfl, by kernel_rfl, by kernel_rfl, by kernel_rfl, by kernel_rfl, by kernel_rfl, trivial⟩⟩) (fun s o hf a w hA Q hQ => ClockClose_r2 K w0 l0 A0 c0 x1 l2 hd2 A2 c2 x3 l4 A4 c4 x5 x6 hR0 hL0 hR2 hL2 hN2 hR4 hL4 r1 hc1 hc13 b1 Z1 cz1 m3 b2 r2 s o hf a w hA Q hQ) ?_
            rintro _ a w1 _ ⟨rfl, hb⟩
            obtain rfl := Option.some.inj h
            exact hb
        · rw [hq3] at h
          simp only [] at h
          refine we_iter (A := ClockClose.A1 K w0 l0 A0 c0 x1 l2 hd2 A2 c2 x3 l4 A4 c4 x5 x6 hR0 hL0 hR2 hL2 hN2 hR4 hL4 r1 hc1 hc13 b1 Z1 cz1) (B := ClockClose.B1 K w0 l0 A0 c0 x1 l2 hd2 A2 c2 x3 l4 A4 c4 x5 x6 hR0 hL0 hR2 hL2 hN2 hR4 hL4 r1 hc1 hc13 b1 Z1 cz1) hq3 (fun a hF => ⟨hS9, hF.weaken ⟨by kernel_rfl, by kernel_rfl, by kernel_rfl, by kernel_rfl, by kernel_rfl, by kernel_rfl, by kernel_rfl, by kernel_rfl, by kernel_rfl, by kernel_rfl, by kernel_rfl, by kernel_rfl, by kernel_rfl, trivial⟩⟩) (fun s o hf a w hA Q hQ => ClockClose_r1 K w0 l0 A0 c0 x1 l2 hd2 A2 c2 x3 l4 A4 c4 x5 x6 hR0 hL0 hR2 hL2 hN2 hR4 hL4 r1 hc1 hc13 b1 Z1 cz1 s o hf a w hA Q hQ) ?_
          rintro _ a w1 _ ⟨rfl, hb⟩
          obtain rfl := Option.some.inj h
          exact hb
      · rw [if_neg hc13] at h
        cases h
    · rw [hq2] at h
      simp only [] at h
      refine we_keep (e' := [(0, .slice A0 l0.length c0), (1, .int .i64 x1), (2, .slice A2 l2.length c2), (3, .int .i64 x3), (4, .slice A4 l4.length c4), (5, .int .i64 x5), (6, .int .i64 x6), (14, .bool false), (15, .int .i64 (l0.length : Int)), (35, .bool r1), (36, .bool false), (37, .slice A0 l0.length c0), (38, .int .i64 (l0.length : Int))]) ⟨by kernel_rfl, by kernel_rfl, by kernel_rfl, by kernel_rfl, by kernel_rfl, by kernel_rfl, by kernel_rfl, by kernel_rfl, by kernel_rfl, by kernel_rfl, by kernel_rfl, by kernel_rfl, by kernel_rfl, trivial⟩ (ClockClose_p0 K w0 l0 A0 c0 x1 l2 hd2 A2 c2 x3 l4 A4 c4 x5 x6 hR0 hL0 hR2 hL2 hN2 hR4 hL4 r1 hc1 _ hq2 _ hS2 _ ?_)
      rintro _ a w1 ⟨_, rfl, hb⟩
      obtain rfl := Option.some.inj h
      exact hb
  · rw [if_neg hc1] at h
    refine we_known (t := 36) (b := !r1) (v := true) (by kernel_rfl) (congrArg (fun z => !z) (Bool.eq_false_iff.2 hc1)) ?_
    refine we_true (by kernel_rfl) ?_
    refine we_seq fun K73 hK73 => ?_
    refine we_region [(0, 0)] rfl ?_
    refine ge_batch [0] (ans := []) (vs := [(14, .bool false)]) (l := []) (by kernel_rfl) trivial ?_
    refine ge_nil fun a hF => hK73 _ _ ?_ a hF
    obtain rfl := Option.some.inj h
    exact we_ret (post_ret (rs := [.tmp 14]) (ans := []) (vs := [.bool false]) (l := []) rfl (by kernel_rfl) trivial ⟨rfl, hS2⟩)
end Go.Proofs.Ytchcdadpahakfaa.GV
