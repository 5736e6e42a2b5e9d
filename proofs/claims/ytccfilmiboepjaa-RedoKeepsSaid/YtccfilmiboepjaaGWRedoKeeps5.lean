/- Walks of single functions, written by a program of this work. -/
import Derived.Test.YtccfilmiboepjaaGWRedoKeeps4
namespace Go.Proofs.Ytccfilmiboepjaa.GV
open Go Go.RowKit
set_option linter.unusedVariables false
set_option linter.unusedSimpArgs false
set_option maxRecDepth 100000

/-! punctual/punctuallaw.RedoKeeps -/
abbrev RedoKeeps.Post (w0 : World) (r : Bool) (e : Ending) (w : World) : Prop := e = .returned (.bool r) ∧ St w0 w []
def RedoKeeps.p0 (l0 : List STask) (l3 : List SCome) (l6 : List Int) : Option (Unit ⊕ Bool) :=
    if (few.f (l0.length : Int)) = true then
      if (few.f (l3.length : Int)) = true then
        if (l6.length : Int) > 1000 then
          some (.inr true)
        else
          some (.inl ())
      else
        some (.inr true)
    else
      some (.inr true)
def RedoKeeps.r1 (x1 : Int) (l6 : List Int) : Nat → Option (Nat ⊕ (Unit ⊕ Bool))
  | i1 =>
    if (i1 : Int) < (l6.length : Int) then
      match l6[i1]? with
      | none => none
      | some e1 =>
        if e1 < 0 then
          some (.inr (.inr true))
        else
          if e1 > 20000 then
            some (.inr (.inr true))
          else
            if (i1 : Int) > 0 then
              if 0 ≤ (IntKind.i64.wrap ((i1 : Int) - 1)) then
                match l6[(IntKind.i64.wrap ((i1 : Int) - 1)).toNat]? with
                | none => none
                | some e2 =>
                  if (IntKind.i64.wrap (e1 - e2)) < x1 then
                    some (.inr (.inr true))
                  else
                    some (.inl (i1 + 1))
              else
                none
            else
              some (.inl (i1 + 1))
    else
      some (.inr (.inl ()))
def RedoKeeps.r3 (l3 : List SCome) (r4 : SPlayed × SFault) (i2 : Nat) (r5 : Int × SFault) : Nat → Option (Nat ⊕ (Unit ⊕ Bool))
  | i3 =>
    if (i3 : Int) < (l3.length : Int) then
      match l3[i3]? with
      | none => none
      | some e3 =>
        if e3.Task = (i2 : Int) then
          match r4.1.Ends[i3]? with
          | none => none
          | some e4 =>
            if e4 < 0 then
              some (.inr (.inr false))
            else
              if (IntKind.i64.wrap (e4 - e3.At)) > r5.1 then
                some (.inr (.inr false))
              else
                some (.inl (i3 + 1))
        else
          some (.inl (i3 + 1))
    else
      some (.inr (.inl ()))
def RedoKeeps.r2 (K : Nat) (l0 : List STask) (x1 : Int) (x2 : Int) (l3 : List SCome) (r3 : Int) (r4 : SPlayed × SFault) : Nat → Option (Nat ⊕ (Unit ⊕ Bool))
  | i2 =>
    if (i2 : Int) < (l0.length : Int) then
      match redo_Response.f K l0 (i2 : Int) x1 x2 with
      | none => none
      | some r5 =>
        if r5.2.Code = 0 then
          match iter (RedoKeeps.r3 l3 r4 i2 r5) K 0 with
          | none => none
          | some (.inl _) =>
            some (.inl (i2 + 1))
          | some (.inr rr1) =>
            some (.inr (.inr rr1))
        else
          some (.inl (i2 + 1))
    else
      some (.inr (.inl ()))
def RedoKeeps.p4 (x1 : Int) (x2 : Int) : Option (Bool ⊕ Bool) :=
    if x2 < 0 then
      some (.inl true)
    else
      if x2 > 10000 then
        some (.inl true)
      else
        some (.inl (decide (x1 < 1)))
def RedoKeeps.f (K : Nat) (l0 : List STask) (x1 : Int) (x2 : Int) (l3 : List SCome) (l4 : List Int) (l5 : List Int) (l6 : List Int) : Option Bool :=
  match anew.f K with
  | none => none
  | some r1 =>
    if r1 = true then
      match RedoKeeps.p0 l0 l3 l6 with
      | none => none
      | some (.inl _) =>
        match tasks_Jobs.f K l0 l3 l4 l5 with
        | none => none
        | some r2 =>
          if r2.2.Code = 0 then
            match iter (RedoKeeps.r1 x1 l6) K 0 with
            | none => none
            | some (.inl _) =>
              match lasts.f K l0 l3 with
              | none => none
              | some r3 =>
                if r3 < 0 then
                  some true
                else
                  match redo_Play.f K r2.1 x2 l6 r3 with
                  | none => none
                  | some r4 =>
                    if r4.2.Code = 0 then
                      if (r4.1.Ends.length : Int) = (l3.length : Int) then
                        match iter (RedoKeeps.r2 K l0 x1 x2 l3 r3 r4) K 0 with
                        | none => none
                        | some (.inl _) =>
                          some true
                        | some (.inr rr2) =>
                          some rr2
                      else
                        some false
                    else
                      match RedoKeeps.p4 x1 x2 with
                      | none => none
                      | some (.inl q2) =>
                        some q2
                      | some (.inr rr3) =>
                        some rr3
            | some (.inr rr4) =>
              some rr4
          else
            some true
      | some (.inr rr5) =>
        some rr5
    else
      some false
abbrev RedoKeeps.A0 (K : Nat) (w0 : World) (l0 : List STask) (A0 : Option Addr) (c0 : Nat) (x1 : Int) (x2 : Int) (l3 : List SCome) (A3 : Option Addr) (c3 : Nat) (l4 : List Int) (A4 : Option Addr) (c4 : Nat) (l5 : List Int) (A5 : Option Addr) (c5 : Nat) (l6 : List Int) (A6 : Option Addr) (c6 : Nat) (hR0 : RdL w0 A0 l0) (hL0 : l0.length ≤ c0) (hR3 : RdL w0 A3 l3) (hL3 : l3.length ≤ c3) (hR4 : RdL w0 A4 l4) (hL4 : l4.length ≤ c4) (hR5 : RdL w0 A5 l5) (hL5 : l5.length ≤ c5) (hR6 : RdL w0 A6 l6) (hL6 : l6.length ≤ c6) (r1 : Bool) (hc1 : r1 = true) : Unit → Act → World → Prop := fun (s : Unit) a w => St w0 w [] ∧ Frm 164 a [(0, .slice A0 l0.length c0), (1, .int .i64 x1), (2, .int .i64 x2), (3, .slice A3 l3.length c3), (4, .slice A4 l4.length c4), (5, .slice A5 l5.length c5), (6, .slice A6 l6.length c6)]
abbrev RedoKeeps.B0 (K : Nat) (w0 : World) (l0 : List STask) (A0 : Option Addr) (c0 : Nat) (x1 : Int) (x2 : Int) (l3 : List SCome) (A3 : Option Addr) (c3 : Nat) (l4 : List Int) (A4 : Option Addr) (c4 : Nat) (l5 : List Int) (A5 : Option Addr) (c5 : Nat) (l6 : List Int) (A6 : Option Addr) (c6 : Nat) (hR0 : RdL w0 A0 l0) (hL0 : l0.length ≤ c0) (hR3 : RdL w0 A3 l3) (hL3 : l3.length ≤ c3) (hR4 : RdL w0 A4 l4) (hL4 : l4.length ≤ c4) (hR5 : RdL w0 A5 l5) (hL5 : l5.length ≤ c5) (hR6 : RdL w0 A6 l6) (hL6 : l6.length ≤ c6) (r1 : Bool) (hc1 : r1 = true) : Bool → Exit → Act → World → Prop := Rets Try.prog Try.f7 (RedoKeeps.Post w0)
theorem RedoKeeps_p0 (K : Nat) (w0 : World) (l0 : List STask) (A0 : Option Addr) (c0 : Nat) (x1 : Int) (x2 : Int) (l3 : List SCome) (A3 : Option Addr) (c3 : Nat) (l4 : List Int) (A4 : Option Addr) (c4 : Nat) (l5 : List Int) (A5 : Option Addr) (c5 : Nat) (l6 : List Int) (A6 : Option Addr) (c6 : Nat) (hR0 : RdL w0 A0 l0) (hL0 : l0.length ≤ c0) (hR3 : RdL w0 A3 l3) (hL3 : l3.length ≤ c3) (hR4 : RdL w0 A4 l4) (hL4 : l4.length ≤ c4) (hR5 : RdL w0 A5 l5) (hL5 : l5.length ≤ c5) (hR6 : RdL w0 A6 l6) (hL6 : l6.length ≤ c6) (r1 : Bool) (hc1 : r1 = true) (o : Unit ⊕ Bool) (h : RedoKeeps.p0 l0 l3 l6 = some o) (w : World) (hS : St w0 w []) (Q : Exit → Act → World → Prop) (hQ : ∀ x a w, Outs (RedoKeeps.A0 K w0 l0 A0 c0 x1 x2 l3 A3 c3 l4 A4 c4 l5 A5 c5 l6 A6 c6 hR0 hL0 hR3 hL3 hR4 hL4 hR5 hL5 hR6 hL6 r1 hc1) (RedoKeeps.B0 K w0 l0 A0 c0 x1 x2 l3 A3 c3 l4 A4 c4 l5 A5 c5 l6 A6 c6 hR0 hL0 hR3 hL3 hR4 hL4 hR5 hL5 hR6 hL6 r1 hc1) o x a w → Q x a w) : WE Try.prog 164 (subF Try.f7 [1, 1, 0]) Q [(0, .slice A0 l0.length c0), (1, .int .i64 x1), (2, .int .i64 x2), (3, .slice A3 l3.length c3), (4, .slice A4 l4.length c4), (5, .slice A5 l5.length c5), (6, .slice A6 l6.length c6), (14, .bool false), (26, .bool r1), (27, .bool false)] w := by
  simp only [RedoKeeps.p0] at h
  refine we_seq fun K5 hK5 => ?_
  refine we_region [(0, 0), (1, 0), (2, 1), (3, 0), (4, 0), (5, 0), (6, 0), (7, 1), (8, 0), (9, 0), (10, 0), (11, 0), (12, 0), (13, 0), (14, 0)] rfl ?_
  refine ge_batch [0, 1] (ans := []) (vs := [(29, .int .i64 (l0.length : Int)), (28, .slice A0 l0.length c0)]) (l := []) (by kernel_rfl) trivial ?_
  refine ge_call (d := some 30) (f := 9) (args := #[.int .i64 (l0.length : Int)]) (by kernel_rfl) (few_ok (l0.length : Int) _ _ rfl) ?_
  rintro _ w2 ⟨rfl, hS3⟩
  refine ⟨_, rfl, hS3.below, ?_⟩
  have hS4 := hS.call hS3
  refine ge_batch [3, 4] (ans := []) (vs := [(32, .bool (!(few.f (l0.length : Int)))), (31, .bool (!(few.f (l0.length : Int))))]) (l := []) (by kernel_rfl) trivial ?_
  by_cases hc2 : (few.f (l0.length : Int)) = true
  · rw [if_pos hc2] at h
    refine ge_known (t := 32) (b := !(few.f (l0.length : Int))) (c := false) (by kernel_rfl) (congrArg (fun z => !z) hc2) ?_
    refine ge_batch [5, 6] (ans := []) (vs := [(34, .int .i64 (l3.length : Int)), (33, .slice A3 l3.length c3)]) (l := []) (by kernel_rfl) trivial ?_
    refine ge_call (d := some 35) (f := 9) (args := #[.int .i64 (l3.length : Int)]) (by kernel_rfl) (few_ok (l3.length : Int) _ _ rfl) ?_
    rintro _ w3 ⟨rfl, hS5⟩
    refine ⟨_, rfl, hS5.below, ?_⟩
    have hS6 := hS4.call hS5
    refine ge_batch [8, 9, 10] (ans := []) (vs := [(38, .bool (!(few.f (l3.length : Int)))), (37, .bool (!(few.f (l3.length : Int)))), (36, .bool (!(few.f (l3.length : Int))))]) (l := []) (by kernel_rfl) trivial ?_
    by_cases hc3 : (few.f (l3.length : Int)) = true
    · rw [if_pos hc3] at h
      refine ge_known (t := 38) (b := !(few.f (l3.length : Int))) (c := false) (by kernel_rfl) (congrArg (fun z => !z) hc3) ?_
      refine ge_batch [11, 12, 13, 14] (ans := []) (vs := [(42, .bool (decide ((l6.length : Int) > 1000))), (41, .bool (decide ((l6.length : Int) > 1000))), (40, .int .i64 (l6.length : Int)), (39, .slice A6 l6.length c6)]) (l := []) (by kernel_rfl) trivial ?_
      refine ge_nil fun a hF => hK5 _ _ ?_ a hF
      by_cases hc4 : (l6.length : Int) > 1000
      · rw [if_pos hc4] at h
        refine we_known (t := 42) (b := decide ((l6.length : Int) > 1000)) (v := true) (by kernel_rfl) (decide_eq_true hc4) ?_
        refine we_true (by kernel_rfl) ?_
        refine we_seq fun K6 hK6 => ?_
        refine we_region [(0, 0)] rfl ?_
        refine ge_batch [0] (ans := []) (vs := [(14, .bool true)]) (l := []) (by kernel_rfl) trivial ?_
        refine ge_nil fun a hF => hK6 _ _ ?_ a hF
        obtain rfl := Option.some.inj h
        exact we_ret fun a hF => hQ _ _ _ (Outs.out nofun ⟨rfl, (post_ret (rs := [.tmp 14]) (ans := []) (vs := [.bool true]) (l := []) rfl (by kernel_rfl) trivial ⟨rfl, hS6⟩) a hF⟩)
      · rw [if_neg hc4] at h
        refine we_known (t := 42) (b := decide ((l6.length : Int) > 1000)) (v := false) (by kernel_rfl) (decide_eq_false hc4) ?_
        refine we_false (by kernel_rfl) ?_
        obtain rfl := Option.some.inj h
        exact we_skip fun a hF => hQ _ _ _ (Outs.again ⟨hS6, hF.weaken ⟨by kernel_rfl, by kernel_rfl, by kernel_rfl, by kernel_rfl, by kernel_rfl, by kernel_rfl, by kernel_rfl, trivial⟩⟩)
    · rw [if_neg hc3] at h
      refine ge_known (t := 38) (b := !(few.f (l3.length : Int))) (c := true) (by kernel_rfl) (congrArg (fun z => !z) (Bool.eq_false_iff.2 hc3)) ?_
      refine ge_batch [11, 12, 13, 14] (ans := []) (vs := [(42, .bool true), (41, undef), (40, undef), (39, undef)]) (l := []) (by kernel_rfl) trivial ?_
      refine ge_nil fun a hF => hK5 _ _ ?_ a hF
      refine we_true (by kernel_rfl) ?_
      refine we_seq fun K7 hK7 => ?_
      refine we_region [(0, 0)] rfl ?_
      refine ge_batch [0] (ans := []) (vs := [(14, .bool true)]) (l := []) (by kernel_rfl) trivial ?_
      refine ge_nil fun a hF => hK7 _ _ ?_ a hF
      obtain rfl := Option.some.inj h
      exact we_ret fun a hF => hQ _ _ _ (Outs.out nofun ⟨rfl, (post_ret (rs := [.tmp 14]) (ans := []) (vs := [.bool true]) (l := []) rfl (by kernel_rfl) trivial ⟨rfl, hS6⟩) a hF⟩)
  · rw [if_neg hc2] at h
    refine ge_known (t := 32) (b := !(few.f (l0.length : Int))) (c := true) (by kernel_rfl) (congrArg (fun z => !z) (Bool.eq_false_iff.2 hc2)) ?_
    refine ge_batch [5, 6] (ans := []) (vs := [(34, undef), (33, undef)]) (l := []) (by kernel_rfl) trivial ?_
    refine ge_off rfl rfl rfl (by kernel_rfl) ?_
    refine ge_batch [8, 9, 10, 11, 12, 13, 14] (ans := []) (vs := [(42, .bool true), (41, undef), (40, undef), (39, undef), (38, .bool true), (37, .bool true), (36, undef)]) (l := []) (by kernel_rfl) trivial ?_
    refine ge_nil fun a hF => hK5 _ _ ?_ a hF
    refine we_true (by kernel_rfl) ?_
    refine we_seq fun K8 hK8 => ?_
    refine we_region [(0, 0)] rfl ?_
    refine ge_batch [0] (ans := []) (vs := [(14, .bool true)]) (l := []) (by kernel_rfl) trivial ?_
    refine ge_nil fun a hF => hK8 _ _ ?_ a hF
    obtain rfl := Option.some.inj h
    exact we_ret fun a hF => hQ _ _ _ (Outs.out nofun ⟨rfl, (post_ret (rs := [.tmp 14]) (ans := []) (vs := [.bool true]) (l := []) rfl (by kernel_rfl) trivial ⟨rfl, hS4⟩) a hF⟩)
abbrev RedoKeeps.A1 (K : Nat) (w0 : World) (l0 : List STask) (A0 : Option Addr) (c0 : Nat) (x1 : Int) (x2 : Int) (l3 : List SCome) (A3 : Option Addr) (c3 : Nat) (l4 : List Int) (A4 : Option Addr) (c4 : Nat) (l5 : List Int) (A5 : Option Addr) (c5 : Nat) (l6 : List Int) (A6 : Option Addr) (c6 : Nat) (hR0 : RdL w0 A0 l0) (hL0 : l0.length ≤ c0) (hR3 : RdL w0 A3 l3) (hL3 : l3.length ≤ c3) (hR4 : RdL w0 A4 l4) (hL4 : l4.length ≤ c4) (hR5 : RdL w0 A5 l5) (hL5 : l5.length ≤ c5) (hR6 : RdL w0 A6 l6) (hL6 : l6.length ≤ c6) (r1 : Bool) (hc1 : r1 = true) (r2 : (List SJob) × SFault) (b1 : Nat) (hc5 : r2.2.Code = 0) (Z1 : Option Addr) (cz1 : Nat) : Nat → Act → World → Prop := fun (s : Nat) a w => St w0 w [Own.blk b1 (.cells #[.int .i64 r2.2.Code, .int .i64 r2.2.At] 29 (0, 0)), Own.of (.slice Z1 r2.1.length cz1) 88 r2.1] ∧ Frm 164 a [(0, .slice A0 l0.length c0), (1, .int .i64 x1), (2, .int .i64 x2), (3, .slice A3 l3.length c3), (6, .slice A6 l6.length c6), (15, (.slice Z1 r2.1.length cz1)), (16, .pointer (some ⟨b1, 0, none⟩)), (54, .slice A6 l6.length c6), (55, .int .i64 (l6.length : Int)), (56, .int .i64 (s : Int))]
abbrev RedoKeeps.B1 (K : Nat) (w0 : World) (l0 : List STask) (A0 : Option Addr) (c0 : Nat) (x1 : Int) (x2 : Int) (l3 : List SCome) (A3 : Option Addr) (c3 : Nat) (l4 : List Int) (A4 : Option Addr) (c4 : Nat) (l5 : List Int) (A5 : Option Addr) (c5 : Nat) (l6 : List Int) (A6 : Option Addr) (c6 : Nat) (hR0 : RdL w0 A0 l0) (hL0 : l0.length ≤ c0) (hR3 : RdL w0 A3 l3) (hL3 : l3.length ≤ c3) (hR4 : RdL w0 A4 l4) (hL4 : l4.length ≤ c4) (hR5 : RdL w0 A5 l5) (hL5 : l5.length ≤ c5) (hR6 : RdL w0 A6 l6) (hL6 : l6.length ≤ c6) (r1 : Bool) (hc1 : r1 = true) (r2 : (List SJob) × SFault) (b1 : Nat) (hc5 : r2.2.Code = 0) (Z1 : Option Addr) (cz1 : Nat) : (Unit ⊕ Bool) → Exit → Act → World → Prop := Exits 0 (fun (s : Unit) a w => St w0 w [Own.blk b1 (.cells #[.int .i64 r2.2.Code, .int .i64 r2.2.At] 29 (0, 0)), Own.of (.slice Z1 r2.1.length cz1) 88 r2.1] ∧ Frm 164 a [(0, .slice A0 l0.length c0), (1, .int .i64 x1), (2, .int .i64 x2), (3, .slice A3 l3.length c3), (6, .slice A6 l6.length c6), (15, (.slice Z1 r2.1.length cz1)), (16, .pointer (some ⟨b1, 0, none⟩))]) (Rets Try.prog Try.f7 (RedoKeeps.Post w0))
theorem RedoKeeps_r1 (K : Nat) (w0 : World) (l0 : List STask) (A0 : Option Addr) (c0 : Nat) (x1 : Int) (x2 : Int) (l3 : List SCome) (A3 : Option Addr) (c3 : Nat) (l4 : List Int) (A4 : Option Addr) (c4 : Nat) (l5 : List Int) (A5 : Option Addr) (c5 : Nat) (l6 : List Int) (A6 : Option Addr) (c6 : Nat) (hR0 : RdL w0 A0 l0) (hL0 : l0.length ≤ c0) (hR3 : RdL w0 A3 l3) (hL3 : l3.length ≤ c3) (hR4 : RdL w0 A4 l4) (hL4 : l4.length ≤ c4) (hR5 : RdL w0 A5 l5) (hL5 : l5.length ≤ c5) (hR6 : RdL w0 A6 l6) (hL6 : l6.length ≤ c6) (r1 : Bool) (hc1 : r1 = true) (r2 : (List SJob) × SFault) (b1 : Nat) (hc5 : r2.2.Code = 0) (Z1 : Option Addr) (cz1 : Nat) (s : Nat) (o : Nat ⊕ (Unit ⊕ Bool)) (h : RedoKeeps.r1 x1 l6 s = some o) (a : Act) (w : World) (hA : RedoKeeps.A1 K w0 l0 A0 c0 x1 x2 l3 A3 c3 l4 A4 c4 l5 A5 c5 l6 A6 c6 hR0 hL0 hR3 hL3 hR4 hL4 hR5 hL5 hR6 hL6 r1 hc1 r2 b1 hc5 Z1 cz1 s a w) (Q : Exit → Act → World → Prop) (hQ : ∀ x a w, Outs (RedoKeeps.A1 K w0 l0 A0 c0 x1 x2 l3 A3 c3 l4 A4 c4 l5 A5 c5 l6 A6 c6 hR0 hL0 hR3 hL3 hR4 hL4 hR5 hL5 hR6 hL6 r1 hc1 r2 b1 hc5 Z1 cz1) (RedoKeeps.B1 K w0 l0 A0 c0 x1 x2 l3 A3 c3 l4 A4 c4 l5 A5 c5 l6 A6 c6 hR0 hL0 hR3 hL3 hR4 hL4 hR5 hL5 hR6 hL6 r1 hc1 r2 b1 hc5 Z1 cz1) o x a w → Q x a w) : (subF Try.f7 [1, 1, 1, 1, 1, 0, 1, 0, 0]).wp Try.prog Q a w := by
  obtain ⟨i1, hs⟩ : ∃ z, z = s := ⟨s, rfl⟩
  subst hs
  obtain ⟨hS, hF⟩ := hA
  replace hS : St w0 w [Own.blk b1 (.cells #[.int .i64 r2.2.Code, .int .i64 r2.2.At] 29 (0, 0)), Own.of (.slice Z1 r2.1.length cz1) 88 r2.1] := hS
  simp only [RedoKeeps.r1] at h
  refine (?_ : WE Try.prog 164 (subF Try.f7 [1, 1, 1, 1, 1, 0, 1, 0, 0]) Q [(0, .slice A0 l0.length c0), (1, .int .i64 x1), (2, .int .i64 x2), (3, .slice A3 l3.length c3), (6, .slice A6 l6.length c6), (15, (.slice Z1 r2.1.length cz1)), (16, .pointer (some ⟨b1, 0, none⟩)), (54, .slice A6 l6.length c6), (55, .int .i64 (l6.length : Int)), (56, .int .i64 (i1 : Int))] w) a hF
  clear hF a
  refine we_seq fun K14 hK14 => ?_
  refine we_region [(0, 0)] rfl ?_
  refine ge_batch [0] (ans := []) (vs := [(57, .bool (decide ((i1 : Int) < (l6.length : Int))))]) (l := []) (by kernel_rfl) trivial ?_
  refine ge_nil fun a hF => hK14 _ _ ?_ a hF
  refine we_seq fun K15 hK15 => ?_
  by_cases hc6 : (i1 : Int) < (l6.length : Int)
  · rw [if_pos hc6] at h
    refine we_known (t := 57) (b := decide ((i1 : Int) < (l6.length : Int))) (v := true) (by kernel_rfl) (decide_eq_true hc6) ?_
    refine we_true (by kernel_rfl) ?_
    refine we_skip fun a hF => hK15 _ _ ?_ a hF
    refine we_seq fun K16 hK16 => ?_
    refine we_block ?_
    refine we_seq fun K17 hK17 => ?_
    refine we_region [(0, 0), (1, 0), (2, 0), (3, 0), (4, 0)] rfl ?_
    refine ge_batch [0] (ans := []) (vs := [(58, .int .i64 (i1 : Int))]) (l := []) (by kernel_rfl) trivial ?_
    rcases hx2 : l6[i1]? with _ | e1
    · rw [hx2] at h; cases h
    rw [hx2] at h
    simp only [] at h
    refine ge_index (d := 59) (ty := 0) (t := 24) (el := 3) (sz := 1) (m := l6.length) (c := c6) (x := (.tmp 54)) (y := (.tmp 56)) (A := A6) (k' := .i64) (j := (i1 : Int)) (jn := i1) (b0 := blkOf A6) (o0 := offOf A6) (by kernel_rfl) (by kernel_rfl) (by kernel_rfl) (by kernel_rfl) (by kernel_rfl) ((hS.rd hR6).eqSome (pos_of_get hx2)) rfl (lt_of_get hx2) ?_
    refine ge_batch [2, 3, 4] (ans := [.val (.int .i64 e1)]) (vs := [(18, .int .i64 e1), (17, .int .i64 (i1 : Int)), (60, .int .i64 e1)]) (l := [.loaded ⟨blkOf A6, offOf A6 + i1 * 1, none⟩ (.int .i64 e1)]) (by kernel_rfl) ⟨RdL.cell (j := 0) (hS.rd hR6) hx2 rfl, trivial⟩ ?_
    refine ge_nil fun a hF => hK17 _ _ ?_ a hF
    refine we_seq fun K18 hK18 => ?_
    refine we_region [(0, 0), (1, 0), (2, 0), (3, 0), (4, 0), (5, 0), (6, 0), (7, 0), (8, 0), (9, 0), (10, 0), (11, 0), (12, 0), (13, 0), (14, 0), (15, 0), (16, 0), (17, 0), (18, 0), (19, 0), (20, 0)] rfl ?_
    refine ge_batch [0, 1, 2] (ans := []) (vs := [(63, .bool (decide (e1 < 0))), (62, .bool (decide (e1 < 0))), (61, .int .i64 e1)]) (l := []) (by kernel_rfl) trivial ?_
    by_cases hc7 : e1 < 0
    · rw [if_pos hc7] at h
      refine ge_known (t := 63) (b := decide (e1 < 0)) (c := true) (by kernel_rfl) (decide_eq_true hc7) ?_
      refine ge_batch [3, 4, 5, 6, 7, 8, 9, 10, 11, 12, 13, 14, 15, 16, 17, 18, 19, 20] (ans := []) (vs := [(81, .bool true), (80, undef), (79, undef), (78, undef), (77, undef), (76, undef), (75, undef), (74, undef), (73, undef), (72, undef), (71, undef), (70, undef), (69, undef), (68, undef), (67, .bool true), (66, .bool true), (65, undef), (64, undef)]) (l := []) (by kernel_rfl) trivial ?_
      refine ge_nil fun a hF => hK18 _ _ ?_ a hF
      refine we_true (by kernel_rfl) ?_
      refine we_seq fun K19 hK19 => ?_
      refine we_region [(0, 0)] rfl ?_
      refine ge_batch [0] (ans := []) (vs := [(14, .bool true)]) (l := []) (by kernel_rfl) trivial ?_
      refine ge_nil fun a hF => hK19 _ _ ?_ a hF
      have hS15 := hS.takeN 0
      obtain rfl := Option.some.inj h
      exact we_ret fun a hF => hQ _ _ _ (Outs.out nofun (Exits.on ⟨rfl, (post_ret (rs := [.tmp 14]) (ans := []) (vs := [.bool true]) (l := []) rfl (by kernel_rfl) trivial ⟨rfl, hS15⟩) a hF⟩))
    · rw [if_neg hc7] at h
      refine ge_known (t := 63) (b := decide (e1 < 0)) (c := false) (by kernel_rfl) (decide_eq_false hc7) ?_
      refine ge_batch [3, 4, 5, 6] (ans := []) (vs := [(67, .bool (decide (e1 > 20000))), (66, .bool (decide (e1 > 20000))), (65, .bool (decide (e1 > 20000))), (64, .int .i64 e1)]) (l := []) (by kernel_rfl) trivial ?_
      by_cases hc8 : e1 > 20000
      · rw [if_pos hc8] at h
        refine ge_known (t := 67) (b := decide (e1 > 20000)) (c := true) (by kernel_rfl) (decide_eq_true hc8) ?_
        refine ge_batch [7, 8, 9, 10, 11, 12, 13, 14, 15, 16, 17, 18, 19, 20] (ans := []) (vs := [(81, .bool true), (80, undef), (79, undef), (78, undef), (77, undef), (76, undef), (75, undef), (74, undef), (73, undef), (72, undef), (71, undef), (70, undef), (69, undef), (68, undef)]) (l := []) (by kernel_rfl) trivial ?_
        refine ge_nil fun a hF => hK18 _ _ ?_ a hF
        refine we_true (by kernel_rfl) ?_
        refine we_seq fun K20 hK20 => ?_
        refine we_region [(0, 0)] rfl ?_
        refine ge_batch [0] (ans := []) (vs := [(14, .bool true)]) (l := []) (by kernel_rfl) trivial ?_
        refine ge_nil fun a hF => hK20 _ _ ?_ a hF
        have hS16 := hS.takeN 0
        obtain rfl := Option.some.inj h
        exact we_ret fun a hF => hQ _ _ _ (Outs.out nofun (Exits.on ⟨rfl, (post_ret (rs := [.tmp 14]) (ans := []) (vs := [.bool true]) (l := []) rfl (by kernel_rfl) trivial ⟨rfl, hS16⟩) a hF⟩))
      · rw [if_neg hc8] at h
        refine ge_known (t := 67) (b := decide (e1 > 20000)) (c := false) (by kernel_rfl) (decide_eq_false hc8) ?_
        refine ge_batch [7, 8, 9] (ans := []) (vs := [(70, .bool (decide ((i1 : Int) > 0))), (69, .bool (decide ((i1 : Int) > 0))), (68, .int .i64 (i1 : Int))]) (l := []) (by kernel_rfl) trivial ?_
        by_cases hc9 : (i1 : Int) > 0
        · rw [if_pos hc9] at h
          refine ge_known (t := 70) (b := decide ((i1 : Int) > 0)) (c := true) (by kernel_rfl) (decide_eq_true hc9) ?_
          refine ge_batch [10, 11, 12, 13] (ans := []) (vs := [(74, .int .i64 (IntKind.i64.wrap ((i1 : Int) - 1))), (73, .int .i64 (i1 : Int)), (72, .slice A6 l6.length c6), (71, .int .i64 e1)]) (l := []) (by kernel_rfl) trivial ?_
          by_cases hc10 : 0 ≤ (IntKind.i64.wrap ((i1 : Int) - 1))
          · rw [if_pos hc10] at h
            rcases hx3 : l6[(IntKind.i64.wrap ((i1 : Int) - 1)).toNat]? with _ | e2
            · rw [hx3] at h; cases h
            rw [hx3] at h
            simp only [] at h
            refine ge_index (d := 75) (ty := 0) (t := 24) (el := 3) (sz := 1) (m := l6.length) (c := c6) (x := (.tmp 72)) (y := (.tmp 74)) (A := A6) (k' := .i64) (j := (IntKind.i64.wrap ((i1 : Int) - 1))) (jn := ((IntKind.i64.wrap ((i1 : Int) - 1)).toNat)) (b0 := blkOf A6) (o0 := offOf A6) (by kernel_rfl) (by kernel_rfl) (by kernel_rfl) (by kernel_rfl) (by kernel_rfl) ((hS.rd hR6).eqSome (pos_of_get hx3)) (Int.toNat_of_nonneg hc10).symm (lt_of_get hx3) ?_
            refine ge_batch [15, 16, 17, 18, 19, 20] (ans := [.val (.int .i64 e2)]) (vs := [(81, .bool (decide ((IntKind.i64.wrap (e1 - e2)) < x1))), (80, .bool (decide ((IntKind.i64.wrap (e1 - e2)) < x1))), (79, .bool (decide ((IntKind.i64.wrap (e1 - e2)) < x1))), (78, .int .i64 x1), (77, .int .i64 (IntKind.i64.wrap (e1 - e2))), (76, .int .i64 e2)]) (l := [.loaded ⟨blkOf A6, offOf A6 + ((IntKind.i64.wrap ((i1 : Int) - 1)).toNat) * 1, none⟩ (.int .i64 e2)]) (by kernel_rfl) ⟨RdL.cell (j := 0) (hS.rd hR6) hx3 rfl, trivial⟩ ?_
            refine ge_nil fun a hF => hK18 _ _ ?_ a hF
            by_cases hc11 : (IntKind.i64.wrap (e1 - e2)) < x1
            · rw [if_pos hc11] at h
              refine we_known (t := 81) (b := decide ((IntKind.i64.wrap (e1 - e2)) < x1)) (v := true) (by kernel_rfl) (decide_eq_true hc11) ?_
              refine we_true (by kernel_rfl) ?_
              refine we_seq fun K21 hK21 => ?_
              refine we_region [(0, 0)] rfl ?_
              refine ge_batch [0] (ans := []) (vs := [(14, .bool true)]) (l := []) (by kernel_rfl) trivial ?_
              refine ge_nil fun a hF => hK21 _ _ ?_ a hF
              have hS17 := hS.takeN 0
              obtain rfl := Option.some.inj h
              exact we_ret fun a hF => hQ _ _ _ (Outs.out nofun (Exits.on ⟨rfl, (post_ret (rs := [.tmp 14]) (ans := []) (vs := [.bool true]) (l := []) rfl (by kernel_rfl) trivial ⟨rfl, hS17⟩) a hF⟩))
            · rw [if_neg hc11] at h
              refine we_known (t := 81) (b := decide ((IntKind.i64.wrap (e1 - e2)) < x1)) (v := false) (by kernel_rfl) (decide_eq_false hc11) ?_
              refine we_false (by kernel_rfl) ?_
              refine we_skip fun a hF => hK16 _ _ ?_ a hF
              refine we_region [(0, 0), (1, 0)] rfl ?_
              refine ge_addn (d := 82) (ty := 3) (x := (.tmp 56)) (y := (.const (.int .i64 1))) (t := 3) (t2 := 3) (k := .i64) (m := i1) (by kernel_rfl) (by kernel_rfl) (by kernel_rfl) (by have h0 := hR6.small; omega) ?_
              refine ge_batch [1] (ans := []) (vs := [(56, .int .i64 ((i1 + 1 : Nat) : Int))]) (l := []) (by kernel_rfl) trivial ?_
              have hS18 := hS.bring 1 rfl
              have hS19 := hS18.bring 1 rfl
              obtain rfl := Option.some.inj h
              exact ge_nil fun a hF => hQ _ _ _ (Outs.again ⟨hS19, hF.weaken ⟨by kernel_rfl, by kernel_rfl, by kernel_rfl, by kernel_rfl, by kernel_rfl, by kernel_rfl, by kernel_rfl, by kernel_rfl, by kernel_rfl, by kernel_rfl, trivial⟩⟩)
          · rw [if_neg hc10] at h
            cases h
        · rw [if_neg hc9] at h
          refine ge_known (t := 70) (b := decide ((i1 : Int) > 0)) (c := false) (by kernel_rfl) (decide_eq_false hc9) ?_
          refine ge_batch [10, 11, 12, 13, 14, 15, 16, 17, 18, 19, 20] (ans := []) (vs := [(81, .bool false), (80, .bool false), (79, undef), (78, undef), (77, undef), (76, undef), (75, undef), (74, undef), (73, undef), (72, undef), (71, undef)]) (l := []) (by kernel_rfl) trivial ?_
          refine ge_nil fun a hF => hK18 _ _ ?_ a hF
          refine we_false (by kernel_rfl) ?_
          refine we_skip fun a hF => hK16 _ _ ?_ a hF
          refine we_region [(0, 0), (1, 0)] rfl ?_
          refine ge_addn (d := 82) (ty := 3) (x := (.tmp 56)) (y := (.const (.int .i64 1))) (t := 3) (t2 := 3) (k := .i64) (m := i1) (by kernel_rfl) (by kernel_rfl) (by kernel_rfl) (by have h0 := hR6.small; omega) ?_
          refine ge_batch [1] (ans := []) (vs := [(56, .int .i64 ((i1 + 1 : Nat) : Int))]) (l := []) (by kernel_rfl) trivial ?_
          have hS20 := hS.bring 1 rfl
          have hS21 := hS20.bring 1 rfl
          obtain rfl := Option.some.inj h
          exact ge_nil fun a hF => hQ _ _ _ (Outs.again ⟨hS21, hF.weaken ⟨by kernel_rfl, by kernel_rfl, by kernel_rfl, by kernel_rfl, by kernel_rfl, by kernel_rfl, by kernel_rfl, by kernel_rfl, by kernel_rfl, by kernel_rfl, trivial⟩⟩)
  · rw [if_neg hc6] at h
    refine we_known (t := 57) (b := decide ((i1 : Int) < (l6.length : Int))) (v := false) (by kernel_rfl) (decide_eq_false hc6) ?_
    refine we_false (by kernel_rfl) ?_
    have hS22 := hS.bring 1 rfl
    have hS23 := hS22.bring 1 rfl
    obtain rfl := Option.some.inj h
    exact we_exit fun a hF => hQ _ _ _ (Outs.out nofun (Exits.here ⟨hS23, hF.weaken ⟨by kernel_rfl, by kernel_rfl, by kernel_rfl, by kernel_rfl, by kernel_rfl, by kernel_rfl, by kernel_rfl, trivial⟩⟩))
abbrev RedoKeeps.A3 (K : Nat) (w0 : World) (l0 : List STask) (A0 : Option Addr) (c0 : Nat) (x1 : Int) (x2 : Int) (l3 : List SCome) (A3 : Option Addr) (c3 : Nat) (l4 : List Int) (A4 : Option Addr) (c4 : Nat) (l5 : List Int) (A5 : Option Addr) (c5 : Nat) (l6 : List Int) (A6 : Option Addr) (c6 : Nat) (hR0 : RdL w0 A0 l0) (hL0 : l0.length ≤ c0) (hR3 : RdL w0 A3 l3) (hL3 : l3.length ≤ c3) (hR4 : RdL w0 A4 l4) (hL4 : l4.length ≤ c4) (hR5 : RdL w0 A5 l5) (hL5 : l5.length ≤ c5) (hR6 : RdL w0 A6 l6) (hL6 : l6.length ≤ c6) (r1 : Bool) (hc1 : r1 = true) (r2 : (List SJob) × SFault) (b1 : Nat) (hc5 : r2.2.Code = 0) (Z1 : Option Addr) (cz1 : Nat) (r3 : Int) (hc12 : ¬ (r3 < 0)) (r4 : SPlayed × SFault) (b2 : Nat) (Z2 : Option Addr) (cz2 : Nat) (Z3 : Option Addr) (cz3 : Nat) (hc13 : r4.2.Code = 0) (hc14 : (r4.1.Ends.length : Int) = (l3.length : Int)) (i2 : Nat) (hc15 : (i2 : Int) < (l0.length : Int)) (r5 : Int × SFault) (b3 : Nat) (hc16 : r5.2.Code = 0) : Nat → Act → World → Prop := fun (s : Nat) a w => St w0 w [Own.blk b2 (.cells #[(.slice Z2 r4.1.Runs.length cz2), (.slice Z3 r4.1.Ends.length cz3)] 37 (0, 0)), Own.of (.slice Z2 r4.1.Runs.length cz2) 3 r4.1.Runs, Own.of (.slice Z3 r4.1.Ends.length cz3) 3 r4.1.Ends] ∧ Frm 164 a [(0, .slice A0 l0.length c0), (1, .int .i64 x1), (2, .int .i64 x2), (3, .slice A3 l3.length c3), (20, .pointer (some ⟨b2, 0, none⟩)), (21, .int .i64 (i2 : Int)), (22, .int .i64 r5.1), (116, .int .i64 (l0.length : Int)), (117, .int .i64 (i2 : Int)), (131, .slice A3 l3.length c3), (132, .int .i64 (l3.length : Int)), (133, .int .i64 (s : Int))]
abbrev RedoKeeps.B3 (K : Nat) (w0 : World) (l0 : List STask) (A0 : Option Addr) (c0 : Nat) (x1 : Int) (x2 : Int) (l3 : List SCome) (A3 : Option Addr) (c3 : Nat) (l4 : List Int) (A4 : Option Addr) (c4 : Nat) (l5 : List Int) (A5 : Option Addr) (c5 : Nat) (l6 : List Int) (A6 : Option Addr) (c6 : Nat) (hR0 : RdL w0 A0 l0) (hL0 : l0.length ≤ c0) (hR3 : RdL w0 A3 l3) (hL3 : l3.length ≤ c3) (hR4 : RdL w0 A4 l4) (hL4 : l4.length ≤ c4) (hR5 : RdL w0 A5 l5) (hL5 : l5.length ≤ c5) (hR6 : RdL w0 A6 l6) (hL6 : l6.length ≤ c6) (r1 : Bool) (hc1 : r1 = true) (r2 : (List SJob) × SFault) (b1 : Nat) (hc5 : r2.2.Code = 0) (Z1 : Option Addr) (cz1 : Nat) (r3 : Int) (hc12 : ¬ (r3 < 0)) (r4 : SPlayed × SFault) (b2 : Nat) (Z2 : Option Addr) (cz2 : Nat) (Z3 : Option Addr) (cz3 : Nat) (hc13 : r4.2.Code = 0) (hc14 : (r4.1.Ends.length : Int) = (l3.length : Int)) (i2 : Nat) (hc15 : (i2 : Int) < (l0.length : Int)) (r5 : Int × SFault) (b3 : Nat) (hc16 : r5.2.Code = 0) : (Unit ⊕ Bool) → Exit → Act → World → Prop := Exits 4 (fun (s : Unit) a w => St w0 w [Own.blk b2 (.cells #[(.slice Z2 r4.1.Runs.length cz2), (.slice Z3 r4.1.Ends.length cz3)] 37 (0, 0)), Own.of (.slice Z2 r4.1.Runs.length cz2) 3 r4.1.Runs, Own.of (.slice Z3 r4.1.Ends.length cz3) 3 r4.1.Ends] ∧ Frm 164 a [(0, .slice A0 l0.length c0), (1, .int .i64 x1), (2, .int .i64 x2), (3, .slice A3 l3.length c3), (20, .pointer (some ⟨b2, 0, none⟩)), (116, .int .i64 (l0.length : Int)), (117, .int .i64 (i2 : Int))]) (Rets Try.prog Try.f7 (RedoKeeps.Post w0))
theorem RedoKeeps_r3 (K : Nat) (w0 : World) (l0 : List STask) (A0 : Option Addr) (c0 : Nat) (x1 : Int) (x2 : Int) (l3 : List SCome) (A3 : Option Addr) (c3 : Nat) (l4 : List Int) (A4 : Option Addr) (c4 : Nat) (l5 : List Int) (A5 : Option Addr) (c5 : Nat) (l6 : List Int) (A6 : Option Addr) (c6 : Nat) (hR0 : RdL w0 A0 l0) (hL0 : l0.length ≤ c0) (hR3 : RdL w0 A3 l3) (hL3 : l3.length ≤ c3) (hR4 : RdL w0 A4 l4) (hL4 : l4.length ≤ c4) (hR5 : RdL w0 A5 l5) (hL5 : l5.length ≤ c5) (hR6 : RdL w0 A6 l6) (hL6 : l6.length ≤ c6) (r1 : Bool) (hc1 : r1 = true) (r2 : (List SJob) × SFault) (b1 : Nat) (hc5 : r2.2.Code = 0) (Z1 : Option Addr) (cz1 : Nat) (r3 : Int) (hc12 : ¬ (r3 < 0)) (r4 : SPlayed × SFault) (b2 : Nat) (Z2 : Option Addr) (cz2 : Nat) (Z3 : Option Addr) (cz3 : Nat) (hc13 : r4.2.Code = 0) (hc14 : (r4.1.Ends.length : Int) = (l3.length : Int)) (i2 : Nat) (hc15 : (i2 : Int) < (l0.length : Int)) (r5 : Int × SFault) (b3 : Nat) (hc16 : r5.2.Code = 0) (s : Nat) (o : Nat ⊕ (Unit ⊕ Bool)) (h : RedoKeeps.r3 l3 r4 i2 r5 s = some o) (a : Act) (w : World) (hA : RedoKeeps.A3 K w0 l0 A0 c0 x1 x2 l3 A3 c3 l4 A4 c4 l5 A5 c5 l6 A6 c6 hR0 hL0 hR3 hL3 hR4 hL4 hR5 hL5 hR6 hL6 r1 hc1 r2 b1 hc5 Z1 cz1 r3 hc12 r4 b2 Z2 cz2 Z3 cz3 hc13 hc14 i2 hc15 r5 b3 hc16 s a w) (Q : Exit → Act → World → Prop) (hQ : ∀ x a w, Outs (RedoKeeps.A3 K w0 l0 A0 c0 x1 x2 l3 A3 c3 l4 A4 c4 l5 A5 c5 l6 A6 c6 hR0 hL0 hR3 hL3 hR4 hL4 hR5 hL5 hR6 hL6 r1 hc1 r2 b1 hc5 Z1 cz1 r3 hc12 r4 b2 Z2 cz2 Z3 cz3 hc13 hc14 i2 hc15 r5 b3 hc16) (RedoKeeps.B3 K w0 l0 A0 c0 x1 x2 l3 A3 c3 l4 A4 c4 l5 A5 c5 l6 A6 c6 hR0 hL0 hR3 hL3 hR4 hL4 hR5 hL5 hR6 hL6 r1 hc1 r2 b1 hc5 Z1 cz1 r3 hc12 r4 b2 Z2 cz2 Z3 cz3 hc13 hc14 i2 hc15 r5 b3 hc16) o x a w → Q x a w) : (subF Try.f7 [1, 1, 1, 1, 1, 1, 1, 1, 1, 1, 1, 0, 1, 0, 0, 1, 1, 0, 0, 1, 1, 1, 1, 0, 0]).wp Try.prog Q a w := by
  obtain ⟨i3, hs⟩ : ∃ z, z = s := ⟨s, rfl⟩
  subst hs
  obtain ⟨hS, hF⟩ := hA
  replace hS : St w0 w [Own.blk b2 (.cells #[(.slice Z2 r4.1.Runs.length cz2), (.slice Z3 r4.1.Ends.length cz3)] 37 (0, 0)), Own.of (.slice Z2 r4.1.Runs.length cz2) 3 r4.1.Runs, Own.of (.slice Z3 r4.1.Ends.length cz3) 3 r4.1.Ends] := hS
  simp only [RedoKeeps.r3] at h
  refine (?_ : WE Try.prog 164 (subF Try.f7 [1, 1, 1, 1, 1, 1, 1, 1, 1, 1, 1, 0, 1, 0, 0, 1, 1, 0, 0, 1, 1, 1, 1, 0, 0]) Q [(0, .slice A0 l0.length c0), (1, .int .i64 x1), (2, .int .i64 x2), (3, .slice A3 l3.length c3), (20, .pointer (some ⟨b2, 0, none⟩)), (21, .int .i64 (i2 : Int)), (22, .int .i64 r5.1), (116, .int .i64 (l0.length : Int)), (117, .int .i64 (i2 : Int)), (131, .slice A3 l3.length c3), (132, .int .i64 (l3.length : Int)), (133, .int .i64 (i3 : Int))] w) a hF
  clear hF a
  refine we_seq fun K41 hK41 => ?_
  refine we_region [(0, 0)] rfl ?_
  refine ge_batch [0] (ans := []) (vs := [(134, .bool (decide ((i3 : Int) < (l3.length : Int))))]) (l := []) (by kernel_rfl) trivial ?_
  refine ge_nil fun a hF => hK41 _ _ ?_ a hF
  refine we_seq fun K42 hK42 => ?_
  by_cases hc17 : (i3 : Int) < (l3.length : Int)
  · rw [if_pos hc17] at h
    refine we_known (t := 134) (b := decide ((i3 : Int) < (l3.length : Int))) (v := true) (by kernel_rfl) (decide_eq_true hc17) ?_
    refine we_true (by kernel_rfl) ?_
    refine we_skip fun a hF => hK42 _ _ ?_ a hF
    refine we_seq fun K43 hK43 => ?_
    refine we_block ?_
    refine we_seq fun K44 hK44 => ?_
    refine we_region [(0, 0), (1, 0), (2, 0), (3, 1), (4, 0), (5, 2)] rfl ?_
    refine ge_batch [0] (ans := []) (vs := [(135, .int .i64 (i3 : Int))]) (l := []) (by kernel_rfl) trivial ?_
    rcases hx6 : l3[i3]? with _ | e3
    · rw [hx6] at h; cases h
    rw [hx6] at h
    simp only [] at h
    refine ge_index (d := 136) (ty := 0) (t := 23) (el := 33) (sz := 2) (m := l3.length) (c := c3) (x := (.tmp 131)) (y := (.tmp 133)) (A := A3) (k' := .i64) (j := (i3 : Int)) (jn := i3) (b0 := blkOf A3) (o0 := offOf A3) (by kernel_rfl) (by kernel_rfl) (by kernel_rfl) (by kernel_rfl) (by kernel_rfl) ((hS.rd hR3).eqSome (pos_of_get hx6)) rfl (lt_of_get hx6) ?_
    refine ge_batch [2] (ans := [.val (.int .i64 e3.Task), .val (.int .i64 e3.At)]) (vs := [(137, .agg #[.int .i64 e3.Task, .int .i64 e3.At])]) (l := [.loaded ⟨blkOf A3, offOf A3 + i3 * 2, none⟩ (.int .i64 e3.Task), .loaded ⟨blkOf A3, offOf A3 + i3 * 2 + 1, none⟩ (.int .i64 e3.At)]) (by kernel_rfl) ⟨RdL.cell (j := 0) (hS.rd hR3) hx6 rfl, RdL.cell (j := 1) (hS.rd hR3) hx6 rfl, trivial⟩ ?_
    refine ge_new (d := some 25) (o := .cells #[.int .i64 0, .int .i64 0] 33) (v := fun b => .pointer (some ⟨b, 0, none⟩)) hS (fun b => by kernel_rfl) fun b4 w17 hx7 hS49 => ?_
    refine ge_batch [4] (ans := []) (vs := [(24, .int .i64 (i3 : Int))]) (l := []) (by kernel_rfl) trivial ?_
    refine ge_set (b := b4) (j := 0) (cs := #[.int .i64 0, .int .i64 0]) (t := 33) (vs := [.int .i64 e3.Task, .int .i64 e3.At]) hS49 (by kernel_rfl) rfl rfl fun w18 hS50 => ?_
    have hS51 : St w0 w18 [Own.blk b4 (.cells #[.int .i64 e3.Task, .int .i64 e3.At] 33 (0, 0)), Own.blk b2 (.cells #[(.slice Z2 r4.1.Runs.length cz2), (.slice Z3 r4.1.Ends.length cz3)] 37 (0, 0)), Own.of (.slice Z2 r4.1.Runs.length cz2) 3 r4.1.Runs, Own.of (.slice Z3 r4.1.Ends.length cz3) 3 r4.1.Ends] := hS50
    refine ge_nil fun a hF => hK44 _ _ ?_ a hF
    refine we_seq fun K45 hK45 => ?_
    refine we_draws (by kernel_rfl) [(0, 0), (1, 0), (2, 0), (3, 0), (4, 0), (5, 0), (6, 0), (7, 0), (8, 0), (9, 0), (10, 0), (11, 0), (12, 0), (13, 0), (14, 0), (15, 0), (16, 0), (17, 0), (18, 0), (19, 0), (20, 0), (21, 0), (22, 0), (23, 0)] (by kernel_rfl) ?_
    have hS52 := hS51.drew
    refine ge_batch [0, 1, 2, 3, 4] (ans := [.val (.int .i64 e3.Task)]) (vs := [(142, .bool (e3.Task == (i2 : Int))), (141, .bool (e3.Task == (i2 : Int))), (140, .int .i64 (i2 : Int)), (139, .int .i64 e3.Task), (138, .pointer (some ⟨b4, 0, none⟩))]) (l := [.loaded ⟨b4, 0, none⟩ (.int .i64 e3.Task)]) (by kernel_rfl) ⟨hS52.cell 0 rfl rfl, trivial⟩ ?_
    by_cases hc18 : e3.Task = (i2 : Int)
    · rw [if_pos hc18] at h
      refine ge_known (t := 142) (b := (e3.Task == (i2 : Int))) (c := true) (by kernel_rfl) (beq_iff_eq.2 hc18) ?_
      refine ge_batch [5, 6, 7] (ans := [.val ((.slice Z3 r4.1.Ends.length cz3))]) (vs := [(145, .int .i64 (i3 : Int)), (144, (.slice Z3 r4.1.Ends.length cz3)), (143, .pointer (some ⟨b2, 1, none⟩))]) (l := [.loaded ⟨b2, 1, none⟩ ((.slice Z3 r4.1.Ends.length cz3))]) (by kernel_rfl) ⟨hS52.cell 1 rfl rfl, trivial⟩ ?_
      rcases hx8 : r4.1.Ends[i3]? with _ | e4
      · rw [hx8] at h; cases h
      rw [hx8] at h
      simp only [] at h
      refine ge_index (d := 146) (ty := 0) (t := 24) (el := 3) (sz := 1) (m := r4.1.Ends.length) (c := cz3) (x := (.tmp 144)) (y := (.tmp 145)) (A := Z3) (k' := .i64) (j := (i3 : Int)) (jn := i3) (b0 := blkOf Z3) (o0 := offOf Z3) (by kernel_rfl) (by kernel_rfl) (by kernel_rfl) (by kernel_rfl) (by kernel_rfl) ((hS52.rdAt 3 rfl).eqSome (pos_of_get hx8)) rfl (lt_of_get hx8) ?_
      refine ge_batch [9, 10, 11] (ans := [.val (.int .i64 e4)]) (vs := [(149, .bool (decide (e4 < 0))), (148, .bool (decide (e4 < 0))), (147, .int .i64 e4)]) (l := [.loaded ⟨blkOf Z3, offOf Z3 + i3 * 1, none⟩ (.int .i64 e4)]) (by kernel_rfl) ⟨RdL.cell (j := 0) (hS52.rdAt 3 rfl) hx8 rfl, trivial⟩ ?_
      by_cases hc19 : e4 < 0
      · rw [if_pos hc19] at h
        refine ge_known (t := 149) (b := decide (e4 < 0)) (c := true) (by kernel_rfl) (decide_eq_true hc19) ?_
        refine ge_batch [12, 13, 14, 15, 16, 17, 18, 19, 20, 21, 22, 23] (ans := []) (vs := [(161, .bool true), (160, .bool true), (159, undef), (158, undef), (157, undef), (156, undef), (155, undef), (154, undef), (153, undef), (152, undef), (151, undef), (150, undef)]) (l := []) (by kernel_rfl) trivial ?_
        refine ge_nil fun a hF => hK45 _ _ ?_ a hF
        refine we_true (by kernel_rfl) ?_
        refine we_seq fun K46 hK46 => ?_
        refine we_region [(0, 0)] rfl ?_
        refine ge_batch [0] (ans := []) (vs := [(14, .bool false)]) (l := []) (by kernel_rfl) trivial ?_
        refine ge_nil fun a hF => hK46 _ _ ?_ a hF
        have hS53 := hS52.takeN 0
        obtain rfl := Option.some.inj h
        exact we_ret fun a hF => hQ _ _ _ (Outs.out nofun (Exits.on ⟨rfl, (post_ret (rs := [.tmp 14]) (ans := []) (vs := [.bool false]) (l := []) rfl (by kernel_rfl) trivial ⟨rfl, hS53⟩) a hF⟩))
      · rw [if_neg hc19] at h
        refine ge_known (t := 149) (b := decide (e4 < 0)) (c := false) (by kernel_rfl) (decide_eq_false hc19) ?_
        refine ge_batch [12, 13, 14] (ans := [.val ((.slice Z3 r4.1.Ends.length cz3))]) (vs := [(152, .int .i64 (i3 : Int)), (151, (.slice Z3 r4.1.Ends.length cz3)), (150, .pointer (some ⟨b2, 1, none⟩))]) (l := [.loaded ⟨b2, 1, none⟩ ((.slice Z3 r4.1.Ends.length cz3))]) (by kernel_rfl) ⟨hS52.cell 1 rfl rfl, trivial⟩ ?_
        refine ge_index (d := 153) (ty := 0) (t := 24) (el := 3) (sz := 1) (m := r4.1.Ends.length) (c := cz3) (x := (.tmp 151)) (y := (.tmp 152)) (A := Z3) (k' := .i64) (j := (i3 : Int)) (jn := i3) (b0 := blkOf Z3) (o0 := offOf Z3) (by kernel_rfl) (by kernel_rfl) (by kernel_rfl) (by kernel_rfl) (by kernel_rfl) ((hS52.rdAt 3 rfl).eqSome (pos_of_get hx8)) rfl (lt_of_get hx8) ?_
        refine ge_batch [16, 17, 18, 19, 20, 21, 22, 23] (ans := [.val (.int .i64 e4), .val (.int .i64 e3.At)]) (vs := [(161, .bool (decide ((IntKind.i64.wrap (e4 - e3.At)) > r5.1))), (160, .bool (decide ((IntKind.i64.wrap (e4 - e3.At)) > r5.1))), (159, .bool (decide ((IntKind.i64.wrap (e4 - e3.At)) > r5.1))), (158, .int .i64 r5.1), (157, .int .i64 (IntKind.i64.wrap (e4 - e3.At))), (156, .int .i64 e3.At), (155, .pointer (some ⟨b4, 1, none⟩)), (154, .int .i64 e4)]) (l := [.loaded ⟨blkOf Z3, offOf Z3 + i3 * 1, none⟩ (.int .i64 e4), .loaded ⟨b4, 1, none⟩ (.int .i64 e3.At)]) (by kernel_rfl) ⟨RdL.cell (j := 0) (hS52.rdAt 3 rfl) hx8 rfl, hS52.cell 0 rfl rfl, trivial⟩ ?_
        refine ge_nil fun a hF => hK45 _ _ ?_ a hF
        by_cases hc20 : (IntKind.i64.wrap (e4 - e3.At)) > r5.1
        · rw [if_pos hc20] at h
          refine we_known (t := 161) (b := decide ((IntKind.i64.wrap (e4 - e3.At)) > r5.1)) (v := true) (by kernel_rfl) (decide_eq_true hc20) ?_
          refine we_true (by kernel_rfl) ?_
          refine we_seq fun K47 hK47 => ?_
          refine we_region [(0, 0)] rfl ?_
          refine ge_batch [0] (ans := []) (vs := [(14, .bool false)]) (l := []) (by kernel_rfl) trivial ?_
          refine ge_nil fun a hF => hK47 _ _ ?_ a hF
          have hS54 := hS52.takeN 0
          obtain rfl := Option.some.inj h
          exact we_ret fun a hF => hQ _ _ _ (Outs.out nofun (Exits.on ⟨rfl, (post_ret (rs := [.tmp 14]) (ans := []) (vs := [.bool false]) (l := []) rfl (by kernel_rfl) trivial ⟨rfl, hS54⟩) a hF⟩))
        · rw [if_neg hc20] at h
          refine we_known (t := 161) (b := decide ((IntKind.i64.wrap (e4 - e3.At)) > r5.1)) (v := false) (by kernel_rfl) (decide_eq_false hc20) ?_
          refine we_false (by kernel_rfl) ?_
          refine we_skip fun a hF => hK43 _ _ ?_ a hF
          refine we_region [(0, 0), (1, 0)] rfl ?_
          refine ge_addn (d := 162) (ty := 3) (x := (.tmp 133)) (y := (.const (.int .i64 1))) (t := 3) (t2 := 3) (k := .i64) (m := i3) (by kernel_rfl) (by kernel_rfl) (by kernel_rfl) (by have h0 := hR3.small; omega) ?_
          refine ge_batch [1] (ans := []) (vs := [(133, .int .i64 ((i3 + 1 : Nat) : Int))]) (l := []) (by kernel_rfl) trivial ?_
          have hS55 := hS52.bring 3 rfl
          have hS56 := hS55.bring 3 rfl
          have hS57 := hS56.bring 3 rfl
          have hS58 := hS57.takeN 3
          obtain rfl := Option.some.inj h
          exact ge_nil fun a hF => hQ _ _ _ (Outs.again ⟨hS58, hF.weaken ⟨by kernel_rfl, by kernel_rfl, by kernel_rfl, by kernel_rfl, by kernel_rfl, by kernel_rfl, by kernel_rfl, by kernel_rfl, by kernel_rfl, by kernel_rfl, by kernel_rfl, by kernel_rfl, trivial⟩⟩)
    · rw [if_neg hc18] at h
      refine ge_known (t := 142) (b := (e3.Task == (i2 : Int))) (c := false) (by kernel_rfl) (beq_eq_false_iff_ne.2 hc18) ?_
      refine ge_batch [5, 6, 7, 8, 9, 10, 11, 12, 13, 14, 15, 16, 17, 18, 19, 20, 21, 22, 23] (ans := []) (vs := [(161, .bool false), (160, undef), (159, undef), (158, undef), (157, undef), (156, undef), (155, undef), (154, undef), (153, undef), (152, undef), (151, undef), (150, undef), (149, undef), (148, undef), (147, undef), (146, undef), (145, undef), (144, undef), (143, undef)]) (l := []) (by kernel_rfl) trivial ?_
      refine ge_nil fun a hF => hK45 _ _ ?_ a hF
      refine we_false (by kernel_rfl) ?_
      refine we_skip fun a hF => hK43 _ _ ?_ a hF
      refine we_region [(0, 0), (1, 0)] rfl ?_
      refine ge_addn (d := 162) (ty := 3) (x := (.tmp 133)) (y := (.const (.int .i64 1))) (t := 3) (t2 := 3) (k := .i64) (m := i3) (by kernel_rfl) (by kernel_rfl) (by kernel_rfl) (by have h0 := hR3.small; omega) ?_
      refine ge_batch [1] (ans := []) (vs := [(133, .int .i64 ((i3 + 1 : Nat) : Int))]) (l := []) (by kernel_rfl) trivial ?_
      have hS59 := hS52.bring 3 rfl
      have hS60 := hS59.bring 3 rfl
      have hS61 := hS60.bring 3 rfl
      have hS62 := hS61.takeN 3
      obtain rfl := Option.some.inj h
      exact ge_nil fun a hF => hQ _ _ _ (Outs.again ⟨hS62, hF.weaken ⟨by kernel_rfl, by kernel_rfl, by kernel_rfl, by kernel_rfl, by kernel_rfl, by kernel_rfl, by kernel_rfl, by kernel_rfl, by kernel_rfl, by kernel_rfl, by kernel_rfl, by kernel_rfl, trivial⟩⟩)
  · rw [if_neg hc17] at h
    refine we_known (t := 134) (b := decide ((i3 : Int) < (l3.length : Int))) (v := false) (by kernel_rfl) (decide_eq_false hc17) ?_
    refine we_false (by kernel_rfl) ?_
    have hS63 := hS.bring 2 rfl
    have hS64 := hS63.bring 2 rfl
    have hS65 := hS64.bring 2 rfl
    obtain rfl := Option.some.inj h
    exact we_exit fun a hF => hQ _ _ _ (Outs.out nofun (Exits.here ⟨hS65, hF.weaken ⟨by kernel_rfl, by kernel_rfl, by kernel_rfl, by kernel_rfl, by kernel_rfl, by kernel_rfl, by kernel_rfl, trivial⟩⟩))
abbrev RedoKeeps.A2 (K : Nat) (w0 : World) (l0 : List STask) (A0 : Option Addr) (c0 : Nat) (x1 : Int) (x2 : Int) (l3 : List SCome) (A3 : Option Addr) (c3 : Nat) (l4 : List Int) (A4 : Option Addr) (c4 : Nat) (l5 : List Int) (A5 : Option Addr) (c5 : Nat) (l6 : List Int) (A6 : Option Addr) (c6 : Nat) (hR0 : RdL w0 A0 l0) (hL0 : l0.length ≤ c0) (hR3 : RdL w0 A3 l3) (hL3 : l3.length ≤ c3) (hR4 : RdL w0 A4 l4) (hL4 : l4.length ≤ c4) (hR5 : RdL w0 A5 l5) (hL5 : l5.length ≤ c5) (hR6 : RdL w0 A6 l6) (hL6 : l6.length ≤ c6) (r1 : Bool) (hc1 : r1 = true) (r2 : (List SJob) × SFault) (b1 : Nat) (hc5 : r2.2.Code = 0) (Z1 : Option Addr) (cz1 : Nat) (r3 : Int) (hc12 : ¬ (r3 < 0)) (r4 : SPlayed × SFault) (b2 : Nat) (Z2 : Option Addr) (cz2 : Nat) (Z3 : Option Addr) (cz3 : Nat) (hc13 : r4.2.Code = 0) (hc14 : (r4.1.Ends.length : Int) = (l3.length : Int)) : Nat → Act → World → Prop := fun (s : Nat) a w => St w0 w [Own.blk b2 (.cells #[(.slice Z2 r4.1.Runs.length cz2), (.slice Z3 r4.1.Ends.length cz3)] 37 (0, 0)), Own.of (.slice Z2 r4.1.Runs.length cz2) 3 r4.1.Runs, Own.of (.slice Z3 r4.1.Ends.length cz3) 3 r4.1.Ends] ∧ Frm 164 a [(0, .slice A0 l0.length c0), (1, .int .i64 x1), (2, .int .i64 x2), (3, .slice A3 l3.length c3), (20, .pointer (some ⟨b2, 0, none⟩)), (116, .int .i64 (l0.length : Int)), (117, .int .i64 (s : Int))]
abbrev RedoKeeps.B2 (K : Nat) (w0 : World) (l0 : List STask) (A0 : Option Addr) (c0 : Nat) (x1 : Int) (x2 : Int) (l3 : List SCome) (A3 : Option Addr) (c3 : Nat) (l4 : List Int) (A4 : Option Addr) (c4 : Nat) (l5 : List Int) (A5 : Option Addr) (c5 : Nat) (l6 : List Int) (A6 : Option Addr) (c6 : Nat) (hR0 : RdL w0 A0 l0) (hL0 : l0.length ≤ c0) (hR3 : RdL w0 A3 l3) (hL3 : l3.length ≤ c3) (hR4 : RdL w0 A4 l4) (hL4 : l4.length ≤ c4) (hR5 : RdL w0 A5 l5) (hL5 : l5.length ≤ c5) (hR6 : RdL w0 A6 l6) (hL6 : l6.length ≤ c6) (r1 : Bool) (hc1 : r1 = true) (r2 : (List SJob) × SFault) (b1 : Nat) (hc5 : r2.2.Code = 0) (Z1 : Option Addr) (cz1 : Nat) (r3 : Int) (hc12 : ¬ (r3 < 0)) (r4 : SPlayed × SFault) (b2 : Nat) (Z2 : Option Addr) (cz2 : Nat) (Z3 : Option Addr) (cz3 : Nat) (hc13 : r4.2.Code = 0) (hc14 : (r4.1.Ends.length : Int) = (l3.length : Int)) : (Unit ⊕ Bool) → Exit → Act → World → Prop := Exits 2 (fun (s : Unit) a w => St w0 w [] ∧ Frm 164 a []) (Rets Try.prog Try.f7 (RedoKeeps.Post w0))
theorem RedoKeeps_r2 (K : Nat) (w0 : World) (l0 : List STask) (A0 : Option Addr) (c0 : Nat) (x1 : Int) (x2 : Int) (l3 : List SCome) (A3 : Option Addr) (c3 : Nat) (l4 : List Int) (A4 : Option Addr) (c4 : Nat) (l5 : List Int) (A5 : Option Addr) (c5 : Nat) (l6 : List Int) (A6 : Option Addr) (c6 : Nat) (hR0 : RdL w0 A0 l0) (hL0 : l0.length ≤ c0) (hR3 : RdL w0 A3 l3) (hL3 : l3.length ≤ c3) (hR4 : RdL w0 A4 l4) (hL4 : l4.length ≤ c4) (hR5 : RdL w0 A5 l5) (hL5 : l5.length ≤ c5) (hR6 : RdL w0 A6 l6) (hL6 : l6.length ≤ c6) (r1 : Bool) (hc1 : r1 = true) (r2 : (List SJob) × SFault) (b1 : Nat) (hc5 : r2.2.Code = 0) (Z1 : Option Addr) (cz1 : Nat) (r3 : Int) (hc12 : ¬ (r3 < 0)) (r4 : SPlayed × SFault) (b2 : Nat) (Z2 : Option Addr) (cz2 : Nat) (Z3 : Option Addr) (cz3 : Nat) (hc13 : r4.2.Code = 0) (hc14 : (r4.1.Ends.length : Int) = (l3.length : Int)) (s : Nat) (o : Nat ⊕ (Unit ⊕ Bool)) (h : RedoKeeps.r2 K l0 x1 x2 l3 r3 r4 s = some o) (a : Act) (w : World) (hA : RedoKeeps.A2 K w0 l0 A0 c0 x1 x2 l3 A3 c3 l4 A4 c4 l5 A5 c5 l6 A6 c6 hR0 hL0 hR3 hL3 hR4 hL4 hR5 hL5 hR6 hL6 r1 hc1 r2 b1 hc5 Z1 cz1 r3 hc12 r4 b2 Z2 cz2 Z3 cz3 hc13 hc14 s a w) (Q : Exit → Act → World → Prop) (hQ : ∀ x a w, Outs (RedoKeeps.A2 K w0 l0 A0 c0 x1 x2 l3 A3 c3 l4 A4 c4 l5 A5 c5 l6 A6 c6 hR0 hL0 hR3 hL3 hR4 hL4 hR5 hL5 hR6 hL6 r1 hc1 r2 b1 hc5 Z1 cz1 r3 hc12 r4 b2 Z2 cz2 Z3 cz3 hc13 hc14) (RedoKeeps.B2 K w0 l0 A0 c0 x1 x2 l3 A3 c3 l4 A4 c4 l5 A5 c5 l6 A6 c6 hR0 hL0 hR3 hL3 hR4 hL4 hR5 hL5 hR6 hL6 r1 hc1 r2 b1 hc5 Z1 cz1 r3 hc12 r4 b2 Z2 cz2 Z3 cz3 hc13 hc14) o x a w → Q x a w) : (subF Try.f7 [1, 1, 1, 1, 1, 1, 1, 1, 1, 1, 1, 0, 1, 0, 0]).wp Try.prog Q a w := by
  obtain ⟨i2, hs⟩ : ∃ z, z = s := ⟨s, rfl⟩
  subst hs
  obtain ⟨hS, hF⟩ := hA
  replace hS : St w0 w [Own.blk b2 (.cells #[(.slice Z2 r4.1.Runs.length cz2), (.slice Z3 r4.1.Ends.length cz3)] 37 (0, 0)), Own.of (.slice Z2 r4.1.Runs.length cz2) 3 r4.1.Runs, Own.of (.slice Z3 r4.1.Ends.length cz3) 3 r4.1.Ends] := hS
  simp only [RedoKeeps.r2] at h
  refine (?_ : WE Try.prog 164 (subF Try.f7 [1, 1, 1, 1, 1, 1, 1, 1, 1, 1, 1, 0, 1, 0, 0]) Q [(0, .slice A0 l0.length c0), (1, .int .i64 x1), (2, .int .i64 x2), (3, .slice A3 l3.length c3), (20, .pointer (some ⟨b2, 0, none⟩)), (116, .int .i64 (l0.length : Int)), (117, .int .i64 (i2 : Int))] w) a hF
  clear hF a
  refine we_seq fun K33 hK33 => ?_
  refine we_region [(0, 0)] rfl ?_
  refine ge_batch [0] (ans := []) (vs := [(118, .bool (decide ((i2 : Int) < (l0.length : Int))))]) (l := []) (by kernel_rfl) trivial ?_
  refine ge_nil fun a hF => hK33 _ _ ?_ a hF
  refine we_seq fun K34 hK34 => ?_
  by_cases hc15 : (i2 : Int) < (l0.length : Int)
  · rw [if_pos hc15] at h
    refine we_known (t := 118) (b := decide ((i2 : Int) < (l0.length : Int))) (v := true) (by kernel_rfl) (decide_eq_true hc15) ?_
    refine we_true (by kernel_rfl) ?_
    refine we_skip fun a hF => hK34 _ _ ?_ a hF
    refine we_seq fun K35 hK35 => ?_
    refine we_block ?_
    refine we_seq fun K36 hK36 => ?_
    refine we_region [(0, 0), (1, 0)] rfl ?_
    refine ge_batch [0, 1] (ans := []) (vs := [(21, .int .i64 (i2 : Int)), (119, .int .i64 (i2 : Int))]) (l := []) (by kernel_rfl) trivial ?_
    refine ge_nil fun a hF => hK36 _ _ ?_ a hF
    refine we_seq fun K37 hK37 => ?_
    refine we_region [(0, 0), (1, 0), (2, 0), (3, 0), (4, 1), (5, 0), (6, 0), (7, 0), (8, 1), (9, 0), (10, 2)] rfl ?_
    rcases hq9 : redo_Response.f K l0 (i2 : Int) x1 x2 with _ | r5
    · rw [hq9] at h; cases h
    rw [hq9] at h
    simp only [] at h
    refine ge_batch [0, 1, 2, 3] (ans := []) (vs := [(124, .int .i64 x2), (123, .int .i64 x1), (122, .int .i64 (i2 : Int)), (121, .slice A0 l0.length c0)]) (l := []) (by kernel_rfl) trivial ?_
    refine ge_call (d := some 125) (f := 30) (args := #[.slice A0 l0.length c0, .int .i64 (i2 : Int), .int .i64 x1, .int .i64 x2]) (by kernel_rfl) (redo_Response_ok K l0 A0 c0 (i2 : Int) x1 x2 _ (hS.rd hR0) hL0 _ hq9) ?_
    rintro _ w14 ⟨rfl, hS40⟩
    refine ⟨_, rfl, hS40.below, ?_⟩
    have hS41 := hS.call hS40
    refine ge_batch [5, 6, 7] (ans := []) (vs := [(127, .agg #[.int .i64 r5.2.Code, .int .i64 r5.2.At]), (126, .int .i64 r5.1), (120, .tuple #[.int .i64 r5.1, .agg #[.int .i64 r5.2.Code, .int .i64 r5.2.At]])]) (l := []) (by kernel_rfl) trivial ?_
    refine ge_new (d := some 23) (o := .cells #[.int .i64 0, .int .i64 0] 29) (v := fun b => .pointer (some ⟨b, 0, none⟩)) hS41 (fun b => by kernel_rfl) fun b3 w15 hx5 hS42 => ?_
    refine ge_batch [9] (ans := []) (vs := [(22, .int .i64 r5.1)]) (l := []) (by kernel_rfl) trivial ?_
    refine ge_set (b := b3) (j := 0) (cs := #[.int .i64 0, .int .i64 0]) (t := 29) (vs := [.int .i64 r5.2.Code, .int .i64 r5.2.At]) hS42 (by kernel_rfl) rfl rfl fun w16 hS43 => ?_
    have hS44 : St w0 w16 [Own.blk b3 (.cells #[.int .i64 r5.2.Code, .int .i64 r5.2.At] 29 (0, 0)), Own.blk b2 (.cells #[(.slice Z2 r4.1.Runs.length cz2), (.slice Z3 r4.1.Ends.length cz3)] 37 (0, 0)), Own.of (.slice Z2 r4.1.Runs.length cz2) 3 r4.1.Runs, Own.of (.slice Z3 r4.1.Ends.length cz3) 3 r4.1.Ends] := hS43
    refine ge_nil fun a hF => hK37 _ _ ?_ a hF
    refine we_seq fun K38 hK38 => ?_
    refine we_seq fun K39 hK39 => ?_
    refine we_region [(0, 0), (1, 0), (2, 0)] rfl ?_
    refine ge_batch [0, 1, 2] (ans := [.val (.int .i64 r5.2.Code)]) (vs := [(130, .bool (r5.2.Code != 0)), (129, .int .i64 r5.2.Code), (128, .pointer (some ⟨b3, 0, none⟩))]) (l := [.loaded ⟨b3, 0, none⟩ (.int .i64 r5.2.Code)]) (by kernel_rfl) ⟨hS44.cell 0 rfl rfl, trivial⟩ ?_
    refine ge_nil fun a hF => hK39 _ _ ?_ a hF
    by_cases hc16 : r5.2.Code = 0
    · rw [if_pos hc16] at h
      refine we_known (t := 130) (b := (r5.2.Code != 0)) (v := false) (by kernel_rfl) (bne_eq_false_iff_eq.2 hc16) ?_
      refine we_false (by kernel_rfl) ?_
      refine we_skip fun a hF => hK38 _ _ ?_ a hF
      refine we_seq fun K40 hK40 => ?_
      refine we_region [(0, 0), (1, 0), (2, 0)] rfl ?_
      refine ge_batch [0, 1, 2] (ans := []) (vs := [(133, .int .i64 0), (132, .int .i64 (l3.length : Int)), (131, .slice A3 l3.length c3)]) (l := []) (by kernel_rfl) trivial ?_
      refine ge_nil fun a hF => hK40 _ _ ?_ a hF
      refine we_block ?_
      have hS45 := hS44.bring 3 rfl
      have hS46 := hS45.bring 3 rfl
      have hS47 := hS46.bring 3 rfl
      have hS48 := hS47.takeN 3
      rcases hq10 : iter (RedoKeeps.r3 l3 r4 i2 r5) K 0 with _ | (_ | rr1)
      · rw [hq10] at h; cases h
      · rw [hq10] at h
        simp only [] at h
        refine we_iter (A := RedoKeeps.A3 K w0 l0 A0 c0 x1 x2 l3 A3 c3 l4 A4 c4 l5 A5 c5 l6 A6 c6 hR0 hL0 hR3 hL3 hR4 hL4 hR5 hL5 hR6 hL6 r1 hc1 r2 b1 hc5 Z1 cz1 r3 hc12 r4 b2 Z2 cz2 Z3 cz3 hc13 hc14 i2 hc15 r5 b3 hc16) (B := RedoKeeps.B3 K w0 l0 A0 c0 x1 x2 l3 A3 c3 l4 A4 c4 l5 A5 c5 l6 A6 c6 hR0 hL0 hR3 hL3 hR4 hL4 hR5 hL5 hR6 hL6 r1 hc1 r2 b1 hc5 Z1 cz1 r3 hc12 r4 b2 Z2 cz2 Z3 cz3 hc13 hc14 i2 hc15 r5 b3 hc16) hq10 (fun a hF => ⟨hS48, hF.weaken ⟨by kernel_rfl, by kernel_rfl, by kernel_rfl, by kernel_rfl, by kernel_rfl, by kernel_rfl, by kernel_rfl, by kernel_rfl, by kernel_rfl, by kernel_rfl, by kernel_rfl, by kernel_rfl, trivial⟩⟩) (fun s o hf a w hA Q hQ => RedoKeeps_r3 K w0 l0 A0 c0 x1 x2 l3 A3 c3 l4 A4 c4 l5 A5 c5 l6 A6 c6 hR0 hL0 hR3 hL3 hR4 hL4 hR5 hL5 hR6 hL6 r1 hc1 r2 b1 hc5 Z1 cz1 r3 hc12 r4 b2 Z2 cz2 Z3 cz3 hc13 hc14 i2 hc15 r5 b3 hc16 s o hf a w hA Q hQ) ?_
        rintro _ a w19 _ ⟨rfl, hS66, hF⟩
        replace hS66 : St w0 w19 [Own.blk b2 (.cells #[(.slice Z2 r4.1.Runs.length cz2), (.slice Z3 r4.1.Ends.length cz3)] 37 (0, 0)), Own.of (.slice Z2 r4.1.Runs.length cz2) 3 r4.1.Runs, Own.of (.slice Z3 r4.1.Ends.length cz3) 3 r4.1.Ends] := hS66
        refine hK35 [(0, .slice A0 l0.length c0), (1, .int .i64 x1), (2, .int .i64 x2), (3, .slice A3 l3.length c3), (20, .pointer (some ⟨b2, 0, none⟩)), (116, .int .i64 (l0.length : Int)), (117, .int .i64 (i2 : Int))] w19 ?_ a hF
        refine we_region [(0, 0), (1, 0)] rfl ?_
        refine ge_addn (d := 163) (ty := 3) (x := (.tmp 117)) (y := (.const (.int .i64 1))) (t := 3) (t2 := 3) (k := .i64) (m := i2) (by kernel_rfl) (by kernel_rfl) (by kernel_rfl) (by have h0 := hR0.small; omega) ?_
        refine ge_batch [1] (ans := []) (vs := [(117, .int .i64 ((i2 + 1 : Nat) : Int))]) (l := []) (by kernel_rfl) trivial ?_
        have hS67 := hS66.bring 2 rfl
        have hS68 := hS67.bring 2 rfl
        have hS69 := hS68.bring 2 rfl
        obtain rfl := Option.some.inj h
        exact ge_nil fun a hF => hQ _ _ _ (Outs.again ⟨hS69, hF.weaken ⟨by kernel_rfl, by kernel_rfl, by kernel_rfl, by kernel_rfl, by kernel_rfl, by kernel_rfl, by kernel_rfl, trivial⟩⟩)
      · rw [hq10] at h
        simp only [] at h
        refine we_iter (A := RedoKeeps.A3 K w0 l0 A0 c0 x1 x2 l3 A3 c3 l4 A4 c4 l5 A5 c5 l6 A6 c6 hR0 hL0 hR3 hL3 hR4 hL4 hR5 hL5 hR6 hL6 r1 hc1 r2 b1 hc5 Z1 cz1 r3 hc12 r4 b2 Z2 cz2 Z3 cz3 hc13 hc14 i2 hc15 r5 b3 hc16) (B := RedoKeeps.B3 K w0 l0 A0 c0 x1 x2 l3 A3 c3 l4 A4 c4 l5 A5 c5 l6 A6 c6 hR0 hL0 hR3 hL3 hR4 hL4 hR5 hL5 hR6 hL6 r1 hc1 r2 b1 hc5 Z1 cz1 r3 hc12 r4 b2 Z2 cz2 Z3 cz3 hc13 hc14 i2 hc15 r5 b3 hc16) hq10 (fun a hF => ⟨hS48, hF.weaken ⟨by kernel_rfl, by kernel_rfl, by kernel_rfl, by kernel_rfl, by kernel_rfl, by kernel_rfl, by kernel_rfl, by kernel_rfl, by kernel_rfl, by kernel_rfl, by kernel_rfl, by kernel_rfl, trivial⟩⟩) (fun s o hf a w hA Q hQ => RedoKeeps_r3 K w0 l0 A0 c0 x1 x2 l3 A3 c3 l4 A4 c4 l5 A5 c5 l6 A6 c6 hR0 hL0 hR3 hL3 hR4 hL4 hR5 hL5 hR6 hL6 r1 hc1 r2 b1 hc5 Z1 cz1 r3 hc12 r4 b2 Z2 cz2 Z3 cz3 hc13 hc14 i2 hc15 r5 b3 hc16 s o hf a w hA Q hQ) ?_
        rintro _ a w1 _ ⟨rfl, hb⟩
        obtain rfl := Option.some.inj h
        exact hQ _ _ _ (Outs.out nofun (Exits.on ⟨rfl, hb⟩))
    · rw [if_neg hc16] at h
      refine we_known (t := 130) (b := (r5.2.Code != 0)) (v := true) (by kernel_rfl) (bne_iff_ne.2 hc16) ?_
      refine we_true (by kernel_rfl) ?_
      refine we_exit fun a hF => hK35 _ _ ?_ a hF
      refine we_region [(0, 0), (1, 0)] rfl ?_
      refine ge_addn (d := 163) (ty := 3) (x := (.tmp 117)) (y := (.const (.int .i64 1))) (t := 3) (t2 := 3) (k := .i64) (m := i2) (by kernel_rfl) (by kernel_rfl) (by kernel_rfl) (by have h0 := hR0.small; omega) ?_
      refine ge_batch [1] (ans := []) (vs := [(117, .int .i64 ((i2 + 1 : Nat) : Int))]) (l := []) (by kernel_rfl) trivial ?_
      have hS70 := hS44.bring 3 rfl
      have hS71 := hS70.bring 3 rfl
      have hS72 := hS71.bring 3 rfl
      have hS73 := hS72.takeN 3
      obtain rfl := Option.some.inj h
      exact ge_nil fun a hF => hQ _ _ _ (Outs.again ⟨hS73, hF.weaken ⟨by kernel_rfl, by kernel_rfl, by kernel_rfl, by kernel_rfl, by kernel_rfl, by kernel_rfl, by kernel_rfl, trivial⟩⟩)
  · rw [if_neg hc15] at h
    refine we_known (t := 118) (b := decide ((i2 : Int) < (l0.length : Int))) (v := false) (by kernel_rfl) (decide_eq_false hc15) ?_
    refine we_false (by kernel_rfl) ?_
    have hS74 := hS.takeN 0
    obtain rfl := Option.some.inj h
    exact we_exit fun a hF => hQ _ _ _ (Outs.out nofun (Exits.here ⟨hS74, hF.weaken trivial⟩))
abbrev RedoKeeps.A4 (K : Nat) (w0 : World) (l0 : List STask) (A0 : Option Addr) (c0 : Nat) (x1 : Int) (x2 : Int) (l3 : List SCome) (A3 : Option Addr) (c3 : Nat) (l4 : List Int) (A4 : Option Addr) (c4 : Nat) (l5 : List Int) (A5 : Option Addr) (c5 : Nat) (l6 : List Int) (A6 : Option Addr) (c6 : Nat) (hR0 : RdL w0 A0 l0) (hL0 : l0.length ≤ c0) (hR3 : RdL w0 A3 l3) (hL3 : l3.length ≤ c3) (hR4 : RdL w0 A4 l4) (hL4 : l4.length ≤ c4) (hR5 : RdL w0 A5 l5) (hL5 : l5.length ≤ c5) (hR6 : RdL w0 A6 l6) (hL6 : l6.length ≤ c6) (r1 : Bool) (hc1 : r1 = true) (r2 : (List SJob) × SFault) (b1 : Nat) (hc5 : r2.2.Code = 0) (Z1 : Option Addr) (cz1 : Nat) (r3 : Int) (hc12 : ¬ (r3 < 0)) (r4 : SPlayed × SFault) (b2 : Nat) (Z2 : Option Addr) (cz2 : Nat) (Z3 : Option Addr) (cz3 : Nat) (hc13 : ¬ (r4.2.Code = 0)) : Bool → Act → World → Prop := fun (s : Bool) a w => St w0 w [] ∧ Frm 164 a [(14, .bool s)]
abbrev RedoKeeps.B4 (K : Nat) (w0 : World) (l0 : List STask) (A0 : Option Addr) (c0 : Nat) (x1 : Int) (x2 : Int) (l3 : List SCome) (A3 : Option Addr) (c3 : Nat) (l4 : List Int) (A4 : Option Addr) (c4 : Nat) (l5 : List Int) (A5 : Option Addr) (c5 : Nat) (l6 : List Int) (A6 : Option Addr) (c6 : Nat) (hR0 : RdL w0 A0 l0) (hL0 : l0.length ≤ c0) (hR3 : RdL w0 A3 l3) (hL3 : l3.length ≤ c3) (hR4 : RdL w0 A4 l4) (hL4 : l4.length ≤ c4) (hR5 : RdL w0 A5 l5) (hL5 : l5.length ≤ c5) (hR6 : RdL w0 A6 l6) (hL6 : l6.length ≤ c6) (r1 : Bool) (hc1 : r1 = true) (r2 : (List SJob) × SFault) (b1 : Nat) (hc5 : r2.2.Code = 0) (Z1 : Option Addr) (cz1 : Nat) (r3 : Int) (hc12 : ¬ (r3 < 0)) (r4 : SPlayed × SFault) (b2 : Nat) (Z2 : Option Addr) (cz2 : Nat) (Z3 : Option Addr) (cz3 : Nat) (hc13 : ¬ (r4.2.Code = 0)) : Bool → Exit → Act → World → Prop := Rets Try.prog Try.f7 (RedoKeeps.Post w0)
theorem RedoKeeps_p4 (K : Nat) (w0 : World) (l0 : List STask) (A0 : Option Addr) (c0 : Nat) (x1 : Int) (x2 : Int) (l3 : List SCome) (A3 : Option Addr) (c3 : Nat) (l4 : List Int) (A4 : Option Addr) (c4 : Nat) (l5 : List Int) (A5 : Option Addr) (c5 : Nat) (l6 : List Int) (A6 : Option Addr) (c6 : Nat) (hR0 : RdL w0 A0 l0) (hL0 : l0.length ≤ c0) (hR3 : RdL w0 A3 l3) (hL3 : l3.length ≤ c3) (hR4 : RdL w0 A4 l4) (hL4 : l4.length ≤ c4) (hR5 : RdL w0 A5 l5) (hL5 : l5.length ≤ c5) (hR6 : RdL w0 A6 l6) (hL6 : l6.length ≤ c6) (r1 : Bool) (hc1 : r1 = true) (r2 : (List SJob) × SFault) (b1 : Nat) (hc5 : r2.2.Code = 0) (Z1 : Option Addr) (cz1 : Nat) (r3 : Int) (hc12 : ¬ (r3 < 0)) (r4 : SPlayed × SFault) (b2 : Nat) (Z2 : Option Addr) (cz2 : Nat) (Z3 : Option Addr) (cz3 : Nat) (hc13 : ¬ (r4.2.Code = 0)) (o : Bool ⊕ Bool) (h : RedoKeeps.p4 x1 x2 = some o) (w : World) (hS : St w0 w [Own.blk b1 (.cells #[.int .i64 r4.2.Code, .int .i64 r4.2.At] 29 (0, 0)), Own.blk b2 (.cells #[(.slice Z2 r4.1.Runs.length cz2), (.slice Z3 r4.1.Ends.length cz3)] 37 (0, 0)), Own.of (.slice Z2 r4.1.Runs.length cz2) 3 r4.1.Runs, Own.of (.slice Z3 r4.1.Ends.length cz3) 3 r4.1.Ends, Own.of (.slice Z1 r2.1.length cz1) 88 r2.1]) (Q : Exit → Act → World → Prop) (hQ : ∀ x a w, Outs (RedoKeeps.A4 K w0 l0 A0 c0 x1 x2 l3 A3 c3 l4 A4 c4 l5 A5 c5 l6 A6 c6 hR0 hL0 hR3 hL3 hR4 hL4 hR5 hL5 hR6 hL6 r1 hc1 r2 b1 hc5 Z1 cz1 r3 hc12 r4 b2 Z2 cz2 Z3 cz3 hc13) (RedoKeeps.B4 K w0 l0 A0 c0 x1 x2 l3 A3 c3 l4 A4 c4 l5 A5 c5 l6 A6 c6 hR0 hL0 hR3 hL3 hR4 hL4 hR5 hL5 hR6 hL6 r1 hc1 r2 b1 hc5 Z1 cz1 r3 hc12 r4 b2 Z2 cz2 Z3 cz3 hc13) o x a w → Q x a w) : WE Try.prog 164 (subF Try.f7 [1, 1, 1, 1, 1, 1, 1, 1, 1, 0, 1, 0, 0]) Q [(0, .slice A0 l0.length c0), (1, .int .i64 x1), (2, .int .i64 x2), (3, .slice A3 l3.length c3), (6, .slice A6 l6.length c6), (15, (.slice Z1 r2.1.length cz1)), (16, .pointer (some ⟨b1, 0, none⟩)), (19, .int .i64 r3), (20, .pointer (some ⟨b2, 0, none⟩)), (83, .slice A0 l0.length c0), (84, .slice A3 l3.length c3), (85, .int .i64 r3), (86, .int .i64 r3), (87, .bool false), (88, .tuple #[.agg #[(.slice Z2 r4.1.Runs.length cz2), (.slice Z3 r4.1.Ends.length cz3)], .agg #[.int .i64 r4.2.Code, .int .i64 r4.2.At]]), (89, (.slice Z1 r2.1.length cz1)), (90, .int .i64 x2), (91, .slice A6 l6.length c6), (92, .int .i64 r3), (93, .tuple #[.agg #[(.slice Z2 r4.1.Runs.length cz2), (.slice Z3 r4.1.Ends.length cz3)], .agg #[.int .i64 r4.2.Code, .int .i64 r4.2.At]]), (94, .agg #[(.slice Z2 r4.1.Runs.length cz2), (.slice Z3 r4.1.Ends.length cz3)]), (95, .agg #[.int .i64 r4.2.Code, .int .i64 r4.2.At]), (96, .pointer (some ⟨b1, 0, none⟩)), (97, .int .i64 r4.2.Code), (98, .bool true)] w := by
  simp only [RedoKeeps.p4] at h
  refine we_region [(0, 0), (1, 0), (2, 0), (3, 0), (4, 0), (5, 0), (6, 0), (7, 0), (8, 0), (9, 0), (10, 0)] rfl ?_
  refine ge_batch [0, 1, 2] (ans := []) (vs := [(101, .bool (decide (x2 < 0))), (100, .bool (decide (x2 < 0))), (99, .int .i64 x2)]) (l := []) (by kernel_rfl) trivial ?_
  by_cases hc21 : x2 < 0
  · rw [if_pos hc21] at h
    refine ge_known (t := 101) (b := decide (x2 < 0)) (c := true) (by kernel_rfl) (decide_eq_true hc21) ?_
    refine ge_batch [3, 4, 5, 6, 7, 8, 9, 10] (ans := []) (vs := [(14, .bool true), (108, .bool true), (107, undef), (106, undef), (105, .bool true), (104, .bool true), (103, undef), (102, undef)]) (l := []) (by kernel_rfl) trivial ?_
    have hS77 := hS.takeN 0
    obtain rfl := Option.some.inj h
    exact ge_nil fun a hF => hQ _ _ _ (Outs.again ⟨hS77, hF.weaken ⟨by kernel_rfl, trivial⟩⟩)
  · rw [if_neg hc21] at h
    refine ge_known (t := 101) (b := decide (x2 < 0)) (c := false) (by kernel_rfl) (decide_eq_false hc21) ?_
    refine ge_batch [3, 4, 5, 6] (ans := []) (vs := [(105, .bool (decide (x2 > 10000))), (104, .bool (decide (x2 > 10000))), (103, .bool (decide (x2 > 10000))), (102, .int .i64 x2)]) (l := []) (by kernel_rfl) trivial ?_
    by_cases hc22 : x2 > 10000
    · rw [if_pos hc22] at h
      refine ge_known (t := 105) (b := decide (x2 > 10000)) (c := true) (by kernel_rfl) (decide_eq_true hc22) ?_
      refine ge_batch [7, 8, 9, 10] (ans := []) (vs := [(14, .bool true), (108, .bool true), (107, undef), (106, undef)]) (l := []) (by kernel_rfl) trivial ?_
      have hS78 := hS.takeN 0
      obtain rfl := Option.some.inj h
      exact ge_nil fun a hF => hQ _ _ _ (Outs.again ⟨hS78, hF.weaken ⟨by kernel_rfl, trivial⟩⟩)
    · rw [if_neg hc22] at h
      refine ge_known (t := 105) (b := decide (x2 > 10000)) (c := false) (by kernel_rfl) (decide_eq_false hc22) ?_
      refine ge_batch [7, 8, 9, 10] (ans := []) (vs := [(14, .bool (decide (x1 < 1))), (108, .bool (decide (x1 < 1))), (107, .bool (decide (x1 < 1))), (106, .int .i64 x1)]) (l := []) (by kernel_rfl) trivial ?_
      have hS79 := hS.takeN 0
      obtain rfl := Option.some.inj h
      exact ge_nil fun a hF => hQ _ _ _ (Outs.again ⟨hS79, hF.weaken ⟨by kernel_rfl, trivial⟩⟩)
theorem RedoKeeps_ok (K : Nat) (l0 : List STask) (A0 : Option Addr) (c0 : Nat) (x1 : Int) (x2 : Int) (l3 : List SCome) (A3 : Option Addr) (c3 : Nat) (l4 : List Int) (A4 : Option Addr) (c4 : Nat) (l5 : List Int) (A5 : Option Addr) (c5 : Nat) (l6 : List Int) (A6 : Option Addr) (c6 : Nat) (w0 : World) (hR0 : RdL w0 A0 l0) (hL0 : l0.length ≤ c0) (hR3 : RdL w0 A3 l3) (hL3 : l3.length ≤ c3) (hR4 : RdL w0 A4 l4) (hL4 : l4.length ≤ c4) (hR5 : RdL w0 A5 l5) (hL5 : l5.length ≤ c5) (hR6 : RdL w0 A6 l6) (hL6 : l6.length ≤ c6) (r : Bool) (h : RedoKeeps.f K l0 x1 x2 l3 l4 l5 l6 = some r) :
    Calls Try.prog 7 #[.slice A0 l0.length c0, .int .i64 x1, .int .i64 x2, .slice A3 l3.length c3, .slice A4 l4.length c4, .slice A5 l5.length c5, .slice A6 l6.length c6] w0 (RedoKeeps.Post w0 r) := by
  have hS := St.start w0
  unfold RedoKeeps.f at h
  refine calls_enter (n := 164) (args := [.slice A0 l0.length c0, .int .i64 x1, .int .i64 x2, .slice A3 l3.length c3, .slice A4 l4.length c4, .slice A5 l5.length c5, .slice A6 l6.length c6]) (fn := Try.f7) rfl rfl rfl rfl ?_
  show WE _ _ _ _ [(0, .slice A0 l0.length c0), (1, .int .i64 x1), (2, .int .i64 x2), (3, .slice A3 l3.length c3), (4, .slice A4 l4.length c4), (5, .slice A5 l5.length c5), (6, .slice A6 l6.length c6)] _
  refine we_seq fun K1 hK1 => ?_
  refine we_region [(0, 0)] rfl ?_
  refine ge_batch [0] (ans := []) (vs := [(14, .bool false)]) (l := []) (by kernel_rfl) trivial ?_
  refine ge_nil fun a hF => hK1 _ _ ?_ a hF
  refine we_seq fun K2 hK2 => ?_
  refine we_seq fun K3 hK3 => ?_
  refine we_region [(0, 1), (1, 0)] rfl ?_
  rcases hq1 : anew.f K with _ | r1
  · rw [hq1] at h; cases h
  rw [hq1] at h
  simp only [] at h
  refine ge_call (d := some 26) (f := 26) (args := #[]) (by kernel_rfl) (anew_ok K _ _ hq1) ?_
  rintro _ w1 ⟨rfl, hS1⟩
  refine ⟨_, rfl, hS1.below, ?_⟩
  have hS2 := hS.call hS1
  refine ge_batch [1] (ans := []) (vs := [(27, .bool (!r1))]) (l := []) (by kernel_rfl) trivial ?_
  refine ge_nil fun a hF => hK3 _ _ ?_ a hF
  by_cases hc1 : r1 = true
  · rw [if_pos hc1] at h
    refine we_known (t := 27) (b := !r1) (v := false) (by kernel_rfl) (congrArg (fun z => !z) hc1) ?_
    refine we_false (by kernel_rfl) ?_
    refine we_skip fun a hF => hK2 _ _ ?_ a hF
    refine we_seq fun K4 hK4 => ?_
    rcases hq4 : RedoKeeps.p0 l0 l3 l6 with _ | (_ | rr5)
    · rw [hq4] at h; cases h
    · rw [hq4] at h
      simp only [] at h
      refine we_keep (e' := [(0, .slice A0 l0.length c0), (1, .int .i64 x1), (2, .int .i64 x2), (3, .slice A3 l3.length c3), (4, .slice A4 l4.length c4), (5, .slice A5 l5.length c5), (6, .slice A6 l6.length c6), (14, .bool false), (26, .bool r1), (27, .bool false)]) ⟨by kernel_rfl, by kernel_rfl, by kernel_rfl, by kernel_rfl, by kernel_rfl, by kernel_rfl, by kernel_rfl, by kernel_rfl, by kernel_rfl, by kernel_rfl, trivial⟩ (RedoKeeps_p0 K w0 l0 A0 c0 x1 x2 l3 A3 c3 l4 A4 c4 l5 A5 c5 l6 A6 c6 hR0 hL0 hR3 hL3 hR4 hL4 hR5 hL5 hR6 hL6 r1 hc1 _ hq4 _ hS2 _ ?_)
      rintro _ a w4 ⟨rfl, hS7, hF⟩
      replace hS7 : St w0 w4 [] := hS7
      refine hK4 [(0, .slice A0 l0.length c0), (1, .int .i64 x1), (2, .int .i64 x2), (3, .slice A3 l3.length c3), (4, .slice A4 l4.length c4), (5, .slice A5 l5.length c5), (6, .slice A6 l6.length c6)] w4 ?_ a hF
      refine we_seq fun K9 hK9 => ?_
      refine we_region [(0, 0), (1, 0), (2, 0), (3, 0), (4, 1), (5, 0), (6, 0), (7, 0), (8, 1), (9, 0), (10, 2)] rfl ?_
      rcases hq5 : tasks_Jobs.f K l0 l3 l4 l5 with _ | r2
      · rw [hq5] at h; cases h
      rw [hq5] at h
      simp only [] at h
      refine ge_batch [0, 1, 2, 3] (ans := []) (vs := [(47, .slice A5 l5.length c5), (46, .slice A4 l4.length c4), (45, .slice A3 l3.length c3), (44, .slice A0 l0.length c0)]) (l := []) (by kernel_rfl) trivial ?_
      refine ge_call (d := some 48) (f := 27) (args := #[.slice A0 l0.length c0, .slice A3 l3.length c3, .slice A4 l4.length c4, .slice A5 l5.length c5]) (by kernel_rfl) (tasks_Jobs_ok K l0 A0 c0 l3 A3 c3 l4 A4 c4 l5 A5 c5 _ (hS7.rd hR0) hL0 (hS7.rd hR3) hL3 (hS7.rd hR4) hL4 (hS7.rd hR5) hL5 _ hq5) ?_
      rintro _ w5 ⟨v1, rfl, hS8⟩
      refine ⟨_, rfl, hS8.below, ?_⟩
      have hS9 := hS7.call hS8
      refine ge_batch [5, 6, 7] (ans := []) (vs := [(50, .agg #[.int .i64 r2.2.Code, .int .i64 r2.2.At]), (49, v1), (43, .tuple #[v1, .agg #[.int .i64 r2.2.Code, .int .i64 r2.2.At]])]) (l := []) (by kernel_rfl) trivial ?_
      refine ge_new (d := some 16) (o := .cells #[.int .i64 0, .int .i64 0] 29) (v := fun b => .pointer (some ⟨b, 0, none⟩)) hS9 (fun b => by kernel_rfl) fun b1 w6 hx1 hS10 => ?_
      refine ge_batch [9] (ans := []) (vs := [(15, v1)]) (l := []) (by kernel_rfl) trivial ?_
      refine ge_set (b := b1) (j := 0) (cs := #[.int .i64 0, .int .i64 0]) (t := 29) (vs := [.int .i64 r2.2.Code, .int .i64 r2.2.At]) hS10 (by kernel_rfl) rfl rfl fun w7 hS11 => ?_
      have hS12 : St w0 w7 [Own.blk b1 (.cells #[.int .i64 r2.2.Code, .int .i64 r2.2.At] 29 (0, 0)), Own.of v1 88 r2.1] := hS11
      refine ge_nil fun a hF => hK9 _ _ ?_ a hF
      refine we_seq fun K10 hK10 => ?_
      refine we_seq fun K11 hK11 => ?_
      refine we_region [(0, 0), (1, 0), (2, 0)] rfl ?_
      refine ge_batch [0, 1, 2] (ans := [.val (.int .i64 r2.2.Code)]) (vs := [(53, .bool (r2.2.Code != 0)), (52, .int .i64 r2.2.Code), (51, .pointer (some ⟨b1, 0, none⟩))]) (l := [.loaded ⟨b1, 0, none⟩ (.int .i64 r2.2.Code)]) (by kernel_rfl) ⟨hS12.cell 0 rfl rfl, trivial⟩ ?_
      refine ge_nil fun a hF => hK11 _ _ ?_ a hF
      by_cases hc5 : r2.2.Code = 0
      · rw [if_pos hc5] at h
        refine we_known (t := 53) (b := (r2.2.Code != 0)) (v := false) (by kernel_rfl) (bne_eq_false_iff_eq.2 hc5) ?_
        refine we_false (by kernel_rfl) ?_
        refine we_skip fun a hF => hK10 _ _ ?_ a hF
        refine we_seq fun K12 hK12 => ?_
        refine we_seq fun K13 hK13 => ?_
        refine we_region [(0, 0), (1, 0), (2, 0)] rfl ?_
        refine ge_batch [0, 1, 2] (ans := []) (vs := [(56, .int .i64 0), (55, .int .i64 (l6.length : Int)), (54, .slice A6 l6.length c6)]) (l := []) (by kernel_rfl) trivial ?_
        refine ge_nil fun a hF => hK13 _ _ ?_ a hF
        refine we_block ?_
        obtain ⟨Z1, cz1, rfl⟩ := hS12.open 1 rfl
        have hS13 := hS12.bring 1 rfl
        have hS14 := hS13.bring 1 rfl
        rcases hq6 : iter (RedoKeeps.r1 x1 l6) K 0 with _ | (_ | rr4)
        · rw [hq6] at h; cases h
        · rw [hq6] at h
          simp only [] at h
          refine we_iter (A := RedoKeeps.A1 K w0 l0 A0 c0 x1 x2 l3 A3 c3 l4 A4 c4 l5 A5 c5 l6 A6 c6 hR0 hL0 hR3 hL3 hR4 hL4 hR5 hL5 hR6 hL6 r1 hc1 r2 b1 hc5 Z1 cz1) (B := RedoKeeps.B1 K w0 l0 A0 c0 x1 x2 l3 A3 c3 l4 A4 c4 l5 A5 c5 l6 A6 c6 hR0 hL0 hR3 hL3 hR4 hL4 hR5 hL5 hR6 hL6 r1 hc1 r2 b1 hc5 Z1 cz1) hq6 (fun a hF => ⟨hS14, hF.weaken ⟨by kernel_rfl, by kernel_rfl, by kernel_rfl, by kernel_rfl, by kernel_rfl, by kernel_rfl, by kernel_rfl, by kernel_rfl, by kernel_rfl, by kernel_rfl, trivial⟩⟩) (fun s o hf a w hA Q hQ => RedoKeeps_r1 K w0 l0 A0 c0 x1 x2 l3 A3 c3 l4 A4 c4 l5 A5 c5 l6 A6 c6 hR0 hL0 hR3 hL3 hR4 hL4 hR5 hL5 hR6 hL6 r1 hc1 r2 b1 hc5 Z1 cz1 s o hf a w hA Q hQ) ?_
          rintro _ a w8 _ ⟨rfl, hS24, hF⟩
          replace hS24 : St w0 w8 [Own.blk b1 (.cells #[.int .i64 r2.2.Code, .int .i64 r2.2.At] 29 (0, 0)), Own.of (.slice Z1 r2.1.length cz1) 88 r2.1] := hS24
          refine hK12 [(0, .slice A0 l0.length c0), (1, .int .i64 x1), (2, .int .i64 x2), (3, .slice A3 l3.length c3), (6, .slice A6 l6.length c6), (15, (.slice Z1 r2.1.length cz1)), (16, .pointer (some ⟨b1, 0, none⟩))] w8 ?_ a hF
          refine we_seq fun K22 hK22 => ?_
          refine we_region [(0, 0), (1, 0), (2, 1), (3, 0)] rfl ?_
          rcases hq7 : lasts.f K l0 l3 with _ | r3
          · rw [hq7] at h; cases h
          rw [hq7] at h
          simp only [] at h
          refine ge_batch [0, 1] (ans := []) (vs := [(84, .slice A3 l3.length c3), (83, .slice A0 l0.length c0)]) (l := []) (by kernel_rfl) trivial ?_
          refine ge_call (d := some 85) (f := 28) (args := #[.slice A0 l0.length c0, .slice A3 l3.length c3]) (by kernel_rfl) (lasts_ok K l0 A0 c0 l3 A3 c3 _ (hS24.rd hR0) hL0 (hS24.rd hR3) hL3 _ hq7) ?_
          rintro _ w9 ⟨rfl, hS25⟩
          refine ⟨_, rfl, hS25.below, ?_⟩
          have hS26 := hS24.call hS25
          refine ge_batch [3] (ans := []) (vs := [(19, .int .i64 r3)]) (l := []) (by kernel_rfl) trivial ?_
          refine ge_nil fun a hF => hK22 _ _ ?_ a hF
          refine we_seq fun K23 hK23 => ?_
          refine we_seq fun K24 hK24 => ?_
          refine we_region [(0, 0), (1, 0)] rfl ?_
          refine ge_batch [0, 1] (ans := []) (vs := [(87, .bool (decide (r3 < 0))), (86, .int .i64 r3)]) (l := []) (by kernel_rfl) trivial ?_
          refine ge_nil fun a hF => hK24 _ _ ?_ a hF
          by_cases hc12 : r3 < 0
          · rw [if_pos hc12] at h
            refine we_known (t := 87) (b := decide (r3 < 0)) (v := true) (by kernel_rfl) (decide_eq_true hc12) ?_
            refine we_true (by kernel_rfl) ?_
            refine we_seq fun K25 hK25 => ?_
            refine we_region [(0, 0)] rfl ?_
            refine ge_batch [0] (ans := []) (vs := [(14, .bool true)]) (l := []) (by kernel_rfl) trivial ?_
            refine ge_nil fun a hF => hK25 _ _ ?_ a hF
            have hS27 := hS26.takeN 0
            obtain rfl := Option.some.inj h
            exact we_ret (post_ret (rs := [.tmp 14]) (ans := []) (vs := [.bool true]) (l := []) rfl (by kernel_rfl) trivial ⟨rfl, hS27⟩)
          · rw [if_neg hc12] at h
            refine we_known (t := 87) (b := decide (r3 < 0)) (v := false) (by kernel_rfl) (decide_eq_false hc12) ?_
            refine we_false (by kernel_rfl) ?_
            refine we_skip fun a hF => hK23 _ _ ?_ a hF
            refine we_seq fun K26 hK26 => ?_
            refine we_region [(0, 0), (1, 0), (2, 0), (3, 0), (4, 1), (5, 0), (6, 0), (7, 0), (8, 1), (9, 2), (10, 2)] rfl ?_
            rcases hq8 : redo_Play.f K r2.1 x2 l6 r3 with _ | r4
            · rw [hq8] at h; cases h
            rw [hq8] at h
            simp only [] at h
            refine ge_batch [0, 1, 2, 3] (ans := []) (vs := [(92, .int .i64 r3), (91, .slice A6 l6.length c6), (90, .int .i64 x2), (89, (.slice Z1 r2.1.length cz1))]) (l := []) (by kernel_rfl) trivial ?_
            refine ge_call (d := some 93) (f := 29) (args := #[(.slice Z1 r2.1.length cz1), .int .i64 x2, .slice A6 l6.length c6, .int .i64 r3]) (by kernel_rfl) (redo_Play_ok K r2.1 Z1 cz1 x2 l6 A6 c6 r3 _ (hS26.rdAt 1 rfl) (hS26.capAt 1 rfl) (hS26.rd hR6) hL6 _ hq8) ?_
            rintro _ w10 ⟨v2, v3, rfl, hS28⟩
            refine ⟨_, rfl, hS28.below, ?_⟩
            have hS29 := hS26.call hS28
            refine ge_batch [5, 6, 7] (ans := []) (vs := [(95, .agg #[.int .i64 r4.2.Code, .int .i64 r4.2.At]), (94, .agg #[v2, v3]), (88, .tuple #[.agg #[v2, v3], .agg #[.int .i64 r4.2.Code, .int .i64 r4.2.At]])]) (l := []) (by kernel_rfl) trivial ?_
            refine ge_new (d := some 20) (o := .cells #[.slice none 0 0, .slice none 0 0] 37) (v := fun b => .pointer (some ⟨b, 0, none⟩)) hS29 (fun b => by kernel_rfl) fun b2 w11 hx4 hS30 => ?_
            obtain ⟨Z2, cz2, rfl⟩ := hS30.open 1 rfl
            obtain ⟨Z3, cz3, rfl⟩ := hS30.open 2 rfl
            refine ge_set (b := b2) (j := 0) (cs := #[.slice none 0 0, .slice none 0 0]) (t := 37) (vs := [(.slice Z2 r4.1.Runs.length cz2), (.slice Z3 r4.1.Ends.length cz3)]) hS30 (by kernel_rfl) rfl rfl fun w12 hS31 => ?_
            have hS32 : St w0 w12 [Own.blk b2 (.cells #[(.slice Z2 r4.1.Runs.length cz2), (.slice Z3 r4.1.Ends.length cz3)] 37 (0, 0)), Own.of (.slice Z2 r4.1.Runs.length cz2) 3 r4.1.Runs, Own.of (.slice Z3 r4.1.Ends.length cz3) 3 r4.1.Ends, Own.blk b1 (.cells #[.int .i64 r2.2.Code, .int .i64 r2.2.At] 29 (0, 0)), Own.of (.slice Z1 r2.1.length cz1) 88 r2.1] := hS31
            have hS33 := hS32.bring 3 rfl
            refine ge_set (b := b1) (j := 0) (cs := #[.int .i64 r2.2.Code, .int .i64 r2.2.At]) (t := 29) (vs := [.int .i64 r4.2.Code, .int .i64 r4.2.At]) hS33 (by kernel_rfl) rfl rfl fun w13 hS34 => ?_
            have hS35 : St w0 w13 [Own.blk b1 (.cells #[.int .i64 r4.2.Code, .int .i64 r4.2.At] 29 (0, 0)), Own.blk b2 (.cells #[(.slice Z2 r4.1.Runs.length cz2), (.slice Z3 r4.1.Ends.length cz3)] 37 (0, 0)), Own.of (.slice Z2 r4.1.Runs.length cz2) 3 r4.1.Runs, Own.of (.slice Z3 r4.1.Ends.length cz3) 3 r4.1.Ends, Own.of (.slice Z1 r2.1.length cz1) 88 r2.1] := hS34
            refine ge_nil fun a hF => hK26 _ _ ?_ a hF
            refine we_seq fun K27 hK27 => ?_
            refine we_seq fun K28 hK28 => ?_
            refine we_region [(0, 0), (1, 0), (2, 0)] rfl ?_
            refine ge_batch [0, 1, 2] (ans := [.val (.int .i64 r4.2.Code)]) (vs := [(98, .bool (r4.2.Code != 0)), (97, .int .i64 r4.2.Code), (96, .pointer (some ⟨b1, 0, none⟩))]) (l := [.loaded ⟨b1, 0, none⟩ (.int .i64 r4.2.Code)]) (by kernel_rfl) ⟨hS35.cell 0 rfl rfl, trivial⟩ ?_
            refine ge_nil fun a hF => hK28 _ _ ?_ a hF
            by_cases hc13 : r4.2.Code = 0
            · rw [if_pos hc13] at h
              refine we_known (t := 98) (b := (r4.2.Code != 0)) (v := false) (by kernel_rfl) (bne_eq_false_iff_eq.2 hc13) ?_
              refine we_false (by kernel_rfl) ?_
              refine we_skip fun a hF => hK27 _ _ ?_ a hF
              refine we_seq fun K29 hK29 => ?_
              refine we_seq fun K30 hK30 => ?_
              refine we_region [(0, 0), (1, 0), (2, 0), (3, 0), (4, 0), (5, 0)] rfl ?_
              refine ge_batch [0, 1, 2, 3, 4, 5] (ans := [.val ((.slice Z3 r4.1.Ends.length cz3))]) (vs := [(114, .bool ((r4.1.Ends.length : Int) != (l3.length : Int))), (113, .int .i64 (l3.length : Int)), (112, .slice A3 l3.length c3), (111, .int .i64 (r4.1.Ends.length : Int)), (110, (.slice Z3 r4.1.Ends.length cz3)), (109, .pointer (some ⟨b2, 1, none⟩))]) (l := [.loaded ⟨b2, 1, none⟩ ((.slice Z3 r4.1.Ends.length cz3))]) (by kernel_rfl) ⟨hS35.cell 1 rfl rfl, trivial⟩ ?_
              refine ge_nil fun a hF => hK30 _ _ ?_ a hF
              by_cases hc14 : (r4.1.Ends.length : Int) = (l3.length : Int)
              · rw [if_pos hc14] at h
                refine we_known (t := 114) (b := ((r4.1.Ends.length : Int) != (l3.length : Int))) (v := false) (by kernel_rfl) (bne_eq_false_iff_eq.2 hc14) ?_
                refine we_false (by kernel_rfl) ?_
                refine we_skip fun a hF => hK29 _ _ ?_ a hF
                refine we_seq fun K31 hK31 => ?_
                refine we_seq fun K32 hK32 => ?_
                refine we_region [(0, 0), (1, 0), (2, 0)] rfl ?_
                refine ge_batch [0, 1, 2] (ans := []) (vs := [(117, .int .i64 0), (116, .int .i64 (l0.length : Int)), (115, .slice A0 l0.length c0)]) (l := []) (by kernel_rfl) trivial ?_
                refine ge_nil fun a hF => hK32 _ _ ?_ a hF
                refine we_block ?_
                have hS36 := hS35.bring 3 rfl
                have hS37 := hS36.bring 3 rfl
                have hS38 := hS37.bring 3 rfl
                have hS39 := hS38.takeN 3
                rcases hq11 : iter (RedoKeeps.r2 K l0 x1 x2 l3 r3 r4) K 0 with _ | (_ | rr2)
                · rw [hq11] at h; cases h
                · rw [hq11] at h
                  simp only [] at h
                  refine we_iter (A := RedoKeeps.A2 K w0 l0 A0 c0 x1 x2 l3 A3 c3 l4 A4 c4 l5 A5 c5 l6 A6 c6 hR0 hL0 hR3 hL3 hR4 hL4 hR5 hL5 hR6 hL6 r1 hc1 r2 b1 hc5 Z1 cz1 r3 hc12 r4 b2 Z2 cz2 Z3 cz3 hc13 hc14) (B := RedoKeeps.B2 K w0 l0 A0 c0 x1 x2 l3 A3 c3 l4 A4 c4 l5 A5 c5 l6 A6 c6 hR0 hL0 hR3 hL3 hR4 hL4 hR5 hL5 hR6 hL6 r1 hc1 r2 b1 hc5 Z1 cz1 r3 hc12 r4 b2 Z2 cz2 Z3 cz3 hc13 hc14) hq11 (fun a hF => ⟨hS39, hF.weaken ⟨by kernel_rfl, by kernel_rfl, by kernel_rfl, by kernel_rfl, by kernel_rfl, by kernel_rfl, by kernel_rfl, trivial⟩⟩) (fun s o hf a w hA Q hQ => RedoKeeps_r2 K w0 l0 A0 c0 x1 x2 l3 A3 c3 l4 A4 c4 l5 A5 c5 l6 A6 c6 hR0 hL0 hR3 hL3 hR4 hL4 hR5 hL5 hR6 hL6 r1 hc1 r2 b1 hc5 Z1 cz1 r3 hc12 r4 b2 Z2 cz2 Z3 cz3 hc13 hc14 s o hf a w hA Q hQ) ?_
                  rintro _ a w20 _ ⟨rfl, hS75, hF⟩
                  replace hS75 : St w0 w20 [] := hS75
                  refine hK31 [] w20 ?_ a hF
                  refine we_seq fun K48 hK48 => ?_
                  refine we_region [(0, 0)] rfl ?_
                  refine ge_batch [0] (ans := []) (vs := [(14, .bool true)]) (l := []) (by kernel_rfl) trivial ?_
                  refine ge_nil fun a hF => hK48 _ _ ?_ a hF
                  obtain rfl := Option.some.inj h
                  exact we_ret (post_ret (rs := [.tmp 14]) (ans := []) (vs := [.bool true]) (l := []) rfl (by kernel_rfl) trivial ⟨rfl, hS75⟩)
                · rw [hq11] at h
                  simp only [] at h
                  refine we_iter (A := RedoKeeps.A2 K w0 l0 A0 c0 x1 x2 l3 A3 c3 l4 A4 c4 l5 A5 c5 l6 A6 c6 hR0 hL0 hR3 hL3 hR4 hL4 hR5 hL5 hR6 hL6 r1 hc1 r2 b1 hc5 Z1 cz1 r3 hc12 r4 b2 Z2 cz2 Z3 cz3 hc13 hc14) (B := RedoKeeps.B2 K w0 l0 A0 c0 x1 x2 l3 A3 c3 l4 A4 c4 l5 A5 c5 l6 A6 c6 hR0 hL0 hR3 hL3 hR4 hL4 hR5 hL5 hR6 hL6 r1 hc1 r2 b1 hc5 Z1 cz1 r3 hc12 r4 b2 Z2 cz2 Z3 cz3 hc13 hc14) hq11 (fun a hF => ⟨hS39, hF.weaken ⟨by kernel_rfl, by kernel_rfl, by kernel_rfl, by kernel_rfl, by kernel_rfl, by kernel_rfl, by kernel_rfl, trivial⟩⟩) (fun s o hf a w hA Q hQ => RedoKeeps_r2 K w0 l0 A0 c0 x1 x2 l3 A3 c3 l4 A4 c4 l5 A5 c5 l6 A6 c6 hR0 hL0 hR3 hL3 hR4 hL4 hR5 hL5 hR6 hL6 r1 hc1 r2 b1 hc5 Z1 cz1 r3 hc12 r4 b2 Z2 cz2 Z3 cz3 hc13 hc14 s o hf a w hA Q hQ) ?_
                  rintro _ a w1 _ ⟨rfl, hb⟩
                  obtain rfl := Option.some.inj h
                  exact hb
              · rw [if_neg hc14] at h
                refine we_known (t := 114) (b := ((r4.1.Ends.length : Int) != (l3.length : Int))) (v := true) (by kernel_rfl) (bne_iff_ne.2 hc14) ?_
                refine we_true (by kernel_rfl) ?_
                refine we_seq fun K49 hK49 => ?_
                refine we_region [(0, 0)] rfl ?_
                refine ge_batch [0] (ans := []) (vs := [(14, .bool false)]) (l := []) (by kernel_rfl) trivial ?_
                refine ge_nil fun a hF => hK49 _ _ ?_ a hF
                have hS76 := hS35.takeN 0
                obtain rfl := Option.some.inj h
                exact we_ret (post_ret (rs := [.tmp 14]) (ans := []) (vs := [.bool false]) (l := []) rfl (by kernel_rfl) trivial ⟨rfl, hS76⟩)
            · rw [if_neg hc13] at h
              refine we_known (t := 98) (b := (r4.2.Code != 0)) (v := true) (by kernel_rfl) (bne_iff_ne.2 hc13) ?_
              refine we_true (by kernel_rfl) ?_
              refine we_seq fun K50 hK50 => ?_
              rcases hq12 : RedoKeeps.p4 x1 x2 with _ | (q2 | rr3)
              · rw [hq12] at h; cases h
              · rw [hq12] at h
                simp only [] at h
                refine we_keep (e' := [(0, .slice A0 l0.length c0), (1, .int .i64 x1), (2, .int .i64 x2), (3, .slice A3 l3.length c3), (6, .slice A6 l6.length c6), (15, (.slice Z1 r2.1.length cz1)), (16, .pointer (some ⟨b1, 0, none⟩)), (19, .int .i64 r3), (20, .pointer (some ⟨b2, 0, none⟩)), (83, .slice A0 l0.length c0), (84, .slice A3 l3.length c3), (85, .int .i64 r3), (86, .int .i64 r3), (87, .bool false), (88, .tuple #[.agg #[(.slice Z2 r4.1.Runs.length cz2), (.slice Z3 r4.1.Ends.length cz3)], .agg #[.int .i64 r4.2.Code, .int .i64 r4.2.At]]), (89, (.slice Z1 r2.1.length cz1)), (90, .int .i64 x2), (91, .slice A6 l6.length c6), (92, .int .i64 r3), (93, .tuple #[.agg #[(.slice Z2 r4.1.Runs.length cz2), (.slice Z3 r4.1.Ends.length cz3)], .agg #[.int .i64 r4.2.Code, .int .i64 r4.2.At]]), (94, .agg #[(.slice Z2 r4.1.Runs.length cz2), (.slice Z3 r4.1.Ends.length cz3)]), (95, .agg #[.int .i64 r4.2.Code, .int .i64 r4.2.At]), (96, .pointer (some ⟨b1, 0, none⟩)), (97, .int .i64 r4.2.Code), (98, .bool true)]) ⟨by kernel_rfl, by kernel_rfl, by kernel_rfl, by kernel_rfl, by kernel_rfl, by kernel_rfl, by kernel_rfl, by kernel_rfl, by kernel_rfl, by kernel_rfl, by kernel_rfl, by kernel_rfl, by kernel_rfl, by kernel_rfl, by kernel_rfl, by kernel_rfl, by kernel_rfl, by kernel_rfl, by kernel_rfl, by kernel_rfl, by kernel_rfl, by kernel_rfl, by kernel_rfl, by kernel_rfl, by kernel_rfl, trivial⟩ (RedoKeeps_p4 K w0 l0 A0 c0 x1 x2 l3 A3 c3 l4 A4 c4 l5 A5 c5 l6 A6 c6 hR0 hL0 hR3 hL3 hR4 hL4 hR5 hL5 hR6 hL6 r1 hc1 r2 b1 hc5 Z1 cz1 r3 hc12 r4 b2 Z2 cz2 Z3 cz3 hc13 _ hq12 _ hS35 _ ?_)
                rintro _ a w21 ⟨rfl, hS80, hF⟩
                replace hS80 : St w0 w21 [] := hS80
                refine hK50 [(14, .bool q2)] w21 ?_ a hF
                obtain rfl := Option.some.inj h
                exact we_ret (post_ret (rs := [.tmp 14]) (ans := []) (vs := [.bool q2]) (l := []) rfl (by kernel_rfl) trivial ⟨rfl, hS80⟩)
              · rw [hq12] at h
                simp only [] at h
                refine we_keep (e' := [(0, .slice A0 l0.length c0), (1, .int .i64 x1), (2, .int .i64 x2), (3, .slice A3 l3.length c3), (6, .slice A6 l6.length c6), (15, (.slice Z1 r2.1.length cz1)), (16, .pointer (some ⟨b1, 0, none⟩)), (19, .int .i64 r3), (20, .pointer (some ⟨b2, 0, none⟩)), (83, .slice A0 l0.length c0), (84, .slice A3 l3.length c3), (85, .int .i64 r3), (86, .int .i64 r3), (87, .bool false), (88, .tuple #[.agg #[(.slice Z2 r4.1.Runs.length cz2), (.slice Z3 r4.1.Ends.length cz3)], .agg #[.int .i64 r4.2.Code, .int .i64 r4.2.At]]), (89, (.slice Z1 r2.1.length cz1)), (90, .int .i64 x2), (91, .slice A6 l6.length c6), (92, .int .i64 r3), (93, .tuple #[.agg #[(.slice Z2 r4.1.Runs.length cz2), (.slice Z3 r4.1.Ends.length cz3)], .agg #[.int .i64 r4.2.Code, .int .i64 r4.2.At]]), (94, .agg #[(.slice Z2 r4.1.Runs.length cz2), (.slice Z3 r4.1.Ends.length cz3)]), (95, .agg #[.int .i64 r4.2.Code, .int .i64 r4.2.At]), (96, .pointer (some ⟨b1, 0, none⟩)), (97, .int .i64 r4.2.Code), (98, .bool true)]) ⟨by kernel_rfl, by kernel_rfl, by kernel_rfl, by kernel_rfl, by kernel_rfl, by kernel_rfl, by kernel_rfl, by kernel_rfl, by kernel_rfl, by kernel_rfl, by kernel_rfl, by kernel_rfl, by kernel_rfl, by kernel_rfl, by kernel_rfl, by kernel_rfl, by kernel_rfl, by kernel_rfl, by kernel_rfl, by kernel_rfl, by kernel_rfl, by kernel_rfl, by kernel_rfl, by kernel_rfl, by kernel_rfl, trivial⟩ (RedoKeeps_p4 K w0 l0 A0 c0 x1 x2 l3 A3 c3 l4 A4 c4 l5 A5 c5 l6 A6 c6 hR0 hL0 hR3 hL3 hR4 hL4 hR5 hL5 hR6 hL6 r1 hc1 r2 b1 hc5 Z1 cz1 r3 hc12 r4 b2 Z2 cz2 Z3 cz3 hc13 _ hq12 _ hS35 _ ?_)
                rintro _ a w1 ⟨_, rfl, hb⟩
                obtain rfl := Option.some.inj h
                exact hb
        · rw [hq6] at h
          simp only [] at h
          refine we_iter (A := RedoKeeps.A1 K w0 l0 A0 c0 x1 x2 l3 A3 c3 l4 A4 c4 l5 A5 c5 l6 A6 c6 hR0 hL0 hR3 hL3 hR4 hL4 hR5 hL5 hR6 hL6 r1 hc1 r2 b1 hc5 Z1 cz1) (B := RedoKeeps.B1 K w0 l0 A0 c0 x1 x2 l3 A3 c3 l4 A4 c4 l5 A5 c5 l6 A6 c6 hR0 hL0 hR3 hL3 hR4 hL4 hR5 hL5 hR6 hL6 r1 hc1 r2 b1 hc5 Z1 cz1) hq6 (fun a hF => ⟨hS14, hF.weaken ⟨by kernel_rfl, by kernel_rfl, by kernel_rfl, by kernel_rfl, by kernel_rfl, by kernel_rfl, by kernel_rfl, by kernel_rfl, by kernel_rfl, by kernel_rfl, trivial⟩⟩) (fun s o hf a w hA Q hQ => RedoKeeps_r1 K w0 l0 A0 c0 x1 x2 l3 A3 c3 l4 A4 c4 l5 A5 c5 l6 A6 c6 hR0 hL0 hR3 hL3 hR4 hL4 hR5 hL5 hR6 hL6 r1 hc1 r2 b1 hc5 Z1 cz1 s o hf a w hA Q hQ) ?_
          rintro _ a w1 _ ⟨rfl, hb⟩
          obtain rfl := Option.some.inj h
          exact hb
      · rw [if_neg hc5] at h
        refine we_known (t := 53) (b := (r2.2.Code != 0)) (v := true) (by kernel_rfl) (bne_iff_ne.2 hc5) ?_
        refine we_true (by kernel_rfl) ?_
        refine we_seq fun K51 hK51 => ?_
        refine we_region [(0, 0)] rfl ?_
        refine ge_batch [0] (ans := []) (vs := [(14, .bool true)]) (l := []) (by kernel_rfl) trivial ?_
        refine ge_nil fun a hF => hK51 _ _ ?_ a hF
        have hS81 := hS12.takeN 0
        obtain rfl := Option.some.inj h
        exact we_ret (post_ret (rs := [.tmp 14]) (ans := []) (vs := [.bool true]) (l := []) rfl (by kernel_rfl) trivial ⟨rfl, hS81⟩)
    · rw [hq4] at h
      simp only [] at h
      refine we_keep (e' := [(0, .slice A0 l0.length c0), (1, .int .i64 x1), (2, .int .i64 x2), (3, .slice A3 l3.length c3), (4, .slice A4 l4.length c4), (5, .slice A5 l5.length c5), (6, .slice A6 l6.length c6), (14, .bool false), (26, .bool r1), (27, .bool false)]) ⟨by kernel_rfl, by kernel_rfl, by kernel_rfl, by kernel_rfl, by kernel_rfl, by kernel_rfl, by kernel_rfl, by kernel_rfl, by kernel_rfl, by kernel_rfl, trivial⟩ (RedoKeeps_p0 K w0 l0 A0 c0 x1 x2 l3 A3 c3 l4 A4 c4 l5 A5 c5 l6 A6 c6 hR0 hL0 hR3 hL3 hR4 hL4 hR5 hL5 hR6 hL6 r1 hc1 _ hq4 _ hS2 _ ?_)
      rintro _ a w1 ⟨_, rfl, hb⟩
      obtain rfl := Option.some.inj h
      exact hb
  · rw [if_neg hc1] at h
    refine we_known (t := 27) (b := !r1) (v := true) (by kernel_rfl) (congrArg (fun z => !z) (Bool.eq_false_iff.2 hc1)) ?_
    refine we_true (by kernel_rfl) ?_
    refine we_seq fun K52 hK52 => ?_
    refine we_region [(0, 0)] rfl ?_
    refine ge_batch [0] (ans := []) (vs := [(14, .bool false)]) (l := []) (by kernel_rfl) trivial ?_
    refine ge_nil fun a hF => hK52 _ _ ?_ a hF
    obtain rfl := Option.some.inj h
    exact we_ret (post_ret (rs := [.tmp 14]) (ans := []) (vs := [.bool false]) (l := []) rfl (by kernel_rfl) trivial ⟨rfl, hS2⟩)
end Go.Proofs.Ytccfilmiboepjaa.GV
